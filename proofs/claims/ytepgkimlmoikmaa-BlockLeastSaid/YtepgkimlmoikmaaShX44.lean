/- ShX: a part of its proof (contracts of the functions that it reaches, and the plain mathematics behind them). -/
import Derived.Test.YtepgkimlmoikmaaRows
import Derived.Test.YtepgkimlmoikmaaShX42
import Derived.WalkKit
import Derived.ProofKit
import Derived.OpenShut
import Derived.ShutString
import Derived.ChangeOld
import Derived.Below
import Derived.SizedLaws
import Derived.Test.YtepgkimlmoikmaaShX39
import Derived.Test.YtepgkimlmoikmaaShX40
import Derived.Test.YtepgkimlmoikmaaShX43
set_option linter.unusedVariables false
set_option linter.unusedSimpArgs false
namespace Go.Proofs.Ytepgkimlmoikmaa.blockLeast
open Go.ChangeShapes Go.WideShapes Go.ChangeAt Go.RowKit
open Go.ChangeMaps (open_string shut_string)
set_option linter.unusedVariables false
theorem own : ownKnob Try.prog.godebug = none := by kernel_rfl
theorem laidOut : laidOutB Try.prog = true := Jf.g2
set_option maxRecDepth 100000 in
theorem lifted (os : Os) (started : os.Started) (H : Type) (enc : TypeId × Value → H) :
  ReturnsInHanded {} Try.checked os 4 .any (Rows.blockLeastSpec.pre6 enc Try.prog Try.f4 Rows.blockLeastRow.domain false) (Rows.blockLeastSpec.post enc Try.prog Try.f4 false true false false) := by
 refine returnsInHanded_of_change_sized (C := Try.checked) own started (by kernel_rfl) Try.func4
  (ChangeSpec.witness6 (enc := enc) (C := Try.checked) false ⟨#[], #[.slice none 0 0, .agg #[.int .i64 0, .int .i64 0, .int .i64 0, .int .i64 0], .string ByteArray.empty], []⟩ 8 (by kernel_rfl) (by kernel_rfl) (by kernel_rfl) (by kernel_rfl)) ?_
 intro W base args ds gs before hval0 hW hcnd hsz0 _
 have hsz : (DataW.weightsEach Try.prog (Try.f4.params.toList ++ Rows.blockLeastSpec.plain.varTypes Try.prog) (ds ++ gs)).all (· ≤ reachBytes) = true := hsz0
 have hval : ∀ (j : Nat) t v, Try.f4.params[j]? = some t → args[j]? = some v → Value.okWide Try.prog W .any base t v := hval0
 have hW' := hW
 obtain ⟨p, q, hA0, hV, rfl, hfz, hnd⟩ := hW
 have hA : DataW.TrodAll enc Try.prog W 0 (fun _ => true) true Try.f4.params.toList args.toList ds p := hA0
 rw [Try.params4] at hA hval hsz
 obtain ⟨v0, vs0, d0, ds0, p0, q0, hargs, rfl, rfl, h0, r0⟩ := trodAll_cons hA
 obtain ⟨v1, vs1, d1, ds1, p1, q1, rfl, rfl, rfl, h1, r1⟩ := trodAll_cons r0
 obtain ⟨v2, vs2, d2, ds2, p2, q2, rfl, rfl, rfl, h2, r2⟩ := trodAll_cons r1
 obtain ⟨rfl, rfl, rfl⟩ := trodAll_nil r2
 obtain rfl : args = #[v0, v1, v2] := by cases args; simp_all
 obtain ⟨rfl, rfl⟩ := trodVars_none hV
 obtain ⟨a0, len0, cap0, rfl⟩ := okWide_slice Try.underlying33 (hval 0 33 v0 rfl rfl)
 have k0 := h0
 have lt0 : ∀ x ∈ p0, x.block < W.heap.size := by obtain ⟨m, hm⟩ := k0; exact DataW.trod_lt m _ _ _ hm
 obtain ⟨l0, hl0, hc0, hr0, h160, hs0⟩ := strs_in hsz (j := 0) (t := 33) rfl rfl Try.underlying33 Try.underlying9 (by kernel_rfl) (by kernel_rfl) h0
 obtain ⟨a1, b1, c1, e1, rfl, rfl, rfl, w1⟩ := open_cfg (P := Try.prog) ⟨_, _, _, _, Try.underlying23, by kernel_rfl, ⟨rfl, by kernel_rfl, by kernel_rfl⟩, ⟨rfl, by kernel_rfl, by kernel_rfl⟩, ⟨rfl, by kernel_rfl, by kernel_rfl⟩, ⟨rfl, by kernel_rfl, by kernel_rfl⟩⟩ (hval 1 23 v1 rfl rfl) h1
 obtain ⟨a2, rfl, rfl, rfl, y2⟩ := open_string Try.underlying9 (hval 2 9 v2 rfl rfl) h2
 have w2 : a2.size ≤ 140737488351232 := by
  have z := sized_string hsz (j := 2) (t := 9) rfl rfl
  rw [Array.length_toList] at z
  exact z
 subst hl0
 clear hA0 hval0 hsz0 hsz
 refine (blockLeast_law a0 cap0 l0 a1 b1 c1 e1 a2 W hr0 hc0 h160 hs0 w2).mono fun e W' ⟨he, bel⟩ => ?_
 subst he
 exact ⟨_, rfl, _, _, _, [], _, [], hW', trodAll_mk1 (shut_bool Try.underlying4 _), (trodAll_cons_mk (Below.trod laidOut (by kernel_rfl) (of_decide_eq_true (by kernel_rfl)) k0 bel lt0) (trodAll_cons_mk (shut_cfg ⟨_, _, _, _, Try.underlying23, by kernel_rfl, ⟨rfl, by kernel_rfl, by kernel_rfl⟩, ⟨rfl, by kernel_rfl, by kernel_rfl⟩, ⟨rfl, by kernel_rfl, by kernel_rfl⟩, ⟨rfl, by kernel_rfl, by kernel_rfl⟩⟩ w1) (trodAll_cons_mk (shut_string Try.underlying9 y2) trodAll_mk0))), rfl, bel.frame _, fun h => by cases h⟩
theorem j1 : (Rows.blockLeastRow.wf (OpenSpec.ofChange Rows.blockLeastSpec)) = true := by kernel_rfl
theorem j2 : (laidOutB Try.prog) = true := Jf.g2
theorem j3 : (mapsRowed Try.prog) = true := Jf.g3
theorem j4 : (Try.f4.params.all (Try.prog.readableRec ·)) = true := by kernel_rfl
theorem j5 : (namedTie Try.prog Rows.blockLeastRow.named Rows.blockLeastSpec.vars) = true := by kernel_rfl
theorem j6 : ((Rows.blockLeastRow.stops == [])) = true := by kernel_rfl
theorem j7 : ((Try.prog.stops == [])) = true := Jf.g7
theorem j8 : ((Rows.blockLeastRow.knobs == [])) = true := by kernel_rfl
theorem j9 : ((Try.prog.stopKnobs == [])) = true := Jf.g9
theorem j10 : ((Rows.blockLeastRow.inPlace == Try.prog.inPlace 4)) = true := by kernel_rfl
theorem j11 : ((Rows.blockLeastRow.unfollowed == Try.prog.unfollowed 4)) = true := by kernel_rfl
theorem j12 : ((Rows.blockLeastRow.recurses == Try.prog.recurses 4)) = true := by kernel_rfl
theorem j13 : ((Rows.blockLeastRow.named == Try.prog.varsNamed 4)) = true := by kernel_rfl
theorem j14 : ((Rows.blockLeastRow.maps == (Try.f4.params.toList ++ Rows.blockLeastSpec.plain.varTypes Try.prog).any (Try.prog.mapsRec ·))) = true := by kernel_rfl
theorem j15 : ((Rows.blockLeastRow.ifaces == (Try.f4.params.toList ++ Rows.blockLeastSpec.plain.varTypes Try.prog).any (Try.prog.ifacesRec ·))) = true := by kernel_rfl
theorem j16 : ((Rows.blockLeastRow.mapsOut == Try.prog.mapsAmong Try.f4.resultTypes.toList)) = true := by kernel_rfl
theorem j17 : ((Rows.blockLeastRow.loops == (Try.f4.params.toList ++ Rows.blockLeastSpec.plain.varTypes Try.prog).any (Try.prog.loopsFrom ·))) = true := by kernel_rfl
theorem j18 : ((Rows.blockLeastRow.wideKeys == (Try.f4.params.toList ++ Rows.blockLeastSpec.plain.varTypes Try.prog ++ Try.f4.resultTypes.toList).any (Try.prog.wideKeysFrom ·))) = true := by kernel_rfl
theorem j19 : (Rows.blockLeastSpec.vars.all (Try.prog.varReadable ·)) = true := by kernel_rfl
theorem j20 : (Try.f4.resultTypes.all (fun t => Try.prog.readableRec t && decide (t < Try.prog.types.size))) = true := by kernel_rfl
theorem j21 : ((Rows.blockLeastRow.ifacesOut == Try.f4.resultTypes.toList.any (Try.prog.ifacesRec ·))) = true := by kernel_rfl
theorem j22 : ((Rows.blockLeastRow.loopsOut == Try.f4.resultTypes.toList.any (Try.prog.loopsFrom ·))) = true := by kernel_rfl
theorem j23 : ((Rows.blockLeastRow.plainKeys == Try.prog.plainKeys)) = true := Jf.g23
theorem j24 : (Rows.blockLeastRow.shortTexts.isNone) = true := by kernel_rfl
theorem j25 : (Try.prog.stopsHeard) = true := Jf.g25
theorem j26 : (Try.prog.mayEnter) = true := Jf.g26
theorem j27 : ((Rows.blockLeastRow.lifted == Try.prog.liftsFinal)) = true := Jf.g27
theorem j28 : ((Try.prog.make == some Rows.blockLeastRow.make)) = true := Jf.g28
theorem j29 : ((Rows.blockLeastRow.kinds == (if Rows.blockLeastRow.domain.isEmpty then [] else Try.f4.params.toList.map fun t => match Try.prog.underlying t with | some (.int k) => some k | _ => none))) = true := by kernel_rfl
theorem j30 : ((Rows.blockLeastRow.pinned == Rows.blockLeastRow.pinnedBy)) = true := by kernel_rfl
theorem j31 : ((Rows.blockLeastRow.veiled == (Try.f4.params.toList ++ Rows.blockLeastSpec.plain.varTypes Try.prog ++ Try.f4.resultTypes.toList).any (Try.prog.veiledRec ·))) = true := by kernel_rfl
theorem j32 : (Rows.blockLeastRow.veiledFits Try.prog Try.f4.params.toList (Try.f4.params.toList ++ Rows.blockLeastSpec.plain.varTypes Try.prog ++ Try.f4.resultTypes.toList)) = true := by kernel_rfl
set_option maxRecDepth 100000 in
theorem facts : joinedFacts Try.prog 4 Try.f4 Rows.blockLeastSpec Rows.blockLeastRow = true := Jf.band (Jf.band (Jf.band (Jf.band (Jf.band (Jf.band (Jf.band (Jf.band (Jf.band (Jf.band (Jf.band (Jf.band (Jf.band (Jf.band (Jf.band (Jf.band (Jf.band (Jf.band (Jf.band (Jf.band (Jf.band (Jf.band (Jf.band (Jf.band (Jf.band (Jf.band (Jf.band (Jf.band (Jf.band (Jf.band (Jf.band (j1) j2) j3) j4) j5) j6) j7) j8) j9) j10) j11) j12) j13) j14) j15) j16) j17) j18) j19) j20) j21) j22) j23) j24) j25) j26) j27) j28) j29) j30) j31) j32
theorem over : Rows.blockLeastRow.holds Try.pinned (OpenSpec.ofChange Rows.blockLeastSpec) :=
 OpenClaim.holds_of_wide 4 Try.f4 rfl rfl rfl rfl rfl rfl rfl ⟨rfl, rfl, rfl, rfl, rfl⟩ rfl rfl rfl rfl rfl (by kernel_rfl) Try.func4 facts
  (of_decide_eq_true (by kernel_rfl)) (by unfold Func.isWrapper; first | (rw [if_pos (by decide +kernel)]; kernel_rfl) | (rw [if_neg (by decide +kernel)]; exact ⟨rfl, rfl⟩))
  (fun os started H enc _ => lifted os started H enc)
theorem proved : Rows.BlockLeastSaid := over
end Go.Proofs.Ytepgkimlmoikmaa.blockLeast
namespace Go.Proofs.Ytepgkimlmoikmaa
theorem blockLeast_holds : Rows.BlockLeastSaid := blockLeast.proved
end Go.Proofs.Ytepgkimlmoikmaa
