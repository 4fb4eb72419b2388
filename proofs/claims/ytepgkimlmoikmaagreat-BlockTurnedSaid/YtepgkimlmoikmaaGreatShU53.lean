/- ShU: a part of its proof (contracts of the functions that it reaches, and the plain mathematics behind them). -/
import Derived.Test.YtepgkimlmoikmaaGreatRows
import Derived.Test.YtepgkimlmoikmaaGreatShU51
import Derived.WalkKit
import Derived.ProofKit
import Derived.OpenShut
import Derived.ShutString
import Derived.ChangeOld
import Derived.Below
import Derived.SizedLaws
import Derived.Test.YtepgkimlmoikmaaGreatShU40
import Derived.Test.YtepgkimlmoikmaaGreatShU41
import Derived.Test.YtepgkimlmoikmaaGreatShU52
set_option linter.unusedVariables false
set_option linter.unusedSimpArgs false
set_option maxHeartbeats 2000000
set_option maxRecDepth 100000
namespace Go.Proofs.YtepgkimlmoikmaaGreat.blockTurned
open Go.ChangeShapes Go.WideShapes Go.ChangeAt Go.RowKit
open Go.ChangeMaps (open_string shut_string)
set_option linter.unusedVariables false
theorem own : ownKnob Tryz.prog.godebug = none := by kernel_rfl
theorem laidOut : laidOutB Tryz.prog = true := Jf.g2
theorem lifted (os : Os) (started : os.Started) (H : Type) (enc : TypeId × Value → H) :
  ReturnsInHanded {} Tryz.checked os 5 .any (Rows.blockTurnedSpec.pre6 enc Tryz.prog Tryz.f5 Rows.blockTurnedRow.domain false) (Rows.blockTurnedSpec.post enc Tryz.prog Tryz.f5 false true false false) := by
 refine returnsInHanded_of_change_sized (C := Tryz.checked) own started (by kernel_rfl) Tryz.func5
  (ChangeSpec.witness6 (enc := enc) (C := Tryz.checked) false ⟨#[], #[.slice none 0 0, .agg #[.int .i64 0, .int .i64 0, .int .i64 0, .int .i64 0], .string ByteArray.empty, .int .i64 0, .int .u8 0], []⟩ 8 (by kernel_rfl) (by kernel_rfl) (by kernel_rfl) (by kernel_rfl)) ?_
 intro W base args ds gs before hval0 hW hcnd hsz0 _
 have hsz : (DataW.weightsEach Tryz.prog (Tryz.f5.params.toList ++ Rows.blockTurnedSpec.plain.varTypes Tryz.prog) (ds ++ gs)).all (· ≤ reachBytes) = true := hsz0
 have hval : ∀ (j : Nat) t v, Tryz.f5.params[j]? = some t → args[j]? = some v → Value.okWide Tryz.prog W .any base t v := hval0
 have hW' := hW
 obtain ⟨p, q, hA0, hV, rfl, hfz, hnd⟩ := hW
 have hA : DataW.TrodAll enc Tryz.prog W 0 (fun _ => true) true Tryz.f5.params.toList args.toList ds p := hA0
 rw [Tryz.params5] at hA hval hsz
 obtain ⟨v0, vs0, d0, ds0, p0, q0, hargs, rfl, rfl, h0, r0⟩ := trodAll_cons hA
 obtain ⟨v1, vs1, d1, ds1, p1, q1, rfl, rfl, rfl, h1, r1⟩ := trodAll_cons r0
 obtain ⟨v2, vs2, d2, ds2, p2, q2, rfl, rfl, rfl, h2, r2⟩ := trodAll_cons r1
 obtain ⟨v3, vs3, d3, ds3, p3, q3, rfl, rfl, rfl, h3, r3⟩ := trodAll_cons r2
 obtain ⟨v4, vs4, d4, ds4, p4, q4, rfl, rfl, rfl, h4, r4⟩ := trodAll_cons r3
 obtain ⟨rfl, rfl, rfl⟩ := trodAll_nil r4
 obtain rfl : args = #[v0, v1, v2, v3, v4] := by cases args; simp_all
 obtain ⟨rfl, rfl⟩ := trodVars_none hV
 obtain ⟨a0, len0, cap0, rfl⟩ := okWide_slice Tryz.underlying22 (hval 0 22 v0 rfl rfl)
 have k0 := h0
 have lt0 : ∀ x ∈ p0, x.block < W.heap.size := by obtain ⟨m, hm⟩ := k0; exact DataW.trod_lt m _ _ _ hm
 obtain ⟨l0, hl0, hc0, hr0, h160, hs0⟩ := strs_in hsz (j := 0) (t := 22) rfl rfl Tryz.underlying22 Tryz.underlying9 (by kernel_rfl) (by kernel_rfl) h0
 obtain ⟨a1, b1, c1, e1, rfl, rfl, rfl, w1⟩ := open_cfg (P := Tryz.prog) ⟨_, _, _, _, Tryz.underlying24, by kernel_rfl, ⟨rfl, by kernel_rfl, by kernel_rfl⟩, ⟨rfl, by kernel_rfl, by kernel_rfl⟩, ⟨rfl, by kernel_rfl, by kernel_rfl⟩, ⟨rfl, by kernel_rfl, by kernel_rfl⟩⟩ (hval 1 24 v1 rfl rfl) h1
 obtain ⟨a2, rfl, rfl, rfl, y2⟩ := open_string Tryz.underlying9 (hval 2 9 v2 rfl rfl) h2
 have w2 : a2.size ≤ 140737488351232 := by
  have z := sized_string hsz (j := 2) (t := 9) rfl rfl
  rw [Array.length_toList] at z
  exact z
 obtain ⟨a3, rfl, rfl, rfl, w3⟩ := open_int Tryz.underlying3 (hval 3 3 v3 rfl rfl) h3
 obtain ⟨a4, rfl, rfl, rfl, w4⟩ := open_int Tryz.underlying5 (hval 4 5 v4 rfl rfl) h4
 subst hl0
 clear hA0 hval0 hsz0 hsz
 refine (blockTurned_law a0 cap0 l0 a1 b1 c1 e1 a2 a3 a4 W hr0 hc0 h160 hs0 w2 w3 w4).mono fun e W' ⟨he, bel⟩ => ?_
 subst he
 exact ⟨_, rfl, _, _, _, [], _, [], hW', trodAll_mk1 (shut_bool Tryz.underlying4 _), (trodAll_cons_mk (Below.trod laidOut (by kernel_rfl) (of_decide_eq_true (by kernel_rfl)) k0 bel lt0) (trodAll_cons_mk (shut_cfg ⟨_, _, _, _, Tryz.underlying24, by kernel_rfl, ⟨rfl, by kernel_rfl, by kernel_rfl⟩, ⟨rfl, by kernel_rfl, by kernel_rfl⟩, ⟨rfl, by kernel_rfl, by kernel_rfl⟩, ⟨rfl, by kernel_rfl, by kernel_rfl⟩⟩ w1) (trodAll_cons_mk (shut_string Tryz.underlying9 y2) (trodAll_cons_mk (shut_int Tryz.underlying3 w3) (trodAll_cons_mk (shut_int Tryz.underlying5 w4) trodAll_mk0))))), rfl, bel.frame _, fun h => by cases h⟩
theorem j1 : (Rows.blockTurnedRow.wf (OpenSpec.ofChange Rows.blockTurnedSpec)) = true := by kernel_rfl
theorem j2 : (laidOutB Tryz.prog) = true := Jf.g2
theorem j3 : (mapsRowed Tryz.prog) = true := Jf.g3
theorem j4 : (Tryz.f5.params.all (Tryz.prog.readableRec ·)) = true := by kernel_rfl
theorem j5 : (namedTie Tryz.prog Rows.blockTurnedRow.named Rows.blockTurnedSpec.vars) = true := by kernel_rfl
theorem j6 : ((Rows.blockTurnedRow.stops == [])) = true := by kernel_rfl
theorem j7 : ((Tryz.prog.stops == [])) = true := Jf.g7
theorem j8 : ((Rows.blockTurnedRow.knobs == [])) = true := by kernel_rfl
theorem j9 : ((Tryz.prog.stopKnobs == [])) = true := Jf.g9
theorem j10 : ((Rows.blockTurnedRow.inPlace == Tryz.prog.inPlace 5)) = true := by kernel_rfl
theorem j11 : ((Rows.blockTurnedRow.unfollowed == Tryz.prog.unfollowed 5)) = true := by kernel_rfl
theorem j12 : ((Rows.blockTurnedRow.recurses == Tryz.prog.recurses 5)) = true := by kernel_rfl
theorem j13 : ((Rows.blockTurnedRow.named == Tryz.prog.varsNamed 5)) = true := by kernel_rfl
theorem j14 : ((Rows.blockTurnedRow.maps == (Tryz.f5.params.toList ++ Rows.blockTurnedSpec.plain.varTypes Tryz.prog).any (Tryz.prog.mapsRec ·))) = true := by kernel_rfl
theorem j15 : ((Rows.blockTurnedRow.ifaces == (Tryz.f5.params.toList ++ Rows.blockTurnedSpec.plain.varTypes Tryz.prog).any (Tryz.prog.ifacesRec ·))) = true := by kernel_rfl
theorem j16 : ((Rows.blockTurnedRow.mapsOut == Tryz.prog.mapsAmong Tryz.f5.resultTypes.toList)) = true := by kernel_rfl
theorem j17 : ((Rows.blockTurnedRow.loops == (Tryz.f5.params.toList ++ Rows.blockTurnedSpec.plain.varTypes Tryz.prog).any (Tryz.prog.loopsFrom ·))) = true := by kernel_rfl
theorem j18 : ((Rows.blockTurnedRow.wideKeys == (Tryz.f5.params.toList ++ Rows.blockTurnedSpec.plain.varTypes Tryz.prog ++ Tryz.f5.resultTypes.toList).any (Tryz.prog.wideKeysFrom ·))) = true := by kernel_rfl
theorem j19 : (Rows.blockTurnedSpec.vars.all (Tryz.prog.varReadable ·)) = true := by kernel_rfl
theorem j20 : (Tryz.f5.resultTypes.all (fun t => Tryz.prog.readableRec t && decide (t < Tryz.prog.types.size))) = true := by kernel_rfl
theorem j21 : ((Rows.blockTurnedRow.ifacesOut == Tryz.f5.resultTypes.toList.any (Tryz.prog.ifacesRec ·))) = true := by kernel_rfl
theorem j22 : ((Rows.blockTurnedRow.loopsOut == Tryz.f5.resultTypes.toList.any (Tryz.prog.loopsFrom ·))) = true := by kernel_rfl
theorem j23 : ((Rows.blockTurnedRow.plainKeys == Tryz.prog.plainKeys)) = true := Jf.g23
theorem j24 : (Rows.blockTurnedRow.shortTexts.isNone) = true := by kernel_rfl
theorem j25 : (Tryz.prog.stopsHeard) = true := Jf.g25
theorem j26 : (Tryz.prog.mayEnter) = true := Jf.g26
theorem j27 : ((Rows.blockTurnedRow.lifted == Tryz.prog.liftsFinal)) = true := Jf.g27
theorem j28 : ((Tryz.prog.make == some Rows.blockTurnedRow.make)) = true := Jf.g28
theorem j29 : ((Rows.blockTurnedRow.kinds == (if Rows.blockTurnedRow.domain.isEmpty then [] else Tryz.f5.params.toList.map fun t => match Tryz.prog.underlying t with | some (.int k) => some k | _ => none))) = true := by kernel_rfl
theorem j30 : ((Rows.blockTurnedRow.pinned == Rows.blockTurnedRow.pinnedBy)) = true := by kernel_rfl
theorem j31 : ((Rows.blockTurnedRow.veiled == (Tryz.f5.params.toList ++ Rows.blockTurnedSpec.plain.varTypes Tryz.prog ++ Tryz.f5.resultTypes.toList).any (Tryz.prog.veiledRec ·))) = true := by kernel_rfl
theorem j32 : (Rows.blockTurnedRow.veiledFits Tryz.prog Tryz.f5.params.toList (Tryz.f5.params.toList ++ Rows.blockTurnedSpec.plain.varTypes Tryz.prog ++ Tryz.f5.resultTypes.toList)) = true := by kernel_rfl
theorem facts : joinedFacts Tryz.prog 5 Tryz.f5 Rows.blockTurnedSpec Rows.blockTurnedRow = true := Jf.band (Jf.band (Jf.band (Jf.band (Jf.band (Jf.band (Jf.band (Jf.band (Jf.band (Jf.band (Jf.band (Jf.band (Jf.band (Jf.band (Jf.band (Jf.band (Jf.band (Jf.band (Jf.band (Jf.band (Jf.band (Jf.band (Jf.band (Jf.band (Jf.band (Jf.band (Jf.band (Jf.band (Jf.band (Jf.band (Jf.band (j1) j2) j3) j4) j5) j6) j7) j8) j9) j10) j11) j12) j13) j14) j15) j16) j17) j18) j19) j20) j21) j22) j23) j24) j25) j26) j27) j28) j29) j30) j31) j32
theorem over : Rows.blockTurnedRow.holds Tryz.pinned (OpenSpec.ofChange Rows.blockTurnedSpec) :=
 OpenClaim.holds_of_wide 5 Tryz.f5 rfl rfl rfl rfl rfl rfl rfl ⟨rfl, rfl, rfl, rfl, rfl⟩ rfl rfl rfl rfl rfl (by kernel_rfl) Tryz.func5 facts
  (of_decide_eq_true (by kernel_rfl)) (by unfold Func.isWrapper; first | (rw [if_pos (by decide +kernel)]; kernel_rfl) | (rw [if_neg (by decide +kernel)]; exact ⟨rfl, rfl⟩))
  (fun os started H enc _ => lifted os started H enc)
theorem proved : Rows.BlockTurnedSaid := over
end Go.Proofs.YtepgkimlmoikmaaGreat.blockTurned
namespace Go.Proofs.YtepgkimlmoikmaaGreat
theorem blockTurned_holds : Rows.BlockTurnedSaid := blockTurned.proved
end Go.Proofs.YtepgkimlmoikmaaGreat
