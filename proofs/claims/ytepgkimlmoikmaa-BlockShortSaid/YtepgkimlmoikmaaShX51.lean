/- ShX: a part of its proof (contracts of the functions that it reaches, and the plain mathematics behind them). -/
import Derived.Test.YtepgkimlmoikmaaRows
import Derived.Test.YtepgkimlmoikmaaShX50
import Derived.WalkKit
import Derived.ProofKit
import Derived.OpenShut
import Derived.ShutString
import Derived.ChangeOld
import Derived.Below
import Derived.SizedLaws
import Derived.Test.YtepgkimlmoikmaaShX43
set_option linter.unusedVariables false
set_option linter.unusedSimpArgs false
namespace Go.Proofs.Ytepgkimlmoikmaa.blockShort
open Go.ChangeShapes Go.WideShapes Go.ChangeAt Go.RowKit
open Go.ChangeMaps (open_string shut_string)
set_option linter.unusedVariables false
theorem own : ownKnob Try.prog.godebug = none := by kernel_rfl
set_option maxRecDepth 100000 in
theorem lifted (os : Os) (started : os.Started) (H : Type) (enc : TypeId × Value → H) :
  ReturnsInHanded {} Try.checked os 5 .any (Rows.blockShortSpec.pre6 enc Try.prog Try.f5 Rows.blockShortRow.domain false) (Rows.blockShortSpec.post enc Try.prog Try.f5 false true false false) := by
 refine returnsInHanded_of_change_sized (C := Try.checked) own started (by kernel_rfl) Try.func5
  (ChangeSpec.witness6 (enc := enc) (C := Try.checked) false ⟨#[], #[.int .i64 0, .int .u8 0], []⟩ 8 (by kernel_rfl) (by kernel_rfl) (by kernel_rfl) (by kernel_rfl)) ?_
 intro W base args ds gs before hval0 hW hcnd hsz0 _
 have hsz : (DataW.weightsEach Try.prog (Try.f5.params.toList ++ Rows.blockShortSpec.plain.varTypes Try.prog) (ds ++ gs)).all (· ≤ reachBytes) = true := hsz0
 have hval : ∀ (j : Nat) t v, Try.f5.params[j]? = some t → args[j]? = some v → Value.okWide Try.prog W .any base t v := hval0
 have hW' := hW
 obtain ⟨p, q, hA0, hV, rfl, hfz, hnd⟩ := hW
 have hA : DataW.TrodAll enc Try.prog W 0 (fun _ => true) true Try.f5.params.toList args.toList ds p := hA0
 rw [Try.params5] at hA hval hsz
 obtain ⟨v0, vs0, d0, ds0, p0, q0, hargs, rfl, rfl, h0, r0⟩ := trodAll_cons hA
 obtain ⟨v1, vs1, d1, ds1, p1, q1, rfl, rfl, rfl, h1, r1⟩ := trodAll_cons r0
 obtain ⟨rfl, rfl, rfl⟩ := trodAll_nil r1
 obtain rfl : args = #[v0, v1] := by cases args; simp_all
 obtain ⟨rfl, rfl⟩ := trodVars_none hV
 obtain ⟨a0, rfl, rfl, rfl, w0⟩ := open_int Try.underlying3 (hval 0 3 v0 rfl rfl) h0
 obtain ⟨a1, rfl, rfl, rfl, w1⟩ := open_int Try.underlying5 (hval 1 5 v1 rfl rfl) h1
 clear hA0 hval0 hsz0 hsz
 refine (blockShort_law a0 a1 W w0 w1).mono fun e W' ⟨he, bel⟩ => ?_
 subst he
 exact ⟨_, rfl, _, _, _, [], _, [], hW', trodAll_mk1 (shut_bool Try.underlying4 _), (trodAll_cons_mk (shut_int Try.underlying3 w0) (trodAll_cons_mk (shut_int Try.underlying5 w1) trodAll_mk0)), rfl, bel.frame _, fun h => by cases h⟩
theorem j1 : (Rows.blockShortRow.wf (OpenSpec.ofChange Rows.blockShortSpec)) = true := by kernel_rfl
theorem j2 : (laidOutB Try.prog) = true := Jf.g2
theorem j3 : (mapsRowed Try.prog) = true := Jf.g3
theorem j4 : (Try.f5.params.all (Try.prog.readableRec ·)) = true := by kernel_rfl
theorem j5 : (namedTie Try.prog Rows.blockShortRow.named Rows.blockShortSpec.vars) = true := by kernel_rfl
theorem j6 : ((Rows.blockShortRow.stops == [])) = true := by kernel_rfl
theorem j7 : ((Try.prog.stops == [])) = true := Jf.g7
theorem j8 : ((Rows.blockShortRow.knobs == [])) = true := by kernel_rfl
theorem j9 : ((Try.prog.stopKnobs == [])) = true := Jf.g9
theorem j10 : ((Rows.blockShortRow.inPlace == Try.prog.inPlace 5)) = true := by kernel_rfl
theorem j11 : ((Rows.blockShortRow.unfollowed == Try.prog.unfollowed 5)) = true := by kernel_rfl
theorem j12 : ((Rows.blockShortRow.recurses == Try.prog.recurses 5)) = true := by kernel_rfl
theorem j13 : ((Rows.blockShortRow.named == Try.prog.varsNamed 5)) = true := by kernel_rfl
theorem j14 : ((Rows.blockShortRow.maps == (Try.f5.params.toList ++ Rows.blockShortSpec.plain.varTypes Try.prog).any (Try.prog.mapsRec ·))) = true := by kernel_rfl
theorem j15 : ((Rows.blockShortRow.ifaces == (Try.f5.params.toList ++ Rows.blockShortSpec.plain.varTypes Try.prog).any (Try.prog.ifacesRec ·))) = true := by kernel_rfl
theorem j16 : ((Rows.blockShortRow.mapsOut == Try.prog.mapsAmong Try.f5.resultTypes.toList)) = true := by kernel_rfl
theorem j17 : ((Rows.blockShortRow.loops == (Try.f5.params.toList ++ Rows.blockShortSpec.plain.varTypes Try.prog).any (Try.prog.loopsFrom ·))) = true := by kernel_rfl
theorem j18 : ((Rows.blockShortRow.wideKeys == (Try.f5.params.toList ++ Rows.blockShortSpec.plain.varTypes Try.prog ++ Try.f5.resultTypes.toList).any (Try.prog.wideKeysFrom ·))) = true := by kernel_rfl
theorem j19 : (Rows.blockShortSpec.vars.all (Try.prog.varReadable ·)) = true := by kernel_rfl
theorem j20 : (Try.f5.resultTypes.all (fun t => Try.prog.readableRec t && decide (t < Try.prog.types.size))) = true := by kernel_rfl
theorem j21 : ((Rows.blockShortRow.ifacesOut == Try.f5.resultTypes.toList.any (Try.prog.ifacesRec ·))) = true := by kernel_rfl
theorem j22 : ((Rows.blockShortRow.loopsOut == Try.f5.resultTypes.toList.any (Try.prog.loopsFrom ·))) = true := by kernel_rfl
theorem j23 : ((Rows.blockShortRow.plainKeys == Try.prog.plainKeys)) = true := Jf.g23
theorem j24 : (Rows.blockShortRow.shortTexts.isNone) = true := by kernel_rfl
theorem j25 : (Try.prog.stopsHeard) = true := Jf.g25
theorem j26 : (Try.prog.mayEnter) = true := Jf.g26
theorem j27 : ((Rows.blockShortRow.lifted == Try.prog.liftsFinal)) = true := Jf.g27
theorem j28 : ((Try.prog.make == some Rows.blockShortRow.make)) = true := Jf.g28
theorem j29 : ((Rows.blockShortRow.kinds == (if Rows.blockShortRow.domain.isEmpty then [] else Try.f5.params.toList.map fun t => match Try.prog.underlying t with | some (.int k) => some k | _ => none))) = true := by kernel_rfl
theorem j30 : ((Rows.blockShortRow.pinned == Rows.blockShortRow.pinnedBy)) = true := by kernel_rfl
theorem j31 : ((Rows.blockShortRow.veiled == (Try.f5.params.toList ++ Rows.blockShortSpec.plain.varTypes Try.prog ++ Try.f5.resultTypes.toList).any (Try.prog.veiledRec ·))) = true := by kernel_rfl
theorem j32 : (Rows.blockShortRow.veiledFits Try.prog Try.f5.params.toList (Try.f5.params.toList ++ Rows.blockShortSpec.plain.varTypes Try.prog ++ Try.f5.resultTypes.toList)) = true := by kernel_rfl
set_option maxRecDepth 100000 in
theorem facts : joinedFacts Try.prog 5 Try.f5 Rows.blockShortSpec Rows.blockShortRow = true := Jf.band (Jf.band (Jf.band (Jf.band (Jf.band (Jf.band (Jf.band (Jf.band (Jf.band (Jf.band (Jf.band (Jf.band (Jf.band (Jf.band (Jf.band (Jf.band (Jf.band (Jf.band (Jf.band (Jf.band (Jf.band (Jf.band (Jf.band (Jf.band (Jf.band (Jf.band (Jf.band (Jf.band (Jf.band (Jf.band (Jf.band (j1) j2) j3) j4) j5) j6) j7) j8) j9) j10) j11) j12) j13) j14) j15) j16) j17) j18) j19) j20) j21) j22) j23) j24) j25) j26) j27) j28) j29) j30) j31) j32
theorem over : Rows.blockShortRow.holds Try.pinned (OpenSpec.ofChange Rows.blockShortSpec) :=
 OpenClaim.holds_of_wide 5 Try.f5 rfl rfl rfl rfl rfl rfl rfl ⟨rfl, rfl, rfl, rfl, rfl⟩ rfl rfl rfl rfl rfl (by kernel_rfl) Try.func5 facts
  (of_decide_eq_true (by kernel_rfl)) (by unfold Func.isWrapper; first | (rw [if_pos (by decide +kernel)]; kernel_rfl) | (rw [if_neg (by decide +kernel)]; exact ⟨rfl, rfl⟩))
  (fun os started H enc _ => lifted os started H enc)
theorem proved : Rows.BlockShortSaid := over
end Go.Proofs.Ytepgkimlmoikmaa.blockShort
namespace Go.Proofs.Ytepgkimlmoikmaa
theorem blockShort_holds : Rows.BlockShortSaid := blockShort.proved
end Go.Proofs.Ytepgkimlmoikmaa
