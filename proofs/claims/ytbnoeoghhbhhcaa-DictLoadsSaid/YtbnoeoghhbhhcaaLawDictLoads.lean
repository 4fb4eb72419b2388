/- DictLoads: for every bytes the law DictLoads (P601) returns true; no condition. -/
import Derived.Test.YtbnoeoghhbhhcaaDictG
set_option linter.unusedVariables false
set_option linter.unusedSimpArgs false
namespace Go.Proofs.Ytbnoeoghhbhhcaa
open Go.RowKit Go.Proofs.Ytbnoeoghhbhhcaa.Spec Go.Proofs.YtbnoeoghhbhhcaaW.PrintWords Go.Proofs.YtbnoeoghhbhhcaaW.PrintLast
open Go.Proofs.YtbnoeoghhbhhcaaW.PrintMore
set_option maxHeartbeats 2000000 in
set_option maxRecDepth 100000 in
theorem loads_law (b : ByteArray) (w : World) (hb : b.size ≤ 140737488351232) : Calls Try.prog 7 #[.string b] w fun e w' => e = .returned (.bool true) ∧ Below w.heap.size w w' := by
  by_cases hlong : 1500 < b.size
  · have hbb : decide ((1500 : Int) < (b.size : Int)) = true := decide_eq_true (by omega)
    clear hlong
    go_enter Try.func7, Try.ntmps7
    go_wp2_with (go_at_call 13; refine (alive_any _).mono ?_; rintro e w2 ⟨rfl, hb2⟩)
    go_ret
    exact ⟨rfl, hb2⟩
  · have hbb : decide ((1500 : Int) < (b.size : Int)) = false := decide_eq_false (by omega)
    by_cases hz : (Spec.load (u b)).2.1 = 0
    · obtain ⟨z1, z2, z3⟩ := load_zero hz
      have hm := (phrases_ok _).1 z3
      have HY := Aside0.mk (fun W => load_yes b (by omega) W hz)
      have HN := Aside0.mk (fun W => rload_calls b (by omega) W)
      rw [hz, z1] at HN
      have hbe : ((str (Spec.bytes (Spec.load (u b)).1)).toList == b.toList) = true := by rw [z2, str_u]; exact beq_self_eq_true _
      generalize (Spec.load (u b)).1 = l at *
      have HM := Aside0.mk hm
      have hl : l.length ≤ 100 := hm.1
      clear hz z1 z2 z3 hm
      go_enter Try.func7, Try.ntmps7
      go_wp2_with fail
      refine (alive_any _).mono ?_
      rintro e w1 ⟨rfl, hb1⟩
      have H1 := Aside0.mk hb1
      clear hb1
      go_wp2_with fail
      refine (HY.out _).mono ?_
      rintro e w2 ⟨ad, rfl, HD, hb2⟩
      have H2 := Aside0.mk (below_step H1.out hb2)
      clear hb2
      go_wp2_with fail
      refine (HN.out _).mono ?_
      rintro e w3 ⟨A, c, rfl, HV, hb3⟩
      have HD3 := Aside0.mk (HD.out.below hb3)
      have H3 := Aside0.mk (below_step H2.out hb3)
      clear hb3
      go_wp2_with fail
      refine (told_none _).mono ?_
      rintro e w4 ⟨rfl, hb4⟩
      have HD4 := Aside0.mk (HD3.out.below hb4)
      have HV4 := Aside0.mk (Kd.R_below HV.out hb4)
      have H4 := Aside0.mk (below_step H3.out hb4)
      clear hb4
      go_wp2_with fail
      refine (all_any HD4.out (by omega)).mono ?_
      rintro e w5 ⟨v', rfl, ho, hb5⟩
      obtain ⟨A', c', rfl, hc5, hC5⟩ := Kd.R_reads ho
      have HD5 := Aside0.mk (HD4.out.below hb5)
      have HV5 := Aside0.mk (Kd.R_below HV4.out hb5)
      have HO5 := Aside0.mk (And.intro hc5 hC5)
      have H5 := Aside0.mk (below_step H4.out hb5)
      clear hb5 ho hc5 hC5
      go_wp2_with fail
      refine (texts_calls l l HO5.out.2 HO5.out.1 (Kd.R_reads' HV5.out).2.2 (Kd.R_reads' HV5.out).2.1 (by omega)).mono ?_
      rw [decide_eq_true rfl]
      rintro e w6 ⟨rfl, hd6⟩
      have HD6 := Aside0.mk (HD5.out.below hd6.below)
      have H6 := Aside0.mk (below_step H5.out hd6.below)
      clear hd6
      go_wp2_with fail
      refine (bytes_any HD6.out hl (fun s hs => by have := (HM.out.2.1 s hs).2; omega)).mono ?_
      rintro e w7 ⟨rfl, hb7⟩
      go_wp2
      go_ret
      exact ⟨rfl, below_step H6.out hb7⟩
    · have HY := Aside0.mk (fun W => load_no b (by omega) W hz)
      have HN := Aside0.mk (fun W => rload_calls b (by omega) W)
      generalize (Spec.load (u b)).1 = l at *
      generalize (Spec.load (u b)).2.1 = cd at *
      generalize (Spec.load (u b)).2.2 = pl at *
      have hz1 : ((cd : Int) == (0 : Int)) = false := beq_eq_false_iff_ne.2 (by omega)
      have hz2 : ((cd : Int) != (0 : Int)) = true := by rw [bne_iff_ne]; omega
      have HZ := Aside0.mk hz
      clear hz
      go_enter Try.func7, Try.ntmps7
      go_wp2_with fail
      refine (alive_any _).mono ?_
      rintro e w1 ⟨rfl, hb1⟩
      have H1 := Aside0.mk hb1
      clear hb1
      go_wp2_with fail
      refine (HY.out _).mono ?_
      rintro e w2 ⟨rfl, hb2⟩
      have H2 := Aside0.mk (below_step H1.out hb2)
      clear hb2
      go_wp2_with fail
      refine (HN.out _).mono ?_
      rintro e w3 ⟨A, c, rfl, HV, hb3⟩
      have H3 := Aside0.mk (below_step H2.out hb3)
      clear hb3
      go_wp2_with fail
      refine (told_some _ _ (by have := HZ.out; omega) _).mono ?_
      rintro e w4 ⟨rfl, hb4⟩
      go_wp2
      go_ret
      exact ⟨rfl, below_step H3.out hb4⟩
end Go.Proofs.Ytbnoeoghhbhhcaa
