/- DictFinds: for every phrases and every string the law DictFinds (P602) returns true; no condition. -/
import Derived.Test.YtbnoeoghhbhhcaaDictD
set_option linter.unusedVariables false
set_option linter.unusedSimpArgs false
namespace Go.Proofs.Ytbnoeoghhbhhcaa
open Go.RowKit Go.Proofs.Ytbnoeoghhbhhcaa.Spec Go.Proofs.YtbnoeoghhbhhcaaW.PrintWords Go.Proofs.YtbnoeoghhbhhcaaW.PrintLast
open Go.Proofs.YtbnoeoghhbhhcaaW.PrintMore
set_option maxHeartbeats 2000000 in
set_option maxRecDepth 100000 in
theorem finds_law (A : Option Addr) (c : Nat) (l : List ByteArray) (s : ByteArray) (w : World) (hr : StrsIn w A l) (hc : l.length ≤ c) (h16 : l.length * 16 ≤ 140737488351232) (hsz : ∀ s ∈ l, s.size ≤ 140737488351232) (hs : s.size ≤ 140737488351232) :
    Calls Try.prog 5 #[.slice A l.length c, .string s] w fun e w' => e = .returned (.bool true) ∧ Below w.heap.size w w' := by
  have HF := Aside0.mk (few_calls l hr hc (by omega) hsz)
  have HR := Aside0.mk hr
  have HC := Aside0.mk hc
  clear hr hc
  by_cases hfew : Bridge.few l = true
  · rw [hfew] at HF
    have hfew' := of_decide_eq_true hfew
    clear hfew
    by_cases h60 : 60 < s.size
    · have hb : decide ((60 : Int) < (s.size : Int)) = true := decide_eq_true (by omega)
      clear h60
      go_enter Try.func5, Try.ntmps5
      go_wp2_with (first | (go_at_call 16; refine HF.out.mono ?_; rintro e w1 ⟨rfl, ⟨nd, rfl⟩⟩) | (go_at_call 13; refine (alive_any _).mono ?_; rintro e w2 ⟨rfl, hb2⟩))
      go_ret
      exact ⟨rfl, below_step (pw_below_drewN (Below.refl _ _) _) hb2⟩
    · have hb : decide ((60 : Int) < (s.size : Int)) = false := decide_eq_false (by omega)
      clear h60
      go_enter Try.func5, Try.ntmps5
      go_wp2_with fail
      refine HF.out.mono ?_
      rintro e w1 ⟨rfl, hd1⟩
      have H1 := Aside0.mk hd1.below
      clear hd1
      go_wp2_with fail
      refine (alive_any _).mono ?_
      rintro e w2 ⟨rfl, hb2⟩
      have H2 := Aside0.mk (below_step H1.out hb2)
      clear hb2
      go_wp2_with fail
      by_cases hp : (phrases l).1 = 0
      · refine (make_yes l _ (Kd.C_below HR.out H2.out) HC.out hsz hp).mono ?_
        rintro e w3 ⟨ad, rfl, hd, hb3⟩
        have HD := Aside0.mk hd
        have H3 := Aside0.mk (below_step H2.out hb3)
        clear hd hb3
        go_wp2_with fail
        have HM := Aside0.mk ((phrases_ok l).1 hp)
        clear hp
        go_loopw [36] (fun v36 wr => ∃ i : Nat, i ≤ l.length ∧ v36 = .int .i64 i ∧ Aside0 (Below w.heap.size w wr) ∧ Aside0 (DictAt wr (.pointer (some ad)) l)) (fun v36 _ => l.length - (intOf v36).toNat)
        case atStart => exact ⟨0, by omega, rfl, H3, HD⟩
        case round =>
          obtain ⟨i, hi, rfl, HB, HDr⟩ := hrel
          by_cases hlt : i < l.length
          · have hx : l[i]? = some l[i] := List.getElem?_eq_getElem hlt
            have hf := fnd_nodup HM.out.2.2.2.1 hx
            obtain ⟨ad2, hA, hcell⟩ := Kd.at_string (Kd.C_below HR.out HB.out) (i : Int) (by omega) (by omega)
            subst hA
            rw [Bridge.rdOf_get l i hlt, Int.toNat_natCast] at hcell
            generalize l[i] = x at hx hf hcell
            have HX := Aside0.mk hx
            have HFN := Aside0.mk hf
            have p1 : (0 : Int) ≤ (i : Int) := by omega
            have p2 : (i : Int) < (l.length : Int) := by omega
            clear hx hf
            go_wp2_with fail
            refine (at_nat HDr.out i x HX.out).mono ?_
            rintro e w4 ⟨rfl, rfl⟩
            go_wp2_with fail
            refine (find_is HDr.out (by omega) x i HFN.out).mono ?_
            rintro e w5 ⟨rfl, hb5⟩
            have hcell5 := pw_cell_below hb5 hcell
            have HB5 := Aside0.mk (below_step HB.out hb5)
            have HD5 := Aside0.mk (HDr.out.below hb5)
            clear hb5
            go_wp2
            go_roundw
            case rel => exact ⟨i + 1, by omega, by go_num, HB5, HD5⟩
            case measure => simp [intOf]; omega
          · have hge : i = l.length := by omega
            subst hge
            have hlow : decide ((-1 : Int) < 0) = true := rfl
            cases hf : fnd s l with
            | some k =>
              have hk := fnd_some hf
              obtain ⟨hk1, hk2⟩ := hk
              have HFN := Aside0.mk hf
              clear hf
              obtain ⟨ad2, hA, hcell⟩ := Kd.at_string (Kd.C_below HR.out HB.out) (k : Int) (by omega) (by omega)
              subst hA
              rw [Bridge.rdOf_get l k hk1, Int.toNat_natCast, hk2] at hcell
              clear hk2
              have p1 : (0 : Int) ≤ (k : Int) := by omega
              have p2 : (k : Int) < (l.length : Int) := by omega
              go_wp2_with fail
              refine (find_is HDr.out (by omega) s k HFN.out).mono ?_
              rintro e w5 ⟨rfl, hb5⟩
              have hcell5 := pw_cell_below hb5 hcell
              have HB5 := Aside0.mk (below_step HB.out hb5)
              have HD5 := Aside0.mk (HDr.out.below hb5)
              clear hb5 hcell
              go_wp2_with fail
              refine (at_out HD5.out (-1) (by omega)).mono ?_
              rintro e w6 ⟨rfl, rfl⟩
              go_wp2_with fail
              refine (at_out HD5.out (l.length : Int) (by omega)).mono ?_
              rintro e w6 ⟨rfl, rfl⟩
              go_wp2_with fail
              refine (all_any HD5.out (by omega)).mono ?_
              rintro e w7 ⟨v', rfl, ho, hb7⟩
              obtain ⟨A', c', rfl, _, _⟩ := Kd.R_reads ho
              go_wp2
              go_ret
              exact ⟨rfl, below_step HB5.out hb7⟩
            | none =>
              have HFN := Aside0.mk hf
              clear hf
              go_wp2_with fail
              refine (find_not HDr.out (by omega) s HFN.out).mono ?_
              rintro e w5 ⟨rfl, hb5⟩
              have HB5 := Aside0.mk (below_step HB.out hb5)
              have HD5 := Aside0.mk (HDr.out.below hb5)
              clear hb5
              go_wp2_with fail
              refine (at_out HD5.out (-1) (by omega)).mono ?_
              rintro e w6 ⟨rfl, rfl⟩
              go_wp2_with fail
              refine (at_out HD5.out (l.length : Int) (by omega)).mono ?_
              rintro e w6 ⟨rfl, rfl⟩
              go_wp2_with fail
              refine (all_any HD5.out (by omega)).mono ?_
              rintro e w7 ⟨v', rfl, ho, hb7⟩
              obtain ⟨A', c', rfl, _, _⟩ := Kd.R_reads ho
              go_wp2
              go_ret
              exact ⟨rfl, below_step HB5.out hb7⟩
      · refine (make_no l _ (Kd.C_below HR.out H2.out) HC.out hsz hp).mono ?_
        rintro e w3 ⟨rfl, hb3⟩
        go_wp2
        go_ret
        exact ⟨rfl, below_step H2.out hb3⟩
  · rw [Bool.eq_false_iff.2 hfew] at HF
    clear hfew
    go_enter Try.func5, Try.ntmps5
    go_wp2_with (first | (go_at_call 16; refine HF.out.mono ?_; rintro e w1 ⟨rfl, ⟨nd, rfl⟩⟩) | (go_at_call 13; refine (alive_any _).mono ?_; rintro e w2 ⟨rfl, hb2⟩))
    go_ret
    exact ⟨rfl, below_step (pw_below_drewN (Below.refl _ _) _) hb2⟩
end Go.Proofs.Ytbnoeoghhbhhcaa
