/- The document's dictionaries of chapter 13. -/
import Derived.Test.YtboklkfplnmabaaGreatAlive
set_option linter.unusedVariables false
set_option linter.unusedSimpArgs false
namespace Go.Proofs.YtboklkfplnmabaaGreat
open Go.RowKit Go.Proofs.YtboklkfplnmabaaGreat.Spec Go.Proofs.YtboklkfplnmabaaGreatW.PrintWords Go.Proofs.YtboklkfplnmabaaGreatW.PrintLast
open Go.Proofs.YtboklkfplnmabaaGreatW.PrintMore
attribute [local go_sem ↓] Go.wp_at_zero Go.wp_at_succ
theorem phr_sizes (l : List ByteArray) : ∀ (sum : Nat) (seen : List ByteArray), (phr sum seen l).1 = 0 → ∀ s ∈ l, 1 ≤ s.size ∧ s.size ≤ 40 := by
  induction l with
  | nil => intro sum seen _ s h; cases h
  | cons x t ih =>
    intro sum seen h s hs
    unfold phr at h
    split at h
    · exact absurd h (by simp)
    · rename_i h1
      split at h
      · exact absurd h (by simp)
      · rename_i h2
        split at h
        · exact absurd h (by simp)
        · rcases List.mem_cons.1 hs with rfl | hs
          · omega
          · exact ih _ _ h s hs
theorem phrases_sizes {l : List ByteArray} (h : (phrases l).1 = 0) : l.length ≤ 100 ∧ ∀ s ∈ l, 1 ≤ s.size ∧ s.size ≤ 40 := by
  unfold phrases at h
  split at h
  · exact absurd h (by simp)
  · exact ⟨by omega, phr_sizes l 0 [] h⟩
def Given (l : List ByteArray) (b : ByteArray) : Prop := Bridge.few l = true ∧ b.size ≤ 400 ∧ (phrases l).1 = 0
set_option maxHeartbeats 1000000 in
set_option maxRecDepth 100000 in
theorem dict13_yes {A : Option Addr} {c : Nat} (l : List ByteArray) (b : ByteArray) (w : World) (hr : StrsIn w A l) (hc : l.length ≤ c) (hl : l.length ≤ 140737488351232) (hsz : ∀ s ∈ l, s.size ≤ 140737488351232) (h : Given l b) : Calls Tryz.prog 7 #[.slice A l.length c, .string b] w fun e w' => ∃ ad, e = .returned (.tuple #[.pointer (some ad), .bool true]) ∧ DictN w' (.pointer (some ad)) l ∧ Below w.heap.size w w' := by
  obtain ⟨h1, h2, h3⟩ := h
  have HF := Aside0.mk (few_calls l hr hc hl hsz)
  have HP := Aside0.mk (fun (W : World) (hr : StrsIn W A l) => rphrases_calls l hr hc hsz)
  have HM := Aside0.mk (fun (W : World) (hr : StrsIn W A l) => make_yes l W hr hc hsz h3)
  have HR := Aside0.mk hr
  have d1 : decide ((400 : Int) < (b.size : Int)) = false := decide_eq_false (by omega)
  have d2 : decide (400 < b.size) = false := decide_eq_false (by omega)
  have H1 := Aside0.mk h1
  have H3 := Aside0.mk h3
  clear hr hc hl hsz h1 h2 h3
  go_enter Tryz.func7, Tryz.ntmps7
  go_wp2_with fail
  refine HF.out.mono ?_
  rw [H1.out]
  rintro e w1 ⟨rfl, hb1⟩
  have HB1 := Aside0.mk hb1.below
  clear hb1
  go_wp2_with fail
  refine (HP.out _ (Kd.C_below HR.out HB1.out)).mono ?_
  rw [H3.out]
  rintro e w2 ⟨rfl, hb2⟩
  have HB2 := Aside0.mk (below_step HB1.out hb2.below)
  clear hb2
  go_wp2_with fail
  refine (HM.out _ (Kd.C_below HR.out HB2.out)).mono ?_
  rintro e w3 ⟨ad, rfl, hd, hb3⟩
  have HB3 := Aside0.mk (below_step HB2.out hb3)
  have HD := Aside0.mk hd
  clear hb3 hd
  go_wp2
  go_ret2
  exact ⟨ad, rfl, DictN.of HD.out, HB3.out⟩
set_option maxHeartbeats 1000000 in
set_option maxRecDepth 100000 in
theorem dict13_no {A : Option Addr} {c : Nat} (l : List ByteArray) (b : ByteArray) (w : World) (hr : StrsIn w A l) (hc : l.length ≤ c) (hl : l.length ≤ 140737488351232) (hsz : ∀ s ∈ l, s.size ≤ 140737488351232) (h : ¬ Given l b) : Calls Tryz.prog 7 #[.slice A l.length c, .string b] w fun e w' => e = .returned (.tuple #[.pointer none, .bool false]) ∧ Below w.heap.size w w' := by
  have HF := Aside0.mk (few_calls l hr hc hl hsz)
  have HP := Aside0.mk (fun (W : World) (hr : StrsIn W A l) => rphrases_calls l hr hc hsz)
  have HR := Aside0.mk hr
  have HG := Aside0.mk h
  clear hr hc hl hsz h
  cases h1 : Bridge.few l with
  | false =>
    have H1 := Aside0.mk h1
    clear h1
    go_enter Tryz.func7, Tryz.ntmps7
    go_wp2_with fail
    refine HF.out.mono ?_
    rw [H1.out]
    rintro e w1 ⟨rfl, hb1⟩
    have HB1 := Aside0.mk hb1.below
    clear hb1
    go_wp2
    go_ret2
    exact ⟨rfl, HB1.out⟩
  | true =>
    have H1 := Aside0.mk h1
    by_cases h2 : b.size ≤ 400
    · have hne : (phrases l).1 ≠ 0 := fun h3 => HG.out ⟨h1, h2, h3⟩
      have d1 : decide ((400 : Int) < (b.size : Int)) = false := decide_eq_false (by omega)
      have d2 : decide (400 < b.size) = false := decide_eq_false (by omega)
      have d3 : decide (((phrases l).1 : Int) = 0) = false := decide_eq_false (by omega)
      have d4 : (((phrases l).1 : Int) == 0) = false := beq_eq_false_iff_ne.2 (by omega)
      have d5 : ((phrases l).1 == 0) = false := beq_eq_false_iff_ne.2 hne
      clear h1 h2
      generalize (phrases l).1 = q at *
      generalize (phrases l).2 = q2 at *
      go_enter Tryz.func7, Tryz.ntmps7
      go_wp2_with fail
      refine HF.out.mono ?_
      rw [H1.out]
      rintro e w1 ⟨rfl, hb1⟩
      have HB1 := Aside0.mk hb1.below
      clear hb1
      go_wp2_with fail
      refine (HP.out _ (Kd.C_below HR.out HB1.out)).mono ?_
      rintro e w2 ⟨rfl, hb2⟩
      have HB2 := Aside0.mk (below_step HB1.out hb2.below)
      clear hb2
      go_wp2
      go_ret2
      exact ⟨rfl, HB2.out⟩
    · have d1 : decide ((400 : Int) < (b.size : Int)) = true := decide_eq_true (by omega)
      have d2 : decide (400 < b.size) = true := decide_eq_true (by omega)
      clear h1 h2
      go_enter Tryz.func7, Tryz.ntmps7
      go_wp2_with fail
      refine HF.out.mono ?_
      rw [H1.out]
      rintro e w1 ⟨rfl, hb1⟩
      have HB1 := Aside0.mk hb1.below
      clear hb1
      go_wp2
      go_ret2
      exact ⟨rfl, HB1.out⟩
end Go.Proofs.YtboklkfplnmabaaGreat
