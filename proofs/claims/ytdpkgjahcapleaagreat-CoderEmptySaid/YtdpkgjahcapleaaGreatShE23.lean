/- ShE: a part of its proof (contracts of the functions that it reaches, and the plain mathematics behind them). -/
import Derived.Test.YtdpkgjahcapleaaGreatShE19
set_option linter.unusedVariables false
set_option linter.unusedSimpArgs false
set_option linter.unusedVariables false
set_option linter.unusedSimpArgs false
namespace Go.Proofs.YtdpkgjahcapleaaGreat
open Go.RowKit Go.Proofs.YtdpkgjahcapleaaGreat.Spec Go.Proofs.YtdpkgjahcapleaaGreatW.PrintWords Go.Proofs.YtdpkgjahcapleaaGreatW.PrintLast
open Go.Proofs.YtdpkgjahcapleaaGreatW.PrintMore
attribute [local go_sem ↓] Go.wp_at_zero Go.wp_at_succ
theorem conf_at {w w1 : World} (hb : Below (w.alloc (.cells #[.int .i64 0, .int .i64 0, .int .i64 100, .int .i64 100] 24)).heap.size (w.alloc (.cells #[.int .i64 0, .int .i64 0, .int .i64 100, .int .i64 100] 24)) w1) :
    w1.cell? ⟨w.heap.size, 0, none⟩ = some (.int .i64 0) ∧ w1.cell? ⟨w.heap.size, 1, none⟩ = some (.int .i64 0) ∧ w1.cell? ⟨w.heap.size, 2, none⟩ = some (.int .i64 100) ∧ w1.cell? ⟨w.heap.size, 3, none⟩ = some (.int .i64 100) := by
  have hh : (w.alloc (.cells #[.int .i64 0, .int .i64 0, .int .i64 100, .int .i64 100] 24)).heap[w.heap.size]? = some (.cells #[.int .i64 0, .int .i64 0, .int .i64 100, .int .i64 100] 24 (0, 0)) := heap_alloc_new _ _
  exact ⟨pw_cell_below hb (blk_cell hh 0), pw_cell_below hb (blk_cell hh 1), pw_cell_below hb (blk_cell hh 2), pw_cell_below hb (blk_cell hh 3)⟩
theorem conf_right (w : World) : Calls Tryz.prog 35 #[.agg #[.int .i64 0, .int .i64 0, .int .i64 100, .int .i64 100]] w fun e w' => e = .returned (.bool true) ∧ Below w.heap.size w w' :=
  Leaf.block_Right.calls 0 0 100 100 true w (by decide +kernel)
theorem not_nil {b : ByteArray} (h : 1 ≤ b.size) : b.toList.isEmpty = false := by
  rw [Lib.toList_data]
  rw [Bool.eq_false_iff]
  intro e
  have h2 := congrArg List.length (List.isEmpty_iff.1 e)
  have h3 : b.data.toList.length = b.size := u_size b
  rw [h3, List.length_nil] at h2
  omega
set_option maxHeartbeats 2000000 in
set_option maxRecDepth 100000 in
theorem tokens_small {p : Value} {l : List ByteArray} {w : World} (hd : DictN w p l) (hl : l.length ≤ 1000) (hs : ∀ s ∈ l, 1 ≤ s.size ∧ s.size ≤ 40) (b : ByteArray) (h1 : 1 ≤ b.size) (hb : b.size ≤ 100) :
    Calls Tryz.prog 82 #[p, .agg #[.int .i64 0, .int .i64 0, .int .i64 100, .int .i64 100], .string b] w fun e w' => ∃ A c, e = .returned (.tuple #[.slice A (par l b b.size 0).length c, .int .i64 0]) ∧ (par l b b.size 0).length ≤ c ∧ IntsIn w' A (par l b b.size 0) ∧ Below w.heap.size w w' := by
  have HD := Aside0.mk hd
  have HP := Aside0.mk (fun (W : World) (h : DictN W p l) => parse_any h hl hs b (by omega))
  have z1 := not_nil h1
  have z2 : ¬ b.toList = [] := by intro e; rw [e] at z1; cases z1
  have d1 : decide ((100 : Int) < (b.size : Int)) = false := decide_eq_false (by omega)
  have d2 : decide (100 < b.size) = false := decide_eq_false (by omega)
  clear hd hl hs h1 hb
  go_enter Tryz.func82, Tryz.ntmps82
  go_wp2_with fail
  refine (conf_right _).mono ?_
  rintro e w1 ⟨rfl, hb1⟩
  obtain ⟨c0, c1, c2, c3⟩ := conf_at hb1
  have H1 := Aside0.mk (below_step (below_alloc (Below.refl _ _) _) hb1)
  clear hb1
  go_wp2_with fail
  refine (HP.out _ (HD.out.below H1.out)).mono ?_
  rintro e w2 ⟨A, c, rfl, hc, hC, hb2⟩
  have HC := Aside0.mk hC
  have HCC := Aside0.mk hc
  have H2 := Aside0.mk (below_step H1.out hb2)
  clear hc hC hb2
  go_wp2
  go_ret2
  exact ⟨A, c, rfl, HCC.out, HC.out, H2.out⟩
set_option maxHeartbeats 2000000 in
set_option maxRecDepth 100000 in
theorem put_small {p : Value} {l : List ByteArray} {w : World} (hd : DictN w p l) (hl : l.length ≤ 1000) (hs : ∀ s ∈ l, 1 ≤ s.size ∧ s.size ≤ 40) (b : ByteArray) (h1 : 1 ≤ b.size) (hb : b.size ≤ 100) (hne : par l b b.size 0 ≠ []) :
    Calls Tryz.prog 61 #[p, .agg #[.int .i64 0, .int .i64 0, .int .i64 100, .int .i64 100], .string b] w fun e w' => e = .returned (.tuple (if (nums2 (par l b b.size 0)).length < b.size then #[.int .i64 2, .string (str (nums2 (par l b b.size 0))), .int .i64 0] else #[.int .i64 1, .string b, .int .i64 0])) ∧ Below w.heap.size w w' := by
  have HD := Aside0.mk hd
  have HT := Aside0.mk (fun (W : World) (h : DictN W p l) => tokens_small h hl hs b h1 hb)
  have hpl := par_len l b b.size 0
  have HL := Aside0.mk (fun (W : World) (h : DictN W p l) (A : Option Addr) (c : Nat) (hr : IntsIn W A (par l b b.size 0)) (hc : (par l b b.size 0).length ≤ c) => lay_nums (par l b b.size 0) h hl hs hr hc (by omega) hne (par_tok hs b b.size 0))
  have hz : (str (nums2 (par l b b.size 0))).size = (nums2 (par l b b.size 0)).length := by rw [← u_size, u_str]
  generalize str (nums2 (par l b b.size 0)) = s at *
  clear hd hl hs h1 hb hne hpl
  by_cases hq : (nums2 (par l b b.size 0)).length < b.size
  · rw [if_pos hq]
    have d1 : decide ((s.size : Int) < (b.size : Int)) = true := decide_eq_true (by omega)
    have d2 : decide (s.size < b.size) = true := decide_eq_true (by omega)
    clear hq hz
    go_enter Tryz.func61, Tryz.ntmps61
    go_wp2_with fail
    refine (HT.out _ (HD.out.below (below_alloc (Below.refl _ _) _))).mono ?_
    rintro e w2 ⟨A, c, rfl, hc, hC, hb2⟩
    obtain ⟨c0, c1, c2, c3⟩ := conf_at hb2
    have HC := Aside0.mk hC
    have HCC := Aside0.mk hc
    have H2 := Aside0.mk (below_step (below_alloc (Below.refl _ _) _) hb2)
    clear hc hC hb2
    go_wp2_with fail
    refine (HL.out _ (HD.out.below H2.out) A c HC.out HCC.out).mono ?_
    rintro e w3 ⟨rfl, hb3⟩
    have H3 := Aside0.mk (below_step H2.out hb3)
    clear hb3
    go_wp2
    go_ret3
    exact ⟨rfl, H3.out⟩
  · rw [if_neg hq]
    have d1 : decide ((s.size : Int) < (b.size : Int)) = false := decide_eq_false (by omega)
    have d2 : decide (s.size < b.size) = false := decide_eq_false (by omega)
    clear hq hz
    go_enter Tryz.func61, Tryz.ntmps61
    go_wp2_with fail
    refine (HT.out _ (HD.out.below (below_alloc (Below.refl _ _) _))).mono ?_
    rintro e w2 ⟨A, c, rfl, hc, hC, hb2⟩
    obtain ⟨c0, c1, c2, c3⟩ := conf_at hb2
    have HC := Aside0.mk hC
    have HCC := Aside0.mk hc
    have H2 := Aside0.mk (below_step (below_alloc (Below.refl _ _) _) hb2)
    clear hc hC hb2
    go_wp2_with fail
    refine (HL.out _ (HD.out.below H2.out) A c HC.out HCC.out).mono ?_
    rintro e w3 ⟨rfl, hb3⟩
    have H3 := Aside0.mk (below_step H2.out hb3)
    clear hb3
    go_wp2
    go_ret3
    exact ⟨rfl, H3.out⟩
end Go.Proofs.YtdpkgjahcapleaaGreat
set_option linter.unusedVariables false
set_option linter.unusedSimpArgs false
namespace Go.Proofs.YtdpkgjahcapleaaGreat
open Go.RowKit Go.Proofs.YtdpkgjahcapleaaGreat.Spec Go.Proofs.YtdpkgjahcapleaaGreatW.PrintWords Go.Proofs.YtdpkgjahcapleaaGreatW.PrintLast
open Go.Proofs.YtdpkgjahcapleaaGreatW.PrintMore
attribute [local go_sem ↓] Go.wp_at_zero Go.wp_at_succ
namespace Spec
def abab : List ByteArray := [⟨#[97, 98, 97, 98]⟩]
def three : ByteArray := ⟨#[97, 98, 97, 98, 97, 98]⟩
end Spec
theorem phr_abab : (phrases abab).1 = 0 := by decide +kernel
theorem abab_sizes : ∀ s ∈ abab, 1 ≤ s.size ∧ s.size ≤ 40 := by decide +kernel
end Go.Proofs.YtdpkgjahcapleaaGreat
set_option linter.unusedVariables false
set_option linter.unusedSimpArgs false
namespace Go.Proofs.YtdpkgjahcapleaaGreat
open Go.RowKit Go.Proofs.YtdpkgjahcapleaaGreat.Spec Go.Proofs.YtdpkgjahcapleaaGreatW.PrintWords Go.Proofs.YtdpkgjahcapleaaGreatW.PrintLast
open Go.Proofs.YtdpkgjahcapleaaGreatW.PrintMore
attribute [local go_sem ↓] Go.wp_at_zero Go.wp_at_succ
theorem phr_sizes (l : List ByteArray) : ∀ (sum : Nat) (seen : List ByteArray), (phr sum seen l).1 = 0 → ∀ s ∈ l, 1 ≤ s.size ∧ s.size ≤ 40 := by
  induction l with
  | nil => intro sum seen _ s h; cases h
  | cons x t ih =>
    intro sum seen h s hs
    unfold phr at h
    split at h
    · exact absurd h (by simp)
    · rename_i h1
      split at h
      · exact absurd h (by simp)
      · rename_i h2
        split at h
        · exact absurd h (by simp)
        · rcases List.mem_cons.1 hs with rfl | hs
          · omega
          · exact ih _ _ h s hs
theorem phrases_sizes {l : List ByteArray} (h : (phrases l).1 = 0) : l.length ≤ 100 ∧ ∀ s ∈ l, 1 ≤ s.size ∧ s.size ≤ 40 := by
  unfold phrases at h
  split at h
  · exact absurd h (by simp)
  · exact ⟨by omega, phr_sizes l 0 [] h⟩
def Given (l : List ByteArray) (b : ByteArray) : Prop := Bridge.few l = true ∧ b.size ≤ 400 ∧ (phrases l).1 = 0
set_option maxHeartbeats 1000000 in
set_option maxRecDepth 100000 in
theorem dict13_yes {A : Option Addr} {c : Nat} (l : List ByteArray) (b : ByteArray) (w : World) (hr : StrsIn w A l) (hc : l.length ≤ c) (hl : l.length ≤ 140737488351232) (hsz : ∀ s ∈ l, s.size ≤ 140737488351232) (h : Given l b) : Calls Tryz.prog 33 #[.slice A l.length c, .string b] w fun e w' => ∃ ad, e = .returned (.tuple #[.pointer (some ad), .bool true]) ∧ DictN w' (.pointer (some ad)) l ∧ Below w.heap.size w w' := by
  obtain ⟨h1, h2, h3⟩ := h
  have HF := Aside0.mk (few_calls l hr hc hl hsz)
  have HP := Aside0.mk (fun (W : World) (hr : StrsIn W A l) => rphrases_calls l hr hc hsz)
  have HM := Aside0.mk (fun (W : World) (hr : StrsIn W A l) => make_yes l W hr hc hsz h3)
  have HR := Aside0.mk hr
  have d1 : decide ((400 : Int) < (b.size : Int)) = false := decide_eq_false (by omega)
  have d2 : decide (400 < b.size) = false := decide_eq_false (by omega)
  have H1 := Aside0.mk h1
  have H3 := Aside0.mk h3
  clear hr hc hl hsz h1 h2 h3
  go_enter Tryz.func33, Tryz.ntmps33
  go_wp2_with fail
  refine HF.out.mono ?_
  rw [H1.out]
  rintro e w1 ⟨rfl, hb1⟩
  have HB1 := Aside0.mk hb1.below
  clear hb1
  go_wp2_with fail
  refine (HP.out _ (Kd.C_below HR.out HB1.out)).mono ?_
  rw [H3.out]
  rintro e w2 ⟨rfl, hb2⟩
  have HB2 := Aside0.mk (below_step HB1.out hb2.below)
  clear hb2
  go_wp2_with fail
  refine (HM.out _ (Kd.C_below HR.out HB2.out)).mono ?_
  rintro e w3 ⟨ad, rfl, hd, hb3⟩
  have HB3 := Aside0.mk (below_step HB2.out hb3)
  have HD := Aside0.mk hd
  clear hb3 hd
  go_wp2
  go_ret2
  exact ⟨ad, rfl, DictN.of HD.out, HB3.out⟩
set_option maxHeartbeats 1000000 in
set_option maxRecDepth 100000 in
theorem dict13_no {A : Option Addr} {c : Nat} (l : List ByteArray) (b : ByteArray) (w : World) (hr : StrsIn w A l) (hc : l.length ≤ c) (hl : l.length ≤ 140737488351232) (hsz : ∀ s ∈ l, s.size ≤ 140737488351232) (h : ¬ Given l b) : Calls Tryz.prog 33 #[.slice A l.length c, .string b] w fun e w' => e = .returned (.tuple #[.pointer none, .bool false]) ∧ Below w.heap.size w w' := by
  have HF := Aside0.mk (few_calls l hr hc hl hsz)
  have HP := Aside0.mk (fun (W : World) (hr : StrsIn W A l) => rphrases_calls l hr hc hsz)
  have HR := Aside0.mk hr
  have HG := Aside0.mk h
  clear hr hc hl hsz h
  cases h1 : Bridge.few l with
  | false =>
    have H1 := Aside0.mk h1
    clear h1
    go_enter Tryz.func33, Tryz.ntmps33
    go_wp2_with fail
    refine HF.out.mono ?_
    rw [H1.out]
    rintro e w1 ⟨rfl, hb1⟩
    have HB1 := Aside0.mk hb1.below
    clear hb1
    go_wp2
    go_ret2
    exact ⟨rfl, HB1.out⟩
  | true =>
    have H1 := Aside0.mk h1
    by_cases h2 : b.size ≤ 400
    · have hne : (phrases l).1 ≠ 0 := fun h3 => HG.out ⟨h1, h2, h3⟩
      have d1 : decide ((400 : Int) < (b.size : Int)) = false := decide_eq_false (by omega)
      have d2 : decide (400 < b.size) = false := decide_eq_false (by omega)
      have d3 : decide (((phrases l).1 : Int) = 0) = false := decide_eq_false (by omega)
      have d4 : (((phrases l).1 : Int) == 0) = false := beq_eq_false_iff_ne.2 (by omega)
      have d5 : ((phrases l).1 == 0) = false := beq_eq_false_iff_ne.2 hne
      clear h1 h2
      generalize (phrases l).1 = q at *
      generalize (phrases l).2 = q2 at *
      go_enter Tryz.func33, Tryz.ntmps33
      go_wp2_with fail
      refine HF.out.mono ?_
      rw [H1.out]
      rintro e w1 ⟨rfl, hb1⟩
      have HB1 := Aside0.mk hb1.below
      clear hb1
      go_wp2_with fail
      refine (HP.out _ (Kd.C_below HR.out HB1.out)).mono ?_
      rintro e w2 ⟨rfl, hb2⟩
      have HB2 := Aside0.mk (below_step HB1.out hb2.below)
      clear hb2
      go_wp2
      go_ret2
      exact ⟨rfl, HB2.out⟩
    · have d1 : decide ((400 : Int) < (b.size : Int)) = true := decide_eq_true (by omega)
      have d2 : decide (400 < b.size) = true := decide_eq_true (by omega)
      clear h1 h2
      go_enter Tryz.func33, Tryz.ntmps33
      go_wp2_with fail
      refine HF.out.mono ?_
      rw [H1.out]
      rintro e w1 ⟨rfl, hb1⟩
      have HB1 := Aside0.mk hb1.below
      clear hb1
      go_wp2
      go_ret2
      exact ⟨rfl, HB1.out⟩
end Go.Proofs.YtdpkgjahcapleaaGreat
