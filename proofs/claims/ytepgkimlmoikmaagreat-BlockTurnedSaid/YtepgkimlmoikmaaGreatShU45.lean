/- ShU: a part of its proof (contracts of the functions that it reaches, and the plain mathematics behind them). -/
import Derived.Test.YtepgkimlmoikmaaGreatShU19
import Derived.Test.YtepgkimlmoikmaaGreatShU43
import Derived.Deep.RegionHeld3
import Derived.Deep.DeepCutAuto
import Derived.Test.YtepgkimlmoikmaaGreatShU6
set_option linter.unusedVariables false
set_option linter.unusedSimpArgs false
set_option maxHeartbeats 2000000
set_option maxRecDepth 100000
set_option linter.unusedVariables false
set_option linter.unusedSimpArgs false
namespace Go.Proofs.YtepgkimlmoikmaaGreat
open Go.RowKit Go.Proofs.YtepgkimlmoikmaaGreat.Spec Go.Proofs.YtepgkimlmoikmaaGreatW.PrintWords Go.Proofs.YtepgkimlmoikmaaGreatW.PrintLast
open Go.Proofs.YtepgkimlmoikmaaGreatW.PrintMore
attribute [local go_sem ↓] Go.wp_at_zero Go.wp_at_succ
theorem conf_at {w w1 : World} (hb : Below (w.alloc (.cells #[.int .i64 0, .int .i64 0, .int .i64 100, .int .i64 100] 24)).heap.size (w.alloc (.cells #[.int .i64 0, .int .i64 0, .int .i64 100, .int .i64 100] 24)) w1) :
  w1.cell? ⟨w.heap.size, 0, none⟩ = some (.int .i64 0) ∧ w1.cell? ⟨w.heap.size, 1, none⟩ = some (.int .i64 0) ∧ w1.cell? ⟨w.heap.size, 2, none⟩ = some (.int .i64 100) ∧ w1.cell? ⟨w.heap.size, 3, none⟩ = some (.int .i64 100) := by
 have hh : (w.alloc (.cells #[.int .i64 0, .int .i64 0, .int .i64 100, .int .i64 100] 24)).heap[w.heap.size]? = some (.cells #[.int .i64 0, .int .i64 0, .int .i64 100, .int .i64 100] 24 (0, 0)) := heap_alloc_new _ _
 exact ⟨pw_cell_below hb (blk_cell hh 0), pw_cell_below hb (blk_cell hh 1), pw_cell_below hb (blk_cell hh 2), pw_cell_below hb (blk_cell hh 3)⟩
theorem conf_right (w : World) : Calls Tryz.prog 26 #[.agg #[.int .i64 0, .int .i64 0, .int .i64 100, .int .i64 100]] w fun e w' => e = .returned (.bool true) ∧ Below w.heap.size w w' :=
 Leaf.block_Right.calls 0 0 100 100 true w (by decide +kernel)
theorem not_nil {b : ByteArray} (h : 1 ≤ b.size) : b.toList.isEmpty = false := by
 rw [Lib.toList_data]
 rw [Bool.eq_false_iff]
 intro e
 have h2 := congrArg List.length (List.isEmpty_iff.1 e)
 have h3 : b.data.toList.length = b.size := u_size b
 rw [h3, List.length_nil] at h2
 omega
theorem tokens_small {p : Value} {l : List ByteArray} {w : World} (hd : DictN w p l) (hl : l.length ≤ 1000) (hs : ∀ s ∈ l, 1 ≤ s.size ∧ s.size ≤ 40) (b : ByteArray) (h1 : 1 ≤ b.size) (hb : b.size ≤ 100) :
  Calls Tryz.prog 21 #[p, .agg #[.int .i64 0, .int .i64 0, .int .i64 100, .int .i64 100], .string b] w fun e w' => ∃ A c, e = .returned (.tuple #[.slice A (par l b b.size 0).length c, .int .i64 0]) ∧ (par l b b.size 0).length ≤ c ∧ IntsIn w' A (par l b b.size 0) ∧ Below w.heap.size w w' := by
 have HD := Aside0.mk hd
 have HP := Aside0.mk (fun (W : World) (h : DictN W p l) => parse_any h hl hs b (by omega))
 have z1 := not_nil h1
 have z2 : ¬ b.toList = [] := by intro e; rw [e] at z1; cases z1
 have d1 : decide ((100 : Int) < (b.size : Int)) = false := decide_eq_false (by omega)
 have d2 : decide (100 < b.size) = false := decide_eq_false (by omega)
 clear hd hl hs h1 hb
 go_enter Tryz.func21, Tryz.ntmps21
 go_wp2_with fail
 refine (conf_right _).mono ?_
 rintro e w1 ⟨rfl, hb1⟩
 obtain ⟨c0, c1, c2, c3⟩ := conf_at hb1
 have H1 := Aside0.mk (below_step (below_alloc (Below.refl _ _) _) hb1)
 clear hb1
 go_wp2_with fail
 refine (HP.out _ (HD.out.below H1.out)).mono ?_
 rintro e w2 ⟨A, c, rfl, hc, hC, hb2⟩
 have HC := Aside0.mk hC
 have HCC := Aside0.mk hc
 have H2 := Aside0.mk (below_step H1.out hb2)
 clear hc hC hb2
 go_wp2
 go_ret2
 exact ⟨A, c, rfl, HCC.out, HC.out, H2.out⟩
theorem put_small {p : Value} {l : List ByteArray} {w : World} (hd : DictN w p l) (hl : l.length ≤ 1000) (hs : ∀ s ∈ l, 1 ≤ s.size ∧ s.size ≤ 40) (b : ByteArray) (h1 : 1 ≤ b.size) (hb : b.size ≤ 100) (hne : par l b b.size 0 ≠ []) :
  Calls Tryz.prog 24 #[p, .agg #[.int .i64 0, .int .i64 0, .int .i64 100, .int .i64 100], .string b] w fun e w' => e = .returned (.tuple (if (nums2 (par l b b.size 0)).length < b.size then #[.int .i64 2, .string (str (nums2 (par l b b.size 0))), .int .i64 0] else #[.int .i64 1, .string b, .int .i64 0])) ∧ Below w.heap.size w w' := by
 have HD := Aside0.mk hd
 have HT := Aside0.mk (fun (W : World) (h : DictN W p l) => tokens_small h hl hs b h1 hb)
 have hpl := par_len l b b.size 0
 have HL := Aside0.mk (fun (W : World) (h : DictN W p l) (A : Option Addr) (c : Nat) (hr : IntsIn W A (par l b b.size 0)) (hc : (par l b b.size 0).length ≤ c) => lay_nums (par l b b.size 0) h hl hs hr hc (by omega) hne (par_tok hs b b.size 0))
 have hz : (str (nums2 (par l b b.size 0))).size = (nums2 (par l b b.size 0)).length := by rw [← u_size, u_str]
 generalize str (nums2 (par l b b.size 0)) = s at *
 clear hd hl hs h1 hb hne hpl
 by_cases hq : (nums2 (par l b b.size 0)).length < b.size
 ·rw [if_pos hq]
  have d1 : decide ((s.size : Int) < (b.size : Int)) = true := decide_eq_true (by omega)
  have d2 : decide (s.size < b.size) = true := decide_eq_true (by omega)
  clear hq hz
  go_enter Tryz.func24, Tryz.ntmps24
  go_wp2_with fail
  refine (HT.out _ (HD.out.below (below_alloc (Below.refl _ _) _))).mono ?_
  rintro e w2 ⟨A, c, rfl, hc, hC, hb2⟩
  obtain ⟨c0, c1, c2, c3⟩ := conf_at hb2
  have HC := Aside0.mk hC
  have HCC := Aside0.mk hc
  have H2 := Aside0.mk (below_step (below_alloc (Below.refl _ _) _) hb2)
  clear hc hC hb2
  go_wp2_with fail
  refine (HL.out _ (HD.out.below H2.out) A c HC.out HCC.out).mono ?_
  rintro e w3 ⟨rfl, hb3⟩
  have H3 := Aside0.mk (below_step H2.out hb3)
  clear hb3
  go_wp2
  go_ret3
  exact ⟨rfl, H3.out⟩
 ·rw [if_neg hq]
  have d1 : decide ((s.size : Int) < (b.size : Int)) = false := decide_eq_false (by omega)
  have d2 : decide (s.size < b.size) = false := decide_eq_false (by omega)
  clear hq hz
  go_enter Tryz.func24, Tryz.ntmps24
  go_wp2_with fail
  refine (HT.out _ (HD.out.below (below_alloc (Below.refl _ _) _))).mono ?_
  rintro e w2 ⟨A, c, rfl, hc, hC, hb2⟩
  obtain ⟨c0, c1, c2, c3⟩ := conf_at hb2
  have HC := Aside0.mk hC
  have HCC := Aside0.mk hc
  have H2 := Aside0.mk (below_step (below_alloc (Below.refl _ _) _) hb2)
  clear hc hC hb2
  go_wp2_with fail
  refine (HL.out _ (HD.out.below H2.out) A c HC.out HCC.out).mono ?_
  rintro e w3 ⟨rfl, hb3⟩
  have H3 := Aside0.mk (below_step H2.out hb3)
  clear hb3
  go_wp2
  go_ret3
  exact ⟨rfl, H3.out⟩
end Go.Proofs.YtepgkimlmoikmaaGreat
set_option linter.unusedVariables false
set_option linter.unusedSimpArgs false
namespace Go.Proofs.YtepgkimlmoikmaaGreat
open Go.RowKit Go.Proofs.YtepgkimlmoikmaaGreat.Spec Go.Proofs.YtepgkimlmoikmaaGreatW.PrintWords Go.Proofs.YtepgkimlmoikmaaGreatW.PrintLast
open Go.Proofs.YtepgkimlmoikmaaGreatW.PrintMore
attribute [local go_sem ↓] Go.wp_at_zero Go.wp_at_succ
namespace Spec
def abab : List ByteArray := [⟨#[97, 98, 97, 98]⟩]
def oneA : ByteArray := ⟨#[97]⟩
def three : ByteArray := ⟨#[97, 98, 97, 98, 97, 98]⟩
end Spec
theorem par_a : par abab oneA oneA.size 0 = [97] := by decide +kernel
theorem par_three : par abab three three.size 0 = [256, 97, 98] := by decide +kernel
theorem lay_a : nums2 [97] = [97] := by decide +kernel
theorem lay_three : nums2 [256, 97, 98] = [128, 2, 97, 98] := by decide +kernel
theorem phr_abab : (phrases abab).1 = 0 := by decide +kernel
theorem cat_three : cat abab [256, 97, 98] = three := by apply u_inj; decide +kernel
theorem abab_sizes : ∀ s ∈ abab, 1 ≤ s.size ∧ s.size ≤ 40 := by decide +kernel
theorem alive22 (w : World) : Calls Tryz.prog 20 #[] w fun e w' => e = .returned (.bool true) ∧ Below w.heap.size w w' := by
 have HA : ∀ W : World, Calls Tryz.prog 67 #[.slice (some ⟨W.heap.size, 0, none⟩) 1 1] (W.alloc (.cells #[.string ⟨#[97, 98, 97, 98]⟩] 9)) fun e w' => ∃ ad, e = .returned (.pointer (some ad)) ∧ Aside0 (DictN w' (.pointer (some ad)) abab) ∧ Below W.heap.size W w' := by
  intro W
  refine (make_yes abab _ (strs_lit W abab (by decide)) (Nat.le_refl _) (fun s hs => by have := (abab_sizes s hs).2; omega) phr_abab).mono ?_
  rintro e w' ⟨ad, rfl, hd, hb⟩
  exact ⟨ad, rfl, ⟨DictN.of hd⟩, below_step ((Below.refl _ _).alloc (Nat.le_refl _) _) hb⟩
 have HP1 : ∀ (W : World) (p : Value), DictN W p abab → Calls Tryz.prog 24 #[p, .agg #[.int .i64 0, .int .i64 0, .int .i64 100, .int .i64 100], .string ⟨#[97]⟩] W fun e w' => e = .returned (.tuple #[.int .i64 1, .string ⟨#[97]⟩, .int .i64 0]) ∧ Below W.heap.size W w' := by
  intro W p hd
  have h := put_small hd (by decide) abab_sizes oneA (by decide) (by decide) (by rw [par_a]; simp)
  rw [par_a, lay_a, if_neg (by decide)] at h
  exact h
 have HP2 : ∀ (W : World) (p : Value), DictN W p abab → Calls Tryz.prog 24 #[p, .agg #[.int .i64 0, .int .i64 0, .int .i64 100, .int .i64 100], .string ⟨#[97, 98, 97, 98, 97, 98]⟩] W fun e w' => e = .returned (.tuple #[.int .i64 2, .string ⟨#[128, 2, 97, 98]⟩, .int .i64 0]) ∧ Below W.heap.size W w' := by
  intro W p hd
  have h := put_small hd (by decide) abab_sizes three (by decide) (by decide) (by rw [par_three]; simp)
  rw [par_three, lay_three, if_pos (by decide)] at h
  exact h
 have HG : ∀ (W : World) (p : Value), DictN W p abab → Calls Tryz.prog 30 #[p, .int .i64 0, .int .i64 2, .int .i64 6, .string ⟨#[128, 2, 97, 98]⟩] W fun e w' => e = .returned (.tuple #[.string ⟨#[97, 98, 97, 98, 97, 98]⟩, .int .i64 0]) ∧ Below W.heap.size W w' := by
  intro W p hd
  have h := get_nums [256, 97, 98] hd (by decide) abab_sizes (by decide) (by rw [cat_three]; decide) (by rw [cat_three]; decide)
  rw [cat_three, lay_three] at h
  exact h
 have HA' := Aside0.mk HA
 have HP1' := Aside0.mk HP1
 have HP2' := Aside0.mk HP2
 have HG' := Aside0.mk HG
 clear HA HP1 HP2 HG
 go_enter Tryz.func20, Tryz.ntmps20
 go_wp2_with fail
 refine (HA'.out _).mono ?_
 rintro e w1 ⟨ad, rfl, HD, hb1⟩
 have H1 := Aside0.mk hb1
 clear hb1
 go_wp2_with fail
 refine (HP1'.out _ _ (HD.out.below (below_alloc (Below.refl _ _) _))).mono ?_
 rintro e w2 ⟨rfl, hb2⟩
 obtain ⟨c0, c1, c2, c3⟩ := conf_at hb2
 have H2 := Aside0.mk (below_step (below_alloc (Below.refl _ _) _) hb2)
 clear hb2
 go_wp2_with fail
 refine (HP2'.out _ _ (HD.out.below H2.out)).mono ?_
 rintro e w3 ⟨rfl, hb3⟩
 have H3 := Aside0.mk (below_step H2.out hb3)
 clear hb3
 go_wp2_with fail
 refine (HG'.out _ _ (HD.out.below H3.out)).mono ?_
 rintro e w4 ⟨rfl, hb4⟩
 have H4 := Aside0.mk (below_step H1.out (below_step H3.out hb4))
 clear hb4
 go_wp2
 go_ret
 exact ⟨rfl, H4.out⟩
end Go.Proofs.YtepgkimlmoikmaaGreat
set_option linter.unusedVariables false
set_option linter.unusedSimpArgs false
namespace Go.Proofs.YtepgkimlmoikmaaGreat
open Go.RowKit Go.Proofs.YtepgkimlmoikmaaGreat.Spec Go.Proofs.YtepgkimlmoikmaaGreatW.PrintWords Go.Proofs.YtepgkimlmoikmaaGreatW.PrintLast
open Go.Proofs.YtepgkimlmoikmaaGreatW.PrintMore
attribute [local go_sem ↓] Go.wp_at_zero Go.wp_at_succ
theorem phr_sizes (l : List ByteArray) : ∀ (sum : Nat) (seen : List ByteArray), (phr sum seen l).1 = 0 → ∀ s ∈ l, 1 ≤ s.size ∧ s.size ≤ 40 := by
 induction l with
 | nil => intro sum seen _ s h; cases h
 | cons x t ih =>
  intro sum seen h s hs
  unfold phr at h
  split at h
  ·exact absurd h (by simp)
  ·rename_i h1
   split at h
   ·exact absurd h (by simp)
   ·rename_i h2
    split at h
    ·exact absurd h (by simp)
    ·rcases List.mem_cons.1 hs with rfl | hs
     ·omega
     ·exact ih _ _ h s hs
theorem phrases_sizes {l : List ByteArray} (h : (phrases l).1 = 0) : l.length ≤ 100 ∧ ∀ s ∈ l, 1 ≤ s.size ∧ s.size ≤ 40 := by
 unfold phrases at h
 split at h
 ·exact absurd h (by simp)
 ·exact ⟨by omega, phr_sizes l 0 [] h⟩
def Given (l : List ByteArray) (b : ByteArray) : Prop := Bridge.few l = true ∧ b.size ≤ 400 ∧ (phrases l).1 = 0
theorem dict13_yes {A : Option Addr} {c : Nat} (l : List ByteArray) (b : ByteArray) (w : World) (hr : StrsIn w A l) (hc : l.length ≤ c) (hl : l.length ≤ 140737488351232) (hsz : ∀ s ∈ l, s.size ≤ 140737488351232) (h : Given l b) : Calls Tryz.prog 19 #[.slice A l.length c, .string b] w fun e w' => ∃ ad, e = .returned (.tuple #[.pointer (some ad), .bool true]) ∧ DictN w' (.pointer (some ad)) l ∧ Below w.heap.size w w' := by
 obtain ⟨h1, h2, h3⟩ := h
 have HF := Aside0.mk (few_calls l hr hc hl hsz)
 have HP := Aside0.mk (fun (W : World) (hr : StrsIn W A l) => rphrases_calls l hr hc hsz)
 have HM := Aside0.mk (fun (W : World) (hr : StrsIn W A l) => make_yes l W hr hc hsz h3)
 have HR := Aside0.mk hr
 have d1 : decide ((400 : Int) < (b.size : Int)) = false := decide_eq_false (by omega)
 have d2 : decide (400 < b.size) = false := decide_eq_false (by omega)
 have H1 := Aside0.mk h1
 have H3 := Aside0.mk h3
 clear hr hc hl hsz h1 h2 h3
 go_enter Tryz.func19, Tryz.ntmps19
 go_wp2_with fail
 refine HF.out.mono ?_
 rw [H1.out]
 rintro e w1 ⟨rfl, hb1⟩
 have HB1 := Aside0.mk hb1.below
 clear hb1
 go_wp2_with fail
 refine (HP.out _ (Kd.C_below HR.out HB1.out)).mono ?_
 rw [H3.out]
 rintro e w2 ⟨rfl, hb2⟩
 have HB2 := Aside0.mk (below_step HB1.out hb2.below)
 clear hb2
 go_wp2_with fail
 refine (HM.out _ (Kd.C_below HR.out HB2.out)).mono ?_
 rintro e w3 ⟨ad, rfl, hd, hb3⟩
 have HB3 := Aside0.mk (below_step HB2.out hb3)
 have HD := Aside0.mk hd
 clear hb3 hd
 go_wp2
 go_ret2
 exact ⟨ad, rfl, DictN.of HD.out, HB3.out⟩
theorem dict13_no {A : Option Addr} {c : Nat} (l : List ByteArray) (b : ByteArray) (w : World) (hr : StrsIn w A l) (hc : l.length ≤ c) (hl : l.length ≤ 140737488351232) (hsz : ∀ s ∈ l, s.size ≤ 140737488351232) (h : ¬ Given l b) : Calls Tryz.prog 19 #[.slice A l.length c, .string b] w fun e w' => e = .returned (.tuple #[.pointer none, .bool false]) ∧ Below w.heap.size w w' := by
 have HF := Aside0.mk (few_calls l hr hc hl hsz)
 have HP := Aside0.mk (fun (W : World) (hr : StrsIn W A l) => rphrases_calls l hr hc hsz)
 have HR := Aside0.mk hr
 have HG := Aside0.mk h
 clear hr hc hl hsz h
 cases h1 : Bridge.few l with
 | false =>
  have H1 := Aside0.mk h1
  clear h1
  go_enter Tryz.func19, Tryz.ntmps19
  go_wp2_with fail
  refine HF.out.mono ?_
  rw [H1.out]
  rintro e w1 ⟨rfl, hb1⟩
  have HB1 := Aside0.mk hb1.below
  clear hb1
  go_wp2
  go_ret2
  exact ⟨rfl, HB1.out⟩
 | true =>
  have H1 := Aside0.mk h1
  by_cases h2 : b.size ≤ 400
  ·have hne : (phrases l).1 ≠ 0 := fun h3 => HG.out ⟨h1, h2, h3⟩
   have d1 : decide ((400 : Int) < (b.size : Int)) = false := decide_eq_false (by omega)
   have d2 : decide (400 < b.size) = false := decide_eq_false (by omega)
   have d3 : decide (((phrases l).1 : Int) = 0) = false := decide_eq_false (by omega)
   have d4 : (((phrases l).1 : Int) == 0) = false := beq_eq_false_iff_ne.2 (by omega)
   have d5 : ((phrases l).1 == 0) = false := beq_eq_false_iff_ne.2 hne
   clear h1 h2
   generalize (phrases l).1 = q at *
   generalize (phrases l).2 = q2 at *
   go_enter Tryz.func19, Tryz.ntmps19
   go_wp2_with fail
   refine HF.out.mono ?_
   rw [H1.out]
   rintro e w1 ⟨rfl, hb1⟩
   have HB1 := Aside0.mk hb1.below
   clear hb1
   go_wp2_with fail
   refine (HP.out _ (Kd.C_below HR.out HB1.out)).mono ?_
   rintro e w2 ⟨rfl, hb2⟩
   have HB2 := Aside0.mk (below_step HB1.out hb2.below)
   clear hb2
   go_wp2
   go_ret2
   exact ⟨rfl, HB2.out⟩
  ·have d1 : decide ((400 : Int) < (b.size : Int)) = true := decide_eq_true (by omega)
   have d2 : decide (400 < b.size) = true := decide_eq_true (by omega)
   clear h1 h2
   go_enter Tryz.func19, Tryz.ntmps19
   go_wp2_with fail
   refine HF.out.mono ?_
   rw [H1.out]
   rintro e w1 ⟨rfl, hb1⟩
   have HB1 := Aside0.mk hb1.below
   clear hb1
   go_wp2
   go_ret2
   exact ⟨rfl, HB1.out⟩
end Go.Proofs.YtepgkimlmoikmaaGreat
set_option linter.unusedVariables false
set_option linter.unusedSimpArgs false
namespace Go.Proofs.YtepgkimlmoikmaaGreat
open Go.RowKit Go.Proofs.YtepgkimlmoikmaaGreat.Spec Go.Proofs.YtepgkimlmoikmaaGreatW.PrintWords Go.Proofs.YtepgkimlmoikmaaGreatW.PrintLast
open Go.Proofs.YtepgkimlmoikmaaGreatW.PrintMore
attribute [local go_sem ↓] Go.wp_at_zero Go.wp_at_succ
attribute [local go_sem] max2_int min2_int max_two min_two
theorem below_set {w W : World} (h : Below w.heap.size w W) {g : Nat} (hg : w.heap.size ≤ g) (i : Nat) (v : Value) : Below w.heap.size w (W.setCell ⟨g, i, none⟩ v) := h.setCell hg v
end Go.Proofs.YtepgkimlmoikmaaGreat
set_option linter.unusedVariables false
set_option linter.unusedSimpArgs false
namespace Go.Proofs.YtepgkimlmoikmaaGreat
open Go.RowKit Go.Proofs.YtepgkimlmoikmaaGreat.Spec Go.Proofs.YtepgkimlmoikmaaGreatW.PrintWords Go.Proofs.YtepgkimlmoikmaaGreatW.PrintLast
open Go.Proofs.YtepgkimlmoikmaaGreatW.PrintMore
attribute [local go_sem ↓] Go.wp_at_zero Go.wp_at_succ
attribute [local go_sem] max2_int min2_int max_two min_two
end Go.Proofs.YtepgkimlmoikmaaGreat
set_option linter.unusedVariables false
set_option linter.unusedSimpArgs false
namespace Go.Proofs.YtepgkimlmoikmaaGreat
open Go.RowKit Go.Proofs.YtepgkimlmoikmaaGreat.Spec Go.Proofs.YtepgkimlmoikmaaGreatW.PrintWords Go.Proofs.YtepgkimlmoikmaaGreatW.PrintLast
open Go.Proofs.YtepgkimlmoikmaaGreatW.PrintMore
attribute [local go_sem ↓] Go.wp_at_zero Go.wp_at_succ
attribute [local go_sem] max2_int min2_int max_two min_two
namespace Spec
end Spec
end Go.Proofs.YtepgkimlmoikmaaGreat
set_option linter.unusedVariables false
set_option linter.unusedSimpArgs false
namespace Go.Proofs.YtepgkimlmoikmaaGreat
open Go.RowKit Go.Proofs.YtepgkimlmoikmaaGreat.Spec Go.Proofs.YtepgkimlmoikmaaGreatW.PrintWords Go.Proofs.YtepgkimlmoikmaaGreatW.PrintLast
open Go.Proofs.YtepgkimlmoikmaaGreatW.PrintMore
attribute [local go_sem ↓] Go.wp_at_zero Go.wp_at_succ
attribute [local go_sem] max2_int min2_int max_two min_two
end Go.Proofs.YtepgkimlmoikmaaGreat
set_option linter.unusedVariables false
set_option linter.unusedSimpArgs false
namespace Go.Proofs.YtepgkimlmoikmaaGreat
open Go.RowKit Go.Proofs.YtepgkimlmoikmaaGreat.Spec Go.Proofs.YtepgkimlmoikmaaGreatW.PrintWords Go.Proofs.YtepgkimlmoikmaaGreatW.PrintLast
open Go.Proofs.YtepgkimlmoikmaaGreatW.PrintMore
attribute [local go_sem ↓] Go.wp_at_zero Go.wp_at_succ
attribute [local go_sem] max2_int min2_int max_two min_two
end Go.Proofs.YtepgkimlmoikmaaGreat
set_option linter.unusedVariables false
set_option linter.unusedSimpArgs false
namespace Go.Proofs.YtepgkimlmoikmaaGreat
open Go.RowKit Go.Proofs.YtepgkimlmoikmaaGreat.Spec Go.Proofs.YtepgkimlmoikmaaGreatW.PrintWords Go.Proofs.YtepgkimlmoikmaaGreatW.PrintLast
open Go.Proofs.YtepgkimlmoikmaaGreatW.PrintMore
attribute [local go_sem ↓] Go.wp_at_zero Go.wp_at_succ
attribute [local go_sem] max2_int min2_int max_two min_two
theorem wrap_nine {n : Nat} (h : (n : Int) ≤ 65535) : wrap64 (9 + (n : Int)) = 9 + (n : Int) := (show wrap64 ((9 + n : Nat) : Int) = 9 + (n : Int) by rw [Bridge.wrN _ (by omega)]; omega)
attribute [local go_sem] wrap_nine
end Go.Proofs.YtepgkimlmoikmaaGreat
