/- Chapter 22 is alive; the document's dictionaries of chapter 13. -/
import Derived.Test.YtboklkfplnmabaaGreatPut
set_option linter.unusedVariables false
set_option linter.unusedSimpArgs false
namespace Go.Proofs.YtboklkfplnmabaaGreat
open Go.RowKit Go.Proofs.YtboklkfplnmabaaGreat.Spec Go.Proofs.YtboklkfplnmabaaGreatW.PrintWords Go.Proofs.YtboklkfplnmabaaGreatW.PrintLast
open Go.Proofs.YtboklkfplnmabaaGreatW.PrintMore
attribute [local go_sem ↓] Go.wp_at_zero Go.wp_at_succ
namespace Spec
def abab : List ByteArray := [⟨#[97, 98, 97, 98]⟩]
def oneA : ByteArray := ⟨#[97]⟩
def three : ByteArray := ⟨#[97, 98, 97, 98, 97, 98]⟩
end Spec
theorem par_a : par abab oneA oneA.size 0 = [97] := by decide +kernel
theorem par_three : par abab three three.size 0 = [256, 97, 98] := by decide +kernel
theorem lay_a : nums2 [97] = [97] := by decide +kernel
theorem lay_three : nums2 [256, 97, 98] = [128, 2, 97, 98] := by decide +kernel
theorem phr_abab : (phrases abab).1 = 0 := by decide +kernel
theorem cat_three : cat abab [256, 97, 98] = three := by apply u_inj; decide +kernel
theorem abab_sizes : ∀ s ∈ abab, 1 ≤ s.size ∧ s.size ≤ 40 := by decide +kernel
set_option maxHeartbeats 1000000 in
set_option maxRecDepth 100000 in
theorem alive22 (w : World) : Calls Tryz.prog 8 #[] w fun e w' => e = .returned (.bool true) ∧ Below w.heap.size w w' := by
  have HA : ∀ W : World, Calls Tryz.prog 27 #[.slice (some ⟨W.heap.size, 0, none⟩) 1 1] (W.alloc (.cells #[.string ⟨#[97, 98, 97, 98]⟩] 9)) fun e w' => ∃ ad, e = .returned (.pointer (some ad)) ∧ Aside0 (DictN w' (.pointer (some ad)) abab) ∧ Below W.heap.size W w' := by
    intro W
    refine (make_yes abab _ (strs_lit W abab (by decide)) (Nat.le_refl _) (fun s hs => by have := (abab_sizes s hs).2; omega) phr_abab).mono ?_
    rintro e w' ⟨ad, rfl, hd, hb⟩
    exact ⟨ad, rfl, ⟨DictN.of hd⟩, below_step ((Below.refl _ _).alloc (Nat.le_refl _) _) hb⟩
  have HP1 : ∀ (W : World) (p : Value), DictN W p abab → Calls Tryz.prog 12 #[p, .agg #[.int .i64 0, .int .i64 0, .int .i64 100, .int .i64 100], .string ⟨#[97]⟩] W fun e w' => e = .returned (.tuple #[.int .i64 1, .string ⟨#[97]⟩, .int .i64 0]) ∧ Below W.heap.size W w' := by
    intro W p hd
    have h := put_small hd (by decide) abab_sizes oneA (by decide) (by decide) (by rw [par_a]; simp)
    rw [par_a, lay_a, if_neg (by decide)] at h
    exact h
  have HP2 : ∀ (W : World) (p : Value), DictN W p abab → Calls Tryz.prog 12 #[p, .agg #[.int .i64 0, .int .i64 0, .int .i64 100, .int .i64 100], .string ⟨#[97, 98, 97, 98, 97, 98]⟩] W fun e w' => e = .returned (.tuple #[.int .i64 2, .string ⟨#[128, 2, 97, 98]⟩, .int .i64 0]) ∧ Below W.heap.size W w' := by
    intro W p hd
    have h := put_small hd (by decide) abab_sizes three (by decide) (by decide) (by rw [par_three]; simp)
    rw [par_three, lay_three, if_pos (by decide)] at h
    exact h
  have HG : ∀ (W : World) (p : Value), DictN W p abab → Calls Tryz.prog 18 #[p, .int .i64 0, .int .i64 2, .int .i64 6, .string ⟨#[128, 2, 97, 98]⟩] W fun e w' => e = .returned (.tuple #[.string ⟨#[97, 98, 97, 98, 97, 98]⟩, .int .i64 0]) ∧ Below W.heap.size W w' := by
    intro W p hd
    have h := get_nums [256, 97, 98] hd (by decide) abab_sizes (by decide) (by rw [cat_three]; decide) (by rw [cat_three]; decide)
    rw [cat_three, lay_three] at h
    exact h
  have HA' := Aside0.mk HA
  have HP1' := Aside0.mk HP1
  have HP2' := Aside0.mk HP2
  have HG' := Aside0.mk HG
  clear HA HP1 HP2 HG
  go_enter Tryz.func8, Tryz.ntmps8
  go_wp2_with fail
  refine (HA'.out _).mono ?_
  rintro e w1 ⟨ad, rfl, HD, hb1⟩
  have H1 := Aside0.mk hb1
  clear hb1
  go_wp2_with fail
  refine (HP1'.out _ _ (HD.out.below (below_alloc (Below.refl _ _) _))).mono ?_
  rintro e w2 ⟨rfl, hb2⟩
  obtain ⟨c0, c1, c2, c3⟩ := conf_at hb2
  have H2 := Aside0.mk (below_step (below_alloc (Below.refl _ _) _) hb2)
  clear hb2
  go_wp2_with fail
  refine (HP2'.out _ _ (HD.out.below H2.out)).mono ?_
  rintro e w3 ⟨rfl, hb3⟩
  have H3 := Aside0.mk (below_step H2.out hb3)
  clear hb3
  go_wp2_with fail
  refine (HG'.out _ _ (HD.out.below H3.out)).mono ?_
  rintro e w4 ⟨rfl, hb4⟩
  have H4 := Aside0.mk (below_step H1.out (below_step H3.out hb4))
  clear hb4
  go_wp2
  go_ret
  exact ⟨rfl, H4.out⟩
end Go.Proofs.YtboklkfplnmabaaGreat
