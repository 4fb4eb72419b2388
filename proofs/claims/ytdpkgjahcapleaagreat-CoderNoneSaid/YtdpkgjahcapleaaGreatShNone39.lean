/- ShNone: a part of its proof (contracts of the functions that it reaches, and the plain mathematics behind them). -/
import Derived.Test.YtdpkgjahcapleaaGreatShNone38
import Derived.Test.YtdpkgjahcapleaaGreatShNone32
set_option linter.unusedVariables false
set_option linter.unusedSimpArgs false
set_option linter.unusedVariables false
set_option linter.unusedSimpArgs false
namespace Go.Proofs.YtdpkgjahcapleaaGreat
open Go.RowKit Go.Proofs.YtdpkgjahcapleaaGreat.Spec Go.Proofs.YtdpkgjahcapleaaGreatW.PrintWords Go.Proofs.YtdpkgjahcapleaaGreatW.PrintLast
open Go.Proofs.YtdpkgjahcapleaaGreatW.PrintMore
attribute [local go_sem ↓] Go.wp_at_zero Go.wp_at_succ
namespace Spec
def toks (l : List ByteArray) (p : Int) (wd : Nat) (b : ByteArray) : List Int := if p = 0 then par l b b.size 0 else if p = 1 then fpar l b b.size 0 else bwin l wd b.size b
def cfgB (p q k w : Int) : Bool := decide (0 ≤ p ∧ p ≤ 2 ∧ 0 ≤ q ∧ q ≤ 1 ∧ 1 ≤ k ∧ k ≤ 1024 ∧ 1 ≤ w ∧ w ≤ 1024)
end Spec
theorem toks_zero (l : List ByteArray) (wd : Nat) (b : ByteArray) : toks l 0 wd b = par l b b.size 0 := by unfold toks; rw [if_pos rfl]
theorem toks_ok {l : List ByteArray} (hl : l.length ≤ 1000) (hs : ∀ s ∈ l, 1 ≤ s.size ∧ s.size ≤ 40) (p : Int) {wd : Nat} (hw : 1 ≤ wd) (b : ByteArray) (hb : b.size ≤ 100000) : cat l (toks l p wd b) = b ∧ (∀ t ∈ toks l p wd b, Tok l t) ∧ (toks l p wd b).length ≤ b.size ∧ (1 ≤ b.size → toks l p wd b ≠ []) := by
  have hne : cat l (toks l p wd b) = b → 1 ≤ b.size → toks l p wd b ≠ [] := by
    intro h h1 e
    rw [e] at h
    have := congrArg ByteArray.size h
    have h0 : (cat l []).size = 0 := rfl
    omega
  unfold toks at hne ⊢
  split
  · rename_i hp
    rw [if_pos hp] at hne
    have hf : ∀ a, a < b.size → Fits l b a (nxt l b a).1 (nxt l b a).2 := fun a ha => nxt_fits hs b a ha
    have h1 : cat l (par l b b.size 0) = b := by rw [par_tks, tks_cat hf _ _ (Nat.zero_le _) (by omega), extract_all]
    exact ⟨h1, par_tok hs b _ _, par_len l b _ _, hne h1⟩
  · rename_i hp
    split
    · rename_i hq
      rw [if_neg hp, if_pos hq] at hne
      have hf : ∀ a, a < b.size → Fits l b a (fnx l b a).1 (fnx l b a).2 := fun a ha => fnx_fits hs b a ha
      have h1 : cat l (fpar l b b.size 0) = b := by rw [fpar_tks, tks_cat hf _ _ (Nat.zero_le _) (by omega), extract_all]
      exact ⟨h1, by rw [fpar_tks]; exact tks_tok hf _ _, by rw [fpar_tks]; exact tks_len _ _ _ _, hne h1⟩
    · rename_i hq
      rw [if_neg hp, if_neg hq] at hne
      have h := bwin_cat hl hs wd hw b.size b (Nat.le_refl _) hb
      exact ⟨h.1, h.2, bwin_len l wd hw _ _, hne h.1⟩
theorem right_calls (p q k wd : Int) (w : World) : Calls Tryz.prog 35 #[.agg #[.int .i64 p, .int .i64 q, .int .i64 k, .int .i64 wd]] w fun e w' => e = .returned (.bool (cfgB p q k wd)) ∧ Below w.heap.size w w' := by
  refine Leaf.block_Right.calls p q k wd _ w ?_
  have hcod : ∀ x : Int, Leaf.block_coded.f x = some (decide (0 ≤ x ∧ x ≤ 1)) := by
    intro x
    unfold Leaf.block_coded.f
    split
    · rename_i h; subst h; rfl
    · congr 1
      rw [Bool.eq_iff_iff, beq_iff_eq, decide_eq_true_iff]
      omega
  have hsiz : ∀ x : Int, Leaf.block_size.f x = some (decide (1 ≤ x ∧ x ≤ 1024)) := by
    intro x
    unfold Leaf.block_size.f
    split
    · congr 1
      rw [decide_eq_decide]
      omega
    · congr 1
      symm
      rw [decide_eq_false_iff_not]
      omega
  unfold Leaf.block_Right.f
  rw [hcod, hsiz, hsiz]
  simp only [Option.bind_some]
  unfold cfgB
  by_cases h1 : p ≥ 0
  · rw [if_pos h1]
    by_cases h2 : p ≤ 2
    · rw [if_pos h2]
      by_cases h3 : 0 ≤ q ∧ q ≤ 1
      · rw [if_pos (decide_eq_true h3)]
        by_cases h4 : 1 ≤ k ∧ k ≤ 1024
        · rw [if_pos (decide_eq_true h4)]
          congr 1
          rw [decide_eq_decide]
          omega
        · rw [if_neg (by rw [decide_eq_true_iff]; exact h4)]
          congr 1
          symm
          rw [decide_eq_false_iff_not]
          omega
      · rw [if_neg (by rw [decide_eq_true_iff]; exact h3)]
        congr 1
        symm
        rw [decide_eq_false_iff_not]
        omega
    · rw [if_neg h2]
      congr 1
      symm
      rw [decide_eq_false_iff_not]
      omega
  · rw [if_neg h1]
    congr 1
    symm
    rw [decide_eq_false_iff_not]
    omega
theorem cfg_at {w w1 : World} {a b c d : Value} (hb : Below (w.alloc (.cells #[a, b, c, d] 24)).heap.size (w.alloc (.cells #[a, b, c, d] 24)) w1) :
    w1.cell? ⟨w.heap.size, 0, none⟩ = some a ∧ w1.cell? ⟨w.heap.size, 1, none⟩ = some b ∧ w1.cell? ⟨w.heap.size, 2, none⟩ = some c ∧ w1.cell? ⟨w.heap.size, 3, none⟩ = some d := by
  have hh : (w.alloc (.cells #[a, b, c, d] 24)).heap[w.heap.size]? = some (.cells #[a, b, c, d] 24 (0, 0)) := heap_alloc_new _ _
  exact ⟨pw_cell_below hb (blk_cell hh 0), pw_cell_below hb (blk_cell hh 1), pw_cell_below hb (blk_cell hh 2), pw_cell_below hb (blk_cell hh 3)⟩
end Go.Proofs.YtdpkgjahcapleaaGreat
