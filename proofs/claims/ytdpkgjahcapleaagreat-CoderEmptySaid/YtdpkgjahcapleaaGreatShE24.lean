/- ShE: a part of its proof (contracts of the functions that it reaches, and the plain mathematics behind them). -/
import Derived.Test.YtdpkgjahcapleaaGreatShE22
import Derived.IntWalk
import Derived.Test.YtdpkgjahcapleaaGreatShE23
set_option linter.unusedVariables false
set_option linter.unusedSimpArgs false
set_option linter.unusedVariables false
set_option linter.unusedSimpArgs false
namespace Go.Proofs.YtdpkgjahcapleaaGreat
open Go.RowKit Go.Proofs.YtdpkgjahcapleaaGreat.Spec Go.Proofs.YtdpkgjahcapleaaGreatW.PrintWords Go.Proofs.YtdpkgjahcapleaaGreatW.PrintLast
open Go.Proofs.YtdpkgjahcapleaaGreatW.PrintMore
attribute [local go_sem ↓] Go.wp_at_zero Go.wp_at_succ
theorem run_store_complex {P : Program} {w : World} {a : Addr} {m : Mode} (k : FloatKind) (x y : Nat) : (store a (.complex k x y) m).run P w = stored P w a (.complex k x y) m := run_store P w a _ m rfl
attribute [local go_sem] run_store_complex
def RowC (w : World) (g : Nat) (l : List (Nat × Nat)) : Prop := w.heap[g]? = some (.cells (l.map encC).toArray 175 (0, 0))
def flat : List (Int × Nat) → List Value
  | [] => []
  | s :: r => .int .i64 s.1 :: .int .i64 (s.2 : Int) :: flat r
def RowF (w : World) (g : Nat) (l : List (Int × Nat)) : Prop := w.heap[g]? = some (.cells (flat l).toArray 152 (0, 0))
theorem flat_set : ∀ (l : List (Int × Nat)) (i : Nat) (s : Int × Nat), ((flat l).set (i * 2) (.int .i64 s.1)).set (i * 2 + 1) (.int .i64 (s.2 : Int)) = flat (l.set i s) := by
  intro l
  induction l with
  | nil => intro i s; rfl
  | cons x r ih =>
    intro i s
    cases i with
    | zero => rfl
    | succ i =>
      rw [show (i + 1) * 2 = i * 2 + 1 + 1 by omega, List.set_cons_succ]
      show Value.int .i64 x.1 :: Value.int .i64 (x.2 : Int) :: (((flat r).set (i * 2) (.int .i64 s.1)).set (i * 2 + 1) (.int .i64 (s.2 : Int))) = _
      rw [ih i s]
      rfl
theorem RowC.get {w : World} {g : Nat} {l : List (Nat × Nat)} (h : RowC w g l) (i : Nat) (x : Nat × Nat) (hx : l[i]? = some x) : w.cell? ⟨g, i, none⟩ = some (.complex .f64 (fl x.1) (fl x.2)) := by
  refine (blk_cell h i).trans ?_
  rw [List.getElem?_toArray, List.getElem?_map, hx]
  rfl
theorem RowC.fz {w : World} {g : Nat} {l : List (Nat × Nat)} (h : RowC w g l) (i : Nat) : w.frozen? ⟨g, i, none⟩ = false := blk_frozen h i
theorem RowC.put {w : World} {g : Nat} {l : List (Nat × Nat)} (h : RowC w g l) (i : Nat) (x : Nat × Nat) : RowC (w.setCell ⟨g, i, none⟩ (.complex .f64 (fl x.1) (fl x.2))) g (l.set i x) := by
  refine blk_put h i _ ?_
  rw [List.setIfInBounds_toArray, List.map_set]
  rfl
theorem RowF.fz {w : World} {g : Nat} {l : List (Int × Nat)} (h : RowF w g l) (i : Nat) : w.frozen? ⟨g, i, none⟩ = false := blk_frozen h i
theorem RowF.put {w : World} {g : Nat} {l : List (Int × Nat)} (h : RowF w g l) (i : Nat) (x : Int × Nat) : RowF ((w.setCell ⟨g, i * 2, none⟩ (.int .i64 x.1)).setCell ⟨g, i * 2 + 1, none⟩ (.int .i64 (x.2 : Int))) g (l.set i x) := by
  refine blk_put (blk_put h (i * 2) _ rfl) (i * 2 + 1) _ ?_
  rw [List.setIfInBounds_toArray, List.setIfInBounds_toArray, flat_set]
end Go.Proofs.YtdpkgjahcapleaaGreat
set_option linter.unusedVariables false
set_option linter.unusedSimpArgs false
namespace Go.Proofs.YtdpkgjahcapleaaGreat
open Go.RowKit Go.Proofs.YtdpkgjahcapleaaGreat.Spec Go.Proofs.YtdpkgjahcapleaaGreatW.PrintWords Go.Proofs.YtdpkgjahcapleaaGreatW.PrintLast
open Go.Proofs.YtdpkgjahcapleaaGreatW.PrintMore
attribute [local go_sem ↓] Go.wp_at_zero Go.wp_at_succ
attribute [local go_sem] max2_int min2_int max_two min_two
namespace Spec
def bpc (w : Nat) (b : ByteArray) : ByteArray := b.extract 0 (min w b.size)
def brs (w : Nat) (b : ByteArray) : ByteArray := b.extract (min w b.size) b.size
def bwin (l : List ByteArray) (w : Nat) : Nat → ByteArray → List Int
  | 0, _ => []
  | f + 1, b => if b.size = 0 then [] else tks (bnx l (bpc w b)) (bpc w b).size (bpc w b).size 0 ++ bwin l w f (brs w b)
end Spec
theorem ext_size (b : ByteArray) (i j : Nat) (h : j ≤ b.size) : (b.extract i j).size = j - i := by
  rw [← u_size, u_cut, List.length_take, List.length_drop, u_size]
  omega
theorem bpc_size (w : Nat) (b : ByteArray) : (bpc w b).size = min w b.size := by
  unfold bpc
  rw [ext_size _ _ _ (by omega)]
  omega
theorem brs_size (w : Nat) (b : ByteArray) : (brs w b).size = b.size - min w b.size := by
  unfold brs
  rw [ext_size _ _ _ (by omega)]
theorem bwin_succ (l : List ByteArray) (w f : Nat) (b : ByteArray) : bwin l w (f + 1) b = if b.size = 0 then [] else tks (bnx l (bpc w b)) (bpc w b).size (bpc w b).size 0 ++ bwin l w f (brs w b) := rfl
theorem cat_pieces (w : Nat) (b : ByteArray) : bpc w b ++ brs w b = b := by
  apply u_inj
  unfold bpc brs
  rw [u_app, u_cut, u_cut, List.drop_zero, Nat.sub_zero]
  rw [List.take_of_length_le (i := b.size - min w b.size) (by rw [List.length_drop, u_size]; omega), List.take_append_drop]
theorem bwin_cat {l : List ByteArray} (hl : l.length ≤ 1000) (hs : ∀ s ∈ l, 1 ≤ s.size ∧ s.size ≤ 40) (w : Nat) (hw : 1 ≤ w) : ∀ (f : Nat) (b : ByteArray), b.size ≤ f → b.size ≤ 100000 → cat l (bwin l w f b) = b ∧ (∀ t ∈ bwin l w f b, Tok l t) := by
  intro f
  induction f with
  | zero =>
    intro b h _
    refine ⟨?_, fun t ht => by cases ht⟩
    apply u_inj
    have : (u b).length = 0 := by rw [u_size]; omega
    rw [List.length_eq_zero_iff.1 this]
    rfl
  | succ f ih =>
    intro b h hb
    rw [bwin_succ]
    by_cases h0 : b.size = 0
    · rw [if_pos h0]
      refine ⟨?_, fun t ht => by cases ht⟩
      apply u_inj
      have : (u b).length = 0 := by rw [u_size]; omega
      rw [List.length_eq_zero_iff.1 this]
      rfl
    · rw [if_neg h0]
      have hp := bpc_size w b
      have hr := brs_size w b
      obtain ⟨i1, i2⟩ := ih (brs w b) (by omega) (by omega)
      have hf : ∀ a, a < (bpc w b).size → Fits l (bpc w b) a (bnx l (bpc w b) a).1 (bnx l (bpc w b) a).2 := fun a ha => bnx_fits hl hs (bpc w b) (by omega) a ha
      refine ⟨?_, fun t ht => (List.mem_append.1 ht).elim (fun h => tks_tok hf _ _ t h) (i2 t)⟩
      rw [cat_append, i1, tks_cat hf _ _ (Nat.zero_le _) (by omega), extract_all, cat_pieces]
theorem bwin_len (l : List ByteArray) (w : Nat) (hw : 1 ≤ w) : ∀ (f : Nat) (b : ByteArray), (bwin l w f b).length ≤ b.size := by
  intro f
  induction f with
  | zero => intro b; exact Nat.zero_le _
  | succ f ih =>
    intro b
    rw [bwin_succ]
    split
    · exact Nat.zero_le _
    · have hp := bpc_size w b
      have hr := brs_size w b
      have h1 := ih (brs w b)
      have h2 := tks_len (bnx l (bpc w b)) (bpc w b).size (bpc w b).size 0
      rw [List.length_append]
      omega
end Go.Proofs.YtdpkgjahcapleaaGreat
set_option linter.unusedVariables false
set_option linter.unusedSimpArgs false
namespace Go.Proofs.YtdpkgjahcapleaaGreat
open Go.RowKit Go.Proofs.YtdpkgjahcapleaaGreat.Spec Go.Proofs.YtdpkgjahcapleaaGreatW.PrintWords Go.Proofs.YtdpkgjahcapleaaGreatW.PrintLast
open Go.Proofs.YtdpkgjahcapleaaGreatW.PrintMore
attribute [local go_sem ↓] Go.wp_at_zero Go.wp_at_succ
namespace Spec
def toks (l : List ByteArray) (p : Int) (wd : Nat) (b : ByteArray) : List Int := if p = 0 then par l b b.size 0 else if p = 1 then fpar l b b.size 0 else bwin l wd b.size b
def cfgB (p q k w : Int) : Bool := decide (0 ≤ p ∧ p ≤ 2 ∧ 0 ≤ q ∧ q ≤ 1 ∧ 1 ≤ k ∧ k ≤ 1024 ∧ 1 ≤ w ∧ w ≤ 1024)
end Spec
theorem toks_zero (l : List ByteArray) (wd : Nat) (b : ByteArray) : toks l 0 wd b = par l b b.size 0 := by unfold toks; rw [if_pos rfl]
theorem toks_ok {l : List ByteArray} (hl : l.length ≤ 1000) (hs : ∀ s ∈ l, 1 ≤ s.size ∧ s.size ≤ 40) (p : Int) {wd : Nat} (hw : 1 ≤ wd) (b : ByteArray) (hb : b.size ≤ 100000) : cat l (toks l p wd b) = b ∧ (∀ t ∈ toks l p wd b, Tok l t) ∧ (toks l p wd b).length ≤ b.size ∧ (1 ≤ b.size → toks l p wd b ≠ []) := by
  have hne : cat l (toks l p wd b) = b → 1 ≤ b.size → toks l p wd b ≠ [] := by
    intro h h1 e
    rw [e] at h
    have := congrArg ByteArray.size h
    have h0 : (cat l []).size = 0 := rfl
    omega
  unfold toks at hne ⊢
  split
  · rename_i hp
    rw [if_pos hp] at hne
    have hf : ∀ a, a < b.size → Fits l b a (nxt l b a).1 (nxt l b a).2 := fun a ha => nxt_fits hs b a ha
    have h1 : cat l (par l b b.size 0) = b := by rw [par_tks, tks_cat hf _ _ (Nat.zero_le _) (by omega), extract_all]
    exact ⟨h1, par_tok hs b _ _, par_len l b _ _, hne h1⟩
  · rename_i hp
    split
    · rename_i hq
      rw [if_neg hp, if_pos hq] at hne
      have hf : ∀ a, a < b.size → Fits l b a (fnx l b a).1 (fnx l b a).2 := fun a ha => fnx_fits hs b a ha
      have h1 : cat l (fpar l b b.size 0) = b := by rw [fpar_tks, tks_cat hf _ _ (Nat.zero_le _) (by omega), extract_all]
      exact ⟨h1, by rw [fpar_tks]; exact tks_tok hf _ _, by rw [fpar_tks]; exact tks_len _ _ _ _, hne h1⟩
    · rename_i hq
      rw [if_neg hp, if_neg hq] at hne
      have h := bwin_cat hl hs wd hw b.size b (Nat.le_refl _) hb
      exact ⟨h.1, h.2, bwin_len l wd hw _ _, hne h.1⟩
theorem right_calls (p q k wd : Int) (w : World) : Calls Tryz.prog 35 #[.agg #[.int .i64 p, .int .i64 q, .int .i64 k, .int .i64 wd]] w fun e w' => e = .returned (.bool (cfgB p q k wd)) ∧ Below w.heap.size w w' := by
  refine Leaf.block_Right.calls p q k wd _ w ?_
  have hcod : ∀ x : Int, Leaf.block_coded.f x = some (decide (0 ≤ x ∧ x ≤ 1)) := by
    intro x
    unfold Leaf.block_coded.f
    split
    · rename_i h; subst h; rfl
    · congr 1
      rw [Bool.eq_iff_iff, beq_iff_eq, decide_eq_true_iff]
      omega
  have hsiz : ∀ x : Int, Leaf.block_size.f x = some (decide (1 ≤ x ∧ x ≤ 1024)) := by
    intro x
    unfold Leaf.block_size.f
    split
    · congr 1
      rw [decide_eq_decide]
      omega
    · congr 1
      symm
      rw [decide_eq_false_iff_not]
      omega
  unfold Leaf.block_Right.f
  rw [hcod, hsiz, hsiz]
  simp only [Option.bind_some]
  unfold cfgB
  by_cases h1 : p ≥ 0
  · rw [if_pos h1]
    by_cases h2 : p ≤ 2
    · rw [if_pos h2]
      by_cases h3 : 0 ≤ q ∧ q ≤ 1
      · rw [if_pos (decide_eq_true h3)]
        by_cases h4 : 1 ≤ k ∧ k ≤ 1024
        · rw [if_pos (decide_eq_true h4)]
          congr 1
          rw [decide_eq_decide]
          omega
        · rw [if_neg (by rw [decide_eq_true_iff]; exact h4)]
          congr 1
          symm
          rw [decide_eq_false_iff_not]
          omega
      · rw [if_neg (by rw [decide_eq_true_iff]; exact h3)]
        congr 1
        symm
        rw [decide_eq_false_iff_not]
        omega
    · rw [if_neg h2]
      congr 1
      symm
      rw [decide_eq_false_iff_not]
      omega
  · rw [if_neg h1]
    congr 1
    symm
    rw [decide_eq_false_iff_not]
    omega
theorem cfg_at {w w1 : World} {a b c d : Value} (hb : Below (w.alloc (.cells #[a, b, c, d] 24)).heap.size (w.alloc (.cells #[a, b, c, d] 24)) w1) :
    w1.cell? ⟨w.heap.size, 0, none⟩ = some a ∧ w1.cell? ⟨w.heap.size, 1, none⟩ = some b ∧ w1.cell? ⟨w.heap.size, 2, none⟩ = some c ∧ w1.cell? ⟨w.heap.size, 3, none⟩ = some d := by
  have hh : (w.alloc (.cells #[a, b, c, d] 24)).heap[w.heap.size]? = some (.cells #[a, b, c, d] 24 (0, 0)) := heap_alloc_new _ _
  exact ⟨pw_cell_below hb (blk_cell hh 0), pw_cell_below hb (blk_cell hh 1), pw_cell_below hb (blk_cell hh 2), pw_cell_below hb (blk_cell hh 3)⟩
end Go.Proofs.YtdpkgjahcapleaaGreat
set_option linter.unusedVariables false
namespace Go.Proofs.YtdpkgjahcapleaaGreat
open Go.RowKit Go.Proofs.YtdpkgjahcapleaaGreat.Spec Go.Proofs.YtdpkgjahcapleaaGreatW.PrintWords Go.Proofs.YtdpkgjahcapleaaGreatW.PrintLast
structure Kp (w w' : World) (g : Nat) (row : Option Nat) : Prop where
  os : w'.os = w.os
  tape : w'.tape = w.tape
  output : w'.output = w.output
  size : w.heap.size ≤ w'.heap.size
  block : ∀ k, k < w.heap.size → k ≠ g → w'.heap[k]? = w.heap[k]?
section
variable {g : Nat} {row row1 : Option Nat} {w w1 w2 w0 : World}
theorem Kp.refl (w : World) (g : Nat) (row : Option Nat) : Kp w w g row := ⟨rfl, rfl, rfl, Nat.le_refl _, fun _ _ _ => rfl⟩
theorem Kp.trans (h : Kp w w1 g row) (k : Kp w1 w2 g row1) (hr : row1 = row ∨ False) : Kp w w2 g row := ⟨k.os.trans h.os, k.tape.trans h.tape, k.output.trans h.output, Nat.le_trans h.size k.size, fun i hi hg => (k.block i (Nat.lt_of_lt_of_le hi h.size) hg).trans (h.block i hi hg)⟩
theorem Kp.of_below (h : Below w.heap.size w w1) (g : Nat) (row : Option Nat) : Kp w w1 g row := ⟨h.os, h.tape, h.output, h.size, fun k hk _ => h.block k hk⟩
theorem Kp.then (h : Kp w w1 g row) (k : Below w1.heap.size w1 w2) : Kp w w2 g row := h.trans (Kp.of_below k g row) (.inl rfl)
theorem Kp.set_ (h : Kp w w1 g row) (i : Nat) (v : Value) : Kp w (w1.setCell ⟨g, i, none⟩ v) g row := ⟨h.os, h.tape, h.output, by simpa using h.size, fun k hk hg => (Below.heap_setCell w1 ⟨g, i, none⟩ v k hg).trans (h.block k hk hg)⟩
theorem Kp.drewN (h : Kp w w1 g row) (n : Nat) : Kp w (w1.drewN n) g row := ⟨h.os, h.tape, h.output, h.size, h.block⟩
theorem Kp.low (h : Kp w w1 g row) (hb : Below w0.heap.size w0 w) (hg : w0.heap.size ≤ g) : Below w0.heap.size w0 w1 := ⟨h.os.trans hb.os, h.tape.trans hb.tape, h.output.trans hb.output, Nat.le_trans hb.size h.size, fun k hk => (h.block k (Nat.lt_of_lt_of_le hk hb.size) (by omega)).trans (hb.block k hk)⟩
theorem Kp.blk {g' : Nat} {o : Obj} (h : Kp w w1 g row) (hb : w.heap[g']? = some o) (hg : g' ≠ g) : w1.heap[g']? = some o := (h.block g' (blk_lt hb) hg).trans hb
end
end Go.Proofs.YtdpkgjahcapleaaGreat
