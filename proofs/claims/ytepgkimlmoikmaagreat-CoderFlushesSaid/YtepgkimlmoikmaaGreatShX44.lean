/- ShX: a part of its proof (contracts of the functions that it reaches, and the plain mathematics behind them). -/
import Derived.Test.YtepgkimlmoikmaaGreatShX43
import Derived.Test.YtepgkimlmoikmaaGreatShX39
set_option linter.unusedVariables false
set_option linter.unusedSimpArgs false
set_option linter.unusedVariables false
set_option linter.unusedSimpArgs false
namespace Go.Proofs.YtepgkimlmoikmaaGreat
open Go.RowKit Go.Proofs.YtepgkimlmoikmaaGreat.Spec Go.Proofs.YtepgkimlmoikmaaGreatW.PrintWords Go.Proofs.YtepgkimlmoikmaaGreatW.PrintLast
open Go.Proofs.YtepgkimlmoikmaaGreatW.PrintMore
attribute [local go_sem ↓] Go.wp_at_zero Go.wp_at_succ
attribute [local go_sem] max2_int min2_int max_two min_two
namespace Spec
def blksS (pay : ByteArray → Nat × ByteArray) : List ByteArray → ByteArray
 | [] => ⟨#[]⟩
 | b :: r => blkS pay b ++ blksS pay r
def catB : List ByteArray → ByteArray
 | [] => ⟨#[]⟩
 | b :: r => b ++ catB r
structure PayOk (l : List ByteArray) (q k : Nat) (pay : ByteArray → Nat × ByteArray) : Prop where
 fits : ∀ b : ByteArray, 1 ≤ b.size → b.size ≤ k → fitsR (pay b).1 b.size (pay b).2.size
 back : ∀ b : ByteArray, 1 ≤ b.size → b.size ≤ k → getR l q (pay b).1 b.size (pay b).2 = (b, 0)
end Spec
theorem blksS_app (pay : ByteArray → Nat × ByteArray) : ∀ xs ys, blksS pay (xs ++ ys) = blksS pay xs ++ blksS pay ys
 | [], ys => (ba_nil_append _).symm
 | x :: xs, ys => by rw [List.cons_append, blksS, blksS, blksS_app pay xs ys, ba_assoc]
theorem catB_app : ∀ xs ys, catB (xs ++ ys) = catB xs ++ catB ys
 | [], ys => (ba_nil_append _).symm
 | x :: xs, ys => by rw [List.cons_append, catB, catB, catB_app xs ys, ba_assoc]
end Go.Proofs.YtepgkimlmoikmaaGreat
set_option linter.unusedVariables false
set_option linter.unusedSimpArgs false
namespace Go.Proofs.YtepgkimlmoikmaaGreat
open Go.RowKit Go.Proofs.YtepgkimlmoikmaaGreat.Spec Go.Proofs.YtepgkimlmoikmaaGreatW.PrintWords Go.Proofs.YtepgkimlmoikmaaGreatW.PrintLast
open Go.Proofs.YtepgkimlmoikmaaGreatW.PrintMore
attribute [local go_sem ↓] Go.wp_at_zero Go.wp_at_succ
attribute [local go_sem] max2_int min2_int max_two min_two
namespace Spec
def chunk (k : Nat) : Nat → ByteArray → List ByteArray × ByteArray
 | 0, h => ([], h)
 | f + 1, h => if k ≤ h.size then (h.extract 0 k :: (chunk k f (h.extract k h.size)).1, (chunk k f (h.extract k h.size)).2) else ([], h)
abbrev chk (k : Nat) (h : ByteArray) : List ByteArray × ByteArray := chunk k h.size h
def lastB (h : ByteArray) : List ByteArray := if h.size = 0 then [] else [h]
end Spec
theorem cut_chunk (pay : ByteArray → Nat × ByteArray) (k : Nat) : ∀ (f : Nat) (h : ByteArray), cutR pay k f h = (blksS pay (chunk k f h).1, (chunk k f h).2)
 | 0, h => rfl
 | f + 1, h => by
  rw [cutR, chunk]
  by_cases g : k ≤ h.size
  ·rw [if_pos g, if_pos g, cut_chunk pay k f]
   rfl
  ·rw [if_neg g, if_neg g]
   rfl
theorem ext_split (h : ByteArray) (k : Nat) (hk : k ≤ h.size) : h.extract 0 k ++ h.extract k h.size = h := by
 apply u_inj
 rw [u_app, u_ext, u_ext, List.drop_zero, Nat.sub_zero, List.take_of_length_le (l := (u h).drop k) (by rw [List.length_drop, u_size]; omega)]
 exact List.take_append_drop k (u h)
theorem chunk_ok {k : Nat} (hk : 1 ≤ k) : ∀ (f : Nat) (h : ByteArray), h.size ≤ f → (∀ b ∈ (chunk k f h).1, b.size = k) ∧ (chunk k f h).2.size < k ∧ catB (chunk k f h).1 ++ (chunk k f h).2 = h
 | 0, h, hf => ⟨fun _ hb => (by cases hb), by show h.size < k; omega, ba_nil_append h⟩
 | f + 1, h, hf => by
  rw [chunk]
  by_cases g : k ≤ h.size
  ·rw [if_pos g]
   have hz : (h.extract k h.size).size = h.size - k := ext_sz h k h.size (Nat.le_refl _)
   obtain ⟨a, b, c⟩ := chunk_ok hk f (h.extract k h.size) (by omega)
   refine ⟨fun x hx => ?_, b, ?_⟩
   ·rcases List.mem_cons.1 hx with e | e
    ·subst e; rw [ext_sz h 0 k g, Nat.sub_zero]
    ·exact a x e
   ·show (h.extract 0 k ++ catB (chunk k f (h.extract k h.size)).1) ++ (chunk k f (h.extract k h.size)).2 = h
    rw [ba_assoc, c, ext_split h k g]
  ·rw [if_neg g]
   exact ⟨fun _ hb => (by cases hb), by show h.size < k; omega, ba_nil_append h⟩
theorem ext_front (a b : ByteArray) : (a ++ b).extract 0 a.size = a := by
 apply u_inj
 rw [u_ext, u_app, List.drop_zero, Nat.sub_zero, ← u_size, List.take_left]
theorem chunk_uniq {k : Nat} (hk : 1 ≤ k) : ∀ (bs : List ByteArray) (r : ByteArray) (f : Nat), (∀ b ∈ bs, b.size = k) → r.size < k → (catB bs ++ r).size ≤ f → chunk k f (catB bs ++ r) = (bs, r)
 | [], r, f, _, hr, _ => by
  rw [show catB [] = ⟨#[]⟩ from rfl, ba_nil_append]
  cases f with
  | zero => rfl
  | succ f => rw [chunk, if_neg (by omega)]
 | b :: bs, r, f, hb, hr, hf => by
  have hbk := hb b (List.mem_cons_self ..)
  have he : catB (b :: bs) ++ r = b ++ (catB bs ++ r) := by rw [catB, ba_assoc]
  rw [he] at hf ⊢
  rw [ByteArray.size_append] at hf
  obtain ⟨f, rfl⟩ : ∃ g, f = g + 1 := ⟨f - 1, by omega⟩
  have h1 : (b ++ (catB bs ++ r)).extract 0 k = b := by rw [← hbk]; exact ext_front _ _
  have h2 : (b ++ (catB bs ++ r)).extract k (b ++ (catB bs ++ r)).size = catB bs ++ r := by rw [← hbk]; exact ext_back _ _
  rw [chunk, if_pos (by rw [ByteArray.size_append]; omega), h1, h2, chunk_uniq hk bs r f (fun x hx => hb x (List.mem_cons_of_mem _ hx)) hr (by omega)]
theorem chk_uniq {k : Nat} (hk : 1 ≤ k) (bs : List ByteArray) (r : ByteArray) (hb : ∀ b ∈ bs, b.size = k) (hr : r.size < k) : chk k (catB bs ++ r) = (bs, r) := chunk_uniq hk bs r _ hb hr (Nat.le_refl _)
theorem chk_small {k : Nat} (hk : 1 ≤ k) (r : ByteArray) (hr : r.size < k) : chk k r = ([], r) := by
 have h := chk_uniq hk [] r (fun _ h => by cases h) hr
 rw [show catB [] = ⟨#[]⟩ from rfl, ba_nil_append] at h
 exact h
theorem cat_last (h : ByteArray) : catB (lastB h) = h := by
 unfold lastB
 split
 ·rename_i h0
  apply u_inj
  rw [List.length_eq_zero_iff.1 (show (u h).length = 0 by rw [u_size]; exact h0)]
  rfl
 ·exact ba_append_nil h
theorem blks_one (pay : ByteArray → Nat × ByteArray) (b : ByteArray) : blksS pay [b] = blkS pay b := ba_append_nil _
theorem blks_last (pay : ByteArray → Nat × ByteArray) (h : ByteArray) : blksS pay (lastB h) = if h.size = 0 then ⟨#[]⟩ else blkS pay h := by
 unfold lastB
 split
 ·rfl
 ·exact blks_one pay h
theorem encS_is (l : List ByteArray) (q k : Nat) (pay : ByteArray → Nat × ByteArray) (b : ByteArray) : encS l q k pay b = headS q k (Idn l) ++ (blksS pay ((chk k b).1 ++ lastB (chk k b).2) ++ endS b.size) := by
 unfold encS
 rw [cut_chunk, blksS_app, blks_last, ba_nil_append, ba_assoc, ba_assoc]
namespace Spec
section
variable (k : Nat) (os : List (Int × ByteArray))
def opA (j : Nat) : Int × ByteArray := os.getD j (0, ⟨#[]⟩)
def hA : Nat → ByteArray
 | 0 => ⟨#[]⟩
 | j + 1 => if (opA os j).1 = 1 then (chk k (hA j ++ (opA os j).2)).2 else if (opA os j).1 = 2 then ⟨#[]⟩ else hA j
def wA (j : Nat) : List ByteArray := if (opA os j).1 = 1 then (chk k (hA k os j ++ (opA os j).2)).1 else if (opA os j).1 = 2 then lastB (hA k os j) else []
def dA : Nat → List ByteArray
 | 0 => []
 | j + 1 => dA j ++ wA k os j
def nA : Nat → Nat
 | 0 => 0
 | j + 1 => nA j + if (opA os j).1 = 1 then (opA os j).2.size else 0
def bA : Nat → Bool
 | 0 => false
 | j + 1 => bA j || decide ((opA os j).1 = 1 ∨ (opA os j).1 = 2)
def oA (pay : ByteArray → Nat × ByteArray) (H : ByteArray) (m j : Nat) : ByteArray :=
 if j = m then (if bA os m then ⟨#[]⟩ else H) ++ (blksS pay (lastB (hA k os m)) ++ endS (nA os m))
 else if (opA os j).1 = 1 ∨ (opA os j).1 = 2 then (if bA os j then ⟨#[]⟩ else H) ++ blksS pay (wA k os j) else ⟨#[]⟩
end
end Spec
theorem dA_none (k : Nat) (os : List (Int × ByteArray)) : ∀ j, bA os j = false → dA k os j = [] ∧ hA k os j = ⟨#[]⟩ ∧ nA os j = 0
 | 0, _ => ⟨rfl, rfl, rfl⟩
 | j + 1, h => by
  rw [bA, Bool.or_eq_false_iff, decide_eq_false_iff_not] at h
  obtain ⟨h1, h2⟩ := h
  obtain ⟨i1, i2, i3⟩ := dA_none k os j h1
  have g1 : ¬ (opA os j).1 = 1 := fun e => h2 (.inl e)
  have g2 : ¬ (opA os j).1 = 2 := fun e => h2 (.inr e)
  rw [dA, hA, nA, wA, if_neg g1, if_neg g2, if_neg g1, if_neg g2, if_neg g1, i1, i2, i3]
  exact ⟨rfl, rfl, rfl⟩
theorem cat_oA (k : Nat) (os : List (Int × ByteArray)) (pay : ByteArray → Nat × ByteArray) (H : ByteArray) (m : Nat) : ∀ j, j ≤ m → catO (oA k os pay H m) j = if bA os j then H ++ blksS pay (dA k os j) else ⟨#[]⟩
 | 0, _ => rfl
 | j + 1, hj => by
  rw [catO, cat_oA k os pay H m j (by omega)]
  unfold oA
  rw [if_neg (show ¬ j = m by omega), bA, dA]
  by_cases g : (opA os j).1 = 1 ∨ (opA os j).1 = 2
  ·rw [if_pos g, decide_eq_true g, Bool.or_true, if_pos rfl]
   cases hb : bA os j with
   | true => rw [if_pos rfl, if_pos rfl, ba_nil_append, blksS_app, ba_assoc]
   | false =>
    obtain ⟨i1, _, _⟩ := dA_none k os j hb
    rw [if_neg (by decide), if_neg (by decide), ba_nil_append, i1, List.nil_append]
  ·have g1 : ¬ (opA os j).1 = 1 := fun e => g (.inl e)
   have g2 : ¬ (opA os j).1 = 2 := fun e => g (.inr e)
   have hw : wA k os j = [] := by unfold wA; rw [if_neg g1, if_neg g2]
   rw [if_neg g, decide_eq_false g, Bool.or_false, ba_append_nil, hw, List.append_nil]
theorem cat_all (k : Nat) (os : List (Int × ByteArray)) (pay : ByteArray → Nat × ByteArray) (H : ByteArray) (m : Nat) : catO (oA k os pay H m) (m + 1) = H ++ (blksS pay (dA k os m ++ lastB (hA k os m)) ++ endS (nA os m)) := by
 rw [catO, cat_oA k os pay H m m (Nat.le_refl _)]
 unfold oA
 rw [if_pos rfl]
 cases hb : bA os m with
 | true => rw [if_pos rfl, if_pos rfl, ba_nil_append, blksS_app, ba_assoc, ba_assoc]
 | false =>
  obtain ⟨i1, _, _⟩ := dA_none k os m hb
  rw [if_neg (by decide), if_neg (by decide), ba_nil_append, i1, List.nil_append]
theorem hA_lt {k : Nat} (hk : 1 ≤ k) (os : List (Int × ByteArray)) : ∀ j, (hA k os j).size < k
 | 0 => hk
 | j + 1 => by
  rw [hA]
  split
  ·exact (chunk_ok hk _ _ (Nat.le_refl _)).2.1
  ·split
   ·exact hk
   ·exact hA_lt hk os j
theorem dA_ok {k : Nat} (hk : 1 ≤ k) (os : List (Int × ByteArray)) : ∀ j, (∀ b ∈ dA k os j, 1 ≤ b.size ∧ b.size ≤ k) ∧ (catB (dA k os j) ++ hA k os j).size = nA os j
 | 0 => ⟨fun _ h => (by cases h), rfl⟩
 | j + 1 => by
  obtain ⟨i1, i2⟩ := dA_ok hk os j
  have hh := hA_lt hk os j
  rw [ByteArray.size_append] at i2
  rw [dA, hA, nA, wA]
  by_cases g1 : (opA os j).1 = 1
  ·rw [if_pos g1, if_pos g1, if_pos g1]
   obtain ⟨a1, a2, a3⟩ := chunk_ok hk (hA k os j ++ (opA os j).2).size (hA k os j ++ (opA os j).2) (Nat.le_refl _)
   refine ⟨fun b hb => ?_, ?_⟩
   ·rcases List.mem_append.1 hb with e | e
    ·exact i1 b e
    ·have := a1 b e; omega
   ·rw [catB_app, ba_assoc, a3, ByteArray.size_append, ByteArray.size_append]; omega
  ·rw [if_neg g1, if_neg g1, if_neg g1]
   by_cases g2 : (opA os j).1 = 2
   ·rw [if_pos g2, if_pos g2]
    refine ⟨fun b hb => ?_, ?_⟩
    ·rcases List.mem_append.1 hb with e | e
     ·exact i1 b e
     ·unfold lastB at e
      split at e
      ·cases e
      ·rw [List.mem_singleton] at e; subst e; exact ⟨by omega, by omega⟩
    ·rw [catB_app, cat_last, ba_append_nil, ByteArray.size_append]; omega
   ·rw [if_neg g2, if_neg g2, List.append_nil, ByteArray.size_append]
    exact ⟨i1, by omega⟩
end Go.Proofs.YtepgkimlmoikmaaGreat
