/- ShY: a part of its proof (contracts of the functions that it reaches, and the plain mathematics behind them). -/
import Derived.Test.YtepgkimlmoikmaaGreatShY33
import Derived.Test.YtepgkimlmoikmaaGreatShY14
import Derived.Test.YtepgkimlmoikmaaGreatShY35
import Derived.Test.YtepgkimlmoikmaaGreatShY37
set_option linter.unusedVariables false
set_option linter.unusedSimpArgs false
set_option maxHeartbeats 2000000
set_option maxRecDepth 100000
set_option linter.unusedVariables false
set_option linter.unusedSimpArgs false
namespace Go.Proofs.YtepgkimlmoikmaaGreat
open Go.RowKit Go.Proofs.YtepgkimlmoikmaaGreat.Spec Go.Proofs.YtepgkimlmoikmaaGreatW.PrintWords Go.Proofs.YtepgkimlmoikmaaGreatW.PrintLast
open Go.Proofs.YtepgkimlmoikmaaGreatW.PrintMore
namespace Spec
theorem peekV_zero (b : ByteArray) (a : Nat) : ∀ n, (peekV b a n = 0 ↔ ∀ i, i < n → bitAt b (a + i) = 0) := by
 intro n
 induction n with
 | zero => exact ⟨fun _ i hi => absurd hi (Nat.not_lt_zero i), fun _ => rfl⟩
 | succ n ih =>
  rw [peekV]
  constructor
  ·intro h i hi
   by_cases e : i = n
   ·subst e; omega
   ·exact (ih.1 (by omega)) i (by omega)
  ·intro h
   have h1 := ih.2 (fun i hi => h i (by omega))
   have h2 := h n (by omega)
   omega
theorem sym_back (l : List Int) (n : Nat) : ∀ s, s ≤ l.length → ∀ j x, (sym l n s)[j]? = some x → ∃ i : Nat, x = (i : Int) ∧ i < s ∧ l.getD i 0 = (n : Int) ∧ cnt (l.take i) (n : Int) = j := by
 intro s
 induction s with
 | zero => intro _ j x h; rw [sym_zero] at h; cases h
 | succ s ih =>
  intro hs j x h
  by_cases e : l.getD s 0 = (n : Int)
  ·rw [sym_go l n s e] at h
   by_cases hj : j < (sym l n s).length
   ·rw [List.getElem?_append_left hj] at h
    obtain ⟨i, h1, h2, h3, h4⟩ := ih (by omega) j x h
    exact ⟨i, h1, by omega, h3, h4⟩
   ·rw [List.getElem?_append_right (by omega)] at h
    have hj2 : j - (sym l n s).length = 0 := by
     rcases Nat.eq_zero_or_pos (j - (sym l n s).length) with g | g
     ·exact g
     ·rw [List.getElem?_eq_none (by rw [List.length_singleton]; omega)] at h
      cases h
    rw [hj2] at h
    have hx : x = (s : Int) := by
     have : some (s : Int) = some x := h
     exact (Option.some.inj this).symm
    refine ⟨s, hx, by omega, e, ?_⟩
    rw [← sym_cnt l n s (by omega)]
    omega
  ·rw [sym_skip l n s e] at h
   obtain ⟨i, h1, h2, h3, h4⟩ := ih (by omega) j x h
   exact ⟨i, h1, by omega, h3, h4⟩
theorem sym_get (l : List Int) (n i : Nat) (hi : i < l.length) (h : l.getD i 0 = (n : Int)) : ∀ s, i < s → s ≤ l.length → (sym l n s)[cnt (l.take i) (n : Int)]? = some (i : Int) := by
 intro s
 induction s with
 | zero => intro h; exact absurd h (Nat.not_lt_zero i)
 | succ s ih =>
  intro his hs
  by_cases e : i = s
  ·subst e
   rw [sym_go l n i h, ← sym_cnt l n i (by omega), List.getElem?_append_right (Nat.le_refl _), Nat.sub_self]
   rfl
  ·have h1 := ih (by omega) (by omega)
   by_cases g : l.getD s 0 = (n : Int)
   ·rw [sym_go l n s g, List.getElem?_append_left (List.getElem?_eq_some_iff.1 h1).1]
    exact h1
   ·rw [sym_skip l n s g]; exact h1
theorem hit_yes (l : List Int) (n i : Nat) (hn : 1 ≤ n ∧ n ≤ 15) (hi : i < l.length) (h : l.getD i 0 = (n : Int)) :
  0 ≤ cod l i - fst l n l.length ∧ cod l i - fst l n l.length < ((sym l n l.length).length : Int) ∧ (sym l n l.length).getD (cod l i - fst l n l.length).toNat 0 = (i : Int) := by
 have h1 := sym_get l n i hi h l.length hi (Nat.le_refl _)
 have h2 := (List.getElem?_eq_some_iff.1 h1).1
 have hne : sym l n l.length ≠ [] := by intro e; rw [e] at h2; exact absurd h2 (Nat.not_lt_zero _)
 have hc : cod l i - fst l n l.length = ((cnt (l.take i) (n : Int) : Nat) : Int) := by
  have hg := getD_at l i hi
  rw [h] at hg
  rw [cod_at l i n hi hn.1 hn.2 hg.symm]
  unfold fst
  rw [if_neg hne]
  omega
 rw [hc, Int.toNat_natCast, List.getD_eq_getElem?_getD, h1]
 exact ⟨by omega, by omega, rfl⟩
theorem hit_no (l : List Int) (n v : Nat) (hn : 1 ≤ n ∧ n ≤ 15) (hno : ∀ i, i < l.length → ¬ (l.getD i 0 = (n : Int) ∧ cod l i = (v : Int))) :
  ¬ (0 ≤ (v : Int) - fst l n l.length ∧ (v : Int) - fst l n l.length < ((sym l n l.length).length : Int)) := by
 rintro ⟨h1, h2⟩
 obtain ⟨j, hj⟩ : ∃ j : Nat, (v : Int) - fst l n l.length = (j : Int) := ⟨((v : Int) - fst l n l.length).toNat, by omega⟩
 have hlt : j < (sym l n l.length).length := by omega
 obtain ⟨i, e1, e2, e3, e4⟩ := sym_back l n l.length (Nat.le_refl _) j _ (List.getElem?_eq_getElem hlt)
 have hne : sym l n l.length ≠ [] := by intro e; rw [e] at hlt; exact absurd hlt (Nat.not_lt_zero _)
 have hg := getD_at l i e2
 rw [e3] at hg
 apply hno i e2
 refine ⟨e3, ?_⟩
 rw [cod_at l i n e2 hn.1 hn.2 hg.symm, e4]
 unfold fst at hj
 rw [if_neg hne] at hj
 omega
theorem maxL_ge (l : List Int) : ∀ x ∈ l, x ≤ maxL l := by
 have h : ∀ (r : List Int) (y : Int), y ≤ r.foldl max y ∧ ∀ x ∈ r, x ≤ r.foldl max y := by
  intro r
  induction r with
  | nil => intro y; exact ⟨Int.le_refl _, fun x hx => by cases hx⟩
  | cons z r ih =>
   intro y
   rw [List.foldl_cons]
   obtain ⟨h1, h2⟩ := ih (max y z)
   refine ⟨by omega, fun x hx => ?_⟩
   rcases List.mem_cons.1 hx with e | e
   ·subst e; omega
   ·exact h2 x e
 intro x hx
 cases l with
 | nil => cases hx
 | cons y r =>
  rw [maxL]
  rcases List.mem_cons.1 hx with e | e
  ·subst e; exact (h r x).1
  ·exact (h r y).2 x e
end Spec
end Go.Proofs.YtepgkimlmoikmaaGreat
set_option linter.unusedVariables false
set_option linter.unusedSimpArgs false
namespace Go.Proofs.YtepgkimlmoikmaaGreat
open Go.RowKit Go.Proofs.YtepgkimlmoikmaaGreat.Spec Go.Proofs.YtepgkimlmoikmaaGreatW.PrintWords Go.Proofs.YtepgkimlmoikmaaGreatW.PrintLast
open Go.Proofs.YtepgkimlmoikmaaGreatW.PrintMore
attribute [local go_sem ↓] Go.wp_at_zero Go.wp_at_succ
attribute [local go_sem] max2_int min2_int max_two min_two
namespace Spec
theorem preC_up (l : List Int) (n : Nat) : ∀ d, 2 ^ d * preC l n ≤ preC l (n + d)
 | 0 => by rw [Nat.pow_zero, Nat.one_mul]; exact Nat.le_refl _
 | d + 1 => by
  have h := preC_up l n d
  rw [show n + (d + 1) = (n + d) + 1 by omega, preC, Nat.pow_succ, Nat.mul_comm (2 ^ d) 2, Nat.mul_assoc]
  omega
theorem preC_cons (x : Int) (r : List Int) : ∀ n, preC (x :: r) n = preC r n + (if 1 ≤ x ∧ x ≤ (n : Int) then 2 ^ (n - x.toNat) else 0)
 | 0 => by rw [preC, preC, if_neg (by omega)]
 | n + 1 => by
  have hc : cnt (x :: r) ((n + 1 : Nat) : Int) = cnt r ((n + 1 : Nat) : Int) + (if x = ((n + 1 : Nat) : Int) then 1 else 0) := by
   unfold cnt
   rw [List.countP_cons]
   congr 1
   simp
  rw [preC, preC, preC_cons x r n, hc]
  by_cases h1 : x = ((n + 1 : Nat) : Int)
  ·subst h1
   rw [if_neg (by omega), if_pos rfl, if_pos (by omega), Int.toNat_natCast, Nat.sub_self]
   omega
  ·rw [if_neg h1]
   by_cases h2 : 1 ≤ x ∧ x ≤ (n : Int)
   ·rw [if_pos h2, if_pos (by omega), show n + 1 - x.toNat = (n - x.toNat) + 1 by omega, Nat.pow_succ]
    omega
   ·rw [if_neg h2, if_neg (by omega)]
    omega
theorem preC_kraft : ∀ l : List Int, preC l 15 = kraftL l
 | [] => by decide
 | x :: r => by rw [preC_cons, preC_kraft r, kraftL, Nat.add_comm]; rfl
theorem preC_le2 {l : List Int} (hk : kraftL l ≤ 32768) {n : Nat} (hn : n ≤ 15) : preC l n ≤ 2 ^ n := by
 have h := preC_up l n (15 - n)
 rw [show n + (15 - n) = 15 by omega, preC_kraft] at h
 have h2 : 2 ^ (15 - n) * 2 ^ n = 32768 := by rw [← Nat.pow_add, show 15 - n + n = 15 by omega]
 refine Nat.le_of_mul_le_mul_left (?_ : 2 ^ (15 - n) * preC l n ≤ 2 ^ (15 - n) * 2 ^ n) (Nat.two_pow_pos _)
 omega
def codN (l : List Int) (s : Nat) : Nat := (cod l s).toNat
theorem cod_here {l : List Int} {s n : Nat} (h : l[s]? = some (n : Int)) (h1 : 1 ≤ n) (h2 : n ≤ 15) : cod l s = ((2 * preC l (n - 1) + cnt (l.take s) (n : Int) : Nat) : Int) := by
 obtain ⟨hs, he⟩ := List.getElem?_eq_some_iff.1 h
 exact cod_at l s n hs h1 h2 he
theorem codN_cast {l : List Int} {s n : Nat} (h : l[s]? = some (n : Int)) (h1 : 1 ≤ n) (h2 : n ≤ 15) : ((codN l s : Nat) : Int) = cod l s := by
 unfold codN
 rw [cod_here h h1 h2, Int.toNat_natCast]
theorem cnt_lt {l : List Int} {s : Nat} {x : Int} (h : l[s]? = some x) : cnt (l.take s) x < cnt l x := by
 obtain ⟨hs, he⟩ := List.getElem?_eq_some_iff.1 h
 have h1 := cnt_take l x s hs
 rw [if_pos he] at h1
 have h2 : cnt (l.take (s + 1)) x ≤ cnt l x := by unfold cnt; exact List.Sublist.countP_le (List.take_sublist _ _)
 omega
theorem codN_lt {l : List Int} {s n : Nat} (h : l[s]? = some (n : Int)) (h1 : 1 ≤ n) (h2 : n ≤ 15) : codN l s < preC l n ∧ 2 * preC l (n - 1) ≤ codN l s := by
 unfold codN
 rw [cod_here h h1 h2, Int.toNat_natCast]
 have h3 := cnt_lt h
 obtain ⟨m, rfl⟩ : ∃ m, n = m + 1 := ⟨n - 1, by omega⟩
 rw [preC, Nat.add_sub_cancel]
 omega
theorem codN_pow {l : List Int} (hk : kraftL l ≤ 32768) {s n : Nat} (h : l[s]? = some (n : Int)) (h1 : 1 ≤ n) (h2 : n ≤ 15) : codN l s < 2 ^ n := Nat.lt_of_lt_of_le (codN_lt h h1 h2).1 (preC_le2 hk h2)
theorem cod_pref {l : List Int} {s n : Nat} (h : l[s]? = some (n : Int)) (h1 : 1 ≤ n) (h2 : n ≤ 15) {m i : Nat} (hm1 : 1 ≤ m) (hm : m < n) (hi : l[i]? = some (m : Int)) : codN l i ≠ codN l s / 2 ^ (n - m) := by
 have a := (codN_lt hi hm1 (by omega)).1
 have b := (codN_lt h h1 h2).2
 have c := preC_up l m (n - 1 - m)
 rw [show m + (n - 1 - m) = n - 1 by omega] at c
 have d : preC l m ≤ codN l s / 2 ^ (n - m) := by
  rw [Nat.le_div_iff_mul_le (Nat.two_pow_pos _), show n - m = (n - 1 - m) + 1 by omega, Nat.pow_succ, ← Nat.mul_assoc, Nat.mul_comm (preC l m) (2 ^ (n - 1 - m))]
  omega
 omega
theorem bitsOf_getD (c : Nat) {n i : Nat} (h : i < n) : bitG (bitsOf c n) i = c / 2 ^ (n - 1 - i) % 2 := by
 unfold bitG
 rw [List.getD_eq_getElem?_getD, bitsOf_get c h]
 rfl
theorem bitG_right (A B : List Nat) (i : Nat) : bitG (A ++ B) (A.length + i) = bitG B i := by
 unfold bitG
 rw [List.getD_eq_getElem?_getD, List.getD_eq_getElem?_getD, List.getElem?_append_right (by omega), Nat.add_sub_cancel_left]
theorem bitG_left (A B : List Nat) {i : Nat} (h : i < A.length) : bitG (A ++ B) i = bitG A i := by
 unfold bitG
 rw [List.getD_eq_getElem?_getD, List.getD_eq_getElem?_getD, List.getElem?_append_left h]
def Holds (b : ByteArray) (B : List Nat) : Prop := u b = (bytesB B).map UInt8.ofNat
theorem Holds.size {b : ByteArray} {B : List Nat} (h : Holds b B) : b.size = (B.length + 7) / 8 := by
 rw [← u_size, h, List.length_map, bytesB_len]
theorem bitAt_holds {b : ByteArray} {B : List Nat} (hB : Bits B) (h : Holds b B) (i : Nat) : bitAt b i = bitG B i := by
 unfold bitAt
 rw [h]
 have hj : i % 8 < 8 := Nat.mod_lt _ (by omega)
 by_cases hk : i / 8 < (B.length + 7) / 8
 ·rw [List.getD_eq_getElem?_getD, List.getElem?_map, bytesB_get B hk]
  show (UInt8.ofNat (byteB B (i / 8))).toNat / 2 ^ (7 - i % 8) % 2 = _
  rw [UInt8.toNat_ofNat', Nat.mod_eq_of_lt (byteB_small hB _), byteB_bit hB _ _ hj, show 8 * (i / 8) + i % 8 = i by omega]
 ·rw [List.getD_eq_getElem?_getD, List.getElem?_eq_none (by rw [List.length_map, bytesB_len]; omega), bitG_off (by omega)]
  show (0 : UInt8).toNat / 2 ^ (7 - i % 8) % 2 = 0
  rw [show (0 : UInt8).toNat = 0 from rfl, Nat.zero_div]
theorem peek_bits {b : ByteArray} {a c m : Nat} (h : ∀ i, i < m → bitAt b (a + i) = c / 2 ^ (m - 1 - i) % 2) (hc : c < 2 ^ m) : ∀ n, n ≤ m → peekV b a n = c / 2 ^ (m - n)
 | 0, _ => by rw [peekV, Nat.sub_zero, Nat.div_eq_of_lt hc]
 | n + 1, hn => by
  rw [peekV, peek_bits h hc n (by omega), h n (by omega), show m - n = (m - (n + 1)) + 1 by omega, Nat.pow_succ, ← Nat.div_div_eq_div_mul, show m - 1 - n = m - (n + 1) by omega]
  omega
theorem next_bits {l : List Int} (hk : kraftL l ≤ 32768) {s m : Nat} (hs : l[s]? = some (m : Int)) (h1 : 1 ≤ m) (h2 : m ≤ 15) {b : ByteArray} {a : Nat} (hb : ∀ i, i < m → bitAt b (a + i) = codN l s / 2 ^ (m - 1 - i) % 2) (hl : a + m ≤ 8 * b.size) : nextT l b a = ((s : Int), 0, m) := by
 have hpk := peek_bits hb (codN_pow hk hs h1 h2)
 have hM : (m : Int) ≤ maxL l := maxL_ge l _ (List.mem_of_getElem? hs)
 obtain ⟨hlt, hel⟩ := List.getElem?_eq_some_iff.1 hs
 have key : ∀ f n, n + f = (maxL l).toNat + 1 → 1 ≤ n → n ≤ m → nextF l b a (8 * b.size - a) f n = ((s : Int), 0, m) := by
  intro f
  induction f with
  | zero => intro n h _ _; exfalso; omega
  | succ f ih =>
   intro n hnf hn1 hnm
   rw [nextF, if_neg (by omega), hpk n hnm]
   by_cases he : n = m
   ·subst he
    obtain ⟨q1, q2, q3⟩ := hit_yes l n s ⟨h1, h2⟩ hlt (by rw [getD_at l s hlt]; exact hel)
    rw [Nat.sub_self, Nat.pow_zero, Nat.div_one, codN_cast hs h1 h2, if_pos ⟨q1, q2⟩, q3]
   ·rw [if_neg (hit_no l n _ ⟨hn1, by omega⟩ ?_)]
    ·exact ih (n + 1) (by omega) (by omega) (by omega)
    ·rintro i hi ⟨g1, g2⟩
     have gi : l[i]? = some (n : Int) := by rw [List.getElem?_eq_getElem hi, ← getD_at l i hi, g1]
     refine cod_pref hs h1 h2 hn1 (by omega) gi ?_
     have := codN_cast gi hn1 (by omega)
     omega
 exact key _ 1 (by omega) (Nat.le_refl _) h1
def codeB (l : List Int) (s : Nat) : List Nat := bitsOf (codN l s) (l.getD s 0).toNat
def codesB (l : List Int) (ns : List Nat) : List Nat := ns.flatMap (codeB l)
theorem codesB_bits (l : List Int) (ns : List Nat) : Bits (codesB l ns) := by
 intro x hx
 obtain ⟨s, _, hs⟩ := List.mem_flatMap.1 hx
 exact bitsOf_bits _ _ x hs
theorem codesB_app (l : List Int) (xs ys : List Nat) : codesB l (xs ++ ys) = codesB l xs ++ codesB l ys := List.flatMap_append
theorem codesB_one (l : List Int) (s : Nat) : codesB l [s] = codeB l s := by unfold codesB; rw [List.flatMap_cons, List.flatMap_nil, List.append_nil]
theorem codeB_len {l : List Int} {s m : Nat} (hs : l[s]? = some (m : Int)) : (codeB l s).length = m := by
 unfold codeB
 rw [bitsOf_len, List.getD_eq_getElem?_getD, hs]
 rfl
theorem codeB_at {l : List Int} {s m : Nat} (hs : l[s]? = some (m : Int)) {i : Nat} (h : i < m) : bitG (codeB l s) i = codN l s / 2 ^ (m - 1 - i) % 2 := by
 unfold codeB
 rw [List.getD_eq_getElem?_getD, hs]
 exact bitsOf_getD _ h
def Coded (l : List Int) (ns : List Nat) : Prop := ∀ s ∈ ns, ∃ m : Nat, l[s]? = some (m : Int) ∧ 1 ≤ m ∧ m ≤ 15
theorem codesB_len {l : List Int} : ∀ {ns : List Nat}, Coded l ns → (codesB l ns).length ≤ 15 * ns.length ∧ ns.length ≤ (codesB l ns).length
 | [], _ => ⟨Nat.le_refl _, Nat.le_refl _⟩
 | s :: r, h => by
  have ih := codesB_len (ns := r) fun x hx => h x (List.mem_cons_of_mem _ hx)
  obtain ⟨m, h1, h2, h3⟩ := h s (List.mem_cons_self ..)
  have hc : codesB l (s :: r) = codeB l s ++ codesB l r := List.flatMap_cons
  rw [hc, List.length_append, codeB_len h1, List.length_cons]
  omega
theorem next_codes {l : List Int} (hk : kraftL l ≤ 32768) {pre rest : List Nat} {s : Nat} (hg : Coded l (pre ++ s :: rest)) {b : ByteArray} (hb : Holds b (codesB l (pre ++ s :: rest))) :
  nextT l b (codesB l pre).length = ((s : Int), 0, (codeB l s).length) := by
 obtain ⟨m, h1, h2, h3⟩ := hg s (List.mem_append_right _ (List.mem_cons_self ..))
 have hc : codesB l (pre ++ s :: rest) = codesB l pre ++ (codeB l s ++ codesB l rest) := by rw [codesB_app]; congr 1
 have hB := codesB_bits l (pre ++ s :: rest)
 have hat := bitAt_holds hB hb
 have hsz := hb.size
 rw [codeB_len h1]
 refine next_bits hk h1 h2 h3 (fun i hi => ?_) ?_
 ·rw [hat, hc, bitG_right, bitG_left _ _ (by rw [codeB_len h1]; exact hi), codeB_at h1 hi]
 ·rw [hsz, hc, List.length_append, List.length_append, codeB_len h1]
  omega
end Spec
end Go.Proofs.YtepgkimlmoikmaaGreat
set_option linter.unusedVariables false
set_option linter.unusedSimpArgs false
namespace Go.Proofs.YtepgkimlmoikmaaGreat
open Go.RowKit Go.Proofs.YtepgkimlmoikmaaGreat.Spec Go.Proofs.YtepgkimlmoikmaaGreatW.PrintWords Go.Proofs.YtepgkimlmoikmaaGreatW.PrintLast
open Go.Proofs.YtepgkimlmoikmaaGreatW.PrintMore
attribute [local go_sem ↓] Go.wp_at_zero Go.wp_at_succ
attribute [local go_sem] max2_int min2_int max_two min_two
namespace Spec
section
variable {σ : Type} {tok err : σ → Int} {step : σ → σ} {fin : σ → Bool}
def Reads (tok err : σ → Int) (step : σ → σ) : List Int → σ → σ → Prop
 | [], x, y => x = y
 | t :: r, x, y => err x = 0 ∧ tok x = t ∧ Reads tok err step r (step x) y
theorem cat_cons (l : List ByteArray) (t : Int) (r : List Int) : cat l (t :: r) = word l t ++ cat l r := rfl
theorem cat_size_cons (l : List ByteArray) (t : Int) (r : List Int) : (cat l (t :: r)).size = (word l t).size + (cat l r).size := by rw [cat_cons, ByteArray.size_append]
theorem meanM_all {l : List ByteArray} (hs : ∀ s ∈ l, 1 ≤ s.size ∧ s.size ≤ 40) {raw : Nat} : ∀ (toks : List Int) (f : Nat) (s : ByteArray) (x y : σ), Reads tok err step toks x y → (∀ t ∈ toks, Tok l t) → s.size + (cat l toks).size ≤ raw → toks.length ≤ f →
  meanM tok err step fin l raw f s x = meanM tok err step fin l raw (f - toks.length) (s ++ cat l toks) y
 | [], f, s, x, y, hr, _, _, _ => by
  obtain rfl : x = y := hr
  rw [show cat l [] = ⟨#[]⟩ from rfl, ba_append_nil]
  rfl
 | t :: r, f, s, x, y, hr, ht, hn, hf => by
  obtain ⟨h1, h2, h3⟩ := hr
  have hk := ht t (List.mem_cons_self ..)
  have hw := (word_size hs hk).1
  rw [cat_size_cons] at hn
  rw [List.length_cons] at hf
  obtain ⟨f, rfl⟩ : ∃ g, f = g + 1 := ⟨f - 1, by omega⟩
  rw [meanM, if_neg (by omega), if_neg (fun e => e h1), h2, if_neg (fun e => e hk), if_neg (by omega)]
  rw [meanM_all hs r f _ _ y h3 (fun z hz => ht z (List.mem_cons_of_mem _ hz)) (by rw [ByteArray.size_append]; omega) (by omega), cat_cons, ba_assoc, List.length_cons, show f + 1 - (r.length + 1) = f - r.length by omega]
theorem meanM_just {l : List ByteArray} (hs : ∀ s ∈ l, 1 ≤ s.size ∧ s.size ≤ 40) (toks : List Int) (x y : σ) (hr : Reads tok err step toks x y) (ht : ∀ t ∈ toks, Tok l t) (hf : fin y = true) :
  meanM tok err step fin l (cat l toks).size (cat l toks).size ⟨#[]⟩ x = (cat l toks, 0) := by
 have hlen := cat_size hs ht
 rw [meanM_all hs toks _ _ x y hr ht (by show 0 + _ ≤ _; omega) hlen, ba_nil_append]
 cases (cat l toks).size - toks.length with
 | zero => rw [meanM, if_pos hf]
 | succ f => rw [meanM, if_pos (Nat.le_refl _), if_pos hf]
end
end Spec
end Go.Proofs.YtepgkimlmoikmaaGreat
set_option linter.unusedVariables false
set_option linter.unusedSimpArgs false
namespace Go.Proofs.YtepgkimlmoikmaaGreat
open Go.RowKit Go.Proofs.YtepgkimlmoikmaaGreat.Spec Go.Proofs.YtepgkimlmoikmaaGreatW.PrintWords Go.Proofs.YtepgkimlmoikmaaGreatW.PrintLast
open Go.Proofs.YtepgkimlmoikmaaGreatW.PrintMore
attribute [local go_sem ↓] Go.wp_at_zero Go.wp_at_succ
attribute [local go_sem] max2_int min2_int max_two min_two
namespace Spec
def finC (S : Sc) : Int := if S.code ≠ 0 then S.code else if S.done = true then 0 else 2
end Spec
def dNew : D := ⟨0, 0, 0, false, false, ⟨#[]⟩, 0, 0, 0, 0⟩
theorem rel_new (l : List ByteArray) : Rel l ⟨#[]⟩ dNew := by
 have h : (⟨#[]⟩ : ByteArray).size < 17 := by decide
 refine ⟨fun _ => ?_, fun e => absurd (by rw [full_short h]) e⟩
 unfold dOk
 rw [if_pos h]
 rfl
theorem newdec_calls {P : Value} {ad : Addr} (hP : P = .pointer (some ad)) (w : World) :
  Calls Tryz.prog 42 #[P] w fun e w' => e = .returned (.tuple #[.pointer (some ⟨w.heap.size, 0, none⟩), .nilIface]) ∧ DecAt w' w.heap.size P dNew ∧ Below w.heap.size w w' := by
 subst hP
 go_enter Tryz.func42, Tryz.ntmps42
 go_wp2_with fail
 go_ret2
 exact ⟨rfl, blk_new _ _, (Below.refl _ _).alloc (Nat.le_refl _) _⟩
theorem finish_any {w : World} {g : Nat} {P : Value} {d : D} {l : List ByteArray} {B : ByteArray} (h : DecAt w g P d) {ad : Addr} (hP : P = .pointer (some ad)) (hr : Rel l B d) :
  Calls Tryz.prog 60 #[.pointer (some ⟨g, 0, none⟩)] w fun e w' => e = .returned (errV (finC (full l B)) ((full l B).at_ : Int)) ∧ w = w' := by
 have HNO := Aside0.mk (none_calls h hP)
 have c9 := h.c9
 have c5 := h.c5
 have c7 := h.c7
 rw [rel_err hr] at c9
 have hd := hr.1
 have hat : (full l B).code = 0 → d.at_ = (full l B).at_ ∧ d.done = (full l B).done := by
  intro hc
  rw [hd hc]
  unfold dOk
  by_cases g : B.size < 17
  ·rw [if_pos g, full_short g]; exact ⟨rfl, rfl⟩
  ·rw [if_neg g]; exact ⟨rfl, rfl⟩
 generalize full l B = S at *
 obtain ⟨o, a, c, dn⟩ := S
 dsimp only at *
 unfold finC
 dsimp only
 clear hd hr
 by_cases hc : c = 0
 ·obtain ⟨h1, h2⟩ := hat hc
  subst hc
  rw [h1] at c7
  rw [h2] at c5
  rw [if_neg (fun n => n rfl)]
  have c9' : w.cell? ⟨g, 9, none⟩ = some .nilIface := c9
  clear hat h1 h2 c9 h hP
  cases dn with
  | true =>
   rw [if_pos rfl]
   go_enter Tryz.func60, Tryz.ntmps60
   go_wp2_with fail
   refine HNO.out.mono ?_
   rintro x w1 ⟨rfl, rfl⟩
   go_wp2_with fail
   go_ret
   exact ⟨rfl, rfl⟩
  | false =>
   rw [if_neg (by decide)]
   go_enter Tryz.func60, Tryz.ntmps60
   go_wp2_with fail
   refine HNO.out.mono ?_
   rintro x w1 ⟨rfl, rfl⟩
   go_wp2_with fail
   refine (fnew_any 2 (a : Int) _).mono ?_
   rintro x w1 ⟨rfl, rfl⟩
   go_wp2_with fail
   go_ret
   exact ⟨rfl, rfl⟩
 ·rw [if_pos hc]
  have HE := Aside0.mk (errV_some hc (a : Int))
  rw [HE.out] at c9 ⊢
  clear hat h hP hc
  go_enter Tryz.func60, Tryz.ntmps60
  go_wp2_with fail
  refine HNO.out.mono ?_
  rintro x w1 ⟨rfl, rfl⟩
  go_wp2_with fail
  go_ret
  exact ⟨rfl, rfl⟩
theorem xheld_calls {w : World} {g : Nat} {P : Value} {d : D} (h : DecAt w g P d) :
  Calls Tryz.prog 61 #[.pointer (some ⟨g, 0, none⟩)] w fun e w' => e = .returned (.int .i64 (d.held.size : Int)) ∧ w = w' := by
 have c6 := h.c6
 clear h
 go_enter Tryz.func61, Tryz.ntmps61
 go_wp2_with fail
 go_ret
 exact ⟨rfl, rfl⟩
theorem xdone_calls {w : World} {g : Nat} {P : Value} {d : D} {l : List ByteArray} {B : ByteArray} (h : DecAt w g P d) (hr : Rel l B d) :
  Calls Tryz.prog 59 #[.pointer (some ⟨g, 0, none⟩)] w fun e w' => e = .returned (.bool (decide (finC (full l B) = 0))) ∧ Drawn0 w w' := by
 have c9 := h.c9
 have c5 := h.c5
 rw [rel_err hr] at c9
 have hd := hr.1
 have hat : (full l B).code = 0 → d.done = (full l B).done := by
  intro hc
  rw [hd hc]
  unfold dOk
  by_cases g : B.size < 17
  ·rw [if_pos g, full_short g]
  ·rw [if_neg g]
 generalize full l B = S at *
 obtain ⟨o, a, c, dn⟩ := S
 dsimp only at *
 unfold finC
 dsimp only
 clear hd hr
 generalize d.done = dd at *
 by_cases hc : c = 0
 ·have h2 := hat hc
  subst hc h2
  rw [if_neg (fun n => n rfl)]
  have c9' : w.cell? ⟨g, 9, none⟩ = some .nilIface := c9
  clear hat c9 h
  cases dd with
  | true =>
   rw [if_pos rfl]
   go_enter Tryz.func59, Tryz.ntmps59
   go_wp2_with fail
   go_ret
   exact ⟨rfl, Drawn0.refl w⟩
  | false =>
   rw [if_neg (by decide)]
   go_enter Tryz.func59, Tryz.ntmps59
   go_wp2_with fail
   go_ret
   exact ⟨rfl, Drawn0.refl w⟩
 ·rw [if_pos hc]
  have HE := Aside0.mk (errV_some hc (a : Int))
  rw [HE.out] at c9
  rw [decide_eq_false hc]
  clear hat h hc
  cases dd with
  | true =>
   go_enter Tryz.func59, Tryz.ntmps59
   go_wp2_with fail
   go_ret
   exact ⟨rfl, Drawn0.refl w⟩
  | false =>
   go_enter Tryz.func59, Tryz.ntmps59
   go_wp2_with fail
   go_ret
   exact ⟨rfl, Drawn0.refl w⟩
theorem decode_any {w : World} {P : Value} {l : List ByteArray} (hd : DictAt w P l) {ad : Addr} (hP : P = .pointer (some ad)) (hl : l.length ≤ 100) (hs : ∀ s ∈ l, 1 ≤ s.size ∧ s.size ≤ 40) (B : ByteArray) (hz : B.size ≤ 900000) :
  Calls Tryz.prog 64 #[P, .string B] w fun e w' => e = .returned (.tuple #[.string (if finC (full l B) = 0 then (full l B).out else ⟨#[]⟩), errV (finC (full l B)) ((full l B).at_ : Int)]) ∧ Below w.heap.size w w' := by
 have HD := Aside0.mk hd
 have HND := Aside0.mk (newdec_calls hP w)
 have HFE := Aside0.mk (fun (W : World) (g : Nat) (h : DecAt W g P dNew) (hdi : DicF g W P l) => feed_any h hdi hP hl hs (rel_new l) B (by rw [ba_nil_append]; exact hz))
 have hB : (⟨#[]⟩ : ByteArray) ++ B = B := ba_nil_append B
 have hO : (full l (⟨#[]⟩ : ByteArray)).out = ⟨#[]⟩ := by rw [full_short (by decide)]
 rw [hB, hO] at HFE
 have HFI := Aside0.mk (fun (W : World) (g : Nat) (d : D) (h : DecAt W g P d) (hr : Rel l B d) => finish_any h hP hr)
 subst hP
 by_cases hc : (full l B).code = 0
 ·have hf : finC (full l B) = if (full l B).done = true then 0 else 2 := by unfold finC; rw [if_neg (fun n => n hc)]
  rw [hf] at HFI ⊢
  rw [hc] at HFE
  have HFE2 : Aside0 (∀ (W : World) (g : Nat), DecAt W g (.pointer (some ad)) dNew → DicF g W (.pointer (some ad)) l → Calls Tryz.prog 43 #[.pointer (some ⟨g, 0, none⟩), .string B] W fun e w' => ∃ o d', e = .returned (.tuple #[.string o, .nilIface]) ∧ (⟨#[]⟩ : ByteArray) ++ o = (full l B).out ∧ DecAt w' g (.pointer (some ad)) d' ∧ Rel l B d' ∧ Mv g W w') := HFE
  cases hdn : (full l B).done with
  | true =>
   rw [hdn, if_pos rfl] at HFI
   rw [if_pos rfl, if_pos rfl]
   have HFI2 : Aside0 (∀ (W : World) (g : Nat) (d : D), DecAt W g (.pointer (some ad)) d → Rel l B d → Calls Tryz.prog 60 #[.pointer (some ⟨g, 0, none⟩)] W fun e w' => e = .returned .nilIface ∧ W = w') := HFI
   clear hd hl hs hz hB hO hc hf hdn HFE HFI
   go_enter Tryz.func64, Tryz.ntmps64
   go_wp2_with fail
   refine HND.out.mono ?_
   rintro e w1 ⟨rfl, hd1, hb1⟩
   have HD1 := Aside0.mk hd1
   have HB1 := Aside0.mk hb1
   clear hd1 hb1
   go_wp2_with fail
   refine (HFE2.out _ _ HD1.out (DicF.of HD.out HB1.out (Nat.le_refl _))).mono ?_
   rintro e w2 ⟨o, d2, rfl, ho, hd2, hr2, hm2⟩
   have HO := Aside0.mk ho
   have HD2 := Aside0.mk hd2
   have HR2 := Aside0.mk hr2
   have HB2 := Aside0.mk (hm2.low HB1.out (Nat.le_refl _))
   clear ho hd2 hr2 hm2
   go_wp2_with fail
   refine (HFI2.out _ _ _ HD2.out HR2.out).mono ?_
   rintro e w3 ⟨rfl, rfl⟩
   go_wp2_with fail
   refine (of_nil _).mono ?_
   rintro e w4 ⟨rfl, hb4⟩
   have HB4 := Aside0.mk (below_step HB2.out hb4)
   clear hb4
   go_wp2_with fail
   go_ret2
   exact ⟨by rw [← HO.out, ba_nil_append]; rfl, by repeat (first | exact HB4.out | apply below_alloc | apply below_drew | apply pw_below_drewN)⟩
  | false =>
   rw [hdn, if_neg (by decide)] at HFI
   rw [if_neg (by decide), if_neg (by decide)]
   have HE := Aside0.mk (errV_some (show (2 : Int) ≠ 0 by decide) ((full l B).at_ : Int))
   rw [HE.out] at HFI ⊢
   have HOF := Aside0.mk (fun W => of_some 2 ((full l B).at_ : Int) W)
   generalize (full l B).at_ = at2 at *
   clear hd hl hs hz hB hO hc hf hdn HFE
   go_enter Tryz.func64, Tryz.ntmps64
   go_wp2_with fail
   refine HND.out.mono ?_
   rintro e w1 ⟨rfl, hd1, hb1⟩
   have HD1 := Aside0.mk hd1
   have HB1 := Aside0.mk hb1
   clear hd1 hb1
   go_wp2_with fail
   refine (HFE2.out _ _ HD1.out (DicF.of HD.out HB1.out (Nat.le_refl _))).mono ?_
   rintro e w2 ⟨o, d2, rfl, ho, hd2, hr2, hm2⟩
   have HD2 := Aside0.mk hd2
   have HR2 := Aside0.mk hr2
   have HB2 := Aside0.mk (hm2.low HB1.out (Nat.le_refl _))
   clear ho hd2 hr2 hm2
   go_wp2_with fail
   refine (HFI.out _ _ _ HD2.out HR2.out).mono ?_
   rintro e w3 ⟨rfl, rfl⟩
   go_wp2_with fail
   refine (HOF.out _).mono ?_
   rintro e w4 ⟨rfl, hb4⟩
   have HB4 := Aside0.mk (below_step HB2.out hb4)
   clear hb4
   go_wp2_with fail
   go_quiet (fail)
   go_wp2_with fail
   go_ret2
   exact ⟨rfl, by repeat (first | exact HB4.out | apply below_alloc | apply below_drew | apply pw_below_drewN)⟩
 ·have hf : finC (full l B) = (full l B).code := by unfold finC; rw [if_pos hc]
  rw [hf, if_neg hc]
  have HE := Aside0.mk (errV_some hc ((full l B).at_ : Int))
  rw [HE.out] at HFE ⊢
  have HOF := Aside0.mk (fun W => of_some (full l B).code ((full l B).at_ : Int) W)
  generalize (full l B).at_ = at2 at *
  generalize (full l B).code = cd at *
  clear hd hl hs hz hB hO hc hf
  go_enter Tryz.func64, Tryz.ntmps64
  go_wp2_with fail
  refine HND.out.mono ?_
  rintro e w1 ⟨rfl, hd1, hb1⟩
  have HD1 := Aside0.mk hd1
  have HB1 := Aside0.mk hb1
  clear hd1 hb1
  go_wp2_with fail
  refine (HFE.out _ _ HD1.out (DicF.of HD.out HB1.out (Nat.le_refl _))).mono ?_
  rintro e w2 ⟨o, d2, rfl, ho, hd2, hr2, hm2⟩
  have HB2 := Aside0.mk (hm2.low HB1.out (Nat.le_refl _))
  clear ho hd2 hr2 hm2
  go_wp2_with fail
  refine (HOF.out _).mono ?_
  rintro e w4 ⟨rfl, hb4⟩
  have HB4 := Aside0.mk (below_step HB2.out hb4)
  clear hb4
  go_wp2_with fail
  go_quiet (fail)
  go_wp2_with fail
  go_ret2
  exact ⟨rfl, by repeat (first | exact HB4.out | apply below_alloc | apply below_drew | apply pw_below_drewN)⟩
end Go.Proofs.YtepgkimlmoikmaaGreat
set_option linter.unusedVariables false
set_option linter.unusedSimpArgs false
namespace Go.Proofs.YtepgkimlmoikmaaGreat
open Go.RowKit Go.Proofs.YtepgkimlmoikmaaGreat.Spec Go.Proofs.YtepgkimlmoikmaaGreatW.PrintWords Go.Proofs.YtepgkimlmoikmaaGreatW.PrintLast
open Go.Proofs.YtepgkimlmoikmaaGreatW.PrintMore
attribute [local go_sem ↓] Go.wp_at_zero Go.wp_at_succ
attribute [local go_sem] max2_int min2_int max_two min_two
end Go.Proofs.YtepgkimlmoikmaaGreat
