/- ShX: a part of its proof (contracts of the functions that it reaches, and the plain mathematics behind them). -/
import Derived.Test.YtepgkimlmoikmaaShX35
import Derived.Test.YtepgkimlmoikmaaShX13
set_option linter.unusedVariables false
set_option linter.unusedSimpArgs false
set_option linter.unusedVariables false
set_option linter.unusedSimpArgs false
namespace Go.Proofs.Ytepgkimlmoikmaa
open Go.RowKit Go.Proofs.Ytepgkimlmoikmaa.Spec Go.Proofs.YtepgkimlmoikmaaW.PrintWords Go.Proofs.YtepgkimlmoikmaaW.PrintLast
open Go.Proofs.YtepgkimlmoikmaaW.PrintMore
attribute [local go_sem ↓] Go.wp_at_zero Go.wp_at_succ
attribute [local go_sem] max2_int min2_int max_two min_two
namespace Spec
theorem preC_up (l : List Int) (n : Nat) : ∀ d, 2 ^ d * preC l n ≤ preC l (n + d)
 | 0 => by rw [Nat.pow_zero, Nat.one_mul]; exact Nat.le_refl _
 | d + 1 => by
  have h := preC_up l n d
  rw [show n + (d + 1) = (n + d) + 1 by omega, preC, Nat.pow_succ, Nat.mul_comm (2 ^ d) 2, Nat.mul_assoc]
  omega
theorem preC_cons (x : Int) (r : List Int) : ∀ n, preC (x :: r) n = preC r n + (if 1 ≤ x ∧ x ≤ (n : Int) then 2 ^ (n - x.toNat) else 0)
 | 0 => by rw [preC, preC, if_neg (by omega)]
 | n + 1 => by
  have hc : cnt (x :: r) ((n + 1 : Nat) : Int) = cnt r ((n + 1 : Nat) : Int) + (if x = ((n + 1 : Nat) : Int) then 1 else 0) := by
   unfold cnt
   rw [List.countP_cons]
   congr 1
   simp
  rw [preC, preC, preC_cons x r n, hc]
  by_cases h1 : x = ((n + 1 : Nat) : Int)
  ·subst h1
   rw [if_neg (by omega), if_pos rfl, if_pos (by omega), Int.toNat_natCast, Nat.sub_self]
   omega
  ·rw [if_neg h1]
   by_cases h2 : 1 ≤ x ∧ x ≤ (n : Int)
   ·rw [if_pos h2, if_pos (by omega), show n + 1 - x.toNat = (n - x.toNat) + 1 by omega, Nat.pow_succ]
    omega
   ·rw [if_neg h2, if_neg (by omega)]
    omega
theorem preC_kraft : ∀ l : List Int, preC l 15 = kraftL l
 | [] => by decide
 | x :: r => by rw [preC_cons, preC_kraft r, kraftL, Nat.add_comm]; rfl
theorem preC_le2 {l : List Int} (hk : kraftL l ≤ 32768) {n : Nat} (hn : n ≤ 15) : preC l n ≤ 2 ^ n := by
 have h := preC_up l n (15 - n)
 rw [show n + (15 - n) = 15 by omega, preC_kraft] at h
 have h2 : 2 ^ (15 - n) * 2 ^ n = 32768 := by rw [← Nat.pow_add, show 15 - n + n = 15 by omega]
 refine Nat.le_of_mul_le_mul_left (?_ : 2 ^ (15 - n) * preC l n ≤ 2 ^ (15 - n) * 2 ^ n) (Nat.two_pow_pos _)
 omega
def codN (l : List Int) (s : Nat) : Nat := (cod l s).toNat
theorem cod_here {l : List Int} {s n : Nat} (h : l[s]? = some (n : Int)) (h1 : 1 ≤ n) (h2 : n ≤ 15) : cod l s = ((2 * preC l (n - 1) + cnt (l.take s) (n : Int) : Nat) : Int) := by
 obtain ⟨hs, he⟩ := List.getElem?_eq_some_iff.1 h
 exact cod_at l s n hs h1 h2 he
theorem codN_cast {l : List Int} {s n : Nat} (h : l[s]? = some (n : Int)) (h1 : 1 ≤ n) (h2 : n ≤ 15) : ((codN l s : Nat) : Int) = cod l s := by
 unfold codN
 rw [cod_here h h1 h2, Int.toNat_natCast]
theorem cnt_lt {l : List Int} {s : Nat} {x : Int} (h : l[s]? = some x) : cnt (l.take s) x < cnt l x := by
 obtain ⟨hs, he⟩ := List.getElem?_eq_some_iff.1 h
 have h1 := cnt_take l x s hs
 rw [if_pos he] at h1
 have h2 : cnt (l.take (s + 1)) x ≤ cnt l x := by unfold cnt; exact List.Sublist.countP_le (List.take_sublist _ _)
 omega
theorem codN_lt {l : List Int} {s n : Nat} (h : l[s]? = some (n : Int)) (h1 : 1 ≤ n) (h2 : n ≤ 15) : codN l s < preC l n ∧ 2 * preC l (n - 1) ≤ codN l s := by
 unfold codN
 rw [cod_here h h1 h2, Int.toNat_natCast]
 have h3 := cnt_lt h
 obtain ⟨m, rfl⟩ : ∃ m, n = m + 1 := ⟨n - 1, by omega⟩
 rw [preC, Nat.add_sub_cancel]
 omega
theorem codN_pow {l : List Int} (hk : kraftL l ≤ 32768) {s n : Nat} (h : l[s]? = some (n : Int)) (h1 : 1 ≤ n) (h2 : n ≤ 15) : codN l s < 2 ^ n := Nat.lt_of_lt_of_le (codN_lt h h1 h2).1 (preC_le2 hk h2)
theorem cod_pref {l : List Int} {s n : Nat} (h : l[s]? = some (n : Int)) (h1 : 1 ≤ n) (h2 : n ≤ 15) {m i : Nat} (hm1 : 1 ≤ m) (hm : m < n) (hi : l[i]? = some (m : Int)) : codN l i ≠ codN l s / 2 ^ (n - m) := by
 have a := (codN_lt hi hm1 (by omega)).1
 have b := (codN_lt h h1 h2).2
 have c := preC_up l m (n - 1 - m)
 rw [show m + (n - 1 - m) = n - 1 by omega] at c
 have d : preC l m ≤ codN l s / 2 ^ (n - m) := by
  rw [Nat.le_div_iff_mul_le (Nat.two_pow_pos _), show n - m = (n - 1 - m) + 1 by omega, Nat.pow_succ, ← Nat.mul_assoc, Nat.mul_comm (preC l m) (2 ^ (n - 1 - m))]
  omega
 omega
theorem bitsOf_getD (c : Nat) {n i : Nat} (h : i < n) : bitG (bitsOf c n) i = c / 2 ^ (n - 1 - i) % 2 := by
 unfold bitG
 rw [List.getD_eq_getElem?_getD, bitsOf_get c h]
 rfl
theorem bitG_right (A B : List Nat) (i : Nat) : bitG (A ++ B) (A.length + i) = bitG B i := by
 unfold bitG
 rw [List.getD_eq_getElem?_getD, List.getD_eq_getElem?_getD, List.getElem?_append_right (by omega), Nat.add_sub_cancel_left]
theorem bitG_left (A B : List Nat) {i : Nat} (h : i < A.length) : bitG (A ++ B) i = bitG A i := by
 unfold bitG
 rw [List.getD_eq_getElem?_getD, List.getD_eq_getElem?_getD, List.getElem?_append_left h]
def Holds (b : ByteArray) (B : List Nat) : Prop := u b = (bytesB B).map UInt8.ofNat
theorem Holds.size {b : ByteArray} {B : List Nat} (h : Holds b B) : b.size = (B.length + 7) / 8 := by
 rw [← u_size, h, List.length_map, bytesB_len]
theorem bitAt_holds {b : ByteArray} {B : List Nat} (hB : Bits B) (h : Holds b B) (i : Nat) : bitAt b i = bitG B i := by
 unfold bitAt
 rw [h]
 have hj : i % 8 < 8 := Nat.mod_lt _ (by omega)
 by_cases hk : i / 8 < (B.length + 7) / 8
 ·rw [List.getD_eq_getElem?_getD, List.getElem?_map, bytesB_get B hk]
  show (UInt8.ofNat (byteB B (i / 8))).toNat / 2 ^ (7 - i % 8) % 2 = _
  rw [UInt8.toNat_ofNat', Nat.mod_eq_of_lt (byteB_small hB _), byteB_bit hB _ _ hj, show 8 * (i / 8) + i % 8 = i by omega]
 ·rw [List.getD_eq_getElem?_getD, List.getElem?_eq_none (by rw [List.length_map, bytesB_len]; omega), bitG_off (by omega)]
  show (0 : UInt8).toNat / 2 ^ (7 - i % 8) % 2 = 0
  rw [show (0 : UInt8).toNat = 0 from rfl, Nat.zero_div]
theorem peek_bits {b : ByteArray} {a c m : Nat} (h : ∀ i, i < m → bitAt b (a + i) = c / 2 ^ (m - 1 - i) % 2) (hc : c < 2 ^ m) : ∀ n, n ≤ m → peekV b a n = c / 2 ^ (m - n)
 | 0, _ => by rw [peekV, Nat.sub_zero, Nat.div_eq_of_lt hc]
 | n + 1, hn => by
  rw [peekV, peek_bits h hc n (by omega), h n (by omega), show m - n = (m - (n + 1)) + 1 by omega, Nat.pow_succ, ← Nat.div_div_eq_div_mul, show m - 1 - n = m - (n + 1) by omega]
  omega
theorem next_bits {l : List Int} (hk : kraftL l ≤ 32768) {s m : Nat} (hs : l[s]? = some (m : Int)) (h1 : 1 ≤ m) (h2 : m ≤ 15) {b : ByteArray} {a : Nat} (hb : ∀ i, i < m → bitAt b (a + i) = codN l s / 2 ^ (m - 1 - i) % 2) (hl : a + m ≤ 8 * b.size) : nextT l b a = ((s : Int), 0, m) := by
 have hpk := peek_bits hb (codN_pow hk hs h1 h2)
 have hM : (m : Int) ≤ maxL l := maxL_ge l _ (List.mem_of_getElem? hs)
 obtain ⟨hlt, hel⟩ := List.getElem?_eq_some_iff.1 hs
 have key : ∀ f n, n + f = (maxL l).toNat + 1 → 1 ≤ n → n ≤ m → nextF l b a (8 * b.size - a) f n = ((s : Int), 0, m) := by
  intro f
  induction f with
  | zero => intro n h _ _; exfalso; omega
  | succ f ih =>
   intro n hnf hn1 hnm
   rw [nextF, if_neg (by omega), hpk n hnm]
   by_cases he : n = m
   ·subst he
    obtain ⟨q1, q2, q3⟩ := hit_yes l n s ⟨h1, h2⟩ hlt (by rw [getD_at l s hlt]; exact hel)
    rw [Nat.sub_self, Nat.pow_zero, Nat.div_one, codN_cast hs h1 h2, if_pos ⟨q1, q2⟩, q3]
   ·rw [if_neg (hit_no l n _ ⟨hn1, by omega⟩ ?_)]
    ·exact ih (n + 1) (by omega) (by omega) (by omega)
    ·rintro i hi ⟨g1, g2⟩
     have gi : l[i]? = some (n : Int) := by rw [List.getElem?_eq_getElem hi, ← getD_at l i hi, g1]
     refine cod_pref hs h1 h2 hn1 (by omega) gi ?_
     have := codN_cast gi hn1 (by omega)
     omega
 exact key _ 1 (by omega) (Nat.le_refl _) h1
def codeB (l : List Int) (s : Nat) : List Nat := bitsOf (codN l s) (l.getD s 0).toNat
def codesB (l : List Int) (ns : List Nat) : List Nat := ns.flatMap (codeB l)
theorem codesB_bits (l : List Int) (ns : List Nat) : Bits (codesB l ns) := by
 intro x hx
 obtain ⟨s, _, hs⟩ := List.mem_flatMap.1 hx
 exact bitsOf_bits _ _ x hs
theorem codesB_app (l : List Int) (xs ys : List Nat) : codesB l (xs ++ ys) = codesB l xs ++ codesB l ys := List.flatMap_append
theorem codesB_one (l : List Int) (s : Nat) : codesB l [s] = codeB l s := by unfold codesB; rw [List.flatMap_cons, List.flatMap_nil, List.append_nil]
theorem codeB_len {l : List Int} {s m : Nat} (hs : l[s]? = some (m : Int)) : (codeB l s).length = m := by
 unfold codeB
 rw [bitsOf_len, List.getD_eq_getElem?_getD, hs]
 rfl
theorem codeB_at {l : List Int} {s m : Nat} (hs : l[s]? = some (m : Int)) {i : Nat} (h : i < m) : bitG (codeB l s) i = codN l s / 2 ^ (m - 1 - i) % 2 := by
 unfold codeB
 rw [List.getD_eq_getElem?_getD, hs]
 exact bitsOf_getD _ h
def Coded (l : List Int) (ns : List Nat) : Prop := ∀ s ∈ ns, ∃ m : Nat, l[s]? = some (m : Int) ∧ 1 ≤ m ∧ m ≤ 15
theorem codesB_len {l : List Int} : ∀ {ns : List Nat}, Coded l ns → (codesB l ns).length ≤ 15 * ns.length ∧ ns.length ≤ (codesB l ns).length
 | [], _ => ⟨Nat.le_refl _, Nat.le_refl _⟩
 | s :: r, h => by
  have ih := codesB_len (ns := r) fun x hx => h x (List.mem_cons_of_mem _ hx)
  obtain ⟨m, h1, h2, h3⟩ := h s (List.mem_cons_self ..)
  have hc : codesB l (s :: r) = codeB l s ++ codesB l r := List.flatMap_cons
  rw [hc, List.length_append, codeB_len h1, List.length_cons]
  omega
theorem next_codes {l : List Int} (hk : kraftL l ≤ 32768) {pre rest : List Nat} {s : Nat} (hg : Coded l (pre ++ s :: rest)) {b : ByteArray} (hb : Holds b (codesB l (pre ++ s :: rest))) :
  nextT l b (codesB l pre).length = ((s : Int), 0, (codeB l s).length) := by
 obtain ⟨m, h1, h2, h3⟩ := hg s (List.mem_append_right _ (List.mem_cons_self ..))
 have hc : codesB l (pre ++ s :: rest) = codesB l pre ++ (codeB l s ++ codesB l rest) := by rw [codesB_app]; congr 1
 have hB := codesB_bits l (pre ++ s :: rest)
 have hat := bitAt_holds hB hb
 have hsz := hb.size
 rw [codeB_len h1]
 refine next_bits hk h1 h2 h3 (fun i hi => ?_) ?_
 ·rw [hat, hc, bitG_right, bitG_left _ _ (by rw [codeB_len h1]; exact hi), codeB_at h1 hi]
 ·rw [hsz, hc, List.length_append, List.length_append, codeB_len h1]
  omega
end Spec
end Go.Proofs.Ytepgkimlmoikmaa
set_option linter.unusedVariables false
set_option linter.unusedSimpArgs false
namespace Go.Proofs.Ytepgkimlmoikmaa
open Go.RowKit Go.Proofs.Ytepgkimlmoikmaa.Spec Go.Proofs.YtepgkimlmoikmaaW.PrintWords Go.Proofs.YtepgkimlmoikmaaW.PrintLast
open Go.Proofs.YtepgkimlmoikmaaW.PrintMore
attribute [local go_sem ↓] Go.wp_at_zero Go.wp_at_succ
attribute [local go_sem] max2_int min2_int max_two min_two
namespace Spec
section
variable {σ : Type} {tok err : σ → Int} {step : σ → σ} {fin : σ → Bool}
def Reads (tok err : σ → Int) (step : σ → σ) : List Int → σ → σ → Prop
 | [], x, y => x = y
 | t :: r, x, y => err x = 0 ∧ tok x = t ∧ Reads tok err step r (step x) y
theorem cat_cons (l : List ByteArray) (t : Int) (r : List Int) : cat l (t :: r) = word l t ++ cat l r := rfl
theorem cat_size_cons (l : List ByteArray) (t : Int) (r : List Int) : (cat l (t :: r)).size = (word l t).size + (cat l r).size := by rw [cat_cons, ByteArray.size_append]
theorem meanM_all {l : List ByteArray} (hs : ∀ s ∈ l, 1 ≤ s.size ∧ s.size ≤ 40) {raw : Nat} : ∀ (toks : List Int) (f : Nat) (s : ByteArray) (x y : σ), Reads tok err step toks x y → (∀ t ∈ toks, Tok l t) → s.size + (cat l toks).size ≤ raw → toks.length ≤ f →
  meanM tok err step fin l raw f s x = meanM tok err step fin l raw (f - toks.length) (s ++ cat l toks) y
 | [], f, s, x, y, hr, _, _, _ => by
  obtain rfl : x = y := hr
  rw [show cat l [] = ⟨#[]⟩ from rfl, ba_append_nil]
  rfl
 | t :: r, f, s, x, y, hr, ht, hn, hf => by
  obtain ⟨h1, h2, h3⟩ := hr
  have hk := ht t (List.mem_cons_self ..)
  have hw := (word_size hs hk).1
  rw [cat_size_cons] at hn
  rw [List.length_cons] at hf
  obtain ⟨f, rfl⟩ : ∃ g, f = g + 1 := ⟨f - 1, by omega⟩
  rw [meanM, if_neg (by omega), if_neg (fun e => e h1), h2, if_neg (fun e => e hk), if_neg (by omega)]
  rw [meanM_all hs r f _ _ y h3 (fun z hz => ht z (List.mem_cons_of_mem _ hz)) (by rw [ByteArray.size_append]; omega) (by omega), cat_cons, ba_assoc, List.length_cons, show f + 1 - (r.length + 1) = f - r.length by omega]
theorem meanM_more {l : List ByteArray} (hs : ∀ s ∈ l, 1 ≤ s.size ∧ s.size ≤ 40) {raw : Nat} : ∀ (f : Nat) (s : ByteArray) (x : σ), s.size ≤ raw → raw ≤ s.size + f →
  ((meanM tok err step fin l raw f s x).2 = 0 ∧ (∃ t, (meanM tok err step fin l raw f s x).1 = s ++ t) ∧ (meanM tok err step fin l raw f s x).1.size = raw) ∨ ((meanM tok err step fin l raw f s x).2 ≠ 0 ∧ (meanM tok err step fin l raw f s x).1 = ⟨#[]⟩)
 | 0, s, x, h1, h2 => by
  rw [meanM]
  split
  ·exact .inl ⟨rfl, ⟨⟨#[]⟩, (ba_append_nil s).symm⟩, by show s.size = raw; omega⟩
  ·exact .inr ⟨by decide, rfl⟩
 | f + 1, s, x, h1, h2 => by
  rw [meanM]
  split
  ·split
   ·exact .inl ⟨rfl, ⟨⟨#[]⟩, (ba_append_nil s).symm⟩, by show s.size = raw; omega⟩
   ·exact .inr ⟨by decide, rfl⟩
  ·split
   ·rename_i h
    exact .inr ⟨h, rfl⟩
   ·split
    ·exact .inr ⟨by decide, rfl⟩
    ·rename_i hk
     have hk := Classical.not_not.1 hk
     have hw := (word_size hs hk).1
     split
     ·exact .inr ⟨by decide, rfl⟩
     ·rename_i hn
      rcases meanM_more hs (raw := raw) f (s ++ word l (tok x)) (step x) (by rw [ByteArray.size_append]; omega) (by rw [ByteArray.size_append]; omega) with ⟨a, ⟨t, b⟩, c⟩ | h
      ·exact .inl ⟨a, ⟨word l (tok x) ++ t, by rw [b, ba_assoc]⟩, c⟩
      ·exact .inr h
theorem meanM_less {l : List ByteArray} (hs : ∀ s ∈ l, 1 ≤ s.size ∧ s.size ≤ 40) {raw : Nat} : ∀ (toks : List Int) (f : Nat) (s : ByteArray) (x y : σ), Reads tok err step toks x y → (∀ t ∈ toks, Tok l t) → s.size ≤ raw → raw < s.size + (cat l toks).size → raw ≤ s.size + f →
  ((meanM tok err step fin l raw f s x).2 = 0 ∧ (∃ t, s ++ cat l toks = (meanM tok err step fin l raw f s x).1 ++ t) ∧ (meanM tok err step fin l raw f s x).1.size = raw ∧ ∃ (a b : List Int) (z : σ), toks = a ++ b ∧ b ≠ [] ∧ Reads tok err step a x z ∧ fin z = true) ∨ (((meanM tok err step fin l raw f s x).2 = 12 ∨ (meanM tok err step fin l raw f s x).2 = 13) ∧ (meanM tok err step fin l raw f s x).1 = ⟨#[]⟩)
 | toks, 0, s, x, y, hr, ht, h1, h2, h3 => by
  have hne : toks ≠ [] := by intro e; subst e; have h0 : (cat l []).size = 0 := rfl; omega
  rw [meanM]
  split
  ·rename_i hf
   exact .inl ⟨rfl, ⟨cat l toks, rfl⟩, by show s.size = raw; omega, [], toks, x, rfl, hne, rfl, hf⟩
  ·exact .inr ⟨.inr rfl, rfl⟩
 | [], f + 1, s, x, y, hr, ht, h1, h2, h3 => by
  have h0 : (cat l []).size = 0 := rfl
  omega
 | t :: r, f + 1, s, x, y, hr, ht, h1, h2, h3 => by
  obtain ⟨g1, g2, g3⟩ := hr
  have hk := ht t (List.mem_cons_self ..)
  have hw := (word_size hs hk).1
  rw [cat_size_cons] at h2
  rw [meanM]
  split
  ·split
   ·rename_i hf
    exact .inl ⟨rfl, ⟨cat l (t :: r), rfl⟩, by show s.size = raw; omega, [], t :: r, x, rfl, by simp, rfl, hf⟩
   ·exact .inr ⟨.inr rfl, rfl⟩
  ·rw [if_neg (fun e => e g1), g2, if_neg (fun e => e hk)]
   split
   ·exact .inr ⟨.inl rfl, rfl⟩
   ·rename_i hn
    rcases meanM_less hs (raw := raw) r f (s ++ word l t) (step x) y g3 (fun z hz => ht z (List.mem_cons_of_mem _ hz)) (by rw [ByteArray.size_append]; omega) (by rw [ByteArray.size_append]; omega) (by rw [ByteArray.size_append]; omega) with ⟨a, ⟨q, b⟩, c, a1, b1, z, e1, e2, e3, e4⟩ | h
    ·refine .inl ⟨a, ⟨q, by rw [cat_cons, ← ba_assoc, b]⟩, c, t :: a1, b1, z, by rw [e1]; rfl, e2, ⟨g1, g2, e3⟩, e4⟩
    ·exact .inr h
end
end Spec
end Go.Proofs.Ytepgkimlmoikmaa
