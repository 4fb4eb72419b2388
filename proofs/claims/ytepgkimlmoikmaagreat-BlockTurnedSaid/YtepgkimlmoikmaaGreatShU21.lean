/- ShU: a part of its proof (contracts of the functions that it reaches, and the plain mathematics behind them). -/
import Derived.Laws.ComplexArith
set_option linter.unusedVariables false
set_option linter.unusedSimpArgs false
set_option maxHeartbeats 2000000
set_option maxRecDepth 100000
set_option linter.unusedVariables false
set_option linter.unusedSimpArgs false
namespace Go.Proofs.YtepgkimlmoikmaaGreat
open Ieee
def fl (n : Nat) : Nat := Ieee.double.nearest false n 0
theorem dbl_least : Ieee.double.leastPlace = -1074 := by decide
theorem dbl_binade : Ieee.double.binade = 4503599627370496 := by decide +kernel
theorem dbl_inf : Ieee.double.infRung = 2047 * 4503599627370496 := by decide +kernel
theorem dbl_sign : Ieee.double.signWeight = 2048 * 4503599627370496 := by decide +kernel
theorem cut_exact (a d : Nat) (neg : Bool) : Toward.even.cut neg (a <<< d) d = a ∨ a = 0 := by
 by_cases ha : a = 0
 ·exact .inr ha
 ·left
  have hlog : d ≤ (a <<< d).log2 := by
   rw [Nat.shiftLeft_eq]
   have h1 : 2 ^ d ≤ a * 2 ^ d := Nat.le_mul_of_pos_left _ (by omega)
   exact (Nat.le_log2 (by have := Nat.two_pow_pos d; omega)).2 h1
  unfold Toward.cut
  rw [Nat.min_eq_left (by omega), Nat.shiftLeft_eq, Nat.shiftLeft_eq, Nat.one_mul]
  simp only [Nat.mul_mod_left, Nat.mul_div_cancel _ (Nat.two_pow_pos d)]
  have h2 : 0 < 2 ^ d := Nat.two_pow_pos d
  simp only [Nat.mul_zero]
  have h3 : decide (2 ^ d < 0) = false := by simp
  have h4 : ((2 ^ d : Nat) == 0) = false := beq_eq_false_iff_ne.2 (by omega)
  rw [h3, h4]
  rfl
theorem log2_shift {n k : Nat} (h : 0 < n) : (n <<< k).log2 = n.log2 + k := by
 have h1 := (Nat.log2_lt (n := n) (k := n.log2 + 1) (by omega)).1 (by omega)
 have h2 : 2 ^ n.log2 ≤ n := (Nat.le_log2 (by omega)).1 (Nat.le_refl _)
 have hp : 0 < 2 ^ k := Nat.two_pow_pos k
 have h0 : n * 2 ^ k ≠ 0 := by
  have := Nat.mul_pos h hp
  omega
 rw [Nat.shiftLeft_eq]
 apply Nat.le_antisymm
 ·have h3 : n * 2 ^ k < 2 ^ (n.log2 + k + 1) := by
   rw [show n.log2 + k + 1 = (n.log2 + 1) + k by omega, Nat.pow_add]
   exact Nat.mul_lt_mul_of_pos_right h1 hp
  have := (Nat.log2_lt h0).2 h3
  omega
 ·refine (Nat.le_log2 h0).2 ?_
  rw [Nat.pow_add]
  exact Nat.mul_le_mul_right _ h2
theorem near_shift {n k : Nat} (h : 0 < n) (hn : n < 9007199254740992) (hk : k ≤ 1074) : Ieee.double.nearest false (n <<< k) (-(k : Int)) = (n.log2 + 1022) * 4503599627370496 + n <<< (52 - n.log2) := by
 have h53 : (9007199254740992 : Nat) = 2 ^ 53 := by decide
 have hL : n.log2 ≤ 52 := by
  have := (Nat.log2_lt (n := n) (k := 53) (by omega)).2 (by rw [← h53]; exact hn)
  omega
 have hne : n <<< k ≠ 0 := by
  rw [Nat.shiftLeft_eq]
  have := Nat.mul_pos h (Nat.two_pow_pos k)
  omega
 have hup : n <<< (52 - n.log2) < 9007199254740992 := by
  have h1 := (Nat.log2_lt (n := n) (k := n.log2 + 1) (by omega)).1 (by omega)
  rw [Nat.shiftLeft_eq, h53, show 53 = (n.log2 + 1) + (52 - n.log2) by omega, Nat.pow_add]
  exact Nat.mul_lt_mul_of_pos_right h1 (Nat.two_pow_pos _)
 unfold Format.nearest
 rw [if_neg hne, log2_shift h, dbl_least]
 have hf : (Ieee.double.fractionBits : Int) = 52 := by decide
 rw [hf]
 have hlast : max (-(k : Int) + ((n.log2 + k : Nat) : Int) - 52) (-1074) = (n.log2 : Int) - 52 := by omega
 simp only [hlast]
 have hkept : Toward.even.cut false (n <<< k <<< (-(k : Int) - ((n.log2 : Int) - 52)).toNat) ((n.log2 : Int) - 52 - -(k : Int)).toNat = n <<< (52 - n.log2) := by
  by_cases hc : k ≤ 52 - n.log2
  ·have e1 : ((n.log2 : Int) - 52 - -(k : Int)).toNat = 0 := by omega
   have e2 : (-(k : Int) - ((n.log2 : Int) - 52)).toNat = 52 - n.log2 - k := by omega
   rw [e1, e2, ← Nat.shiftLeft_add, show k + (52 - n.log2 - k) = 52 - n.log2 by omega]
   have := cut_exact (n <<< (52 - n.log2)) 0 false
   rw [Nat.shiftLeft_zero] at this
   rcases this with h1 | h1
   ·exact h1
   ·exfalso
    rw [Nat.shiftLeft_eq] at h1
    have := Nat.mul_pos h (Nat.two_pow_pos (52 - n.log2))
    omega
  ·have e1 : (-(k : Int) - ((n.log2 : Int) - 52)).toNat = 0 := by omega
   have e2 : ((n.log2 : Int) - 52 - -(k : Int)).toNat = k - (52 - n.log2) := by omega
   rw [e1, e2, Nat.shiftLeft_zero]
   have e3 : n <<< k = n <<< (52 - n.log2) <<< (k - (52 - n.log2)) := by
    rw [← Nat.shiftLeft_add, show 52 - n.log2 + (k - (52 - n.log2)) = k by omega]
   rw [e3]
   rcases cut_exact (n <<< (52 - n.log2)) (k - (52 - n.log2)) false with h1 | h1
   ·exact h1
   ·exfalso
    rw [Nat.shiftLeft_eq] at h1
    have := Nat.mul_pos h (Nat.two_pow_pos (52 - n.log2))
    omega
 rw [hkept, dbl_binade, dbl_inf]
 have e4 : ((n.log2 : Int) - 52 - -1074).toNat = n.log2 + 1022 := by omega
 rw [e4]
 unfold Format.word
 rw [if_neg (by simp)]
 have e5 : (n.log2 + 1022) * 4503599627370496 ≤ 1074 * 4503599627370496 := Nat.mul_le_mul_right _ (by omega)
 clear hkept
 generalize n <<< (52 - n.log2) = N at *
 generalize n.log2 = L at *
 have e6 : (L + 1022) * 4503599627370496 + N ≤ 2047 * 4503599627370496 := Nat.le_trans (Nat.add_le_add e5 (Nat.le_of_lt hup)) (by decide +kernel)
 exact Nat.min_eq_left e6
theorem fl_pos {n : Nat} (h : 0 < n) (hn : n < 9007199254740992) : fl n = (n.log2 + 1022) * 4503599627370496 + n <<< (52 - n.log2) := by
 have := near_shift (k := 0) h hn (by omega)
 rw [Nat.shiftLeft_zero] at this
 exact this
theorem fl_zero : fl 0 = 0 := by decide +kernel
theorem near_fl {n k : Nat} (hn : n < 9007199254740992) (hk : k ≤ 1074) : Ieee.double.nearest false (n <<< k) (-(k : Int)) = fl n := by
 by_cases h : n = 0
 ·subst h
  rw [Nat.zero_shiftLeft]
  unfold fl Format.nearest
  rw [if_pos rfl, if_pos rfl]
 ·rw [near_shift (by omega) hn hk, fl_pos (by omega) hn]
theorem read_fl {n : Nat} (hn : n < 9007199254740992) : ∃ k : Nat, k ≤ 1074 ∧ Ieee.double.read (fl n) = .number false (n <<< k) (-(k : Int)) := by
 by_cases h : n = 0
 ·subst h
  refine ⟨1074, Nat.le_refl _, ?_⟩
  rw [fl_zero, Nat.zero_shiftLeft]
  decide +kernel
 ·refine ⟨52 - n.log2, by omega, ?_⟩
  have h53 : (9007199254740992 : Nat) = 2 ^ 53 := by decide
  have h52 : (4503599627370496 : Nat) = 2 ^ 52 := by decide
  have hL : n.log2 ≤ 52 := by
   have := (Nat.log2_lt (n := n) (k := 53) (by omega)).2 (by rw [← h53]; exact hn)
   omega
  have hup : n <<< (52 - n.log2) < 9007199254740992 := by
   have h1 := (Nat.log2_lt (n := n) (k := n.log2 + 1) (by omega)).1 (by omega)
   rw [Nat.shiftLeft_eq, h53, show 53 = (n.log2 + 1) + (52 - n.log2) by omega, Nat.pow_add]
   exact Nat.mul_lt_mul_of_pos_right h1 (Nat.two_pow_pos _)
  have hlo : 4503599627370496 ≤ n <<< (52 - n.log2) := by
   have h1 : 2 ^ n.log2 ≤ n := (Nat.le_log2 (by omega)).1 (Nat.le_refl _)
   rw [Nat.shiftLeft_eq, h52]
   have e : (2 : Nat) ^ 52 = 2 ^ n.log2 * 2 ^ (52 - n.log2) := by
    rw [← Nat.pow_add, show n.log2 + (52 - n.log2) = 52 by omega]
   rw [e]
   exact Nat.mul_le_mul_right _ h1
  rw [fl_pos (by omega) hn]
  generalize n <<< (52 - n.log2) = N at *
  generalize hLe : n.log2 = L at *
  have hb : (L + 1022) * 4503599627370496 ≤ 1074 * 4503599627370496 := Nat.mul_le_mul_right _ (by omega)
  unfold Format.read
  rw [dbl_binade, dbl_inf, dbl_sign, dbl_least]
  have e1 : ((L + 1022) * 4503599627370496 + N) / (2048 * 4503599627370496) = 0 := Nat.div_eq_of_lt (by omega)
  have e2 : ((L + 1022) * 4503599627370496 + N) % (2048 * 4503599627370496) = (L + 1022) * 4503599627370496 + N := Nat.mod_eq_of_lt (by omega)
  simp only [e1, e2]
  rw [if_neg (by omega), if_pos (by omega)]
  have e3 : ((L + 1022) * 4503599627370496 + N) % 4503599627370496 = N - 4503599627370496 := by omega
  have e4 : ((L + 1022) * 4503599627370496 + N) / 4503599627370496 = L + 1023 := by omega
  rw [e3, e4]
  have e5 : 4503599627370496 + (N - 4503599627370496) = N := by omega
  have e6 : (-1074 : Int) + ((L + 1023 - 1 : Nat) : Int) = -((52 - L : Nat) : Int) := by omega
  rw [e5, e6]
  rfl
theorem signed_false (m up : Nat) : signed false m up = ((m <<< up : Nat) : Int) := rfl
theorem shift_up (n k K : Nat) (h : k ≤ K) : (n <<< k) <<< (-(k : Int) - -(K : Int)).toNat = n <<< K := by
 rw [← Nat.shiftLeft_add, show k + (-(k : Int) - -(K : Int)).toNat = K by omega]
theorem add_fl {n m : Nat} (h : n + m < 9007199254740992) : Ieee.double.add (fl n) (fl m) = some (fl (n + m)) := by
 obtain ⟨k, hk, h1⟩ := read_fl (n := n) (by omega)
 obtain ⟨j, hj, h2⟩ := read_fl (n := m) (by omega)
 unfold Format.add
 rw [h1, h2]
 obtain ⟨K, hK, hkK, hjK, hmin⟩ : ∃ K : Nat, K ≤ 1074 ∧ k ≤ K ∧ j ≤ K ∧ min (-(k : Int)) (-(j : Int)) = -(K : Int) := ⟨max k j, by omega, by omega, by omega, by omega⟩
 simp only [Datum.sum, hmin, signed_false]
 rw [shift_up n k K hkK, shift_up m j K hjK]
 have e : ((n <<< K : Nat) : Int) + ((m <<< K : Nat) : Int) = (((n + m) <<< K : Nat) : Int) := by
  rw [Nat.shiftLeft_eq, Nat.shiftLeft_eq, Nat.shiftLeft_eq, Nat.add_mul]
  omega
 rw [e, Option.map_some]
 unfold Format.write
 have e2 : (if (((n + m) <<< K : Nat) : Int) = 0 then (false && false) else decide ((((n + m) <<< K : Nat) : Int) < 0)) = false := by
  split
  ·rfl
  ·exact decide_eq_false (Int.not_lt.2 (Int.natCast_nonneg _))
 simp only [e2, Int.natAbs_natCast]
 rw [near_fl h hK]
theorem order_fl {n m : Nat} (hn : n < 9007199254740992) (hm : m < 9007199254740992) : Ieee.double.order (fl n) (fl m) = some (compare n m) := by
 obtain ⟨k, hk, h1⟩ := read_fl hn
 obtain ⟨j, hj, h2⟩ := read_fl hm
 unfold Format.order
 rw [h1, h2]
 obtain ⟨K, hK, hkK, hjK, hmin⟩ : ∃ K : Nat, K ≤ 1074 ∧ k ≤ K ∧ j ≤ K ∧ min (-(k : Int)) (-(j : Int)) = -(K : Int) := ⟨max k j, by omega, by omega, by omega, by omega⟩
 simp only [Datum.order, hmin, signed_false]
 rw [shift_up n k K hkK, shift_up m j K hjK]
 congr 1
 have hp := Nat.two_pow_pos K
 rcases Nat.lt_trichotomy n m with h | h | h
 ·have h3 : n <<< K < m <<< K := by rw [Nat.shiftLeft_eq, Nat.shiftLeft_eq]; exact Nat.mul_lt_mul_of_pos_right h hp
  rw [Nat.compare_eq_lt.2 h, Int.compare_eq_lt.2 (by omega)]
 ·subst h
  rw [Nat.compare_eq_eq.2 rfl, Int.compare_eq_eq.2 rfl]
 ·have h3 : m <<< K < n <<< K := by rw [Nat.shiftLeft_eq, Nat.shiftLeft_eq]; exact Nat.mul_lt_mul_of_pos_right h hp
  rw [Nat.compare_eq_gt.2 h, Int.compare_eq_gt.2 (by omega)]
theorem eq_fl {n m : Nat} (hn : n < 9007199254740992) (hm : m < 9007199254740992) : (Ieee.double.order (fl n) (fl m) == some .eq) = decide (n = m) := by
 rw [order_fl hn hm, Bool.eq_iff_iff, beq_iff_eq, decide_eq_true_iff, Option.some.injEq, Nat.compare_eq_eq]
theorem ne_fl {n m : Nat} (hn : n < 9007199254740992) (hm : m < 9007199254740992) : (Ieee.double.order (fl n) (fl m) != some .eq) = decide (n ≠ m) := by
 rw [bne, eq_fl hn hm, decide_not]
theorem lt_fl {n m : Nat} (hn : n < 9007199254740992) (hm : m < 9007199254740992) : (Ieee.double.order (fl n) (fl m) == some .lt) = decide (n < m) := by
 rw [order_fl hn hm, Bool.eq_iff_iff, beq_iff_eq, decide_eq_true_iff, Option.some.injEq, Nat.compare_eq_lt]
theorem of_fl (n : Nat) : Go.floatOfInt .f64 (n : Int) = fl n := by
 unfold Go.floatOfInt Go.FloatKind.nearest Go.FloatKind.encode
 have h : decide ((n : Int) < 0) = false := decide_eq_false (by omega)
 rw [h, Int.natAbs_natCast]
 rfl
theorem fl_one : fl 1 = 4607182418800017408 := by decide +kernel
theorem fl_most : fl 1099511627776 = 4787326403894837248 := by decide +kernel
end Go.Proofs.YtepgkimlmoikmaaGreat
