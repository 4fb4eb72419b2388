/- ShU: a part of its proof (contracts of the functions that it reaches, and the plain mathematics behind them). -/
import Init
set_option linter.unusedVariables false
set_option linter.unusedSimpArgs false
set_option maxHeartbeats 2000000
set_option maxRecDepth 100000
namespace Go.Proofs.YtepgkimlmoikmaaGreat.Spec

def num (n : Nat) : List UInt8 := if n < 128 then [UInt8.ofNat n] else UInt8.ofNat (128 + n % 128) :: num (n / 128)
termination_by n
decreasing_by omega
theorem num_small {n : Nat} (h : n < 128) : num n = [UInt8.ofNat n] := by rw [num, if_pos h]
theorem num_big {n : Nat} (h : ¬ n < 128) : num n = UInt8.ofNat (128 + n % 128) :: num (n / 128) := by rw [num, if_neg h]
def un (i acc : Nat) : List UInt8 → Nat × Nat × Nat
 | [] => (0, 0, 2)
 | c :: t => if i = 4 ∧ 15 < c.toNat then (0, 0, 4) else if 0 < i ∧ c.toNat = 0 then (0, 0, 3)
   else if c.toNat < 128 then (acc + c.toNat * 128 ^ i, i + 1, 0) else un (i + 1) (acc + c.toNat % 128 * 128 ^ i) t
theorem un_nil (i acc : Nat) : un i acc [] = (0, 0, 2) := rfl
theorem un_cons (i acc : Nat) (c : UInt8) (t : List UInt8) : un i acc (c :: t) = if i = 4 ∧ 15 < c.toNat then (0, 0, 4) else if 0 < i ∧ c.toNat = 0 then (0, 0, 3)
   else if c.toNat < 128 then (acc + c.toNat * 128 ^ i, i + 1, 0) else un (i + 1) (acc + c.toNat % 128 * 128 ^ i) t := rfl
theorem toNat_of {n : Nat} (h : n < 256) : (UInt8.ofNat n).toNat = n := by
 rw [UInt8.toNat_ofNat']; omega
theorem num_ne (n : Nat) : num n ≠ [] := by
 by_cases h : n < 128
 ·rw [num_small h]; simp
 ·rw [num_big h]; simp
theorem un_num (i : Nat) : ∀ (n acc : Nat) (rest : List UInt8), (0 < i → n ≠ 0) → n * 128 ^ i < 4294967296 → i ≤ 4 →
  un i acc (num n ++ rest) = (acc + n * 128 ^ i, i + (num n).length, 0) := by
 -- by what is left up to 4
 obtain ⟨d, hd⟩ : ∃ d, d + i = 4 ∨ 4 < i := ⟨4 - i, by omega⟩
 induction d generalizing i with
 | zero =>
  intro n acc rest h0 hn hi
  obtain rfl : i = 4 := by omega
  have h4 : (128 : Nat) ^ 4 = 268435456 := by decide
  rw [h4] at hn
  have hs : n < 128 := by omega
  have : (UInt8.ofNat n).toNat = n := toNat_of (by omega)
  rw [num_small hs, List.cons_append, un_cons, this, if_neg (by omega), if_neg (by have := h0 (by omega); omega), if_pos hs]
  rfl
 | succ d ih =>
  intro n acc rest h0 hn hi
  by_cases hs : n < 128
  ·have : (UInt8.ofNat n).toNat = n := toNat_of (by omega)
   rw [num_small hs, List.cons_append, un_cons, this, if_neg (by omega), if_neg (by intro h; exact h0 h.1 h.2), if_pos hs]
   rfl
  ·have : (UInt8.ofNat (128 + n % 128)).toNat = 128 + n % 128 := toNat_of (by omega)
   have hp : 128 ^ (i + 1) = 128 ^ i * 128 := Nat.pow_succ ..
   have hpos : 0 < 128 ^ i := Nat.pow_pos (by omega)
   have hq : n / 128 * 128 ^ (i + 1) ≤ n * 128 ^ i := by
    rw [hp, Nat.mul_comm (128 ^ i) 128, ← Nat.mul_assoc]
    exact Nat.mul_le_mul_right _ (by omega)
   have hi4 : i ≠ 4 := by
    intro h
    subst h
    have h4 : (128 : Nat) ^ 4 = 268435456 := by decide
    rw [h4] at hn
    omega
   rw [num_big hs, List.cons_append, un_cons, this, if_neg (by omega), if_neg (by omega), if_neg (by omega)]
   rw [ih (i + 1) (by omega) (n / 128) _ rest (by omega) (by omega) (by omega)]
   simp only [Prod.mk.injEq, List.length_cons, and_true]
   refine ⟨?_, by omega⟩
   have e : n * 128 ^ i = (n % 128) * 128 ^ i + n / 128 * 128 ^ (i + 1) := by
    rw [hp, Nat.mul_comm (128 ^ i) 128, ← Nat.mul_assoc, ← Nat.add_mul]
    congr 1
    omega
   rw [e, show (128 + n % 128) % 128 = n % 128 by omega]
   omega
theorem un_once (b : List UInt8) : ∀ (i acc : Nat), i ≤ 4 → (un i acc b).2.2 = 0 → ∃ n, (un i acc b).1 = acc + n * 128 ^ i ∧ num n = b.take ((un i acc b).2.1 - i) ∧ i < (un i acc b).2.1 ∧ (un i acc b).2.1 - i ≤ b.length ∧ (0 < i → n ≠ 0) ∧ n * 128 ^ i < 4294967296 := by
 induction b with
 | nil => intro i acc _ h; rw [un_nil] at h; exact absurd h (by decide)
 | cons c t ih =>
  intro i acc hi h
  rw [un_cons] at h ⊢
  have hc := c.toNat_lt
  by_cases h1 : i = 4 ∧ 15 < c.toNat
  ·rw [if_pos h1] at h; exact absurd h (by decide)
  ·rw [if_neg h1] at h ⊢
   by_cases h2 : 0 < i ∧ c.toNat = 0
   ·rw [if_pos h2] at h; exact absurd h (by decide)
   ·rw [if_neg h2] at h ⊢
    by_cases h3 : c.toNat < 128
    ·rw [if_pos h3]
     refine ⟨c.toNat, rfl, ?_, by show i < i + 1; omega, by simp only [List.length_cons]; omega, fun h e => h2 ⟨h, e⟩, ?_⟩
     ·rw [num_small h3, show i + 1 - i = 1 by omega, List.take_succ_cons, List.take_zero]
      simp
     ·have h4 : (128 : Nat) ^ 4 = 268435456 := by decide
      have h3' : (128 : Nat) ^ 3 = 2097152 := by decide
      by_cases e : i = 4
      ·subst e
       rw [h4]; omega
      ·have : (128 : Nat) ^ i ≤ 128 ^ 3 := Nat.pow_le_pow_right (by omega) (by omega)
       have := Nat.mul_le_mul (Nat.le_of_lt h3) this
       omega
    ·rw [if_neg h3] at h ⊢
     have hi4 : i ≠ 4 := by omega
     obtain ⟨n, e1, e2, e3, e4, e5, e6⟩ := ih (i + 1) _ (by omega) h
     have hp : 128 ^ (i + 1) = 128 ^ i * 128 := Nat.pow_succ ..
     have em : (n * 128 + c.toNat % 128) * 128 ^ i = c.toNat % 128 * 128 ^ i + n * 128 ^ (i + 1) := by
      rw [hp, Nat.mul_comm (128 ^ i) 128, ← Nat.mul_assoc, ← Nat.add_mul, Nat.add_comm (n * 128)]
     have hn0 := e5 (by omega)
     refine ⟨n * 128 + c.toNat % 128, ?_, ?_, by omega, by simp only [List.length_cons]; omega, by omega, ?_⟩
     ·rw [e1, em]; omega
     ·rw [num_big (by omega), show (n * 128 + c.toNat % 128) / 128 = n by omega, e2]
      have hlen : (un (i + 1) (acc + c.toNat % 128 * 128 ^ i) t).2.1 - i = ((un (i + 1) (acc + c.toNat % 128 * 128 ^ i) t).2.1 - (i + 1)) + 1 := by omega
      rw [hlen, List.take_succ_cons]
      congr 1
      rw [show 128 + (n * 128 + c.toNat % 128) % 128 = c.toNat by omega]
      simp
     ·rw [em]
      have h2' : c.toNat % 128 * 128 ^ i < 128 * 128 ^ i := Nat.mul_lt_mul_of_pos_right (by omega) (Nat.pow_pos (by omega))
      rw [show 128 * 128 ^ i = 128 ^ (i + 1) by rw [hp, Nat.mul_comm]] at h2'
      have hdvd : n * 128 ^ (i + 1) + 128 ^ (i + 1) ≤ 4294967296 := by
       have hk : ∃ q, 4294967296 = q * 128 ^ (i + 1) := by
        have : i = 0 ∨ i = 1 ∨ i = 2 ∨ i = 3 := by omega
        rcases this with rfl | rfl | rfl | rfl
        ·exact ⟨33554432, by decide⟩
        ·exact ⟨262144, by decide⟩
        ·exact ⟨2048, by decide⟩
        ·exact ⟨16, by decide⟩
       obtain ⟨q, hq⟩ := hk
       rw [hq] at e6 ⊢
       have : n < q := Nat.lt_of_mul_lt_mul_right e6
       rw [← Nat.succ_mul]
       exact Nat.mul_le_mul_right _ this
      omega
theorem un_codes (b : List UInt8) : ∀ i acc, (un i acc b).2.2 = 0 ∨ (un i acc b).2.2 = 2 ∨ (un i acc b).2.2 = 3 ∨ (un i acc b).2.2 = 4 := by
 induction b with
 | nil => intro i acc; rw [un_nil]; simp
 | cons c t ih =>
  intro i acc
  rw [un_cons]
  split
  ·simp
  ·split
   ·simp
   ·split
    ·simp
    ·exact ih _ _
theorem un_err (b : List UInt8) : ∀ i acc, (un i acc b).2.2 ≠ 0 → (un i acc b).1 = 0 ∧ (un i acc b).2.1 = 0 := by
 induction b with
 | nil => intro i acc _; exact ⟨rfl, rfl⟩
 | cons c t ih =>
  intro i acc h
  rw [un_cons] at h ⊢
  split
  ·exact ⟨rfl, rfl⟩
  ·split
   ·exact ⟨rfl, rfl⟩
   ·split
    ·rename_i h1 h2 h3; rw [if_neg h1, if_neg h2, if_pos h3] at h; exact absurd rfl h
    ·rename_i h1 h2 h3; rw [if_neg h1, if_neg h2, if_neg h3] at h; exact ih _ _ h
def u (s : ByteArray) : List UInt8 := s.data.toList
theorem u_inj {a b : ByteArray} (h : u a = u b) : a = b := by
 cases a with | mk a => cases b with | mk b =>
 have : a = b := Array.toList_inj.1 h
 rw [this]
theorem u_size (s : ByteArray) : (u s).length = s.size := by simp [u]
theorem u_app (a b : ByteArray) : u (a ++ b) = u a ++ u b := by simp [u]
def str (l : List UInt8) : ByteArray := ⟨l.toArray⟩
theorem u_str (l : List UInt8) : u (str l) = l := by simp [u, str]
theorem str_size (l : List UInt8) : (str l).size = l.length := by rw [← u_size, u_str]
def fnd (s : ByteArray) : List ByteArray → Option Nat
 | [] => none
 | x :: t => if x = s then some 0 else (fnd s t).map (· + 1)
theorem fnd_none {s : ByteArray} : ∀ {l : List ByteArray}, fnd s l = none ↔ s ∉ l
 | [] => by simp [fnd]
 | x :: t => by
  unfold fnd
  by_cases h : x = s
  ·rw [if_pos h]; simp [h]
  ·rw [if_neg h]
   simp only [Option.map_eq_none_iff, List.mem_cons, not_or]
   rw [fnd_none]
   exact ⟨fun e => ⟨fun e2 => h e2.symm, e⟩, fun e => e.2⟩
theorem fnd_some {s : ByteArray} : ∀ {l : List ByteArray} {k : Nat}, fnd s l = some k → ∃ h : k < l.length, l[k] = s
 | [], k, h => by simp [fnd] at h
 | x :: t, k, h => by
  unfold fnd at h
  by_cases e : x = s
  ·rw [if_pos e] at h
   injection h with h
   subst h
   exact ⟨by simp, e⟩
  ·rw [if_neg e] at h
   obtain ⟨j, hj, rfl⟩ := Option.map_eq_some_iff.1 h
   obtain ⟨h1, h2⟩ := fnd_some hj
   exact ⟨by simp only [List.length_cons]; omega, by simpa using h2⟩
theorem fnd_append {s : ByteArray} : ∀ {a b : List ByteArray}, s ∉ a → fnd s (a ++ b) = (fnd s b).map (· + a.length)
 | [], b, _ => by simp
 | x :: a, b, h => by
  have h1 : x ≠ s := fun e => h (by simp [e])
  have h2 : s ∉ a := fun e => h (List.mem_cons_of_mem _ e)
  rw [List.cons_append, fnd, if_neg h1, fnd_append h2, Option.map_map]
  rfl
theorem fnd_here {s : ByteArray} {a b : List ByteArray} (h : s ∉ a) : fnd s (a ++ s :: b) = some a.length := by
 rw [fnd_append h, fnd, if_pos rfl]; simp
theorem fnd_early {s : ByteArray} : ∀ {a : List ByteArray} (b : List ByteArray), s ∈ a → ∃ k, fnd s (a ++ b) = some k ∧ k < a.length
 | [], _, h => by cases h
 | x :: a, b, h => by
  rw [List.cons_append, fnd]
  by_cases e : x = s
  ·rw [if_pos e]; exact ⟨0, rfl, by simp⟩
  ·rw [if_neg e]
   have : s ∈ a := by
    rcases List.mem_cons.1 h with h | h
    ·exact absurd h.symm e
    ·exact h
   obtain ⟨k, hk, hlt⟩ := fnd_early b this
   rw [hk]
   exact ⟨k + 1, rfl, by simp only [List.length_cons]; omega⟩
instance mem_dec (s : ByteArray) (l : List ByteArray) : Decidable (s ∈ l) :=
 if h : fnd s l = none then isFalse (fnd_none.1 h) else isTrue (by
  by_cases e : s ∈ l
  ·exact e
  ·exact absurd (fnd_none.2 e) h)
def phr (sum : Nat) (seen : List ByteArray) : List ByteArray → Nat × Nat
 | [] => (0, 0)
 | s :: t => if s.size = 0 then (5, seen.length) else if 40 < s.size ∨ 1000 < sum + s.size then (10, seen.length)
   else if s ∈ seen then (5, seen.length) else phr (sum + s.size) (seen ++ [s]) t
def phrases (l : List ByteArray) : Nat × Nat := if 100 < l.length then (10, 100) else phr 0 [] l
def total : List ByteArray → Nat
 | [] => 0
 | s :: t => s.size + total t
def body : List ByteArray → List UInt8
 | [] => []
 | s :: t => num s.size ++ (u s ++ body t)
def bytes (l : List ByteArray) : List UInt8 := num l.length ++ body l
def take (n : Nat) (at_ : Nat) (b : List UInt8) : List ByteArray × Nat × Nat :=
 match n with
 | 0 => ([], at_, 0)
 | n + 1 => if (un 0 0 b).2.2 ≠ 0 then ([], at_, (un 0 0 b).2.2)
  else if (b.drop (un 0 0 b).2.1).length < (un 0 0 b).1 then ([], at_ + (un 0 0 b).2.1, 2)
  else if (take n (at_ + (un 0 0 b).2.1 + (un 0 0 b).1) ((b.drop (un 0 0 b).2.1).drop (un 0 0 b).1)).2.2 = 0
   then (str ((b.drop (un 0 0 b).2.1).take (un 0 0 b).1) :: (take n (at_ + (un 0 0 b).2.1 + (un 0 0 b).1) ((b.drop (un 0 0 b).2.1).drop (un 0 0 b).1)).1,
    (take n (at_ + (un 0 0 b).2.1 + (un 0 0 b).1) ((b.drop (un 0 0 b).2.1).drop (un 0 0 b).1)).2.1, 0)
   else take n (at_ + (un 0 0 b).2.1 + (un 0 0 b).1) ((b.drop (un 0 0 b).2.1).drop (un 0 0 b).1)
def split (b : List UInt8) : List ByteArray × Nat × Nat :=
 if (un 0 0 b).2.2 ≠ 0 then ([], (un 0 0 b).2.2, 0)
 else if (take (un 0 0 b).1 (un 0 0 b).2.1 (b.drop (un 0 0 b).2.1)).2.2 ≠ 0 then ([], (take (un 0 0 b).1 (un 0 0 b).2.1 (b.drop (un 0 0 b).2.1)).2.2, (take (un 0 0 b).1 (un 0 0 b).2.1 (b.drop (un 0 0 b).2.1)).2.1)
 else if (take (un 0 0 b).1 (un 0 0 b).2.1 (b.drop (un 0 0 b).2.1)).2.1 < b.length then ([], 13, (take (un 0 0 b).1 (un 0 0 b).2.1 (b.drop (un 0 0 b).2.1)).2.1)
 else ((take (un 0 0 b).1 (un 0 0 b).2.1 (b.drop (un 0 0 b).2.1)).1, 0, 0)
theorem take_succ (n at_ : Nat) (b : List UInt8) : take (n + 1) at_ b = if (un 0 0 b).2.2 ≠ 0 then ([], at_, (un 0 0 b).2.2)
  else if (b.drop (un 0 0 b).2.1).length < (un 0 0 b).1 then ([], at_ + (un 0 0 b).2.1, 2)
  else if (take n (at_ + (un 0 0 b).2.1 + (un 0 0 b).1) ((b.drop (un 0 0 b).2.1).drop (un 0 0 b).1)).2.2 = 0
   then (str ((b.drop (un 0 0 b).2.1).take (un 0 0 b).1) :: (take n (at_ + (un 0 0 b).2.1 + (un 0 0 b).1) ((b.drop (un 0 0 b).2.1).drop (un 0 0 b).1)).1,
    (take n (at_ + (un 0 0 b).2.1 + (un 0 0 b).1) ((b.drop (un 0 0 b).2.1).drop (un 0 0 b).1)).2.1, 0)
   else take n (at_ + (un 0 0 b).2.1 + (un 0 0 b).1) ((b.drop (un 0 0 b).2.1).drop (un 0 0 b).1) := rfl
theorem un_num0 {n : Nat} (h : n < 4294967296) (rest : List UInt8) : un 0 0 (num n ++ rest) = (n, (num n).length, 0) := by
 have := un_num 0 n 0 rest (by omega) (by omega) (by omega)
 rw [this]
 simp
end Go.Proofs.YtepgkimlmoikmaaGreat.Spec
