/- Plain mathematics of numbers as bytes, phrases, dictionaries as bytes: no Go, no memory. -/
import Init
namespace Go.Proofs.YtboklkfplnmabaaGreat.Spec

/-! ### numbers -/
def num (n : Nat) : List UInt8 := if n < 128 then [UInt8.ofNat n] else UInt8.ofNat (128 + n % 128) :: num (n / 128)
termination_by n
decreasing_by omega
theorem num_small {n : Nat} (h : n < 128) : num n = [UInt8.ofNat n] := by rw [num, if_pos h]
theorem num_big {n : Nat} (h : ¬ n < 128) : num n = UInt8.ofNat (128 + n % 128) :: num (n / 128) := by rw [num, if_neg h]
/-- The number of bytes, how many these are, and the code (2: more, 3: form, 4: range). -/
def un (i acc : Nat) : List UInt8 → Nat × Nat × Nat
  | [] => (0, 0, 2)
  | c :: t => if i = 4 ∧ 15 < c.toNat then (0, 0, 4) else if 0 < i ∧ c.toNat = 0 then (0, 0, 3)
      else if c.toNat < 128 then (acc + c.toNat * 128 ^ i, i + 1, 0) else un (i + 1) (acc + c.toNat % 128 * 128 ^ i) t
theorem un_nil (i acc : Nat) : un i acc [] = (0, 0, 2) := rfl
theorem un_cons (i acc : Nat) (c : UInt8) (t : List UInt8) : un i acc (c :: t) = if i = 4 ∧ 15 < c.toNat then (0, 0, 4) else if 0 < i ∧ c.toNat = 0 then (0, 0, 3)
      else if c.toNat < 128 then (acc + c.toNat * 128 ^ i, i + 1, 0) else un (i + 1) (acc + c.toNat % 128 * 128 ^ i) t := rfl
theorem toNat_of {n : Nat} (h : n < 256) : (UInt8.ofNat n).toNat = n := by
  rw [UInt8.toNat_ofNat']; omega
theorem num_ne (n : Nat) : num n ≠ [] := by
  by_cases h : n < 128
  · rw [num_small h]; simp
  · rw [num_big h]; simp
theorem un_num (i : Nat) : ∀ (n acc : Nat) (rest : List UInt8), (0 < i → n ≠ 0) → n * 128 ^ i < 4294967296 → i ≤ 4 →
    un i acc (num n ++ rest) = (acc + n * 128 ^ i, i + (num n).length, 0) := by
  -- by what is left up to 4
  obtain ⟨d, hd⟩ : ∃ d, d + i = 4 ∨ 4 < i := ⟨4 - i, by omega⟩
  induction d generalizing i with
  | zero =>
    intro n acc rest h0 hn hi
    obtain rfl : i = 4 := by omega
    have h4 : (128 : Nat) ^ 4 = 268435456 := by decide
    rw [h4] at hn
    have hs : n < 128 := by omega
    have : (UInt8.ofNat n).toNat = n := toNat_of (by omega)
    rw [num_small hs, List.cons_append, un_cons, this, if_neg (by omega), if_neg (by have := h0 (by omega); omega), if_pos hs]
    rfl
  | succ d ih =>
    intro n acc rest h0 hn hi
    by_cases hs : n < 128
    · have : (UInt8.ofNat n).toNat = n := toNat_of (by omega)
      rw [num_small hs, List.cons_append, un_cons, this, if_neg (by omega), if_neg (by intro h; exact h0 h.1 h.2), if_pos hs]
      rfl
    · have : (UInt8.ofNat (128 + n % 128)).toNat = 128 + n % 128 := toNat_of (by omega)
      have hp : 128 ^ (i + 1) = 128 ^ i * 128 := Nat.pow_succ ..
      have hpos : 0 < 128 ^ i := Nat.pow_pos (by omega)
      have hq : n / 128 * 128 ^ (i + 1) ≤ n * 128 ^ i := by
        rw [hp, Nat.mul_comm (128 ^ i) 128, ← Nat.mul_assoc]
        exact Nat.mul_le_mul_right _ (by omega)
      have hi4 : i ≠ 4 := by
        intro h
        subst h
        have h4 : (128 : Nat) ^ 4 = 268435456 := by decide
        rw [h4] at hn
        omega
      rw [num_big hs, List.cons_append, un_cons, this, if_neg (by omega), if_neg (by omega), if_neg (by omega)]
      rw [ih (i + 1) (by omega) (n / 128) _ rest (by omega) (by omega) (by omega)]
      simp only [Prod.mk.injEq, List.length_cons, and_true]
      refine ⟨?_, by omega⟩
      have e : n * 128 ^ i = (n % 128) * 128 ^ i + n / 128 * 128 ^ (i + 1) := by
        rw [hp, Nat.mul_comm (128 ^ i) 128, ← Nat.mul_assoc, ← Nat.add_mul]
        congr 1
        omega
      rw [e, show (128 + n % 128) % 128 = n % 128 by omega]
      omega
/-- What was read is what would be written. -/
theorem un_once (b : List UInt8) : ∀ (i acc : Nat), i ≤ 4 → (un i acc b).2.2 = 0 → ∃ n, (un i acc b).1 = acc + n * 128 ^ i ∧ num n = b.take ((un i acc b).2.1 - i) ∧ i < (un i acc b).2.1 ∧ (un i acc b).2.1 - i ≤ b.length ∧ (0 < i → n ≠ 0) ∧ n * 128 ^ i < 4294967296 := by
  induction b with
  | nil => intro i acc _ h; rw [un_nil] at h; exact absurd h (by decide)
  | cons c t ih =>
    intro i acc hi h
    rw [un_cons] at h ⊢
    have hc := c.toNat_lt
    by_cases h1 : i = 4 ∧ 15 < c.toNat
    · rw [if_pos h1] at h; exact absurd h (by decide)
    · rw [if_neg h1] at h ⊢
      by_cases h2 : 0 < i ∧ c.toNat = 0
      · rw [if_pos h2] at h; exact absurd h (by decide)
      · rw [if_neg h2] at h ⊢
        by_cases h3 : c.toNat < 128
        · rw [if_pos h3]
          refine ⟨c.toNat, rfl, ?_, by show i < i + 1; omega, by simp only [List.length_cons]; omega, fun h e => h2 ⟨h, e⟩, ?_⟩
          · rw [num_small h3, show i + 1 - i = 1 by omega, List.take_succ_cons, List.take_zero]
            simp
          · have h4 : (128 : Nat) ^ 4 = 268435456 := by decide
            have h3' : (128 : Nat) ^ 3 = 2097152 := by decide
            by_cases e : i = 4
            · subst e
              rw [h4]; omega
            · have : (128 : Nat) ^ i ≤ 128 ^ 3 := Nat.pow_le_pow_right (by omega) (by omega)
              have := Nat.mul_le_mul (Nat.le_of_lt h3) this
              omega
        · rw [if_neg h3] at h ⊢
          have hi4 : i ≠ 4 := by omega
          obtain ⟨n, e1, e2, e3, e4, e5, e6⟩ := ih (i + 1) _ (by omega) h
          have hp : 128 ^ (i + 1) = 128 ^ i * 128 := Nat.pow_succ ..
          have em : (n * 128 + c.toNat % 128) * 128 ^ i = c.toNat % 128 * 128 ^ i + n * 128 ^ (i + 1) := by
            rw [hp, Nat.mul_comm (128 ^ i) 128, ← Nat.mul_assoc, ← Nat.add_mul, Nat.add_comm (n * 128)]
          have hn0 := e5 (by omega)
          refine ⟨n * 128 + c.toNat % 128, ?_, ?_, by omega, by simp only [List.length_cons]; omega, by omega, ?_⟩
          · rw [e1, em]; omega
          · rw [num_big (by omega), show (n * 128 + c.toNat % 128) / 128 = n by omega, e2]
            have hlen : (un (i + 1) (acc + c.toNat % 128 * 128 ^ i) t).2.1 - i = ((un (i + 1) (acc + c.toNat % 128 * 128 ^ i) t).2.1 - (i + 1)) + 1 := by omega
            rw [hlen, List.take_succ_cons]
            congr 1
            rw [show 128 + (n * 128 + c.toNat % 128) % 128 = c.toNat by omega]
            simp
          · rw [em]
            have h2' : c.toNat % 128 * 128 ^ i < 128 * 128 ^ i := Nat.mul_lt_mul_of_pos_right (by omega) (Nat.pow_pos (by omega))
            rw [show 128 * 128 ^ i = 128 ^ (i + 1) by rw [hp, Nat.mul_comm]] at h2'
            have hdvd : n * 128 ^ (i + 1) + 128 ^ (i + 1) ≤ 4294967296 := by
              have hk : ∃ q, 4294967296 = q * 128 ^ (i + 1) := by
                have : i = 0 ∨ i = 1 ∨ i = 2 ∨ i = 3 := by omega
                rcases this with rfl | rfl | rfl | rfl
                · exact ⟨33554432, by decide⟩
                · exact ⟨262144, by decide⟩
                · exact ⟨2048, by decide⟩
                · exact ⟨16, by decide⟩
              obtain ⟨q, hq⟩ := hk
              rw [hq] at e6 ⊢
              have : n < q := Nat.lt_of_mul_lt_mul_right e6
              rw [← Nat.succ_mul]
              exact Nat.mul_le_mul_right _ this
            omega
theorem un_cut (b : List UInt8) : ∀ (i acc j : Nat), (un i acc b).2.2 = 0 → i + j < (un i acc b).2.1 → (un i acc (b.take j)).2.2 = 2 := by
  induction b with
  | nil => intro i acc j h; rw [un_nil] at h; exact absurd h (by decide)
  | cons c t ih =>
    intro i acc j h hj
    cases j with
    | zero => rfl
    | succ j =>
      rw [List.take_succ_cons, un_cons]
      rw [un_cons] at h hj
      by_cases h1 : i = 4 ∧ 15 < c.toNat
      · rw [if_pos h1] at h; exact absurd h (by decide)
      · rw [if_neg h1] at h hj ⊢
        by_cases h2 : 0 < i ∧ c.toNat = 0
        · rw [if_pos h2] at h; exact absurd h (by decide)
        · rw [if_neg h2] at h hj ⊢
          by_cases h3 : c.toNat < 128
          · rw [if_pos h3] at hj; simp only at hj; omega
          · rw [if_neg h3] at h hj ⊢
            exact ih _ _ j h (by omega)
theorem un_codes (b : List UInt8) : ∀ i acc, (un i acc b).2.2 = 0 ∨ (un i acc b).2.2 = 2 ∨ (un i acc b).2.2 = 3 ∨ (un i acc b).2.2 = 4 := by
  induction b with
  | nil => intro i acc; rw [un_nil]; simp
  | cons c t ih =>
    intro i acc
    rw [un_cons]
    split
    · simp
    · split
      · simp
      · split
        · simp
        · exact ih _ _
theorem un_err (b : List UInt8) : ∀ i acc, (un i acc b).2.2 ≠ 0 → (un i acc b).1 = 0 ∧ (un i acc b).2.1 = 0 := by
  induction b with
  | nil => intro i acc _; exact ⟨rfl, rfl⟩
  | cons c t ih =>
    intro i acc h
    rw [un_cons] at h ⊢
    split
    · exact ⟨rfl, rfl⟩
    · split
      · exact ⟨rfl, rfl⟩
      · split
        · rename_i h1 h2 h3; rw [if_neg h1, if_neg h2, if_pos h3] at h; exact absurd rfl h
        · rename_i h1 h2 h3; rw [if_neg h1, if_neg h2, if_neg h3] at h; exact ih _ _ h
/-- A number's bytes stand ahead of no other number's bytes. -/
theorem num_prefix {n m : Nat} {a b : List UInt8} (hn : n < 4294967296) (hm : m < 4294967296) (h : num n ++ a = num m ++ b) : n = m ∧ a = b := by
  have h1 := un_num 0 n 0 a (by omega) (by omega) (by omega)
  have h2 := un_num 0 m 0 b (by omega) (by omega) (by omega)
  rw [h, h2] at h1
  simp only [Prod.mk.injEq] at h1
  have : n = m := by omega
  subst this
  exact ⟨rfl, List.append_cancel_left h⟩

/-! ### phrases -/
def u (s : ByteArray) : List UInt8 := s.data.toList
theorem u_inj {a b : ByteArray} (h : u a = u b) : a = b := by
  cases a with | mk a => cases b with | mk b =>
  have : a = b := Array.toList_inj.1 h
  rw [this]
theorem u_size (s : ByteArray) : (u s).length = s.size := by simp [u]
theorem u_app (a b : ByteArray) : u (a ++ b) = u a ++ u b := by simp [u]
def str (l : List UInt8) : ByteArray := ⟨l.toArray⟩
theorem u_str (l : List UInt8) : u (str l) = l := by simp [u, str]
theorem str_u (s : ByteArray) : str (u s) = s := u_inj (u_str _)
theorem str_size (l : List UInt8) : (str l).size = l.length := by rw [← u_size, u_str]

/-- The first place of a phrase. -/
def fnd (s : ByteArray) : List ByteArray → Option Nat
  | [] => none
  | x :: t => if x = s then some 0 else (fnd s t).map (· + 1)
theorem fnd_none {s : ByteArray} : ∀ {l : List ByteArray}, fnd s l = none ↔ s ∉ l
  | [] => by simp [fnd]
  | x :: t => by
    unfold fnd
    by_cases h : x = s
    · rw [if_pos h]; simp [h]
    · rw [if_neg h]
      simp only [Option.map_eq_none_iff, List.mem_cons, not_or]
      rw [fnd_none]
      exact ⟨fun e => ⟨fun e2 => h e2.symm, e⟩, fun e => e.2⟩
theorem fnd_some {s : ByteArray} : ∀ {l : List ByteArray} {k : Nat}, fnd s l = some k → ∃ h : k < l.length, l[k] = s
  | [], k, h => by simp [fnd] at h
  | x :: t, k, h => by
    unfold fnd at h
    by_cases e : x = s
    · rw [if_pos e] at h
      injection h with h
      subst h
      exact ⟨by simp, e⟩
    · rw [if_neg e] at h
      obtain ⟨j, hj, rfl⟩ := Option.map_eq_some_iff.1 h
      obtain ⟨h1, h2⟩ := fnd_some hj
      exact ⟨by simp only [List.length_cons]; omega, by simpa using h2⟩
theorem fnd_lt {s : ByteArray} {l : List ByteArray} {k : Nat} (h : fnd s l = some k) : k < l.length := (fnd_some h).1
theorem fnd_append {s : ByteArray} : ∀ {a b : List ByteArray}, s ∉ a → fnd s (a ++ b) = (fnd s b).map (· + a.length)
  | [], b, _ => by simp
  | x :: a, b, h => by
    have h1 : x ≠ s := fun e => h (by simp [e])
    have h2 : s ∉ a := fun e => h (List.mem_cons_of_mem _ e)
    rw [List.cons_append, fnd, if_neg h1, fnd_append h2, Option.map_map]
    rfl
theorem fnd_here {s : ByteArray} {a b : List ByteArray} (h : s ∉ a) : fnd s (a ++ s :: b) = some a.length := by
  rw [fnd_append h, fnd, if_pos rfl]; simp
theorem fnd_early {s : ByteArray} : ∀ {a : List ByteArray} (b : List ByteArray), s ∈ a → ∃ k, fnd s (a ++ b) = some k ∧ k < a.length
  | [], _, h => by cases h
  | x :: a, b, h => by
    rw [List.cons_append, fnd]
    by_cases e : x = s
    · rw [if_pos e]; exact ⟨0, rfl, by simp⟩
    · rw [if_neg e]
      have : s ∈ a := by
        rcases List.mem_cons.1 h with h | h
        · exact absurd h.symm e
        · exact h
      obtain ⟨k, hk, hlt⟩ := fnd_early b this
      rw [hk]
      exact ⟨k + 1, rfl, by simp only [List.length_cons]; omega⟩

instance mem_dec (s : ByteArray) (l : List ByteArray) : Decidable (s ∈ l) :=
  if h : fnd s l = none then isFalse (fnd_none.1 h) else isTrue (by
    by_cases e : s ∈ l
    · exact e
    · exact absurd (fnd_none.2 e) h)
/-- May phrases be? The code, and the place. -/
def phr (sum : Nat) (seen : List ByteArray) : List ByteArray → Nat × Nat
  | [] => (0, 0)
  | s :: t => if s.size = 0 then (5, seen.length) else if 40 < s.size ∨ 1000 < sum + s.size then (10, seen.length)
      else if s ∈ seen then (5, seen.length) else phr (sum + s.size) (seen ++ [s]) t
def phrases (l : List ByteArray) : Nat × Nat := if 100 < l.length then (10, 100) else phr 0 [] l
def total : List ByteArray → Nat
  | [] => 0
  | s :: t => s.size + total t
theorem total_append : ∀ a b : List ByteArray, total (a ++ b) = total a + total b
  | [], b => by simp [total]
  | s :: a, b => by simp only [List.cons_append, total, total_append a b]; omega
/-- What phrases that may be are. -/
def May (sum : Nat) (seen : List ByteArray) (l : List ByteArray) : Prop := (∀ s ∈ l, 1 ≤ s.size ∧ s.size ≤ 40) ∧ sum + total l ≤ 1000 ∧ l.Nodup ∧ ∀ s ∈ l, s ∉ seen
theorem phr_ok (l : List ByteArray) : ∀ (sum : Nat) (seen : List ByteArray), sum ≤ 1000 → ((phr sum seen l).1 = 0 ↔ May sum seen l) := by
  induction l with
  | nil =>
    intro sum seen hs
    unfold phr May total
    simp [hs]
  | cons s t ih =>
    intro sum seen hs
    unfold phr
    by_cases h1 : s.size = 0
    · rw [if_pos h1]
      refine ⟨fun h => absurd h (by simp), fun h => ?_⟩
      have := (h.1 s (List.mem_cons_self ..)).1
      omega
    · rw [if_neg h1]
      by_cases h2 : 40 < s.size ∨ 1000 < sum + s.size
      · rw [if_pos h2]
        refine ⟨fun h => absurd h (by simp), fun h => ?_⟩
        have h3 := (h.1 s (List.mem_cons_self ..)).2
        have h4 := h.2.1
        simp only [total] at h4
        omega
      · rw [if_neg h2]
        by_cases h3 : s ∈ seen
        · rw [if_pos h3]
          exact ⟨fun h => absurd h (by simp), fun h => absurd h3 (h.2.2.2 s (List.mem_cons_self ..))⟩
        · rw [if_neg h3, ih _ _ (by omega)]
          unfold May
          simp only [total, List.mem_cons, forall_eq_or_imp, List.nodup_cons, List.mem_append, List.not_mem_nil, or_false, not_or]
          constructor
          · rintro ⟨a, b, c, d⟩
            exact ⟨⟨⟨by omega, by omega⟩, a⟩, by omega, ⟨fun h => (d s h).2 rfl, c⟩, h3, fun x hx => (d x hx).1⟩
          · rintro ⟨⟨a0, a⟩, b, ⟨c0, c⟩, _, d⟩
            exact ⟨a, by omega, c, fun x hx => ⟨d x hx, fun e => c0 (e ▸ hx)⟩⟩
theorem phrases_ok (l : List ByteArray) : (phrases l).1 = 0 ↔ l.length ≤ 100 ∧ May 0 [] l := by
  unfold phrases
  by_cases h : 100 < l.length
  · rw [if_pos h]; exact ⟨fun e => absurd e (by decide), fun e => by omega⟩
  · rw [if_neg h, phr_ok l 0 [] (by omega)]
    exact ⟨fun e => ⟨by omega, e⟩, fun e => e.2⟩
theorem phr_zero (l : List ByteArray) : ∀ (sum : Nat) (seen : List ByteArray), (phr sum seen l).1 = 0 → (phr sum seen l).2 = 0 := by
  induction l with
  | nil => intro sum seen _; rfl
  | cons s t ih =>
    intro sum seen h
    unfold phr at h ⊢
    by_cases h1 : s.size = 0
    · rw [if_pos h1] at h; exact absurd h (by simp)
    · rw [if_neg h1] at h ⊢
      by_cases h2 : 40 < s.size ∨ 1000 < sum + s.size
      · rw [if_pos h2] at h; exact absurd h (by simp)
      · rw [if_neg h2] at h ⊢
        by_cases h3 : s ∈ seen
        · rw [if_pos h3] at h; exact absurd h (by simp)
        · rw [if_neg h3] at h ⊢; exact ih _ _ h
theorem phrases_zero (l : List ByteArray) (h : (phrases l).1 = 0) : (phrases l).2 = 0 := by
  unfold phrases at h ⊢
  by_cases h1 : 100 < l.length
  · rw [if_pos h1] at h; exact absurd h (by decide)
  · rw [if_neg h1] at h ⊢; exact phr_zero _ _ _ h
/-- The first that may not be. -/
theorem phr_first (l : List ByteArray) : ∀ (sum : Nat) (seen : List ByteArray), (phr sum seen l).1 ≠ 0 → ∃ a s t, l = a ++ s :: t ∧ (phr sum seen l).2 = seen.length + a.length ∧ (phr sum seen a).1 = 0 ∧ phr sum seen (a ++ [s]) = phr sum seen l := by
  induction l with
  | nil => intro sum seen h; exact absurd rfl h
  | cons s t ih =>
    intro sum seen h
    by_cases h1 : s.size = 0
    · exact ⟨[], s, t, rfl, by unfold phr; rw [if_pos h1]; rfl, rfl, by rw [List.nil_append]; unfold phr; rw [if_pos h1, if_pos h1]⟩
    · by_cases h2 : 40 < s.size ∨ 1000 < sum + s.size
      · exact ⟨[], s, t, rfl, by unfold phr; rw [if_neg h1, if_pos h2]; rfl, rfl, by rw [List.nil_append]; unfold phr; rw [if_neg h1, if_neg h1, if_pos h2, if_pos h2]⟩
      · by_cases h3 : s ∈ seen
        · exact ⟨[], s, t, rfl, by unfold phr; rw [if_neg h1, if_neg h2, if_pos h3]; rfl, rfl, by rw [List.nil_append]; unfold phr; rw [if_neg h1, if_neg h1, if_neg h2, if_neg h2, if_pos h3, if_pos h3]⟩
        · have e : ∀ r, phr sum seen (s :: r) = phr (sum + s.size) (seen ++ [s]) r := by
            intro r
            rw [phr, if_neg h1, if_neg h2, if_neg h3]
          rw [e] at h
          obtain ⟨a, s', t', q1, q2, q3, q4⟩ := ih _ _ h
          refine ⟨s :: a, s', t', by rw [q1]; rfl, ?_, by rw [e]; exact q3, ?_⟩
          · rw [e, q2]; simp only [List.length_append, List.length_cons, List.length_nil]; omega
          · rw [List.cons_append, e, e]; exact q4

/-! ### a dictionary as bytes -/
def body : List ByteArray → List UInt8
  | [] => []
  | s :: t => num s.size ++ (u s ++ body t)
def bytes (l : List ByteArray) : List UInt8 := num l.length ++ body l
theorem body_append : ∀ a b : List ByteArray, body (a ++ b) = body a ++ body b
  | [], b => rfl
  | s :: a, b => by simp only [List.cons_append, body, body_append a b, List.append_assoc]
theorem body_inj : ∀ {a b : List ByteArray} {r q : List UInt8}, (∀ s ∈ a, s.size < 4294967296) → (∀ s ∈ b, s.size < 4294967296) → a.length = b.length → body a ++ r = body b ++ q → a = b ∧ r = q
  | [], [], r, q, _, _, _, h => ⟨rfl, h⟩
  | [], _ :: _, _, _, _, _, hl, _ => by simp at hl
  | _ :: _, [], _, _, _, _, hl, _ => by simp at hl
  | s :: a, s' :: b, r, q, ha, hb, hl, h => by
    simp only [body, List.append_assoc] at h
    obtain ⟨e1, e2⟩ := num_prefix (ha s (List.mem_cons_self ..)) (hb s' (List.mem_cons_self ..)) h
    have e3 := List.append_inj e2 (by rw [u_size, u_size]; exact e1)
    obtain ⟨e4, e5⟩ := body_inj (fun x hx => ha x (List.mem_cons_of_mem _ hx)) (fun x hx => hb x (List.mem_cons_of_mem _ hx)) (by simpa using hl) e3.2
    exact ⟨by rw [u_inj e3.1, e4], e5⟩
theorem bytes_inj {a b : List ByteArray} (ha : ∀ s ∈ a, s.size < 4294967296) (hb : ∀ s ∈ b, s.size < 4294967296) (hla : a.length < 4294967296) (hlb : b.length < 4294967296) (h : bytes a = bytes b) : a = b := by
  unfold bytes at h
  obtain ⟨e1, e2⟩ := num_prefix hla hlb h
  exact (body_inj (r := []) (q := []) ha hb e1 (by simpa using e2)).1

/-- n phrases of bytes from a place on: the phrases, the place behind them, the code. -/
def take (n : Nat) (at_ : Nat) (b : List UInt8) : List ByteArray × Nat × Nat :=
  match n with
  | 0 => ([], at_, 0)
  | n + 1 => if (un 0 0 b).2.2 ≠ 0 then ([], at_, (un 0 0 b).2.2)
    else if (b.drop (un 0 0 b).2.1).length < (un 0 0 b).1 then ([], at_ + (un 0 0 b).2.1, 2)
    else if (take n (at_ + (un 0 0 b).2.1 + (un 0 0 b).1) ((b.drop (un 0 0 b).2.1).drop (un 0 0 b).1)).2.2 = 0
      then (str ((b.drop (un 0 0 b).2.1).take (un 0 0 b).1) :: (take n (at_ + (un 0 0 b).2.1 + (un 0 0 b).1) ((b.drop (un 0 0 b).2.1).drop (un 0 0 b).1)).1,
        (take n (at_ + (un 0 0 b).2.1 + (un 0 0 b).1) ((b.drop (un 0 0 b).2.1).drop (un 0 0 b).1)).2.1, 0)
      else take n (at_ + (un 0 0 b).2.1 + (un 0 0 b).1) ((b.drop (un 0 0 b).2.1).drop (un 0 0 b).1)
/-- The phrases of bytes: the phrases, the code, the place (of the code). -/
def split (b : List UInt8) : List ByteArray × Nat × Nat :=
  if (un 0 0 b).2.2 ≠ 0 then ([], (un 0 0 b).2.2, 0)
  else if (take (un 0 0 b).1 (un 0 0 b).2.1 (b.drop (un 0 0 b).2.1)).2.2 ≠ 0 then ([], (take (un 0 0 b).1 (un 0 0 b).2.1 (b.drop (un 0 0 b).2.1)).2.2, (take (un 0 0 b).1 (un 0 0 b).2.1 (b.drop (un 0 0 b).2.1)).2.1)
  else if (take (un 0 0 b).1 (un 0 0 b).2.1 (b.drop (un 0 0 b).2.1)).2.1 < b.length then ([], 13, (take (un 0 0 b).1 (un 0 0 b).2.1 (b.drop (un 0 0 b).2.1)).2.1)
  else ((take (un 0 0 b).1 (un 0 0 b).2.1 (b.drop (un 0 0 b).2.1)).1, 0, 0)
def load (b : List UInt8) : List ByteArray × Nat × Nat :=
  if (split b).2.1 ≠ 0 then split b else if (phrases (split b).1).1 ≠ 0 then ([], (phrases (split b).1).1, (phrases (split b).1).2) else split b

theorem take_zero (at_ : Nat) (b : List UInt8) : take 0 at_ b = ([], at_, 0) := rfl
theorem take_succ (n at_ : Nat) (b : List UInt8) : take (n + 1) at_ b = if (un 0 0 b).2.2 ≠ 0 then ([], at_, (un 0 0 b).2.2)
    else if (b.drop (un 0 0 b).2.1).length < (un 0 0 b).1 then ([], at_ + (un 0 0 b).2.1, 2)
    else if (take n (at_ + (un 0 0 b).2.1 + (un 0 0 b).1) ((b.drop (un 0 0 b).2.1).drop (un 0 0 b).1)).2.2 = 0
      then (str ((b.drop (un 0 0 b).2.1).take (un 0 0 b).1) :: (take n (at_ + (un 0 0 b).2.1 + (un 0 0 b).1) ((b.drop (un 0 0 b).2.1).drop (un 0 0 b).1)).1,
        (take n (at_ + (un 0 0 b).2.1 + (un 0 0 b).1) ((b.drop (un 0 0 b).2.1).drop (un 0 0 b).1)).2.1, 0)
      else take n (at_ + (un 0 0 b).2.1 + (un 0 0 b).1) ((b.drop (un 0 0 b).2.1).drop (un 0 0 b).1) := rfl
theorem un_num0 {n : Nat} (h : n < 4294967296) (rest : List UInt8) : un 0 0 (num n ++ rest) = (n, (num n).length, 0) := by
  have := un_num 0 n 0 rest (by omega) (by omega) (by omega)
  rw [this]
  simp
theorem take_body (l : List ByteArray) : ∀ (at_ : Nat) (rest : List UInt8), (∀ s ∈ l, s.size < 4294967296) → take l.length at_ (body l ++ rest) = (l, at_ + (body l).length, 0) := by
  induction l with
  | nil => intro at_ rest _; simp [take_zero, body]
  | cons s t ih =>
    intro at_ rest h
    have hs := h s (List.mem_cons_self ..)
    rw [List.length_cons, take_succ]
    simp only [body, List.append_assoc]
    rw [un_num0 hs]
    simp only [List.drop_left]
    rw [if_neg (by simp), if_neg (by rw [List.length_append, u_size]; omega)]
    rw [← u_size s, List.drop_left, List.take_left, ih _ rest (fun x hx => h x (List.mem_cons_of_mem _ hx)), str_u]
    simp only [if_true, Prod.mk.injEq, List.length_append, true_and, and_true]
    omega
theorem take_once (n : Nat) : ∀ (at_ : Nat) (b : List UInt8), (take n at_ b).2.2 = 0 → at_ ≤ (take n at_ b).2.1 ∧ body (take n at_ b).1 = b.take ((take n at_ b).2.1 - at_) ∧ (take n at_ b).1.length = n ∧ (take n at_ b).2.1 - at_ ≤ b.length ∧ ∀ s ∈ (take n at_ b).1, s.size < 4294967296 := by
  induction n with
  | zero => intro at_ b _; simp [take_zero, body]
  | succ n ih =>
    intro at_ b h
    rw [take_succ] at h ⊢
    by_cases h1 : (un 0 0 b).2.2 ≠ 0
    · rw [if_pos h1] at h; exact absurd h h1
    · rw [if_neg h1] at h ⊢
      obtain ⟨m, e1, e2, e3, e4, _, e6⟩ := un_once b 0 0 (by omega) (by omega)
      by_cases h2 : (b.drop (un 0 0 b).2.1).length < (un 0 0 b).1
      · rw [if_pos h2] at h; exact absurd h (by simp)
      · rw [if_neg h2] at h ⊢
        generalize (un 0 0 b).2.1 = k at *
        generalize (un 0 0 b).1 = z at *
        by_cases h3 : (take n (at_ + k + z) ((b.drop k).drop z)).2.2 = 0
        · rw [if_pos h3]
          obtain ⟨i1, i2, i3, i4, i5⟩ := ih _ _ h3
          simp only [List.length_drop] at i4 h2
          have hz : z < 4294967296 := by simp at e1 e6; omega
          have hzm : num z = b.take k := by
            rw [show z = m by simp at e1; omega, e2]; simp
          have hsz : (str ((b.drop k).take z)).size = z := by rw [str_size, List.length_take, List.length_drop]; omega
          refine ⟨by simp only; omega, ?_, by simp only [List.length_cons, i3], by simp only; omega, ?_⟩
          · simp only [body, hsz, hzm, i2, u_str]
            generalize (take n (at_ + k + z) ((b.drop k).drop z)).2.1 = q at *
            have eq : q - at_ = k + (z + (q - (at_ + k + z))) := by omega
            rw [eq, List.take_add, List.take_add]
          · intro s hs
            rcases List.mem_cons.1 hs with rfl | hs
            · omega
            · exact i5 s hs
        · rw [if_neg h3] at h; exact absurd h h3
theorem take_codes (n : Nat) : ∀ (at_ : Nat) (b : List UInt8), (take n at_ b).2.2 ≠ 0 → (take n at_ b).1 = [] := by
  induction n with
  | zero => intro at_ b h; exact absurd rfl h
  | succ n ih =>
    intro at_ b h
    rw [take_succ] at h ⊢
    by_cases h1 : (un 0 0 b).2.2 ≠ 0
    · rw [if_pos h1]
    · rw [if_neg h1] at h ⊢
      by_cases h2 : (b.drop (un 0 0 b).2.1).length < (un 0 0 b).1
      · rw [if_pos h2]
      · rw [if_neg h2] at h ⊢
        by_cases h3 : (take n (at_ + (un 0 0 b).2.1 + (un 0 0 b).1) ((b.drop (un 0 0 b).2.1).drop (un 0 0 b).1)).2.2 = 0
        · rw [if_pos h3] at h; exact absurd rfl h
        · rw [if_neg h3]; exact ih _ _ h3
theorem un_pos (b : List UInt8) : ∀ (i acc : Nat), (un i acc b).2.2 = 0 → i < (un i acc b).2.1 := by
  induction b with
  | nil => intro i acc h; rw [un_nil] at h; exact absurd h (by decide)
  | cons c t ih =>
    intro i acc h
    rw [un_cons] at h ⊢
    by_cases h1 : i = 4 ∧ 15 < c.toNat
    · rw [if_pos h1] at h; exact absurd h (by decide)
    · rw [if_neg h1] at h ⊢
      by_cases h2 : 0 < i ∧ c.toNat = 0
      · rw [if_pos h2] at h; exact absurd h (by decide)
      · rw [if_neg h2] at h ⊢
        by_cases h3 : c.toNat < 128
        · rw [if_pos h3]; show i < i + 1; omega
        · rw [if_neg h3] at h ⊢
          have := ih _ _ h
          omega
theorem un_take (b : List UInt8) : ∀ (i acc j : Nat), (un i acc b).2.2 = 0 → (un i acc b).2.1 ≤ i + j → un i acc (b.take j) = un i acc b := by
  induction b with
  | nil => intro i acc j h; rw [un_nil] at h; exact absurd h (by decide)
  | cons c t ih =>
    intro i acc j h hj
    rw [un_cons] at h hj
    cases j with
    | zero =>
      exfalso
      by_cases h1 : i = 4 ∧ 15 < c.toNat
      · rw [if_pos h1] at h; exact absurd h (by decide)
      · rw [if_neg h1] at h hj
        by_cases h2 : 0 < i ∧ c.toNat = 0
        · rw [if_pos h2] at h; exact absurd h (by decide)
        · rw [if_neg h2] at h hj
          by_cases h3 : c.toNat < 128
          · rw [if_pos h3] at hj; simp only at hj; omega
          · rw [if_neg h3] at h hj
            have := un_pos t (i + 1) _ h
            omega
    | succ j =>
      rw [List.take_succ_cons, un_cons, un_cons]
      by_cases h1 : i = 4 ∧ 15 < c.toNat
      · rw [if_pos h1, if_pos h1]
      · rw [if_neg h1] at h hj
        rw [if_neg h1, if_neg h1]
        by_cases h2 : 0 < i ∧ c.toNat = 0
        · rw [if_pos h2, if_pos h2]
        · rw [if_neg h2] at h hj
          rw [if_neg h2, if_neg h2]
          by_cases h3 : c.toNat < 128
          · rw [if_pos h3, if_pos h3]
          · rw [if_neg h3] at h hj
            rw [if_neg h3, if_neg h3]
            exact ih _ _ j h (by omega)

theorem take_cut (n : Nat) : ∀ (at_ : Nat) (b : List UInt8) (j : Nat), (take n at_ b).2.2 = 0 → at_ + j < (take n at_ b).2.1 → (take n at_ (b.take j)).2.2 = 2 ∧ (take n at_ (b.take j)).2.1 ≤ at_ + j := by
  induction n with
  | zero => intro at_ b j _ h; rw [take_zero] at h; simp only at h; omega
  | succ n ih =>
    intro at_ b j h hj
    rw [take_succ] at h hj
    rw [take_succ]
    by_cases h1 : (un 0 0 b).2.2 ≠ 0
    · rw [if_pos h1] at h; exact absurd h h1
    · rw [if_neg h1] at h hj
      obtain ⟨m, e1, e2, e3, e4, _, e6⟩ := un_once b 0 0 (by omega) (by omega)
      by_cases h2 : (b.drop (un 0 0 b).2.1).length < (un 0 0 b).1
      · rw [if_pos h2] at h; exact absurd h (by simp)
      · rw [if_neg h2] at h hj
        by_cases h3 : (take n (at_ + (un 0 0 b).2.1 + (un 0 0 b).1) ((b.drop (un 0 0 b).2.1).drop (un 0 0 b).1)).2.2 = 0
        · rw [if_pos h3] at hj
          by_cases hc : j < (un 0 0 b).2.1
          · have := un_cut b 0 0 j (by omega) (by omega)
            rw [this, if_pos (by decide)]
            exact ⟨rfl, by simp only; omega⟩
          · have hu := un_take b 0 0 j (by omega) (by omega)
            rw [hu, if_neg h1]
            generalize hk : (un 0 0 b).2.1 = k at *
            generalize hz : (un 0 0 b).1 = z at *
            have hd : (b.take j).drop k = (b.drop k).take (j - k) := List.drop_take
            rw [hd]
            simp only [List.length_drop, List.length_take] at h2 e4 ⊢
            by_cases hc2 : j - k < z
            · rw [if_pos (by omega)]
              exact ⟨rfl, by simp only; omega⟩
            · rw [if_neg (by omega)]
              have hd2 : ((b.drop k).take (j - k)).drop z = ((b.drop k).drop z).take (j - k - z) := List.drop_take
              rw [hd2]
              have := ih (at_ + k + z) ((b.drop k).drop z) (j - k - z) h3 (by simp only at hj; omega)
              rw [if_neg (by rw [this.1]; decide)]
              exact ⟨this.1, by omega⟩
        · rw [if_neg h3] at h; exact absurd h h3

theorem split_of {b : List UInt8} {n k : Nat} (hu : un 0 0 b = (n, k, 0)) {l : List ByteArray} {q : Nat} (ht : take n k (b.drop k) = (l, q, 0)) (hq : ¬ q < b.length) : split b = (l, 0, 0) := by
  unfold split
  rw [hu]
  simp only
  rw [ht]
  simp only
  rw [if_neg (by decide), if_neg (by decide), if_neg hq]
theorem split_bytes {l : List ByteArray} (hl : l.length < 4294967296) (h : ∀ s ∈ l, s.size < 4294967296) : split (bytes l) = (l, 0, 0) := by
  have hu := un_num0 hl (body l)
  have ht := take_body l (num l.length).length [] h
  rw [List.append_nil] at ht
  refine split_of (b := bytes l) (k := (num l.length).length) hu (q := (num l.length).length + (body l).length) ?_ ?_
  · unfold bytes; rw [List.drop_left]; exact ht
  · unfold bytes; rw [List.length_append]; omega
theorem split_more {l : List ByteArray} (hl : l.length < 4294967296) (h : ∀ s ∈ l, s.size < 4294967296) (more : List UInt8) (hm : more ≠ []) : split (bytes l ++ more) = ([], 13, (bytes l).length) := by
  have hu := un_num0 hl (body l ++ more)
  have ht := take_body l (num l.length).length more h
  unfold split bytes
  rw [List.append_assoc, hu]
  simp only
  rw [List.drop_left, ht]
  simp only
  have : 0 < more.length := List.length_pos_iff.2 hm
  rw [if_neg (by decide), if_neg (by decide), if_pos (by simp only [List.length_append]; omega), List.length_append]
theorem split_cut {l : List ByteArray} (hl : l.length < 4294967296) (h : ∀ s ∈ l, s.size < 4294967296) (j : Nat) (hj : j < (bytes l).length) : (split ((bytes l).take j)).2.1 = 2 ∧ (split ((bytes l).take j)).2.2 ≤ j ∧ (split ((bytes l).take j)).1 = [] := by
  have hu := un_num0 hl (body l)
  have hu' : un 0 0 (bytes l) = (l.length, (num l.length).length, 0) := hu
  have ht := take_body l (num l.length).length [] h
  rw [List.append_nil] at ht
  by_cases hc : j < (num l.length).length
  · have := un_cut (bytes l) 0 0 j (by rw [hu']) (by rw [hu']; simp only; omega)
    unfold split
    rw [this, if_pos (by decide)]
    exact ⟨rfl, by simp, rfl⟩
  · have h2 := un_take (bytes l) 0 0 j (by rw [hu']) (by rw [hu']; simp only; omega)
    have hd : ((bytes l).take j).drop (num l.length).length = (body l).take (j - (num l.length).length) := by
      rw [List.drop_take]; unfold bytes; rw [List.drop_left]
    have hcut := take_cut l.length (num l.length).length (body l) (j - (num l.length).length) (by rw [ht]) (by rw [ht]; simp only; unfold bytes at hj; rw [List.length_append] at hj; omega)
    unfold split
    rw [h2, hu']
    simp only
    rw [hd, if_neg (by decide), hcut.1, if_pos (by decide)]
    exact ⟨rfl, by simp only; omega, rfl⟩
theorem split_once {b : List UInt8} (h : (split b).2.1 = 0) : bytes (split b).1 = b ∧ (split b).2.2 = 0 ∧ (split b).1.length < 4294967296 ∧ ∀ s ∈ (split b).1, s.size < 4294967296 := by
  unfold split at h ⊢
  by_cases h1 : (un 0 0 b).2.2 ≠ 0
  · rw [if_pos h1] at h; exact absurd h h1
  · rw [if_neg h1] at h ⊢
    by_cases h2 : (take (un 0 0 b).1 (un 0 0 b).2.1 (b.drop (un 0 0 b).2.1)).2.2 ≠ 0
    · rw [if_pos h2] at h; exact absurd h h2
    · rw [if_neg h2] at h ⊢
      by_cases h3 : (take (un 0 0 b).1 (un 0 0 b).2.1 (b.drop (un 0 0 b).2.1)).2.1 < b.length
      · rw [if_pos h3] at h; exact absurd h (by simp)
      · rw [if_neg h3]
        obtain ⟨m, e1, e2, e3, e4, _, e6⟩ := un_once b 0 0 (by omega) (by omega)
        obtain ⟨i1, i2, i3, i4, i5⟩ := take_once (un 0 0 b).1 (un 0 0 b).2.1 (b.drop (un 0 0 b).2.1) (by omega)
        have hm : (un 0 0 b).1 = m := by simp at e1; omega
        have e : num (un 0 0 b).1 = b.take (un 0 0 b).2.1 := by rw [hm, e2]; simp
        refine ⟨?_, rfl, by simp only [i3]; simp at e6; omega, i5⟩
        show num (take (un 0 0 b).1 (un 0 0 b).2.1 (b.drop (un 0 0 b).2.1)).1.length ++ body (take (un 0 0 b).1 (un 0 0 b).2.1 (b.drop (un 0 0 b).2.1)).1 = b
        rw [i3, i2, e, List.take_of_length_le (l := b.drop (un 0 0 b).2.1) (by rw [List.length_drop]; omega), List.take_append_drop]
theorem may_small {sum : Nat} {seen l : List ByteArray} (h : May sum seen l) : ∀ s ∈ l, s.size < 4294967296 := fun s hs => by have := (h.1 s hs).2; omega
end Go.Proofs.YtboklkfplnmabaaGreat.Spec
