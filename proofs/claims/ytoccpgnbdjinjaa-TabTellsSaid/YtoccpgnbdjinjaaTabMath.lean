/- Plain mathematics of lengths as bytes (runs of at most sixteen): no Go, no memory. -/
import Init
namespace Go.Proofs.Ytoccpgnbdjinjaa.TabMath

def Sixt (x : Int) : Prop := 0 ≤ x ∧ x ≤ 15
instance (x : Int) : Decidable (Sixt x) := by unfold Sixt; infer_instance
def AllSixt (l : List Int) : Prop := ∀ x ∈ l, Sixt x
instance (l : List Int) : Decidable (AllSixt l) := by unfold AllSixt; infer_instance

def enc : Nat → List Int → List Int
  | _, [] => []
  | r, [x] => [16 * x + r]
  | r, x :: y :: t => if r = 15 ∨ y ≠ x then (16 * x + r) :: enc 0 (y :: t) else enc (r + 1) (y :: t)

def dec : Int → List Int → Nat → Int × List Int × Nat
  | _, _, 0 => (0, [], 0)
  | _, [], _ + 1 => (2, [], 0)
  | p, c :: t, n + 1 => if (p / 16 = c / 16 ∧ p % 16 < 15) ∨ ((n + 1 : Nat) : Int) < c % 16 + 1 then (3, [], 0)
      else if (dec c t (n + 1 - (c % 16 + 1).toNat)).1 = 0 then (0, List.replicate (c % 16 + 1).toNat (c / 16) ++ (dec c t (n + 1 - (c % 16 + 1).toNat)).2.1, (dec c t (n + 1 - (c % 16 + 1).toNat)).2.2 + 1)
      else ((dec c t (n + 1 - (c % 16 + 1).toNat)).1, [], 0)

theorem allSixt_cons {x : Int} {t : List Int} : AllSixt (x :: t) ↔ Sixt x ∧ AllSixt t := by simp [AllSixt]
theorem allSixt_nil : AllSixt [] := by simp [AllSixt]
theorem allSixt_append {s t : List Int} : AllSixt (s ++ t) ↔ AllSixt s ∧ AllSixt t := by
  unfold AllSixt
  constructor
  · intro h
    exact ⟨fun x hx => h x (List.mem_append_left _ hx), fun x hx => h x (List.mem_append_right _ hx)⟩
  · rintro ⟨h1, h2⟩ x hx
    rcases List.mem_append.1 hx with h | h
    · exact h1 x h
    · exact h2 x h
theorem allSixt_replicate (n : Nat) {x : Int} (h : Sixt x) : AllSixt (List.replicate n x) := by
  intro y hy
  rw [List.eq_of_mem_replicate hy]; exact h

theorem dec_zero (p : Int) (b : List Int) : dec p b 0 = (0, [], 0) := by cases b <;> rfl
theorem dec_nil (p : Int) (n : Nat) : dec p [] (n + 1) = (2, [], 0) := rfl
theorem dec_cons (p c : Int) (t : List Int) (n : Nat) : dec p (c :: t) (n + 1) = if (p / 16 = c / 16 ∧ p % 16 < 15) ∨ ((n + 1 : Nat) : Int) < c % 16 + 1 then (3, [], 0)
      else if (dec c t (n + 1 - (c % 16 + 1).toNat)).1 = 0 then (0, List.replicate (c % 16 + 1).toNat (c / 16) ++ (dec c t (n + 1 - (c % 16 + 1).toNat)).2.1, (dec c t (n + 1 - (c % 16 + 1).toNat)).2.2 + 1)
      else ((dec c t (n + 1 - (c % 16 + 1).toNat)).1, [], 0) := rfl
theorem enc_one (r : Nat) (x : Int) : enc r [x] = [16 * x + r] := rfl
theorem enc_cut {r : Nat} {x y : Int} {t : List Int} (h : r = 15 ∨ y ≠ x) : enc r (x :: y :: t) = (16 * x + r) :: enc 0 (y :: t) := by
  rw [enc]; rw [if_pos h]
theorem enc_go {r : Nat} {x : Int} {t : List Int} (h : r ≠ 15) : enc r (x :: x :: t) = enc (r + 1) (x :: t) := by
  rw [enc]; rw [if_neg (by simp [h])]

theorem dec_enc (t : List Int) : ∀ (r : Nat) (p x : Int) (rest : List Int), r ≤ 15 → Sixt x → AllSixt t → ¬ (p / 16 = x ∧ p % 16 < 15) →
    dec p (enc r (x :: t) ++ rest) (r + 1 + t.length) = (0, List.replicate r x ++ x :: t, (enc r (x :: t)).length) := by
  induction t with
  | nil =>
    intro r p x rest hr hx _ hp
    have e1 : (16 * x + (r : Int)) / 16 = x := by omega
    have e2 : (16 * x + (r : Int)) % 16 = r := by omega
    simp only [enc_one, List.cons_append, List.nil_append, List.length_nil, Nat.add_zero, List.length_cons, Nat.zero_add]
    rw [dec_cons, e1, e2, if_neg (by omega)]
    have e3 : ((r : Int) + 1).toNat = r + 1 := by omega
    rw [e3, Nat.sub_self, dec_zero, if_pos rfl]
    simp [List.replicate_succ']
  | cons y t ih =>
    intro r p x rest hr hx ht hp
    obtain ⟨hy, ht⟩ := allSixt_cons.1 ht
    by_cases h : r = 15 ∨ y ≠ x
    · rw [enc_cut h]
      have e1 : (16 * x + (r : Int)) / 16 = x := by omega
      have e2 : (16 * x + (r : Int)) % 16 = r := by omega
      have hd := ih 0 (16 * x + (r : Int)) y rest (by omega) hy ht (by rw [e1, e2]; omega)
      have el : r + 1 + (y :: t).length = (r + 1 + t.length) + 1 := by simp only [List.length_cons]; omega
      rw [el, List.cons_append, dec_cons, e1, e2, if_neg (by omega)]
      have e3 : ((r : Int) + 1).toNat = r + 1 := by omega
      have e4 : r + 1 + t.length + 1 - (r + 1) = 0 + 1 + t.length := by omega
      rw [e3, e4, hd, if_pos rfl]
      simp [List.replicate_succ']
    · obtain ⟨h1, h2⟩ : r ≠ 15 ∧ y = x := by
        refine ⟨fun e => h (Or.inl e), ?_⟩
        by_cases e : y = x
        · exact e
        · exact absurd (Or.inr e) h
      subst h2
      rw [enc_go h1]
      have hd := ih (r + 1) p y rest (by omega) hy ht hp
      have el : r + 1 + (y :: t).length = r + 1 + 1 + t.length := by simp only [List.length_cons]; omega
      rw [el, hd]
      simp [List.replicate_succ']

theorem dec_more (t : List Int) : ∀ (r : Nat) (p x : Int) (need : Nat), r ≤ 15 → Sixt x → AllSixt t → ¬ (p / 16 = x ∧ p % 16 < 15) → r + 1 + t.length < need →
    (dec p (enc r (x :: t)) need).1 = 2 := by
  induction t with
  | nil =>
    intro r p x need hr hx _ hp hn
    have e1 : (16 * x + (r : Int)) / 16 = x := by omega
    have e2 : (16 * x + (r : Int)) % 16 = r := by omega
    obtain ⟨m, rfl⟩ : ∃ m, need = m + 1 := ⟨need - 1, by omega⟩
    simp only [List.length_nil, Nat.add_zero] at hn
    have e3 : ((r : Int) + 1).toNat = r + 1 := by omega
    obtain ⟨j, hj⟩ : ∃ j, m + 1 - (r + 1) = j + 1 := ⟨m - r - 1, by omega⟩
    rw [enc_one, dec_cons, e1, e2, if_neg (by omega), e3, hj, dec_nil, if_neg (by decide)]
  | cons y t ih =>
    intro r p x need hr hx ht hp hn
    obtain ⟨hy, ht⟩ := allSixt_cons.1 ht
    simp only [List.length_cons] at hn
    by_cases h : r = 15 ∨ y ≠ x
    · rw [enc_cut h]
      have e1 : (16 * x + (r : Int)) / 16 = x := by omega
      have e2 : (16 * x + (r : Int)) % 16 = r := by omega
      obtain ⟨m, rfl⟩ : ∃ m, need = m + 1 := ⟨need - 1, by omega⟩
      have hd := ih 0 (16 * x + (r : Int)) y (m + 1 - (r + 1)) (by omega) hy ht (by rw [e1, e2]; omega) (by omega)
      have e3 : ((r : Int) + 1).toNat = r + 1 := by omega
      rw [dec_cons, e1, e2, if_neg (by omega), e3, hd, if_neg (by decide)]
    · obtain ⟨h1, h2⟩ : r ≠ 15 ∧ y = x := by
        refine ⟨fun e => h (Or.inl e), ?_⟩
        by_cases e : y = x
        · exact e
        · exact absurd (Or.inr e) h
      subst h2
      rw [enc_go h1]
      exact ih (r + 1) p y need (by omega) hy ht hp (by omega)

def Less (L : List Int) (n : Nat) (need : Nat) (d : Int × List Int × Nat) : Prop := d.1 = 3 ∨ (d.1 = 0 ∧ d.2.1 = L.take need ∧ d.2.2 < n)
theorem dec_less (t : List Int) : ∀ (r : Nat) (p x : Int) (need : Nat), r ≤ 15 → Sixt x → AllSixt t → ¬ (p / 16 = x ∧ p % 16 < 15) → need < r + 1 + t.length →
    Less (List.replicate r x ++ x :: t) (enc r (x :: t)).length need (dec p (enc r (x :: t)) need) := by
  induction t with
  | nil =>
    intro r p x need hr hx _ hp hn
    have e1 : (16 * x + (r : Int)) / 16 = x := by omega
    have e2 : (16 * x + (r : Int)) % 16 = r := by omega
    simp only [List.length_nil, Nat.add_zero] at hn
    rw [enc_one]
    cases need with
    | zero => rw [dec_zero]; exact Or.inr ⟨rfl, rfl, by simp⟩
    | succ m =>
      rw [dec_cons, e1, e2, if_pos (by omega)]
      exact Or.inl rfl
  | cons y t ih =>
    intro r p x need hr hx ht hp hn
    obtain ⟨hy, ht⟩ := allSixt_cons.1 ht
    simp only [List.length_cons] at hn
    by_cases h : r = 15 ∨ y ≠ x
    · rw [enc_cut h]
      have e1 : (16 * x + (r : Int)) / 16 = x := by omega
      have e2 : (16 * x + (r : Int)) % 16 = r := by omega
      cases need with
      | zero => rw [dec_zero]; exact Or.inr ⟨rfl, rfl, by simp⟩
      | succ m =>
        rw [dec_cons, e1, e2]
        by_cases hm : m < r
        · rw [if_pos (by omega)]; exact Or.inl rfl
        · rw [if_neg (by omega)]
          have e3 : ((r : Int) + 1).toNat = r + 1 := by omega
          have hd := ih 0 (16 * x + (r : Int)) y (m + 1 - (r + 1)) (by omega) hy ht (by rw [e1, e2]; omega) (by omega)
          rw [e3]
          rcases hd with hd | ⟨hd1, hd2, hd3⟩
          · rw [hd, if_neg (by decide)]; exact Or.inl rfl
          · rw [hd1, if_pos rfl]
            refine Or.inr ⟨rfl, ?_, by simp only [List.length_cons]; omega⟩
            simp only [hd2]
            have el : m + 1 = r + 1 + (m - r) := by omega
            have et : (List.replicate (r + 1) x ++ y :: t).take (r + 1 + (m - r)) = List.replicate (r + 1) x ++ (y :: t).take (m - r) := by
              rw [List.take_append, List.take_of_length_le (by simp)]
              simp
            rw [show List.replicate r x ++ x :: y :: t = List.replicate (r + 1) x ++ (y :: t) by simp [List.replicate_succ'], el, et]
            simp
    · obtain ⟨h1, h2⟩ : r ≠ 15 ∧ y = x := by
        refine ⟨fun e => h (Or.inl e), ?_⟩
        by_cases e : y = x
        · exact e
        · exact absurd (Or.inr e) h
      subst h2
      rw [enc_go h1]
      have hd := ih (r + 1) p y need (by omega) hy ht hp (by omega)
      rw [show List.replicate r y ++ y :: y :: t = List.replicate (r + 1) y ++ y :: t by simp [List.replicate_succ']]
      exact hd

theorem enc_run (m : Nat) : ∀ (r : Nat) (x : Int), r + m ≤ 15 → enc r (List.replicate (m + 1) x) = [16 * x + ((r + m : Nat) : Int)] := by
  induction m with
  | zero => intro r x _; rfl
  | succ m ih =>
    intro r x h
    rw [List.replicate_succ, List.replicate_succ, enc_go (by omega), ← List.replicate_succ, ih (r + 1) x (by omega)]
    congr 2
    omega
theorem enc_run_cons (m : Nat) : ∀ (r : Nat) (x y : Int) (t : List Int), r + m ≤ 15 → (r + m = 15 ∨ y ≠ x) → enc r (List.replicate (m + 1) x ++ y :: t) = (16 * x + ((r + m : Nat) : Int)) :: enc 0 (y :: t) := by
  induction m with
  | zero => intro r x y t _ h; exact enc_cut h
  | succ m ih =>
    intro r x y t h h2
    rw [List.replicate_succ, List.replicate_succ, List.cons_append, List.cons_append, enc_go (by omega), ← List.cons_append, ← List.replicate_succ, ih (r + 1) x y t (by omega) (by omega)]
    congr 2
    omega

def Byte (x : Int) : Prop := 0 ≤ x ∧ x ≤ 255
/-- What was read is just what would be written. -/
theorem dec_once (b : List Int) : ∀ (p : Int) (need : Nat), (∀ c ∈ b, Byte c) → (dec p b need).1 = 0 →
    (dec p b need).2.2 ≤ b.length ∧ (dec p b need).2.1.length = need ∧ AllSixt (dec p b need).2.1 ∧ enc 0 (dec p b need).2.1 = b.take (dec p b need).2.2 ∧
    (need = 0 → (dec p b need).2.2 = 0) ∧ (need ≠ 0 → (dec p b need).2.2 ≠ 0) ∧ (∀ y t, (dec p b need).2.1 = y :: t → ¬ (p / 16 = y ∧ p % 16 < 15)) := by
  induction b with
  | nil =>
    intro p need _ h
    cases need with
    | zero => rw [dec_zero]; exact ⟨Nat.le_refl _, rfl, allSixt_nil, rfl, fun _ => rfl, fun h => absurd rfl h, fun _ _ h => by cases h⟩
    | succ n => rw [dec_nil] at h; exact absurd h (by decide)
  | cons c t ih =>
    intro p need hb h
    cases need with
    | zero => rw [dec_zero]; exact ⟨Nat.zero_le _, rfl, allSixt_nil, rfl, fun _ => rfl, fun h => absurd rfl h, fun _ _ h => by cases h⟩
    | succ n =>
      have hc := hb c (List.mem_cons_self ..)
      have ht : ∀ x ∈ t, Byte x := fun x hx => hb x (List.mem_cons_of_mem _ hx)
      unfold Byte at hc
      rw [dec_cons] at h ⊢
      by_cases h1 : (p / 16 = c / 16 ∧ p % 16 < 15) ∨ ((n + 1 : Nat) : Int) < c % 16 + 1
      · rw [if_pos h1] at h; exact absurd h (by decide)
      · rw [if_neg h1] at h ⊢
        generalize hn : n + 1 - (c % 16 + 1).toNat = n' at h ⊢
        by_cases h2 : (dec c t n').1 = 0
        · rw [if_pos h2]
          obtain ⟨i1, i2, i3, i4, i5, i6, i7⟩ := ih c n' ht h2
          obtain ⟨m, hm⟩ : ∃ m : Nat, (c % 16 + 1).toNat = m + 1 := ⟨(c % 16).toNat, by omega⟩
          have hm15 : m ≤ 15 := by omega
          have hcm : 16 * (c / 16) + ((m : Nat) : Int) = c := by omega
          simp only [hm]
          have hg : Sixt (c / 16) := ⟨by omega, by omega⟩
          refine ⟨by simp only [List.length_cons]; omega, by simp only [List.length_append, List.length_replicate, i2]; omega, allSixt_append.2 ⟨allSixt_replicate _ hg, i3⟩, ?_, by omega, by omega, ?_⟩
          · rw [List.take_succ_cons, ← i4]
            cases hl : (dec c t n').2.1 with
            | nil => rw [List.append_nil, enc_run m 0 _ (by omega), Nat.zero_add, hcm]; rfl
            | cons y l' =>
              have := i7 y l' hl
              rw [enc_run_cons m 0 _ y l' (by omega) (by omega), Nat.zero_add, hcm]
          · intro y l' he
            rw [List.replicate_succ, List.cons_append] at he
            injection he with he1 _
            subst he1
            exact fun e => h1 (Or.inl e)
        · rw [if_neg h2] at h; exact absurd h h2

theorem dec_cut (b : List Int) : ∀ (p : Int) (need j : Nat), (dec p b need).1 = 0 → j < (dec p b need).2.2 → (dec p (b.take j) need).1 = 2 := by
  induction b with
  | nil =>
    intro p need j h hj
    cases need with
    | zero => rw [dec_zero] at hj; exact absurd hj (Nat.not_lt_zero _)
    | succ n => rw [dec_nil] at h; exact absurd h (by decide)
  | cons c t ih =>
    intro p need j h hj
    cases need with
    | zero => rw [dec_zero] at hj; exact absurd hj (Nat.not_lt_zero _)
    | succ n =>
      cases j with
      | zero => rfl
      | succ j =>
        rw [List.take_succ_cons, dec_cons]
        rw [dec_cons] at h hj
        by_cases h1 : (p / 16 = c / 16 ∧ p % 16 < 15) ∨ ((n + 1 : Nat) : Int) < c % 16 + 1
        · rw [if_pos h1] at h; exact absurd h (by decide)
        · rw [if_neg h1] at h hj ⊢
          by_cases h2 : (dec c t (n + 1 - (c % 16 + 1).toNat)).1 = 0
          · rw [if_pos h2] at hj
            have := ih c _ j h2 (by simp only at hj; omega)
            rw [this, if_neg (by decide)]
          · rw [if_neg h2] at h; exact absurd h h2

theorem enc_bytes (t : List Int) : ∀ (r : Nat) (x : Int), r ≤ 15 → Sixt x → AllSixt t → ∀ c ∈ enc r (x :: t), Byte c := by
  induction t with
  | nil =>
    intro r x hr hx _ c hc
    unfold Sixt at hx; unfold Byte
    rw [enc_one, List.mem_singleton] at hc
    omega
  | cons y t ih =>
    intro r x hr hx ht c hc
    obtain ⟨hy, ht⟩ := allSixt_cons.1 ht
    by_cases h : r = 15 ∨ y ≠ x
    · rw [enc_cut h] at hc
      rcases List.mem_cons.1 hc with hc | hc
      · unfold Sixt at hx; unfold Byte; omega
      · exact ih 0 y (by omega) hy ht c hc
    · obtain ⟨h1, h2⟩ : r ≠ 15 ∧ y = x := by
        refine ⟨fun e => h (Or.inl e), ?_⟩
        by_cases e : y = x
        · exact e
        · exact absurd (Or.inr e) h
      subst h2
      rw [enc_go h1] at hc
      exact ih (r + 1) y (by omega) hy ht c hc
theorem enc_byte {l : List Int} (h : AllSixt l) : ∀ c ∈ enc 0 l, Byte c := by
  cases l with
  | nil => intro c hc; cases hc
  | cons x t => exact enc_bytes t 0 x (by omega) (allSixt_cons.1 h).1 (allSixt_cons.1 h).2

theorem dec_enc0 {l : List Int} (h : AllSixt l) (rest : List Int) : dec 15 (enc 0 l ++ rest) l.length = (0, l, (enc 0 l).length) := by
  cases l with
  | nil => exact dec_zero _ _
  | cons x t =>
    have := dec_enc t 0 15 x rest (by omega) (allSixt_cons.1 h).1 (allSixt_cons.1 h).2 (by omega)
    rw [show (x :: t).length = 0 + 1 + t.length by simp only [List.length_cons]; omega]
    exact this
theorem dec_more0 {l : List Int} (h : AllSixt l) {need : Nat} (hn : l.length < need) : (dec 15 (enc 0 l) need).1 = 2 := by
  cases l with
  | nil => obtain ⟨m, rfl⟩ : ∃ m, need = m + 1 := ⟨need - 1, by simp at hn; omega⟩; rfl
  | cons x t => exact dec_more t 0 15 x need (by omega) (allSixt_cons.1 h).1 (allSixt_cons.1 h).2 (by omega) (by simp only [List.length_cons] at hn; omega)
theorem dec_less0 {l : List Int} (h : AllSixt l) {need : Nat} (hn : need < l.length) : Less l (enc 0 l).length need (dec 15 (enc 0 l) need) := by
  cases l with
  | nil => exact absurd hn (Nat.not_lt_zero _)
  | cons x t => exact dec_less t 0 15 x need (by omega) (allSixt_cons.1 h).1 (allSixt_cons.1 h).2 (by omega) (by simp only [List.length_cons] at hn; omega)

/-! runs -/
def runs : Int → List Int → Nat
  | _, [] => 0
  | x, y :: t => (if y = x then 0 else 1) + runs y t
theorem enc_sizes (t : List Int) : ∀ (r : Nat) (x : Int), r ≤ 15 → (enc r (x :: t)).length ≤ t.length + 1 ∧ 1 + runs x t ≤ (enc r (x :: t)).length ∧ r + 1 + t.length ≤ 16 * (enc r (x :: t)).length := by
  induction t with
  | nil => intro r x hr; rw [enc_one]; simp [runs]; omega
  | cons y t ih =>
    intro r x hr
    by_cases h : r = 15 ∨ y ≠ x
    · rw [enc_cut h]
      obtain ⟨a, b, c⟩ := ih 0 y (by omega)
      simp only [List.length_cons, runs]
      refine ⟨by omega, ?_, by omega⟩
      split <;> omega
    · obtain ⟨h1, h2⟩ : r ≠ 15 ∧ y = x := by
        refine ⟨fun e => h (Or.inl e), ?_⟩
        by_cases e : y = x
        · exact e
        · exact absurd (Or.inr e) h
      subst h2
      rw [enc_go h1]
      obtain ⟨a, b, c⟩ := ih (r + 1) y (by omega)
      simp only [List.length_cons, runs, if_true]
      omega

/-- Each byte but the last one is a whole run of v. -/
def Fills (v : Int) : List Int → Prop
  | [] => True
  | [c] => c / 16 = v
  | c :: d :: t => c / 16 = v ∧ c % 16 = 15 ∧ Fills v (d :: t)
theorem enc_alike (m : Nat) : ∀ (r : Nat) (v : Int), r ≤ 15 → Sixt v → (enc r (List.replicate (m + 1) v)).length = (r + m + 1 + 15) / 16 ∧ Fills v (enc r (List.replicate (m + 1) v)) := by
  induction m with
  | zero =>
    intro r v hr hv
    refine ⟨?_, ?_⟩
    · rw [show List.replicate (0 + 1) v = [v] from rfl, enc_one]; simp; omega
    · rw [show List.replicate (0 + 1) v = [v] from rfl, enc_one]; unfold Fills; unfold Sixt at hv; omega
  | succ m ih =>
    intro r v hr hv
    rw [List.replicate_succ, List.replicate_succ]
    by_cases h : r = 15
    · rw [enc_cut (Or.inl h)]
      obtain ⟨a, b⟩ := ih 0 v (by omega) hv
      rw [← List.replicate_succ]
      refine ⟨by rw [List.length_cons, a]; omega, ?_⟩
      cases hl : enc 0 (List.replicate (m + 1) v) with
      | nil => rw [hl] at a; simp at a; omega
      | cons d t =>
        unfold Fills
        refine ⟨by omega, by omega, by rw [← hl]; exact b⟩
    · rw [enc_go h, ← List.replicate_succ]
      obtain ⟨a, b⟩ := ih (r + 1) v (by omega) hv
      exact ⟨by rw [a]; omega, b⟩
theorem fills_at (v : Int) : ∀ (l : List Int), Fills v l → ∀ (i : Nat) (h : i < l.length), l[i] / 16 = v ∧ (i + 1 < l.length → l[i] % 16 = 15)
  | [], _, i, h => absurd h (Nat.not_lt_zero _)
  | [c], hf, i, h => by
    have : i = 0 := by simp at h; exact h
    subst this
    exact ⟨hf, fun h => by simp at h⟩
  | c :: d :: t, hf, i, h => by
    obtain ⟨h1, h2, h3⟩ := hf
    cases i with
    | zero => exact ⟨h1, fun _ => h2⟩
    | succ i =>
      obtain ⟨a, b⟩ := fills_at v (d :: t) h3 i (by simpa using h)
      exact ⟨by simpa using a, fun hh => by simpa using b (by simpa using hh)⟩
end Go.Proofs.Ytoccpgnbdjinjaa.TabMath
