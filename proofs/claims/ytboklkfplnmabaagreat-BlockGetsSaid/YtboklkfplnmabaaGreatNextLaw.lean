import Derived.Test.YtboklkfplnmabaaGreatDecC
set_option linter.unusedVariables false
set_option linter.unusedSimpArgs false
namespace Go.Proofs.YtboklkfplnmabaaGreat
open Go.RowKit Go.Proofs.YtboklkfplnmabaaGreat.Spec Go.Proofs.YtboklkfplnmabaaGreatW.PrintWords Go.Proofs.YtboklkfplnmabaaGreatW.PrintLast
open Go.Proofs.YtboklkfplnmabaaGreatW.PrintMore
namespace Spec
theorem peekV_zero (b : ByteArray) (a : Nat) : ∀ n, (peekV b a n = 0 ↔ ∀ i, i < n → bitAt b (a + i) = 0) := by
  intro n
  induction n with
  | zero => exact ⟨fun _ i hi => absurd hi (Nat.not_lt_zero i), fun _ => rfl⟩
  | succ n ih =>
    rw [peekV]
    constructor
    · intro h i hi
      by_cases e : i = n
      · subst e; omega
      · exact (ih.1 (by omega)) i (by omega)
    · intro h
      have h1 := ih.2 (fun i hi => h i (by omega))
      have h2 := h n (by omega)
      omega
theorem sym_back (l : List Int) (n : Nat) : ∀ s, s ≤ l.length → ∀ j x, (sym l n s)[j]? = some x → ∃ i : Nat, x = (i : Int) ∧ i < s ∧ l.getD i 0 = (n : Int) ∧ cnt (l.take i) (n : Int) = j := by
  intro s
  induction s with
  | zero => intro _ j x h; rw [sym_zero] at h; cases h
  | succ s ih =>
    intro hs j x h
    by_cases e : l.getD s 0 = (n : Int)
    · rw [sym_go l n s e] at h
      by_cases hj : j < (sym l n s).length
      · rw [List.getElem?_append_left hj] at h
        obtain ⟨i, h1, h2, h3, h4⟩ := ih (by omega) j x h
        exact ⟨i, h1, by omega, h3, h4⟩
      · rw [List.getElem?_append_right (by omega)] at h
        have hj2 : j - (sym l n s).length = 0 := by
          rcases Nat.eq_zero_or_pos (j - (sym l n s).length) with g | g
          · exact g
          · rw [List.getElem?_eq_none (by rw [List.length_singleton]; omega)] at h
            cases h
        rw [hj2] at h
        have hx : x = (s : Int) := by
          have : some (s : Int) = some x := h
          exact (Option.some.inj this).symm
        refine ⟨s, hx, by omega, e, ?_⟩
        rw [← sym_cnt l n s (by omega)]
        omega
    · rw [sym_skip l n s e] at h
      obtain ⟨i, h1, h2, h3, h4⟩ := ih (by omega) j x h
      exact ⟨i, h1, by omega, h3, h4⟩
theorem sym_get (l : List Int) (n i : Nat) (hi : i < l.length) (h : l.getD i 0 = (n : Int)) : ∀ s, i < s → s ≤ l.length → (sym l n s)[cnt (l.take i) (n : Int)]? = some (i : Int) := by
  intro s
  induction s with
  | zero => intro h; exact absurd h (Nat.not_lt_zero i)
  | succ s ih =>
    intro his hs
    by_cases e : i = s
    · subst e
      rw [sym_go l n i h, ← sym_cnt l n i (by omega), List.getElem?_append_right (Nat.le_refl _), Nat.sub_self]
      rfl
    · have h1 := ih (by omega) (by omega)
      by_cases g : l.getD s 0 = (n : Int)
      · rw [sym_go l n s g, List.getElem?_append_left (List.getElem?_eq_some_iff.1 h1).1]
        exact h1
      · rw [sym_skip l n s g]; exact h1
/-- Does the code of a symbol of length n stand there? -/
theorem hit_yes (l : List Int) (n i : Nat) (hn : 1 ≤ n ∧ n ≤ 15) (hi : i < l.length) (h : l.getD i 0 = (n : Int)) :
    0 ≤ cod l i - fst l n l.length ∧ cod l i - fst l n l.length < ((sym l n l.length).length : Int) ∧ (sym l n l.length).getD (cod l i - fst l n l.length).toNat 0 = (i : Int) := by
  have h1 := sym_get l n i hi h l.length hi (Nat.le_refl _)
  have h2 := (List.getElem?_eq_some_iff.1 h1).1
  have hne : sym l n l.length ≠ [] := by intro e; rw [e] at h2; exact absurd h2 (Nat.not_lt_zero _)
  have hc : cod l i - fst l n l.length = ((cnt (l.take i) (n : Int) : Nat) : Int) := by
    have hg := getD_at l i hi
    rw [h] at hg
    rw [cod_at l i n hi hn.1 hn.2 hg.symm]
    unfold fst
    rw [if_neg hne]
    omega
  rw [hc, Int.toNat_natCast, List.getD_eq_getElem?_getD, h1]
  exact ⟨by omega, by omega, rfl⟩
theorem hit_no (l : List Int) (n v : Nat) (hn : 1 ≤ n ∧ n ≤ 15) (hno : ∀ i, i < l.length → ¬ (l.getD i 0 = (n : Int) ∧ cod l i = (v : Int))) :
    ¬ (0 ≤ (v : Int) - fst l n l.length ∧ (v : Int) - fst l n l.length < ((sym l n l.length).length : Int)) := by
  rintro ⟨h1, h2⟩
  obtain ⟨j, hj⟩ : ∃ j : Nat, (v : Int) - fst l n l.length = (j : Int) := ⟨((v : Int) - fst l n l.length).toNat, by omega⟩
  have hlt : j < (sym l n l.length).length := by omega
  obtain ⟨i, e1, e2, e3, e4⟩ := sym_back l n l.length (Nat.le_refl _) j _ (List.getElem?_eq_getElem hlt)
  have hne : sym l n l.length ≠ [] := by intro e; rw [e] at hlt; exact absurd hlt (Nat.not_lt_zero _)
  have hg := getD_at l i e2
  rw [e3] at hg
  apply hno i e2
  refine ⟨e3, ?_⟩
  rw [cod_at l i n e2 hn.1 hn.2 hg.symm, e4]
  unfold fst at hj
  rw [if_neg hne] at hj
  omega
theorem maxL_ge (l : List Int) : ∀ x ∈ l, x ≤ maxL l := by
  have h : ∀ (r : List Int) (y : Int), y ≤ r.foldl max y ∧ ∀ x ∈ r, x ≤ r.foldl max y := by
    intro r
    induction r with
    | nil => intro y; exact ⟨Int.le_refl _, fun x hx => by cases hx⟩
    | cons z r ih =>
      intro y
      rw [List.foldl_cons]
      obtain ⟨h1, h2⟩ := ih (max y z)
      refine ⟨by omega, fun x hx => ?_⟩
      rcases List.mem_cons.1 hx with e | e
      · subst e; omega
      · exact h2 x e
  intro x hx
  cases l with
  | nil => cases hx
  | cons y r =>
    rw [maxL]
    rcases List.mem_cons.1 hx with e | e
    · subst e; exact (h r x).1
    · exact (h r y).2 x e
end Spec
end Go.Proofs.YtboklkfplnmabaaGreat
