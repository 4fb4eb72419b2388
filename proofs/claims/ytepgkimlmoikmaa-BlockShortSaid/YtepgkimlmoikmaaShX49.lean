/- ShX: a part of its proof (contracts of the functions that it reaches, and the plain mathematics behind them). -/
import Derived.Test.YtepgkimlmoikmaaShX35
set_option linter.unusedVariables false
set_option linter.unusedSimpArgs false
set_option linter.unusedVariables false
set_option linter.unusedSimpArgs false
namespace Go.Proofs.Ytepgkimlmoikmaa
open Go.RowKit Go.Proofs.Ytepgkimlmoikmaa.Leaf Go.Proofs.YtepgkimlmoikmaaW.PrintWords Go.Proofs.YtepgkimlmoikmaaW.PrintLast
namespace TabB
open TabMath
def TR (out : List Int) (n : Nat) (s : List Int) : ByteArray × Bool := if AllSixt s then (strOfNums (out ++ enc n s), true) else (⟨#[]⟩, false)
theorem enc_nil (n : Nat) : enc n [] = [] := rfl
set_option maxHeartbeats 1000000 in
theorem rtab_l0 (l : List Int) (hl : l.length ≤ 356) (s : List Int) : ∀ (i n : Nat) (out : List Int), n ≤ 15 → i ≤ l.length → out.length ≤ i → l.drop i = s →
  Ev (fun k => lexiphaneref1_Tab.l0 k l out (n : Int) (i : Int)) (TR out n s) := by
 induction s with
 | nil =>
  intro i n out hn hi ho h
  have hlen := len_drop hi h
  simp only [List.length_nil, Nat.add_zero] at hlen
  refine Ev.step (f := fun _ => some (TR out n [])) (fun k => ?_) (Ev.now _)
  simp only [lexiphaneref1_Tab.l0]
  rw [if_neg (by omega)]
  unfold TR
  rw [if_pos allSixt_nil, enc_nil, List.append_nil]
 | cons x rest ih =>
  intro i n out hn hi ho h
  have hlen := len_drop hi h
  simp only [List.length_cons] at hlen
  have hx0 : rd l (i : Int) = x := by
   have := rd_drop (a := []) h
   simpa using this
  have hd : l.drop (i + 1) = rest := by rw [← List.drop_drop, h]; rfl
  have hstep : ∀ k, lexiphaneref1_Tab.l0 (k + 1) l out n i = lexiphaneref1_Tab.j1 k l out n i (decide (¬ Sixt x)) := by
   intro k
   simp only [lexiphaneref1_Tab.l0]
   rw [if_pos (by omega), if_pos (by omega), hx0]
   unfold Sixt
   by_cases g : x < 0
   ·rw [if_pos g]; congr 1; symm; rw [decide_eq_true_iff]; omega
   ·rw [if_neg g]; congr 1; rw [decide_eq_decide]; omega
  refine Ev.step hstep ?_
  by_cases g : Sixt x
  ·have hx := g
   unfold Sixt at hx
   have a0 : (0 : Int) ≤ (i : Int) := by omega
   have a1 : (i : Int) < (l.length : Int) := by omega
   have a2 : out.length < 140737488355328 := by omega
   have a5 : (0 : Int) ≤ ((i + 1 : Nat) : Int) := by omega
   have b1 : n + 1 ≤ 15 ∨ n = 15 := by omega
   have b2 : i + 1 ≤ l.length := by omega
   have b3 : (out ++ [16 * x + (n : Int)]).length ≤ i + 1 := by simp; omega
   have b4 : out.length ≤ i + 1 := by omega
   have b5 : rest.length ≠ 0 → ((i + 1 : Nat) : Int) < (l.length : Int) ∧ ¬ (i : Int) = (l.length : Int) - 1 := fun h => ⟨by omega, by omega⟩
   have b6 : rest.length = 0 → (i : Int) = (l.length : Int) - 1 := fun h => by omega
   have b7 : n ≠ 15 → ¬ ((n + 1 : Nat) : Int) = 16 := fun h => by omega
   have b8 : n = 15 → ((n + 1 : Nat) : Int) = 16 := fun h => by omega
   have e1 : wrap64 ((i : Int) + 1) = ((i + 1 : Nat) : Int) := by rw [wr (by omega) (by omega)]; omega
   have e2 : (wrap64 ((wrap64 ((wrap64 (16 * x)) + (wrap64 ((n : Int) + 1)))) - 1)) % 256 = 16 * x + (n : Int) := by
    rw [wr (x := 16 * x) (by omega) (by omega), wr (x := (n : Int) + 1) (by omega) (by omega), wr (x := 16 * x + ((n : Int) + 1)) (by omega) (by omega), wr (by omega) (by omega)]
    omega
   have e3 : wrap64 ((n : Int) + 1) = ((n + 1 : Nat) : Int) := by rw [wr (by omega) (by omega)]; omega
   have e4 : wrap64 ((l.length : Int) - 1) = (l.length : Int) - 1 := wr (by omega) (by omega)
   have cut : (∀ y t, rest = y :: t → n = 15 ∨ y ≠ x) → Ev (fun k => lexiphaneref1_Tab.l0 k l (out ++ [16 * x + (n : Int)]) 0 ((i + 1 : Nat) : Int)) (TR out n (x :: rest)) := by
    intro hc
    have := ih (i + 1) 0 (out ++ [16 * x + (n : Int)]) (Nat.zero_le _) b2 b3 hd
    have er : TR (out ++ [16 * x + (n : Int)]) 0 rest = TR out n (x :: rest) := by
     unfold TR
     by_cases gr : AllSixt rest
     ·rw [if_pos gr, if_pos (allSixt_cons.2 ⟨g, gr⟩)]
      cases rest with
      | nil => rw [enc_nil, enc_one, List.append_nil]
      | cons y t => rw [enc_cut (hc y t rfl)]; simp
     ·rw [if_neg gr, if_neg (fun e => gr (allSixt_cons.1 e).2)]
    rw [er] at this
    exact this
   by_cases h16 : n = 15
   ·refine Ev.step (fun k => ?_) (cut fun _ _ _ => Or.inl h16)
    simp only [lexiphaneref1_Tab.j1]
    rw [if_neg (by simp [g]), hx0, e2, e1, e3, if_pos (b8 h16), if_pos a0, if_pos a1, if_pos a2]
   ·cases rest with
    | nil =>
     refine Ev.step (fun k => ?_) (cut fun _ _ h => by cases h)
     simp only [lexiphaneref1_Tab.j1]
     rw [if_neg (by simp [g]), hx0, e2, e1, e3, e4, if_neg (b7 h16), if_pos (b6 rfl), if_pos a0, if_pos a1, if_pos a2]
    | cons y t =>
     obtain ⟨a6, a4⟩ := b5 (by simp)
     have hy0 : rd l ((i + 1 : Nat) : Int) = y := by
      have := rd_drop (a := []) hd
      simpa using this
     by_cases hyx : y = x
     ·subst hyx
      have := ih (i + 1) (n + 1) out (b1.resolve_right h16) b2 b4 hd
      have er : TR out (n + 1) (y :: t) = TR out n (y :: y :: t) := by
       unfold TR
       by_cases gr : AllSixt (y :: t)
       ·rw [if_pos gr, if_pos (allSixt_cons.2 ⟨g, gr⟩), enc_go h16]
       ·rw [if_neg gr, if_neg (fun e => gr (allSixt_cons.1 e).2)]
      rw [er] at this
      refine Ev.step (fun k => ?_) this
      simp only [lexiphaneref1_Tab.j1]
      rw [if_neg (by simp [g]), hx0, e1, e3, e4, hy0, if_neg (b7 h16), if_neg a4, if_pos a5, if_pos a6, if_pos a0, if_pos a1, if_pos rfl]
     ·refine Ev.step (fun k => ?_) (cut fun y' t' h => by injection h with h _; exact Or.inr (h ▸ hyx))
      simp only [lexiphaneref1_Tab.j1]
      rw [if_neg (by simp [g]), hx0, e2, e1, e3, e4, hy0, if_neg (b7 h16), if_neg a4, if_pos a5, if_pos a6, if_pos a0, if_pos a1, if_neg hyx, if_pos a2]
  ·refine Ev.step (f := fun _ => some (TR out n (x :: rest))) (fun k => ?_) (Ev.now _)
   simp only [lexiphaneref1_Tab.j1]
   rw [if_pos (by simp [g])]
   unfold TR
   rw [if_neg (fun e => g (allSixt_cons.1 e).1)]
theorem rtab_ev (l : List Int) : Ev (fun k => lexiphaneref1_Tab.f k l) (putS l) := by
 unfold putS
 by_cases hl : l.length ≤ 356
 ·have := rtab_l0 l hl l 0 0 [] (by omega) (by omega) (by simp) rfl
  have er : TR [] 0 l = if l.length ≤ 356 ∧ AllSixt l then (strOfNums (enc 0 l), true) else (⟨#[]⟩, false) := by
   unfold TR
   by_cases g : AllSixt l
   ·rw [if_pos g, if_pos ⟨hl, g⟩, List.nil_append]
   ·rw [if_neg g, if_neg (fun e => g e.2)]
  rw [er] at this
  refine Ev.congr (fun k => ?_) this
  unfold lexiphaneref1_Tab.f
  rw [if_neg (by omega)]
  rfl
 ·rw [if_neg (fun e => hl e.1)]
  refine Ev.congr (f := fun _ => some (⟨#[]⟩, false)) (fun k => ?_) (Ev.now _)
  unfold lexiphaneref1_Tab.f
  rw [if_pos (by omega)]
end TabB
end Go.Proofs.Ytepgkimlmoikmaa
