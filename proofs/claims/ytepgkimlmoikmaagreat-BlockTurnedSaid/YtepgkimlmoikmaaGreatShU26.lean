/- ShU: a part of its proof (contracts of the functions that it reaches, and the plain mathematics behind them). -/
import Init
set_option linter.unusedVariables false
set_option linter.unusedSimpArgs false
set_option maxHeartbeats 2000000
set_option maxRecDepth 100000
set_option linter.unusedVariables false
namespace Go.Proofs.YtepgkimlmoikmaaGreat
section
variable {β : Type}
def Srt (xs : List (Int × β)) : Prop := xs.Pairwise (fun a b => a.1 ≤ b.1)
def Ste (xs ys : List (Int × β)) : Prop := ∀ c : Int, xs.filter (fun z => decide (z.1 = c)) = ys.filter (fun z => decide (z.1 = c))
theorem Ste.refl (xs : List (Int × β)) : Ste xs xs := fun _ => rfl
theorem Ste.symm {xs ys : List (Int × β)} (h : Ste xs ys) : Ste ys xs := fun c => (h c).symm
theorem Ste.trans {xs ys zs : List (Int × β)} (h : Ste xs ys) (k : Ste ys zs) : Ste xs zs := fun c => (h c).trans (k c)
theorem Ste.app {xs ys us vs : List (Int × β)} (h : Ste xs ys) (k : Ste us vs) : Ste (xs ++ us) (ys ++ vs) := fun c => by
 rw [List.filter_append, List.filter_append, h c, k c]
theorem Ste.mem {xs ys : List (Int × β)} (h : Ste xs ys) {z : Int × β} (hz : z ∈ ys) : z ∈ xs := by
 have h1 : z ∈ ys.filter (fun q => decide (q.1 = z.1)) := List.mem_filter.2 ⟨hz, decide_eq_true rfl⟩
 rw [← h z.1] at h1
 exact (List.mem_filter.1 h1).1
theorem Ste.swap {xs ys : List (Int × β)} (h : ∀ x ∈ xs, ∀ y ∈ ys, x.1 ≠ y.1) : Ste (xs ++ ys) (ys ++ xs) := by
 intro c
 rw [List.filter_append, List.filter_append]
 by_cases hx : xs.filter (fun z => decide (z.1 = c)) = []
 ·rw [hx, List.nil_append, List.append_nil]
 ·have hy : ys.filter (fun z => decide (z.1 = c)) = [] := by
   obtain ⟨x, hx1⟩ := List.exists_mem_of_ne_nil _ hx
   obtain ⟨hx2, hx3⟩ := List.mem_filter.1 hx1
   rw [List.filter_eq_nil_iff]
   intro y hy1 hy2
   exact h x hx2 y hy1 ((of_decide_eq_true hx3).trans (of_decide_eq_true hy2).symm)
  rw [hy, List.nil_append, List.append_nil]
theorem Srt.nil : Srt ([] : List (Int × β)) := List.Pairwise.nil
theorem Srt.one (x : Int × β) : Srt [x] := List.pairwise_singleton _ _
theorem srt_app {xs ys : List (Int × β)} : Srt (xs ++ ys) ↔ Srt xs ∧ Srt ys ∧ ∀ x ∈ xs, ∀ y ∈ ys, x.1 ≤ y.1 := List.pairwise_append
theorem srt_cons {x : Int × β} {ys : List (Int × β)} : Srt (x :: ys) ↔ (∀ y ∈ ys, x.1 ≤ y.1) ∧ Srt ys := List.pairwise_cons
theorem srt_put {d1 d2 : List (Int × β)} {x : Int × β} (h : Srt (d1 ++ d2)) (h2 : ∀ y ∈ d2, x.1 ≤ y.1) (h1 : ∀ y ∈ d1, y.1 ≤ x.1) : Srt (d1 ++ x :: d2) := by
 obtain ⟨a, b, c⟩ := srt_app.1 h
 refine srt_app.2 ⟨a, srt_cons.2 ⟨h2, b⟩, fun z hz y hy => ?_⟩
 rcases List.mem_cons.1 hy with rfl | hy
 ·exact h1 z hz
 ·exact c z hz y hy
theorem srt_last {d : List (Int × β)} {y : Int × β} (h : Srt (d ++ [y])) : ∀ z ∈ d ++ [y], z.1 ≤ y.1 := by
 intro z hz
 rcases List.mem_append.1 hz with hz | hz
 ·exact (srt_app.1 h).2.2 z hz y (List.mem_singleton.2 rfl)
 ·rw [List.mem_singleton.1 hz]; exact Int.le_refl _
theorem srt_unique : ∀ (xs ys : List (Int × β)), Srt xs → Srt ys → Ste xs ys → xs = ys := by
 intro xs
 induction xs with
 | nil =>
  intro ys _ _ h
  cases ys with
  | nil => rfl
  | cons y ys => exact absurd (h.mem (List.mem_cons_self ..)) (by simp)
 | cons x xs ih =>
  intro ys hx hy h
  cases ys with
  | nil => exact absurd (h.symm.mem (List.mem_cons_self ..)) (by simp)
  | cons y ys =>
   obtain ⟨a1, a2⟩ := srt_cons.1 hx
   obtain ⟨b1, b2⟩ := srt_cons.1 hy
   have hle1 : x.1 ≤ y.1 := by
    rcases List.mem_cons.1 (h.mem (List.mem_cons_self ..)) with e | e
    ·rw [e]; exact Int.le_refl _
    ·exact a1 y e
   have hle2 : y.1 ≤ x.1 := by
    rcases List.mem_cons.1 (h.symm.mem (List.mem_cons_self ..)) with e | e
    ·rw [e]; exact Int.le_refl _
    ·exact b1 x e
   have he : x.1 = y.1 := Int.le_antisymm hle1 hle2
   have h0 := h x.1
   rw [List.filter_cons, List.filter_cons, if_pos (decide_eq_true rfl), if_pos (decide_eq_true he.symm)] at h0
   injection h0 with e1 e2
   subst e1
   congr 1
   refine ih ys a2 b2 fun c => ?_
   by_cases hc : c = x.1
   ·subst hc; exact e2
   ·have hc2 := h c
    rw [List.filter_cons, List.filter_cons, if_neg (by rw [decide_eq_true_iff]; exact fun e => hc e.symm), if_neg (by rw [decide_eq_true_iff]; exact fun e => hc e.symm)] at hc2
    exact hc2
def ins (x : Int × β) : List (Int × β) → List (Int × β)
 | [] => [x]
 | y :: ys => if x.1 ≤ y.1 then x :: y :: ys else y :: ins x ys
def stable : List (Int × β) → List (Int × β)
 | [] => []
 | x :: xs => ins x (stable xs)
theorem ins_mem {x z : Int × β} : ∀ {ys : List (Int × β)}, z ∈ ins x ys ↔ z = x ∨ z ∈ ys := by
 intro ys
 induction ys with
 | nil => simp [ins]
 | cons y ys ih =>
  unfold ins
  split
  ·simp
  ·rw [List.mem_cons, ih, List.mem_cons]
   constructor
   ·rintro (h | h | h)
    ·exact .inr (.inl h)
    ·exact .inl h
    ·exact .inr (.inr h)
   ·rintro (h | h | h)
    ·exact .inr (.inl h)
    ·exact .inl h
    ·exact .inr (.inr h)
theorem ins_srt {x : Int × β} : ∀ {ys : List (Int × β)}, Srt ys → Srt (ins x ys) := by
 intro ys
 induction ys with
 | nil => intro _; exact Srt.one x
 | cons y ys ih =>
  intro h
  obtain ⟨a, b⟩ := srt_cons.1 h
  unfold ins
  split
  ·rename_i hle
   refine srt_cons.2 ⟨fun z hz => ?_, h⟩
   rcases List.mem_cons.1 hz with rfl | hz
   ·exact hle
   ·exact Int.le_trans hle (a z hz)
  ·rename_i hle
   refine srt_cons.2 ⟨fun z hz => ?_, ih b⟩
   rcases ins_mem.1 hz with rfl | hz
   ·omega
   ·exact a z hz
theorem ins_ste {x : Int × β} : ∀ {ys : List (Int × β)}, Srt ys → Ste (x :: ys) (ins x ys) := by
 intro ys
 induction ys with
 | nil => intro _; exact Ste.refl _
 | cons y ys ih =>
  intro h
  obtain ⟨a, b⟩ := srt_cons.1 h
  unfold ins
  split
  ·exact Ste.refl _
  ·rename_i hle
   have h1 : Ste ([x] ++ [y]) ([y] ++ [x]) := Ste.swap (fun p hp q hq => by rw [List.mem_singleton.1 hp, List.mem_singleton.1 hq]; omega)
   have h2 := h1.app (Ste.refl ys)
   have h3 : Ste ([y] ++ (x :: ys)) ([y] ++ ins x ys) := (Ste.refl [y]).app (ih b)
   exact Ste.trans h2 h3
theorem stable_srt : ∀ (xs : List (Int × β)), Srt (stable xs) := by
 intro xs
 induction xs with
 | nil => exact Srt.nil
 | cons x xs ih => exact ins_srt ih
theorem stable_ste : ∀ (xs : List (Int × β)), Ste xs (stable xs) := by
 intro xs
 induction xs with
 | nil => exact Ste.refl _
 | cons x xs ih => exact ((Ste.refl [x]).app ih).trans (ins_ste (stable_srt xs))
theorem stable_of {xs ys : List (Int × β)} (h : Srt ys) (k : Ste xs ys) : ys = stable xs := srt_unique _ _ h (stable_srt xs) (k.symm.trans (stable_ste xs))
theorem ins_len (x : Int × β) : ∀ (ys : List (Int × β)), (ins x ys).length = ys.length + 1 := by
 intro ys
 induction ys with
 | nil => rfl
 | cons y ys ih =>
  unfold ins
  split
  ·rfl
  ·rw [List.length_cons, ih, List.length_cons]
theorem stable_len : ∀ (xs : List (Int × β)), (stable xs).length = xs.length := by
 intro xs
 induction xs with
 | nil => rfl
 | cons x xs ih => rw [stable, ins_len, ih, List.length_cons]
theorem stable_mem {xs : List (Int × β)} {z : Int × β} : z ∈ stable xs ↔ z ∈ xs := by
 induction xs with
 | nil => exact Iff.rfl
 | cons x xs ih => rw [stable, ins_mem, ih, List.mem_cons]
end
end Go.Proofs.YtepgkimlmoikmaaGreat
