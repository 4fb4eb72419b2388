/- ShU: a part of its proof (contracts of the functions that it reaches, and the plain mathematics behind them). -/
import Derived.Test.YtepgkimlmoikmaaGreatShU26
set_option linter.unusedVariables false
set_option linter.unusedSimpArgs false
set_option maxHeartbeats 2000000
set_option maxRecDepth 100000
set_option linter.unusedVariables false
namespace Go.Proofs.YtepgkimlmoikmaaGreat
namespace Pk
abbrev PC := Int × List Nat
def packL : List PC → List PC
 | x :: y :: r => (x.1 + y.1, x.2 ++ y.2) :: packL r
 | _ => []
def mrg : List PC → List PC → List PC
 | [], B => B
 | A, [] => A
 | a :: A, b :: B => if a.1 ≤ b.1 then a :: mrg A (b :: B) else b :: mrg (a :: A) B
termination_by A B => A.length + B.length
theorem mrg_nil (B : List PC) : mrg [] B = B := by rw [mrg]
theorem mrg_nil2 (A : List PC) : mrg A [] = A := by cases A <;> rw [mrg]; intro h; cases h
theorem mrg_le {a b : PC} (A B : List PC) (h : a.1 ≤ b.1) : mrg (a :: A) (b :: B) = a :: mrg A (b :: B) := by rw [mrg, if_pos h]
theorem mrg_gt {a b : PC} (A B : List PC) (h : ¬ a.1 ≤ b.1) : mrg (a :: A) (b :: B) = b :: mrg (a :: A) B := by rw [mrg, if_neg h]
theorem mrg_ind {Q : List PC → List PC → Prop} (h1 : ∀ B, Q [] B) (h2 : ∀ A, Q A []) (h3 : ∀ a A b B, a.1 ≤ b.1 → Q A (b :: B) → Q (a :: A) (b :: B)) (h4 : ∀ a A b B, ¬ a.1 ≤ b.1 → Q (a :: A) B → Q (a :: A) (b :: B)) : ∀ A B, Q A B
 | [], B => h1 B
 | a :: A, [] => h2 _
 | a :: A, b :: B => if h : a.1 ≤ b.1 then h3 a A b B h (mrg_ind h1 h2 h3 h4 A (b :: B)) else h4 a A b B h (mrg_ind h1 h2 h3 h4 (a :: A) B)
termination_by A B => A.length + B.length
theorem mrg_len : ∀ A B : List PC, (mrg A B).length = A.length + B.length := by
 refine mrg_ind ?_ ?_ ?_ ?_
 ·intro B; rw [mrg_nil]; simp
 ·intro A; rw [mrg_nil2]; simp
 ·intro a A b B h ih; rw [mrg_le A B h, List.length_cons, ih]; simp; omega
 ·intro a A b B h ih; rw [mrg_gt A B h, List.length_cons, ih]; simp; omega
theorem mrg_mem (z : PC) : ∀ A B : List PC, z ∈ mrg A B ↔ z ∈ A ∨ z ∈ B := by
 refine mrg_ind ?_ ?_ ?_ ?_
 ·intro B; rw [mrg_nil]; simp
 ·intro A; rw [mrg_nil2]; simp
 ·intro a A b B h ih; rw [mrg_le A B h, List.mem_cons, ih, List.mem_cons (l := A)]; exact or_assoc.symm
 ·intro a A b B h ih
  rw [mrg_gt A B h, List.mem_cons, ih, List.mem_cons (l := B)]
  constructor
  ·rintro (h | h | h)
   ·exact .inr (.inl h)
   ·exact .inl h
   ·exact .inr (.inr h)
  ·rintro (h | h | h)
   ·exact .inr (.inl h)
   ·exact .inl h
   ·exact .inr (.inr h)
theorem mrg_srt : ∀ A B : List PC, Srt A → Srt B → Srt (mrg A B) := by
 refine mrg_ind ?_ ?_ ?_ ?_
 ·intro B _ h; rw [mrg_nil]; exact h
 ·intro A h _; rw [mrg_nil2]; exact h
 ·intro a A b B h ih hA hB
  rw [mrg_le A B h]
  obtain ⟨a1, a2⟩ := srt_cons.1 hA
  obtain ⟨b1, b2⟩ := srt_cons.1 hB
  refine srt_cons.2 ⟨fun z hz => ?_, ih a2 hB⟩
  rcases (mrg_mem z _ _).1 hz with hz | hz
  ·exact a1 z hz
  ·rcases List.mem_cons.1 hz with rfl | hz
   ·exact h
   ·exact Int.le_trans h (b1 z hz)
 ·intro a A b B h ih hA hB
  rw [mrg_gt A B h]
  obtain ⟨a1, a2⟩ := srt_cons.1 hA
  obtain ⟨b1, b2⟩ := srt_cons.1 hB
  refine srt_cons.2 ⟨fun z hz => ?_, ih hA b2⟩
  rcases (mrg_mem z _ _).1 hz with hz | hz
  ·rcases List.mem_cons.1 hz with rfl | hz
   ·omega
   ·have := a1 z hz; omega
  ·exact b1 z hz
theorem mrg_ste : ∀ A B : List PC, Srt A → Srt B → Ste (A ++ B) (mrg A B) := by
 refine mrg_ind ?_ ?_ ?_ ?_
 ·intro B _ _; rw [mrg_nil]; exact Ste.refl _
 ·intro A _ _; rw [mrg_nil2, List.append_nil]; exact Ste.refl _
 ·intro a A b B h ih hA hB
  rw [mrg_le A B h]
  exact Ste.app (Ste.refl [a]) (ih (srt_cons.1 hA).2 hB)
 ·intro a A b B h ih hA hB
  rw [mrg_gt A B h]
  have h1 : Ste ((a :: A) ++ [b]) ([b] ++ (a :: A)) := Ste.swap (fun x hx y hy => by
   rw [List.mem_singleton.1 hy]
   rcases List.mem_cons.1 hx with rfl | hx
   ·omega
   ·have := (srt_cons.1 hA).1 x hx; omega)
  have h2 := (Ste.app h1 (Ste.refl B)).trans (by
   have := Ste.app (Ste.refl [b]) (ih hA (srt_cons.1 hB).2)
   rwa [← List.append_assoc] at this)
  simpa using h2
theorem stable_mrg {A B : List PC} (hA : Srt A) (hB : Srt B) : stable (A ++ B) = mrg A B := (stable_of (mrg_srt A B hA hB) (mrg_ste A B hA hB)).symm
theorem mrg_take : ∀ (A B : List PC) (m : Nat), m ≤ A.length + B.length → ∃ c p, c + p = m ∧ c ≤ A.length ∧ p ≤ B.length ∧ (mrg A B).take m = mrg (A.take c) (B.take p) ∧ (Srt A → Srt B → ∀ a ∈ A.drop c, ∀ b ∈ B.take p, b.1 < a.1) := by
 refine mrg_ind ?_ ?_ ?_ ?_
 ·intro B m hm
  exact ⟨0, m, by omega, by simp, by simpa using hm, by rw [mrg_nil, List.take_nil, mrg_nil], fun _ _ a ha => by simp at ha⟩
 ·intro A m hm
  exact ⟨m, 0, by omega, by simpa using hm, by simp, by rw [mrg_nil2, List.take_zero, mrg_nil2], fun _ _ a _ b hb => by simp at hb⟩
 ·intro a A b B h ih m hm
  cases m with
  | zero => exact ⟨0, 0, rfl, by simp, by simp, by simp [mrg_nil], fun _ _ a _ b hb => by simp at hb⟩
  | succ m =>
   obtain ⟨c, p, h1, h2, h3, h4, h5⟩ := ih m (by simp only [List.length_cons] at hm ⊢; omega)
   refine ⟨c + 1, p, by omega, by simp only [List.length_cons]; omega, h3, ?_, ?_⟩
   ·rw [mrg_le A B h, List.take_succ_cons, h4, List.take_succ_cons]
    cases p with
    | zero => rw [List.take_zero, mrg_nil2, mrg_nil2]
    | succ p => rw [List.take_succ_cons, mrg_le _ _ h]
   ·intro hA hB x hx y hy
    rw [List.drop_succ_cons] at hx
    exact h5 (srt_cons.1 hA).2 hB x hx y hy
 ·intro a A b B h ih m hm
  cases m with
  | zero => exact ⟨0, 0, rfl, by simp, by simp, by simp [mrg_nil], fun _ _ a _ b hb => by simp at hb⟩
  | succ m =>
   obtain ⟨c, p, h1, h2, h3, h4, h5⟩ := ih m (by simp only [List.length_cons] at hm ⊢; omega)
   refine ⟨c, p + 1, by omega, h2, by simp only [List.length_cons]; omega, ?_, ?_⟩
   ·rw [mrg_gt A B h, List.take_succ_cons, h4, List.take_succ_cons]
    cases c with
    | zero => rw [List.take_zero, mrg_nil, mrg_nil]
    | succ c => rw [List.take_succ_cons, mrg_gt _ _ h]
   ·intro hA hB x hx y hy
    rw [List.take_succ_cons] at hy
    rcases List.mem_cons.1 hy with rfl | hy
    ·have hx2 := List.mem_of_mem_drop hx
     rcases List.mem_cons.1 hx2 with rfl | hx2
     ·omega
     ·have := (srt_cons.1 hA).1 x hx2; omega
    ·exact h5 hA (srt_cons.1 hB).2 x hx y hy
theorem pack_len : ∀ xs : List PC, (packL xs).length = xs.length / 2
 | [] => rfl
 | [x] => by simp [packL]
 | x :: y :: r => by rw [packL, List.length_cons, pack_len r, List.length_cons, List.length_cons]; omega
theorem pack_take : ∀ (xs : List PC) (p : Nat), 2 * p ≤ xs.length → (packL xs).take p = packL (xs.take (2 * p))
 | xs, 0, _ => by simp [packL]
 | [], p + 1, h => by simp at h
 | [x], p + 1, h => by simp at h; omega
 | x :: y :: r, p + 1, h => by
  rw [show 2 * (p + 1) = 2 * p + 1 + 1 by omega, List.take_succ_cons, List.take_succ_cons, packL, packL, List.take_succ_cons, pack_take r p (by simp at h; omega)]
theorem pack_pos : ∀ xs : List PC, (∀ z ∈ xs, 0 < z.1) → ∀ z ∈ packL xs, 0 < z.1
 | [], _ => by simp [packL]
 | [x], _ => by simp [packL]
 | x :: y :: r, h => by
  intro z hz
  rw [packL] at hz
  rcases List.mem_cons.1 hz with rfl | hz
  ·have h1 := h x (by simp)
   have h2 := h y (by simp)
   show 0 < x.1 + y.1
   omega
  ·exact pack_pos r (fun z hz => h z (by simp [hz])) z hz
theorem pack_srt : ∀ xs : List PC, Srt xs → Srt (packL xs)
 | [], _ => by rw [packL]; exact Srt.nil; all_goals (intros; simp_all)
 | [x], _ => by rw [packL]; exact Srt.nil; all_goals (intros; simp_all)
 | x :: y :: r, h => by
  rw [packL]
  obtain ⟨h1, h2⟩ := srt_cons.1 h
  obtain ⟨h3, h4⟩ := srt_cons.1 h2
  refine srt_cons.2 ⟨fun z hz => ?_, pack_srt r h4⟩
  have key : ∀ (r : List PC), (∀ z ∈ r, y.1 ≤ z.1) → ∀ z ∈ packL r, 2 * y.1 ≤ z.1 := by
   intro r
   induction r using packL.induct with
   | case1 u v s ih =>
    intro hr z hz
    rw [packL] at hz
    rcases List.mem_cons.1 hz with rfl | hz
    ·have h1 := hr u (by simp)
     have h3 := hr v (by simp)
     show 2 * y.1 ≤ u.1 + v.1
     omega
    ·exact ih (fun z hz => hr z (by simp [hz])) z hz
   | case2 s hs =>
    intro _ z hz
    rw [packL] at hz
    ·simp at hz
    ·exact hs
  have h5 := key r h3 z hz
  have h6 := h1 y (by simp)
  show x.1 + y.1 ≤ z.1
  omega
theorem pack_over : ∀ (xs : List PC), (∀ z ∈ xs, 0 < z.1) → ∀ p, 2 * p = xs.length → ∀ a ∈ xs, ∃ b ∈ packL xs, a.1 < b.1
 | [], _, _, _ => by simp
 | [x], _, p, h => by simp at h; omega
 | x :: y :: r, h, p, hp => by
  intro a ha
  rw [packL]
  have h1 := h x (by simp)
  have h2 := h y (by simp)
  rcases List.mem_cons.1 ha with rfl | ha
  ·exact ⟨_, List.mem_cons_self .., by show a.1 < a.1 + y.1; omega⟩
  ·rcases List.mem_cons.1 ha with rfl | ha
   ·exact ⟨_, List.mem_cons_self .., by show a.1 < x.1 + a.1; omega⟩
   ·obtain ⟨b, hb, hab⟩ := pack_over r (fun z hz => h z (by simp [hz])) (p - 1) (by simp at hp; omega) a ha
    exact ⟨b, List.mem_cons_of_mem _ hb, hab⟩
def cntS (s : Nat) (xs : List PC) : Nat := (xs.flatMap (·.2)).count s
theorem cntS_nil (s : Nat) : cntS s [] = 0 := rfl
theorem cntS_cons (s : Nat) (x : PC) (r : List PC) : cntS s (x :: r) = x.2.count s + cntS s r := by
 unfold cntS; rw [List.flatMap_cons, List.count_append]
theorem cntS_mrg (s : Nat) : ∀ A B : List PC, cntS s (mrg A B) = cntS s A + cntS s B := by
 refine mrg_ind ?_ ?_ ?_ ?_
 ·intro B; rw [mrg_nil, cntS_nil]; omega
 ·intro A; rw [mrg_nil2, cntS_nil]; omega
 ·intro a A b B h ih; rw [mrg_le A B h, cntS_cons, ih, cntS_cons s a A]; omega
 ·intro a A b B h ih; rw [mrg_gt A B h, cntS_cons, ih, cntS_cons s b B]; omega
theorem cntS_pack (s : Nat) : ∀ (xs : List PC) (p : Nat), 2 * p = xs.length → cntS s (packL xs) = cntS s xs
 | [], _, _ => rfl
 | [x], p, h => by simp at h; omega
 | x :: y :: r, p, h => by
  rw [packL, cntS_cons, cntS_cons, cntS_cons, cntS_pack s r (p - 1) (by simp at h; omega)]
  show (x.2 ++ y.2).count s + _ = _
  rw [List.count_append]
  omega
def lvl (first : List PC) : Nat → List PC
 | 0 => first
 | k + 1 => stable (first ++ packL (lvl first k))
section
variable {first : List PC}
theorem lvl_srt (h : Srt first) : ∀ k, Srt (lvl first k)
 | 0 => h
 | k + 1 => stable_srt _
theorem lvl_mrg (h : Srt first) (k : Nat) : lvl first (k + 1) = mrg first (packL (lvl first k)) := stable_mrg h (pack_srt _ (lvl_srt h k))
theorem lvl_pos (h : Srt first) (hp : ∀ z ∈ first, 0 < z.1) : ∀ k, ∀ z ∈ lvl first k, 0 < z.1
 | 0 => hp
 | k + 1 => by
  intro z hz
  rw [lvl_mrg h] at hz
  rcases (mrg_mem z _ _).1 hz with hz | hz
  ·exact hp z hz
  ·exact pack_pos _ (lvl_pos h hp k) z hz
theorem lvl_len (h : Srt first) (h1 : 1 ≤ first.length) : ∀ k, (lvl first k).length + (first.length - 1) / 2 ^ k = 2 * first.length - 1
 | 0 => by rw [lvl, Nat.pow_zero, Nat.div_one]; omega
 | k + 1 => by
  have ih := lvl_len h h1 k
  rw [lvl_mrg h, mrg_len, pack_len, Nat.pow_succ, ← Nat.div_div_eq_div_mul]
  generalize (first.length - 1) / 2 ^ k = d at *
  omega
def Fall (n : Nat) : List Nat → Prop
 | [] => True
 | c :: r => c ≤ n ∧ (∀ x ∈ r, x ≤ c) ∧ Fall n r
def wgt : List Nat → Nat
 | [] => 0
 | c :: r => 2 ^ r.length * c + wgt r
theorem lvl_sel (h : Srt first) (hp : ∀ z ∈ first, 0 < z.1) : ∀ (k m : Nat), m ≤ (lvl first k).length →
  ∃ (c : Nat) (cs : List Nat), cs.length = k ∧ Fall first.length (c :: cs) ∧ (∀ s, cntS s ((lvl first k).take m) = ((c :: cs).map fun c => cntS s (first.take c)).sum) ∧ 2 ^ k * m = wgt (c :: cs) ∧ (∀ a ∈ first.take c, a ∈ (lvl first k).take m)
 | 0, m, hm => ⟨m, [], rfl, ⟨hm, by simp, trivial⟩, fun s => by simp [lvl], by simp [wgt], fun a ha => ha⟩
 | k + 1, m, hm => by
  rw [lvl_mrg h] at hm ⊢
  rw [mrg_len] at hm
  obtain ⟨c, p, h1, h2, h3, h4, h5⟩ := mrg_take first (packL (lvl first k)) m hm
  have h5 := h5 h (pack_srt _ (lvl_srt h k))
  rw [pack_len] at h3
  rw [h4]
  have hp2 : 2 * p ≤ (lvl first k).length := by omega
  rw [pack_take _ p hp2] at *
  have hl2 : ((lvl first k).take (2 * p)).length = 2 * p := by rw [List.length_take]; omega
  obtain ⟨c', cs, i1, i2, i3, i4, i5⟩ := lvl_sel h hp k (2 * p) hp2
  have hcc : c' ≤ c := by
   rcases Nat.lt_or_ge c c' with g | g
   ·exfalso
    have hc'n : c' ≤ first.length := i2.1
    have hcn : c < first.length := by omega
    have g1 : first[c] ∈ first.take c' := List.mem_take_iff_getElem.2 ⟨c, by omega, rfl⟩
    have g2 := i5 _ g1
    obtain ⟨b, hb, hab⟩ := pack_over ((lvl first k).take (2 * p)) (fun z hz => lvl_pos h hp k z (List.mem_of_mem_take hz)) p hl2.symm _ g2
    have g3 : first[c] ∈ first.drop c := by
     rw [List.drop_eq_getElem_cons hcn]
     exact List.mem_cons_self ..
    have := h5 _ g3 b hb
    omega
   ·exact g
  refine ⟨c, c' :: cs, by rw [List.length_cons, i1], ⟨h2, fun x hx => ?_, i2⟩, fun s => ?_, ?_, fun a ha => (mrg_mem a _ _).2 (.inl ha)⟩
  ·rcases List.mem_cons.1 hx with rfl | hx
   ·exact hcc
   ·exact Nat.le_trans (i2.2.1 x hx) hcc
  ·rw [cntS_mrg, cntS_pack s _ p hl2.symm, i3 s, List.map_cons (l := c' :: cs), List.sum_cons]
  ·rw [wgt, ← i4, List.length_cons, i1, ← h1, Nat.mul_add, Nat.pow_succ, ← Nat.mul_assoc]
end
def abv (i : Nat) (cs : List Nat) : Nat := cs.countP (fun c => decide (i < c))
def wat (i : Nat) : List Nat → Nat
 | [] => 0
 | c :: r => (if i < c then 2 ^ r.length else 0) + wat i r
theorem wat_none {i : Nat} : ∀ cs : List Nat, (∀ x ∈ cs, x ≤ i) → wat i cs = 0
 | [], _ => rfl
 | c :: r, h => by
  have h1 := h c (by simp)
  rw [wat, if_neg (by omega), wat_none r (fun x hx => h x (by simp [hx]))]
theorem abv_none {i : Nat} : ∀ cs : List Nat, (∀ x ∈ cs, x ≤ i) → abv i cs = 0 := by
 intro cs h
 unfold abv
 rw [List.countP_eq_zero]
 intro a ha
 have := h a ha
 simp
 omega
theorem abv_le (i : Nat) (cs : List Nat) : abv i cs ≤ cs.length := List.countP_le_length
theorem abv_wat {n : Nat} (i : Nat) : ∀ cs : List Nat, Fall n cs → 2 ^ (cs.length - abv i cs) + wat i cs = 2 ^ cs.length
 | [], _ => rfl
 | c :: r, h => by
  have ih := abv_wat i r h.2.2
  have hle := abv_le i r
  by_cases g : i < c
  ·have e : abv i (c :: r) = abv i r + 1 := by unfold abv; rw [List.countP_cons_of_pos (by simpa using g)]
   rw [e, wat, if_pos g, List.length_cons, Nat.add_sub_add_right, Nat.pow_succ]
   omega
  ·have hx : ∀ x ∈ c :: r, x ≤ i := by
    intro x hx
    rcases List.mem_cons.1 hx with rfl | hx
    ·omega
    ·have := h.2.1 x hx; omega
   rw [abv_none _ hx, wat_none _ hx, Nat.sub_zero, Nat.add_zero]
def sumTo (f : Nat → Nat) : Nat → Nat
 | 0 => 0
 | n + 1 => sumTo f n + f n
theorem sumTo_add (f g : Nat → Nat) : ∀ n, sumTo (fun i => f i + g i) n = sumTo f n + sumTo g n
 | 0 => rfl
 | n + 1 => by rw [sumTo, sumTo, sumTo, sumTo_add f g n]; omega
theorem sumTo_const (c : Nat) : ∀ n, sumTo (fun _ => c) n = n * c
 | 0 => by simp [sumTo]
 | n + 1 => by rw [sumTo, sumTo_const c n, Nat.add_mul, Nat.one_mul]
theorem sumTo_congr {f g : Nat → Nat} : ∀ n, (∀ i, i < n → f i = g i) → sumTo f n = sumTo g n
 | 0, _ => rfl
 | n + 1, h => by rw [sumTo, sumTo, sumTo_congr n (fun i hi => h i (by omega)), h n (by omega)]
theorem sumTo_step (c w : Nat) : ∀ n, sumTo (fun i => if i < c then w else 0) n = min n c * w
 | 0 => by simp [sumTo]
 | n + 1 => by
  rw [sumTo, sumTo_step c w n]
  by_cases h : n < c
  ·rw [if_pos h, Nat.min_eq_left (by omega), Nat.min_eq_left (by omega), Nat.add_mul, Nat.one_mul]
  ·rw [if_neg h, Nat.min_eq_right (by omega), Nat.min_eq_right (by omega), Nat.add_zero]
theorem sum_wat {n : Nat} : ∀ cs : List Nat, Fall n cs → sumTo (fun i => wat i cs) n = wgt cs
 | [], _ => by simp [wat, wgt, sumTo_const]
 | c :: r, h => by
  show sumTo (fun i => (if i < c then 2 ^ r.length else 0) + wat i r) n = _
  rw [sumTo_add, sumTo_step, sum_wat r h.2.2, wgt, Nat.min_eq_right h.1, Nat.mul_comm]
theorem sum_kraft {n : Nat} (cs : List Nat) (h : Fall n cs) : sumTo (fun i => 2 ^ (cs.length - abv i cs)) n + wgt cs = n * 2 ^ cs.length := by
 rw [← sum_wat cs h, ← sumTo_add, ← sumTo_const]
 exact sumTo_congr n (fun i _ => abv_wat i cs h)
theorem kraft_full {n : Nat} (cs : List Nat) (h : Fall n cs) (hw : wgt cs + 2 ^ cs.length = n * 2 ^ cs.length) : sumTo (fun i => 2 ^ (cs.length - abv i cs)) n = 2 ^ cs.length := by
 have := sum_kraft cs h
 omega
theorem sumTo_ge (f : Nat → Nat) : ∀ (n i : Nat), i < n → f i ≤ sumTo f n
 | 0, i, h => by omega
 | n + 1, i, h => by
  rw [sumTo]
  rcases Nat.lt_or_ge i n with g | g
  ·have := sumTo_ge f n i g; omega
  ·rw [show i = n by omega]; omega
theorem sumTo_ge2 (f : Nat → Nat) : ∀ (n i j : Nat), i < j → j < n → f i + f j ≤ sumTo f n
 | 0, i, j, _, h => by omega
 | n + 1, i, j, hij, h => by
  rw [sumTo]
  rcases Nat.lt_or_ge j n with g | g
  ·have := sumTo_ge2 f n i j hij g; omega
  ·have := sumTo_ge f n i (by omega)
   rw [show j = n by omega]; omega
theorem abv_pos {n : Nat} (cs : List Nat) (h : Fall n cs) (hn : 2 ≤ n) (hw : wgt cs + 2 ^ cs.length = n * 2 ^ cs.length) {i : Nat} (hi : i < n) : 1 ≤ abv i cs := by
 rcases Nat.eq_zero_or_pos (abv i cs) with g | g
 ·exfalso
  have hk := kraft_full cs h hw
  obtain ⟨j, hj, hji⟩ : ∃ j, j < n ∧ j ≠ i := if g0 : i = 0 then ⟨1, by omega, by omega⟩ else ⟨0, by omega, by omega⟩
  have e : 2 ^ (cs.length - abv i cs) = 2 ^ cs.length := by rw [g, Nat.sub_zero]
  have p : 0 < 2 ^ (cs.length - abv j cs) := Nat.two_pow_pos _
  rcases Nat.lt_or_ge i j with q | q
  ·have := sumTo_ge2 (fun i => 2 ^ (cs.length - abv i cs)) n i j q hj
   omega
  ·have := sumTo_ge2 (fun i => 2 ^ (cs.length - abv i cs)) n j i (by omega) hi
   omega
 ·exact g
def sgl : Nat → List Int → List PC
 | _, [] => []
 | i, c :: r => if 0 < c then (c, [i]) :: sgl (i + 1) r else sgl (i + 1) r
theorem sgl_mem : ∀ (l : List Int) (i : Nat) (z : PC), z ∈ sgl i l → ∃ k, l[k]? = some z.1 ∧ z.2 = [i + k] ∧ 0 < z.1
 | [], i, z, h => by simp [sgl] at h
 | c :: r, i, z, h => by
  rw [sgl] at h
  have back : z ∈ sgl (i + 1) r → ∃ k, (c :: r)[k]? = some z.1 ∧ z.2 = [i + k] ∧ 0 < z.1 := fun h => by
   obtain ⟨k, h1, h2, h3⟩ := sgl_mem r (i + 1) z h
   exact ⟨k + 1, by simpa using h1, by rw [h2]; congr 1; omega, h3⟩
  by_cases g : 0 < c
  ·rw [if_pos g] at h
   rcases List.mem_cons.1 h with rfl | h
   ·exact ⟨0, rfl, rfl, g⟩
   ·exact back h
  ·rw [if_neg g] at h
   exact back h
theorem sgl_syms : ∀ (l : List Int) (i : Nat) (s : Nat), s ∈ (sgl i l).flatMap (·.2) ↔ ∃ k c, l[k]? = some c ∧ 0 < c ∧ s = i + k
 | [], i, s => by simp [sgl]
 | c :: r, i, s => by
  have ih := sgl_syms r (i + 1) s
  have step : (∃ k d, r[k]? = some d ∧ 0 < d ∧ s = i + 1 + k) ↔ ∃ k d, (c :: r)[k + 1]? = some d ∧ 0 < d ∧ s = i + (k + 1) := by
   constructor
   ·rintro ⟨k, d, h1, h2, h3⟩; exact ⟨k, d, by simpa using h1, h2, by omega⟩
   ·rintro ⟨k, d, h1, h2, h3⟩; exact ⟨k, d, by simpa using h1, h2, by omega⟩
  rw [step] at ih
  rw [sgl]
  by_cases g : 0 < c
  ·rw [if_pos g, List.flatMap_cons, List.mem_append, ih]
   constructor
   ·rintro (h | ⟨k, d, h1, h2, h3⟩)
    ·exact ⟨0, c, rfl, g, by simpa using h⟩
    ·exact ⟨k + 1, d, h1, h2, h3⟩
   ·rintro ⟨k, d, h1, h2, h3⟩
    cases k with
    | zero => exact .inl (by simpa using h3)
    | succ k => exact .inr ⟨k, d, h1, h2, h3⟩
  ·rw [if_neg g, ih]
   constructor
   ·rintro ⟨k, d, h1, h2, h3⟩; exact ⟨k + 1, d, h1, h2, h3⟩
   ·rintro ⟨k, d, h1, h2, h3⟩
    cases k with
    | zero => simp only [List.getElem?_cons_zero, Option.some.injEq] at h1; omega
    | succ k => exact ⟨k, d, h1, h2, h3⟩
theorem sgl_nodup : ∀ (l : List Int) (i : Nat), ((sgl i l).flatMap (·.2)).Nodup
 | [], i => by simp [sgl]
 | c :: r, i => by
  rw [sgl]
  by_cases g : 0 < c
  ·rw [if_pos g, List.flatMap_cons]
   show (i :: (sgl (i + 1) r).flatMap (·.2)).Nodup
   refine List.nodup_cons.2 ⟨fun h => ?_, sgl_nodup r (i + 1)⟩
   obtain ⟨k, d, h1, h2, h3⟩ := (sgl_syms r (i + 1) i).1 h
   omega
  ·rw [if_neg g]; exact sgl_nodup r (i + 1)
theorem ins_perm {β : Type} (x : Int × β) : ∀ ys : List (Int × β), (ins x ys).Perm (x :: ys)
 | [] => by rw [ins]
 | y :: ys => by
  rw [ins]
  split
  ·exact List.Perm.refl _
  ·exact (List.Perm.cons y (ins_perm x ys)).trans (List.Perm.swap x y ys)
theorem stable_perm {β : Type} : ∀ xs : List (Int × β), (stable xs).Perm xs
 | [] => List.Perm.refl _
 | x :: xs => (ins_perm x _).trans (List.Perm.cons x (stable_perm xs))
def firstL (counts : List Int) : List PC := stable (sgl 0 counts)
theorem firstL_srt (counts : List Int) : Srt (firstL counts) := stable_srt _
theorem firstL_mem {counts : List Int} {z : PC} (h : z ∈ firstL counts) : ∃ k, counts[k]? = some z.1 ∧ z.2 = [k] ∧ 0 < z.1 := by
 obtain ⟨k, h1, h2, h3⟩ := sgl_mem counts 0 z (stable_mem.1 h)
 exact ⟨k, h1, by rw [h2, Nat.zero_add], h3⟩
def symsL (counts : List Int) : List Nat := (firstL counts).flatMap (·.2)
theorem symsL_perm (counts : List Int) : (symsL counts).Perm ((sgl 0 counts).flatMap (·.2)) := List.Perm.flatMap_right _ (stable_perm _)
theorem symsL_nodup (counts : List Int) : (symsL counts).Nodup := (symsL_perm counts).nodup_iff.2 (sgl_nodup counts 0)
theorem symsL_mem {counts : List Int} {s : Nat} : s ∈ symsL counts ↔ ∃ c, counts[s]? = some c ∧ 0 < c := by
 rw [(symsL_perm counts).mem_iff, sgl_syms]
 constructor
 ·rintro ⟨k, c, h1, h2, h3⟩; exact ⟨c, by rw [h3, Nat.zero_add]; exact h1, h2⟩
 ·rintro ⟨c, h1, h2⟩; exact ⟨s, c, h1, h2, by omega⟩
theorem flat_take : ∀ (xs : List PC) (c : Nat), (∀ z ∈ xs, z.2.length = 1) → (xs.take c).flatMap (·.2) = (xs.flatMap (·.2)).take c
 | [], c, _ => by simp
 | x :: r, 0, _ => by simp
 | x :: r, c + 1, h => by
  obtain ⟨a, ha⟩ := List.length_eq_one_iff.1 (h x (by simp))
  rw [List.take_succ_cons, List.flatMap_cons, List.flatMap_cons, ha, flat_take r c (fun z hz => h z (by simp [hz]))]
  rfl
theorem flat_len : ∀ (xs : List PC), (∀ z ∈ xs, z.2.length = 1) → (xs.flatMap (·.2)).length = xs.length
 | [], _ => rfl
 | x :: r, h => by rw [List.flatMap_cons, List.length_append, h x (by simp), flat_len r (fun z hz => h z (by simp [hz])), List.length_cons]; omega
theorem firstL_one {counts : List Int} : ∀ z ∈ firstL counts, z.2.length = 1 := fun z hz => by
 obtain ⟨k, _, h, _⟩ := firstL_mem hz
 rw [h]; rfl
theorem symsL_len (counts : List Int) : (symsL counts).length = (firstL counts).length := flat_len _ firstL_one
theorem nodup_take {xs : List Nat} (h : xs.Nodup) {i : Nat} (hi : i < xs.length) (c : Nat) : (xs.take c).count xs[i] = if i < c then 1 else 0 := by
 by_cases g : i < c
 ·rw [if_pos g]
  have h1 : (xs.take c).Nodup := h.sublist (List.take_sublist _ _)
  rw [List.Nodup.count h1, if_pos (List.mem_take_iff_getElem.2 ⟨i, by omega, rfl⟩)]
 ·rw [if_neg g, List.count_eq_zero]
  intro hm
  obtain ⟨j, hj, e⟩ := List.mem_take_iff_getElem.1 hm
  have := (List.getElem_inj h).1 e
  omega
def takeN (counts : List Int) : Nat := if (firstL counts).length = 1 then 1 else 2 * (firstL counts).length - 2
def lenOf (most : Nat) (counts : List Int) (s : Nat) : Nat := cntS s ((lvl (firstL counts) (most - 1)).take (takeN counts))
def lensL (most : Nat) (counts : List Int) : List Int := (List.range counts.length).map fun s => ((lenOf most counts s : Nat) : Int)
theorem lensL_len (most : Nat) (counts : List Int) : (lensL most counts).length = counts.length := by simp [lensL]
theorem lensL_get (most : Nat) (counts : List Int) {s : Nat} (h : s < counts.length) : (lensL most counts)[s]? = some ((lenOf most counts s : Nat) : Int) := by
 unfold lensL
 rw [List.getElem?_map, List.getElem?_range h]
 rfl
theorem sum_zero : ∀ xs : List Nat, (∀ x ∈ xs, x = 0) → xs.sum = 0
 | [], _ => rfl
 | x :: r, h => by rw [List.sum_cons, h x (by simp), sum_zero r (fun x hx => h x (by simp [hx]))]
theorem sum_abv (i : Nat) : ∀ cs : List Nat, (cs.map fun c => if i < c then 1 else 0).sum = abv i cs
 | [] => rfl
 | c :: r => by
  rw [List.map_cons, List.sum_cons, sum_abv i r]
  unfold abv
  rw [List.countP_cons]
  by_cases g : i < c
  ·simp [g]; omega
  ·simp [g]
theorem len_abv (most : Nat) (counts : List Int) (h1 : 1 ≤ most) (h2 : 2 ≤ (firstL counts).length) (hm : (firstL counts).length ≤ 2 ^ most) :
  ∃ cs : List Nat, cs.length = most ∧ Fall (firstL counts).length cs ∧ wgt cs + 2 ^ most = (firstL counts).length * 2 ^ most ∧
   (∀ (i : Nat) (hi : i < (symsL counts).length), lenOf most counts (symsL counts)[i] = abv i cs) ∧ (∀ s, s ∉ symsL counts → lenOf most counts s = 0) := by
 obtain ⟨k, rfl⟩ : ∃ k, most = k + 1 := ⟨most - 1, by omega⟩
 have hN : takeN counts = 2 * (firstL counts).length - 2 := by unfold takeN; rw [if_neg (by omega)]
 have hl := lvl_len (firstL_srt counts) (by omega) k
 have hd : ((firstL counts).length - 1) / 2 ^ k ≤ 1 := by
  have : ((firstL counts).length - 1) / 2 ^ k < 2 := by
   rw [Nat.div_lt_iff_lt_mul (Nat.two_pow_pos k)]
   rw [Nat.pow_succ] at hm
   omega
  omega
 obtain ⟨c, cs, g1, g2, g3, g4, _⟩ := lvl_sel (firstL_srt counts) (fun z hz => by obtain ⟨_, _, _, h⟩ := firstL_mem hz; exact h) k (2 * (firstL counts).length - 2) (by omega)
 refine ⟨c :: cs, by rw [List.length_cons, g1], g2, ?_, fun i hi => ?_, fun s hs => ?_⟩
 ·rw [← g4, Nat.pow_succ]
  generalize 2 ^ k = q at *
  generalize (firstL counts).length = n at *
  obtain ⟨r, rfl⟩ : ∃ r, n = r + 1 := ⟨n - 1, by omega⟩
  rw [show 2 * (r + 1) - 2 = 2 * r by omega, Nat.add_mul, Nat.one_mul, ← Nat.mul_assoc, Nat.mul_comm q 2, Nat.mul_assoc, Nat.mul_comm q r, ← Nat.mul_assoc, Nat.mul_comm 2 r, Nat.mul_assoc, Nat.mul_comm 2 q]
 ·unfold lenOf
  rw [hN, Nat.add_sub_cancel, g3, ← sum_abv]
  congr 1
  refine List.map_congr_left fun c _ => ?_
  unfold cntS
  rw [flat_take _ _ firstL_one]
  exact nodup_take (symsL_nodup counts) hi c
 ·unfold lenOf
  rw [hN, Nat.add_sub_cancel, g3, sum_zero]
  intro x hx
  obtain ⟨c, _, rfl⟩ := List.mem_map.1 hx
  unfold cntS
  rw [flat_take _ _ firstL_one, List.count_eq_zero]
  exact fun h => hs (List.mem_of_mem_take h)
theorem sumTo_zero {f : Nat → Nat} : ∀ N, (∀ i, i < N → f i = 0) → sumTo f N = 0
 | 0, _ => rfl
 | N + 1, h => by rw [sumTo, sumTo_zero N (fun i hi => h i (by omega)), h N (by omega)]
theorem sumTo_out (f : Nat → Nat) (s : Nat) : ∀ N, s < N → sumTo f N = f s + sumTo (fun i => if i = s then 0 else f i) N
 | 0, h => by omega
 | N + 1, h => by
  rw [sumTo, sumTo]
  rcases Nat.lt_or_ge s N with g | g
  ·rw [sumTo_out f s N g, if_neg (by omega)]; omega
  ·have e : s = N := by omega
   subst e
   rw [if_pos rfl, sumTo_congr (f := fun i => if i = s then 0 else f i) (g := f) s (fun i hi => if_neg (by omega))]
   omega
theorem sumTo_list : ∀ (xs : List Nat) (f : Nat → Nat) (N : Nat), xs.Nodup → (∀ s ∈ xs, s < N) → (∀ s, s < N → s ∉ xs → f s = 0) → sumTo f N = (xs.map f).sum
 | [], f, N, _, _, h => by rw [sumTo_zero N (fun i hi => h i hi (by simp))]; rfl
 | s :: r, f, N, hn, hl, h => by
  obtain ⟨n1, n2⟩ := List.nodup_cons.1 hn
  rw [sumTo_out f s N (hl s (by simp)), sumTo_list r _ N n2 (fun x hx => hl x (by simp [hx])) ?_, List.map_cons, List.sum_cons]
  ·congr 1
   congr 1
   refine List.map_congr_left fun x hx => if_neg ?_
   rintro rfl
   exact n1 hx
  ·intro x hx hxr
   by_cases g : x = s
   ·exact if_pos g
   ·rw [if_neg g]; exact h x hx (by simp [g, hxr])
theorem sumTo_shift (f : Nat → Nat) : ∀ n, sumTo f (n + 1) = f 0 + sumTo (fun i => f (i + 1)) n
 | 0 => by simp [sumTo]
 | n + 1 => by rw [sumTo, sumTo_shift f n, sumTo]; omega
theorem list_sumTo (f : Nat → Nat) : ∀ xs : List Nat, (xs.map f).sum = sumTo (fun i => f (xs.getD i 0)) xs.length
 | [] => rfl
 | x :: r => by
  rw [List.map_cons, List.sum_cons, List.length_cons, sumTo_shift, list_sumTo f r]
  congr 1
def kterm (x : Nat) : Nat := if 1 ≤ x ∧ x ≤ 15 then 2 ^ (15 - x) else 0
theorem lens_full (counts : List Int) (h2 : 2 ≤ (firstL counts).length) (hm : (firstL counts).length ≤ 32768) :
  sumTo (fun s => kterm (lenOf 15 counts s)) counts.length = 32768 ∧ (∀ s ∈ symsL counts, 1 ≤ lenOf 15 counts s ∧ lenOf 15 counts s ≤ 15) ∧ (∀ s, s ∉ symsL counts → lenOf 15 counts s = 0) := by
 obtain ⟨cs, c1, c2, c3, c4, c5⟩ := len_abv 15 counts (by decide) h2 hm
 have hw : wgt cs + 2 ^ cs.length = (firstL counts).length * 2 ^ cs.length := by rw [c1]; exact c3
 have hin : ∀ i (hi : i < (symsL counts).length), 1 ≤ abv i cs ∧ abv i cs ≤ 15 := fun i hi => ⟨abv_pos cs c2 h2 hw (by rw [← symsL_len]; exact hi), by rw [← c1]; exact abv_le i cs⟩
 have hmem : ∀ s ∈ symsL counts, 1 ≤ lenOf 15 counts s ∧ lenOf 15 counts s ≤ 15 := by
  intro s hs
  obtain ⟨i, hi, rfl⟩ := List.getElem_of_mem hs
  rw [c4 i hi]
  exact hin i hi
 refine ⟨?_, hmem, c5⟩
 rw [sumTo_list (symsL counts) _ _ (symsL_nodup counts) ?_ ?_, list_sumTo]
 ·rw [sumTo_congr (g := fun i => 2 ^ (cs.length - abv i cs))]
  ·rw [symsL_len, kraft_full cs c2 hw, c1]
  ·intro i hi
   rw [List.getD_eq_getElem?_getD, List.getElem?_eq_getElem hi, Option.getD_some, c4 i hi, c1]
   exact if_pos (hin i hi)
 ·intro s hs
  obtain ⟨c, hc, _⟩ := symsL_mem.1 hs
  exact (List.getElem?_eq_some_iff.1 hc).1
 ·intro s _ hs
  rw [c5 s hs]
  rfl
end Pk
end Go.Proofs.YtepgkimlmoikmaaGreat
