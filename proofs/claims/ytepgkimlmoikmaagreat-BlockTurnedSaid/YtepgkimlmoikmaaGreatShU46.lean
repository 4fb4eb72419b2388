/- ShU: a part of its proof (contracts of the functions that it reaches, and the plain mathematics behind them). -/
import Derived.Test.YtepgkimlmoikmaaGreatShU17
import Derived.Test.YtepgkimlmoikmaaGreatShU37
import Derived.Deep.RegionHeld3
import Derived.Test.YtepgkimlmoikmaaGreatShU43
import Derived.Test.YtepgkimlmoikmaaGreatShU45
import Derived.Deep.DeepCutAuto
set_option linter.unusedVariables false
set_option linter.unusedSimpArgs false
set_option maxHeartbeats 2000000
set_option maxRecDepth 100000
set_option linter.unusedVariables false
set_option linter.unusedSimpArgs false
namespace Go.Proofs.YtepgkimlmoikmaaGreat.TabMath

def Sixt (x : Int) : Prop := 0 ≤ x ∧ x ≤ 15
instance (x : Int) : Decidable (Sixt x) := by unfold Sixt; infer_instance
def AllSixt (l : List Int) : Prop := ∀ x ∈ l, Sixt x
instance (l : List Int) : Decidable (AllSixt l) := by unfold AllSixt; infer_instance
def enc : Nat → List Int → List Int
 | _, [] => []
 | r, [x] => [16 * x + r]
 | r, x :: y :: t => if r = 15 ∨ y ≠ x then (16 * x + r) :: enc 0 (y :: t) else enc (r + 1) (y :: t)
def dec : Int → List Int → Nat → Int × List Int × Nat
 | _, _, 0 => (0, [], 0)
 | _, [], _ + 1 => (2, [], 0)
 | p, c :: t, n + 1 => if (p / 16 = c / 16 ∧ p % 16 < 15) ∨ ((n + 1 : Nat) : Int) < c % 16 + 1 then (3, [], 0)
   else if (dec c t (n + 1 - (c % 16 + 1).toNat)).1 = 0 then (0, List.replicate (c % 16 + 1).toNat (c / 16) ++ (dec c t (n + 1 - (c % 16 + 1).toNat)).2.1, (dec c t (n + 1 - (c % 16 + 1).toNat)).2.2 + 1)
   else ((dec c t (n + 1 - (c % 16 + 1).toNat)).1, [], 0)
theorem allSixt_cons {x : Int} {t : List Int} : AllSixt (x :: t) ↔ Sixt x ∧ AllSixt t := by simp [AllSixt]
theorem allSixt_nil : AllSixt [] := by simp [AllSixt]
theorem allSixt_append {s t : List Int} : AllSixt (s ++ t) ↔ AllSixt s ∧ AllSixt t := by
 unfold AllSixt
 constructor
 ·intro h
  exact ⟨fun x hx => h x (List.mem_append_left _ hx), fun x hx => h x (List.mem_append_right _ hx)⟩
 ·rintro ⟨h1, h2⟩ x hx
  rcases List.mem_append.1 hx with h | h
  ·exact h1 x h
  ·exact h2 x h
theorem allSixt_replicate (n : Nat) {x : Int} (h : Sixt x) : AllSixt (List.replicate n x) := by
 intro y hy
 rw [List.eq_of_mem_replicate hy]; exact h
theorem dec_zero (p : Int) (b : List Int) : dec p b 0 = (0, [], 0) := by cases b <;> rfl
theorem dec_nil (p : Int) (n : Nat) : dec p [] (n + 1) = (2, [], 0) := rfl
theorem dec_cons (p c : Int) (t : List Int) (n : Nat) : dec p (c :: t) (n + 1) = if (p / 16 = c / 16 ∧ p % 16 < 15) ∨ ((n + 1 : Nat) : Int) < c % 16 + 1 then (3, [], 0)
   else if (dec c t (n + 1 - (c % 16 + 1).toNat)).1 = 0 then (0, List.replicate (c % 16 + 1).toNat (c / 16) ++ (dec c t (n + 1 - (c % 16 + 1).toNat)).2.1, (dec c t (n + 1 - (c % 16 + 1).toNat)).2.2 + 1)
   else ((dec c t (n + 1 - (c % 16 + 1).toNat)).1, [], 0) := rfl
theorem enc_one (r : Nat) (x : Int) : enc r [x] = [16 * x + r] := rfl
theorem enc_cut {r : Nat} {x y : Int} {t : List Int} (h : r = 15 ∨ y ≠ x) : enc r (x :: y :: t) = (16 * x + r) :: enc 0 (y :: t) := by
 rw [enc]; rw [if_pos h]
theorem enc_go {r : Nat} {x : Int} {t : List Int} (h : r ≠ 15) : enc r (x :: x :: t) = enc (r + 1) (x :: t) := by
 rw [enc]; rw [if_neg (by simp [h])]
theorem enc_run (m : Nat) : ∀ (r : Nat) (x : Int), r + m ≤ 15 → enc r (List.replicate (m + 1) x) = [16 * x + ((r + m : Nat) : Int)] := by
 induction m with
 | zero => intro r x _; rfl
 | succ m ih =>
  intro r x h
  rw [List.replicate_succ, List.replicate_succ, enc_go (by omega), ← List.replicate_succ, ih (r + 1) x (by omega)]
  congr 2
  omega
theorem enc_run_cons (m : Nat) : ∀ (r : Nat) (x y : Int) (t : List Int), r + m ≤ 15 → (r + m = 15 ∨ y ≠ x) → enc r (List.replicate (m + 1) x ++ y :: t) = (16 * x + ((r + m : Nat) : Int)) :: enc 0 (y :: t) := by
 induction m with
 | zero => intro r x y t _ h; exact enc_cut h
 | succ m ih =>
  intro r x y t h h2
  rw [List.replicate_succ, List.replicate_succ, List.cons_append, List.cons_append, enc_go (by omega), ← List.cons_append, ← List.replicate_succ, ih (r + 1) x y t (by omega) (by omega)]
  congr 2
  omega
def Byte (x : Int) : Prop := 0 ≤ x ∧ x ≤ 255
theorem dec_once (b : List Int) : ∀ (p : Int) (need : Nat), (∀ c ∈ b, Byte c) → (dec p b need).1 = 0 →
  (dec p b need).2.2 ≤ b.length ∧ (dec p b need).2.1.length = need ∧ AllSixt (dec p b need).2.1 ∧ enc 0 (dec p b need).2.1 = b.take (dec p b need).2.2 ∧
  (need = 0 → (dec p b need).2.2 = 0) ∧ (need ≠ 0 → (dec p b need).2.2 ≠ 0) ∧ (∀ y t, (dec p b need).2.1 = y :: t → ¬ (p / 16 = y ∧ p % 16 < 15)) := by
 induction b with
 | nil =>
  intro p need _ h
  cases need with
  | zero => rw [dec_zero]; exact ⟨Nat.le_refl _, rfl, allSixt_nil, rfl, fun _ => rfl, fun h => absurd rfl h, fun _ _ h => by cases h⟩
  | succ n => rw [dec_nil] at h; exact absurd h (by decide)
 | cons c t ih =>
  intro p need hb h
  cases need with
  | zero => rw [dec_zero]; exact ⟨Nat.zero_le _, rfl, allSixt_nil, rfl, fun _ => rfl, fun h => absurd rfl h, fun _ _ h => by cases h⟩
  | succ n =>
   have hc := hb c (List.mem_cons_self ..)
   have ht : ∀ x ∈ t, Byte x := fun x hx => hb x (List.mem_cons_of_mem _ hx)
   unfold Byte at hc
   rw [dec_cons] at h ⊢
   by_cases h1 : (p / 16 = c / 16 ∧ p % 16 < 15) ∨ ((n + 1 : Nat) : Int) < c % 16 + 1
   ·rw [if_pos h1] at h; exact absurd h (by decide)
   ·rw [if_neg h1] at h ⊢
    generalize hn : n + 1 - (c % 16 + 1).toNat = n' at h ⊢
    by_cases h2 : (dec c t n').1 = 0
    ·rw [if_pos h2]
     obtain ⟨i1, i2, i3, i4, i5, i6, i7⟩ := ih c n' ht h2
     obtain ⟨m, hm⟩ : ∃ m : Nat, (c % 16 + 1).toNat = m + 1 := ⟨(c % 16).toNat, by omega⟩
     have hm15 : m ≤ 15 := by omega
     have hcm : 16 * (c / 16) + ((m : Nat) : Int) = c := by omega
     simp only [hm]
     have hg : Sixt (c / 16) := ⟨by omega, by omega⟩
     refine ⟨by simp only [List.length_cons]; omega, by simp only [List.length_append, List.length_replicate, i2]; omega, allSixt_append.2 ⟨allSixt_replicate _ hg, i3⟩, ?_, by omega, by omega, ?_⟩
     ·rw [List.take_succ_cons, ← i4]
      cases hl : (dec c t n').2.1 with
      | nil => rw [List.append_nil, enc_run m 0 _ (by omega), Nat.zero_add, hcm]; rfl
      | cons y l' =>
       have := i7 y l' hl
       rw [enc_run_cons m 0 _ y l' (by omega) (by omega), Nat.zero_add, hcm]
     ·intro y l' he
      rw [List.replicate_succ, List.cons_append] at he
      injection he with he1 _
      subst he1
      exact fun e => h1 (Or.inl e)
    ·rw [if_neg h2] at h; exact absurd h h2
def runs : Int → List Int → Nat
 | _, [] => 0
 | x, y :: t => (if y = x then 0 else 1) + runs y t
theorem enc_sizes (t : List Int) : ∀ (r : Nat) (x : Int), r ≤ 15 → (enc r (x :: t)).length ≤ t.length + 1 ∧ 1 + runs x t ≤ (enc r (x :: t)).length ∧ r + 1 + t.length ≤ 16 * (enc r (x :: t)).length := by
 induction t with
 | nil => intro r x hr; rw [enc_one]; simp [runs]; omega
 | cons y t ih =>
  intro r x hr
  by_cases h : r = 15 ∨ y ≠ x
  ·rw [enc_cut h]
   obtain ⟨a, b, c⟩ := ih 0 y (by omega)
   simp only [List.length_cons, runs]
   refine ⟨by omega, ?_, by omega⟩
   split <;> omega
  ·obtain ⟨h1, h2⟩ : r ≠ 15 ∧ y = x := by
    refine ⟨fun e => h (Or.inl e), ?_⟩
    by_cases e : y = x
    ·exact e
    ·exact absurd (Or.inr e) h
   subst h2
   rw [enc_go h1]
   obtain ⟨a, b, c⟩ := ih (r + 1) y (by omega)
   simp only [List.length_cons, runs, if_true]
   omega
end Go.Proofs.YtepgkimlmoikmaaGreat.TabMath
namespace Go.Proofs.YtepgkimlmoikmaaGreat
open Go.RowKit Go.Proofs.YtepgkimlmoikmaaGreat.Leaf Go.Proofs.YtepgkimlmoikmaaGreatW.PrintWords Go.Proofs.YtepgkimlmoikmaaGreatW.PrintLast
namespace TabB
open TabMath

theorem wr {x : Int} (h : -9223372036854775808 ≤ x) (h2 : x < 9223372036854775808) : wrap64 x = x := by unfold wrap64; omega
def bl (b : ByteArray) : List Int := b.data.toList.map fun c => (c.toNat : Int)
theorem bl_length (b : ByteArray) : (bl b).length = b.size := by simp [bl]
theorem bl_byte (b : ByteArray) : ∀ c ∈ bl b, Byte c := by
 intro c hc
 obtain ⟨u, _, rfl⟩ := List.mem_map.1 hc
 have := u.toNat_lt
 exact ⟨by omega, by omega⟩
theorem bt_bl (b : ByteArray) (i : Int) : bt b i = rd (bl b) i := by
 unfold bt rd bl
 by_cases h : i.toNat < b.size
 ·rw [dif_pos h, List.getD_eq_getElem?_getD, List.getElem?_map, List.getElem?_eq_getElem (by simpa using h)]
  rfl
 ·rw [dif_neg h, List.getD_eq_getElem?_getD, List.getElem?_map, List.getElem?_eq_none (by simpa using h)]
  rfl
theorem rd_drop {l : List Int} {i : Nat} {a : List Int} {y : Int} {r : List Int} (h : l.drop i = a ++ y :: r) : rd l ((i : Int) + (a.length : Int)) = y := by
 unfold rd
 have e : ((i : Int) + (a.length : Int)).toNat = i + a.length := by omega
 rw [e, List.getD_eq_getElem?_getD, ← List.getElem?_drop, h]
 simp
theorem len_drop {l : List Int} {i : Nat} {a : List Int} (hi : i ≤ l.length) (h : l.drop i = a) : l.length = i + a.length := by
 have := congrArg List.length h
 simp at this
 omega
def PutR (out : List Int) (n : Nat) (x : Int) (rest : List Int) : ByteArray × Bool :=
 if AllSixt rest then (strOfNums (out ++ enc n (x :: rest)), true) else (⟨#[]⟩, false)
theorem put_l1 (l : List Int) (hl : l.length ≤ 356) (rest : List Int) : ∀ (i n : Nat) (x : Int) (out : List Int), Sixt x → n + 1 ≤ 16 → i ≤ l.length → out.length ≤ i →
  l.drop i = List.replicate (n + 1) x ++ rest → Ev (fun k => tab_Put.l1 k l out i ((n + 1 : Nat) : Int)) (PutR out n x rest) := by
 induction rest with
 | nil =>
  intro i n x out hx hn hi ho h
  have hlen := len_drop hi h
  simp only [List.append_nil, List.length_replicate] at hlen
  have hx0 : rd l (i : Int) = x := by
   rw [List.replicate_succ, List.cons_append] at h
   have := rd_drop (a := []) h
   simpa using this
  unfold Sixt at hx
  have e1 : wrap64 ((i : Int) + ((n + 1 : Nat) : Int)) = (i : Int) + ((n + 1 : Nat) : Int) := wr (by omega) (by omega)
  have e2 : (wrap64 ((wrap64 ((wrap64 ((rd l (i : Int)) * 16)) + ((n + 1 : Nat) : Int))) - 1)) % 256 = 16 * x + (n : Int) := by
   rw [hx0, wr (x := x * 16) (by omega) (by omega), wr (x := x * 16 + ((n + 1 : Nat) : Int)) (by omega) (by omega), wr (by omega) (by omega)]
   omega
  have last : Ev (fun k => tab_Put.l0 k l (out ++ [16 * x + (n : Int)]) ((i : Int) + ((n + 1 : Nat) : Int))) (PutR out n x []) := by
   refine Ev.step (f := fun _ => some (PutR out n x [])) (fun k => ?_) (Ev.now _)
   simp only [tab_Put.l0]
   rw [if_neg (by omega)]
   unfold PutR
   rw [if_pos allSixt_nil, enc_one]
  refine Ev.step (fun k => ?_) last
  simp only [tab_Put.l1]
  rw [e2, e1]
  by_cases hc : ((n + 1 : Nat) : Int) < 16
  ·rw [if_pos hc, if_neg (by omega), if_pos (by omega), if_pos (by omega), if_pos (by omega)]
  ·rw [if_neg hc, if_pos (by omega), if_pos (by omega), if_pos (by omega)]
 | cons y rest ih =>
  intro i n x out hx hn hi ho h
  have hlen := len_drop hi h
  simp only [List.length_append, List.length_replicate, List.length_cons] at hlen
  have hx0 : rd l (i : Int) = x := by
   rw [List.replicate_succ, List.cons_append] at h
   have := rd_drop (a := []) h
   simpa using this
  have hy0 : rd l ((i : Int) + ((n + 1 : Nat) : Int)) = y := by
   have := rd_drop h
   simpa using this
  have hx' := hx
  unfold Sixt at hx'
  have e1 : wrap64 ((i : Int) + ((n + 1 : Nat) : Int)) = (i : Int) + ((n + 1 : Nat) : Int) := wr (by omega) (by omega)
  have e2 : (wrap64 ((wrap64 ((wrap64 (x * 16)) + ((n + 1 : Nat) : Int))) - 1)) % 256 = 16 * x + (n : Int) := by
   rw [wr (x := x * 16) (by omega) (by omega), wr (x := x * 16 + ((n + 1 : Nat) : Int)) (by omega) (by omega), wr (by omega) (by omega)]
   omega
  by_cases hc : n = 15 ∨ y ≠ x
  ·-- the run ends here
   have next : Ev (fun k => tab_Put.l0 k l (out ++ [16 * x + (n : Int)]) ((i : Int) + ((n + 1 : Nat) : Int))) (PutR out n x (y :: rest)) := by
    have ed : l.drop (i + (n + 1)) = y :: rest := by
     rw [← List.drop_drop, h, List.drop_append, List.drop_of_length_le (by simp)]
     simp
    have ei : ((i : Int) + ((n + 1 : Nat) : Int)) = ((i + (n + 1) : Nat) : Int) := by omega
    have hstep : ∀ k, tab_Put.l0 (k + 1) l (out ++ [16 * x + (n : Int)]) ((i : Int) + ((n + 1 : Nat) : Int)) = tab_Put.j1 k l (out ++ [16 * x + (n : Int)]) ((i : Int) + ((n + 1 : Nat) : Int)) (decide (¬ Sixt y)) := by
     intro k
     simp only [tab_Put.l0]
     rw [if_pos (by omega), if_pos (by omega), hy0]
     unfold Sixt
     by_cases g : y < 0
     ·rw [if_pos g]; congr 1; symm; rw [decide_eq_true_iff]; omega
     ·rw [if_neg g]; congr 1; rw [decide_eq_decide]; omega
    refine Ev.step hstep ?_
    by_cases g : Sixt y
    ·have := ih (i + (n + 1)) 0 y (out ++ [16 * x + (n : Int)]) g (by omega) (by omega) (by simp; omega) (by rw [ed]; rfl)
     have er : PutR (out ++ [16 * x + (n : Int)]) 0 y rest = PutR out n x (y :: rest) := by
      unfold PutR
      by_cases gr : AllSixt rest
      ·rw [if_pos gr, if_pos (allSixt_cons.2 ⟨g, gr⟩), enc_cut hc]; simp
      ·rw [if_neg gr, if_neg (fun e => gr (allSixt_cons.1 e).2)]
     rw [er] at this
     refine Ev.step (fun k => ?_) this
     simp only [tab_Put.j1]
     rw [if_neg (by simp [g]), ei]
     rfl
    ·refine Ev.step (f := fun _ => some (PutR out n x (y :: rest))) (fun k => ?_) (Ev.now _)
     simp only [tab_Put.j1]
     rw [if_pos (by simp [g])]
     unfold PutR
     rw [if_neg (fun e => g (allSixt_cons.1 e).1)]
   refine Ev.step (fun k => ?_) next
   simp only [tab_Put.l1]
   rw [e1, hx0, hy0, e2]
   by_cases hc' : ((n + 1 : Nat) : Int) < 16
   ·have hyx : ¬ y = x := by omega
    rw [if_pos hc', if_pos (by omega), if_pos (by omega), if_pos (by omega), if_pos (by omega), if_neg hyx, if_pos (by omega)]
   ·rw [if_neg hc', if_pos (by omega), if_pos (by omega), if_pos (by omega)]
  ·obtain ⟨h1, h2⟩ : n ≠ 15 ∧ y = x := by
    refine ⟨fun e => hc (Or.inl e), ?_⟩
    by_cases e : y = x
    ·exact e
    ·exact absurd (Or.inr e) hc
   subst h2
   have := ih i (n + 1) y out hx (by omega) hi ho (by rw [h, List.replicate_succ' (n := n + 1)]; simp)
   have er : PutR out (n + 1) y rest = PutR out n y (y :: rest) := by
    unfold PutR
    by_cases gr : AllSixt rest
    ·rw [if_pos gr, if_pos (allSixt_cons.2 ⟨hx, gr⟩), enc_go h1]
    ·rw [if_neg gr, if_neg (fun e => gr (allSixt_cons.1 e).2)]
   rw [er] at this
   refine Ev.step (fun k => ?_) this
   simp only [tab_Put.l1]
   rw [e1, hx0, hy0]
   rw [if_pos (by omega), if_pos (by omega), if_pos (by omega), if_pos (by omega), if_pos (by omega), if_pos rfl, wr (by omega) (by omega)]
   congr 1
def putS (l : List Int) : ByteArray × Bool := if l.length ≤ 356 ∧ AllSixt l then (strOfNums (enc 0 l), true) else (⟨#[]⟩, false)
theorem put_ev (l : List Int) : Ev (fun k => tab_Put.f k l) (putS l) := by
 unfold putS
 by_cases hl : l.length ≤ 356
 ·cases l with
  | nil =>
   rw [if_pos ⟨hl, allSixt_nil⟩]
   refine Ev.step (f := fun _ => some (strOfNums [], true)) (fun k => ?_) (Ev.now _)
   unfold tab_Put.f
   rw [if_neg (by simp)]
   simp only [tab_Put.l0]
   rw [if_neg (by simp)]
  | cons y rest =>
   have hstep : ∀ k, tab_Put.f (k + 1) (y :: rest) = tab_Put.j1 k (y :: rest) [] 0 (decide (¬ Sixt y)) := by
    intro k
    unfold tab_Put.f
    rw [if_neg (by omega)]
    simp only [tab_Put.l0]
    rw [if_pos (by simp only [List.length_cons]; omega), if_pos (by omega)]
    rw [show rd (y :: rest) 0 = y from rfl]
    unfold Sixt
    by_cases g : y < 0
    ·rw [if_pos g]; congr 1; symm; rw [decide_eq_true_iff]; omega
    ·rw [if_neg g]; congr 1; rw [decide_eq_decide]; omega
   refine Ev.step hstep ?_
   by_cases g : Sixt y
   ·have := put_l1 (y :: rest) hl rest 0 0 y [] g (by omega) (by omega) (by simp) rfl
    have er : PutR [] 0 y rest = if (y :: rest).length ≤ 356 ∧ AllSixt (y :: rest) then (strOfNums (enc 0 (y :: rest)), true) else (⟨#[]⟩, false) := by
     unfold PutR
     by_cases gr : AllSixt rest
     ·rw [if_pos gr, if_pos ⟨hl, allSixt_cons.2 ⟨g, gr⟩⟩]; simp
     ·rw [if_neg gr, if_neg (fun e => gr (allSixt_cons.1 e.2).2)]
    rw [er] at this
    refine Ev.step (fun k => ?_) this
    simp only [tab_Put.j1]
    rw [if_neg (by simp [g])]
    rfl
   ·refine Ev.step (f := fun _ => some (⟨#[]⟩, false)) (fun k => ?_) ?_
    ·simp only [tab_Put.j1]
     rw [if_pos (by simp [g])]
    ·rw [if_neg (fun e => g (allSixt_cons.1 e.2).1)]; exact Ev.now _
 ·rw [if_neg (fun e => hl e.1)]
  refine Ev.congr (f := fun _ => some (⟨#[]⟩, false)) (fun k => ?_) (Ev.now _)
  unfold tab_Put.f
  rw [if_pos (by omega)]
theorem get_l1 (b : ByteArray) (size : Int) (x : Int) (at_ : Int) (R : List Int × Int × Int) (d : Nat) : ∀ (m t : Nat) (out : List Int), m = t + d → out.length + d ≤ 1000 → m ≤ 16 →
  Ev (fun k => tab_Get.l0 k b size (out ++ List.replicate d x) (wrap64 (at_ + 1))) R → Ev (fun k => tab_Get.l1 k b size out at_ x (m : Int) (t : Int)) R := by
 induction d with
 | zero =>
  intro m t out hm ho hm16 h
  simp only [List.replicate_zero, List.append_nil] at h
  refine Ev.step (fun k => ?_) h
  simp only [tab_Get.l1]
  rw [if_neg (by omega)]
 | succ d ih =>
  intro m t out hm ho hm16 h
  have := ih m (t + 1) (out ++ [x]) (by omega) (by simp; omega) hm16 (by simpa [List.replicate_succ] using h)
  refine Ev.step (fun k => ?_) this
  simp only [tab_Get.l1]
  rw [if_pos (by omega), if_pos (by omega), wr (by omega) (by omega)]
  congr 1
def GetR (out : List Int) (at_ : Nat) (d : Int × List Int × Nat) : List Int × Int × Int := if d.1 = 0 then (out ++ d.2.1, ((at_ + d.2.2 : Nat) : Int), 0) else ([], 0, d.1)
def prev (l : List Int) (i : Nat) : Int := if i = 0 then 15 else rd l ((i : Int) - 1)
theorem get_l0 (b : ByteArray) (hb : b.size ≤ 140737488351232) (size : Nat) (hs : size ≤ 356) (rest : List Int) : ∀ (i : Nat) (out : List Int), i ≤ b.size → out.length ≤ size → (bl b).drop i = rest →
  Ev (fun k => tab_Get.l0 k b size out i) (GetR out i (dec (prev (bl b) i) rest (size - out.length))) := by
 induction rest with
 | nil =>
  intro i out hi ho h
  have hlen := len_drop (by rw [bl_length]; exact hi) h
  rw [bl_length] at hlen
  simp only [List.length_nil, Nat.add_zero] at hlen
  refine Ev.step (f := fun _ => some (GetR out i (dec (prev (bl b) i) [] (size - out.length)))) (fun k => ?_) (Ev.now _)
  simp only [tab_Get.l0]
  by_cases hc : out.length < size
  ·obtain ⟨m, hm⟩ : ∃ m, size - out.length = m + 1 := ⟨size - out.length - 1, by omega⟩
   rw [if_pos (by omega), if_pos (by omega), hm, dec_nil]
   rfl
  ·have hm : size - out.length = 0 := by omega
   rw [if_neg (by omega), hm, dec_zero]
   unfold GetR
   simp
 | cons c rest ih =>
  intro i out hi ho h
  have hlen := len_drop (by rw [bl_length]; exact hi) h
  rw [bl_length] at hlen
  simp only [List.length_cons] at hlen
  have hc0 : rd (bl b) (i : Int) = c := by
   have := rd_drop (a := []) h
   simpa using this
  have hcb : Byte c := by
   have : c ∈ (bl b).drop i := by rw [h]; exact List.mem_cons_self ..
   exact bl_byte b c (List.mem_of_mem_drop this)
  unfold Byte at hcb
  by_cases hc : out.length < size
  ·obtain ⟨m, hm⟩ : ∃ m, size - out.length = m + 1 := ⟨size - out.length - 1, by omega⟩
   have hpb : 0 ≤ prev (bl b) i ∧ prev (bl b) i ≤ 255 := by
    unfold prev
    by_cases h0 : i = 0
    ·rw [if_pos h0]; omega
    ·rw [if_neg h0, ← bt_bl]; exact bt_range _ _
   have e1 : wrap64 (Int.tdiv (wrap64 c) 16) = c / 16 := by
    rw [wr (x := c) (by omega) (by omega), Int.tdiv_eq_ediv_of_nonneg (by omega), wr (by omega) (by omega)]
   have e2 : wrap64 (Int.tmod (wrap64 c) 16 + 1) = c % 16 + 1 := by
    rw [wr (x := c) (by omega) (by omega), Int.tmod_eq_emod_of_nonneg (by omega), wr (by omega) (by omega)]
   have p1 : ∀ p : Int, 0 ≤ p → p ≤ 255 → wrap64 (Int.tdiv (wrap64 p) 16) = p / 16 := by
    intro p h1 h2
    rw [wr (x := p) (by omega) (by omega), Int.tdiv_eq_ediv_of_nonneg (by omega), wr (by omega) (by omega)]
   have p2 : ∀ p : Int, 0 ≤ p → p ≤ 255 → wrap64 (Int.tmod (wrap64 p) 16 + 1) = p % 16 + 1 := by
    intro p h1 h2
    rw [wr (x := p) (by omega) (by omega), Int.tmod_eq_emod_of_nonneg (by omega), wr (by omega) (by omega)]
   have e3 : wrap64 ((size : Int) - (out.length : Int)) = ((m + 1 : Nat) : Int) := by
    rw [wr (by omega) (by omega)]; omega
   -- up to j2
   have hstep : ∀ k, tab_Get.l0 (k + 1) b size out i = tab_Get.j2 k b size out i (c / 16) (c % 16 + 1) (decide (prev (bl b) i / 16 = c / 16 ∧ prev (bl b) i % 16 < 15)) := by
    intro k
    simp only [tab_Get.l0]
    rw [if_pos (by omega), if_neg (by omega), if_pos (by omega), if_pos (by omega)]
    simp only [bt_bl, hc0, e1, e2]
    by_cases h0 : i = 0
    ·subst h0
     rw [if_neg (by omega)]
     congr 1
     symm
     rw [decide_eq_false_iff_not]
     unfold prev
     rw [if_pos rfl]
     omega
    ·have hp : prev (bl b) i = rd (bl b) ((i : Int) - 1) := by unfold prev; rw [if_neg h0]
     rw [if_pos (by omega), wr (x := (i : Int) - 1) (by omega) (by omega), if_pos (by omega), if_pos (by omega), ← hp, p1 _ hpb.1 hpb.2, p2 _ hpb.1 hpb.2]
     by_cases g : prev (bl b) i / 16 = c / 16
     ·rw [if_pos g]; congr 1; rw [decide_eq_decide]; omega
     ·rw [if_neg g]; congr 1; symm; rw [decide_eq_false_iff_not]; omega
   refine Ev.step hstep ?_
   have hstep2 : ∀ k, tab_Get.j2 (k + 1) b size out i (c / 16) (c % 16 + 1) (decide (prev (bl b) i / 16 = c / 16 ∧ prev (bl b) i % 16 < 15)) =
     tab_Get.j3 k b size out i (c / 16) (c % 16 + 1) (decide ((prev (bl b) i / 16 = c / 16 ∧ prev (bl b) i % 16 < 15) ∨ ((m + 1 : Nat) : Int) < c % 16 + 1)) := by
    intro k
    simp only [tab_Get.j2, e3]
    by_cases g : prev (bl b) i / 16 = c / 16 ∧ prev (bl b) i % 16 < 15
    ·rw [if_pos (by simpa using g)]; congr 1; symm; rw [decide_eq_true_iff]; exact Or.inl g
    ·rw [if_neg (by simpa using g)]; congr 1; rw [decide_eq_decide]; omega
   refine Ev.step hstep2 ?_
   rw [hm, dec_cons]
   by_cases g : (prev (bl b) i / 16 = c / 16 ∧ prev (bl b) i % 16 < 15) ∨ ((m + 1 : Nat) : Int) < c % 16 + 1
   ·rw [if_pos g]
    refine Ev.step (f := fun _ => some (GetR out i (3, [], 0))) (fun k => ?_) (Ev.now _)
    simp only [tab_Get.j3]
    rw [if_pos (by simpa using g)]
    rfl
   ·rw [if_neg g]
    have hstep3 : ∀ k, tab_Get.j3 (k + 1) b size out i (c / 16) (c % 16 + 1) (decide ((prev (bl b) i / 16 = c / 16 ∧ prev (bl b) i % 16 < 15) ∨ ((m + 1 : Nat) : Int) < c % 16 + 1)) =
      tab_Get.l1 k b size out i (c / 16) (((c % 16 + 1).toNat : Nat) : Int) ((0 : Nat) : Int) := by
     intro k
     simp only [tab_Get.j3]
     rw [if_neg (by simpa using g)]
     rw [show (((c % 16 + 1).toNat : Nat) : Int) = c % 16 + 1 by omega]
     rfl
    refine Ev.step hstep3 ?_
    have hpn : prev (bl b) (i + 1) = c := by
     unfold prev
     rw [if_neg (by omega), show (((i + 1 : Nat) : Int) - 1) = (i : Int) by omega]
     exact hc0
    have := ih (i + 1) (out ++ List.replicate (c % 16 + 1).toNat (c / 16)) (by omega) (by simp; omega) (by rw [← List.drop_drop, h]; rfl)
    rw [hpn, show size - (out ++ List.replicate (c % 16 + 1).toNat (c / 16)).length = m + 1 - (c % 16 + 1).toNat by simp; omega] at this
    refine get_l1 b size (c / 16) i _ (c % 16 + 1).toNat (c % 16 + 1).toNat 0 out (by omega) (by omega) (by omega) ?_
    rw [wr (by omega) (by omega), show ((i : Int) + 1) = ((i + 1 : Nat) : Int) by omega]
    have er : GetR (out ++ List.replicate (c % 16 + 1).toNat (c / 16)) (i + 1) (dec c rest (m + 1 - (c % 16 + 1).toNat)) =
      GetR out i (if (dec c rest (m + 1 - (c % 16 + 1).toNat)).1 = 0 then (0, List.replicate (c % 16 + 1).toNat (c / 16) ++ (dec c rest (m + 1 - (c % 16 + 1).toNat)).2.1, (dec c rest (m + 1 - (c % 16 + 1).toNat)).2.2 + 1) else ((dec c rest (m + 1 - (c % 16 + 1).toNat)).1, [], 0)) := by
     unfold GetR
     by_cases hd : (dec c rest (m + 1 - (c % 16 + 1).toNat)).1 = 0
     ·rw [if_pos hd, if_pos hd, if_pos rfl]
      simp only [List.append_assoc, Prod.mk.injEq, true_and, and_true]
      omega
     ·rw [if_neg hd, if_neg hd, if_neg hd]
    rw [er] at this
    exact this
  ·have hm : size - out.length = 0 := by omega
   refine Ev.step (f := fun _ => some (GetR out i (dec (prev (bl b) i) (c :: rest) (size - out.length)))) (fun k => ?_) (Ev.now _)
   simp only [tab_Get.l0]
   rw [if_neg (by omega), hm, dec_zero]
   unfold GetR
   simp
def getS (b : ByteArray) (size : Int) : List Int × Int × Int := if size < 0 ∨ 356 < size then ([], 0, 1) else GetR [] 0 (dec 15 (bl b) size.toNat)
theorem get_ev (b : ByteArray) (hb : b.size ≤ 140737488351232) (size : Int) : Ev (fun k => tab_Get.f k b size) (getS b size) := by
 unfold getS
 have hstep : ∀ k, tab_Get.f k b size = tab_Get.j0 k b size (decide (size < 0 ∨ 356 < size)) := by
  intro k
  unfold tab_Get.f
  by_cases h : size < 0
  ·rw [if_pos h]; congr 1; symm; rw [decide_eq_true_iff]; exact Or.inl h
  ·rw [if_neg h]; congr 1; rw [decide_eq_decide]; omega
 refine Ev.congr hstep ?_
 by_cases h : size < 0 ∨ 356 < size
 ·rw [if_pos h]
  refine Ev.step (f := fun _ => some ([], 0, 1)) (fun k => ?_) (Ev.now _)
  simp only [tab_Get.j0]
  rw [if_pos (by simpa using h)]
 ·rw [if_neg h]
  have := get_l0 b hb size.toNat (by omega) (bl b) 0 [] (by omega) (by simp) rfl
  rw [show ((size.toNat : Nat) : Int) = size by omega] at this
  refine Ev.step (fun k => ?_) this
  simp only [tab_Get.j0]
  rw [if_neg (by simpa using h)]
  rfl
theorem dec_code (b : List Int) : ∀ (p : Int) (n : Nat), (dec p b n).1 = 0 ∨ (dec p b n).1 = 2 ∨ (dec p b n).1 = 3 := by
 induction b with
 | nil =>
  intro p n
  cases n with
  | zero => rw [dec_zero]; exact .inl rfl
  | succ n => rw [dec_nil]; exact .inr (.inl rfl)
 | cons c t ih =>
  intro p n
  cases n with
  | zero => rw [dec_zero]; exact .inl rfl
  | succ n =>
   rw [dec_cons]
   split
   ·exact .inr (.inr rfl)
   ·split
    ·exact .inl rfl
    ·exact ih c _
theorem getS_ok (b : ByteArray) (n : Nat) (hn : n ≤ 356) : ((getS b (n : Int)).2.2 = 0 ∨ (getS b (n : Int)).2.2 = 2 ∨ (getS b (n : Int)).2.2 = 3) ∧ ((getS b (n : Int)).2.2 = 0 → (getS b (n : Int)).1.length = n ∧ AllSixt (getS b (n : Int)).1 ∧ ∃ k : Nat, (getS b (n : Int)).2.1 = (k : Int) ∧ k ≤ b.size) := by
 unfold getS
 rw [if_neg (by omega), Int.toNat_natCast]
 unfold GetR
 rcases dec_code (bl b) 15 n with h | h | h
 ·rw [if_pos h]
  obtain ⟨h1, h2, h3, _⟩ := dec_once (bl b) 15 n (bl_byte b) h
  rw [bl_length] at h1
  exact ⟨.inl rfl, fun _ => ⟨by rw [List.nil_append]; exact h2, by rw [List.nil_append]; exact h3, _, rfl, by omega⟩⟩
 ·rw [if_neg (by rw [h]; decide), h]
  exact ⟨.inr (.inl rfl), fun h => absurd h (show ¬ (2 : Int) = 0 by decide)⟩
 ·rw [if_neg (by rw [h]; decide), h]
  exact ⟨.inr (.inr rfl), fun h => absurd h (show ¬ (3 : Int) = 0 by decide)⟩
theorem tget_calls (b : ByteArray) (hb : b.size ≤ 140737488351232) (size : Int) (w : World) : Calls Tryz.prog 180 #[.string b, .int .i64 size] w fun e w' => ∃ (A : Option Addr) (c : Nat), e = .returned (.tuple #[.slice A (getS b size).1.length c, .int .i64 (getS b size).2.1, .int .i64 (getS b size).2.2]) ∧ (getS b size).1.length ≤ c ∧ IntsIn w' A (getS b size).1 ∧ Below w.heap.size w w' := by
 obtain ⟨k, hk⟩ := (get_ev b hb size).rounds
 refine (Leaf.tab_Get.calls k b size _ _ _ w hk).mono ?_
 rintro e w' ⟨v, rfl, hr, hbl⟩
 obtain ⟨A, c, rfl, hc, hC⟩ := Kd.R_reads hr
 exact ⟨A, c, rfl, hc, hC, hbl⟩
end TabB
end Go.Proofs.YtepgkimlmoikmaaGreat
namespace Go.Proofs.YtepgkimlmoikmaaGreat
open Go.RowKit Go.Proofs.YtepgkimlmoikmaaGreat.Spec Go.Proofs.YtepgkimlmoikmaaGreatW.PrintWords Go.Proofs.YtepgkimlmoikmaaGreatW.PrintLast
open Go.Proofs.YtepgkimlmoikmaaGreatW.PrintMore
attribute [local go_sem ↓] Go.wp_at_zero Go.wp_at_succ
attribute [local go_sem] max2_int min2_int max_two min_two
structure Mach (N q : Nat) (σ : Type) (P : World → σ → Prop) (tok err : σ → Int) (step : σ → σ) (fin : σ → Bool) : Prop where
 hN : N ≤ q
 low : ∀ w s w', P w s → Below w.heap.size w w' → P w' s
 int : ∀ s, err s = 0 → In64 (tok s)
 next : ∀ w s, P w s → Calls Tryz.prog 143 #[.pointer (some ⟨q, 0, none⟩)] w fun e w' => e = .returned (.int .i64 (tok s)) ∧ w'.cell? ⟨q, 3, none⟩ = some (.int .i64 (err s)) ∧ (err s = 0 → P w' (step s)) ∧ Below N w w'
 over : ∀ w s, P w s → Calls Tryz.prog 145 #[.pointer (some ⟨q, 0, none⟩)] w fun e w' => e = .returned (.bool (fin s)) ∧ Below w.heap.size w w'
namespace Spec
def meanM {σ : Type} (tok err : σ → Int) (step : σ → σ) (fin : σ → Bool) (l : List ByteArray) (raw : Nat) : Nat → ByteArray → σ → ByteArray × Int
 | 0, s, x => if fin x = true then (s, 0) else (⟨#[]⟩, 13)
 | f + 1, s, x => if raw ≤ s.size then (if fin x = true then (s, 0) else (⟨#[]⟩, 13)) else if err x ≠ 0 then (⟨#[]⟩, err x) else if ¬ Tok l (tok x) then (⟨#[]⟩, 9)
   else if raw < s.size + (word l (tok x)).size then (⟨#[]⟩, 12) else meanM tok err step fin l raw f (s ++ word l (tok x)) (step x)
end Spec
theorem some_bytes {b : ByteArray} (h : 1 ≤ b.size) : b.toList.isEmpty = false := by
 rw [Lib.toList_data]
 rw [Bool.eq_false_iff]
 intro e
 have h2 := congrArg List.length (List.isEmpty_iff.1 e)
 have h3 : b.data.toList.length = b.size := u_size b
 rw [h3, List.length_nil] at h2
 omega
theorem of_err {A2 : Option Addr} {c2 : Nat} {p : Value} {l : List ByteArray} (most t : Int) {w : World} (hd : DictN w p l) (hs : ∀ s ∈ l, 1 ≤ s.size ∧ s.size ≤ 40) (hl : l.length ≤ 1000) (hr : IntsIn w A2 [t]) (hc : 1 ≤ c2) (hin : In64 t) (hm : 0 ≤ most) (hM : most ≤ 100000) (hbad : ¬ Tok l t ∨ most < ((word l t).size : Int)) :
  Calls Tryz.prog 144 #[p, .int .i64 most, .slice A2 1 c2] w fun e w' => e = .returned (.tuple #[.string ⟨#[]⟩, .int .i64 (if ¬ Tok l t then 9 else 10)]) ∧ Below w.heap.size w w' := by
 have HD := Aside0.mk hd
 have HR := Aside0.mk hr
 have HIN := Aside0.mk hin
 obtain ⟨ad2, e2, hcell⟩ := Kd.at_int hr 0 (by decide) (show (0 : Int) < 1 by decide)
 have hrd : rd [t] (0 : Int) = t := rfl
 rw [hrd] at hcell
 have hcell' : w.cell? ad2 = some (.int .i64 t) := hcell
 clear hcell
 subst e2
 by_cases hk : Tok l t
 ·rw [if_neg (fun n => n hk)]
  have hw := word_size hs hk
  have hm2 : most < ((word l t).size : Int) := by rcases hbad with h | h; exact absurd hk h; exact h
  have n2 := some_bytes hw.1
  have n1 : ¬ (word l t).toList = [] := by intro e; rw [e] at n2; cases n2
  have n3 : ¬ most < 0 := by omega
  have n4 : decide (most < ((word l t).size : Int)) = true := decide_eq_true hm2
  have n6 : wrap64 most = most := Bridge.wr (by omega) (by omega)
  clear hd hr hs hl hc hm hM hbad hk hw hm2
  go_enter Tryz.func144, Tryz.ntmps144
  go_wp2_with fail
  go_loopw [8, 14] (fun v8 v14 wr => v8 = .slice none 0 0 ∧ v14 = .int .i64 0 ∧ wr = w) (fun _ v14 _ => 0)
  case atStart => exact ⟨rfl, rfl, rfl⟩
  case round =>
   obtain ⟨rfl, rfl, rfl⟩ := hrel
   go_wp2_with fail
   refine (text_any HD.out t HIN.out.1 HIN.out.2).mono ?_
   rintro e w2 ⟨rfl, hb2⟩
   have HB2 := Aside0.mk hb2
   clear hb2
   go_wp2_with fail
   go_ret2
   exact ⟨rfl, HB2.out⟩
 ·rw [if_pos hk]
  have HW := Aside0.mk (word_out hk)
  clear hd hr hs hl hc hm hM hbad hk
  go_enter Tryz.func144, Tryz.ntmps144
  go_wp2_with fail
  go_loopw [8, 14] (fun v8 v14 wr => v8 = .slice none 0 0 ∧ v14 = .int .i64 0 ∧ wr = w) (fun _ v14 _ => 0)
  case atStart => exact ⟨rfl, rfl, rfl⟩
  case round =>
   obtain ⟨rfl, rfl, rfl⟩ := hrel
   go_wp2_with fail
   refine (text_any HD.out t HIN.out.1 HIN.out.2).mono ?_
   rw [HW.out]
   rintro e w2 ⟨rfl, hb2⟩
   have HB2 := Aside0.mk hb2
   clear hb2
   go_wp2_with fail
   go_ret2
   exact ⟨rfl, HB2.out⟩
set_option maxHeartbeats 4000000 in
theorem meant_run {p : Value} {l : List ByteArray} {how : Int} {pay : ByteArray} {raw : Nat} {w : World} {σ : Type} {tok err : σ → Int} {step : σ → σ} {fin : σ → Bool} (x0 : σ)
  (hd : DictN w p l) (hl : l.length ≤ 1000) (hs : ∀ s ∈ l, 1 ≤ s.size ∧ s.size ≤ 40) (hraw : raw ≤ 10000)
  (HO : Calls Tryz.prog 142 #[p, .int .i64 how, .string pay] w fun e w1 => ∃ q, e = .returned (.tuple #[.pointer (some ⟨q, 0, none⟩), .int .i64 0]) ∧ (∃ P : World → σ → Prop, Mach w.heap.size q σ P tok err step fin ∧ P w1 x0) ∧ Below w.heap.size w w1) :
  Calls Tryz.prog 97 #[p, .int .i64 how, .int .i64 (raw : Int), .string pay] w fun e w' => e = .returned (.tuple #[.string (meanM tok err step fin l raw raw ⟨#[]⟩ x0).1, .int .i64 (meanM tok err step fin l raw raw ⟨#[]⟩ x0).2]) ∧ Below w.heap.size w w' := by
 have HD := Aside0.mk hd
 have HL := Aside0.mk hl
 have HS := Aside0.mk hs
 have HRW := Aside0.mk hraw
 have HOP := Aside0.mk HO
 clear hd hl hs hraw HO
 go_enter Tryz.func97, Tryz.ntmps97
 go_wp2_with fail
 refine HOP.out.mono ?_
 rintro e w1 ⟨q, rfl, ⟨P, hM, hP1⟩, hb1⟩
 have HM := Aside0.mk hM
 have HP1 := Aside0.mk hP1
 have H1 := Aside0.mk hb1
 clear hP1 hb1 hM HOP
 go_wp2_with fail
 go_loopw [12] (fun v12 wr => ∃ (s : ByteArray) (f : Nat) (x : σ), v12 = .string s ∧ Aside0 (raw ≤ s.size + f ∧ s.size ≤ raw) ∧ Aside0 (meanM tok err step fin l raw f s x = meanM tok err step fin l raw raw ⟨#[]⟩ x0) ∧ Aside0 (P wr x) ∧ Aside0 (Below w.heap.size w wr)) (fun v12 _ => roomOf raw v12)
 case atStart => exact ⟨⟨#[]⟩, raw, x0, rfl, ⟨by show raw ≤ 0 + raw; omega, Nat.zero_le _⟩, ⟨rfl⟩, HP1, H1⟩
 case round =>
  obtain ⟨s, f, x, rfl, HI, HE, HP, HB⟩ := hrel
  have hi := HI.out
  by_cases hlt : s.size < raw
  ·have d0 : decide ((s.size : Int) < (raw : Int)) = true := decide_eq_true (by omega)
   have d0' : decide (s.size < raw) = true := decide_eq_true hlt
   obtain ⟨f, rfl⟩ : ∃ f', f = f' + 1 := ⟨f - 1, by omega⟩
   have he := HE.out
   rw [meanM, if_neg (by omega)] at he
   have HLT := Aside0.mk hlt
   have hrw := HRW.out
   have q1 : wrap64 ((raw : Int) - (s.size : Int)) = (raw : Int) - (s.size : Int) := Bridge.wr (by omega) (by omega)
   have HNX := Aside0.mk (HM.out.next wr x HP.out)
   by_cases h1 : err x = 0
   ·rw [if_neg (fun n => n h1)] at he
    have HIN := Aside0.mk (HM.out.int x h1)
    rw [h1] at HNX
    have HNX2 : Aside0 (Calls Tryz.prog 143 #[.pointer (some ⟨q, 0, none⟩)] wr fun e w' => e = .returned (.int .i64 (tok x)) ∧ w'.cell? ⟨q, 3, none⟩ = some (.int .i64 0) ∧ P w' (step x) ∧ Below w.heap.size wr w') := ⟨HNX.out.mono fun e w' ⟨a1, a2, a3, a4⟩ => ⟨a1, a2, a3 rfl, a4⟩⟩
    obtain ⟨t, ht⟩ : ∃ t, t = tok x := ⟨_, rfl⟩
    rw [← ht] at he HIN HNX2
    by_cases hk : Tok l t ∧ s.size + (word l t).size ≤ raw
    ·rw [if_neg (fun n => n hk.1), if_neg (by omega)] at he
     have HEE := Aside0.mk he
     have HZ := Aside0.mk (show s.size + (word l t).size ≤ raw ∧ 1 ≤ (word l t).size from ⟨hk.2, (word_size HS.out hk.1).1⟩)
     have HOF := Aside0.mk (fun {A2 : Option Addr} {c2 : Nat} {W : World} (hd : DictN W p l) (hr : IntsIn W A2 [t]) (hc : 1 ≤ c2) => of_one ((raw : Int) - (s.size : Int)) t hd HS.out HL.out hr hc hk.1 (by omega) (by omega))
     have q2 : ¬ 9223372036854775807 < s.size + (word l t).size := by omega
     clear hi hlt he hrw h1 hk ht HNX
     go_wp2_with fail
     refine HNX2.out.mono ?_
     rintro e w2 ⟨rfl, c3, hp2, hb2⟩
     have HB2 := Aside0.mk (HB.out.trans hb2)
     have HP2 := Aside0.mk hp2
     clear hb2 hp2
     go_wp2_with fail
     refine (HOF.out ((HD.out.below HB2.out).below ((Below.refl _ _).alloc (Nat.le_refl _) _)) (lit_ints _ _) (Nat.le_refl 1)).mono ?_
     rintro e w3 ⟨rfl, hb3⟩
     have HB3 := Aside0.mk (below_step (below_alloc HB2.out _) hb3)
     have HP3 := Aside0.mk (HM.out.low _ _ _ HP2.out (below_step ((Below.refl _ _).alloc (Nat.le_refl _) _) hb3))
     clear hb3
     go_wp2_with fail
     go_roundw
     case rel =>
      have h1 := HZ.out
      have h2 := HI.out
      exact ⟨s ++ word l t, f, step x, rfl, ⟨by rw [ByteArray.size_append]; omega, by rw [ByteArray.size_append]; omega⟩, HEE, HP3, HB3⟩
     case measure =>
      show raw - (s ++ word l t).size < raw - s.size
      have := HZ.out
      rw [ByteArray.size_append]
      omega
    ·have HOF := Aside0.mk (fun {A2 : Option Addr} {c2 : Nat} {W : World} (hd : DictN W p l) (hr : IntsIn W A2 [t]) (hc : 1 ≤ c2) => of_err ((raw : Int) - (s.size : Int)) t hd HS.out HL.out hr hc HIN.out (by omega) (by omega) (by by_cases g : Tok l t; exact .inr (by have : ¬ s.size + (word l t).size ≤ raw := fun h => hk ⟨g, h⟩; omega); exact .inl g))
     by_cases g : Tok l t
     ·have g2 : raw < s.size + (word l t).size := Nat.lt_of_not_le fun h => hk ⟨g, h⟩
      rw [if_neg (fun n => n g), if_pos g2] at he
      rw [if_neg (fun n => n g)] at HOF
      have HEE := Aside0.mk he
      clear hi hlt he hrw h1 hk ht HNX g g2
      go_wp2_with fail
      refine HNX2.out.mono ?_
      rintro e w2 ⟨rfl, c3, hp2, hb2⟩
      have HB2 := Aside0.mk (HB.out.trans hb2)
      clear hb2 hp2
      go_wp2_with fail
      refine (HOF.out ((HD.out.below HB2.out).below ((Below.refl _ _).alloc (Nat.le_refl _) _)) (lit_ints _ _) (Nat.le_refl 1)).mono ?_
      rintro e w3 ⟨rfl, hb3⟩
      have HB3 := Aside0.mk (below_step (below_alloc HB2.out _) hb3)
      clear hb3
      go_wp2_with fail
      go_ret2
      rw [← HEE.out]
      exact ⟨rfl, HB3.out⟩
     ·rw [if_pos g] at he
      rw [if_pos g] at HOF
      have HEE := Aside0.mk he
      clear hi hlt he hrw h1 hk ht HNX g
      go_wp2_with fail
      refine HNX2.out.mono ?_
      rintro e w2 ⟨rfl, c3, hp2, hb2⟩
      have HB2 := Aside0.mk (HB.out.trans hb2)
      clear hb2 hp2
      go_wp2_with fail
      refine (HOF.out ((HD.out.below HB2.out).below ((Below.refl _ _).alloc (Nat.le_refl _) _)) (lit_ints _ _) (Nat.le_refl 1)).mono ?_
      rintro e w3 ⟨rfl, hb3⟩
      have HB3 := Aside0.mk (below_step (below_alloc HB2.out _) hb3)
      clear hb3
      go_wp2_with fail
      go_ret2
      rw [← HEE.out]
      exact ⟨rfl, HB3.out⟩
   ·rw [if_pos h1] at he
    have HEE := Aside0.mk he
    have e1 : (err x == 0) = false := beq_eq_false_iff_ne.2 h1
    have e2 : (err x = 0) = False := eq_false h1
    generalize err x = z at *
    clear hi hlt he hrw h1
    go_wp2_with fail
    refine HNX.out.mono ?_
    rintro e w2 ⟨rfl, c3, _, hb2⟩
    have HB2 := Aside0.mk (HB.out.trans hb2)
    clear hb2
    go_wp2_with fail
    go_quiet (fail)
    go_wp2_with fail
    go_ret2
    rw [← HEE.out]
    exact ⟨rfl, below_step HB2.out ((Drawn0.refl w2).step _).below⟩
  ·have d0 : decide ((s.size : Int) < (raw : Int)) = false := decide_eq_false (by omega)
   have d0' : decide (s.size < raw) = false := decide_eq_false hlt
   have HEE : Aside0 ((if fin x = true then (s, 0) else (⟨#[]⟩, 13)) = meanM tok err step fin l raw raw ⟨#[]⟩ x0) := ⟨by
    rw [← HE.out]
    cases f with
    | zero => rfl
    | succ f => rw [meanM, if_pos (Nat.le_of_not_lt hlt)]⟩
   have HOV := Aside0.mk (HM.out.over wr x HP.out)
   clear hi hlt
   cases hf : fin x with
   | true =>
    rw [hf] at HOV HEE
    rw [if_pos rfl] at HEE
    clear hf
    go_wp2_with fail
    refine HOV.out.mono ?_
    rintro e w2 ⟨rfl, hb2⟩
    have HB2 := Aside0.mk (below_step HB.out hb2)
    clear hb2
    go_wp2_with fail
    go_ret2
    rw [← HEE.out]
    exact ⟨rfl, HB2.out⟩
   | false =>
    rw [hf] at HOV HEE
    rw [if_neg (by decide)] at HEE
    clear hf
    go_wp2_with fail
    refine HOV.out.mono ?_
    rintro e w2 ⟨rfl, hb2⟩
    have HB2 := Aside0.mk (below_step HB.out hb2)
    clear hb2
    go_wp2_with fail
    go_ret2
    rw [← HEE.out]
    exact ⟨rfl, HB2.out⟩
end Go.Proofs.YtepgkimlmoikmaaGreat
namespace Go.Proofs.YtepgkimlmoikmaaGreat
open Go.RowKit Go.Proofs.YtepgkimlmoikmaaGreat.Spec Go.Proofs.YtepgkimlmoikmaaGreatW.PrintWords Go.Proofs.YtepgkimlmoikmaaGreatW.PrintLast
open Go.Proofs.YtepgkimlmoikmaaGreatW.PrintMore
attribute [local go_sem ↓] Go.wp_at_zero Go.wp_at_succ
theorem un_fit (b : List UInt8) : (un 0 0 b).2.1 ≤ b.length := by
 by_cases h : (un 0 0 b).2.2 = 0
 ·obtain ⟨n, _, _, _, h4, _⟩ := un_once b 0 0 (by omega) h
  omega
 ·rw [(un_err b 0 0 h).2]; exact Nat.zero_le _
theorem un_in64 (b : List UInt8) : In64 ((un 0 0 b).1 : Nat) := by
 unfold In64
 by_cases h : (un 0 0 b).2.2 = 0
 ·obtain ⟨n, h1, _, _, _, _, h6⟩ := un_once b 0 0 (by omega) h
  rw [h1]
  omega
 ·rw [(un_err b 0 0 h).1]; exact ⟨by decide, by decide⟩
theorem SrcAt.put3 {w : World} {g : Nat} {s : ByteArray} (h : SrcAt w g s) (s' : ByteArray) (v : Int) : ((w.setCell ⟨g, 0, none⟩ (.string s')).setCell ⟨g, 3, none⟩ (.int .i64 v)).cell? ⟨g, 3, none⟩ = some (.int .i64 v) := by
 have h03 : (⟨g, 0, none⟩ : Addr) ≠ ⟨g, 3, none⟩ := by simp
 exact World.cell?_setCell_same _ _ _ ((World.cell?_setCell_other _ _ _ _ h03).trans h.c3)
def NumS (q : Nat) (w : World) (s : ByteArray) : Prop := SrcAt w q s ∧ s.size ≤ 100000
theorem next_gen {w : World} {g N : Nat} {s : ByteArray} (h : NumS g w s) (hN : N ≤ g) : Calls Tryz.prog 143 #[.pointer (some ⟨g, 0, none⟩)] w fun e w' => e = .returned (.int .i64 ((un 0 0 (u s)).1 : Nat)) ∧ w'.cell? ⟨g, 3, none⟩ = some (.int .i64 ((un 0 0 (u s)).2.2 : Nat)) ∧ ((((un 0 0 (u s)).2.2 : Nat) : Int) = 0 → NumS g w' (s.extract (un 0 0 (u s)).2.1 s.size)) ∧ Below N w w' := by
 have H := Aside0.mk h
 have HV := Aside0.mk (vget_calls s (by have := h.2; omega))
 have hf := un_fit (u s)
 rw [u_size] at hf
 generalize (un 0 0 (u s)).2.1 = m at hf HV ⊢
 generalize (un 0 0 (u s)).2.2 = z at HV ⊢
 generalize (un 0 0 (u s)).1 = t at HV ⊢
 have HN := Aside0.mk (show N ≤ g ∧ g < w.heap.size ∧ s.size ≤ 100000 from ⟨hN, h.1.lt, h.2⟩)
 have z1 : ¬ s.size < m := by omega
 have z2 : m ≤ s.size := hf
 have c0 := h.1.c0
 have c1 := h.1.c1
 clear h hf hN
 go_enter Tryz.func143, Tryz.ntmps143
 go_wp2_with fail
 refine (HV.out _).mono ?_
 rintro e w2 ⟨rfl, hb2⟩
 have HB2 := Aside0.mk (drawn_below hb2)
 have h := H.out.1.below HB2.out
 have H2 := Aside0.mk h
 have c0 := h.c0
 have c1 := h.c1
 have c3 := h.c3
 have f0 := h.f0
 have f3 := h.f3
 clear h hb2
 go_wp2
 go_ret
 refine ⟨rfl, H2.out.put3 _ _, fun (hz : (z : Int) = 0) => ⟨?_, ?_⟩, ((HB2.out.mono (Nat.le_trans HN.out.1 (Nat.le_of_lt HN.out.2.1))).setCell HN.out.1 _).setCell HN.out.1 _⟩
 ·rw [hz]
  exact H2.out.put _
 ·have := HN.out.2.2
  rw [ByteArray.size_extract]
  omega
theorem mach_num {N q : Nat} (hN : N ≤ q) : Mach N q ByteArray (NumS q) (fun s => ((un 0 0 (u s)).1 : Nat)) (fun s => ((un 0 0 (u s)).2.2 : Nat)) (fun s => s.extract (un 0 0 (u s)).2.1 s.size) (fun s => s.toList.isEmpty) where
 hN := hN
 low := fun w s w' h hb => ⟨h.1.below hb, h.2⟩
 int := fun s _ => un_in64 (u s)
 next := fun w s h => next_gen h hN
 over := fun w s h => (over_any h.1).mono fun e w' ⟨a, b⟩ => ⟨a, by rw [b]; exact Below.refl _ _⟩
theorem open_num (p : Value) (s : ByteArray) (hs : s.size ≤ 100000) (w : World) : Calls Tryz.prog 142 #[p, .int .i64 0, .string s] w fun e w1 => ∃ q, e = .returned (.tuple #[.pointer (some ⟨q, 0, none⟩), .int .i64 0]) ∧ Mach w.heap.size q ByteArray (NumS q) (fun s => ((un 0 0 (u s)).1 : Nat)) (fun s => ((un 0 0 (u s)).2.2 : Nat)) (fun s => s.extract (un 0 0 (u s)).2.1 s.size) (fun s => s.toList.isEmpty) ∧ NumS q w1 s ∧ Below w.heap.size w w1 :=
 (open_zero p s w).mono fun e w1 ⟨a, b, c⟩ => ⟨_, a, mach_num (Nat.le_refl _), ⟨b, hs⟩, c⟩
structure SrcC (q h g : Nat) (L : List Int) (b : ByteArray) (A : Nat → Option Addr) (c : Nat → Nat) (w : World) (a : Nat) : Prop where
 c1 : w.cell? ⟨q, 1, none⟩ = some (.pointer (some ⟨h, 0, none⟩))
 c2 : w.cell? ⟨q, 2, none⟩ = some (.pointer (some ⟨g, 0, none⟩))
 c3 : ∃ v, w.cell? ⟨q, 3, none⟩ = some v
 f3 : w.frozen? ⟨q, 3, none⟩ = false
 rd : RdAt w g b a
 tb : TabV w h g L A c
 ha : a ≤ 8 * b.size
theorem SrcC.lt {q h g : Nat} {L : List Int} {b : ByteArray} {A : Nat → Option Addr} {c : Nat → Nat} {w : World} {a : Nat} (H : SrcC q h g L b A c w a) : q < w.heap.size := World.block_lt_of_cell? w _ H.c1
theorem SrcC.below {q h g : Nat} {L : List Int} {b : ByteArray} {A : Nat → Option Addr} {c : Nat → Nat} {w w1 : World} {a : Nat} (H : SrcC q h g L b A c w a) (hb : Below w.heap.size w w1) : SrcC q h g L b A c w1 a :=
 ⟨pw_cell_below hb H.c1, pw_cell_below hb H.c2, by obtain ⟨v, hv⟩ := H.c3; exact ⟨v, pw_cell_below hb hv⟩, (hb.frozen (p := ⟨q, 3, none⟩) H.lt).trans H.f3, H.rd.below hb, H.tb.below hb, H.ha⟩
theorem keep_cell {w w1 : World} {g q : Nat} (hk : KeepBut w w1 g none) (hq : q < w.heap.size) (hne : q ≠ g) (i : Nat) : w1.cell? ⟨q, i, none⟩ = w.cell? ⟨q, i, none⟩ ∧ w1.frozen? ⟨q, i, none⟩ = w.frozen? ⟨q, i, none⟩ :=
 ⟨World.cell?_of_block (hk.2 q hq hne (by simp)), World.frozen?_of_block (hk.2 q hq hne (by simp))⟩
theorem nextc_gen {q h g N : Nat} {L : List Int} {b : ByteArray} {A : Nat → Option Addr} {c : Nat → Nat} {w : World} {a : Nat} (H : SrcC q h g L b A c w a) (h0 : cright L = 0) (hL : L.length ≤ 2000) (hb : b.size ≤ 100000) (hNg : N ≤ g) (hgq : g < q) :
  Calls Tryz.prog 143 #[.pointer (some ⟨q, 0, none⟩)] w fun e w' => e = .returned (.int .i64 (nextT L b a).1) ∧ w'.cell? ⟨q, 3, none⟩ = some (.int .i64 (nextT L b a).2.1) ∧ ((nextT L b a).2.1 = 0 → SrcC q h g L b A c w' (a + (nextT L b a).2.2)) ∧ Below N w w' := by
 have HS := Aside0.mk H
 have HNX := Aside0.mk (fun (W : World) (hT : TabV W h g L A c) (hR : RdAt W g b a) => tnext_calls hT hR h0 hL hb H.ha)
 have HOK := Aside0.mk (nextF_ok L b a (8 * b.size - a) (maxL L).toNat 1)
 have HG := Aside0.mk (show N ≤ g ∧ g < q ∧ q < w.heap.size ∧ a ≤ 8 * b.size from ⟨hNg, hgq, H.lt, H.ha⟩)
 have c1 := H.c1
 have c2 := H.c2
 obtain ⟨v3, c3⟩ := H.c3
 have f3 := H.f3
 have k1 : w.drew.cell? ⟨q, 1, none⟩ = some (.pointer (some ⟨h, 0, none⟩)) := c1
 have k2 : w.drew.cell? ⟨q, 2, none⟩ = some (.pointer (some ⟨g, 0, none⟩)) := c2
 clear H h0 hL hb hNg hgq
 go_enter Tryz.func143, Tryz.ntmps143
 go_wp2_with fail
 go_region_held3 (fun w' => w'.cell? ⟨q, 1, none⟩ = some (.pointer (some ⟨h, 0, none⟩)) ∧ w'.cell? ⟨q, 2, none⟩ = some (.pointer (some ⟨g, 0, none⟩)))
  (first | exact ⟨k1, k2⟩ | exact ⟨k3, k4⟩ | exact ⟨(World.cell?_setCell_other _ _ _ _ (by simp)).trans k3, (World.cell?_setCell_other _ _ _ _ (by simp)).trans k4⟩)
  (first | (go_at_call 183; refine (HNX.out _ (HS.out.tb.below (below_drew (Below.refl _ _))) (HS.out.rd.below (below_drew (Below.refl _ _)))).mono ?_; rintro e w4 ⟨rfl, hr4, ht4, hk4, hb4⟩; have HR4 := Aside0.mk hr4; have HT4 := Aside0.mk ht4; have HB4 := Aside0.mk hb4; have kc := keep_cell (q := q) hk4 HG.out.2.2.1 (fun e => absurd HG.out.2.1 (by omega)); have k3 : w4.cell? ⟨q, 1, none⟩ = some (.pointer (some ⟨h, 0, none⟩)) := (kc 1).1.trans k1; have k4 : w4.cell? ⟨q, 2, none⟩ = some (.pointer (some ⟨g, 0, none⟩)) := (kc 2).1.trans k2; have k7 : w4.cell? ⟨q, 3, none⟩ = some v3 := (kc 3).1.trans c3; have k8 : w4.frozen? ⟨q, 3, none⟩ = false := (kc 3).2.trans f3; clear hr4 ht4 hb4 hk4 kc))
 go_wp2
 go_ret
 have hne : g ≠ q := by have := HG.out.2.1; omega
 have hq : ∀ i, (⟨q, 3, none⟩ : Addr) ≠ ⟨g, i, none⟩ := fun i e => hne (by injection e with e1 _ _; exact e1.symm)
 refine ⟨rfl, World.cell?_setCell_same _ _ _ k7, fun hz => ⟨(World.cell?_setCell_other _ _ _ _ (by simp)).trans k3, (World.cell?_setCell_other _ _ _ _ (by simp)).trans k4, ⟨_, World.cell?_setCell_same _ _ _ k7⟩, ?_, ⟨?_, ?_, ?_⟩, HT4.out.low ((Below.refl g w4).setCell (Nat.le_of_lt HG.out.2.1) _), ?_⟩, ?_⟩
 ·rw [World.frozen?_setCell]; exact k8
 ·exact (World.cell?_setCell_other _ _ _ _ (hq 0)).trans HR4.out.c0
 ·exact (World.cell?_setCell_other _ _ _ _ (hq 1)).trans HR4.out.c1
 ·rw [World.frozen?_setCell]; exact HR4.out.f1
 ·have h1 := (HOK.out.1 hz).2.2.2
  have h2 := HG.out.2.2.2
  show a + (nextF L b a (8 * b.size - a) (maxL L).toNat 1).2.2 ≤ 8 * b.size
  omega
 ·have h1 := HG.out
  exact ((below_drew (Below.refl N w)).trans (HB4.out.mono h1.1)).setCell (by show N ≤ q; omega) _
theorem overc_gen {q h g : Nat} {L : List Int} {b : ByteArray} {A : Nat → Option Addr} {c : Nat → Nat} {w : World} {a : Nat} (H : SrcC q h g L b A c w a) (hb : b.size ≤ 100000) :
  Calls Tryz.prog 145 #[.pointer (some ⟨q, 0, none⟩)] w fun e w' => e = .returned (.bool (decide (8 * b.size - a < 8 ∧ peekV b a (8 * b.size - a) = 0))) ∧ Below w.heap.size w w' := by
 have HR := Aside0.mk (rest_calls H.rd hb H.ha)
 have c1 := H.c1
 have c2 := H.c2
 generalize decide (8 * b.size - a < 8 ∧ peekV b a (8 * b.size - a) = 0) = y at HR ⊢
 clear H hb
 go_enter Tryz.func145, Tryz.ntmps145
 go_wp2_with fail
 refine HR.out.mono ?_
 rintro e w2 ⟨rfl, hb2⟩
 have HB2 := Aside0.mk hb2.below
 clear hb2
 go_wp2_with fail
 go_ret
 exact ⟨rfl, HB2.out⟩
theorem mach_code {q h g N : Nat} {L : List Int} {b : ByteArray} {A : Nat → Option Addr} {c : Nat → Nat} (h0 : cright L = 0) (hL : L.length ≤ 2000) (hb : b.size ≤ 100000) (hNg : N ≤ g) (hgq : g < q) :
  Mach N q Nat (SrcC q h g L b A c) (fun a => (nextT L b a).1) (fun a => (nextT L b a).2.1) (fun a => a + (nextT L b a).2.2) (fun a => decide (8 * b.size - a < 8 ∧ peekV b a (8 * b.size - a) = 0)) where
 hN := by omega
 low := fun w s w' h hb => h.below hb
 int := fun a h => by
  have h1 := (nextF_ok L b a (8 * b.size - a) (maxL L).toNat 1).1 h
  have h2 : 0 ≤ (nextT L b a).1 := h1.1
  have h3 : (nextT L b a).1 < (L.length : Int) := h1.2.1
  unfold In64
  omega
 next := fun w a H => nextc_gen H h0 hL hb hNg hgq
 over := fun w a H => overc_gen H hb
end Go.Proofs.YtepgkimlmoikmaaGreat
namespace Go.Proofs.YtepgkimlmoikmaaGreat
open Go.RowKit Go.Proofs.YtepgkimlmoikmaaGreat.Spec Go.Proofs.YtepgkimlmoikmaaGreatW.PrintWords Go.Proofs.YtepgkimlmoikmaaGreatW.PrintLast
open Go.Proofs.YtepgkimlmoikmaaGreatW.PrintMore
attribute [local go_sem ↓] Go.wp_at_zero Go.wp_at_succ
theorem all_calls {w : World} {p : Value} {l : List ByteArray} (hd : DictN w p l) (hl : l.length ≤ 1000) : Calls Tryz.prog 148 #[p] w fun e w' => e = .returned (.int .i64 ((256 + l.length : Nat) : Int)) ∧ Below w.heap.size w w' := by
 have HL : Aside0 (Calls Tryz.prog 188 #[p] w fun e w' => e = .returned (.int .i64 l.length) ∧ Below w.heap.size w w') := ⟨by
  rcases hd.out with h | ⟨rfl, rfl⟩
  ·exact len_any h (by omega)
  ·exact (len_nil w).mono fun e w' ⟨a, b⟩ => ⟨a, by rw [b]; exact Below.refl _ _⟩⟩
 have q1 : wrap64 (256 + (l.length : Int)) = ((256 + l.length : Nat) : Int) := by rw [Bridge.wr (by omega) (by omega)]; omega
 clear hd hl
 go_enter Tryz.func148, Tryz.ntmps148
 go_wp2_with fail
 refine HL.out.mono ?_
 rintro e w2 ⟨rfl, hb2⟩
 have HB2 := Aside0.mk hb2
 clear hb2
 go_wp2_with fail
 go_ret
 refine ⟨?_, HB2.out⟩
 show Ending.returned (.int .i64 (wrap64 (256 + (l.length : Int)))) = _
 rw [q1]
theorem nread_calls (b : ByteArray) (w : World) : Calls Tryz.prog 182 #[.string b] w fun e w' => e = .returned (.pointer (some ⟨w.heap.size, 0, none⟩)) ∧ RdAt w' w.heap.size b 0 ∧ w.heap.size < w'.heap.size ∧ Below w.heap.size w w' := by
 go_enter Tryz.func182, Tryz.ntmps182
 go_wp2
 go_ret
 have hh : (w.alloc (.cells #[.string b, .int .i64 0] 264)).heap[w.heap.size]? = some (.cells #[.string b, .int .i64 0] 264 (0, 0)) := heap_alloc_new _ _
 exact ⟨rfl, ⟨blk_cell hh 0, blk_cell hh 1, blk_frozen hh 1⟩, blk_lt hh, (Below.refl _ _).alloc (Nat.le_refl _) _⟩
namespace Spec
def lensOf (l : List ByteArray) (pay : ByteArray) : List Int × Int × Int := TabB.getS pay ((256 + l.length : Nat) : Int)
end Spec
theorem openc_e1 {w : World} {p : Value} {l : List ByteArray} (hd : DictN w p l) (hl : l.length ≤ 100) (pay : ByteArray) (hp : pay.size ≤ 100000) (he : (lensOf l pay).2.2 ≠ 0) :
  Calls Tryz.prog 142 #[p, .int .i64 1, .string pay] w fun e w1 => e = .returned (.tuple #[.pointer none, .int .i64 (lensOf l pay).2.2]) ∧ Below w.heap.size w w1 := by
 have HA := Aside0.mk (all_calls hd (by omega))
 have HG := Aside0.mk (fun W => TabB.tget_calls pay (by omega) ((256 + l.length : Nat) : Int) W)
 change Aside0 (∀ W, Calls Tryz.prog 180 #[.string pay, .int .i64 ((256 + l.length : Nat) : Int)] W fun e w' => ∃ (A : Option Addr) (c : Nat), e = .returned (.tuple #[.slice A (lensOf l pay).1.length c, .int .i64 (lensOf l pay).2.1, .int .i64 (lensOf l pay).2.2]) ∧ (lensOf l pay).1.length ≤ c ∧ IntsIn w' A (lensOf l pay).1 ∧ Below W.heap.size W w') at HG
 generalize lensOf l pay = T at *
 have e1 : (T.2.2 == 0) = false := beq_eq_false_iff_ne.2 he
 have e2 : (T.2.2 = 0) = False := eq_false he
 generalize T.2.2 = z at *
 clear hd hl hp he
 go_enter Tryz.func142, Tryz.ntmps142
 go_wp2_with fail
 refine HA.out.mono ?_
 rintro e w2 ⟨rfl, hb2⟩
 have HB2 := Aside0.mk hb2
 clear hb2
 go_wp2_with fail
 refine (HG.out _).mono ?_
 rintro e w3 ⟨A3, c3, rfl, hc3, hC3, hb3⟩
 have HB3 := Aside0.mk (below_step HB2.out hb3)
 clear hc3 hC3 hb3
 go_wp2_with fail
 go_ret2
 exact ⟨rfl, HB3.out⟩
theorem openc_e2 {w : World} {p : Value} {l : List ByteArray} (hd : DictN w p l) (hl : l.length ≤ 100) (pay : ByteArray) (hp : pay.size ≤ 100000) (he : (lensOf l pay).2.2 = 0) (h0 : cright (lensOf l pay).1 ≠ 0) :
  Calls Tryz.prog 142 #[p, .int .i64 1, .string pay] w fun e w1 => e = .returned (.tuple #[.pointer none, .int .i64 (cright (lensOf l pay).1)]) ∧ Below w.heap.size w w1 := by
 have HA := Aside0.mk (all_calls hd (by omega))
 have HG := Aside0.mk (fun W => TabB.tget_calls pay (by omega) ((256 + l.length : Nat) : Int) W)
 change Aside0 (∀ W, Calls Tryz.prog 180 #[.string pay, .int .i64 ((256 + l.length : Nat) : Int)] W fun e w' => ∃ (A : Option Addr) (c : Nat), e = .returned (.tuple #[.slice A (lensOf l pay).1.length c, .int .i64 (lensOf l pay).2.1, .int .i64 (lensOf l pay).2.2]) ∧ (lensOf l pay).1.length ≤ c ∧ IntsIn w' A (lensOf l pay).1 ∧ Below W.heap.size W w') at HG
 have hlen := ((TabB.getS_ok pay (256 + l.length) (by omega)).2 he).1
 change (lensOf l pay).1.length = 256 + l.length at hlen
 generalize lensOf l pay = T at *
 have HN := Aside0.mk (fun (W : World) (A : Option Addr) (c : Nat) (hr : IntsIn W A T.1) (hc : T.1.length ≤ c) => tnew_no T.1 hr hc (by omega) h0)
 rw [he] at HG
 have e1 : (cright T.1 == 0) = false := beq_eq_false_iff_ne.2 h0
 have e2 : (cright T.1 = 0) = False := eq_false h0
 generalize cright T.1 = z at *
 clear hd hl hp he hlen h0
 go_enter Tryz.func142, Tryz.ntmps142
 go_wp2_with fail
 refine HA.out.mono ?_
 rintro e w2 ⟨rfl, hb2⟩
 have HB2 := Aside0.mk hb2
 clear hb2
 go_wp2_with fail
 refine (HG.out _).mono ?_
 rintro e w3 ⟨A3, c3, rfl, hc3, hC3, hb3⟩
 have HB3 := Aside0.mk (below_step HB2.out hb3)
 have HC3 := Aside0.mk hC3
 have HCC3 := Aside0.mk hc3
 clear hc3 hC3 hb3
 go_wp2_with fail
 refine (HN.out _ _ _ HC3.out HCC3.out).mono ?_
 rintro e w4 ⟨rfl, hb4⟩
 have HB4 := Aside0.mk (below_step HB3.out hb4)
 clear hb4
 go_wp2_with fail
 go_ret2
 exact ⟨rfl, HB4.out⟩
theorem openc_ok {w : World} {p : Value} {l : List ByteArray} (hd : DictN w p l) (hl : l.length ≤ 100) (pay : ByteArray) (hp : pay.size ≤ 100000) (he : (lensOf l pay).2.2 = 0) (h0 : cright (lensOf l pay).1 = 0) :
  Calls Tryz.prog 142 #[p, .int .i64 1, .string pay] w fun e w1 => ∃ q, e = .returned (.tuple #[.pointer (some ⟨q, 0, none⟩), .int .i64 0]) ∧ (∃ h g A c, w.heap.size ≤ g ∧ g < q ∧ SrcC q h g (lensOf l pay).1 (pay.extract (lensOf l pay).2.1.toNat pay.size) A c w1 0) ∧ Below w.heap.size w w1 := by
 have HA := Aside0.mk (all_calls hd (by omega))
 have HG := Aside0.mk (fun W => TabB.tget_calls pay (by omega) ((256 + l.length : Nat) : Int) W)
 change Aside0 (∀ W, Calls Tryz.prog 180 #[.string pay, .int .i64 ((256 + l.length : Nat) : Int)] W fun e w' => ∃ (A : Option Addr) (c : Nat), e = .returned (.tuple #[.slice A (lensOf l pay).1.length c, .int .i64 (lensOf l pay).2.1, .int .i64 (lensOf l pay).2.2]) ∧ (lensOf l pay).1.length ≤ c ∧ IntsIn w' A (lensOf l pay).1 ∧ Below W.heap.size W w') at HG
 obtain ⟨hlen, _, k, hk, hks⟩ := (TabB.getS_ok pay (256 + l.length) (by omega)).2 he
 change (lensOf l pay).1.length = 256 + l.length at hlen
 change (lensOf l pay).2.1 = (k : Int) at hk
 generalize lensOf l pay = T at *
 have HN := Aside0.mk (fun (W : World) (A : Option Addr) (c : Nat) (hr : IntsIn W A T.1) (hc : T.1.length ≤ c) => tnew_yes T.1 hr hc (by omega) h0)
 rw [he, hk] at HG
 rw [hk, Int.toNat_natCast]
 have p1 : ¬ pay.size < k := by omega
 have p2 : k ≤ pay.size := hks
 have p3 : (k : Int) ≤ (pay.size : Int) := by omega
 clear hd hl hp he hlen h0 hk hks
 go_enter Tryz.func142, Tryz.ntmps142
 go_wp2_with fail
 refine HA.out.mono ?_
 rintro e w2 ⟨rfl, hb2⟩
 have HB2 := Aside0.mk hb2
 clear hb2
 go_wp2_with fail
 refine (HG.out _).mono ?_
 rintro e w3 ⟨A3, c3, rfl, hc3, hC3, hb3⟩
 have HB3 := Aside0.mk (below_step HB2.out hb3)
 have HC3 := Aside0.mk hC3
 have HCC3 := Aside0.mk hc3
 clear hc3 hC3 hb3
 go_wp2_with fail
 refine (HN.out _ _ _ HC3.out HCC3.out).mono ?_
 rintro e w4 ⟨h, rfl, ⟨A, c, ht⟩, hh, hb4⟩
 have HB4 := Aside0.mk (below_step HB3.out hb4)
 have HT4 := Aside0.mk (TabV.of ht)
 clear hb4 ht hh
 go_wp2_with fail
 refine (nread_calls _ _).mono ?_
 rintro e w5 ⟨rfl, hr5, hlt5, hb5⟩
 have HB5 := Aside0.mk (below_step HB4.out hb5)
 have HT5 := Aside0.mk (HT4.out.below hb5)
 have HR5 := Aside0.mk hr5
 have HLT := Aside0.mk hlt5
 clear hr5 hlt5 hb5
 go_wp2_with fail
 go_ret2
 have hn : (w5.alloc (.cells #[.string ⟨#[]⟩, .pointer (some ⟨h, 0, none⟩), .pointer (some ⟨w4.heap.size, 0, none⟩), .int .i64 0] 201)).heap[w5.heap.size]? = some (.cells #[.string ⟨#[]⟩, .pointer (some ⟨h, 0, none⟩), .pointer (some ⟨w4.heap.size, 0, none⟩), .int .i64 0] 201 (0, 0)) := heap_alloc_new _ _
 have hb6 : Below w5.heap.size w5 (w5.alloc (.cells #[.string ⟨#[]⟩, .pointer (some ⟨h, 0, none⟩), .pointer (some ⟨w4.heap.size, 0, none⟩), .int .i64 0] 201)) := below_alloc (Below.refl _ _) _
 exact ⟨_, rfl, ⟨h, w4.heap.size, A, c, HB4.out.size, HLT.out, ⟨blk_cell hn 1, blk_cell hn 2, ⟨_, blk_cell hn 3⟩, blk_frozen hn 3, HR5.out.below hb6, HT5.out.below hb6, Nat.zero_le _⟩⟩, below_alloc HB5.out _⟩
end Go.Proofs.YtepgkimlmoikmaaGreat
namespace Go.Proofs.YtepgkimlmoikmaaGreat
open Go.RowKit Go.Proofs.YtepgkimlmoikmaaGreat.Spec Go.Proofs.YtepgkimlmoikmaaGreatW.PrintWords Go.Proofs.YtepgkimlmoikmaaGreatW.PrintLast
open Go.Proofs.YtepgkimlmoikmaaGreatW.PrintMore
attribute [local go_sem ↓] Go.wp_at_zero Go.wp_at_succ
namespace Spec
def numR (l : List ByteArray) (raw : Nat) (pay : ByteArray) : ByteArray × Int := meanM (fun s : ByteArray => ((un 0 0 (u s)).1 : Nat)) (fun s => ((un 0 0 (u s)).2.2 : Nat)) (fun s => s.extract (un 0 0 (u s)).2.1 s.size) (fun s => s.toList.isEmpty) l raw raw ⟨#[]⟩ pay
def codR (l : List ByteArray) (L : List Int) (raw : Nat) (b : ByteArray) : ByteArray × Int := meanM (fun a : Nat => (nextT L b a).1) (fun a => (nextT L b a).2.1) (fun a => a + (nextT L b a).2.2) (fun a => decide (8 * b.size - a < 8 ∧ peekV b a (8 * b.size - a) = 0)) l raw raw ⟨#[]⟩ 0
def meantR (l : List ByteArray) (how : Int) (raw : Nat) (pay : ByteArray) : ByteArray × Int :=
 if how = 0 then numR l raw pay else if (lensOf l pay).2.2 ≠ 0 then (⟨#[]⟩, (lensOf l pay).2.2) else if cright (lensOf l pay).1 ≠ 0 then (⟨#[]⟩, cright (lensOf l pay).1)
 else codR l (lensOf l pay).1 raw (pay.extract (lensOf l pay).2.1.toNat pay.size)
def getR (l : List ByteArray) (how kind raw : Int) (pay : ByteArray) : ByteArray × Int :=
 if ¬ (0 ≤ how ∧ how ≤ 1) ∨ ¬ (kind = 1 ∨ kind = 2) ∨ ¬ (1 ≤ raw ∧ raw ≤ 1024) then (⟨#[]⟩, 1) else if kind = 2 then meantR l how raw.toNat pay else if (pay.size : Int) ≠ raw then (⟨#[]⟩, 12) else (pay, 0)
end Spec
theorem meant_err {p : Value} {how z : Int} {raw : Nat} {pay : ByteArray} {w : World} (hz : z ≠ 0)
  (HO : Calls Tryz.prog 142 #[p, .int .i64 how, .string pay] w fun e w1 => e = .returned (.tuple #[.pointer none, .int .i64 z]) ∧ Below w.heap.size w w1) :
  Calls Tryz.prog 97 #[p, .int .i64 how, .int .i64 (raw : Int), .string pay] w fun e w' => e = .returned (.tuple #[.string ⟨#[]⟩, .int .i64 z]) ∧ Below w.heap.size w w' := by
 have HOP := Aside0.mk HO
 have e1 : (z == 0) = false := beq_eq_false_iff_ne.2 hz
 have e2 : (z = 0) = False := eq_false hz
 clear HO hz
 go_enter Tryz.func97, Tryz.ntmps97
 go_wp2_with fail
 refine HOP.out.mono ?_
 rintro e w2 ⟨rfl, hb2⟩
 have HB2 := Aside0.mk hb2
 clear hb2
 go_wp2_with fail
 go_ret2
 exact ⟨rfl, HB2.out⟩
theorem meant_any {p : Value} {l : List ByteArray} {how : Int} {pay : ByteArray} {raw : Nat} {w : World} (hd : DictN w p l) (hl : l.length ≤ 100) (hs : ∀ s ∈ l, 1 ≤ s.size ∧ s.size ≤ 40) (hraw : raw ≤ 10000) (hp : pay.size ≤ 100000) (hh : how = 0 ∨ how = 1) :
  Calls Tryz.prog 97 #[p, .int .i64 how, .int .i64 (raw : Int), .string pay] w fun e w' => e = .returned (.tuple #[.string (meantR l how raw pay).1, .int .i64 (meantR l how raw pay).2]) ∧ Below w.heap.size w w' := by
 rcases hh with rfl | rfl
 ·unfold meantR
  rw [if_pos rfl]
  unfold numR
  exact meant_run pay hd (by omega) hs hraw ((open_num p pay hp w).mono fun e w1 ⟨q, a, b, c, d⟩ => ⟨q, a, ⟨_, b, c⟩, d⟩)
 ·unfold meantR
  rw [if_neg (by decide)]
  by_cases h1 : (lensOf l pay).2.2 = 0
  ·rw [if_neg (fun n => n h1)]
   by_cases h2 : cright (lensOf l pay).1 = 0
   ·rw [if_neg (fun n => n h2)]
    unfold codR
    obtain ⟨hlen, _, k, hk, hks⟩ := (TabB.getS_ok pay (256 + l.length) (by omega)).2 h1
    change (lensOf l pay).1.length = 256 + l.length at hlen
    have hsz : (pay.extract (lensOf l pay).2.1.toNat pay.size).size ≤ 100000 := by rw [ByteArray.size_extract]; omega
    exact meant_run 0 hd (by omega) hs hraw ((openc_ok hd hl pay hp h1 h2).mono fun e w1 ⟨q, a, ⟨h, g, A, c, k1, k2, k3⟩, d⟩ => ⟨q, a, ⟨_, mach_code h2 (by omega) hsz k1 k2, k3⟩, d⟩)
   ·rw [if_pos h2]
    exact meant_err h2 (openc_e2 hd hl pay hp h1 h2)
  ·rw [if_pos h1]
   exact meant_err h1 (openc_e1 hd hl pay hp h1)
theorem coded_calls (x : Int) (w : World) : Calls Tryz.prog 75 #[.int .i64 x] w fun e w' => e = .returned (.bool (decide (0 ≤ x ∧ x ≤ 1))) ∧ Drawn0 w w' := by
 refine Leaf.block_coded.calls x _ w ?_
 unfold Leaf.block_coded.f
 split
 ·rename_i h; subst h; rfl
 ·congr 1
  rw [Bool.eq_iff_iff, beq_iff_eq, decide_eq_true_iff]
  omega
theorem sized_calls (x : Int) (w : World) : Calls Tryz.prog 76 #[.int .i64 x] w fun e w' => e = .returned (.bool (decide (1 ≤ x ∧ x ≤ 1024))) ∧ Drawn0 w w' := by
 refine Leaf.block_size.calls x _ w ?_
 unfold Leaf.block_size.f
 split
 ·congr 1
  rw [decide_eq_decide]
  omega
 ·congr 1
  symm
  rw [decide_eq_false_iff_not]
  omega
set_option maxHeartbeats 4000000 in
theorem get_any {p : Value} {l : List ByteArray} {how kind raw : Int} {pay : ByteArray} {w : World} (hd : DictN w p l) (hl : l.length ≤ 100) (hs : ∀ s ∈ l, 1 ≤ s.size ∧ s.size ≤ 40) (hp : pay.size ≤ 100000) :
  Calls Tryz.prog 30 #[p, .int .i64 how, .int .i64 kind, .int .i64 raw, .string pay] w fun e w' => e = .returned (.tuple #[.string (getR l how kind raw pay).1, .int .i64 (getR l how kind raw pay).2]) ∧ Below w.heap.size w w' := by
 have HC := Aside0.mk (coded_calls how w)
 have HZ := Aside0.mk (fun W => sized_calls raw W)
 have HD := Aside0.mk hd
 by_cases h1 : 0 ≤ how ∧ how ≤ 1
 ·rw [decide_eq_true h1] at HC
  by_cases h2 : kind = 1 ∨ kind = 2
  ·by_cases h3 : 1 ≤ raw ∧ raw ≤ 1024
   ·rw [decide_eq_true h3] at HZ
    obtain ⟨rn, rfl⟩ : ∃ n : Nat, raw = n := ⟨raw.toNat, by omega⟩
    have HM := Aside0.mk (fun (W : World) (hd : DictN W p l) => meant_any (how := how) (raw := rn) hd hl hs (by omega) hp (by omega))
    have hg : getR l how kind rn pay = if kind = 2 then meantR l how rn pay else if (pay.size : Int) ≠ rn then (⟨#[]⟩, 12) else (pay, 0) := by
     unfold getR
     rw [if_neg (by omega), Int.toNat_natCast]
    rw [hg]
    rcases h2 with rfl | rfl
    ·rw [if_neg (by decide)]
     by_cases h4 : pay.size = rn
     ·rw [if_neg (fun n => n (by omega))]
      have e1 : ((pay.size : Int) == (rn : Int)) = true := beq_iff_eq.2 (by omega)
      have e2 : (pay.size == rn) = true := beq_iff_eq.2 h4
      subst h4
      clear hd hl hs hp h1 h3 hg
      go_enter Tryz.func30, Tryz.ntmps30
      go_wp2_with fail
      refine HC.out.mono ?_
      rintro e w2 ⟨rfl, hb2⟩
      have HB2 := Aside0.mk hb2
      clear hb2
      go_wp2_with fail
      refine (HZ.out _).mono ?_
      rintro e w3 ⟨rfl, hb3⟩
      have HB3 := Aside0.mk (Drawn0.trans HB2.out hb3)
      clear hb3
      go_wp2_with fail
      go_ret2
      exact ⟨rfl, HB3.out.below⟩
     ·rw [if_pos (fun n => h4 (by omega))]
      have e1 : ((pay.size : Int) == (rn : Int)) = false := beq_eq_false_iff_ne.2 (by omega)
      have e2 : (pay.size == rn) = false := beq_eq_false_iff_ne.2 h4
      have e3 : ¬ pay.size = rn := h4
      clear hd hl hs hp h1 h3 hg
      go_enter Tryz.func30, Tryz.ntmps30
      go_wp2_with fail
      refine HC.out.mono ?_
      rintro e w2 ⟨rfl, hb2⟩
      have HB2 := Aside0.mk hb2
      clear hb2
      go_wp2_with fail
      refine (HZ.out _).mono ?_
      rintro e w3 ⟨rfl, hb3⟩
      have HB3 := Aside0.mk (Drawn0.trans HB2.out hb3)
      clear hb3
      go_wp2_with fail
      go_ret2
      exact ⟨rfl, HB3.out.below⟩
    ·rw [if_pos rfl]
     clear hd hl hs hp h1 h3 hg
     go_enter Tryz.func30, Tryz.ntmps30
     go_wp2_with fail
     refine HC.out.mono ?_
     rintro e w2 ⟨rfl, hb2⟩
     have HB2 := Aside0.mk hb2
     clear hb2
     go_wp2_with fail
     refine (HZ.out _).mono ?_
     rintro e w3 ⟨rfl, hb3⟩
     have HB3 := Aside0.mk (Drawn0.trans HB2.out hb3)
     clear hb3
     go_wp2_with fail
     refine (HM.out _ (HD.out.below HB3.out.below)).mono ?_
     rintro e w4 ⟨rfl, hb4⟩
     have HB4 := Aside0.mk (below_step HB3.out.below hb4)
     clear hb4
     go_wp2_with fail
     go_ret2
     exact ⟨rfl, HB4.out⟩
   ·rw [decide_eq_false h3] at HZ
    have hg : getR l how kind raw pay = (⟨#[]⟩, 1) := by unfold getR; rw [if_pos (.inr (.inr h3))]
    rw [hg]
    rcases h2 with rfl | rfl
    ·clear hd hl hs hp h1 h3 hg
     go_enter Tryz.func30, Tryz.ntmps30
     go_wp2_with fail
     refine HC.out.mono ?_
     rintro e w2 ⟨rfl, hb2⟩
     have HB2 := Aside0.mk hb2
     clear hb2
     go_wp2_with fail
     refine (HZ.out _).mono ?_
     rintro e w3 ⟨rfl, hb3⟩
     have HB3 := Aside0.mk (Drawn0.trans HB2.out hb3)
     clear hb3
     go_wp2_with fail
     go_ret2
     exact ⟨rfl, HB3.out.below⟩
    ·clear hd hl hs hp h1 h3 hg
     go_enter Tryz.func30, Tryz.ntmps30
     go_wp2_with fail
     refine HC.out.mono ?_
     rintro e w2 ⟨rfl, hb2⟩
     have HB2 := Aside0.mk hb2
     clear hb2
     go_wp2_with fail
     refine (HZ.out _).mono ?_
     rintro e w3 ⟨rfl, hb3⟩
     have HB3 := Aside0.mk (Drawn0.trans HB2.out hb3)
     clear hb3
     go_wp2_with fail
     go_ret2
     exact ⟨rfl, HB3.out.below⟩
  ·have hg : getR l how kind raw pay = (⟨#[]⟩, 1) := by unfold getR; rw [if_pos (.inr (.inl h2))]
   rw [hg]
   have k1 : (kind == 1) = false := beq_eq_false_iff_ne.2 (by omega)
   have k2 : (kind == 2) = false := beq_eq_false_iff_ne.2 (by omega)
   have k3 : ¬ kind = 1 := by omega
   have k4 : ¬ kind = 2 := by omega
   clear hd hl hs hp h1 h2 hg
   go_enter Tryz.func30, Tryz.ntmps30
   go_wp2_with fail
   refine HC.out.mono ?_
   rintro e w2 ⟨rfl, hb2⟩
   have HB2 := Aside0.mk hb2
   clear hb2
   go_wp2_with fail
   go_ret2
   exact ⟨rfl, HB2.out.below⟩
 ·rw [decide_eq_false h1] at HC
  have hg : getR l how kind raw pay = (⟨#[]⟩, 1) := by unfold getR; rw [if_pos (.inl h1)]
  rw [hg]
  clear hd hl hs hp h1 hg
  go_enter Tryz.func30, Tryz.ntmps30
  go_wp2_with fail
  refine HC.out.mono ?_
  rintro e w2 ⟨rfl, hb2⟩
  have HB2 := Aside0.mk hb2
  clear hb2
  go_wp2_with fail
  go_ret2
  exact ⟨rfl, HB2.out.below⟩
end Go.Proofs.YtepgkimlmoikmaaGreat
set_option linter.unusedVariables false
set_option linter.unusedSimpArgs false
namespace Go.Proofs.YtepgkimlmoikmaaGreat
open Go.RowKit Go.Proofs.YtepgkimlmoikmaaGreat.Spec Go.Proofs.YtepgkimlmoikmaaGreatW.PrintWords Go.Proofs.YtepgkimlmoikmaaGreatW.PrintLast
open Go.Proofs.YtepgkimlmoikmaaGreatW.PrintMore
namespace Spec
theorem peekV_zero (b : ByteArray) (a : Nat) : ∀ n, (peekV b a n = 0 ↔ ∀ i, i < n → bitAt b (a + i) = 0) := by
 intro n
 induction n with
 | zero => exact ⟨fun _ i hi => absurd hi (Nat.not_lt_zero i), fun _ => rfl⟩
 | succ n ih =>
  rw [peekV]
  constructor
  ·intro h i hi
   by_cases e : i = n
   ·subst e; omega
   ·exact (ih.1 (by omega)) i (by omega)
  ·intro h
   have h1 := ih.2 (fun i hi => h i (by omega))
   have h2 := h n (by omega)
   omega
theorem sym_back (l : List Int) (n : Nat) : ∀ s, s ≤ l.length → ∀ j x, (sym l n s)[j]? = some x → ∃ i : Nat, x = (i : Int) ∧ i < s ∧ l.getD i 0 = (n : Int) ∧ cnt (l.take i) (n : Int) = j := by
 intro s
 induction s with
 | zero => intro _ j x h; rw [sym_zero] at h; cases h
 | succ s ih =>
  intro hs j x h
  by_cases e : l.getD s 0 = (n : Int)
  ·rw [sym_go l n s e] at h
   by_cases hj : j < (sym l n s).length
   ·rw [List.getElem?_append_left hj] at h
    obtain ⟨i, h1, h2, h3, h4⟩ := ih (by omega) j x h
    exact ⟨i, h1, by omega, h3, h4⟩
   ·rw [List.getElem?_append_right (by omega)] at h
    have hj2 : j - (sym l n s).length = 0 := by
     rcases Nat.eq_zero_or_pos (j - (sym l n s).length) with g | g
     ·exact g
     ·rw [List.getElem?_eq_none (by rw [List.length_singleton]; omega)] at h
      cases h
    rw [hj2] at h
    have hx : x = (s : Int) := by
     have : some (s : Int) = some x := h
     exact (Option.some.inj this).symm
    refine ⟨s, hx, by omega, e, ?_⟩
    rw [← sym_cnt l n s (by omega)]
    omega
  ·rw [sym_skip l n s e] at h
   obtain ⟨i, h1, h2, h3, h4⟩ := ih (by omega) j x h
   exact ⟨i, h1, by omega, h3, h4⟩
theorem sym_get (l : List Int) (n i : Nat) (hi : i < l.length) (h : l.getD i 0 = (n : Int)) : ∀ s, i < s → s ≤ l.length → (sym l n s)[cnt (l.take i) (n : Int)]? = some (i : Int) := by
 intro s
 induction s with
 | zero => intro h; exact absurd h (Nat.not_lt_zero i)
 | succ s ih =>
  intro his hs
  by_cases e : i = s
  ·subst e
   rw [sym_go l n i h, ← sym_cnt l n i (by omega), List.getElem?_append_right (Nat.le_refl _), Nat.sub_self]
   rfl
  ·have h1 := ih (by omega) (by omega)
   by_cases g : l.getD s 0 = (n : Int)
   ·rw [sym_go l n s g, List.getElem?_append_left (List.getElem?_eq_some_iff.1 h1).1]
    exact h1
   ·rw [sym_skip l n s g]; exact h1
theorem hit_yes (l : List Int) (n i : Nat) (hn : 1 ≤ n ∧ n ≤ 15) (hi : i < l.length) (h : l.getD i 0 = (n : Int)) :
  0 ≤ cod l i - fst l n l.length ∧ cod l i - fst l n l.length < ((sym l n l.length).length : Int) ∧ (sym l n l.length).getD (cod l i - fst l n l.length).toNat 0 = (i : Int) := by
 have h1 := sym_get l n i hi h l.length hi (Nat.le_refl _)
 have h2 := (List.getElem?_eq_some_iff.1 h1).1
 have hne : sym l n l.length ≠ [] := by intro e; rw [e] at h2; exact absurd h2 (Nat.not_lt_zero _)
 have hc : cod l i - fst l n l.length = ((cnt (l.take i) (n : Int) : Nat) : Int) := by
  have hg := getD_at l i hi
  rw [h] at hg
  rw [cod_at l i n hi hn.1 hn.2 hg.symm]
  unfold fst
  rw [if_neg hne]
  omega
 rw [hc, Int.toNat_natCast, List.getD_eq_getElem?_getD, h1]
 exact ⟨by omega, by omega, rfl⟩
theorem hit_no (l : List Int) (n v : Nat) (hn : 1 ≤ n ∧ n ≤ 15) (hno : ∀ i, i < l.length → ¬ (l.getD i 0 = (n : Int) ∧ cod l i = (v : Int))) :
  ¬ (0 ≤ (v : Int) - fst l n l.length ∧ (v : Int) - fst l n l.length < ((sym l n l.length).length : Int)) := by
 rintro ⟨h1, h2⟩
 obtain ⟨j, hj⟩ : ∃ j : Nat, (v : Int) - fst l n l.length = (j : Int) := ⟨((v : Int) - fst l n l.length).toNat, by omega⟩
 have hlt : j < (sym l n l.length).length := by omega
 obtain ⟨i, e1, e2, e3, e4⟩ := sym_back l n l.length (Nat.le_refl _) j _ (List.getElem?_eq_getElem hlt)
 have hne : sym l n l.length ≠ [] := by intro e; rw [e] at hlt; exact absurd hlt (Nat.not_lt_zero _)
 have hg := getD_at l i e2
 rw [e3] at hg
 apply hno i e2
 refine ⟨e3, ?_⟩
 rw [cod_at l i n e2 hn.1 hn.2 hg.symm, e4]
 unfold fst at hj
 rw [if_neg hne] at hj
 omega
theorem maxL_ge (l : List Int) : ∀ x ∈ l, x ≤ maxL l := by
 have h : ∀ (r : List Int) (y : Int), y ≤ r.foldl max y ∧ ∀ x ∈ r, x ≤ r.foldl max y := by
  intro r
  induction r with
  | nil => intro y; exact ⟨Int.le_refl _, fun x hx => by cases hx⟩
  | cons z r ih =>
   intro y
   rw [List.foldl_cons]
   obtain ⟨h1, h2⟩ := ih (max y z)
   refine ⟨by omega, fun x hx => ?_⟩
   rcases List.mem_cons.1 hx with e | e
   ·subst e; omega
   ·exact h2 x e
 intro x hx
 cases l with
 | nil => cases hx
 | cons y r =>
  rw [maxL]
  rcases List.mem_cons.1 hx with e | e
  ·subst e; exact (h r x).1
  ·exact (h r y).2 x e
end Spec
end Go.Proofs.YtepgkimlmoikmaaGreat
set_option linter.unusedVariables false
set_option linter.unusedSimpArgs false
namespace Go.Proofs.YtepgkimlmoikmaaGreat
open Go.RowKit Go.Proofs.YtepgkimlmoikmaaGreat.Spec Go.Proofs.YtepgkimlmoikmaaGreatW.PrintWords Go.Proofs.YtepgkimlmoikmaaGreatW.PrintLast
open Go.Proofs.YtepgkimlmoikmaaGreatW.PrintMore
attribute [local go_sem ↓] Go.wp_at_zero Go.wp_at_succ
attribute [local go_sem] max2_int min2_int max_two min_two
namespace Spec
theorem preC_up (l : List Int) (n : Nat) : ∀ d, 2 ^ d * preC l n ≤ preC l (n + d)
 | 0 => by rw [Nat.pow_zero, Nat.one_mul]; exact Nat.le_refl _
 | d + 1 => by
  have h := preC_up l n d
  rw [show n + (d + 1) = (n + d) + 1 by omega, preC, Nat.pow_succ, Nat.mul_comm (2 ^ d) 2, Nat.mul_assoc]
  omega
theorem preC_cons (x : Int) (r : List Int) : ∀ n, preC (x :: r) n = preC r n + (if 1 ≤ x ∧ x ≤ (n : Int) then 2 ^ (n - x.toNat) else 0)
 | 0 => by rw [preC, preC, if_neg (by omega)]
 | n + 1 => by
  have hc : cnt (x :: r) ((n + 1 : Nat) : Int) = cnt r ((n + 1 : Nat) : Int) + (if x = ((n + 1 : Nat) : Int) then 1 else 0) := by
   unfold cnt
   rw [List.countP_cons]
   congr 1
   simp
  rw [preC, preC, preC_cons x r n, hc]
  by_cases h1 : x = ((n + 1 : Nat) : Int)
  ·subst h1
   rw [if_neg (by omega), if_pos rfl, if_pos (by omega), Int.toNat_natCast, Nat.sub_self]
   omega
  ·rw [if_neg h1]
   by_cases h2 : 1 ≤ x ∧ x ≤ (n : Int)
   ·rw [if_pos h2, if_pos (by omega), show n + 1 - x.toNat = (n - x.toNat) + 1 by omega, Nat.pow_succ]
    omega
   ·rw [if_neg h2, if_neg (by omega)]
    omega
theorem preC_kraft : ∀ l : List Int, preC l 15 = kraftL l
 | [] => by decide
 | x :: r => by rw [preC_cons, preC_kraft r, kraftL, Nat.add_comm]; rfl
theorem preC_le2 {l : List Int} (hk : kraftL l ≤ 32768) {n : Nat} (hn : n ≤ 15) : preC l n ≤ 2 ^ n := by
 have h := preC_up l n (15 - n)
 rw [show n + (15 - n) = 15 by omega, preC_kraft] at h
 have h2 : 2 ^ (15 - n) * 2 ^ n = 32768 := by rw [← Nat.pow_add, show 15 - n + n = 15 by omega]
 refine Nat.le_of_mul_le_mul_left (?_ : 2 ^ (15 - n) * preC l n ≤ 2 ^ (15 - n) * 2 ^ n) (Nat.two_pow_pos _)
 omega
def codN (l : List Int) (s : Nat) : Nat := (cod l s).toNat
theorem cod_here {l : List Int} {s n : Nat} (h : l[s]? = some (n : Int)) (h1 : 1 ≤ n) (h2 : n ≤ 15) : cod l s = ((2 * preC l (n - 1) + cnt (l.take s) (n : Int) : Nat) : Int) := by
 obtain ⟨hs, he⟩ := List.getElem?_eq_some_iff.1 h
 exact cod_at l s n hs h1 h2 he
theorem codN_cast {l : List Int} {s n : Nat} (h : l[s]? = some (n : Int)) (h1 : 1 ≤ n) (h2 : n ≤ 15) : ((codN l s : Nat) : Int) = cod l s := by
 unfold codN
 rw [cod_here h h1 h2, Int.toNat_natCast]
theorem cnt_lt {l : List Int} {s : Nat} {x : Int} (h : l[s]? = some x) : cnt (l.take s) x < cnt l x := by
 obtain ⟨hs, he⟩ := List.getElem?_eq_some_iff.1 h
 have h1 := cnt_take l x s hs
 rw [if_pos he] at h1
 have h2 : cnt (l.take (s + 1)) x ≤ cnt l x := by unfold cnt; exact List.Sublist.countP_le (List.take_sublist _ _)
 omega
theorem codN_lt {l : List Int} {s n : Nat} (h : l[s]? = some (n : Int)) (h1 : 1 ≤ n) (h2 : n ≤ 15) : codN l s < preC l n ∧ 2 * preC l (n - 1) ≤ codN l s := by
 unfold codN
 rw [cod_here h h1 h2, Int.toNat_natCast]
 have h3 := cnt_lt h
 obtain ⟨m, rfl⟩ : ∃ m, n = m + 1 := ⟨n - 1, by omega⟩
 rw [preC, Nat.add_sub_cancel]
 omega
theorem codN_pow {l : List Int} (hk : kraftL l ≤ 32768) {s n : Nat} (h : l[s]? = some (n : Int)) (h1 : 1 ≤ n) (h2 : n ≤ 15) : codN l s < 2 ^ n := Nat.lt_of_lt_of_le (codN_lt h h1 h2).1 (preC_le2 hk h2)
def Holds (b : ByteArray) (B : List Nat) : Prop := u b = (bytesB B).map UInt8.ofNat
theorem Holds.size {b : ByteArray} {B : List Nat} (h : Holds b B) : b.size = (B.length + 7) / 8 := by
 rw [← u_size, h, List.length_map, bytesB_len]
def codeB (l : List Int) (s : Nat) : List Nat := bitsOf (codN l s) (l.getD s 0).toNat
def codesB (l : List Int) (ns : List Nat) : List Nat := ns.flatMap (codeB l)
theorem codesB_app (l : List Int) (xs ys : List Nat) : codesB l (xs ++ ys) = codesB l xs ++ codesB l ys := List.flatMap_append
theorem codesB_one (l : List Int) (s : Nat) : codesB l [s] = codeB l s := by unfold codesB; rw [List.flatMap_cons, List.flatMap_nil, List.append_nil]
theorem codeB_len {l : List Int} {s m : Nat} (hs : l[s]? = some (m : Int)) : (codeB l s).length = m := by
 unfold codeB
 rw [bitsOf_len, List.getD_eq_getElem?_getD, hs]
 rfl
def Coded (l : List Int) (ns : List Nat) : Prop := ∀ s ∈ ns, ∃ m : Nat, l[s]? = some (m : Int) ∧ 1 ≤ m ∧ m ≤ 15
theorem codesB_len {l : List Int} : ∀ {ns : List Nat}, Coded l ns → (codesB l ns).length ≤ 15 * ns.length ∧ ns.length ≤ (codesB l ns).length
 | [], _ => ⟨Nat.le_refl _, Nat.le_refl _⟩
 | s :: r, h => by
  have ih := codesB_len (ns := r) fun x hx => h x (List.mem_cons_of_mem _ hx)
  obtain ⟨m, h1, h2, h3⟩ := h s (List.mem_cons_self ..)
  have hc : codesB l (s :: r) = codeB l s ++ codesB l r := List.flatMap_cons
  rw [hc, List.length_append, codeB_len h1, List.length_cons]
  omega
end Spec
end Go.Proofs.YtepgkimlmoikmaaGreat
set_option linter.unusedVariables false
set_option linter.unusedSimpArgs false
namespace Go.Proofs.YtepgkimlmoikmaaGreat
open Go.RowKit Go.Proofs.YtepgkimlmoikmaaGreat.Spec Go.Proofs.YtepgkimlmoikmaaGreatW.PrintWords Go.Proofs.YtepgkimlmoikmaaGreatW.PrintLast
open Go.Proofs.YtepgkimlmoikmaaGreatW.PrintMore
attribute [local go_sem ↓] Go.wp_at_zero Go.wp_at_succ
attribute [local go_sem] max2_int min2_int max_two min_two
namespace Spec
section
variable {σ : Type} {tok err : σ → Int} {step : σ → σ} {fin : σ → Bool}
end
end Spec
end Go.Proofs.YtepgkimlmoikmaaGreat
set_option linter.unusedVariables false
set_option linter.unusedSimpArgs false
namespace Go.Proofs.YtepgkimlmoikmaaGreat
open Go.RowKit Go.Proofs.YtepgkimlmoikmaaGreat.Spec Go.Proofs.YtepgkimlmoikmaaGreatW.PrintWords Go.Proofs.YtepgkimlmoikmaaGreatW.PrintLast
open Go.Proofs.YtepgkimlmoikmaaGreatW.PrintMore
attribute [local go_sem ↓] Go.wp_at_zero Go.wp_at_succ
attribute [local go_sem] max2_int min2_int max_two min_two
namespace Spec
end Spec
section
variable {l : List ByteArray} {how : Int} {blk : Nat} {B : ByteArray} {a : Nat} {out : ByteArray}
end
end Go.Proofs.YtepgkimlmoikmaaGreat
set_option linter.unusedVariables false
set_option linter.unusedSimpArgs false
namespace Go.Proofs.YtepgkimlmoikmaaGreat
open Go.RowKit Go.Proofs.YtepgkimlmoikmaaGreat.Spec Go.Proofs.YtepgkimlmoikmaaGreatW.PrintWords Go.Proofs.YtepgkimlmoikmaaGreatW.PrintLast
open Go.Proofs.YtepgkimlmoikmaaGreatW.PrintMore
attribute [local go_sem ↓] Go.wp_at_zero Go.wp_at_succ
attribute [local go_sem] max2_int min2_int max_two min_two
structure Mv (g : Nat) (w w' : World) : Prop where
 os : w'.os = w.os
 tape : w'.tape = w.tape
 output : w'.output = w.output
 size : w.heap.size ≤ w'.heap.size
 block : ∀ k, k < w.heap.size → k ≠ g → w'.heap[k]? = w.heap[k]?
section
variable {g : Nat} {w w1 w2 w0 : World}
theorem Mv.refl (g : Nat) (w : World) : Mv g w w := ⟨rfl, rfl, rfl, Nat.le_refl _, fun _ _ _ => rfl⟩
theorem Mv.trans (h : Mv g w w1) (k : Mv g w1 w2) : Mv g w w2 := ⟨k.os.trans h.os, k.tape.trans h.tape, k.output.trans h.output, Nat.le_trans h.size k.size, fun i hi hg => (k.block i (Nat.lt_of_lt_of_le hi h.size) hg).trans (h.block i hi hg)⟩
theorem Mv.of (h : Below w.heap.size w w1) : Mv g w w1 := ⟨h.os, h.tape, h.output, h.size, fun k hk _ => h.block k hk⟩
theorem Mv.then (h : Mv g w w1) (k : Below w1.heap.size w1 w2) : Mv g w w2 := h.trans (Mv.of k)
theorem Mv.set_ (h : Mv g w w1) (i : Nat) (v : Value) : Mv g w (w1.setCell ⟨g, i, none⟩ v) := ⟨h.os, h.tape, h.output, by simpa using h.size, fun k hk hg => (Below.heap_setCell w1 ⟨g, i, none⟩ v k hg).trans (h.block k hk hg)⟩
theorem Mv.alloc (h : Mv g w w1) (o : Obj) : Mv g w (w1.alloc o) := h.then ((Below.refl _ _).alloc (Nat.le_refl _) o)
theorem Mv.drewN (h : Mv g w w1) (n : Nat) : Mv g w (w1.drewN n) := ⟨h.os, h.tape, h.output, h.size, h.block⟩
theorem Mv.low (h : Mv g w w1) (hb : Below w0.heap.size w0 w) (hg : w0.heap.size ≤ g) : Below w0.heap.size w0 w1 := ⟨h.os.trans hb.os, h.tape.trans hb.tape, h.output.trans hb.output, Nat.le_trans hb.size h.size, fun k hk => (h.block k (Nat.lt_of_lt_of_le hk hb.size) (by omega)).trans (hb.block k hk)⟩
theorem Mv.blk {g' : Nat} {o : Obj} (h : Mv g w w1) (hb : w.heap[g']? = some o) (hg : g' ≠ g) : w1.heap[g']? = some o := (h.block g' (blk_lt hb) hg).trans hb
end
def DicF (g : Nat) (w : World) (P : Value) (l : List ByteArray) : Prop := ∀ W, Mv g w W → DictAt W P l
theorem DicF.now {g : Nat} {w : World} {P : Value} {l : List ByteArray} (h : DicF g w P l) : DictAt w P l := h w (Mv.refl g w)
theorem DicF.step {g : Nat} {w w1 : World} {P : Value} {l : List ByteArray} (h : DicF g w P l) (k : Mv g w w1) : DicF g w1 P l := fun W hW => h W (k.trans hW)
theorem DicF.of {g : Nat} {w0 w : World} {P : Value} {l : List ByteArray} (h : DictAt w0 P l) (hb : Below w0.heap.size w0 w) (hg : w0.heap.size ≤ g) : DicF g w P l := fun W hW => h.below (hW.low hb hg)
namespace Spec
structure D where
 hc : Nat
 hk : Nat
 hid : Nat
 begun : Bool
 done : Bool
 held : ByteArray
 at_ : Nat
 told : Nat
 ec : Int
 ea : Nat
end Spec
def decC (P : Value) (d : D) : Array Value := #[P, .int .i64 (d.hc : Int), .int .i64 (d.hk : Int), .int .u64 (d.hid : Int), .bool d.begun, .bool d.done, .string d.held, .int .i64 (d.at_ : Int), .int .i64 (d.told : Int), errV d.ec (d.ea : Int)]
def DecAt (w : World) (g : Nat) (P : Value) (d : D) : Prop := w.heap[g]? = some (.cells (decC P d) 149 (0, 0))
section
variable {w : World} {g : Nat} {P : Value} {d : D}
theorem DecAt.lt (h : DecAt w g P d) : g < w.heap.size := blk_lt h
theorem DecAt.below {w1 : World} (h : DecAt w g P d) (hb : Below w.heap.size w w1) : DecAt w1 g P d := blk_below h hb
theorem DecAt.c0 (h : DecAt w g P d) : w.cell? ⟨g, 0, none⟩ = some P := (blk_cell h 0).trans rfl
theorem DecAt.c1 (h : DecAt w g P d) : w.cell? ⟨g, 1, none⟩ = some (.int .i64 (d.hc : Int)) := (blk_cell h 1).trans rfl
theorem DecAt.c2 (h : DecAt w g P d) : w.cell? ⟨g, 2, none⟩ = some (.int .i64 (d.hk : Int)) := (blk_cell h 2).trans rfl
theorem DecAt.c3 (h : DecAt w g P d) : w.cell? ⟨g, 3, none⟩ = some (.int .u64 (d.hid : Int)) := (blk_cell h 3).trans rfl
theorem DecAt.fz (h : DecAt w g P d) (i : Nat) : w.frozen? ⟨g, i, none⟩ = false := blk_frozen h i
end
end Go.Proofs.YtepgkimlmoikmaaGreat
set_option linter.unusedVariables false
set_option linter.unusedSimpArgs false
namespace Go.Proofs.YtepgkimlmoikmaaGreat
open Go.RowKit Go.Proofs.YtepgkimlmoikmaaGreat.Spec Go.Proofs.YtepgkimlmoikmaaGreatW.PrintWords Go.Proofs.YtepgkimlmoikmaaGreatW.PrintLast
open Go.Proofs.YtepgkimlmoikmaaGreatW.PrintMore
attribute [local go_sem ↓] Go.wp_at_zero Go.wp_at_succ
attribute [local go_sem] max2_int min2_int max_two min_two
namespace Spec
structure En where
 p : Nat
 q : Nat
 k : Nat
 wd : Nat
 held : ByteArray
 written : Nat
 begun : Bool
 closed : Bool
end Spec
def encCells (P : Value) (e : En) : Array Value := #[P, .int .i64 (e.p : Int), .int .i64 (e.q : Int), .int .i64 (e.k : Int), .int .i64 (e.wd : Int), .string e.held, .int .i64 (e.written : Int), .bool e.begun, .bool e.closed]
def EncAt (w : World) (g : Nat) (P : Value) (e : En) : Prop := w.heap[g]? = some (.cells (encCells P e) 156 (0, 0))
section
variable {w : World} {g : Nat} {P : Value} {e : En}
theorem EncAt.lt (h : EncAt w g P e) : g < w.heap.size := blk_lt h
theorem EncAt.below {w1 : World} (h : EncAt w g P e) (hb : Below w.heap.size w w1) : EncAt w1 g P e := blk_below h hb
theorem EncAt.c0 (h : EncAt w g P e) : w.cell? ⟨g, 0, none⟩ = some P := (blk_cell h 0).trans rfl
theorem EncAt.c1 (h : EncAt w g P e) : w.cell? ⟨g, 1, none⟩ = some (.int .i64 (e.p : Int)) := (blk_cell h 1).trans rfl
theorem EncAt.c2 (h : EncAt w g P e) : w.cell? ⟨g, 2, none⟩ = some (.int .i64 (e.q : Int)) := (blk_cell h 2).trans rfl
theorem EncAt.c3 (h : EncAt w g P e) : w.cell? ⟨g, 3, none⟩ = some (.int .i64 (e.k : Int)) := (blk_cell h 3).trans rfl
theorem EncAt.fz (h : EncAt w g P e) (i : Nat) : w.frozen? ⟨g, i, none⟩ = false := blk_frozen h i
end
end Go.Proofs.YtepgkimlmoikmaaGreat
set_option linter.unusedVariables false
set_option linter.unusedSimpArgs false
namespace Go.Proofs.YtepgkimlmoikmaaGreat
open Go.RowKit Go.Proofs.YtepgkimlmoikmaaGreat.Spec Go.Proofs.YtepgkimlmoikmaaGreatW.PrintWords Go.Proofs.YtepgkimlmoikmaaGreatW.PrintLast
open Go.Proofs.YtepgkimlmoikmaaGreatW.PrintMore
attribute [local go_sem ↓] Go.wp_at_zero Go.wp_at_succ
attribute [local go_sem] max2_int min2_int max_two min_two
end Go.Proofs.YtepgkimlmoikmaaGreat
set_option linter.unusedVariables false
set_option linter.unusedSimpArgs false
namespace Go.Proofs.YtepgkimlmoikmaaGreat
open Go.RowKit Go.Proofs.YtepgkimlmoikmaaGreat.Spec Go.Proofs.YtepgkimlmoikmaaGreatW.PrintWords Go.Proofs.YtepgkimlmoikmaaGreatW.PrintLast
open Go.Proofs.YtepgkimlmoikmaaGreatW.PrintMore
attribute [local go_sem ↓] Go.wp_at_zero Go.wp_at_succ
attribute [local go_sem] max2_int min2_int max_two min_two
namespace Spec
end Spec
end Go.Proofs.YtepgkimlmoikmaaGreat
set_option linter.unusedVariables false
set_option linter.unusedSimpArgs false
namespace Go.Proofs.YtepgkimlmoikmaaGreat
open Go.RowKit Go.Proofs.YtepgkimlmoikmaaGreat.Spec Go.Proofs.YtepgkimlmoikmaaGreatW.PrintWords Go.Proofs.YtepgkimlmoikmaaGreatW.PrintLast
open Go.Proofs.YtepgkimlmoikmaaGreatW.PrintMore
attribute [local go_sem ↓] Go.wp_at_zero Go.wp_at_succ
attribute [local go_sem] max2_int min2_int max_two min_two
theorem meanM_ok {σ : Type} (tok err : σ → Int) (step : σ → σ) (fin : σ → Bool) {l : List ByteArray} (hs : ∀ s ∈ l, 1 ≤ s.size ∧ s.size ≤ 40) (raw : Nat) (he : ∀ x, err x ≠ 1) : ∀ (f : Nat) (s : ByteArray) (x : σ), s.size ≤ raw → raw ≤ s.size + f →
  (meanM tok err step fin l raw f s x).2 ≠ 1 ∧ ((meanM tok err step fin l raw f s x).2 = 0 → (meanM tok err step fin l raw f s x).1.size = raw) ∧ ((meanM tok err step fin l raw f s x).2 ≠ 0 → (meanM tok err step fin l raw f s x).1 = ⟨#[]⟩) := by
 have hend : ∀ (s : ByteArray) (x : σ), s.size = raw → (if fin x = true then (s, (0 : Int)) else (⟨#[]⟩, 13)).2 ≠ 1 ∧ ((if fin x = true then (s, (0 : Int)) else (⟨#[]⟩, 13)).2 = 0 → (if fin x = true then (s, (0 : Int)) else (⟨#[]⟩, 13)).1.size = raw) ∧ ((if fin x = true then (s, (0 : Int)) else (⟨#[]⟩, 13)).2 ≠ 0 → (if fin x = true then (s, (0 : Int)) else (⟨#[]⟩, 13)).1 = ⟨#[]⟩) := by
  intro s x h
  split
  ·exact ⟨show ¬ (0 : Int) = 1 by decide, fun _ => h, fun h => absurd rfl h⟩
  ·exact ⟨show ¬ (13 : Int) = 1 by decide, fun h => absurd h (show ¬ (13 : Int) = 0 by decide), fun _ => rfl⟩
 intro f
 induction f with
 | zero =>
  intro s x h1 h2
  rw [meanM]
  exact hend s x (by omega)
 | succ f ih =>
  intro s x h1 h2
  rw [meanM]
  by_cases g1 : raw ≤ s.size
  ·rw [if_pos g1]; exact hend s x (by omega)
  ·rw [if_neg g1]
   by_cases g2 : err x = 0
   ·rw [if_neg (fun n => n g2)]
    by_cases g3 : Tok l (tok x)
    ·rw [if_neg (fun n => n g3)]
     by_cases g4 : raw < s.size + (word l (tok x)).size
     ·rw [if_pos g4]; exact ⟨show ¬ (12 : Int) = 1 by decide, fun h => absurd h (show ¬ (12 : Int) = 0 by decide), fun _ => rfl⟩
     ·rw [if_neg g4]
      have hw := (word_size hs g3).1
      exact ih _ _ (by rw [ByteArray.size_append]; omega) (by rw [ByteArray.size_append]; omega)
    ·rw [if_pos g3]; exact ⟨show ¬ (9 : Int) = 1 by decide, fun h => absurd h (show ¬ (9 : Int) = 0 by decide), fun _ => rfl⟩
   ·rw [if_pos g2]; exact ⟨he x, fun h => absurd h g2, fun _ => rfl⟩
theorem getR_ok {l : List ByteArray} (hl : l.length ≤ 100) (hs : ∀ s ∈ l, 1 ≤ s.size ∧ s.size ≤ 40) (how kind raw : Int) (pay : ByteArray) (h1 : 0 ≤ how ∧ how ≤ 1) (h2 : kind = 1 ∨ kind = 2) (h3 : 1 ≤ raw ∧ raw ≤ 1024) :
  (getR l how kind raw pay).2 ≠ 1 ∧ ((getR l how kind raw pay).2 = 0 → ((getR l how kind raw pay).1.size : Int) = raw) ∧ ((getR l how kind raw pay).2 ≠ 0 → (getR l how kind raw pay).1 = ⟨#[]⟩) := by
 unfold getR
 rw [if_neg (by omega)]
 obtain ⟨n, rfl⟩ : ∃ n : Nat, raw = n := ⟨raw.toNat, by omega⟩
 rw [Int.toNat_natCast]
 have cast : ∀ r : ByteArray × Int, (r.2 ≠ 1 ∧ (r.2 = 0 → r.1.size = n) ∧ (r.2 ≠ 0 → r.1 = ⟨#[]⟩)) → (r.2 ≠ 1 ∧ (r.2 = 0 → (r.1.size : Int) = (n : Int)) ∧ (r.2 ≠ 0 → r.1 = ⟨#[]⟩)) := fun r ⟨a, b, c⟩ => ⟨a, fun h => by rw [b h], c⟩
 rcases h2 with rfl | rfl
 ·rw [if_neg (by decide)]
  by_cases g : (pay.size : Int) = n
  ·rw [if_neg (fun k => k g)]; exact ⟨show ¬ (0 : Int) = 1 by decide, fun _ => g, fun h => absurd rfl h⟩
  ·rw [if_pos g]; exact ⟨show ¬ (12 : Int) = 1 by decide, fun h => absurd h (show ¬ (12 : Int) = 0 by decide), fun _ => rfl⟩
 ·rw [if_pos rfl]
  apply cast
  unfold meantR
  by_cases g : how = 0
  ·rw [if_pos g]
   unfold numR
   exact meanM_ok _ _ _ _ hs n (fun s => by rcases un_codes (u s) 0 0 with e | e | e | e <;> rw [e] <;> decide) n _ _ (Nat.zero_le _) (by show n ≤ 0 + n; omega)
  ·rw [if_neg g]
   obtain ⟨hc, ho⟩ := TabB.getS_ok pay (256 + l.length) (by omega)
   change (lensOf l pay).2.2 = 0 ∨ (lensOf l pay).2.2 = 2 ∨ (lensOf l pay).2.2 = 3 at hc
   by_cases k : (lensOf l pay).2.2 = 0
   ·rw [if_neg (fun n => n k)]
    obtain ⟨_, h6, _⟩ := ho k
    change TabMath.AllSixt (lensOf l pay).1 at h6
    by_cases k2 : cright (lensOf l pay).1 = 0
    ·rw [if_neg (fun n => n k2)]
     unfold codR
     exact meanM_ok _ _ _ _ hs n (fun a => by rcases (nextF_ok (lensOf l pay).1 (pay.extract (lensOf l pay).2.1.toNat pay.size) a (8 * (pay.extract (lensOf l pay).2.1.toNat pay.size).size - a) (maxL (lensOf l pay).1).toNat 1).2.1 with e | e | e <;> (unfold nextT; rw [e]; decide)) n _ _ (Nat.zero_le _) (by show n ≤ 0 + n; omega)
    ·rw [if_pos k2]
     refine ⟨?_, fun h => absurd h k2, fun _ => rfl⟩
     show ¬ cright (lensOf l pay).1 = 1
     unfold cright
     rw [if_neg]
     ·split <;> decide
     ·rw [List.any_eq_true]
      rintro ⟨x, hx, hd⟩
      have h7 := h6 x hx
      have h8 := of_decide_eq_true hd
      unfold TabMath.Sixt at h7
      unfold Out15 at h8
      omega
   ·rw [if_pos k]
    exact ⟨show ¬ (lensOf l pay).2.2 = 1 by omega, fun h => absurd h k, fun _ => rfl⟩
end Go.Proofs.YtepgkimlmoikmaaGreat
set_option linter.unusedVariables false
set_option linter.unusedSimpArgs false
namespace Go.Proofs.YtepgkimlmoikmaaGreat
open Go.RowKit Go.Proofs.YtepgkimlmoikmaaGreat.Spec Go.Proofs.YtepgkimlmoikmaaGreatW.PrintWords Go.Proofs.YtepgkimlmoikmaaGreatW.PrintLast
open Go.Proofs.YtepgkimlmoikmaaGreatW.PrintMore
attribute [local go_sem ↓] Go.wp_at_zero Go.wp_at_succ
attribute [local go_sem] max2_int min2_int max_two min_two
namespace Spec
end Spec
end Go.Proofs.YtepgkimlmoikmaaGreat
set_option linter.unusedVariables false
set_option linter.unusedSimpArgs false
namespace Go.Proofs.YtepgkimlmoikmaaGreat
open Go.RowKit Go.Proofs.YtepgkimlmoikmaaGreat.Spec Go.Proofs.YtepgkimlmoikmaaGreatW.PrintWords Go.Proofs.YtepgkimlmoikmaaGreatW.PrintLast
open Go.Proofs.YtepgkimlmoikmaaGreatW.PrintMore
attribute [local go_sem ↓] Go.wp_at_zero Go.wp_at_succ
attribute [local go_sem] max2_int min2_int max_two min_two
namespace Spec
end Spec
section
variable {l : List ByteArray} {B : ByteArray}
end
end Go.Proofs.YtepgkimlmoikmaaGreat
set_option linter.unusedVariables false
set_option linter.unusedSimpArgs false
namespace Go.Proofs.YtepgkimlmoikmaaGreat
open Go.RowKit Go.Proofs.YtepgkimlmoikmaaGreat.Spec Go.Proofs.YtepgkimlmoikmaaGreatW.PrintWords Go.Proofs.YtepgkimlmoikmaaGreatW.PrintLast
open Go.Proofs.YtepgkimlmoikmaaGreatW.PrintMore
attribute [local go_sem ↓] Go.wp_at_zero Go.wp_at_succ
attribute [local go_sem] max2_int min2_int max_two min_two
end Go.Proofs.YtepgkimlmoikmaaGreat
set_option linter.unusedVariables false
set_option linter.unusedSimpArgs false
namespace Go.Proofs.YtepgkimlmoikmaaGreat
open Go.RowKit Go.Proofs.YtepgkimlmoikmaaGreat.Spec Go.Proofs.YtepgkimlmoikmaaGreatW.PrintWords Go.Proofs.YtepgkimlmoikmaaGreatW.PrintLast
open Go.Proofs.YtepgkimlmoikmaaGreatW.PrintMore
attribute [local go_sem ↓] Go.wp_at_zero Go.wp_at_succ
attribute [local go_sem] max2_int min2_int max_two min_two
namespace Spec
end Spec
end Go.Proofs.YtepgkimlmoikmaaGreat
set_option linter.unusedVariables false
set_option linter.unusedSimpArgs false
namespace Go.Proofs.YtepgkimlmoikmaaGreat
open Go.RowKit Go.Proofs.YtepgkimlmoikmaaGreat.Leaf Go.Proofs.YtepgkimlmoikmaaGreatW.PrintWords Go.Proofs.YtepgkimlmoikmaaGreatW.PrintLast
namespace TabB
open TabMath
theorem rget_l1 (b : ByteArray) (size : Int) (x : Int) (at_ : Int) (R : List Int × Int × Int) (d : Nat) : ∀ (m t : Nat) (out : List Int), m = t + d → out.length + d ≤ 1000 → m ≤ 16 →
  Ev (fun k => lexiphaneref1_Untab.l0 k b size (out ++ List.replicate d x) (wrap64 (at_ + 1))) R → Ev (fun k => lexiphaneref1_Untab.l1 k b size out at_ x (m : Int) (t : Int)) R := by
 induction d with
 | zero =>
  intro m t out hm ho hm16 h
  simp only [List.replicate_zero, List.append_nil] at h
  refine Ev.step (fun k => ?_) h
  simp only [lexiphaneref1_Untab.l1]
  rw [if_neg (by omega)]
 | succ d ih =>
  intro m t out hm ho hm16 h
  have := ih m (t + 1) (out ++ [x]) (by omega) (by simp; omega) hm16 (by simpa [List.replicate_succ] using h)
  refine Ev.step (fun k => ?_) this
  simp only [lexiphaneref1_Untab.l1]
  rw [if_pos (by omega), if_pos (by omega), wr (by omega) (by omega)]
  congr 1
theorem rget_l0 (b : ByteArray) (hb : b.size ≤ 140737488351232) (size : Nat) (hs : size ≤ 356) (rest : List Int) : ∀ (i : Nat) (out : List Int), i ≤ b.size → out.length ≤ size → (bl b).drop i = rest →
  Ev (fun k => lexiphaneref1_Untab.l0 k b size out i) (GetR out i (dec (prev (bl b) i) rest (size - out.length))) := by
 induction rest with
 | nil =>
  intro i out hi ho h
  have hlen := len_drop (by rw [bl_length]; exact hi) h
  rw [bl_length] at hlen
  simp only [List.length_nil, Nat.add_zero] at hlen
  refine Ev.step (f := fun _ => some (GetR out i (dec (prev (bl b) i) [] (size - out.length)))) (fun k => ?_) (Ev.now _)
  simp only [lexiphaneref1_Untab.l0]
  by_cases hc : out.length < size
  ·obtain ⟨m, hm⟩ : ∃ m, size - out.length = m + 1 := ⟨size - out.length - 1, by omega⟩
   rw [if_pos (by omega), if_pos (by omega), hm, dec_nil]
   rfl
  ·have hm : size - out.length = 0 := by omega
   rw [if_neg (by omega), hm, dec_zero]
   unfold GetR
   simp
 | cons c rest ih =>
  intro i out hi ho h
  have hlen := len_drop (by rw [bl_length]; exact hi) h
  rw [bl_length] at hlen
  simp only [List.length_cons] at hlen
  have hc0 : rd (bl b) (i : Int) = c := by
   have := rd_drop (a := []) h
   simpa using this
  have hcb : Byte c := by
   have : c ∈ (bl b).drop i := by rw [h]; exact List.mem_cons_self ..
   exact bl_byte b c (List.mem_of_mem_drop this)
  unfold Byte at hcb
  by_cases hc : out.length < size
  ·obtain ⟨m, hm⟩ : ∃ m, size - out.length = m + 1 := ⟨size - out.length - 1, by omega⟩
   have hpb : 0 ≤ prev (bl b) i ∧ prev (bl b) i ≤ 255 := by
    unfold prev
    by_cases h0 : i = 0
    ·rw [if_pos h0]; omega
    ·rw [if_neg h0, ← bt_bl]; exact bt_range _ _
   have e1 : wrap64 (Int.tdiv (wrap64 c) 16) = c / 16 := by
    rw [wr (x := c) (by omega) (by omega), Int.tdiv_eq_ediv_of_nonneg (by omega), wr (by omega) (by omega)]
   have e2 : wrap64 (Int.tmod (wrap64 c) 16 + 1) = c % 16 + 1 := by
    rw [wr (x := c) (by omega) (by omega), Int.tmod_eq_emod_of_nonneg (by omega), wr (by omega) (by omega)]
   have p1 : ∀ p : Int, 0 ≤ p → p ≤ 255 → wrap64 (Int.tdiv (wrap64 p) 16) = p / 16 := by
    intro p h1 h2
    rw [wr (x := p) (by omega) (by omega), Int.tdiv_eq_ediv_of_nonneg (by omega), wr (by omega) (by omega)]
   have p2 : ∀ p : Int, 0 ≤ p → p ≤ 255 → wrap64 (Int.tmod (wrap64 p) 16 + 1) = p % 16 + 1 := by
    intro p h1 h2
    rw [wr (x := p) (by omega) (by omega), Int.tmod_eq_emod_of_nonneg (by omega), wr (by omega) (by omega)]
   have e3 : wrap64 ((size : Int) - (out.length : Int)) = ((m + 1 : Nat) : Int) := by
    rw [wr (by omega) (by omega)]; omega
   have e5 : (wrap64 ((out.length : Int) + (c % 16 + 1)) > (size : Int)) ↔ ((m + 1 : Nat) : Int) < c % 16 + 1 := by
    rw [wr (by omega) (by omega)]; omega
   have hstep : ∀ k, lexiphaneref1_Untab.l0 (k + 1) b size out i = lexiphaneref1_Untab.j2 k b size out i (c / 16) (c % 16 + 1) (decide ((prev (bl b) i / 16 = c / 16 ∧ prev (bl b) i % 16 < 15) ∨ ((m + 1 : Nat) : Int) < c % 16 + 1)) := by
    intro k
    simp only [lexiphaneref1_Untab.l0]
    rw [if_pos (by omega), if_neg (by omega), if_pos (by omega), if_pos (by omega)]
    simp only [bt_bl, hc0, e1, e2]
    by_cases h5 : ((m + 1 : Nat) : Int) < c % 16 + 1
    ·rw [if_pos (e5.2 h5)]; congr 1; symm; rw [decide_eq_true_iff]; exact Or.inr h5
    ·rw [if_neg (fun h => h5 (e5.1 h))]
     by_cases h0 : i = 0
     ·subst h0
      rw [if_neg (by omega)]
      congr 1
      symm
      rw [decide_eq_false_iff_not]
      unfold prev
      rw [if_pos rfl]
      omega
     ·have hp : prev (bl b) i = rd (bl b) ((i : Int) - 1) := by unfold prev; rw [if_neg h0]
      have p3 : Int.tmod (wrap64 (prev (bl b) i)) 16 = prev (bl b) i % 16 := by rw [wr (by omega) (by omega), Int.tmod_eq_emod_of_nonneg (by omega)]
      rw [if_pos (by omega), wr (x := (i : Int) - 1) (by omega) (by omega), if_pos (by omega), if_pos (by omega), ← hp, p1 _ hpb.1 hpb.2, p3]
      by_cases g : prev (bl b) i / 16 = c / 16
      ·rw [if_pos g]; congr 1; rw [decide_eq_decide]; omega
      ·rw [if_neg g]; congr 1; symm; rw [decide_eq_false_iff_not]; omega
   refine Ev.step hstep ?_
   rw [hm, dec_cons]
   by_cases g : (prev (bl b) i / 16 = c / 16 ∧ prev (bl b) i % 16 < 15) ∨ ((m + 1 : Nat) : Int) < c % 16 + 1
   ·rw [if_pos g]
    refine Ev.step (f := fun _ => some (GetR out i (3, [], 0))) (fun k => ?_) (Ev.now _)
    simp only [lexiphaneref1_Untab.j2]
    rw [if_pos (by simpa using g)]
    rfl
   ·rw [if_neg g]
    have hstep3 : ∀ k, lexiphaneref1_Untab.j2 (k + 1) b size out i (c / 16) (c % 16 + 1) (decide ((prev (bl b) i / 16 = c / 16 ∧ prev (bl b) i % 16 < 15) ∨ ((m + 1 : Nat) : Int) < c % 16 + 1)) =
      lexiphaneref1_Untab.l1 k b size out i (c / 16) (((c % 16 + 1).toNat : Nat) : Int) ((0 : Nat) : Int) := by
     intro k
     simp only [lexiphaneref1_Untab.j2]
     rw [if_neg (by simpa using g)]
     rw [show (((c % 16 + 1).toNat : Nat) : Int) = c % 16 + 1 by omega]
     rfl
    refine Ev.step hstep3 ?_
    have hpn : prev (bl b) (i + 1) = c := by
     unfold prev
     rw [if_neg (by omega), show (((i + 1 : Nat) : Int) - 1) = (i : Int) by omega]
     exact hc0
    have := ih (i + 1) (out ++ List.replicate (c % 16 + 1).toNat (c / 16)) (by omega) (by simp; omega) (by rw [← List.drop_drop, h]; rfl)
    rw [hpn, show size - (out ++ List.replicate (c % 16 + 1).toNat (c / 16)).length = m + 1 - (c % 16 + 1).toNat by simp; omega] at this
    refine rget_l1 b size (c / 16) i _ (c % 16 + 1).toNat (c % 16 + 1).toNat 0 out (by omega) (by omega) (by omega) ?_
    rw [wr (by omega) (by omega), show ((i : Int) + 1) = ((i + 1 : Nat) : Int) by omega]
    have er : GetR (out ++ List.replicate (c % 16 + 1).toNat (c / 16)) (i + 1) (dec c rest (m + 1 - (c % 16 + 1).toNat)) =
      GetR out i (if (dec c rest (m + 1 - (c % 16 + 1).toNat)).1 = 0 then (0, List.replicate (c % 16 + 1).toNat (c / 16) ++ (dec c rest (m + 1 - (c % 16 + 1).toNat)).2.1, (dec c rest (m + 1 - (c % 16 + 1).toNat)).2.2 + 1) else ((dec c rest (m + 1 - (c % 16 + 1).toNat)).1, [], 0)) := by
     unfold GetR
     by_cases hd : (dec c rest (m + 1 - (c % 16 + 1).toNat)).1 = 0
     ·rw [if_pos hd, if_pos hd, if_pos rfl]
      simp only [List.append_assoc, Prod.mk.injEq, true_and, and_true]
      omega
     ·rw [if_neg hd, if_neg hd, if_neg hd]
    rw [er] at this
    exact this
  ·have hm : size - out.length = 0 := by omega
   refine Ev.step (f := fun _ => some (GetR out i (dec (prev (bl b) i) (c :: rest) (size - out.length)))) (fun k => ?_) (Ev.now _)
   simp only [lexiphaneref1_Untab.l0]
   rw [if_neg (by omega), hm, dec_zero]
   unfold GetR
   simp
theorem rget_ev (b : ByteArray) (hb : b.size ≤ 140737488351232) (size : Int) : Ev (fun k => lexiphaneref1_Untab.f k b size) (getS b size) := by
 unfold getS
 have hstep : ∀ k, lexiphaneref1_Untab.f k b size = lexiphaneref1_Untab.j0 k b size (decide (size < 0 ∨ 356 < size)) := by
  intro k
  unfold lexiphaneref1_Untab.f
  by_cases h : size < 0
  ·rw [if_pos h]; congr 1; symm; rw [decide_eq_true_iff]; exact Or.inl h
  ·rw [if_neg h]; congr 1; rw [decide_eq_decide]; omega
 refine Ev.congr hstep ?_
 by_cases h : size < 0 ∨ 356 < size
 ·rw [if_pos h]
  refine Ev.step (f := fun _ => some ([], 0, 1)) (fun k => ?_) (Ev.now _)
  simp only [lexiphaneref1_Untab.j0]
  rw [if_pos (by simpa using h)]
 ·rw [if_neg h]
  have := rget_l0 b hb size.toNat (by omega) (bl b) 0 [] (by omega) (by simp) rfl
  rw [show ((size.toNat : Nat) : Int) = size by omega] at this
  refine Ev.step (fun k => ?_) this
  simp only [lexiphaneref1_Untab.j0]
  rw [if_neg (by simpa using h)]
  rfl
end TabB
end Go.Proofs.YtepgkimlmoikmaaGreat
