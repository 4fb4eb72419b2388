/- ShU: a part of its proof (contracts of the functions that it reaches, and the plain mathematics behind them). -/
import Derived.Test.YtepgkimlmoikmaaGreatShU18
import Derived.Deep.RegionHeld3
import Derived.Deep.QuietTactic
import Derived.BigQuiet
set_option linter.unusedVariables false
set_option linter.unusedSimpArgs false
set_option maxHeartbeats 2000000
set_option maxRecDepth 100000
set_option linter.unusedVariables false
set_option linter.unusedSimpArgs false
namespace Go.Proofs.YtepgkimlmoikmaaGreat
open Go.RowKit Go.Proofs.YtepgkimlmoikmaaGreat.Spec Go.Proofs.YtepgkimlmoikmaaGreatW.PrintWords Go.Proofs.YtepgkimlmoikmaaGreatW.PrintLast
open Go.Proofs.YtepgkimlmoikmaaGreatW.PrintMore
attribute [local go_sem ↓] Go.wp_at_zero Go.wp_at_succ
theorem lng_facts {l : List ByteArray} (hs : ∀ s ∈ l, 1 ≤ s.size ∧ s.size ≤ 40) (t : ByteArray) : ∀ (r : List ByteArray) (k : Nat) (q : Int × Nat), (∀ s ∈ r, s ∈ l) → (-1 ≤ q.1 ∧ q.1 < k ∧ (0 ≤ q.1 → 1 ≤ q.2 ∧ q.2 ≤ 40)) → (-1 ≤ (lng t k q r).1 ∧ (lng t k q r).1 < (k + r.length : Nat) ∧ (0 ≤ (lng t k q r).1 → 1 ≤ (lng t k q r).2 ∧ (lng t k q r).2 ≤ 40)) := by
 intro r
 induction r with
 | nil => intro k q _ h; exact h
 | cons s r ih =>
  intro k q hm h
  rw [lng_cons]
  have h2 := hs s (hm s (List.mem_cons_self ..))
  split
  ·have := ih (k + 1) ((k : Int), s.size) (fun x hx => hm x (List.mem_cons_of_mem _ hx)) ⟨by show (-1 : Int) ≤ (k : Int); omega, by show (k : Int) < ((k + 1 : Nat) : Int); omega, fun _ => h2⟩
   rw [List.length_cons]
   exact ⟨this.1, by have := this.2.1; omega, this.2.2⟩
  ·have := ih (k + 1) q (fun x hx => hm x (List.mem_cons_of_mem _ hx)) ⟨h.1, by have := h.2.1; omega, h.2.2⟩
   rw [List.length_cons]
   exact ⟨this.1, by have := this.2.1; omega, this.2.2⟩
namespace Spec
def nxt (l : List ByteArray) (b : ByteArray) (a : Nat) : Int × Nat :=
 if (lng (b.extract a b.size) 0 (-1, 0) l).1 < 0 then ((((u b).getD a 0).toNat : Int), 1) else (256 + (lng (b.extract a b.size) 0 (-1, 0) l).1, (lng (b.extract a b.size) 0 (-1, 0) l).2)
end Spec
theorem byte_at (b : ByteArray) (a : Nat) (h : a < b.size) : wrap64 ((b[a]'h).toNat : Int) = (((u b).getD a 0).toNat : Int) := by
 have h1 : (u b).getD a 0 = b[a]'h := by
  rw [List.getD_eq_getElem?_getD, List.getElem?_eq_getElem (by rw [u_size]; exact h)]
  rfl
 have h2 := UInt8.toNat_lt (b[a]'h)
 rw [h1, Bridge.wr (by omega) (by omega)]
theorem nxt_facts {l : List ByteArray} (hs : ∀ s ∈ l, 1 ≤ s.size ∧ s.size ≤ 40) (b : ByteArray) (a : Nat) : Tok l (nxt l b a).1 ∧ 1 ≤ (nxt l b a).2 ∧ (nxt l b a).2 ≤ 40 := by
 have hf := lng_facts hs (b.extract a b.size) l 0 (-1, 0) (fun _ h => h) ⟨by decide, by decide, fun h => absurd h (by decide)⟩
 unfold nxt Tok
 split
 ·have h2 := UInt8.toNat_lt ((u b).getD a 0)
  exact ⟨⟨by show (0 : Int) ≤ (((u b).getD a 0).toNat : Int); omega, by show (((u b).getD a 0).toNat : Int) < _; omega⟩, Nat.le_refl 1, by show 1 ≤ 40; omega⟩
 ·rename_i h
  have h3 := hf.2.2 (by omega)
  have h4 := hf.2.1
  exact ⟨⟨by show (0 : Int) ≤ 256 + _; omega, by show 256 + _ < 256 + (l.length : Int); omega⟩, h3⟩
theorem next_any {p : Value} {l : List ByteArray} {w : World} (hd : DictN w p l) (hl : l.length ≤ 1000) (hs : ∀ s ∈ l, 1 ≤ s.size ∧ s.size ≤ 40) (b : ByteArray) (a : Nat) (ha : a < b.size) (hb : b.size ≤ 100000) :
  Calls Tryz.prog 124 #[p, .string b, .int .i64 a] w fun e w' => e = .returned (.tuple #[.int .i64 (nxt l b a).1, .int .i64 (nxt l b a).2]) ∧ Below w.heap.size w w' := by
 have HA := Aside0.mk (longest_any hd hl hs b a ha hb)
 have hf := lng_facts hs (b.extract a b.size) l 0 (-1, 0) (fun _ h => h) ⟨by decide, by decide, fun h => absurd h (by decide)⟩
 have hn : nxt l b a = if (lng (b.extract a b.size) 0 (-1, 0) l).1 < 0 then ((((u b).getD a 0).toNat : Int), 1) else (256 + (lng (b.extract a b.size) 0 (-1, 0) l).1, (lng (b.extract a b.size) 0 (-1, 0) l).2) := rfl
 generalize lng (b.extract a b.size) 0 (-1, 0) l = q at *
 have d1 : decide ((a : Int) < 0) = false := decide_eq_false (by omega)
 have d2 : decide ((b.size : Int) ≤ (a : Int)) = false := decide_eq_false (by omega)
 have d3 : decide (b.size ≤ a) = false := decide_eq_false (by omega)
 have z1 : (a : Int) < (b.size : Int) := by omega
 have z2 : a < b.size := ha
 have z3 : (0 : Int) ≤ (a : Int) := by omega
 by_cases hq : q.1 < 0
 ·rw [if_pos hq] at hn
  have d4 : decide (q.1 < 0) = true := decide_eq_true hq
  have HN := Aside0.mk hn
  clear hd hl hs hb hn hf hq
  go_enter Tryz.func124, Tryz.ntmps124
  go_wp2_with fail
  refine HA.out.mono ?_
  rintro e w1 ⟨rfl, hb1⟩
  have H1 := Aside0.mk hb1
  clear hb1
  go_wp2
  go_ret2
  rw [HN.out]
  refine ⟨?_, H1.out⟩
  show Ending.returned (.tuple #[.int .i64 (wrap64 ((b[a]'z2).toNat : Int)), .int .i64 ((1 : Nat) : Int)]) = _
  rw [byte_at b a z2]
 ·rw [if_neg hq] at hn
  have d4 : decide (q.1 < 0) = false := decide_eq_false hq
  have hw : wrap64 (256 + q.1) = 256 + q.1 := Bridge.wr (by omega) (by omega)
  have HN := Aside0.mk hn
  clear hd hl hs hb hn hf hq
  go_enter Tryz.func124, Tryz.ntmps124
  go_wp2_with fail
  refine HA.out.mono ?_
  rintro e w1 ⟨rfl, hb1⟩
  have H1 := Aside0.mk hb1
  clear hb1
  go_wp2
  go_ret2
  rw [HN.out]
  refine ⟨?_, H1.out⟩
  show Ending.returned (.tuple #[.int .i64 (wrap64 (256 + q.1)), .int .i64 (q.2 : Int)]) = _
  rw [hw]
namespace Spec
def par (l : List ByteArray) (b : ByteArray) : Nat → Nat → List Int
 | 0, _ => []
 | f + 1, a => if a < b.size then (nxt l b a).1 :: par l b f (a + (nxt l b a).2) else []
end Spec
theorem par_succ (l : List ByteArray) (b : ByteArray) (f a : Nat) : par l b (f + 1) a = if a < b.size then (nxt l b a).1 :: par l b f (a + (nxt l b a).2) else [] := rfl
theorem par_len (l : List ByteArray) (b : ByteArray) : ∀ f a, (par l b f a).length ≤ f := by
 intro f
 induction f with
 | zero => intro a; exact Nat.le_refl 0
 | succ f ih =>
  intro a
  rw [par_succ]
  split
  ·have := ih (a + (nxt l b a).2)
   rw [List.length_cons]
   omega
  ·exact Nat.zero_le _
theorem par_tok {l : List ByteArray} (hs : ∀ s ∈ l, 1 ≤ s.size ∧ s.size ≤ 40) (b : ByteArray) : ∀ f a, ∀ t ∈ par l b f a, Tok l t := by
 intro f
 induction f with
 | zero => intro a t h; cases h
 | succ f ih =>
  intro a t h
  rw [par_succ] at h
  split at h
  ·rcases List.mem_cons.1 h with rfl | h
   ·exact (nxt_facts hs b a).1
   ·exact ih _ t h
  ·cases h
theorem append_intL {P : Program} {ops : Array Oper} {o : Oper} {rest : List Oper} {a : Act} {Q : Exit → Act → World → Prop} {w0 W : World} (base : Nat) (hg : o.guard = none) (s x : Operand) (t e : TypeId)
  (ho : o.op = .call { callee := .builtin .append, args := #[s, x], argTypes := #[t, t] })
  (ht : P.underlying t = some (.slice e)) (hinfo : (P.info? e).map (fun i => (i.zero, i.size, i.bytes)) = some (some (.int .i64 0), 1, 8))
  (v : Value) (xs : List Int) (p : Int) (hs : a.eval s = v) (hx : a.eval x = .slice (some ⟨W.heap.size, 0, none⟩) 1 1)
  (HO : Kd.R (Kd.int .i64) e W base (fun _ => True) v xs) (HB : Below base w0 W) (hbase : base ≤ W.heap.size) (hl : (xs.length + 1) * 8 ≤ 140737488355328)
  (h : ∀ v1 w1, Kd.R (Kd.int .i64) e w1 base (fun _ => True) v1 (xs ++ [p]) → Below base w0 w1 → W.grownBy w1 v.ownBlock → (v1.ownBlock = v.ownBlock ∨ ∃ b, v1.ownBlock = some b ∧ W.heap.size ≤ b) → wpList P ops Q rest (a.put o.dst v1) w1) :
  wpList P ops Q (o :: rest) a (W.alloc (.cells #[.int .i64 p] e)) :=
 Kd.R_append (Kd.int .i64) base hg s x t e _ 8 ho ht hinfo rfl (by decide) (by decide) v xs p [.int .i64 p] (fun _ => True) (fun _ => False) hs hx rfl (fun _ h => h.elim) (fun _ _ => trivial) HO HB hbase hl h
def placeOf (n : Nat) (v : Value) : Nat := n + 100 - (intOf v).toNat
theorem parse_any {p : Value} {l : List ByteArray} {w : World} (hd : DictN w p l) (hl : l.length ≤ 1000) (hs : ∀ s ∈ l, 1 ≤ s.size ∧ s.size ≤ 40) (b : ByteArray) (hb : b.size ≤ 1024) :
  Calls Tryz.prog 68 #[p, .string b] w fun e w' => ∃ A c, e = .returned (.slice A (par l b b.size 0).length c) ∧ (par l b b.size 0).length ≤ c ∧ IntsIn w' A (par l b b.size 0) ∧ Below w.heap.size w w' := by
 have HD := Aside0.mk hd
 have HNX := Aside0.mk (fun (W : World) (h : DictN W p l) (a : Nat) (ha : a < b.size) => next_any h hl hs b a ha (by omega))
 have HNF := Aside0.mk (fun (a : Nat) => nxt_facts hs b a)
 have HB := Aside0.mk hb
 have d1 : decide ((1024 : Int) < (b.size : Int)) = false := decide_eq_false (by omega)
 have d1' : decide (1024 < b.size) = false := decide_eq_false (by omega)
 clear hd hl hs hb
 go_enter Tryz.func68, Tryz.ntmps68
 go_wp2_with fail
 go_loopw [5, 6] (fun v5 v6 wr => ∃ (a f : Nat) (xs : List Int) (A5 : Option Addr) (c5 : Nat), v5 = .slice A5 xs.length c5 ∧ v6 = .int .i64 a ∧ Aside0 ((Kd.int .i64).R 3 wr w.heap.size (fun _ => True) v5 xs) ∧ Aside0 (b.size ≤ a + f ∧ a ≤ b.size + 40 ∧ xs.length + f ≤ b.size) ∧ Aside0 (xs ++ par l b f a = par l b b.size 0) ∧ Aside0 (Below w.heap.size w wr)) (fun _ v6 _ => placeOf b.size v6)
 case atStart => exact ⟨0, b.size, [], none, 0, rfl, rfl, ⟨Kd.R_of_own (own_nil _ _ _ _) (fun _ _ => trivial)⟩, ⟨by omega, by omega, by show 0 + b.size ≤ b.size; omega⟩, ⟨rfl⟩, ⟨by repeat (first | exact Below.refl _ _ | apply below_alloc | apply below_drew)⟩⟩
 case round =>
  obtain ⟨a, f, xs, A5, c5, rfl, rfl, HR, HI, HE, HW⟩ := hrel
  have hi := HI.out
  have hbb := HB.out
  by_cases hlt : a < b.size
  ·have d2 : decide ((a : Int) < (b.size : Int)) = true := decide_eq_true (by omega)
   have d2' : decide (a < b.size) = true := decide_eq_true hlt
   obtain ⟨f, rfl⟩ : ∃ f', f = f' + 1 := ⟨f - 1, by omega⟩
   have he := HE.out
   rw [par_succ, if_pos hlt] at he
   have HE2 := Aside0.mk he
   have HLT := Aside0.mk hlt
   have hxl : (xs.length + 1) * 8 ≤ 140737488355328 := by omega
   clear hi hbb hlt he
   go_wp2_with fail
   refine (HNX.out _ (HD.out.below HW.out) a HLT.out).mono ?_
   rintro e w2 ⟨rfl, hb2⟩
   have HB2 := Aside0.mk (below_step HW.out hb2)
   have HR2 := Aside0.mk (Kd.R_below HR.out hb2)
   clear hb2
   go_wp2_with (at_builtin; refine append_intL w.heap.size rfl (.tmp 23) (.tmp 25) 29 3 rfl Tryz.underlying29 Leaf.info3 (.slice A5 xs.length c5) xs (nxt l b a).1 rfl rfl HR2.out HB2.out HB2.out.size hxl ?_; intro v1 w3 hrow hbelow hgrow hat; obtain ⟨A1, c1, rfl⟩ := Kd.R_slice hrow; have HROW := Aside0.mk hrow; have HB3 := Aside0.mk hbelow; clear hrow hbelow hgrow hat)
   go_roundw
   case rel =>
    have h1 := HI.out
    have h2 := HNF.out a
    have h3 := HB.out
    have h4 := HLT.out
    have hl2 : (xs ++ [(nxt l b a).1]).length = xs.length + 1 := by rw [List.length_append, List.length_singleton]
    refine ⟨a + (nxt l b a).2, f, xs ++ [(nxt l b a).1], A1, c1, by rw [hl2], ?_, by have h := HROW.out; rw [hl2] at h; exact ⟨h⟩, ⟨by omega, by omega, by rw [List.length_append, List.length_singleton]; omega⟩, ⟨by rw [List.append_assoc]; exact HE2.out⟩, HB3⟩
    rw [Bridge.wr (by omega) (by omega)]
    congr 1
   case measure =>
    have h2 := HNF.out a
    have h3 := HB.out
    have h4 := HLT.out
    rw [Bridge.wr (by omega) (by omega)]
    show b.size + 100 - ((a : Int) + ((nxt l b a).2 : Int)).toNat < b.size + 100 - a
    omega
  ·have d2 : decide ((a : Int) < (b.size : Int)) = false := decide_eq_false (by omega)
   have d2' : decide (a < b.size) = false := decide_eq_false hlt
   have he := HE.out
   have hp0 : par l b f a = [] := by
    cases f with
    | zero => rfl
    | succ f => rw [par_succ, if_neg hlt]
   rw [hp0, List.append_nil] at he
   have HE2 := Aside0.mk he
   clear hi hbb hlt he hp0
   go_wp2
   go_ret
   obtain ⟨A', c', e', hc', hC'⟩ := Kd.R_reads HR.out
   rw [HE2.out] at e' hc' hC' ⊢
   exact ⟨A', c', congrArg Ending.returned e', hc', hC', HW.out⟩
end Go.Proofs.YtepgkimlmoikmaaGreat
set_option linter.unusedVariables false
set_option linter.unusedSimpArgs false
namespace Go.Proofs.YtepgkimlmoikmaaGreat
open Go.RowKit Go.Proofs.YtepgkimlmoikmaaGreat.Spec Go.Proofs.YtepgkimlmoikmaaGreatW.PrintWords Go.Proofs.YtepgkimlmoikmaaGreatW.PrintLast
open Go.Proofs.YtepgkimlmoikmaaGreatW.PrintMore
attribute [local go_sem ↓] Go.wp_at_zero Go.wp_at_succ
namespace Spec
def reach (l : List ByteArray) (b : ByteArray) (a n : Nat) : Nat := if a + n < b.size then a + n + (nxt l b (a + n)).2 else a + n
def bet (c o : Int × Nat × Nat) : Bool := if c.2.2 = o.2.2 then decide (o.2.1 < c.2.1) else decide (o.2.2 < c.2.2)
def flx (l : List ByteArray) (b : ByteArray) (a : Nat) : Nat → (Int × Nat × Nat) → Bool → List ByteArray → (Int × Nat × Nat) × Bool
 | _, c, s, [] => (c, s)
 | k, c, s, p :: r => if hp (b.extract a b.size) p = true then flx l b a (k + 1) (if bet (256 + (k : Int), p.size, reach l b a p.size) c = true then (256 + (k : Int), p.size, reach l b a p.size) else c) (s || p.size == 1) r else flx l b a (k + 1) c s r
def fone (l : List ByteArray) (b : ByteArray) (a : Nat) : Int × Nat × Nat := ((((u b).getD a 0).toNat : Int), 1, reach l b a 1)
def fnx (l : List ByteArray) (b : ByteArray) (a : Nat) : Int × Nat :=
 if (flx l b a 0 (0, 0, 0) false l).2 = false ∧ bet (fone l b a) (flx l b a 0 (0, 0, 0) false l).1 = true then ((fone l b a).1, (fone l b a).2.1) else ((flx l b a 0 (0, 0, 0) false l).1.1, (flx l b a 0 (0, 0, 0) false l).1.2.1)
end Spec
theorem flx_nil (l : List ByteArray) (b : ByteArray) (a k : Nat) (c : Int × Nat × Nat) (s : Bool) : flx l b a k c s [] = (c, s) := rfl
theorem flx_cons (l : List ByteArray) (b : ByteArray) (a k : Nat) (c : Int × Nat × Nat) (s : Bool) (p : ByteArray) (r : List ByteArray) : flx l b a k c s (p :: r) = if hp (b.extract a b.size) p = true then flx l b a (k + 1) (if bet (256 + (k : Int), p.size, reach l b a p.size) c = true then (256 + (k : Int), p.size, reach l b a p.size) else c) (s || p.size == 1) r else flx l b a (k + 1) c s r := rfl
theorem hp_size {b : ByteArray} {a : Nat} {p : ByteArray} (ha : a ≤ b.size) (h : hp (b.extract a b.size) p = true) : a + p.size ≤ b.size := by
 unfold hp at h
 rw [decide_eq_true_iff, u_cut] at h
 have := congrArg List.length h
 rw [List.length_take, List.length_take, List.length_drop, u_size, u_size] at this
 omega
def Fits (l : List ByteArray) (b : ByteArray) (a : Nat) (t : Int) (n : Nat) : Prop := Tok l t ∧ 1 ≤ n ∧ n ≤ 40 ∧ a + n ≤ b.size ∧ word l t = b.extract a (a + n)
theorem fits_one {l : List ByteArray} {b : ByteArray} {a : Nat} (ha : a < b.size) : Fits l b a (((u b).getD a 0).toNat : Int) 1 := by
 have h2 := UInt8.toNat_lt ((u b).getD a 0)
 refine ⟨⟨by omega, by omega⟩, Nat.le_refl 1, by omega, by omega, ?_⟩
 rw [word_low (by omega) (by omega)]
 apply u_inj
 rw [u_cut, Nat.add_sub_cancel_left, Int.toNat_natCast]
 have e : (u b).drop a = (u b).getD a 0 :: (u b).drop (a + 1) := by
  rw [List.getD_eq_getElem?_getD, List.getElem?_eq_getElem (by rw [u_size]; exact ha), Option.getD_some]
  exact List.drop_eq_getElem_cons (by rw [u_size]; exact ha)
 rw [e, List.take_succ_cons, List.take_zero]
 simp [u]
theorem fits_phrase {l : List ByteArray} {b : ByteArray} {a k : Nat} {p : ByteArray} (ha : a ≤ b.size) (hk : l[k]? = some p) (hs : 1 ≤ p.size ∧ p.size ≤ 40) (h : hp (b.extract a b.size) p = true) : Fits l b a (256 + (k : Int)) p.size := by
 have hlt : k < l.length := (List.getElem?_eq_some_iff.1 hk).1
 refine ⟨⟨by omega, by omega⟩, hs.1, hs.2, hp_size ha h, ?_⟩
 rw [word_high (by omega), show (256 + (k : Int)).toNat - 256 = k by omega, List.getD_eq_getElem?_getD, hk, Option.getD_some]
 unfold hp at h
 rw [decide_eq_true_iff, u_cut] at h
 apply u_inj
 rw [u_cut, Nat.add_sub_cancel_left, ← h, List.take_take]
 congr 1
 have := congrArg List.length h
 rw [List.length_take, List.length_take, List.length_drop, u_size, u_size] at this
 omega
theorem flx_fits {l : List ByteArray} (hs : ∀ s ∈ l, 1 ≤ s.size ∧ s.size ≤ 40) (b : ByteArray) (a : Nat) (ha : a < b.size) : ∀ (r : List ByteArray) (k : Nat) (c : Int × Nat × Nat) (s : Bool), l.drop k = r → ((c = (0, 0, 0) ∧ s = false) ∨ (Fits l b a c.1 c.2.1 ∧ 1 ≤ c.2.2)) → (((flx l b a k c s r).1 = (0, 0, 0) ∧ (flx l b a k c s r).2 = false) ∨ (Fits l b a (flx l b a k c s r).1.1 (flx l b a k c s r).1.2.1 ∧ 1 ≤ (flx l b a k c s r).1.2.2)) := by
 intro r
 induction r with
 | nil => intro k c s _ h; exact h
 | cons p r ih =>
  intro k c s hd h
  rw [flx_cons]
  have hk : l[k]? = some p := by
   have := congrArg (fun q => q[0]?) hd
   simpa using this
  have hd2 : l.drop (k + 1) = r := by rw [← List.drop_drop, hd]; rfl
  by_cases hh : hp (b.extract a b.size) p = true
  ·rw [if_pos hh]
   refine ih _ _ _ hd2 ?_
   have hf := fits_phrase (Nat.le_of_lt ha) hk (hs p (List.mem_of_getElem? hk)) hh
   have hp1 := hf.2.1
   have hr : 1 ≤ reach l b a p.size := by unfold reach; split <;> omega
   by_cases hb : bet (256 + (k : Int), p.size, reach l b a p.size) c = true
   ·rw [if_pos hb]
    exact .inr ⟨hf, hr⟩
   ·rw [if_neg hb]
    rcases h with ⟨rfl, rfl⟩ | h
    ·exfalso
     apply hb
     unfold bet
     rw [if_neg (show ¬ reach l b a p.size = 0 by omega)]
     exact decide_eq_true (show 0 < reach l b a p.size by omega)
    ·exact .inr h
  ·rw [if_neg hh]
   exact ih _ _ _ hd2 h
theorem fnx_fits {l : List ByteArray} (hs : ∀ s ∈ l, 1 ≤ s.size ∧ s.size ≤ 40) (b : ByteArray) (a : Nat) (ha : a < b.size) : Fits l b a (fnx l b a).1 (fnx l b a).2 := by
 have h := flx_fits hs b a ha l 0 (0, 0, 0) false rfl (.inl ⟨rfl, rfl⟩)
 unfold fnx
 split
 ·exact fits_one ha
 ·rename_i hn
  rcases h with ⟨h1, h2⟩ | h
  ·exfalso
   apply hn
   refine ⟨h2, ?_⟩
   rw [h1]
   have hr : 1 ≤ reach l b a 1 := by unfold reach; split <;> omega
   unfold bet fone
   rw [if_neg (show ¬ reach l b a 1 = 0 by omega)]
   exact decide_eq_true (show 0 < reach l b a 1 by omega)
  ·exact h.1
theorem lng_fits {l : List ByteArray} (hs : ∀ s ∈ l, 1 ≤ s.size ∧ s.size ≤ 40) (b : ByteArray) (a : Nat) (ha : a ≤ b.size) : ∀ (r : List ByteArray) (k : Nat) (q : Int × Nat), l.drop k = r → (q.1 < 0 ∨ ∃ j : Nat, q.1 = j ∧ Fits l b a (256 + (j : Int)) q.2) → ((lng (b.extract a b.size) k q r).1 < 0 ∨ ∃ j : Nat, (lng (b.extract a b.size) k q r).1 = j ∧ Fits l b a (256 + (j : Int)) (lng (b.extract a b.size) k q r).2) := by
 intro r
 induction r with
 | nil => intro k q _ h; exact h
 | cons p r ih =>
  intro k q hd h
  rw [lng_cons]
  have hk : l[k]? = some p := by
   have := congrArg (fun q => q[0]?) hd
   simpa using this
  have hd2 : l.drop (k + 1) = r := by rw [← List.drop_drop, hd]; rfl
  split
  ·rename_i hh
   exact ih _ _ hd2 (.inr ⟨k, rfl, fits_phrase ha hk (hs p (List.mem_of_getElem? hk)) hh.2⟩)
  ·exact ih _ _ hd2 h
theorem nxt_fits {l : List ByteArray} (hs : ∀ s ∈ l, 1 ≤ s.size ∧ s.size ≤ 40) (b : ByteArray) (a : Nat) (ha : a < b.size) : Fits l b a (nxt l b a).1 (nxt l b a).2 := by
 have h := lng_fits hs b a (Nat.le_of_lt ha) l 0 (-1, 0) rfl (.inl (by decide))
 unfold nxt
 split
 ·exact fits_one ha
 ·rename_i hn
  rcases h with h | ⟨j, h1, h2⟩
  ·exact absurd h hn
  ·show Fits l b a (256 + (lng (b.extract a b.size) 0 (-1, 0) l).1) _
   rw [h1]
   exact h2
theorem next_end {p : Value} (b : ByteArray) (w : World) (hb : b.size ≤ 100000) :
  Calls Tryz.prog 124 #[p, .string b, .int .i64 (b.size : Int)] w fun e w' => e = .returned (.tuple #[.int .i64 0, .int .i64 0]) ∧ w = w' := by
 have d1 : decide ((b.size : Int) < 0) = false := decide_eq_false (by omega)
 have d2 : decide ((b.size : Int) ≤ (b.size : Int)) = true := decide_eq_true (by omega)
 have d3 : decide (b.size ≤ b.size) = true := decide_eq_true (by omega)
 clear hb
 go_enter Tryz.func124, Tryz.ntmps124
 go_wp2
 go_ret2
 exact ⟨rfl, rfl⟩
theorem reach_any {p : Value} {l : List ByteArray} {w : World} (hd : DictN w p l) (hl : l.length ≤ 1000) (hs : ∀ s ∈ l, 1 ≤ s.size ∧ s.size ≤ 40) (b : ByteArray) (a n : Nat) (ha : a + n ≤ b.size) (hb : b.size ≤ 100000) :
  Calls Tryz.prog 171 #[p, .string b, .int .i64 a, .int .i64 n] w fun e w' => e = .returned (.int .i64 (reach l b a n : Nat)) ∧ Below w.heap.size w w' := by
 have d1 : decide ((a : Int) < 0) = false := decide_eq_false (by omega)
 have d2 : decide ((n : Int) < 0) = false := decide_eq_false (by omega)
 have d3 : decide ((b.size : Int) < (a : Int)) = false := decide_eq_false (by omega)
 have d3' : decide (b.size < a) = false := decide_eq_false (by omega)
 have d4 : decide ((b.size : Int) - (a : Int) < (n : Int)) = false := decide_eq_false (by omega)
 have z1 : (a : Int) + (n : Int) ≤ (b.size : Int) := by omega
 have z2 : (b.size : Int) ≤ 100000 := by omega
 have z3 : (0 : Int) ≤ (b.size : Int) - (a : Int) := by omega
 have hsum : ((a : Int) + (n : Int)) = ((a + n : Nat) : Int) := by omega
 by_cases hlt : a + n < b.size
 ·have hf := nxt_facts hs b (a + n)
  have HX := Aside0.mk (fun w (hd : DictN w p l) => next_any hd hl hs b (a + n) hlt hb)
  have hr : reach l b a n = a + n + (nxt l b (a + n)).2 := by unfold reach; rw [if_pos hlt]
  have HR := Aside0.mk hr
  have HF := Aside0.mk hf.2
  have HS := Aside0.mk hsum
  have HD := Aside0.mk hd
  rw [← hsum] at HX
  generalize nxt l b (a + n) = q at *
  have z4 : (q.2 : Int) ≤ 40 := by have := HF.out; omega
  clear hd hl hs ha hb hr hf hsum
  go_enter Tryz.func171, Tryz.ntmps171
  go_wp2_with fail
  refine (HX.out _ HD.out).mono ?_
  rintro e w1 ⟨rfl, hb1⟩
  have H1 := Aside0.mk hb1
  clear hb1
  go_wp2
  go_ret
  refine ⟨?_, H1.out⟩
  rw [HR.out]
  congr 2
 ·have he : a + n = b.size := by omega
  have hr : reach l b a n = b.size := by unfold reach; rw [if_neg hlt]; exact he
  have HR := Aside0.mk hr
  have HX := Aside0.mk (fun w => next_end (p := p) b w hb)
  have hse : ((a : Int) + (n : Int)) = (b.size : Int) := by omega
  have HE := Aside0.mk hse
  rw [← hse] at HX
  clear hd hl hs ha hb hr hsum he hse
  go_enter Tryz.func171, Tryz.ntmps171
  go_wp2_with fail
  refine (HX.out _).mono ?_
  rintro e w1 ⟨rfl, rfl⟩
  go_wp2
  go_ret
  refine ⟨?_, Below.refl _ _⟩
  rw [HR.out]
  show Ending.returned (.int .i64 ((a : Int) + (n : Int))) = .returned (.int .i64 (b.size : Int))
  rw [HE.out]
end Go.Proofs.YtepgkimlmoikmaaGreat
