/- ShE: a part of its proof (contracts of the functions that it reaches, and the plain mathematics behind them). -/
import Derived.Test.YtdpkgjahcapleaaGreatShE18
set_option linter.unusedVariables false
set_option linter.unusedSimpArgs false
set_option linter.unusedVariables false
set_option linter.unusedSimpArgs false
namespace Go.Proofs.YtdpkgjahcapleaaGreat
open Go.RowKit Go.Proofs.YtdpkgjahcapleaaGreat.Spec Go.Proofs.YtdpkgjahcapleaaGreatW.PrintWords Go.Proofs.YtdpkgjahcapleaaGreatW.PrintLast
open Go.Proofs.YtdpkgjahcapleaaGreatW.PrintMore
attribute [local go_sem ↓] Go.wp_at_zero Go.wp_at_succ
theorem lng_facts {l : List ByteArray} (hs : ∀ s ∈ l, 1 ≤ s.size ∧ s.size ≤ 40) (t : ByteArray) : ∀ (r : List ByteArray) (k : Nat) (q : Int × Nat), (∀ s ∈ r, s ∈ l) → (-1 ≤ q.1 ∧ q.1 < k ∧ (0 ≤ q.1 → 1 ≤ q.2 ∧ q.2 ≤ 40)) → (-1 ≤ (lng t k q r).1 ∧ (lng t k q r).1 < (k + r.length : Nat) ∧ (0 ≤ (lng t k q r).1 → 1 ≤ (lng t k q r).2 ∧ (lng t k q r).2 ≤ 40)) := by
  intro r
  induction r with
  | nil => intro k q _ h; exact h
  | cons s r ih =>
    intro k q hm h
    rw [lng_cons]
    have h2 := hs s (hm s (List.mem_cons_self ..))
    split
    · have := ih (k + 1) ((k : Int), s.size) (fun x hx => hm x (List.mem_cons_of_mem _ hx)) ⟨by show (-1 : Int) ≤ (k : Int); omega, by show (k : Int) < ((k + 1 : Nat) : Int); omega, fun _ => h2⟩
      rw [List.length_cons]
      exact ⟨this.1, by have := this.2.1; omega, this.2.2⟩
    · have := ih (k + 1) q (fun x hx => hm x (List.mem_cons_of_mem _ hx)) ⟨h.1, by have := h.2.1; omega, h.2.2⟩
      rw [List.length_cons]
      exact ⟨this.1, by have := this.2.1; omega, this.2.2⟩
namespace Spec
def nxt (l : List ByteArray) (b : ByteArray) (a : Nat) : Int × Nat :=
  if (lng (b.extract a b.size) 0 (-1, 0) l).1 < 0 then ((((u b).getD a 0).toNat : Int), 1) else (256 + (lng (b.extract a b.size) 0 (-1, 0) l).1, (lng (b.extract a b.size) 0 (-1, 0) l).2)
end Spec
theorem byte_at (b : ByteArray) (a : Nat) (h : a < b.size) : wrap64 ((b[a]'h).toNat : Int) = (((u b).getD a 0).toNat : Int) := by
  have h1 : (u b).getD a 0 = b[a]'h := by
    rw [List.getD_eq_getElem?_getD, List.getElem?_eq_getElem (by rw [u_size]; exact h)]
    rfl
  have h2 := UInt8.toNat_lt (b[a]'h)
  rw [h1, Bridge.wr (by omega) (by omega)]
theorem nxt_facts {l : List ByteArray} (hs : ∀ s ∈ l, 1 ≤ s.size ∧ s.size ≤ 40) (b : ByteArray) (a : Nat) : Tok l (nxt l b a).1 ∧ 1 ≤ (nxt l b a).2 ∧ (nxt l b a).2 ≤ 40 := by
  have hf := lng_facts hs (b.extract a b.size) l 0 (-1, 0) (fun _ h => h) ⟨by decide, by decide, fun h => absurd h (by decide)⟩
  unfold nxt Tok
  split
  · have h2 := UInt8.toNat_lt ((u b).getD a 0)
    exact ⟨⟨by show (0 : Int) ≤ (((u b).getD a 0).toNat : Int); omega, by show (((u b).getD a 0).toNat : Int) < _; omega⟩, Nat.le_refl 1, by show 1 ≤ 40; omega⟩
  · rename_i h
    have h3 := hf.2.2 (by omega)
    have h4 := hf.2.1
    exact ⟨⟨by show (0 : Int) ≤ 256 + _; omega, by show 256 + _ < 256 + (l.length : Int); omega⟩, h3⟩
set_option maxHeartbeats 2000000 in
set_option maxRecDepth 100000 in
theorem next_any {p : Value} {l : List ByteArray} {w : World} (hd : DictN w p l) (hl : l.length ≤ 1000) (hs : ∀ s ∈ l, 1 ≤ s.size ∧ s.size ≤ 40) (b : ByteArray) (a : Nat) (ha : a < b.size) (hb : b.size ≤ 100000) :
    Calls Tryz.prog 100 #[p, .string b, .int .i64 a] w fun e w' => e = .returned (.tuple #[.int .i64 (nxt l b a).1, .int .i64 (nxt l b a).2]) ∧ Below w.heap.size w w' := by
  have HA := Aside0.mk (longest_any hd hl hs b a ha hb)
  have hf := lng_facts hs (b.extract a b.size) l 0 (-1, 0) (fun _ h => h) ⟨by decide, by decide, fun h => absurd h (by decide)⟩
  have hn : nxt l b a = if (lng (b.extract a b.size) 0 (-1, 0) l).1 < 0 then ((((u b).getD a 0).toNat : Int), 1) else (256 + (lng (b.extract a b.size) 0 (-1, 0) l).1, (lng (b.extract a b.size) 0 (-1, 0) l).2) := rfl
  generalize lng (b.extract a b.size) 0 (-1, 0) l = q at *
  have d1 : decide ((a : Int) < 0) = false := decide_eq_false (by omega)
  have d2 : decide ((b.size : Int) ≤ (a : Int)) = false := decide_eq_false (by omega)
  have d3 : decide (b.size ≤ a) = false := decide_eq_false (by omega)
  have z1 : (a : Int) < (b.size : Int) := by omega
  have z2 : a < b.size := ha
  have z3 : (0 : Int) ≤ (a : Int) := by omega
  by_cases hq : q.1 < 0
  · rw [if_pos hq] at hn
    have d4 : decide (q.1 < 0) = true := decide_eq_true hq
    have HN := Aside0.mk hn
    clear hd hl hs hb hn hf hq
    go_enter Tryz.func100, Tryz.ntmps100
    go_wp2_with fail
    refine HA.out.mono ?_
    rintro e w1 ⟨rfl, hb1⟩
    have H1 := Aside0.mk hb1
    clear hb1
    go_wp2
    go_ret2
    rw [HN.out]
    refine ⟨?_, H1.out⟩
    show Ending.returned (.tuple #[.int .i64 (wrap64 ((b[a]'z2).toNat : Int)), .int .i64 ((1 : Nat) : Int)]) = _
    rw [byte_at b a z2]
  · rw [if_neg hq] at hn
    have d4 : decide (q.1 < 0) = false := decide_eq_false hq
    have hw : wrap64 (256 + q.1) = 256 + q.1 := Bridge.wr (by omega) (by omega)
    have HN := Aside0.mk hn
    clear hd hl hs hb hn hf hq
    go_enter Tryz.func100, Tryz.ntmps100
    go_wp2_with fail
    refine HA.out.mono ?_
    rintro e w1 ⟨rfl, hb1⟩
    have H1 := Aside0.mk hb1
    clear hb1
    go_wp2
    go_ret2
    rw [HN.out]
    refine ⟨?_, H1.out⟩
    show Ending.returned (.tuple #[.int .i64 (wrap64 (256 + q.1)), .int .i64 (q.2 : Int)]) = _
    rw [hw]
namespace Spec
def par (l : List ByteArray) (b : ByteArray) : Nat → Nat → List Int
  | 0, _ => []
  | f + 1, a => if a < b.size then (nxt l b a).1 :: par l b f (a + (nxt l b a).2) else []
end Spec
theorem par_succ (l : List ByteArray) (b : ByteArray) (f a : Nat) : par l b (f + 1) a = if a < b.size then (nxt l b a).1 :: par l b f (a + (nxt l b a).2) else [] := rfl
theorem par_len (l : List ByteArray) (b : ByteArray) : ∀ f a, (par l b f a).length ≤ f := by
  intro f
  induction f with
  | zero => intro a; exact Nat.le_refl 0
  | succ f ih =>
    intro a
    rw [par_succ]
    split
    · have := ih (a + (nxt l b a).2)
      rw [List.length_cons]
      omega
    · exact Nat.zero_le _
theorem par_tok {l : List ByteArray} (hs : ∀ s ∈ l, 1 ≤ s.size ∧ s.size ≤ 40) (b : ByteArray) : ∀ f a, ∀ t ∈ par l b f a, Tok l t := by
  intro f
  induction f with
  | zero => intro a t h; cases h
  | succ f ih =>
    intro a t h
    rw [par_succ] at h
    split at h
    · rcases List.mem_cons.1 h with rfl | h
      · exact (nxt_facts hs b a).1
      · exact ih _ t h
    · cases h
theorem append_intL {P : Program} {ops : Array Oper} {o : Oper} {rest : List Oper} {a : Act} {Q : Exit → Act → World → Prop} {w0 W : World} (base : Nat) (hg : o.guard = none) (s x : Operand) (t e : TypeId)
    (ho : o.op = .call { callee := .builtin .append, args := #[s, x], argTypes := #[t, t] })
    (ht : P.underlying t = some (.slice e)) (hinfo : (P.info? e).map (fun i => (i.zero, i.size, i.bytes)) = some (some (.int .i64 0), 1, 8))
    (v : Value) (xs : List Int) (p : Int) (hs : a.eval s = v) (hx : a.eval x = .slice (some ⟨W.heap.size, 0, none⟩) 1 1)
    (HO : Kd.R (Kd.int .i64) e W base (fun _ => True) v xs) (HB : Below base w0 W) (hbase : base ≤ W.heap.size) (hl : (xs.length + 1) * 8 ≤ 140737488355328)
    (h : ∀ v1 w1, Kd.R (Kd.int .i64) e w1 base (fun _ => True) v1 (xs ++ [p]) → Below base w0 w1 → W.grownBy w1 v.ownBlock → (v1.ownBlock = v.ownBlock ∨ ∃ b, v1.ownBlock = some b ∧ W.heap.size ≤ b) → wpList P ops Q rest (a.put o.dst v1) w1) :
    wpList P ops Q (o :: rest) a (W.alloc (.cells #[.int .i64 p] e)) :=
  Kd.R_append (Kd.int .i64) base hg s x t e _ 8 ho ht hinfo rfl (by decide) (by decide) v xs p [.int .i64 p] (fun _ => True) (fun _ => False) hs hx rfl (fun _ h => h.elim) (fun _ _ => trivial) HO HB hbase hl h
def placeOf (n : Nat) (v : Value) : Nat := n + 100 - (intOf v).toNat
set_option maxHeartbeats 2000000 in
set_option maxRecDepth 100000 in
theorem parse_any {p : Value} {l : List ByteArray} {w : World} (hd : DictN w p l) (hl : l.length ≤ 1000) (hs : ∀ s ∈ l, 1 ≤ s.size ∧ s.size ≤ 40) (b : ByteArray) (hb : b.size ≤ 1024) :
    Calls Tryz.prog 93 #[p, .string b] w fun e w' => ∃ A c, e = .returned (.slice A (par l b b.size 0).length c) ∧ (par l b b.size 0).length ≤ c ∧ IntsIn w' A (par l b b.size 0) ∧ Below w.heap.size w w' := by
  have HD := Aside0.mk hd
  have HNX := Aside0.mk (fun (W : World) (h : DictN W p l) (a : Nat) (ha : a < b.size) => next_any h hl hs b a ha (by omega))
  have HNF := Aside0.mk (fun (a : Nat) => nxt_facts hs b a)
  have HB := Aside0.mk hb
  have d1 : decide ((1024 : Int) < (b.size : Int)) = false := decide_eq_false (by omega)
  have d1' : decide (1024 < b.size) = false := decide_eq_false (by omega)
  clear hd hl hs hb
  go_enter Tryz.func93, Tryz.ntmps93
  go_wp2_with fail
  go_loopw [5, 6] (fun v5 v6 wr => ∃ (a f : Nat) (xs : List Int) (A5 : Option Addr) (c5 : Nat), v5 = .slice A5 xs.length c5 ∧ v6 = .int .i64 a ∧ Aside0 ((Kd.int .i64).R 3 wr w.heap.size (fun _ => True) v5 xs) ∧ Aside0 (b.size ≤ a + f ∧ a ≤ b.size + 40 ∧ xs.length + f ≤ b.size) ∧ Aside0 (xs ++ par l b f a = par l b b.size 0) ∧ Aside0 (Below w.heap.size w wr)) (fun _ v6 _ => placeOf b.size v6)
  case atStart => exact ⟨0, b.size, [], none, 0, rfl, rfl, ⟨Kd.R_of_own (own_nil _ _ _ _) (fun _ _ => trivial)⟩, ⟨by omega, by omega, by show 0 + b.size ≤ b.size; omega⟩, ⟨rfl⟩, ⟨by repeat (first | exact Below.refl _ _ | apply below_alloc | apply below_drew)⟩⟩
  case round =>
    obtain ⟨a, f, xs, A5, c5, rfl, rfl, HR, HI, HE, HW⟩ := hrel
    have hi := HI.out
    have hbb := HB.out
    by_cases hlt : a < b.size
    · have d2 : decide ((a : Int) < (b.size : Int)) = true := decide_eq_true (by omega)
      have d2' : decide (a < b.size) = true := decide_eq_true hlt
      obtain ⟨f, rfl⟩ : ∃ f', f = f' + 1 := ⟨f - 1, by omega⟩
      have he := HE.out
      rw [par_succ, if_pos hlt] at he
      have HE2 := Aside0.mk he
      have HLT := Aside0.mk hlt
      have hxl : (xs.length + 1) * 8 ≤ 140737488355328 := by omega
      clear hi hbb hlt he
      go_wp2_with fail
      refine (HNX.out _ (HD.out.below HW.out) a HLT.out).mono ?_
      rintro e w2 ⟨rfl, hb2⟩
      have HB2 := Aside0.mk (below_step HW.out hb2)
      have HR2 := Aside0.mk (Kd.R_below HR.out hb2)
      clear hb2
      go_wp2_with (at_builtin; refine append_intL w.heap.size rfl (.tmp 23) (.tmp 25) 67 3 rfl Tryz.underlying67 Leaf.info3 (.slice A5 xs.length c5) xs (nxt l b a).1 rfl rfl HR2.out HB2.out HB2.out.size hxl ?_; intro v1 w3 hrow hbelow hgrow hat; obtain ⟨A1, c1, rfl⟩ := Kd.R_slice hrow; have HROW := Aside0.mk hrow; have HB3 := Aside0.mk hbelow; clear hrow hbelow hgrow hat)
      go_roundw
      case rel =>
        have h1 := HI.out
        have h2 := HNF.out a
        have h3 := HB.out
        have h4 := HLT.out
        have hl2 : (xs ++ [(nxt l b a).1]).length = xs.length + 1 := by rw [List.length_append, List.length_singleton]
        refine ⟨a + (nxt l b a).2, f, xs ++ [(nxt l b a).1], A1, c1, by rw [hl2], ?_, by have h := HROW.out; rw [hl2] at h; exact ⟨h⟩, ⟨by omega, by omega, by rw [List.length_append, List.length_singleton]; omega⟩, ⟨by rw [List.append_assoc]; exact HE2.out⟩, HB3⟩
        rw [Bridge.wr (by omega) (by omega)]
        congr 1
      case measure =>
        have h2 := HNF.out a
        have h3 := HB.out
        have h4 := HLT.out
        rw [Bridge.wr (by omega) (by omega)]
        show b.size + 100 - ((a : Int) + ((nxt l b a).2 : Int)).toNat < b.size + 100 - a
        omega
    · have d2 : decide ((a : Int) < (b.size : Int)) = false := decide_eq_false (by omega)
      have d2' : decide (a < b.size) = false := decide_eq_false hlt
      have he := HE.out
      have hp0 : par l b f a = [] := by
        cases f with
        | zero => rfl
        | succ f => rw [par_succ, if_neg hlt]
      rw [hp0, List.append_nil] at he
      have HE2 := Aside0.mk he
      clear hi hbb hlt he hp0
      go_wp2
      go_ret
      obtain ⟨A', c', e', hc', hC'⟩ := Kd.R_reads HR.out
      rw [HE2.out] at e' hc' hC' ⊢
      exact ⟨A', c', congrArg Ending.returned e', hc', hC', HW.out⟩
end Go.Proofs.YtdpkgjahcapleaaGreat
