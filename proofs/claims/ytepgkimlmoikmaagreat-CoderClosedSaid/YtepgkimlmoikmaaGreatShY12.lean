/- ShY: a part of its proof (contracts of the functions that it reaches, and the plain mathematics behind them). -/
import Derived.Test.YtepgkimlmoikmaaGreatShY11
import Derived.Deep.DrawnRows
set_option linter.unusedVariables false
set_option linter.unusedSimpArgs false
set_option maxHeartbeats 2000000
set_option maxRecDepth 100000
set_option linter.unusedVariables false
set_option linter.unusedSimpArgs false
namespace Go.Proofs.YtepgkimlmoikmaaGreat
open Go.RowKit Go.Proofs.YtepgkimlmoikmaaGreat.Spec Go.Proofs.YtepgkimlmoikmaaGreatW.PrintWords Go.Proofs.YtepgkimlmoikmaaGreatW.PrintLast
attribute [local go_sem ↓] Go.wp_at_zero Go.wp_at_succ
abbrev StrsAt (w : World) (base : Nat) (v : Value) (l : List ByteArray) : Prop := Kd.R Kd.string 9 w base (fun _ => True) v l
theorem clone_any {w : World} {base : Nat} {v : Value} {l : List ByteArray} (h : StrsAt w base v l) (hl : l.length * 16 ≤ 140737488355328) :
  Calls Tryz.prog 207 #[v] w fun e w' => ∃ v', e = .returned v' ∧ StrsAt w' w.heap.size v' l ∧ Below w.heap.size w w' := by
 have ho := Kd.own_of_R h
 rcases ho.2 with ⟨rfl, he⟩ | ⟨g, cap, cur, rfl, hg, hh, r⟩
 ·have : l = [] := by simpa [encs] using he
  subst this
  refine (Tryz.slices_Clone_string_nil 0 0 w).mono ?_
  rintro e w' ⟨rfl, rfl⟩
  exact ⟨_, rfl, Kd.R_nil _ _ _ _ _, Below.refl _ _⟩
 ·by_cases hn : l.length = 0
  ·have : l = [] := List.length_eq_zero_iff.1 hn
   subst this
   refine (Tryz.slices_Clone_string_zero ⟨g, 0, none⟩ cap w).mono ?_
   rintro e w' ⟨v', rfl, ho', _, hb⟩
   exact ⟨_, rfl, Kd.R_of_own ho' (fun _ _ => trivial), hb⟩
  ·refine (Tryz.slices_Clone_string g 0 l.length cap l w (Nat.le_refl _) hl (fun j hj => ?_)).mono ?_
   ·have := (Kd.R_cell ByteArray.empty h (j : Int) (by omega) (by omega)).1
    simpa [rdOf] using this
   ·rintro e w' ⟨v', rfl, ho', _, hb⟩
    rw [List.take_length] at ho'
    exact ⟨_, rfl, Kd.R_of_own ho' (fun _ _ => trivial), hb⟩
structure DictAt (w : World) (p : Value) (l : List ByteArray) : Prop where mk :: (out : ∃ ad v base, p = .pointer (some ad) ∧ w.cell? ad = some v ∧ StrsAt w base v l)
theorem DictAt.below {w w' : World} {p : Value} {l : List ByteArray} (h : DictAt w p l) (hb : Below w.heap.size w w') : DictAt w' p l := by
 obtain ⟨ad, v, base, hp, hc, hr⟩ := h.out
 exact ⟨ad, v, base, hp, pw_cell_below hb hc, Kd.R_below hr hb⟩
theorem all_nil (w : World) : Calls Tryz.prog 169 #[.pointer none] w fun e w' => e = .returned (.slice none 0 0) ∧ w = w' := by
 go_enter Tryz.func169, Tryz.ntmps169
 go_wp2
 go_ret
 exact ⟨rfl, rfl⟩
theorem all_any {w : World} {p : Value} {l : List ByteArray} (h : DictAt w p l) (hl : l.length * 16 ≤ 140737488355328) : Calls Tryz.prog 169 #[p] w fun e w' => ∃ v', e = .returned v' ∧ StrsAt w' w.heap.size v' l ∧ Below w.heap.size w w' := by
 obtain ⟨ad, v, base, rfl, hc, hr⟩ := h.out
 have HR := Aside0.mk hr
 clear hr h
 obtain ⟨A, c, rfl, _, _⟩ := Kd.R_reads HR.out
 go_enter Tryz.func169, Tryz.ntmps169
 go_wp2_with (go_at_call 207; refine (clone_any HR.out hl).mono ?_; rintro e w' ⟨v', rfl, ho, hb⟩)
 go_ret
 exact ⟨_, rfl, ho, hb⟩
theorem len_nil (w : World) : Calls Tryz.prog 188 #[.pointer none] w fun e w' => e = .returned (.int .i64 0) ∧ w = w' := by
 go_enter Tryz.func188, Tryz.ntmps188
 go_wp2_with (go_at_call 169; refine (all_nil _).mono ?_; rintro e w' ⟨rfl, rfl⟩)
 go_ret
 exact ⟨rfl, rfl⟩
theorem len_any {w : World} {p : Value} {l : List ByteArray} (h : DictAt w p l) (hl : l.length * 16 ≤ 140737488355328) : Calls Tryz.prog 188 #[p] w fun e w' => e = .returned (.int .i64 l.length) ∧ Below w.heap.size w w' := by
 go_enter Tryz.func188, Tryz.ntmps188
 go_wp2_with (go_at_call 169; refine (all_any h hl).mono ?_; rintro e w' ⟨v', rfl, ho, hb⟩; obtain ⟨A, c, rfl, _, _⟩ := Kd.R_reads ho)
 go_ret
 exact ⟨rfl, hb⟩
theorem at_nil (k : Int) (w : World) : Calls Tryz.prog 215 #[.pointer none, .int .i64 k] w fun e w' => e = .returned (.tuple #[.string ⟨#[]⟩, .bool false]) ∧ w = w' := by
 go_enter Tryz.func215, Tryz.ntmps215
 go_wp2
 go_ret2
 exact ⟨rfl, rfl⟩
theorem at_out {w : World} {p : Value} {l : List ByteArray} (h : DictAt w p l) (k : Int) (hk : ¬ (0 ≤ k ∧ k < l.length)) : Calls Tryz.prog 215 #[p, .int .i64 k] w fun e w' => e = .returned (.tuple #[.string ⟨#[]⟩, .bool false]) ∧ w = w' := by
 obtain ⟨ad, v, base, rfl, hc, hr⟩ := h.out
 have HR := Aside0.mk hr
 clear hr h
 obtain ⟨A, c, rfl, _, _⟩ := Kd.R_reads HR.out
 by_cases h0 : k < 0
 ·have h0b : decide (k < 0) = true := decide_eq_true h0
  clear hk
  go_enter Tryz.func215, Tryz.ntmps215
  go_wp2
  go_ret2
  exact ⟨rfl, rfl⟩
 ·have h0b : decide (k < 0) = false := decide_eq_false h0
  have h1b : decide ((l.length : Int) ≤ k) = true := decide_eq_true (by omega)
  clear hk h0
  go_enter Tryz.func215, Tryz.ntmps215
  go_wp2
  go_ret2
  exact ⟨rfl, rfl⟩
theorem at_in {w : World} {p : Value} {l : List ByteArray} (h : DictAt w p l) (k : Int) (h0 : 0 ≤ k) (h1 : k < l.length) : Calls Tryz.prog 215 #[p, .int .i64 k] w fun e w' => e = .returned (.tuple #[.string (l.getD k.toNat ByteArray.empty), .bool true]) ∧ w = w' := by
 obtain ⟨ad, v, base, rfl, hc, hr⟩ := h.out
 have HR := Aside0.mk hr
 clear hr h
 obtain ⟨A, c, rfl, hcap, hC⟩ := Kd.R_reads HR.out
 obtain ⟨ad2, rfl, hx⟩ := Kd.at_string hC k h0 h1
 have h0b : decide (k < 0) = false := decide_eq_false (by omega)
 have h1b : decide ((l.length : Int) ≤ k) = false := decide_eq_false (by omega)
 clear hC hcap
 go_enter Tryz.func215, Tryz.ntmps215
 go_wp2
 go_ret2
 exact ⟨rfl, rfl⟩
structure Making (w wr : World) (B : Nat) (v : Value) (l : List ByteArray) : Prop where mk :: (cell : wr.cell? ⟨B, 0, none⟩ = some v) (free : wr.frozen? ⟨B, 0, none⟩ = false) (row : StrsAt wr w.heap.size v l) (ne : v.ownBlock ≠ some B) (lt : B < wr.heap.size) (new : w.heap.size ≤ B) (below : Below w.heap.size w wr)
theorem wanted_of {oi : Oper} {ops : Array Oper} {a : Act} (hg : oi.guard = none) : Region.wanted oi (yielded ops a.tmps) = true := by simp [Region.wanted, hg]
theorem call_step1 {P : Program} {ops : Array Oper} {Q : Exit → Act → World → Prop} {oi : Oper} {N : Option Tmp} {a : Act} {w : World} {K : Act → World → Prop} {f : FuncId} {fn : Func} {x : Operand} {t : TypeId} (v : Value)
  (hN : oi.dst = N) (hop : oi.op = .call { callee := .value (.func f), args := #[x], argTypes := #[t] }) (hx : a.eval x = v) (hg : oi.guard = none) (hf : P.funcs[f]? = some fn) (hname : (fn.name == "runtime.NumGoroutine") = false) (hb : fn.body.isSome = true)
  (h : Calls P f #[v] w fun e w' => ∃ v, e = .returned v ∧ K (a.put N v) w') : if Region.wanted oi (yielded ops a.tmps) = true then Oper.wp P oi a w K Q else K (a.put N undef) w := goes_ hf hname hb #[v] (wanted_of hg) hN hop (by simp [hx]) h
theorem nameSClone : (Tryz.f167.name == "runtime.NumGoroutine") = false := by kernel_rfl
theorem append_str {P : Program} {ops : Array Oper} {o : Oper} {a : Act} {Q : Exit → Act → World → Prop} {Kc : Act → World → Prop} {w0 W : World} (base : Nat) (hg : o.guard = none) (s x : Operand) (t e : TypeId)
  (ho : o.op = .call { callee := .builtin .append, args := #[s, x], argTypes := #[t, t] })
  (ht : P.underlying t = some (.slice e)) (hinfo : (P.info? e).map (fun i => (i.zero, i.size, i.bytes)) = some (some (.string ⟨#[]⟩), 1, 16))
  (v : Value) (xs : List ByteArray) (p : ByteArray) (hs : a.eval s = v) (hx : a.eval x = .slice (some ⟨W.heap.size, 0, none⟩) 1 1)
  (HO : Kd.R Kd.string e W base (fun _ => True) v xs) (HB : Below base w0 W) (hbase : base ≤ W.heap.size) (hl : (xs.length + 1) * 16 ≤ 140737488355328)
  (h : ∀ v1 w1, Kd.R Kd.string e w1 base (fun _ => True) v1 (xs ++ [p]) → Below base w0 w1 → W.grownBy w1 v.ownBlock → (v1.ownBlock = v.ownBlock ∨ ∃ b, v1.ownBlock = some b ∧ W.heap.size ≤ b) → Kc (a.put o.dst v1) w1) :
  if Region.wanted o (yielded ops a.tmps) = true then Oper.wp P o a (W.alloc (.cells #[.string p] e)) Kc Q else Kc (a.put o.dst undef) (W.alloc (.cells #[.string p] e)) :=
 Kd.R_append_step Kd.string base (wanted_of hg) s x t e _ 16 ho ht hinfo rfl (by decide) (by decide) v xs p [.string p] (fun _ => True) (fun _ => False) hs hx rfl (fun _ h => h.elim) (fun _ _ => trivial) HO HB hbase hl h
theorem keepB {W w1 : World} {B : Nat} {v : Value} (hb : Below W.heap.size W w1) (h : W.cell? ⟨B, 0, none⟩ = some v ∧ W.frozen? ⟨B, 0, none⟩ = false) : w1.cell? ⟨B, 0, none⟩ = some v ∧ w1.frozen? ⟨B, 0, none⟩ = false :=
 ⟨pw_cell_below hb h.1, (hb.frozen (p := ⟨B, 0, none⟩) (World.block_lt_of_cell? W _ h.1)).trans h.2⟩
theorem keepG {W w1 : World} {row : Option Nat} {B : Nat} {v : Value} (hg : W.grownBy w1 row) (hne : row ≠ some B) (h : W.cell? ⟨B, 0, none⟩ = some v ∧ W.frozen? ⟨B, 0, none⟩ = false) : w1.cell? ⟨B, 0, none⟩ = some v ∧ w1.frozen? ⟨B, 0, none⟩ = false :=
 ⟨by rw [hg.cell_far _ (World.block_lt_of_cell? W _ h.1) (Ne.symm hne)]; exact h.1, by rw [hg.frozen_far _ (World.block_lt_of_cell? W _ h.1) (Ne.symm hne)]; exact h.2⟩
theorem making_step {w w1 w2 : World} {B : Nat} {v v1 old : Value} {l : List ByteArray} (hS1 : w1.cell? ⟨B, 0, none⟩ = some old) (hc : w2.cell? ⟨B, 0, none⟩ = some old) (hf : w2.frozen? ⟨B, 0, none⟩ = false) (hrow : StrsAt w2 w.heap.size v1 l)
  (hat : v1.ownBlock = v.ownBlock ∨ ∃ b, v1.ownBlock = some b ∧ w1.heap.size ≤ b) (hne : v.ownBlock ≠ some B) (hb : Below w.heap.size w w2) (hB : w.heap.size ≤ B) : Making w (w2.setCell ⟨B, 0, none⟩ v1) B v1 l := by
 have hne1 : v1.ownBlock ≠ some B := by
  rcases hat with h | ⟨b, h, hle⟩
  ·rw [h]; exact hne
  ·rw [h]
   have := World.block_lt_of_cell? w1 _ hS1
   intro e
   injection e with e
   simp only at this
   omega
 have hlt : B < w2.heap.size := World.block_lt_of_cell? w2 _ hc
 refine ⟨?_, ?_, Kd.R_of_own (own_setCell (Kd.own_of_R hrow) (Ne.symm hne1) _) (fun _ _ => trivial), hne1, by simpa using hlt, hB, hb.setCell hB _⟩
 ·exact World.cell?_setCell_same' _ _ _ (by simp [hc])
 ·rw [World.frozen?_setCell]; exact hf
def NewR (w : World) (l : List ByteArray) (e : Ending) (w' : World) : Prop := Below w.heap.size w w' ∧
 (((phrases l).1 = 0 ∧ ∃ p, e = .returned (.tuple #[p, .nilIface]) ∧ DictAt w' p l) ∨ ((phrases l).1 ≠ 0 ∧ e = .returned (.tuple #[.pointer none, errV (phrases l).1 (phrases l).2])))
theorem new_calls {A : Option Addr} {c : Nat} (l : List ByteArray) (w : World) (hr : StrsIn w A l) (hc : l.length ≤ c) (hsz : ∀ s ∈ l, s.size ≤ 140737488351232) : Calls Tryz.prog 123 #[.slice A l.length c] w (NewR w l) := by
 have HR := Aside0.mk hr
 have HC := Aside0.mk hc
 clear hr hc
 by_cases h100 : 100 < l.length
 ·have hb : decide (100 < (l.length : Int)) = true := decide_eq_true (by omega)
  have hp : phrases l = (10, 100) := if_pos h100
  have HP := Aside0.mk hp
  clear hp h100
  go_enter Tryz.func123, Tryz.ntmps123
  go_wp2_with (go_at_call 113; refine (fnew_some _ _ (by decide) _).mono ?_; rintro e w' ⟨rfl, rfl⟩)
  go_ret2
  refine ⟨Below.refl _ _, Or.inr ⟨by rw [HP.out]; decide, ?_⟩⟩
  rw [HP.out]; rfl
 ·have hb : decide (100 < (l.length : Int)) = false := decide_eq_false (by omega)
  have H100 := Aside0.mk (show l.length ≤ 100 by omega)
  clear h100
  go_enter Tryz.func123, Tryz.ntmps123
  go_wp2_with fail
  go_loopw [5, 17] (fun v5 v17 wr => ∃ (seen rest : List ByteArray) (sum : Nat), v5 = .int .i64 sum ∧ v17 = .int .i64 seen.length ∧ Aside0 (l = seen ++ rest) ∧ Aside0 (sum ≤ 1000) ∧ Aside0 (phr sum seen rest = phr 0 [] l) ∧ ∃ v, Making w wr w.heap.size v seen) (fun _ v17 _ => l.length - (intOf v17).toNat)
  case atStart => exact ⟨[], l, 0, rfl, rfl, ⟨rfl⟩, ⟨by omega⟩, ⟨rfl⟩, .slice none 0 0, ⟨by simp, by simp, Kd.R_nil _ _ _ _ _, by simp [Value.ownBlock], by simp, Nat.le_refl _, (Below.refl _ _).alloc (Nat.le_refl _) _⟩⟩
  case round =>
   obtain ⟨seen, rest, sum, rfl, rfl, HL, HS, HPH, v, HM⟩ := hrel
   have HRw := Aside0.mk (Kd.C_below HR.out HM.below)
   have hlen := congrArg List.length HL.out
   rw [List.length_append] at hlen
   have h100 := H100.out
   cases rest with
   | cons x t =>
    have HLEN := Aside0.mk hlen
    rw [List.length_cons] at hlen
    have hi : seen.length < l.length := by omega
    clear hlen
    obtain ⟨ad, rfl, hx⟩ := Kd.at_string HRw.out (seen.length : Int) (by omega) (by omega)
    have hx2 : rdOf ByteArray.empty l (seen.length : Int) = x := by
     rw [Bridge.rdOf_get l _ hi]
     have := HL.out
     simp only [this, List.getElem_append_right (Nat.le_refl _), Nat.sub_self, List.getElem_cons_zero]
    have hxs := hsz x (by rw [HL.out]; simp)
    rw [hx2, Int.toNat_natCast] at hx
    have hph := HPH.out
    clear hx2
    have hb0 : decide ((seen.length : Int) < (l.length : Int)) = true := decide_eq_true (by omega)
    have hs' := HS.out
    have p1 : (0 : Int) ≤ (seen.length : Int) := by omega
    have p2 : (seen.length : Int) < (l.length : Int) := by omega
    by_cases h1 : x.size = 0
    ·have hb1 : (x.toList == ([] : List UInt8)) = true := beq_iff_eq.2 (Bridge.empty_iff.2 h1)
     have hph2 : phr sum seen (x :: t) = (5, seen.length) := by rw [phr, if_pos h1]
     have HQ := Aside0.mk (hph2.symm.trans hph)
     clear hph hph2 h1
     have HB := Aside0.mk HM.below
     go_wp2_with (go_at_call 113; refine (fnew_some _ _ (by decide) _).mono ?_; rintro e w' ⟨rfl, rfl⟩)
     go_ret2
     have hp : phrases l = (5, seen.length) := (if_neg (by have := H100.out; omega)).trans HQ.out.symm
     refine ⟨HB.out, Or.inr ⟨by rw [hp]; simp, ?_⟩⟩
     rw [hp]; rfl
    ·have hb1 : (x.toList == ([] : List UInt8)) = false := beq_eq_false_iff_ne.2 (fun h => h1 (Bridge.empty_iff.1 h))
     by_cases h2 : 40 < x.size ∨ 1000 < sum + x.size
     ·have hph2 : phr sum seen (x :: t) = (10, seen.length) := by rw [phr, if_neg h1, if_pos h2]
      have HQ := Aside0.mk (hph2.symm.trans hph)
      clear hph hph2
      have HB := Aside0.mk HM.below
      by_cases h3 : 40 < x.size
      ·have hb2 : decide ((40 : Int) < (x.size : Int)) = true := decide_eq_true (by omega)
       clear h2 h3 h1
       go_wp2_with (go_at_call 113; refine (fnew_some _ _ (by decide) _).mono ?_; rintro e w' ⟨rfl, rfl⟩)
       repeat (go_quiet (fail); try go_wp2_with (go_at_call 113; refine (fnew_some _ _ (by decide) _).mono ?_; rintro e w' ⟨rfl, rfl⟩))
       go_ret2
       have hp : phrases l = (10, seen.length) := (if_neg (by have := H100.out; omega)).trans HQ.out.symm
       refine ⟨HB.out, Or.inr ⟨by rw [hp]; simp, ?_⟩⟩
       rw [hp]; rfl
      ·have hb2 : decide ((40 : Int) < (x.size : Int)) = false := decide_eq_false (by omega)
       have hb3 : decide ((1000 : Int) < (sum : Int) + (x.size : Int)) = true := decide_eq_true (by omega)
       clear h2 h3 h1
       go_wp2_with (go_at_call 113; refine (fnew_some _ _ (by decide) _).mono ?_; rintro e w' ⟨rfl, rfl⟩)
       repeat (go_quiet (fail); try go_wp2_with (go_at_call 113; refine (fnew_some _ _ (by decide) _).mono ?_; rintro e w' ⟨rfl, rfl⟩))
       go_ret2
       have hp : phrases l = (10, seen.length) := (if_neg (by have := H100.out; omega)).trans HQ.out.symm
       refine ⟨HB.out, Or.inr ⟨by rw [hp]; simp, ?_⟩⟩
       rw [hp]; rfl
     ·have hb2 : decide ((40 : Int) < (x.size : Int)) = false := decide_eq_false (by omega)
      have hb3 : decide ((1000 : Int) < (sum : Int) + (x.size : Int)) = false := decide_eq_false (by omega)
      obtain ⟨hMc, hMf, hMr, hMne, hMlt, hMnew, hMb⟩ := HM
      have HMr := Aside0.mk hMr
      have HMne := Aside0.mk hMne
      have HB := Aside0.mk hMb
      clear hMr hMne hMb
      obtain ⟨A', c', rfl, hcap, hC⟩ := Kd.R_reads HMr.out
      have HC' := Aside0.mk hC
      have HCAP := Aside0.mk hcap
      clear hC hcap
      by_cases h3 : x ∈ seen
      ·have hph2 : phr sum seen (x :: t) = (5, seen.length) := by rw [phr, if_neg h1, if_neg h2, if_pos h3]
       have HQ := Aside0.mk (hph2.symm.trans hph)
       have hb4 := Aside0.mk (decide_eq_true h3)
       clear hph hph2 h2 h3 h1
       go_wp2_with (first | (go_at_call 166; refine (contains_calls seen x HC'.out HCAP.out (by have := H100.out; omega)).mono ?_; rw [hb4.out]; rintro e w' ⟨rfl, ⟨nd, rfl⟩⟩) | (go_at_call 113; refine (fnew_some _ _ (by decide) _).mono ?_; rintro e w' ⟨rfl, rfl⟩))
       go_ret2
       have hp : phrases l = (5, seen.length) := (if_neg (by have := H100.out; omega)).trans HQ.out.symm
       refine ⟨pw_below_drewN HB.out _, Or.inr ⟨by rw [hp]; simp, ?_⟩⟩
       rw [hp]; rfl
      ·have hb4 := Aside0.mk (decide_eq_false h3)
       have H1 := Aside0.mk h1
       have H2 := Aside0.mk h2
       have H3 := Aside0.mk h3
       have HPH2 := Aside0.mk hph
       clear h1 h2 h3 hph
       go_wp2_with (first | (go_at_call 166; refine (contains_calls seen x HC'.out HCAP.out (by have := H100.out; omega)).mono ?_; rw [hb4.out]; rintro e w' ⟨rfl, ⟨nd, rfl⟩⟩) | (go_at_call 113; refine (fnew_some _ _ (by decide) _).mono ?_; rintro e w' ⟨rfl, rfl⟩))
       have hcapb : (seen.length + 1) * 16 ≤ 140737488355328 := by omega
       go_region_law ((first | (refine call_step1 (f := 167) (N := some 55) (x := .tmp 54) (t := 9) (.string x) rfl rfl rfl rfl Tryz.func167 nameSClone rfl ?_; refine (sclone_calls x _ (by omega)).mono ?_; rintro e w1 ⟨rfl, hb⟩; refine ⟨_, rfl, ?_⟩; have hbw : Below wr.heap.size wr w1 := ⟨hb.os, hb.tape, hb.output, hb.size, hb.block⟩; clear hb; have HR1 : Aside0 (StrsAt w1 w.heap.size (.slice A' seen.length c') seen) := ⟨Kd.R_below HMr.out hbw⟩; have HB1 : Aside0 (Below w.heap.size w w1) := ⟨below_step HB.out hbw⟩; have HS1 := keepB hbw ⟨hMc, hMf⟩; have hs1 := HS1.1; have hs1a : ∀ o, (w1.alloc o).cell? ⟨w.heap.size, 0, none⟩ = some (.slice A' seen.length c') := (fun o => pw_cell_below ((Below.refl _ _).alloc (Nat.le_refl _) o) HS1.1); clear hbw) | (refine append_str w.heap.size rfl (.tmp 53) (.tmp 56) 22 9 rfl Tryz.underlying22 Leaf.info9 (.slice A' seen.length c') seen x rfl rfl HR1.out HB1.out HB1.out.size hcapb ?_; intro v1 w2 hrow hbelow hgrow hat; have HS2 := keepG hgrow HMne.out HS1; obtain ⟨A1, c1, rfl, hcap1, _⟩ := Kd.R_reads hrow; have HROW := Aside0.mk hrow; clear hrow; have HAT := Aside0.mk hat; clear hat; have HB2 := Aside0.mk hbelow; clear hbelow; have hs2 := HS2.1; have hs3 := HS2.2; clear HS2 hs1 hs1a)))
       all_goals
        go_wp2
        go_roundw
        case rel =>
         have hphn : phr (sum + x.size) (seen ++ [x]) t = phr 0 [] l := by
          rw [← HPH2.out]
          conv => rhs; rw [phr]
          rw [if_neg H1.out, if_neg H2.out, if_neg H3.out]
         have hll : l = (seen ++ [x]) ++ t := by rw [List.append_assoc]; exact HL.out
         have h2 := H2.out
         have hlen1 : (seen ++ [x]).length = seen.length + 1 := by simp
         refine ⟨seen ++ [x], t, sum + x.size, by go_num, by rw [hlen1]; go_num, ⟨hll⟩, ⟨by omega⟩, ⟨hphn⟩, .slice A1 (seen ++ [x]).length c1, ?_⟩
         rw [hlen1]
         have hrow := HROW.out
         rw [hlen1] at hrow
         have hat := HAT.out
         rw [hlen1] at hat
         exact making_step HS1.1 hs2 hs3 hrow hat HMne.out HB2.out hMnew
        case measure => simp [intOf]; omega
   | nil =>
    rw [List.length_nil] at hlen
    have hb0 : decide ((seen.length : Int) < (l.length : Int)) = false := decide_eq_false (by omega)
    have hb0' : decide (seen.length < l.length) = false := decide_eq_false (by omega)
    have hb0n : ¬ seen.length < l.length := by omega
    clear hlen
    go_wp2
    go_ret2
    have hs : l = seen := by rw [HL.out, List.append_nil]
    have hp : phrases l = (0, 0) := (if_neg (by have := H100.out; omega)).trans HPH.out.symm
    refine ⟨HM.below, Or.inl ⟨by rw [hp], _, rfl, ⟨_, _, _, rfl, HM.cell, by rw [hs]; exact HM.row⟩⟩⟩
end Go.Proofs.YtepgkimlmoikmaaGreat
