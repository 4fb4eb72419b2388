/- ShU: a part of its proof (contracts of the functions that it reaches, and the plain mathematics behind them). -/
import Derived.Test.YtepgkimlmoikmaaGreatShU14
import Derived.Deep.DrawnRows
set_option linter.unusedVariables false
set_option linter.unusedSimpArgs false
set_option maxHeartbeats 2000000
set_option maxRecDepth 100000
set_option linter.unusedVariables false
set_option linter.unusedSimpArgs false
namespace Go.Proofs.YtepgkimlmoikmaaGreat
open Go.RowKit Go.Proofs.YtepgkimlmoikmaaGreat.Spec Go.Proofs.YtepgkimlmoikmaaGreatW.PrintWords Go.Proofs.YtepgkimlmoikmaaGreatW.PrintLast
attribute [local go_sem ↓] Go.wp_at_zero Go.wp_at_succ
abbrev StrsAt (w : World) (base : Nat) (v : Value) (l : List ByteArray) : Prop := Kd.R Kd.string 9 w base (fun _ => True) v l
theorem clone_any {w : World} {base : Nat} {v : Value} {l : List ByteArray} (h : StrsAt w base v l) (hl : l.length * 16 ≤ 140737488355328) :
  Calls Tryz.prog 207 #[v] w fun e w' => ∃ v', e = .returned v' ∧ StrsAt w' w.heap.size v' l ∧ Below w.heap.size w w' := by
 have ho := Kd.own_of_R h
 rcases ho.2 with ⟨rfl, he⟩ | ⟨g, cap, cur, rfl, hg, hh, r⟩
 ·have : l = [] := by simpa [encs] using he
  subst this
  refine (Tryz.slices_Clone_string_nil 0 0 w).mono ?_
  rintro e w' ⟨rfl, rfl⟩
  exact ⟨_, rfl, Kd.R_nil _ _ _ _ _, Below.refl _ _⟩
 ·by_cases hn : l.length = 0
  ·have : l = [] := List.length_eq_zero_iff.1 hn
   subst this
   refine (Tryz.slices_Clone_string_zero ⟨g, 0, none⟩ cap w).mono ?_
   rintro e w' ⟨v', rfl, ho', _, hb⟩
   exact ⟨_, rfl, Kd.R_of_own ho' (fun _ _ => trivial), hb⟩
  ·refine (Tryz.slices_Clone_string g 0 l.length cap l w (Nat.le_refl _) hl (fun j hj => ?_)).mono ?_
   ·have := (Kd.R_cell ByteArray.empty h (j : Int) (by omega) (by omega)).1
    simpa [rdOf] using this
   ·rintro e w' ⟨v', rfl, ho', _, hb⟩
    rw [List.take_length] at ho'
    exact ⟨_, rfl, Kd.R_of_own ho' (fun _ _ => trivial), hb⟩
structure DictAt (w : World) (p : Value) (l : List ByteArray) : Prop where mk :: (out : ∃ ad v base, p = .pointer (some ad) ∧ w.cell? ad = some v ∧ StrsAt w base v l)
theorem DictAt.below {w w' : World} {p : Value} {l : List ByteArray} (h : DictAt w p l) (hb : Below w.heap.size w w') : DictAt w' p l := by
 obtain ⟨ad, v, base, hp, hc, hr⟩ := h.out
 exact ⟨ad, v, base, hp, pw_cell_below hb hc, Kd.R_below hr hb⟩
theorem all_nil (w : World) : Calls Tryz.prog 169 #[.pointer none] w fun e w' => e = .returned (.slice none 0 0) ∧ w = w' := by
 go_enter Tryz.func169, Tryz.ntmps169
 go_wp2
 go_ret
 exact ⟨rfl, rfl⟩
theorem all_any {w : World} {p : Value} {l : List ByteArray} (h : DictAt w p l) (hl : l.length * 16 ≤ 140737488355328) : Calls Tryz.prog 169 #[p] w fun e w' => ∃ v', e = .returned v' ∧ StrsAt w' w.heap.size v' l ∧ Below w.heap.size w w' := by
 obtain ⟨ad, v, base, rfl, hc, hr⟩ := h.out
 have HR := Aside0.mk hr
 clear hr h
 obtain ⟨A, c, rfl, _, _⟩ := Kd.R_reads HR.out
 go_enter Tryz.func169, Tryz.ntmps169
 go_wp2_with (go_at_call 207; refine (clone_any HR.out hl).mono ?_; rintro e w' ⟨v', rfl, ho, hb⟩)
 go_ret
 exact ⟨_, rfl, ho, hb⟩
theorem len_nil (w : World) : Calls Tryz.prog 188 #[.pointer none] w fun e w' => e = .returned (.int .i64 0) ∧ w = w' := by
 go_enter Tryz.func188, Tryz.ntmps188
 go_wp2_with (go_at_call 169; refine (all_nil _).mono ?_; rintro e w' ⟨rfl, rfl⟩)
 go_ret
 exact ⟨rfl, rfl⟩
theorem len_any {w : World} {p : Value} {l : List ByteArray} (h : DictAt w p l) (hl : l.length * 16 ≤ 140737488355328) : Calls Tryz.prog 188 #[p] w fun e w' => e = .returned (.int .i64 l.length) ∧ Below w.heap.size w w' := by
 go_enter Tryz.func188, Tryz.ntmps188
 go_wp2_with (go_at_call 169; refine (all_any h hl).mono ?_; rintro e w' ⟨v', rfl, ho, hb⟩; obtain ⟨A, c, rfl, _, _⟩ := Kd.R_reads ho)
 go_ret
 exact ⟨rfl, hb⟩
theorem at_nil (k : Int) (w : World) : Calls Tryz.prog 215 #[.pointer none, .int .i64 k] w fun e w' => e = .returned (.tuple #[.string ⟨#[]⟩, .bool false]) ∧ w = w' := by
 go_enter Tryz.func215, Tryz.ntmps215
 go_wp2
 go_ret2
 exact ⟨rfl, rfl⟩
theorem at_out {w : World} {p : Value} {l : List ByteArray} (h : DictAt w p l) (k : Int) (hk : ¬ (0 ≤ k ∧ k < l.length)) : Calls Tryz.prog 215 #[p, .int .i64 k] w fun e w' => e = .returned (.tuple #[.string ⟨#[]⟩, .bool false]) ∧ w = w' := by
 obtain ⟨ad, v, base, rfl, hc, hr⟩ := h.out
 have HR := Aside0.mk hr
 clear hr h
 obtain ⟨A, c, rfl, _, _⟩ := Kd.R_reads HR.out
 by_cases h0 : k < 0
 ·have h0b : decide (k < 0) = true := decide_eq_true h0
  clear hk
  go_enter Tryz.func215, Tryz.ntmps215
  go_wp2
  go_ret2
  exact ⟨rfl, rfl⟩
 ·have h0b : decide (k < 0) = false := decide_eq_false h0
  have h1b : decide ((l.length : Int) ≤ k) = true := decide_eq_true (by omega)
  clear hk h0
  go_enter Tryz.func215, Tryz.ntmps215
  go_wp2
  go_ret2
  exact ⟨rfl, rfl⟩
theorem at_in {w : World} {p : Value} {l : List ByteArray} (h : DictAt w p l) (k : Int) (h0 : 0 ≤ k) (h1 : k < l.length) : Calls Tryz.prog 215 #[p, .int .i64 k] w fun e w' => e = .returned (.tuple #[.string (l.getD k.toNat ByteArray.empty), .bool true]) ∧ w = w' := by
 obtain ⟨ad, v, base, rfl, hc, hr⟩ := h.out
 have HR := Aside0.mk hr
 clear hr h
 obtain ⟨A, c, rfl, hcap, hC⟩ := Kd.R_reads HR.out
 obtain ⟨ad2, rfl, hx⟩ := Kd.at_string hC k h0 h1
 have h0b : decide (k < 0) = false := decide_eq_false (by omega)
 have h1b : decide ((l.length : Int) ≤ k) = false := decide_eq_false (by omega)
 clear hC hcap
 go_enter Tryz.func215, Tryz.ntmps215
 go_wp2
 go_ret2
 exact ⟨rfl, rfl⟩
structure Making (w wr : World) (B : Nat) (v : Value) (l : List ByteArray) : Prop where mk :: (cell : wr.cell? ⟨B, 0, none⟩ = some v) (free : wr.frozen? ⟨B, 0, none⟩ = false) (row : StrsAt wr w.heap.size v l) (ne : v.ownBlock ≠ some B) (lt : B < wr.heap.size) (new : w.heap.size ≤ B) (below : Below w.heap.size w wr)
theorem wanted_of {oi : Oper} {ops : Array Oper} {a : Act} (hg : oi.guard = none) : Region.wanted oi (yielded ops a.tmps) = true := by simp [Region.wanted, hg]
theorem call_step1 {P : Program} {ops : Array Oper} {Q : Exit → Act → World → Prop} {oi : Oper} {N : Option Tmp} {a : Act} {w : World} {K : Act → World → Prop} {f : FuncId} {fn : Func} {x : Operand} {t : TypeId} (v : Value)
  (hN : oi.dst = N) (hop : oi.op = .call { callee := .value (.func f), args := #[x], argTypes := #[t] }) (hx : a.eval x = v) (hg : oi.guard = none) (hf : P.funcs[f]? = some fn) (hname : (fn.name == "runtime.NumGoroutine") = false) (hb : fn.body.isSome = true)
  (h : Calls P f #[v] w fun e w' => ∃ v, e = .returned v ∧ K (a.put N v) w') : if Region.wanted oi (yielded ops a.tmps) = true then Oper.wp P oi a w K Q else K (a.put N undef) w := goes_ hf hname hb #[v] (wanted_of hg) hN hop (by simp [hx]) h
theorem nameSClone : (Tryz.f167.name == "runtime.NumGoroutine") = false := by kernel_rfl
theorem append_str {P : Program} {ops : Array Oper} {o : Oper} {a : Act} {Q : Exit → Act → World → Prop} {Kc : Act → World → Prop} {w0 W : World} (base : Nat) (hg : o.guard = none) (s x : Operand) (t e : TypeId)
  (ho : o.op = .call { callee := .builtin .append, args := #[s, x], argTypes := #[t, t] })
  (ht : P.underlying t = some (.slice e)) (hinfo : (P.info? e).map (fun i => (i.zero, i.size, i.bytes)) = some (some (.string ⟨#[]⟩), 1, 16))
  (v : Value) (xs : List ByteArray) (p : ByteArray) (hs : a.eval s = v) (hx : a.eval x = .slice (some ⟨W.heap.size, 0, none⟩) 1 1)
  (HO : Kd.R Kd.string e W base (fun _ => True) v xs) (HB : Below base w0 W) (hbase : base ≤ W.heap.size) (hl : (xs.length + 1) * 16 ≤ 140737488355328)
  (h : ∀ v1 w1, Kd.R Kd.string e w1 base (fun _ => True) v1 (xs ++ [p]) → Below base w0 w1 → W.grownBy w1 v.ownBlock → (v1.ownBlock = v.ownBlock ∨ ∃ b, v1.ownBlock = some b ∧ W.heap.size ≤ b) → Kc (a.put o.dst v1) w1) :
  if Region.wanted o (yielded ops a.tmps) = true then Oper.wp P o a (W.alloc (.cells #[.string p] e)) Kc Q else Kc (a.put o.dst undef) (W.alloc (.cells #[.string p] e)) :=
 Kd.R_append_step Kd.string base (wanted_of hg) s x t e _ 16 ho ht hinfo rfl (by decide) (by decide) v xs p [.string p] (fun _ => True) (fun _ => False) hs hx rfl (fun _ h => h.elim) (fun _ _ => trivial) HO HB hbase hl h
theorem keepB {W w1 : World} {B : Nat} {v : Value} (hb : Below W.heap.size W w1) (h : W.cell? ⟨B, 0, none⟩ = some v ∧ W.frozen? ⟨B, 0, none⟩ = false) : w1.cell? ⟨B, 0, none⟩ = some v ∧ w1.frozen? ⟨B, 0, none⟩ = false :=
 ⟨pw_cell_below hb h.1, (hb.frozen (p := ⟨B, 0, none⟩) (World.block_lt_of_cell? W _ h.1)).trans h.2⟩
theorem keepG {W w1 : World} {row : Option Nat} {B : Nat} {v : Value} (hg : W.grownBy w1 row) (hne : row ≠ some B) (h : W.cell? ⟨B, 0, none⟩ = some v ∧ W.frozen? ⟨B, 0, none⟩ = false) : w1.cell? ⟨B, 0, none⟩ = some v ∧ w1.frozen? ⟨B, 0, none⟩ = false :=
 ⟨by rw [hg.cell_far _ (World.block_lt_of_cell? W _ h.1) (Ne.symm hne)]; exact h.1, by rw [hg.frozen_far _ (World.block_lt_of_cell? W _ h.1) (Ne.symm hne)]; exact h.2⟩
theorem making_step {w w1 w2 : World} {B : Nat} {v v1 old : Value} {l : List ByteArray} (hS1 : w1.cell? ⟨B, 0, none⟩ = some old) (hc : w2.cell? ⟨B, 0, none⟩ = some old) (hf : w2.frozen? ⟨B, 0, none⟩ = false) (hrow : StrsAt w2 w.heap.size v1 l)
  (hat : v1.ownBlock = v.ownBlock ∨ ∃ b, v1.ownBlock = some b ∧ w1.heap.size ≤ b) (hne : v.ownBlock ≠ some B) (hb : Below w.heap.size w w2) (hB : w.heap.size ≤ B) : Making w (w2.setCell ⟨B, 0, none⟩ v1) B v1 l := by
 have hne1 : v1.ownBlock ≠ some B := by
  rcases hat with h | ⟨b, h, hle⟩
  ·rw [h]; exact hne
  ·rw [h]
   have := World.block_lt_of_cell? w1 _ hS1
   intro e
   injection e with e
   simp only at this
   omega
 have hlt : B < w2.heap.size := World.block_lt_of_cell? w2 _ hc
 refine ⟨?_, ?_, Kd.R_of_own (own_setCell (Kd.own_of_R hrow) (Ne.symm hne1) _) (fun _ _ => trivial), hne1, by simpa using hlt, hB, hb.setCell hB _⟩
 ·exact World.cell?_setCell_same' _ _ _ (by simp [hc])
 ·rw [World.frozen?_setCell]; exact hf
def NewR (w : World) (l : List ByteArray) (e : Ending) (w' : World) : Prop := Below w.heap.size w w' ∧
 (((phrases l).1 = 0 ∧ ∃ p, e = .returned (.tuple #[p, .nilIface]) ∧ DictAt w' p l) ∨ ((phrases l).1 ≠ 0 ∧ e = .returned (.tuple #[.pointer none, errV (phrases l).1 (phrases l).2])))
theorem new_calls {A : Option Addr} {c : Nat} (l : List ByteArray) (w : World) (hr : StrsIn w A l) (hc : l.length ≤ c) (hsz : ∀ s ∈ l, s.size ≤ 140737488351232) : Calls Tryz.prog 123 #[.slice A l.length c] w (NewR w l) := by
 have HR := Aside0.mk hr
 have HC := Aside0.mk hc
 clear hr hc
 by_cases h100 : 100 < l.length
 ·have hb : decide (100 < (l.length : Int)) = true := decide_eq_true (by omega)
  have hp : phrases l = (10, 100) := if_pos h100
  have HP := Aside0.mk hp
  clear hp h100
  go_enter Tryz.func123, Tryz.ntmps123
  go_wp2_with (go_at_call 113; refine (fnew_some _ _ (by decide) _).mono ?_; rintro e w' ⟨rfl, rfl⟩)
  go_ret2
  refine ⟨Below.refl _ _, Or.inr ⟨by rw [HP.out]; decide, ?_⟩⟩
  rw [HP.out]; rfl
 ·have hb : decide (100 < (l.length : Int)) = false := decide_eq_false (by omega)
  have H100 := Aside0.mk (show l.length ≤ 100 by omega)
  clear h100
  go_enter Tryz.func123, Tryz.ntmps123
  go_wp2_with fail
  go_loopw [5, 17] (fun v5 v17 wr => ∃ (seen rest : List ByteArray) (sum : Nat), v5 = .int .i64 sum ∧ v17 = .int .i64 seen.length ∧ Aside0 (l = seen ++ rest) ∧ Aside0 (sum ≤ 1000) ∧ Aside0 (phr sum seen rest = phr 0 [] l) ∧ ∃ v, Making w wr w.heap.size v seen) (fun _ v17 _ => l.length - (intOf v17).toNat)
  case atStart => exact ⟨[], l, 0, rfl, rfl, ⟨rfl⟩, ⟨by omega⟩, ⟨rfl⟩, .slice none 0 0, ⟨by simp, by simp, Kd.R_nil _ _ _ _ _, by simp [Value.ownBlock], by simp, Nat.le_refl _, (Below.refl _ _).alloc (Nat.le_refl _) _⟩⟩
  case round =>
   obtain ⟨seen, rest, sum, rfl, rfl, HL, HS, HPH, v, HM⟩ := hrel
   have HRw := Aside0.mk (Kd.C_below HR.out HM.below)
   have hlen := congrArg List.length HL.out
   rw [List.length_append] at hlen
   have h100 := H100.out
   cases rest with
   | cons x t =>
    have HLEN := Aside0.mk hlen
    rw [List.length_cons] at hlen
    have hi : seen.length < l.length := by omega
    clear hlen
    obtain ⟨ad, rfl, hx⟩ := Kd.at_string HRw.out (seen.length : Int) (by omega) (by omega)
    have hx2 : rdOf ByteArray.empty l (seen.length : Int) = x := by
     rw [Bridge.rdOf_get l _ hi]
     have := HL.out
     simp only [this, List.getElem_append_right (Nat.le_refl _), Nat.sub_self, List.getElem_cons_zero]
    have hxs := hsz x (by rw [HL.out]; simp)
    rw [hx2, Int.toNat_natCast] at hx
    have hph := HPH.out
    clear hx2
    have hb0 : decide ((seen.length : Int) < (l.length : Int)) = true := decide_eq_true (by omega)
    have hs' := HS.out
    have p1 : (0 : Int) ≤ (seen.length : Int) := by omega
    have p2 : (seen.length : Int) < (l.length : Int) := by omega
    by_cases h1 : x.size = 0
    ·have hb1 : (x.toList == ([] : List UInt8)) = true := beq_iff_eq.2 (Bridge.empty_iff.2 h1)
     have hph2 : phr sum seen (x :: t) = (5, seen.length) := by rw [phr, if_pos h1]
     have HQ := Aside0.mk (hph2.symm.trans hph)
     clear hph hph2 h1
     have HB := Aside0.mk HM.below
     go_wp2_with (go_at_call 113; refine (fnew_some _ _ (by decide) _).mono ?_; rintro e w' ⟨rfl, rfl⟩)
     go_ret2
     have hp : phrases l = (5, seen.length) := (if_neg (by have := H100.out; omega)).trans HQ.out.symm
     refine ⟨HB.out, Or.inr ⟨by rw [hp]; simp, ?_⟩⟩
     rw [hp]; rfl
    ·have hb1 : (x.toList == ([] : List UInt8)) = false := beq_eq_false_iff_ne.2 (fun h => h1 (Bridge.empty_iff.1 h))
     by_cases h2 : 40 < x.size ∨ 1000 < sum + x.size
     ·have hph2 : phr sum seen (x :: t) = (10, seen.length) := by rw [phr, if_neg h1, if_pos h2]
      have HQ := Aside0.mk (hph2.symm.trans hph)
      clear hph hph2
      have HB := Aside0.mk HM.below
      by_cases h3 : 40 < x.size
      ·have hb2 : decide ((40 : Int) < (x.size : Int)) = true := decide_eq_true (by omega)
       clear h2 h3 h1
       go_wp2_with (go_at_call 113; refine (fnew_some _ _ (by decide) _).mono ?_; rintro e w' ⟨rfl, rfl⟩)
       repeat (go_quiet (fail); try go_wp2_with (go_at_call 113; refine (fnew_some _ _ (by decide) _).mono ?_; rintro e w' ⟨rfl, rfl⟩))
       go_ret2
       have hp : phrases l = (10, seen.length) := (if_neg (by have := H100.out; omega)).trans HQ.out.symm
       refine ⟨HB.out, Or.inr ⟨by rw [hp]; simp, ?_⟩⟩
       rw [hp]; rfl
      ·have hb2 : decide ((40 : Int) < (x.size : Int)) = false := decide_eq_false (by omega)
       have hb3 : decide ((1000 : Int) < (sum : Int) + (x.size : Int)) = true := decide_eq_true (by omega)
       clear h2 h3 h1
       go_wp2_with (go_at_call 113; refine (fnew_some _ _ (by decide) _).mono ?_; rintro e w' ⟨rfl, rfl⟩)
       repeat (go_quiet (fail); try go_wp2_with (go_at_call 113; refine (fnew_some _ _ (by decide) _).mono ?_; rintro e w' ⟨rfl, rfl⟩))
       go_ret2
       have hp : phrases l = (10, seen.length) := (if_neg (by have := H100.out; omega)).trans HQ.out.symm
       refine ⟨HB.out, Or.inr ⟨by rw [hp]; simp, ?_⟩⟩
       rw [hp]; rfl
     ·have hb2 : decide ((40 : Int) < (x.size : Int)) = false := decide_eq_false (by omega)
      have hb3 : decide ((1000 : Int) < (sum : Int) + (x.size : Int)) = false := decide_eq_false (by omega)
      obtain ⟨hMc, hMf, hMr, hMne, hMlt, hMnew, hMb⟩ := HM
      have HMr := Aside0.mk hMr
      have HMne := Aside0.mk hMne
      have HB := Aside0.mk hMb
      clear hMr hMne hMb
      obtain ⟨A', c', rfl, hcap, hC⟩ := Kd.R_reads HMr.out
      have HC' := Aside0.mk hC
      have HCAP := Aside0.mk hcap
      clear hC hcap
      by_cases h3 : x ∈ seen
      ·have hph2 : phr sum seen (x :: t) = (5, seen.length) := by rw [phr, if_neg h1, if_neg h2, if_pos h3]
       have HQ := Aside0.mk (hph2.symm.trans hph)
       have hb4 := Aside0.mk (decide_eq_true h3)
       clear hph hph2 h2 h3 h1
       go_wp2_with (first | (go_at_call 166; refine (contains_calls seen x HC'.out HCAP.out (by have := H100.out; omega)).mono ?_; rw [hb4.out]; rintro e w' ⟨rfl, ⟨nd, rfl⟩⟩) | (go_at_call 113; refine (fnew_some _ _ (by decide) _).mono ?_; rintro e w' ⟨rfl, rfl⟩))
       go_ret2
       have hp : phrases l = (5, seen.length) := (if_neg (by have := H100.out; omega)).trans HQ.out.symm
       refine ⟨pw_below_drewN HB.out _, Or.inr ⟨by rw [hp]; simp, ?_⟩⟩
       rw [hp]; rfl
      ·have hb4 := Aside0.mk (decide_eq_false h3)
       have H1 := Aside0.mk h1
       have H2 := Aside0.mk h2
       have H3 := Aside0.mk h3
       have HPH2 := Aside0.mk hph
       clear h1 h2 h3 hph
       go_wp2_with (first | (go_at_call 166; refine (contains_calls seen x HC'.out HCAP.out (by have := H100.out; omega)).mono ?_; rw [hb4.out]; rintro e w' ⟨rfl, ⟨nd, rfl⟩⟩) | (go_at_call 113; refine (fnew_some _ _ (by decide) _).mono ?_; rintro e w' ⟨rfl, rfl⟩))
       have hcapb : (seen.length + 1) * 16 ≤ 140737488355328 := by omega
       go_region_law ((first | (refine call_step1 (f := 167) (N := some 55) (x := .tmp 54) (t := 9) (.string x) rfl rfl rfl rfl Tryz.func167 nameSClone rfl ?_; refine (sclone_calls x _ (by omega)).mono ?_; rintro e w1 ⟨rfl, hb⟩; refine ⟨_, rfl, ?_⟩; have hbw : Below wr.heap.size wr w1 := ⟨hb.os, hb.tape, hb.output, hb.size, hb.block⟩; clear hb; have HR1 : Aside0 (StrsAt w1 w.heap.size (.slice A' seen.length c') seen) := ⟨Kd.R_below HMr.out hbw⟩; have HB1 : Aside0 (Below w.heap.size w w1) := ⟨below_step HB.out hbw⟩; have HS1 := keepB hbw ⟨hMc, hMf⟩; have hs1 := HS1.1; have hs1a : ∀ o, (w1.alloc o).cell? ⟨w.heap.size, 0, none⟩ = some (.slice A' seen.length c') := (fun o => pw_cell_below ((Below.refl _ _).alloc (Nat.le_refl _) o) HS1.1); clear hbw) | (refine append_str w.heap.size rfl (.tmp 53) (.tmp 56) 22 9 rfl Tryz.underlying22 Leaf.info9 (.slice A' seen.length c') seen x rfl rfl HR1.out HB1.out HB1.out.size hcapb ?_; intro v1 w2 hrow hbelow hgrow hat; have HS2 := keepG hgrow HMne.out HS1; obtain ⟨A1, c1, rfl, hcap1, _⟩ := Kd.R_reads hrow; have HROW := Aside0.mk hrow; clear hrow; have HAT := Aside0.mk hat; clear hat; have HB2 := Aside0.mk hbelow; clear hbelow; have hs2 := HS2.1; have hs3 := HS2.2; clear HS2 hs1 hs1a)))
       all_goals
        go_wp2
        go_roundw
        case rel =>
         have hphn : phr (sum + x.size) (seen ++ [x]) t = phr 0 [] l := by
          rw [← HPH2.out]
          conv => rhs; rw [phr]
          rw [if_neg H1.out, if_neg H2.out, if_neg H3.out]
         have hll : l = (seen ++ [x]) ++ t := by rw [List.append_assoc]; exact HL.out
         have h2 := H2.out
         have hlen1 : (seen ++ [x]).length = seen.length + 1 := by simp
         refine ⟨seen ++ [x], t, sum + x.size, by go_num, by rw [hlen1]; go_num, ⟨hll⟩, ⟨by omega⟩, ⟨hphn⟩, .slice A1 (seen ++ [x]).length c1, ?_⟩
         rw [hlen1]
         have hrow := HROW.out
         rw [hlen1] at hrow
         have hat := HAT.out
         rw [hlen1] at hat
         exact making_step HS1.1 hs2 hs3 hrow hat HMne.out HB2.out hMnew
        case measure => simp [intOf]; omega
   | nil =>
    rw [List.length_nil] at hlen
    have hb0 : decide ((seen.length : Int) < (l.length : Int)) = false := decide_eq_false (by omega)
    have hb0' : decide (seen.length < l.length) = false := decide_eq_false (by omega)
    have hb0n : ¬ seen.length < l.length := by omega
    clear hlen
    go_wp2
    go_ret2
    have hs : l = seen := by rw [HL.out, List.append_nil]
    have hp : phrases l = (0, 0) := (if_neg (by have := H100.out; omega)).trans HPH.out.symm
    refine ⟨HM.below, Or.inl ⟨by rw [hp], _, rfl, ⟨_, _, _, rfl, HM.cell, by rw [hs]; exact HM.row⟩⟩⟩
end Go.Proofs.YtepgkimlmoikmaaGreat
set_option linter.unusedVariables false
set_option linter.unusedSimpArgs false
namespace Go.Proofs.YtepgkimlmoikmaaGreat
open Go.RowKit Go.Proofs.YtepgkimlmoikmaaGreat.Spec Go.Proofs.YtepgkimlmoikmaaGreatW.PrintWords Go.Proofs.YtepgkimlmoikmaaGreatW.PrintLast
open Go.Proofs.YtepgkimlmoikmaaGreatW.PrintMore
attribute [local go_sem] max2_int min2_int max_two min_two
theorem drawn_below {w w' : World} (h : Drawn0 w w') : Below w.heap.size w w' := h.below
end Go.Proofs.YtepgkimlmoikmaaGreat
set_option linter.unusedVariables false
set_option linter.unusedSimpArgs false
namespace Go.Proofs.YtepgkimlmoikmaaGreat
open Go.RowKit Go.Proofs.YtepgkimlmoikmaaGreat.Spec Go.Proofs.YtepgkimlmoikmaaGreatW.PrintWords Go.Proofs.YtepgkimlmoikmaaGreatW.PrintLast
open Go.Proofs.YtepgkimlmoikmaaGreatW.PrintMore
theorem new_yes {A : Option Addr} {c : Nat} (l : List ByteArray) (w : World) (hr : StrsIn w A l) (hc : l.length ≤ c) (hsz : ∀ s ∈ l, s.size ≤ 140737488351232) (h : (phrases l).1 = 0) : Calls Tryz.prog 123 #[.slice A l.length c] w fun e w' => ∃ ad, e = .returned (.tuple #[.pointer (some ad), .nilIface]) ∧ DictAt w' (.pointer (some ad)) l ∧ Below w.heap.size w w' := by
 refine (new_calls l w hr hc hsz).mono ?_
 rintro e w' ⟨hb, h1 | h1⟩
 ·obtain ⟨_, p, rfl, hd⟩ := h1
  obtain ⟨ad, v, base, rfl, hq⟩ := hd.out
  exact ⟨ad, rfl, hd, hb⟩
 ·exact absurd h h1.1
theorem make_yes {A : Option Addr} {c : Nat} (l : List ByteArray) (w : World) (hr : StrsIn w A l) (hc : l.length ≤ c) (hsz : ∀ s ∈ l, s.size ≤ 140737488351232) (h : (phrases l).1 = 0) : Calls Tryz.prog 67 #[.slice A l.length c] w fun e w' => ∃ ad, e = .returned (.pointer (some ad)) ∧ DictAt w' (.pointer (some ad)) l ∧ Below w.heap.size w w' := by
 have HC := Aside0.mk hc
 have HR := Aside0.mk hr
 have H := Aside0.mk h
 clear hr h hc
 go_enter Tryz.func67, Tryz.ntmps67
 go_wp2_with (go_at_call 123; refine (new_yes l _ HR.out HC.out hsz H.out).mono ?_; rintro e w' ⟨ad, rfl, hd, hb⟩)
 go_ret
 exact ⟨ad, rfl, hd, hb⟩
theorem strs_lit (w : World) (l : List ByteArray) (hm : l.length ≤ 1000) : StrsIn (w.alloc (.cells (l.map Value.string).toArray 9)) (some ⟨w.heap.size, 0, none⟩) l :=
 (Kd.R_reads' (Kd.R_of_own (h1 := fun _ => rfl) (ok := fun _ => True) (own_lit_of (enc := Value.string) w 0 9 l (Nat.zero_le _) (by omega)) (fun _ _ => trivial))).2.2
def la : List ByteArray := [⟨#[97, 98]⟩, ⟨#[99]⟩]
def lb : List ByteArray := [⟨#[97]⟩, ⟨#[97]⟩]
end Go.Proofs.YtepgkimlmoikmaaGreat
set_option linter.unusedVariables false
set_option linter.unusedSimpArgs false
namespace Go.Proofs.YtepgkimlmoikmaaGreat
open Go.RowKit Go.Proofs.YtepgkimlmoikmaaGreat.Spec Go.Proofs.YtepgkimlmoikmaaGreatW.PrintWords Go.Proofs.YtepgkimlmoikmaaGreatW.PrintLast
attribute [local go_sem ↓] Go.wp_at_zero Go.wp_at_succ
namespace Spec
def word (l : List ByteArray) (t : Int) : ByteArray := if t < 0 then ⟨#[]⟩ else if t < 256 then ⟨#[UInt8.ofNat t.toNat]⟩ else l.getD (t.toNat - 256) ⟨#[]⟩
def Tok (l : List ByteArray) (t : Int) : Prop := 0 ≤ t ∧ t < 256 + (l.length : Int)
instance (l : List ByteArray) (t : Int) : Decidable (Tok l t) := by unfold Tok; infer_instance
theorem word_low {l : List ByteArray} {t : Int} (h0 : 0 ≤ t) (h : t < 256) : word l t = ⟨#[UInt8.ofNat t.toNat]⟩ := by unfold word; rw [if_neg (by omega), if_pos h]
theorem word_neg {l : List ByteArray} {t : Int} (h : t < 0) : word l t = ⟨#[]⟩ := by unfold word; rw [if_pos h]
theorem word_high {l : List ByteArray} {t : Int} (h : ¬ t < 256) : word l t = l.getD (t.toNat - 256) ⟨#[]⟩ := by unfold word; rw [if_neg (by omega), if_neg h]
theorem word_out {l : List ByteArray} {t : Int} (h : ¬ Tok l t) : word l t = ⟨#[]⟩ := by
 unfold Tok at h
 by_cases h0 : t < 0
 ·exact word_neg h0
 ·rw [word_high (by omega), List.getD_eq_getElem?_getD, List.getElem?_eq_none (by omega)]; rfl
theorem word_size {l : List ByteArray} (hl : ∀ s ∈ l, 1 ≤ s.size ∧ s.size ≤ 40) {t : Int} (h : Tok l t) : 1 ≤ (word l t).size ∧ (word l t).size ≤ 40 := by
 unfold Tok at h
 by_cases h1 : t < 256
 ·rw [word_low h.1 h1]; exact ⟨Nat.le_refl 1, by show 1 ≤ 40; omega⟩
 ·rw [word_high h1, List.getD_eq_getElem?_getD, List.getElem?_eq_getElem (by omega)]
  exact hl _ (List.getElem_mem _)
def cat (l : List ByteArray) : List Int → ByteArray
 | [] => ⟨#[]⟩
 | t :: r => word l t ++ cat l r
theorem ba_append_nil (a : ByteArray) : a ++ (⟨#[]⟩ : ByteArray) = a := by apply u_inj; simp [u]
theorem ba_nil_append (a : ByteArray) : (⟨#[]⟩ : ByteArray) ++ a = a := by apply u_inj; simp [u]
theorem ba_assoc (a b c : ByteArray) : a ++ b ++ c = a ++ (b ++ c) := by apply u_inj; simp [u]
theorem cat_append (l : List ByteArray) (a b : List Int) : cat l (a ++ b) = cat l a ++ cat l b := by
 induction a with
 | nil => rw [List.nil_append, cat, ba_nil_append]
 | cons t r ih => rw [List.cons_append, cat, cat, ih, ba_assoc]
def nums2 : List Int → List UInt8
 | [] => []
 | t :: r => num t.toNat ++ nums2 r
theorem nums2_append (a b : List Int) : nums2 (a ++ b) = nums2 a ++ nums2 b := by
 induction a with
 | nil => rfl
 | cons t r ih => rw [List.cons_append, nums2, nums2, ih, List.append_assoc]
end Spec
namespace Bridge
open Leaf
theorem means_ev (l : List ByteArray) (hl : l.length ≤ 1000) (t : Int) (h0 : -9223372036854775808 ≤ t) (h1 : t ≤ 9223372036854775807) : Ev (fun k => lexiphaneref1_Means.f k l t) (word l t, decide (Tok l t)) := by
 have hstep : ∀ k, lexiphaneref1_Means.f k l t = lexiphaneref1_Means.j0 k l t (decide (¬ Tok l t)) := by
  intro k
  unfold lexiphaneref1_Means.f Tok
  rw [wr (x := 256 + (l.length : Int)) (by omega) (by omega)]
  by_cases h : t < 0
  ·rw [if_pos h]; congr 1; symm; rw [decide_eq_true_iff]; omega
  ·rw [if_neg h]; congr 1; rw [decide_eq_decide]; omega
 refine Ev.congr hstep ?_
 refine Ev.step (f := fun _ => some (word l t, decide (Tok l t))) (fun k => ?_) (Ev.now _)
 simp only [lexiphaneref1_Means.j0]
 by_cases h : Tok l t
 ·rw [if_neg (by simpa using h), decide_eq_true h]
  have h' := h
  unfold Tok at h'
  by_cases h2 : t < 256
  ·rw [if_pos h2, word_low h'.1 h2, show t % 256 = t by omega]
   rfl
  ·rw [if_neg h2, wr (by omega) (by omega), if_pos (by omega), if_pos (by omega), word_high h2]
   unfold rdOf
   rw [show (t - 256).toNat = t.toNat - 256 by omega]
   rfl
 ·rw [if_pos (by simpa using h), decide_eq_false h, word_out h]
end Bridge
theorem textd_any {w : World} {p : Value} {l : List ByteArray} (h : DictAt w p l) (t : Int) (h0 : -9223372036854775808 ≤ t) (h1 : t ≤ 9223372036854775807) : Calls Tryz.prog 185 #[p, .int .i64 t] w fun e w' => e = .returned (.string (word l t)) ∧ Below w.heap.size w w' := by
 have H := Aside0.mk h
 obtain ⟨ad, v, base, rfl, _, _⟩ := h.out
 clear h
 by_cases hneg : t < 0
 ·have d1 : decide (t < 0) = true := decide_eq_true hneg
  have HW := Aside0.mk (word_neg (l := l) hneg)
  clear hneg
  go_enter Tryz.func185, Tryz.ntmps185
  go_wp2
  go_ret
  rw [HW.out]
  exact ⟨rfl, Below.refl _ _⟩
 ·have d1 : decide (t < 0) = false := decide_eq_false hneg
  by_cases hlow : t < 256
  ·have d2 : decide (t < 256) = true := decide_eq_true hlow
   have HW := Aside0.mk (word_low (l := l) (by omega) hlow)
   have HT := Aside0.mk (show 0 ≤ t ∧ t < 256 by omega)
   have hw8 : IntKind.u8.wrap t = t := by rw [IntKind.wrap_u8]; omega
   have hcv := own_string (P := Tryz.prog) (src := 55) (dst := 9) (e := 5) Tryz.underlying55 Tryz.underlying5 Tryz.underlying9 (own_lit w w.heap.size 5 .u8 [t] (Nat.le_refl _) (by simp))
   simp only [nums, List.map_cons, List.map_nil, List.length_cons, List.length_nil, Nat.zero_add] at hcv
   clear hneg hlow
   go_enter Tryz.func185, Tryz.ntmps185
   go_wp2
   go_ret
   rw [HW.out]
   exact ⟨rfl, (Below.refl _ _).alloc (Nat.le_refl _) _⟩
  ·have d2 : decide (t < 256) = false := decide_eq_false hlow
   have HW := Aside0.mk (word_high (l := l) hlow)
   have HT := Aside0.mk (show 256 ≤ t by omega)
   have hw : wrap64 (t - 256) = t - 256 := Bridge.wr (by omega) (by omega)
   clear hneg hlow
   by_cases hin : t - 256 < l.length
   ·have HIN := Aside0.mk hin
    clear hin
    go_enter Tryz.func185, Tryz.ntmps185
    go_wp2_with fail
    refine (at_in H.out (t - 256) (by have := HT.out; omega) HIN.out).mono ?_
    rintro e w' ⟨rfl, rfl⟩
    go_wp2
    go_ret
    rw [HW.out, show t.toNat - 256 = (t - 256).toNat by have := HT.out; omega]
    exact ⟨rfl, Below.refl _ _⟩
   ·have HIN := Aside0.mk (show (l.length : Int) ≤ t - 256 by omega)
    clear hin
    go_enter Tryz.func185, Tryz.ntmps185
    go_wp2_with fail
    refine (at_out H.out (t - 256) (fun hh => by have := HIN.out; omega)).mono ?_
    rintro e w' ⟨rfl, rfl⟩
    go_wp2
    go_ret
    rw [HW.out, List.getD_eq_getElem?_getD, List.getElem?_eq_none (by have := HT.out; have := HIN.out; omega)]
    exact ⟨rfl, Below.refl _ _⟩
structure DictN (w : World) (p : Value) (l : List ByteArray) : Prop where mk :: (out : DictAt w p l ∨ p = .pointer none ∧ l = [])
theorem DictN.below {w w' : World} {p : Value} {l : List ByteArray} (h : DictN w p l) (hb : Below w.heap.size w w') : DictN w' p l := ⟨h.out.imp (fun h => h.below hb) id⟩
theorem DictN.of {w : World} {p : Value} {l : List ByteArray} (h : DictAt w p l) : DictN w p l := ⟨.inl h⟩
theorem DictN.nil (w : World) : DictN w (.pointer none) [] := ⟨.inr ⟨rfl, rfl⟩⟩
theorem alln_any {w : World} {p : Value} {l : List ByteArray} (h : DictN w p l) (hl : l.length * 16 ≤ 140737488355328) : Calls Tryz.prog 169 #[p] w fun e w' => ∃ v', e = .returned v' ∧ StrsAt w' w.heap.size v' l ∧ Below w.heap.size w w' := by
 rcases h.out with h | ⟨rfl, rfl⟩
 ·exact all_any h hl
 ·refine (all_nil w).mono ?_
  rintro e w' ⟨rfl, rfl⟩
  exact ⟨_, rfl, Kd.R_nil _ _ _ _ _, Below.refl _ _⟩
theorem textn_nil {w : World} (t : Int) (h0 : -9223372036854775808 ≤ t) (h1 : t ≤ 9223372036854775807) : Calls Tryz.prog 185 #[.pointer none, .int .i64 t] w fun e w' => e = .returned (.string (word [] t)) ∧ Below w.heap.size w w' := by
 by_cases hneg : t < 0
 ·have d1 : decide (t < 0) = true := decide_eq_true hneg
  have HW := Aside0.mk (word_neg (l := []) hneg)
  clear hneg
  go_enter Tryz.func185, Tryz.ntmps185
  go_wp2
  go_ret
  rw [HW.out]
  exact ⟨rfl, Below.refl _ _⟩
 ·have d1 : decide (t < 0) = false := decide_eq_false hneg
  by_cases hlow : t < 256
  ·have d2 : decide (t < 256) = true := decide_eq_true hlow
   have HW := Aside0.mk (word_low (l := []) (by omega) hlow)
   have HT := Aside0.mk (show 0 ≤ t ∧ t < 256 by omega)
   have hw8 : IntKind.u8.wrap t = t := by rw [IntKind.wrap_u8]; omega
   have hcv := own_string (P := Tryz.prog) (src := 55) (dst := 9) (e := 5) Tryz.underlying55 Tryz.underlying5 Tryz.underlying9 (own_lit w w.heap.size 5 .u8 [t] (Nat.le_refl _) (by simp))
   simp only [nums, List.map_cons, List.map_nil, List.length_cons, List.length_nil, Nat.zero_add] at hcv
   clear hneg hlow
   go_enter Tryz.func185, Tryz.ntmps185
   go_wp2
   go_ret
   rw [HW.out]
   exact ⟨rfl, (Below.refl _ _).alloc (Nat.le_refl _) _⟩
  ·have d2 : decide (t < 256) = false := decide_eq_false hlow
   have HW := Aside0.mk (show word [] t = ⟨#[]⟩ by rw [word_high (l := []) hlow]; rfl)
   have hw : wrap64 (t - 256) = t - 256 := Bridge.wr (by omega) (by omega)
   clear hneg hlow
   go_enter Tryz.func185, Tryz.ntmps185
   go_wp2_with fail
   refine (at_nil _ _).mono ?_
   rintro e w' ⟨rfl, rfl⟩
   go_wp2
   go_ret
   rw [HW.out]
   exact ⟨rfl, Below.refl _ _⟩
theorem text_any {w : World} {p : Value} {l : List ByteArray} (h : DictN w p l) (t : Int) (h0 : -9223372036854775808 ≤ t) (h1 : t ≤ 9223372036854775807) : Calls Tryz.prog 185 #[p, .int .i64 t] w fun e w' => e = .returned (.string (word l t)) ∧ Below w.heap.size w w' := by
 rcases h.out with h | ⟨rfl, rfl⟩
 ·exact textd_any h t h0 h1
 ·exact textn_nil t h0 h1
end Go.Proofs.YtepgkimlmoikmaaGreat
set_option linter.unusedVariables false
set_option linter.unusedSimpArgs false
namespace Go.Proofs.YtepgkimlmoikmaaGreat
open Go.RowKit Go.Proofs.YtepgkimlmoikmaaGreat.Spec Go.Proofs.YtepgkimlmoikmaaGreatW.PrintWords Go.Proofs.YtepgkimlmoikmaaGreatW.PrintLast
open Go.Proofs.YtepgkimlmoikmaaGreatW.PrintMore
attribute [local go_sem ↓] Go.wp_at_zero Go.wp_at_succ
attribute [local go_sem] max2_int min2_int max_two min_two
namespace Spec
def fitsR (kind raw n : Nat) : Prop := (1 ≤ raw ∧ raw ≤ 1024) ∧ 1 ≤ n ∧ (kind = 1 ∧ n = raw ∨ kind = 2 ∧ n < raw)
instance (kind raw n : Nat) : Decidable (fitsR kind raw n) := inferInstanceAs (Decidable ((1 ≤ raw ∧ raw ≤ 1024) ∧ 1 ≤ n ∧ (kind = 1 ∧ n = raw ∨ kind = 2 ∧ n < raw)))
theorem u_ext (b : ByteArray) (i j : Nat) : u (b.extract i j) = ((u b).drop i).take (j - i) := by
 unfold u
 rw [ByteArray.data_extract, Array.toList_extract, List.extract_eq_take_drop]
theorem ext_sz (b : ByteArray) (i j : Nat) (h : j ≤ b.size) : (b.extract i j).size = j - i := by
 rw [← u_size, u_ext, List.length_take, List.length_drop, u_size]
 omega
end Spec
namespace Bridge
open Leaf
end Bridge
end Go.Proofs.YtepgkimlmoikmaaGreat
set_option linter.unusedVariables false
set_option linter.unusedSimpArgs false
namespace Go.Proofs.YtepgkimlmoikmaaGreat
open Go.RowKit Go.Proofs.YtepgkimlmoikmaaGreat.Spec Go.Proofs.YtepgkimlmoikmaaGreatW.PrintWords Go.Proofs.YtepgkimlmoikmaaGreatW.PrintLast
open Go.Proofs.YtepgkimlmoikmaaGreatW.PrintMore
attribute [local go_sem ↓] Go.wp_at_zero Go.wp_at_succ
attribute [local go_sem] max2_int min2_int max_two min_two
namespace Spec
end Spec
end Go.Proofs.YtepgkimlmoikmaaGreat
set_option linter.unusedVariables false
set_option linter.unusedSimpArgs false
namespace Go.Proofs.YtepgkimlmoikmaaGreat
open Go.RowKit Go.Proofs.YtepgkimlmoikmaaGreat.Spec Go.Proofs.YtepgkimlmoikmaaGreatW.PrintWords Go.Proofs.YtepgkimlmoikmaaGreatW.PrintLast
open Go.Proofs.YtepgkimlmoikmaaGreatW.PrintMore
attribute [local go_sem ↓] Go.wp_at_zero Go.wp_at_succ
attribute [local go_sem] max2_int min2_int max_two min_two
namespace Spec
end Spec
end Go.Proofs.YtepgkimlmoikmaaGreat
