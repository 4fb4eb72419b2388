/- ShU: a part of its proof (contracts of the functions that it reaches, and the plain mathematics behind them). -/
import Derived.Test.YtepgkimlmoikmaaGreatShU17
import Derived.Deep.RegionLaw
import Derived.Deep.RegionHeld3
set_option linter.unusedVariables false
set_option linter.unusedSimpArgs false
set_option maxHeartbeats 2000000
set_option maxRecDepth 100000
set_option linter.unusedVariables false
set_option linter.unusedSimpArgs false
namespace Go.Proofs.YtepgkimlmoikmaaGreat
open Go.RowKit Go.Proofs.YtepgkimlmoikmaaGreat.Spec Go.Proofs.YtepgkimlmoikmaaGreatW.PrintWords Go.Proofs.YtepgkimlmoikmaaGreatW.PrintLast
open Go.Proofs.YtepgkimlmoikmaaGreatW.PrintMore
attribute [local go_sem ↓] Go.wp_at_zero Go.wp_at_succ
attribute [local go_sem] max2_int min2_int max_two min_two
namespace Spec
def maxL : List Int → Int
 | [] => 0
 | x :: r => r.foldl max x
theorem maxL_take (l : List Int) (i : Nat) (h0 : 0 < i) (h : i < l.length) : maxL (l.take (i + 1)) = max (maxL (l.take i)) l[i] := by
 cases l with
 | nil => exact absurd h (by simp)
 | cons x r =>
  obtain ⟨j, rfl⟩ : ∃ j, i = j + 1 := ⟨i - 1, by omega⟩
  rw [List.length_cons] at h
  have hj : j < r.length := by omega
  rw [List.take_succ_cons, List.take_succ_cons, maxL, maxL, List.take_add_one, List.getElem?_eq_getElem hj, List.foldl_append]
  rfl
def sym (l : List Int) (n : Nat) (s : Nat) : List Int := ((List.range s).filter (fun i => decide (l.getD i 0 = (n : Int)))).map (fun i : Nat => (i : Int))
def fst (l : List Int) (n : Nat) (s : Nat) : Int := if sym l n s = [] then 0 else ((2 * preC l (n - 1) : Nat) : Int)
theorem sym_zero (l : List Int) (n : Nat) : sym l n 0 = [] := rfl
theorem sym_go (l : List Int) (n s : Nat) (h : l.getD s 0 = (n : Int)) : sym l n (s + 1) = sym l n s ++ [(s : Int)] := by
 unfold sym
 rw [List.range_succ, List.filter_append, List.map_append, List.filter_cons_of_pos (by rw [decide_eq_true_iff]; exact h)]
 rfl
theorem sym_skip (l : List Int) (n s : Nat) (h : l.getD s 0 ≠ (n : Int)) : sym l n (s + 1) = sym l n s := by
 unfold sym
 rw [List.range_succ, List.filter_append, List.map_append, List.filter_cons_of_neg (by rw [decide_eq_true_iff]; exact h), List.filter_nil, List.map_nil, List.append_nil]
theorem sym_cnt (l : List Int) (n s : Nat) (hs : s ≤ l.length) : (sym l n s).length = cnt (l.take s) (n : Int) := by
 induction s with
 | zero => rfl
 | succ s ih =>
  have h1 := ih (by omega)
  rw [cnt_take l n s (by omega)]
  have hg : l.getD s 0 = l[s] := by rw [List.getD_eq_getElem?_getD, List.getElem?_eq_getElem (by omega)]; rfl
  by_cases h : l[s] = (n : Int)
  ·rw [if_pos h, sym_go l n s (by rw [hg]; exact h), List.length_append, h1]; rfl
  ·rw [if_neg h, sym_skip l n s (by rw [hg]; exact h), h1]; rfl
def upd {α : Type} (f : Nat → α) (m : Nat) (v : α) : Nat → α := fun n => if n = m then v else f n
theorem upd_same {α : Type} (f : Nat → α) (m : Nat) (v : α) : upd f m v m = v := if_pos rfl
theorem upd_other {α : Type} (f : Nat → α) (m : Nat) (v : α) {n : Nat} (h : n ≠ m) : upd f m v n = f n := if_neg h
end Spec
structure TabR (w : World) (base h : Nat) (mo us : Int) (S : Nat → List Int) (F : Nat → Int) (A : Nat → Option Addr) (c : Nat → Nat) : Prop where
 sy : ∀ n, n < 16 → w.cell? ⟨h, n, none⟩ = some (.slice (A n) (S n).length (c n))
 fs : ∀ n, n < 16 → w.cell? ⟨h, 16 + n, none⟩ = some (.int .i64 (F n))
 cm : w.cell? ⟨h, 32, none⟩ = some (.int .i64 mo)
 cn : w.cell? ⟨h, 33, none⟩ = some (.int .i64 us)
 fz : ∀ n, w.frozen? ⟨h, n, none⟩ = false
 own : ∀ n, n < 16 → (Kd.int .i64).R 3 w base (fun k => k ≠ h) (.slice (A n) (S n).length (c n)) (S n)
 ap : ∀ m n, m < 16 → n < 16 → m ≠ n → ∀ k, (Value.slice (A m) (S m).length (c m)).ownBlock = some k → (Value.slice (A n) (S n).length (c n)).ownBlock ≠ some k
theorem TabR.lt {w : World} {base h : Nat} {mo us : Int} {S : Nat → List Int} {F : Nat → Int} {A : Nat → Option Addr} {c : Nat → Nat} (H : TabR w base h mo us S F A c) : h < w.heap.size := World.block_lt_of_cell? w _ H.cm
theorem TabR.below {w w1 : World} {base h : Nat} {mo us : Int} {S : Nat → List Int} {F : Nat → Int} {A : Nat → Option Addr} {c : Nat → Nat} (H : TabR w base h mo us S F A c) (hb : Below w.heap.size w w1) : TabR w1 base h mo us S F A c :=
 ⟨fun n hn => pw_cell_below hb (H.sy n hn), fun n hn => pw_cell_below hb (H.fs n hn), pw_cell_below hb H.cm, pw_cell_below hb H.cn, fun n => (hb.frozen (p := ⟨h, n, none⟩) H.lt).trans (H.fz n), fun n hn => Kd.R_below (H.own n hn) hb, H.ap⟩
theorem TabR.congr {w : World} {base h : Nat} {mo us : Int} {S S' : Nat → List Int} {F F' : Nat → Int} {A : Nat → Option Addr} {c : Nat → Nat} (H : TabR w base h mo us S F A c) (hS : ∀ n, S n = S' n) (hF : ∀ n, F n = F' n) : TabR w base h mo us S' F' A c := by
 rw [← funext hS, ← funext hF]
 exact H
theorem TabR.put1 {w : World} {base h : Nat} {mo us : Int} {S : Nat → List Int} {F : Nat → Int} {A : Nat → Option Addr} {c : Nat → Nat} (H : TabR w base h mo us S F A c) (m : Nat) (hm : m < 16) (v : Int) :
  TabR (w.setCell ⟨h, 16 + m, none⟩ (.int .i64 v)) base h mo us S (upd F m v) A c := by
 have ne : ∀ j, j ≠ 16 + m → (⟨h, 16 + m, none⟩ : Addr) ≠ ⟨h, j, none⟩ := fun j hj e => hj (by injection e with _ e2 _; exact e2.symm)
 refine ⟨fun n hn => ?_, fun n hn => ?_, ?_, ?_, fun n => ?_, fun n hn => ?_, H.ap⟩
 ·rw [World.cell?_setCell_other _ _ _ _ (ne n (by omega))]; exact H.sy n hn
 ·by_cases e : n = m
  ·subst e; rw [upd_same]; exact World.cell?_setCell_same _ _ _ (H.fs n hn)
  ·rw [upd_other _ _ _ e, World.cell?_setCell_other _ _ _ _ (ne _ (by omega))]; exact H.fs n hn
 ·rw [World.cell?_setCell_other _ _ _ _ (ne _ (by omega))]; exact H.cm
 ·rw [World.cell?_setCell_other _ _ _ _ (ne _ (by omega))]; exact H.cn
 ·rw [World.frozen?_setCell]; exact H.fz n
 ·exact Kd.R_far (H.own n hn) (fun k hk => hk) _
theorem TabR.put2 {w w1 : World} {base h : Nat} {mo us : Int} {S : Nat → List Int} {F : Nat → Int} {A : Nat → Option Addr} {c : Nat → Nat} (H : TabR w base h mo us S F A c) (m : Nat) (hm : m < 16) (x : Int) {A1 : Option Addr} {c1 : Nat}
  (hr : (Kd.int .i64).R 3 w1 base (fun k => k ≠ h) (.slice A1 (S m ++ [x]).length c1) (S m ++ [x])) (hg : w.grownBy w1 (Value.slice (A m) (S m).length (c m)).ownBlock)
  (hat : (Value.slice A1 (S m ++ [x]).length c1).ownBlock = (Value.slice (A m) (S m).length (c m)).ownBlock ∨ ∃ b, (Value.slice A1 (S m ++ [x]).length c1).ownBlock = some b ∧ w.heap.size ≤ b) :
  TabR (w1.setCell ⟨h, m, none⟩ (.slice A1 (S m ++ [x]).length c1)) base h mo us (upd S m (S m ++ [x])) F (upd A m A1) (upd c m c1) := by
 have hne : some h ≠ (Value.slice (A m) (S m).length (c m)).ownBlock := fun e => (H.own m hm).1 h e.symm rfl
 have hc : ∀ j, w1.cell? ⟨h, j, none⟩ = w.cell? ⟨h, j, none⟩ := fun j => hg.cell_far ⟨h, j, none⟩ H.lt hne
 have hf : ∀ j, w1.frozen? ⟨h, j, none⟩ = w.frozen? ⟨h, j, none⟩ := fun j => hg.frozen_far ⟨h, j, none⟩ H.lt hne
 have ne : ∀ j, j ≠ m → (⟨h, m, none⟩ : Addr) ≠ ⟨h, j, none⟩ := fun j hj e => hj (by injection e with _ e2 _; exact e2.symm)
 refine ⟨fun n hn => ?_, fun n hn => ?_, ?_, ?_, fun n => ?_, fun n hn => ?_, fun i j hi hj hij k hk => ?_⟩
 ·by_cases e : n = m
  ·subst e; rw [upd_same, upd_same, upd_same]; exact World.cell?_setCell_same _ _ _ ((hc n).trans (H.sy n hn))
  ·rw [upd_other _ _ _ e, upd_other _ _ _ e, upd_other _ _ _ e, World.cell?_setCell_other _ _ _ _ (ne _ e), hc]; exact H.sy n hn
 ·rw [World.cell?_setCell_other _ _ _ _ (ne _ (by omega)), hc]; exact H.fs n hn
 ·rw [World.cell?_setCell_other _ _ _ _ (ne _ (by omega)), hc]; exact H.cm
 ·rw [World.cell?_setCell_other _ _ _ _ (ne _ (by omega)), hc]; exact H.cn
 ·rw [World.frozen?_setCell, hf]; exact H.fz n
 ·by_cases e : n = m
  ·subst e; rw [upd_same, upd_same, upd_same]; exact Kd.R_far hr (fun k hk => hk) _
  ·rw [upd_other _ _ _ e, upd_other _ _ _ e, upd_other _ _ _ e]
   have h1 := Kd.R_tight2 rfl (H.own n hn)
   have h2 := Kd.R_grown h1 hg (fun k hk e2 => H.ap n m hn hm e k hk.1.symm e2.symm)
   exact Kd.R_far (Kd.R_mono h2 (fun k hk => hk.2)) (fun k hk => hk) _
 ·have old : ∀ q, q < 16 → q ≠ m → ∀ k, (Value.slice A1 (S m ++ [x]).length c1).ownBlock = some k → (Value.slice (A q) (S q).length (c q)).ownBlock ≠ some k := by
   intro q hq hqm k hk
   rcases hat with e | ⟨b, e, hb⟩
   ·rw [e] at hk
    exact H.ap m q hm hq (Ne.symm hqm) k hk
   ·intro e2
    have hkb : k = b := by rw [e] at hk; exact (Option.some.inj hk).symm
    have h3 := (Kd.R_bound (H.own q hq)).1 k e2
    have := h3.2.2.1
    omega
  by_cases ei : i = m
  ·subst ei
   rw [upd_same, upd_same, upd_same] at hk
   rw [upd_other _ _ _ (Ne.symm hij), upd_other _ _ _ (Ne.symm hij), upd_other _ _ _ (Ne.symm hij)]
   exact old j hj (Ne.symm hij) k hk
  ·rw [upd_other _ _ _ ei, upd_other _ _ _ ei, upd_other _ _ _ ei] at hk
   by_cases ej : j = m
   ·subst ej
    rw [upd_same, upd_same, upd_same]
    intro e2
    exact old i hi ei k e2 hk
   ·rw [upd_other _ _ _ ej, upd_other _ _ _ ej, upd_other _ _ _ ej]
    exact H.ap i j hi hj hij k hk
theorem mx_if (z x : Int) : (if z < x then x else z) = max z x := by split <;> omega
theorem maxi_calls {A : Option Addr} {c : Nat} (l : List Int) {w : World} (hr : IntsIn w A l) (hc : l.length ≤ c) (hl : l.length ≤ 1000000) (h0 : 0 < l.length) : Calls Tryz.prog 210 #[.slice A l.length c] w fun e w' => e = .returned (.int .i64 (maxL l)) ∧ Below w.heap.size w w' := by
 have HR := Aside0.mk hr
 have HL := Aside0.mk (show 0 < l.length ∧ l.length ≤ 1000000 from ⟨h0, hl⟩)
 have d1 : decide ((l.length : Int) < 1) = false := decide_eq_false (by omega)
 have d1' : decide (l.length < 1) = false := decide_eq_false (by omega)
 obtain ⟨ad2, e2, hcell⟩ := Kd.at_int hr (0 : Int) (by decide) (show (0 : Int) < (l.length : Int) by omega)
 have hrd : rd l (0 : Int) = maxL (l.take 1) := by cases l with | nil => exact absurd h0 (by simp) | cons x r => rfl
 rw [hrd] at hcell
 have hcell' : w.cell? ad2 = some (.int .i64 (maxL (l.take 1))) := hcell
 have p0 : (0 : Int) < (l.length : Int) := by omega
 clear hcell hrd hr hc hl h0
 subst e2
 go_enter Tryz.func210, Tryz.ntmps210
 go_wp2_with fail
 go_loopw [3, 4] (fun v3 v4 wr => ∃ i : Nat, v3 = .int .i64 (maxL (l.take i)) ∧ v4 = .int .i64 (i : Int) ∧ Aside0 (0 < i ∧ i ≤ l.length) ∧ Aside0 (Below w.heap.size w wr)) (fun _ v4 _ => l.length - (intOf v4).toNat)
 case atStart => exact ⟨1, rfl, rfl, ⟨by decide, HL.out.1⟩, ⟨by repeat (first | exact Below.refl _ _ | apply below_alloc | apply below_drew)⟩⟩
 case round =>
  obtain ⟨i, rfl, rfl, HI, HB⟩ := hrel
  have hi := HI.out.2
  by_cases hlt : i < l.length
  ·have d3 : decide ((i : Int) < (l.length : Int)) = true := decide_eq_true (by omega)
   have d3' : decide (i < l.length) = true := decide_eq_true hlt
   have HLT := Aside0.mk hlt
   have p1 : (0 : Int) ≤ (i : Int) := by omega
   have p2 : (i : Int) < (l.length : Int) := by omega
   obtain ⟨ad3, e3, hcell3⟩ := Kd.at_int (Kd.C_below HR.out HB.out) (i : Int) p1 p2
   rw [rd_at l i hlt, Int.toNat_natCast] at hcell3
   have HM := Aside0.mk (maxL_take l i HI.out.1 hlt)
   injection e3 with e3
   subst e3
   generalize l[i] = x at hcell3 HM
   generalize maxL (l.take i) = z at HM ⊢
   clear hi hlt
   go_wp2_with fail
   go_roundw
   case rel =>
    have h1 := HLT.out
    have h2 := HL.out
    exact ⟨i + 1, by rw [HM.out, ← mx_if], by rw [step1 i (by omega)], ⟨by omega, by omega⟩, HB⟩
   case measure => have h1 := HLT.out; have h2 := HL.out; exact meas _ i h1 (by omega)
  ·have d3 : decide ((i : Int) < (l.length : Int)) = false := decide_eq_false (by omega)
   have d3' : decide (i < l.length) = false := decide_eq_false hlt
   have HE := Aside0.mk (show l.take i = l from List.take_of_length_le (by omega))
   clear hi hlt
   go_wp2_with fail
   go_ret
   rw [HE.out]
   exact ⟨rfl, HB.out⟩
end Go.Proofs.YtepgkimlmoikmaaGreat
namespace Go.Proofs.YtepgkimlmoikmaaGreat
open Go.RowKit Go.Proofs.YtepgkimlmoikmaaGreat.Spec Go.Proofs.YtepgkimlmoikmaaGreatW.PrintWords Go.Proofs.YtepgkimlmoikmaaGreatW.PrintLast
open Go.Proofs.YtepgkimlmoikmaaGreatW.PrintMore
attribute [local go_sem ↓] Go.wp_at_zero Go.wp_at_succ
theorem cright_pos {l : List Int} (h : cright l = 0) : 0 < l.length ∧ ∀ x ∈ l, 0 ≤ x ∧ x ≤ 15 := by
 have hany : ¬ l.any (fun x => decide (Out15 x)) = true := by
  intro e
  unfold cright at h
  rw [if_pos e] at h
  cases h
 refine ⟨?_, fun x hx => ?_⟩
 ·cases l with
  | nil => exact absurd h (by decide)
  | cons x r => exact Nat.succ_pos _
 ·rw [List.any_eq_true] at hany
  have : ¬ Out15 x := fun e => hany ⟨x, hx, decide_eq_true e⟩
  unfold Out15 at this
  omega
def tabCells (mo us : Int) : Array Value := #[.slice none 0 0, .slice none 0 0, .slice none 0 0, .slice none 0 0, .slice none 0 0, .slice none 0 0, .slice none 0 0, .slice none 0 0, .slice none 0 0, .slice none 0 0, .slice none 0 0, .slice none 0 0, .slice none 0 0, .slice none 0 0, .slice none 0 0, .slice none 0 0, .int .i64 0, .int .i64 0, .int .i64 0, .int .i64 0, .int .i64 0, .int .i64 0, .int .i64 0, .int .i64 0, .int .i64 0, .int .i64 0, .int .i64 0, .int .i64 0, .int .i64 0, .int .i64 0, .int .i64 0, .int .i64 0, .int .i64 mo, .int .i64 us]
theorem below16 {n : Nat} (h : n < 16) : n = 0 ∨ n = 1 ∨ n = 2 ∨ n = 3 ∨ n = 4 ∨ n = 5 ∨ n = 6 ∨ n = 7 ∨ n = 8 ∨ n = 9 ∨ n = 10 ∨ n = 11 ∨ n = 12 ∨ n = 13 ∨ n = 14 ∨ n = 15 := by omega
theorem tab_start (w : World) (mo us : Int) : TabR (w.alloc (.cells (tabCells mo us) 262)) w.heap.size w.heap.size mo us (fun _ => []) (fun _ => 0) (fun _ => none) (fun _ => 0) := by
 have hh : (w.alloc (.cells (tabCells mo us) 262)).heap[w.heap.size]? = some (.cells (tabCells mo us) 262 (0, 0)) := heap_alloc_new _ _
 refine ⟨fun n hn => ?_, fun n hn => ?_, blk_cell hh 32, blk_cell hh 33, fun n => blk_frozen hh n, fun n hn => Kd.R_of_own (own_nil _ _ _ _) (fun k hk => by simp [Value.ownBlock] at hk), fun m n _ _ _ k hk => by simp [Value.ownBlock] at hk⟩
 ·refine (blk_cell hh n).trans ?_
  rcases below16 hn with rfl | rfl | rfl | rfl | rfl | rfl | rfl | rfl | rfl | rfl | rfl | rfl | rfl | rfl | rfl | rfl <;> rfl
 ·refine (blk_cell hh (16 + n)).trans ?_
  rcases below16 hn with rfl | rfl | rfl | rfl | rfl | rfl | rfl | rfl | rfl | rfl | rfl | rfl | rfl | rfl | rfl | rfl <;> rfl
abbrev TabS (w : World) (base h : Nat) (l : List Int) (s : Nat) (A : Nat → Option Addr) (c : Nat → Nat) : Prop := TabR w base h (maxL l) (usedL l : Nat) (fun n => sym l n s) (fun n => fst l n s) A c
theorem sym_upd (l : List Int) (m s : Nat) (h : l.getD s 0 = (m : Int)) (n : Nat) : upd (fun n => sym l n s) m (sym l m s ++ [(s : Int)]) n = sym l n (s + 1) := by
 by_cases e : n = m
 ·subst e; rw [upd_same, sym_go l n s h]
 ·rw [upd_other _ _ _ e, sym_skip l n s (by rw [h]; omega)]
theorem fst_keep (l : List Int) (m s : Nat) (h : l.getD s 0 = (m : Int)) (h2 : m = 0 ∨ sym l m s ≠ []) (n : Nat) : fst l n s = fst l n (s + 1) := by
 unfold fst
 by_cases e : n = m
 ·subst e
  rw [sym_go l n s h]
  rcases h2 with rfl | h2
  ·have e0 : ((2 * preC l (0 - 1) : Nat) : Int) = 0 := rfl
   rw [e0, ite_self, ite_self]
  ·rw [if_neg h2, if_neg (by simp)]
 ·rw [sym_skip l n s (by rw [h]; omega)]
theorem fst_first (l : List Int) (m s : Nat) (h : l.getD s 0 = (m : Int)) (h2 : sym l m s = []) (n : Nat) : upd (fun n => fst l n s) m ((2 * preC l (m - 1) : Nat) : Int) n = fst l n (s + 1) := by
 by_cases e : n = m
 ·subst e
  rw [upd_same]
  unfold fst
  rw [sym_go l n s h, if_neg (by simp)]
 ·rw [upd_other _ _ _ e]
  unfold fst
  rw [sym_skip l n s (by rw [h]; omega)]
theorem cod_first (l : List Int) (m s : Nat) (hs : s < l.length) (h1 : 1 ≤ m) (h2 : m ≤ 15) (h : l[s] = (m : Int)) (he : sym l m s = []) : cod l s = ((2 * preC l (m - 1) : Nat) : Int) := by
 have hc := sym_cnt l m s (by omega)
 rw [he] at hc
 rw [cod_at l s m hs h1 h2 h, ← hc]
 rfl
set_option maxHeartbeats 4000000 in
theorem tnew_yes {A0 : Option Addr} {c0 : Nat} (l : List Int) {w : World} (hr : IntsIn w A0 l) (hc : l.length ≤ c0) (hl : l.length ≤ 2000) (h0 : cright l = 0) :
  Calls Tryz.prog 181 #[.slice A0 l.length c0] w fun e w' => ∃ h, e = .returned (.tuple #[.pointer (some ⟨h, 0, none⟩), .int .i64 0]) ∧ (∃ A c, TabS w' h h l l.length A c) ∧ w.heap.size ≤ h ∧ Below w.heap.size w w' := by
 obtain ⟨hpos, h15⟩ := cright_pos h0
 have HC := Aside0.mk (codeof_yes l hr hc hl h0)
 have HM := Aside0.mk (fun (W : World) (h : Below w.heap.size w W) => maxi_calls l (Kd.C_below hr h) hc (by omega) hpos)
 have HU := Aside0.mk (fun (W : World) (h : Below w.heap.size w W) => used_calls l (Kd.C_below hr h) hc (by omega))
 have HR := Aside0.mk hr
 have HL := Aside0.mk hl
 have H15 := Aside0.mk h15
 clear hr hc hl h0 hpos h15
 go_enter Tryz.func181, Tryz.ntmps181
 go_wp2_with fail
 refine HC.out.mono ?_
 rintro e w1 ⟨g, rfl, hI, hg, hb1⟩
 have HI := Aside0.mk hI
 have HG := Aside0.mk hg
 have HB1 := Aside0.mk hb1
 clear hI hg hb1
 go_wp2_with fail
 refine (HM.out _ HB1.out).mono ?_
 rintro e w2 ⟨rfl, hb2⟩
 have HI2 := Aside0.mk (HI.out.below hb2)
 have HB2 := Aside0.mk (below_step HB1.out hb2)
 clear hb2
 go_wp2_with fail
 refine (HU.out _ HB2.out).mono ?_
 rintro e w3 ⟨rfl, hb3⟩
 have HI3 := Aside0.mk (HI2.out.below hb3.below)
 have HB3 := Aside0.mk (below_step HB2.out hb3.below)
 clear hb3
 go_wp2_with fail
 have HT0 := Aside0.mk (tab_start w3 (maxL l) (usedL l : Nat))
 have HB4 : Aside0 (Below w3.heap.size w3 (w3.alloc (.cells (tabCells (maxL l) (usedL l : Nat)) 262))) := ⟨below_alloc (Below.refl _ _) _⟩
 unfold tabCells at HT0 HB4
 have HGL : Aside0 (g < w3.heap.size) := ⟨blk_lt HI3.out⟩
 clear HC HM HU HI HI2
 go_loopw [25] (fun v25 wr => ∃ (s : Nat) (A : Nat → Option Addr) (c : Nat → Nat), v25 = .int .i64 (s : Int) ∧ Aside0 (s ≤ l.length) ∧ Aside0 (TabS wr w3.heap.size w3.heap.size l s A c) ∧ Aside0 (Below w3.heap.size w3 wr)) (fun v25 _ => l.length - (intOf v25).toNat)
 case atStart => exact ⟨0, _, _, rfl, ⟨Nat.zero_le _⟩, ⟨HT0.out.congr (fun _ => rfl) (fun _ => rfl)⟩, HB4⟩
 case round =>
  obtain ⟨s, A, c, rfl, HS, HT, HB⟩ := hrel
  have hs := HS.out
  by_cases hlt : s < l.length
  ·have d3 : decide ((s : Int) < (l.length : Int)) = true := decide_eq_true (by omega)
   have d3' : decide (s < l.length) = true := decide_eq_true hlt
   have HLT := Aside0.mk hlt
   have p1 : (0 : Int) ≤ (s : Int) := by omega
   have p2 : (s : Int) < (l.length : Int) := by omega
   have p3 : s < l.length := hlt
   obtain ⟨ad2, e2, hcell⟩ := Kd.at_int (Kd.C_below HR.out (below_step HB3.out HB.out)) (s : Int) p1 p2
   rw [rd_at l s hlt, Int.toNat_natCast] at hcell
   have hx15 := H15.out l[s] (List.getElem_mem hlt)
   obtain ⟨m, hm⟩ : ∃ m : Nat, l[s] = (m : Int) := ⟨l[s].toNat, by omega⟩
   have hmm : m < 16 := by omega
   have HX := Aside0.mk (show l.getD s 0 = (m : Int) by rw [getD_at l s hlt, hm])
   rw [hm] at hcell
   have HM16 := Aside0.mk hmm
   have m1 : (m : Int) < 16 := by omega
   have m2 : (0 : Int) ≤ (m : Int) := by omega
   have hy := HT.out.sy m hmm
   subst e2
   have HSL := Aside0.mk (show (sym l m s).length ≤ 2000 by rw [sym_cnt l m s HS.out]; have := cnt_le (l.take s) (m : Int); rw [List.length_take] at this; have := HL.out; omega)
   have hlen1 : (sym l m s ++ [(s : Int)]).length = (sym l m s).length + 1 := by simp
   by_cases hm0 : m = 0
   ·have d4 : decide ((0 : Int) < (m : Int)) = false := decide_eq_false (by omega)
    have d4' : decide (0 < m) = false := decide_eq_false (by omega)
    obtain ⟨F, hF⟩ : ∃ F, F = fun n => fst l n s := ⟨_, rfl⟩
    have HF : Aside0 (∀ n, F n = fst l n (s + 1)) := ⟨by intro n; rw [hF]; exact fst_keep l m s HX.out (.inl hm0) n⟩
    have HTF : Aside0 (TabR wr w3.heap.size w3.heap.size (maxL l) (usedL l : Nat) (fun n => sym l n s) F A c) := ⟨by rw [hF]; exact HT.out⟩
    clear hs hlt hx15 hm hm0 hF
    go_wp2_with fail
    have HTd : Aside0 (TabR wr.drew w3.heap.size w3.heap.size (maxL l) (usedL l : Nat) (fun n => sym l n s) F A c) := ⟨HTF.out.below (below_drew (Below.refl _ _))⟩
    have HBd : Aside0 (Below w3.heap.size w3 wr.drew) := ⟨below_drew HB.out⟩
    have hyd : wr.drew.cell? ⟨w3.heap.size, m, none⟩ = some (.slice (A m) (sym l m s).length (c m)) := HTF.out.sy m HM16.out
    have hya : (wr.alloc (.cells #[.int .i64 (s : Int)] 3)).drew.cell? ⟨w3.heap.size, m, none⟩ = some (.slice (A m) (sym l m s).length (c m)) := (pw_cell_below (below_alloc (Below.refl _ _) _) (HTF.out.sy m HM16.out) :)
    go_region_law
     (first | (refine Kd.R_append_step (Kd.int .i64) w3.heap.size rfl (.tmp 58) (.tmp 60) 29 3 _ 8 rfl Tryz.underlying29 Leaf.info3 rfl (by decide) (by decide) (.slice (A m) (sym l m s).length (c m)) (sym l m s) (s : Int) [.int .i64 (s : Int)] (fun k => k ≠ w3.heap.size) (fun _ => False) rfl rfl rfl (fun _ h => h.elim) (fun k hk => by have := HTd.out.lt; omega) (HTd.out.own m HM16.out) HBd.out HBd.out.size (by have := HSL.out; omega) ?_; intro v1 w4 hrow hbelow hgrow hat; obtain ⟨A1, c1, rfl⟩ := Kd.R_slice hrow; have HT5 := Aside0.mk (HTd.out.put2 m HM16.out (s : Int) hrow hgrow hat); rw [hlen1] at HT5; have HB5 := Aside0.mk (Below.setCell hbelow (Nat.le_refl _) (.slice A1 ((sym l m s).length + 1) c1) (p := ⟨w3.heap.size, m, none⟩)); have hyw : w4.cell? ⟨w3.heap.size, m, none⟩ = some (.slice (A m) (sym l m s).length (c m)) := (World.grownBy.cell_far hgrow ⟨w3.heap.size, m, none⟩ HTd.out.lt (fun e => (HTd.out.own m HM16.out).1 _ e.symm rfl)).trans hyd; have hfw : w4.frozen? ⟨w3.heap.size, m, none⟩ = false := (World.grownBy.frozen_far hgrow ⟨w3.heap.size, m, none⟩ HTd.out.lt (fun e => (HTd.out.own m HM16.out).1 _ e.symm rfl)).trans (HTd.out.fz m)))
    all_goals
     go_wp2_with fail
     go_roundw
     case rel =>
      have h1 := HLT.out
      have h2 := HL.out
      exact ⟨s + 1, upd A m A1, upd c m c1, by rw [step1 s (by omega)], ⟨by omega⟩, ⟨HT5.out.congr (sym_upd l m s HX.out) HF.out⟩, HB5⟩
     case measure => have h1 := HLT.out; have h2 := HL.out; exact meas _ s h1 (by omega)
   ·have d4 : decide ((0 : Int) < (m : Int)) = true := decide_eq_true (by omega)
    have d4' : decide (0 < m) = true := decide_eq_true (by omega)
    by_cases he : sym l m s = []
    ·have d5 : (((sym l m s).length : Int) == 0) = true := by rw [he]; rfl
     have d5' : ((sym l m s).length == 0) = true := by rw [he]; rfl
     have d5n : (sym l m s).length = 0 := by rw [he]; rfl
     have HCD := Aside0.mk (cod_first l m s hlt (by omega) (by omega) hm he)
     have hgc := HI3.out.below HB.out
     have hcod := hgc.get s (cod l s) (by unfold codesL; rw [List.getElem?_map, List.getElem?_range hlt]; rfl)
     have HF : Aside0 (∀ n, upd (fun n => fst l n s) m (cod l s) n = fst l n (s + 1)) := ⟨by rw [HCD.out]; exact fst_first l m s HX.out he⟩
     have HTF := Aside0.mk (HT.out.put1 m hmm (cod l s))
     have HB6 := Aside0.mk (Below.setCell HB.out (Nat.le_refl _) (.int .i64 (cod l s)) (p := ⟨w3.heap.size, 16 + m, none⟩))
     have hfs := HT.out.fs m hmm
     have hfz := HT.out.fz (16 + m)
     obtain ⟨F, hF⟩ : ∃ F, F = upd (fun n => fst l n s) m (cod l s) := ⟨_, rfl⟩
     rw [← hF] at HF HTF
     clear hs hlt hx15 hm hm0 he hgc hF
     go_wp2_with fail
     go_region
     obtain ⟨wq, hwq⟩ : ∃ wq, wq = (wr.setCell ⟨w3.heap.size, 16 + m, none⟩ (.int .i64 (cod l s))).drew := ⟨_, rfl⟩
     have HTQ : Aside0 (TabR wq w3.heap.size w3.heap.size (maxL l) (usedL l : Nat) (fun n => sym l n s) F A c) := ⟨by rw [hwq]; exact HTF.out.below (below_drew (Below.refl _ _))⟩
     have HBQ : Aside0 (Below w3.heap.size w3 wq) := ⟨by rw [hwq]; exact below_drew HB6.out⟩
     rw [← hwq]
     clear d5 d5' d5n hwq hfs hfz hcod hcell
     go_wp2_with fail
     have HTd : Aside0 (TabR wq.drew w3.heap.size w3.heap.size (maxL l) (usedL l : Nat) (fun n => sym l n s) F A c) := ⟨HTQ.out.below (below_drew (Below.refl _ _))⟩
     have HBd : Aside0 (Below w3.heap.size w3 wq.drew) := ⟨below_drew HBQ.out⟩
     have hyd : wq.drew.cell? ⟨w3.heap.size, m, none⟩ = some (.slice (A m) (sym l m s).length (c m)) := HTQ.out.sy m HM16.out
     have hya : (wq.alloc (.cells #[.int .i64 (s : Int)] 3)).drew.cell? ⟨w3.heap.size, m, none⟩ = some (.slice (A m) (sym l m s).length (c m)) := (pw_cell_below (below_alloc (Below.refl _ _) _) (HTQ.out.sy m HM16.out) :)
     go_region_law
      (first | (refine Kd.R_append_step (Kd.int .i64) w3.heap.size rfl (.tmp 58) (.tmp 60) 29 3 _ 8 rfl Tryz.underlying29 Leaf.info3 rfl (by decide) (by decide) (.slice (A m) (sym l m s).length (c m)) (sym l m s) (s : Int) [.int .i64 (s : Int)] (fun k => k ≠ w3.heap.size) (fun _ => False) rfl rfl rfl (fun _ h => h.elim) (fun k hk => by have := HTd.out.lt; omega) (HTd.out.own m HM16.out) HBd.out HBd.out.size (by have := HSL.out; omega) ?_; intro v1 w4 hrow hbelow hgrow hat; obtain ⟨A1, c1, rfl⟩ := Kd.R_slice hrow; have HT5 := Aside0.mk (HTd.out.put2 m HM16.out (s : Int) hrow hgrow hat); rw [hlen1] at HT5; have HB5 := Aside0.mk (Below.setCell hbelow (Nat.le_refl _) (.slice A1 ((sym l m s).length + 1) c1) (p := ⟨w3.heap.size, m, none⟩)); have hyw : w4.cell? ⟨w3.heap.size, m, none⟩ = some (.slice (A m) (sym l m s).length (c m)) := (World.grownBy.cell_far hgrow ⟨w3.heap.size, m, none⟩ HTd.out.lt (fun e => (HTd.out.own m HM16.out).1 _ e.symm rfl)).trans hyd; have hfw : w4.frozen? ⟨w3.heap.size, m, none⟩ = false := (World.grownBy.frozen_far hgrow ⟨w3.heap.size, m, none⟩ HTd.out.lt (fun e => (HTd.out.own m HM16.out).1 _ e.symm rfl)).trans (HTd.out.fz m)))
     all_goals
      go_wp2_with fail
      go_roundw
      case rel =>
       have h1 := HLT.out
       have h2 := HL.out
       exact ⟨s + 1, upd A m A1, upd c m c1, by rw [step1 s (by omega)], ⟨by omega⟩, ⟨HT5.out.congr (sym_upd l m s HX.out) HF.out⟩, HB5⟩
      case measure => have h1 := HLT.out; have h2 := HL.out; exact meas _ s h1 (by omega)
    ·have hel : (sym l m s).length ≠ 0 := fun e => he (List.length_eq_zero_iff.1 e)
     have d5 : (((sym l m s).length : Int) == 0) = false := beq_eq_false_iff_ne.2 (by omega)
     have d5' : ((sym l m s).length == 0) = false := beq_eq_false_iff_ne.2 hel
     have d5n : sym l m s ≠ [] := he
     obtain ⟨F, hF⟩ : ∃ F, F = fun n => fst l n s := ⟨_, rfl⟩
     have HF : Aside0 (∀ n, F n = fst l n (s + 1)) := ⟨by intro n; rw [hF]; exact fst_keep l m s HX.out (.inr he) n⟩
     have HTF : Aside0 (TabR wr w3.heap.size w3.heap.size (maxL l) (usedL l : Nat) (fun n => sym l n s) F A c) := ⟨by rw [hF]; exact HT.out⟩
     clear hs hlt hx15 hm hm0 hF he hel
     go_wp2_with fail
     have HTd : Aside0 (TabR wr.drew w3.heap.size w3.heap.size (maxL l) (usedL l : Nat) (fun n => sym l n s) F A c) := ⟨HTF.out.below (below_drew (Below.refl _ _))⟩
     have HBd : Aside0 (Below w3.heap.size w3 wr.drew) := ⟨below_drew HB.out⟩
     have hyd : wr.drew.cell? ⟨w3.heap.size, m, none⟩ = some (.slice (A m) (sym l m s).length (c m)) := HTF.out.sy m HM16.out
     have hya : (wr.alloc (.cells #[.int .i64 (s : Int)] 3)).drew.cell? ⟨w3.heap.size, m, none⟩ = some (.slice (A m) (sym l m s).length (c m)) := (pw_cell_below (below_alloc (Below.refl _ _) _) (HTF.out.sy m HM16.out) :)
     go_region_law
      (first | (refine Kd.R_append_step (Kd.int .i64) w3.heap.size rfl (.tmp 58) (.tmp 60) 29 3 _ 8 rfl Tryz.underlying29 Leaf.info3 rfl (by decide) (by decide) (.slice (A m) (sym l m s).length (c m)) (sym l m s) (s : Int) [.int .i64 (s : Int)] (fun k => k ≠ w3.heap.size) (fun _ => False) rfl rfl rfl (fun _ h => h.elim) (fun k hk => by have := HTd.out.lt; omega) (HTd.out.own m HM16.out) HBd.out HBd.out.size (by have := HSL.out; omega) ?_; intro v1 w4 hrow hbelow hgrow hat; obtain ⟨A1, c1, rfl⟩ := Kd.R_slice hrow; have HT5 := Aside0.mk (HTd.out.put2 m HM16.out (s : Int) hrow hgrow hat); rw [hlen1] at HT5; have HB5 := Aside0.mk (Below.setCell hbelow (Nat.le_refl _) (.slice A1 ((sym l m s).length + 1) c1) (p := ⟨w3.heap.size, m, none⟩)); have hyw : w4.cell? ⟨w3.heap.size, m, none⟩ = some (.slice (A m) (sym l m s).length (c m)) := (World.grownBy.cell_far hgrow ⟨w3.heap.size, m, none⟩ HTd.out.lt (fun e => (HTd.out.own m HM16.out).1 _ e.symm rfl)).trans hyd; have hfw : w4.frozen? ⟨w3.heap.size, m, none⟩ = false := (World.grownBy.frozen_far hgrow ⟨w3.heap.size, m, none⟩ HTd.out.lt (fun e => (HTd.out.own m HM16.out).1 _ e.symm rfl)).trans (HTd.out.fz m)))
     all_goals
      go_wp2_with fail
      go_roundw
      case rel =>
       have h1 := HLT.out
       have h2 := HL.out
       exact ⟨s + 1, upd A m A1, upd c m c1, by rw [step1 s (by omega)], ⟨by omega⟩, ⟨HT5.out.congr (sym_upd l m s HX.out) HF.out⟩, HB5⟩
      case measure => have h1 := HLT.out; have h2 := HL.out; exact meas _ s h1 (by omega)
  ·have d3 : decide ((s : Int) < (l.length : Int)) = false := decide_eq_false (by omega)
   have d3' : decide (s < l.length) = false := decide_eq_false hlt
   have HSE := Aside0.mk (show s = l.length by omega)
   clear hs hlt
   go_wp2_with fail
   go_ret2
   refine ⟨w3.heap.size, rfl, ⟨A, c, ?_⟩, HB3.out.size, below_step HB3.out HB.out⟩
   rw [← HSE.out]
   exact HT.out
theorem tnew_no {A0 : Option Addr} {c0 : Nat} (l : List Int) {w : World} (hr : IntsIn w A0 l) (hc : l.length ≤ c0) (hl : l.length ≤ 2000) (h0 : cright l ≠ 0) :
  Calls Tryz.prog 181 #[.slice A0 l.length c0] w fun e w' => e = .returned (.tuple #[.pointer none, .int .i64 (cright l)]) ∧ Below w.heap.size w w' := by
 have HC := Aside0.mk (codeof_no l hr hc hl h0)
 have e1 : (cright l == 0) = false := beq_eq_false_iff_ne.2 h0
 have e2 : (cright l = 0) = False := eq_false h0
 generalize cright l = z at *
 clear hr hc hl h0
 go_enter Tryz.func181, Tryz.ntmps181
 go_wp2_with fail
 refine HC.out.mono ?_
 rintro e w2 ⟨rfl, hb2⟩
 have HB2 := Aside0.mk hb2
 clear hb2
 go_wp2
 go_ret2
 exact ⟨rfl, HB2.out⟩
end Go.Proofs.YtepgkimlmoikmaaGreat
namespace Go.Proofs.YtepgkimlmoikmaaGreat
open Go.RowKit Go.Proofs.YtepgkimlmoikmaaGreat.Spec Go.Proofs.YtepgkimlmoikmaaGreatW.PrintWords Go.Proofs.YtepgkimlmoikmaaGreatW.PrintLast
open Go.Proofs.YtepgkimlmoikmaaGreatW.PrintMore
attribute [local go_sem ↓] Go.wp_at_zero Go.wp_at_succ
namespace Spec
def nextF (l : List Int) (b : ByteArray) (a left : Nat) : Nat → Nat → Int × Int × Nat
 | 0, _ => (0, 8, 0)
 | f + 1, n => if left < n then (0, 2, 0) else if 0 ≤ (peekV b a n : Int) - fst l n l.length ∧ (peekV b a n : Int) - fst l n l.length < ((sym l n l.length).length : Int) then
   ((sym l n l.length).getD ((peekV b a n : Int) - fst l n l.length).toNat 0, 0, n) else nextF l b a left f (n + 1)
def nextT (l : List Int) (b : ByteArray) (a : Nat) : Int × Int × Nat := nextF l b a (8 * b.size - a) (maxL l).toNat 1
theorem sym_mem {l : List Int} {n s : Nat} {x : Int} (h : x ∈ sym l n s) : 0 ≤ x ∧ x < (s : Int) := by
 unfold sym at h
 rw [List.mem_map] at h
 obtain ⟨i, hi, rfl⟩ := h
 have := (List.mem_filter.1 hi).1
 rw [List.mem_range] at this
 omega
theorem nextF_ok (l : List Int) (b : ByteArray) (a left : Nat) : ∀ f n, ((nextF l b a left f n).2.1 = 0 → 0 ≤ (nextF l b a left f n).1 ∧ (nextF l b a left f n).1 < (l.length : Int) ∧ n ≤ (nextF l b a left f n).2.2 ∧ (nextF l b a left f n).2.2 ≤ left) ∧ ((nextF l b a left f n).2.1 = 0 ∨ (nextF l b a left f n).2.1 = 2 ∨ (nextF l b a left f n).2.1 = 8) ∧ ((nextF l b a left f n).2.1 ≠ 0 → (nextF l b a left f n).2.2 = 0) := by
 intro f
 induction f with
 | zero => intro n; exact ⟨fun h => absurd h (show ¬ (8 : Int) = 0 by decide), .inr (.inr rfl), fun _ => rfl⟩
 | succ f ih =>
  intro n
  rw [nextF]
  split
  ·exact ⟨fun h => absurd h (show ¬ (2 : Int) = 0 by decide), .inr (.inl rfl), fun _ => rfl⟩
  ·rename_i h1
   split
   ·rename_i h2
    refine ⟨fun _ => ?_, .inl rfl, fun h => absurd rfl h⟩
    have hlt : ((peekV b a n : Int) - fst l n l.length).toNat < (sym l n l.length).length := by omega
    have hm : (sym l n l.length).getD ((peekV b a n : Int) - fst l n l.length).toNat 0 ∈ sym l n l.length := by
     rw [List.getD_eq_getElem?_getD, List.getElem?_eq_getElem hlt]
     exact List.getElem_mem hlt
    have := sym_mem hm
    exact ⟨this.1, this.2, Nat.le_refl _, Nat.le_of_not_lt h1⟩
   ·obtain ⟨i1, i2, i3⟩ := ih (n + 1)
    exact ⟨fun h => by obtain ⟨j1, j2, j3, j4⟩ := i1 h; exact ⟨j1, j2, by omega, j4⟩, i2, i3⟩
theorem maxL_mem : ∀ (l : List Int), 0 < l.length → maxL l ∈ l := by
 have h : ∀ (r : List Int) (x : Int), r.foldl max x = x ∨ r.foldl max x ∈ r := by
  intro r
  induction r with
  | nil => intro x; exact .inl rfl
  | cons y r ih =>
   intro x
   rw [List.foldl_cons]
   rcases ih (max x y) with e | e
   ·rw [e]
    rcases Int.le_total x y with h | h
    ·rw [Int.max_eq_right h]; exact .inr (List.mem_cons_self ..)
    ·rw [Int.max_eq_left h]; exact .inl rfl
   ·exact .inr (List.mem_cons_of_mem _ e)
 intro l hl
 cases l with
 | nil => exact absurd hl (by simp)
 | cons x r =>
  rcases h r x with e | e
  ·rw [maxL, e]; exact List.mem_cons_self ..
  ·rw [maxL]; exact List.mem_cons_of_mem _ e
theorem used_pos {l : List Int} (h : cright l = 0) : usedL l ≠ 0 := by
 have hk : ∀ l : List Int, kraftL l ≠ 0 → usedL l ≠ 0 := by
  intro l
  induction l with
  | nil => intro h; exact absurd rfl h
  | cons x r ih =>
   intro h
   rw [kraftL] at h
   rw [usedL]
   by_cases h0 : 0 < x
   ·rw [if_pos h0]; omega
   ·rw [if_neg (by omega)] at h
    have := ih (by omega)
    omega
 unfold cright at h
 split at h
 ·cases h
 ·split at h
  ·rename_i h2
   rcases h2 with h2 | h2
   ·exact hk l (by omega)
   ·omega
  ·cases h
end Spec
structure TabV (w : World) (h B : Nat) (l : List Int) (A : Nat → Option Addr) (c : Nat → Nat) : Prop where
 sy : ∀ n, n < 16 → w.cell? ⟨h, n, none⟩ = some (.slice (A n) (sym l n l.length).length (c n))
 fs : ∀ n, n < 16 → w.cell? ⟨h, 16 + n, none⟩ = some (.int .i64 (fst l n l.length))
 cm : w.cell? ⟨h, 32, none⟩ = some (.int .i64 (maxL l))
 cn : w.cell? ⟨h, 33, none⟩ = some (.int .i64 (usedL l : Nat))
 row : ∀ n, n < 16 → IntsIn w (A n) (sym l n l.length)
 hB : h < B
 aB : ∀ n, n < 16 → ∀ ad, A n = some ad → ad.block < B
theorem add_block (a : Addr) (k : Nat) : (a.add k).block = a.block := by unfold Addr.add; split <;> rfl
theorem ints_low {w w1 : World} {B : Nat} {A : Option Addr} {l : List Int} (h : IntsIn w A l) (hA : ∀ ad, A = some ad → ad.block < B) (hb : Below B w w1) : IntsIn w1 A l := by
 refine ⟨h.1, h.2.1, fun hp => ?_⟩
 obtain ⟨ad, e, hc⟩ := h.2.2 hp
 refine ⟨ad, e, fun j p hj => ?_⟩
 obtain ⟨c, h1, h2, h3⟩ := hc j p hj
 exact ⟨c, h1, h2, fun i u hu => (hb.cell (by rw [add_block]; exact hA ad e)).trans (h3 i u hu)⟩
theorem TabV.low {w w1 : World} {h B : Nat} {l : List Int} {A : Nat → Option Addr} {c : Nat → Nat} (H : TabV w h B l A c) (hb : Below B w w1) : TabV w1 h B l A c :=
 ⟨fun n hn => (hb.cell (p := ⟨h, n, none⟩) H.hB).trans (H.sy n hn), fun n hn => (hb.cell (p := ⟨h, 16 + n, none⟩) H.hB).trans (H.fs n hn), (hb.cell (p := ⟨h, 32, none⟩) H.hB).trans H.cm, (hb.cell (p := ⟨h, 33, none⟩) H.hB).trans H.cn, fun n hn => ints_low (H.row n hn) (H.aB n hn) hb, H.hB, H.aB⟩
theorem TabV.below {w w1 : World} {h B : Nat} {l : List Int} {A : Nat → Option Addr} {c : Nat → Nat} (H : TabV w h B l A c) (hb : Below w.heap.size w w1) : TabV w1 h B l A c :=
 ⟨fun n hn => pw_cell_below hb (H.sy n hn), fun n hn => pw_cell_below hb (H.fs n hn), pw_cell_below hb H.cm, pw_cell_below hb H.cn, fun n hn => Kd.C_below (H.row n hn) hb, H.hB, H.aB⟩
theorem TabV.of {w : World} {h base : Nat} {l : List Int} {A : Nat → Option Addr} {c : Nat → Nat} (H : TabS w base h l l.length A c) : TabV w h w.heap.size l A c := by
 refine ⟨H.sy, H.fs, H.cm, H.cn, fun n hn => ?_, H.lt, fun n hn ad e => ?_⟩
 ·obtain ⟨A2, c2, e2, _, hC⟩ := Kd.R_reads (H.own n hn)
  injection e2 with e3
  rw [e3]
  exact hC
 ·have h1 := (Kd.R_bound (H.own n hn)).1 ad.block (by rw [e]; rfl)
  exact h1.2.2.1
theorem skip2_calls {w : World} {g a : Nat} {b : ByteArray} (h : RdAt w g b a) (hb : b.size ≤ 100000) (n : Nat) (hn : a + n ≤ 8 * b.size) :
  Calls Tryz.prog 214 #[.pointer (some ⟨g, 0, none⟩), .int .i64 (n : Int)] w fun e w' => e = .returned (.bool true) ∧ ∃ w1, Drawn0 w w1 ∧ w' = w1.setCell ⟨g, 1, none⟩ (.int .i64 ((a + n : Nat) : Int)) := by
 have H := Aside0.mk h
 have HL := Aside0.mk (left_calls h hb (by omega))
 have d1 : decide ((n : Int) < 0) = false := decide_eq_false (by omega)
 have d2 : decide (8 * (b.size : Int) - (a : Int) < (n : Int)) = false := decide_eq_false (by omega)
 have d3 : ¬ (8 * (b.size : Int) - (a : Int) < (n : Int)) := by omega
 have q1 : wrap64 ((a : Int) + (n : Int)) = ((a + n : Nat) : Int) := by rw [Bridge.wr (by omega) (by omega)]; omega
 clear h hb hn
 go_enter Tryz.func214, Tryz.ntmps214
 go_wp2_with fail
 refine HL.out.mono ?_
 rintro e w2 ⟨rfl, hb2⟩
 have h2 := H.out.below hb2.below
 have HB := Aside0.mk hb2
 have c1 := h2.c1
 have f1 := h2.f1
 clear h2 hb2
 go_wp2_with fail
 go_ret
 exact ⟨rfl, w2, HB.out, rfl⟩
theorem keep_moved {w w1 : World} {g : Nat} (h : Drawn0 w w1) (hg : g < w.heap.size) (v : Value) : KeepBut w (w1.setCell ⟨g, 1, none⟩ v) g none ∧ Below g w (w1.setCell ⟨g, 1, none⟩ v) := by
 have hb := h.below
 refine ⟨⟨?_, fun i hi hne _ => (Below.heap_setCell w1 ⟨g, 1, none⟩ v i hne).trans (hb.block i hi)⟩, (hb.mono (Nat.le_of_lt hg)).setCell (Nat.le_refl _) _⟩
 exact Nat.le_trans hb.size ((Below.refl 0 w1).setCell (p := ⟨g, 1, none⟩) (Nat.zero_le _) v).size
theorem quietD {P : Program} {f : FuncId} {args : Array Value} {w : World} {n : Nat} {v : Value}
  (h : Calls P f args (w.drewN n) fun e w' => e = .returned v ∧ Drawn0 (w.drewN n) w') : Calls P f args (w.drewN n) fun e w'' => e = .returned v ∧ ∃ m, w'' = w.drewN m :=
 h.mono fun _ _ ⟨he, hm⟩ => ⟨he, (Drawn0.trans ((Drawn0.refl w).step n) hm).out⟩
theorem fst_bnd (l : List Int) (n s : Nat) (hl : l.length ≤ 2000) (hn : n ≤ 15) : 0 ≤ fst l n s ∧ fst l n s ≤ 134217728 := by
 have h := next_le l n 0 hl hn
 have hc : cnt (l.take 0) (n : Int) = 0 := rfl
 unfold fst
 split <;> omega
set_option maxHeartbeats 4000000 in
theorem tnext_calls {w : World} {h g a : Nat} {l : List Int} {b : ByteArray} {A : Nat → Option Addr} {c : Nat → Nat} (hT : TabV w h g l A c) (hR : RdAt w g b a) (h0 : cright l = 0) (hl : l.length ≤ 2000) (hb : b.size ≤ 100000) (ha : a ≤ 8 * b.size) :
  Calls Tryz.prog 183 #[.pointer (some ⟨h, 0, none⟩), .pointer (some ⟨g, 0, none⟩)] w fun e w' => e = .returned (.tuple #[.int .i64 (nextT l b a).1, .int .i64 (nextT l b a).2.1]) ∧ RdAt w' g b (a + (nextT l b a).2.2) ∧ TabV w' h g l A c ∧ KeepBut w w' g none ∧ Below g w w' := by
 obtain ⟨hpos, h15⟩ := cright_pos h0
 have hmx := h15 _ (maxL_mem l hpos)
 obtain ⟨M, hM⟩ : ∃ M : Nat, maxL l = (M : Int) := ⟨(maxL l).toNat, by omega⟩
 have hu := used_pos h0
 obtain ⟨z, hz⟩ : ∃ z, z = usedL l := ⟨_, rfl⟩
 rw [← hz] at hu
 have HT := Aside0.mk hT
 have HR := Aside0.mk hR
 have HN := Aside0.mk (show b.size ≤ 100000 ∧ a ≤ 8 * b.size ∧ M ≤ 15 ∧ l.length ≤ 2000 from ⟨hb, ha, by omega, hl⟩)
 have HMX := Aside0.mk hM
 have HNT : Aside0 (nextT l b a = nextF l b a (8 * b.size - a) M 1) := ⟨by unfold nextT; rw [hM]; rfl⟩
 have cm := hT.cm
 have cn := hT.cn
 rw [hM] at cm
 rw [← hz] at cn
 have u1 : ((z : Int) == 0) = false := beq_eq_false_iff_ne.2 (by omega)
 have u2 : ((z : Int) = 0) = False := eq_false (by omega)
 have u3 : (z == 0) = false := beq_eq_false_iff_ne.2 hu
 have u4 : ¬ z = 0 := hu
 obtain ⟨L, hL⟩ : ∃ L : Nat, L = 8 * b.size - a := ⟨_, rfl⟩
 have hL2 : 8 * (b.size : Int) - (a : Int) = (L : Int) := by omega
 rw [← hL] at HNT
 have HLE := Aside0.mk (fun (W : World) (hr : RdAt W g b a) => left_calls hr hb ha)
 rw [hL2] at HLE
 have HPK := Aside0.mk (fun (W : World) (hr : RdAt W g b a) (n : Nat) (hn : n ≤ 32) => peek_calls hr hb ha n hn)
 have HSK := Aside0.mk (fun (W : World) (hr : RdAt W g b a) (n : Nat) (hn : n ≤ L) => skip2_calls hr hb n (by omega))
 clear hT hR h0 hl hb ha hpos h15 hmx hM hu hz hL hL2
 go_enter Tryz.func183, Tryz.ntmps183
 go_wp2_with fail
 go_loopw [6] (fun v6 wr => ∃ (n f : Nat), v6 = .int .i64 (n : Int) ∧ Aside0 (n + f = M + 1 ∧ 1 ≤ n) ∧ Aside0 (nextT l b a = nextF l b a L f n) ∧ Aside0 (Drawn0 w wr)) (fun v6 _ => 100 - (intOf v6).toNat)
 case atStart => exact ⟨1, M, rfl, ⟨by omega, Nat.le_refl _⟩, HNT, ⟨Drawn0.refl w⟩⟩
 case round =>
  obtain ⟨n, f, rfl, HI, HE, HB⟩ := hrel
  cases f with
  | zero =>
   have hi := HI.out
   have d1 : decide ((n : Int) ≤ (M : Int)) = false := decide_eq_false (by omega)
   have d1' : decide (n ≤ M) = false := decide_eq_false (by omega)
   clear hi
   have cm := (HT.out.below HB.out.below).cm
   rw [HMX.out] at cm
   go_wp2_with fail
   go_ret2
   have he := HE.out
   rw [nextF] at he
   rw [he]
   exact ⟨rfl, by rw [Nat.add_zero]; exact HR.out.below HB.out.below, HT.out.below HB.out.below, ⟨HB.out.below.size, fun i hi _ _ => HB.out.below.block i hi⟩, HB.out.below.mono (Nat.le_of_lt HR.out.lt)⟩
  | succ f =>
   have hi := HI.out
   have hN := HN.out
   have HI2 := Aside0.mk (show n + 1 + f = M + 1 ∧ 1 ≤ n + 1 ∧ n ≤ 15 by omega)
   have d1 : decide ((n : Int) ≤ (M : Int)) = true := decide_eq_true (by omega)
   have d1' : decide (n ≤ M) = true := decide_eq_true (by omega)
   have hn16 : n < 16 := by omega
   have cm := (HT.out.below HB.out.below).cm
   rw [HMX.out] at cm
   have HL2 := Aside0.mk (HLE.out wr (HR.out.below HB.out.below))
   have he := HE.out
   rw [nextF] at he
   by_cases hleft : L < n
   ·rw [if_pos hleft] at he
    have d2 : decide ((L : Int) < (n : Int)) = true := decide_eq_true (by omega)
    have d2' : decide (L < n) = true := decide_eq_true hleft
    have HEE := Aside0.mk he
    clear hi hN hleft he
    go_wp2_with fail
    refine HL2.out.mono ?_
    rintro e w2 ⟨rfl, hb2⟩
    have HB2 := Aside0.mk (Drawn0.trans HB.out hb2)
    clear hb2
    go_wp2_with fail
    go_ret2
    rw [HEE.out]
    exact ⟨rfl, by rw [Nat.add_zero]; exact HR.out.below HB2.out.below, HT.out.below HB2.out.below, ⟨HB2.out.below.size, fun i hi _ _ => HB2.out.below.block i hi⟩, HB2.out.below.mono (Nat.le_of_lt HR.out.lt)⟩
   ·rw [if_neg hleft] at he
    have d2 : decide ((L : Int) < (n : Int)) = false := decide_eq_false (by omega)
    have d2' : decide (L < n) = false := decide_eq_false hleft
    have HNL := Aside0.mk (show n ≤ L by omega)
    obtain ⟨pv, hpv⟩ : ∃ pv, pv = peekV b a n := ⟨_, rfl⟩
    have hpl := peekV_lt b a n
    have h2n : 2 ^ n ≤ 2 ^ 15 := Nat.pow_le_pow_right (by omega) (by omega)
    obtain ⟨ft, hft⟩ : ∃ ft, ft = fst l n l.length := ⟨_, rfl⟩
    have hfb := fst_bnd l n l.length hN.2.2.2 (by omega)
    rw [← hpv] at he hpl
    rw [← hft] at he hfb
    obtain ⟨X, hX⟩ : ∃ X : Int, X = (pv : Int) - ft := ⟨_, rfl⟩
    rw [← hX] at he
    have HEE := Aside0.mk he
    have hXb : -134217728 ≤ X ∧ X < 32768 := by omega
    have HP2 := Aside0.mk (fun (W : World) (hr : RdAt W g b a) => HPK.out W hr n (by omega))
    rw [← hpv] at HP2
    have m1 : (n : Int) < 16 := by omega
    have m2 : (0 : Int) ≤ (n : Int) := by omega
    have q1 : IntKind.i64.wrap ((pv : Int) - ft) = X := by rw [hX]; exact IntWalk.i64_in _ (by omega)
    have q2 : wrap64 ((pv : Int) - ft) = X := by rw [hX]; exact Bridge.wr (by omega) (by omega)
    have HFT := Aside0.mk hft
    clear hi hN hleft he hpv hpl h2n hfb hX hXb hft
    go_wp2_with fail
    refine HL2.out.mono ?_
    rintro e w2 ⟨rfl, hb2⟩
    have HB2 := Aside0.mk (Drawn0.trans HB.out hb2)
    clear hb2
    have HT2 := Aside0.mk (HT.out.below HB2.out.below)
    have HR2 := Aside0.mk (HR.out.below HB2.out.below)
    have hfs := HT2.out.fs n hn16
    rw [← HFT.out] at hfs
    have hsy := HT2.out.sy n hn16
    go_wp2_with fail
    go_quiet ((go_at_call 213; exact quietD (HP2.out _ (HR2.out.drew _))))
    have HB3 : Aside0 (Drawn0 w (w2.drewN nq)) := ⟨HB2.out.step nq⟩
    obtain ⟨wz, hwz⟩ : ∃ wz, wz = w2.drewN nq := ⟨_, rfl⟩
    rw [← hwz] at HB3 ⊢
    clear hwz hfs hsy
    have HT3 := Aside0.mk (HT.out.below HB3.out.below)
    have HR3 := Aside0.mk (HR.out.below HB3.out.below)
    have hsy := HT3.out.sy n hn16
    by_cases hk : 0 ≤ X ∧ X < ((sym l n l.length).length : Int)
    ·have hee := HEE.out
     rw [if_pos hk] at hee
     have HRES := Aside0.mk hee
     have k1 := hk.1
     have k2 := hk.2
     have d3 : decide (0 ≤ X) = true := decide_eq_true hk.1
     have d4 : decide (X < ((sym l n l.length).length : Int)) = true := decide_eq_true hk.2
     have hrow := HT3.out.row n hn16
     obtain ⟨ad2, e2, _⟩ := Kd.at_int hrow X hk.1 hk.2
     rw [e2] at hsy
     clear hee hk hrow
     go_wp2_with fail
     refine (HSK.out _ HR3.out n HNL.out).mono ?_
     rintro e w4 ⟨rfl, w5, hd5, hw4⟩
     have HB5 := Aside0.mk (Drawn0.trans HB3.out hd5)
     have HKM := Aside0.mk (keep_moved HB5.out HR.out.lt (.int .i64 ((a + n : Nat) : Int)))
     have HR4 := Aside0.mk ((HR.out.below HB5.out.below).put (a + n))
     rw [← hw4] at HKM HR4
     have HT4 := Aside0.mk (HT.out.low HKM.out.2)
     have hsy4 := HT4.out.sy n hn16
     rw [e2] at hsy4
     obtain ⟨ad3, e3, hcell⟩ := Kd.at_int (HT4.out.row n hn16) X k1 k2
     rw [e2] at e3
     injection e3 with e3
     subst e3
     clear hd5 hw4 hsy
     have HXR : Aside0 (rd (sym l n l.length) X = (sym l n l.length).getD X.toNat 0) := ⟨rfl⟩
     rw [HXR.out] at hcell
     generalize (sym l n l.length).getD X.toNat 0 = tok at hcell HRES
     go_wp2_with fail
     go_ret2
     rw [HRES.out]
     exact ⟨rfl, HR4.out, HT4.out, HKM.out.1, HKM.out.2⟩
    ·have hee := HEE.out
     rw [if_neg hk] at hee
     have HRES := Aside0.mk hee
     by_cases k1 : 0 ≤ X
     ·have d3 : decide (0 ≤ X) = true := decide_eq_true k1
      have d4 : decide (X < ((sym l n l.length).length : Int)) = false := decide_eq_false (fun h => hk ⟨k1, h⟩)
      clear hee hk
      go_wp2_with fail
      go_roundw
      case rel => exact ⟨n + 1, f, rfl, ⟨⟨HI2.out.1, HI2.out.2.1⟩⟩, HRES, HB3⟩
      case measure =>
       have h1 := HI2.out.2.2
       show 100 - ((n : Int) + 1).toNat < 100 - ((n : Int)).toNat
       omega
     ·have d3 : decide (0 ≤ X) = false := decide_eq_false k1
      clear hee hk
      go_wp2_with fail
      go_roundw
      case rel => exact ⟨n + 1, f, rfl, ⟨⟨HI2.out.1, HI2.out.2.1⟩⟩, HRES, HB3⟩
      case measure =>
       have h1 := HI2.out.2.2
       show 100 - ((n : Int) + 1).toNat < 100 - ((n : Int)).toNat
       omega
end Go.Proofs.YtepgkimlmoikmaaGreat
