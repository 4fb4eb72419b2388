/- ShU: a part of its proof (contracts of the functions that it reaches, and the plain mathematics behind them). -/
import Derived.Test.YtepgkimlmoikmaaGreatShU30
import Derived.Test.YtepgkimlmoikmaaGreatShU31
import Derived.Test.YtepgkimlmoikmaaGreatShU32
import Derived.Lib.AppendZerosOnto
import Derived.Deep.RegionHeld3
set_option linter.unusedVariables false
set_option linter.unusedSimpArgs false
set_option maxHeartbeats 2000000
set_option maxRecDepth 100000
set_option linter.unusedVariables false
set_option linter.unusedSimpArgs false
namespace Go.Proofs.YtepgkimlmoikmaaGreat
open Go.RowKit Go.Proofs.YtepgkimlmoikmaaGreat.Spec Go.Proofs.YtepgkimlmoikmaaGreatW.PrintWords Go.Proofs.YtepgkimlmoikmaaGreatW.PrintLast
open Go.Proofs.YtepgkimlmoikmaaGreatW.PrintMore
attribute [local go_sem ↓] Go.wp_at_zero Go.wp_at_succ
attribute [local go_sem] max2_int min2_int max_two min_two
open Pk
abbrev ZC := Int × ((Option Addr × Nat × Nat) × List Nat)
def coinZ (z : ZC) : Coin := (z.1, z.2.1)
def pcZ (z : ZC) : PC := (z.1, z.2.2)
theorem ins_map {β γ : Type} (f : Int × β → Int × γ) (hf : ∀ z, (f z).1 = z.1) (x : Int × β) : ∀ ys : List (Int × β), ins (f x) (ys.map f) = (ins x ys).map f
 | [] => rfl
 | y :: r => by
  rw [List.map_cons, ins, ins, hf x, hf y]
  split
  ·rfl
  ·rw [List.map_cons, ins_map f hf x r]
theorem stable_map {β γ : Type} (f : Int × β → Int × γ) (hf : ∀ z, (f z).1 = z.1) : ∀ xs : List (Int × β), stable (xs.map f) = (stable xs).map f
 | [] => rfl
 | x :: r => by rw [List.map_cons, stable, stable, stable_map f hf r, ins_map f hf x]
def SymAt (low : Nat) (w : World) (h : Option Addr × Nat × Nat) (syms : List Nat) : Prop := ∃ (b : Nat) (cur : Array Value), h.1 = some ⟨b, 0, none⟩ ∧ w.heap[b]? = some (.cells cur 3 (0, 0)) ∧ h.2.1 = syms.length ∧ syms.length ≤ h.2.2 ∧ (∀ (i s : Nat), syms[i]? = some s → cur[i]? = some (.int .i64 (s : Int))) ∧ low ≤ b
theorem SymAt.low {low low1 : Nat} {w : World} {h : Option Addr × Nat × Nat} {syms : List Nat} (hs : SymAt low w h syms) (hl : low1 ≤ low) : SymAt low1 w h syms := by
 obtain ⟨b, cur, h1, h2, h3, h4, h5, h6⟩ := hs
 exact ⟨b, cur, h1, h2, h3, h4, h5, Nat.le_trans hl h6⟩
theorem SymAt.below {low : Nat} {w w1 : World} {h : Option Addr × Nat × Nat} {syms : List Nat} (hs : SymAt low w h syms) (hb : Below w.heap.size w w1) : SymAt low w1 h syms := by
 obtain ⟨b, cur, h1, h2, h3⟩ := hs
 exact ⟨b, cur, h1, blk_below h2 hb, h3⟩
theorem SymAt.kp {low : Nat} {w w1 : World} {h : Option Addr × Nat × Nat} {syms : List Nat} {g : Nat} {row : Option Nat} {cells : Array Value} (hs : SymAt low w h syms) (hg : w.heap[g]? = some (.cells cells 248 (0, 0))) (hk : Kp w w1 g row) : SymAt low w1 h syms := by
 obtain ⟨b, cur, h1, h2, h3⟩ := hs
 refine ⟨b, cur, h1, hk.blk h2 (fun e => ?_), h3⟩
 subst e
 rw [h2] at hg
 injection hg with hg
 injection hg with _ hg
 exact absurd hg (by decide)
theorem SymAt.grown {low : Nat} {w w1 : World} {h : Option Addr × Nat × Nat} {syms : List Nat} {row : Option Nat} (hs : SymAt low w h syms) (hg : w.grownBy w1 row) (hr : ∀ g, row = some g → ∃ cells, w.heap[g]? = some (.cells cells 248 (0, 0))) : SymAt low w1 h syms := by
 obtain ⟨b, cur, h1, h2, h3⟩ := hs
 refine ⟨b, cur, h1, (hg.block b (blk_lt h2) (fun e => ?_)).trans h2, h3⟩
 obtain ⟨cells, hc⟩ := hr b e.symm
 rw [h2] at hc
 injection hc with hc
 injection hc with _ hc
 exact absurd hc (by decide)
theorem SymAt.alloc {low : Nat} {w : World} {h : Option Addr × Nat × Nat} {syms : List Nat} (hs : SymAt low w h syms) (o : Obj) : SymAt low (w.alloc o) h syms := hs.below (below_alloc (Below.refl _ _) o)
def symCells (s : List Nat) : List Value := s.map fun (x : Nat) => Value.int .i64 (x : Int)
theorem symCells_len (s : List Nat) : (symCells s).length = s.length * 1 := by unfold symCells; simp
theorem symCells_one (s : List Nat) : ∀ u ∈ symCells s, u.oneCell' = true := by
 intro u hu
 obtain ⟨x, _, rfl⟩ := List.mem_map.1 hu
 rfl
theorem SymAt.cells {low : Nat} {w : World} {h : Option Addr × Nat × Nat} {syms : List Nat} (hs : SymAt low w h syms) : ∃ ad, h.1 = some ad ∧ ∀ j u, (symCells syms)[j]? = some u → w.cell? (ad.add j) = some u := by
 obtain ⟨b, cur, h1, h2, h3, h4, h5⟩ := hs
 refine ⟨_, h1, fun j u hj => ?_⟩
 rw [Lib.add_plain, Nat.zero_add]
 unfold symCells at hj
 rw [List.getElem?_map] at hj
 cases hx : syms[j]? with
 | none => rw [hx] at hj; cases hj
 | some s =>
  rw [hx] at hj
  obtain rfl := Option.some.inj hj
  exact (blk_cell h2 j).trans (h5.1 j s hx)
theorem SymAt.of {w : World} {base : Nat} {v : Value} {n : Nat} {s : List Nat} (h : w.ownsRow base 3 1 v n (symCells s)) (hn : 0 < n) (hl : s.length = n) : ∃ a : Option Addr × Nat × Nat, v = .slice a.1 a.2.1 a.2.2 ∧ SymAt base w a s := by
 rcases h.2 with ⟨_, h0⟩ | ⟨g, cap, cur, rfl, hg, hh, hc, _, _, hx⟩
 ·exfalso; omega
 ·refine ⟨(some ⟨g, 0, none⟩, n, cap), rfl, g, cur, rfl, hh, hl.symm, by show s.length ≤ cap; omega, fun i x hi => ?_, hg⟩
  have hj : (symCells s)[i]? = some (.int .i64 (x : Int)) := by unfold symCells; rw [List.getElem?_map, hi]; rfl
  rw [← hx, List.getElem?_take] at hj
  split at hj
  ·rw [← Array.getElem?_toList]; exact hj
  ·cases hj
theorem info_int : (Tryz.prog.info? 3).map (fun i => (i.zero, i.size, i.bytes)) = some (some (.int .i64 0), 1, 8) := by kernel_rfl
theorem grow_nil (n : Nat) (hn : 0 < n) (hn2 : n ≤ 1000000) (w : World) : Calls Tryz.prog 228 #[.slice none 0 0, .int .i64 (n : Int)] w fun e w' => ∃ v, e = .returned v ∧ w'.ownsRow w.heap.size 3 1 v 0 [] ∧ Below w.heap.size w w' := by
 obtain ⟨i0, hi0, hii⟩ := Option.map_eq_some_iff.1 info_int
 simp only [Prod.mk.injEq] at hii
 obtain ⟨hz0, hsz, hby⟩ := hii
 have h1 : ¬ ((n : Int) < 0) := by omega
 have h2 : (n : Int) ≤ 1000000 := by omega
 have h4 : (n : Int) > 0 := by omega
 have hrz : ∀ ty, (Builtin.append_ #[29, 3] ty #[.slice none 0 0, .int .i64 (n : Int)]).run Tryz.prog w =
   .ok (.slice (some ⟨w.heap.size, 0, none⟩) n (grownCap w n 0 3)) (w.drew.alloc (.cells (#[] ++ Builtin.zeroCells (Value.int .i64 0).cells n ++ Builtin.zeroCells (Value.int .i64 0).cells (grownCap w n 0 3 - n)) 3)) := fun ty => by
  have h := Lib.run_append_grow_zeros (P := Tryz.prog) w 29 3 ty 3 i0 (.int .i64 0) .i64 .i64 Tryz.underlying29 Tryz.underlying3 hi0 hz0 none 0 0 [] (by rw [hsz]; exact run_firstCells_none w.drew 1 0 0 0) n (by omega) (by omega) (by omega) (by omega) (by rw [hby]; omega) (growslice_fits (by omega) (by rw [hby]; omega))
  rw [Nat.zero_add] at h
  exact h
 have hGn : n ≤ grownCap w n 0 3 := grownCap_ge w _ _ _
 obtain ⟨G, hG⟩ : ∃ G, G = grownCap w n 0 3 := ⟨_, rfl⟩
 rw [← hG] at hrz hGn
 have hG63 : G ≤ maxLen := by
  rw [hG]
  exact grownCap_le_maxLen w n 0 3 (by unfold maxLen; omega)
 have hG64 : G ≤ 9223372036854775807 := by unfold maxLen at hG63; omega
 have HG := Aside0.mk hG63
 clear hG hG63 hi0 hz0 hsz hby
 go_enter Tryz.func228, Tryz.ntmps228
 go_wp2_with (at_builtin; refine Lib.wpList_append_run _ rfl _ _ _ _ rfl _ _ rfl rfl _ _ (hrz _) ?_)
 go_ret
 refine ⟨_, rfl, World.ownsRow_made w.drew _ G (Nat.le_refl _) HG.out ?_, below_alloc (below_drew (Below.refl _ _)) _⟩
 have e1 : (Value.int .i64 0).cells.size = 1 := rfl
 simp only [Array.size_append, size_zeroCells, e1]
 simp
 omega
theorem concat_any {low1 low2 : Nat} (A : Nat) (c : Nat) (h1 h2 : Option Addr × Nat × Nat) (s1 s2 : List Nat) (l1 : 1 ≤ s1.length ∧ s1.length ≤ 100000) (l2 : 1 ≤ s2.length ∧ s2.length ≤ 100000) {w : World} (k0 : w.cell? ⟨A, 0, none⟩ = some (.slice h1.1 h1.2.1 h1.2.2)) (k1 : w.cell? ⟨A, 1, none⟩ = some (.slice h2.1 h2.2.1 h2.2.2)) (H1 : SymAt low1 w h1 s1) (H2 : SymAt low2 w h2 s2) (hc : 2 ≤ c) :
  Calls Tryz.prog 220 #[.slice (some ⟨A, 0, none⟩) 2 c] w fun e w' => ∃ h : Option Addr × Nat × Nat, e = .returned (.slice h.1 h.2.1 h.2.2) ∧ SymAt w.heap.size w' h (s1 ++ s2) ∧ Below w.heap.size w w' := by
 have e1 : h1.2.1 = s1.length := by obtain ⟨_, _, _, _, e, _⟩ := H1; exact e
 have e2 : h2.2.1 = s2.length := by obtain ⟨_, _, _, _, e, _⟩ := H2; exact e
 obtain ⟨a1, m1, c1⟩ := h1
 obtain ⟨a2, m2, c2⟩ := h2
 dsimp only at e1 e2 k0 k1
 subst e1 e2
 have HH1 := Aside0.mk H1
 have HH2 := Aside0.mk H2
 have HL := Aside0.mk (And.intro l1 l2)
 have z1 : (s1.length : Int) ≤ 100000 := by omega
 have z2 : (s2.length : Int) ≤ 100000 := by omega
 have HG := Aside0.mk (fun W => grow_nil (s1.length + s2.length) (by omega) (by omega) W)
 have eN : ((s1.length + s2.length : Nat) : Int) = (s1.length : Int) + (s2.length : Int) := by omega
 rw [eN] at HG
 clear H1 H2 l1 l2 eN
 go_enter Tryz.func220, Tryz.ntmps220
 go_wp2_with fail
 go_loopw [3, 11] (fun v3 v11 wr => ∃ i : Nat, v11 = .int .i64 (i : Int) ∧ Aside0 (i ≤ 2) ∧ v3 = .int .i64 (if i = 0 then 0 else if i = 1 then (s1.length : Int) else (s1.length : Int) + (s2.length : Int)) ∧ wr = w) (fun _ v11 _ => 2 - (intOf v11).toNat)
 case atStart => exact ⟨0, rfl, ⟨by decide⟩, rfl, rfl⟩
 case round =>
  obtain ⟨i, rfl, HI, rfl, rfl⟩ := hrel
  have hi := HI.out
  rcases (show i = 0 ∨ i = 1 ∨ i = 2 by omega) with rfl | rfl | rfl
  ·rw [if_pos rfl]
   clear hi HI
   go_wp2_with fail
   go_roundw
   case rel => exact ⟨1, rfl, ⟨by decide⟩, by first | rfl | simp, by first | rfl | simp⟩
   case measure => decide
  ·rw [if_neg (by decide), if_pos rfl]
   clear hi HI
   go_wp2_with fail
   go_roundw
   case rel => exact ⟨2, rfl, ⟨by decide⟩, by first | rfl | simp, by first | rfl | simp⟩
   case measure => decide
  ·rw [if_neg (by decide), if_neg (by decide)]
   clear hi HI
   go_wp2_with fail
   refine (HG.out _).mono ?_
   rintro e w2 ⟨v, rfl, hown, hb2⟩
   have HO2 := Aside0.mk hown
   have HB2 := Aside0.mk hb2
   have K0 := Aside0.mk (And.intro k0 k1)
   obtain ⟨A6, c6, rfl⟩ := own_slice hown
   clear hown hb2 k0 k1
   go_wp2_with fail
   go_loopw [6, 27] (fun v6 v27 wq => ∃ (i : Nat) (pre : List Nat) (A7 : Option Addr) (c7 : Nat), v27 = .int .i64 (i : Int) ∧ v6 = .slice A7 pre.length c7 ∧ Aside0 (i = 0 ∧ pre = [] ∨ i = 1 ∧ pre = s1 ∨ i = 2 ∧ pre = s1 ++ s2) ∧ Aside0 (wq.ownsRow wr.heap.size 3 1 (.slice A7 pre.length c7) pre.length (symCells pre)) ∧ Aside0 (Below wr.heap.size wr wq)) (fun _ v27 _ => 2 - (intOf v27).toNat)
   case atStart => exact ⟨0, [], A6, c6, rfl, rfl, ⟨.inl ⟨rfl, rfl⟩⟩, HO2, HB2⟩
   case round =>
    obtain ⟨i, pre, A7, c7, rfl, rfl, HI, HO, HB⟩ := hrel
    have k0 := pw_cell_below HB.out K0.out.1
    have k1 := pw_cell_below HB.out K0.out.2
    have HP : Aside0 (pre.length ≤ s1.length + s2.length) := ⟨by
     rcases HI.out with ⟨_, e⟩ | ⟨_, e⟩ | ⟨_, e⟩
     ·rw [e]; exact Nat.zero_le _
     ·rw [e]; omega
     ·rw [e, List.length_append]; exact Nat.le_refl _⟩
    have hi := HI.out
    rcases hi with ⟨rfl, hpre⟩ | ⟨rfl, hpre⟩ | ⟨rfl, hpre⟩
    ·have HE := Aside0.mk hpre
     clear hpre HI
     go_wp2_with (first
      | (at_builtin; refine wpList_append_flat _ rfl (.tmp 31) (.tmp 32) 29 3 rfl _ 1 8 Tryz.underlying29 info_int rfl (by decide) (by decide) (.slice A7 pre.length c7) pre.length (symCells pre) rfl HO.out rfl (symCells s1) (symCells_len _) HL.out.1.1 (SymAt.cells (HH1.out.below HB.out)) (symCells_one _) (by have h1 := HL.out.1.2; have h2 := HL.out.2.2; have h3 := HP.out; omega) HB.out HB.out.size ?_; intro v5 w5 hown5 hb5 hg5; obtain ⟨A8, c8, rfl⟩ := own_slice hown5; have HO5 := Aside0.mk hown5; have HB5 := Aside0.mk hb5; clear hown5 hb5 hg5))
     go_roundw
     case rel =>
      have h := HO5.out
      rw [HE.out] at h
      exact ⟨1, s1, A8, c8, rfl, by rw [HE.out]; exact congrArg (fun n => Value.slice A8 n c8) (Nat.zero_add _), ⟨.inr (.inl ⟨rfl, rfl⟩)⟩, ⟨by have e : ([] : List Nat).length + s1.length = s1.length := Nat.zero_add _; rw [e] at h; exact h⟩, HB5⟩
     case measure => decide
    ·have HE := Aside0.mk hpre
     clear hpre HI
     go_wp2_with (first
      | (at_builtin; refine wpList_append_flat _ rfl (.tmp 31) (.tmp 32) 29 3 rfl _ 1 8 Tryz.underlying29 info_int rfl (by decide) (by decide) (.slice A7 pre.length c7) pre.length (symCells pre) rfl HO.out rfl (symCells s2) (symCells_len _) HL.out.2.1 (SymAt.cells (HH2.out.below HB.out)) (symCells_one _) (by have h1 := HL.out.1.2; have h2 := HL.out.2.2; have h3 := HP.out; omega) HB.out HB.out.size ?_; intro v5 w5 hown5 hb5 hg5; obtain ⟨A8, c8, rfl⟩ := own_slice hown5; have HO5 := Aside0.mk hown5; have HB5 := Aside0.mk hb5; clear hown5 hb5 hg5))
     go_roundw
     case rel =>
      have h := HO5.out
      rw [HE.out] at h
      exact ⟨2, s1 ++ s2, A8, c8, rfl, by rw [HE.out, List.length_append], ⟨.inr (.inr ⟨rfl, rfl⟩)⟩, ⟨by rw [List.length_append]; unfold symCells at h ⊢; rw [List.map_append]; exact h⟩, HB5⟩
     case measure => decide
    ·have HE := Aside0.mk hpre
     clear hpre HI
     go_wp2_with fail
     go_ret
     have h := HO.out
     obtain ⟨a, ha, hs⟩ := SymAt.of h (by rw [HE.out, List.length_append]; have := HL.out.1.1; omega) rfl
     refine ⟨a, ?_, by rw [← HE.out]; exact hs, HB.out⟩
     rw [← ha]
     rfl
end Go.Proofs.YtepgkimlmoikmaaGreat
set_option linter.unusedVariables false
set_option linter.unusedSimpArgs false
namespace Go.Proofs.YtepgkimlmoikmaaGreat
open Go.RowKit Go.Proofs.YtepgkimlmoikmaaGreat.Spec Go.Proofs.YtepgkimlmoikmaaGreatW.PrintWords Go.Proofs.YtepgkimlmoikmaaGreatW.PrintLast
open Go.Proofs.YtepgkimlmoikmaaGreatW.PrintMore
attribute [local go_sem ↓] Go.wp_at_zero Go.wp_at_succ
attribute [local go_sem] max2_int min2_int max_two min_two
open Pk
theorem info_coin : (Tryz.prog.info? 248).map (fun i => (i.zero, i.size, i.bytes)) = some (some (.agg #[.int .i64 0, .slice none 0 0]), 2, 32) := by kernel_rfl
theorem alloc_cellsC (w : World) (cs : Array Value) (t : TypeId) (j : Nat) (u : Value) (h : cs[j]? = some u) : (w.alloc (.cells cs t)).cell? ((⟨w.heap.size, 0, none⟩ : Addr).add j) = some u := by
 rw [Lib.add_plain]
 exact (blk_cell (blk_new w _) _).trans (by rw [Nat.zero_add]; exact h)
theorem alloc_cells2 (w : World) (o : Obj) (cs : Array Value) (t : TypeId) (j : Nat) (u : Value) (h : cs[j]? = some u) : ((w.alloc o).alloc (.cells cs t)).cell? ((⟨w.heap.size + 1, 0, none⟩ : Addr).add j) = some u := by
 have e : (w.alloc o).heap.size = w.heap.size + 1 := by simp
 rw [← e]
 exact alloc_cellsC (w.alloc o) cs t j u h
theorem flatC_len : ∀ xs : List Coin, (flatC xs).length = xs.length * 2
 | [] => rfl
 | c :: r => by rw [flatC, List.length_cons, List.length_cons, flatC_len r, List.length_cons]; omega
theorem flatC_app : ∀ xs ys : List Coin, flatC (xs ++ ys) = flatC xs ++ flatC ys
 | [], ys => rfl
 | c :: r, ys => by rw [List.cons_append, flatC, flatC, flatC_app r ys]; rfl
theorem flatC_one : ∀ xs : List Coin, ∀ u ∈ flatC xs, u.oneCell' = true
 | [], u, h => by cases h
 | c :: r, u, h => by
  rw [flatC] at h
  rcases List.mem_cons.1 h with rfl | h
  ·rfl
  ·rcases List.mem_cons.1 h with rfl | h
   ·rfl
   ·exact flatC_one r u h
theorem flatC_get : ∀ (xs : List Coin) (j : Nat) (c : Coin), xs[j]? = some c → (flatC xs)[j * 2]? = some (.int .i64 c.1) ∧ (flatC xs)[j * 2 + 1]? = some (.slice c.2.1 c.2.2.1 c.2.2.2)
 | [], j, c, h => by simp at h
 | q :: r, 0, c, h => by
  obtain rfl := Option.some.inj h
  exact ⟨rfl, rfl⟩
 | q :: r, j + 1, c, h => by
  have := flatC_get r j c (by simpa using h)
  rw [flatC, show (j + 1) * 2 = j * 2 + 1 + 1 by omega]
  exact this
theorem Cn.cells {w : World} {g : Nat} {xs : List Coin} (h : Cn w g xs) : ∀ (j : Nat) (u : Value), (flatC xs)[j]? = some u → w.cell? ((⟨g, 0, none⟩ : Addr).add j) = some u := by
 intro j u hj
 rw [Lib.add_plain, Nat.zero_add]
 have hlt : j < (flatC xs).length := (List.getElem?_eq_some_iff.1 hj).1
 rw [flatC_len] at hlt
 obtain ⟨c, hc⟩ : ∃ c, xs[j / 2]? = some c := ⟨_, List.getElem?_eq_getElem (by omega)⟩
 obtain ⟨f1, f2⟩ := flatC_get xs (j / 2) c hc
 rcases (show j = j / 2 * 2 ∨ j = j / 2 * 2 + 1 by omega) with e | e
 ·rw [e] at hj ⊢
  rw [f1] at hj
  rw [← hj]
  exact h.get0 hc
 ·rw [e] at hj ⊢
  rw [f2] at hj
  rw [← hj]
  exact h.get1 hc
theorem Cn.of {w : World} {base : Nat} {v : Value} {n : Nat} {xs : List Coin} (h : w.ownsRow base 248 2 v n (flatC xs)) (hn : 0 < n) (hl : xs.length = n) : ∃ g c, v = .slice (some ⟨g, 0, none⟩) n c ∧ base ≤ g ∧ n ≤ c ∧ Cn w g xs := by
 rcases h.2 with ⟨_, h0⟩ | ⟨g, cap, cur, rfl, hg, hh, hc, _, hs, hx⟩
 ·exfalso; omega
 ·refine ⟨g, cap, rfl, hg, hc, cur, hh, ?_, fun i c hi => ?_⟩
  ·rw [hl, hs]
   exact Nat.mul_le_mul_right 2 hc
  ·obtain ⟨f1, f2⟩ := flatC_get xs i c hi
   rw [← hx, List.getElem?_take] at f1 f2
   constructor
   ·split at f1
    ·rw [← Array.getElem?_toList]; exact f1
    ·cases f1
   ·split at f2
    ·rw [← Array.getElem?_toList]; exact f2
    ·cases f2
theorem Cn.typed {w : World} {g : Nat} {xs : List Coin} (h : Cn w g xs) : ∃ cells, w.heap[g]? = some (.cells cells 248 (0, 0)) := by
 obtain ⟨cur, h1, _⟩ := h
 exact ⟨cur, h1⟩
def RowZ (w : World) (base : Nat) (v : Value) (zs : List ZC) : Prop := (∀ z ∈ zs, SymAt base w z.2.1 z.2.2) ∧ (zs = [] ∧ v = .slice none 0 0 ∨ ∃ g c, v = .slice (some ⟨g, 0, none⟩) zs.length c ∧ base ≤ g ∧ zs.length ≤ c ∧ Cn w g (zs.map coinZ))
theorem own_coin {w : World} {base : Nat} {v : Value} {n : Nat} {xs : List Value} (h : w.ownsRow base 248 2 v n xs) : ∀ g, v.ownBlock = some g → ∃ cells, w.heap[g]? = some (.cells cells 248 (0, 0)) := fun g hg => own_typed h g hg
theorem sgl_snoc : ∀ (l : List Int) (i : Nat) (c : Int), sgl i (l ++ [c]) = sgl i l ++ (if 0 < c then [(c, [i + l.length])] else [])
 | [], i, c => by
  rw [List.nil_append, sgl, sgl, List.nil_append, List.length_nil, Nat.add_zero]
  rfl
 | x :: r, i, c => by
  rw [List.cons_append, sgl, sgl, sgl_snoc r (i + 1) c, List.length_cons]
  rw [show i + 1 + r.length = i + (r.length + 1) by omega]
  split <;> rfl
theorem sgl_le : ∀ (l : List Int) (i : Nat), (sgl i l).length ≤ l.length
 | [], i => Nat.le_refl _
 | x :: r, i => by
  rw [sgl]
  have := sgl_le r (i + 1)
  split
  ·rw [List.length_cons, List.length_cons]; omega
  ·rw [List.length_cons]; omega
theorem single_any {A : Option Addr} {c : Nat} (l : List Int) {w : World} (hr : IntsIn w A l) (hc : l.length ≤ c) (hl : l.length ≤ 100000) (hb : ∀ x ∈ l, 0 ≤ x ∧ x ≤ 1073741824) (hne : sgl 0 l ≠ []) :
  Calls Tryz.prog 190 #[.slice A l.length c] w fun e w' => ∃ v zs, e = .returned v ∧ RowZ w' w.heap.size v zs ∧ zs.map pcZ = firstL l ∧ Below w.heap.size w w' := by
 have HR := Aside0.mk hr
 have HX := Aside0.mk (And.intro hc (And.intro hl hb))
 have HNE := Aside0.mk hne
 clear hr hc hl hb hne
 go_enter Tryz.func190, Tryz.ntmps190
 go_wp2_with fail
 go_loopw [3, 8] (fun v3 v8 wr => ∃ (i : Nat) (zs : List ZC), v8 = .int .i64 (i : Int) ∧ Aside0 (i ≤ l.length ∧ zs.map pcZ = sgl 0 (l.take i) ∧ ∀ z ∈ zs, SymAt w.heap.size wr z.2.1 z.2.2) ∧ Aside0 (wr.ownsRow w.heap.size 248 2 v3 zs.length (flatC (zs.map coinZ))) ∧ Aside0 (Below w.heap.size w wr)) (fun _ v8 _ => l.length - (intOf v8).toNat)
 case atStart => exact ⟨0, [], rfl, ⟨Nat.zero_le _, rfl, fun z h => by cases h⟩, ⟨own_nil _ _ _ _⟩, ⟨Below.refl _ _⟩⟩
 case round =>
  obtain ⟨i, zs, rfl, HI, HO, HB⟩ := hrel
  obtain ⟨A3, c3, rfl⟩ := own_slice HO.out
  obtain ⟨x1, x2, x3⟩ := HX.out
  obtain ⟨i1, i2, i3⟩ := HI.out
  have zi : (i : Int) ≤ 100000 := by omega
  have zlen : zs.length ≤ 100000 := by
   have h := congrArg List.length i2
   rw [List.length_map] at h
   have h2 := sgl_le (l.take i) 0
   rw [List.length_take] at h2
   omega
  by_cases hil : i < l.length
  ·have d1 : decide ((i : Int) < (l.length : Int)) = true := decide_eq_true (by omega)
   have d2 : decide (i < l.length) = true := decide_eq_true hil
   have p1 : (0 : Int) ≤ (i : Int) := by omega
   have p2 : (i : Int) < (l.length : Int) := by omega
   obtain ⟨ad, rfl, hcell⟩ := Kd.at_int (Kd.C_below HR.out HB.out) (i : Int) p1 p2
   rw [show ((i : Int)).toNat = i by omega] at hcell
   have hrd : rd l (i : Int) = l[i] := by unfold rd; rw [show ((i : Int)).toNat = i by omega, List.getD_eq_getElem?_getD, List.getElem?_eq_getElem hil]; rfl
   have hmem := x3 l[i] (List.getElem_mem hil)
   have htake : l.take (i + 1) = l.take i ++ [l[i]] := by rw [List.take_add_one, List.getElem?_eq_getElem hil]; rfl
   have hsn := sgl_snoc (l.take i) 0 l[i]
   rw [← htake, List.length_take, Nat.min_eq_left (by omega), Nat.zero_add] at hsn
   rw [hrd] at hcell
   generalize l[i] = q at *
   have HSN := Aside0.mk hsn
   have HIL := Aside0.mk (And.intro hil zlen)
   by_cases hq : 0 < q
   ·have e1 : decide (0 < q) = true := decide_eq_true hq
    rw [if_pos hq] at HSN
    clear hrd htake hsn x1 x2 x3 i1 i2 i3 hil zlen
    go_wp2_with (first
     | (at_builtin; refine wpList_append_flat _ rfl (.tmp 15) (.tmp 20) 244 248 rfl _ 2 32 Tryz.underlying244 info_coin rfl (by decide) (by decide) (.slice A3 zs.length c3) zs.length (flatC (zs.map coinZ)) rfl ((HO.out.alloc _).alloc _) rfl (flatC [(q, (some ⟨wr.heap.size, 0, none⟩, 1, 1))]) rfl (by decide) ⟨_, rfl, fun j u hj => alloc_cells2 _ _ #[.int .i64 q, .slice (some ⟨wr.heap.size, 0, none⟩) 1 1] _ j u (by rw [← Array.getElem?_toList]; exact hj)⟩ (flatC_one _) (by have := HIL.out.2; omega) (below_alloc (below_alloc HB.out _) _) (by have := HB.out.size; simp; omega) ?_; intro v5 w5 hown5 hb5 hg5; rw [← flatC_app] at hown5; have HO5 := Aside0.mk hown5; have HB5 := Aside0.mk hb5; have HG5 := Aside0.mk hg5; clear hown5 hb5 hg5))
    go_roundw
    case rel =>
     obtain ⟨i1, i2, i3⟩ := HI.out
     have hrow : ∀ g, (Value.slice A3 zs.length c3).ownBlock = some g → ∃ cells, ((wr.alloc (.cells #[.int .i64 (i : Int)] 3)).alloc (.cells #[.int .i64 q, .slice (some ⟨wr.heap.size, 0, none⟩) 1 1] 248)).heap[g]? = some (.cells cells 248 (0, 0)) := fun g hg => own_coin ((HO.out.alloc _).alloc _) g hg
     refine ⟨i + 1, zs ++ [(q, ((some ⟨wr.heap.size, 0, none⟩, 1, 1), [i]))], congrArg (Value.int .i64) (by omega), ⟨HIL.out.1, ?_, ?_⟩, ⟨?_⟩, HB5⟩
     ·rw [List.map_append, HSN.out, i2]
      rfl
     ·intro z hz
      rcases List.mem_append.1 hz with hz | hz
      ·exact (((i3 z hz).alloc _).alloc _).grown HG5.out hrow
      ·rw [List.mem_singleton.1 hz]
       refine SymAt.grown ?_ HG5.out hrow
       refine SymAt.alloc ?_ _
       refine ⟨wr.heap.size, #[.int .i64 (i : Int)], rfl, blk_new wr _, rfl, Nat.le_refl _, fun j s hj => ?_, HB.out.size⟩
       match j, hj with
       | 0, hj => obtain rfl := Option.some.inj hj; rfl
       | j + 1, hj => simp at hj
     ·rw [List.length_append, List.length_singleton, List.map_append]
      exact HO5.out
    case measure =>
     have h1 := HIL.out.1
     show l.length - ((i : Int) + 1).toNat < l.length - (i : Int).toNat
     omega
   ·have e1 : decide (0 < q) = false := decide_eq_false hq
    rw [if_neg hq, List.append_nil] at HSN
    clear hrd htake hsn x1 x2 x3 i1 i2 i3 hil zlen
    go_wp2_with fail
    go_roundw
    case rel =>
     obtain ⟨i1, i2, i3⟩ := HI.out
     exact ⟨i + 1, zs, congrArg (Value.int .i64) (by omega), ⟨HIL.out.1, by rw [HSN.out, i2], i3⟩, HO, HB⟩
    case measure =>
     have h1 := HIL.out.1
     show l.length - ((i : Int) + 1).toNat < l.length - (i : Int).toNat
     omega
  ·have hie : i = l.length := by omega
   subst hie
   rw [List.take_length] at i2
   have d1 : decide ((l.length : Int) < (l.length : Int)) = false := decide_eq_false (by omega)
   have hz0 : 0 < zs.length := by
    rcases Nat.eq_zero_or_pos zs.length with h | h
    ·exfalso
     rw [List.length_eq_zero_iff.1 h] at i2
     exact HNE.out i2.symm
    ·exact h
   obtain ⟨g, c4, he, hg, hc4, hcn⟩ := Cn.of HO.out hz0 (by rw [List.length_map])
   injection he with e1 e2 e3
   subst e1 e3
   have hsm : SmC (zs.map coinZ) := fun y hy => by
    obtain ⟨z, hz, rfl⟩ := List.mem_map.1 hy
    obtain ⟨k, h1, _, _⟩ := sgl_mem l 0 (pcZ z) (by rw [← i2]; exact List.mem_map_of_mem hz)
    have := x3 z.1 (List.mem_of_getElem? h1)
    show 0 ≤ z.1 ∧ z.1 ≤ _
    omega
   have HSO := Aside0.mk (sortstable_any (cap := c3) cmp96 (zs.map coinZ) (n := zs.length) (by rw [List.length_map]) zlen hsm hcn)
   have HGB := Aside0.mk hg
   have HCT := Aside0.mk hcn.typed
   have HI2 := Aside0.mk (And.intro i2 i3)
   have HC4 := Aside0.mk hc4
   clear x1 x2 x3 i1 i2 i3 hil hcn hsm hg hc4 HI zlen
   go_wp2_with fail
   refine HSO.out.mono ?_
   rintro e w5 ⟨rfl, hcn5, hk5⟩
   have HN5 := Aside0.mk hcn5
   have HK5 := Aside0.mk hk5
   clear hcn5 hk5
   go_wp2_with fail
   go_ret
   obtain ⟨cells, hct⟩ := HCT.out
   refine ⟨_, stable zs, rfl, ⟨fun z hz => (HI2.out.2 z (stable_mem.1 hz)).kp hct HK5.out, .inr ⟨g, c3, by rw [stable_len]; rfl, HGB.out, by rw [stable_len]; exact HC4.out, ?_⟩⟩, ?_, HK5.out.low HB.out HGB.out⟩
   ·rw [← stable_map coinZ (fun _ => rfl)]
    exact HN5.out
   ·rw [← stable_map pcZ (fun _ => rfl), HI2.out.1]
    rfl
end Go.Proofs.YtepgkimlmoikmaaGreat
