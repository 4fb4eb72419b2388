/- ShU: a part of its proof (contracts of the functions that it reaches, and the plain mathematics behind them). -/
import Derived.Test.YtepgkimlmoikmaaGreatShU33
import Derived.Lib.SliceRun
import Derived.Test.YtepgkimlmoikmaaGreatShU17
set_option linter.unusedVariables false
set_option linter.unusedSimpArgs false
set_option maxHeartbeats 2000000
set_option maxRecDepth 100000
set_option linter.unusedVariables false
set_option linter.unusedSimpArgs false
namespace Go.Proofs.YtepgkimlmoikmaaGreat
open Go.RowKit Go.Proofs.YtepgkimlmoikmaaGreat.Spec Go.Proofs.YtepgkimlmoikmaaGreatW.PrintWords Go.Proofs.YtepgkimlmoikmaaGreatW.PrintLast
open Go.Proofs.YtepgkimlmoikmaaGreatW.PrintMore
attribute [local go_sem ↓] Go.wp_at_zero Go.wp_at_succ
attribute [local go_sem] max2_int min2_int max_two min_two
open Pk
theorem cloneC_any {g n c : Nat} (xs : List Coin) (hn : n = xs.length) (h0 : 0 < n) (hl : n ≤ 100000) {w : World} (hcn : Cn w g xs) :
  Calls Tryz.prog 191 #[.slice (some ⟨g, 0, none⟩) n c] w fun e w' => ∃ v, e = .returned v ∧ w'.ownsRow w.heap.size 248 2 v n (flatC xs) ∧ Below w.heap.size w w' := by
 have HC := Aside0.mk hcn
 have HX := Aside0.mk (And.intro hn (And.intro h0 hl))
 have heq : ∀ W : World, (binOp .eql 244 (.slice (some ⟨g, 0, none⟩) n c) (.slice none 0 0)).run Tryz.prog W = .ok (.bool false) W := fun W => by
  exact Lib.run_eql_slice_nil (P := Tryz.prog) W 244 248 (some ⟨g, 0, none⟩) n c 0 0 Tryz.underlying244
 clear hcn hn h0 hl
 go_enter Tryz.func191, Tryz.ntmps191
 go_wp2_with (first
  | (at_builtin; refine wpList_append_flat w.heap.size rfl (.tmp 5) (.tmp 6) 244 248 rfl _ 2 32 Tryz.underlying244 info_coin rfl (by decide) (by decide) (.slice (some ⟨w.heap.size, 0, none⟩) 0 0) 0 [] rfl (World.ownsRow_made w _ 0 (Nat.le_refl _) (Nat.zero_le _) rfl) rfl (flatC xs) (by rw [flatC_len, ← HX.out.1]) HX.out.2.1 ⟨_, rfl, Cn.cells (HC.out.below (below_alloc (Below.refl _ _) _))⟩ (flatC_one _) (by have := HX.out.2.2; omega) (below_alloc (Below.refl _ _) _) (by simp) ?_; intro v5 w5 hown5 hb5 hg5; rw [Nat.zero_add, List.nil_append] at hown5; have HO5 := Aside0.mk hown5; have HB5 := Aside0.mk hb5; clear hown5 hb5 hg5))
 go_ret
 exact ⟨_, rfl, HO5.out, HB5.out⟩
theorem pack_snoc : ∀ (xs : List PC) (m : Nat) (a b : PC), xs.length = 2 * m → packL (xs ++ [a, b]) = packL xs ++ [(a.1 + b.1, a.2 ++ b.2)] := by
 intro xs
 induction xs using packL.induct with
 | case1 u v s ih =>
  intro m a b h
  rw [List.cons_append, List.cons_append, packL, packL, ih (m - 1) a b (by simp at h; omega)]
  rfl
 | case2 s hs =>
  intro m a b h
  match s, hs, h with
  | [], _, _ => simp [packL]
  | [u], _, h => simp at h; omega
  | u :: v :: s, hs, _ => exact absurd rfl (hs u v s)
theorem own_below {w w1 : World} {base : Nat} {e : TypeId} {size n : Nat} {v : Value} {xs : List Value} (h : w.ownsRow base e size v n xs) (hb : Below w.heap.size w w1) : w1.ownsRow base e size v n xs := own_move h (fun k hk => hb.block k (own_lt h k hk))
theorem packages_any {low g n c : Nat} (zs : List ZC) (hn : n = zs.length) (hl : n ≤ 100000) (hc : n ≤ c) {w : World} (hcn : Cn w g (zs.map coinZ)) (hsy : ∀ z ∈ zs, SymAt low w z.2.1 z.2.2) (hb : ∀ z ∈ zs, 0 ≤ z.1 ∧ z.1 ≤ 1000000000000000) (hss : ∀ z ∈ zs, 1 ≤ z.2.2.length ∧ z.2.2.length ≤ 100000) :
  Calls Tryz.prog 192 #[.slice (some ⟨g, 0, none⟩) n c] w fun e w' => ∃ (v : Value) (ys : List ZC), e = .returned v ∧ w'.ownsRow w.heap.size 248 2 v ys.length (flatC (ys.map coinZ)) ∧ (∀ z ∈ ys, SymAt w.heap.size w' z.2.1 z.2.2) ∧ ys.map pcZ = packL (zs.map pcZ) ∧ Below w.heap.size w w' := by
 have HC := Aside0.mk hcn
 have HX := Aside0.mk (And.intro hn (And.intro hl (And.intro hc (And.intro trivial (And.intro hsy (And.intro hb hss))))))
 clear hcn hn hl hc hsy hb hss
 go_enter Tryz.func192, Tryz.ntmps192
 go_wp2_with fail
 go_loopw [0, 3] (fun v0 v3 wr => ∃ (m : Nat) (ds rs ys : List ZC) (A0 : Addr), v0 = .slice (some A0) rs.length (c - 2 * m) ∧ Aside0 (rs ≠ [] → A0 = ⟨g, 4 * m, none⟩) ∧ Aside0 (zs = ds ++ rs ∧ ds.length = 2 * m ∧ ys.map pcZ = packL (ds.map pcZ) ∧ ∀ z ∈ ys, SymAt w.heap.size wr z.2.1 z.2.2) ∧ Aside0 (wr.ownsRow w.heap.size 248 2 v3 ys.length (flatC (ys.map coinZ))) ∧ Aside0 (Below w.heap.size w wr)) (fun v0 _ _ => match v0 with | .slice _ k _ => k | _ => 0)
 case atStart =>
  obtain ⟨x1, x2, x3, x4, x5, x6, x7⟩ := HX.out
  exact ⟨0, [], zs, [], ⟨g, 0, none⟩, by rw [x1]; rfl, ⟨fun _ => rfl⟩, ⟨rfl, rfl, rfl, fun z h => by cases h⟩, ⟨own_nil _ _ _ _⟩, ⟨Below.refl _ _⟩⟩
 case round =>
  obtain ⟨m, ds, rs, ys, A0, rfl, HA0, HI, HO, HB⟩ := hrel
  obtain ⟨A3, c3, rfl⟩ := own_slice HO.out
  obtain ⟨x1, x2, x3, x4, x5, x6, x7⟩ := HX.out
  obtain ⟨i1, i2, i3, i4⟩ := HI.out
  match rs, i1, HI, HA0 with
  | [], i1, HI, HA0 =>
   have hds : zs = ds := by rw [i1, List.append_nil]
   have HE : Aside0 (ys.map pcZ = packL (zs.map pcZ)) := ⟨by rw [hds]; exact i3⟩
   have HI4 := Aside0.mk i4
   clear x1 x2 x3 x4 x5 x6 x7 i1 i2 i3 i4 HI hds
   rw [List.length_nil]
   go_wp2_with fail
   go_ret
   exact ⟨_, ys, rfl, HO.out, HI4.out, HE.out, HB.out⟩
  | [z], i1, HI, HA0 =>
   have HE : Aside0 (ys.map pcZ = packL (zs.map pcZ)) := ⟨by
    rw [i1, List.map_append]
    have key : ∀ (xs : List PC) (p : Nat) (y : PC), xs.length = 2 * p → packL (xs ++ [y]) = packL xs := by
     intro xs
     induction xs using packL.induct with
     | case1 u v s ih =>
      intro p y h
      rw [List.cons_append, List.cons_append, packL, packL, ih (p - 1) y (by simp at h; omega)]
     | case2 s hs =>
      intro p y h
      match s, hs, h with
      | [], _, _ => simp [packL]
      | [u], _, h => simp at h; omega
      | u :: v :: s, hs, _ => exact absurd rfl (hs u v s)
    exact i3.trans (key (ds.map pcZ) m (pcZ z) (by rw [List.length_map, i2])).symm⟩
   have HI4 := Aside0.mk i4
   clear x1 x2 x3 x4 x5 x6 x7 i1 i2 i3 i4 HI
   rw [List.length_singleton]
   go_wp2_with fail
   go_ret
   exact ⟨_, ys, rfl, HO.out, HI4.out, HE.out, HB.out⟩
  | z1 :: z2 :: r, i1, HI, HA0 =>
   obtain rfl := HA0.out (by simp)
   have hlen := congrArg List.length i1
   rw [List.length_append, List.length_cons, List.length_cons] at hlen
   have hm1 : z1 ∈ zs := by rw [i1]; simp
   have hm2 : z2 ∈ zs := by rw [i1]; simp
   have g1 : (zs.map coinZ)[2 * m]? = some (coinZ z1) := by rw [i1, List.map_append, List.getElem?_append_right (by rw [List.length_map]; omega), List.length_map, i2, Nat.sub_self]; rfl
   have g2 : (zs.map coinZ)[2 * m + 1]? = some (coinZ z2) := by rw [i1, List.map_append, List.getElem?_append_right (by rw [List.length_map]; omega), List.length_map, i2, show 2 * m + 1 - 2 * m = 1 by omega]; rfl
   have k1 := HC.out.get0 g1
   have k2 := HC.out.get1 g1
   have k3 := HC.out.get0 g2
   have k4 := HC.out.get1 g2
   rw [show 2 * m * 2 = 4 * m by omega] at k1 k2
   rw [show (2 * m + 1) * 2 = 4 * m + 2 by omega] at k3 k4
   obtain ⟨hz1, hz1'⟩ := x6 z1 hm1
   obtain ⟨hz2, hz2'⟩ := x6 z2 hm2
   have HS1 := Aside0.mk (x5 z1 hm1)
   have HS2 := Aside0.mk (x5 z2 hm2)
   have HSL := Aside0.mk (And.intro (x7 z1 hm1) (x7 z2 hm2))
   obtain ⟨q1, ⟨b1, n1, e1⟩, t1⟩ := z1
   obtain ⟨q2, ⟨b2, n2, e2⟩, t2⟩ := z2
   dsimp only [coinZ] at k1 k2 k3 k4 hz1 hz2 hz1' hz2' HS1 HS2 HSL
   have HYL : Aside0 (ys.length ≤ 100000) := ⟨by
    have h := congrArg List.length i3
    rw [List.length_map, pack_len, List.length_map] at h
    omega⟩
   have d0 : decide (1 < ((r.length : Int) + 1 + 1)) = true := decide_eq_true (by omega)
   have p1 : (1 : Int) < (r.length : Int) + 1 + 1 := by omega
   have p2 : (0 : Int) < (r.length : Int) + 1 + 1 := by omega
   have p3 : (r.length : Int) ≤ 100000 := by omega
   clear hlen hm1 hm2 g1 g2 x1 x2 x3 x4 x5 x6 x7 i1 i2 i3 i4
   have KK := Aside0.mk (And.intro k1 (And.intro k2 (And.intro k3 k4)))
   have k1 := pw_cell_below HB.out k1
   have k2 := pw_cell_below HB.out k2
   have k3 := pw_cell_below HB.out k3
   have k4 := pw_cell_below HB.out k4
   have qs : IntKind.i64.wrap (q1 + q2) = q1 + q2 := IntWalk.i64_in _ (by omega)
   rw [List.length_cons, List.length_cons]
   go_wp2_with fail
   go_region_held3 (fun w' => w'.cell? ⟨g, 4 * m, none⟩ = some (.int .i64 q1) ∧ w'.cell? ⟨g, 4 * m + 1, none⟩ = some (.slice b1 n1 e1) ∧ w'.cell? ⟨g, 4 * m + 2, none⟩ = some (.int .i64 q2) ∧ w'.cell? ⟨g, 4 * m + 2 + 1, none⟩ = some (.slice b2 n2 e2))
    (first | exact ⟨k1, k2, k3, k4⟩ | exact ⟨pw_cell_below (by repeat (first | exact h2 | exact HB.out | apply below_alloc | apply below_drew | apply pw_below_drewN)) KK.out.1, pw_cell_below (by repeat (first | exact h2 | exact HB.out | apply below_alloc | apply below_drew | apply pw_below_drewN)) KK.out.2.1, pw_cell_below (by repeat (first | exact h2 | exact HB.out | apply below_alloc | apply below_drew | apply pw_below_drewN)) KK.out.2.2.1, pw_cell_below (by repeat (first | exact h2 | exact HB.out | apply below_alloc | apply below_drew | apply pw_below_drewN)) KK.out.2.2.2⟩)
    ((first
     | (go_at_call 220; refine (concat_any _ 2 (b1, n1, e1) (b2, n2, e2) t1 t2 HSL.out.1 HSL.out.2 (by simp) (by simp) (HS1.out.below (by repeat (first | exact HB.out | apply below_alloc | apply below_drew | apply pw_below_drewN))) (HS2.out.below (by repeat (first | exact HB.out | apply below_alloc | apply below_drew | apply pw_below_drewN))) (Nat.le_refl _)).mono ?_; rintro e w5 ⟨h5, rfl, hs5, hb5⟩; have h3 : Below wr.heap.size wr w5 := below_step (by repeat (first | exact Below.refl _ _ | apply below_alloc | apply below_drew | apply pw_below_drewN)) hb5; have h2 : Below w.heap.size w w5 := below_step (by repeat (first | exact HB.out | apply below_alloc | apply below_drew | apply pw_below_drewN)) hb5; have HS5 := Aside0.mk (SymAt.low hs5 (low1 := w.heap.size) (Below.size (by repeat (first | exact HB.out | apply below_alloc | apply below_drew | apply pw_below_drewN)))); have HO5 := Aside0.mk (own_below HO.out h3); have HB5 := Aside0.mk h2; have HW5 := Aside0.mk h3; clear hs5 hb5 h3)
     | (refine step_append_cells w.heap.size rfl (.tmp 9) (.tmp 30) 244 248 _ 2 32 rfl Tryz.underlying244 info_coin rfl (by decide) (by decide) (.slice A3 ys.length c3) ys.length (flatC (ys.map coinZ)) (flatC [(q1 + q2, h5)]) rfl rfl rfl (flatC_one _) HO5.out HB5.out HB5.out.size (by have := HYL.out; omega) ?_; intro v6 w6 hown6 hb6 hg6 hat6; have HO6 := Aside0.mk hown6; have HB6 := Aside0.mk hb6; have HG6 := Aside0.mk hg6; have h2 : Below w.heap.size w w6 := HB6.out; clear hown6 hb6 hg6 hat6)))
   have HCM := Aside0.mk (show r.length + 2 ≤ c - 2 * m by
    obtain ⟨x1, x2, x3, x4, x5, x6, x7⟩ := HX.out
    obtain ⟨i1, i2, i3, i4⟩ := HI.out
    have hlen := congrArg List.length i1
    rw [List.length_append, List.length_cons, List.length_cons] at hlen
    omega)
   have HREL : Aside0 (∀ A1 : Addr, (r ≠ [] → A1 = ⟨g, 4 * m + 4, none⟩) → ∃ (m' : Nat) (ds rs ys : List ZC) (A0 : Addr), Value.slice (some A1) r.length (c - 2 * m - 2) = .slice (some A0) rs.length (c - 2 * m') ∧ Aside0 (rs ≠ [] → A0 = ⟨g, 4 * m', none⟩) ∧ Aside0 (zs = ds ++ rs ∧ ds.length = 2 * m' ∧ ys.map pcZ = packL (ds.map pcZ) ∧ ∀ z ∈ ys, SymAt w.heap.size w6 z.2.1 z.2.2) ∧ Aside0 (w6.ownsRow w.heap.size 248 2 v6 ys.length (flatC (ys.map coinZ))) ∧ Aside0 (Below w.heap.size w w6)) := ⟨fun A1 hA1 => by
    obtain ⟨i1, i2, i3, i4⟩ := HI.out
    refine ⟨m + 1, ds ++ [(q1, (b1, n1, e1), t1), (q2, (b2, n2, e2), t2)], r, ys ++ [(q1 + q2, (h5, t1 ++ t2))], A1, by rw [show c - 2 * m - 2 = c - 2 * (m + 1) by omega], ⟨fun h => by rw [hA1 h, show 4 * m + 4 = 4 * (m + 1) by omega]⟩, ⟨by rw [i1]; simp, by rw [List.length_append, i2]; simp; omega, ?_, ?_⟩, ⟨?_⟩, HB6⟩
    ·rw [List.map_append, List.map_append, i3]
     exact (pack_snoc (ds.map pcZ) m (q1, t1) (q2, t2) (by rw [List.length_map, i2])).symm
    ·intro z hz
     rcases List.mem_append.1 hz with hz | hz
     ·exact ((i4 z hz).below HW5.out).grown HG6.out (own_coin HO5.out)
     ·rw [List.mem_singleton.1 hz]
      exact HS5.out.grown HG6.out (own_coin HO5.out)
    ·rw [List.length_append, List.length_singleton, List.map_append, flatC_app]
     exact HO6.out⟩
   by_cases hc2 : c - 2 * m = 2
   ·have hr0 : r = [] := List.length_eq_zero_iff.1 (by have := HCM.out; omega)
    have HR0 := Aside0.mk hr0
    have HCC := Aside0.mk hc2
    clear hr0 hc2
    go_wp2_with fail
    rw [if_pos HCC.out]
    exact ⟨HREL.out _ (fun h => absurd HR0.out h), by show r.length < r.length + 1 + 1; omega⟩
   ·have HCC := Aside0.mk hc2
    clear hc2
    go_wp2_with fail
    rw [if_neg HCC.out]
    exact ⟨HREL.out _ (fun _ => rfl), by show r.length < r.length + 1 + 1; omega⟩
end Go.Proofs.YtepgkimlmoikmaaGreat
set_option linter.unusedVariables false
set_option linter.unusedSimpArgs false
namespace Go.Proofs.YtepgkimlmoikmaaGreat
open Go.RowKit Go.Proofs.YtepgkimlmoikmaaGreat.Spec Go.Proofs.YtepgkimlmoikmaaGreatW.PrintWords Go.Proofs.YtepgkimlmoikmaaGreatW.PrintLast
open Go.Proofs.YtepgkimlmoikmaaGreatW.PrintMore
attribute [local go_sem ↓] Go.wp_at_zero Go.wp_at_succ
attribute [local go_sem] max2_int min2_int max_two min_two
open Pk
def BadC (x : Int) : Bool := decide (x < 0) || decide (1073741824 < x)
theorem may1_calls (x : Int) (W : World) : Calls Tryz.prog 218 #[.int .i64 x] W fun e w' => e = .returned (.bool (BadC x)) ∧ W = w' := by
 unfold BadC
 by_cases h1 : x < 0
 ·have d1 : decide (x < 0) = true := decide_eq_true h1
  rw [d1, Bool.true_or]
  go_enter Tryz.func218, Tryz.ntmps218
  go_wp2
  go_ret
  exact ⟨rfl, rfl⟩
 ·have d1 : decide (x < 0) = false := decide_eq_false h1
  rw [d1, Bool.false_or]
  by_cases h2 : 1073741824 < x
  ·have d2 : decide (1073741824 < x) = true := decide_eq_true h2
   rw [d2]
   go_enter Tryz.func218, Tryz.ntmps218
   go_wp2
   go_ret
   exact ⟨rfl, rfl⟩
  ·have d2 : decide (1073741824 < x) = false := decide_eq_false h2
   rw [d2]
   go_enter Tryz.func218, Tryz.ntmps218
   go_wp2
   go_ret
   exact ⟨rfl, rfl⟩
theorem may1_eg (args : Array Value) (W : World) : (callFunc 218 args).run Tryz.prog W = .ok (.enter 218 args) W := enters_ Tryz.func218 (by kernel_rfl) rfl args W
theorem badC_none {l : List Int} (hb : ∀ x ∈ l, 0 ≤ x ∧ x ≤ 1073741824) : l.any BadC = false := by
 rw [List.any_eq_false]
 intro x hx
 obtain ⟨h1, h2⟩ := hb x hx
 unfold BadC
 simp
 omega
theorem firstL_len (l : List Int) : (firstL l).length = (sgl 0 l).length := stable_len _
theorem rowZ_slice {w : World} {base : Nat} {v : Value} {zs : List ZC} (h : RowZ w base v zs) : ∃ A c, v = .slice A zs.length c := by
 rcases h.2 with ⟨rfl, rfl⟩ | ⟨g, c, rfl, _⟩
 ·exact ⟨none, 0, rfl⟩
 ·exact ⟨_, c, rfl⟩
theorem big_no {n : Nat} (h : (n : Int) ≤ 356) : decide ((32768 : Int) < (n : Int)) = false := decide_eq_false (by omega)
theorem big_no2 {n : Nat} (h : (n : Int) ≤ 356) : decide (32768 < n) = false := decide_eq_false (by omega)
theorem map_len_le {zs : List ZC} {xs : List PC} (h : zs.map pcZ = xs) (hx : xs.length ≤ 356) : (zs.length : Int) ≤ 356 := by
 have h2 := congrArg List.length h
 rw [List.length_map] at h2
 omega
theorem may_any {A : Option Addr} {c : Nat} (l : List Int) {w : World} (hr : IntsIn w A l) (hc : l.length ≤ c) (hl : l.length ≤ 356) (hb : ∀ x ∈ l, 0 ≤ x ∧ x ≤ 1073741824) (hne : sgl 0 l ≠ []) :
  Calls Tryz.prog 189 #[.int .i64 15, .slice A l.length c] w fun e w' => e = .returned (.int .i64 0) ∧ Below w.heap.size w w' := by
 have HCF := Aside0.mk (containsf_calls l hr hc (by omega) 218 BadC may1_calls may1_eg)
 rw [badC_none hb] at HCF
 have HSG := Aside0.mk (fun (W : World) (h : Below w.heap.size w W) => single_any l (Kd.C_below hr h) hc (by omega) hb hne)
 have hz := sgl_le l 0
 have hfl := firstL_len l
 have zl : (l.length : Int) ≤ 356 := by omega
 have dl : decide ((356 : Int) < (l.length : Int)) = false := decide_eq_false (by omega)
 have dl2 : decide (356 < l.length) = false := decide_eq_false (by omega)
 have w1 : IntKind.i64.wrap 32768 = 32768 := by decide
 have HFL := Aside0.mk (show (firstL l).length ≤ 356 by omega)
 clear hr hc hl hb hne hz hfl
 go_enter Tryz.func189, Tryz.ntmps189
 go_wp2_with fail
 refine HCF.out.mono ?_
 rintro e w1 ⟨rfl, rfl⟩
 go_wp2_with fail
 go_region_held3 (fun w' => True) (exact trivial)
  ((first
   | (go_at_call 190; refine (HSG.out _ (below_drew (Below.refl _ _))).mono ?_; rintro e w2 ⟨v, zs, rfl, hrow, hmap, hb2⟩; obtain ⟨A5, c5, rfl⟩ := rowZ_slice hrow; have hz1 := map_len_le hmap HFL.out; have hz2 := big_no hz1; have hz3 := big_no2 hz1; have HB2 := Aside0.mk (below_step (below_drew (Below.refl _ _)) hb2); clear hrow hmap hb2)))
 go_wp2_with fail
 go_ret
 exact ⟨rfl, HB2.out⟩
theorem pack_mem : ∀ (xs : List PC) (z : PC), z ∈ packL xs → ∃ a b, a ∈ xs ∧ b ∈ xs ∧ z = (a.1 + b.1, a.2 ++ b.2)
 | [], z, h => by simp [packL] at h
 | [x], z, h => by simp [packL] at h
 | x :: y :: r, z, h => by
  rw [packL] at h
  rcases List.mem_cons.1 h with rfl | h
  ·exact ⟨x, y, by simp, by simp, rfl⟩
  ·obtain ⟨a, b, ha, hb, e⟩ := pack_mem r z h
   exact ⟨a, b, by simp [ha], by simp [hb], e⟩
theorem lvl_bound {l : List Int} (hb : ∀ x ∈ l, 0 ≤ x ∧ x ≤ 1073741824) : ∀ k, ∀ z ∈ lvl (firstL l) k, 0 < z.1 ∧ z.1 ≤ 1073741824 * 2 ^ k ∧ 1 ≤ z.2.length ∧ z.2.length ≤ 2 ^ k := by
 have h0 : ∀ z ∈ firstL l, 0 < z.1 ∧ z.1 ≤ 1073741824 ∧ z.2.length = 1 := fun z hz => by
  obtain ⟨k, h1, h2, h3⟩ := firstL_mem hz
  exact ⟨h3, (hb z.1 (List.mem_of_getElem? h1)).2, by rw [h2]; rfl⟩
 intro k
 induction k with
 | zero =>
  intro z hz
  obtain ⟨h1, h2, h3⟩ := h0 z hz
  exact ⟨h1, by simpa using h2, by omega, by rw [h3]; exact Nat.le_refl _⟩
 | succ k ih =>
  intro z hz
  have hp : 0 < 2 ^ k := Nat.two_pow_pos k
  have e : (2 : Nat) ^ (k + 1) = 2 ^ k * 2 := Nat.pow_succ ..
  have e2 : (2 : Int) ^ (k + 1) = 2 ^ k * 2 := Int.pow_succ ..
  have hp2 : (0 : Int) < 2 ^ k := by
   have : ((2 ^ k : Nat) : Int) = (2 : Int) ^ k := by simp
   omega
  rcases List.mem_append.1 (stable_mem.1 hz) with hz | hz
  ·obtain ⟨h1, h2, h3⟩ := h0 z hz
   refine ⟨h1, ?_, by omega, by omega⟩
   rw [e2]
   generalize (2 : Int) ^ k = q at *
   omega
  ·obtain ⟨a, b, ha, hb2, rfl⟩ := pack_mem _ z hz
   obtain ⟨a1, a2, a3, a4⟩ := ih a ha
   obtain ⟨b1, b2, b3, b4⟩ := ih b hb2
   refine ⟨by show 0 < a.1 + b.1; omega, ?_, ?_, ?_⟩
   ·show a.1 + b.1 ≤ _
    rw [e2]
    generalize (2 : Int) ^ k = q at *
    omega
   ·show 1 ≤ (a.2 ++ b.2).length
    rw [List.length_append]; omega
   ·show (a.2 ++ b.2).length ≤ _
    rw [List.length_append]; omega
theorem lvl_small {l : List Int} (hb : ∀ x ∈ l, 0 ≤ x ∧ x ≤ 1073741824) {k : Nat} (hk : k ≤ 14) : ∀ z ∈ lvl (firstL l) k, 0 ≤ z.1 ∧ z.1 ≤ 1000000000000000 ∧ 1 ≤ z.2.length ∧ z.2.length ≤ 100000 := by
 intro z hz
 obtain ⟨h1, h2, h3, h4⟩ := lvl_bound hb k z hz
 have e : 2 ^ k ≤ 2 ^ 14 := Nat.pow_le_pow_right (by decide) hk
 have e2 : (2 : Int) ^ k ≤ 16384 := by
  have : ((2 ^ k : Nat) : Int) = (2 : Int) ^ k := by simp
  omega
 refine ⟨by omega, ?_, h3, by omega⟩
 generalize (2 : Int) ^ k = q at *
 omega
theorem lvl_most {l : List Int} (h : 1 ≤ (firstL l).length) (k : Nat) : (lvl (firstL l) k).length ≤ 2 * (firstL l).length := by
 have := lvl_len (firstL_srt l) h k
 generalize ((firstL l).length - 1) / 2 ^ k = d at *
 omega
end Go.Proofs.YtepgkimlmoikmaaGreat
