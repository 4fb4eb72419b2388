/- ShU: a part of its proof (contracts of the functions that it reaches, and the plain mathematics behind them). -/
import Derived.Test.YtepgkimlmoikmaaGreatShU34
import Derived.Deep.Upon
import Derived.Deep.DeepCutAuto
import Derived.Test.YtepgkimlmoikmaaGreatShU17
import Derived.Lib.SliceRun
set_option linter.unusedVariables false
set_option linter.unusedSimpArgs false
set_option maxHeartbeats 2000000
set_option maxRecDepth 100000
set_option linter.unusedVariables false
set_option linter.unusedSimpArgs false
namespace Go.Proofs.YtepgkimlmoikmaaGreat
open Go.RowKit Go.Proofs.YtepgkimlmoikmaaGreat.Spec Go.Proofs.YtepgkimlmoikmaaGreatW.PrintWords Go.Proofs.YtepgkimlmoikmaaGreatW.PrintLast
open Go.Proofs.YtepgkimlmoikmaaGreatW.PrintMore
attribute [local go_sem ↓] Go.wp_at_zero Go.wp_at_succ
attribute [local go_sem] max2_int min2_int max_two min_two
open Pk
structure OfAt (l : List Int) (w : World) (g0 g1 g : Nat) (zf zs : List ZC) (k : Nat) (out : List Int) : Prop where
 out : RowI w g0 out
 first : Cn w g1 (zf.map coinZ)
 firstZ : zf.map pcZ = firstL l
 firstS : ∀ z ∈ zf, SymAt (g0 + 1) w z.2.1 z.2.2
 row : Cn w g (zs.map coinZ)
 rowZ : zs.map pcZ = lvl (firstL l) k
 rowS : ∀ z ∈ zs, SymAt (g0 + 1) w z.2.1 z.2.2
theorem pc_bound {zs : List ZC} {xs : List PC} (h : zs.map pcZ = xs) {Q : PC → Prop} (hq : ∀ z ∈ xs, Q z) : ∀ z ∈ zs, Q (z.1, z.2.2) := fun z hz => hq _ (by rw [← h]; exact List.mem_map_of_mem hz)
theorem lvl_next (first : List PC) (k : Nat) : lvl first (k + 1) = stable (first ++ packL (lvl first k)) := rfl
theorem run_append_zero {P : Program} {w : World} (t ty e : TypeId) (i : TypeInfo) (ht : P.underlying t = some (.slice e)) (hi : P.info? e = some i) (a : Addr) (n c : Nat) (hle : n ≤ c) (A : Option Addr) (c2 : Nat) :
  (Builtin.append_ #[t, t] ty #[.slice (some a) n c, .slice A 0 c2]).run P w = .ok (.slice (some a) n c) w := by
 cases A <;> simp [Builtin.append_, run_underlying ht, sizeOf, typeInfo, hi, Builtin.lenOf, Builtin.firstCells, loadCells, loadCellsFrom, hle, storeCells]
theorem wpList_append_zero {P : Program} {ops : Array Oper} {o : Oper} {rest : List Oper} {a : Act} {Q : Exit → Act → World → Prop} {W : World} (hgd : o.guard = none) (s x : Operand) (t e : TypeId) (i : TypeInfo)
  (ho : o.op = .call { callee := .builtin .append, args := #[s, x], argTypes := #[t, t] }) (ht : P.underlying t = some (.slice e)) (hi : P.info? e = some i) (ad : Addr) (n c : Nat) (hle : n ≤ c) (hs : a.eval s = .slice (some ad) n c) {A : Option Addr} {c2 : Nat} (hx : a.eval x = .slice A 0 c2)
  (h : wpList P ops Q rest (a.put o.dst (.slice (some ad) n c)) W) : wpList P ops Q (o :: rest) a W := by
 refine wpList_plain hgd fun K hK => ?_
 unfold Oper.wp execOp
 simp only [ho, resolve, invoke, builtin, Sem.run_bind, Sem.run_pure, Result.andThen_ok, List.map_toArray, List.map_cons, List.map_nil, hs, hx, run_append_zero t o.type e i ht hi ad n c hle A c2]
 exact hK _ _ h
def cntN (m : Nat) (f : List Nat) : List Int := (List.range m).map fun s => ((f.count s : Nat) : Int)
theorem cntN_len (m : Nat) (f : List Nat) : (cntN m f).length = m := by simp [cntN]
theorem cntN_get {m s : Nat} (f : List Nat) (h : s < m) : (cntN m f)[s]? = some ((f.count s : Nat) : Int) := by
 unfold cntN
 rw [List.getElem?_map, List.getElem?_range h]
 rfl
theorem cntN_put {m s : Nat} (f : List Nat) (h : s < m) : (cntN m f).set s (((f.count s : Nat) : Int) + 1) = cntN m (f ++ [s]) := by
 refine List.ext_getElem? fun j => ?_
 rw [List.getElem?_set, cntN_len]
 by_cases hj : j < m
 ·rw [cntN_get f hj, cntN_get _ hj, List.count_append]
  by_cases hs : s = j
  ·subst hs
   rw [if_pos rfl, if_pos h, List.count_singleton_self]
   rfl
  ·rw [if_neg hs, List.count_singleton, if_neg (by simpa using hs), Nat.add_zero]
 ·rw [List.getElem?_eq_none (by rw [cntN_len]; omega), List.getElem?_eq_none (by rw [cntN_len]; omega), if_neg (by omega)]
theorem cntN_nil (m : Nat) : cntN m [] = List.replicate m 0 := by
 refine List.ext_getElem? fun j => ?_
 by_cases hj : j < m
 ·rw [cntN_get _ hj, List.getElem?_replicate, if_pos hj]
  rfl
 ·rw [List.getElem?_eq_none (by rw [cntN_len]; omega), List.getElem?_eq_none (by rw [List.length_replicate]; omega)]
theorem lvl_syms {l : List Int} : ∀ k, ∀ z ∈ lvl (firstL l) k, ∀ s ∈ z.2, s < l.length := by
 have h0 : ∀ z ∈ firstL l, ∀ s ∈ z.2, s < l.length := fun z hz s hs => by
  obtain ⟨k, h1, h2, h3⟩ := firstL_mem hz
  rw [h2, List.mem_singleton] at hs
  subst hs
  exact (List.getElem?_eq_some_iff.1 h1).1
 intro k
 induction k with
 | zero => exact h0
 | succ k ih =>
  intro z hz s hs
  rw [lvl_next] at hz
  rcases List.mem_append.1 (stable_mem.1 hz) with hz | hz
  ·exact h0 z hz s hs
  ·obtain ⟨a, b, ha, hb, rfl⟩ := pack_mem _ _ hz
   rcases List.mem_append.1 hs with hs | hs
   ·exact ih a ha s hs
   ·exact ih b hb s hs
theorem flat_len_le (B : Nat) : ∀ xs : List PC, (∀ z ∈ xs, z.2.length ≤ B) → (xs.flatMap (·.2)).length ≤ xs.length * B
 | [], _ => by simp
 | x :: r, h => by
  have h1 := flat_len_le B r (fun z hz => h z (by simp [hz]))
  have h2 := h x (by simp)
  rw [List.flatMap_cons, List.length_append, List.length_cons, Nat.succ_mul]
  omega
theorem SymAt.get {low b n c j s : Nat} {w : World} {syms : List Nat} (hs : SymAt low w (some ⟨b, 0, none⟩, n, c) syms) (hj : syms[j]? = some s) : w.cell? ⟨b, j, none⟩ = some (.int .i64 (s : Int)) := by
 obtain ⟨b1, cur, h1, h2, h3, h4, h5, h6⟩ := hs
 injection h1 with h1
 injection h1 with h1
 subst h1
 exact (blk_cell h2 j).trans (h5 j s hj)
theorem SymAt.set_ {g0 i : Nat} {v : Value} {w : World} {h : Option Addr × Nat × Nat} {syms : List Nat} (hs : SymAt (g0 + 1) w h syms) : SymAt (g0 + 1) (w.setCell ⟨g0, i, none⟩ v) h syms := by
 obtain ⟨b, cur, h1, h2, h3, h4, h5, h6⟩ := hs
 exact ⟨b, cur, h1, (Below.heap_setCell w ⟨g0, i, none⟩ v b (by show b ≠ g0; omega)).trans h2, h3, h4, h5, h6⟩
theorem Cn.set_ {g0 i g : Nat} {v : Value} {w : World} {xs : List Coin} (hs : Cn w g xs) (hne : g0 ≠ g) : Cn (w.setCell ⟨g0, i, none⟩ v) g xs := by
 obtain ⟨cur, h1, h2⟩ := hs
 exact ⟨cur, (Below.heap_setCell w ⟨g0, i, none⟩ v g (by show g ≠ g0; omega)).trans h1, h2⟩
theorem lensOf_any {A : Option Addr} {c : Nat} (l : List Int) {w : World} (hr : IntsIn w A l) (hc : l.length ≤ c) (hl : l.length ≤ 356) (hb : ∀ x ∈ l, 0 ≤ x ∧ x ≤ 1073741824) (hne : sgl 0 l ≠ []) :
  Calls Tryz.prog 149 #[.int .i64 15, .slice A l.length c] w fun e w' => ∃ g, e = .returned (.tuple #[.slice (some ⟨g, 0, none⟩) l.length l.length, .int .i64 0]) ∧ w.heap.size ≤ g ∧ RowI w' g (lensL 15 l) ∧ Below w.heap.size w w' := by
 have HMY := Aside0.mk (may_any l hr hc hl hb hne)
 have HSG := Aside0.mk (fun (W : World) (h : Below w.heap.size w W) => single_any l (Kd.C_below hr h) hc (by omega) hb hne)
 have HB := Aside0.mk hb
 have hz := sgl_le l 0
 have hfl := firstL_len l
 have hf1 : 1 ≤ (firstL l).length := by
  rcases Nat.eq_zero_or_pos (sgl 0 l).length with h | h
  ·exact absurd (List.length_eq_zero_iff.1 h) hne
  ·omega
 have HF := Aside0.mk (show 1 ≤ (firstL l).length ∧ (firstL l).length ≤ 356 ∧ l.length ≤ 356 by omega)
 have zl : (l.length : Int) ≤ 356 := by omega
 have mk := make_i l.length (by omega)
 clear hr hc hl hb hne hz hfl hf1
 go_enter Tryz.func149, Tryz.ntmps149
 go_wp2_with fail
 refine HMY.out.mono ?_
 rintro e w1 ⟨rfl, hb1⟩
 have B1 := Aside0.mk hb1
 clear hb1
 go_wp2_with fail
 obtain ⟨g0, hg0⟩ : ∃ g0, g0 = w1.heap.size := ⟨_, rfl⟩
 have HI1 : Aside0 (RowI (w1.alloc (.cells (Array.replicate l.length (Value.int .i64 0)) 3)) g0 (List.replicate l.length 0)) := ⟨by unfold RowI; rw [List.map_replicate, List.toArray_replicate, hg0]; exact blk_new _ _⟩
 have HG0 : Aside0 (w.heap.size ≤ g0) := ⟨by rw [hg0]; exact B1.out.size⟩
 have HB2 : Aside0 (Below w.heap.size w (w1.alloc (.cells (Array.replicate l.length (Value.int .i64 0)) 3))) := ⟨below_alloc B1.out _⟩
 rw [← hg0]
 generalize w1.alloc (.cells (Array.replicate l.length (Value.int .i64 0)) 3) = w2 at *
 clear hg0 mk B1
 refine (HSG.out _ HB2.out).mono ?_
 rintro e w3 ⟨v, zf, rfl, hrow, hmap, hb3⟩
 have hzf : zf.length = (firstL l).length := by rw [← hmap, List.length_map]
 obtain ⟨hfs, hrow⟩ := hrow
 rcases hrow with ⟨h0, _⟩ | ⟨g1, c1, rfl, hg1, hc1, hcn1⟩
 ·exfalso
  have := HF.out.1
  rw [h0] at hzf
  simp only [List.length_nil] at hzf
  omega
 have HI3 := Aside0.mk (HI1.out.below hb3)
 have HB3 := Aside0.mk (below_step HB2.out hb3)
 have HO3 : Aside0 (OfAt l w3 g0 g1 g1 zf zf 0 (List.replicate l.length 0)) := ⟨⟨HI3.out, hcn1, hmap, fun z hz => (hfs z hz).low (blk_lt HI1.out), hcn1, hmap, fun z hz => (hfs z hz).low (blk_lt HI1.out)⟩⟩
 have HZF := Aside0.mk (And.intro hzf (And.intro hc1 hg1))
 have HG1 : Aside0 (g0 ≠ g1) := ⟨by have h1 : g0 < w2.heap.size := blk_lt HI1.out; omega⟩
 have hz1 : (zf.length : Int) ≤ 356 := by have := HF.out.2.1; omega
 have hz2 : 1 ≤ (zf.length : Int) := by have := HF.out.1; omega
 have HTN : Aside0 (takeN l = if zf.length = 1 then 1 else 2 * zf.length - 2) := ⟨by unfold takeN; rw [hzf]⟩
 clear hmap hb3 hzf hfs hg1 hc1 hcn1 HI1 HB2
 go_upto_if 32 with fail
 go_cut [9] (fun v9 wx => v9 = .int .i64 ((takeN l : Nat) : Int) ∧ wx = w3)
 case first =>
  by_cases h1 : zf.length = 1
  ·have e1 : ((zf.length : Int) == 1) = true := beq_iff_eq.2 (by omega)
   have HE : Aside0 (takeN l = 1) := ⟨by rw [HTN.out, if_pos h1]⟩
   clear h1
   go_wp2_with fail
   go_meet
   exact ⟨by rw [HE.out]; rfl, rfl⟩
  ·have e1 : ((zf.length : Int) == 1) = false := beq_eq_false_iff_ne.2 (by omega)
   have HE : Aside0 (((takeN l : Nat) : Int) = 2 * (zf.length : Int) - 2) := ⟨by rw [HTN.out, if_neg h1]; omega⟩
   clear h1
   go_wp2_with fail
   go_meet
   exact ⟨by rw [HE.out], rfl⟩
 case rest =>
  obtain ⟨rfl, rfl⟩ := hcut
  have HNL : Aside0 ((takeN l : Nat) ≤ 712) := ⟨by rw [HTN.out]; split <;> omega⟩
  generalize hTK : takeN l = N at *
  have HTK := Aside0.mk hTK
  clear hTK
  go_wp2_with fail
  go_loopw [10, 36] (fun v10 v36 wr => ∃ (k g c5 : Nat) (zs : List ZC), v10 = .slice (some ⟨g, 0, none⟩) zs.length c5 ∧ v36 = .int .i64 (k : Int) ∧ Aside0 (k ≤ 14 ∧ zs.length ≤ c5 ∧ g0 ≠ g) ∧ Aside0 (OfAt l wr g0 g1 g zf zs k (List.replicate l.length 0)) ∧ Aside0 (Below w.heap.size w wr)) (fun _ v36 _ => 14 - (intOf v36).toNat)
  case atStart => exact ⟨0, g1, c1, zf, rfl, rfl, ⟨Nat.zero_le _, HZF.out.2.1, HG1.out⟩, HO3, HB3⟩
  case round =>
   obtain ⟨k, g, c5, zs, rfl, rfl, HK, HO, HBW⟩ := hrel
   have hk := HK.out.1
   by_cases hk14 : k < 14
   ·have d1 : decide ((k : Int) < 14) = true := decide_eq_true (by omega)
    have d2 : decide (k < 14) = true := decide_eq_true hk14
    have zk : (k : Int) ≤ 14 := by omega
    have hzs : zs.length ≤ 712 := by
     have h := congrArg List.length HO.out.rowZ
     rw [List.length_map] at h
     have h2 := lvl_most HF.out.1 k
     have h3 := HF.out.2.1
     omega
    have hbd := pc_bound HO.out.rowZ (Q := fun z => 0 ≤ z.1 ∧ z.1 ≤ 1000000000000000 ∧ 1 ≤ z.2.length ∧ z.2.length ≤ 100000) (lvl_small HB.out (by omega))
    have HCL := Aside0.mk (cloneC_any (c := c1) (zf.map coinZ) (n := zf.length) (by rw [List.length_map]) (by omega) (by omega) HO.out.first)
    have HPK := Aside0.mk (fun (W : World) (h : Below wr.heap.size wr W) => packages_any (c := c5) zs rfl (by omega) HK.out.2.1 (HO.out.row.below h) (fun z hz => (HO.out.rowS z hz).below h) (fun z hz => ⟨(hbd z hz).1, (hbd z hz).2.1⟩) (fun z hz => ⟨(hbd z hz).2.2.1, (hbd z hz).2.2.2⟩))
    have HZS := Aside0.mk (And.intro hzs hk14)
    clear hzs hbd hk14 hk
    go_upto_region 12 with fail
    go_cut [10] (fun v10 wx => ∃ (ys : List ZC) (g6 c7 : Nat), v10 = .slice (some ⟨g6, 0, none⟩) (zf ++ ys).length c7 ∧ Aside0 (wr.heap.size ≤ g6 ∧ (zf ++ ys).length ≤ c7 ∧ Cn wx g6 ((zf ++ ys).map coinZ) ∧ ys.map pcZ = packL (lvl (firstL l) k) ∧ ∀ z ∈ ys, SymAt (g0 + 1) wx z.2.1 z.2.2) ∧ Aside0 (Below wr.heap.size wr wx))
    case first =>
     go_wp2_with fail
     refine HCL.out.mono ?_
     rintro e w5 ⟨v5, rfl, hown5, hb5⟩
     obtain ⟨g5, c5', rfl, hg5, hc5, hcn5⟩ := Cn.of hown5 (by omega) (by rw [List.length_map])
     have HO5 := Aside0.mk hown5
     have HB5 := Aside0.mk hb5
     have HC5 := Aside0.mk (And.intro hg5 (And.intro hc5 hcn5))
     clear hown5 hb5 hg5 hc5 hcn5
     go_wp2_with fail
     refine (HPK.out _ HB5.out).mono ?_
     rintro e w6 ⟨v6, ys, rfl, hown6, hsy6, hmap6, hb6⟩
     rw [HO.out.rowZ] at hmap6
     obtain ⟨A6, c6, rfl⟩ := own_slice hown6
     have HY := Aside0.mk (And.intro hmap6 (fun (z : ZC) (hz : z ∈ ys) => (hsy6 z hz).low (low1 := g0 + 1) (Nat.lt_of_lt_of_le (blk_lt HO.out.out) HB5.out.size)))
     have HB6 := Aside0.mk hb6
     have HO6 := Aside0.mk hown6
     have hyl : ys.length ≤ 712 := by
      have h := congrArg List.length hmap6
      rw [List.length_map, pack_len, ← HO.out.rowZ, List.length_map] at h
      have := HZS.out.1
      omega
     clear hown6 hsy6 hmap6 hb6
     by_cases hy0 : ys = []
     ·subst hy0
      obtain ⟨io, hio, _⟩ := Option.map_eq_some_iff.1 info_coin
      have HIO := Aside0.mk hio
      clear hio hyl
      go_wp2_with (first
       | (at_builtin; refine wpList_append_zero rfl (.tmp 39) (.tmp 41) 244 248 io rfl Tryz.underlying244 HIO.out _ _ _ HC5.out.2.1 rfl rfl ?_))
      go_meet
      refine ⟨[], g5, c5', by rw [List.append_nil], ⟨HC5.out.1, by rw [List.append_nil]; exact HC5.out.2.1, ?_, HY.out.1, HY.out.2⟩, ⟨below_step HB5.out HB6.out⟩⟩
      rw [List.append_nil]
      exact HC5.out.2.2.below HB6.out
     ·have hyp : 0 < ys.length := List.length_pos_iff.2 hy0
      have HYP := Aside0.mk (And.intro hyp hyl)
      obtain ⟨g6, c6', e6, hg6, hc6, hcn6⟩ := Cn.of HO6.out hyp (by rw [List.length_map])
      injection e6 with e7 e8 e9
      subst e7
      have HC6 := Aside0.mk hcn6
      clear e8 hg6 hc6 hcn6 hyp hyl hy0
      go_wp2_with (first
       | (at_builtin; refine wpList_append_flat wr.heap.size rfl (.tmp 39) (.tmp 41) 244 248 rfl _ 2 32 Tryz.underlying244 info_coin rfl (by decide) (by decide) (.slice (some ⟨g5, 0, none⟩) zf.length c5') zf.length (flatC (zf.map coinZ)) rfl (own_below HO5.out HB6.out) rfl (flatC (ys.map coinZ)) (by rw [flatC_len, List.length_map]) HYP.out.1 ⟨_, rfl, Cn.cells HC6.out⟩ (flatC_one _) (by have := HYP.out.2; omega) (below_step HB5.out HB6.out) (below_step HB5.out HB6.out).size ?_; intro v7 w7 hown7 hb7 hg7; have HO7 := Aside0.mk hown7; have HB7 := Aside0.mk hb7; have HG7 := Aside0.mk hg7; clear hown7 hb7 hg7))
      go_meet
      have hown := HO7.out
      rw [← flatC_app, ← List.map_append] at hown
      obtain ⟨g6, c7, rfl, hg, hc, hcn⟩ := Cn.of hown (by have := HYP.out.1; omega) (by rw [List.length_map, List.length_append])
      exact ⟨ys, g6, c7, by rw [List.length_append], ⟨hg, by rw [List.length_append]; exact hc, hcn, HY.out.1, fun z hz => (HY.out.2 z hz).grown HG7.out (own_coin (own_below HO5.out HB6.out))⟩, HB7⟩
    case rest =>
     obtain ⟨ys, g6, c7, rfl, HR, HB7⟩ := hcut
     have hmp : (zf ++ ys).map pcZ = firstL l ++ packL (lvl (firstL l) k) := by rw [List.map_append, HO.out.firstZ, HR.out.2.2.2.1]
     have hst : (stable (zf ++ ys)).map pcZ = lvl (firstL l) (k + 1) := by
      rw [lvl_next, ← hmp]
      exact (stable_map pcZ (fun _ => rfl) _).symm
     have hsz : (zf ++ ys).length ≤ 2000 := by
      have h1 := congrArg List.length hst
      rw [List.length_map, stable_len] at h1
      have h2 := lvl_most HF.out.1 (k + 1)
      have h3 := HF.out.2.1
      omega
     have hsm := pc_bound hst (Q := fun z => 0 ≤ z.1 ∧ z.1 ≤ 1000000000000000 ∧ 1 ≤ z.2.length ∧ z.2.length ≤ 100000) (lvl_small HB.out (by have := HZS.out.2; omega))
     have HSO := Aside0.mk (sortstable_any (cap := c7) cmp79 ((zf ++ ys).map coinZ) (n := zf.length + ys.length) (by rw [List.length_map, List.length_append]) (by rw [List.length_append] at hsz; omega) (by
      intro c hc
      obtain ⟨z, hz, rfl⟩ := List.mem_map.1 hc
      have h := hsm z (stable_mem.2 hz)
      exact ⟨h.1, Int.le_trans h.2.1 (by decide)⟩) HR.out.2.2.1)
     have HNX := Aside0.mk hst
     clear hmp hst hsz hsm
     go_wp2_with fail
     refine HSO.out.mono ?_
     rintro e w8 ⟨rfl, hcn8, hkp8⟩
     rw [stable_map coinZ (fun _ => rfl)] at hcn8
     have HC8 := Aside0.mk hcn8
     have HK8 := Aside0.mk hkp8
     clear hcn8 hkp8
     go_wp2_with fail
     go_roundw
     ·refine ⟨k + 1, g6, c7, stable (zf ++ ys), by rw [stable_len, List.length_append], rfl, ⟨by have := HZS.out.2; omega, by rw [stable_len]; exact HR.out.2.1, ?_⟩, ⟨?_⟩, ⟨?_⟩⟩
      ·have h1 : g0 < wr.heap.size := blk_lt HO.out.out
       have h2 := HR.out.1
       omega
      ·have hlow : Below wr.heap.size wr w8 := HK8.out.low HB7.out HR.out.1
       exact ⟨HO.out.out.below hlow, HO.out.first.below hlow, HO.out.firstZ, fun z hz => (HO.out.firstS z hz).below hlow, HC8.out, HNX.out, fun z hz => by
        rcases List.mem_append.1 (stable_mem.1 hz) with h | h
        ·exact (HO.out.firstS z h).below hlow
        ·exact (HR.out.2.2.2.2 z h).kp (Cn.typed HR.out.2.2.1).choose_spec HK8.out⟩
      ·exact below_step HBW.out (HK8.out.low HB7.out HR.out.1)
     ·have h := HZS.out.2
      show 14 - ((k : Int) + 1).toNat < 14 - (k : Int).toNat
      omega
   ·have hk : k = 14 := by omega
    subst hk
    have hN1 : N ≤ zs.length := by
     have h := congrArg List.length HO.out.rowZ
     have h2 := lvl_len (firstL_srt l) HF.out.1 14
     have h3 := HF.out.2.1
     have h4 := HZF.out.1
     have h5 := HTN.out
     rw [List.length_map] at h
     rw [Nat.div_eq_of_lt (by omega)] at h2
     split at h5 <;> omega
    have hN2 : N ≤ c5 := by have := HK.out.2.1; omega
    have hN3 : N ≤ 712 := HNL.out
    have HN := Aside0.mk (And.intro hN1 hN3)
    have HS := Aside0.mk (lvl_syms (l := l) 14)
    have HLB := Aside0.mk (lvl_small HB.out (Nat.le_refl 14))
    clear hk14 hk
    go_wp2_with fail
    go_loopw [51] (fun v51 wx => ∃ i : Nat, v51 = .int .i64 (i : Int) ∧ Aside0 (i ≤ N) ∧ Aside0 (RowI wx g0 (cntN l.length (((lvl (firstL l) 14).take i).flatMap (·.2)))) ∧ Aside0 (Cn wx g (zs.map coinZ)) ∧ Aside0 (∀ z ∈ zs, SymAt (g0 + 1) wx z.2.1 z.2.2) ∧ Aside0 (Below w.heap.size w wx)) (fun v51 _ => N - (intOf v51).toNat)
    case atStart => exact ⟨0, rfl, ⟨Nat.zero_le _⟩, ⟨by rw [List.take_zero, List.flatMap_nil, cntN_nil]; exact HO.out.out⟩, ⟨HO.out.row⟩, ⟨HO.out.rowS⟩, HBW⟩
    case round =>
     obtain ⟨i, rfl, HI, HC, HCN, HSY, HBX⟩ := hrel
     have hi := HI.out
     by_cases hin : i < N
     ·have d1 : decide ((i : Int) < (N : Int)) = true := decide_eq_true (by omega)
      have d2 : decide (i < N) = true := decide_eq_true (by omega)
      have zi : (i : Int) ≤ 712 := by omega
      obtain ⟨z, hz⟩ : ∃ z, zs[i]? = some z := ⟨_, List.getElem?_eq_getElem (by omega)⟩
      have hcz : (zs.map coinZ)[i]? = some (coinZ z) := by rw [List.getElem?_map, hz]; rfl
      have k0 := Cn.get0 HCN.out hcz
      have k1 := Cn.get1 HCN.out hcz
      have hmem := List.mem_of_getElem? hz
      have HSZ := Aside0.mk (HSY.out z hmem)
      have hlz : (lvl (firstL l) 14)[i]? = some (pcZ z) := by rw [← HO.out.rowZ, List.getElem?_map, hz]; rfl
      have HLZ := Aside0.mk hlz
      have HIN := Aside0.mk hin
      obtain ⟨q, ⟨A2, n2, c2⟩, ts⟩ := z
      dsimp only [coinZ] at k0 k1
      have HFB : Aside0 ((((lvl (firstL l) 14).take i).flatMap (·.2)).length ≤ 71200000 ∧ ts.length ≤ 100000 ∧ (∀ s ∈ ts, s < l.length) ∧ ((lvl (firstL l) 14).take (i + 1)).flatMap (·.2) = ((lvl (firstL l) 14).take i).flatMap (·.2) ++ ts) := ⟨by
       have h1 := flat_len_le 100000 ((lvl (firstL l) 14).take i) (fun z hz => (HLB.out z (List.mem_of_mem_take hz)).2.2.2)
       have h2 : ((lvl (firstL l) 14).take i).length ≤ i := by rw [List.length_take]; omega
       have h3 := Nat.mul_le_mul_right 100000 h2
       have hm := List.mem_of_getElem? hlz
       refine ⟨by omega, (HLB.out _ hm).2.2.2, HS.out _ hm, ?_⟩
       rw [List.take_add_one, hlz, List.flatMap_append]
       show _ ++ ([pcZ (q, (A2, n2, c2), ts)].flatMap _) = _
       rw [List.flatMap_singleton]
       rfl⟩
      have HM := Aside0.mk hmem
      obtain ⟨b, cur, hA2, _, hn2, hc2, _, _⟩ := HSZ.out
      dsimp only at hA2 hn2 hc2
      subst hA2
      subst hn2
      have zt : (ts.length : Int) ≤ 100000 := by have := HFB.out.2.1; omega
      have zl2 : l.length ≤ 356 := HF.out.2.2
      clear hz hcz hmem hlz hi hN1
      generalize ((lvl (firstL l) 14).take i).flatMap (·.2) = F at *
      go_wp2_with fail
      have HCa : Aside0 (RowI (wr.alloc (.cells #[.int .i64 q, .slice (some ⟨b, 0, none⟩) ts.length c2] 248)) g0 (cntN l.length F)) := ⟨HC.out.below (below_alloc (Below.refl _ _) _)⟩
      have HCNa : Aside0 (Cn (wr.alloc (.cells #[.int .i64 q, .slice (some ⟨b, 0, none⟩) ts.length c2] 248)) g (zs.map coinZ)) := ⟨HCN.out.below (below_alloc (Below.refl _ _) _)⟩
      have HSYa : Aside0 (∀ z ∈ zs, SymAt (g0 + 1) (wr.alloc (.cells #[.int .i64 q, .slice (some ⟨b, 0, none⟩) ts.length c2] 248)) z.2.1 z.2.2) := ⟨fun z hz => (HSY.out z hz).alloc _⟩
      have HBa : Aside0 (Below w.heap.size w (wr.alloc (.cells #[.int .i64 q, .slice (some ⟨b, 0, none⟩) ts.length c2] 248))) := ⟨below_alloc HBX.out _⟩
      generalize wr.alloc (.cells #[.int .i64 q, .slice (some ⟨b, 0, none⟩) ts.length c2] 248) = wA at *
      go_loopw [58] (fun v58 wx => ∃ j : Nat, v58 = .int .i64 (j : Int) ∧ Aside0 (j ≤ ts.length) ∧ Aside0 (RowI wx g0 (cntN l.length (F ++ ts.take j))) ∧ Aside0 (Cn wx g (zs.map coinZ)) ∧ Aside0 (∀ z ∈ zs, SymAt (g0 + 1) wx z.2.1 z.2.2) ∧ Aside0 (Below w.heap.size w wx)) (fun v58 _ => ts.length - (intOf v58).toNat)
      case atStart => exact ⟨0, rfl, ⟨Nat.zero_le _⟩, ⟨by rw [List.take_zero, List.append_nil]; exact HCa.out⟩, HCNa, HSYa, HBa⟩
      case round =>
       obtain ⟨j, rfl, HJ, HC2, HCN2, HSY2, HB2⟩ := hrel
       have hj := HJ.out
       by_cases hjn : j < ts.length
       ·have e1 : decide ((j : Int) < (ts.length : Int)) = true := decide_eq_true (by omega)
        have e2 : decide (j < ts.length) = true := decide_eq_true (by omega)
        have zj : (j : Int) ≤ 100000 := by omega
        obtain ⟨s, hs⟩ : ∃ s, ts[j]? = some s := ⟨_, List.getElem?_eq_getElem (by omega)⟩
        have HT : Aside0 (ts.take (j + 1) = ts.take j ++ [s]) := ⟨by rw [List.take_add_one, hs]; rfl⟩
        have HJN := Aside0.mk hjn
        have hsl := HFB.out.2.2.1 s (List.mem_of_getElem? hs)
        have j0 := SymAt.get (HSY2.out _ HM.out) hs
        have j1 := HC2.out.get s _ (cntN_get _ hsl)
        have j2 := HC2.out.fz s
        have HP := Aside0.mk (HC2.out.put s (((F ++ ts.take j).count s : Nat) + 1))
        rw [cntN_put _ hsl] at HP
        have hct : (F ++ ts.take j).count s ≤ 80000000 := by
         have h1 := List.count_le_length (a := s) (l := F ++ ts.take j)
         rw [List.length_append, List.length_take] at h1
         have h2 := HFB.out.1
         have h3 := HFB.out.2.1
         omega
        have hsl2 : (s : Int) ≤ 356 := by omega
        clear hs hj d1 d2 k0 k1
        generalize (F ++ ts.take j).count s = ct at *
        have qs : IntKind.i64.wrap ((ct : Int) + 1) = (ct : Int) + 1 := IntWalk.i64_in _ (by omega)
        go_wp2_with fail
        refine ⟨⟨j + 1, rfl, ⟨HJN.out⟩, ⟨by rw [HT.out, ← List.append_assoc]; exact HP.out⟩, ⟨HCN2.out.set_ HK.out.2.2⟩, ⟨fun z hz => (HSY2.out z hz).set_⟩, ⟨HB2.out.setCell HG0.out _⟩⟩, ?_⟩
        have h := HJN.out
        show ts.length - ((j : Int) + 1).toNat < ts.length - (j : Int).toNat
        omega
       ·have hje : j = ts.length := by omega
        subst hje
        have e1 : decide ((ts.length : Int) < (ts.length : Int)) = false := decide_eq_false (by omega)
        have e2 : decide (ts.length < ts.length) = false := decide_eq_false (by omega)
        have HFI : Aside0 (RowI wr g0 (cntN l.length (((lvl (firstL l) 14).take (i + 1)).flatMap (·.2)))) := ⟨by
         have h := HC2.out
         rw [List.take_length] at h
         rw [HFB.out.2.2.2]
         exact h⟩
        clear hj hjn d1 d2 k0 k1
        go_wp2_with fail
        go_roundw
        case rel => exact ⟨_, _, _, _, _, _, _, _, _, _, _, _, _, _, _, _, _, _, _, _, _, ⟨i + 1, rfl, ⟨HIN.out⟩, HFI, HCN2, HSY2, HB2⟩, rfl⟩
        case measure =>
         have h := HIN.out
         show N - ((i : Int) + 1).toNat < N - (i : Int).toNat
         omega
     ·have hie : i = N := by omega
      subst hie
      have e1 : decide ((i : Int) < (i : Int)) = false := decide_eq_false (by omega)
      have e2 : decide (i < i) = false := decide_eq_false (by omega)
      have HR : Aside0 (RowI wr g0 (lensL 15 l)) := ⟨by
       unfold lensL lenOf
       rw [HTK.out]
       exact HC.out⟩
      clear hin hi
      go_wp2_with fail
      go_ret2
      exact ⟨g0, rfl, HG0.out, HR.out, HBX.out⟩
end Go.Proofs.YtepgkimlmoikmaaGreat
set_option linter.unusedVariables false
set_option linter.unusedSimpArgs false
namespace Go.Proofs.YtepgkimlmoikmaaGreat
open Go.RowKit Go.Proofs.YtepgkimlmoikmaaGreat.Spec Go.Proofs.YtepgkimlmoikmaaGreatW.PrintWords Go.Proofs.YtepgkimlmoikmaaGreatW.PrintLast
open Go.Proofs.YtepgkimlmoikmaaGreatW.PrintMore
attribute [local go_sem ↓] Go.wp_at_zero Go.wp_at_succ
attribute [local go_sem] max2_int min2_int max_two min_two
open Pk
def RowN (w : World) (g : Nat) (l : List Int) : Prop := ∃ cur : Array Value, w.heap[g]? = some (.cells cur 3 (0, 0)) ∧ l.length ≤ cur.size ∧ ∀ (i : Nat) (x : Int), l[i]? = some x → cur[i]? = some (Value.int .i64 x)
theorem RowN.get {w : World} {g : Nat} {l : List Int} (h : RowN w g l) {i : Nat} {x : Int} (hx : l[i]? = some x) : w.cell? ⟨g, i, none⟩ = some (.int .i64 x) := by
 obtain ⟨cur, h1, _, h2⟩ := h
 exact (blk_cell h1 i).trans (h2 i x hx)
theorem RowN.fz {w : World} {g : Nat} {l : List Int} (h : RowN w g l) (i : Nat) : w.frozen? ⟨g, i, none⟩ = false := by
 obtain ⟨cur, h1, _, _⟩ := h
 exact blk_frozen h1 i
theorem RowN.below {w w1 : World} {g : Nat} {l : List Int} (h : RowN w g l) (hb : Below w.heap.size w w1) : RowN w1 g l := by
 obtain ⟨cur, h1, h2⟩ := h
 exact ⟨cur, blk_below h1 hb, h2⟩
theorem RowN.put {w : World} {g : Nat} {l : List Int} (h : RowN w g l) (i : Nat) (x : Int) : RowN (w.setCell ⟨g, i, none⟩ (.int .i64 x)) g (l.set i x) := by
 obtain ⟨cur, h1, h2, h3⟩ := h
 refine ⟨_, blk_set h1 i (.int .i64 x), by rw [List.length_set, Array.size_setIfInBounds]; exact h2, fun j d hj => ?_⟩
 rw [Array.getElem?_setIfInBounds]
 rw [List.getElem?_set] at hj
 by_cases he : i = j
 ·subst he
  rw [if_pos rfl] at hj
  by_cases hlt : i < l.length
  ·rw [if_pos hlt, Option.some.injEq] at hj
   subst hj
   rw [if_pos rfl, if_pos (by omega)]
  ·rw [if_neg hlt] at hj
   cases hj
 ·rw [if_neg he] at hj
  rw [if_neg he]
  exact h3 j d hj
theorem RowN.ints {w : World} {g : Nat} {l : List Int} (h : RowN w g l) (hl : l.length ≤ 100000) : IntsIn w (some ⟨g, 0, none⟩) l := by
 refine ⟨rfl, by omega, fun _ => ⟨_, rfl, fun j p hp => ⟨[.int .i64 p], rfl, rfl, fun i u hu => ?_⟩⟩⟩
 cases i with
 | zero =>
  obtain rfl : Value.int .i64 p = u := by injection hu
  have := h.get hp
  show w.cell? ((⟨g, 0, none⟩ : Addr).add (j * 1 + 0)) = _
  rw [add_plain, Nat.mul_one, Nat.add_zero]
  simpa using this
 | succ i => cases hu
theorem RowN.lt {w : World} {g : Nat} {l : List Int} (h : RowN w g l) : g < w.heap.size := by
 obtain ⟨cur, h1, _⟩ := h
 exact blk_lt h1
theorem RowI.rowN {w : World} {g : Nat} {l : List Int} (h : RowI w g l) : RowN w g l := by
 refine ⟨_, h, by simp, fun i x hi => ?_⟩
 rw [List.getElem?_toArray, List.getElem?_map, hi]
 rfl
def intV (l : List Int) : List Value := l.map (Value.int .i64)
theorem intV_len (l : List Int) : (intV l).length = l.length * 1 := by unfold intV; simp
theorem intV_one (l : List Int) : ∀ u ∈ intV l, u.oneCell' = true := by
 intro u hu
 obtain ⟨x, _, rfl⟩ := List.mem_map.1 hu
 rfl
theorem RowN.cells {w : World} {g : Nat} {l : List Int} (h : RowN w g l) : ∀ (j : Nat) (u : Value), (intV l)[j]? = some u → w.cell? ((⟨g, 0, none⟩ : Addr).add j) = some u := by
 intro j u hj
 rw [Lib.add_plain, Nat.zero_add]
 unfold intV at hj
 rw [List.getElem?_map] at hj
 cases hx : l[j]? with
 | none => rw [hx] at hj; cases hj
 | some s =>
  rw [hx] at hj
  obtain rfl := Option.some.inj hj
  exact h.get hx
theorem RowN.of {w : World} {base : Nat} {v : Value} {n : Nat} {l : List Int} (h : w.ownsRow base 3 1 v n (intV l)) (hn : 0 < n) (hl : l.length = n) : ∃ g c, v = .slice (some ⟨g, 0, none⟩) n c ∧ base ≤ g ∧ n ≤ c ∧ RowN w g l := by
 rcases h.2 with ⟨_, h0⟩ | ⟨g, cap, cur, rfl, hg, hh, hc, _, hs, hx⟩
 ·exfalso; omega
 ·refine ⟨g, cap, rfl, hg, hc, cur, hh, by rw [hl, hs]; omega, fun i x hi => ?_⟩
  have hj : (intV l)[i]? = some (.int .i64 x) := by unfold intV; rw [List.getElem?_map, hi]; rfl
  rw [← hx, List.getElem?_take] at hj
  split at hj
  ·rw [← Array.getElem?_toList]; exact hj
  ·cases hj
theorem cloneI_any {g n c : Nat} (xs : List Int) (hn : n = xs.length) (h0 : 0 < n) (hl : n ≤ 100000) {w : World} (hcn : RowN w g xs) :
  Calls Tryz.prog 216 #[.slice (some ⟨g, 0, none⟩) n c] w fun e w' => ∃ g' c', e = .returned (.slice (some ⟨g', 0, none⟩) n c') ∧ w.heap.size ≤ g' ∧ n ≤ c' ∧ RowN w' g' xs ∧ Below w.heap.size w w' := by
 have HC := Aside0.mk hcn
 have HX := Aside0.mk (And.intro hn (And.intro h0 hl))
 have heq : ∀ W : World, (binOp .eql 29 (.slice (some ⟨g, 0, none⟩) n c) (.slice none 0 0)).run Tryz.prog W = .ok (.bool false) W := fun W => by
  exact Lib.run_eql_slice_nil (P := Tryz.prog) W 29 3 (some ⟨g, 0, none⟩) n c 0 0 Tryz.underlying29
 clear hcn hn h0 hl
 go_enter Tryz.func216, Tryz.ntmps216
 go_wp2_with (first
  | (at_builtin; refine wpList_append_flat w.heap.size rfl (.tmp 5) (.tmp 6) 29 3 rfl _ 1 8 Tryz.underlying29 info_int rfl (by decide) (by decide) (.slice (some ⟨w.heap.size, 0, none⟩) 0 0) 0 [] rfl (World.ownsRow_made w _ 0 (Nat.le_refl _) (Nat.zero_le _) rfl) rfl (intV xs) (by rw [intV_len, ← HX.out.1]) HX.out.2.1 ⟨_, rfl, RowN.cells (HC.out.below (below_alloc (Below.refl _ _) _))⟩ (intV_one _) (by have := HX.out.2.2; omega) (below_alloc (Below.refl _ _) _) (by simp) ?_; intro v5 w5 hown5 hb5 hg5; rw [Nat.zero_add, List.nil_append] at hown5; have HO5 := Aside0.mk hown5; have HB5 := Aside0.mk hb5; clear hown5 hb5 hg5))
 go_ret
 obtain ⟨g', c', rfl, h1, h2, h3⟩ := RowN.of HO5.out HX.out.2.1 HX.out.1.symm
 exact ⟨g', c', rfl, h1, h2, h3, HB5.out⟩
theorem hadd_any {g c c2 m : Nat} {A : Option Addr} (F ns : List Nat) {w : World} (hrow : RowN w g (cntN m F)) (hr : IntsIn w A (intN ns)) (hc : ns.length ≤ c2) (hm : 0 < m ∧ m ≤ 356) (hs : ∀ s ∈ ns, s < m) (hl : F.length + ns.length ≤ 1000000) :
  Calls Tryz.prog 187 #[.slice (some ⟨g, 0, none⟩) m c, .slice A ns.length c2] w fun e w' => ∃ g' c', e = .returned (.tuple #[.slice (some ⟨g', 0, none⟩) m c', .int .i64 0]) ∧ w.heap.size ≤ g' ∧ m ≤ c' ∧ RowN w' g' (cntN m (F ++ ns)) ∧ Below w.heap.size w w' := by
 have HCL := Aside0.mk (cloneI_any (c := c) (cntN m F) (n := m) (by rw [cntN_len]) hm.1 (by omega) hrow)
 have HR := Aside0.mk hr
 have HX := Aside0.mk (And.intro hc (And.intro hm (And.intro hs hl)))
 have zm : (m : Int) ≤ 356 := by have := hm.2; omega
 have dm : decide ((356 : Int) < (m : Int)) = false := decide_eq_false (by omega)
 have dm2 : decide (356 < m) = false := decide_eq_false (by omega)
 clear hrow hr hc hm hs hl
 go_enter Tryz.func187, Tryz.ntmps187
 go_wp2_with fail
 refine HCL.out.mono ?_
 rintro e w1 ⟨g', c', rfl, hg', hc', hrow', hb'⟩
 have HG := Aside0.mk (And.intro hg' hc')
 have HRW := Aside0.mk hrow'
 have HB := Aside0.mk hb'
 clear hg' hc' hrow' hb'
 go_wp2_with fail
 go_loopw [16] (fun v16 wx => ∃ j : Nat, v16 = .int .i64 (j : Int) ∧ Aside0 (j ≤ ns.length) ∧ Aside0 (RowN wx g' (cntN m (F ++ ns.take j))) ∧ Aside0 (Below w.heap.size w wx)) (fun v16 _ => ns.length - (intOf v16).toNat)
 case atStart => exact ⟨0, rfl, ⟨Nat.zero_le _⟩, ⟨by rw [List.take_zero, List.append_nil]; exact HRW.out⟩, HB⟩
 case round =>
  obtain ⟨j, rfl, HJ, HC, HB2⟩ := hrel
  have hj := HJ.out
  have zn : ns.length ≤ 1000000 := by have := HX.out.2.2.2; omega
  have zj : (j : Int) ≤ 1000000 := by omega
  by_cases hjn : j < ns.length
  ·have e1 : decide ((j : Int) < (ns.length : Int)) = true := decide_eq_true (by omega)
   have e2 : decide (j < ns.length) = true := decide_eq_true (by omega)
   have p1 : (0 : Int) ≤ (j : Int) := by omega
   have p2 : (j : Int) < ((intN ns).length : Int) := by rw [intN_len]; omega
   obtain ⟨ad, rfl, hcell⟩ := Kd.at_int (Kd.C_below HR.out HB2.out) (j : Int) p1 p2
   rw [show ((j : Int)).toNat = j by omega] at hcell
   obtain ⟨s, hs⟩ : ∃ s, ns[j]? = some s := ⟨_, List.getElem?_eq_getElem hjn⟩
   have hrd : rd (intN ns) (j : Int) = (s : Int) := by unfold rd intN; rw [show ((j : Int)).toNat = j by omega, List.getD_eq_getElem?_getD, List.getElem?_map, hs]; rfl
   rw [hrd] at hcell
   have HT : Aside0 (ns.take (j + 1) = ns.take j ++ [s]) := ⟨by rw [List.take_add_one, hs]; rfl⟩
   have HJN := Aside0.mk hjn
   have hsl := HX.out.2.2.1 s (List.mem_of_getElem? hs)
   have j1 := HC.out.get (cntN_get _ hsl)
   have j2 := HC.out.fz s
   have HP := Aside0.mk (HC.out.put s (((F ++ ns.take j).count s : Nat) + 1))
   rw [cntN_put _ hsl] at HP
   have hct : (F ++ ns.take j).count s ≤ 1000000 := by
    have h1 := List.count_le_length (a := s) (l := F ++ ns.take j)
    rw [List.length_append, List.length_take] at h1
    have h2 := HX.out.2.2.2
    omega
   have hsl2 : (s : Int) < (m : Int) := by omega
   have q1 : decide ((s : Int) < 0) = false := decide_eq_false (by omega)
   have q2 : decide ((m : Int) ≤ (s : Int)) = false := decide_eq_false (by omega)
   have q3 : decide (m ≤ s) = false := decide_eq_false (by omega)
   clear hs hj zn hrd p2
   generalize (F ++ ns.take j).count s = ct at *
   have qs : IntKind.i64.wrap ((ct : Int) + 1) = (ct : Int) + 1 := IntWalk.i64_in _ (by omega)
   go_wp2_with fail
   refine ⟨⟨j + 1, rfl, ⟨HJN.out⟩, ⟨by rw [HT.out, ← List.append_assoc]; exact HP.out⟩, ⟨HB2.out.setCell HG.out.1 _⟩⟩, ?_⟩
   have h := HJN.out
   show ns.length - ((j : Int) + 1).toNat < ns.length - (j : Int).toNat
   omega
  ·have hje : j = ns.length := by omega
   subst hje
   have e1 : decide ((ns.length : Int) < (ns.length : Int)) = false := decide_eq_false (by omega)
   have e2 : decide (ns.length < ns.length) = false := decide_eq_false (by omega)
   have HFI := HC.out
   rw [List.take_length] at HFI
   have HF := Aside0.mk HFI
   clear hj hjn HFI
   go_wp2_with fail
   go_ret2
   exact ⟨g', c', rfl, HG.out.1, HG.out.2, HF.out, HB2.out⟩
theorem hof_any {c2 m : Nat} {A : Option Addr} (ns : List Nat) {w : World} (hr : IntsIn w A (intN ns)) (hc : ns.length ≤ c2) (hm : 0 < m ∧ m ≤ 356) (hs : ∀ s ∈ ns, s < m) (hl : ns.length ≤ 1000000) :
  Calls Tryz.prog 147 #[.int .i64 (m : Int), .slice A ns.length c2] w fun e w' => ∃ g' c', e = .returned (.tuple #[.slice (some ⟨g', 0, none⟩) m c', .int .i64 0]) ∧ w.heap.size ≤ g' ∧ m ≤ c' ∧ RowN w' g' (cntN m ns) ∧ Below w.heap.size w w' := by
 have HAD := Aside0.mk (fun (W : World) (h : RowI W w.heap.size (List.replicate m 0)) (hb : Below w.heap.size w W) => hadd_any (c := m) [] ns (c2 := c2) (by rw [cntN_nil]; exact h.rowN) (Kd.C_below hr hb) hc hm hs (by rw [List.length_nil]; omega))
 have mk := make_i m (by omega)
 have zm : (m : Int) ≤ 356 := by have := hm.2; omega
 have dm : decide ((356 : Int) < (m : Int)) = false := decide_eq_false (by omega)
 have dm2 : decide (356 < m) = false := decide_eq_false (by omega)
 have dm3 : decide ((m : Int) < 0) = false := decide_eq_false (by omega)
 clear hr hc hs hl
 go_enter Tryz.func147, Tryz.ntmps147
 go_wp2_with fail
 have HI1 : RowI (w.alloc (.cells (Array.replicate m (Value.int .i64 0)) 3)) w.heap.size (List.replicate m 0) := by unfold RowI; rw [List.map_replicate, List.toArray_replicate]; exact blk_new _ _
 have HB1 : Aside0 (Below w.heap.size w (w.alloc (.cells (Array.replicate m (Value.int .i64 0)) 3))) := ⟨below_alloc (Below.refl _ _) _⟩
 have HAA := Aside0.mk (HAD.out _ HI1 HB1.out)
 clear HI1
 generalize w.alloc (.cells (Array.replicate m (Value.int .i64 0)) 3) = w1 at *
 refine HAA.out.mono ?_
 rintro e w2 ⟨g', c', rfl, h1, h2, h3, h4⟩
 have HZ := Aside0.mk (And.intro (Nat.le_trans HB1.out.size h1) (And.intro h2 (And.intro h3 (below_step HB1.out h4))))
 clear h1 h2 h3 h4
 go_wp2_with fail
 go_ret2
 exact ⟨g', c', rfl, HZ.out.1, HZ.out.2.1, by simpa using HZ.out.2.2.1, HZ.out.2.2.2⟩
end Go.Proofs.YtepgkimlmoikmaaGreat
