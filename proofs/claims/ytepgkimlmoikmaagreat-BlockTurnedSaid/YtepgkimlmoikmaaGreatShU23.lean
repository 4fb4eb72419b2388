/- ShU: a part of its proof (contracts of the functions that it reaches, and the plain mathematics behind them). -/
import Derived.Test.YtepgkimlmoikmaaGreatShU22
import Derived.IntWalk
set_option linter.unusedVariables false
set_option linter.unusedSimpArgs false
set_option maxHeartbeats 2000000
set_option maxRecDepth 100000
set_option linter.unusedVariables false
set_option linter.unusedSimpArgs false
namespace Go.Proofs.YtepgkimlmoikmaaGreat
open Go.RowKit Go.Proofs.YtepgkimlmoikmaaGreat.Spec Go.Proofs.YtepgkimlmoikmaaGreatW.PrintWords Go.Proofs.YtepgkimlmoikmaaGreatW.PrintLast
open Go.Proofs.YtepgkimlmoikmaaGreatW.PrintMore
attribute [local go_sem ↓] Go.wp_at_zero Go.wp_at_succ
theorem run_store_complex {P : Program} {w : World} {a : Addr} {m : Mode} (k : FloatKind) (x y : Nat) : (store a (.complex k x y) m).run P w = stored P w a (.complex k x y) m := run_store P w a _ m rfl
attribute [local go_sem] run_store_complex
theorem quiet_same {P : Program} {f : FuncId} {args : Array Value} {w : World} {n : Nat} {v : Value}
  (h : Calls P f args (w.drewN n) fun e w' => e = .returned v ∧ w.drewN n = w') : Calls P f args (w.drewN n) fun e w'' => e = .returned v ∧ ∃ m, w'' = w.drewN m :=
 h.mono fun _ _ ⟨he, hm⟩ => ⟨he, n, hm.symm⟩
def toS (s : Int × Nat) : Leaf.S172 := ⟨s.1, (s.2 : Int)⟩
theorem stps_len (tail : ByteArray) : ∀ (r : List ByteArray) (k : Nat), (stps tail k r).length ≤ r.length := by
 intro r
 induction r with
 | nil => intro k; exact Nat.le_refl 0
 | cons s r ih =>
  intro k
  have := ih (k + 1)
  rw [stps, List.length_cons]
  split
  ·rw [List.length_cons]; omega
  ·omega
theorem steps_l0 (l : List ByteArray) (b : ByteArray) (a : Nat) (ha : a < b.size) (hl : l.length ≤ 1000) : ∀ (r : List ByteArray) (i : Nat) (acc : List Leaf.S172), l.drop i = r → i ≤ l.length → acc.length ≤ i →
  Ev (fun k => Leaf.best_steps.l0 k b (a : Int) acc l (l.length : Int) (i : Int)) (acc ++ (stps (b.extract a b.size) i r ++ [((((u b).getD a 0).toNat : Int), 1)]).map toS) := by
 intro r
 induction r with
 | nil =>
  intro i acc hd hi hacc
  have : l.length = i := by have := congrArg List.length hd; rw [List.length_drop, List.length_nil] at this; omega
  refine Ev.step (f := fun _ => some _) (fun k => ?_) (Ev.now _)
  simp only [Leaf.best_steps.l0]
  rw [if_neg (by omega), if_pos (by omega), if_pos (by omega), if_pos (by omega)]
  have hb : wrap64 (bt b (a : Int)) = (((u b).getD a 0).toNat : Int) := by
   rw [Bridge.bt_u b a (by rw [u_size]; exact ha)]
   have h1 : (u b)[a]'(by rw [u_size]; exact ha) = (u b).getD a 0 := by
    rw [List.getD_eq_getElem?_getD, List.getElem?_eq_getElem (by rw [u_size]; exact ha)]
    rfl
   have h2 := UInt8.toNat_lt ((u b).getD a 0)
   rw [h1, Bridge.wr (by omega) (by omega)]
  rw [hb]
  rfl
 | cons p r ih =>
  intro i acc hd hi hacc
  obtain ⟨hlt, hpe, hd2⟩ := Bridge.drop_cons hd
  have e1 : wrap64 ((i : Int) + 1) = ((i + 1 : Nat) : Int) := by rw [Bridge.wr (by omega) (by omega)]; omega
  have e2 : wrap64 (256 + (i : Int)) = 256 + (i : Int) := Bridge.wr (by omega) (by omega)
  have hrd := Bridge.rdOf_get l i hlt
  rw [hpe] at hrd
  have step : ∀ k, Leaf.best_steps.l0 (k + 1) b (a : Int) acc l (l.length : Int) (i : Int) = if hp (b.extract a b.size) p = true then Leaf.best_steps.l0 k b (a : Int) (acc ++ [⟨256 + (i : Int), (p.size : Int)⟩]) l (l.length : Int) ((i + 1 : Nat) : Int) else Leaf.best_steps.l0 k b (a : Int) acc l (l.length : Int) ((i + 1 : Nat) : Int) := by
   intro k
   rw [Leaf.best_steps.l0]
   rw [if_pos (by omega), if_pos (by omega), if_pos (by omega), if_pos (by omega), if_pos (by omega), hrd, Int.toNat_natCast, hp_f, Option.bind_some, e1, e2, if_pos (show acc.length < 8796093022208 by omega)]
  rw [stps]
  by_cases hh : hp (b.extract a b.size) p = true
  ·rw [if_pos hh]
   have := ih (i + 1) (acc ++ [⟨256 + (i : Int), (p.size : Int)⟩]) hd2 (by omega) (by rw [List.length_append, List.length_singleton]; omega)
   rw [List.append_assoc] at this
   refine Ev.step (fun k => ?_) this
   rw [step, if_pos hh]
  ·rw [if_neg hh]
   have := ih (i + 1) acc hd2 (by omega) (by omega)
   refine Ev.step (fun k => ?_) this
   rw [step, if_neg hh]
theorem steps_calls {A : Option Addr} {c : Nat} {l : List ByteArray} {w : World} (hr : StrsIn w A l) (hc : l.length ≤ c) (hl : l.length ≤ 1000) (b : ByteArray) (a : Nat) (ha : a < b.size) :
  Calls Tryz.prog 174 #[.slice A l.length c, .string b, .int .i64 a] w fun e w' => ∃ v, e = .returned v ∧ Leaf.k172.R 172 w' w.heap.size (fun _ => True) v ((stp l b a).map toS) ∧ Below w.heap.size w w' := by
 obtain ⟨k, hk⟩ := (steps_l0 l b a ha hl l 0 [] rfl (Nat.zero_le _) (Nat.le_refl _)).rounds
 rw [List.nil_append] at hk
 exact Leaf.best_steps.calls k A c l b a _ w hr hc hk
def RowC (w : World) (g : Nat) (l : List (Nat × Nat)) : Prop := w.heap[g]? = some (.cells (l.map encC).toArray 193 (0, 0))
def flat : List (Int × Nat) → List Value
 | [] => []
 | s :: r => .int .i64 s.1 :: .int .i64 (s.2 : Int) :: flat r
def RowF (w : World) (g : Nat) (l : List (Int × Nat)) : Prop := w.heap[g]? = some (.cells (flat l).toArray 172 (0, 0))
theorem flat_len : ∀ l, (flat l).length = l.length * 2 := by
 intro l
 induction l with
 | nil => rfl
 | cons s r ih => rw [flat, List.length_cons, List.length_cons, List.length_cons, ih]; omega
theorem flat_get : ∀ (l : List (Int × Nat)) (i : Nat) (s : Int × Nat), l[i]? = some s → (flat l)[i * 2]? = some (.int .i64 s.1) ∧ (flat l)[i * 2 + 1]? = some (.int .i64 (s.2 : Int)) := by
 intro l
 induction l with
 | nil => intro i s h; cases h
 | cons x r ih =>
  intro i s h
  cases i with
  | zero =>
   rw [List.getElem?_cons_zero, Option.some.injEq] at h
   subst h
   exact ⟨rfl, rfl⟩
  | succ i =>
   rw [List.getElem?_cons_succ] at h
   have := ih i s h
   rw [show (i + 1) * 2 = i * 2 + 1 + 1 by omega]
   exact this
theorem flat_set : ∀ (l : List (Int × Nat)) (i : Nat) (s : Int × Nat), ((flat l).set (i * 2) (.int .i64 s.1)).set (i * 2 + 1) (.int .i64 (s.2 : Int)) = flat (l.set i s) := by
 intro l
 induction l with
 | nil => intro i s; rfl
 | cons x r ih =>
  intro i s
  cases i with
  | zero => rfl
  | succ i =>
   rw [show (i + 1) * 2 = i * 2 + 1 + 1 by omega, List.set_cons_succ]
   show Value.int .i64 x.1 :: Value.int .i64 (x.2 : Int) :: (((flat r).set (i * 2) (.int .i64 s.1)).set (i * 2 + 1) (.int .i64 (s.2 : Int))) = _
   rw [ih i s]
   rfl
theorem RowC.get {w : World} {g : Nat} {l : List (Nat × Nat)} (h : RowC w g l) (i : Nat) (x : Nat × Nat) (hx : l[i]? = some x) : w.cell? ⟨g, i, none⟩ = some (.complex .f64 (fl x.1) (fl x.2)) := by
 refine (blk_cell h i).trans ?_
 rw [List.getElem?_toArray, List.getElem?_map, hx]
 rfl
theorem RowC.fz {w : World} {g : Nat} {l : List (Nat × Nat)} (h : RowC w g l) (i : Nat) : w.frozen? ⟨g, i, none⟩ = false := blk_frozen h i
theorem RowC.put {w : World} {g : Nat} {l : List (Nat × Nat)} (h : RowC w g l) (i : Nat) (x : Nat × Nat) : RowC (w.setCell ⟨g, i, none⟩ (.complex .f64 (fl x.1) (fl x.2))) g (l.set i x) := by
 refine blk_put h i _ ?_
 rw [List.setIfInBounds_toArray, List.map_set]
 rfl
theorem RowF.get0 {w : World} {g : Nat} {l : List (Int × Nat)} (h : RowF w g l) (i : Nat) (x : Int × Nat) (hx : l[i]? = some x) : w.cell? ⟨g, i * 2, none⟩ = some (.int .i64 x.1) := by
 refine (blk_cell h (i * 2)).trans ?_
 rw [List.getElem?_toArray, (flat_get l i x hx).1]
theorem RowF.get1 {w : World} {g : Nat} {l : List (Int × Nat)} (h : RowF w g l) (i : Nat) (x : Int × Nat) (hx : l[i]? = some x) : w.cell? ⟨g, i * 2 + 1, none⟩ = some (.int .i64 (x.2 : Int)) := by
 refine (blk_cell h (i * 2 + 1)).trans ?_
 rw [List.getElem?_toArray, (flat_get l i x hx).2]
theorem RowF.fz {w : World} {g : Nat} {l : List (Int × Nat)} (h : RowF w g l) (i : Nat) : w.frozen? ⟨g, i, none⟩ = false := blk_frozen h i
theorem RowF.put {w : World} {g : Nat} {l : List (Int × Nat)} (h : RowF w g l) (i : Nat) (x : Int × Nat) : RowF ((w.setCell ⟨g, i * 2, none⟩ (.int .i64 x.1)).setCell ⟨g, i * 2 + 1, none⟩ (.int .i64 (x.2 : Int))) g (l.set i x) := by
 refine blk_put (blk_put h (i * 2) _ rfl) (i * 2 + 1) _ ?_
 rw [List.setIfInBounds_toArray, List.setIfInBounds_toArray, flat_set]
theorem info104 : (Tryz.prog.info? 193).map (fun i => (i.zero, i.size, i.bytes)) = some (some (.complex .f64 0 0), 1, 16) := by kernel_rfl
theorem make_c (m : Nat) (h : m ≤ 100000) : ∀ W : World, (Instr.makeSlice 167 (.int .i64 (m : Int)) (.int .i64 (m : Int))).run Tryz.prog W = .ok (.slice (some ⟨W.heap.size, 0, none⟩) m m) (W.alloc (.cells (((List.replicate m (0, 0)).map encC).toArray) 193)) := by
 intro W
 obtain ⟨i0, hi, hzz⟩ := Option.map_eq_some_iff.1 info104
 simp only [Prod.mk.injEq] at hzz
 obtain ⟨hz0, hz1, hz2⟩ := hzz
 have hr := run_make (P := Tryz.prog) W 167 193 i0 _ Tryz.underlying167 hi hz0 .i64 .i64 (m : Int) (m : Int) (by omega) (by omega) (by rw [hz2]; omega) (by omega)
 rw [hr]
 have he : madeCells (Value.complex .f64 0 0).cells ((m : Int).toNat * i0.size) = ((List.replicate m (0, 0)).map encC).toArray := by
  rw [hz1, Int.toNat_natCast, Nat.mul_one]
  apply Array.ext'
  apply List.ext_getElem
  ·simp [madeCells]
  ·intro i h1 h2
   have e0 : encC (0, 0) = .complex .f64 0 0 := by unfold encC; rw [fl_zero]
   have e1 : (Value.complex .f64 0 0).cells = #[.complex .f64 0 0] := rfl
   simp [madeCells, Nat.mod_one, e0, e1]
 rw [he, Int.toNat_natCast]
theorem make_f (m : Nat) (h : m ≤ 100000) : ∀ W : World, (Instr.makeSlice 168 (.int .i64 (m : Int)) (.int .i64 (m : Int))).run Tryz.prog W = .ok (.slice (some ⟨W.heap.size, 0, none⟩) m m) (W.alloc (.cells ((flat (List.replicate m (0, 0))).toArray) 172)) := by
 intro W
 obtain ⟨i0, hi, hzz⟩ := Option.map_eq_some_iff.1 Leaf.info172
 simp only [Prod.mk.injEq] at hzz
 obtain ⟨hz0, hz1, hz2⟩ := hzz
 have hr := run_make (P := Tryz.prog) W 168 172 i0 _ Tryz.underlying168 hi hz0 .i64 .i64 (m : Int) (m : Int) (by omega) (by omega) (by rw [hz2]; omega) (by omega)
 rw [hr]
 have he : madeCells (Value.agg #[.int .i64 0, .int .i64 0]).cells ((m : Int).toNat * i0.size) = (flat (List.replicate m (0, 0))).toArray := by
  rw [hz1, Int.toNat_natCast]
  apply Array.ext'
  apply List.ext_getElem
  ·simp [madeCells, flat_len]
  ·intro i h1 h2
   have hlt : i / 2 < m := by simp only [flat_len, List.length_replicate] at h2; omega
   have hg := flat_get (List.replicate m ((0 : Int), 0)) (i / 2) (0, 0) (by rw [List.getElem?_replicate, if_pos hlt])
   rcases Nat.mod_two_eq_zero_or_one i with e | e
   ·have e2 : i / 2 * 2 = i := by omega
    rw [e2] at hg
    have := (List.getElem?_eq_some_iff.1 hg.1).2
    rw [this]
    simp [madeCells, e, Value.cells]
   ·have e2 : i / 2 * 2 + 1 = i := by omega
    rw [e2] at hg
    have := (List.getElem?_eq_some_iff.1 hg.2).2
    rw [this]
    simp [madeCells, e, Value.cells]
 rw [he, Int.toNat_natCast]
def CL (a : Nat) (cur : Nat × Nat) (T : List Ent) : List (Nat × Nat) := List.replicate a (0, 0) ++ cur :: (T.map (·.1) ++ [(0, 0)])
def FL (a : Nat) (cur : Int × Nat) (T : List Ent) : List (Int × Nat) := List.replicate a (0, 0) ++ cur :: T.map (·.2)
theorem CL_cur (a : Nat) (cur : Nat × Nat) (T : List Ent) : (CL a cur T)[a]? = some cur := by
 unfold CL
 rw [List.getElem?_append_right (by rw [List.length_replicate]; exact Nat.le_refl _), List.length_replicate, Nat.sub_self]
 rfl
theorem FL_cur (a : Nat) (cur : Int × Nat) (T : List Ent) : (FL a cur T)[a]? = some cur := by
 unfold FL
 rw [List.getElem?_append_right (by rw [List.length_replicate]; exact Nat.le_refl _), List.length_replicate, Nat.sub_self]
 rfl
theorem CL_set (a : Nat) (cur x : Nat × Nat) (T : List Ent) : (CL a cur T).set a x = CL a x T := by
 unfold CL
 rw [List.set_append_right _ _ (by rw [List.length_replicate]; exact Nat.le_refl _), List.length_replicate, Nat.sub_self]
 rfl
theorem FL_set (a : Nat) (cur x : Int × Nat) (T : List Ent) : (FL a cur T).set a x = FL a x T := by
 unfold FL
 rw [List.set_append_right _ _ (by rw [List.length_replicate]; exact Nat.le_refl _), List.length_replicate, Nat.sub_self]
 rfl
theorem CL_at (a : Nat) (cur : Nat × Nat) (T : List Ent) (n : Nat) (h1 : 1 ≤ n) (h2 : n ≤ T.length + 1) : (CL a cur T)[a + n]? = some (T.getD (n - 1) ent0).1 := by
 unfold CL
 obtain ⟨m, rfl⟩ : ∃ m, n = m + 1 := ⟨n - 1, by omega⟩
 rw [List.getElem?_append_right (by rw [List.length_replicate]; omega), List.length_replicate, Nat.add_sub_cancel_left, List.getElem?_cons_succ, Nat.add_sub_cancel]
 by_cases h : m < T.length
 ·rw [List.getElem?_append_left (by rw [List.length_map]; exact h), List.getElem?_map, List.getD_eq_getElem?_getD, List.getElem?_eq_getElem h]
  rfl
 ·have : m = T.length := by omega
  subst this
  rw [List.getElem?_append_right (by rw [List.length_map]; exact Nat.le_refl _), List.length_map, Nat.sub_self, List.getD_eq_getElem?_getD, List.getElem?_eq_none (Nat.le_refl _)]
  rfl
theorem CL_start (a : Nat) (T : List Ent) : List.replicate (a + 1) ((0 : Nat), (0 : Nat)) ++ (T.map (·.1) ++ [(0, 0)]) = CL a (0, 0) T := by
 unfold CL
 rw [List.replicate_succ', List.append_assoc]
 rfl
theorem FL_start (a : Nat) (T : List Ent) : List.replicate (a + 1) ((0 : Int), (0 : Nat)) ++ T.map (·.2) = FL a (0, 0) T := by
 unfold FL
 rw [List.replicate_succ', List.append_assoc]
 rfl
theorem lstE_next (l : List ByteArray) (b : ByteArray) (d a : Nat) (ha : b.size = a + (d + 1)) : lstE l b (d + 1) = sel (lstE l b d) (stp l b a) :: lstE l b d := by
 rw [lstE, show b.size - (d + 1) = a by omega]
theorem row_next {l : List ByteArray} {b : ByteArray} {d a g1 g2 : Nat} {w : World} {cur : Ent} (ha : b.size = a + (d + 1)) (he : cur = sel (lstE l b d) (stp l b a)) (hC : RowC w g1 (CL a cur.1 (lstE l b d))) (hF : RowF w g2 (FL a cur.2 (lstE l b d))) :
  RowC w g1 (List.replicate (b.size - (d + 1)) (0, 0) ++ ((lstE l b (d + 1)).map (·.1) ++ [(0, 0)])) ∧ RowF w g2 (List.replicate (b.size - (d + 1)) (0, 0) ++ (lstE l b (d + 1)).map (·.2)) := by
 rw [lstE_next l b d a ha, ← he, show b.size - (d + 1) = a by omega]
 exact ⟨hC, hF⟩
theorem least_any {p : Value} {l : List ByteArray} {w : World} (hd : DictN w p l) (hl : l.length ≤ 1000) (hs : ∀ s ∈ l, 1 ≤ s.size ∧ s.size ≤ 40) (b : ByteArray) (h1 : 1 ≤ b.size) (hb : b.size ≤ 10000) :
  Calls Tryz.prog 126 #[p, .string b] w fun e w' => ∃ g1 g2, e = .returned (.tuple #[.slice (some ⟨g1, 0, none⟩) (b.size + 1) (b.size + 1), .slice (some ⟨g2, 0, none⟩) b.size b.size]) ∧ RowF w' g2 ((lstE l b b.size).map (·.2)) ∧ Below w.heap.size w w' := by
 have HA := Aside0.mk (fun (W : World) (hd : DictN W p l) => alln_any hd (by omega))
 have HL := Aside0.mk hl
 have HS := Aside0.mk hs
 have HD := Aside0.mk hd
 have HN := Aside0.mk (And.intro h1 hb)
 have m1 := make_c (b.size + 1) (by omega)
 have m2 := make_f b.size (by omega)
 rw [show ((b.size + 1 : Nat) : Int) = (b.size : Int) + 1 by omega] at m1
 have z1 : (b.size : Int) ≤ 10000 := by omega
 have z2 : 1 ≤ (b.size : Int) := by omega
 clear hd hl hs h1 hb
 go_enter Tryz.func126, Tryz.ntmps126
 go_wp2_with fail
 clear m1 m2
 refine (HA.out _ (HD.out.below (below_alloc (below_alloc (Below.refl _ _) _) _))).mono ?_
 rintro e w1 ⟨v1, rfl, hrow, hb1⟩
 obtain ⟨g1, hg1⟩ : ∃ g, g = w.heap.size := ⟨_, rfl⟩
 obtain ⟨g2, hg2⟩ : ∃ g, g = w.heap.size + 1 := ⟨_, rfl⟩
 have HG := Aside0.mk (And.intro hg1 hg2)
 have HC1 : Aside0 (RowC w1 w.heap.size (List.replicate (b.size + 1) (0, 0))) := ⟨blk_below (by
  have := blk_alloc (heap_alloc_new w (.cells (Array.replicate (b.size + 1) (encC (0, 0))) 193)) (.cells (flat (List.replicate b.size (0, 0))).toArray 172)
  simpa using this) hb1⟩
 have HF1 : Aside0 (RowF w1 (w.heap.size + 1) (List.replicate b.size (0, 0))) := ⟨blk_below (by
  have := heap_alloc_new (w.alloc (.cells (Array.replicate (b.size + 1) (encC (0, 0))) 193)) (.cells (flat (List.replicate b.size (0, 0))).toArray 172)
  rw [World.size_alloc] at this
  exact this) hb1⟩
 have HR1 : Aside0 (Kd.string.R 9 w1 w.heap.size (fun k => k ≠ g1 ∧ k ≠ g2) v1 l) := ⟨Kd.R_lower (Kd.R_mono (Kd.R_bound hrow) (fun k hk => by
  have h1 := hk.2.1
  rw [World.size_alloc, World.size_alloc] at h1
  exact ⟨by omega, by omega⟩)) (by rw [World.size_alloc, World.size_alloc]; omega)⟩
 have H1 := Aside0.mk (below_step (below_alloc (below_alloc (Below.refl w.heap.size w) _) _) hb1)
 rw [← hg2, ← hg1]
 rw [← hg1] at HC1
 rw [← hg2] at HF1
 obtain ⟨A, c, rfl, hc, hC⟩ := Kd.R_reads hrow
 clear hrow hb1 hg1 hg2 hC hc HA
 go_wp2_with fail
 go_loopw [9] (fun v9 wr => ∃ d : Nat, v9 = .int .i64 ((b.size : Int) - 1 - (d : Int)) ∧ Aside0 (d ≤ b.size) ∧ Aside0 (RowC wr g1 (List.replicate (b.size - d) (0, 0) ++ ((lstE l b d).map (·.1) ++ [(0, 0)]))) ∧ Aside0 (RowF wr g2 (List.replicate (b.size - d) (0, 0) ++ (lstE l b d).map (·.2))) ∧ Aside0 (Kd.string.R 9 wr w.heap.size (fun k => k ≠ g1 ∧ k ≠ g2) (.slice A l.length c) l) ∧ Aside0 (Below w.heap.size w wr)) (fun v9 _ => (intOf v9 + 1).toNat)
 case atStart => exact ⟨0, by rw [Int.natCast_zero, Int.sub_zero], ⟨Nat.zero_le _⟩, ⟨by rw [Nat.sub_zero]; show RowC _ _ (_ ++ ([] ++ _)); rw [List.nil_append, ← List.replicate_succ']; exact HC1.out⟩, ⟨by rw [Nat.sub_zero]; show RowF _ _ (_ ++ []); rw [List.append_nil]; exact HF1.out⟩, HR1, H1⟩
 case round =>
  obtain ⟨d, rfl, HDn, HC, HF, HR, HB⟩ := hrel
  have hdn := HDn.out
  obtain ⟨n1, n2⟩ := HN.out
  by_cases hd : d = b.size
  ·rw [show (b.size : Int) - 1 - (d : Int) = -1 by omega]
   clear hdn n1 n2
   have HE := Aside0.mk hd
   clear hd
   go_wp2
   go_ret2
   have hf := HF.out
   rw [HE.out, Nat.sub_self, List.replicate_zero, List.nil_append] at hf
   exact ⟨g1, g2, rfl, hf, HB.out⟩
  ·obtain ⟨a, ha⟩ : ∃ a : Nat, b.size = a + (d + 1) := ⟨b.size - (d + 1), by omega⟩
   have e1 : (b.size : Int) - 1 - (d : Int) = (a : Int) := by omega
   have hc := HC.out
   have hf := HF.out
   rw [show b.size - d = a + 1 by omega, CL_start] at hc
   rw [show b.size - d = a + 1 by omega, FL_start] at hf
   have HC0 := Aside0.mk hc
   have HF0 := Aside0.mk hf
   rw [e1]
   have HX := Aside0.mk (And.intro ha e1)
   have d0 : decide (0 ≤ (a : Int)) = true := decide_eq_true (by omega)
   have d0' : decide ((a : Int) < 0) = false := decide_eq_false (by omega)
   have z3 : (0 : Int) ≤ (a : Int) := by omega
   have z4 : (a : Int) < (b.size : Int) + 1 := by omega
   have z5 : (a : Int) < (b.size : Int) := by omega
   have c1 := hc.get a _ (CL_cur a _ _)
   have c2 := hc.fz a
   clear hdn n1 n2 hd hc hf ha e1
   go_wp2_with fail
   refine (most_calls _).mono ?_
   rintro e w2 ⟨rfl, rfl⟩
   have HC2 : Aside0 (RowC (wr.setCell ⟨g1, a, none⟩ (.complex .f64 (fl 1099511627776) (fl 1099511627776))) g1 (CL a (1099511627776, 1099511627776) (lstE l b d))) := ⟨by rw [← CL_set a (0, 0)]; exact HC0.out.put a (1099511627776, 1099511627776)⟩
   have hne := blk_ne HC0.out HF0.out (by decide)
   have HNE := Aside0.mk hne
   have HF2 : Aside0 (RowF (wr.setCell ⟨g1, a, none⟩ (.complex .f64 (fl 1099511627776) (fl 1099511627776))) g2 (FL a (0, 0) (lstE l b d))) := ⟨blk_far HF0.out (Ne.symm hne) _⟩
   have HR2 : Aside0 (Kd.string.R 9 (wr.setCell ⟨g1, a, none⟩ (.complex .f64 (fl 1099511627776) (fl 1099511627776))) w.heap.size (fun k => k ≠ g1 ∧ k ≠ g2) (.slice A l.length c) l) := ⟨Kd.R_far HR.out (fun k hk => hk.1) _⟩
   have HB2 := Aside0.mk (HB.out.setCell (p := ⟨g1, a, none⟩) (by have := HG.out.1; show w.heap.size ≤ g1; omega) (.complex .f64 (fl 1099511627776) (fl 1099511627776)))
   clear hne
   go_wp2_with fail
   clear c1 c2
   refine (steps_calls (Kd.R_reads' HR2.out).2.2 (Kd.R_reads' HR2.out).2.1 HL.out b a (by have := HX.out.1; omega)).mono ?_
   rintro e w3 ⟨v3, rfl, hR3, hb3⟩
   have HC3 : Aside0 (RowC w3 g1 (CL a (1099511627776, 1099511627776) (lstE l b d))) := ⟨blk_below HC2.out hb3⟩
   have HF3 : Aside0 (RowF w3 g2 (FL a (0, 0) (lstE l b d))) := ⟨blk_below HF2.out hb3⟩
   have HR3 := Aside0.mk (Kd.R_below HR2.out hb3)
   have HB3 := Aside0.mk (below_step HB2.out hb3)
   have HS3 : Aside0 (Leaf.k172.R 172 w3 w.heap.size (fun k => k ≠ g1 ∧ k ≠ g2) v3 ((stp l b a).map toS)) := ⟨Kd.R_lower (Kd.R_mono (Kd.R_bound hR3) (fun k hk => by
    have h1 := hk.2.1
    rw [World.size_setCell] at h1
    have h2 := blk_lt HC0.out
    have h3 := blk_lt HF0.out
    exact ⟨by omega, by omega⟩)) (HB2.out.size)⟩
   obtain ⟨A3, c3, rfl, hc3, hC3⟩ := Kd.R_reads hR3
   have hln : ((stp l b a).map toS).length = (stp l b a).length := List.length_map ..
   have HLN := Aside0.mk hln
   rw [hln] at HS3
   have hsl : (stp l b a).length ≤ 1001 := by
    have h1 := stps_len (b.extract a b.size) l 0
    have h2 := HL.out
    unfold stp
    rw [List.length_append, List.length_singleton]
    omega
   have z6 : ((stp l b a).length : Int) ≤ 1001 := by omega
   clear hR3 hb3 hc3 hC3 hln
   go_wp2_with fail
   go_loopw [38] (fun v38 wq => ∃ (done rest : List (Int × Nat)) (cur : Ent), v38 = .int .i64 (done.length : Int) ∧ Aside0 (stp l b a = done ++ rest) ∧ Aside0 (rest.foldl (pick (lstE l b d)) cur = sel (lstE l b d) (stp l b a)) ∧ Aside0 (Sm cur.1) ∧ Aside0 (RowC wq g1 (CL a cur.1 (lstE l b d))) ∧ Aside0 (RowF wq g2 (FL a cur.2 (lstE l b d))) ∧ Aside0 (Kd.string.R 9 wq w.heap.size (fun k => k ≠ g1 ∧ k ≠ g2) (.slice A l.length c) l) ∧ Aside0 (Leaf.k172.R 172 wq w.heap.size (fun k => k ≠ g1 ∧ k ≠ g2) (.slice A3 (stp l b a).length c3) ((stp l b a).map toS)) ∧ Aside0 (Below w.heap.size w wq)) (fun v38 _ => (stp l b a).length - (intOf v38).toNat)
   case atStart => exact ⟨[], stp l b a, mostE, rfl, ⟨rfl⟩, ⟨rfl⟩, ⟨⟨by show 1099511627776 < 9007199254740992; omega, by show 1099511627776 < 9007199254740992; omega⟩⟩, HC3, HF3, HR3, HS3, HB3⟩
   case round =>
    obtain ⟨done, rest, cur, rfl, HST, HFO, HSM, HC, HF, HR, HS4, HB⟩ := hrel
    have hlen := congrArg List.length HST.out
    rw [List.length_append] at hlen
    cases rest with
    | nil =>
     rw [List.length_nil, Nat.add_zero] at hlen
     have d1 : decide ((done.length : Int) < ((stp l b a).length : Int)) = false := decide_eq_false (by omega)
     have d1' : decide (done.length < (stp l b a).length) = false := decide_eq_false (by omega)
     clear hlen
     go_wp2_with fail
     go_roundw
     case rel =>
      have h := row_next HX.out.1 HFO.out HC.out HF.out
      exact ⟨d + 1, congrArg (Value.int .i64) (by have := HX.out.1; omega), ⟨by have := HX.out.1; omega⟩, ⟨h.1⟩, ⟨h.2⟩, HR, HB⟩
     case measure =>
      show ((a : Int) - 1 + 1).toNat < ((a : Int) + 1).toNat
      omega
    | cons s r =>
     rw [List.length_cons] at hlen
     have d1 : decide ((done.length : Int) < ((stp l b a).length : Int)) = true := decide_eq_true (by omega)
     have d1' : decide (done.length < (stp l b a).length) = true := decide_eq_true (by omega)
     have p1 : (0 : Int) ≤ (done.length : Int) := by omega
     have p2 : (done.length : Int) < ((stp l b a).length : Int) := by omega
     have HLT := Aside0.mk (show done.length < (stp l b a).length by omega)
     have z7 : (done.length : Int) ≤ 1001 := by omega
     clear hlen
     have hget : (stp l b a)[done.length]? = some s := by
      rw [HST.out, List.getElem?_append_right (Nat.le_refl _), Nat.sub_self]
      rfl
     obtain ⟨ad, e3, k0, k1⟩ := Leaf.at_T172 (Kd.R_reads' HS4.out).2.2 (done.length : Int) p1 (by rw [List.length_map]; exact p2)
     have hrd : Leaf.rd_T172 ((stp l b a).map toS) (done.length : Int) = toS s := by
      unfold Leaf.rd_T172
      rw [Int.toNat_natCast, List.getD_eq_getElem?_getD, List.getElem?_map, hget]
      rfl
     rw [hrd, Int.toNat_natCast] at k0 k1
     subst e3
     have hfit := stp_fits HS.out b a (by have := HX.out.1; omega) s (List.mem_of_getElem? hget)
     obtain ⟨m, hm⟩ : ∃ m : Nat, s.1 = m := ⟨s.1.toNat, by have := hfit.1.1; omega⟩
     have hml : m < 4294967296 := by have := hfit.1.2; have := HL.out; omega
     obtain ⟨s1, s2⟩ := s
     have hm2 : s1 = (m : Int) := hm
     subst hm2
     have k0b : wr.cell? (ad.add (done.length * 2)) = some (.int .i64 (m : Int)) := k0
     have k1b : wr.cell? ⟨(ad.add (done.length * 2)).block, (ad.add (done.length * 2)).off + 1, none⟩ = some (.int .i64 (s2 : Int)) := k1
     clear k0 k1
     have hf2 : 1 ≤ s2 := hfit.2.1
     have hf3 : a + s2 ≤ b.size := hfit.2.2.2.1
     have hTl := lstE_len l b d
     have hTb := getD_bound (lstE_bound HL.out HS.out b (by have := HN.out.2; omega) d (by have := HX.out.1; omega)) (s2 - 1)
     have hce := HC.out.get (a + s2) _ (CL_at a cur.1 (lstE l b d) s2 hf2 (by have := HX.out.1; omega))
     have HCO := Aside0.mk (show costOf (lstE l b d) ((m : Int), s2) = (1 + ((lstE l b d).getD (s2 - 1) ent0).1.1, 8 * vl (m : Int) + ((lstE l b d).getD (s2 - 1) ent0).1.2) from rfl)
     have hv := vl_le (t := (m : Int)) (by omega)
     generalize (lstE l b d).getD (s2 - 1) ent0 = T0 at *
     obtain ⟨⟨x, y⟩, T00⟩ := T0
     have hx : x ≤ 10000 := by have h1 : x ≤ d := hTb.1; have := HN.out.2; have := HX.out.1; omega
     have hy : y ≤ 400000 := by have h1 : y ≤ 40 * d := hTb.2; have := HN.out.2; have := HX.out.1; omega
     have hadd := fun W => run_complex_sum (P := Tryz.prog) W .add (.inl rfl) 193 .f64 (fl 1) (fl (8 * vl (m : Int))) (fl x) (fl y) (fl (1 + x)) (fl (8 * vl (m : Int) + y)) (by
      unfold cSumBits floatBits
      rw [show FloatKind.f64.format = Ieee.double from rfl]
      simp only [add_fl (show 1 + x < 9007199254740992 by omega), add_fl (show 8 * vl (m : Int) + y < 9007199254740992 by omega), Option.bind_some])
     have q1 : (0 : Int) ≤ (a : Int) + (s2 : Int) := by omega
     have q2 : (a : Int) + (s2 : Int) < (b.size : Int) + 1 := by omega
     have q3 : ((a : Int) + (s2 : Int)).toNat = a + s2 := by omega
     have hcn : (wr.alloc (.cells #[.int .i64 (m : Int), .int .i64 (s2 : Int)] 172)).cell? ⟨g1, a + s2, none⟩ = some (.complex .f64 (fl x) (fl y)) := pw_cell_below (below_alloc (Below.refl _ _) _) hce
     have HCS := Aside0.mk (fun W => costof_calls hml W)
     have ka0 : (wr.alloc (.cells #[.int .i64 (m : Int), .int .i64 (s2 : Int)] 172)).drew.cell? ⟨wr.heap.size, 0, none⟩ = some (.int .i64 (m : Int)) := blk_cell (blk_drew (heap_alloc_new wr _)) 0
     have ka1 : (wr.alloc (.cells #[.int .i64 (m : Int), .int .i64 (s2 : Int)] 172)).drew.cell? ⟨wr.heap.size, 1, none⟩ = some (.int .i64 (s2 : Int)) := blk_cell (blk_drew (heap_alloc_new wr _)) 1
     have ka2 : (wr.alloc (.cells #[.int .i64 (m : Int), .int .i64 (s2 : Int)] 172)).drew.cell? ⟨g1, a + s2, none⟩ = some (.complex .f64 (fl x) (fl y)) := hcn
     have q0 : IntKind.i64.wrap ((a : Int) + (s2 : Int)) = (a : Int) + (s2 : Int) := IntWalk.i64_in _ (by omega)
     go_wp2_with fail
     go_region_held3 (fun w' => w'.cell? ⟨wr.heap.size, 0, none⟩ = some (.int .i64 (m : Int)) ∧ w'.cell? ⟨wr.heap.size, 1, none⟩ = some (.int .i64 (s2 : Int)) ∧ w'.cell? ⟨g1, a + s2, none⟩ = some (.complex .f64 (fl x) (fl y)))
      (first | go_keep | exact ⟨pw_cell_below hb4 (by assumption), pw_cell_below hb4 (by assumption), pw_cell_below hb4 (by assumption)⟩)
      (first | (go_at_call 175; refine (HCS.out _).mono ?_; rintro e w4 ⟨rfl, hb4⟩))
     clear q0 q1 q2 q3 hadd hcn ka0 ka1 ka2 hce k0b k1b
     have HC4 : Aside0 (RowC w4 g1 (CL a cur.1 (lstE l b d))) := ⟨blk_below (blk_drew (blk_alloc HC.out _)) hb4⟩
     have HF4 : Aside0 (RowF w4 g2 (FL a cur.2 (lstE l b d))) := ⟨blk_below (blk_drew (blk_alloc HF.out _)) hb4⟩
     have HR4 := Aside0.mk (Kd.R_below (Kd.R_drew (Kd.R_alloc HR.out (.cells #[.int .i64 (m : Int), .int .i64 (s2 : Int)] 172))) hb4)
     have HS5 := Aside0.mk (Kd.R_below (Kd.R_drew (Kd.R_alloc HS4.out (.cells #[.int .i64 (m : Int), .int .i64 (s2 : Int)] 172))) hb4)
     have HB4 := Aside0.mk (below_step (below_drew (below_alloc HB.out (.cells #[.int .i64 (m : Int), .int .i64 (s2 : Int)] 172))) hb4)
     have hn : w4.heap[wr.heap.size]? = some (.cells #[.int .i64 (m : Int), .int .i64 (s2 : Int)] 172 (0, 0)) := blk_below (blk_drew (heap_alloc_new wr _)) hb4
     have n0 : w4.cell? ⟨wr.heap.size, 0, none⟩ = some (.int .i64 (m : Int)) := blk_cell hn 0
     have n1 : w4.cell? ⟨wr.heap.size, 1, none⟩ = some (.int .i64 (s2 : Int)) := blk_cell hn 1
     have c0 := HC4.out.get a _ (CL_cur a cur.1 (lstE l b d))
     have HLE := Aside0.mk (fun (W : World) => less_calls (p := (1 + x, 8 * vl (m : Int) + y)) (q := cur.1) ⟨by show 1 + x < _; omega, by show 8 * vl (m : Int) + y < _; omega⟩ HSM.out W)
     have E1 := Aside0.mk (eq_fl (n := 1 + x) (m := cur.1.1) (by omega) HSM.out.1)
     have E2 := Aside0.mk (eq_fl (n := 8 * vl (m : Int) + y) (m := cur.1.2) (by omega) HSM.out.2)
     have HPK : Aside0 (pick (lstE l b d) cur ((m : Int), s2) = if less (1 + x, 8 * vl (m : Int) + y) cur.1 = true ∨ (1 + x, 8 * vl (m : Int) + y) = cur.1 ∧ cur.2.2 < s2 then ((1 + x, 8 * vl (m : Int) + y), ((m : Int), s2)) else cur) := ⟨by
      unfold pick
      rw [HCO.out]⟩
     have HSMN : Aside0 (Sm (1 + x, 8 * vl (m : Int) + y)) := ⟨⟨by show 1 + x < _; omega, by show 8 * vl (m : Int) + y < _; omega⟩⟩
     have hfo := HFO.out
     rw [List.foldl_cons] at hfo
     have HFO2 := Aside0.mk hfo
     have hstn : stp l b a = (done ++ [((m : Int), s2)]) ++ r := by rw [List.append_assoc]; exact HST.out
     have HST2 := Aside0.mk hstn
     clear hb4 hn hfo hstn hTl hTb hv hx hy hget hfit hml hf2 hf3 hrd
     generalize vl (m : Int) = v at *
     generalize 8 * v + y = cy at *
     generalize 1 + x = cx at *
     cases hle : less (cx, cy) cur.1 with
     | true =>
      rw [hle] at HLE
      have hpk := HPK.out
      rw [if_pos (.inl hle)] at hpk
      have HPK2 := Aside0.mk hpk
      clear hpk hle
      go_wp2_with fail
      go_quiet ((go_at_call 176; exact quiet_same (HLE.out _)))
      generalize hq : w4.drewN _ = w5
      have HC5 : Aside0 (RowC w5 g1 (CL a cur.1 (lstE l b d))) := ⟨by rw [← hq]; exact HC4.out⟩
      have HF5 : Aside0 (RowF w5 g2 (FL a cur.2 (lstE l b d))) := ⟨by rw [← hq]; exact HF4.out⟩
      have HR5 := Aside0.mk (show Kd.string.R 9 w5 w.heap.size (fun k => k ≠ g1 ∧ k ≠ g2) (.slice A l.length c) l by rw [← hq]; exact Kd.R_drewN HR4.out _)
      have HS6 := Aside0.mk (show Leaf.k172.R 172 w5 w.heap.size (fun k => k ≠ g1 ∧ k ≠ g2) (.slice (some ad) (stp l b a).length c3) ((stp l b a).map toS) by rw [← hq]; exact Kd.R_drewN HS5.out _)
      have HB5 := Aside0.mk (show Below w.heap.size w w5 by rw [← hq]; exact pw_below_drewN HB4.out _)
      have n0 : w5.cell? ⟨wr.heap.size, 0, none⟩ = some (.int .i64 (m : Int)) := by rw [← hq]; exact n0
      have n1 : w5.cell? ⟨wr.heap.size, 1, none⟩ = some (.int .i64 (s2 : Int)) := by rw [← hq]; exact n1
      clear hq c0 HC4 HF4 HR4 HS5 HB4
      have c0 := HC5.out.get a _ (CL_cur a cur.1 (lstE l b d))
      have cz := HC5.out.fz a
      have f0 := HF5.out.get0 a _ (FL_cur a cur.2 (lstE l b d))
      have f1 := HF5.out.get1 a _ (FL_cur a cur.2 (lstE l b d))
      have fz0 := HF5.out.fz (a * 2)
      have fz1 := HF5.out.fz (a * 2 + 1)
      have ne1 : g1 ≠ g2 := HNE.out
      have ne2 : g2 ≠ g1 := Ne.symm HNE.out
      have ne3 : wr.heap.size ≠ g1 := by have := blk_lt HC.out; omega
      have ne4 : wr.heap.size ≠ g2 := by have := blk_lt HF.out; omega
      go_wp2_with fail
      go_region
      go_wp2_with fail
      clear c0 cz f0 f1 fz0 fz1 ne3 ne4 n0 n1
      go_roundw
      case rel =>
       have hl2 : (done ++ [((m : Int), s2)]).length = done.length + 1 := by rw [List.length_append, List.length_singleton]
       have hgs : w.heap.size ≤ g1 ∧ w.heap.size ≤ g2 := by have := HG.out; omega
       refine ⟨done ++ [((m : Int), s2)], r, ((cx, cy), ((m : Int), s2)), by rw [hl2]; exact stepI _, HST2, ⟨by rw [← HPK2.out]; exact HFO2.out⟩, HSMN, ⟨?_⟩, ⟨?_⟩, ⟨?_⟩, ⟨?_⟩, ⟨?_⟩⟩
       ·have h := HC5.out.put a (cx, cy)
        rw [CL_set] at h
        exact blk_drew (blk_far (blk_far h ne1 _) ne1 _)
       ·have h := (show RowF (w5.setCell ⟨g1, a, none⟩ (.complex .f64 (fl cx) (fl cy))) g2 _ from blk_far HF5.out ne2 _).put a ((m : Int), s2)
        rw [FL_set] at h
        exact blk_drew h
       ·exact Kd.R_drew (Kd.R_far (Kd.R_far (Kd.R_far HR5.out (fun k hk => hk.1) _) (fun k hk => hk.2) _) (fun k hk => hk.2) _)
       ·exact Kd.R_drew (Kd.R_far (Kd.R_far (Kd.R_far HS6.out (fun k hk => hk.1) _) (fun k hk => hk.2) _) (fun k hk => hk.2) _)
       ·exact below_drew (((HB5.out.setCell hgs.1 _).setCell hgs.2 _).setCell hgs.2 _)
      case measure => have h1 := HLT.out; exact measI _ _ h1
     | false =>
      rw [hle] at HLE
      have e1 := E1.out
      have e2 := E2.out
      by_cases hq1 : (cx, cy) = cur.1
      ·have h1 : cx = cur.1.1 := congrArg Prod.fst hq1
       have h2 : cy = cur.1.2 := congrArg Prod.snd hq1
       have e1 : (FloatKind.f64.format.order (fl cx) (fl cur.1.1) == some .eq) = true := e1.trans (decide_eq_true h1)
       have e2 : (FloatKind.f64.format.order (fl cy) (fl cur.1.2) == some .eq) = true := e2.trans (decide_eq_true h2)
       have f1 := HF4.out.get1 a _ (FL_cur a cur.2 (lstE l b d))
       by_cases hq2 : cur.2.2 < s2
       ·have t1 : decide ((cur.2.2 : Int) < (s2 : Int)) = true := decide_eq_true (by omega)
        have t2 : decide (cur.2.2 < s2) = true := decide_eq_true hq2
        have hpk := HPK.out
        rw [if_pos (.inr ⟨hq1, hq2⟩)] at hpk
        have HPK2 := Aside0.mk hpk
        clear hpk hle hq1 hq2 h1 h2
        go_wp2_with fail
        go_quiet ((go_at_call 176; exact quiet_same (HLE.out _)))
        clear e1 e2 f1
        generalize hq : w4.drewN _ = w5
        have HC5 : Aside0 (RowC w5 g1 (CL a cur.1 (lstE l b d))) := ⟨by rw [← hq]; exact HC4.out⟩
        have HF5 : Aside0 (RowF w5 g2 (FL a cur.2 (lstE l b d))) := ⟨by rw [← hq]; exact HF4.out⟩
        have HR5 := Aside0.mk (show Kd.string.R 9 w5 w.heap.size (fun k => k ≠ g1 ∧ k ≠ g2) (.slice A l.length c) l by rw [← hq]; exact Kd.R_drewN HR4.out _)
        have HS6 := Aside0.mk (show Leaf.k172.R 172 w5 w.heap.size (fun k => k ≠ g1 ∧ k ≠ g2) (.slice (some ad) (stp l b a).length c3) ((stp l b a).map toS) by rw [← hq]; exact Kd.R_drewN HS5.out _)
        have HB5 := Aside0.mk (show Below w.heap.size w w5 by rw [← hq]; exact pw_below_drewN HB4.out _)
        have n0 : w5.cell? ⟨wr.heap.size, 0, none⟩ = some (.int .i64 (m : Int)) := by rw [← hq]; exact n0
        have n1 : w5.cell? ⟨wr.heap.size, 1, none⟩ = some (.int .i64 (s2 : Int)) := by rw [← hq]; exact n1
        clear hq c0 HC4 HF4 HR4 HS5 HB4
        have c0 := HC5.out.get a _ (CL_cur a cur.1 (lstE l b d))
        have cz := HC5.out.fz a
        have f0 := HF5.out.get0 a _ (FL_cur a cur.2 (lstE l b d))
        have f1 := HF5.out.get1 a _ (FL_cur a cur.2 (lstE l b d))
        have fz0 := HF5.out.fz (a * 2)
        have fz1 := HF5.out.fz (a * 2 + 1)
        have ne1 : g1 ≠ g2 := HNE.out
        have ne2 : g2 ≠ g1 := Ne.symm HNE.out
        have ne3 : wr.heap.size ≠ g1 := by have := blk_lt HC.out; omega
        have ne4 : wr.heap.size ≠ g2 := by have := blk_lt HF.out; omega
        go_wp2_with fail
        go_region
        go_wp2_with fail
        clear c0 cz f0 f1 fz0 fz1 ne3 ne4 n0 n1
        go_roundw
        case rel =>
         have hl2 : (done ++ [((m : Int), s2)]).length = done.length + 1 := by rw [List.length_append, List.length_singleton]
         have hgs : w.heap.size ≤ g1 ∧ w.heap.size ≤ g2 := by have := HG.out; omega
         refine ⟨done ++ [((m : Int), s2)], r, ((cx, cy), ((m : Int), s2)), by rw [hl2]; exact stepI _, HST2, ⟨by rw [← HPK2.out]; exact HFO2.out⟩, HSMN, ⟨?_⟩, ⟨?_⟩, ⟨?_⟩, ⟨?_⟩, ⟨?_⟩⟩
         ·have h := HC5.out.put a (cx, cy)
          rw [CL_set] at h
          exact blk_drew (blk_far (blk_far h ne1 _) ne1 _)
         ·have h := (show RowF (w5.setCell ⟨g1, a, none⟩ (.complex .f64 (fl cx) (fl cy))) g2 _ from blk_far HF5.out ne2 _).put a ((m : Int), s2)
          rw [FL_set] at h
          exact blk_drew h
         ·exact Kd.R_drew (Kd.R_far (Kd.R_far (Kd.R_far HR5.out (fun k hk => hk.1) _) (fun k hk => hk.2) _) (fun k hk => hk.2) _)
         ·exact Kd.R_drew (Kd.R_far (Kd.R_far (Kd.R_far HS6.out (fun k hk => hk.1) _) (fun k hk => hk.2) _) (fun k hk => hk.2) _)
         ·exact below_drew (((HB5.out.setCell hgs.1 _).setCell hgs.2 _).setCell hgs.2 _)
        case measure => have h1 := HLT.out; exact measI _ _ h1
       ·have t1 : decide ((cur.2.2 : Int) < (s2 : Int)) = false := decide_eq_false (by omega)
        have t2 : decide (cur.2.2 < s2) = false := decide_eq_false hq2
        have hpk := HPK.out
        rw [if_neg (by rw [hle]; simp [hq2])] at hpk
        have HPK2 := Aside0.mk hpk
        clear hpk hle hq1 hq2 h1 h2
        go_wp2_with fail
        go_quiet ((go_at_call 176; exact quiet_same (HLE.out _)))
        clear e1 e2 f1
        generalize hq : w4.drewN _ = w5
        have HC5 : Aside0 (RowC w5 g1 (CL a cur.1 (lstE l b d))) := ⟨by rw [← hq]; exact HC4.out⟩
        have HF5 : Aside0 (RowF w5 g2 (FL a cur.2 (lstE l b d))) := ⟨by rw [← hq]; exact HF4.out⟩
        have HR5 := Aside0.mk (show Kd.string.R 9 w5 w.heap.size (fun k => k ≠ g1 ∧ k ≠ g2) (.slice A l.length c) l by rw [← hq]; exact Kd.R_drewN HR4.out _)
        have HS6 := Aside0.mk (show Leaf.k172.R 172 w5 w.heap.size (fun k => k ≠ g1 ∧ k ≠ g2) (.slice (some ad) (stp l b a).length c3) ((stp l b a).map toS) by rw [← hq]; exact Kd.R_drewN HS5.out _)
        have HB5 := Aside0.mk (show Below w.heap.size w w5 by rw [← hq]; exact pw_below_drewN HB4.out _)
        have n0 : w5.cell? ⟨wr.heap.size, 0, none⟩ = some (.int .i64 (m : Int)) := by rw [← hq]; exact n0
        have n1 : w5.cell? ⟨wr.heap.size, 1, none⟩ = some (.int .i64 (s2 : Int)) := by rw [← hq]; exact n1
        clear hq c0 HC4 HF4 HR4 HS5 HB4
        clear n0 n1
        go_wp2_with fail
        go_roundw
        case rel =>
         have hl2 : (done ++ [((m : Int), s2)]).length = done.length + 1 := by rw [List.length_append, List.length_singleton]
         exact ⟨done ++ [((m : Int), s2)], r, cur, by rw [hl2]; exact stepI _, HST2, ⟨by rw [← HPK2.out]; exact HFO2.out⟩, HSM, HC5, HF5, HR5, HS6, HB5⟩
        case measure => have h1 := HLT.out; exact measI _ _ h1
      ·have hpk := HPK.out
       rw [if_neg (by rw [hle]; simp [hq1])] at hpk
       have HPK2 := Aside0.mk hpk
       have hor : ¬ (cx = cur.1.1 ∧ cy = cur.1.2) := fun h => hq1 (Prod.ext h.1 h.2)
       by_cases h1 : cx = cur.1.1
       ·have h2 : ¬ cy = cur.1.2 := fun h => hor ⟨h1, h⟩
        have e1 : (FloatKind.f64.format.order (fl cx) (fl cur.1.1) == some .eq) = true := e1.trans (decide_eq_true h1)
        have e2 : (FloatKind.f64.format.order (fl cy) (fl cur.1.2) == some .eq) = false := e2.trans (decide_eq_false h2)
        clear hpk hle hq1 h1 h2 hor
        go_wp2_with fail
        go_quiet ((go_at_call 176; exact quiet_same (HLE.out _)))
        clear e1 e2
        generalize hq : w4.drewN _ = w5
        have HC5 : Aside0 (RowC w5 g1 (CL a cur.1 (lstE l b d))) := ⟨by rw [← hq]; exact HC4.out⟩
        have HF5 : Aside0 (RowF w5 g2 (FL a cur.2 (lstE l b d))) := ⟨by rw [← hq]; exact HF4.out⟩
        have HR5 := Aside0.mk (show Kd.string.R 9 w5 w.heap.size (fun k => k ≠ g1 ∧ k ≠ g2) (.slice A l.length c) l by rw [← hq]; exact Kd.R_drewN HR4.out _)
        have HS6 := Aside0.mk (show Leaf.k172.R 172 w5 w.heap.size (fun k => k ≠ g1 ∧ k ≠ g2) (.slice (some ad) (stp l b a).length c3) ((stp l b a).map toS) by rw [← hq]; exact Kd.R_drewN HS5.out _)
        have HB5 := Aside0.mk (show Below w.heap.size w w5 by rw [← hq]; exact pw_below_drewN HB4.out _)
        have n0 : w5.cell? ⟨wr.heap.size, 0, none⟩ = some (.int .i64 (m : Int)) := by rw [← hq]; exact n0
        have n1 : w5.cell? ⟨wr.heap.size, 1, none⟩ = some (.int .i64 (s2 : Int)) := by rw [← hq]; exact n1
        clear hq c0 HC4 HF4 HR4 HS5 HB4
        clear n0 n1
        go_wp2_with fail
        go_roundw
        case rel =>
         have hl2 : (done ++ [((m : Int), s2)]).length = done.length + 1 := by rw [List.length_append, List.length_singleton]
         exact ⟨done ++ [((m : Int), s2)], r, cur, by rw [hl2]; exact stepI _, HST2, ⟨by rw [← HPK2.out]; exact HFO2.out⟩, HSM, HC5, HF5, HR5, HS6, HB5⟩
        case measure => have h1 := HLT.out; exact measI _ _ h1
       ·have e1 : (FloatKind.f64.format.order (fl cx) (fl cur.1.1) == some .eq) = false := e1.trans (decide_eq_false h1)
        clear hpk hle hq1 h1 hor e2
        go_wp2_with fail
        go_quiet ((go_at_call 176; exact quiet_same (HLE.out _)))
        clear e1
        generalize hq : w4.drewN _ = w5
        have HC5 : Aside0 (RowC w5 g1 (CL a cur.1 (lstE l b d))) := ⟨by rw [← hq]; exact HC4.out⟩
        have HF5 : Aside0 (RowF w5 g2 (FL a cur.2 (lstE l b d))) := ⟨by rw [← hq]; exact HF4.out⟩
        have HR5 := Aside0.mk (show Kd.string.R 9 w5 w.heap.size (fun k => k ≠ g1 ∧ k ≠ g2) (.slice A l.length c) l by rw [← hq]; exact Kd.R_drewN HR4.out _)
        have HS6 := Aside0.mk (show Leaf.k172.R 172 w5 w.heap.size (fun k => k ≠ g1 ∧ k ≠ g2) (.slice (some ad) (stp l b a).length c3) ((stp l b a).map toS) by rw [← hq]; exact Kd.R_drewN HS5.out _)
        have HB5 := Aside0.mk (show Below w.heap.size w w5 by rw [← hq]; exact pw_below_drewN HB4.out _)
        have n0 : w5.cell? ⟨wr.heap.size, 0, none⟩ = some (.int .i64 (m : Int)) := by rw [← hq]; exact n0
        have n1 : w5.cell? ⟨wr.heap.size, 1, none⟩ = some (.int .i64 (s2 : Int)) := by rw [← hq]; exact n1
        clear hq c0 HC4 HF4 HR4 HS5 HB4
        clear n0 n1
        go_wp2_with fail
        go_roundw
        case rel =>
         have hl2 : (done ++ [((m : Int), s2)]).length = done.length + 1 := by rw [List.length_append, List.length_singleton]
         exact ⟨done ++ [((m : Int), s2)], r, cur, by rw [hl2]; exact stepI _, HST2, ⟨by rw [← HPK2.out]; exact HFO2.out⟩, HSM, HC5, HF5, HR5, HS6, HB5⟩
        case measure => have h1 := HLT.out; exact measI _ _ h1
end Go.Proofs.YtepgkimlmoikmaaGreat
