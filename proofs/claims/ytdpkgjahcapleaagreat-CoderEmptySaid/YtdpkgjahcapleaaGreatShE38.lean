/- ShE: a part of its proof (contracts of the functions that it reaches, and the plain mathematics behind them). -/
import Derived.Test.YtdpkgjahcapleaaGreatShE26
import Derived.Deep.RegionHeld3
import Derived.Deep.DeepCutAuto
set_option linter.unusedVariables false
set_option linter.unusedSimpArgs false
set_option linter.unusedVariables false
set_option linter.unusedSimpArgs false
namespace Go.Proofs.YtdpkgjahcapleaaGreat
open Go.RowKit Go.Proofs.YtdpkgjahcapleaaGreat.Spec Go.Proofs.YtdpkgjahcapleaaGreatW.PrintWords Go.Proofs.YtdpkgjahcapleaaGreatW.PrintLast
open Go.Proofs.YtdpkgjahcapleaaGreatW.PrintMore
attribute [local go_sem ↓] Go.wp_at_zero Go.wp_at_succ
attribute [local go_sem] max2_int min2_int max_two min_two
theorem byte_get {b : ByteArray} {i : Nat} (h : i < b.size) : byteAt b i = (b[i]).toNat := by
  unfold byteAt
  rw [List.getD_eq_getElem?_getD, List.getElem?_eq_getElem (by rw [u_size]; exact h)]
  rfl
theorem byte_lt (b : ByteArray) (i : Nat) : byteAt b i < 256 := by
  unfold byteAt
  exact UInt8.toNat_lt _
theorem blk_new2 (w : World) (o : Obj) (g : Nat) (h : g = w.heap.size) : (w.alloc o).heap[g]? = some o := by subst h; exact blk_new w o
theorem below_set {w W : World} (h : Below w.heap.size w W) {g : Nat} (hg : w.heap.size ≤ g) (i : Nat) (v : Value) : Below w.heap.size w (W.setCell ⟨g, i, none⟩ v) := h.setCell hg v
theorem blk_put3 {w : World} {g t : Nat} {a b c a' b' c' : Value} (h : w.heap[g]? = some (.cells #[a, b, c] t (0, 0))) : (((w.setCell ⟨g, 0, none⟩ a').setCell ⟨g, 1, none⟩ b').setCell ⟨g, 2, none⟩ c').heap[g]? = some (.cells #[a', b', c'] t (0, 0)) := blk_put (blk_put (blk_put h 0 a' rfl) 1 b' rfl) 2 c' rfl
set_option maxHeartbeats 2000000 in
set_option maxRecDepth 100000 in
theorem getHead_calls (b : ByteArray) (hb : b.size ≤ 1000000000) (w : World) :
    Calls Tryz.prog 88 #[.string b] w fun e w' => e = .returned (.tuple #[.agg #[.int .i64 ((headR b).c : Int), .int .i64 ((headR b).k : Int), .int .u64 ((headR b).id : Int)], .int .i64 ((headR b).e : Int)]) ∧ Below w.heap.size w w' := by
  by_cases h0 : b.size < 17
  · have hr : headR b = ⟨0, 0, 0, 2⟩ := by unfold headR; rw [if_pos h0]
    rw [hr]
    have d0 : decide ((b.size : Int) < 17) = true := decide_eq_true (by omega)
    have d0' : decide (b.size < 17) = true := decide_eq_true h0
    clear h0 hr
    go_enter Tryz.func88, Tryz.ntmps88
    go_wp2_with fail
    exact bodyPost_ret (v := .tuple #[.agg #[.int .i64 0, .int .i64 0, .int .u64 0], .int .i64 2]) (by simp [results, Tryz.results88, go_sem]) rfl ⟨rfl, (Below.refl _ _).alloc (Nat.le_refl _) _⟩
  · have d0 : decide ((b.size : Int) < 17) = false := decide_eq_false (by omega)
    have d0' : decide (b.size < 17) = false := decide_eq_false h0
    have hk := ofB_ext b 6 9
    have HN1 := Aside0.mk (fun W => fnum_calls (b.extract 6 9) (by rw [ext_sz b 6 9 (by omega)]; decide) W)
    have HN2 := Aside0.mk (fun W => fnum_calls (b.extract 9 17) (by rw [ext_sz b 9 17 (by omega)]; decide) W)
    have z5 : 5 < b.size := by omega
    have q0 : IntKind.i64.wrap (((b[5]'z5).toNat : Nat) : Int) = (byteAt b 5 : Int) := by rw [byte_get z5]; exact (i64_w _).trans (Bridge.wrN _ (by have := (b[5]'z5).toNat_lt; omega))
    have q1 : IntKind.i64.wrap (ofB (u (b.extract 6 9)) : Int) = (ofB (u (b.extract 6 9)) : Int) := (i64_w _).trans (Bridge.wrN _ (by omega))
    have HR : Aside0 (headR b = if b.extract 0 4 ≠ magicS ∨ byteAt b 4 ≠ 1 then ⟨0, 0, 0, 3⟩
  else if 1 < byteAt b 5 then ⟨0, 0, 0, 8⟩
  else if ofB (u (b.extract 6 9)) < 1 ∨ 1024 < ofB (u (b.extract 6 9)) then ⟨0, 0, 0, 4⟩
  else ⟨byteAt b 5, ofB (u (b.extract 6 9)), ofB (u (b.extract 9 17)), 0⟩) := ⟨by unfold headR; rw [if_neg h0]⟩
    generalize ofB (u (b.extract 6 9)) = k at *
    generalize ofB (u (b.extract 9 17)) = id at *
    have hc5 := byte_lt b 5
    generalize byteAt b 5 = c5 at *
    have p1 : (5 : Int) < (b.size : Int) := by omega
    have p2 : (4 : Int) < (b.size : Int) := by omega
    have p3 : (9 : Int) ≤ (b.size : Int) := by omega
    have p4 : (17 : Int) ≤ (b.size : Int) := by omega
    have H5 := Aside0.mk hc5
    have H6 := Aside0.mk hk
    have H0 := Aside0.mk h0
    clear hc5 hk h0
    go_enter Tryz.func88, Tryz.ntmps88
    go_upto_region 3 with fail
    go_cut [4] (fun v4 wx => v4 = .pointer (some ⟨w.heap.size + 1, 0, none⟩) ∧ Aside0 (wx.heap[w.heap.size + 1]? = some (.cells #[.int .i64 (c5 : Int), .int .i64 (k : Int), .int .u64 (id : Int)] 40 (0, 0))) ∧ Aside0 (wx.heap[w.heap.size]? = some (.cells #[.int .i64 0, .int .i64 0, .int .u64 0] 40 (0, 0))) ∧ Aside0 (Below w.heap.size w wx))
    case first =>
      go_region_held3 (fun w' => Below w.heap.size w w') (repeat (first | exact Below.refl _ _ | apply below_alloc | apply below_drew | apply pw_below_drewN | refine Below.setCell ?_ (Nat.le_succ _) _)) ((go_at_call 89; first | ((with_reducible refine (HN1.out _).mono ?_); rintro e w1 ⟨rfl, ⟨⟨n1, rfl⟩⟩⟩) | ((with_reducible refine (HN2.out _).mono ?_); rintro e w1 ⟨rfl, ⟨⟨n1, rfl⟩⟩⟩)))
      all_goals
        go_wp2_with fail
        go_meet
        refine ⟨rfl, ⟨?_⟩, ⟨?_⟩, ⟨?_⟩⟩
        · (try (with_reducible refine blk_put3 (a := .int .i64 0) (b := .int .i64 0) (c := .int .u64 0) ?_))
          repeat (with_reducible first | refine blk_drewN ?_ _ | refine blk_drew ?_ | (refine blk_new2 _ _ _ ?_; simp; done) | refine blk_alloc ?_ _)
        · repeat (with_reducible first | refine blk_drewN ?_ _ | refine blk_drew ?_ | (refine blk_new2 _ _ _ ?_; rfl) | refine blk_alloc ?_ _ | refine blk_far ?_ (by simp) _)
        · repeat (with_reducible first | exact Below.refl _ _ | apply below_alloc | apply below_drew | apply pw_below_drewN | refine below_set ?_ (Nat.le_succ _) _ _)
    case rest =>
      obtain ⟨rfl, HB1, HB0, HBW⟩ := hcut
      have c0 : wc.cell? ⟨w.heap.size + 1, 0, none⟩ = some (.int .i64 (c5 : Int)) := (blk_cell HB1.out 0).trans rfl
      have c1 : wc.cell? ⟨w.heap.size + 1, 1, none⟩ = some (.int .i64 (k : Int)) := (blk_cell HB1.out 1).trans rfl
      have c2 : wc.cell? ⟨w.heap.size + 1, 2, none⟩ = some (.int .u64 (id : Int)) := (blk_cell HB1.out 2).trans rfl
      have f0 := blk_frozen HB0.out 0
      have f1 := blk_frozen HB0.out 1
      have f2 := blk_frozen HB0.out 2
      have g0 : wc.cell? ⟨w.heap.size, 0, none⟩ = some (.int .i64 0) := (blk_cell HB0.out 0).trans rfl
      have g1 : wc.cell? ⟨w.heap.size, 1, none⟩ = some (.int .i64 0) := (blk_cell HB0.out 1).trans rfl
      have g2 : wc.cell? ⟨w.heap.size, 2, none⟩ = some (.int .u64 0) := (blk_cell HB0.out 2).trans rfl
      have HSZ := Aside0.mk (fun W => Leaf.frame_size.calls (k : Int) (decide (1 ≤ k ∧ k ≤ 1024)) W (by unfold Leaf.frame_size.f; split <;> (congr 1; first | (rw [decide_eq_decide]; omega) | (symm; rw [decide_eq_false_iff_not]; omega))))
      have hend : ∀ (W : World) (x y z : Value), Below wc.heap.size wc W → Below w.heap.size w (((W.setCell ⟨w.heap.size, 0, none⟩ x).setCell ⟨w.heap.size, 1, none⟩ y).setCell ⟨w.heap.size, 2, none⟩ z) := fun W x y z hW => below_set (below_set (below_set (below_step HBW.out hW) (Nat.le_refl _) _ _) (Nat.le_refl _) _ _) (Nat.le_refl _) _ _
      have HEND := Aside0.mk hend
      clear hend
      have z4 : 4 < b.size := by omega
      by_cases m1 : b.extract 0 4 = magicS ∧ byteAt b 4 = 1
      · have t1 : ((b.extract 0 4).toList == [76, 88, 80, 72]) = true := beq_iff_eq.2 (by rw [m1.1, Bridge.toList_u]; rfl)
        have t2 : (((b[4]'z4).toNat : Int) == 1) = true := beq_iff_eq.2 (by rw [← byte_get z4, m1.2]; rfl)
        have t3 : (((b[4]'z4).toNat : Int) != 1) = false := by rw [bne, t2]; rfl
        have hr := HR.out
        rw [if_neg (by rw [m1.1, m1.2]; simp)] at hr
        clear m1
        by_cases m2 : 1 < c5
        · rw [if_pos m2] at hr
          have HRR := Aside0.mk hr
          have t4 : ((c5 : Int) != 0) = true := bne_iff_ne.2 (by omega)
          have t5 : ((c5 : Int) != 1) = true := bne_iff_ne.2 (by omega)
          clear hr m2
          go_wp2_with fail
          exact bodyPost_ret (v := .tuple #[.agg #[.int .i64 0, .int .i64 0, .int .u64 0], .int .i64 8]) (by simp [results, Tryz.results88, go_sem, *]) rfl ⟨by rw [HRR.out]; rfl, HEND.out _ _ _ _ (Below.refl _ _)⟩
        · rw [if_neg m2] at hr
          by_cases m3 : k < 1 ∨ 1024 < k
          · rw [if_pos m3] at hr
            have HRR := Aside0.mk hr
            rw [decide_eq_false (by omega)] at HSZ
            have hc2 : c5 = 0 ∨ c5 = 1 := by omega
            clear hr m2 m3
            rcases hc2 with rfl | rfl
            all_goals
              go_wp2_with fail
              refine (HSZ.out _).mono ?_
              rintro e w2 ⟨rfl, hb2⟩
              have h0 := pw_cell_below hb2.below g0
              have h1 := pw_cell_below hb2.below g1
              have h2 := pw_cell_below hb2.below g2
              have e0 := (hb2.below.frozen (p := ⟨w.heap.size, 0, none⟩) (blk_lt HB0.out)).trans f0
              have e1 := (hb2.below.frozen (p := ⟨w.heap.size, 1, none⟩) (blk_lt HB0.out)).trans f1
              have e2 := (hb2.below.frozen (p := ⟨w.heap.size, 2, none⟩) (blk_lt HB0.out)).trans f2
              have HB2 := Aside0.mk hb2.below
              clear hb2
              go_wp2_with fail
              exact bodyPost_ret (v := .tuple #[.agg #[.int .i64 0, .int .i64 0, .int .u64 0], .int .i64 4]) (by simp [results, Tryz.results88, go_sem, *]) rfl ⟨by rw [HRR.out]; rfl, HEND.out _ _ _ _ HB2.out⟩
          · rw [if_neg m3] at hr
            have HRR := Aside0.mk hr
            rw [decide_eq_true (by omega)] at HSZ
            have hc2 : c5 = 0 ∨ c5 = 1 := by omega
            clear hr m2 m3
            rcases hc2 with rfl | rfl
            all_goals
              go_wp2_with fail
              refine (HSZ.out _).mono ?_
              rintro e w2 ⟨rfl, hb2⟩
              have h0 := pw_cell_below hb2.below g0
              have h1 := pw_cell_below hb2.below g1
              have h2 := pw_cell_below hb2.below g2
              have i0 := pw_cell_below hb2.below c0
              have i1 := pw_cell_below hb2.below c1
              have i2 := pw_cell_below hb2.below c2
              have e0 := (hb2.below.frozen (p := ⟨w.heap.size, 0, none⟩) (blk_lt HB0.out)).trans f0
              have e1 := (hb2.below.frozen (p := ⟨w.heap.size, 1, none⟩) (blk_lt HB0.out)).trans f1
              have e2 := (hb2.below.frozen (p := ⟨w.heap.size, 2, none⟩) (blk_lt HB0.out)).trans f2
              have HB2 := Aside0.mk hb2.below
              clear hb2
              go_wp2_with fail
              first | exact bodyPost_ret (v := .tuple #[.agg #[.int .i64 0, .int .i64 (k : Int), .int .u64 (id : Int)], .int .i64 0]) (by simp [results, Tryz.results88, go_sem, *]) rfl ⟨by rw [HRR.out]; rfl, HEND.out _ _ _ _ HB2.out⟩ | exact bodyPost_ret (v := .tuple #[.agg #[.int .i64 1, .int .i64 (k : Int), .int .u64 (id : Int)], .int .i64 0]) (by simp [results, Tryz.results88, go_sem, *]) rfl ⟨by rw [HRR.out]; rfl, HEND.out _ _ _ _ HB2.out⟩
      · have hr := HR.out
        rw [if_pos (by by_cases q : b.extract 0 4 = magicS; exact .inr (fun e => m1 ⟨q, e⟩); exact .inl q)] at hr
        have HRR := Aside0.mk hr
        by_cases q : b.extract 0 4 = magicS
        · have t1 : ((b.extract 0 4).toList == [76, 88, 80, 72]) = true := beq_iff_eq.2 (by rw [q, Bridge.toList_u]; rfl)
          have hne : ¬ ((b[4]'z4).toNat : Int) = 1 := fun e => m1 ⟨q, by rw [byte_get z4]; omega⟩
          have t2 : (((b[4]'z4).toNat : Int) == 1) = false := beq_eq_false_iff_ne.2 hne
          have t3 : (((b[4]'z4).toNat : Int) != 1) = true := bne_iff_ne.2 hne
          clear hr m1 q hne
          go_wp2_with fail
          exact bodyPost_ret (v := .tuple #[.agg #[.int .i64 0, .int .i64 0, .int .u64 0], .int .i64 3]) (by simp [results, Tryz.results88, go_sem, *]) rfl ⟨by rw [HRR.out]; rfl, HEND.out _ _ _ _ (Below.refl _ _)⟩
        · have t1 : ((b.extract 0 4).toList == [76, 88, 80, 72]) = false := beq_eq_false_iff_ne.2 (fun e => q (u_inj (by rw [← Bridge.toList_u, e]; rfl)))
          clear hr m1 q
          go_wp2_with fail
          exact bodyPost_ret (v := .tuple #[.agg #[.int .i64 0, .int .i64 0, .int .u64 0], .int .i64 3]) (by simp [results, Tryz.results88, go_sem, *]) rfl ⟨by rw [HRR.out]; rfl, HEND.out _ _ _ _ (Below.refl _ _)⟩
end Go.Proofs.YtdpkgjahcapleaaGreat
set_option linter.unusedVariables false
set_option linter.unusedSimpArgs false
namespace Go.Proofs.YtdpkgjahcapleaaGreat
open Go.RowKit Go.Proofs.YtdpkgjahcapleaaGreat.Spec Go.Proofs.YtdpkgjahcapleaaGreatW.PrintWords Go.Proofs.YtdpkgjahcapleaaGreatW.PrintLast
open Go.Proofs.YtdpkgjahcapleaaGreatW.PrintMore
attribute [local go_sem ↓] Go.wp_at_zero Go.wp_at_succ
attribute [local go_sem] max2_int min2_int max_two min_two
end Go.Proofs.YtdpkgjahcapleaaGreat
