/- ShR: a part of its proof (contracts of the functions that it reaches, and the plain mathematics behind them). -/
import Derived.Test.YtdpkgjahcapleaaGreatShR17
set_option linter.unusedVariables false
set_option linter.unusedSimpArgs false
set_option linter.unusedVariables false
set_option linter.unusedSimpArgs false
namespace Go.Proofs.YtdpkgjahcapleaaGreat
open Go.RowKit Go.Proofs.YtdpkgjahcapleaaGreat.Spec Go.Proofs.YtdpkgjahcapleaaGreatW.PrintWords Go.Proofs.YtdpkgjahcapleaaGreatW.PrintLast
open Go.Proofs.YtdpkgjahcapleaaGreatW.PrintMore
attribute [local go_sem ↓] Go.wp_at_zero Go.wp_at_succ
attribute [local go_sem] max2_int min2_int max_two min_two
set_option maxHeartbeats 2000000 in
set_option maxRecDepth 100000 in
theorem unhead_calls (b : ByteArray) (hb : b.size ≤ 1000000000) (w : World) :
    Calls Tryz.prog 44 #[.string b] w fun e w' => e = .returned (.tuple #[.agg #[.int .i64 ((headR b).c : Int), .int .i64 ((headR b).k : Int), .int .u64 ((headR b).id : Int)], .int .i64 ((headR b).e : Int)]) ∧ Below w.heap.size w w' := by
  by_cases h0 : b.size < 17
  · have hr : headR b = ⟨0, 0, 0, 2⟩ := by unfold headR; rw [if_pos h0]
    rw [hr]
    have d0 : decide ((b.size : Int) < 17) = true := decide_eq_true (by omega)
    have d0' : decide (b.size < 17) = true := decide_eq_true h0
    clear h0 hr
    go_enter Tryz.func44, Tryz.ntmps44
    go_wp2_with fail
    exact bodyPost_ret (v := .tuple #[.agg #[.int .i64 0, .int .i64 0, .int .u64 0], .int .i64 2]) (by simp [results, Tryz.results44, go_sem]) rfl ⟨rfl, (Below.refl _ _).alloc (Nat.le_refl _) _⟩
  · have d0 : decide ((b.size : Int) < 17) = false := decide_eq_false (by omega)
    have d0' : decide (b.size < 17) = false := decide_eq_false h0
    have hk := ofB_ext b 6 9
    have HN1 := Aside0.mk (fun W => rof_calls (b.extract 6 9) (by rw [ext_sz b 6 9 (by omega)]; decide) W)
    have HN2 := Aside0.mk (fun W => rof_calls (b.extract 9 17) (by rw [ext_sz b 9 17 (by omega)]; decide) W)
    have z5 : 5 < b.size := by omega
    have q0 : IntKind.i64.wrap (((b[5]'z5).toNat : Nat) : Int) = (byteAt b 5 : Int) := by rw [byte_get z5]; exact (i64_w _).trans (Bridge.wrN _ (by have := (b[5]'z5).toNat_lt; omega))
    have q1 : IntKind.i64.wrap (ofB (u (b.extract 6 9)) : Int) = (ofB (u (b.extract 6 9)) : Int) := (i64_w _).trans (Bridge.wrN _ (by omega))
    have HR : Aside0 (headR b = if b.extract 0 4 ≠ magicS ∨ byteAt b 4 ≠ 1 then ⟨0, 0, 0, 3⟩
  else if 1 < byteAt b 5 then ⟨0, 0, 0, 8⟩
  else if ofB (u (b.extract 6 9)) < 1 ∨ 1024 < ofB (u (b.extract 6 9)) then ⟨0, 0, 0, 4⟩
  else ⟨byteAt b 5, ofB (u (b.extract 6 9)), ofB (u (b.extract 9 17)), 0⟩) := ⟨by unfold headR; rw [if_neg h0]⟩
    generalize ofB (u (b.extract 6 9)) = k at *
    generalize ofB (u (b.extract 9 17)) = id at *
    have hc5 := byte_lt b 5
    generalize byteAt b 5 = c5 at *
    have p1 : (5 : Int) < (b.size : Int) := by omega
    have p2 : (4 : Int) < (b.size : Int) := by omega
    have p3 : (9 : Int) ≤ (b.size : Int) := by omega
    have p4 : (17 : Int) ≤ (b.size : Int) := by omega
    have H5 := Aside0.mk hc5
    have H6 := Aside0.mk hk
    have H0 := Aside0.mk h0
    clear hc5 hk h0
    go_enter Tryz.func44, Tryz.ntmps44
    go_upto_region 3 with fail
    go_cut [4] (fun v4 wx => v4 = .pointer (some ⟨w.heap.size + 1, 0, none⟩) ∧ Aside0 (wx.heap[w.heap.size + 1]? = some (.cells #[.int .i64 (c5 : Int), .int .i64 (k : Int), .int .u64 (id : Int)] 40 (0, 0))) ∧ Aside0 (wx.heap[w.heap.size]? = some (.cells #[.int .i64 0, .int .i64 0, .int .u64 0] 40 (0, 0))) ∧ Aside0 (Below w.heap.size w wx))
    case first =>
      go_region_held3 (fun w' => Below w.heap.size w w') (repeat (first | exact Below.refl _ _ | apply below_alloc | apply below_drew | apply pw_below_drewN | refine Below.setCell ?_ (Nat.le_succ _) _)) ((go_at_call 65; first | ((with_reducible refine (HN1.out _).mono ?_); rintro e w1 ⟨rfl, ⟨⟨n1, rfl⟩⟩⟩) | ((with_reducible refine (HN2.out _).mono ?_); rintro e w1 ⟨rfl, ⟨⟨n1, rfl⟩⟩⟩)))
      all_goals
        go_wp2_with fail
        go_meet
        refine ⟨rfl, ⟨?_⟩, ⟨?_⟩, ⟨?_⟩⟩
        · (try (with_reducible refine blk_put3 (a := .int .i64 0) (b := .int .i64 0) (c := .int .u64 0) ?_))
          repeat (with_reducible first | refine blk_drewN ?_ _ | refine blk_drew ?_ | (refine blk_new2 _ _ _ ?_; simp; done) | refine blk_alloc ?_ _)
        · repeat (with_reducible first | refine blk_drewN ?_ _ | refine blk_drew ?_ | (refine blk_new2 _ _ _ ?_; rfl) | refine blk_alloc ?_ _ | refine blk_far ?_ (by simp) _)
        · repeat (with_reducible first | exact Below.refl _ _ | apply below_alloc | apply below_drew | apply pw_below_drewN | refine below_set ?_ (Nat.le_succ _) _ _)
    case rest =>
      obtain ⟨rfl, HB1, HB0, HBW⟩ := hcut
      have c0 : wc.cell? ⟨w.heap.size + 1, 0, none⟩ = some (.int .i64 (c5 : Int)) := (blk_cell HB1.out 0).trans rfl
      have c1 : wc.cell? ⟨w.heap.size + 1, 1, none⟩ = some (.int .i64 (k : Int)) := (blk_cell HB1.out 1).trans rfl
      have c2 : wc.cell? ⟨w.heap.size + 1, 2, none⟩ = some (.int .u64 (id : Int)) := (blk_cell HB1.out 2).trans rfl
      have f0 := blk_frozen HB0.out 0
      have f1 := blk_frozen HB0.out 1
      have f2 := blk_frozen HB0.out 2
      have g0 : wc.cell? ⟨w.heap.size, 0, none⟩ = some (.int .i64 0) := (blk_cell HB0.out 0).trans rfl
      have g1 : wc.cell? ⟨w.heap.size, 1, none⟩ = some (.int .i64 0) := (blk_cell HB0.out 1).trans rfl
      have g2 : wc.cell? ⟨w.heap.size, 2, none⟩ = some (.int .u64 0) := (blk_cell HB0.out 2).trans rfl
      have hend : ∀ (x y z : Value), Below w.heap.size w (((wc.setCell ⟨w.heap.size, 0, none⟩ x).setCell ⟨w.heap.size, 1, none⟩ y).setCell ⟨w.heap.size, 2, none⟩ z) := fun x y z => below_set (below_set (below_set HBW.out (Nat.le_refl _) _ _) (Nat.le_refl _) _ _) (Nat.le_refl _) _ _
      have HEND := Aside0.mk hend
      clear hend
      have z4 : 4 < b.size := by omega
      by_cases m1 : b.extract 0 4 = magicS ∧ byteAt b 4 = 1
      · have t1 : ((b.extract 0 4).toList == [76, 88, 80, 72]) = true := beq_iff_eq.2 (by rw [m1.1, Bridge.toList_u]; rfl)
        have t2 : (((b[4]'z4).toNat : Int) == 1) = true := beq_iff_eq.2 (by rw [← byte_get z4, m1.2]; rfl)
        have t3 : (((b[4]'z4).toNat : Int) != 1) = false := by rw [bne, t2]; rfl
        have hr := HR.out
        rw [if_neg (by rw [m1.1, m1.2]; simp)] at hr
        clear m1
        by_cases m2 : 1 < c5
        · rw [if_pos m2] at hr
          have HRR := Aside0.mk hr
          have t4 : decide ((1 : Int) < (c5 : Int)) = true := decide_eq_true (by omega)
          have t5 : decide (1 < c5) = true := decide_eq_true m2
          clear hr m2
          go_wp2_with fail
          exact bodyPost_ret (v := .tuple #[.agg #[.int .i64 0, .int .i64 0, .int .u64 0], .int .i64 8]) (by simp [results, Tryz.results44, go_sem, *]) rfl ⟨by rw [HRR.out]; rfl, HEND.out _ _ _⟩
        · rw [if_neg m2] at hr
          have t4 : decide ((1 : Int) < (c5 : Int)) = false := decide_eq_false (by omega)
          have t5 : decide (1 < c5) = false := decide_eq_false m2
          by_cases m3 : k < 1
          · rw [if_pos (.inl m3)] at hr
            have HRR := Aside0.mk hr
            have t6 : decide ((k : Int) < 1) = true := decide_eq_true (by omega)
            have t7 : decide (k < 1) = true := decide_eq_true m3
            have t8 : decide (k = 0) = true := decide_eq_true (by omega)
            have t9 : k = 0 := by omega
            clear hr m2 m3
            subst t9
            go_wp2_with fail
            exact bodyPost_ret (v := .tuple #[.agg #[.int .i64 0, .int .i64 0, .int .u64 0], .int .i64 4]) (by simp [results, Tryz.results44, go_sem, *]) rfl ⟨by rw [HRR.out]; rfl, HEND.out _ _ _⟩
          · have t6 : decide ((k : Int) < 1) = false := decide_eq_false (by omega)
            have t7 : decide (k < 1) = false := decide_eq_false m3
            have t8 : decide (k = 0) = false := decide_eq_false (by omega)
            have t8' : ¬ k = 0 := by omega
            by_cases m4 : 1024 < k
            · rw [if_pos (.inr m4)] at hr
              have HRR := Aside0.mk hr
              have t9 : decide ((1024 : Int) < (k : Int)) = true := decide_eq_true (by omega)
              have t10 : decide (1024 < k) = true := decide_eq_true m4
              clear hr m2 m3 m4
              go_wp2_with fail
              exact bodyPost_ret (v := .tuple #[.agg #[.int .i64 0, .int .i64 0, .int .u64 0], .int .i64 4]) (by simp [results, Tryz.results44, go_sem, *]) rfl ⟨by rw [HRR.out]; rfl, HEND.out _ _ _⟩
            · rw [if_neg (by omega)] at hr
              have HRR := Aside0.mk hr
              have t9 : decide ((1024 : Int) < (k : Int)) = false := decide_eq_false (by omega)
              have t10 : decide (1024 < k) = false := decide_eq_false m4
              clear hr m2 m3 m4
              go_wp2_with fail
              exact bodyPost_ret (v := .tuple #[.agg #[.int .i64 (c5 : Int), .int .i64 (k : Int), .int .u64 (id : Int)], .int .i64 0]) (by simp [results, Tryz.results44, go_sem, *]) rfl ⟨by rw [HRR.out]; rfl, HEND.out _ _ _⟩
      · have hr := HR.out
        rw [if_pos (by by_cases q : b.extract 0 4 = magicS; exact .inr (fun e => m1 ⟨q, e⟩); exact .inl q)] at hr
        have HRR := Aside0.mk hr
        by_cases q : b.extract 0 4 = magicS
        · have t1 : ((b.extract 0 4).toList == [76, 88, 80, 72]) = true := beq_iff_eq.2 (by rw [q, Bridge.toList_u]; rfl)
          have hne : ¬ ((b[4]'z4).toNat : Int) = 1 := fun e => m1 ⟨q, by rw [byte_get z4]; omega⟩
          have t2 : (((b[4]'z4).toNat : Int) == 1) = false := beq_eq_false_iff_ne.2 hne
          have t3 : (((b[4]'z4).toNat : Int) != 1) = true := bne_iff_ne.2 hne
          clear hr m1 q hne
          go_wp2_with fail
          exact bodyPost_ret (v := .tuple #[.agg #[.int .i64 0, .int .i64 0, .int .u64 0], .int .i64 3]) (by simp [results, Tryz.results44, go_sem, *]) rfl ⟨by rw [HRR.out]; rfl, HEND.out _ _ _⟩
        · have t1 : ((b.extract 0 4).toList == [76, 88, 80, 72]) = false := beq_eq_false_iff_ne.2 (fun e => q (u_inj (by rw [← Bridge.toList_u, e]; rfl)))
          clear hr m1 q
          go_wp2_with fail
          exact bodyPost_ret (v := .tuple #[.agg #[.int .i64 0, .int .i64 0, .int .u64 0], .int .i64 3]) (by simp [results, Tryz.results44, go_sem, *]) rfl ⟨by rw [HRR.out]; rfl, HEND.out _ _ _⟩
end Go.Proofs.YtdpkgjahcapleaaGreat
