/- ShR: a part of its proof (contracts of the functions that it reaches, and the plain mathematics behind them). -/
import Derived.Test.YtdpkgjahcapleaaGreatShR18
set_option linter.unusedVariables false
set_option linter.unusedSimpArgs false
set_option linter.unusedVariables false
set_option linter.unusedSimpArgs false
namespace Go.Proofs.YtdpkgjahcapleaaGreat
open Go.RowKit Go.Proofs.YtdpkgjahcapleaaGreat.Spec Go.Proofs.YtdpkgjahcapleaaGreatW.PrintWords Go.Proofs.YtdpkgjahcapleaaGreatW.PrintLast
open Go.Proofs.YtdpkgjahcapleaaGreatW.PrintMore
attribute [local go_sem ↓] Go.wp_at_zero Go.wp_at_succ
attribute [local go_sem] max2_int min2_int max_two min_two
set_option maxHeartbeats 2000000 in
set_option maxRecDepth 100000 in
theorem unframe_small (b : ByteArray) (hb : b.size ≤ 1000000000) (blk : Nat) (hs : b.size = 0 ∨ 2 < byteAt b 0 ∨ (byteAt b 0 = 0 ∧ b.size < 5 ∨ byteAt b 0 ≠ 0 ∧ b.size < 9) ∨ byteAt b 0 = 0) (w : World) :
    Calls Tryz.prog 47 #[.string b, .int .i64 (blk : Int)] w fun e w' => e = .returned (frV (frameR b blk)) ∧ Below w.heap.size w w' := by
  by_cases h0 : b.size = 0
  · have hr : frameR b blk = frBad 2 := by unfold frameR; rw [if_pos h0]
    rw [hr]
    have z2 : b.toList = [] := Bridge.empty_iff.2 h0
    have z1 : b.toList.isEmpty = true := by rw [z2]; rfl
    clear h0 hr hs
    go_enter Tryz.func47, Tryz.ntmps47
    go_wp2_with fail
    exact bodyPost_ret (v := frV (frBad 2)) (by simp [results, Tryz.results47, go_sem, frV, frBad]) rfl ⟨rfl, (Below.refl _ _).alloc (Nat.le_refl _) _⟩
  · have z1 := not_nil2 (b := b) (by omega)
    have z2 : ¬ b.toList = [] := by intro e; rw [e] at z1; cases z1
    have z0 : 0 < b.size := by omega
    have p0 : (0 : Int) < (b.size : Int) := by omega
    have q0 : ((b[0]'z0).toNat : Int) = (byteAt b 0 : Int) := by rw [byte_get z0]
    have hk := byte_lt b 0
    have HR : Aside0 (frameR b blk = _) := ⟨by unfold frameR; rw [if_neg h0]⟩
    generalize byteAt b 0 = kd at *
    have qw : wrap64 (kd : Int) = (kd : Int) := Bridge.wrN _ (by omega)
    by_cases h1 : 2 < kd
    · have hr := HR.out
      rw [if_pos h1] at hr
      rw [hr]
      have t1 : decide ((2 : Int) < (kd : Int)) = true := decide_eq_true (by omega)
      have t1' : decide (2 < kd) = true := decide_eq_true h1
      clear hr hs h1 HR h0 hk
      go_enter Tryz.func47, Tryz.ntmps47
      go_wp2_with fail
      exact bodyPost_ret (v := frV (frBad 3)) (by simp [results, Tryz.results47, go_sem, frV, frBad]) rfl ⟨rfl, (Below.refl _ _).alloc (Nat.le_refl _) _⟩
    · have t1 : decide ((2 : Int) < (kd : Int)) = false := decide_eq_false (by omega)
      have t1' : decide (2 < kd) = false := decide_eq_false h1
      by_cases h2 : kd = 0 ∧ b.size < 5 ∨ kd ≠ 0 ∧ b.size < 9
      · have hr := HR.out
        rw [if_neg h1, if_pos h2] at hr
        rw [hr]
        by_cases h3 : kd = 0
        · subst h3
          have t2 : decide ((b.size : Int) < 5) = true := decide_eq_true (by omega)
          have t2' : decide (b.size < 5) = true := decide_eq_true (by omega)
          clear hr hs h1 h2 HR h0 hk
          go_enter Tryz.func47, Tryz.ntmps47
          go_wp2_with fail
          exact bodyPost_ret (v := frV (frBad 2)) (by simp [results, Tryz.results47, go_sem, frV, frBad]) rfl ⟨rfl, (Below.refl _ _).alloc (Nat.le_refl _) _⟩
        · have t2 : decide ((b.size : Int) < 9) = true := decide_eq_true (by omega)
          have t2' : decide (b.size < 9) = true := decide_eq_true (by omega)
          have t3 : ((kd : Int) == 0) = false := beq_eq_false_iff_ne.2 (by omega)
          have t4 : ((kd : Int) != 0) = true := bne_iff_ne.2 (by omega)
          clear hr hs h1 h2 HR h0 hk h3
          go_enter Tryz.func47, Tryz.ntmps47
          go_wp2_with fail
          exact bodyPost_ret (v := frV (frBad 2)) (by simp [results, Tryz.results47, go_sem, frV, frBad]) rfl ⟨rfl, (Below.refl _ _).alloc (Nat.le_refl _) _⟩
      · have h3 : kd = 0 := by omega
        have hr := HR.out
        rw [if_neg h1, if_neg h2, if_pos h3] at hr
        rw [hr]
        subst h3
        have t2 : decide ((b.size : Int) < 5) = false := decide_eq_false (by omega)
        have t2' : decide (b.size < 5) = false := decide_eq_false (by omega)
        have p5 : (5 : Int) ≤ (b.size : Int) := by omega
        have hkb := ofB_ext b 1 5
        have HN := Aside0.mk (fun W => rof_calls (b.extract 1 5) (by rw [ext_sz b 1 5 (by omega)]; decide) W)
        generalize ofB (u (b.extract 1 5)) = k at *
        have q1 : IntKind.i64.wrap (k : Int) = (k : Int) := (i64_w _).trans (Bridge.wrN _ (by omega))
        clear hr hs h1 h2 HR h0 hk hkb
        go_enter Tryz.func47, Tryz.ntmps47
        go_wp2_with fail
        refine (HN.out _).mono ?_
        rintro e w1 ⟨rfl, ⟨⟨n1, rfl⟩⟩⟩
        go_wp2_with fail
        exact bodyPost_ret (v := frV ⟨0, k, 0, ⟨#[]⟩, 5, 0⟩) (by simp [results, Tryz.results47, go_sem, frV]) rfl ⟨rfl, by repeat (with_reducible first | exact Below.refl _ _ | apply below_alloc | apply below_drew | apply pw_below_drewN | refine below_set ?_ (Nat.le_refl _) _ _)⟩
theorem wrap_nine {n : Nat} (h : (n : Int) ≤ 65535) : wrap64 (9 + (n : Int)) = 9 + (n : Int) := (show wrap64 ((9 + n : Nat) : Int) = 9 + (n : Int) by rw [Bridge.wrN _ (by omega)]; omega)
attribute [local go_sem] wrap_nine
set_option maxHeartbeats 2000000 in
set_option maxRecDepth 100000 in
theorem unframe_big (b : ByteArray) (hb : b.size ≤ 1000000000) (blk : Nat) (hblk : blk ≤ 1024) (h9 : 9 ≤ b.size) (hk0 : byteAt b 0 ≠ 0) (hk2 : byteAt b 0 ≤ 2) (w : World) :
    Calls Tryz.prog 47 #[.string b, .int .i64 (blk : Int)] w fun e w' => e = .returned (frV (frameR b blk)) ∧ Below w.heap.size w w' := by
  have z1 := not_nil2 (b := b) (by omega)
  have z2 : ¬ b.toList = [] := by intro e; rw [e] at z1; cases z1
  have z0 : 0 < b.size := by omega
  have p0 : (0 : Int) < (b.size : Int) := by omega
  have q0 : ((b[0]'z0).toNat : Int) = (byteAt b 0 : Int) := by rw [byte_get z0]
  have HR : Aside0 (frameR b blk = _) := ⟨by unfold frameR; rw [if_neg (by omega), if_neg (by omega), if_neg (by omega), if_neg hk0]⟩
  generalize byteAt b 0 = kd at *
  have qw : wrap64 (kd : Int) = (kd : Int) := Bridge.wrN _ (by omega)
  have t1 : decide ((2 : Int) < (kd : Int)) = false := decide_eq_false (by omega)
  have t1' : decide (2 < kd) = false := decide_eq_false (by omega)
  have t2 : decide ((b.size : Int) < 9) = false := decide_eq_false (by omega)
  have t2' : decide (b.size < 9) = false := decide_eq_false (by omega)
  have t3 : ((kd : Int) == 0) = false := beq_eq_false_iff_ne.2 (by omega)
  have t4 : ((kd : Int) != 0) = true := bne_iff_ne.2 (by omega)
  have p9 : (9 : Int) ≤ (b.size : Int) := by omega
  have pb : (b.size : Int) ≤ 1000000000 := by omega
  have p5 : (5 : Int) ≤ (b.size : Int) := by omega
  have p3 : (3 : Int) ≤ (b.size : Int) := by omega
  have hr := ofB_ext b 1 3
  have hn := ofB_ext b 3 5
  have hsm := ofB_ext b 5 9
  have HN1 := Aside0.mk (fun W => rof_calls (b.extract 1 3) (by rw [ext_sz b 1 3 (by omega)]; decide) W)
  have HN2 := Aside0.mk (fun W => rof_calls (b.extract 3 5) (by rw [ext_sz b 3 5 (by omega)]; decide) W)
  have HN3 := Aside0.mk (fun W => rof_calls (b.extract 5 9) (by rw [ext_sz b 5 9 (by omega)]; decide) W)
  have q3 : IntKind.u32.wrap (ofB (u (b.extract 5 9)) : Int) = (ofB (u (b.extract 5 9)) : Int) := by rw [IntKind.wrap_u32]; omega
  generalize ofB (u (b.extract 1 3)) = r at *
  generalize ofB (u (b.extract 3 5)) = n at *
  generalize ofB (u (b.extract 5 9)) = sm at *
  have qk : IntKind.i64.wrap (kd : Int) = (kd : Int) := (i64_w _).trans (Bridge.wrN _ (by omega))
  have q1 : IntKind.i64.wrap (r : Int) = (r : Int) := (i64_w _).trans (Bridge.wrN _ (by omega))
  have q2 : IntKind.i64.wrap (n : Int) = (n : Int) := (i64_w _).trans (Bridge.wrN _ (by omega))
  have qm : min (blk : Int) 1024 = (blk : Int) := by omega
  have qm' : min blk 1024 = blk := by omega
  have HFT := Aside0.mk (fun W => rfits_calls kd r n blk hblk W)
  have H9 := Aside0.mk (And.intro h9 (And.intro hk0 (And.intro hk2 (And.intro hb (And.intro hr (And.intro hn hsm))))))
  clear h9 hk0 hk2 hb hr hn hsm hblk
  go_enter Tryz.func47, Tryz.ntmps47
  go_wp2_with fail
  go_region_held3 (fun w' => Below w.heap.size w w') (repeat (with_reducible first | exact Below.refl _ _ | apply below_alloc | apply below_drew | apply pw_below_drewN | refine below_set ?_ (Nat.le_refl _) _ _)) ((go_at_call 65; first | ((with_reducible refine (HN1.out _).mono ?_); rintro e w1 ⟨rfl, ⟨⟨n1, rfl⟩⟩⟩) | ((with_reducible refine (HN2.out _).mono ?_); rintro e w1 ⟨rfl, ⟨⟨n2, rfl⟩⟩⟩)))
  go_wp2_with fail
  have HWD : Aside0 (Below w.heap.size w ((w.alloc (.cells #[.int .i64 0, .int .i64 0, .int .u32 0, .string ⟨#[]⟩] 47)).drewN (1 + n1 + n2))) := ⟨by repeat (with_reducible first | exact Below.refl _ _ | apply below_alloc | apply below_drew | apply pw_below_drewN)⟩
  obtain ⟨h9, hk0, hk2, hb, hr, hn, hsm⟩ := H9.out
  have hrr := HR.out
  by_cases m1 : r ≤ blk ∧ fitsR kd r n
  · rw [decide_eq_true m1] at HFT
    rw [if_neg (by rintro (h | h); exact absurd m1.1 (by omega); exact h m1.2)] at hrr
    by_cases m3 : b.size - 9 < n
    · rw [if_pos m3] at hrr
      have HRR := Aside0.mk hrr
      have d2 : decide ((b.size : Int) < 9 + (n : Int)) = true := decide_eq_true (by omega)
      have d3 : decide ((b.size : Int) < (n : Int) + 9) = true := decide_eq_true (by omega)
      have u2 : (n : Int) ≤ 65535 := by omega
      clear h9 hk0 hk2 hb hr hn hsm hrr m1 m3
      refine (HFT.out _).mono ?_
      rintro e w3 ⟨rfl, ⟨⟨n3, rfl⟩⟩⟩
      go_wp2_with fail
      exact bodyPost_ret (v := frV (frBad 2)) (by simp [results, Tryz.results47, go_sem, frV, frBad, *]) rfl ⟨by rw [HRR.out], by repeat (with_reducible first | exact Below.refl _ _ | apply below_alloc | apply below_drew | apply pw_below_drewN | refine below_set ?_ (Nat.le_refl _) _ _)⟩
    · rw [if_neg m3] at hrr
      have HRR := Aside0.mk hrr
      have d2 : decide ((b.size : Int) < 9 + (n : Int)) = false := decide_eq_false (by omega)
      have d3 : decide ((b.size : Int) < (n : Int) + 9) = false := decide_eq_false (by omega)
      have u1 : (9 : Int) + (n : Int) ≤ (b.size : Int) := by omega
      have u2 : (n : Int) ≤ 65535 := by omega
      clear h9 hk0 hk2 hb hr hn hsm hrr m1 m3
      refine (HFT.out _).mono ?_
      rintro e w3 ⟨rfl, ⟨⟨n3, rfl⟩⟩⟩
      go_wp2_with fail
      have u3 : (9 : Int) ≤ 9 + (n : Int) := by omega
      have u4 : (0 : Int) ≤ 9 + (n : Int) := by omega
      have u5 : ¬ ((9 : Int) + (n : Int) < 0) := by omega
      have u6 : ¬ ((b.size : Int) < 9 + (n : Int)) := by omega
      have u7 : 9 + n ≤ b.size := by omega
      have u8 : IntKind.i64.wrap (9 + (n : Int)) = 9 + (n : Int) := (i64_w _).trans (wrap_nine u2)
      go_region_held3 (fun w' => Below w.heap.size w w') (repeat (with_reducible first | exact Below.refl _ _ | apply below_alloc | apply below_drew | apply pw_below_drewN | refine below_set ?_ (Nat.le_refl _) _ _)) ((go_at_call 65; ((with_reducible refine (HN3.out _).mono ?_); rintro e w1 ⟨rfl, ⟨⟨n4, rfl⟩⟩⟩)))
      all_goals
        go_wp2_with fail
        have u9 : (9 + (n : Int)).toNat = 9 + n := by omega
        exact bodyPost_ret (v := frV ⟨kd, r, sm, b.extract 9 (9 + n), 9 + n, 0⟩) (by simp [results, Tryz.results47, go_sem, frV, *]) rfl ⟨by rw [HRR.out], by repeat (with_reducible first | exact Below.refl _ _ | apply below_alloc | apply below_drew | apply pw_below_drewN | refine below_set ?_ (Nat.le_refl _) _ _)⟩
  · rw [decide_eq_false m1] at HFT
    rw [if_pos (by by_cases h : blk < r; exact .inl h; exact .inr (fun q => m1 ⟨by omega, q⟩))] at hrr
    have HRR := Aside0.mk hrr
    clear h9 hk0 hk2 hb hr hn hsm hrr m1
    refine (HFT.out _).mono ?_
    rintro e w3 ⟨rfl, ⟨⟨n3, rfl⟩⟩⟩
    go_wp2_with fail
    exact bodyPost_ret (v := frV (frBad 10)) (by simp [results, Tryz.results47, go_sem, frV, frBad, *]) rfl ⟨by rw [HRR.out], by repeat (with_reducible first | exact Below.refl _ _ | apply below_alloc | apply below_drew | apply pw_below_drewN | refine below_set ?_ (Nat.le_refl _) _ _)⟩
theorem unframe_calls (b : ByteArray) (hb : b.size ≤ 1000000000) (blk : Nat) (hblk : blk ≤ 1024) (w : World) :
    Calls Tryz.prog 47 #[.string b, .int .i64 (blk : Int)] w fun e w' => e = .returned (frV (frameR b blk)) ∧ Below w.heap.size w w' := by
  by_cases hs : b.size = 0 ∨ 2 < byteAt b 0 ∨ (byteAt b 0 = 0 ∧ b.size < 5 ∨ byteAt b 0 ≠ 0 ∧ b.size < 9) ∨ byteAt b 0 = 0
  · exact unframe_small b hb blk hs w
  · exact unframe_big b hb blk hblk (by omega) (by omega) (by omega) w
end Go.Proofs.YtdpkgjahcapleaaGreat
