/- ShX: a part of its proof (contracts of the functions that it reaches, and the plain mathematics behind them). -/
import Derived.Test.YtepgkimlmoikmaaShX41
set_option linter.unusedVariables false
set_option linter.unusedSimpArgs false
set_option linter.unusedVariables false
set_option linter.unusedSimpArgs false
namespace Go.Proofs.Ytepgkimlmoikmaa
open Go.RowKit Go.Proofs.Ytepgkimlmoikmaa.Spec Go.Proofs.YtepgkimlmoikmaaW.PrintWords Go.Proofs.YtepgkimlmoikmaaW.PrintLast
open Go.Proofs.YtepgkimlmoikmaaW.PrintMore
attribute [local go_sem ↓] Go.wp_at_zero Go.wp_at_succ
attribute [local go_sem] max2_int min2_int max_two min_two
set_option maxHeartbeats 2000000 in
set_option maxRecDepth 100000 in
theorem put_no (P : Value) (p q k wd : Int) (b : ByteArray) (h : ¬ (cfgB p q k wd = true ∧ 1 ≤ b.size ∧ (b.size : Int) ≤ k)) (w : World) :
  Calls Try.prog 9 #[P, .agg #[.int .i64 p, .int .i64 q, .int .i64 k, .int .i64 wd], .string b] w fun e w' => e = .returned (.tuple #[.int .i64 0, .string ⟨#[]⟩, .int .i64 1]) ∧ Below w.heap.size w w' := by
 have HT := Aside0.mk (fun W => tokens_no P p q k wd b h W)
 clear h
 go_enter Try.func9, Try.ntmps9
 go_wp2_with fail
 refine (HT.out _).mono ?_
 rintro e w1 ⟨rfl, hb1⟩
 have H1 := Aside0.mk (below_step (below_alloc (Below.refl _ _) _) hb1)
 clear hb1
 go_wp2_with fail
 go_ret3
 exact ⟨rfl, H1.out⟩
set_option maxHeartbeats 2000000 in
set_option maxRecDepth 100000 in
theorem blockRight_law (p q k wd : Int) (b : ByteArray) (w : World) (hb : b.size ≤ 140737488351232) :
  Calls Try.prog 3 #[.agg #[.int .i64 p, .int .i64 q, .int .i64 k, .int .i64 wd], .string b] w fun e w' => e = .returned (.bool true) ∧ Below w.heap.size w w' := by
 have HAL := Aside0.mk (fun W => alive22 W)
 have HRT := Aside0.mk (fun W => right_calls p q k wd W)
 have s0 : (w.alloc (.cells #[.int .i64 p, .int .i64 q, .int .i64 k, .int .i64 wd] 23)).cell? ⟨w.heap.size, 0, none⟩ = some (.int .i64 p) := by simp
 have s1 : (w.alloc (.cells #[.int .i64 p, .int .i64 q, .int .i64 k, .int .i64 wd] 23)).cell? ⟨w.heap.size, 1, none⟩ = some (.int .i64 q) := by simp
 have s2 : (w.alloc (.cells #[.int .i64 p, .int .i64 q, .int .i64 k, .int .i64 wd] 23)).cell? ⟨w.heap.size, 2, none⟩ = some (.int .i64 k) := by simp
 have s3 : (w.alloc (.cells #[.int .i64 p, .int .i64 q, .int .i64 k, .int .i64 wd] 23)).cell? ⟨w.heap.size, 3, none⟩ = some (.int .i64 wd) := by simp
 have B0 := Aside0.mk ((Below.refl w.heap.size w).alloc (Nat.le_refl _) (.cells #[.int .i64 p, .int .i64 q, .int .i64 k, .int .i64 wd] 23))
 by_cases h3 : b.size ≤ 300
 ·have v1 : decide ((300 : Int) < (b.size : Int)) = false := decide_eq_false (by omega)
  have v2 : decide (300 < b.size) = false := decide_eq_false (by omega)
  have hnot : ¬ (cfgB p q k wd = true ∧ 1 ≤ b.size ∧ (b.size : Int) ≤ k) → Aside0 ((∀ W, Calls Try.prog 8 #[.pointer none, .agg #[.int .i64 p, .int .i64 q, .int .i64 k, .int .i64 wd], .string b] W fun e w' => e = .returned (.tuple #[.slice none 0 0, .int .i64 1]) ∧ Below W.heap.size W w') ∧ (∀ W, Calls Try.prog 9 #[.pointer none, .agg #[.int .i64 p, .int .i64 q, .int .i64 k, .int .i64 wd], .string b] W fun e w' => e = .returned (.tuple #[.int .i64 0, .string ⟨#[]⟩, .int .i64 1]) ∧ Below W.heap.size W w')) := fun h => ⟨fun W => tokens_no _ p q k wd b h W, fun W => put_no _ p q k wd b h W⟩
  have enil : ((⟨#[]⟩ : ByteArray).toList.isEmpty) = true := by decide +kernel
  by_cases g0 : 0 ≤ p
  ·skip
   by_cases g1 : p ≤ 2
   ·skip
    by_cases g2 : 0 ≤ q
    ·skip
     by_cases g3 : q ≤ 1
     ·skip
      by_cases g4 : 1 ≤ k
      ·skip
       by_cases g5 : k ≤ 1024
       ·skip
        by_cases g6 : 1 ≤ wd
        ·skip
         by_cases g7 : wd ≤ 1024
         ·skip
          have hC : cfgB p q k wd = true := by unfold cfgB; rw [decide_eq_true_iff]; omega
          rw [hC] at HRT
          have r0 : decide (0 ≤ p) = true := decide_eq_true g0
          have r1 : decide (p ≤ 2) = true := decide_eq_true g1
          have r2 : decide (0 ≤ q) = true := decide_eq_true g2
          have r3 : decide (q ≤ 1) = true := decide_eq_true g3
          have r4 : decide (1 ≤ k) = true := decide_eq_true g4
          have r5 : decide (k ≤ 1024) = true := decide_eq_true g5
          have r6 : decide (1 ≤ wd) = true := decide_eq_true g6
          have r7 : decide (wd ≤ 1024) = true := decide_eq_true g7
          by_cases h1 : 1 ≤ b.size
          ·by_cases hk : (b.size : Int) ≤ k
           ·have HT := Aside0.mk (fun W => tokens_yes (DictN.nil W) (by decide) (fun s hs => by cases hs) p q k wd hC b h1 hk)
            have HP := Aside0.mk (fun W => put_any (DictN.nil W) (by decide) (fun s hs => by cases hs) p q k wd hC b h1 hk)
            have z1 := not_nil h1
            have z2 := nil_n2 h1
            have z3 : decide ((b.size : Int) ≤ k) = true := decide_eq_true hk
            generalize putR [] p q wd.toNat b = R at *
            generalize toks [] p wd.toNat b = tk at *
            clear hb hnot hC g0 g1 g2 g3 g4 g5 g6 g7 h1 hk h3
            go_enter Try.func3, Try.ntmps3
            go_wp2_with fail
            refine (HAL.out _).mono ?_
            rintro e w1 ⟨rfl, hb1⟩
            have s0 := pw_cell_below hb1 s0
            have s1 := pw_cell_below hb1 s1
            have s2 := pw_cell_below hb1 s2
            have s3 := pw_cell_below hb1 s3
            have B1 := Aside0.mk (below_step B0.out hb1)
            clear hb1
            go_wp2_with fail
            refine (HT.out _).mono ?_
            rintro e w2 ⟨A2, c2, rfl, hc2, hI2, hb2⟩
            have s0 := pw_cell_below hb2 s0
            have s1 := pw_cell_below hb2 s1
            have s2 := pw_cell_below hb2 s2
            have s3 := pw_cell_below hb2 s3
            have B2 := Aside0.mk (below_step B1.out hb2)
            clear hb2
            go_wp2_with fail
            refine (HP.out _).mono ?_
            rintro e w3 ⟨rfl, hb3⟩
            have s0 := pw_cell_below hb3 s0
            have s1 := pw_cell_below hb3 s1
            have s2 := pw_cell_below hb3 s2
            have s3 := pw_cell_below hb3 s3
            have B3 := Aside0.mk (below_step B2.out hb3)
            clear hb3
            go_wp2_with fail
            refine (HRT.out _).mono ?_
            rintro e w4 ⟨rfl, hb4⟩
            have B4 := Aside0.mk (below_step B3.out hb4)
            clear hb4
            go_wp2_with fail
            go_ret
            exact ⟨rfl, B4.out⟩
           ·have hn := hnot (fun h => hk h.2.2)
            have z1 := not_nil h1
            have z2 := nil_n2 h1
            have z3 : decide ((b.size : Int) ≤ k) = false := decide_eq_false hk
            have HT := Aside0.mk (hn.out.1)
            have HP := Aside0.mk (hn.out.2)
            clear hb hnot hn h3 hC g0 g1 g2 g3 g4 g5 g6 g7 h1 hk
            go_enter Try.func3, Try.ntmps3
            go_wp2_with fail
            refine (HAL.out _).mono ?_
            rintro e w1 ⟨rfl, hb1⟩
            have s0 := pw_cell_below hb1 s0
            have s1 := pw_cell_below hb1 s1
            have s2 := pw_cell_below hb1 s2
            have s3 := pw_cell_below hb1 s3
            have B1 := Aside0.mk (below_step B0.out hb1)
            clear hb1
            go_wp2_with fail
            refine (HT.out _).mono ?_
            rintro e w2 ⟨rfl, hb2⟩
            have s0 := pw_cell_below hb2 s0
            have s1 := pw_cell_below hb2 s1
            have s2 := pw_cell_below hb2 s2
            have s3 := pw_cell_below hb2 s3
            have B2 := Aside0.mk (below_step B1.out hb2)
            clear hb2
            go_wp2_with fail
            refine (HP.out _).mono ?_
            rintro e w3 ⟨rfl, hb3⟩
            have s0 := pw_cell_below hb3 s0
            have s1 := pw_cell_below hb3 s1
            have s2 := pw_cell_below hb3 s2
            have s3 := pw_cell_below hb3 s3
            have B3 := Aside0.mk (below_step B2.out hb3)
            clear hb3
            go_wp2_with fail
            refine (HRT.out _).mono ?_
            rintro e w4 ⟨rfl, hb4⟩
            have B4 := Aside0.mk (below_step B3.out hb4)
            clear hb4
            go_wp2_with fail
            go_ret
            exact ⟨rfl, B4.out⟩
          ·have hn := hnot (fun h => h1 h.2.1)
           have z1 := nil_y h1
           have z2 := nil_y2 h1
           have HT := Aside0.mk (hn.out.1)
           have HP := Aside0.mk (hn.out.2)
           clear hb hnot hn h3 hC g0 g1 g2 g3 g4 g5 g6 g7 h1
           go_enter Try.func3, Try.ntmps3
           go_wp2_with fail
           refine (HAL.out _).mono ?_
           rintro e w1 ⟨rfl, hb1⟩
           have s0 := pw_cell_below hb1 s0
           have s1 := pw_cell_below hb1 s1
           have s2 := pw_cell_below hb1 s2
           have s3 := pw_cell_below hb1 s3
           have B1 := Aside0.mk (below_step B0.out hb1)
           clear hb1
           go_wp2_with fail
           refine (HT.out _).mono ?_
           rintro e w2 ⟨rfl, hb2⟩
           have s0 := pw_cell_below hb2 s0
           have s1 := pw_cell_below hb2 s1
           have s2 := pw_cell_below hb2 s2
           have s3 := pw_cell_below hb2 s3
           have B2 := Aside0.mk (below_step B1.out hb2)
           clear hb2
           go_wp2_with fail
           refine (HP.out _).mono ?_
           rintro e w3 ⟨rfl, hb3⟩
           have s0 := pw_cell_below hb3 s0
           have s1 := pw_cell_below hb3 s1
           have s2 := pw_cell_below hb3 s2
           have s3 := pw_cell_below hb3 s3
           have B3 := Aside0.mk (below_step B2.out hb3)
           clear hb3
           go_wp2_with fail
           refine (HRT.out _).mono ?_
           rintro e w4 ⟨rfl, hb4⟩
           have B4 := Aside0.mk (below_step B3.out hb4)
           clear hb4
           go_wp2_with fail
           go_ret
           exact ⟨rfl, B4.out⟩
         ·have hCf : cfgB p q k wd = false := by unfold cfgB; rw [decide_eq_false_iff_not]; omega
          have hn := hnot (fun h => by rw [hCf] at h; cases h.1)
          rw [hCf] at HRT
          have r0 : decide (0 ≤ p) = true := decide_eq_true g0
          have r1 : decide (p ≤ 2) = true := decide_eq_true g1
          have r2 : decide (0 ≤ q) = true := decide_eq_true g2
          have r3 : decide (q ≤ 1) = true := decide_eq_true g3
          have r4 : decide (1 ≤ k) = true := decide_eq_true g4
          have r5 : decide (k ≤ 1024) = true := decide_eq_true g5
          have r6 : decide (1 ≤ wd) = true := decide_eq_true g6
          have r7 : decide (wd ≤ 1024) = false := decide_eq_false g7
          have HT := Aside0.mk (hn.out.1)
          have HP := Aside0.mk (hn.out.2)
          clear hb hnot hn h3 hCf g0 g1 g2 g3 g4 g5 g6 g7
          go_enter Try.func3, Try.ntmps3
          go_wp2_with fail
          refine (HAL.out _).mono ?_
          rintro e w1 ⟨rfl, hb1⟩
          have s0 := pw_cell_below hb1 s0
          have s1 := pw_cell_below hb1 s1
          have s2 := pw_cell_below hb1 s2
          have s3 := pw_cell_below hb1 s3
          have B1 := Aside0.mk (below_step B0.out hb1)
          clear hb1
          go_wp2_with fail
          refine (HT.out _).mono ?_
          rintro e w2 ⟨rfl, hb2⟩
          have s0 := pw_cell_below hb2 s0
          have s1 := pw_cell_below hb2 s1
          have s2 := pw_cell_below hb2 s2
          have s3 := pw_cell_below hb2 s3
          have B2 := Aside0.mk (below_step B1.out hb2)
          clear hb2
          go_wp2_with fail
          refine (HP.out _).mono ?_
          rintro e w3 ⟨rfl, hb3⟩
          have s0 := pw_cell_below hb3 s0
          have s1 := pw_cell_below hb3 s1
          have s2 := pw_cell_below hb3 s2
          have s3 := pw_cell_below hb3 s3
          have B3 := Aside0.mk (below_step B2.out hb3)
          clear hb3
          go_wp2_with fail
          refine (HRT.out _).mono ?_
          rintro e w4 ⟨rfl, hb4⟩
          have B4 := Aside0.mk (below_step B3.out hb4)
          clear hb4
          go_wp2_with fail
          go_ret
          exact ⟨rfl, B4.out⟩
        ·have hCf : cfgB p q k wd = false := by unfold cfgB; rw [decide_eq_false_iff_not]; omega
         have hn := hnot (fun h => by rw [hCf] at h; cases h.1)
         rw [hCf] at HRT
         have r0 : decide (0 ≤ p) = true := decide_eq_true g0
         have r1 : decide (p ≤ 2) = true := decide_eq_true g1
         have r2 : decide (0 ≤ q) = true := decide_eq_true g2
         have r3 : decide (q ≤ 1) = true := decide_eq_true g3
         have r4 : decide (1 ≤ k) = true := decide_eq_true g4
         have r5 : decide (k ≤ 1024) = true := decide_eq_true g5
         have r6 : decide (1 ≤ wd) = false := decide_eq_false g6
         have HT := Aside0.mk (hn.out.1)
         have HP := Aside0.mk (hn.out.2)
         clear hb hnot hn h3 hCf g0 g1 g2 g3 g4 g5 g6
         go_enter Try.func3, Try.ntmps3
         go_wp2_with fail
         refine (HAL.out _).mono ?_
         rintro e w1 ⟨rfl, hb1⟩
         have s0 := pw_cell_below hb1 s0
         have s1 := pw_cell_below hb1 s1
         have s2 := pw_cell_below hb1 s2
         have s3 := pw_cell_below hb1 s3
         have B1 := Aside0.mk (below_step B0.out hb1)
         clear hb1
         go_wp2_with fail
         refine (HT.out _).mono ?_
         rintro e w2 ⟨rfl, hb2⟩
         have s0 := pw_cell_below hb2 s0
         have s1 := pw_cell_below hb2 s1
         have s2 := pw_cell_below hb2 s2
         have s3 := pw_cell_below hb2 s3
         have B2 := Aside0.mk (below_step B1.out hb2)
         clear hb2
         go_wp2_with fail
         refine (HP.out _).mono ?_
         rintro e w3 ⟨rfl, hb3⟩
         have s0 := pw_cell_below hb3 s0
         have s1 := pw_cell_below hb3 s1
         have s2 := pw_cell_below hb3 s2
         have s3 := pw_cell_below hb3 s3
         have B3 := Aside0.mk (below_step B2.out hb3)
         clear hb3
         go_wp2_with fail
         refine (HRT.out _).mono ?_
         rintro e w4 ⟨rfl, hb4⟩
         have B4 := Aside0.mk (below_step B3.out hb4)
         clear hb4
         go_wp2_with fail
         go_ret
         exact ⟨rfl, B4.out⟩
       ·have hCf : cfgB p q k wd = false := by unfold cfgB; rw [decide_eq_false_iff_not]; omega
        have hn := hnot (fun h => by rw [hCf] at h; cases h.1)
        rw [hCf] at HRT
        have r0 : decide (0 ≤ p) = true := decide_eq_true g0
        have r1 : decide (p ≤ 2) = true := decide_eq_true g1
        have r2 : decide (0 ≤ q) = true := decide_eq_true g2
        have r3 : decide (q ≤ 1) = true := decide_eq_true g3
        have r4 : decide (1 ≤ k) = true := decide_eq_true g4
        have r5 : decide (k ≤ 1024) = false := decide_eq_false g5
        have HT := Aside0.mk (hn.out.1)
        have HP := Aside0.mk (hn.out.2)
        clear hb hnot hn h3 hCf g0 g1 g2 g3 g4 g5
        go_enter Try.func3, Try.ntmps3
        go_wp2_with fail
        refine (HAL.out _).mono ?_
        rintro e w1 ⟨rfl, hb1⟩
        have s0 := pw_cell_below hb1 s0
        have s1 := pw_cell_below hb1 s1
        have s2 := pw_cell_below hb1 s2
        have s3 := pw_cell_below hb1 s3
        have B1 := Aside0.mk (below_step B0.out hb1)
        clear hb1
        go_wp2_with fail
        refine (HT.out _).mono ?_
        rintro e w2 ⟨rfl, hb2⟩
        have s0 := pw_cell_below hb2 s0
        have s1 := pw_cell_below hb2 s1
        have s2 := pw_cell_below hb2 s2
        have s3 := pw_cell_below hb2 s3
        have B2 := Aside0.mk (below_step B1.out hb2)
        clear hb2
        go_wp2_with fail
        refine (HP.out _).mono ?_
        rintro e w3 ⟨rfl, hb3⟩
        have s0 := pw_cell_below hb3 s0
        have s1 := pw_cell_below hb3 s1
        have s2 := pw_cell_below hb3 s2
        have s3 := pw_cell_below hb3 s3
        have B3 := Aside0.mk (below_step B2.out hb3)
        clear hb3
        go_wp2_with fail
        refine (HRT.out _).mono ?_
        rintro e w4 ⟨rfl, hb4⟩
        have B4 := Aside0.mk (below_step B3.out hb4)
        clear hb4
        go_wp2_with fail
        go_ret
        exact ⟨rfl, B4.out⟩
      ·have hCf : cfgB p q k wd = false := by unfold cfgB; rw [decide_eq_false_iff_not]; omega
       have hn := hnot (fun h => by rw [hCf] at h; cases h.1)
       rw [hCf] at HRT
       have r0 : decide (0 ≤ p) = true := decide_eq_true g0
       have r1 : decide (p ≤ 2) = true := decide_eq_true g1
       have r2 : decide (0 ≤ q) = true := decide_eq_true g2
       have r3 : decide (q ≤ 1) = true := decide_eq_true g3
       have r4 : decide (1 ≤ k) = false := decide_eq_false g4
       have HT := Aside0.mk (hn.out.1)
       have HP := Aside0.mk (hn.out.2)
       clear hb hnot hn h3 hCf g0 g1 g2 g3 g4
       go_enter Try.func3, Try.ntmps3
       go_wp2_with fail
       refine (HAL.out _).mono ?_
       rintro e w1 ⟨rfl, hb1⟩
       have s0 := pw_cell_below hb1 s0
       have s1 := pw_cell_below hb1 s1
       have s2 := pw_cell_below hb1 s2
       have s3 := pw_cell_below hb1 s3
       have B1 := Aside0.mk (below_step B0.out hb1)
       clear hb1
       go_wp2_with fail
       refine (HT.out _).mono ?_
       rintro e w2 ⟨rfl, hb2⟩
       have s0 := pw_cell_below hb2 s0
       have s1 := pw_cell_below hb2 s1
       have s2 := pw_cell_below hb2 s2
       have s3 := pw_cell_below hb2 s3
       have B2 := Aside0.mk (below_step B1.out hb2)
       clear hb2
       go_wp2_with fail
       refine (HP.out _).mono ?_
       rintro e w3 ⟨rfl, hb3⟩
       have s0 := pw_cell_below hb3 s0
       have s1 := pw_cell_below hb3 s1
       have s2 := pw_cell_below hb3 s2
       have s3 := pw_cell_below hb3 s3
       have B3 := Aside0.mk (below_step B2.out hb3)
       clear hb3
       go_wp2_with fail
       refine (HRT.out _).mono ?_
       rintro e w4 ⟨rfl, hb4⟩
       have B4 := Aside0.mk (below_step B3.out hb4)
       clear hb4
       go_wp2_with fail
       go_ret
       exact ⟨rfl, B4.out⟩
     ·have hCf : cfgB p q k wd = false := by unfold cfgB; rw [decide_eq_false_iff_not]; omega
      have hn := hnot (fun h => by rw [hCf] at h; cases h.1)
      rw [hCf] at HRT
      have r0 : decide (0 ≤ p) = true := decide_eq_true g0
      have r1 : decide (p ≤ 2) = true := decide_eq_true g1
      have r2 : decide (0 ≤ q) = true := decide_eq_true g2
      have r3 : decide (q ≤ 1) = false := decide_eq_false g3
      have HT := Aside0.mk (hn.out.1)
      have HP := Aside0.mk (hn.out.2)
      clear hb hnot hn h3 hCf g0 g1 g2 g3
      go_enter Try.func3, Try.ntmps3
      go_wp2_with fail
      refine (HAL.out _).mono ?_
      rintro e w1 ⟨rfl, hb1⟩
      have s0 := pw_cell_below hb1 s0
      have s1 := pw_cell_below hb1 s1
      have s2 := pw_cell_below hb1 s2
      have s3 := pw_cell_below hb1 s3
      have B1 := Aside0.mk (below_step B0.out hb1)
      clear hb1
      go_wp2_with fail
      refine (HT.out _).mono ?_
      rintro e w2 ⟨rfl, hb2⟩
      have s0 := pw_cell_below hb2 s0
      have s1 := pw_cell_below hb2 s1
      have s2 := pw_cell_below hb2 s2
      have s3 := pw_cell_below hb2 s3
      have B2 := Aside0.mk (below_step B1.out hb2)
      clear hb2
      go_wp2_with fail
      refine (HP.out _).mono ?_
      rintro e w3 ⟨rfl, hb3⟩
      have s0 := pw_cell_below hb3 s0
      have s1 := pw_cell_below hb3 s1
      have s2 := pw_cell_below hb3 s2
      have s3 := pw_cell_below hb3 s3
      have B3 := Aside0.mk (below_step B2.out hb3)
      clear hb3
      go_wp2_with fail
      refine (HRT.out _).mono ?_
      rintro e w4 ⟨rfl, hb4⟩
      have B4 := Aside0.mk (below_step B3.out hb4)
      clear hb4
      go_wp2_with fail
      go_ret
      exact ⟨rfl, B4.out⟩
    ·have hCf : cfgB p q k wd = false := by unfold cfgB; rw [decide_eq_false_iff_not]; omega
     have hn := hnot (fun h => by rw [hCf] at h; cases h.1)
     rw [hCf] at HRT
     have r0 : decide (0 ≤ p) = true := decide_eq_true g0
     have r1 : decide (p ≤ 2) = true := decide_eq_true g1
     have r2 : decide (0 ≤ q) = false := decide_eq_false g2
     have HT := Aside0.mk (hn.out.1)
     have HP := Aside0.mk (hn.out.2)
     clear hb hnot hn h3 hCf g0 g1 g2
     go_enter Try.func3, Try.ntmps3
     go_wp2_with fail
     refine (HAL.out _).mono ?_
     rintro e w1 ⟨rfl, hb1⟩
     have s0 := pw_cell_below hb1 s0
     have s1 := pw_cell_below hb1 s1
     have s2 := pw_cell_below hb1 s2
     have s3 := pw_cell_below hb1 s3
     have B1 := Aside0.mk (below_step B0.out hb1)
     clear hb1
     go_wp2_with fail
     refine (HT.out _).mono ?_
     rintro e w2 ⟨rfl, hb2⟩
     have s0 := pw_cell_below hb2 s0
     have s1 := pw_cell_below hb2 s1
     have s2 := pw_cell_below hb2 s2
     have s3 := pw_cell_below hb2 s3
     have B2 := Aside0.mk (below_step B1.out hb2)
     clear hb2
     go_wp2_with fail
     refine (HP.out _).mono ?_
     rintro e w3 ⟨rfl, hb3⟩
     have s0 := pw_cell_below hb3 s0
     have s1 := pw_cell_below hb3 s1
     have s2 := pw_cell_below hb3 s2
     have s3 := pw_cell_below hb3 s3
     have B3 := Aside0.mk (below_step B2.out hb3)
     clear hb3
     go_wp2_with fail
     refine (HRT.out _).mono ?_
     rintro e w4 ⟨rfl, hb4⟩
     have B4 := Aside0.mk (below_step B3.out hb4)
     clear hb4
     go_wp2_with fail
     go_ret
     exact ⟨rfl, B4.out⟩
   ·have hCf : cfgB p q k wd = false := by unfold cfgB; rw [decide_eq_false_iff_not]; omega
    have hn := hnot (fun h => by rw [hCf] at h; cases h.1)
    rw [hCf] at HRT
    have r0 : decide (0 ≤ p) = true := decide_eq_true g0
    have r1 : decide (p ≤ 2) = false := decide_eq_false g1
    have HT := Aside0.mk (hn.out.1)
    have HP := Aside0.mk (hn.out.2)
    clear hb hnot hn h3 hCf g0 g1
    go_enter Try.func3, Try.ntmps3
    go_wp2_with fail
    refine (HAL.out _).mono ?_
    rintro e w1 ⟨rfl, hb1⟩
    have s0 := pw_cell_below hb1 s0
    have s1 := pw_cell_below hb1 s1
    have s2 := pw_cell_below hb1 s2
    have s3 := pw_cell_below hb1 s3
    have B1 := Aside0.mk (below_step B0.out hb1)
    clear hb1
    go_wp2_with fail
    refine (HT.out _).mono ?_
    rintro e w2 ⟨rfl, hb2⟩
    have s0 := pw_cell_below hb2 s0
    have s1 := pw_cell_below hb2 s1
    have s2 := pw_cell_below hb2 s2
    have s3 := pw_cell_below hb2 s3
    have B2 := Aside0.mk (below_step B1.out hb2)
    clear hb2
    go_wp2_with fail
    refine (HP.out _).mono ?_
    rintro e w3 ⟨rfl, hb3⟩
    have s0 := pw_cell_below hb3 s0
    have s1 := pw_cell_below hb3 s1
    have s2 := pw_cell_below hb3 s2
    have s3 := pw_cell_below hb3 s3
    have B3 := Aside0.mk (below_step B2.out hb3)
    clear hb3
    go_wp2_with fail
    refine (HRT.out _).mono ?_
    rintro e w4 ⟨rfl, hb4⟩
    have B4 := Aside0.mk (below_step B3.out hb4)
    clear hb4
    go_wp2_with fail
    go_ret
    exact ⟨rfl, B4.out⟩
  ·have hCf : cfgB p q k wd = false := by unfold cfgB; rw [decide_eq_false_iff_not]; omega
   have hn := hnot (fun h => by rw [hCf] at h; cases h.1)
   rw [hCf] at HRT
   have r0 : decide (0 ≤ p) = false := decide_eq_false g0
   have HT := Aside0.mk (hn.out.1)
   have HP := Aside0.mk (hn.out.2)
   clear hb hnot hn h3 hCf g0
   go_enter Try.func3, Try.ntmps3
   go_wp2_with fail
   refine (HAL.out _).mono ?_
   rintro e w1 ⟨rfl, hb1⟩
   have s0 := pw_cell_below hb1 s0
   have s1 := pw_cell_below hb1 s1
   have s2 := pw_cell_below hb1 s2
   have s3 := pw_cell_below hb1 s3
   have B1 := Aside0.mk (below_step B0.out hb1)
   clear hb1
   go_wp2_with fail
   refine (HT.out _).mono ?_
   rintro e w2 ⟨rfl, hb2⟩
   have s0 := pw_cell_below hb2 s0
   have s1 := pw_cell_below hb2 s1
   have s2 := pw_cell_below hb2 s2
   have s3 := pw_cell_below hb2 s3
   have B2 := Aside0.mk (below_step B1.out hb2)
   clear hb2
   go_wp2_with fail
   refine (HP.out _).mono ?_
   rintro e w3 ⟨rfl, hb3⟩
   have s0 := pw_cell_below hb3 s0
   have s1 := pw_cell_below hb3 s1
   have s2 := pw_cell_below hb3 s2
   have s3 := pw_cell_below hb3 s3
   have B3 := Aside0.mk (below_step B2.out hb3)
   clear hb3
   go_wp2_with fail
   refine (HRT.out _).mono ?_
   rintro e w4 ⟨rfl, hb4⟩
   have B4 := Aside0.mk (below_step B3.out hb4)
   clear hb4
   go_wp2_with fail
   go_ret
   exact ⟨rfl, B4.out⟩
 ·have v1 : decide ((300 : Int) < (b.size : Int)) = true := decide_eq_true (by omega)
  have v2 : decide (300 < b.size) = true := decide_eq_true (by omega)
  clear hb h3
  go_enter Try.func3, Try.ntmps3
  go_wp2_with fail
  refine (HAL.out _).mono ?_
  rintro e w1 ⟨rfl, hb1⟩
  have B1 := Aside0.mk (below_step B0.out hb1)
  clear hb1
  go_wp2_with fail
  go_ret
  exact ⟨rfl, B1.out⟩
end Go.Proofs.Ytepgkimlmoikmaa
