/- ShX: a part of its proof (contracts of the functions that it reaches, and the plain mathematics behind them). -/
import Derived.Test.YtepgkimlmoikmaaShX4
set_option linter.unusedVariables false
set_option linter.unusedSimpArgs false
set_option linter.unusedVariables false
set_option linter.unusedSimpArgs false
namespace Go.Proofs.Ytepgkimlmoikmaa.Leaf
open Go.RowKit Go.Proofs.YtepgkimlmoikmaaW.PrintWords Go.Proofs.YtepgkimlmoikmaaW.PrintLast Go.Proofs.YtepgkimlmoikmaaW.PrintMore
attribute [local go_sem] max2_int min2_int max_two min_two max_three min_three max_four min_four
mutual
def tab_Put.l0 : Nat → List Int → List Int → Int → Option (ByteArray × Bool)
 | 0, _, _, _ => none
 | k + 1, x0, x4, x5 => if x5 < (x0.length : Int) then (if 0 ≤ x5 then (if (rd x0 x5) < 0 then (tab_Put.j1 k x0 x4 x5 true) else (tab_Put.j1 k x0 x4 x5 (decide ((rd x0 x5) > 15)))) else (none)) else (some (strOfNums x4, true))
def tab_Put.j1 : Nat → List Int → List Int → Int → Bool → Option (ByteArray × Bool)
 | 0, _, _, _, _ => none
 | k + 1, x0, x4, x5, x25 => if x25 = true then (some ((⟨#[]⟩ : ByteArray), false)) else (tab_Put.l1 k x0 x4 x5 1)
def tab_Put.l1 : Nat → List Int → List Int → Int → Int → Option (ByteArray × Bool)
 | 0, _, _, _, _ => none
 | k + 1, x0, x4, x5, x6 => if x6 < 16 then (if (wrap64 (x5 + x6)) < (x0.length : Int) then (if 0 ≤ (wrap64 (x5 + x6)) then (if 0 ≤ x5 then (if x5 < (x0.length : Int) then (if (rd x0 (wrap64 (x5 + x6))) = (rd x0 x5) then (tab_Put.l1 k x0 x4 x5 (wrap64 (x6 + 1))) else (if x4.length < 140737488355328 then (tab_Put.l0 k x0 (x4 ++ [(wrap64 ((wrap64 ((wrap64 ((rd x0 x5) * 16)) + x6)) - 1)) % 256]) (wrap64 (x5 + x6))) else (none))) else (none)) else (none)) else (none)) else (if 0 ≤ x5 then (if x5 < (x0.length : Int) then (if x4.length < 140737488355328 then (tab_Put.l0 k x0 (x4 ++ [(wrap64 ((wrap64 ((wrap64 ((rd x0 x5) * 16)) + x6)) - 1)) % 256]) (wrap64 (x5 + x6))) else (none)) else (none)) else (none))) else (if 0 ≤ x5 then (if x5 < (x0.length : Int) then (if x4.length < 140737488355328 then (tab_Put.l0 k x0 (x4 ++ [(wrap64 ((wrap64 ((wrap64 ((rd x0 x5) * 16)) + x6)) - 1)) % 256]) (wrap64 (x5 + x6))) else (none)) else (none)) else (none))
end
def tab_Put.f (k : Nat) (l0 : List Int) : Option (ByteArray × Bool) := if (l0.length : Int) > 356 then (some ((⟨#[]⟩ : ByteArray), false)) else (tab_Put.l0 k l0 ([] : List Int) 0)
set_option maxHeartbeats 8000000 in
set_option maxRecDepth 100000 in
theorem tab_Put.calls (k : Nat) (A0 : Option Addr) (c0 : Nat) (l0 : List Int) (r1 : ByteArray) (r2 : Bool) (w : World) (hr0 : Kd.C (Kd.int .i64) w A0 l0.length l0) (hc0 : l0.length ≤ c0) (h : tab_Put.f k l0 = some (r1, r2)) :
  Calls Try.prog 38 #[.slice A0 l0.length c0] w fun e w' => e = .returned (.tuple #[.string r1, .bool r2]) ∧ Below w.heap.size w w' := by
 have HR0 := Aside0.mk hr0
 have HC0 := Aside0.mk hc0
 clear hr0 hc0
 have HB := Aside0.mk (Below.refl w.heap.size w)
 have H : (if (l0.length : Int) > 356 then (some ((⟨#[]⟩ : ByteArray), false)) else (tab_Put.l0 k l0 ([] : List Int) 0)) = some (r1, r2) := h
 clear h
 by_cases c2 : (l0.length : Int) > 356
 ·rw [if_pos c2] at H
  have c2b0 : decide (356 < (l0.length : Int)) = true := decide_eq_true c2
  have c2b1 : decide (356 < l0.length) = true := decide_eq_true (by omega)
  clear c2
  simp only [Option.some.injEq, Prod.mk.injEq] at H
  obtain ⟨rfl, rfl⟩ := H
  go_enter Try.func38, Try.ntmps38
  go_wp2
  repeat (go_quiet (fail); try go_wp2)
  go_ret2
  exact ⟨by first | rfl | (simp [errW_none, errW_some] <;> rfl) | (simp [*, errW_none, errW_some] <;> rfl), by repeat (first | (with_reducible first | exact HB.out | apply below_alloc | apply pw_below_drewN | apply below_drew1) | exact HB.out)⟩
 ·rw [if_neg c2] at H
  have c2b0 : decide (356 < (l0.length : Int)) = false := decide_eq_false c2
  have c2b1 : decide (356 < l0.length) = false := decide_eq_false (by omega)
  clear c2
  have H' := Aside0.mk H
  clear H
  go_enter Try.func38, Try.ntmps38
  go_wp2
  repeat (go_quiet (fail); try go_wp2)
  go_loopg [4, 5] k (fun kq v4 v5 w' => ∃ (x4_1 : List Int) (x5_1 : Int), v5 = .int .i64 x5_1 ∧ Aside0 (tab_Put.l0 kq l0 x4_1 x5_1 = some (r1, r2)) ∧ Aside0 (kq ≤ k) ∧ Aside0 (Kd.R (Kd.int .u8) 5 w' w.heap.size (fun _ => True) v4 x4_1) ∧ Aside0 (Below w.heap.size w w'))
  case atStart => exact ⟨(([] : List Int)), (0), (by first | rfl | (simp; done) | (simp [*]; done)), H', ⟨Nat.le_refl _⟩, ⟨by first | exact Kd.R_nil _ _ _ _ _ | exact Kd.N_nil _ _ _ _ _ | exact Kd.V_nil _ _ _ _ _ | exact Kd.Q_nil _ _ _ _ _ | exact Kd.S_nil _ _ _ _ _⟩, ⟨by repeat (first | (with_reducible first | exact HB.out | apply below_alloc | apply pw_below_drewN | apply below_drew1) | exact HB.out)⟩⟩
  case round =>
   clear H'
   try clear c2
   try clear c2b0
   try clear c2b1
   try clear p2
   obtain ⟨x4_1, x5_1, rfl, HA, HK1, HO_4, HB⟩ := hrel
   cases gk with
   | zero => exact absurd HA.out (by simp [tab_Put.l0])
   | succ k1 =>
    have H := HA.out
    clear HA
    simp only [tab_Put.l0] at H
    by_cases c3 : x5_1 < (l0.length : Int)
    ·rw [if_pos c3] at H
     have c3b0 : decide (x5_1 < (l0.length : Int)) = true := decide_eq_true c3
     clear c3
     have HC4 := Aside0.mk H
     clear H
     go_upto_region 6 with (fail)
     repeat (go_quiet (fail); go_upto_region 6 with (fail))
     go_cut [25] (fun v25 wc => ∃ (kq : Nat) (x25_3 : Bool), v25 = .bool x25_3 ∧ Aside0 (tab_Put.j1 kq l0 x4_1 x5_1 x25_3 = some (r1, r2)) ∧ Aside0 (kq ≤ k1) ∧ Aside0 (Kd.R (Kd.int .u8) 5 wc w.heap.size (fun _ => True) u4 x4_1) ∧ Aside0 (Below w.heap.size w wc))
     case first =>
      have H := HC4.out
      clear HC4
      by_cases c5 : 0 ≤ x5_1
      ·rw [if_pos c5] at H
       have c5b0 : decide (0 ≤ x5_1) = true := decide_eq_true c5
       clear c5
       (first | rw [c5b0] | (simp only [i64_w, i32_w]; rw [c5b0]) | skip)
       by_cases c6 : (rd l0 x5_1) < 0
       ·rw [if_pos c6] at H
        have c6b0 : decide ((rd l0 x5_1) < 0) = true := decide_eq_true c6
        clear c6
        have H' := Aside0.mk H
        clear H
        have p152 : 0 ≤ (x5_1 : Int) := of_decide_eq_true (by first | (with_reducible assumption) | assumption)
        have q152 : x5_1 < (l0.length : Int) := of_decide_eq_true (by first | (with_reducible assumption) | assumption)
        obtain ⟨ad152, e152, hx152_0⟩ := Kd.at_int HR0.out x5_1 p152 q152
        cases e152
        replace hx152_0 := (HB.out.cell (World.block_lt_of_cell? w _ hx152_0)).trans hx152_0
        replace p152 := eq_true p152
        replace q152 := eq_true q152
        go_wp2
        repeat (go_quiet (fail); try go_wp2)
        go_meet
        case rel => exact ⟨_, (true), (by first | rfl | (simp; done) | (simp [*]; done)), H', ⟨by have := HK1.out; first | omega | exact Nat.le_refl _⟩, ⟨by (with_reducible repeat (first | apply Kd.R_alloc | apply Kd.R_drewN | apply Kd.R_drew)); exact HO_4.out⟩, ⟨by repeat (first | (with_reducible first | exact HB.out | apply below_alloc | apply pw_below_drewN | apply below_drew1) | exact HB.out)⟩⟩
       ·rw [if_neg c6] at H
        have c6b0 : decide ((rd l0 x5_1) < 0) = false := decide_eq_false c6
        clear c6
        have H' := Aside0.mk H
        clear H
        have p152 : 0 ≤ (x5_1 : Int) := of_decide_eq_true (by first | (with_reducible assumption) | assumption)
        have q152 : x5_1 < (l0.length : Int) := of_decide_eq_true (by first | (with_reducible assumption) | assumption)
        obtain ⟨ad152, e152, hx152_0⟩ := Kd.at_int HR0.out x5_1 p152 q152
        cases e152
        replace hx152_0 := (HB.out.cell (World.block_lt_of_cell? w _ hx152_0)).trans hx152_0
        replace p152 := eq_true p152
        replace q152 := eq_true q152
        have p153 : 0 ≤ (x5_1 : Int) := of_decide_eq_true (by first | (with_reducible assumption) | assumption)
        have q153 : x5_1 < (l0.length : Int) := of_decide_eq_true (by first | (with_reducible assumption) | assumption)
        obtain ⟨ad153, e153, hx153_0⟩ := Kd.at_int HR0.out x5_1 p153 q153
        obtain rfl : ad152 = ad153 := (by injection e153)
        replace hx153_0 := (HB.out.cell (World.block_lt_of_cell? w _ hx153_0)).trans hx153_0
        replace p153 := eq_true p153
        replace q153 := eq_true q153
        go_wp2
        repeat (go_quiet (fail); try go_wp2)
        go_meet
        case rel => exact ⟨_, (decide ((rd l0 x5_1) > 15)), (by first | rfl | (simp; done) | (simp [*]; done)), H', ⟨by have := HK1.out; first | omega | exact Nat.le_refl _⟩, ⟨by (with_reducible repeat (first | apply Kd.R_alloc | apply Kd.R_drewN | apply Kd.R_drew)); exact HO_4.out⟩, ⟨by repeat (first | (with_reducible first | exact HB.out | apply below_alloc | apply pw_below_drewN | apply below_drew1) | exact HB.out)⟩⟩
      ·rw [if_neg c5] at H
       exact absurd H (by simp)
     case rest =>
      clear HC4
      try clear p1
      try clear q1
      try clear hx1
      try clear c2
      try clear c2b0
      try clear c2b1
      try clear p2
      try clear c3
      try clear c3b0
      try clear c5
      try clear c5b0
      try clear c6
      try clear c6b0
      try clear hx152_0
      try clear hx153_0
      try clear p152
      try clear p153
      try clear p2
      try clear q152
      try clear q153
      obtain ⟨kq, x25_3, rfl, HA, HJ3, HO_4, HB⟩ := hcut
      cases kq with
      | zero => exact absurd HA.out (by simp [tab_Put.j1])
      | succ kj3 =>
       have H := HA.out
       clear HA
       simp only [tab_Put.j1] at H
       by_cases c7 : x25_3 = true
       ·subst c7
        have H1 : (some ((⟨#[]⟩ : ByteArray), false)) = some (r1, r2) := by rw [if_pos rfl] at H; exact H
        clear H
        have H := H1
        clear H1
        simp only [Option.some.injEq, Prod.mk.injEq] at H
        obtain ⟨rfl, rfl⟩ := H
        go_wp2
        repeat (go_quiet (fail); try go_wp2)
        go_ret2
        exact ⟨by first | rfl | (simp [errW_none, errW_some] <;> rfl) | (simp [*, errW_none, errW_some] <;> rfl), by repeat (first | (with_reducible first | exact HB.out | apply below_alloc | apply pw_below_drewN | apply below_drew1) | exact HB.out)⟩
       ·replace c7 := Bool.eq_false_iff.mpr c7
        subst c7
        have H1 : (tab_Put.l1 kj3 l0 x4_1 x5_1 1) = some (r1, r2) := by rw [if_neg (show ¬ (false = true) by decide)] at H; exact H
        clear H
        have H := H1
        clear H1
        have H' := Aside0.mk H
        clear H
        go_wp2
        repeat (go_quiet (fail); try go_wp2)
        go_loopg [6] kj3 (fun kq v6 w' => ∃ (x6_3 : Int), v6 = .int .i64 x6_3 ∧ Aside0 (tab_Put.l1 kq l0 x4_1 x5_1 x6_3 = some (r1, r2)) ∧ Aside0 (kq ≤ kj3) ∧ Aside0 (Kd.R (Kd.int .u8) 5 w' w.heap.size (fun _ => True) u4 x4_1) ∧ Aside0 (Below w.heap.size w w'))
        case atStart => exact ⟨(1), (by first | rfl | (simp; done) | (simp [*]; done)), H', ⟨Nat.le_refl _⟩, ⟨by (with_reducible repeat (first | apply Kd.R_alloc | apply Kd.R_drewN | apply Kd.R_drew)); exact HO_4.out⟩, ⟨by repeat (first | (with_reducible first | exact HB.out | apply below_alloc | apply pw_below_drewN | apply below_drew1) | exact HB.out)⟩⟩
        case round =>
         clear H'
         try clear p1
         try clear q1
         try clear hx1
         try clear c2
         try clear c2b0
         try clear c2b1
         try clear p2
         try clear c3
         try clear c3b0
         try clear c5
         try clear c5b0
         try clear c6
         try clear c6b0
         try clear c7
         try clear hx152_0
         try clear hx153_0
         try clear p1
         try clear p152
         try clear p153
         try clear p2
         try clear q1
         try clear q152
         try clear q153
         obtain ⟨x6_3, rfl, HA, HK3, HO_4, HB⟩ := hrel
         cases gk with
         | zero => exact absurd HA.out (by simp [tab_Put.l1])
         | succ k3 =>
          have H := HA.out
          clear HA
          simp only [tab_Put.l1] at H
          by_cases c8 : x6_3 < 16
          ·rw [if_pos c8] at H
           have c8b0 : decide (x6_3 < 16) = true := decide_eq_true c8
           clear c8
           by_cases c9 : (wrap64 (x5_1 + x6_3)) < (l0.length : Int)
           ·rw [if_pos c9] at H
            have c9b0 : decide ((wrap64 (x5_1 + x6_3)) < (l0.length : Int)) = true := decide_eq_true c9
            clear c9
            obtain ⟨ji10, hji10⟩ : ∃ j_ : Int, (wrap64 (x5_1 + x6_3)) = j_ := ⟨_, rfl⟩
            replace H : (if 0 ≤ (ji10) then (if 0 ≤ x5_1 then (if x5_1 < (l0.length : Int) then (if (rd l0 (ji10)) = (rd l0 x5_1) then (tab_Put.l1 k3 l0 x4_1 x5_1 (wrap64 (x6_3 + 1))) else (if x4_1.length < 140737488355328 then (tab_Put.l0 k3 l0 (x4_1 ++ [(wrap64 ((wrap64 ((wrap64 ((rd l0 x5_1) * 16)) + x6_3)) - 1)) % 256]) ji10) else (none))) else (none)) else (none)) else (none)) = some (r1, r2) := by first | (rw [hji10] at H; exact H) | (simp only [hji10] at H ⊢; exact H)
            (try rw [hji10] at c9b0)
            have hji10w : (IntKind.i64.wrap (x5_1 + x6_3)) = ji10 := (i64_w _).trans hji10
            by_cases c11 : 0 ≤ (ji10)
            ·rw [if_pos c11] at H
             have c11b0 : decide (0 ≤ (ji10)) = true := decide_eq_true c11
             clear c11
             by_cases c12 : 0 ≤ x5_1
             ·rw [if_pos c12] at H
              have c12b0 : decide (0 ≤ x5_1) = true := decide_eq_true c12
              clear c12
              by_cases c13 : x5_1 < (l0.length : Int)
              ·rw [if_pos c13] at H
               have c13b0 : decide (x5_1 < (l0.length : Int)) = true := decide_eq_true c13
               clear c13
               by_cases c14 : (rd l0 (ji10)) = (rd l0 x5_1)
               ·rw [if_pos c14] at H
                have c14b0 : ((rd l0 (ji10)) == (rd l0 x5_1)) = true := beq_iff_eq.mpr c14
                have c14b1 : ((rd l0 (ji10)) != (rd l0 x5_1)) = false := bne_eq_false_iff_eq.mpr c14
                clear c14
                have H' := Aside0.mk H
                clear H
                have p154 : 0 ≤ ((ji10) : Int) := of_decide_eq_true (by first | (with_reducible assumption) | assumption)
                have q154 : (ji10) < (l0.length : Int) := of_decide_eq_true (by first | (with_reducible assumption) | assumption)
                obtain ⟨ad154, e154, hx154_0⟩ := Kd.at_int HR0.out (ji10) p154 q154
                cases e154
                replace hx154_0 := (HB.out.cell (World.block_lt_of_cell? w _ hx154_0)).trans hx154_0
                replace p154 := eq_true p154
                replace q154 := eq_true q154
                have p155 : 0 ≤ (x5_1 : Int) := of_decide_eq_true (by first | (with_reducible assumption) | assumption)
                have q155 : x5_1 < (l0.length : Int) := of_decide_eq_true (by first | (with_reducible assumption) | assumption)
                obtain ⟨ad155, e155, hx155_0⟩ := Kd.at_int HR0.out x5_1 p155 q155
                obtain rfl : ad154 = ad155 := (by injection e155)
                replace hx155_0 := (HB.out.cell (World.block_lt_of_cell? w _ hx155_0)).trans hx155_0
                replace p155 := eq_true p155
                replace q155 := eq_true q155
                go_wp2
                repeat (go_quiet (fail); try go_wp2)
                go_roundg k3
                case measure => have := HK1.out; have := HJ3.out; have := HK3.out; omega
                case rel => exact ⟨(wrap64 (x6_3 + 1)), (by first | rfl | (simp; done) | (simp [*]; done)), H', ⟨by have := HK1.out; have := HJ3.out; have := HK3.out; omega⟩, ⟨by (with_reducible repeat (first | apply Kd.R_alloc | apply Kd.R_drewN | apply Kd.R_drew)); exact HO_4.out⟩, ⟨by repeat (first | (with_reducible first | exact HB.out | apply below_alloc | apply pw_below_drewN | apply below_drew1) | exact HB.out)⟩⟩
               ·rw [if_neg c14] at H
                have c14b0 : ((rd l0 (ji10)) == (rd l0 x5_1)) = false := beq_eq_false_iff_ne.mpr c14
                have c14b1 : ((rd l0 (ji10)) != (rd l0 x5_1)) = true := bne_iff_ne.mpr c14
                by_cases c15 : x4_1.length < 140737488355328
                ·rw [if_pos c15] at H
                 have LMc15 := Aside0.mk c15
                 clear c15
                 obtain ⟨y157, hy157⟩ : ∃ y_ : List Int, y_ = (x4_1 ++ [(wrap64 ((wrap64 ((wrap64 ((rd l0 x5_1) * 16)) + x6_3)) - 1)) % 256]) := ⟨_, rfl⟩
                 replace H : (tab_Put.l0 k3 l0 y157 ji10) = some (r1, r2) := by first | (rw [hy157]; with_reducible exact H) | (have H2_ := (Option.bind_some _ _).symm.trans H; rw [hy157]; with_reducible exact H2_) | (have H2_ := (Option.bind_some _ _).symm.trans H; with_reducible exact H2_) | with_reducible exact H | (rw [hy157]; exact H) | exact H
                 have Ny157 := Aside0.mk hy157
                 clear hy157
                 have H' := Aside0.mk H
                 clear H
                 have p154 : 0 ≤ ((ji10) : Int) := of_decide_eq_true (by first | (with_reducible assumption) | assumption)
                 have q154 : (ji10) < (l0.length : Int) := of_decide_eq_true (by first | (with_reducible assumption) | assumption)
                 obtain ⟨ad154, e154, hx154_0⟩ := Kd.at_int HR0.out (ji10) p154 q154
                 cases e154
                 replace hx154_0 := (HB.out.cell (World.block_lt_of_cell? w _ hx154_0)).trans hx154_0
                 replace p154 := eq_true p154
                 replace q154 := eq_true q154
                 have p155 : 0 ≤ (x5_1 : Int) := of_decide_eq_true (by first | (with_reducible assumption) | assumption)
                 have q155 : x5_1 < (l0.length : Int) := of_decide_eq_true (by first | (with_reducible assumption) | assumption)
                 obtain ⟨ad155, e155, hx155_0⟩ := Kd.at_int HR0.out x5_1 p155 q155
                 obtain rfl : ad154 = ad155 := (by injection e155)
                 replace hx155_0 := (HB.out.cell (World.block_lt_of_cell? w _ hx155_0)).trans hx155_0
                 replace p155 := eq_true p155
                 replace q155 := eq_true q155
                 have p156 : 0 ≤ (x5_1 : Int) := of_decide_eq_true (by first | (with_reducible assumption) | assumption)
                 have q156 : x5_1 < (l0.length : Int) := of_decide_eq_true (by first | (with_reducible assumption) | assumption)
                 obtain ⟨ad156, e156, hx156_0⟩ := Kd.at_int HR0.out x5_1 p156 q156
                 obtain rfl : ad154 = ad156 := (by injection e156)
                 replace hx156_0 := (HB.out.cell (World.block_lt_of_cell? w _ hx156_0)).trans hx156_0
                 replace p156 := eq_true p156
                 replace q156 := eq_true q156
                 go_wp2_with (first | ((with_reducible refine gate_builtin (b := .append) (xs := #[.tmp 51, .tmp 61]) rfl ?_); (try (refine gate_guard (by rfl) ?_; dsimp only)); at_builtin; refine Kd.R_append (Kd.int .u8) (w0 := w) w.heap.size rfl (.tmp 51) (.tmp 61) 42 5 (.int .u8 0) 1 rfl Try.underlying42 info5 rfl (by decide) (by omega) u4 x4_1 ((wrap64 ((wrap64 ((wrap64 ((rd l0 x5_1) * 16)) + x6_3)) - 1)) % 256) [.int .u8 ((wrap64 ((wrap64 ((wrap64 ((rd l0 x5_1) * 16)) + x6_3)) - 1)) % 256)] (fun _ => True) (fun _ => False) rfl rfl ?aP (fun _ hk => hk.elim) ?aF ?aO ?aB ?aS ?aL ?_; (case aP => exact rfl); (case aB => exact (by repeat (first | (with_reducible first | exact HB.out | apply below_alloc | apply pw_below_drewN | apply below_drew1) | exact HB.out))); (case aF => exact (fun _ _ => trivial)); (case aO => exact (by (with_reducible repeat (first | apply Kd.R_alloc | apply Kd.R_drewN | apply Kd.R_drew)); exact HO_4.out)); (case aS => exact (below_size (by repeat (first | (with_reducible first | exact HB.out | apply below_alloc | apply pw_below_drewN | apply below_drew1) | exact HB.out)))); (case aL => have := LMc15.out; omega); intro v158 w16 ho hb hg hat; rw [← Ny157.out] at ho; have n0_ := Aside0.mk (hb); have n1_ := Aside0.mk (ho); clear HB; clear HO_4; have HB := n0_; have HO159 := n1_; clear n0_ n1_; clear ho hb hg hat))
                 repeat (go_quiet (first | ((with_reducible refine gate_builtin (b := .append) (xs := #[.tmp 51, .tmp 61]) rfl ?_); (try (refine gate_guard (by rfl) ?_; dsimp only)); at_builtin; refine Kd.R_append (Kd.int .u8) (w0 := w) w.heap.size rfl (.tmp 51) (.tmp 61) 42 5 (.int .u8 0) 1 rfl Try.underlying42 info5 rfl (by decide) (by omega) u4 x4_1 ((wrap64 ((wrap64 ((wrap64 ((rd l0 x5_1) * 16)) + x6_3)) - 1)) % 256) [.int .u8 ((wrap64 ((wrap64 ((wrap64 ((rd l0 x5_1) * 16)) + x6_3)) - 1)) % 256)] (fun _ => True) (fun _ => False) rfl rfl ?aP (fun _ hk => hk.elim) ?aF ?aO ?aB ?aS ?aL ?_; (case aP => exact rfl); (case aB => exact (by repeat (first | (with_reducible first | exact HB.out | apply below_alloc | apply pw_below_drewN | apply below_drew1) | exact HB.out))); (case aF => exact (fun _ _ => trivial)); (case aO => exact (by (with_reducible repeat (first | apply Kd.R_alloc | apply Kd.R_drewN | apply Kd.R_drew)); exact HO_4.out)); (case aS => exact (below_size (by repeat (first | (with_reducible first | exact HB.out | apply below_alloc | apply pw_below_drewN | apply below_drew1) | exact HB.out)))); (case aL => have := LMc15.out; omega); intro v158 w16 ho hb hg hat; rw [← Ny157.out] at ho; have n0_ := Aside0.mk (hb); have n1_ := Aside0.mk (ho); clear HB; clear HO_4; have HB := n0_; have HO159 := n1_; clear n0_ n1_; clear ho hb hg hat)); try go_wp2_with (first | ((with_reducible refine gate_builtin (b := .append) (xs := #[.tmp 51, .tmp 61]) rfl ?_); (try (refine gate_guard (by rfl) ?_; dsimp only)); at_builtin; refine Kd.R_append (Kd.int .u8) (w0 := w) w.heap.size rfl (.tmp 51) (.tmp 61) 42 5 (.int .u8 0) 1 rfl Try.underlying42 info5 rfl (by decide) (by omega) u4 x4_1 ((wrap64 ((wrap64 ((wrap64 ((rd l0 x5_1) * 16)) + x6_3)) - 1)) % 256) [.int .u8 ((wrap64 ((wrap64 ((wrap64 ((rd l0 x5_1) * 16)) + x6_3)) - 1)) % 256)] (fun _ => True) (fun _ => False) rfl rfl ?aP (fun _ hk => hk.elim) ?aF ?aO ?aB ?aS ?aL ?_; (case aP => exact rfl); (case aB => exact (by repeat (first | (with_reducible first | exact HB.out | apply below_alloc | apply pw_below_drewN | apply below_drew1) | exact HB.out))); (case aF => exact (fun _ _ => trivial)); (case aO => exact (by (with_reducible repeat (first | apply Kd.R_alloc | apply Kd.R_drewN | apply Kd.R_drew)); exact HO_4.out)); (case aS => exact (below_size (by repeat (first | (with_reducible first | exact HB.out | apply below_alloc | apply pw_below_drewN | apply below_drew1) | exact HB.out)))); (case aL => have := LMc15.out; omega); intro v158 w16 ho hb hg hat; rw [← Ny157.out] at ho; have n0_ := Aside0.mk (hb); have n1_ := Aside0.mk (ho); clear HB; clear HO_4; have HB := n0_; have HO159 := n1_; clear n0_ n1_; clear ho hb hg hat)))
                 go_roundg k3
                 case measure => have := HK1.out; have := HJ3.out; have := HK3.out; omega
                 case rel => exact ⟨(y157), (ji10), (by first | rfl | (simp; done) | (simp only [← hji10] <;> (first | rfl | simp)) | (simp [*]; done)), H', ⟨by have := HK1.out; have := HJ3.out; have := HK3.out; omega⟩, ⟨by (with_reducible repeat (first | apply Kd.R_alloc | apply Kd.R_drewN | apply Kd.R_drew)); exact HO159.out⟩, ⟨by repeat (first | (with_reducible first | exact HB.out | apply below_alloc | apply pw_below_drewN | apply below_drew1) | exact HB.out)⟩⟩
                ·rw [if_neg c15] at H
                 exact absurd H (by simp)
              ·rw [if_neg c13] at H
               exact absurd H (by simp)
             ·rw [if_neg c12] at H
              exact absurd H (by simp)
            ·rw [if_neg c11] at H
             exact absurd H (by simp)
           ·rw [if_neg c9] at H
            have c9b0 : decide ((wrap64 (x5_1 + x6_3)) < (l0.length : Int)) = false := decide_eq_false c9
            clear c9
            by_cases c17 : 0 ≤ x5_1
            ·rw [if_pos c17] at H
             have c17b0 : decide (0 ≤ x5_1) = true := decide_eq_true c17
             clear c17
             by_cases c18 : x5_1 < (l0.length : Int)
             ·rw [if_pos c18] at H
              have c18b0 : decide (x5_1 < (l0.length : Int)) = true := decide_eq_true c18
              clear c18
              by_cases c19 : x4_1.length < 140737488355328
              ·rw [if_pos c19] at H
               have LMc19 := Aside0.mk c19
               clear c19
               obtain ⟨y161, hy161⟩ : ∃ y_ : List Int, y_ = (x4_1 ++ [(wrap64 ((wrap64 ((wrap64 ((rd l0 x5_1) * 16)) + x6_3)) - 1)) % 256]) := ⟨_, rfl⟩
               replace H : (tab_Put.l0 k3 l0 y161 (wrap64 (x5_1 + x6_3))) = some (r1, r2) := by first | (rw [hy161]; with_reducible exact H) | (have H2_ := (Option.bind_some _ _).symm.trans H; rw [hy161]; with_reducible exact H2_) | (have H2_ := (Option.bind_some _ _).symm.trans H; with_reducible exact H2_) | with_reducible exact H | (rw [hy161]; exact H) | exact H
               have Ny161 := Aside0.mk hy161
               clear hy161
               have H' := Aside0.mk H
               clear H
               have p160 : 0 ≤ (x5_1 : Int) := of_decide_eq_true (by first | (with_reducible assumption) | assumption)
               have q160 : x5_1 < (l0.length : Int) := of_decide_eq_true (by first | (with_reducible assumption) | assumption)
               obtain ⟨ad160, e160, hx160_0⟩ := Kd.at_int HR0.out x5_1 p160 q160
               cases e160
               replace hx160_0 := (HB.out.cell (World.block_lt_of_cell? w _ hx160_0)).trans hx160_0
               replace p160 := eq_true p160
               replace q160 := eq_true q160
               go_wp2_with (first | ((with_reducible refine gate_builtin (b := .append) (xs := #[.tmp 51, .tmp 61]) rfl ?_); (try (refine gate_guard (by rfl) ?_; dsimp only)); at_builtin; refine Kd.R_append (Kd.int .u8) (w0 := w) w.heap.size rfl (.tmp 51) (.tmp 61) 42 5 (.int .u8 0) 1 rfl Try.underlying42 info5 rfl (by decide) (by omega) u4 x4_1 ((wrap64 ((wrap64 ((wrap64 ((rd l0 x5_1) * 16)) + x6_3)) - 1)) % 256) [.int .u8 ((wrap64 ((wrap64 ((wrap64 ((rd l0 x5_1) * 16)) + x6_3)) - 1)) % 256)] (fun _ => True) (fun _ => False) rfl rfl ?aP (fun _ hk => hk.elim) ?aF ?aO ?aB ?aS ?aL ?_; (case aP => exact rfl); (case aB => exact (by repeat (first | (with_reducible first | exact HB.out | apply below_alloc | apply pw_below_drewN | apply below_drew1) | exact HB.out))); (case aF => exact (fun _ _ => trivial)); (case aO => exact (by (with_reducible repeat (first | apply Kd.R_alloc | apply Kd.R_drewN | apply Kd.R_drew)); exact HO_4.out)); (case aS => exact (below_size (by repeat (first | (with_reducible first | exact HB.out | apply below_alloc | apply pw_below_drewN | apply below_drew1) | exact HB.out)))); (case aL => have := LMc19.out; omega); intro v162 w20 ho hb hg hat; rw [← Ny161.out] at ho; have n0_ := Aside0.mk (hb); have n1_ := Aside0.mk (ho); clear HB; clear HO_4; have HB := n0_; have HO163 := n1_; clear n0_ n1_; clear ho hb hg hat))
               repeat (go_quiet (first | ((with_reducible refine gate_builtin (b := .append) (xs := #[.tmp 51, .tmp 61]) rfl ?_); (try (refine gate_guard (by rfl) ?_; dsimp only)); at_builtin; refine Kd.R_append (Kd.int .u8) (w0 := w) w.heap.size rfl (.tmp 51) (.tmp 61) 42 5 (.int .u8 0) 1 rfl Try.underlying42 info5 rfl (by decide) (by omega) u4 x4_1 ((wrap64 ((wrap64 ((wrap64 ((rd l0 x5_1) * 16)) + x6_3)) - 1)) % 256) [.int .u8 ((wrap64 ((wrap64 ((wrap64 ((rd l0 x5_1) * 16)) + x6_3)) - 1)) % 256)] (fun _ => True) (fun _ => False) rfl rfl ?aP (fun _ hk => hk.elim) ?aF ?aO ?aB ?aS ?aL ?_; (case aP => exact rfl); (case aB => exact (by repeat (first | (with_reducible first | exact HB.out | apply below_alloc | apply pw_below_drewN | apply below_drew1) | exact HB.out))); (case aF => exact (fun _ _ => trivial)); (case aO => exact (by (with_reducible repeat (first | apply Kd.R_alloc | apply Kd.R_drewN | apply Kd.R_drew)); exact HO_4.out)); (case aS => exact (below_size (by repeat (first | (with_reducible first | exact HB.out | apply below_alloc | apply pw_below_drewN | apply below_drew1) | exact HB.out)))); (case aL => have := LMc19.out; omega); intro v162 w20 ho hb hg hat; rw [← Ny161.out] at ho; have n0_ := Aside0.mk (hb); have n1_ := Aside0.mk (ho); clear HB; clear HO_4; have HB := n0_; have HO163 := n1_; clear n0_ n1_; clear ho hb hg hat)); try go_wp2_with (first | ((with_reducible refine gate_builtin (b := .append) (xs := #[.tmp 51, .tmp 61]) rfl ?_); (try (refine gate_guard (by rfl) ?_; dsimp only)); at_builtin; refine Kd.R_append (Kd.int .u8) (w0 := w) w.heap.size rfl (.tmp 51) (.tmp 61) 42 5 (.int .u8 0) 1 rfl Try.underlying42 info5 rfl (by decide) (by omega) u4 x4_1 ((wrap64 ((wrap64 ((wrap64 ((rd l0 x5_1) * 16)) + x6_3)) - 1)) % 256) [.int .u8 ((wrap64 ((wrap64 ((wrap64 ((rd l0 x5_1) * 16)) + x6_3)) - 1)) % 256)] (fun _ => True) (fun _ => False) rfl rfl ?aP (fun _ hk => hk.elim) ?aF ?aO ?aB ?aS ?aL ?_; (case aP => exact rfl); (case aB => exact (by repeat (first | (with_reducible first | exact HB.out | apply below_alloc | apply pw_below_drewN | apply below_drew1) | exact HB.out))); (case aF => exact (fun _ _ => trivial)); (case aO => exact (by (with_reducible repeat (first | apply Kd.R_alloc | apply Kd.R_drewN | apply Kd.R_drew)); exact HO_4.out)); (case aS => exact (below_size (by repeat (first | (with_reducible first | exact HB.out | apply below_alloc | apply pw_below_drewN | apply below_drew1) | exact HB.out)))); (case aL => have := LMc19.out; omega); intro v162 w20 ho hb hg hat; rw [← Ny161.out] at ho; have n0_ := Aside0.mk (hb); have n1_ := Aside0.mk (ho); clear HB; clear HO_4; have HB := n0_; have HO163 := n1_; clear n0_ n1_; clear ho hb hg hat)))
               go_roundg k3
               case measure => have := HK1.out; have := HJ3.out; have := HK3.out; omega
               case rel => exact ⟨(y161), (wrap64 (x5_1 + x6_3)), (by first | rfl | (simp; done) | (simp [*]; done)), H', ⟨by have := HK1.out; have := HJ3.out; have := HK3.out; omega⟩, ⟨by (with_reducible repeat (first | apply Kd.R_alloc | apply Kd.R_drewN | apply Kd.R_drew)); exact HO163.out⟩, ⟨by repeat (first | (with_reducible first | exact HB.out | apply below_alloc | apply pw_below_drewN | apply below_drew1) | exact HB.out)⟩⟩
              ·rw [if_neg c19] at H
               exact absurd H (by simp)
             ·rw [if_neg c18] at H
              exact absurd H (by simp)
            ·rw [if_neg c17] at H
             exact absurd H (by simp)
          ·rw [if_neg c8] at H
           have c8b0 : decide (x6_3 < 16) = false := decide_eq_false c8
           clear c8
           by_cases c21 : 0 ≤ x5_1
           ·rw [if_pos c21] at H
            have c21b0 : decide (0 ≤ x5_1) = true := decide_eq_true c21
            clear c21
            by_cases c22 : x5_1 < (l0.length : Int)
            ·rw [if_pos c22] at H
             have c22b0 : decide (x5_1 < (l0.length : Int)) = true := decide_eq_true c22
             clear c22
             by_cases c23 : x4_1.length < 140737488355328
             ·rw [if_pos c23] at H
              have LMc23 := Aside0.mk c23
              clear c23
              obtain ⟨y165, hy165⟩ : ∃ y_ : List Int, y_ = (x4_1 ++ [(wrap64 ((wrap64 ((wrap64 ((rd l0 x5_1) * 16)) + x6_3)) - 1)) % 256]) := ⟨_, rfl⟩
              replace H : (tab_Put.l0 k3 l0 y165 (wrap64 (x5_1 + x6_3))) = some (r1, r2) := by first | (rw [hy165]; with_reducible exact H) | (have H2_ := (Option.bind_some _ _).symm.trans H; rw [hy165]; with_reducible exact H2_) | (have H2_ := (Option.bind_some _ _).symm.trans H; with_reducible exact H2_) | with_reducible exact H | (rw [hy165]; exact H) | exact H
              have Ny165 := Aside0.mk hy165
              clear hy165
              have H' := Aside0.mk H
              clear H
              have p164 : 0 ≤ (x5_1 : Int) := of_decide_eq_true (by first | (with_reducible assumption) | assumption)
              have q164 : x5_1 < (l0.length : Int) := of_decide_eq_true (by first | (with_reducible assumption) | assumption)
              obtain ⟨ad164, e164, hx164_0⟩ := Kd.at_int HR0.out x5_1 p164 q164
              cases e164
              replace hx164_0 := (HB.out.cell (World.block_lt_of_cell? w _ hx164_0)).trans hx164_0
              replace p164 := eq_true p164
              replace q164 := eq_true q164
              go_wp2_with (first | ((with_reducible refine gate_builtin (b := .append) (xs := #[.tmp 51, .tmp 61]) rfl ?_); (try (refine gate_guard (by rfl) ?_; dsimp only)); at_builtin; refine Kd.R_append (Kd.int .u8) (w0 := w) w.heap.size rfl (.tmp 51) (.tmp 61) 42 5 (.int .u8 0) 1 rfl Try.underlying42 info5 rfl (by decide) (by omega) u4 x4_1 ((wrap64 ((wrap64 ((wrap64 ((rd l0 x5_1) * 16)) + x6_3)) - 1)) % 256) [.int .u8 ((wrap64 ((wrap64 ((wrap64 ((rd l0 x5_1) * 16)) + x6_3)) - 1)) % 256)] (fun _ => True) (fun _ => False) rfl rfl ?aP (fun _ hk => hk.elim) ?aF ?aO ?aB ?aS ?aL ?_; (case aP => exact rfl); (case aB => exact (by repeat (first | (with_reducible first | exact HB.out | apply below_alloc | apply pw_below_drewN | apply below_drew1) | exact HB.out))); (case aF => exact (fun _ _ => trivial)); (case aO => exact (by (with_reducible repeat (first | apply Kd.R_alloc | apply Kd.R_drewN | apply Kd.R_drew)); exact HO_4.out)); (case aS => exact (below_size (by repeat (first | (with_reducible first | exact HB.out | apply below_alloc | apply pw_below_drewN | apply below_drew1) | exact HB.out)))); (case aL => have := LMc23.out; omega); intro v166 w24 ho hb hg hat; rw [← Ny165.out] at ho; have n0_ := Aside0.mk (hb); have n1_ := Aside0.mk (ho); clear HB; clear HO_4; have HB := n0_; have HO167 := n1_; clear n0_ n1_; clear ho hb hg hat))
              repeat (go_quiet (first | ((with_reducible refine gate_builtin (b := .append) (xs := #[.tmp 51, .tmp 61]) rfl ?_); (try (refine gate_guard (by rfl) ?_; dsimp only)); at_builtin; refine Kd.R_append (Kd.int .u8) (w0 := w) w.heap.size rfl (.tmp 51) (.tmp 61) 42 5 (.int .u8 0) 1 rfl Try.underlying42 info5 rfl (by decide) (by omega) u4 x4_1 ((wrap64 ((wrap64 ((wrap64 ((rd l0 x5_1) * 16)) + x6_3)) - 1)) % 256) [.int .u8 ((wrap64 ((wrap64 ((wrap64 ((rd l0 x5_1) * 16)) + x6_3)) - 1)) % 256)] (fun _ => True) (fun _ => False) rfl rfl ?aP (fun _ hk => hk.elim) ?aF ?aO ?aB ?aS ?aL ?_; (case aP => exact rfl); (case aB => exact (by repeat (first | (with_reducible first | exact HB.out | apply below_alloc | apply pw_below_drewN | apply below_drew1) | exact HB.out))); (case aF => exact (fun _ _ => trivial)); (case aO => exact (by (with_reducible repeat (first | apply Kd.R_alloc | apply Kd.R_drewN | apply Kd.R_drew)); exact HO_4.out)); (case aS => exact (below_size (by repeat (first | (with_reducible first | exact HB.out | apply below_alloc | apply pw_below_drewN | apply below_drew1) | exact HB.out)))); (case aL => have := LMc23.out; omega); intro v166 w24 ho hb hg hat; rw [← Ny165.out] at ho; have n0_ := Aside0.mk (hb); have n1_ := Aside0.mk (ho); clear HB; clear HO_4; have HB := n0_; have HO167 := n1_; clear n0_ n1_; clear ho hb hg hat)); try go_wp2_with (first | ((with_reducible refine gate_builtin (b := .append) (xs := #[.tmp 51, .tmp 61]) rfl ?_); (try (refine gate_guard (by rfl) ?_; dsimp only)); at_builtin; refine Kd.R_append (Kd.int .u8) (w0 := w) w.heap.size rfl (.tmp 51) (.tmp 61) 42 5 (.int .u8 0) 1 rfl Try.underlying42 info5 rfl (by decide) (by omega) u4 x4_1 ((wrap64 ((wrap64 ((wrap64 ((rd l0 x5_1) * 16)) + x6_3)) - 1)) % 256) [.int .u8 ((wrap64 ((wrap64 ((wrap64 ((rd l0 x5_1) * 16)) + x6_3)) - 1)) % 256)] (fun _ => True) (fun _ => False) rfl rfl ?aP (fun _ hk => hk.elim) ?aF ?aO ?aB ?aS ?aL ?_; (case aP => exact rfl); (case aB => exact (by repeat (first | (with_reducible first | exact HB.out | apply below_alloc | apply pw_below_drewN | apply below_drew1) | exact HB.out))); (case aF => exact (fun _ _ => trivial)); (case aO => exact (by (with_reducible repeat (first | apply Kd.R_alloc | apply Kd.R_drewN | apply Kd.R_drew)); exact HO_4.out)); (case aS => exact (below_size (by repeat (first | (with_reducible first | exact HB.out | apply below_alloc | apply pw_below_drewN | apply below_drew1) | exact HB.out)))); (case aL => have := LMc23.out; omega); intro v166 w24 ho hb hg hat; rw [← Ny165.out] at ho; have n0_ := Aside0.mk (hb); have n1_ := Aside0.mk (ho); clear HB; clear HO_4; have HB := n0_; have HO167 := n1_; clear n0_ n1_; clear ho hb hg hat)))
              go_roundg k3
              case measure => have := HK1.out; have := HJ3.out; have := HK3.out; omega
              case rel => exact ⟨(y165), (wrap64 (x5_1 + x6_3)), (by first | rfl | (simp; done) | (simp [*]; done)), H', ⟨by have := HK1.out; have := HJ3.out; have := HK3.out; omega⟩, ⟨by (with_reducible repeat (first | apply Kd.R_alloc | apply Kd.R_drewN | apply Kd.R_drew)); exact HO167.out⟩, ⟨by repeat (first | (with_reducible first | exact HB.out | apply below_alloc | apply pw_below_drewN | apply below_drew1) | exact HB.out)⟩⟩
             ·rw [if_neg c23] at H
              exact absurd H (by simp)
            ·rw [if_neg c22] at H
             exact absurd H (by simp)
           ·rw [if_neg c21] at H
            exact absurd H (by simp)
    ·rw [if_neg c3] at H
     have c3b0 : decide (x5_1 < (l0.length : Int)) = false := decide_eq_false c3
     clear c3
     simp only [Option.some.injEq, Prod.mk.injEq] at H
     obtain ⟨rfl, rfl⟩ := H
     have hcv25 := own_string (P := Try.prog) Try.underlying42 Try.underlying5 Try.underlying9 (Kd.own_of_R HO_4.out)
     go_wp2
     repeat (go_quiet (fail); try go_wp2)
     go_ret2
     exact ⟨by first | rfl | (simp [errW_none, errW_some] <;> rfl) | (simp [*, errW_none, errW_some] <;> rfl), by repeat (first | (with_reducible first | exact HB.out | apply below_alloc | apply pw_below_drewN | apply below_drew1) | exact HB.out)⟩
mutual
def tab_Get.j0 : Nat → ByteArray → Int → Bool → Option (List Int × Int × Int)
 | 0, _, _, _ => none
 | k + 1, x0, x1, x17 => if x17 = true then (some (([] : List Int), 0, 1)) else (tab_Get.l0 k x0 x1 ([] : List Int) 0)
def tab_Get.l0 : Nat → ByteArray → Int → List Int → Int → Option (List Int × Int × Int)
 | 0, _, _, _, _ => none
 | k + 1, x0, x1, x7, x8 => if (x7.length : Int) < x1 then (if x8 = (x0.size : Int) then (some (([] : List Int), 0, 2)) else (if 0 ≤ x8 then (if x8 < (x0.size : Int) then (if x8 > 0 then (if 0 ≤ (wrap64 (x8 - 1)) then (if (wrap64 (x8 - 1)) < (x0.size : Int) then (if (wrap64 (Int.tdiv (wrap64 (bt x0 (wrap64 (x8 - 1)))) 16)) = (wrap64 (Int.tdiv (wrap64 (bt x0 x8)) 16)) then (tab_Get.j2 k x0 x1 x7 x8 (wrap64 (Int.tdiv (wrap64 (bt x0 x8)) 16)) (wrap64 ((Int.tmod (wrap64 (bt x0 x8)) 16) + 1)) (decide ((wrap64 ((Int.tmod (wrap64 (bt x0 (wrap64 (x8 - 1)))) 16) + 1)) < 16))) else (tab_Get.j2 k x0 x1 x7 x8 (wrap64 (Int.tdiv (wrap64 (bt x0 x8)) 16)) (wrap64 ((Int.tmod (wrap64 (bt x0 x8)) 16) + 1)) false)) else (none)) else (none)) else (tab_Get.j2 k x0 x1 x7 x8 (wrap64 (Int.tdiv (wrap64 (bt x0 x8)) 16)) (wrap64 ((Int.tmod (wrap64 (bt x0 x8)) 16) + 1)) false)) else (none)) else (none))) else (some (x7, x8, 0))
def tab_Get.j2 : Nat → ByteArray → Int → List Int → Int → Int → Int → Bool → Option (List Int × Int × Int)
 | 0, _, _, _, _, _, _, _ => none
 | k + 1, x0, x1, x7, x8, x9, x10, x11 => if x11 = true then (tab_Get.j3 k x0 x1 x7 x8 x9 x10 true) else (tab_Get.j3 k x0 x1 x7 x8 x9 x10 (decide (x10 > (wrap64 (x1 - (x7.length : Int))))))
def tab_Get.j3 : Nat → ByteArray → Int → List Int → Int → Int → Int → Bool → Option (List Int × Int × Int)
 | 0, _, _, _, _, _, _, _ => none
 | k + 1, x0, x1, x7, x8, x9, x10, x69 => if x69 = true then (some (([] : List Int), 0, 3)) else (tab_Get.l1 k x0 x1 x7 x8 x9 x10 0)
def tab_Get.l1 : Nat → ByteArray → Int → List Int → Int → Int → Int → Int → Option (List Int × Int × Int)
 | 0, _, _, _, _, _, _, _ => none
 | k + 1, x0, x1, x7, x8, x9, x70, x71 => if x71 < x70 then (if x7.length < 17592186044416 then (tab_Get.l1 k x0 x1 (x7 ++ [x9]) x8 x9 x70 (wrap64 (x71 + 1))) else (none)) else (tab_Get.l0 k x0 x1 x7 (wrap64 (x8 + 1)))
end
def tab_Get.f (k : Nat) (a0 : ByteArray) (a1 : Int) : Option (List Int × Int × Int) := if a1 < 0 then (tab_Get.j0 k a0 a1 true) else (tab_Get.j0 k a0 a1 (decide (a1 > 356)))
set_option maxHeartbeats 8000000 in
set_option maxRecDepth 100000 in
theorem tab_Get.calls (k : Nat) (a0 : ByteArray) (a1 : Int) (r1 : List Int) (r2 : Int) (r3 : Int) (w : World) (h : tab_Get.f k a0 a1 = some (r1, r2, r3)) :
  Calls Try.prog 68 #[.string a0, .int .i64 a1] w fun e w' => ∃ v0_ : Value, e = .returned (.tuple #[v0_, .int .i64 r2, .int .i64 r3]) ∧ Kd.R (Kd.int .i64) 3 w' w.heap.size (fun _ => True) v0_ r1 ∧ Below w.heap.size w w' := by
 have HB := Aside0.mk (Below.refl w.heap.size w)
 have H : (if a1 < 0 then (tab_Get.j0 k a0 a1 true) else (tab_Get.j0 k a0 a1 (decide (a1 > 356)))) = some (r1, r2, r3) := h
 clear h
 have HC3 := Aside0.mk H
 clear H
 go_enter Try.func68, Try.ntmps68
 go_upto_region 1 with (fail)
 repeat (go_quiet (fail); go_upto_region 1 with (fail))
 go_cut [17] (fun v17 wc => ∃ (kq : Nat) (x17_2 : Bool), v17 = .bool x17_2 ∧ Aside0 (tab_Get.j0 kq a0 a1 x17_2 = some (r1, r2, r3)) ∧ Aside0 (kq ≤ k) ∧ Aside0 (Below w.heap.size w wc))
 case first =>
  have H := HC3.out
  clear HC3
  by_cases c4 : a1 < 0
  ·rw [if_pos c4] at H
   have c4b0 : decide (a1 < 0) = true := decide_eq_true c4
   clear c4
   (first | rw [c4b0] | (simp only [i64_w, i32_w]; rw [c4b0]) | skip)
   have H' := Aside0.mk H
   clear H
   go_wp2
   repeat (go_quiet (fail); try go_wp2)
   go_meet
   case rel => exact ⟨_, (true), (by first | rfl | (simp; done) | (simp [*]; done)), H', ⟨by first | omega | exact Nat.le_refl _⟩, ⟨by repeat (first | (with_reducible first | exact HB.out | apply below_alloc | apply pw_below_drewN | apply below_drew1) | exact HB.out)⟩⟩
  ·rw [if_neg c4] at H
   have c4b0 : decide (a1 < 0) = false := decide_eq_false c4
   clear c4
   (first | rw [c4b0] | (simp only [i64_w, i32_w]; rw [c4b0]) | skip)
   have H' := Aside0.mk H
   clear H
   go_wp2
   repeat (go_quiet (fail); try go_wp2)
   go_meet
   case rel => exact ⟨_, (decide (a1 > 356)), (by first | rfl | (simp; done) | (simp [*]; done)), H', ⟨by first | omega | exact Nat.le_refl _⟩, ⟨by repeat (first | (with_reducible first | exact HB.out | apply below_alloc | apply pw_below_drewN | apply below_drew1) | exact HB.out)⟩⟩
 case rest =>
  clear HC3
  try clear p2
  try clear c4
  try clear c4b0
  obtain ⟨kq, x17_2, rfl, HA, HJ2, HB⟩ := hcut
  cases kq with
  | zero => exact absurd HA.out (by simp [tab_Get.j0])
  | succ kj2 =>
   have H := HA.out
   clear HA
   simp only [tab_Get.j0] at H
   by_cases c5 : x17_2 = true
   ·subst c5
    have H1 : (some (([] : List Int), 0, 1)) = some (r1, r2, r3) := by rw [if_pos rfl] at H; exact H
    clear H
    have H := H1
    clear H1
    simp only [Option.some.injEq, Prod.mk.injEq] at H
    obtain ⟨rfl, rfl, rfl⟩ := H
    go_wp2
    repeat (go_quiet (fail); try go_wp2)
    go_ret3
    exact ⟨_, by first | rfl | (simp [errW_none, errW_some] <;> rfl) | (simp [*, errW_none, errW_some] <;> rfl), by first | exact Kd.R_nil _ _ _ _ _ | exact Kd.N_nil _ _ _ _ _ | exact Kd.V_nil _ _ _ _ _ | exact Kd.Q_nil _ _ _ _ _ | exact Kd.S_nil _ _ _ _ _, by repeat (first | (with_reducible first | exact HB.out | apply below_alloc | apply pw_below_drewN | apply below_drew1) | exact HB.out)⟩
   ·replace c5 := Bool.eq_false_iff.mpr c5
    subst c5
    have H1 : (tab_Get.l0 kj2 a0 a1 ([] : List Int) 0) = some (r1, r2, r3) := by rw [if_neg (show ¬ (false = true) by decide)] at H; exact H
    clear H
    have H := H1
    clear H1
    have H' := Aside0.mk H
    clear H
    go_wp2
    repeat (go_quiet (fail); try go_wp2)
    go_loopg [7, 8] kj2 (fun kq v7 v8 w' => ∃ (x7_2 : List Int) (x8_2 : Int), v8 = .int .i64 x8_2 ∧ Aside0 (tab_Get.l0 kq a0 a1 x7_2 x8_2 = some (r1, r2, r3)) ∧ Aside0 (kq ≤ kj2) ∧ Aside0 (Kd.R (Kd.int .i64) 3 w' w.heap.size (fun _ => True) v7 x7_2) ∧ Aside0 (Below w.heap.size w w'))
    case atStart => exact ⟨(([] : List Int)), (0), (by first | rfl | (simp; done) | (simp [*]; done)), H', ⟨Nat.le_refl _⟩, ⟨by first | exact Kd.R_nil _ _ _ _ _ | exact Kd.N_nil _ _ _ _ _ | exact Kd.V_nil _ _ _ _ _ | exact Kd.Q_nil _ _ _ _ _ | exact Kd.S_nil _ _ _ _ _⟩, ⟨by repeat (first | (with_reducible first | exact HB.out | apply below_alloc | apply pw_below_drewN | apply below_drew1) | exact HB.out)⟩⟩
    case round =>
     clear H'
     try clear p2
     try clear c4
     try clear c4b0
     try clear c5
     try clear p2
     obtain ⟨x7_2, x8_2, rfl, HA, HK2, HO_7, HB⟩ := hrel
     cases gk with
     | zero => exact absurd HA.out (by simp [tab_Get.l0])
     | succ k2 =>
      have H := HA.out
      clear HA
      simp only [tab_Get.l0] at H
      by_cases c6 : (x7_2.length : Int) < a1
      ·rw [if_pos c6] at H
       have c6b0 : decide ((x7_2.length : Int) < a1) = true := decide_eq_true c6
       clear c6
       by_cases c7 : x8_2 = (a0.size : Int)
       ·rw [if_pos c7] at H
        have c7b0 : (x8_2 == (a0.size : Int)) = true := beq_iff_eq.mpr c7
        have c7b1 : (x8_2 != (a0.size : Int)) = false := bne_eq_false_iff_eq.mpr c7
        clear c7
        simp only [Option.some.injEq, Prod.mk.injEq] at H
        obtain ⟨rfl, rfl, rfl⟩ := H
        obtain ⟨Ao8, co8, eo8⟩ := Kd.R_slice HO_7.out
        subst eo8
        go_wp2
        repeat (go_quiet (fail); try go_wp2)
        go_ret3
        exact ⟨_, by first | rfl | (simp [errW_none, errW_some] <;> rfl) | (simp [*, errW_none, errW_some] <;> rfl), by first | exact Kd.R_nil _ _ _ _ _ | exact Kd.N_nil _ _ _ _ _ | exact Kd.V_nil _ _ _ _ _ | exact Kd.Q_nil _ _ _ _ _ | exact Kd.S_nil _ _ _ _ _, by repeat (first | (with_reducible first | exact HB.out | apply below_alloc | apply pw_below_drewN | apply below_drew1) | exact HB.out)⟩
       ·rw [if_neg c7] at H
        have c7b0 : (x8_2 == (a0.size : Int)) = false := beq_eq_false_iff_ne.mpr c7
        have c7b1 : (x8_2 != (a0.size : Int)) = true := bne_iff_ne.mpr c7
        by_cases c9 : 0 ≤ x8_2
        ·rw [if_pos c9] at H
         have c9b0 : decide (0 ≤ x8_2) = true := decide_eq_true c9
         clear c9
         by_cases c10 : x8_2 < (a0.size : Int)
         ·rw [if_pos c10] at H
          have c10b0 : decide (x8_2 < (a0.size : Int)) = true := decide_eq_true c10
          clear c10
          have HC13 := Aside0.mk H
          clear H
          obtain ⟨Ao14, co14, eo14⟩ := Kd.R_slice HO_7.out
          subst eo14
          have p11 : 0 ≤ (x8_2 : Int) := of_decide_eq_true (by first | (with_reducible assumption) | assumption)
          have q11 : x8_2 < (a0.size : Int) := of_decide_eq_true (by first | (with_reducible assumption) | assumption)
          have hx11 := bt_at a0 x8_2
          replace p11 := eq_true p11
          replace q11 := eq_true q11
          have p12 : 0 ≤ (x8_2 : Int) := of_decide_eq_true (by first | (with_reducible assumption) | assumption)
          have q12 : x8_2 < (a0.size : Int) := of_decide_eq_true (by first | (with_reducible assumption) | assumption)
          have hx12 := bt_at a0 x8_2
          replace p12 := eq_true p12
          replace q12 := eq_true q12
          go_upto_region 10 with (fail)
          repeat (go_quiet (fail); go_upto_region 10 with (fail))
          go_cut [11] (fun v11 wc => ∃ (kq : Nat) (x11_12 : Bool), v11 = .bool x11_12 ∧ Aside0 (tab_Get.j2 kq a0 a1 x7_2 x8_2 (wrap64 (Int.tdiv (wrap64 (bt a0 x8_2)) 16)) (wrap64 ((Int.tmod (wrap64 (bt a0 x8_2)) 16) + 1)) x11_12 = some (r1, r2, r3)) ∧ Aside0 (kq ≤ k2) ∧ Aside0 (Kd.R (Kd.int .i64) 3 wc w.heap.size (fun _ => True) (.slice Ao14 x7_2.length co14) x7_2) ∧ Aside0 (Below w.heap.size w wc))
          case first =>
           have H := HC13.out
           clear HC13
           by_cases c15 : x8_2 > 0
           ·rw [if_pos c15] at H
            have c15b0 : decide (0 < x8_2) = true := decide_eq_true c15
            clear c15
            (first | rw [c15b0] | (simp only [i64_w, i32_w]; rw [c15b0]) | skip)
            obtain ⟨ji16, hji16⟩ : ∃ j_ : Int, (wrap64 (x8_2 - 1)) = j_ := ⟨_, rfl⟩
            replace H : (if 0 ≤ (ji16) then (if (ji16) < (a0.size : Int) then (if (wrap64 (Int.tdiv (wrap64 (bt a0 (ji16))) 16)) = (wrap64 (Int.tdiv (wrap64 (bt a0 x8_2)) 16)) then (tab_Get.j2 k2 a0 a1 x7_2 x8_2 (wrap64 (Int.tdiv (wrap64 (bt a0 x8_2)) 16)) (wrap64 ((Int.tmod (wrap64 (bt a0 x8_2)) 16) + 1)) (decide ((wrap64 ((Int.tmod (wrap64 (bt a0 (ji16))) 16) + 1)) < 16))) else (tab_Get.j2 k2 a0 a1 x7_2 x8_2 (wrap64 (Int.tdiv (wrap64 (bt a0 x8_2)) 16)) (wrap64 ((Int.tmod (wrap64 (bt a0 x8_2)) 16) + 1)) false)) else (none)) else (none)) = some (r1, r2, r3) := by first | (rw [hji16] at H; exact H) | (simp only [hji16] at H ⊢; exact H)
            have hji16w : (IntKind.i64.wrap (x8_2 - 1)) = ji16 := (i64_w _).trans hji16
            by_cases c17 : 0 ≤ (ji16)
            ·rw [if_pos c17] at H
             have c17b0 : decide (0 ≤ (ji16)) = true := decide_eq_true c17
             clear c17
             by_cases c18 : (ji16) < (a0.size : Int)
             ·rw [if_pos c18] at H
              have c18b0 : decide ((ji16) < (a0.size : Int)) = true := decide_eq_true c18
              clear c18
              by_cases c20 : (wrap64 (Int.tdiv (wrap64 (bt a0 (ji16))) 16)) = (wrap64 (Int.tdiv (wrap64 (bt a0 x8_2)) 16))
              ·rw [if_pos c20] at H
               have c20b0 : ((wrap64 (Int.tdiv (wrap64 (bt a0 (ji16))) 16)) == (wrap64 (Int.tdiv (wrap64 (bt a0 x8_2)) 16))) = true := beq_iff_eq.mpr c20
               have c20b1 : ((wrap64 (Int.tdiv (wrap64 (bt a0 (ji16))) 16)) != (wrap64 (Int.tdiv (wrap64 (bt a0 x8_2)) 16))) = false := bne_eq_false_iff_eq.mpr c20
               clear c20
               have H' := Aside0.mk H
               clear H
               have p19 : 0 ≤ ((ji16) : Int) := of_decide_eq_true (by first | (with_reducible assumption) | assumption)
               have q19 : (ji16) < (a0.size : Int) := of_decide_eq_true (by first | (with_reducible assumption) | assumption)
               have hx19 := bt_at a0 (ji16)
               replace p19 := eq_true p19
               replace q19 := eq_true q19
               have p21 : 0 ≤ ((ji16) : Int) := of_decide_eq_true (by first | (with_reducible assumption) | assumption)
               have q21 : (ji16) < (a0.size : Int) := of_decide_eq_true (by first | (with_reducible assumption) | assumption)
               have hx21 := bt_at a0 (ji16)
               replace p21 := eq_true p21
               replace q21 := eq_true q21
               go_wp2
               repeat (go_quiet (fail); try go_wp2)
               go_meet
               case rel => exact ⟨_, (decide ((wrap64 ((Int.tmod (wrap64 (bt a0 (ji16))) 16) + 1)) < 16)), (by first | rfl | (simp; done) | (simp only [← hji16] <;> (first | rfl | simp)) | (simp [*]; done)), H', ⟨by have := HJ2.out; have := HK2.out; first | omega | exact Nat.le_refl _⟩, ⟨by (with_reducible repeat (first | apply Kd.R_alloc | apply Kd.R_drewN | apply Kd.R_drew)); exact HO_7.out⟩, ⟨by repeat (first | (with_reducible first | exact HB.out | apply below_alloc | apply pw_below_drewN | apply below_drew1) | exact HB.out)⟩⟩
              ·rw [if_neg c20] at H
               have c20b0 : ((wrap64 (Int.tdiv (wrap64 (bt a0 (ji16))) 16)) == (wrap64 (Int.tdiv (wrap64 (bt a0 x8_2)) 16))) = false := beq_eq_false_iff_ne.mpr c20
               have c20b1 : ((wrap64 (Int.tdiv (wrap64 (bt a0 (ji16))) 16)) != (wrap64 (Int.tdiv (wrap64 (bt a0 x8_2)) 16))) = true := bne_iff_ne.mpr c20
               have H' := Aside0.mk H
               clear H
               have p19 : 0 ≤ ((ji16) : Int) := of_decide_eq_true (by first | (with_reducible assumption) | assumption)
               have q19 : (ji16) < (a0.size : Int) := of_decide_eq_true (by first | (with_reducible assumption) | assumption)
               have hx19 := bt_at a0 (ji16)
               replace p19 := eq_true p19
               replace q19 := eq_true q19
               go_wp2
               repeat (go_quiet (fail); try go_wp2)
               go_meet
               case rel => exact ⟨_, (false), (by first | rfl | (simp; done) | (simp [*]; done)), H', ⟨by have := HJ2.out; have := HK2.out; first | omega | exact Nat.le_refl _⟩, ⟨by (with_reducible repeat (first | apply Kd.R_alloc | apply Kd.R_drewN | apply Kd.R_drew)); exact HO_7.out⟩, ⟨by repeat (first | (with_reducible first | exact HB.out | apply below_alloc | apply pw_below_drewN | apply below_drew1) | exact HB.out)⟩⟩
             ·rw [if_neg c18] at H
              exact absurd H (by simp)
            ·rw [if_neg c17] at H
             exact absurd H (by simp)
           ·rw [if_neg c15] at H
            have c15b0 : decide (0 < x8_2) = false := decide_eq_false c15
            clear c15
            (first | rw [c15b0] | (simp only [i64_w, i32_w]; rw [c15b0]) | skip)
            have H' := Aside0.mk H
            clear H
            go_wp2
            repeat (go_quiet (fail); try go_wp2)
            go_meet
            case rel => exact ⟨_, (false), (by first | rfl | (simp; done) | (simp [*]; done)), H', ⟨by have := HJ2.out; have := HK2.out; first | omega | exact Nat.le_refl _⟩, ⟨by (with_reducible repeat (first | apply Kd.R_alloc | apply Kd.R_drewN | apply Kd.R_drew)); exact HO_7.out⟩, ⟨by repeat (first | (with_reducible first | exact HB.out | apply below_alloc | apply pw_below_drewN | apply below_drew1) | exact HB.out)⟩⟩
          case rest =>
           clear HC13
           try clear c1
           try clear p1
           try clear q1
           try clear hx1
           try clear c2
           try clear p2
           try clear q2
           try clear hx2
           try clear c4
           try clear c4b0
           try clear c5
           try clear c6
           try clear c6b0
           try clear p6
           try clear c7
           try clear c7b0
           try clear c7b1
           try clear c9
           try clear c9b0
           try clear c10
           try clear c10b0
           try clear p11
           try clear q11
           try clear hx11
           try clear p12
           try clear q12
           try clear hx12
           try clear c15
           try clear c15b0
           try clear c17
           try clear c17b0
           try clear c18
           try clear c18b0
           try clear p19
           try clear q19
           try clear hx19
           try clear c20
           try clear c20b0
           try clear c20b1
           try clear p21
           try clear q21
           try clear hx21
           try clear p11
           try clear p12
           try clear p19
           try clear p2
           try clear p21
           try clear q11
           try clear q12
           try clear q19
           try clear q21
           obtain ⟨kq, x11_12, rfl, HA, HJ12, HO_7, HB⟩ := hcut
           cases kq with
           | zero => exact absurd HA.out (by simp [tab_Get.j2])
           | succ kj12 =>
            have H := HA.out
            clear HA
            simp only [tab_Get.j2] at H
            have HC22 := Aside0.mk H
            clear H
            go_upto_region 11 with (fail)
            repeat (go_quiet (fail); go_upto_region 11 with (fail))
            go_cut [69] (fun v69 wc => ∃ (kq : Nat) (x69_21 : Bool), v69 = .bool x69_21 ∧ Aside0 (tab_Get.j3 kq a0 a1 x7_2 x8_2 (wrap64 (Int.tdiv (wrap64 (bt a0 x8_2)) 16)) (wrap64 ((Int.tmod (wrap64 (bt a0 x8_2)) 16) + 1)) x69_21 = some (r1, r2, r3)) ∧ Aside0 (kq ≤ kj12) ∧ Aside0 (Kd.R (Kd.int .i64) 3 wc w.heap.size (fun _ => True) (.slice Ao14 x7_2.length co14) x7_2) ∧ Aside0 (Below w.heap.size w wc))
            case first =>
             have H := HC22.out
             clear HC22
             by_cases c23 : x11_12 = true
             ·subst c23
              have H1 : (tab_Get.j3 kj12 a0 a1 x7_2 x8_2 (wrap64 (Int.tdiv (wrap64 (bt a0 x8_2)) 16)) (wrap64 ((Int.tmod (wrap64 (bt a0 x8_2)) 16) + 1)) true) = some (r1, r2, r3) := by rw [if_pos rfl] at H; exact H
              clear H
              have H := H1
              clear H1
              have H' := Aside0.mk H
              clear H
              go_wp2
              repeat (go_quiet (fail); try go_wp2)
              go_meet
              case rel => exact ⟨_, (true), (by first | rfl | (simp; done) | (simp [*]; done)), H', ⟨by have := HJ2.out; have := HK2.out; have := HJ12.out; first | omega | exact Nat.le_refl _⟩, ⟨by (with_reducible repeat (first | apply Kd.R_alloc | apply Kd.R_drewN | apply Kd.R_drew)); exact HO_7.out⟩, ⟨by repeat (first | (with_reducible first | exact HB.out | apply below_alloc | apply pw_below_drewN | apply below_drew1) | exact HB.out)⟩⟩
             ·replace c23 := Bool.eq_false_iff.mpr c23
              subst c23
              have H1 : (tab_Get.j3 kj12 a0 a1 x7_2 x8_2 (wrap64 (Int.tdiv (wrap64 (bt a0 x8_2)) 16)) (wrap64 ((Int.tmod (wrap64 (bt a0 x8_2)) 16) + 1)) (decide ((wrap64 ((Int.tmod (wrap64 (bt a0 x8_2)) 16) + 1)) > (wrap64 (a1 - (x7_2.length : Int)))))) = some (r1, r2, r3) := by rw [if_neg (show ¬ (false = true) by decide)] at H; exact H
              clear H
              have H := H1
              clear H1
              have H' := Aside0.mk H
              clear H
              go_wp2
              repeat (go_quiet (fail); try go_wp2)
              go_meet
              case rel => exact ⟨_, (decide ((wrap64 ((Int.tmod (wrap64 (bt a0 x8_2)) 16) + 1)) > (wrap64 (a1 - (x7_2.length : Int))))), (by first | rfl | (simp; done) | (simp [*]; done)), H', ⟨by have := HJ2.out; have := HK2.out; have := HJ12.out; first | omega | exact Nat.le_refl _⟩, ⟨by (with_reducible repeat (first | apply Kd.R_alloc | apply Kd.R_drewN | apply Kd.R_drew)); exact HO_7.out⟩, ⟨by repeat (first | (with_reducible first | exact HB.out | apply below_alloc | apply pw_below_drewN | apply below_drew1) | exact HB.out)⟩⟩
            case rest =>
             clear HC22
             try clear c1
             try clear p1
             try clear q1
             try clear hx1
             try clear c2
             try clear p2
             try clear q2
             try clear hx2
             try clear c4
             try clear c4b0
             try clear c5
             try clear c6
             try clear c6b0
             try clear p6
             try clear c7
             try clear c7b0
             try clear c7b1
             try clear c9
             try clear c9b0
             try clear c10
             try clear c10b0
             try clear p11
             try clear q11
             try clear hx11
             try clear p12
             try clear q12
             try clear hx12
             try clear c15
             try clear c15b0
             try clear c17
             try clear c17b0
             try clear c18
             try clear c18b0
             try clear p19
             try clear q19
             try clear hx19
             try clear c20
             try clear c20b0
             try clear c20b1
             try clear p21
             try clear q21
             try clear hx21
             try clear c23
             try clear p1
             try clear p11
             try clear p12
             try clear p19
             try clear p2
             try clear p21
             try clear p6
             try clear q1
             try clear q11
             try clear q12
             try clear q19
             try clear q2
             try clear q21
             obtain ⟨kq, x69_21, rfl, HA, HJ21, HO_7, HB⟩ := hcut
             cases kq with
             | zero => exact absurd HA.out (by simp [tab_Get.j3])
             | succ kj21 =>
              have H := HA.out
              clear HA
              simp only [tab_Get.j3] at H
              by_cases c24 : x69_21 = true
              ·subst c24
               have H1 : (some (([] : List Int), 0, 3)) = some (r1, r2, r3) := by rw [if_pos rfl] at H; exact H
               clear H
               have H := H1
               clear H1
               simp only [Option.some.injEq, Prod.mk.injEq] at H
               obtain ⟨rfl, rfl, rfl⟩ := H
               go_wp2
               repeat (go_quiet (fail); try go_wp2)
               go_ret3
               exact ⟨_, by first | rfl | (simp [errW_none, errW_some] <;> rfl) | (simp [*, errW_none, errW_some] <;> rfl), by first | exact Kd.R_nil _ _ _ _ _ | exact Kd.N_nil _ _ _ _ _ | exact Kd.V_nil _ _ _ _ _ | exact Kd.Q_nil _ _ _ _ _ | exact Kd.S_nil _ _ _ _ _, by repeat (first | (with_reducible first | exact HB.out | apply below_alloc | apply pw_below_drewN | apply below_drew1) | exact HB.out)⟩
              ·replace c24 := Bool.eq_false_iff.mpr c24
               subst c24
               have H1 : (tab_Get.l1 kj21 a0 a1 x7_2 x8_2 (wrap64 (Int.tdiv (wrap64 (bt a0 x8_2)) 16)) (wrap64 ((Int.tmod (wrap64 (bt a0 x8_2)) 16) + 1)) 0) = some (r1, r2, r3) := by rw [if_neg (show ¬ (false = true) by decide)] at H; exact H
               clear H
               have H := H1
               clear H1
               have H' := Aside0.mk H
               clear H
               go_wp2
               repeat (go_quiet (fail); try go_wp2)
               go_loopg [7, 71] kj21 (fun kq v7 v71 w' => ∃ (x7_5 : List Int) (x71_5 : Int), v71 = .int .i64 x71_5 ∧ Aside0 (tab_Get.l1 kq a0 a1 x7_5 x8_2 (wrap64 (Int.tdiv (wrap64 (bt a0 x8_2)) 16)) (wrap64 ((Int.tmod (wrap64 (bt a0 x8_2)) 16) + 1)) x71_5 = some (r1, r2, r3)) ∧ Aside0 (kq ≤ kj21) ∧ Aside0 (Kd.R (Kd.int .i64) 3 w' w.heap.size (fun _ => True) v7 x7_5) ∧ Aside0 (Below w.heap.size w w'))
               case atStart => exact ⟨(x7_2), (0), (by first | rfl | (simp; done) | (simp [*]; done)), H', ⟨Nat.le_refl _⟩, ⟨by (with_reducible repeat (first | apply Kd.R_alloc | apply Kd.R_drewN | apply Kd.R_drew)); exact HO_7.out⟩, ⟨by repeat (first | (with_reducible first | exact HB.out | apply below_alloc | apply pw_below_drewN | apply below_drew1) | exact HB.out)⟩⟩
               case round =>
                clear H'
                try clear c1
                try clear p1
                try clear q1
                try clear hx1
                try clear c2
                try clear p2
                try clear q2
                try clear hx2
                try clear c4
                try clear c4b0
                try clear c5
                try clear c6
                try clear c6b0
                try clear p6
                try clear c7
                try clear c7b0
                try clear c7b1
                try clear c9
                try clear c9b0
                try clear c10
                try clear c10b0
                try clear p11
                try clear q11
                try clear hx11
                try clear p12
                try clear q12
                try clear hx12
                try clear c15
                try clear c15b0
                try clear c17
                try clear c17b0
                try clear c18
                try clear c18b0
                try clear p19
                try clear q19
                try clear hx19
                try clear c20
                try clear c20b0
                try clear c20b1
                try clear p21
                try clear q21
                try clear hx21
                try clear c23
                try clear c24
                try clear p1
                try clear p11
                try clear p12
                try clear p19
                try clear p2
                try clear p21
                try clear p6
                try clear q1
                try clear q11
                try clear q12
                try clear q19
                try clear q2
                try clear q21
                obtain ⟨x7_5, x71_5, rfl, HA, HK5, HO_7, HB⟩ := hrel
                cases gk with
                | zero => exact absurd HA.out (by simp [tab_Get.l1])
                | succ k5 =>
                 have H := HA.out
                 clear HA
                 simp only [tab_Get.l1] at H
                 by_cases c25 : x71_5 < (wrap64 ((Int.tmod (wrap64 (bt a0 x8_2)) 16) + 1))
                 ·rw [if_pos c25] at H
                  have c25b0 : decide (x71_5 < (wrap64 ((Int.tmod (wrap64 (bt a0 x8_2)) 16) + 1))) = true := decide_eq_true c25
                  clear c25
                  by_cases c26 : x7_5.length < 17592186044416
                  ·rw [if_pos c26] at H
                   have LMc26 := Aside0.mk c26
                   clear c26
                   obtain ⟨y175, hy175⟩ : ∃ y_ : List Int, y_ = (x7_5 ++ [(wrap64 (Int.tdiv (wrap64 (bt a0 x8_2)) 16))]) := ⟨_, rfl⟩
                   replace H : (tab_Get.l1 k5 a0 a1 y175 x8_2 (wrap64 (Int.tdiv (wrap64 (bt a0 x8_2)) 16)) (wrap64 ((Int.tmod (wrap64 (bt a0 x8_2)) 16) + 1)) (wrap64 (x71_5 + 1))) = some (r1, r2, r3) := by first | (rw [hy175]; with_reducible exact H) | (have H2_ := (Option.bind_some _ _).symm.trans H; rw [hy175]; with_reducible exact H2_) | (have H2_ := (Option.bind_some _ _).symm.trans H; with_reducible exact H2_) | with_reducible exact H | (rw [hy175]; exact H) | exact H
                   have Ny175 := Aside0.mk hy175
                   clear hy175
                   have H' := Aside0.mk H
                   clear H
                   go_wp2_with (first | ((with_reducible refine gate_builtin (b := .append) (xs := #[.tmp 73, .tmp 75]) rfl ?_); (try (refine gate_guard (by rfl) ?_; dsimp only)); at_builtin; refine Kd.R_append (Kd.int .i64) (w0 := w) w.heap.size rfl (.tmp 73) (.tmp 75) 25 3 (.int .i64 0) 8 rfl Try.underlying25 info3 rfl (by decide) (by omega) u7 x7_5 (wrap64 (Int.tdiv (wrap64 (bt a0 x8_2)) 16)) [.int .i64 (wrap64 (Int.tdiv (wrap64 (bt a0 x8_2)) 16))] (fun _ => True) (fun _ => False) rfl rfl ?aP (fun _ hk => hk.elim) ?aF ?aO ?aB ?aS ?aL ?_; (case aP => exact rfl); (case aB => exact (by repeat (first | (with_reducible first | exact HB.out | apply below_alloc | apply pw_below_drewN | apply below_drew1) | exact HB.out))); (case aF => exact (fun _ _ => trivial)); (case aO => exact (by (with_reducible repeat (first | apply Kd.R_alloc | apply Kd.R_drewN | apply Kd.R_drew)); exact HO_7.out)); (case aS => exact (below_size (by repeat (first | (with_reducible first | exact HB.out | apply below_alloc | apply pw_below_drewN | apply below_drew1) | exact HB.out)))); (case aL => have := LMc26.out; omega); intro v176 w27 ho hb hg hat; rw [← Ny175.out] at ho; have n0_ := Aside0.mk (hb); have n1_ := Aside0.mk (ho); clear HB; clear HO_7; have HB := n0_; have HO177 := n1_; clear n0_ n1_; clear ho hb hg hat))
                   repeat (go_quiet (first | ((with_reducible refine gate_builtin (b := .append) (xs := #[.tmp 73, .tmp 75]) rfl ?_); (try (refine gate_guard (by rfl) ?_; dsimp only)); at_builtin; refine Kd.R_append (Kd.int .i64) (w0 := w) w.heap.size rfl (.tmp 73) (.tmp 75) 25 3 (.int .i64 0) 8 rfl Try.underlying25 info3 rfl (by decide) (by omega) u7 x7_5 (wrap64 (Int.tdiv (wrap64 (bt a0 x8_2)) 16)) [.int .i64 (wrap64 (Int.tdiv (wrap64 (bt a0 x8_2)) 16))] (fun _ => True) (fun _ => False) rfl rfl ?aP (fun _ hk => hk.elim) ?aF ?aO ?aB ?aS ?aL ?_; (case aP => exact rfl); (case aB => exact (by repeat (first | (with_reducible first | exact HB.out | apply below_alloc | apply pw_below_drewN | apply below_drew1) | exact HB.out))); (case aF => exact (fun _ _ => trivial)); (case aO => exact (by (with_reducible repeat (first | apply Kd.R_alloc | apply Kd.R_drewN | apply Kd.R_drew)); exact HO_7.out)); (case aS => exact (below_size (by repeat (first | (with_reducible first | exact HB.out | apply below_alloc | apply pw_below_drewN | apply below_drew1) | exact HB.out)))); (case aL => have := LMc26.out; omega); intro v176 w27 ho hb hg hat; rw [← Ny175.out] at ho; have n0_ := Aside0.mk (hb); have n1_ := Aside0.mk (ho); clear HB; clear HO_7; have HB := n0_; have HO177 := n1_; clear n0_ n1_; clear ho hb hg hat)); try go_wp2_with (first | ((with_reducible refine gate_builtin (b := .append) (xs := #[.tmp 73, .tmp 75]) rfl ?_); (try (refine gate_guard (by rfl) ?_; dsimp only)); at_builtin; refine Kd.R_append (Kd.int .i64) (w0 := w) w.heap.size rfl (.tmp 73) (.tmp 75) 25 3 (.int .i64 0) 8 rfl Try.underlying25 info3 rfl (by decide) (by omega) u7 x7_5 (wrap64 (Int.tdiv (wrap64 (bt a0 x8_2)) 16)) [.int .i64 (wrap64 (Int.tdiv (wrap64 (bt a0 x8_2)) 16))] (fun _ => True) (fun _ => False) rfl rfl ?aP (fun _ hk => hk.elim) ?aF ?aO ?aB ?aS ?aL ?_; (case aP => exact rfl); (case aB => exact (by repeat (first | (with_reducible first | exact HB.out | apply below_alloc | apply pw_below_drewN | apply below_drew1) | exact HB.out))); (case aF => exact (fun _ _ => trivial)); (case aO => exact (by (with_reducible repeat (first | apply Kd.R_alloc | apply Kd.R_drewN | apply Kd.R_drew)); exact HO_7.out)); (case aS => exact (below_size (by repeat (first | (with_reducible first | exact HB.out | apply below_alloc | apply pw_below_drewN | apply below_drew1) | exact HB.out)))); (case aL => have := LMc26.out; omega); intro v176 w27 ho hb hg hat; rw [← Ny175.out] at ho; have n0_ := Aside0.mk (hb); have n1_ := Aside0.mk (ho); clear HB; clear HO_7; have HB := n0_; have HO177 := n1_; clear n0_ n1_; clear ho hb hg hat)))
                   go_roundg k5
                   case measure => have := HJ2.out; have := HK2.out; have := HJ12.out; have := HJ21.out; have := HK5.out; omega
                   case rel => exact ⟨(y175), (wrap64 (x71_5 + 1)), (by first | rfl | (simp; done) | (simp [*]; done)), H', ⟨by have := HJ2.out; have := HK2.out; have := HJ12.out; have := HJ21.out; have := HK5.out; omega⟩, ⟨by (with_reducible repeat (first | apply Kd.R_alloc | apply Kd.R_drewN | apply Kd.R_drew)); exact HO177.out⟩, ⟨by repeat (first | (with_reducible first | exact HB.out | apply below_alloc | apply pw_below_drewN | apply below_drew1) | exact HB.out)⟩⟩
                  ·rw [if_neg c26] at H
                   exact absurd H (by simp)
                 ·rw [if_neg c25] at H
                  have c25b0 : decide (x71_5 < (wrap64 ((Int.tmod (wrap64 (bt a0 x8_2)) 16) + 1))) = false := decide_eq_false c25
                  clear c25
                  have H' := Aside0.mk H
                  clear H
                  go_wp2
                  repeat (go_quiet (fail); try go_wp2)
                  go_roundg k5
                  case measure => have := HJ2.out; have := HK2.out; have := HJ12.out; have := HJ21.out; have := HK5.out; omega
                  case rel => exact ⟨(x7_5), (wrap64 (x8_2 + 1)), (by first | rfl | (simp; done) | (simp [*]; done)), H', ⟨by have := HJ2.out; have := HK2.out; have := HJ12.out; have := HJ21.out; have := HK5.out; omega⟩, ⟨by (with_reducible repeat (first | apply Kd.R_alloc | apply Kd.R_drewN | apply Kd.R_drew)); exact HO_7.out⟩, ⟨by repeat (first | (with_reducible first | exact HB.out | apply below_alloc | apply pw_below_drewN | apply below_drew1) | exact HB.out)⟩⟩
         ·rw [if_neg c10] at H
          exact absurd H (by simp)
        ·rw [if_neg c9] at H
         exact absurd H (by simp)
      ·rw [if_neg c6] at H
       have c6b0 : decide ((x7_2.length : Int) < a1) = false := decide_eq_false c6
       clear c6
       simp only [Option.some.injEq, Prod.mk.injEq] at H
       obtain ⟨rfl, rfl, rfl⟩ := H
       obtain ⟨Ao28, co28, eo28⟩ := Kd.R_slice HO_7.out
       subst eo28
       go_wp2
       repeat (go_quiet (fail); try go_wp2)
       go_ret3
       exact ⟨_, by first | rfl | (simp [errW_none, errW_some] <;> rfl) | (simp [*, errW_none, errW_some] <;> rfl), by (with_reducible repeat (first | apply Kd.R_alloc | apply Kd.R_drewN | apply Kd.R_drew)); exact HO_7.out, by repeat (first | (with_reducible first | exact HB.out | apply below_alloc | apply pw_below_drewN | apply below_drew1) | exact HB.out)⟩
def IsS143 (w0 W : World) (g : Nat) (f0 : ByteArray) (f1 : Int) : Prop := W.heap[g]? = some (.cells #[.string f0, .int .i64 f1] 143 (0, 0)) ∧ w0.heap.size ≤ g
theorem IsS143.grown {w0 W : World} {g : Nat} {f0 : ByteArray} {f1 : Int} {W1 : World} {row : Option Nat} (h : IsS143 w0 W g f0 f1) (hw : W.grownBy W1 row) (hne : some g ≠ row) : IsS143 w0 W1 g f0 f1 := by
 obtain ⟨hb, hg⟩ := h
 exact ⟨blk_grown hb hw hne, hg⟩
theorem IsS143.kept {w0 W : World} {g : Nat} {f0 : ByteArray} {f1 : Int} {W1 : World} {S : Nat → Prop} (h : IsS143 w0 W g f0 f1) (hk : Kept W W1 S) (hne : ¬ S g) : IsS143 w0 W1 g f0 f1 := by
 obtain ⟨hb, hg⟩ := h
 exact ⟨blk_kept hb hk hne, hg⟩
theorem IsS143.below {w0 W : World} {g : Nat} {f0 : ByteArray} {f1 : Int} {W1 : World} (h : IsS143 w0 W g f0 f1) (hw : Below W.heap.size W W1) : IsS143 w0 W1 g f0 f1 := h.grown (grown_of_below hw none) (by simp)
theorem IsS143.alloc {w0 W : World} {g : Nat} {f0 : ByteArray} {f1 : Int} (h : IsS143 w0 W g f0 f1) (o : Obj) : IsS143 w0 (W.alloc o) g f0 f1 := h.below (below_alloc (Below.refl _ _) o)
theorem IsS143.drewN {w0 W : World} {g : Nat} {f0 : ByteArray} {f1 : Int} (h : IsS143 w0 W g f0 f1) (m : Nat) : IsS143 w0 (W.drewN m) g f0 f1 := h
theorem IsS143.drew {w0 W : World} {g : Nat} {f0 : ByteArray} {f1 : Int} (h : IsS143 w0 W g f0 f1) : IsS143 w0 W.drew g f0 f1 := h
theorem IsS143.at_ {w0 W : World} {g : Nat} {f0 : ByteArray} {f1 : Int} {w' : World} {m : Nat} (hq : W.drewN m = w') (h : IsS143 w0 W g f0 f1) : IsS143 w0 w' g f0 f1 := by subst hq; exact IsS143.drewN h m
theorem IsS143.lt {w0 W : World} {g : Nat} {f0 : ByteArray} {f1 : Int} (h : IsS143 w0 W g f0 f1) : g < W.heap.size := by
 obtain ⟨hb, hg⟩ := h
 exact blk_lt hb
mutual
def vari_Get.l0 : Nat → ByteArray → Int → Int → Option (Int × Int × Int)
 | 0, _, _, _ => none
 | k + 1, x0, x5, x6 => if x6 = (x0.size : Int) then (some (0, 0, 2)) else (if x6 = 4 then (if 0 ≤ x6 then (if x6 < (x0.size : Int) then (vari_Get.j1 k x0 x5 x6 (decide ((bt x0 x6) > 15))) else (none)) else (none)) else (vari_Get.j1 k x0 x5 x6 false))
def vari_Get.j1 : Nat → ByteArray → Int → Int → Bool → Option (Int × Int × Int)
 | 0, _, _, _, _ => none
 | k + 1, x0, x5, x6, x14 => if x14 = true then (some (0, 0, 4)) else (if x6 > 0 then (if 0 ≤ x6 then (if x6 < (x0.size : Int) then (vari_Get.j2 k x0 x5 x6 ((bt x0 x6) == 0)) else (none)) else (none)) else (vari_Get.j2 k x0 x5 x6 false))
def vari_Get.j2 : Nat → ByteArray → Int → Int → Bool → Option (Int × Int × Int)
 | 0, _, _, _, _ => none
 | k + 1, x0, x5, x6, x23 => if x23 = true then (some (0, 0, 3)) else (if 0 ≤ x6 then (if x6 < (x0.size : Int) then (if 0 ≤ (wrap64 (7 * x6)) then (if (bt x0 x6) < 128 then (some (Go.bits .or .i64 x5 (shl .i64 (wrap64 (Int.tmod (bt x0 x6) 128)) (wrap64 (7 * x6))), wrap64 (x6 + 1), 0)) else (vari_Get.l0 k x0 (Go.bits .or .i64 x5 (shl .i64 (wrap64 (Int.tmod (bt x0 x6) 128)) (wrap64 (7 * x6)))) (wrap64 (x6 + 1)))) else (none)) else (none)) else (none))
end
def vari_Get.f (k : Nat) (a0 : ByteArray) : Option (Int × Int × Int) := vari_Get.l0 k a0 0 0
set_option maxHeartbeats 8000000 in
set_option maxRecDepth 100000 in
theorem vari_Get.calls (k : Nat) (a0 : ByteArray) (r1 : Int) (r2 : Int) (r3 : Int) (w : World) (h : vari_Get.f k a0 = some (r1, r2, r3)) :
  Calls Try.prog 72 #[.string a0] w fun e w' => e = .returned (.tuple #[.int .i64 r1, .int .i64 r2, .int .i64 r3]) ∧ Drawn0 w w' := by
 have H : (vari_Get.l0 k a0 0 0) = some (r1, r2, r3) := h
 clear h
 have H' := Aside0.mk H
 clear H
 go_enter Try.func72, Try.ntmps72
 go_wp2
 go_loopg [5, 6] k (fun kq v5 v6 w' => ∃ (x5_1 : Int) (x6_1 : Int), v5 = .int .i64 x5_1 ∧ v6 = .int .i64 x6_1 ∧ Aside0 (vari_Get.l0 kq a0 x5_1 x6_1 = some (r1, r2, r3)) ∧ Aside0 (kq ≤ k) ∧ Drawn0 w w')
 case atStart => exact ⟨(0), (0), (by first | rfl | (simp; done) | (simp [*]; done)), (by first | rfl | (simp; done) | (simp [*]; done)), H', ⟨Nat.le_refl _⟩, by repeat (first | exact Drawn0.refl _ | apply Drawn0.step)⟩
 case round =>
  clear H'
  obtain ⟨x5_1, x6_1, rfl, rfl, HA, HK1, ⟨m1, rfl⟩⟩ := hrel
  cases gk with
  | zero => exact absurd HA.out (by simp [vari_Get.l0])
  | succ k1 =>
   have H := HA.out
   clear HA
   simp only [vari_Get.l0] at H
   by_cases c2 : x6_1 = (a0.size : Int)
   ·rw [if_pos c2] at H
    have c2b0 : (x6_1 == (a0.size : Int)) = true := beq_iff_eq.mpr c2
    have c2b1 : (x6_1 != (a0.size : Int)) = false := bne_eq_false_iff_eq.mpr c2
    clear c2
    simp only [Option.some.injEq, Prod.mk.injEq] at H
    obtain ⟨rfl, rfl, rfl⟩ := H
    go_wp2
    go_ret3
    exact ⟨by first | rfl | (simp; done) | (simp [*]; done), by repeat (first | exact Drawn0.refl _ | apply Drawn0.step)⟩
   ·rw [if_neg c2] at H
    have c2b0 : (x6_1 == (a0.size : Int)) = false := beq_eq_false_iff_ne.mpr c2
    have c2b1 : (x6_1 != (a0.size : Int)) = true := bne_iff_ne.mpr c2
    have HC3 := Aside0.mk H
    clear H
    go_upto_region 6 with (fail)
    go_cut [14] (fun v14 wc => ∃ (kq : Nat) (x14_2 : Bool), v14 = .bool x14_2 ∧ Aside0 (vari_Get.j1 kq a0 x5_1 x6_1 x14_2 = some (r1, r2, r3)) ∧ Aside0 (kq ≤ k1) ∧ Drawn0 w wc)
    case first =>
     have H := HC3.out
     clear HC3
     by_cases c4 : x6_1 = 4
     ·rw [if_pos c4] at H
      have c4b0 : (x6_1 == 4) = true := beq_iff_eq.mpr c4
      have c4b1 : (x6_1 != 4) = false := bne_eq_false_iff_eq.mpr c4
      clear c4
      (first | rw [c4b0] | (simp only [i64_w, i32_w]; rw [c4b0]) | skip)
      by_cases c5 : 0 ≤ x6_1
      ·rw [if_pos c5] at H
       have c5b0 : decide (0 ≤ x6_1) = true := decide_eq_true c5
       clear c5
       by_cases c6 : x6_1 < (a0.size : Int)
       ·rw [if_pos c6] at H
        have c6b0 : decide (x6_1 < (a0.size : Int)) = true := decide_eq_true c6
        clear c6
        have H' := Aside0.mk H
        clear H
        have p7 : 0 ≤ (x6_1 : Int) := of_decide_eq_true (by first | (with_reducible assumption) | assumption)
        have q7 : x6_1 < (a0.size : Int) := of_decide_eq_true (by first | (with_reducible assumption) | assumption)
        have hx7 := bt_at a0 x6_1
        replace p7 := eq_true p7
        replace q7 := eq_true q7
        go_wp2
        go_meet
        case rel => exact ⟨_, (decide ((bt a0 x6_1) > 15)), (by first | rfl | (simp; done) | (simp [*]; done)), H', ⟨by have := HK1.out; first | omega | exact Nat.le_refl _⟩, by repeat (first | exact Drawn0.refl _ | apply Drawn0.step)⟩
       ·rw [if_neg c6] at H
        exact absurd H (by simp)
      ·rw [if_neg c5] at H
       exact absurd H (by simp)
     ·rw [if_neg c4] at H
      have c4b0 : (x6_1 == 4) = false := beq_eq_false_iff_ne.mpr c4
      have c4b1 : (x6_1 != 4) = true := bne_iff_ne.mpr c4
      (first | rw [c4b0] | (simp only [i64_w, i32_w]; rw [c4b0]) | skip)
      have H' := Aside0.mk H
      clear H
      go_wp2
      go_meet
      case rel => exact ⟨_, (false), (by first | rfl | (simp; done) | (simp [*]; done)), H', ⟨by have := HK1.out; first | omega | exact Nat.le_refl _⟩, by repeat (first | exact Drawn0.refl _ | apply Drawn0.step)⟩
    case rest =>
     clear HC3
     try clear c2
     try clear c2b0
     try clear c2b1
     try clear p2
     try clear c4
     try clear c4b0
     try clear c4b1
     try clear c5
     try clear c5b0
     try clear c6
     try clear c6b0
     try clear c7
     try clear p7
     try clear q7
     try clear hx7
     try clear p7
     try clear q7
     obtain ⟨kq, x14_2, rfl, HA, HJ2, ⟨mc2, rfl⟩⟩ := hcut
     cases kq with
     | zero => exact absurd HA.out (by simp [vari_Get.j1])
     | succ kj2 =>
      have H := HA.out
      clear HA
      simp only [vari_Get.j1] at H
      by_cases c8 : x14_2 = true
      ·subst c8
       have H1 : (some (0, 0, 4)) = some (r1, r2, r3) := by rw [if_pos rfl] at H; exact H
       clear H
       have H := H1
       clear H1
       simp only [Option.some.injEq, Prod.mk.injEq] at H
       obtain ⟨rfl, rfl, rfl⟩ := H
       go_wp2
       go_ret3
       exact ⟨by first | rfl | (simp; done) | (simp [*]; done), by repeat (first | exact Drawn0.refl _ | apply Drawn0.step)⟩
      ·replace c8 := Bool.eq_false_iff.mpr c8
       subst c8
       have H1 : (if x6_1 > 0 then (if 0 ≤ x6_1 then (if x6_1 < (a0.size : Int) then (vari_Get.j2 kj2 a0 x5_1 x6_1 ((bt a0 x6_1) == 0)) else (none)) else (none)) else (vari_Get.j2 kj2 a0 x5_1 x6_1 false)) = some (r1, r2, r3) := by rw [if_neg (show ¬ (false = true) by decide)] at H; exact H
       clear H
       have H := H1
       clear H1
       have HC9 := Aside0.mk H
       clear H
       go_upto_region 8 with (fail)
       go_cut [23] (fun v23 wc => ∃ (kq : Nat) (x23_8 : Bool), v23 = .bool x23_8 ∧ Aside0 (vari_Get.j2 kq a0 x5_1 x6_1 x23_8 = some (r1, r2, r3)) ∧ Aside0 (kq ≤ kj2) ∧ Drawn0 w wc)
       case first =>
        have H := HC9.out
        clear HC9
        by_cases c10 : x6_1 > 0
        ·rw [if_pos c10] at H
         have c10b0 : decide (0 < x6_1) = true := decide_eq_true c10
         clear c10
         (first | rw [c10b0] | (simp only [i64_w, i32_w]; rw [c10b0]) | skip)
         by_cases c11 : 0 ≤ x6_1
         ·rw [if_pos c11] at H
          have c11b0 : decide (0 ≤ x6_1) = true := decide_eq_true c11
          clear c11
          by_cases c12 : x6_1 < (a0.size : Int)
          ·rw [if_pos c12] at H
           have c12b0 : decide (x6_1 < (a0.size : Int)) = true := decide_eq_true c12
           clear c12
           have H' := Aside0.mk H
           clear H
           have p13 : 0 ≤ (x6_1 : Int) := of_decide_eq_true (by first | (with_reducible assumption) | assumption)
           have q13 : x6_1 < (a0.size : Int) := of_decide_eq_true (by first | (with_reducible assumption) | assumption)
           have hx13 := bt_at a0 x6_1
           replace p13 := eq_true p13
           replace q13 := eq_true q13
           go_wp2
           go_meet
           case rel => exact ⟨_, (((bt a0 x6_1) == 0)), (by first | rfl | (simp; done) | (simp [*]; done)), H', ⟨by have := HK1.out; have := HJ2.out; first | omega | exact Nat.le_refl _⟩, by repeat (first | exact Drawn0.refl _ | apply Drawn0.step)⟩
          ·rw [if_neg c12] at H
           exact absurd H (by simp)
         ·rw [if_neg c11] at H
          exact absurd H (by simp)
        ·rw [if_neg c10] at H
         have c10b0 : decide (0 < x6_1) = false := decide_eq_false c10
         clear c10
         (first | rw [c10b0] | (simp only [i64_w, i32_w]; rw [c10b0]) | skip)
         have H' := Aside0.mk H
         clear H
         go_wp2
         go_meet
         case rel => exact ⟨_, (false), (by first | rfl | (simp; done) | (simp [*]; done)), H', ⟨by have := HK1.out; have := HJ2.out; first | omega | exact Nat.le_refl _⟩, by repeat (first | exact Drawn0.refl _ | apply Drawn0.step)⟩
       case rest =>
        clear HC9
        try clear c1
        try clear p1
        try clear q1
        try clear hx1
        try clear c2
        try clear c2b0
        try clear c2b1
        try clear p2
        try clear c4
        try clear c4b0
        try clear c4b1
        try clear c5
        try clear c5b0
        try clear c6
        try clear c6b0
        try clear c7
        try clear p7
        try clear q7
        try clear hx7
        try clear c8
        try clear c10
        try clear c10b0
        try clear c11
        try clear c11b0
        try clear c12
        try clear c12b0
        try clear p13
        try clear q13
        try clear hx13
        try clear p13
        try clear p2
        try clear p7
        try clear q13
        try clear q7
        obtain ⟨kq, x23_8, rfl, HA, HJ8, ⟨mc8, rfl⟩⟩ := hcut
        cases kq with
        | zero => exact absurd HA.out (by simp [vari_Get.j2])
        | succ kj8 =>
         have H := HA.out
         clear HA
         simp only [vari_Get.j2] at H
         by_cases c14 : x23_8 = true
         ·subst c14
          have H1 : (some (0, 0, 3)) = some (r1, r2, r3) := by rw [if_pos rfl] at H; exact H
          clear H
          have H := H1
          clear H1
          simp only [Option.some.injEq, Prod.mk.injEq] at H
          obtain ⟨rfl, rfl, rfl⟩ := H
          go_wp2
          go_ret3
          exact ⟨by first | rfl | (simp; done) | (simp [*]; done), by repeat (first | exact Drawn0.refl _ | apply Drawn0.step)⟩
         ·replace c14 := Bool.eq_false_iff.mpr c14
          subst c14
          have H1 : (if 0 ≤ x6_1 then (if x6_1 < (a0.size : Int) then (if 0 ≤ (wrap64 (7 * x6_1)) then (if (bt a0 x6_1) < 128 then (some (Go.bits .or .i64 x5_1 (shl .i64 (wrap64 (Int.tmod (bt a0 x6_1) 128)) (wrap64 (7 * x6_1))), wrap64 (x6_1 + 1), 0)) else (vari_Get.l0 kj8 a0 (Go.bits .or .i64 x5_1 (shl .i64 (wrap64 (Int.tmod (bt a0 x6_1) 128)) (wrap64 (7 * x6_1)))) (wrap64 (x6_1 + 1)))) else (none)) else (none)) else (none)) = some (r1, r2, r3) := by rw [if_neg (show ¬ (false = true) by decide)] at H; exact H
          clear H
          have H := H1
          clear H1
          by_cases c15 : 0 ≤ x6_1
          ·rw [if_pos c15] at H
           have c15b0 : decide (0 ≤ x6_1) = true := decide_eq_true c15
           clear c15
           by_cases c16 : x6_1 < (a0.size : Int)
           ·rw [if_pos c16] at H
            have c16b0 : decide (x6_1 < (a0.size : Int)) = true := decide_eq_true c16
            clear c16
            obtain ⟨ji18, hji18⟩ : ∃ j_ : Int, (wrap64 (7 * x6_1)) = j_ := ⟨_, rfl⟩
            replace H : (if 0 ≤ (ji18) then (if (bt a0 x6_1) < 128 then (some (Go.bits .or .i64 x5_1 (shl .i64 (wrap64 (Int.tmod (bt a0 x6_1) 128)) (ji18)), wrap64 (x6_1 + 1), 0)) else (vari_Get.l0 kj8 a0 (Go.bits .or .i64 x5_1 (shl .i64 (wrap64 (Int.tmod (bt a0 x6_1) 128)) (ji18))) (wrap64 (x6_1 + 1)))) else (none)) = some (r1, r2, r3) := by first | (rw [hji18] at H; exact H) | (simp only [hji18] at H ⊢; exact H)
            have hji18w : (IntKind.i64.wrap (7 * x6_1)) = ji18 := (i64_w _).trans hji18
            by_cases c19 : 0 ≤ (ji18)
            ·rw [if_pos c19] at H
             have c19b0 := eq_true c19
             have c19b1 : decide (0 ≤ (ji18)) = true := decide_eq_true c19
             clear c19
             obtain ⟨ji20, hji20⟩ : ∃ j_ : Int, (shl .i64 (wrap64 (Int.tmod (bt a0 x6_1) 128)) (ji18)) = j_ := ⟨_, rfl⟩
             replace H : (if (bt a0 x6_1) < 128 then (some (Go.bits .or .i64 x5_1 (ji20), wrap64 (x6_1 + 1), 0)) else (vari_Get.l0 kj8 a0 (Go.bits .or .i64 x5_1 (ji20)) (wrap64 (x6_1 + 1)))) = some (r1, r2, r3) := by first | (rw [hji20] at H; exact H) | (simp only [hji20] at H ⊢; exact H)
             have hji20_ : (IntKind.i64.wrap ((wrap64 (Int.tmod (bt a0 x6_1) 128)) * 2 ^ min (ji18).toNat 64)) = ji20 := hji20
             have hji20z : (ji18) ≤ 64 → (IntKind.i64.wrap ((wrap64 (Int.tmod (bt a0 x6_1) 128)) * 2 ^ (ji18).toNat)) = ji20 := shl_small hji20
             have hji20y : (wrap64 ((wrap64 (Int.tmod (bt a0 x6_1) 128)) * 2 ^ min (ji18).toNat 64)) = ji20 := (i64_w _).symm.trans hji20_
             have hji20x : (ji18) ≤ 64 → (wrap64 ((wrap64 (Int.tmod (bt a0 x6_1) 128)) * 2 ^ (ji18).toNat)) = ji20 := fun h_ => (i64_w _).symm.trans (hji20z h_)
             by_cases c22 : (bt a0 x6_1) < 128
             ·rw [if_pos c22] at H
              have c22b0 : decide ((bt a0 x6_1) < 128) = true := decide_eq_true c22
              clear c22
              simp only [Option.some.injEq, Prod.mk.injEq] at H
              obtain ⟨rfl, rfl, rfl⟩ := H
              have p17 : 0 ≤ (x6_1 : Int) := of_decide_eq_true (by first | (with_reducible assumption) | assumption)
              have q17 : x6_1 < (a0.size : Int) := of_decide_eq_true (by first | (with_reducible assumption) | assumption)
              have hx17 := bt_at a0 x6_1
              replace p17 := eq_true p17
              replace q17 := eq_true q17
              have p21 : 0 ≤ (x6_1 : Int) := of_decide_eq_true (by first | (with_reducible assumption) | assumption)
              have q21 : x6_1 < (a0.size : Int) := of_decide_eq_true (by first | (with_reducible assumption) | assumption)
              have hx21 := bt_at a0 x6_1
              replace p21 := eq_true p21
              replace q21 := eq_true q21
              go_wp2
              go_ret3
              exact ⟨by first | rfl | (simp; done) | (simp only [← hji18, ← hji20] <;> (first | rfl | simp)) | (simp [*]; done), by repeat (first | exact Drawn0.refl _ | apply Drawn0.step)⟩
             ·rw [if_neg c22] at H
              have c22b0 : decide ((bt a0 x6_1) < 128) = false := decide_eq_false c22
              clear c22
              have H' := Aside0.mk H
              clear H
              have p17 : 0 ≤ (x6_1 : Int) := of_decide_eq_true (by first | (with_reducible assumption) | assumption)
              have q17 : x6_1 < (a0.size : Int) := of_decide_eq_true (by first | (with_reducible assumption) | assumption)
              have hx17 := bt_at a0 x6_1
              replace p17 := eq_true p17
              replace q17 := eq_true q17
              have p21 : 0 ≤ (x6_1 : Int) := of_decide_eq_true (by first | (with_reducible assumption) | assumption)
              have q21 : x6_1 < (a0.size : Int) := of_decide_eq_true (by first | (with_reducible assumption) | assumption)
              have hx21 := bt_at a0 x6_1
              replace p21 := eq_true p21
              replace q21 := eq_true q21
              go_wp2
              go_roundg kj8
              case measure => have := HK1.out; have := HJ2.out; have := HJ8.out; omega
              case rel => exact ⟨(Go.bits .or .i64 x5_1 (ji20)), (wrap64 (x6_1 + 1)), (by first | rfl | (simp; done) | (simp only [← hji20] <;> (first | rfl | simp)) | (simp [*]; done)), (by first | rfl | (simp; done) | (simp [*]; done)), H', ⟨by have := HK1.out; have := HJ2.out; have := HJ8.out; omega⟩, by repeat (first | exact Drawn0.refl _ | apply Drawn0.step)⟩
            ·rw [if_neg c19] at H
             exact absurd H (by simp)
           ·rw [if_neg c16] at H
            exact absurd H (by simp)
          ·rw [if_neg c15] at H
           exact absurd H (by simp)
end Go.Proofs.Ytepgkimlmoikmaa.Leaf
