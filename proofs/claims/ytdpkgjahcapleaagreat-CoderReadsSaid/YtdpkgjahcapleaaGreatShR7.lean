/- ShR: a part of its proof (contracts of the functions that it reaches, and the plain mathematics behind them). -/
import Derived.Test.YtdpkgjahcapleaaGreatShR6
set_option linter.unusedVariables false
set_option linter.unusedSimpArgs false
set_option linter.unusedVariables false
set_option linter.unusedSimpArgs false
namespace Go.Proofs.YtdpkgjahcapleaaGreat.Leaf
open Go.RowKit Go.Proofs.YtdpkgjahcapleaaGreatW.PrintWords Go.Proofs.YtdpkgjahcapleaaGreatW.PrintLast Go.Proofs.YtdpkgjahcapleaaGreatW.PrintMore
attribute [local go_sem] max2_int min2_int max_two min_two max_three min_three max_four min_four
mutual
def tab_Get.j0 : Nat → ByteArray → Int → Bool → Option (List Int × Int × Int)
  | 0, _, _, _ => none
  | k + 1, x0, x1, x17 => if x17 = true then (some (([] : List Int), 0, 1)) else (tab_Get.l0 k x0 x1 ([] : List Int) 0)
def tab_Get.l0 : Nat → ByteArray → Int → List Int → Int → Option (List Int × Int × Int)
  | 0, _, _, _, _ => none
  | k + 1, x0, x1, x7, x8 => if (x7.length : Int) < x1 then (if x8 = (x0.size : Int) then (some (([] : List Int), 0, 2)) else (if 0 ≤ x8 then (if x8 < (x0.size : Int) then (if x8 > 0 then (if 0 ≤ (wrap64 (x8 - 1)) then (if (wrap64 (x8 - 1)) < (x0.size : Int) then (if (wrap64 (Int.tdiv (wrap64 (bt x0 (wrap64 (x8 - 1)))) 16)) = (wrap64 (Int.tdiv (wrap64 (bt x0 x8)) 16)) then (tab_Get.j2 k x0 x1 x7 x8 (wrap64 (Int.tdiv (wrap64 (bt x0 x8)) 16)) (wrap64 ((Int.tmod (wrap64 (bt x0 x8)) 16) + 1)) (decide ((wrap64 ((Int.tmod (wrap64 (bt x0 (wrap64 (x8 - 1)))) 16) + 1)) < 16))) else (tab_Get.j2 k x0 x1 x7 x8 (wrap64 (Int.tdiv (wrap64 (bt x0 x8)) 16)) (wrap64 ((Int.tmod (wrap64 (bt x0 x8)) 16) + 1)) false)) else (none)) else (none)) else (tab_Get.j2 k x0 x1 x7 x8 (wrap64 (Int.tdiv (wrap64 (bt x0 x8)) 16)) (wrap64 ((Int.tmod (wrap64 (bt x0 x8)) 16) + 1)) false)) else (none)) else (none))) else (some (x7, x8, 0))
def tab_Get.j2 : Nat → ByteArray → Int → List Int → Int → Int → Int → Bool → Option (List Int × Int × Int)
  | 0, _, _, _, _, _, _, _ => none
  | k + 1, x0, x1, x7, x8, x9, x10, x11 => if x11 = true then (tab_Get.j3 k x0 x1 x7 x8 x9 x10 true) else (tab_Get.j3 k x0 x1 x7 x8 x9 x10 (decide (x10 > (wrap64 (x1 - (x7.length : Int))))))
def tab_Get.j3 : Nat → ByteArray → Int → List Int → Int → Int → Int → Bool → Option (List Int × Int × Int)
  | 0, _, _, _, _, _, _, _ => none
  | k + 1, x0, x1, x7, x8, x9, x10, x69 => if x69 = true then (some (([] : List Int), 0, 3)) else (tab_Get.l1 k x0 x1 x7 x8 x9 x10 0)
def tab_Get.l1 : Nat → ByteArray → Int → List Int → Int → Int → Int → Int → Option (List Int × Int × Int)
  | 0, _, _, _, _, _, _, _ => none
  | k + 1, x0, x1, x7, x8, x9, x70, x71 => if x71 < x70 then (if x7.length < 17592186044416 then (tab_Get.l1 k x0 x1 (x7 ++ [x9]) x8 x9 x70 (wrap64 (x71 + 1))) else (none)) else (tab_Get.l0 k x0 x1 x7 (wrap64 (x8 + 1)))
end
def tab_Get.f (k : Nat) (a0 : ByteArray) (a1 : Int) : Option (List Int × Int × Int) := if a1 < 0 then (tab_Get.j0 k a0 a1 true) else (tab_Get.j0 k a0 a1 (decide (a1 > 356)))
theorem tab_Get.mono_l : ∀ k, (∀ y0 y1 y2, LeO (tab_Get.j0 k y0 y1 y2) (tab_Get.j0 (k + 1) y0 y1 y2)) ∧ (∀ y0 y1 y2 y3, LeO (tab_Get.l0 k y0 y1 y2 y3) (tab_Get.l0 (k + 1) y0 y1 y2 y3)) ∧ (∀ y0 y1 y2 y3 y4 y5 y6, LeO (tab_Get.j2 k y0 y1 y2 y3 y4 y5 y6) (tab_Get.j2 (k + 1) y0 y1 y2 y3 y4 y5 y6)) ∧ (∀ y0 y1 y2 y3 y4 y5 y6, LeO (tab_Get.j3 k y0 y1 y2 y3 y4 y5 y6) (tab_Get.j3 (k + 1) y0 y1 y2 y3 y4 y5 y6)) ∧ (∀ y0 y1 y2 y3 y4 y5 y6, LeO (tab_Get.l1 k y0 y1 y2 y3 y4 y5 y6) (tab_Get.l1 (k + 1) y0 y1 y2 y3 y4 y5 y6))
  | 0 => ⟨fun _ _ _ r h => by simp [tab_Get.j0] at h, fun _ _ _ _ r h => by simp [tab_Get.l0] at h, fun _ _ _ _ _ _ _ r h => by simp [tab_Get.j2] at h, fun _ _ _ _ _ _ _ r h => by simp [tab_Get.j3] at h, fun _ _ _ _ _ _ _ r h => by simp [tab_Get.l1] at h⟩
  | k + 1 => by
    obtain ⟨ih0, ih1, ih2, ih3, ih4⟩ := tab_Get.mono_l k
    refine ⟨?_, ?_, ?_, ?_, ?_⟩
    · intro y0 y1 y2
      unfold tab_Get.j0
      repeat' first
      | (with_reducible exact ih0 _ _ _)
      | (with_reducible exact ih1 _ _ _ _)
      | (with_reducible exact ih2 _ _ _ _ _ _ _)
      | (with_reducible exact ih3 _ _ _ _ _ _ _)
      | (with_reducible exact ih4 _ _ _ _ _ _ _)
      | (with_reducible exact LeO.refl _)
      | (with_reducible exact LeO.none _)
      | (with_reducible refine LeO.ite ?_ ?_)
      | (with_reducible refine LeO.bind ?_ (fun _ => ?_))
      | exact ih0 _ _ _
      | exact ih1 _ _ _ _
      | exact ih2 _ _ _ _ _ _ _
      | exact ih3 _ _ _ _ _ _ _
      | exact ih4 _ _ _ _ _ _ _
      | exact LeO.none _
      | refine LeO.ite ?_ ?_
      | refine LeO.bind ?_ (fun _ => ?_)
    · intro y0 y1 y2 y3
      unfold tab_Get.l0
      repeat' first
      | (with_reducible exact ih0 _ _ _)
      | (with_reducible exact ih1 _ _ _ _)
      | (with_reducible exact ih2 _ _ _ _ _ _ _)
      | (with_reducible exact ih3 _ _ _ _ _ _ _)
      | (with_reducible exact ih4 _ _ _ _ _ _ _)
      | (with_reducible exact LeO.refl _)
      | (with_reducible exact LeO.none _)
      | (with_reducible refine LeO.ite ?_ ?_)
      | (with_reducible refine LeO.bind ?_ (fun _ => ?_))
      | exact ih0 _ _ _
      | exact ih1 _ _ _ _
      | exact ih2 _ _ _ _ _ _ _
      | exact ih3 _ _ _ _ _ _ _
      | exact ih4 _ _ _ _ _ _ _
      | exact LeO.none _
      | refine LeO.ite ?_ ?_
      | refine LeO.bind ?_ (fun _ => ?_)
    · intro y0 y1 y2 y3 y4 y5 y6
      unfold tab_Get.j2
      repeat' first
      | (with_reducible exact ih0 _ _ _)
      | (with_reducible exact ih1 _ _ _ _)
      | (with_reducible exact ih2 _ _ _ _ _ _ _)
      | (with_reducible exact ih3 _ _ _ _ _ _ _)
      | (with_reducible exact ih4 _ _ _ _ _ _ _)
      | (with_reducible exact LeO.refl _)
      | (with_reducible exact LeO.none _)
      | (with_reducible refine LeO.ite ?_ ?_)
      | (with_reducible refine LeO.bind ?_ (fun _ => ?_))
      | exact ih0 _ _ _
      | exact ih1 _ _ _ _
      | exact ih2 _ _ _ _ _ _ _
      | exact ih3 _ _ _ _ _ _ _
      | exact ih4 _ _ _ _ _ _ _
      | exact LeO.none _
      | refine LeO.ite ?_ ?_
      | refine LeO.bind ?_ (fun _ => ?_)
    · intro y0 y1 y2 y3 y4 y5 y6
      unfold tab_Get.j3
      repeat' first
      | (with_reducible exact ih0 _ _ _)
      | (with_reducible exact ih1 _ _ _ _)
      | (with_reducible exact ih2 _ _ _ _ _ _ _)
      | (with_reducible exact ih3 _ _ _ _ _ _ _)
      | (with_reducible exact ih4 _ _ _ _ _ _ _)
      | (with_reducible exact LeO.refl _)
      | (with_reducible exact LeO.none _)
      | (with_reducible refine LeO.ite ?_ ?_)
      | (with_reducible refine LeO.bind ?_ (fun _ => ?_))
      | exact ih0 _ _ _
      | exact ih1 _ _ _ _
      | exact ih2 _ _ _ _ _ _ _
      | exact ih3 _ _ _ _ _ _ _
      | exact ih4 _ _ _ _ _ _ _
      | exact LeO.none _
      | refine LeO.ite ?_ ?_
      | refine LeO.bind ?_ (fun _ => ?_)
    · intro y0 y1 y2 y3 y4 y5 y6
      unfold tab_Get.l1
      repeat' first
      | (with_reducible exact ih0 _ _ _)
      | (with_reducible exact ih1 _ _ _ _)
      | (with_reducible exact ih2 _ _ _ _ _ _ _)
      | (with_reducible exact ih3 _ _ _ _ _ _ _)
      | (with_reducible exact ih4 _ _ _ _ _ _ _)
      | (with_reducible exact LeO.refl _)
      | (with_reducible exact LeO.none _)
      | (with_reducible refine LeO.ite ?_ ?_)
      | (with_reducible refine LeO.bind ?_ (fun _ => ?_))
      | exact ih0 _ _ _
      | exact ih1 _ _ _ _
      | exact ih2 _ _ _ _ _ _ _
      | exact ih3 _ _ _ _ _ _ _
      | exact ih4 _ _ _ _ _ _ _
      | exact LeO.none _
      | refine LeO.ite ?_ ?_
      | refine LeO.bind ?_ (fun _ => ?_)
theorem tab_Get.mono : ∀ a0 a1 k, LeO (tab_Get.f k a0 a1) (tab_Get.f (k + 1) a0 a1) := by
  intro a0 a1 k
  obtain ⟨ih0, ih1, ih2, ih3, ih4⟩ := tab_Get.mono_l k
  unfold tab_Get.f
  repeat' first
      | (with_reducible exact ih0 _ _ _)
      | (with_reducible exact ih1 _ _ _ _)
      | (with_reducible exact ih2 _ _ _ _ _ _ _)
      | (with_reducible exact ih3 _ _ _ _ _ _ _)
      | (with_reducible exact ih4 _ _ _ _ _ _ _)
      | (with_reducible exact LeO.refl _)
      | (with_reducible exact LeO.none _)
      | (with_reducible refine LeO.ite ?_ ?_)
      | (with_reducible refine LeO.bind ?_ (fun _ => ?_))
      | exact ih0 _ _ _
      | exact ih1 _ _ _ _
      | exact ih2 _ _ _ _ _ _ _
      | exact ih3 _ _ _ _ _ _ _
      | exact ih4 _ _ _ _ _ _ _
      | exact LeO.none _
      | refine LeO.ite ?_ ?_
      | refine LeO.bind ?_ (fun _ => ?_)
set_option maxHeartbeats 8000000 in
set_option maxRecDepth 100000 in
theorem tab_Get.calls (k : Nat) (a0 : ByteArray) (a1 : Int) (r1 : List Int) (r2 : Int) (r3 : Int) (w : World) (h : tab_Get.f k a0 a1 = some (r1, r2, r3)) :
    Calls Tryz.prog 135 #[.string a0, .int .i64 a1] w fun e w' => ∃ v0_ : Value, e = .returned (.tuple #[v0_, .int .i64 r2, .int .i64 r3]) ∧ Kd.R (Kd.int .i64) 3 w' w.heap.size (fun _ => True) v0_ r1 ∧ Below w.heap.size w w' := by
  have HB := Aside0.mk (Below.refl w.heap.size w)
  have H : (if a1 < 0 then (tab_Get.j0 k a0 a1 true) else (tab_Get.j0 k a0 a1 (decide (a1 > 356)))) = some (r1, r2, r3) := h
  clear h
  have HC3 := Aside0.mk H
  clear H
  go_enter Tryz.func135, Tryz.ntmps135
  go_upto_region 1 with (fail)
  repeat (go_quiet (fail); go_upto_region 1 with (fail))
  go_cut [17] (fun v17 wc => ∃ (kq : Nat) (x17_2 : Bool), v17 = .bool x17_2 ∧ Aside0 (tab_Get.j0 kq a0 a1 x17_2 = some (r1, r2, r3)) ∧ Aside0 (kq ≤ k) ∧ Aside0 (Below w.heap.size w wc))
  case first =>
    have H := HC3.out
    clear HC3
    by_cases c4 : a1 < 0
    · rw [if_pos c4] at H
      have c4b0 : decide (a1 < 0) = true := decide_eq_true c4
      clear c4
      (first | rw [c4b0] | (simp only [i64_w, i32_w]; rw [c4b0]) | skip)
      have H' := Aside0.mk H
      clear H
      go_wp2
      repeat (go_quiet (fail); try go_wp2)
      go_meet
      case rel => exact ⟨_, (true), (by first | rfl | (simp; done) | (simp [*]; done)), H', ⟨by first | omega | exact Nat.le_refl _⟩, ⟨by repeat (first | (with_reducible first | exact HB.out | apply below_alloc | apply pw_below_drewN | apply below_drew1) | exact HB.out)⟩⟩
    · rw [if_neg c4] at H
      have c4b0 : decide (a1 < 0) = false := decide_eq_false c4
      clear c4
      (first | rw [c4b0] | (simp only [i64_w, i32_w]; rw [c4b0]) | skip)
      have H' := Aside0.mk H
      clear H
      go_wp2
      repeat (go_quiet (fail); try go_wp2)
      go_meet
      case rel => exact ⟨_, (decide (a1 > 356)), (by first | rfl | (simp; done) | (simp [*]; done)), H', ⟨by first | omega | exact Nat.le_refl _⟩, ⟨by repeat (first | (with_reducible first | exact HB.out | apply below_alloc | apply pw_below_drewN | apply below_drew1) | exact HB.out)⟩⟩
  case rest =>
    clear HC3
    try clear c1
    try clear p2
    try clear c4
    try clear c4b0
    obtain ⟨kq, x17_2, rfl, HA, HJ2, HB⟩ := hcut
    cases kq with
    | zero => exact absurd HA.out (by simp [tab_Get.j0])
    | succ kj2 =>
      have H := HA.out
      clear HA
      simp only [tab_Get.j0] at H
      by_cases c5 : x17_2 = true
      · subst c5
        have H1 : (some (([] : List Int), 0, 1)) = some (r1, r2, r3) := by rw [if_pos rfl] at H; exact H
        clear H
        have H := H1
        clear H1
        simp only [Option.some.injEq, Prod.mk.injEq] at H
        obtain ⟨rfl, rfl, rfl⟩ := H
        go_wp2
        repeat (go_quiet (fail); try go_wp2)
        go_ret3
        exact ⟨_, by first | rfl | (simp [errW_none, errW_some] <;> rfl) | (simp [*, errW_none, errW_some] <;> rfl), by first | exact Kd.R_nil _ _ _ _ _ | exact Kd.N_nil _ _ _ _ _ | exact Kd.V_nil _ _ _ _ _ | exact Kd.Q_nil _ _ _ _ _ | exact Kd.S_nil _ _ _ _ _, by repeat (first | (with_reducible first | exact HB.out | apply below_alloc | apply pw_below_drewN | apply below_drew1) | exact HB.out)⟩
      · replace c5 := Bool.eq_false_iff.mpr c5
        subst c5
        have H1 : (tab_Get.l0 kj2 a0 a1 ([] : List Int) 0) = some (r1, r2, r3) := by rw [if_neg (show ¬ (false = true) by decide)] at H; exact H
        clear H
        have H := H1
        clear H1
        have H' := Aside0.mk H
        clear H
        go_wp2
        repeat (go_quiet (fail); try go_wp2)
        go_loopg [7, 8] kj2 (fun kq v7 v8 w' => ∃ (x7_2 : List Int) (x8_2 : Int), v8 = .int .i64 x8_2 ∧ Aside0 (tab_Get.l0 kq a0 a1 x7_2 x8_2 = some (r1, r2, r3)) ∧ Aside0 (kq ≤ kj2) ∧ Aside0 (Kd.R (Kd.int .i64) 3 w' w.heap.size (fun _ => True) v7 x7_2) ∧ Aside0 (Below w.heap.size w w'))
        case atStart => exact ⟨(([] : List Int)), (0), (by first | rfl | (simp; done) | (simp [*]; done)), H', ⟨Nat.le_refl _⟩, ⟨by first | exact Kd.R_nil _ _ _ _ _ | exact Kd.N_nil _ _ _ _ _ | exact Kd.V_nil _ _ _ _ _ | exact Kd.Q_nil _ _ _ _ _ | exact Kd.S_nil _ _ _ _ _⟩, ⟨by repeat (first | (with_reducible first | exact HB.out | apply below_alloc | apply pw_below_drewN | apply below_drew1) | exact HB.out)⟩⟩
        case round =>
          clear H'
          try clear c1
          try clear p2
          try clear c4
          try clear c4b0
          try clear c5
          try clear p2
          obtain ⟨x7_2, x8_2, rfl, HA, HK2, HO_7, HB⟩ := hrel
          cases gk with
          | zero => exact absurd HA.out (by simp [tab_Get.l0])
          | succ k2 =>
            have H := HA.out
            clear HA
            simp only [tab_Get.l0] at H
            by_cases c6 : (x7_2.length : Int) < a1
            · rw [if_pos c6] at H
              have c6b0 : decide ((x7_2.length : Int) < a1) = true := decide_eq_true c6
              clear c6
              by_cases c7 : x8_2 = (a0.size : Int)
              · rw [if_pos c7] at H
                have c7b0 : (x8_2 == (a0.size : Int)) = true := beq_iff_eq.mpr c7
                have c7b1 : (x8_2 != (a0.size : Int)) = false := bne_eq_false_iff_eq.mpr c7
                clear c7
                simp only [Option.some.injEq, Prod.mk.injEq] at H
                obtain ⟨rfl, rfl, rfl⟩ := H
                obtain ⟨Ao8, co8, eo8⟩ := Kd.R_slice HO_7.out
                subst eo8
                go_wp2
                repeat (go_quiet (fail); try go_wp2)
                go_ret3
                exact ⟨_, by first | rfl | (simp [errW_none, errW_some] <;> rfl) | (simp [*, errW_none, errW_some] <;> rfl), by first | exact Kd.R_nil _ _ _ _ _ | exact Kd.N_nil _ _ _ _ _ | exact Kd.V_nil _ _ _ _ _ | exact Kd.Q_nil _ _ _ _ _ | exact Kd.S_nil _ _ _ _ _, by repeat (first | (with_reducible first | exact HB.out | apply below_alloc | apply pw_below_drewN | apply below_drew1) | exact HB.out)⟩
              · rw [if_neg c7] at H
                have c7b0 : (x8_2 == (a0.size : Int)) = false := beq_eq_false_iff_ne.mpr c7
                have c7b1 : (x8_2 != (a0.size : Int)) = true := bne_iff_ne.mpr c7
                by_cases c9 : 0 ≤ x8_2
                · rw [if_pos c9] at H
                  have c9b0 : decide (0 ≤ x8_2) = true := decide_eq_true c9
                  clear c9
                  by_cases c10 : x8_2 < (a0.size : Int)
                  · rw [if_pos c10] at H
                    have c10b0 : decide (x8_2 < (a0.size : Int)) = true := decide_eq_true c10
                    clear c10
                    have HC13 := Aside0.mk H
                    clear H
                    obtain ⟨Ao14, co14, eo14⟩ := Kd.R_slice HO_7.out
                    subst eo14
                    have p11 : 0 ≤ (x8_2 : Int) := of_decide_eq_true (by first | (with_reducible assumption) | assumption)
                    have q11 : x8_2 < (a0.size : Int) := of_decide_eq_true (by first | (with_reducible assumption) | assumption)
                    have hx11 := bt_at a0 x8_2
                    replace p11 := eq_true p11
                    replace q11 := eq_true q11
                    have p12 : 0 ≤ (x8_2 : Int) := of_decide_eq_true (by first | (with_reducible assumption) | assumption)
                    have q12 : x8_2 < (a0.size : Int) := of_decide_eq_true (by first | (with_reducible assumption) | assumption)
                    have hx12 := bt_at a0 x8_2
                    replace p12 := eq_true p12
                    replace q12 := eq_true q12
                    go_upto_region 10 with (fail)
                    repeat (go_quiet (fail); go_upto_region 10 with (fail))
                    go_cut [11] (fun v11 wc => ∃ (kq : Nat) (x11_12 : Bool), v11 = .bool x11_12 ∧ Aside0 (tab_Get.j2 kq a0 a1 x7_2 x8_2 (wrap64 (Int.tdiv (wrap64 (bt a0 x8_2)) 16)) (wrap64 ((Int.tmod (wrap64 (bt a0 x8_2)) 16) + 1)) x11_12 = some (r1, r2, r3)) ∧ Aside0 (kq ≤ k2) ∧ Aside0 (Kd.R (Kd.int .i64) 3 wc w.heap.size (fun _ => True) (.slice Ao14 x7_2.length co14) x7_2) ∧ Aside0 (Below w.heap.size w wc))
                    case first =>
                      have H := HC13.out
                      clear HC13
                      by_cases c15 : x8_2 > 0
                      · rw [if_pos c15] at H
                        have c15b0 : decide (0 < x8_2) = true := decide_eq_true c15
                        clear c15
                        (first | rw [c15b0] | (simp only [i64_w, i32_w]; rw [c15b0]) | skip)
                        obtain ⟨ji16, hji16⟩ : ∃ j_ : Int, (wrap64 (x8_2 - 1)) = j_ := ⟨_, rfl⟩
                        replace H : (if 0 ≤ (ji16) then (if (ji16) < (a0.size : Int) then (if (wrap64 (Int.tdiv (wrap64 (bt a0 (ji16))) 16)) = (wrap64 (Int.tdiv (wrap64 (bt a0 x8_2)) 16)) then (tab_Get.j2 k2 a0 a1 x7_2 x8_2 (wrap64 (Int.tdiv (wrap64 (bt a0 x8_2)) 16)) (wrap64 ((Int.tmod (wrap64 (bt a0 x8_2)) 16) + 1)) (decide ((wrap64 ((Int.tmod (wrap64 (bt a0 (ji16))) 16) + 1)) < 16))) else (tab_Get.j2 k2 a0 a1 x7_2 x8_2 (wrap64 (Int.tdiv (wrap64 (bt a0 x8_2)) 16)) (wrap64 ((Int.tmod (wrap64 (bt a0 x8_2)) 16) + 1)) false)) else (none)) else (none)) = some (r1, r2, r3) := by first | (rw [hji16] at H; exact H) | (simp only [hji16] at H ⊢; exact H)
                        have hji16w : (IntKind.i64.wrap (x8_2 - 1)) = ji16 := (i64_w _).trans hji16
                        by_cases c17 : 0 ≤ (ji16)
                        · rw [if_pos c17] at H
                          have c17b0 : decide (0 ≤ (ji16)) = true := decide_eq_true c17
                          clear c17
                          by_cases c18 : (ji16) < (a0.size : Int)
                          · rw [if_pos c18] at H
                            have c18b0 : decide ((ji16) < (a0.size : Int)) = true := decide_eq_true c18
                            clear c18
                            by_cases c20 : (wrap64 (Int.tdiv (wrap64 (bt a0 (ji16))) 16)) = (wrap64 (Int.tdiv (wrap64 (bt a0 x8_2)) 16))
                            · rw [if_pos c20] at H
                              have c20b0 : ((wrap64 (Int.tdiv (wrap64 (bt a0 (ji16))) 16)) == (wrap64 (Int.tdiv (wrap64 (bt a0 x8_2)) 16))) = true := beq_iff_eq.mpr c20
                              have c20b1 : ((wrap64 (Int.tdiv (wrap64 (bt a0 (ji16))) 16)) != (wrap64 (Int.tdiv (wrap64 (bt a0 x8_2)) 16))) = false := bne_eq_false_iff_eq.mpr c20
                              clear c20
                              have H' := Aside0.mk H
                              clear H
                              have p19 : 0 ≤ ((ji16) : Int) := of_decide_eq_true (by first | (with_reducible assumption) | assumption)
                              have q19 : (ji16) < (a0.size : Int) := of_decide_eq_true (by first | (with_reducible assumption) | assumption)
                              have hx19 := bt_at a0 (ji16)
                              replace p19 := eq_true p19
                              replace q19 := eq_true q19
                              have p21 : 0 ≤ ((ji16) : Int) := of_decide_eq_true (by first | (with_reducible assumption) | assumption)
                              have q21 : (ji16) < (a0.size : Int) := of_decide_eq_true (by first | (with_reducible assumption) | assumption)
                              have hx21 := bt_at a0 (ji16)
                              replace p21 := eq_true p21
                              replace q21 := eq_true q21
                              go_wp2
                              repeat (go_quiet (fail); try go_wp2)
                              go_meet
                              case rel => exact ⟨_, (decide ((wrap64 ((Int.tmod (wrap64 (bt a0 (ji16))) 16) + 1)) < 16)), (by first | rfl | (simp; done) | (simp only [← hji16] <;> (first | rfl | simp)) | (simp [*]; done)), H', ⟨by have := HJ2.out; have := HK2.out; first | omega | exact Nat.le_refl _⟩, ⟨by (with_reducible repeat (first | apply Kd.R_alloc | apply Kd.R_drewN | apply Kd.R_drew)); exact HO_7.out⟩, ⟨by repeat (first | (with_reducible first | exact HB.out | apply below_alloc | apply pw_below_drewN | apply below_drew1) | exact HB.out)⟩⟩
                            · rw [if_neg c20] at H
                              have c20b0 : ((wrap64 (Int.tdiv (wrap64 (bt a0 (ji16))) 16)) == (wrap64 (Int.tdiv (wrap64 (bt a0 x8_2)) 16))) = false := beq_eq_false_iff_ne.mpr c20
                              have c20b1 : ((wrap64 (Int.tdiv (wrap64 (bt a0 (ji16))) 16)) != (wrap64 (Int.tdiv (wrap64 (bt a0 x8_2)) 16))) = true := bne_iff_ne.mpr c20
                              have H' := Aside0.mk H
                              clear H
                              have p19 : 0 ≤ ((ji16) : Int) := of_decide_eq_true (by first | (with_reducible assumption) | assumption)
                              have q19 : (ji16) < (a0.size : Int) := of_decide_eq_true (by first | (with_reducible assumption) | assumption)
                              have hx19 := bt_at a0 (ji16)
                              replace p19 := eq_true p19
                              replace q19 := eq_true q19
                              go_wp2
                              repeat (go_quiet (fail); try go_wp2)
                              go_meet
                              case rel => exact ⟨_, (false), (by first | rfl | (simp; done) | (simp [*]; done)), H', ⟨by have := HJ2.out; have := HK2.out; first | omega | exact Nat.le_refl _⟩, ⟨by (with_reducible repeat (first | apply Kd.R_alloc | apply Kd.R_drewN | apply Kd.R_drew)); exact HO_7.out⟩, ⟨by repeat (first | (with_reducible first | exact HB.out | apply below_alloc | apply pw_below_drewN | apply below_drew1) | exact HB.out)⟩⟩
                          · rw [if_neg c18] at H
                            exact absurd H (by simp)
                        · rw [if_neg c17] at H
                          exact absurd H (by simp)
                      · rw [if_neg c15] at H
                        have c15b0 : decide (0 < x8_2) = false := decide_eq_false c15
                        clear c15
                        (first | rw [c15b0] | (simp only [i64_w, i32_w]; rw [c15b0]) | skip)
                        have H' := Aside0.mk H
                        clear H
                        go_wp2
                        repeat (go_quiet (fail); try go_wp2)
                        go_meet
                        case rel => exact ⟨_, (false), (by first | rfl | (simp; done) | (simp [*]; done)), H', ⟨by have := HJ2.out; have := HK2.out; first | omega | exact Nat.le_refl _⟩, ⟨by (with_reducible repeat (first | apply Kd.R_alloc | apply Kd.R_drewN | apply Kd.R_drew)); exact HO_7.out⟩, ⟨by repeat (first | (with_reducible first | exact HB.out | apply below_alloc | apply pw_below_drewN | apply below_drew1) | exact HB.out)⟩⟩
                    case rest =>
                      clear HC13
                      try clear c1
                      try clear p1
                      try clear q1
                      try clear hx1
                      try clear c2
                      try clear p2
                      try clear q2
                      try clear hx2
                      try clear c4
                      try clear c4b0
                      try clear c5
                      try clear c6
                      try clear c6b0
                      try clear p6
                      try clear c7
                      try clear c7b0
                      try clear c7b1
                      try clear c9
                      try clear c9b0
                      try clear c10
                      try clear c10b0
                      try clear p11
                      try clear q11
                      try clear hx11
                      try clear p12
                      try clear q12
                      try clear hx12
                      try clear c13
                      try clear c15
                      try clear c15b0
                      try clear c17
                      try clear c17b0
                      try clear c18
                      try clear c18b0
                      try clear p19
                      try clear q19
                      try clear hx19
                      try clear c20
                      try clear c20b0
                      try clear c20b1
                      try clear p21
                      try clear q21
                      try clear hx21
                      try clear p11
                      try clear p12
                      try clear p19
                      try clear p2
                      try clear p21
                      try clear q11
                      try clear q12
                      try clear q19
                      try clear q21
                      obtain ⟨kq, x11_12, rfl, HA, HJ12, HO_7, HB⟩ := hcut
                      cases kq with
                      | zero => exact absurd HA.out (by simp [tab_Get.j2])
                      | succ kj12 =>
                        have H := HA.out
                        clear HA
                        simp only [tab_Get.j2] at H
                        have HC22 := Aside0.mk H
                        clear H
                        go_upto_region 11 with (fail)
                        repeat (go_quiet (fail); go_upto_region 11 with (fail))
                        go_cut [69] (fun v69 wc => ∃ (kq : Nat) (x69_21 : Bool), v69 = .bool x69_21 ∧ Aside0 (tab_Get.j3 kq a0 a1 x7_2 x8_2 (wrap64 (Int.tdiv (wrap64 (bt a0 x8_2)) 16)) (wrap64 ((Int.tmod (wrap64 (bt a0 x8_2)) 16) + 1)) x69_21 = some (r1, r2, r3)) ∧ Aside0 (kq ≤ kj12) ∧ Aside0 (Kd.R (Kd.int .i64) 3 wc w.heap.size (fun _ => True) (.slice Ao14 x7_2.length co14) x7_2) ∧ Aside0 (Below w.heap.size w wc))
                        case first =>
                          have H := HC22.out
                          clear HC22
                          by_cases c23 : x11_12 = true
                          · subst c23
                            have H1 : (tab_Get.j3 kj12 a0 a1 x7_2 x8_2 (wrap64 (Int.tdiv (wrap64 (bt a0 x8_2)) 16)) (wrap64 ((Int.tmod (wrap64 (bt a0 x8_2)) 16) + 1)) true) = some (r1, r2, r3) := by rw [if_pos rfl] at H; exact H
                            clear H
                            have H := H1
                            clear H1
                            have H' := Aside0.mk H
                            clear H
                            go_wp2
                            repeat (go_quiet (fail); try go_wp2)
                            go_meet
                            case rel => exact ⟨_, (true), (by first | rfl | (simp; done) | (simp [*]; done)), H', ⟨by have := HJ2.out; have := HK2.out; have := HJ12.out; first | omega | exact Nat.le_refl _⟩, ⟨by (with_reducible repeat (first | apply Kd.R_alloc | apply Kd.R_drewN | apply Kd.R_drew)); exact HO_7.out⟩, ⟨by repeat (first | (with_reducible first | exact HB.out | apply below_alloc | apply pw_below_drewN | apply below_drew1) | exact HB.out)⟩⟩
                          · replace c23 := Bool.eq_false_iff.mpr c23
                            subst c23
                            have H1 : (tab_Get.j3 kj12 a0 a1 x7_2 x8_2 (wrap64 (Int.tdiv (wrap64 (bt a0 x8_2)) 16)) (wrap64 ((Int.tmod (wrap64 (bt a0 x8_2)) 16) + 1)) (decide ((wrap64 ((Int.tmod (wrap64 (bt a0 x8_2)) 16) + 1)) > (wrap64 (a1 - (x7_2.length : Int)))))) = some (r1, r2, r3) := by rw [if_neg (show ¬ (false = true) by decide)] at H; exact H
                            clear H
                            have H := H1
                            clear H1
                            have H' := Aside0.mk H
                            clear H
                            go_wp2
                            repeat (go_quiet (fail); try go_wp2)
                            go_meet
                            case rel => exact ⟨_, (decide ((wrap64 ((Int.tmod (wrap64 (bt a0 x8_2)) 16) + 1)) > (wrap64 (a1 - (x7_2.length : Int))))), (by first | rfl | (simp; done) | (simp [*]; done)), H', ⟨by have := HJ2.out; have := HK2.out; have := HJ12.out; first | omega | exact Nat.le_refl _⟩, ⟨by (with_reducible repeat (first | apply Kd.R_alloc | apply Kd.R_drewN | apply Kd.R_drew)); exact HO_7.out⟩, ⟨by repeat (first | (with_reducible first | exact HB.out | apply below_alloc | apply pw_below_drewN | apply below_drew1) | exact HB.out)⟩⟩
                        case rest =>
                          clear HC22
                          try clear c1
                          try clear p1
                          try clear q1
                          try clear hx1
                          try clear c2
                          try clear p2
                          try clear q2
                          try clear hx2
                          try clear c4
                          try clear c4b0
                          try clear c5
                          try clear c6
                          try clear c6b0
                          try clear p6
                          try clear c7
                          try clear c7b0
                          try clear c7b1
                          try clear c9
                          try clear c9b0
                          try clear c10
                          try clear c10b0
                          try clear p11
                          try clear q11
                          try clear hx11
                          try clear p12
                          try clear q12
                          try clear hx12
                          try clear c13
                          try clear c15
                          try clear c15b0
                          try clear c17
                          try clear c17b0
                          try clear c18
                          try clear c18b0
                          try clear p19
                          try clear q19
                          try clear hx19
                          try clear c20
                          try clear c20b0
                          try clear c20b1
                          try clear p21
                          try clear q21
                          try clear hx21
                          try clear c23
                          try clear p1
                          try clear p11
                          try clear p12
                          try clear p19
                          try clear p2
                          try clear p21
                          try clear p6
                          try clear q1
                          try clear q11
                          try clear q12
                          try clear q19
                          try clear q2
                          try clear q21
                          obtain ⟨kq, x69_21, rfl, HA, HJ21, HO_7, HB⟩ := hcut
                          cases kq with
                          | zero => exact absurd HA.out (by simp [tab_Get.j3])
                          | succ kj21 =>
                            have H := HA.out
                            clear HA
                            simp only [tab_Get.j3] at H
                            by_cases c24 : x69_21 = true
                            · subst c24
                              have H1 : (some (([] : List Int), 0, 3)) = some (r1, r2, r3) := by rw [if_pos rfl] at H; exact H
                              clear H
                              have H := H1
                              clear H1
                              simp only [Option.some.injEq, Prod.mk.injEq] at H
                              obtain ⟨rfl, rfl, rfl⟩ := H
                              go_wp2
                              repeat (go_quiet (fail); try go_wp2)
                              go_ret3
                              exact ⟨_, by first | rfl | (simp [errW_none, errW_some] <;> rfl) | (simp [*, errW_none, errW_some] <;> rfl), by first | exact Kd.R_nil _ _ _ _ _ | exact Kd.N_nil _ _ _ _ _ | exact Kd.V_nil _ _ _ _ _ | exact Kd.Q_nil _ _ _ _ _ | exact Kd.S_nil _ _ _ _ _, by repeat (first | (with_reducible first | exact HB.out | apply below_alloc | apply pw_below_drewN | apply below_drew1) | exact HB.out)⟩
                            · replace c24 := Bool.eq_false_iff.mpr c24
                              subst c24
                              have H1 : (tab_Get.l1 kj21 a0 a1 x7_2 x8_2 (wrap64 (Int.tdiv (wrap64 (bt a0 x8_2)) 16)) (wrap64 ((Int.tmod (wrap64 (bt a0 x8_2)) 16) + 1)) 0) = some (r1, r2, r3) := by rw [if_neg (show ¬ (false = true) by decide)] at H; exact H
                              clear H
                              have H := H1
                              clear H1
                              have H' := Aside0.mk H
                              clear H
                              go_wp2
                              repeat (go_quiet (fail); try go_wp2)
                              go_loopg [7, 71] kj21 (fun kq v7 v71 w' => ∃ (x7_5 : List Int) (x71_5 : Int), v71 = .int .i64 x71_5 ∧ Aside0 (tab_Get.l1 kq a0 a1 x7_5 x8_2 (wrap64 (Int.tdiv (wrap64 (bt a0 x8_2)) 16)) (wrap64 ((Int.tmod (wrap64 (bt a0 x8_2)) 16) + 1)) x71_5 = some (r1, r2, r3)) ∧ Aside0 (kq ≤ kj21) ∧ Aside0 (Kd.R (Kd.int .i64) 3 w' w.heap.size (fun _ => True) v7 x7_5) ∧ Aside0 (Below w.heap.size w w'))
                              case atStart => exact ⟨(x7_2), (0), (by first | rfl | (simp; done) | (simp [*]; done)), H', ⟨Nat.le_refl _⟩, ⟨by (with_reducible repeat (first | apply Kd.R_alloc | apply Kd.R_drewN | apply Kd.R_drew)); exact HO_7.out⟩, ⟨by repeat (first | (with_reducible first | exact HB.out | apply below_alloc | apply pw_below_drewN | apply below_drew1) | exact HB.out)⟩⟩
                              case round =>
                                clear H'
                                try clear c1
                                try clear p1
                                try clear q1
                                try clear hx1
                                try clear c2
                                try clear p2
                                try clear q2
                                try clear hx2
                                try clear c4
                                try clear c4b0
                                try clear c5
                                try clear c6
                                try clear c6b0
                                try clear p6
                                try clear c7
                                try clear c7b0
                                try clear c7b1
                                try clear c9
                                try clear c9b0
                                try clear c10
                                try clear c10b0
                                try clear p11
                                try clear q11
                                try clear hx11
                                try clear p12
                                try clear q12
                                try clear hx12
                                try clear c13
                                try clear c15
                                try clear c15b0
                                try clear c17
                                try clear c17b0
                                try clear c18
                                try clear c18b0
                                try clear p19
                                try clear q19
                                try clear hx19
                                try clear c20
                                try clear c20b0
                                try clear c20b1
                                try clear p21
                                try clear q21
                                try clear hx21
                                try clear c23
                                try clear c24
                                try clear p1
                                try clear p11
                                try clear p12
                                try clear p19
                                try clear p2
                                try clear p21
                                try clear p6
                                try clear q1
                                try clear q11
                                try clear q12
                                try clear q19
                                try clear q2
                                try clear q21
                                obtain ⟨x7_5, x71_5, rfl, HA, HK5, HO_7, HB⟩ := hrel
                                cases gk with
                                | zero => exact absurd HA.out (by simp [tab_Get.l1])
                                | succ k5 =>
                                  have H := HA.out
                                  clear HA
                                  simp only [tab_Get.l1] at H
                                  by_cases c25 : x71_5 < (wrap64 ((Int.tmod (wrap64 (bt a0 x8_2)) 16) + 1))
                                  · rw [if_pos c25] at H
                                    have c25b0 : decide (x71_5 < (wrap64 ((Int.tmod (wrap64 (bt a0 x8_2)) 16) + 1))) = true := decide_eq_true c25
                                    clear c25
                                    by_cases c26 : x7_5.length < 17592186044416
                                    · rw [if_pos c26] at H
                                      have LMc26 := Aside0.mk c26
                                      clear c26
                                      obtain ⟨y225, hy225⟩ : ∃ y_ : List Int, y_ = (x7_5 ++ [(wrap64 (Int.tdiv (wrap64 (bt a0 x8_2)) 16))]) := ⟨_, rfl⟩
                                      replace H : (tab_Get.l1 k5 a0 a1 y225 x8_2 (wrap64 (Int.tdiv (wrap64 (bt a0 x8_2)) 16)) (wrap64 ((Int.tmod (wrap64 (bt a0 x8_2)) 16) + 1)) (wrap64 (x71_5 + 1))) = some (r1, r2, r3) := by first | (rw [hy225]; with_reducible exact H) | (have H2_ := (Option.bind_some _ _).symm.trans H; rw [hy225]; with_reducible exact H2_) | (have H2_ := (Option.bind_some _ _).symm.trans H; with_reducible exact H2_) | with_reducible exact H | (rw [hy225]; exact H) | exact H
                                      have Ny225 := Aside0.mk hy225
                                      clear hy225
                                      have H' := Aside0.mk H
                                      clear H
                                      go_wp2_with (first | ((with_reducible refine gate_builtin (b := .append) (xs := #[.tmp 73, .tmp 75]) rfl ?_); (try (refine gate_guard (by rfl) ?_; dsimp only)); at_builtin; refine Kd.R_append (Kd.int .i64) (w0 := w) w.heap.size rfl (.tmp 73) (.tmp 75) 67 3 (.int .i64 0) 8 rfl Tryz.underlying67 info3 rfl (by decide) (by omega) u7 x7_5 (wrap64 (Int.tdiv (wrap64 (bt a0 x8_2)) 16)) [.int .i64 (wrap64 (Int.tdiv (wrap64 (bt a0 x8_2)) 16))] (fun _ => True) (fun _ => False) rfl rfl ?aP (fun _ hk => hk.elim) ?aF ?aO ?aB ?aS ?aL ?_; (case aP => exact rfl); (case aB => exact (by repeat (first | (with_reducible first | exact HB.out | apply below_alloc | apply pw_below_drewN | apply below_drew1) | exact HB.out))); (case aF => exact (fun _ _ => trivial)); (case aO => exact (by (with_reducible repeat (first | apply Kd.R_alloc | apply Kd.R_drewN | apply Kd.R_drew)); exact HO_7.out)); (case aS => exact (below_size (by repeat (first | (with_reducible first | exact HB.out | apply below_alloc | apply pw_below_drewN | apply below_drew1) | exact HB.out)))); (case aL => have := LMc26.out; omega); intro v226 w27 ho hb hg hat; rw [← Ny225.out] at ho; have n0_ := Aside0.mk (hb); have n1_ := Aside0.mk (ho); clear HB; clear HO_7; have HB := n0_; have HO227 := n1_; clear n0_ n1_; clear ho hb hg hat))
                                      repeat (go_quiet (first | ((with_reducible refine gate_builtin (b := .append) (xs := #[.tmp 73, .tmp 75]) rfl ?_); (try (refine gate_guard (by rfl) ?_; dsimp only)); at_builtin; refine Kd.R_append (Kd.int .i64) (w0 := w) w.heap.size rfl (.tmp 73) (.tmp 75) 67 3 (.int .i64 0) 8 rfl Tryz.underlying67 info3 rfl (by decide) (by omega) u7 x7_5 (wrap64 (Int.tdiv (wrap64 (bt a0 x8_2)) 16)) [.int .i64 (wrap64 (Int.tdiv (wrap64 (bt a0 x8_2)) 16))] (fun _ => True) (fun _ => False) rfl rfl ?aP (fun _ hk => hk.elim) ?aF ?aO ?aB ?aS ?aL ?_; (case aP => exact rfl); (case aB => exact (by repeat (first | (with_reducible first | exact HB.out | apply below_alloc | apply pw_below_drewN | apply below_drew1) | exact HB.out))); (case aF => exact (fun _ _ => trivial)); (case aO => exact (by (with_reducible repeat (first | apply Kd.R_alloc | apply Kd.R_drewN | apply Kd.R_drew)); exact HO_7.out)); (case aS => exact (below_size (by repeat (first | (with_reducible first | exact HB.out | apply below_alloc | apply pw_below_drewN | apply below_drew1) | exact HB.out)))); (case aL => have := LMc26.out; omega); intro v226 w27 ho hb hg hat; rw [← Ny225.out] at ho; have n0_ := Aside0.mk (hb); have n1_ := Aside0.mk (ho); clear HB; clear HO_7; have HB := n0_; have HO227 := n1_; clear n0_ n1_; clear ho hb hg hat)); try go_wp2_with (first | ((with_reducible refine gate_builtin (b := .append) (xs := #[.tmp 73, .tmp 75]) rfl ?_); (try (refine gate_guard (by rfl) ?_; dsimp only)); at_builtin; refine Kd.R_append (Kd.int .i64) (w0 := w) w.heap.size rfl (.tmp 73) (.tmp 75) 67 3 (.int .i64 0) 8 rfl Tryz.underlying67 info3 rfl (by decide) (by omega) u7 x7_5 (wrap64 (Int.tdiv (wrap64 (bt a0 x8_2)) 16)) [.int .i64 (wrap64 (Int.tdiv (wrap64 (bt a0 x8_2)) 16))] (fun _ => True) (fun _ => False) rfl rfl ?aP (fun _ hk => hk.elim) ?aF ?aO ?aB ?aS ?aL ?_; (case aP => exact rfl); (case aB => exact (by repeat (first | (with_reducible first | exact HB.out | apply below_alloc | apply pw_below_drewN | apply below_drew1) | exact HB.out))); (case aF => exact (fun _ _ => trivial)); (case aO => exact (by (with_reducible repeat (first | apply Kd.R_alloc | apply Kd.R_drewN | apply Kd.R_drew)); exact HO_7.out)); (case aS => exact (below_size (by repeat (first | (with_reducible first | exact HB.out | apply below_alloc | apply pw_below_drewN | apply below_drew1) | exact HB.out)))); (case aL => have := LMc26.out; omega); intro v226 w27 ho hb hg hat; rw [← Ny225.out] at ho; have n0_ := Aside0.mk (hb); have n1_ := Aside0.mk (ho); clear HB; clear HO_7; have HB := n0_; have HO227 := n1_; clear n0_ n1_; clear ho hb hg hat)))
                                      go_roundg k5
                                      case measure => have := HJ2.out; have := HK2.out; have := HJ12.out; have := HJ21.out; have := HK5.out; omega
                                      case rel => exact ⟨(y225), (wrap64 (x71_5 + 1)), (by first | rfl | (simp; done) | (simp [*]; done)), H', ⟨by have := HJ2.out; have := HK2.out; have := HJ12.out; have := HJ21.out; have := HK5.out; omega⟩, ⟨by (with_reducible repeat (first | apply Kd.R_alloc | apply Kd.R_drewN | apply Kd.R_drew)); exact HO227.out⟩, ⟨by repeat (first | (with_reducible first | exact HB.out | apply below_alloc | apply pw_below_drewN | apply below_drew1) | exact HB.out)⟩⟩
                                    · rw [if_neg c26] at H
                                      exact absurd H (by simp)
                                  · rw [if_neg c25] at H
                                    have c25b0 : decide (x71_5 < (wrap64 ((Int.tmod (wrap64 (bt a0 x8_2)) 16) + 1))) = false := decide_eq_false c25
                                    clear c25
                                    have H' := Aside0.mk H
                                    clear H
                                    go_wp2
                                    repeat (go_quiet (fail); try go_wp2)
                                    go_roundg k5
                                    case measure => have := HJ2.out; have := HK2.out; have := HJ12.out; have := HJ21.out; have := HK5.out; omega
                                    case rel => exact ⟨(x7_5), (wrap64 (x8_2 + 1)), (by first | rfl | (simp; done) | (simp [*]; done)), H', ⟨by have := HJ2.out; have := HK2.out; have := HJ12.out; have := HJ21.out; have := HK5.out; omega⟩, ⟨by (with_reducible repeat (first | apply Kd.R_alloc | apply Kd.R_drewN | apply Kd.R_drew)); exact HO_7.out⟩, ⟨by repeat (first | (with_reducible first | exact HB.out | apply below_alloc | apply pw_below_drewN | apply below_drew1) | exact HB.out)⟩⟩
                  · rw [if_neg c10] at H
                    exact absurd H (by simp)
                · rw [if_neg c9] at H
                  exact absurd H (by simp)
            · rw [if_neg c6] at H
              have c6b0 : decide ((x7_2.length : Int) < a1) = false := decide_eq_false c6
              clear c6
              simp only [Option.some.injEq, Prod.mk.injEq] at H
              obtain ⟨rfl, rfl, rfl⟩ := H
              obtain ⟨Ao28, co28, eo28⟩ := Kd.R_slice HO_7.out
              subst eo28
              go_wp2
              repeat (go_quiet (fail); try go_wp2)
              go_ret3
              exact ⟨_, by first | rfl | (simp [errW_none, errW_some] <;> rfl) | (simp [*, errW_none, errW_some] <;> rfl), by (with_reducible repeat (first | apply Kd.R_alloc | apply Kd.R_drewN | apply Kd.R_drew)); exact HO_7.out, by repeat (first | (with_reducible first | exact HB.out | apply below_alloc | apply pw_below_drewN | apply below_drew1) | exact HB.out)⟩
def IsS211 (w0 W : World) (g : Nat) (f0 : ByteArray) (f1 : Int) : Prop := W.heap[g]? = some (.cells #[.string f0, .int .i64 f1] 211 (0, 0)) ∧ w0.heap.size ≤ g
theorem IsS211.grown {w0 W : World} {g : Nat} {f0 : ByteArray} {f1 : Int} {W1 : World} {row : Option Nat} (h : IsS211 w0 W g f0 f1) (hw : W.grownBy W1 row) (hne : some g ≠ row) : IsS211 w0 W1 g f0 f1 := by
  obtain ⟨hb, hg⟩ := h
  exact ⟨blk_grown hb hw hne, hg⟩
theorem IsS211.kept {w0 W : World} {g : Nat} {f0 : ByteArray} {f1 : Int} {W1 : World} {S : Nat → Prop} (h : IsS211 w0 W g f0 f1) (hk : Kept W W1 S) (hne : ¬ S g) : IsS211 w0 W1 g f0 f1 := by
  obtain ⟨hb, hg⟩ := h
  exact ⟨blk_kept hb hk hne, hg⟩
theorem IsS211.below {w0 W : World} {g : Nat} {f0 : ByteArray} {f1 : Int} {W1 : World} (h : IsS211 w0 W g f0 f1) (hw : Below W.heap.size W W1) : IsS211 w0 W1 g f0 f1 := h.grown (grown_of_below hw none) (by simp)
theorem IsS211.alloc {w0 W : World} {g : Nat} {f0 : ByteArray} {f1 : Int} (h : IsS211 w0 W g f0 f1) (o : Obj) : IsS211 w0 (W.alloc o) g f0 f1 := h.below (below_alloc (Below.refl _ _) o)
theorem IsS211.drewN {w0 W : World} {g : Nat} {f0 : ByteArray} {f1 : Int} (h : IsS211 w0 W g f0 f1) (m : Nat) : IsS211 w0 (W.drewN m) g f0 f1 := h
theorem IsS211.drew {w0 W : World} {g : Nat} {f0 : ByteArray} {f1 : Int} (h : IsS211 w0 W g f0 f1) : IsS211 w0 W.drew g f0 f1 := h
theorem IsS211.at_ {w0 W : World} {g : Nat} {f0 : ByteArray} {f1 : Int} {w' : World} {m : Nat} (hq : W.drewN m = w') (h : IsS211 w0 W g f0 f1) : IsS211 w0 w' g f0 f1 := by subst hq; exact IsS211.drewN h m
theorem IsS211.own_ne {w0 W : World} {g : Nat} {f0 : ByteArray} {f1 : Int} {α : Type} {d : Kd α} {e : Nat} {base : Nat} {ok : Nat → Prop} {v : Value} {xs : List α} (h : IsS211 w0 W g f0 f1) (ho : d.R e W base ok v xs) (ht : e ≠ 211) : some g ≠ v.ownBlock := by
  obtain ⟨hb, hg⟩ := h
  exact Kd.R_ne ho hb ht
theorem IsS211.lt {w0 W : World} {g : Nat} {f0 : ByteArray} {f1 : Int} (h : IsS211 w0 W g f0 f1) : g < W.heap.size := by
  obtain ⟨hb, hg⟩ := h
  exact blk_lt hb
theorem IsS211.new (w0 W : World) (f0 : ByteArray) (f1 : Int) (hB : Below w0.heap.size w0 W) : IsS211 w0 (W.alloc (.cells #[.string f0, .int .i64 f1] 211)) W.heap.size f0 f1 := ⟨by simpa using heap_alloc_new W _, hB.size⟩
def bits_NewReader.f (a0 : ByteArray) : Option (ByteArray × Int) := some (a0, 0)
mutual
def vari_Get.l0 : Nat → ByteArray → Int → Int → Option (Int × Int × Int)
  | 0, _, _, _ => none
  | k + 1, x0, x5, x6 => if x6 = (x0.size : Int) then (some (0, 0, 2)) else (if x6 = 4 then (if 0 ≤ x6 then (if x6 < (x0.size : Int) then (vari_Get.j1 k x0 x5 x6 (decide ((bt x0 x6) > 15))) else (none)) else (none)) else (vari_Get.j1 k x0 x5 x6 false))
def vari_Get.j1 : Nat → ByteArray → Int → Int → Bool → Option (Int × Int × Int)
  | 0, _, _, _, _ => none
  | k + 1, x0, x5, x6, x14 => if x14 = true then (some (0, 0, 4)) else (if x6 > 0 then (if 0 ≤ x6 then (if x6 < (x0.size : Int) then (vari_Get.j2 k x0 x5 x6 ((bt x0 x6) == 0)) else (none)) else (none)) else (vari_Get.j2 k x0 x5 x6 false))
def vari_Get.j2 : Nat → ByteArray → Int → Int → Bool → Option (Int × Int × Int)
  | 0, _, _, _, _ => none
  | k + 1, x0, x5, x6, x23 => if x23 = true then (some (0, 0, 3)) else (if 0 ≤ x6 then (if x6 < (x0.size : Int) then (if 0 ≤ (wrap64 (7 * x6)) then (if (bt x0 x6) < 128 then (some (Go.bits .or .i64 x5 (shl .i64 (wrap64 (Int.tmod (bt x0 x6) 128)) (wrap64 (7 * x6))), wrap64 (x6 + 1), 0)) else (vari_Get.l0 k x0 (Go.bits .or .i64 x5 (shl .i64 (wrap64 (Int.tmod (bt x0 x6) 128)) (wrap64 (7 * x6)))) (wrap64 (x6 + 1)))) else (none)) else (none)) else (none))
end
def vari_Get.f (k : Nat) (a0 : ByteArray) : Option (Int × Int × Int) := vari_Get.l0 k a0 0 0
theorem vari_Get.mono_l : ∀ k, (∀ y0 y1 y2, LeO (vari_Get.l0 k y0 y1 y2) (vari_Get.l0 (k + 1) y0 y1 y2)) ∧ (∀ y0 y1 y2 y3, LeO (vari_Get.j1 k y0 y1 y2 y3) (vari_Get.j1 (k + 1) y0 y1 y2 y3)) ∧ (∀ y0 y1 y2 y3, LeO (vari_Get.j2 k y0 y1 y2 y3) (vari_Get.j2 (k + 1) y0 y1 y2 y3))
  | 0 => ⟨fun _ _ _ r h => by simp [vari_Get.l0] at h, fun _ _ _ _ r h => by simp [vari_Get.j1] at h, fun _ _ _ _ r h => by simp [vari_Get.j2] at h⟩
  | k + 1 => by
    obtain ⟨ih0, ih1, ih2⟩ := vari_Get.mono_l k
    refine ⟨?_, ?_, ?_⟩
    · intro y0 y1 y2
      unfold vari_Get.l0
      repeat' first
      | (with_reducible exact ih0 _ _ _)
      | (with_reducible exact ih1 _ _ _ _)
      | (with_reducible exact ih2 _ _ _ _)
      | (with_reducible exact LeO.refl _)
      | (with_reducible exact LeO.none _)
      | (with_reducible refine LeO.ite ?_ ?_)
      | (with_reducible refine LeO.bind ?_ (fun _ => ?_))
      | exact ih0 _ _ _
      | exact ih1 _ _ _ _
      | exact ih2 _ _ _ _
      | exact LeO.none _
      | refine LeO.ite ?_ ?_
      | refine LeO.bind ?_ (fun _ => ?_)
    · intro y0 y1 y2 y3
      unfold vari_Get.j1
      repeat' first
      | (with_reducible exact ih0 _ _ _)
      | (with_reducible exact ih1 _ _ _ _)
      | (with_reducible exact ih2 _ _ _ _)
      | (with_reducible exact LeO.refl _)
      | (with_reducible exact LeO.none _)
      | (with_reducible refine LeO.ite ?_ ?_)
      | (with_reducible refine LeO.bind ?_ (fun _ => ?_))
      | exact ih0 _ _ _
      | exact ih1 _ _ _ _
      | exact ih2 _ _ _ _
      | exact LeO.none _
      | refine LeO.ite ?_ ?_
      | refine LeO.bind ?_ (fun _ => ?_)
    · intro y0 y1 y2 y3
      unfold vari_Get.j2
      repeat' first
      | (with_reducible exact ih0 _ _ _)
      | (with_reducible exact ih1 _ _ _ _)
      | (with_reducible exact ih2 _ _ _ _)
      | (with_reducible exact LeO.refl _)
      | (with_reducible exact LeO.none _)
      | (with_reducible refine LeO.ite ?_ ?_)
      | (with_reducible refine LeO.bind ?_ (fun _ => ?_))
      | exact ih0 _ _ _
      | exact ih1 _ _ _ _
      | exact ih2 _ _ _ _
      | exact LeO.none _
      | refine LeO.ite ?_ ?_
      | refine LeO.bind ?_ (fun _ => ?_)
theorem vari_Get.mono : ∀ a0 k, LeO (vari_Get.f k a0) (vari_Get.f (k + 1) a0) := by
  intro a0 k
  obtain ⟨ih0, ih1, ih2⟩ := vari_Get.mono_l k
  unfold vari_Get.f
  repeat' first
      | (with_reducible exact ih0 _ _ _)
      | (with_reducible exact ih1 _ _ _ _)
      | (with_reducible exact ih2 _ _ _ _)
      | (with_reducible exact LeO.refl _)
      | (with_reducible exact LeO.none _)
      | (with_reducible refine LeO.ite ?_ ?_)
      | (with_reducible refine LeO.bind ?_ (fun _ => ?_))
      | exact ih0 _ _ _
      | exact ih1 _ _ _ _
      | exact ih2 _ _ _ _
      | exact LeO.none _
      | refine LeO.ite ?_ ?_
      | refine LeO.bind ?_ (fun _ => ?_)
set_option maxHeartbeats 8000000 in
set_option maxRecDepth 100000 in
theorem vari_Get.calls (k : Nat) (a0 : ByteArray) (r1 : Int) (r2 : Int) (r3 : Int) (w : World) (h : vari_Get.f k a0 = some (r1, r2, r3)) :
    Calls Tryz.prog 139 #[.string a0] w fun e w' => e = .returned (.tuple #[.int .i64 r1, .int .i64 r2, .int .i64 r3]) ∧ Drawn0 w w' := by
  have H : (vari_Get.l0 k a0 0 0) = some (r1, r2, r3) := h
  clear h
  have H' := Aside0.mk H
  clear H
  go_enter Tryz.func139, Tryz.ntmps139
  go_wp2
  go_loopg [5, 6] k (fun kq v5 v6 w' => ∃ (x5_1 : Int) (x6_1 : Int), v5 = .int .i64 x5_1 ∧ v6 = .int .i64 x6_1 ∧ Aside0 (vari_Get.l0 kq a0 x5_1 x6_1 = some (r1, r2, r3)) ∧ Aside0 (kq ≤ k) ∧ Drawn0 w w')
  case atStart => exact ⟨(0), (0), (by first | rfl | (simp; done) | (simp [*]; done)), (by first | rfl | (simp; done) | (simp [*]; done)), H', ⟨Nat.le_refl _⟩, by repeat (first | exact Drawn0.refl _ | apply Drawn0.step)⟩
  case round =>
    clear H'
    try clear c1
    obtain ⟨x5_1, x6_1, rfl, rfl, HA, HK1, ⟨m1, rfl⟩⟩ := hrel
    cases gk with
    | zero => exact absurd HA.out (by simp [vari_Get.l0])
    | succ k1 =>
      have H := HA.out
      clear HA
      simp only [vari_Get.l0] at H
      by_cases c2 : x6_1 = (a0.size : Int)
      · rw [if_pos c2] at H
        have c2b0 : (x6_1 == (a0.size : Int)) = true := beq_iff_eq.mpr c2
        have c2b1 : (x6_1 != (a0.size : Int)) = false := bne_eq_false_iff_eq.mpr c2
        clear c2
        simp only [Option.some.injEq, Prod.mk.injEq] at H
        obtain ⟨rfl, rfl, rfl⟩ := H
        go_wp2
        go_ret3
        exact ⟨by first | rfl | (simp; done) | (simp [*]; done), by repeat (first | exact Drawn0.refl _ | apply Drawn0.step)⟩
      · rw [if_neg c2] at H
        have c2b0 : (x6_1 == (a0.size : Int)) = false := beq_eq_false_iff_ne.mpr c2
        have c2b1 : (x6_1 != (a0.size : Int)) = true := bne_iff_ne.mpr c2
        have HC3 := Aside0.mk H
        clear H
        go_upto_region 6 with (fail)
        go_cut [14] (fun v14 wc => ∃ (kq : Nat) (x14_2 : Bool), v14 = .bool x14_2 ∧ Aside0 (vari_Get.j1 kq a0 x5_1 x6_1 x14_2 = some (r1, r2, r3)) ∧ Aside0 (kq ≤ k1) ∧ Drawn0 w wc)
        case first =>
          have H := HC3.out
          clear HC3
          by_cases c4 : x6_1 = 4
          · rw [if_pos c4] at H
            have c4b0 : (x6_1 == 4) = true := beq_iff_eq.mpr c4
            have c4b1 : (x6_1 != 4) = false := bne_eq_false_iff_eq.mpr c4
            clear c4
            (first | rw [c4b0] | (simp only [i64_w, i32_w]; rw [c4b0]) | skip)
            by_cases c5 : 0 ≤ x6_1
            · rw [if_pos c5] at H
              have c5b0 : decide (0 ≤ x6_1) = true := decide_eq_true c5
              clear c5
              by_cases c6 : x6_1 < (a0.size : Int)
              · rw [if_pos c6] at H
                have c6b0 : decide (x6_1 < (a0.size : Int)) = true := decide_eq_true c6
                clear c6
                have H' := Aside0.mk H
                clear H
                have p7 : 0 ≤ (x6_1 : Int) := of_decide_eq_true (by first | (with_reducible assumption) | assumption)
                have q7 : x6_1 < (a0.size : Int) := of_decide_eq_true (by first | (with_reducible assumption) | assumption)
                have hx7 := bt_at a0 x6_1
                replace p7 := eq_true p7
                replace q7 := eq_true q7
                go_wp2
                go_meet
                case rel => exact ⟨_, (decide ((bt a0 x6_1) > 15)), (by first | rfl | (simp; done) | (simp [*]; done)), H', ⟨by have := HK1.out; first | omega | exact Nat.le_refl _⟩, by repeat (first | exact Drawn0.refl _ | apply Drawn0.step)⟩
              · rw [if_neg c6] at H
                exact absurd H (by simp)
            · rw [if_neg c5] at H
              exact absurd H (by simp)
          · rw [if_neg c4] at H
            have c4b0 : (x6_1 == 4) = false := beq_eq_false_iff_ne.mpr c4
            have c4b1 : (x6_1 != 4) = true := bne_iff_ne.mpr c4
            (first | rw [c4b0] | (simp only [i64_w, i32_w]; rw [c4b0]) | skip)
            have H' := Aside0.mk H
            clear H
            go_wp2
            go_meet
            case rel => exact ⟨_, (false), (by first | rfl | (simp; done) | (simp [*]; done)), H', ⟨by have := HK1.out; first | omega | exact Nat.le_refl _⟩, by repeat (first | exact Drawn0.refl _ | apply Drawn0.step)⟩
        case rest =>
          clear HC3
          try clear c1
          try clear c2
          try clear c2b0
          try clear c2b1
          try clear p2
          try clear c4
          try clear c4b0
          try clear c4b1
          try clear c5
          try clear c5b0
          try clear c6
          try clear c6b0
          try clear p7
          try clear q7
          try clear hx7
          try clear p7
          try clear q7
          obtain ⟨kq, x14_2, rfl, HA, HJ2, ⟨mc2, rfl⟩⟩ := hcut
          cases kq with
          | zero => exact absurd HA.out (by simp [vari_Get.j1])
          | succ kj2 =>
            have H := HA.out
            clear HA
            simp only [vari_Get.j1] at H
            by_cases c8 : x14_2 = true
            · subst c8
              have H1 : (some (0, 0, 4)) = some (r1, r2, r3) := by rw [if_pos rfl] at H; exact H
              clear H
              have H := H1
              clear H1
              simp only [Option.some.injEq, Prod.mk.injEq] at H
              obtain ⟨rfl, rfl, rfl⟩ := H
              go_wp2
              go_ret3
              exact ⟨by first | rfl | (simp; done) | (simp [*]; done), by repeat (first | exact Drawn0.refl _ | apply Drawn0.step)⟩
            · replace c8 := Bool.eq_false_iff.mpr c8
              subst c8
              have H1 : (if x6_1 > 0 then (if 0 ≤ x6_1 then (if x6_1 < (a0.size : Int) then (vari_Get.j2 kj2 a0 x5_1 x6_1 ((bt a0 x6_1) == 0)) else (none)) else (none)) else (vari_Get.j2 kj2 a0 x5_1 x6_1 false)) = some (r1, r2, r3) := by rw [if_neg (show ¬ (false = true) by decide)] at H; exact H
              clear H
              have H := H1
              clear H1
              have HC9 := Aside0.mk H
              clear H
              go_upto_region 8 with (fail)
              go_cut [23] (fun v23 wc => ∃ (kq : Nat) (x23_8 : Bool), v23 = .bool x23_8 ∧ Aside0 (vari_Get.j2 kq a0 x5_1 x6_1 x23_8 = some (r1, r2, r3)) ∧ Aside0 (kq ≤ kj2) ∧ Drawn0 w wc)
              case first =>
                have H := HC9.out
                clear HC9
                by_cases c10 : x6_1 > 0
                · rw [if_pos c10] at H
                  have c10b0 : decide (0 < x6_1) = true := decide_eq_true c10
                  clear c10
                  (first | rw [c10b0] | (simp only [i64_w, i32_w]; rw [c10b0]) | skip)
                  by_cases c11 : 0 ≤ x6_1
                  · rw [if_pos c11] at H
                    have c11b0 : decide (0 ≤ x6_1) = true := decide_eq_true c11
                    clear c11
                    by_cases c12 : x6_1 < (a0.size : Int)
                    · rw [if_pos c12] at H
                      have c12b0 : decide (x6_1 < (a0.size : Int)) = true := decide_eq_true c12
                      clear c12
                      have H' := Aside0.mk H
                      clear H
                      have p13 : 0 ≤ (x6_1 : Int) := of_decide_eq_true (by first | (with_reducible assumption) | assumption)
                      have q13 : x6_1 < (a0.size : Int) := of_decide_eq_true (by first | (with_reducible assumption) | assumption)
                      have hx13 := bt_at a0 x6_1
                      replace p13 := eq_true p13
                      replace q13 := eq_true q13
                      go_wp2
                      go_meet
                      case rel => exact ⟨_, (((bt a0 x6_1) == 0)), (by first | rfl | (simp; done) | (simp [*]; done)), H', ⟨by have := HK1.out; have := HJ2.out; first | omega | exact Nat.le_refl _⟩, by repeat (first | exact Drawn0.refl _ | apply Drawn0.step)⟩
                    · rw [if_neg c12] at H
                      exact absurd H (by simp)
                  · rw [if_neg c11] at H
                    exact absurd H (by simp)
                · rw [if_neg c10] at H
                  have c10b0 : decide (0 < x6_1) = false := decide_eq_false c10
                  clear c10
                  (first | rw [c10b0] | (simp only [i64_w, i32_w]; rw [c10b0]) | skip)
                  have H' := Aside0.mk H
                  clear H
                  go_wp2
                  go_meet
                  case rel => exact ⟨_, (false), (by first | rfl | (simp; done) | (simp [*]; done)), H', ⟨by have := HK1.out; have := HJ2.out; first | omega | exact Nat.le_refl _⟩, by repeat (first | exact Drawn0.refl _ | apply Drawn0.step)⟩
              case rest =>
                clear HC9
                try clear c1
                try clear p1
                try clear q1
                try clear hx1
                try clear c2
                try clear c2b0
                try clear c2b1
                try clear p2
                try clear c4
                try clear c4b0
                try clear c4b1
                try clear c5
                try clear c5b0
                try clear c6
                try clear c6b0
                try clear p7
                try clear q7
                try clear hx7
                try clear c8
                try clear c10
                try clear c10b0
                try clear c11
                try clear c11b0
                try clear c12
                try clear c12b0
                try clear c13
                try clear p13
                try clear q13
                try clear hx13
                try clear p13
                try clear p2
                try clear p7
                try clear q13
                try clear q7
                obtain ⟨kq, x23_8, rfl, HA, HJ8, ⟨mc8, rfl⟩⟩ := hcut
                cases kq with
                | zero => exact absurd HA.out (by simp [vari_Get.j2])
                | succ kj8 =>
                  have H := HA.out
                  clear HA
                  simp only [vari_Get.j2] at H
                  by_cases c14 : x23_8 = true
                  · subst c14
                    have H1 : (some (0, 0, 3)) = some (r1, r2, r3) := by rw [if_pos rfl] at H; exact H
                    clear H
                    have H := H1
                    clear H1
                    simp only [Option.some.injEq, Prod.mk.injEq] at H
                    obtain ⟨rfl, rfl, rfl⟩ := H
                    go_wp2
                    go_ret3
                    exact ⟨by first | rfl | (simp; done) | (simp [*]; done), by repeat (first | exact Drawn0.refl _ | apply Drawn0.step)⟩
                  · replace c14 := Bool.eq_false_iff.mpr c14
                    subst c14
                    have H1 : (if 0 ≤ x6_1 then (if x6_1 < (a0.size : Int) then (if 0 ≤ (wrap64 (7 * x6_1)) then (if (bt a0 x6_1) < 128 then (some (Go.bits .or .i64 x5_1 (shl .i64 (wrap64 (Int.tmod (bt a0 x6_1) 128)) (wrap64 (7 * x6_1))), wrap64 (x6_1 + 1), 0)) else (vari_Get.l0 kj8 a0 (Go.bits .or .i64 x5_1 (shl .i64 (wrap64 (Int.tmod (bt a0 x6_1) 128)) (wrap64 (7 * x6_1)))) (wrap64 (x6_1 + 1)))) else (none)) else (none)) else (none)) = some (r1, r2, r3) := by rw [if_neg (show ¬ (false = true) by decide)] at H; exact H
                    clear H
                    have H := H1
                    clear H1
                    by_cases c15 : 0 ≤ x6_1
                    · rw [if_pos c15] at H
                      have c15b0 : decide (0 ≤ x6_1) = true := decide_eq_true c15
                      clear c15
                      by_cases c16 : x6_1 < (a0.size : Int)
                      · rw [if_pos c16] at H
                        have c16b0 : decide (x6_1 < (a0.size : Int)) = true := decide_eq_true c16
                        clear c16
                        obtain ⟨ji18, hji18⟩ : ∃ j_ : Int, (wrap64 (7 * x6_1)) = j_ := ⟨_, rfl⟩
                        replace H : (if 0 ≤ (ji18) then (if (bt a0 x6_1) < 128 then (some (Go.bits .or .i64 x5_1 (shl .i64 (wrap64 (Int.tmod (bt a0 x6_1) 128)) (ji18)), wrap64 (x6_1 + 1), 0)) else (vari_Get.l0 kj8 a0 (Go.bits .or .i64 x5_1 (shl .i64 (wrap64 (Int.tmod (bt a0 x6_1) 128)) (ji18))) (wrap64 (x6_1 + 1)))) else (none)) = some (r1, r2, r3) := by first | (rw [hji18] at H; exact H) | (simp only [hji18] at H ⊢; exact H)
                        have hji18w : (IntKind.i64.wrap (7 * x6_1)) = ji18 := (i64_w _).trans hji18
                        by_cases c19 : 0 ≤ (ji18)
                        · rw [if_pos c19] at H
                          have c19b0 := eq_true c19
                          have c19b1 : decide (0 ≤ (ji18)) = true := decide_eq_true c19
                          clear c19
                          obtain ⟨ji20, hji20⟩ : ∃ j_ : Int, (shl .i64 (wrap64 (Int.tmod (bt a0 x6_1) 128)) (ji18)) = j_ := ⟨_, rfl⟩
                          replace H : (if (bt a0 x6_1) < 128 then (some (Go.bits .or .i64 x5_1 (ji20), wrap64 (x6_1 + 1), 0)) else (vari_Get.l0 kj8 a0 (Go.bits .or .i64 x5_1 (ji20)) (wrap64 (x6_1 + 1)))) = some (r1, r2, r3) := by first | (rw [hji20] at H; exact H) | (simp only [hji20] at H ⊢; exact H)
                          have hji20_ : (IntKind.i64.wrap ((wrap64 (Int.tmod (bt a0 x6_1) 128)) * 2 ^ min (ji18).toNat 64)) = ji20 := hji20
                          have hji20z : (ji18) ≤ 64 → (IntKind.i64.wrap ((wrap64 (Int.tmod (bt a0 x6_1) 128)) * 2 ^ (ji18).toNat)) = ji20 := shl_small hji20
                          have hji20y : (wrap64 ((wrap64 (Int.tmod (bt a0 x6_1) 128)) * 2 ^ min (ji18).toNat 64)) = ji20 := (i64_w _).symm.trans hji20_
                          have hji20x : (ji18) ≤ 64 → (wrap64 ((wrap64 (Int.tmod (bt a0 x6_1) 128)) * 2 ^ (ji18).toNat)) = ji20 := fun h_ => (i64_w _).symm.trans (hji20z h_)
                          by_cases c22 : (bt a0 x6_1) < 128
                          · rw [if_pos c22] at H
                            have c22b0 : decide ((bt a0 x6_1) < 128) = true := decide_eq_true c22
                            clear c22
                            simp only [Option.some.injEq, Prod.mk.injEq] at H
                            obtain ⟨rfl, rfl, rfl⟩ := H
                            have p17 : 0 ≤ (x6_1 : Int) := of_decide_eq_true (by first | (with_reducible assumption) | assumption)
                            have q17 : x6_1 < (a0.size : Int) := of_decide_eq_true (by first | (with_reducible assumption) | assumption)
                            have hx17 := bt_at a0 x6_1
                            replace p17 := eq_true p17
                            replace q17 := eq_true q17
                            have p21 : 0 ≤ (x6_1 : Int) := of_decide_eq_true (by first | (with_reducible assumption) | assumption)
                            have q21 : x6_1 < (a0.size : Int) := of_decide_eq_true (by first | (with_reducible assumption) | assumption)
                            have hx21 := bt_at a0 x6_1
                            replace p21 := eq_true p21
                            replace q21 := eq_true q21
                            go_wp2
                            go_ret3
                            exact ⟨by first | rfl | (simp; done) | (simp only [← hji18, ← hji20] <;> (first | rfl | simp)) | (simp [*]; done), by repeat (first | exact Drawn0.refl _ | apply Drawn0.step)⟩
                          · rw [if_neg c22] at H
                            have c22b0 : decide ((bt a0 x6_1) < 128) = false := decide_eq_false c22
                            clear c22
                            have H' := Aside0.mk H
                            clear H
                            have p17 : 0 ≤ (x6_1 : Int) := of_decide_eq_true (by first | (with_reducible assumption) | assumption)
                            have q17 : x6_1 < (a0.size : Int) := of_decide_eq_true (by first | (with_reducible assumption) | assumption)
                            have hx17 := bt_at a0 x6_1
                            replace p17 := eq_true p17
                            replace q17 := eq_true q17
                            have p21 : 0 ≤ (x6_1 : Int) := of_decide_eq_true (by first | (with_reducible assumption) | assumption)
                            have q21 : x6_1 < (a0.size : Int) := of_decide_eq_true (by first | (with_reducible assumption) | assumption)
                            have hx21 := bt_at a0 x6_1
                            replace p21 := eq_true p21
                            replace q21 := eq_true q21
                            go_wp2
                            go_roundg kj8
                            case measure => have := HK1.out; have := HJ2.out; have := HJ8.out; omega
                            case rel => exact ⟨(Go.bits .or .i64 x5_1 (ji20)), (wrap64 (x6_1 + 1)), (by first | rfl | (simp; done) | (simp only [← hji20] <;> (first | rfl | simp)) | (simp [*]; done)), (by first | rfl | (simp; done) | (simp [*]; done)), H', ⟨by have := HK1.out; have := HJ2.out; have := HJ8.out; omega⟩, by repeat (first | exact Drawn0.refl _ | apply Drawn0.step)⟩
                        · rw [if_neg c19] at H
                          exact absurd H (by simp)
                      · rw [if_neg c16] at H
                        exact absurd H (by simp)
                    · rw [if_neg c15] at H
                      exact absurd H (by simp)
def lexiphaneref1_Of.l0 : Nat → ByteArray → Int → Int → Option (Int)
  | 0, _, _, _ => none
  | k + 1, x0, x3, x4 => if x4 < (x0.size : Int) then (if 0 ≤ x4 then (lexiphaneref1_Of.l0 k x0 (Go.bits .or .u64 (IntKind.u64.wrap (x3 * 256)) (IntKind.u64.wrap (bt x0 x4))) (wrap64 (x4 + 1))) else (none)) else (some x3)
def lexiphaneref1_Of.f (k : Nat) (a0 : ByteArray) : Option (Int) := lexiphaneref1_Of.l0 k a0 0 0
theorem lexiphaneref1_Of.mono_l : ∀ k, (∀ y0 y1 y2, LeO (lexiphaneref1_Of.l0 k y0 y1 y2) (lexiphaneref1_Of.l0 (k + 1) y0 y1 y2))
  | 0 => fun _ _ _ r h => by simp [lexiphaneref1_Of.l0] at h
  | k + 1 => by
    have ih0 := lexiphaneref1_Of.mono_l k
    · intro y0 y1 y2
      unfold lexiphaneref1_Of.l0
      repeat' first
      | (with_reducible exact ih0 _ _ _)
      | (with_reducible exact LeO.refl _)
      | (with_reducible exact LeO.none _)
      | (with_reducible refine LeO.ite ?_ ?_)
      | (with_reducible refine LeO.bind ?_ (fun _ => ?_))
      | exact ih0 _ _ _
      | exact LeO.none _
      | refine LeO.ite ?_ ?_
      | refine LeO.bind ?_ (fun _ => ?_)
theorem lexiphaneref1_Of.mono : ∀ a0 k, LeO (lexiphaneref1_Of.f k a0) (lexiphaneref1_Of.f (k + 1) a0) := by
  intro a0 k
  have ih0 := lexiphaneref1_Of.mono_l k
  unfold lexiphaneref1_Of.f
  repeat' first
      | (with_reducible exact ih0 _ _ _)
      | (with_reducible exact LeO.refl _)
      | (with_reducible exact LeO.none _)
      | (with_reducible refine LeO.ite ?_ ?_)
      | (with_reducible refine LeO.bind ?_ (fun _ => ?_))
      | exact ih0 _ _ _
      | exact LeO.none _
      | refine LeO.ite ?_ ?_
      | refine LeO.bind ?_ (fun _ => ?_)
set_option maxHeartbeats 8000000 in
set_option maxRecDepth 100000 in
theorem lexiphaneref1_Of.calls (k : Nat) (a0 : ByteArray) (r : Int) (w : World) (h : lexiphaneref1_Of.f k a0 = some r) :
    Calls Tryz.prog 65 #[.string a0] w fun e w' => e = .returned (.int .u64 r) ∧ Drawn0 w w' := by
  have H : (lexiphaneref1_Of.l0 k a0 0 0) = some r := h
  clear h
  have H' := Aside0.mk H
  clear H
  go_enter Tryz.func65, Tryz.ntmps65
  go_wp2
  go_loopg [3, 4] k (fun kq v3 v4 w' => ∃ (x3_1 : Int) (x4_1 : Int), v3 = .int .u64 x3_1 ∧ v4 = .int .i64 x4_1 ∧ Aside0 (lexiphaneref1_Of.l0 kq a0 x3_1 x4_1 = some r) ∧ Aside0 (kq ≤ k) ∧ Drawn0 w w')
  case atStart => exact ⟨(0), (0), (by first | rfl | (simp; done) | (simp [*]; done)), (by first | rfl | (simp; done) | (simp [*]; done)), H', ⟨Nat.le_refl _⟩, by repeat (first | exact Drawn0.refl _ | apply Drawn0.step)⟩
  case round =>
    clear H'
    obtain ⟨x3_1, x4_1, rfl, rfl, HA, HK1, ⟨m1, rfl⟩⟩ := hrel
    cases gk with
    | zero => exact absurd HA.out (by simp [lexiphaneref1_Of.l0])
    | succ k1 =>
      have H := HA.out
      clear HA
      simp only [lexiphaneref1_Of.l0] at H
      by_cases c2 : x4_1 < (a0.size : Int)
      · rw [if_pos c2] at H
        have c2b0 : decide (x4_1 < (a0.size : Int)) = true := decide_eq_true c2
        clear c2
        by_cases c3 : 0 ≤ x4_1
        · rw [if_pos c3] at H
          have c3b0 : decide (0 ≤ x4_1) = true := decide_eq_true c3
          clear c3
          have H' := Aside0.mk H
          clear H
          have p4 : 0 ≤ (x4_1 : Int) := of_decide_eq_true (by first | (with_reducible assumption) | assumption)
          have q4 : x4_1 < (a0.size : Int) := of_decide_eq_true (by first | (with_reducible assumption) | assumption)
          have hx4 := bt_at a0 x4_1
          replace p4 := eq_true p4
          replace q4 := eq_true q4
          go_wp2
          go_roundg k1
          case measure => have := HK1.out; omega
          case rel => exact ⟨(Go.bits .or .u64 (IntKind.u64.wrap (x3_1 * 256)) (IntKind.u64.wrap (bt a0 x4_1))), (wrap64 (x4_1 + 1)), (by first | rfl | (simp; done) | (simp [*]; done)), (by first | rfl | (simp; done) | (simp [*]; done)), H', ⟨by have := HK1.out; omega⟩, by repeat (first | exact Drawn0.refl _ | apply Drawn0.step)⟩
        · rw [if_neg c3] at H
          exact absurd H (by simp)
      · rw [if_neg c2] at H
        have c2b0 : decide (x4_1 < (a0.size : Int)) = false := decide_eq_false c2
        clear c2
        obtain rfl := Option.some.inj H
        go_wp2
        go_ret
        exact ⟨by first | rfl | (simp; done) | (simp [*]; done), by repeat (first | exact Drawn0.refl _ | apply Drawn0.step)⟩
def lexiphaneref1_Fnv.l0 : Nat → ByteArray → Int → Int → Option (Int)
  | 0, _, _, _ => none
  | k + 1, x0, x3, x4 => if x4 < (x0.size : Int) then (if 0 ≤ x4 then (lexiphaneref1_Fnv.l0 k x0 (IntKind.u64.wrap ((Go.bits .xor .u64 x3 (IntKind.u64.wrap (bt x0 x4))) * 1099511628211)) (wrap64 (x4 + 1))) else (none)) else (some x3)
def lexiphaneref1_Fnv.f (k : Nat) (a0 : ByteArray) : Option (Int) := lexiphaneref1_Fnv.l0 k a0 14695981039346656037 0
theorem lexiphaneref1_Fnv.mono_l : ∀ k, (∀ y0 y1 y2, LeO (lexiphaneref1_Fnv.l0 k y0 y1 y2) (lexiphaneref1_Fnv.l0 (k + 1) y0 y1 y2))
  | 0 => fun _ _ _ r h => by simp [lexiphaneref1_Fnv.l0] at h
  | k + 1 => by
    have ih0 := lexiphaneref1_Fnv.mono_l k
    · intro y0 y1 y2
      unfold lexiphaneref1_Fnv.l0
      repeat' first
      | (with_reducible exact ih0 _ _ _)
      | (with_reducible exact LeO.refl _)
      | (with_reducible exact LeO.none _)
      | (with_reducible refine LeO.ite ?_ ?_)
      | (with_reducible refine LeO.bind ?_ (fun _ => ?_))
      | exact ih0 _ _ _
      | exact LeO.none _
      | refine LeO.ite ?_ ?_
      | refine LeO.bind ?_ (fun _ => ?_)
theorem lexiphaneref1_Fnv.mono : ∀ a0 k, LeO (lexiphaneref1_Fnv.f k a0) (lexiphaneref1_Fnv.f (k + 1) a0) := by
  intro a0 k
  have ih0 := lexiphaneref1_Fnv.mono_l k
  unfold lexiphaneref1_Fnv.f
  repeat' first
      | (with_reducible exact ih0 _ _ _)
      | (with_reducible exact LeO.refl _)
      | (with_reducible exact LeO.none _)
      | (with_reducible refine LeO.ite ?_ ?_)
      | (with_reducible refine LeO.bind ?_ (fun _ => ?_))
      | exact ih0 _ _ _
      | exact LeO.none _
      | refine LeO.ite ?_ ?_
      | refine LeO.bind ?_ (fun _ => ?_)
set_option maxHeartbeats 8000000 in
set_option maxRecDepth 100000 in
theorem lexiphaneref1_Fnv.calls (k : Nat) (a0 : ByteArray) (r : Int) (w : World) (h : lexiphaneref1_Fnv.f k a0 = some r) :
    Calls Tryz.prog 45 #[.string a0] w fun e w' => e = .returned (.int .u64 r) ∧ Drawn0 w w' := by
  have H : (lexiphaneref1_Fnv.l0 k a0 14695981039346656037 0) = some r := h
  clear h
  have H' := Aside0.mk H
  clear H
  go_enter Tryz.func45, Tryz.ntmps45
  go_wp2
  go_loopg [3, 4] k (fun kq v3 v4 w' => ∃ (x3_1 : Int) (x4_1 : Int), v3 = .int .u64 x3_1 ∧ v4 = .int .i64 x4_1 ∧ Aside0 (lexiphaneref1_Fnv.l0 kq a0 x3_1 x4_1 = some r) ∧ Aside0 (kq ≤ k) ∧ Drawn0 w w')
  case atStart => exact ⟨(14695981039346656037), (0), (by first | rfl | (simp; done) | (simp [*]; done)), (by first | rfl | (simp; done) | (simp [*]; done)), H', ⟨Nat.le_refl _⟩, by repeat (first | exact Drawn0.refl _ | apply Drawn0.step)⟩
  case round =>
    clear H'
    obtain ⟨x3_1, x4_1, rfl, rfl, HA, HK1, ⟨m1, rfl⟩⟩ := hrel
    cases gk with
    | zero => exact absurd HA.out (by simp [lexiphaneref1_Fnv.l0])
    | succ k1 =>
      have H := HA.out
      clear HA
      simp only [lexiphaneref1_Fnv.l0] at H
      by_cases c2 : x4_1 < (a0.size : Int)
      · rw [if_pos c2] at H
        have c2b0 : decide (x4_1 < (a0.size : Int)) = true := decide_eq_true c2
        clear c2
        by_cases c3 : 0 ≤ x4_1
        · rw [if_pos c3] at H
          have c3b0 : decide (0 ≤ x4_1) = true := decide_eq_true c3
          clear c3
          have H' := Aside0.mk H
          clear H
          have p4 : 0 ≤ (x4_1 : Int) := of_decide_eq_true (by first | (with_reducible assumption) | assumption)
          have q4 : x4_1 < (a0.size : Int) := of_decide_eq_true (by first | (with_reducible assumption) | assumption)
          have hx4 := bt_at a0 x4_1
          replace p4 := eq_true p4
          replace q4 := eq_true q4
          go_wp2
          go_roundg k1
          case measure => have := HK1.out; omega
          case rel => exact ⟨(IntKind.u64.wrap ((Go.bits .xor .u64 x3_1 (IntKind.u64.wrap (bt a0 x4_1))) * 1099511628211)), (wrap64 (x4_1 + 1)), (by first | rfl | (simp; done) | (simp [*]; done)), (by first | rfl | (simp; done) | (simp [*]; done)), H', ⟨by have := HK1.out; omega⟩, by repeat (first | exact Drawn0.refl _ | apply Drawn0.step)⟩
        · rw [if_neg c3] at H
          exact absurd H (by simp)
      · rw [if_neg c2] at H
        have c2b0 : decide (x4_1 < (a0.size : Int)) = false := decide_eq_false c2
        clear c2
        obtain rfl := Option.some.inj H
        go_wp2
        go_ret
        exact ⟨by first | rfl | (simp; done) | (simp [*]; done), by repeat (first | exact Drawn0.refl _ | apply Drawn0.step)⟩
mutual
def lexiphaneref1_Number.j0 : Nat → Int → Bool → Option (ByteArray × Bool)
  | 0, _, _ => none
  | k + 1, x0, x10 => if x10 = true then (some ((⟨#[]⟩ : ByteArray), false)) else (lexiphaneref1_Number.l0 k x0 ([] : List Int))
def lexiphaneref1_Number.l0 : Nat → Int → List Int → Option (ByteArray × Bool)
  | 0, _, _ => none
  | k + 1, x0, x4 => if x0 ≥ 128 then (if x4.length < 140737488355328 then (lexiphaneref1_Number.l0 k (wrap64 (Int.tdiv x0 128)) (x4 ++ [(wrap64 (128 + (Int.tmod x0 128))) % 256])) else (none)) else (if x4.length < 140737488355328 then (some (strOfNums (x4 ++ [(x0) % 256]), true)) else (none))
end
def lexiphaneref1_Number.f (k : Nat) (a0 : Int) : Option (ByteArray × Bool) := if a0 < 0 then (lexiphaneref1_Number.j0 k a0 true) else (lexiphaneref1_Number.j0 k a0 (decide (a0 > 4294967295)))
theorem lexiphaneref1_Number.mono_l : ∀ k, (∀ y0 y1, LeO (lexiphaneref1_Number.j0 k y0 y1) (lexiphaneref1_Number.j0 (k + 1) y0 y1)) ∧ (∀ y0 y1, LeO (lexiphaneref1_Number.l0 k y0 y1) (lexiphaneref1_Number.l0 (k + 1) y0 y1))
  | 0 => ⟨fun _ _ r h => by simp [lexiphaneref1_Number.j0] at h, fun _ _ r h => by simp [lexiphaneref1_Number.l0] at h⟩
  | k + 1 => by
    obtain ⟨ih0, ih1⟩ := lexiphaneref1_Number.mono_l k
    refine ⟨?_, ?_⟩
    · intro y0 y1
      unfold lexiphaneref1_Number.j0
      repeat' first
      | (with_reducible exact ih0 _ _)
      | (with_reducible exact ih1 _ _)
      | (with_reducible exact LeO.refl _)
      | (with_reducible exact LeO.none _)
      | (with_reducible refine LeO.ite ?_ ?_)
      | (with_reducible refine LeO.bind ?_ (fun _ => ?_))
      | exact ih0 _ _
      | exact ih1 _ _
      | exact LeO.none _
      | refine LeO.ite ?_ ?_
      | refine LeO.bind ?_ (fun _ => ?_)
    · intro y0 y1
      unfold lexiphaneref1_Number.l0
      repeat' first
      | (with_reducible exact ih0 _ _)
      | (with_reducible exact ih1 _ _)
      | (with_reducible exact LeO.refl _)
      | (with_reducible exact LeO.none _)
      | (with_reducible refine LeO.ite ?_ ?_)
      | (with_reducible refine LeO.bind ?_ (fun _ => ?_))
      | exact ih0 _ _
      | exact ih1 _ _
      | exact LeO.none _
      | refine LeO.ite ?_ ?_
      | refine LeO.bind ?_ (fun _ => ?_)
theorem lexiphaneref1_Number.mono : ∀ a0 k, LeO (lexiphaneref1_Number.f k a0) (lexiphaneref1_Number.f (k + 1) a0) := by
  intro a0 k
  obtain ⟨ih0, ih1⟩ := lexiphaneref1_Number.mono_l k
  unfold lexiphaneref1_Number.f
  repeat' first
      | (with_reducible exact ih0 _ _)
      | (with_reducible exact ih1 _ _)
      | (with_reducible exact LeO.refl _)
      | (with_reducible exact LeO.none _)
      | (with_reducible refine LeO.ite ?_ ?_)
      | (with_reducible refine LeO.bind ?_ (fun _ => ?_))
      | exact ih0 _ _
      | exact ih1 _ _
      | exact LeO.none _
      | refine LeO.ite ?_ ?_
      | refine LeO.bind ?_ (fun _ => ?_)
set_option maxHeartbeats 8000000 in
set_option maxRecDepth 100000 in
theorem lexiphaneref1_Number.calls (k : Nat) (a0 : Int) (r1 : ByteArray) (r2 : Bool) (w : World) (h : lexiphaneref1_Number.f k a0 = some (r1, r2)) :
    Calls Tryz.prog 66 #[.int .i64 a0] w fun e w' => e = .returned (.tuple #[.string r1, .bool r2]) ∧ Below w.heap.size w w' := by
  have HB := Aside0.mk (Below.refl w.heap.size w)
  have H : (if a0 < 0 then (lexiphaneref1_Number.j0 k a0 true) else (lexiphaneref1_Number.j0 k a0 (decide (a0 > 4294967295)))) = some (r1, r2) := h
  clear h
  have HC2 := Aside0.mk H
  clear H
  go_enter Tryz.func66, Tryz.ntmps66
  go_upto_region 1 with (fail)
  go_cut [10] (fun v10 wc => ∃ (kq : Nat) (x10_1 : Bool), v10 = .bool x10_1 ∧ Aside0 (lexiphaneref1_Number.j0 kq a0 x10_1 = some (r1, r2)) ∧ Aside0 (kq ≤ k) ∧ Aside0 (Below w.heap.size w wc))
  case first =>
    have H := HC2.out
    clear HC2
    by_cases c3 : a0 < 0
    · rw [if_pos c3] at H
      have c3b0 : decide (a0 < 0) = true := decide_eq_true c3
      clear c3
      (first | rw [c3b0] | (simp only [i64_w, i32_w]; rw [c3b0]) | skip)
      have H' := Aside0.mk H
      clear H
      go_wp2
      go_meet
      case rel => exact ⟨_, (true), (by first | rfl | (simp; done) | (simp [*]; done)), H', ⟨by first | omega | exact Nat.le_refl _⟩, ⟨by repeat (first | (with_reducible first | exact HB.out | apply below_alloc | apply pw_below_drewN | apply below_drew1) | exact HB.out)⟩⟩
    · rw [if_neg c3] at H
      have c3b0 : decide (a0 < 0) = false := decide_eq_false c3
      clear c3
      (first | rw [c3b0] | (simp only [i64_w, i32_w]; rw [c3b0]) | skip)
      have H' := Aside0.mk H
      clear H
      go_wp2
      go_meet
      case rel => exact ⟨_, (decide (a0 > 4294967295)), (by first | rfl | (simp; done) | (simp [*]; done)), H', ⟨by first | omega | exact Nat.le_refl _⟩, ⟨by repeat (first | (with_reducible first | exact HB.out | apply below_alloc | apply pw_below_drewN | apply below_drew1) | exact HB.out)⟩⟩
  case rest =>
    clear HC2
    try clear p2
    try clear c3
    try clear c3b0
    obtain ⟨kq, x10_1, rfl, HA, HJ1, HB⟩ := hcut
    cases kq with
    | zero => exact absurd HA.out (by simp [lexiphaneref1_Number.j0])
    | succ kj1 =>
      have H := HA.out
      clear HA
      simp only [lexiphaneref1_Number.j0] at H
      by_cases c4 : x10_1 = true
      · subst c4
        have H1 : (some ((⟨#[]⟩ : ByteArray), false)) = some (r1, r2) := by rw [if_pos rfl] at H; exact H
        clear H
        have H := H1
        clear H1
        simp only [Option.some.injEq, Prod.mk.injEq] at H
        obtain ⟨rfl, rfl⟩ := H
        go_wp2
        go_ret2
        exact ⟨by first | rfl | (simp [errW_none, errW_some] <;> rfl) | (simp [*, errW_none, errW_some] <;> rfl), by repeat (first | (with_reducible first | exact HB.out | apply below_alloc | apply pw_below_drewN | apply below_drew1) | exact HB.out)⟩
      · replace c4 := Bool.eq_false_iff.mpr c4
        subst c4
        have H1 : (lexiphaneref1_Number.l0 kj1 a0 ([] : List Int)) = some (r1, r2) := by rw [if_neg (show ¬ (false = true) by decide)] at H; exact H
        clear H
        have H := H1
        clear H1
        have H' := Aside0.mk H
        clear H
        go_wp2
        go_loopg [0, 4] kj1 (fun kq v0 v4 w' => ∃ (x0_2 : Int) (x4_2 : List Int), v0 = .int .i64 x0_2 ∧ Aside0 (lexiphaneref1_Number.l0 kq x0_2 x4_2 = some (r1, r2)) ∧ Aside0 (kq ≤ kj1) ∧ Aside0 (Kd.R (Kd.int .u8) 5 w' w.heap.size (fun _ => True) v4 x4_2) ∧ Aside0 (Below w.heap.size w w'))
        case atStart => exact ⟨(a0), (([] : List Int)), (by first | rfl | (simp; done) | (simp [*]; done)), H', ⟨Nat.le_refl _⟩, ⟨by first | exact Kd.R_nil _ _ _ _ _ | exact Kd.N_nil _ _ _ _ _ | exact Kd.V_nil _ _ _ _ _ | exact Kd.Q_nil _ _ _ _ _ | exact Kd.S_nil _ _ _ _ _⟩, ⟨by repeat (first | (with_reducible first | exact HB.out | apply below_alloc | apply pw_below_drewN | apply below_drew1) | exact HB.out)⟩⟩
        case round =>
          clear H'
          try clear p2
          try clear c3
          try clear c3b0
          try clear c4
          try clear p2
          obtain ⟨x0_2, x4_2, rfl, HA, HK2, HO_4, HB⟩ := hrel
          cases gk with
          | zero => exact absurd HA.out (by simp [lexiphaneref1_Number.l0])
          | succ k2 =>
            have H := HA.out
            clear HA
            simp only [lexiphaneref1_Number.l0] at H
            by_cases c5 : x0_2 ≥ 128
            · rw [if_pos c5] at H
              have c5b0 : decide (128 ≤ x0_2) = true := decide_eq_true c5
              clear c5
              by_cases c6 : x4_2.length < 140737488355328
              · rw [if_pos c6] at H
                have LMc6 := Aside0.mk c6
                clear c6
                obtain ⟨y240, hy240⟩ : ∃ y_ : List Int, y_ = (x4_2 ++ [(wrap64 (128 + (Int.tmod x0_2 128))) % 256]) := ⟨_, rfl⟩
                replace H : (lexiphaneref1_Number.l0 k2 (wrap64 (Int.tdiv x0_2 128)) y240) = some (r1, r2) := by first | (rw [hy240]; with_reducible exact H) | (have H2_ := (Option.bind_some _ _).symm.trans H; rw [hy240]; with_reducible exact H2_) | (have H2_ := (Option.bind_some _ _).symm.trans H; with_reducible exact H2_) | with_reducible exact H | (rw [hy240]; exact H) | exact H
                have Ny240 := Aside0.mk hy240
                clear hy240
                have H' := Aside0.mk H
                clear H
                go_wp2_with (first | ((with_reducible refine gate_builtin (b := .append) (xs := #[.tmp 15, .tmp 20]) rfl ?_); at_builtin; refine Kd.R_append (Kd.int .u8) (w0 := w) w.heap.size rfl (.tmp 15) (.tmp 20) 103 5 (.int .u8 0) 1 rfl Tryz.underlying103 info5 rfl (by decide) (by omega) u4 x4_2 ((wrap64 (128 + (Int.tmod x0_2 128))) % 256) [.int .u8 ((wrap64 (128 + (Int.tmod x0_2 128))) % 256)] (fun _ => True) (fun _ => False) rfl rfl ?aP (fun _ hk => hk.elim) ?aF ?aO ?aB ?aS ?aL ?_; (case aP => exact rfl); (case aB => exact (by repeat (first | (with_reducible first | exact HB.out | apply below_alloc | apply pw_below_drewN | apply below_drew1) | exact HB.out))); (case aF => exact (fun _ _ => trivial)); (case aO => exact (by (with_reducible repeat (first | apply Kd.R_alloc | apply Kd.R_drewN | apply Kd.R_drew)); exact HO_4.out)); (case aS => exact (below_size (by repeat (first | (with_reducible first | exact HB.out | apply below_alloc | apply pw_below_drewN | apply below_drew1) | exact HB.out)))); (case aL => have := LMc6.out; omega); intro v241 w7 ho hb hg hat; rw [← Ny240.out] at ho; have n0_ := Aside0.mk (hb); have n1_ := Aside0.mk (ho); clear HB; clear HO_4; have HB := n0_; have HO242 := n1_; clear n0_ n1_; clear ho hb hg hat))
                go_roundg k2
                case measure => have := HJ1.out; have := HK2.out; omega
                case rel => exact ⟨(wrap64 (Int.tdiv x0_2 128)), (y240), (by first | rfl | (simp; done) | (simp [*]; done)), H', ⟨by have := HJ1.out; have := HK2.out; omega⟩, ⟨by (with_reducible repeat (first | apply Kd.R_alloc | apply Kd.R_drewN | apply Kd.R_drew)); exact HO242.out⟩, ⟨by repeat (first | (with_reducible first | exact HB.out | apply below_alloc | apply pw_below_drewN | apply below_drew1) | exact HB.out)⟩⟩
              · rw [if_neg c6] at H
                exact absurd H (by simp)
            · rw [if_neg c5] at H
              have c5b0 : decide (128 ≤ x0_2) = false := decide_eq_false c5
              clear c5
              by_cases c8 : x4_2.length < 140737488355328
              · rw [if_pos c8] at H
                have LMc8 := Aside0.mk c8
                clear c8
                obtain ⟨y243, hy243⟩ : ∃ y_ : List Int, y_ = (x4_2 ++ [(x0_2) % 256]) := ⟨_, rfl⟩
                replace H : (some (strOfNums y243, true)) = some (r1, r2) := by first | (rw [hy243]; with_reducible exact H) | (have H2_ := (Option.bind_some _ _).symm.trans H; rw [hy243]; with_reducible exact H2_) | (have H2_ := (Option.bind_some _ _).symm.trans H; with_reducible exact H2_) | with_reducible exact H | (rw [hy243]; exact H) | exact H
                have Ny243 := Aside0.mk hy243
                clear hy243
                simp only [Option.some.injEq, Prod.mk.injEq] at H
                obtain ⟨rfl, rfl⟩ := H
                go_wp2_with (first | ((with_reducible refine gate_builtin (b := .append) (xs := #[.tmp 22, .tmp 25]) rfl ?_); at_builtin; refine Kd.R_append (Kd.int .u8) (w0 := w) w.heap.size rfl (.tmp 22) (.tmp 25) 103 5 (.int .u8 0) 1 rfl Tryz.underlying103 info5 rfl (by decide) (by omega) u4 x4_2 ((x0_2) % 256) [.int .u8 ((x0_2) % 256)] (fun _ => True) (fun _ => False) rfl rfl ?aP (fun _ hk => hk.elim) ?aF ?aO ?aB ?aS ?aL ?_; (case aP => exact rfl); (case aB => exact (by repeat (first | (with_reducible first | exact HB.out | apply below_alloc | apply pw_below_drewN | apply below_drew1) | exact HB.out))); (case aF => exact (fun _ _ => trivial)); (case aO => exact (by (with_reducible repeat (first | apply Kd.R_alloc | apply Kd.R_drewN | apply Kd.R_drew)); exact HO_4.out)); (case aS => exact (below_size (by repeat (first | (with_reducible first | exact HB.out | apply below_alloc | apply pw_below_drewN | apply below_drew1) | exact HB.out)))); (case aL => have := LMc8.out; omega); intro v244 w9 ho hb hg hat; rw [← Ny243.out] at ho; have n0_ := Aside0.mk (hb); have n1_ := Aside0.mk (ho); clear HB; clear HO_4; have HB := n0_; have HO245 := n1_; clear n0_ n1_; clear ho hb hg hat; have hcv10 := own_string (P := Tryz.prog) Tryz.underlying103 Tryz.underlying5 Tryz.underlying9 (Kd.own_of_R HO245.out)))
                go_ret2
                exact ⟨by first | rfl | (simp [errW_none, errW_some] <;> rfl) | (simp [*, errW_none, errW_some] <;> rfl), by repeat (first | (with_reducible first | exact HB.out | apply below_alloc | apply pw_below_drewN | apply below_drew1) | exact HB.out)⟩
              · rw [if_neg c8] at H
                exact absurd H (by simp)
def lexiphaneref1_Bytes.l0 : Nat → List ByteArray → ByteArray → Int → Option (ByteArray)
  | 0, _, _, _ => none
  | k + 1, x0, x3, x5 => if x5 < (x0.length : Int) then (if 0 ≤ x5 then ((lexiphaneref1_Number.f k ((rdOf ByteArray.empty x0 x5).size : Int)).bind fun bt249 => (if x3.size + bt249.1.size ≤ 9223372036854775807 then (if (x3 ++ bt249.1).size + (rdOf ByteArray.empty x0 x5).size ≤ 9223372036854775807 then (lexiphaneref1_Bytes.l0 k x0 ((x3 ++ bt249.1) ++ (rdOf ByteArray.empty x0 x5)) (wrap64 (x5 + 1))) else (none)) else (none))) else (none)) else (some x3)
def lexiphaneref1_Bytes.f (k : Nat) (l0 : List ByteArray) : Option (ByteArray) := (lexiphaneref1_Number.f k (l0.length : Int)).bind fun bt246 => (lexiphaneref1_Bytes.l0 k l0 bt246.1 0)
theorem lexiphaneref1_Bytes.mono_l : ∀ k, (∀ y0 y1 y2, LeO (lexiphaneref1_Bytes.l0 k y0 y1 y2) (lexiphaneref1_Bytes.l0 (k + 1) y0 y1 y2))
  | 0 => fun _ _ _ r h => by simp [lexiphaneref1_Bytes.l0] at h
  | k + 1 => by
    have ih0 := lexiphaneref1_Bytes.mono_l k
    · intro y0 y1 y2
      unfold lexiphaneref1_Bytes.l0
      repeat' first
      | (with_reducible exact ih0 _ _ _)
      | (with_reducible exact lexiphaneref1_Number.mono _ _)
      | (with_reducible exact LeO.refl _)
      | (with_reducible exact LeO.none _)
      | (with_reducible refine LeO.ite ?_ ?_)
      | (with_reducible refine LeO.bind ?_ (fun _ => ?_))
      | exact ih0 _ _ _
      | exact lexiphaneref1_Number.mono _ _
      | exact LeO.none _
      | refine LeO.ite ?_ ?_
      | refine LeO.bind ?_ (fun _ => ?_)
theorem lexiphaneref1_Bytes.mono : ∀ a0 k, LeO (lexiphaneref1_Bytes.f k a0) (lexiphaneref1_Bytes.f (k + 1) a0) := by
  intro a0 k
  have ih0 := lexiphaneref1_Bytes.mono_l k
  unfold lexiphaneref1_Bytes.f
  repeat' first
      | (with_reducible exact ih0 _ _ _)
      | (with_reducible exact lexiphaneref1_Number.mono _ _)
      | (with_reducible exact LeO.refl _)
      | (with_reducible exact LeO.none _)
      | (with_reducible refine LeO.ite ?_ ?_)
      | (with_reducible refine LeO.bind ?_ (fun _ => ?_))
      | exact ih0 _ _ _
      | exact lexiphaneref1_Number.mono _ _
      | exact LeO.none _
      | refine LeO.ite ?_ ?_
      | refine LeO.bind ?_ (fun _ => ?_)
set_option maxHeartbeats 8000000 in
set_option maxRecDepth 100000 in
theorem lexiphaneref1_Bytes.calls (k : Nat) (A0 : Option Addr) (c0 : Nat) (l0 : List ByteArray) (r : ByteArray) (w : World) (hr0 : Kd.C Kd.string w A0 l0.length l0) (hc0 : l0.length ≤ c0) (h : lexiphaneref1_Bytes.f k l0 = some r) :
    Calls Tryz.prog 46 #[.slice A0 l0.length c0] w fun e w' => e = .returned (.string r) ∧ Below w.heap.size w w' := by
  have HR0 := Aside0.mk hr0
  have HC0 := Aside0.mk hc0
  clear hr0 hc0
  have HB := Aside0.mk (Below.refl w.heap.size w)
  have H : ((lexiphaneref1_Number.f k (l0.length : Int)).bind fun bt246 => (lexiphaneref1_Bytes.l0 k l0 bt246.1 0)) = some r := h
  clear h
  replace H := Option.bind_eq_some_iff.mp H
  obtain ⟨⟨t246, t247⟩, A20, H⟩ := H
  replace H : (lexiphaneref1_Bytes.l0 k l0 t246 0) = some r := H
  have A2 := Aside0.mk A20
  clear A20
  have H' := Aside0.mk H
  clear H
  go_enter Tryz.func46, Tryz.ntmps46
  go_wp2_with (first | ((with_reducible refine gate_callee (f := 66) rfl ?_); refine goesL_ (some 11) rfl rfl Tryz.func66 (by kernel_rfl) rfl #[.int .i64 (l0.length : Int)] rfl (by (try simp only [List.map_toArray, List.map_cons, List.map_nil]); first | done | rfl | (simp only [List.length_drop, List.length_take]; rfl)) ?_; (with_reducible refine (lexiphaneref1_Number.calls k (l0.length : Int) t246 t247 _ A2.out).mono ?_); rintro e w3 ⟨rfl, hb⟩; refine ⟨_, rfl, ?_⟩; have n0_ := Aside0.mk (below_step (by repeat (first | (with_reducible first | exact HB.out | apply below_alloc | apply pw_below_drewN | apply below_drew1) | exact HB.out)) hb); clear HB; have HB := n0_; clear n0_; (try clear hb); (try clear hb2); (try clear hk); (try clear hi)))
  go_loopg [3, 5] k (fun kq v3 v5 w' => ∃ (x3_1 : ByteArray) (x5_1 : Int), v3 = .string x3_1 ∧ v5 = .int .i64 x5_1 ∧ Aside0 (lexiphaneref1_Bytes.l0 kq l0 x3_1 x5_1 = some r) ∧ Aside0 (kq ≤ k) ∧ Aside0 (Below w.heap.size w w'))
  case atStart => exact ⟨(t246), (0), (by first | rfl | (simp; done) | (simp [*]; done)), (by first | rfl | (simp; done) | (simp [*]; done)), H', ⟨Nat.le_refl _⟩, ⟨by repeat (first | (with_reducible first | exact HB.out | apply below_alloc | apply pw_below_drewN | apply below_drew1) | exact HB.out)⟩⟩
  case round =>
    clear H'
    try clear p2
    obtain ⟨x3_1, x5_1, rfl, rfl, HA, HK1, HB⟩ := hrel
    cases gk with
    | zero => exact absurd HA.out (by simp [lexiphaneref1_Bytes.l0])
    | succ k1 =>
      have H := HA.out
      clear HA
      simp only [lexiphaneref1_Bytes.l0] at H
      by_cases c4 : x5_1 < (l0.length : Int)
      · rw [if_pos c4] at H
        have c4b0 : decide (x5_1 < (l0.length : Int)) = true := decide_eq_true c4
        clear c4
        by_cases c5 : 0 ≤ x5_1
        · rw [if_pos c5] at H
          have c5b0 : decide (0 ≤ x5_1) = true := decide_eq_true c5
          clear c5
          replace H := Option.bind_eq_some_iff.mp H
          obtain ⟨⟨t249, t250⟩, A60, H⟩ := H
          replace H : (if x3_1.size + t249.size ≤ 9223372036854775807 then (if (x3_1 ++ t249).size + (rdOf ByteArray.empty l0 x5_1).size ≤ 9223372036854775807 then (lexiphaneref1_Bytes.l0 k1 l0 ((x3_1 ++ t249) ++ (rdOf ByteArray.empty l0 x5_1)) (wrap64 (x5_1 + 1))) else (none)) else (none)) = some r := H
          have A6 := Aside0.mk A60
          clear A60
          by_cases c7 : x3_1.size + t249.size ≤ 9223372036854775807
          · rw [if_pos c7] at H
            have c7b0 := eq_true c7
            have c7b1 : decide (x3_1.size + t249.size ≤ 9223372036854775807) = true := decide_eq_true c7
            try have c7b2 : (9223372036854775807 < x3_1.size + t249.size) = False := eq_false (Nat.not_lt.2 c7)
            by_cases c8 : (x3_1 ++ t249).size + (rdOf ByteArray.empty l0 x5_1).size ≤ 9223372036854775807
            · rw [if_pos c8] at H
              have c8b0 := eq_true c8
              have c8b1 : decide ((x3_1 ++ t249).size + (rdOf ByteArray.empty l0 x5_1).size ≤ 9223372036854775807) = true := decide_eq_true c8
              try have c8b2 : (9223372036854775807 < (x3_1 ++ t249).size + (rdOf ByteArray.empty l0 x5_1).size) = False := eq_false (Nat.not_lt.2 c8)
              have H' := Aside0.mk H
              clear H
              have p248 : 0 ≤ (x5_1 : Int) := of_decide_eq_true (by first | (with_reducible assumption) | assumption)
              have q248 : x5_1 < (l0.length : Int) := of_decide_eq_true (by first | (with_reducible assumption) | assumption)
              obtain ⟨ad248, e248, hx248_0⟩ := Kd.at_string HR0.out x5_1 p248 q248
              cases e248
              replace hx248_0 := (HB.out.cell (World.block_lt_of_cell? w _ hx248_0)).trans hx248_0
              replace p248 := eq_true p248
              replace q248 := eq_true q248
              go_wp2_with (first | ((with_reducible refine gate_callee (f := 66) rfl ?_); refine goesL_ (some 26) rfl rfl Tryz.func66 (by kernel_rfl) rfl #[.int .i64 ((rdOf ByteArray.empty l0 x5_1).size : Int)] rfl (by (try simp only [List.map_toArray, List.map_cons, List.map_nil]); first | done | rfl | (simp only [List.length_drop, List.length_take]; rfl)) ?_; (with_reducible refine (lexiphaneref1_Number.calls k1 ((rdOf ByteArray.empty l0 x5_1).size : Int) t249 t250 _ A6.out).mono ?_); rintro e w9 ⟨rfl, hb⟩; refine ⟨_, rfl, ?_⟩; have n0_ := Aside0.mk (below_step (by repeat (first | (with_reducible first | exact HB.out | apply below_alloc | apply pw_below_drewN | apply below_drew1) | exact HB.out)) hb); clear HB; have HB := n0_; clear n0_; (try clear hb); (try clear hb2); (try clear hk); (try clear hi); have p251 : 0 ≤ (x5_1 : Int) := of_decide_eq_true (by first | (with_reducible assumption) | assumption); have q251 : x5_1 < (l0.length : Int) := of_decide_eq_true (by first | (with_reducible assumption) | assumption); obtain ⟨ad251, e251, hx251_0⟩ := Kd.at_string HR0.out x5_1 p251 q251; obtain rfl : ad248 = ad251 := (by injection e251); replace hx251_0 := (HB.out.cell (World.block_lt_of_cell? w _ hx251_0)).trans hx251_0; replace p251 := eq_true p251; replace q251 := eq_true q251))
              go_roundg k1
              case measure => have := HK1.out; omega
              case rel => exact ⟨((x3_1 ++ t249) ++ (rdOf ByteArray.empty l0 x5_1)), (wrap64 (x5_1 + 1)), (by first | rfl | (simp; done) | (simp [*]; done)), (by first | rfl | (simp; done) | (simp [*]; done)), H', ⟨by have := HK1.out; omega⟩, ⟨by repeat (first | (with_reducible first | exact HB.out | apply below_alloc | apply pw_below_drewN | apply below_drew1) | exact HB.out)⟩⟩
            · rw [if_neg c8] at H
              exact absurd H (by simp)
          · rw [if_neg c7] at H
            exact absurd H (by simp)
        · rw [if_neg c5] at H
          exact absurd H (by simp)
      · rw [if_neg c4] at H
        have c4b0 : decide (x5_1 < (l0.length : Int)) = false := decide_eq_false c4
        clear c4
        obtain rfl := Option.some.inj H
        go_wp2
        go_ret
        exact ⟨by first | rfl | (simp [errW_none, errW_some] <;> rfl) | (simp [*, errW_none, errW_some] <;> rfl), by repeat (first | (with_reducible first | exact HB.out | apply below_alloc | apply pw_below_drewN | apply below_drew1) | exact HB.out)⟩
def lexiphaneref1_fits.f (a0 : Int) (a1 : Int) (a2 : Int) (a3 : Int) : Option (Bool) := if a1 ≥ 1 then (if a1 ≤ a3 then (if a2 ≥ 1 then (if a0 = 1 then (if a2 = a1 then (some true) else (if a0 = 2 then (some (decide (a2 < a1))) else (some false))) else (if a0 = 2 then (some (decide (a2 < a1))) else (some false))) else (some false)) else (some false)) else (some false)
set_option maxHeartbeats 8000000 in
set_option maxRecDepth 100000 in
theorem lexiphaneref1_fits.calls (a0 : Int) (a1 : Int) (a2 : Int) (a3 : Int) (r : Bool) (w : World) (h : lexiphaneref1_fits.f a0 a1 a2 a3 = some r) :
    Calls Tryz.prog 43 #[.int .i64 a0, .int .i64 a1, .int .i64 a2, .int .i64 a3] w fun e w' => e = .returned (.bool r) ∧ Drawn0 w w' := by
  have H : (if a1 ≥ 1 then (if a1 ≤ a3 then (if a2 ≥ 1 then (if a0 = 1 then (if a2 = a1 then (some true) else (if a0 = 2 then (some (decide (a2 < a1))) else (some false))) else (if a0 = 2 then (some (decide (a2 < a1))) else (some false))) else (some false)) else (some false)) else (some false)) = some r := h
  clear h
  by_cases c5 : a1 ≥ 1
  · rw [if_pos c5] at H
    have c5b0 : decide (1 ≤ a1) = true := decide_eq_true c5
    clear c5
    by_cases c6 : a1 ≤ a3
    · rw [if_pos c6] at H
      have c6b0 : decide (a1 ≤ a3) = true := decide_eq_true c6
      clear c6
      by_cases c7 : a2 ≥ 1
      · rw [if_pos c7] at H
        have c7b0 : decide (1 ≤ a2) = true := decide_eq_true c7
        clear c7
        by_cases c8 : a0 = 1
        · rw [if_pos c8] at H
          have c8b0 : (a0 == 1) = true := beq_iff_eq.mpr c8
          have c8b1 : (a0 != 1) = false := bne_eq_false_iff_eq.mpr c8
          clear c8
          by_cases c9 : a2 = a1
          · rw [if_pos c9] at H
            have c9b0 : (a2 == a1) = true := beq_iff_eq.mpr c9
            have c9b1 : (a2 != a1) = false := bne_eq_false_iff_eq.mpr c9
            clear c9
            obtain rfl := Option.some.inj H
            go_enter Tryz.func43, Tryz.ntmps43
            go_wp2
            go_ret
            exact ⟨by first | rfl | (simp; done) | (simp [*]; done), by repeat (first | exact Drawn0.refl _ | apply Drawn0.step)⟩
          · rw [if_neg c9] at H
            have c9b0 : (a2 == a1) = false := beq_eq_false_iff_ne.mpr c9
            have c9b1 : (a2 != a1) = true := bne_iff_ne.mpr c9
            by_cases c10 : a0 = 2
            · rw [if_pos c10] at H
              have c10b0 : (a0 == 2) = true := beq_iff_eq.mpr c10
              have c10b1 : (a0 != 2) = false := bne_eq_false_iff_eq.mpr c10
              clear c10
              obtain rfl := Option.some.inj H
              go_enter Tryz.func43, Tryz.ntmps43
              go_wp2
              go_ret
              exact ⟨by first | rfl | (simp; done) | (simp [*]; done), by repeat (first | exact Drawn0.refl _ | apply Drawn0.step)⟩
            · rw [if_neg c10] at H
              have c10b0 : (a0 == 2) = false := beq_eq_false_iff_ne.mpr c10
              have c10b1 : (a0 != 2) = true := bne_iff_ne.mpr c10
              obtain rfl := Option.some.inj H
              go_enter Tryz.func43, Tryz.ntmps43
              go_wp2
              go_ret
              exact ⟨by first | rfl | (simp; done) | (simp [*]; done), by repeat (first | exact Drawn0.refl _ | apply Drawn0.step)⟩
        · rw [if_neg c8] at H
          have c8b0 : (a0 == 1) = false := beq_eq_false_iff_ne.mpr c8
          have c8b1 : (a0 != 1) = true := bne_iff_ne.mpr c8
          by_cases c11 : a0 = 2
          · rw [if_pos c11] at H
            have c11b0 : (a0 == 2) = true := beq_iff_eq.mpr c11
            have c11b1 : (a0 != 2) = false := bne_eq_false_iff_eq.mpr c11
            clear c11
            obtain rfl := Option.some.inj H
            go_enter Tryz.func43, Tryz.ntmps43
            go_wp2
            go_ret
            exact ⟨by first | rfl | (simp; done) | (simp [*]; done), by repeat (first | exact Drawn0.refl _ | apply Drawn0.step)⟩
          · rw [if_neg c11] at H
            have c11b0 : (a0 == 2) = false := beq_eq_false_iff_ne.mpr c11
            have c11b1 : (a0 != 2) = true := bne_iff_ne.mpr c11
            obtain rfl := Option.some.inj H
            go_enter Tryz.func43, Tryz.ntmps43
            go_wp2
            go_ret
            exact ⟨by first | rfl | (simp; done) | (simp [*]; done), by repeat (first | exact Drawn0.refl _ | apply Drawn0.step)⟩
      · rw [if_neg c7] at H
        have c7b0 : decide (1 ≤ a2) = false := decide_eq_false c7
        clear c7
        obtain rfl := Option.some.inj H
        go_enter Tryz.func43, Tryz.ntmps43
        go_wp2
        go_ret
        exact ⟨by first | rfl | (simp; done) | (simp [*]; done), by repeat (first | exact Drawn0.refl _ | apply Drawn0.step)⟩
    · rw [if_neg c6] at H
      have c6b0 : decide (a1 ≤ a3) = false := decide_eq_false c6
      clear c6
      obtain rfl := Option.some.inj H
      go_enter Tryz.func43, Tryz.ntmps43
      go_wp2
      go_ret
      exact ⟨by first | rfl | (simp; done) | (simp [*]; done), by repeat (first | exact Drawn0.refl _ | apply Drawn0.step)⟩
  · rw [if_neg c5] at H
    have c5b0 : decide (1 ≤ a1) = false := decide_eq_false c5
    clear c5
    obtain rfl := Option.some.inj H
    go_enter Tryz.func43, Tryz.ntmps43
    go_wp2
    go_ret
    exact ⟨by first | rfl | (simp; done) | (simp [*]; done), by repeat (first | exact Drawn0.refl _ | apply Drawn0.step)⟩
end Go.Proofs.YtdpkgjahcapleaaGreat.Leaf
