/- Words and leaf functions of the program (lines of the kit's print, gathered): each Go function comes to what the Lean function computes. -/
import Derived.Test.YtboklkfplnmabaaGreatLeaf2
set_option linter.unusedVariables false
set_option linter.unusedSimpArgs false
namespace Go.Proofs.YtboklkfplnmabaaGreat.Leaf
open Go.RowKit Go.Proofs.YtboklkfplnmabaaGreatW.PrintWords Go.Proofs.YtboklkfplnmabaaGreatW.PrintLast Go.Proofs.YtboklkfplnmabaaGreatW.PrintMore
attribute [local go_sem] max2_int min2_int max_two min_two max_three min_three max_four min_four
theorem wr_sum (p q : Nat) (h : p + q ≤ 9223372036854775807) : wrap64 ((p : Int) + (q : Int)) = (p : Int) + (q : Int) := by unfold wrap64; omega
/-! ### vari_Get: function 124 -/
mutual
def vari_Get.l0 : Nat → ByteArray → Int → Int → Option (Int × Int × Int)
  | 0, _, _, _ => none
  | k + 1, x0, x5, x6 => if x6 = (x0.size : Int) then (some (0, 0, 2)) else (if x6 = 4 then (if 0 ≤ x6 then (if x6 < (x0.size : Int) then (vari_Get.j1 k x0 x5 x6 (decide ((bt x0 x6) > 15))) else (none)) else (none)) else (vari_Get.j1 k x0 x5 x6 false))
def vari_Get.j1 : Nat → ByteArray → Int → Int → Bool → Option (Int × Int × Int)
  | 0, _, _, _, _ => none
  | k + 1, x0, x5, x6, x14 => if x14 = true then (some (0, 0, 4)) else (if x6 > 0 then (if 0 ≤ x6 then (if x6 < (x0.size : Int) then (vari_Get.j2 k x0 x5 x6 ((bt x0 x6) == 0)) else (none)) else (none)) else (vari_Get.j2 k x0 x5 x6 false))
def vari_Get.j2 : Nat → ByteArray → Int → Int → Bool → Option (Int × Int × Int)
  | 0, _, _, _, _ => none
  | k + 1, x0, x5, x6, x23 => if x23 = true then (some (0, 0, 3)) else (if 0 ≤ x6 then (if x6 < (x0.size : Int) then (if 0 ≤ (wrap64 (7 * x6)) then (if (bt x0 x6) < 128 then (some (Go.bits .or .i64 x5 (shl .i64 (wrap64 (Int.tmod (bt x0 x6) 128)) (wrap64 (7 * x6))), wrap64 (x6 + 1), 0)) else (vari_Get.l0 k x0 (Go.bits .or .i64 x5 (shl .i64 (wrap64 (Int.tmod (bt x0 x6) 128)) (wrap64 (7 * x6)))) (wrap64 (x6 + 1)))) else (none)) else (none)) else (none))
end
def vari_Get.f (k : Nat) (a0 : ByteArray) : Option (Int × Int × Int) := vari_Get.l0 k a0 0 0
theorem vari_Get.mono_l : ∀ k, (∀ y0 y1 y2, LeO (vari_Get.l0 k y0 y1 y2) (vari_Get.l0 (k + 1) y0 y1 y2)) ∧ (∀ y0 y1 y2 y3, LeO (vari_Get.j1 k y0 y1 y2 y3) (vari_Get.j1 (k + 1) y0 y1 y2 y3)) ∧ (∀ y0 y1 y2 y3, LeO (vari_Get.j2 k y0 y1 y2 y3) (vari_Get.j2 (k + 1) y0 y1 y2 y3))
  | 0 => ⟨fun _ _ _ r h => by simp [vari_Get.l0] at h, fun _ _ _ _ r h => by simp [vari_Get.j1] at h, fun _ _ _ _ r h => by simp [vari_Get.j2] at h⟩
  | k + 1 => by
    obtain ⟨ih0, ih1, ih2⟩ := vari_Get.mono_l k
    refine ⟨?_, ?_, ?_⟩
    · intro y0 y1 y2
      unfold vari_Get.l0
      repeat' first
      | (with_reducible exact ih0 _ _ _)
      | (with_reducible exact ih1 _ _ _ _)
      | (with_reducible exact ih2 _ _ _ _)
      | (with_reducible exact LeO.refl _)
      | (with_reducible exact LeO.none _)
      | (with_reducible refine LeO.ite ?_ ?_)
      | (with_reducible refine LeO.bind ?_ (fun _ => ?_))
      | exact ih0 _ _ _
      | exact ih1 _ _ _ _
      | exact ih2 _ _ _ _
      | exact LeO.none _
      | refine LeO.ite ?_ ?_
      | refine LeO.bind ?_ (fun _ => ?_)
    · intro y0 y1 y2 y3
      unfold vari_Get.j1
      repeat' first
      | (with_reducible exact ih0 _ _ _)
      | (with_reducible exact ih1 _ _ _ _)
      | (with_reducible exact ih2 _ _ _ _)
      | (with_reducible exact LeO.refl _)
      | (with_reducible exact LeO.none _)
      | (with_reducible refine LeO.ite ?_ ?_)
      | (with_reducible refine LeO.bind ?_ (fun _ => ?_))
      | exact ih0 _ _ _
      | exact ih1 _ _ _ _
      | exact ih2 _ _ _ _
      | exact LeO.none _
      | refine LeO.ite ?_ ?_
      | refine LeO.bind ?_ (fun _ => ?_)
    · intro y0 y1 y2 y3
      unfold vari_Get.j2
      repeat' first
      | (with_reducible exact ih0 _ _ _)
      | (with_reducible exact ih1 _ _ _ _)
      | (with_reducible exact ih2 _ _ _ _)
      | (with_reducible exact LeO.refl _)
      | (with_reducible exact LeO.none _)
      | (with_reducible refine LeO.ite ?_ ?_)
      | (with_reducible refine LeO.bind ?_ (fun _ => ?_))
      | exact ih0 _ _ _
      | exact ih1 _ _ _ _
      | exact ih2 _ _ _ _
      | exact LeO.none _
      | refine LeO.ite ?_ ?_
      | refine LeO.bind ?_ (fun _ => ?_)
theorem vari_Get.mono : ∀ a0 k, LeO (vari_Get.f k a0) (vari_Get.f (k + 1) a0) := by
  intro a0 k
  obtain ⟨ih0, ih1, ih2⟩ := vari_Get.mono_l k
  unfold vari_Get.f
  repeat' first
      | (with_reducible exact ih0 _ _ _)
      | (with_reducible exact ih1 _ _ _ _)
      | (with_reducible exact ih2 _ _ _ _)
      | (with_reducible exact LeO.refl _)
      | (with_reducible exact LeO.none _)
      | (with_reducible refine LeO.ite ?_ ?_)
      | (with_reducible refine LeO.bind ?_ (fun _ => ?_))
      | exact ih0 _ _ _
      | exact ih1 _ _ _ _
      | exact ih2 _ _ _ _
      | exact LeO.none _
      | refine LeO.ite ?_ ?_
      | refine LeO.bind ?_ (fun _ => ?_)
set_option maxHeartbeats 8000000 in
set_option maxRecDepth 100000 in
theorem vari_Get.calls (k : Nat) (a0 : ByteArray) (r1 : Int) (r2 : Int) (r3 : Int) (w : World) (h : vari_Get.f k a0 = some (r1, r2, r3)) :
    Calls Tryz.prog 124 #[.string a0] w fun e w' => e = .returned (.tuple #[.int .i64 r1, .int .i64 r2, .int .i64 r3]) ∧ Drawn0 w w' := by
  have H : (vari_Get.l0 k a0 0 0) = some (r1, r2, r3) := h
  clear h
  have H' := Aside0.mk H
  clear H
  go_enter Tryz.func124, Tryz.ntmps124
  go_wp2
  go_loopg [5, 6] k (fun kq v5 v6 w' => ∃ (x5_1 : Int) (x6_1 : Int), v5 = .int .i64 x5_1 ∧ v6 = .int .i64 x6_1 ∧ Aside0 (vari_Get.l0 kq a0 x5_1 x6_1 = some (r1, r2, r3)) ∧ Aside0 (kq ≤ k) ∧ Drawn0 w w')
  case atStart => exact ⟨(0), (0), (by first | rfl | (simp; done) | (simp [*]; done)), (by first | rfl | (simp; done) | (simp [*]; done)), H', ⟨Nat.le_refl _⟩, by repeat (first | exact Drawn0.refl _ | apply Drawn0.step)⟩
  case round =>
    clear H'
    try clear c1
    obtain ⟨x5_1, x6_1, rfl, rfl, HA, HK1, ⟨m1, rfl⟩⟩ := hrel
    cases gk with
    | zero => exact absurd HA.out (by simp [vari_Get.l0])
    | succ k1 =>
      have H := HA.out
      clear HA
      simp only [vari_Get.l0] at H
      by_cases c2 : x6_1 = (a0.size : Int)
      · rw [if_pos c2] at H
        have c2b0 : (x6_1 == (a0.size : Int)) = true := beq_iff_eq.mpr c2
        have c2b1 : (x6_1 != (a0.size : Int)) = false := bne_eq_false_iff_eq.mpr c2
        clear c2
        simp only [Option.some.injEq, Prod.mk.injEq] at H
        obtain ⟨rfl, rfl, rfl⟩ := H
        go_wp2
        go_ret3
        exact ⟨by first | rfl | (simp; done) | (simp [*]; done), by repeat (first | exact Drawn0.refl _ | apply Drawn0.step)⟩
      · rw [if_neg c2] at H
        have c2b0 : (x6_1 == (a0.size : Int)) = false := beq_eq_false_iff_ne.mpr c2
        have c2b1 : (x6_1 != (a0.size : Int)) = true := bne_iff_ne.mpr c2
        have HC3 := Aside0.mk H
        clear H
        go_upto_region 6 with (fail)
        go_cut [14] (fun v14 wc => ∃ (kq : Nat) (x14_2 : Bool), v14 = .bool x14_2 ∧ Aside0 (vari_Get.j1 kq a0 x5_1 x6_1 x14_2 = some (r1, r2, r3)) ∧ Aside0 (kq ≤ k1) ∧ Drawn0 w wc)
        case first =>
          have H := HC3.out
          clear HC3
          by_cases c4 : x6_1 = 4
          · rw [if_pos c4] at H
            have c4b0 : (x6_1 == 4) = true := beq_iff_eq.mpr c4
            have c4b1 : (x6_1 != 4) = false := bne_eq_false_iff_eq.mpr c4
            clear c4
            (first | rw [c4b0] | (simp only [i64_w, i32_w]; rw [c4b0]) | skip)
            by_cases c5 : 0 ≤ x6_1
            · rw [if_pos c5] at H
              have c5b0 : decide (0 ≤ x6_1) = true := decide_eq_true c5
              clear c5
              by_cases c6 : x6_1 < (a0.size : Int)
              · rw [if_pos c6] at H
                have c6b0 : decide (x6_1 < (a0.size : Int)) = true := decide_eq_true c6
                clear c6
                have H' := Aside0.mk H
                clear H
                have p7 : 0 ≤ (x6_1 : Int) := of_decide_eq_true (by first | (with_reducible assumption) | assumption)
                have q7 : x6_1 < (a0.size : Int) := of_decide_eq_true (by first | (with_reducible assumption) | assumption)
                have hx7 := bt_at a0 x6_1
                replace p7 := eq_true p7
                replace q7 := eq_true q7
                go_wp2
                go_meet
                case rel => exact ⟨_, (decide ((bt a0 x6_1) > 15)), (by first | rfl | (simp; done) | (simp [*]; done)), H', ⟨by have := HK1.out; first | omega | exact Nat.le_refl _⟩, by repeat (first | exact Drawn0.refl _ | apply Drawn0.step)⟩
              · rw [if_neg c6] at H
                exact absurd H (by simp)
            · rw [if_neg c5] at H
              exact absurd H (by simp)
          · rw [if_neg c4] at H
            have c4b0 : (x6_1 == 4) = false := beq_eq_false_iff_ne.mpr c4
            have c4b1 : (x6_1 != 4) = true := bne_iff_ne.mpr c4
            (first | rw [c4b0] | (simp only [i64_w, i32_w]; rw [c4b0]) | skip)
            have H' := Aside0.mk H
            clear H
            go_wp2
            go_meet
            case rel => exact ⟨_, (false), (by first | rfl | (simp; done) | (simp [*]; done)), H', ⟨by have := HK1.out; first | omega | exact Nat.le_refl _⟩, by repeat (first | exact Drawn0.refl _ | apply Drawn0.step)⟩
        case rest =>
          clear HC3
          try clear c1
          try clear c2
          try clear c2b0
          try clear c2b1
          try clear p2
          try clear c4
          try clear c4b0
          try clear c4b1
          try clear c5
          try clear c5b0
          try clear c6
          try clear c6b0
          try clear p7
          try clear q7
          try clear hx7
          try clear p7
          try clear q7
          obtain ⟨kq, x14_2, rfl, HA, HJ2, ⟨mc2, rfl⟩⟩ := hcut
          cases kq with
          | zero => exact absurd HA.out (by simp [vari_Get.j1])
          | succ kj2 =>
            have H := HA.out
            clear HA
            simp only [vari_Get.j1] at H
            by_cases c8 : x14_2 = true
            · subst c8
              have H1 : (some (0, 0, 4)) = some (r1, r2, r3) := by rw [if_pos rfl] at H; exact H
              clear H
              have H := H1
              clear H1
              simp only [Option.some.injEq, Prod.mk.injEq] at H
              obtain ⟨rfl, rfl, rfl⟩ := H
              go_wp2
              go_ret3
              exact ⟨by first | rfl | (simp; done) | (simp [*]; done), by repeat (first | exact Drawn0.refl _ | apply Drawn0.step)⟩
            · replace c8 := Bool.eq_false_iff.mpr c8
              subst c8
              have H1 : (if x6_1 > 0 then (if 0 ≤ x6_1 then (if x6_1 < (a0.size : Int) then (vari_Get.j2 kj2 a0 x5_1 x6_1 ((bt a0 x6_1) == 0)) else (none)) else (none)) else (vari_Get.j2 kj2 a0 x5_1 x6_1 false)) = some (r1, r2, r3) := by rw [if_neg (show ¬ (false = true) by decide)] at H; exact H
              clear H
              have H := H1
              clear H1
              have HC9 := Aside0.mk H
              clear H
              go_upto_region 8 with (fail)
              go_cut [23] (fun v23 wc => ∃ (kq : Nat) (x23_8 : Bool), v23 = .bool x23_8 ∧ Aside0 (vari_Get.j2 kq a0 x5_1 x6_1 x23_8 = some (r1, r2, r3)) ∧ Aside0 (kq ≤ kj2) ∧ Drawn0 w wc)
              case first =>
                have H := HC9.out
                clear HC9
                by_cases c10 : x6_1 > 0
                · rw [if_pos c10] at H
                  have c10b0 : decide (0 < x6_1) = true := decide_eq_true c10
                  clear c10
                  (first | rw [c10b0] | (simp only [i64_w, i32_w]; rw [c10b0]) | skip)
                  by_cases c11 : 0 ≤ x6_1
                  · rw [if_pos c11] at H
                    have c11b0 : decide (0 ≤ x6_1) = true := decide_eq_true c11
                    clear c11
                    by_cases c12 : x6_1 < (a0.size : Int)
                    · rw [if_pos c12] at H
                      have c12b0 : decide (x6_1 < (a0.size : Int)) = true := decide_eq_true c12
                      clear c12
                      have H' := Aside0.mk H
                      clear H
                      have p13 : 0 ≤ (x6_1 : Int) := of_decide_eq_true (by first | (with_reducible assumption) | assumption)
                      have q13 : x6_1 < (a0.size : Int) := of_decide_eq_true (by first | (with_reducible assumption) | assumption)
                      have hx13 := bt_at a0 x6_1
                      replace p13 := eq_true p13
                      replace q13 := eq_true q13
                      go_wp2
                      go_meet
                      case rel => exact ⟨_, (((bt a0 x6_1) == 0)), (by first | rfl | (simp; done) | (simp [*]; done)), H', ⟨by have := HK1.out; have := HJ2.out; first | omega | exact Nat.le_refl _⟩, by repeat (first | exact Drawn0.refl _ | apply Drawn0.step)⟩
                    · rw [if_neg c12] at H
                      exact absurd H (by simp)
                  · rw [if_neg c11] at H
                    exact absurd H (by simp)
                · rw [if_neg c10] at H
                  have c10b0 : decide (0 < x6_1) = false := decide_eq_false c10
                  clear c10
                  (first | rw [c10b0] | (simp only [i64_w, i32_w]; rw [c10b0]) | skip)
                  have H' := Aside0.mk H
                  clear H
                  go_wp2
                  go_meet
                  case rel => exact ⟨_, (false), (by first | rfl | (simp; done) | (simp [*]; done)), H', ⟨by have := HK1.out; have := HJ2.out; first | omega | exact Nat.le_refl _⟩, by repeat (first | exact Drawn0.refl _ | apply Drawn0.step)⟩
              case rest =>
                clear HC9
                try clear c1
                try clear p1
                try clear q1
                try clear hx1
                try clear c2
                try clear c2b0
                try clear c2b1
                try clear p2
                try clear c4
                try clear c4b0
                try clear c4b1
                try clear c5
                try clear c5b0
                try clear c6
                try clear c6b0
                try clear p7
                try clear q7
                try clear hx7
                try clear c8
                try clear c10
                try clear c10b0
                try clear c11
                try clear c11b0
                try clear c12
                try clear c12b0
                try clear p13
                try clear q13
                try clear hx13
                try clear p13
                try clear p2
                try clear p7
                try clear q13
                try clear q7
                obtain ⟨kq, x23_8, rfl, HA, HJ8, ⟨mc8, rfl⟩⟩ := hcut
                cases kq with
                | zero => exact absurd HA.out (by simp [vari_Get.j2])
                | succ kj8 =>
                  have H := HA.out
                  clear HA
                  simp only [vari_Get.j2] at H
                  by_cases c14 : x23_8 = true
                  · subst c14
                    have H1 : (some (0, 0, 3)) = some (r1, r2, r3) := by rw [if_pos rfl] at H; exact H
                    clear H
                    have H := H1
                    clear H1
                    simp only [Option.some.injEq, Prod.mk.injEq] at H
                    obtain ⟨rfl, rfl, rfl⟩ := H
                    go_wp2
                    go_ret3
                    exact ⟨by first | rfl | (simp; done) | (simp [*]; done), by repeat (first | exact Drawn0.refl _ | apply Drawn0.step)⟩
                  · replace c14 := Bool.eq_false_iff.mpr c14
                    subst c14
                    have H1 : (if 0 ≤ x6_1 then (if x6_1 < (a0.size : Int) then (if 0 ≤ (wrap64 (7 * x6_1)) then (if (bt a0 x6_1) < 128 then (some (Go.bits .or .i64 x5_1 (shl .i64 (wrap64 (Int.tmod (bt a0 x6_1) 128)) (wrap64 (7 * x6_1))), wrap64 (x6_1 + 1), 0)) else (vari_Get.l0 kj8 a0 (Go.bits .or .i64 x5_1 (shl .i64 (wrap64 (Int.tmod (bt a0 x6_1) 128)) (wrap64 (7 * x6_1)))) (wrap64 (x6_1 + 1)))) else (none)) else (none)) else (none)) = some (r1, r2, r3) := by rw [if_neg (show ¬ (false = true) by decide)] at H; exact H
                    clear H
                    have H := H1
                    clear H1
                    by_cases c15 : 0 ≤ x6_1
                    · rw [if_pos c15] at H
                      have c15b0 : decide (0 ≤ x6_1) = true := decide_eq_true c15
                      clear c15
                      by_cases c16 : x6_1 < (a0.size : Int)
                      · rw [if_pos c16] at H
                        have c16b0 : decide (x6_1 < (a0.size : Int)) = true := decide_eq_true c16
                        clear c16
                        obtain ⟨ji18, hji18⟩ : ∃ j_ : Int, (wrap64 (7 * x6_1)) = j_ := ⟨_, rfl⟩
                        replace H : (if 0 ≤ (ji18) then (if (bt a0 x6_1) < 128 then (some (Go.bits .or .i64 x5_1 (shl .i64 (wrap64 (Int.tmod (bt a0 x6_1) 128)) (ji18)), wrap64 (x6_1 + 1), 0)) else (vari_Get.l0 kj8 a0 (Go.bits .or .i64 x5_1 (shl .i64 (wrap64 (Int.tmod (bt a0 x6_1) 128)) (ji18))) (wrap64 (x6_1 + 1)))) else (none)) = some (r1, r2, r3) := by first | (rw [hji18] at H; exact H) | (simp only [hji18] at H ⊢; exact H)
                        have hji18w : (IntKind.i64.wrap (7 * x6_1)) = ji18 := (i64_w _).trans hji18
                        by_cases c19 : 0 ≤ (ji18)
                        · rw [if_pos c19] at H
                          have c19b0 := eq_true c19
                          have c19b1 : decide (0 ≤ (ji18)) = true := decide_eq_true c19
                          clear c19
                          obtain ⟨ji20, hji20⟩ : ∃ j_ : Int, (shl .i64 (wrap64 (Int.tmod (bt a0 x6_1) 128)) (ji18)) = j_ := ⟨_, rfl⟩
                          replace H : (if (bt a0 x6_1) < 128 then (some (Go.bits .or .i64 x5_1 (ji20), wrap64 (x6_1 + 1), 0)) else (vari_Get.l0 kj8 a0 (Go.bits .or .i64 x5_1 (ji20)) (wrap64 (x6_1 + 1)))) = some (r1, r2, r3) := by first | (rw [hji20] at H; exact H) | (simp only [hji20] at H ⊢; exact H)
                          have hji20_ : (IntKind.i64.wrap ((wrap64 (Int.tmod (bt a0 x6_1) 128)) * 2 ^ min (ji18).toNat 64)) = ji20 := hji20
                          have hji20z : (ji18) ≤ 64 → (IntKind.i64.wrap ((wrap64 (Int.tmod (bt a0 x6_1) 128)) * 2 ^ (ji18).toNat)) = ji20 := shl_small hji20
                          have hji20y : (wrap64 ((wrap64 (Int.tmod (bt a0 x6_1) 128)) * 2 ^ min (ji18).toNat 64)) = ji20 := (i64_w _).symm.trans hji20_
                          have hji20x : (ji18) ≤ 64 → (wrap64 ((wrap64 (Int.tmod (bt a0 x6_1) 128)) * 2 ^ (ji18).toNat)) = ji20 := fun h_ => (i64_w _).symm.trans (hji20z h_)
                          by_cases c22 : (bt a0 x6_1) < 128
                          · rw [if_pos c22] at H
                            have c22b0 : decide ((bt a0 x6_1) < 128) = true := decide_eq_true c22
                            clear c22
                            simp only [Option.some.injEq, Prod.mk.injEq] at H
                            obtain ⟨rfl, rfl, rfl⟩ := H
                            have p17 : 0 ≤ (x6_1 : Int) := of_decide_eq_true (by first | (with_reducible assumption) | assumption)
                            have q17 : x6_1 < (a0.size : Int) := of_decide_eq_true (by first | (with_reducible assumption) | assumption)
                            have hx17 := bt_at a0 x6_1
                            replace p17 := eq_true p17
                            replace q17 := eq_true q17
                            have p21 : 0 ≤ (x6_1 : Int) := of_decide_eq_true (by first | (with_reducible assumption) | assumption)
                            have q21 : x6_1 < (a0.size : Int) := of_decide_eq_true (by first | (with_reducible assumption) | assumption)
                            have hx21 := bt_at a0 x6_1
                            replace p21 := eq_true p21
                            replace q21 := eq_true q21
                            go_wp2
                            go_ret3
                            exact ⟨by first | rfl | (simp; done) | (simp only [← hji18, ← hji20] <;> (first | rfl | simp)) | (simp [*]; done), by repeat (first | exact Drawn0.refl _ | apply Drawn0.step)⟩
                          · rw [if_neg c22] at H
                            have c22b0 : decide ((bt a0 x6_1) < 128) = false := decide_eq_false c22
                            clear c22
                            have H' := Aside0.mk H
                            clear H
                            have p17 : 0 ≤ (x6_1 : Int) := of_decide_eq_true (by first | (with_reducible assumption) | assumption)
                            have q17 : x6_1 < (a0.size : Int) := of_decide_eq_true (by first | (with_reducible assumption) | assumption)
                            have hx17 := bt_at a0 x6_1
                            replace p17 := eq_true p17
                            replace q17 := eq_true q17
                            have p21 : 0 ≤ (x6_1 : Int) := of_decide_eq_true (by first | (with_reducible assumption) | assumption)
                            have q21 : x6_1 < (a0.size : Int) := of_decide_eq_true (by first | (with_reducible assumption) | assumption)
                            have hx21 := bt_at a0 x6_1
                            replace p21 := eq_true p21
                            replace q21 := eq_true q21
                            go_wp2
                            go_roundg kj8
                            case measure => have := HK1.out; have := HJ2.out; have := HJ8.out; omega
                            case rel => exact ⟨(Go.bits .or .i64 x5_1 (ji20)), (wrap64 (x6_1 + 1)), (by first | rfl | (simp; done) | (simp only [← hji20] <;> (first | rfl | simp)) | (simp [*]; done)), (by first | rfl | (simp; done) | (simp [*]; done)), H', ⟨by have := HK1.out; have := HJ2.out; have := HJ8.out; omega⟩, by repeat (first | exact Drawn0.refl _ | apply Drawn0.step)⟩
                        · rw [if_neg c19] at H
                          exact absurd H (by simp)
                      · rw [if_neg c16] at H
                        exact absurd H (by simp)
                    · rw [if_neg c15] at H
                      exact absurd H (by simp)









/-! ### lexiphaneref1_Kraft: function 137 -/
def lexiphaneref1_Kraft.l0 : Nat → List Int → Int → Int → Option (Int)
  | 0, _, _, _ => none
  | k + 1, x0, x3, x4 => if x4 < (x0.length : Int) then (if 0 ≤ x4 then (if (rd x0 x4) ≥ 1 then (if (rd x0 x4) ≤ 15 then (if 0 ≤ (IntKind.u64.wrap (wrap64 (15 - (rd x0 x4)))) then (lexiphaneref1_Kraft.l0 k x0 (wrap64 (x3 + (shl .i64 1 (IntKind.u64.wrap (wrap64 (15 - (rd x0 x4))))))) (wrap64 (x4 + 1))) else (none)) else (lexiphaneref1_Kraft.l0 k x0 x3 (wrap64 (x4 + 1)))) else (lexiphaneref1_Kraft.l0 k x0 x3 (wrap64 (x4 + 1)))) else (none)) else (some x3)
def lexiphaneref1_Kraft.f (k : Nat) (l0 : List Int) : Option (Int) := lexiphaneref1_Kraft.l0 k l0 0 0
theorem lexiphaneref1_Kraft.mono_l : ∀ k, (∀ y0 y1 y2, LeO (lexiphaneref1_Kraft.l0 k y0 y1 y2) (lexiphaneref1_Kraft.l0 (k + 1) y0 y1 y2))
  | 0 => fun _ _ _ r h => by simp [lexiphaneref1_Kraft.l0] at h
  | k + 1 => by
    have ih0 := lexiphaneref1_Kraft.mono_l k
    · intro y0 y1 y2
      unfold lexiphaneref1_Kraft.l0
      repeat' first
      | (with_reducible exact ih0 _ _ _)
      | (with_reducible exact LeO.refl _)
      | (with_reducible exact LeO.none _)
      | (with_reducible refine LeO.ite ?_ ?_)
      | (with_reducible refine LeO.bind ?_ (fun _ => ?_))
      | exact ih0 _ _ _
      | exact LeO.none _
      | refine LeO.ite ?_ ?_
      | refine LeO.bind ?_ (fun _ => ?_)
theorem lexiphaneref1_Kraft.mono : ∀ a0 k, LeO (lexiphaneref1_Kraft.f k a0) (lexiphaneref1_Kraft.f (k + 1) a0) := by
  intro a0 k
  have ih0 := lexiphaneref1_Kraft.mono_l k
  unfold lexiphaneref1_Kraft.f
  repeat' first
      | (with_reducible exact ih0 _ _ _)
      | (with_reducible exact LeO.refl _)
      | (with_reducible exact LeO.none _)
      | (with_reducible refine LeO.ite ?_ ?_)
      | (with_reducible refine LeO.bind ?_ (fun _ => ?_))
      | exact ih0 _ _ _
      | exact LeO.none _
      | refine LeO.ite ?_ ?_
      | refine LeO.bind ?_ (fun _ => ?_)
set_option maxHeartbeats 8000000 in
set_option maxRecDepth 100000 in
theorem lexiphaneref1_Kraft.calls (k : Nat) (A0 : Option Addr) (c0 : Nat) (l0 : List Int) (r : Int) (w : World) (hr0 : Kd.C (Kd.int .i64) w A0 l0.length l0) (hc0 : l0.length ≤ c0) (h : lexiphaneref1_Kraft.f k l0 = some r) :
    Calls Tryz.prog 137 #[.slice A0 l0.length c0] w fun e w' => e = .returned (.int .i64 r) ∧ Drawn0 w w' := by
  have HR0 := Aside0.mk hr0
  have HC0 := Aside0.mk hc0
  clear hr0 hc0
  have H : (lexiphaneref1_Kraft.l0 k l0 0 0) = some r := h
  clear h
  have H' := Aside0.mk H
  clear H
  go_enter Tryz.func137, Tryz.ntmps137
  go_wp2
  go_loopg [3, 4] k (fun kq v3 v4 w' => ∃ (x3_1 : Int) (x4_1 : Int), v3 = .int .i64 x3_1 ∧ v4 = .int .i64 x4_1 ∧ Aside0 (lexiphaneref1_Kraft.l0 kq l0 x3_1 x4_1 = some r) ∧ Aside0 (kq ≤ k) ∧ Drawn0 w w')
  case atStart => exact ⟨(0), (0), (by first | rfl | (simp; done) | (simp [*]; done)), (by first | rfl | (simp; done) | (simp [*]; done)), H', ⟨Nat.le_refl _⟩, by repeat (first | exact Drawn0.refl _ | apply Drawn0.step)⟩
  case round =>
    clear H'
    try clear c1
    obtain ⟨x3_1, x4_1, rfl, rfl, HA, HK1, ⟨m1, rfl⟩⟩ := hrel
    cases gk with
    | zero => exact absurd HA.out (by simp [lexiphaneref1_Kraft.l0])
    | succ k1 =>
      have H := HA.out
      clear HA
      simp only [lexiphaneref1_Kraft.l0] at H
      by_cases c2 : x4_1 < (l0.length : Int)
      · rw [if_pos c2] at H
        have c2b0 : decide (x4_1 < (l0.length : Int)) = true := decide_eq_true c2
        clear c2
        by_cases c3 : 0 ≤ x4_1
        · rw [if_pos c3] at H
          have c3b0 : decide (0 ≤ x4_1) = true := decide_eq_true c3
          clear c3
          by_cases c4 : (rd l0 x4_1) ≥ 1
          · rw [if_pos c4] at H
            have c4b0 : decide (1 ≤ (rd l0 x4_1)) = true := decide_eq_true c4
            clear c4
            by_cases c5 : (rd l0 x4_1) ≤ 15
            · rw [if_pos c5] at H
              have c5b0 : decide ((rd l0 x4_1) ≤ 15) = true := decide_eq_true c5
              clear c5
              obtain ⟨ji6, hji6⟩ : ∃ j_ : Int, (IntKind.u64.wrap (wrap64 (15 - (rd l0 x4_1)))) = j_ := ⟨_, rfl⟩
              replace H : (if 0 ≤ (ji6) then (lexiphaneref1_Kraft.l0 k1 l0 (wrap64 (x3_1 + (shl .i64 1 (ji6)))) (wrap64 (x4_1 + 1))) else (none)) = some r := by first | (rw [hji6] at H; exact H) | (simp only [hji6] at H ⊢; exact H)
              by_cases c7 : 0 ≤ (ji6)
              · rw [if_pos c7] at H
                have c7b0 := eq_true c7
                have c7b1 : decide (0 ≤ (ji6)) = true := decide_eq_true c7
                clear c7
                obtain ⟨ji8, hji8⟩ : ∃ j_ : Int, (shl .i64 1 (ji6)) = j_ := ⟨_, rfl⟩
                replace H : (lexiphaneref1_Kraft.l0 k1 l0 (wrap64 (x3_1 + (ji8))) (wrap64 (x4_1 + 1))) = some r := by first | (rw [hji8] at H; exact H) | (simp only [hji8] at H ⊢; exact H)
                have hji8_ : (IntKind.i64.wrap (1 * 2 ^ min (ji6).toNat 64)) = ji8 := hji8
                have hji8z : (ji6) ≤ 64 → (IntKind.i64.wrap (1 * 2 ^ (ji6).toNat)) = ji8 := shl_small hji8
                have hji8u : (IntKind.i64.wrap (2 ^ min (ji6).toNat 64)) = ji8 := by have h_ := hji8_; rw [Int.one_mul] at h_; exact h_
                have hji8v : (ji6) ≤ 64 → (IntKind.i64.wrap (2 ^ (ji6).toNat)) = ji8 := fun hle_ => by have h_ := hji8z hle_; rw [Int.one_mul] at h_; exact h_
                have hji8y : (wrap64 (1 * 2 ^ min (ji6).toNat 64)) = ji8 := (i64_w _).symm.trans hji8_
                have hji8x : (ji6) ≤ 64 → (wrap64 (1 * 2 ^ (ji6).toNat)) = ji8 := fun h_ => (i64_w _).symm.trans (hji8z h_)
                have H' := Aside0.mk H
                clear H
                have p198 : 0 ≤ (x4_1 : Int) := of_decide_eq_true (by first | (with_reducible assumption) | assumption)
                have q198 : x4_1 < (l0.length : Int) := of_decide_eq_true (by first | (with_reducible assumption) | assumption)
                obtain ⟨ad198, e198, hx198_0⟩ := Kd.at_int HR0.out x4_1 p198 q198
                cases e198
                replace p198 := eq_true p198
                replace q198 := eq_true q198
                have p199 : 0 ≤ (x4_1 : Int) := of_decide_eq_true (by first | (with_reducible assumption) | assumption)
                have q199 : x4_1 < (l0.length : Int) := of_decide_eq_true (by first | (with_reducible assumption) | assumption)
                obtain ⟨ad199, e199, hx199_0⟩ := Kd.at_int HR0.out x4_1 p199 q199
                obtain rfl : ad198 = ad199 := (by injection e199)
                replace p199 := eq_true p199
                replace q199 := eq_true q199
                have p200 : 0 ≤ (x4_1 : Int) := of_decide_eq_true (by first | (with_reducible assumption) | assumption)
                have q200 : x4_1 < (l0.length : Int) := of_decide_eq_true (by first | (with_reducible assumption) | assumption)
                obtain ⟨ad200, e200, hx200_0⟩ := Kd.at_int HR0.out x4_1 p200 q200
                obtain rfl : ad198 = ad200 := (by injection e200)
                replace p200 := eq_true p200
                replace q200 := eq_true q200
                go_wp2
                go_roundg k1
                case measure => have := HK1.out; omega
                case rel => exact ⟨(wrap64 (x3_1 + (ji8))), (wrap64 (x4_1 + 1)), (by first | rfl | (simp; done) | (simp only [← hji8] <;> (first | rfl | simp)) | (simp [*]; done)), (by first | rfl | (simp; done) | (simp [*]; done)), H', ⟨by have := HK1.out; omega⟩, by repeat (first | exact Drawn0.refl _ | apply Drawn0.step)⟩
              · rw [if_neg c7] at H
                exact absurd H (by simp)
            · rw [if_neg c5] at H
              have c5b0 : decide ((rd l0 x4_1) ≤ 15) = false := decide_eq_false c5
              clear c5
              have H' := Aside0.mk H
              clear H
              have p198 : 0 ≤ (x4_1 : Int) := of_decide_eq_true (by first | (with_reducible assumption) | assumption)
              have q198 : x4_1 < (l0.length : Int) := of_decide_eq_true (by first | (with_reducible assumption) | assumption)
              obtain ⟨ad198, e198, hx198_0⟩ := Kd.at_int HR0.out x4_1 p198 q198
              cases e198
              replace p198 := eq_true p198
              replace q198 := eq_true q198
              have p199 : 0 ≤ (x4_1 : Int) := of_decide_eq_true (by first | (with_reducible assumption) | assumption)
              have q199 : x4_1 < (l0.length : Int) := of_decide_eq_true (by first | (with_reducible assumption) | assumption)
              obtain ⟨ad199, e199, hx199_0⟩ := Kd.at_int HR0.out x4_1 p199 q199
              obtain rfl : ad198 = ad199 := (by injection e199)
              replace p199 := eq_true p199
              replace q199 := eq_true q199
              go_wp2
              go_roundg k1
              case measure => have := HK1.out; omega
              case rel => exact ⟨(x3_1), (wrap64 (x4_1 + 1)), (by first | rfl | (simp; done) | (simp [*]; done)), (by first | rfl | (simp; done) | (simp [*]; done)), H', ⟨by have := HK1.out; omega⟩, by repeat (first | exact Drawn0.refl _ | apply Drawn0.step)⟩
          · rw [if_neg c4] at H
            have c4b0 : decide (1 ≤ (rd l0 x4_1)) = false := decide_eq_false c4
            clear c4
            have H' := Aside0.mk H
            clear H
            have p198 : 0 ≤ (x4_1 : Int) := of_decide_eq_true (by first | (with_reducible assumption) | assumption)
            have q198 : x4_1 < (l0.length : Int) := of_decide_eq_true (by first | (with_reducible assumption) | assumption)
            obtain ⟨ad198, e198, hx198_0⟩ := Kd.at_int HR0.out x4_1 p198 q198
            cases e198
            replace p198 := eq_true p198
            replace q198 := eq_true q198
            go_wp2
            go_roundg k1
            case measure => have := HK1.out; omega
            case rel => exact ⟨(x3_1), (wrap64 (x4_1 + 1)), (by first | rfl | (simp; done) | (simp [*]; done)), (by first | rfl | (simp; done) | (simp [*]; done)), H', ⟨by have := HK1.out; omega⟩, by repeat (first | exact Drawn0.refl _ | apply Drawn0.step)⟩
        · rw [if_neg c3] at H
          exact absurd H (by simp)
      · rw [if_neg c2] at H
        have c2b0 : decide (x4_1 < (l0.length : Int)) = false := decide_eq_false c2
        clear c2
        obtain rfl := Option.some.inj H
        go_wp2
        go_ret
        exact ⟨by first | rfl | (simp; done) | (simp [*]; done), by repeat (first | exact Drawn0.refl _ | apply Drawn0.step)⟩


/-! ### lexiphaneref1_Right: function 103 -/
mutual
def lexiphaneref1_Right.l0 : Nat → List Int → Int → Int → Int → Option (Int)
  | 0, _, _, _, _ => none
  | k + 1, x0, x3, x4, x5 => if x5 < (x0.length : Int) then (if 0 ≤ x5 then (if (rd x0 x5) < 0 then (lexiphaneref1_Right.j1 k x0 x3 x4 x5 true) else (lexiphaneref1_Right.j1 k x0 x3 x4 x5 (decide ((rd x0 x5) > 15)))) else (none)) else ((lexiphaneref1_Kraft.f k x0).bind fun t201 => (if t201 = 32768 then (some 0) else (if x3 = 1 then (if x4 = 1 then (some 0) else (some 8)) else (some 8))))
def lexiphaneref1_Right.j1 : Nat → List Int → Int → Int → Int → Bool → Option (Int)
  | 0, _, _, _, _, _ => none
  | k + 1, x0, x3, x4, x5, x23 => if x23 = true then (some 1) else (if 0 ≤ x5 then (if x5 < (x0.length : Int) then (if (rd x0 x5) > 0 then (lexiphaneref1_Right.l0 k x0 (wrap64 (x3 + 1)) (rd x0 x5) (wrap64 (x5 + 1))) else (lexiphaneref1_Right.l0 k x0 x3 x4 (wrap64 (x5 + 1)))) else (none)) else (none))
end
def lexiphaneref1_Right.f (k : Nat) (l0 : List Int) : Option (Int) := lexiphaneref1_Right.l0 k l0 0 0 0
theorem lexiphaneref1_Right.mono_l : ∀ k, (∀ y0 y1 y2 y3, LeO (lexiphaneref1_Right.l0 k y0 y1 y2 y3) (lexiphaneref1_Right.l0 (k + 1) y0 y1 y2 y3)) ∧ (∀ y0 y1 y2 y3 y4, LeO (lexiphaneref1_Right.j1 k y0 y1 y2 y3 y4) (lexiphaneref1_Right.j1 (k + 1) y0 y1 y2 y3 y4))
  | 0 => ⟨fun _ _ _ _ r h => by simp [lexiphaneref1_Right.l0] at h, fun _ _ _ _ _ r h => by simp [lexiphaneref1_Right.j1] at h⟩
  | k + 1 => by
    obtain ⟨ih0, ih1⟩ := lexiphaneref1_Right.mono_l k
    refine ⟨?_, ?_⟩
    · intro y0 y1 y2 y3
      unfold lexiphaneref1_Right.l0
      repeat' first
      | (with_reducible exact ih0 _ _ _ _)
      | (with_reducible exact ih1 _ _ _ _ _)
      | (with_reducible exact lexiphaneref1_Kraft.mono _ _)
      | (with_reducible exact LeO.refl _)
      | (with_reducible exact LeO.none _)
      | (with_reducible refine LeO.ite ?_ ?_)
      | (with_reducible refine LeO.bind ?_ (fun _ => ?_))
      | exact ih0 _ _ _ _
      | exact ih1 _ _ _ _ _
      | exact lexiphaneref1_Kraft.mono _ _
      | exact LeO.none _
      | refine LeO.ite ?_ ?_
      | refine LeO.bind ?_ (fun _ => ?_)
    · intro y0 y1 y2 y3 y4
      unfold lexiphaneref1_Right.j1
      repeat' first
      | (with_reducible exact ih0 _ _ _ _)
      | (with_reducible exact ih1 _ _ _ _ _)
      | (with_reducible exact lexiphaneref1_Kraft.mono _ _)
      | (with_reducible exact LeO.refl _)
      | (with_reducible exact LeO.none _)
      | (with_reducible refine LeO.ite ?_ ?_)
      | (with_reducible refine LeO.bind ?_ (fun _ => ?_))
      | exact ih0 _ _ _ _
      | exact ih1 _ _ _ _ _
      | exact lexiphaneref1_Kraft.mono _ _
      | exact LeO.none _
      | refine LeO.ite ?_ ?_
      | refine LeO.bind ?_ (fun _ => ?_)
theorem lexiphaneref1_Right.mono : ∀ a0 k, LeO (lexiphaneref1_Right.f k a0) (lexiphaneref1_Right.f (k + 1) a0) := by
  intro a0 k
  obtain ⟨ih0, ih1⟩ := lexiphaneref1_Right.mono_l k
  unfold lexiphaneref1_Right.f
  repeat' first
      | (with_reducible exact ih0 _ _ _ _)
      | (with_reducible exact ih1 _ _ _ _ _)
      | (with_reducible exact lexiphaneref1_Kraft.mono _ _)
      | (with_reducible exact LeO.refl _)
      | (with_reducible exact LeO.none _)
      | (with_reducible refine LeO.ite ?_ ?_)
      | (with_reducible refine LeO.bind ?_ (fun _ => ?_))
      | exact ih0 _ _ _ _
      | exact ih1 _ _ _ _ _
      | exact lexiphaneref1_Kraft.mono _ _
      | exact LeO.none _
      | refine LeO.ite ?_ ?_
      | refine LeO.bind ?_ (fun _ => ?_)
set_option maxHeartbeats 8000000 in
set_option maxRecDepth 100000 in
theorem lexiphaneref1_Right.calls (k : Nat) (A0 : Option Addr) (c0 : Nat) (l0 : List Int) (r : Int) (w : World) (hr0 : Kd.C (Kd.int .i64) w A0 l0.length l0) (hc0 : l0.length ≤ c0) (h : lexiphaneref1_Right.f k l0 = some r) :
    Calls Tryz.prog 103 #[.slice A0 l0.length c0] w fun e w' => e = .returned (.int .i64 r) ∧ Drawn0 w w' := by
  have HR0 := Aside0.mk hr0
  have HC0 := Aside0.mk hc0
  clear hr0 hc0
  have H : (lexiphaneref1_Right.l0 k l0 0 0 0) = some r := h
  clear h
  have H' := Aside0.mk H
  clear H
  go_enter Tryz.func103, Tryz.ntmps103
  go_wp2
  go_loopg [3, 4, 5] k (fun kq v3 v4 v5 w' => ∃ (x3_1 : Int) (x4_1 : Int) (x5_1 : Int), v3 = .int .i64 x3_1 ∧ v4 = .int .i64 x4_1 ∧ v5 = .int .i64 x5_1 ∧ Aside0 (lexiphaneref1_Right.l0 kq l0 x3_1 x4_1 x5_1 = some r) ∧ Aside0 (kq ≤ k) ∧ Drawn0 w w')
  case atStart => exact ⟨(0), (0), (0), (by first | rfl | (simp; done) | (simp [*]; done)), (by first | rfl | (simp; done) | (simp [*]; done)), (by first | rfl | (simp; done) | (simp [*]; done)), H', ⟨Nat.le_refl _⟩, by repeat (first | exact Drawn0.refl _ | apply Drawn0.step)⟩
  case round =>
    clear H'
    try clear c1
    obtain ⟨x3_1, x4_1, x5_1, rfl, rfl, rfl, HA, HK1, ⟨m1, rfl⟩⟩ := hrel
    cases gk with
    | zero => exact absurd HA.out (by simp [lexiphaneref1_Right.l0])
    | succ k1 =>
      have H := HA.out
      clear HA
      simp only [lexiphaneref1_Right.l0] at H
      by_cases c2 : x5_1 < (l0.length : Int)
      · rw [if_pos c2] at H
        have c2b0 : decide (x5_1 < (l0.length : Int)) = true := decide_eq_true c2
        clear c2
        have HC3 := Aside0.mk H
        clear H
        go_upto_region 5 with (fail)
        go_cut [23] (fun v23 wc => ∃ (kq : Nat) (x23_2 : Bool), v23 = .bool x23_2 ∧ Aside0 (lexiphaneref1_Right.j1 kq l0 x3_1 x4_1 x5_1 x23_2 = some r) ∧ Aside0 (kq ≤ k1) ∧ Drawn0 w wc)
        case first =>
          have H := HC3.out
          clear HC3
          by_cases c4 : 0 ≤ x5_1
          · rw [if_pos c4] at H
            have c4b0 : decide (0 ≤ x5_1) = true := decide_eq_true c4
            clear c4
            (first | rw [c4b0] | (simp only [i64_w, i32_w]; rw [c4b0]) | skip)
            by_cases c5 : (rd l0 x5_1) < 0
            · rw [if_pos c5] at H
              have c5b0 : decide ((rd l0 x5_1) < 0) = true := decide_eq_true c5
              clear c5
              have H' := Aside0.mk H
              clear H
              have p202 : 0 ≤ (x5_1 : Int) := of_decide_eq_true (by first | (with_reducible assumption) | assumption)
              have q202 : x5_1 < (l0.length : Int) := of_decide_eq_true (by first | (with_reducible assumption) | assumption)
              obtain ⟨ad202, e202, hx202_0⟩ := Kd.at_int HR0.out x5_1 p202 q202
              cases e202
              replace p202 := eq_true p202
              replace q202 := eq_true q202
              go_wp2
              go_meet
              case rel => exact ⟨_, (true), (by first | rfl | (simp; done) | (simp [*]; done)), H', ⟨by have := HK1.out; first | omega | exact Nat.le_refl _⟩, by repeat (first | exact Drawn0.refl _ | apply Drawn0.step)⟩
            · rw [if_neg c5] at H
              have c5b0 : decide ((rd l0 x5_1) < 0) = false := decide_eq_false c5
              clear c5
              have H' := Aside0.mk H
              clear H
              have p202 : 0 ≤ (x5_1 : Int) := of_decide_eq_true (by first | (with_reducible assumption) | assumption)
              have q202 : x5_1 < (l0.length : Int) := of_decide_eq_true (by first | (with_reducible assumption) | assumption)
              obtain ⟨ad202, e202, hx202_0⟩ := Kd.at_int HR0.out x5_1 p202 q202
              cases e202
              replace p202 := eq_true p202
              replace q202 := eq_true q202
              have p203 : 0 ≤ (x5_1 : Int) := of_decide_eq_true (by first | (with_reducible assumption) | assumption)
              have q203 : x5_1 < (l0.length : Int) := of_decide_eq_true (by first | (with_reducible assumption) | assumption)
              obtain ⟨ad203, e203, hx203_0⟩ := Kd.at_int HR0.out x5_1 p203 q203
              obtain rfl : ad202 = ad203 := (by injection e203)
              replace p203 := eq_true p203
              replace q203 := eq_true q203
              go_wp2
              go_meet
              case rel => exact ⟨_, (decide ((rd l0 x5_1) > 15)), (by first | rfl | (simp; done) | (simp [*]; done)), H', ⟨by have := HK1.out; first | omega | exact Nat.le_refl _⟩, by repeat (first | exact Drawn0.refl _ | apply Drawn0.step)⟩
          · rw [if_neg c4] at H
            exact absurd H (by simp)
        case rest =>
          clear HC3
          try clear c1
          try clear c2
          try clear c2b0
          try clear p2
          try clear q2
          try clear hx2
          try clear c4
          try clear c4b0
          try clear c5
          try clear c5b0
          try clear hx202_0
          try clear hx203_0
          try clear p202
          try clear p203
          try clear q202
          try clear q203
          obtain ⟨kq, x23_2, rfl, HA, HJ2, ⟨mc2, rfl⟩⟩ := hcut
          cases kq with
          | zero => exact absurd HA.out (by simp [lexiphaneref1_Right.j1])
          | succ kj2 =>
            have H := HA.out
            clear HA
            simp only [lexiphaneref1_Right.j1] at H
            by_cases c6 : x23_2 = true
            · subst c6
              have H1 : (some 1) = some r := by rw [if_pos rfl] at H; exact H
              clear H
              have H := H1
              clear H1
              obtain rfl := Option.some.inj H
              go_wp2
              go_ret
              exact ⟨by first | rfl | (simp; done) | (simp [*]; done), by repeat (first | exact Drawn0.refl _ | apply Drawn0.step)⟩
            · replace c6 := Bool.eq_false_iff.mpr c6
              subst c6
              have H1 : (if 0 ≤ x5_1 then (if x5_1 < (l0.length : Int) then (if (rd l0 x5_1) > 0 then (lexiphaneref1_Right.l0 kj2 l0 (wrap64 (x3_1 + 1)) (rd l0 x5_1) (wrap64 (x5_1 + 1))) else (lexiphaneref1_Right.l0 kj2 l0 x3_1 x4_1 (wrap64 (x5_1 + 1)))) else (none)) else (none)) = some r := by rw [if_neg (show ¬ (false = true) by decide)] at H; exact H
              clear H
              have H := H1
              clear H1
              by_cases c7 : 0 ≤ x5_1
              · rw [if_pos c7] at H
                have c7b0 : decide (0 ≤ x5_1) = true := decide_eq_true c7
                clear c7
                by_cases c8 : x5_1 < (l0.length : Int)
                · rw [if_pos c8] at H
                  have c8b0 : decide (x5_1 < (l0.length : Int)) = true := decide_eq_true c8
                  clear c8
                  by_cases c9 : (rd l0 x5_1) > 0
                  · rw [if_pos c9] at H
                    have c9b0 : decide (0 < (rd l0 x5_1)) = true := decide_eq_true c9
                    clear c9
                    have H' := Aside0.mk H
                    clear H
                    have p204 : 0 ≤ (x5_1 : Int) := of_decide_eq_true (by first | (with_reducible assumption) | assumption)
                    have q204 : x5_1 < (l0.length : Int) := of_decide_eq_true (by first | (with_reducible assumption) | assumption)
                    obtain ⟨ad204, e204, hx204_0⟩ := Kd.at_int HR0.out x5_1 p204 q204
                    cases e204
                    replace p204 := eq_true p204
                    replace q204 := eq_true q204
                    have p205 : 0 ≤ (x5_1 : Int) := of_decide_eq_true (by first | (with_reducible assumption) | assumption)
                    have q205 : x5_1 < (l0.length : Int) := of_decide_eq_true (by first | (with_reducible assumption) | assumption)
                    obtain ⟨ad205, e205, hx205_0⟩ := Kd.at_int HR0.out x5_1 p205 q205
                    obtain rfl : ad204 = ad205 := (by injection e205)
                    replace p205 := eq_true p205
                    replace q205 := eq_true q205
                    go_wp2
                    go_roundg kj2
                    case measure => have := HK1.out; have := HJ2.out; omega
                    case rel => exact ⟨(wrap64 (x3_1 + 1)), (rd l0 x5_1), (wrap64 (x5_1 + 1)), (by first | rfl | (simp; done) | (simp [*]; done)), (by first | rfl | (simp; done) | (simp [*]; done)), (by first | rfl | (simp; done) | (simp [*]; done)), H', ⟨by have := HK1.out; have := HJ2.out; omega⟩, by repeat (first | exact Drawn0.refl _ | apply Drawn0.step)⟩
                  · rw [if_neg c9] at H
                    have c9b0 : decide (0 < (rd l0 x5_1)) = false := decide_eq_false c9
                    clear c9
                    have H' := Aside0.mk H
                    clear H
                    have p204 : 0 ≤ (x5_1 : Int) := of_decide_eq_true (by first | (with_reducible assumption) | assumption)
                    have q204 : x5_1 < (l0.length : Int) := of_decide_eq_true (by first | (with_reducible assumption) | assumption)
                    obtain ⟨ad204, e204, hx204_0⟩ := Kd.at_int HR0.out x5_1 p204 q204
                    cases e204
                    replace p204 := eq_true p204
                    replace q204 := eq_true q204
                    go_wp2
                    go_roundg kj2
                    case measure => have := HK1.out; have := HJ2.out; omega
                    case rel => exact ⟨(x3_1), (x4_1), (wrap64 (x5_1 + 1)), (by first | rfl | (simp; done) | (simp [*]; done)), (by first | rfl | (simp; done) | (simp [*]; done)), (by first | rfl | (simp; done) | (simp [*]; done)), H', ⟨by have := HK1.out; have := HJ2.out; omega⟩, by repeat (first | exact Drawn0.refl _ | apply Drawn0.step)⟩
                · rw [if_neg c8] at H
                  exact absurd H (by simp)
              · rw [if_neg c7] at H
                exact absurd H (by simp)
      · rw [if_neg c2] at H
        have c2b0 : decide (x5_1 < (l0.length : Int)) = false := decide_eq_false c2
        clear c2
        replace H := Option.bind_eq_some_iff.mp H
        obtain ⟨t201, A100, H⟩ := H
        replace H : (if t201 = 32768 then (some 0) else (if x3_1 = 1 then (if x4_1 = 1 then (some 0) else (some 8)) else (some 8))) = some r := H
        have A10 := Aside0.mk A100
        clear A100
        by_cases c11 : t201 = 32768
        · rw [if_pos c11] at H
          have c11b0 : (t201 == 32768) = true := beq_iff_eq.mpr c11
          have c11b1 : (t201 != 32768) = false := bne_eq_false_iff_eq.mpr c11
          clear c11
          obtain rfl := Option.some.inj H
          go_wp2_with (first | ((with_reducible refine gate_callee (f := 137) rfl ?_); refine goesL_ (some 36) rfl rfl Tryz.func137 (by kernel_rfl) rfl #[.slice A0 l0.length c0] rfl (by (try simp only [List.map_toArray, List.map_cons, List.map_nil]); first | done | rfl | (simp only [List.length_drop, List.length_take]; rfl)) ?_; (with_reducible refine (lexiphaneref1_Kraft.calls k1 _ _ l0 t201 _ ?side1 ?side2 A10.out).mono ?_); (case side1 => repeat (first | exact HR0.out | (with_reducible refine Kd.C_alloc ?_ _) | (with_reducible refine Kd.C_drewN ?_ _) | (with_reducible refine Kd.C_drew ?_))); (case side2 => exact HC0.out); rintro e w' ⟨rfl, ⟨nd, rfl⟩⟩; refine ⟨_, rfl, ?_⟩))
          go_ret
          exact ⟨by first | rfl | (simp; done) | (simp [*]; done), by repeat (first | exact Drawn0.refl _ | apply Drawn0.step)⟩
        · rw [if_neg c11] at H
          have c11b0 : (t201 == 32768) = false := beq_eq_false_iff_ne.mpr c11
          have c11b1 : (t201 != 32768) = true := bne_iff_ne.mpr c11
          by_cases c12 : x3_1 = 1
          · rw [if_pos c12] at H
            have c12b0 : (x3_1 == 1) = true := beq_iff_eq.mpr c12
            have c12b1 : (x3_1 != 1) = false := bne_eq_false_iff_eq.mpr c12
            clear c12
            by_cases c13 : x4_1 = 1
            · rw [if_pos c13] at H
              have c13b0 : (x4_1 == 1) = true := beq_iff_eq.mpr c13
              have c13b1 : (x4_1 != 1) = false := bne_eq_false_iff_eq.mpr c13
              clear c13
              obtain rfl := Option.some.inj H
              go_wp2_with (first | ((with_reducible refine gate_callee (f := 137) rfl ?_); refine goesL_ (some 36) rfl rfl Tryz.func137 (by kernel_rfl) rfl #[.slice A0 l0.length c0] rfl (by (try simp only [List.map_toArray, List.map_cons, List.map_nil]); first | done | rfl | (simp only [List.length_drop, List.length_take]; rfl)) ?_; (with_reducible refine (lexiphaneref1_Kraft.calls k1 _ _ l0 t201 _ ?side1 ?side2 A10.out).mono ?_); (case side1 => repeat (first | exact HR0.out | (with_reducible refine Kd.C_alloc ?_ _) | (with_reducible refine Kd.C_drewN ?_ _) | (with_reducible refine Kd.C_drew ?_))); (case side2 => exact HC0.out); rintro e w' ⟨rfl, ⟨nd, rfl⟩⟩; refine ⟨_, rfl, ?_⟩))
              go_ret
              exact ⟨by first | rfl | (simp; done) | (simp [*]; done), by repeat (first | exact Drawn0.refl _ | apply Drawn0.step)⟩
            · rw [if_neg c13] at H
              have c13b0 : (x4_1 == 1) = false := beq_eq_false_iff_ne.mpr c13
              have c13b1 : (x4_1 != 1) = true := bne_iff_ne.mpr c13
              obtain rfl := Option.some.inj H
              go_wp2_with (first | ((with_reducible refine gate_callee (f := 137) rfl ?_); refine goesL_ (some 36) rfl rfl Tryz.func137 (by kernel_rfl) rfl #[.slice A0 l0.length c0] rfl (by (try simp only [List.map_toArray, List.map_cons, List.map_nil]); first | done | rfl | (simp only [List.length_drop, List.length_take]; rfl)) ?_; (with_reducible refine (lexiphaneref1_Kraft.calls k1 _ _ l0 t201 _ ?side1 ?side2 A10.out).mono ?_); (case side1 => repeat (first | exact HR0.out | (with_reducible refine Kd.C_alloc ?_ _) | (with_reducible refine Kd.C_drewN ?_ _) | (with_reducible refine Kd.C_drew ?_))); (case side2 => exact HC0.out); rintro e w' ⟨rfl, ⟨nd, rfl⟩⟩; refine ⟨_, rfl, ?_⟩))
              go_ret
              exact ⟨by first | rfl | (simp; done) | (simp [*]; done), by repeat (first | exact Drawn0.refl _ | apply Drawn0.step)⟩
          · rw [if_neg c12] at H
            have c12b0 : (x3_1 == 1) = false := beq_eq_false_iff_ne.mpr c12
            have c12b1 : (x3_1 != 1) = true := bne_iff_ne.mpr c12
            obtain rfl := Option.some.inj H
            go_wp2_with (first | ((with_reducible refine gate_callee (f := 137) rfl ?_); refine goesL_ (some 36) rfl rfl Tryz.func137 (by kernel_rfl) rfl #[.slice A0 l0.length c0] rfl (by (try simp only [List.map_toArray, List.map_cons, List.map_nil]); first | done | rfl | (simp only [List.length_drop, List.length_take]; rfl)) ?_; (with_reducible refine (lexiphaneref1_Kraft.calls k1 _ _ l0 t201 _ ?side1 ?side2 A10.out).mono ?_); (case side1 => repeat (first | exact HR0.out | (with_reducible refine Kd.C_alloc ?_ _) | (with_reducible refine Kd.C_drewN ?_ _) | (with_reducible refine Kd.C_drew ?_))); (case side2 => exact HC0.out); rintro e w' ⟨rfl, ⟨nd, rfl⟩⟩; refine ⟨_, rfl, ?_⟩))
            go_ret
            exact ⟨by first | rfl | (simp; done) | (simp [*]; done), by repeat (first | exact Drawn0.refl _ | apply Drawn0.step)⟩


/-! ### lexiphaneref1_Codes: function 63 -/
mutual
def lexiphaneref1_Codes.l0 : Nat → List Int → List Int → Int → Int → Option (List Int × Int)
  | 0, _, _, _, _ => none
  | k + 1, x0, x5, x6, x7 => if x7 ≤ 15 then (lexiphaneref1_Codes.l1 k x0 x5 (wrap64 (x6 * 2)) x7 0) else (some (x5, 0))
def lexiphaneref1_Codes.l1 : Nat → List Int → List Int → Int → Int → Int → Option (List Int × Int)
  | 0, _, _, _, _, _ => none
  | k + 1, x0, x5, x6, x7, x8 => if x8 < (x0.length : Int) then (if 0 ≤ x8 then (if (rd x0 x8) = x7 then (if x8 < (x5.length : Int) then (lexiphaneref1_Codes.l1 k x0 (x5.set (x8 : Int).toNat x6) (wrap64 (x6 + 1)) x7 (wrap64 (x8 + 1))) else (none)) else (lexiphaneref1_Codes.l1 k x0 x5 x6 x7 (wrap64 (x8 + 1)))) else (none)) else (lexiphaneref1_Codes.l0 k x0 x5 x6 (wrap64 (x7 + 1)))
end
def lexiphaneref1_Codes.f (k : Nat) (l0 : List Int) : Option (List Int × Int) := (lexiphaneref1_Right.f k l0).bind fun t206 => (if t206 = 0 then (if 0 ≤ (l0.length : Int) then (if ((l0.length : Int) : Int).toNat ≤ 35184372088832 then (lexiphaneref1_Codes.l0 k l0 (List.replicate ((l0.length : Int) : Int).toNat 0) 0 1) else (none)) else (none)) else (some (([] : List Int), t206)))
theorem lexiphaneref1_Codes.mono_l : ∀ k, (∀ y0 y1 y2 y3, LeO (lexiphaneref1_Codes.l0 k y0 y1 y2 y3) (lexiphaneref1_Codes.l0 (k + 1) y0 y1 y2 y3)) ∧ (∀ y0 y1 y2 y3 y4, LeO (lexiphaneref1_Codes.l1 k y0 y1 y2 y3 y4) (lexiphaneref1_Codes.l1 (k + 1) y0 y1 y2 y3 y4))
  | 0 => ⟨fun _ _ _ _ r h => by simp [lexiphaneref1_Codes.l0] at h, fun _ _ _ _ _ r h => by simp [lexiphaneref1_Codes.l1] at h⟩
  | k + 1 => by
    obtain ⟨ih0, ih1⟩ := lexiphaneref1_Codes.mono_l k
    refine ⟨?_, ?_⟩
    · intro y0 y1 y2 y3
      unfold lexiphaneref1_Codes.l0
      repeat' first
      | (with_reducible exact ih0 _ _ _ _)
      | (with_reducible exact ih1 _ _ _ _ _)
      | (with_reducible exact lexiphaneref1_Right.mono _ _)
      | (with_reducible exact LeO.refl _)
      | (with_reducible exact LeO.none _)
      | (with_reducible refine LeO.ite ?_ ?_)
      | (with_reducible refine LeO.bind ?_ (fun _ => ?_))
      | exact ih0 _ _ _ _
      | exact ih1 _ _ _ _ _
      | exact lexiphaneref1_Right.mono _ _
      | exact LeO.none _
      | refine LeO.ite ?_ ?_
      | refine LeO.bind ?_ (fun _ => ?_)
    · intro y0 y1 y2 y3 y4
      unfold lexiphaneref1_Codes.l1
      repeat' first
      | (with_reducible exact ih0 _ _ _ _)
      | (with_reducible exact ih1 _ _ _ _ _)
      | (with_reducible exact lexiphaneref1_Right.mono _ _)
      | (with_reducible exact LeO.refl _)
      | (with_reducible exact LeO.none _)
      | (with_reducible refine LeO.ite ?_ ?_)
      | (with_reducible refine LeO.bind ?_ (fun _ => ?_))
      | exact ih0 _ _ _ _
      | exact ih1 _ _ _ _ _
      | exact lexiphaneref1_Right.mono _ _
      | exact LeO.none _
      | refine LeO.ite ?_ ?_
      | refine LeO.bind ?_ (fun _ => ?_)
theorem lexiphaneref1_Codes.mono : ∀ a0 k, LeO (lexiphaneref1_Codes.f k a0) (lexiphaneref1_Codes.f (k + 1) a0) := by
  intro a0 k
  obtain ⟨ih0, ih1⟩ := lexiphaneref1_Codes.mono_l k
  unfold lexiphaneref1_Codes.f
  repeat' first
      | (with_reducible exact ih0 _ _ _ _)
      | (with_reducible exact ih1 _ _ _ _ _)
      | (with_reducible exact lexiphaneref1_Right.mono _ _)
      | (with_reducible exact LeO.refl _)
      | (with_reducible exact LeO.none _)
      | (with_reducible refine LeO.ite ?_ ?_)
      | (with_reducible refine LeO.bind ?_ (fun _ => ?_))
      | exact ih0 _ _ _ _
      | exact ih1 _ _ _ _ _
      | exact lexiphaneref1_Right.mono _ _
      | exact LeO.none _
      | refine LeO.ite ?_ ?_
      | refine LeO.bind ?_ (fun _ => ?_)
set_option maxHeartbeats 8000000 in
set_option maxRecDepth 100000 in
theorem lexiphaneref1_Codes.calls (k : Nat) (A0 : Option Addr) (c0 : Nat) (l0 : List Int) (r1 : List Int) (r2 : Int) (w : World) (hr0 : Kd.C (Kd.int .i64) w A0 l0.length l0) (hc0 : l0.length ≤ c0) (h : lexiphaneref1_Codes.f k l0 = some (r1, r2)) :
    Calls Tryz.prog 63 #[.slice A0 l0.length c0] w fun e w' => ∃ v0_ : Value, e = .returned (.tuple #[v0_, .int .i64 r2]) ∧ Kd.R (Kd.int .i64) 3 w' w.heap.size (fun _ => True) v0_ r1 ∧ Below w.heap.size w w' := by
  have HR0 := Aside0.mk hr0
  have HC0 := Aside0.mk hc0
  clear hr0 hc0
  have HB := Aside0.mk (Below.refl w.heap.size w)
  have H : ((lexiphaneref1_Right.f k l0).bind fun t206 => (if t206 = 0 then (if 0 ≤ (l0.length : Int) then (if ((l0.length : Int) : Int).toNat ≤ 35184372088832 then (lexiphaneref1_Codes.l0 k l0 (List.replicate ((l0.length : Int) : Int).toNat 0) 0 1) else (none)) else (none)) else (some (([] : List Int), t206)))) = some (r1, r2) := h
  clear h
  replace H := Option.bind_eq_some_iff.mp H
  obtain ⟨t206, A20, H⟩ := H
  replace H : (if t206 = 0 then (if 0 ≤ (l0.length : Int) then (if ((l0.length : Int) : Int).toNat ≤ 35184372088832 then (lexiphaneref1_Codes.l0 k l0 (List.replicate ((l0.length : Int) : Int).toNat 0) 0 1) else (none)) else (none)) else (some (([] : List Int), t206))) = some (r1, r2) := H
  have A2 := Aside0.mk A20
  clear A20
  by_cases c3 : t206 = 0
  · rw [if_pos c3] at H
    have c3b0 : (t206 == 0) = true := beq_iff_eq.mpr c3
    have c3b1 : (t206 != 0) = false := bne_eq_false_iff_eq.mpr c3
    clear c3
    by_cases c4 : 0 ≤ (l0.length : Int)
    · rw [if_pos c4] at H
      have c4b0 := eq_true c4
      have c4b1 : decide (0 ≤ (l0.length : Int)) = true := decide_eq_true c4
      clear c4
      by_cases c5 : ((l0.length : Int) : Int).toNat ≤ 35184372088832
      · rw [if_pos c5] at H
        have c5b0 := eq_true c5
        have c5b1 : decide (((l0.length : Int) : Int).toNat ≤ 35184372088832) = true := decide_eq_true c5
        clear c5
        obtain ⟨y207, hy207⟩ : ∃ y_ : List Int, y_ = (List.replicate ((l0.length : Int) : Int).toNat 0) := ⟨_, rfl⟩
        replace H : (lexiphaneref1_Codes.l0 k l0 y207 0 1) = some (r1, r2) := by first | (rw [hy207]; with_reducible exact H) | (have H2_ := (Option.bind_some _ _).symm.trans H; rw [hy207]; with_reducible exact H2_) | (have H2_ := (Option.bind_some _ _).symm.trans H; with_reducible exact H2_) | with_reducible exact H | (rw [hy207]; exact H) | exact H
        have Ny207 := Aside0.mk hy207
        clear hy207
        have H' := Aside0.mk H
        clear H
        go_enter Tryz.func63, Tryz.ntmps63
        go_wp2_with (first | ((with_reducible refine gate_callee (f := 103) rfl ?_); refine goesL_ (some 10) rfl rfl Tryz.func103 (by kernel_rfl) rfl #[.slice A0 l0.length c0] rfl (by (try simp only [List.map_toArray, List.map_cons, List.map_nil]); first | done | rfl | (simp only [List.length_drop, List.length_take]; rfl)) ?_; (with_reducible refine (lexiphaneref1_Right.calls k _ _ l0 t206 _ ?side1 ?side2 A2.out).mono ?_); (case side1 => repeat (first | exact HR0.out | (with_reducible refine Kd.C_alloc ?_ _) | (with_reducible refine Kd.C_drewN ?_ _) | (with_reducible refine Kd.C_drew ?_))); (case side2 => exact HC0.out); rintro e w' ⟨rfl, ⟨nd, rfl⟩⟩; refine ⟨_, rfl, ?_⟩) | ((with_reducible refine gate_dst (N := 16) rfl ?_); refine Kd.R_make (Kd.int .i64) _ 3 rfl (N := 16) rfl 29 _ _ rfl (l0.length : Int) rfl rfl Tryz.underlying29 (.int .i64 0) 8 info3 rfl (by decide) (by omega) 0 (ok := fun _ => True) (okp := fun _ => True) rfl (fun _ hk => hk) trivial (of_decide_eq_true (by first | (with_reducible assumption) | assumption)) (Nat.le_trans (Nat.mul_le_mul_right _ (of_decide_eq_true (by first | (with_reducible assumption) | assumption) : (l0.length : Int).toNat ≤ 35184372088832)) (by omega)) (Below.refl _ _) (Nat.le_refl _) ?_; intro v208 w6 ho7 hb hg_ hnew_; clear hg_ hnew_; (first | rw [← Ny207.out] at ho7 | (simp only [Int.reduceToNat] at ho7; rw [← Ny207.out] at ho7)); have n0_ := Aside0.mk (Kd.R_lower ho7 (below_size (by repeat (first | (with_reducible first | exact HB.out | apply below_alloc | apply pw_below_drewN | apply below_drew1) | exact HB.out)))); have n1_ := Aside0.mk (below_step (by repeat (first | (with_reducible first | exact HB.out | apply below_alloc | apply pw_below_drewN | apply below_drew1) | exact HB.out)) hb); clear HB; have HO209 := n0_; have HB := n1_; clear n0_ n1_; clear hb ho7))
        go_loopg [6, 7] k (fun kq v6 v7 w' => ∃ (x5_1 : List Int) (x6_1 : Int) (x7_1 : Int), v6 = .int .i64 x6_1 ∧ v7 = .int .i64 x7_1 ∧ Aside0 (lexiphaneref1_Codes.l0 kq l0 x5_1 x6_1 x7_1 = some (r1, r2)) ∧ Aside0 (kq ≤ k) ∧ Aside0 (Kd.R (Kd.int .i64) 3 w' w.heap.size (fun _ => True) v208 x5_1) ∧ Aside0 (Below w.heap.size w w'))
        case atStart => exact ⟨(y207), (0), (1), (by first | rfl | (simp; done) | (simp [*]; done)), (by first | rfl | (simp; done) | (simp [*]; done)), H', ⟨Nat.le_refl _⟩, ⟨by (with_reducible repeat (first | apply Kd.R_alloc | apply Kd.R_drewN | apply Kd.R_drew)); exact HO209.out⟩, ⟨by repeat (first | (with_reducible first | exact HB.out | apply below_alloc | apply pw_below_drewN | apply below_drew1) | exact HB.out)⟩⟩
        case round =>
          clear H'
          try clear c1
          try clear p2
          try clear c3
          try clear c3b0
          try clear c3b1
          try clear c4
          try clear c4b0
          try clear c4b1
          try clear c5
          try clear c5b0
          try clear c5b1
          try clear c6
          obtain ⟨x5_1, x6_1, x7_1, rfl, rfl, HA, HK1, HO_5, HB⟩ := hrel
          cases gk with
          | zero => exact absurd HA.out (by simp [lexiphaneref1_Codes.l0])
          | succ k1 =>
            have H := HA.out
            clear HA
            simp only [lexiphaneref1_Codes.l0] at H
            by_cases c8 : x7_1 ≤ 15
            · rw [if_pos c8] at H
              have c8b0 : decide (x7_1 ≤ 15) = true := decide_eq_true c8
              clear c8
              have H' := Aside0.mk H
              clear H
              go_wp2
              go_loopg [6, 8] k1 (fun kq v6 v8 w' => ∃ (x5_2 : List Int) (x6_2 : Int) (x8_2 : Int), v6 = .int .i64 x6_2 ∧ v8 = .int .i64 x8_2 ∧ Aside0 (lexiphaneref1_Codes.l1 kq l0 x5_2 x6_2 x7_1 x8_2 = some (r1, r2)) ∧ Aside0 (kq ≤ k1) ∧ Aside0 (Kd.R (Kd.int .i64) 3 w' w.heap.size (fun _ => True) v208 x5_2) ∧ Aside0 (Below w.heap.size w w'))
              case atStart => exact ⟨(x5_1), (wrap64 (x6_1 * 2)), (0), (by first | rfl | (simp; done) | (simp [*]; done)), (by first | rfl | (simp; done) | (simp [*]; done)), H', ⟨Nat.le_refl _⟩, ⟨by (with_reducible repeat (first | apply Kd.R_alloc | apply Kd.R_drewN | apply Kd.R_drew)); exact HO_5.out⟩, ⟨by repeat (first | (with_reducible first | exact HB.out | apply below_alloc | apply pw_below_drewN | apply below_drew1) | exact HB.out)⟩⟩
              case round =>
                clear H'
                try clear c1
                try clear p2
                try clear c3
                try clear c3b0
                try clear c3b1
                try clear c4
                try clear c4b0
                try clear c4b1
                try clear c5
                try clear c5b0
                try clear c5b1
                try clear c6
                try clear p6
                try clear c8
                try clear c8b0
                try clear p2
                obtain ⟨x5_2, x6_2, x8_2, rfl, rfl, HA, HK2, HO_5, HB⟩ := hrel
                cases gk with
                | zero => exact absurd HA.out (by simp [lexiphaneref1_Codes.l1])
                | succ k2 =>
                  have H := HA.out
                  clear HA
                  simp only [lexiphaneref1_Codes.l1] at H
                  by_cases c9 : x8_2 < (l0.length : Int)
                  · rw [if_pos c9] at H
                    have c9b0 : decide (x8_2 < (l0.length : Int)) = true := decide_eq_true c9
                    clear c9
                    by_cases c10 : 0 ≤ x8_2
                    · rw [if_pos c10] at H
                      have c10b0 : decide (0 ≤ x8_2) = true := decide_eq_true c10
                      clear c10
                      by_cases c11 : (rd l0 x8_2) = x7_1
                      · rw [if_pos c11] at H
                        have c11b0 : ((rd l0 x8_2) == x7_1) = true := beq_iff_eq.mpr c11
                        have c11b1 : ((rd l0 x8_2) != x7_1) = false := bne_eq_false_iff_eq.mpr c11
                        clear c11
                        by_cases c12 : x8_2 < (x5_2.length : Int)
                        · rw [if_pos c12] at H
                          have c12b0 : decide (x8_2 < (x5_2.length : Int)) = true := decide_eq_true c12
                          clear c12
                          obtain ⟨y211, hy211⟩ : ∃ y_ : List Int, y_ = (x5_2.set (x8_2 : Int).toNat x6_2) := ⟨_, rfl⟩
                          replace H : (lexiphaneref1_Codes.l1 k2 l0 y211 (wrap64 (x6_2 + 1)) x7_1 (wrap64 (x8_2 + 1))) = some (r1, r2) := by first | (rw [hy211]; with_reducible exact H) | (have H2_ := (Option.bind_some _ _).symm.trans H; rw [hy211]; with_reducible exact H2_) | (have H2_ := (Option.bind_some _ _).symm.trans H; with_reducible exact H2_) | with_reducible exact H | (rw [hy211]; exact H) | exact H
                          have Ny211 := Aside0.mk hy211
                          clear hy211
                          have H' := Aside0.mk H
                          clear H
                          have p210 : 0 ≤ (x8_2 : Int) := of_decide_eq_true (by first | (with_reducible assumption) | assumption)
                          have q210 : x8_2 < (l0.length : Int) := of_decide_eq_true (by first | (with_reducible assumption) | assumption)
                          obtain ⟨ad210, e210, hx210_0⟩ := Kd.at_int HR0.out x8_2 p210 q210
                          cases e210
                          replace hx210_0 := (HB.out.cell (World.block_lt_of_cell? w _ hx210_0)).trans hx210_0
                          replace p210 := eq_true p210
                          replace q210 := eq_true q210
                          have p13 : 0 ≤ (x8_2 : Int) := of_decide_eq_true (by first | (with_reducible assumption) | assumption)
                          have q13 : (x8_2 : Int) < ((x5_2.length : Int) : Int) := of_decide_eq_true (by first | (with_reducible assumption) | assumption)
                          obtain ⟨go13, co13, eo13, gb13, gl13, cl13, HG13⟩ := Kd.R_form HO_5.out (by omega)
                          (first | cases eo13 | (injection eo13 with ea_ en_ ec_; (first | subst ea_ | (injection ea_ with ea_; subst ea_)); subst ec_; clear en_))
                          have GB13 := Aside0.mk gb13
                          have GG13 := Aside0.mk HG13
                          clear gb13 gl13 HG13
                          obtain ⟨hx13_0, hf13_0⟩ := Kd.R_celln 0 HO_5.out (x8_2 : Int) p13 q13
                          replace p13 := eq_true p13
                          replace q13 := eq_true q13
                          have HP14 := Kd.R_putg HO_5.out (x8_2 : Int) x6_2
                          go_wp2_with (first | ((with_reducible refine gate_store (t := 3) (p := 38) rfl ?_); refine store_event (t := 3) (p := 38) (v := ?vo_w15) (w1 := (wr.setCell ⟨go13, (x8_2 : Int).toNat, none⟩ (.int .i64 x6_2))) ?hg ?ho ?hn ?hr ?_; (case ho => rfl); (case hg => rfl); (case hn => rfl); (case hr => first | (go_simp; done) | (go_simp; rfl)); intro w15 hw; have hg : wr.grownBy w15 (some go13) := (by rw [hw]; exact HP14.2); have hp_ : Kd.R (Kd.int .i64) 3 w15 w.heap.size (fun _ => True) (.slice (some ⟨go13, 0, none⟩) x5_2.length co13) y211 := (by rw [hw, Ny211.out]; exact HP14.1); clear HP14; have n0_ := Aside0.mk (hp_); have n1_ := Aside0.mk ((by rw [hw]; exact below_set (HB.out) GB13.out : Below w.heap.size w w15)); clear HO_5; clear HB; have HO_5 := n0_; have HB := n1_; clear n0_ n1_; clear hg hw hp_))
                          go_roundg k2
                          case measure => have := HK1.out; have := HK2.out; omega
                          case rel => exact ⟨(y211), (wrap64 (x6_2 + 1)), (wrap64 (x8_2 + 1)), (by first | rfl | (simp; done) | (simp [*]; done)), (by first | rfl | (simp; done) | (simp [*]; done)), H', ⟨by have := HK1.out; have := HK2.out; omega⟩, ⟨by (with_reducible repeat (first | apply Kd.R_alloc | apply Kd.R_drewN | apply Kd.R_drew)); exact HO_5.out⟩, ⟨by repeat (first | (with_reducible first | exact HB.out | apply below_alloc | apply pw_below_drewN | apply below_drew1) | exact HB.out)⟩⟩
                        · rw [if_neg c12] at H
                          exact absurd H (by simp)
                      · rw [if_neg c11] at H
                        have c11b0 : ((rd l0 x8_2) == x7_1) = false := beq_eq_false_iff_ne.mpr c11
                        have c11b1 : ((rd l0 x8_2) != x7_1) = true := bne_iff_ne.mpr c11
                        have H' := Aside0.mk H
                        clear H
                        have p210 : 0 ≤ (x8_2 : Int) := of_decide_eq_true (by first | (with_reducible assumption) | assumption)
                        have q210 : x8_2 < (l0.length : Int) := of_decide_eq_true (by first | (with_reducible assumption) | assumption)
                        obtain ⟨ad210, e210, hx210_0⟩ := Kd.at_int HR0.out x8_2 p210 q210
                        cases e210
                        replace hx210_0 := (HB.out.cell (World.block_lt_of_cell? w _ hx210_0)).trans hx210_0
                        replace p210 := eq_true p210
                        replace q210 := eq_true q210
                        go_wp2
                        go_roundg k2
                        case measure => have := HK1.out; have := HK2.out; omega
                        case rel => exact ⟨(x5_2), (x6_2), (wrap64 (x8_2 + 1)), (by first | rfl | (simp; done) | (simp [*]; done)), (by first | rfl | (simp; done) | (simp [*]; done)), H', ⟨by have := HK1.out; have := HK2.out; omega⟩, ⟨by (with_reducible repeat (first | apply Kd.R_alloc | apply Kd.R_drewN | apply Kd.R_drew)); exact HO_5.out⟩, ⟨by repeat (first | (with_reducible first | exact HB.out | apply below_alloc | apply pw_below_drewN | apply below_drew1) | exact HB.out)⟩⟩
                    · rw [if_neg c10] at H
                      exact absurd H (by simp)
                  · rw [if_neg c9] at H
                    have c9b0 : decide (x8_2 < (l0.length : Int)) = false := decide_eq_false c9
                    clear c9
                    have H' := Aside0.mk H
                    clear H
                    go_wp2
                    go_roundg k2
                    case measure => have := HK1.out; have := HK2.out; omega
                    case rel => exact ⟨(x5_2), (x6_2), (wrap64 (x7_1 + 1)), (by first | rfl | (simp; done) | (simp [*]; done)), (by first | rfl | (simp; done) | (simp [*]; done)), H', ⟨by have := HK1.out; have := HK2.out; omega⟩, ⟨by (with_reducible repeat (first | apply Kd.R_alloc | apply Kd.R_drewN | apply Kd.R_drew)); exact HO_5.out⟩, ⟨by repeat (first | (with_reducible first | exact HB.out | apply below_alloc | apply pw_below_drewN | apply below_drew1) | exact HB.out)⟩⟩
            · rw [if_neg c8] at H
              have c8b0 : decide (x7_1 ≤ 15) = false := decide_eq_false c8
              clear c8
              simp only [Option.some.injEq, Prod.mk.injEq] at H
              obtain ⟨rfl, rfl⟩ := H
              go_wp2
              go_ret2
              exact ⟨_, by first | rfl | (simp [errW_none, errW_some] <;> rfl) | (simp [*, errW_none, errW_some] <;> rfl), by (with_reducible repeat (first | apply Kd.R_alloc | apply Kd.R_drewN | apply Kd.R_drew)); exact HO_5.out, by repeat (first | (with_reducible first | exact HB.out | apply below_alloc | apply pw_below_drewN | apply below_drew1) | exact HB.out)⟩
      · rw [if_neg c5] at H
        exact absurd H (by simp)
    · rw [if_neg c4] at H
      exact absurd H (by simp)
  · rw [if_neg c3] at H
    have c3b0 : (t206 == 0) = false := beq_eq_false_iff_ne.mpr c3
    have c3b1 : (t206 != 0) = true := bne_iff_ne.mpr c3
    simp only [Option.some.injEq, Prod.mk.injEq] at H
    obtain ⟨rfl, rfl⟩ := H
    go_enter Tryz.func63, Tryz.ntmps63
    go_wp2_with (first | ((with_reducible refine gate_callee (f := 103) rfl ?_); refine goesL_ (some 10) rfl rfl Tryz.func103 (by kernel_rfl) rfl #[.slice A0 l0.length c0] rfl (by (try simp only [List.map_toArray, List.map_cons, List.map_nil]); first | done | rfl | (simp only [List.length_drop, List.length_take]; rfl)) ?_; (with_reducible refine (lexiphaneref1_Right.calls k _ _ l0 t206 _ ?side1 ?side2 A2.out).mono ?_); (case side1 => repeat (first | exact HR0.out | (with_reducible refine Kd.C_alloc ?_ _) | (with_reducible refine Kd.C_drewN ?_ _) | (with_reducible refine Kd.C_drew ?_))); (case side2 => exact HC0.out); rintro e w' ⟨rfl, ⟨nd, rfl⟩⟩; refine ⟨_, rfl, ?_⟩))
    go_ret2
    exact ⟨_, by first | rfl | (simp [errW_none, errW_some] <;> rfl) | (simp [*, errW_none, errW_some] <;> rfl), by first | exact Kd.R_nil _ _ _ _ _ | exact Kd.N_nil _ _ _ _ _ | exact Kd.V_nil _ _ _ _ _ | exact Kd.Q_nil _ _ _ _ _ | exact Kd.S_nil _ _ _ _ _, by repeat (first | (with_reducible first | exact HB.out | apply below_alloc | apply pw_below_drewN | apply below_drew1) | exact HB.out)⟩


/-! ### lexiphaneref1_Means: function 66 -/
def lexiphaneref1_Means.j0 : Nat → List ByteArray → Int → Bool → Option (ByteArray × Bool)
  | 0, _, _, _ => none
  | k + 1, x0, x1, x14 => if x14 = true then (some ((⟨#[]⟩ : ByteArray), false)) else (if x1 < 256 then (some (strOfNums (([(x1) % 256] : List Int)), true)) else (if 0 ≤ (wrap64 (x1 - 256)) then (if (wrap64 (x1 - 256)) < (x0.length : Int) then (some (rdOf ByteArray.empty x0 (wrap64 (x1 - 256)), true)) else (none)) else (none)))
def lexiphaneref1_Means.f (k : Nat) (l0 : List ByteArray) (a1 : Int) : Option (ByteArray × Bool) := if a1 < 0 then (lexiphaneref1_Means.j0 k l0 a1 true) else (lexiphaneref1_Means.j0 k l0 a1 (decide (a1 ≥ (wrap64 (256 + (l0.length : Int))))))
theorem lexiphaneref1_Means.mono_l : ∀ k, (∀ y0 y1 y2, LeO (lexiphaneref1_Means.j0 k y0 y1 y2) (lexiphaneref1_Means.j0 (k + 1) y0 y1 y2))
  | 0 => fun _ _ _ r h => by simp [lexiphaneref1_Means.j0] at h
  | k + 1 => by
    have ih0 := lexiphaneref1_Means.mono_l k
    · intro y0 y1 y2
      unfold lexiphaneref1_Means.j0
      repeat' first
      | (with_reducible exact ih0 _ _ _)
      | (with_reducible exact LeO.refl _)
      | (with_reducible exact LeO.none _)
      | (with_reducible refine LeO.ite ?_ ?_)
      | (with_reducible refine LeO.bind ?_ (fun _ => ?_))
      | exact ih0 _ _ _
      | exact LeO.none _
      | refine LeO.ite ?_ ?_
      | refine LeO.bind ?_ (fun _ => ?_)
theorem lexiphaneref1_Means.mono : ∀ a0 a1 k, LeO (lexiphaneref1_Means.f k a0 a1) (lexiphaneref1_Means.f (k + 1) a0 a1) := by
  intro a0 a1 k
  have ih0 := lexiphaneref1_Means.mono_l k
  unfold lexiphaneref1_Means.f
  repeat' first
      | (with_reducible exact ih0 _ _ _)
      | (with_reducible exact LeO.refl _)
      | (with_reducible exact LeO.none _)
      | (with_reducible refine LeO.ite ?_ ?_)
      | (with_reducible refine LeO.bind ?_ (fun _ => ?_))
      | exact ih0 _ _ _
      | exact LeO.none _
      | refine LeO.ite ?_ ?_
      | refine LeO.bind ?_ (fun _ => ?_)
set_option maxHeartbeats 8000000 in
set_option maxRecDepth 100000 in
theorem lexiphaneref1_Means.calls (k : Nat) (A0 : Option Addr) (c0 : Nat) (l0 : List ByteArray) (a1 : Int) (r1 : ByteArray) (r2 : Bool) (w : World) (hr0 : Kd.C Kd.string w A0 l0.length l0) (hc0 : l0.length ≤ c0) (h : lexiphaneref1_Means.f k l0 a1 = some (r1, r2)) :
    Calls Tryz.prog 66 #[.slice A0 l0.length c0, .int .i64 a1] w fun e w' => e = .returned (.tuple #[.string r1, .bool r2]) ∧ Below w.heap.size w w' := by
  have HR0 := Aside0.mk hr0
  have HC0 := Aside0.mk hc0
  clear hr0 hc0
  have HB := Aside0.mk (Below.refl w.heap.size w)
  have H : (if a1 < 0 then (lexiphaneref1_Means.j0 k l0 a1 true) else (lexiphaneref1_Means.j0 k l0 a1 (decide (a1 ≥ (wrap64 (256 + (l0.length : Int))))))) = some (r1, r2) := h
  clear h
  have HC3 := Aside0.mk H
  clear H
  go_enter Tryz.func66, Tryz.ntmps66
  go_upto_region 1 with (fail)
  go_cut [14] (fun v14 wc => ∃ (kq : Nat) (x14_2 : Bool), v14 = .bool x14_2 ∧ Aside0 (lexiphaneref1_Means.j0 kq l0 a1 x14_2 = some (r1, r2)) ∧ Aside0 (kq ≤ k) ∧ Aside0 (Below w.heap.size w wc))
  case first =>
    have H := HC3.out
    clear HC3
    by_cases c4 : a1 < 0
    · rw [if_pos c4] at H
      have c4b0 : decide (a1 < 0) = true := decide_eq_true c4
      clear c4
      (first | rw [c4b0] | (simp only [i64_w, i32_w]; rw [c4b0]) | skip)
      have H' := Aside0.mk H
      clear H
      go_wp2
      go_meet
      case rel => exact ⟨_, (true), (by first | rfl | (simp; done) | (simp [*]; done)), H', ⟨by first | omega | exact Nat.le_refl _⟩, ⟨by repeat (first | (with_reducible first | exact HB.out | apply below_alloc | apply pw_below_drewN | apply below_drew1) | exact HB.out)⟩⟩
    · rw [if_neg c4] at H
      have c4b0 : decide (a1 < 0) = false := decide_eq_false c4
      clear c4
      (first | rw [c4b0] | (simp only [i64_w, i32_w]; rw [c4b0]) | skip)
      have H' := Aside0.mk H
      clear H
      go_wp2
      go_meet
      case rel => exact ⟨_, (decide (a1 ≥ (wrap64 (256 + (l0.length : Int))))), (by first | rfl | (simp; done) | (simp [*]; done)), H', ⟨by first | omega | exact Nat.le_refl _⟩, ⟨by repeat (first | (with_reducible first | exact HB.out | apply below_alloc | apply pw_below_drewN | apply below_drew1) | exact HB.out)⟩⟩
  case rest =>
    clear HC3
    try clear p2
    try clear c4
    try clear c4b0
    obtain ⟨kq, x14_2, rfl, HA, HJ2, HB⟩ := hcut
    cases kq with
    | zero => exact absurd HA.out (by simp [lexiphaneref1_Means.j0])
    | succ kj2 =>
      have H := HA.out
      clear HA
      simp only [lexiphaneref1_Means.j0] at H
      by_cases c5 : x14_2 = true
      · subst c5
        have H1 : (some ((⟨#[]⟩ : ByteArray), false)) = some (r1, r2) := by rw [if_pos rfl] at H; exact H
        clear H
        have H := H1
        clear H1
        simp only [Option.some.injEq, Prod.mk.injEq] at H
        obtain ⟨rfl, rfl⟩ := H
        go_wp2
        go_ret2
        exact ⟨by first | rfl | (simp [errW_none, errW_some] <;> rfl) | (simp [*, errW_none, errW_some] <;> rfl), by repeat (first | (with_reducible first | exact HB.out | apply below_alloc | apply pw_below_drewN | apply below_drew1) | exact HB.out)⟩
      · replace c5 := Bool.eq_false_iff.mpr c5
        subst c5
        have H1 : (if a1 < 256 then (some (strOfNums (([(a1) % 256] : List Int)), true)) else (if 0 ≤ (wrap64 (a1 - 256)) then (if (wrap64 (a1 - 256)) < (l0.length : Int) then (some (rdOf ByteArray.empty l0 (wrap64 (a1 - 256)), true)) else (none)) else (none))) = some (r1, r2) := by rw [if_neg (show ¬ (false = true) by decide)] at H; exact H
        clear H
        have H := H1
        clear H1
        by_cases c6 : a1 < 256
        · rw [if_pos c6] at H
          have c6b0 : decide (a1 < 256) = true := decide_eq_true c6
          clear c6
          obtain ⟨y212, hy212⟩ : ∃ y_ : List Int, y_ = (([(a1) % 256] : List Int)) := ⟨_, rfl⟩
          replace H : (some (strOfNums y212, true)) = some (r1, r2) := by first | (rw [hy212]; with_reducible exact H) | (have H2_ := (Option.bind_some _ _).symm.trans H; rw [hy212]; with_reducible exact H2_) | (have H2_ := (Option.bind_some _ _).symm.trans H; with_reducible exact H2_) | with_reducible exact H | (rw [hy212]; exact H) | exact H
          have Ny212 := Aside0.mk hy212
          clear hy212
          simp only [Option.some.injEq, Prod.mk.injEq] at H
          obtain ⟨rfl, rfl⟩ := H
          go_wp2_with (first | ((with_reducible refine gate_dst (N := 19) rfl ?_); (try (refine gate_guard (by rfl) ?_; dsimp only)); refine Kd.R_lit (Kd.int .u8) _ 5 ?hg (N := 19) ?hd (xs := ([(a1) % 256] : List Int)) (inner := [.int .u8 ((a1) % 256)]) (ok := fun _ => True) (okp := fun _ => True) ?hr ?hp (fun _ hk => hk) trivial (Below.refl _ _) (Nat.le_refl _) (by simp) ?_; (case hd => rfl); (case hg => rfl); (case hr => first | (go_simp; done) | (go_simp; rfl)); (case hp => exact (Reps.one (show Kd.M (Kd.int .u8) _ _ _ ((a1) % 256) [.int .u8 ((a1) % 256)] from rfl) (Reps.none _ _))); intro v213 w7 ho8 hb hg_ hnew_; clear hg_ hnew_; (first | rw [← Ny212.out] at ho8 | (simp only [Int.reduceToNat] at ho8; rw [← Ny212.out] at ho8)); have n0_ := Aside0.mk (Kd.R_lower ho8 (below_size (by repeat (first | (with_reducible first | exact HB.out | apply below_alloc | apply pw_below_drewN | apply below_drew1) | exact HB.out)))); have n1_ := Aside0.mk (below_step (by repeat (first | (with_reducible first | exact HB.out | apply below_alloc | apply pw_below_drewN | apply below_drew1) | exact HB.out)) hb); clear HB; have HO214 := n0_; have HB := n1_; clear n0_ n1_; clear hb ho8; have hcv9 := own_string (P := Tryz.prog) Tryz.underlying57 Tryz.underlying5 Tryz.underlying9 (Kd.own_of_R HO214.out)))
          go_ret2
          exact ⟨by first | rfl | (simp [errW_none, errW_some] <;> rfl) | (simp [*, errW_none, errW_some] <;> rfl), by repeat (first | (with_reducible first | exact HB.out | apply below_alloc | apply pw_below_drewN | apply below_drew1) | exact HB.out)⟩
        · rw [if_neg c6] at H
          have c6b0 : decide (a1 < 256) = false := decide_eq_false c6
          clear c6
          obtain ⟨ji10, hji10⟩ : ∃ j_ : Int, (wrap64 (a1 - 256)) = j_ := ⟨_, rfl⟩
          replace H : (if 0 ≤ (ji10) then (if (ji10) < (l0.length : Int) then (some (rdOf ByteArray.empty l0 (ji10), true)) else (none)) else (none)) = some (r1, r2) := by first | (rw [hji10] at H; exact H) | (simp only [hji10] at H ⊢; exact H)
          have hji10w : (IntKind.i64.wrap (a1 - 256)) = ji10 := (i64_w _).trans hji10
          by_cases c11 : 0 ≤ (ji10)
          · rw [if_pos c11] at H
            have c11b0 : decide (0 ≤ (ji10)) = true := decide_eq_true c11
            clear c11
            by_cases c12 : (ji10) < (l0.length : Int)
            · rw [if_pos c12] at H
              have c12b0 : decide ((ji10) < (l0.length : Int)) = true := decide_eq_true c12
              clear c12
              simp only [Option.some.injEq, Prod.mk.injEq] at H
              obtain ⟨rfl, rfl⟩ := H
              have p215 : 0 ≤ ((ji10) : Int) := of_decide_eq_true (by first | (with_reducible assumption) | assumption)
              have q215 : (ji10) < (l0.length : Int) := of_decide_eq_true (by first | (with_reducible assumption) | assumption)
              obtain ⟨ad215, e215, hx215_0⟩ := Kd.at_string HR0.out (ji10) p215 q215
              cases e215
              replace hx215_0 := (HB.out.cell (World.block_lt_of_cell? w _ hx215_0)).trans hx215_0
              replace p215 := eq_true p215
              replace q215 := eq_true q215
              go_wp2
              go_ret2
              exact ⟨by first | rfl | (simp [errW_none, errW_some] <;> rfl) | (simp only [← hji10]; first | rfl | (simp [errW_none, errW_some] <;> rfl)) | (simp [*, errW_none, errW_some] <;> rfl), by repeat (first | (with_reducible first | exact HB.out | apply below_alloc | apply pw_below_drewN | apply below_drew1) | exact HB.out)⟩
            · rw [if_neg c12] at H
              exact absurd H (by simp)
          · rw [if_neg c11] at H
            exact absurd H (by simp)


/-! ### lexiphaneref1_Unnumber: function 104 -/
mutual
def lexiphaneref1_Unnumber.l0 : Nat → ByteArray → Int → Int → Int → Option (Int × Int × Int)
  | 0, _, _, _, _ => none
  | k + 1, x0, x5, x6, x7 => if x7 = (x0.size : Int) then (some (0, 0, 2)) else (if 0 ≤ x7 then (if x7 < (x0.size : Int) then (if x7 = 4 then (lexiphaneref1_Unnumber.j1 k x0 x5 x6 x7 (wrap64 (bt x0 x7)) (decide ((wrap64 (bt x0 x7)) > 15))) else (lexiphaneref1_Unnumber.j1 k x0 x5 x6 x7 (wrap64 (bt x0 x7)) false)) else (none)) else (none))
def lexiphaneref1_Unnumber.j1 : Nat → ByteArray → Int → Int → Int → Int → Bool → Option (Int × Int × Int)
  | 0, _, _, _, _, _, _ => none
  | k + 1, x0, x5, x6, x7, x8, x24 => if x24 = true then (some (0, 0, 4)) else (if x8 < 128 then (if x8 = 0 then (if x7 > 0 then (some (0, 0, 3)) else (some (wrap64 (x5 + (wrap64 ((Int.tmod x8 128) * x6))), wrap64 (x7 + 1), 0))) else (some (wrap64 (x5 + (wrap64 ((Int.tmod x8 128) * x6))), wrap64 (x7 + 1), 0))) else (lexiphaneref1_Unnumber.l0 k x0 (wrap64 (x5 + (wrap64 ((Int.tmod x8 128) * x6)))) (wrap64 (x6 * 128)) (wrap64 (x7 + 1))))
end
def lexiphaneref1_Unnumber.f (k : Nat) (a0 : ByteArray) : Option (Int × Int × Int) := lexiphaneref1_Unnumber.l0 k a0 0 1 0
theorem lexiphaneref1_Unnumber.mono_l : ∀ k, (∀ y0 y1 y2 y3, LeO (lexiphaneref1_Unnumber.l0 k y0 y1 y2 y3) (lexiphaneref1_Unnumber.l0 (k + 1) y0 y1 y2 y3)) ∧ (∀ y0 y1 y2 y3 y4 y5, LeO (lexiphaneref1_Unnumber.j1 k y0 y1 y2 y3 y4 y5) (lexiphaneref1_Unnumber.j1 (k + 1) y0 y1 y2 y3 y4 y5))
  | 0 => ⟨fun _ _ _ _ r h => by simp [lexiphaneref1_Unnumber.l0] at h, fun _ _ _ _ _ _ r h => by simp [lexiphaneref1_Unnumber.j1] at h⟩
  | k + 1 => by
    obtain ⟨ih0, ih1⟩ := lexiphaneref1_Unnumber.mono_l k
    refine ⟨?_, ?_⟩
    · intro y0 y1 y2 y3
      unfold lexiphaneref1_Unnumber.l0
      repeat' first
      | (with_reducible exact ih0 _ _ _ _)
      | (with_reducible exact ih1 _ _ _ _ _ _)
      | (with_reducible exact LeO.refl _)
      | (with_reducible exact LeO.none _)
      | (with_reducible refine LeO.ite ?_ ?_)
      | (with_reducible refine LeO.bind ?_ (fun _ => ?_))
      | exact ih0 _ _ _ _
      | exact ih1 _ _ _ _ _ _
      | exact LeO.none _
      | refine LeO.ite ?_ ?_
      | refine LeO.bind ?_ (fun _ => ?_)
    · intro y0 y1 y2 y3 y4 y5
      unfold lexiphaneref1_Unnumber.j1
      repeat' first
      | (with_reducible exact ih0 _ _ _ _)
      | (with_reducible exact ih1 _ _ _ _ _ _)
      | (with_reducible exact LeO.refl _)
      | (with_reducible exact LeO.none _)
      | (with_reducible refine LeO.ite ?_ ?_)
      | (with_reducible refine LeO.bind ?_ (fun _ => ?_))
      | exact ih0 _ _ _ _
      | exact ih1 _ _ _ _ _ _
      | exact LeO.none _
      | refine LeO.ite ?_ ?_
      | refine LeO.bind ?_ (fun _ => ?_)
theorem lexiphaneref1_Unnumber.mono : ∀ a0 k, LeO (lexiphaneref1_Unnumber.f k a0) (lexiphaneref1_Unnumber.f (k + 1) a0) := by
  intro a0 k
  obtain ⟨ih0, ih1⟩ := lexiphaneref1_Unnumber.mono_l k
  unfold lexiphaneref1_Unnumber.f
  repeat' first
      | (with_reducible exact ih0 _ _ _ _)
      | (with_reducible exact ih1 _ _ _ _ _ _)
      | (with_reducible exact LeO.refl _)
      | (with_reducible exact LeO.none _)
      | (with_reducible refine LeO.ite ?_ ?_)
      | (with_reducible refine LeO.bind ?_ (fun _ => ?_))
      | exact ih0 _ _ _ _
      | exact ih1 _ _ _ _ _ _
      | exact LeO.none _
      | refine LeO.ite ?_ ?_
      | refine LeO.bind ?_ (fun _ => ?_)
set_option maxHeartbeats 8000000 in
set_option maxRecDepth 100000 in
theorem lexiphaneref1_Unnumber.calls (k : Nat) (a0 : ByteArray) (r1 : Int) (r2 : Int) (r3 : Int) (w : World) (h : lexiphaneref1_Unnumber.f k a0 = some (r1, r2, r3)) :
    Calls Tryz.prog 104 #[.string a0] w fun e w' => e = .returned (.tuple #[.int .i64 r1, .int .i64 r2, .int .i64 r3]) ∧ Drawn0 w w' := by
  have H : (lexiphaneref1_Unnumber.l0 k a0 0 1 0) = some (r1, r2, r3) := h
  clear h
  have H' := Aside0.mk H
  clear H
  go_enter Tryz.func104, Tryz.ntmps104
  go_wp2
  go_loopg [5, 6, 7] k (fun kq v5 v6 v7 w' => ∃ (x5_1 : Int) (x6_1 : Int) (x7_1 : Int), v5 = .int .i64 x5_1 ∧ v6 = .int .i64 x6_1 ∧ v7 = .int .i64 x7_1 ∧ Aside0 (lexiphaneref1_Unnumber.l0 kq a0 x5_1 x6_1 x7_1 = some (r1, r2, r3)) ∧ Aside0 (kq ≤ k) ∧ Drawn0 w w')
  case atStart => exact ⟨(0), (1), (0), (by first | rfl | (simp; done) | (simp [*]; done)), (by first | rfl | (simp; done) | (simp [*]; done)), (by first | rfl | (simp; done) | (simp [*]; done)), H', ⟨Nat.le_refl _⟩, by repeat (first | exact Drawn0.refl _ | apply Drawn0.step)⟩
  case round =>
    clear H'
    try clear c1
    obtain ⟨x5_1, x6_1, x7_1, rfl, rfl, rfl, HA, HK1, ⟨m1, rfl⟩⟩ := hrel
    cases gk with
    | zero => exact absurd HA.out (by simp [lexiphaneref1_Unnumber.l0])
    | succ k1 =>
      have H := HA.out
      clear HA
      simp only [lexiphaneref1_Unnumber.l0] at H
      by_cases c2 : x7_1 = (a0.size : Int)
      · rw [if_pos c2] at H
        have c2b0 : (x7_1 == (a0.size : Int)) = true := beq_iff_eq.mpr c2
        have c2b1 : (x7_1 != (a0.size : Int)) = false := bne_eq_false_iff_eq.mpr c2
        clear c2
        simp only [Option.some.injEq, Prod.mk.injEq] at H
        obtain ⟨rfl, rfl, rfl⟩ := H
        go_wp2
        go_ret3
        exact ⟨by first | rfl | (simp; done) | (simp [*]; done), by repeat (first | exact Drawn0.refl _ | apply Drawn0.step)⟩
      · rw [if_neg c2] at H
        have c2b0 : (x7_1 == (a0.size : Int)) = false := beq_eq_false_iff_ne.mpr c2
        have c2b1 : (x7_1 != (a0.size : Int)) = true := bne_iff_ne.mpr c2
        by_cases c3 : 0 ≤ x7_1
        · rw [if_pos c3] at H
          have c3b0 : decide (0 ≤ x7_1) = true := decide_eq_true c3
          clear c3
          by_cases c4 : x7_1 < (a0.size : Int)
          · rw [if_pos c4] at H
            have c4b0 : decide (x7_1 < (a0.size : Int)) = true := decide_eq_true c4
            clear c4
            have HC6 := Aside0.mk H
            clear H
            have p5 : 0 ≤ (x7_1 : Int) := of_decide_eq_true (by first | (with_reducible assumption) | assumption)
            have q5 : x7_1 < (a0.size : Int) := of_decide_eq_true (by first | (with_reducible assumption) | assumption)
            have hx5 := bt_at a0 x7_1
            replace p5 := eq_true p5
            replace q5 := eq_true q5
            go_upto_region 7 with (fail)
            go_cut [24] (fun v24 wc => ∃ (kq : Nat) (x24_5 : Bool), v24 = .bool x24_5 ∧ Aside0 (lexiphaneref1_Unnumber.j1 kq a0 x5_1 x6_1 x7_1 (wrap64 (bt a0 x7_1)) x24_5 = some (r1, r2, r3)) ∧ Aside0 (kq ≤ k1) ∧ Drawn0 w wc)
            case first =>
              have H := HC6.out
              clear HC6
              by_cases c7 : x7_1 = 4
              · rw [if_pos c7] at H
                have c7b0 : (x7_1 == 4) = true := beq_iff_eq.mpr c7
                have c7b1 : (x7_1 != 4) = false := bne_eq_false_iff_eq.mpr c7
                clear c7
                (first | rw [c7b0] | (simp only [i64_w, i32_w]; rw [c7b0]) | skip)
                have H' := Aside0.mk H
                clear H
                go_wp2
                go_meet
                case rel => exact ⟨_, (decide ((wrap64 (bt a0 x7_1)) > 15)), (by first | rfl | (simp; done) | (simp [*]; done)), H', ⟨by have := HK1.out; first | omega | exact Nat.le_refl _⟩, by repeat (first | exact Drawn0.refl _ | apply Drawn0.step)⟩
              · rw [if_neg c7] at H
                have c7b0 : (x7_1 == 4) = false := beq_eq_false_iff_ne.mpr c7
                have c7b1 : (x7_1 != 4) = true := bne_iff_ne.mpr c7
                (first | rw [c7b0] | (simp only [i64_w, i32_w]; rw [c7b0]) | skip)
                have H' := Aside0.mk H
                clear H
                go_wp2
                go_meet
                case rel => exact ⟨_, (false), (by first | rfl | (simp; done) | (simp [*]; done)), H', ⟨by have := HK1.out; first | omega | exact Nat.le_refl _⟩, by repeat (first | exact Drawn0.refl _ | apply Drawn0.step)⟩
            case rest =>
              clear HC6
              try clear c1
              try clear c2
              try clear c2b0
              try clear c2b1
              try clear p2
              try clear c3
              try clear c3b0
              try clear c4
              try clear c4b0
              try clear p5
              try clear q5
              try clear hx5
              try clear p6
              try clear c7
              try clear c7b0
              try clear c7b1
              try clear p5
              try clear q5
              obtain ⟨kq, x24_5, rfl, HA, HJ5, ⟨mc5, rfl⟩⟩ := hcut
              cases kq with
              | zero => exact absurd HA.out (by simp [lexiphaneref1_Unnumber.j1])
              | succ kj5 =>
                have H := HA.out
                clear HA
                simp only [lexiphaneref1_Unnumber.j1] at H
                by_cases c8 : x24_5 = true
                · subst c8
                  have H1 : (some (0, 0, 4)) = some (r1, r2, r3) := by rw [if_pos rfl] at H; exact H
                  clear H
                  have H := H1
                  clear H1
                  simp only [Option.some.injEq, Prod.mk.injEq] at H
                  obtain ⟨rfl, rfl, rfl⟩ := H
                  go_wp2
                  go_ret3
                  exact ⟨by first | rfl | (simp; done) | (simp [*]; done), by repeat (first | exact Drawn0.refl _ | apply Drawn0.step)⟩
                · replace c8 := Bool.eq_false_iff.mpr c8
                  subst c8
                  have H1 : (if (wrap64 (bt a0 x7_1)) < 128 then (if (wrap64 (bt a0 x7_1)) = 0 then (if x7_1 > 0 then (some (0, 0, 3)) else (some (wrap64 (x5_1 + (wrap64 ((Int.tmod (wrap64 (bt a0 x7_1)) 128) * x6_1))), wrap64 (x7_1 + 1), 0))) else (some (wrap64 (x5_1 + (wrap64 ((Int.tmod (wrap64 (bt a0 x7_1)) 128) * x6_1))), wrap64 (x7_1 + 1), 0))) else (lexiphaneref1_Unnumber.l0 kj5 a0 (wrap64 (x5_1 + (wrap64 ((Int.tmod (wrap64 (bt a0 x7_1)) 128) * x6_1)))) (wrap64 (x6_1 * 128)) (wrap64 (x7_1 + 1)))) = some (r1, r2, r3) := by rw [if_neg (show ¬ (false = true) by decide)] at H; exact H
                  clear H
                  have H := H1
                  clear H1
                  by_cases c9 : (wrap64 (bt a0 x7_1)) < 128
                  · rw [if_pos c9] at H
                    have c9b0 : decide ((wrap64 (bt a0 x7_1)) < 128) = true := decide_eq_true c9
                    clear c9
                    by_cases c10 : (wrap64 (bt a0 x7_1)) = 0
                    · rw [if_pos c10] at H
                      have c10b0 : ((wrap64 (bt a0 x7_1)) == 0) = true := beq_iff_eq.mpr c10
                      have c10b1 : ((wrap64 (bt a0 x7_1)) != 0) = false := bne_eq_false_iff_eq.mpr c10
                      clear c10
                      by_cases c11 : x7_1 > 0
                      · rw [if_pos c11] at H
                        have c11b0 : decide (0 < x7_1) = true := decide_eq_true c11
                        clear c11
                        simp only [Option.some.injEq, Prod.mk.injEq] at H
                        obtain ⟨rfl, rfl, rfl⟩ := H
                        go_wp2
                        go_ret3
                        exact ⟨by first | rfl | (simp; done) | (simp [*]; done), by repeat (first | exact Drawn0.refl _ | apply Drawn0.step)⟩
                      · rw [if_neg c11] at H
                        have c11b0 : decide (0 < x7_1) = false := decide_eq_false c11
                        clear c11
                        simp only [Option.some.injEq, Prod.mk.injEq] at H
                        obtain ⟨rfl, rfl, rfl⟩ := H
                        go_wp2
                        go_ret3
                        exact ⟨by first | rfl | (simp; done) | (simp [*]; done), by repeat (first | exact Drawn0.refl _ | apply Drawn0.step)⟩
                    · rw [if_neg c10] at H
                      have c10b0 : ((wrap64 (bt a0 x7_1)) == 0) = false := beq_eq_false_iff_ne.mpr c10
                      have c10b1 : ((wrap64 (bt a0 x7_1)) != 0) = true := bne_iff_ne.mpr c10
                      simp only [Option.some.injEq, Prod.mk.injEq] at H
                      obtain ⟨rfl, rfl, rfl⟩ := H
                      go_wp2
                      go_ret3
                      exact ⟨by first | rfl | (simp; done) | (simp [*]; done), by repeat (first | exact Drawn0.refl _ | apply Drawn0.step)⟩
                  · rw [if_neg c9] at H
                    have c9b0 : decide ((wrap64 (bt a0 x7_1)) < 128) = false := decide_eq_false c9
                    clear c9
                    have H' := Aside0.mk H
                    clear H
                    go_wp2
                    go_roundg kj5
                    case measure => have := HK1.out; have := HJ5.out; omega
                    case rel => exact ⟨(wrap64 (x5_1 + (wrap64 ((Int.tmod (wrap64 (bt a0 x7_1)) 128) * x6_1)))), (wrap64 (x6_1 * 128)), (wrap64 (x7_1 + 1)), (by first | rfl | (simp; done) | (simp [*]; done)), (by first | rfl | (simp; done) | (simp [*]; done)), (by first | rfl | (simp; done) | (simp [*]; done)), H', ⟨by have := HK1.out; have := HJ5.out; omega⟩, by repeat (first | exact Drawn0.refl _ | apply Drawn0.step)⟩
          · rw [if_neg c4] at H
            exact absurd H (by simp)
        · rw [if_neg c3] at H
          exact absurd H (by simp)


/-! ### lexiphaneref1_numbers: function 67 -/
def lexiphaneref1_numbers.l0 : Nat → List ByteArray → Int → ByteArray → ByteArray → Option (ByteArray × Int)
  | 0, _, _, _, _ => none
  | k + 1, x0, x1, x2, x8 => if (x8.size : Int) < x1 then ((lexiphaneref1_Unnumber.f k x2).bind fun bt216 => (if bt216.2.2 = 0 then (if 0 ≤ bt216.2.1 then (if bt216.2.1 ≤ (x2.size : Int) then ((lexiphaneref1_Means.f k x0 bt216.1).bind fun bt219 => (if bt219.2 = true then (if (wrap64 ((x8.size : Int) + (bt219.1.size : Int))) > x1 then (some ((⟨#[]⟩ : ByteArray), 12)) else (if x8.size + bt219.1.size ≤ 9223372036854775807 then (lexiphaneref1_numbers.l0 k x0 x1 (x2.extract (bt216.2.1 : Int).toNat x2.size) (x8 ++ bt219.1)) else (none))) else (some ((⟨#[]⟩ : ByteArray), 9)))) else (none)) else (none)) else (some ((⟨#[]⟩ : ByteArray), bt216.2.2)))) else (if x2.toList = ([] : List UInt8) then (some (x8, 0)) else (some ((⟨#[]⟩ : ByteArray), 13)))
def lexiphaneref1_numbers.f (k : Nat) (l0 : List ByteArray) (a1 : Int) (a2 : ByteArray) : Option (ByteArray × Int) := lexiphaneref1_numbers.l0 k l0 a1 a2 (⟨#[]⟩ : ByteArray)
theorem lexiphaneref1_numbers.mono_l : ∀ k, (∀ y0 y1 y2 y3, LeO (lexiphaneref1_numbers.l0 k y0 y1 y2 y3) (lexiphaneref1_numbers.l0 (k + 1) y0 y1 y2 y3))
  | 0 => fun _ _ _ _ r h => by simp [lexiphaneref1_numbers.l0] at h
  | k + 1 => by
    have ih0 := lexiphaneref1_numbers.mono_l k
    · intro y0 y1 y2 y3
      unfold lexiphaneref1_numbers.l0
      repeat' first
      | (with_reducible exact ih0 _ _ _ _)
      | (with_reducible exact lexiphaneref1_Means.mono _ _ _)
      | (with_reducible exact lexiphaneref1_Unnumber.mono _ _)
      | (with_reducible exact LeO.refl _)
      | (with_reducible exact LeO.none _)
      | (with_reducible refine LeO.ite ?_ ?_)
      | (with_reducible refine LeO.bind ?_ (fun _ => ?_))
      | exact ih0 _ _ _ _
      | exact lexiphaneref1_Means.mono _ _ _
      | exact lexiphaneref1_Unnumber.mono _ _
      | exact LeO.none _
      | refine LeO.ite ?_ ?_
      | refine LeO.bind ?_ (fun _ => ?_)
theorem lexiphaneref1_numbers.mono : ∀ a0 a1 a2 k, LeO (lexiphaneref1_numbers.f k a0 a1 a2) (lexiphaneref1_numbers.f (k + 1) a0 a1 a2) := by
  intro a0 a1 a2 k
  have ih0 := lexiphaneref1_numbers.mono_l k
  unfold lexiphaneref1_numbers.f
  repeat' first
      | (with_reducible exact ih0 _ _ _ _)
      | (with_reducible exact lexiphaneref1_Means.mono _ _ _)
      | (with_reducible exact lexiphaneref1_Unnumber.mono _ _)
      | (with_reducible exact LeO.refl _)
      | (with_reducible exact LeO.none _)
      | (with_reducible refine LeO.ite ?_ ?_)
      | (with_reducible refine LeO.bind ?_ (fun _ => ?_))
      | exact ih0 _ _ _ _
      | exact lexiphaneref1_Means.mono _ _ _
      | exact lexiphaneref1_Unnumber.mono _ _
      | exact LeO.none _
      | refine LeO.ite ?_ ?_
      | refine LeO.bind ?_ (fun _ => ?_)
set_option maxHeartbeats 8000000 in
set_option maxRecDepth 100000 in
theorem lexiphaneref1_numbers.calls (k : Nat) (A0 : Option Addr) (c0 : Nat) (l0 : List ByteArray) (a1 : Int) (a2 : ByteArray) (r1 : ByteArray) (r2 : Int) (w : World) (hr0 : Kd.C Kd.string w A0 l0.length l0) (hc0 : l0.length ≤ c0) (h : lexiphaneref1_numbers.f k l0 a1 a2 = some (r1, r2)) :
    Calls Tryz.prog 67 #[.slice A0 l0.length c0, .int .i64 a1, .string a2] w fun e w' => e = .returned (.tuple #[.string r1, .int .i64 r2]) ∧ Below w.heap.size w w' := by
  have HR0 := Aside0.mk hr0
  have HC0 := Aside0.mk hc0
  clear hr0 hc0
  have HB := Aside0.mk (Below.refl w.heap.size w)
  have H : (lexiphaneref1_numbers.l0 k l0 a1 a2 (⟨#[]⟩ : ByteArray)) = some (r1, r2) := h
  clear h
  have H' := Aside0.mk H
  clear H
  go_enter Tryz.func67, Tryz.ntmps67
  go_wp2
  go_loopg [2, 8] k (fun kq v2 v8 w' => ∃ (x2_1 : ByteArray) (x8_1 : ByteArray), v2 = .string x2_1 ∧ v8 = .string x8_1 ∧ Aside0 (lexiphaneref1_numbers.l0 kq l0 a1 x2_1 x8_1 = some (r1, r2)) ∧ Aside0 (kq ≤ k) ∧ Aside0 (Below w.heap.size w w'))
  case atStart => exact ⟨(a2), ((⟨#[]⟩ : ByteArray)), (by first | rfl | (simp; done) | (simp [*]; done)), (by first | rfl | (simp; done) | (simp [*]; done)), H', ⟨Nat.le_refl _⟩, ⟨by repeat (first | (with_reducible first | exact HB.out | apply below_alloc | apply pw_below_drewN | apply below_drew1) | exact HB.out)⟩⟩
  case round =>
    clear H'
    try clear p2
    obtain ⟨x2_1, x8_1, rfl, rfl, HA, HK1, HB⟩ := hrel
    cases gk with
    | zero => exact absurd HA.out (by simp [lexiphaneref1_numbers.l0])
    | succ k1 =>
      have H := HA.out
      clear HA
      simp only [lexiphaneref1_numbers.l0] at H
      by_cases c4 : (x8_1.size : Int) < a1
      · rw [if_pos c4] at H
        have c4b0 : decide ((x8_1.size : Int) < a1) = true := decide_eq_true c4
        clear c4
        replace H := Option.bind_eq_some_iff.mp H
        obtain ⟨⟨t216, t217, t218⟩, A50, H⟩ := H
        replace H : (if t218 = 0 then (if 0 ≤ t217 then (if t217 ≤ (x2_1.size : Int) then ((lexiphaneref1_Means.f k1 l0 t216).bind fun bt219 => (if bt219.2 = true then (if (wrap64 ((x8_1.size : Int) + (bt219.1.size : Int))) > a1 then (some ((⟨#[]⟩ : ByteArray), 12)) else (if x8_1.size + bt219.1.size ≤ 9223372036854775807 then (lexiphaneref1_numbers.l0 k1 l0 a1 (x2_1.extract (t217 : Int).toNat x2_1.size) (x8_1 ++ bt219.1)) else (none))) else (some ((⟨#[]⟩ : ByteArray), 9)))) else (none)) else (none)) else (some ((⟨#[]⟩ : ByteArray), t218))) = some (r1, r2) := H
        have A5 := Aside0.mk A50
        clear A50
        by_cases c6 : t218 = 0
        · rw [if_pos c6] at H
          have c6b0 : (t218 == 0) = true := beq_iff_eq.mpr c6
          have c6b1 : (t218 != 0) = false := bne_eq_false_iff_eq.mpr c6
          clear c6
          by_cases c7 : 0 ≤ t217
          · rw [if_pos c7] at H
            have c7b0 := eq_true c7
            have c7b1 : decide (0 ≤ t217) = true := decide_eq_true c7
            clear c7
            by_cases c8 : t217 ≤ (x2_1.size : Int)
            · rw [if_pos c8] at H
              have c8b0 := eq_true c8
              have c8b1 : decide (t217 ≤ (x2_1.size : Int)) = true := decide_eq_true c8
              clear c8
              replace H := Option.bind_eq_some_iff.mp H
              obtain ⟨⟨t219, t220⟩, A90, H⟩ := H
              replace H : (if t220 = true then (if (wrap64 ((x8_1.size : Int) + (t219.size : Int))) > a1 then (some ((⟨#[]⟩ : ByteArray), 12)) else (if x8_1.size + t219.size ≤ 9223372036854775807 then (lexiphaneref1_numbers.l0 k1 l0 a1 (x2_1.extract (t217 : Int).toNat x2_1.size) (x8_1 ++ t219)) else (none))) else (some ((⟨#[]⟩ : ByteArray), 9))) = some (r1, r2) := H
              have A9 := Aside0.mk A90
              clear A90
              by_cases c10 : t220 = true
              · subst c10
                have H1 : (if (wrap64 ((x8_1.size : Int) + (t219.size : Int))) > a1 then (some ((⟨#[]⟩ : ByteArray), 12)) else (if x8_1.size + t219.size ≤ 9223372036854775807 then (lexiphaneref1_numbers.l0 k1 l0 a1 (x2_1.extract (t217 : Int).toNat x2_1.size) (x8_1 ++ t219)) else (none))) = some (r1, r2) := by rw [if_pos rfl] at H; exact H
                clear H
                have H := H1
                clear H1
                by_cases c11 : (wrap64 ((x8_1.size : Int) + (t219.size : Int))) > a1
                · rw [if_pos c11] at H
                  have c11b0 : decide (a1 < (wrap64 ((x8_1.size : Int) + (t219.size : Int)))) = true := decide_eq_true c11
                  clear c11
                  simp only [Option.some.injEq, Prod.mk.injEq] at H
                  obtain ⟨rfl, rfl⟩ := H
                  go_wp2_with (first | ((with_reducible refine gate_callee (f := 104) rfl ?_); refine goesL_ (some 20) rfl rfl Tryz.func104 (by kernel_rfl) rfl #[.string x2_1] rfl (by (try simp only [List.map_toArray, List.map_cons, List.map_nil]); first | done | rfl | (simp only [List.length_drop, List.length_take]; rfl)) ?_; (with_reducible refine (lexiphaneref1_Unnumber.calls k1 x2_1 t216 t217 t218 _ A5.out).mono ?_); rintro e w' ⟨rfl, ⟨nd, rfl⟩⟩; refine ⟨_, rfl, ?_⟩) | ((with_reducible refine gate_callee (f := 66) rfl ?_); refine goesL_ (some 33) rfl rfl Tryz.func66 (by kernel_rfl) rfl #[.slice A0 l0.length c0, .int .i64 t216] rfl (by (try simp only [List.map_toArray, List.map_cons, List.map_nil]); first | done | rfl | (simp only [List.length_drop, List.length_take]; rfl)) ?_; (with_reducible refine (lexiphaneref1_Means.calls k1 _ _ l0 t216 t219 true _ ?side1 ?side2 A9.out).mono ?_); (case side1 => repeat (first | exact (Kd.C_below HR0.out (by repeat (first | (with_reducible first | exact HB.out | apply below_alloc | apply pw_below_drewN | apply below_drew1) | exact HB.out))) | (with_reducible refine Kd.C_alloc ?_ _) | (with_reducible refine Kd.C_drewN ?_ _) | (with_reducible refine Kd.C_drew ?_))); (case side2 => exact HC0.out); rintro e w12 ⟨rfl, hb⟩; refine ⟨_, rfl, ?_⟩; have n0_ := Aside0.mk (below_step (by repeat (first | (with_reducible first | exact HB.out | apply below_alloc | apply pw_below_drewN | apply below_drew1) | exact HB.out)) hb); clear HB; have HB := n0_; clear n0_; (try clear hb); (try clear hb2); (try clear hk); (try clear hi)))
                  go_ret2
                  exact ⟨by first | rfl | (simp [errW_none, errW_some] <;> rfl) | (simp [*, errW_none, errW_some] <;> rfl), by repeat (first | (with_reducible first | exact HB.out | apply below_alloc | apply pw_below_drewN | apply below_drew1) | exact HB.out)⟩
                · rw [if_neg c11] at H
                  have c11b0 : decide (a1 < (wrap64 ((x8_1.size : Int) + (t219.size : Int)))) = false := decide_eq_false c11
                  clear c11
                  by_cases c13 : x8_1.size + t219.size ≤ 9223372036854775807
                  · rw [if_pos c13] at H
                    rw [wr_sum _ _ c13] at c11b0
                    have c13b0 := eq_true c13
                    have c13b1 : decide (x8_1.size + t219.size ≤ 9223372036854775807) = true := decide_eq_true c13
                    try have c13b2 : (9223372036854775807 < x8_1.size + t219.size) = False := eq_false (Nat.not_lt.2 c13)
                    have H' := Aside0.mk H
                    clear H
                    go_wp2_with (first | ((with_reducible refine gate_callee (f := 104) rfl ?_); refine goesL_ (some 20) rfl rfl Tryz.func104 (by kernel_rfl) rfl #[.string x2_1] rfl (by (try simp only [List.map_toArray, List.map_cons, List.map_nil]); first | done | rfl | (simp only [List.length_drop, List.length_take]; rfl)) ?_; (with_reducible refine (lexiphaneref1_Unnumber.calls k1 x2_1 t216 t217 t218 _ A5.out).mono ?_); rintro e w' ⟨rfl, ⟨nd, rfl⟩⟩; refine ⟨_, rfl, ?_⟩) | ((with_reducible refine gate_callee (f := 66) rfl ?_); refine goesL_ (some 33) rfl rfl Tryz.func66 (by kernel_rfl) rfl #[.slice A0 l0.length c0, .int .i64 t216] rfl (by (try simp only [List.map_toArray, List.map_cons, List.map_nil]); first | done | rfl | (simp only [List.length_drop, List.length_take]; rfl)) ?_; (with_reducible refine (lexiphaneref1_Means.calls k1 _ _ l0 t216 t219 true _ ?side1 ?side2 A9.out).mono ?_); (case side1 => repeat (first | exact (Kd.C_below HR0.out (by repeat (first | (with_reducible first | exact HB.out | apply below_alloc | apply pw_below_drewN | apply below_drew1) | exact HB.out))) | (with_reducible refine Kd.C_alloc ?_ _) | (with_reducible refine Kd.C_drewN ?_ _) | (with_reducible refine Kd.C_drew ?_))); (case side2 => exact HC0.out); rintro e w14 ⟨rfl, hb⟩; refine ⟨_, rfl, ?_⟩; have n0_ := Aside0.mk (below_step (by repeat (first | (with_reducible first | exact HB.out | apply below_alloc | apply pw_below_drewN | apply below_drew1) | exact HB.out)) hb); clear HB; have HB := n0_; clear n0_; (try clear hb); (try clear hb2); (try clear hk); (try clear hi)))
                    go_roundg k1
                    case measure => have := HK1.out; omega
                    case rel => exact ⟨(x2_1.extract (t217 : Int).toNat x2_1.size), (x8_1 ++ t219), (by first | rfl | (simp; done) | (simp [*]; done)), (by first | rfl | (simp; done) | (simp [*]; done)), H', ⟨by have := HK1.out; omega⟩, ⟨by repeat (first | (with_reducible first | exact HB.out | apply below_alloc | apply pw_below_drewN | apply below_drew1) | exact HB.out)⟩⟩
                  · rw [if_neg c13] at H
                    exact absurd H (by simp)
              · replace c10 := Bool.eq_false_iff.mpr c10
                subst c10
                have H1 : (some ((⟨#[]⟩ : ByteArray), 9)) = some (r1, r2) := by rw [if_neg (show ¬ (false = true) by decide)] at H; exact H
                clear H
                have H := H1
                clear H1
                simp only [Option.some.injEq, Prod.mk.injEq] at H
                obtain ⟨rfl, rfl⟩ := H
                go_wp2_with (first | ((with_reducible refine gate_callee (f := 104) rfl ?_); refine goesL_ (some 20) rfl rfl Tryz.func104 (by kernel_rfl) rfl #[.string x2_1] rfl (by (try simp only [List.map_toArray, List.map_cons, List.map_nil]); first | done | rfl | (simp only [List.length_drop, List.length_take]; rfl)) ?_; (with_reducible refine (lexiphaneref1_Unnumber.calls k1 x2_1 t216 t217 t218 _ A5.out).mono ?_); rintro e w' ⟨rfl, ⟨nd, rfl⟩⟩; refine ⟨_, rfl, ?_⟩) | ((with_reducible refine gate_callee (f := 66) rfl ?_); refine goesL_ (some 33) rfl rfl Tryz.func66 (by kernel_rfl) rfl #[.slice A0 l0.length c0, .int .i64 t216] rfl (by (try simp only [List.map_toArray, List.map_cons, List.map_nil]); first | done | rfl | (simp only [List.length_drop, List.length_take]; rfl)) ?_; (with_reducible refine (lexiphaneref1_Means.calls k1 _ _ l0 t216 t219 false _ ?side1 ?side2 A9.out).mono ?_); (case side1 => repeat (first | exact (Kd.C_below HR0.out (by repeat (first | (with_reducible first | exact HB.out | apply below_alloc | apply pw_below_drewN | apply below_drew1) | exact HB.out))) | (with_reducible refine Kd.C_alloc ?_ _) | (with_reducible refine Kd.C_drewN ?_ _) | (with_reducible refine Kd.C_drew ?_))); (case side2 => exact HC0.out); rintro e w15 ⟨rfl, hb⟩; refine ⟨_, rfl, ?_⟩; have n0_ := Aside0.mk (below_step (by repeat (first | (with_reducible first | exact HB.out | apply below_alloc | apply pw_below_drewN | apply below_drew1) | exact HB.out)) hb); clear HB; have HB := n0_; clear n0_; (try clear hb); (try clear hb2); (try clear hk); (try clear hi)))
                go_ret2
                exact ⟨by first | rfl | (simp [errW_none, errW_some] <;> rfl) | (simp [*, errW_none, errW_some] <;> rfl), by repeat (first | (with_reducible first | exact HB.out | apply below_alloc | apply pw_below_drewN | apply below_drew1) | exact HB.out)⟩
            · rw [if_neg c8] at H
              exact absurd H (by simp)
          · rw [if_neg c7] at H
            exact absurd H (by simp)
        · rw [if_neg c6] at H
          have c6b0 : (t218 == 0) = false := beq_eq_false_iff_ne.mpr c6
          have c6b1 : (t218 != 0) = true := bne_iff_ne.mpr c6
          simp only [Option.some.injEq, Prod.mk.injEq] at H
          obtain ⟨rfl, rfl⟩ := H
          go_wp2_with (first | ((with_reducible refine gate_callee (f := 104) rfl ?_); refine goesL_ (some 20) rfl rfl Tryz.func104 (by kernel_rfl) rfl #[.string x2_1] rfl (by (try simp only [List.map_toArray, List.map_cons, List.map_nil]); first | done | rfl | (simp only [List.length_drop, List.length_take]; rfl)) ?_; (with_reducible refine (lexiphaneref1_Unnumber.calls k1 x2_1 t216 t217 t218 _ A5.out).mono ?_); rintro e w' ⟨rfl, ⟨nd, rfl⟩⟩; refine ⟨_, rfl, ?_⟩))
          go_ret2
          exact ⟨by first | rfl | (simp [errW_none, errW_some] <;> rfl) | (simp [*, errW_none, errW_some] <;> rfl), by repeat (first | (with_reducible first | exact HB.out | apply below_alloc | apply pw_below_drewN | apply below_drew1) | exact HB.out)⟩
      · rw [if_neg c4] at H
        have c4b0 : decide ((x8_1.size : Int) < a1) = false := decide_eq_false c4
        clear c4
        by_cases c16 : x2_1.toList = ([] : List UInt8)
        · rw [if_pos c16] at H
          have c16b0 : (x2_1.toList == ([] : List UInt8)) = true := beq_iff_eq.mpr c16
          have c16b1 : (x2_1.toList != ([] : List UInt8)) = false := bne_eq_false_iff_eq.mpr c16
          clear c16
          simp only [Option.some.injEq, Prod.mk.injEq] at H
          obtain ⟨rfl, rfl⟩ := H
          go_wp2
          go_ret2
          exact ⟨by first | rfl | (simp [errW_none, errW_some] <;> rfl) | (simp [*, errW_none, errW_some] <;> rfl), by repeat (first | (with_reducible first | exact HB.out | apply below_alloc | apply pw_below_drewN | apply below_drew1) | exact HB.out)⟩
        · rw [if_neg c16] at H
          have c16b0 : (x2_1.toList == ([] : List UInt8)) = false := beq_eq_false_iff_ne.mpr c16
          have c16b1 : (x2_1.toList != ([] : List UInt8)) = true := bne_iff_ne.mpr c16
          simp only [Option.some.injEq, Prod.mk.injEq] at H
          obtain ⟨rfl, rfl⟩ := H
          go_wp2
          go_ret2
          exact ⟨by first | rfl | (simp [errW_none, errW_some] <;> rfl) | (simp [*, errW_none, errW_some] <;> rfl), by repeat (first | (with_reducible first | exact HB.out | apply below_alloc | apply pw_below_drewN | apply below_drew1) | exact HB.out)⟩


end Go.Proofs.YtboklkfplnmabaaGreat.Leaf
