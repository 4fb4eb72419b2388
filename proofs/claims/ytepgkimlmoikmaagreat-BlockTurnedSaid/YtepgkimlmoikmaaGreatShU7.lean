/- ShU: a part of its proof (contracts of the functions that it reaches, and the plain mathematics behind them). -/
import Derived.Test.YtepgkimlmoikmaaGreatShU6
set_option linter.unusedVariables false
set_option linter.unusedSimpArgs false
set_option maxHeartbeats 2000000
set_option maxRecDepth 100000
set_option linter.unusedVariables false
set_option linter.unusedSimpArgs false
namespace Go.Proofs.YtepgkimlmoikmaaGreat.Leaf
open Go.RowKit Go.Proofs.YtepgkimlmoikmaaGreatW.PrintWords Go.Proofs.YtepgkimlmoikmaaGreatW.PrintLast Go.Proofs.YtepgkimlmoikmaaGreatW.PrintMore
attribute [local go_sem] max2_int min2_int max_two min_two max_three min_three max_four min_four
def lexiphaneref1_Kraft.l0 : Nat → List Int → Int → Int → Option (Int)
 | 0, _, _, _ => none
 | k + 1, x0, x3, x4 => if x4 < (x0.length : Int) then (if 0 ≤ x4 then (if (rd x0 x4) ≥ 1 then (if (rd x0 x4) ≤ 15 then (if 0 ≤ (IntKind.u64.wrap (wrap64 (15 - (rd x0 x4)))) then (lexiphaneref1_Kraft.l0 k x0 (wrap64 (x3 + (shl .i64 1 (IntKind.u64.wrap (wrap64 (15 - (rd x0 x4))))))) (wrap64 (x4 + 1))) else (none)) else (lexiphaneref1_Kraft.l0 k x0 x3 (wrap64 (x4 + 1)))) else (lexiphaneref1_Kraft.l0 k x0 x3 (wrap64 (x4 + 1)))) else (none)) else (some x3)
def lexiphaneref1_Kraft.f (k : Nat) (l0 : List Int) : Option (Int) := lexiphaneref1_Kraft.l0 k l0 0 0
theorem lexiphaneref1_Kraft.mono_l : ∀ k, (∀ y0 y1 y2, LeO (lexiphaneref1_Kraft.l0 k y0 y1 y2) (lexiphaneref1_Kraft.l0 (k + 1) y0 y1 y2))
 | 0 => fun _ _ _ r h => by simp [lexiphaneref1_Kraft.l0] at h
 | k + 1 => by
  have ih0 := lexiphaneref1_Kraft.mono_l k
  ·intro y0 y1 y2
   unfold lexiphaneref1_Kraft.l0
   repeat' first
   | (with_reducible exact ih0 _ _ _)
   | (with_reducible exact LeO.refl _)
   | (with_reducible exact LeO.none _)
   | (with_reducible refine LeO.ite ?_ ?_)
   | (with_reducible refine LeO.bind ?_ (fun _ => ?_))
   | exact ih0 _ _ _
   | exact LeO.none _
   | refine LeO.ite ?_ ?_
   | refine LeO.bind ?_ (fun _ => ?_)
theorem lexiphaneref1_Kraft.mono : ∀ a0 k, LeO (lexiphaneref1_Kraft.f k a0) (lexiphaneref1_Kraft.f (k + 1) a0) := by
 intro a0 k
 have ih0 := lexiphaneref1_Kraft.mono_l k
 unfold lexiphaneref1_Kraft.f
 repeat' first
   | (with_reducible exact ih0 _ _ _)
   | (with_reducible exact LeO.refl _)
   | (with_reducible exact LeO.none _)
   | (with_reducible refine LeO.ite ?_ ?_)
   | (with_reducible refine LeO.bind ?_ (fun _ => ?_))
   | exact ih0 _ _ _
   | exact LeO.none _
   | refine LeO.ite ?_ ?_
   | refine LeO.bind ?_ (fun _ => ?_)
set_option maxHeartbeats 8000000 in
theorem lexiphaneref1_Kraft.calls (k : Nat) (A0 : Option Addr) (c0 : Nat) (l0 : List Int) (r : Int) (w : World) (hr0 : Kd.C (Kd.int .i64) w A0 l0.length l0) (hc0 : l0.length ≤ c0) (h : lexiphaneref1_Kraft.f k l0 = some r) :
  Calls Tryz.prog 197 #[.slice A0 l0.length c0] w fun e w' => e = .returned (.int .i64 r) ∧ Drawn0 w w' := by
 have HR0 := Aside0.mk hr0
 have HC0 := Aside0.mk hc0
 clear hr0 hc0
 have H : (lexiphaneref1_Kraft.l0 k l0 0 0) = some r := h
 clear h
 have H' := Aside0.mk H
 clear H
 go_enter Tryz.func197, Tryz.ntmps197
 go_wp2
 go_loopg [3, 4] k (fun kq v3 v4 w' => ∃ (x3_1 : Int) (x4_1 : Int), v3 = .int .i64 x3_1 ∧ v4 = .int .i64 x4_1 ∧ Aside0 (lexiphaneref1_Kraft.l0 kq l0 x3_1 x4_1 = some r) ∧ Aside0 (kq ≤ k) ∧ Drawn0 w w')
 case atStart => exact ⟨(0), (0), (by first | rfl | (simp; done) | (simp [*]; done)), (by first | rfl | (simp; done) | (simp [*]; done)), H', ⟨Nat.le_refl _⟩, by repeat (first | exact Drawn0.refl _ | apply Drawn0.step)⟩
 case round =>
  clear H'
  try clear c1
  obtain ⟨x3_1, x4_1, rfl, rfl, HA, HK1, ⟨m1, rfl⟩⟩ := hrel
  cases gk with
  | zero => exact absurd HA.out (by simp [lexiphaneref1_Kraft.l0])
  | succ k1 =>
   have H := HA.out
   clear HA
   simp only [lexiphaneref1_Kraft.l0] at H
   by_cases c2 : x4_1 < (l0.length : Int)
   ·rw [if_pos c2] at H
    have c2b0 : decide (x4_1 < (l0.length : Int)) = true := decide_eq_true c2
    clear c2
    by_cases c3 : 0 ≤ x4_1
    ·rw [if_pos c3] at H
     have c3b0 : decide (0 ≤ x4_1) = true := decide_eq_true c3
     clear c3
     by_cases c4 : (rd l0 x4_1) ≥ 1
     ·rw [if_pos c4] at H
      have c4b0 : decide (1 ≤ (rd l0 x4_1)) = true := decide_eq_true c4
      clear c4
      by_cases c5 : (rd l0 x4_1) ≤ 15
      ·rw [if_pos c5] at H
       have c5b0 : decide ((rd l0 x4_1) ≤ 15) = true := decide_eq_true c5
       clear c5
       obtain ⟨ji6, hji6⟩ : ∃ j_ : Int, (IntKind.u64.wrap (wrap64 (15 - (rd l0 x4_1)))) = j_ := ⟨_, rfl⟩
       replace H : (if 0 ≤ (ji6) then (lexiphaneref1_Kraft.l0 k1 l0 (wrap64 (x3_1 + (shl .i64 1 (ji6)))) (wrap64 (x4_1 + 1))) else (none)) = some r := by first | (rw [hji6] at H; exact H) | (simp only [hji6] at H ⊢; exact H)
       by_cases c7 : 0 ≤ (ji6)
       ·rw [if_pos c7] at H
        have c7b0 := eq_true c7
        have c7b1 : decide (0 ≤ (ji6)) = true := decide_eq_true c7
        clear c7
        obtain ⟨ji8, hji8⟩ : ∃ j_ : Int, (shl .i64 1 (ji6)) = j_ := ⟨_, rfl⟩
        replace H : (lexiphaneref1_Kraft.l0 k1 l0 (wrap64 (x3_1 + (ji8))) (wrap64 (x4_1 + 1))) = some r := by first | (rw [hji8] at H; exact H) | (simp only [hji8] at H ⊢; exact H)
        have hji8_ : (IntKind.i64.wrap (1 * 2 ^ min (ji6).toNat 64)) = ji8 := hji8
        have hji8z : (ji6) ≤ 64 → (IntKind.i64.wrap (1 * 2 ^ (ji6).toNat)) = ji8 := shl_small hji8
        have hji8u : (IntKind.i64.wrap (2 ^ min (ji6).toNat 64)) = ji8 := by have h_ := hji8_; rw [Int.one_mul] at h_; exact h_
        have hji8v : (ji6) ≤ 64 → (IntKind.i64.wrap (2 ^ (ji6).toNat)) = ji8 := fun hle_ => by have h_ := hji8z hle_; rw [Int.one_mul] at h_; exact h_
        have hji8y : (wrap64 (1 * 2 ^ min (ji6).toNat 64)) = ji8 := (i64_w _).symm.trans hji8_
        have hji8x : (ji6) ≤ 64 → (wrap64 (1 * 2 ^ (ji6).toNat)) = ji8 := fun h_ => (i64_w _).symm.trans (hji8z h_)
        have H' := Aside0.mk H
        clear H
        have p354 : 0 ≤ (x4_1 : Int) := of_decide_eq_true (by first | (with_reducible assumption) | assumption)
        have q354 : x4_1 < (l0.length : Int) := of_decide_eq_true (by first | (with_reducible assumption) | assumption)
        obtain ⟨ad354, e354, hx354_0⟩ := Kd.at_int HR0.out x4_1 p354 q354
        cases e354
        replace p354 := eq_true p354
        replace q354 := eq_true q354
        have p355 : 0 ≤ (x4_1 : Int) := of_decide_eq_true (by first | (with_reducible assumption) | assumption)
        have q355 : x4_1 < (l0.length : Int) := of_decide_eq_true (by first | (with_reducible assumption) | assumption)
        obtain ⟨ad355, e355, hx355_0⟩ := Kd.at_int HR0.out x4_1 p355 q355
        obtain rfl : ad354 = ad355 := (by injection e355)
        replace p355 := eq_true p355
        replace q355 := eq_true q355
        have p356 : 0 ≤ (x4_1 : Int) := of_decide_eq_true (by first | (with_reducible assumption) | assumption)
        have q356 : x4_1 < (l0.length : Int) := of_decide_eq_true (by first | (with_reducible assumption) | assumption)
        obtain ⟨ad356, e356, hx356_0⟩ := Kd.at_int HR0.out x4_1 p356 q356
        obtain rfl : ad354 = ad356 := (by injection e356)
        replace p356 := eq_true p356
        replace q356 := eq_true q356
        go_wp2
        go_roundg k1
        case measure => have := HK1.out; omega
        case rel => exact ⟨(wrap64 (x3_1 + (ji8))), (wrap64 (x4_1 + 1)), (by first | rfl | (simp; done) | (simp only [← hji8] <;> (first | rfl | simp)) | (simp [*]; done)), (by first | rfl | (simp; done) | (simp [*]; done)), H', ⟨by have := HK1.out; omega⟩, by repeat (first | exact Drawn0.refl _ | apply Drawn0.step)⟩
       ·rw [if_neg c7] at H
        exact absurd H (by simp)
      ·rw [if_neg c5] at H
       have c5b0 : decide ((rd l0 x4_1) ≤ 15) = false := decide_eq_false c5
       clear c5
       have H' := Aside0.mk H
       clear H
       have p354 : 0 ≤ (x4_1 : Int) := of_decide_eq_true (by first | (with_reducible assumption) | assumption)
       have q354 : x4_1 < (l0.length : Int) := of_decide_eq_true (by first | (with_reducible assumption) | assumption)
       obtain ⟨ad354, e354, hx354_0⟩ := Kd.at_int HR0.out x4_1 p354 q354
       cases e354
       replace p354 := eq_true p354
       replace q354 := eq_true q354
       have p355 : 0 ≤ (x4_1 : Int) := of_decide_eq_true (by first | (with_reducible assumption) | assumption)
       have q355 : x4_1 < (l0.length : Int) := of_decide_eq_true (by first | (with_reducible assumption) | assumption)
       obtain ⟨ad355, e355, hx355_0⟩ := Kd.at_int HR0.out x4_1 p355 q355
       obtain rfl : ad354 = ad355 := (by injection e355)
       replace p355 := eq_true p355
       replace q355 := eq_true q355
       go_wp2
       go_roundg k1
       case measure => have := HK1.out; omega
       case rel => exact ⟨(x3_1), (wrap64 (x4_1 + 1)), (by first | rfl | (simp; done) | (simp [*]; done)), (by first | rfl | (simp; done) | (simp [*]; done)), H', ⟨by have := HK1.out; omega⟩, by repeat (first | exact Drawn0.refl _ | apply Drawn0.step)⟩
     ·rw [if_neg c4] at H
      have c4b0 : decide (1 ≤ (rd l0 x4_1)) = false := decide_eq_false c4
      clear c4
      have H' := Aside0.mk H
      clear H
      have p354 : 0 ≤ (x4_1 : Int) := of_decide_eq_true (by first | (with_reducible assumption) | assumption)
      have q354 : x4_1 < (l0.length : Int) := of_decide_eq_true (by first | (with_reducible assumption) | assumption)
      obtain ⟨ad354, e354, hx354_0⟩ := Kd.at_int HR0.out x4_1 p354 q354
      cases e354
      replace p354 := eq_true p354
      replace q354 := eq_true q354
      go_wp2
      go_roundg k1
      case measure => have := HK1.out; omega
      case rel => exact ⟨(x3_1), (wrap64 (x4_1 + 1)), (by first | rfl | (simp; done) | (simp [*]; done)), (by first | rfl | (simp; done) | (simp [*]; done)), H', ⟨by have := HK1.out; omega⟩, by repeat (first | exact Drawn0.refl _ | apply Drawn0.step)⟩
    ·rw [if_neg c3] at H
     exact absurd H (by simp)
   ·rw [if_neg c2] at H
    have c2b0 : decide (x4_1 < (l0.length : Int)) = false := decide_eq_false c2
    clear c2
    obtain rfl := Option.some.inj H
    go_wp2
    go_ret
    exact ⟨by first | rfl | (simp; done) | (simp [*]; done), by repeat (first | exact Drawn0.refl _ | apply Drawn0.step)⟩
mutual
def lexiphaneref1_Right.l0 : Nat → List Int → Int → Int → Int → Option (Int)
 | 0, _, _, _, _ => none
 | k + 1, x0, x3, x4, x5 => if x5 < (x0.length : Int) then (if 0 ≤ x5 then (if (rd x0 x5) < 0 then (lexiphaneref1_Right.j1 k x0 x3 x4 x5 true) else (lexiphaneref1_Right.j1 k x0 x3 x4 x5 (decide ((rd x0 x5) > 15)))) else (none)) else ((lexiphaneref1_Kraft.f k x0).bind fun t357 => (if t357 = 32768 then (some 0) else (if x3 = 1 then (if x4 = 1 then (some 0) else (some 8)) else (some 8))))
def lexiphaneref1_Right.j1 : Nat → List Int → Int → Int → Int → Bool → Option (Int)
 | 0, _, _, _, _, _ => none
 | k + 1, x0, x3, x4, x5, x23 => if x23 = true then (some 1) else (if 0 ≤ x5 then (if x5 < (x0.length : Int) then (if (rd x0 x5) > 0 then (lexiphaneref1_Right.l0 k x0 (wrap64 (x3 + 1)) (rd x0 x5) (wrap64 (x5 + 1))) else (lexiphaneref1_Right.l0 k x0 x3 x4 (wrap64 (x5 + 1)))) else (none)) else (none))
end
def lexiphaneref1_Right.f (k : Nat) (l0 : List Int) : Option (Int) := lexiphaneref1_Right.l0 k l0 0 0 0
theorem lexiphaneref1_Right.mono_l : ∀ k, (∀ y0 y1 y2 y3, LeO (lexiphaneref1_Right.l0 k y0 y1 y2 y3) (lexiphaneref1_Right.l0 (k + 1) y0 y1 y2 y3)) ∧ (∀ y0 y1 y2 y3 y4, LeO (lexiphaneref1_Right.j1 k y0 y1 y2 y3 y4) (lexiphaneref1_Right.j1 (k + 1) y0 y1 y2 y3 y4))
 | 0 => ⟨fun _ _ _ _ r h => by simp [lexiphaneref1_Right.l0] at h, fun _ _ _ _ _ r h => by simp [lexiphaneref1_Right.j1] at h⟩
 | k + 1 => by
  obtain ⟨ih0, ih1⟩ := lexiphaneref1_Right.mono_l k
  refine ⟨?_, ?_⟩
  ·intro y0 y1 y2 y3
   unfold lexiphaneref1_Right.l0
   repeat' first
   | (with_reducible exact ih0 _ _ _ _)
   | (with_reducible exact ih1 _ _ _ _ _)
   | (with_reducible exact lexiphaneref1_Kraft.mono _ _)
   | (with_reducible exact LeO.refl _)
   | (with_reducible exact LeO.none _)
   | (with_reducible refine LeO.ite ?_ ?_)
   | (with_reducible refine LeO.bind ?_ (fun _ => ?_))
   | exact ih0 _ _ _ _
   | exact ih1 _ _ _ _ _
   | exact lexiphaneref1_Kraft.mono _ _
   | exact LeO.none _
   | refine LeO.ite ?_ ?_
   | refine LeO.bind ?_ (fun _ => ?_)
  ·intro y0 y1 y2 y3 y4
   unfold lexiphaneref1_Right.j1
   repeat' first
   | (with_reducible exact ih0 _ _ _ _)
   | (with_reducible exact ih1 _ _ _ _ _)
   | (with_reducible exact lexiphaneref1_Kraft.mono _ _)
   | (with_reducible exact LeO.refl _)
   | (with_reducible exact LeO.none _)
   | (with_reducible refine LeO.ite ?_ ?_)
   | (with_reducible refine LeO.bind ?_ (fun _ => ?_))
   | exact ih0 _ _ _ _
   | exact ih1 _ _ _ _ _
   | exact lexiphaneref1_Kraft.mono _ _
   | exact LeO.none _
   | refine LeO.ite ?_ ?_
   | refine LeO.bind ?_ (fun _ => ?_)
theorem lexiphaneref1_Right.mono : ∀ a0 k, LeO (lexiphaneref1_Right.f k a0) (lexiphaneref1_Right.f (k + 1) a0) := by
 intro a0 k
 obtain ⟨ih0, ih1⟩ := lexiphaneref1_Right.mono_l k
 unfold lexiphaneref1_Right.f
 repeat' first
   | (with_reducible exact ih0 _ _ _ _)
   | (with_reducible exact ih1 _ _ _ _ _)
   | (with_reducible exact lexiphaneref1_Kraft.mono _ _)
   | (with_reducible exact LeO.refl _)
   | (with_reducible exact LeO.none _)
   | (with_reducible refine LeO.ite ?_ ?_)
   | (with_reducible refine LeO.bind ?_ (fun _ => ?_))
   | exact ih0 _ _ _ _
   | exact ih1 _ _ _ _ _
   | exact lexiphaneref1_Kraft.mono _ _
   | exact LeO.none _
   | refine LeO.ite ?_ ?_
   | refine LeO.bind ?_ (fun _ => ?_)
set_option maxHeartbeats 8000000 in
theorem lexiphaneref1_Right.calls (k : Nat) (A0 : Option Addr) (c0 : Nat) (l0 : List Int) (r : Int) (w : World) (hr0 : Kd.C (Kd.int .i64) w A0 l0.length l0) (hc0 : l0.length ≤ c0) (h : lexiphaneref1_Right.f k l0 = some r) :
  Calls Tryz.prog 154 #[.slice A0 l0.length c0] w fun e w' => e = .returned (.int .i64 r) ∧ Drawn0 w w' := by
 have HR0 := Aside0.mk hr0
 have HC0 := Aside0.mk hc0
 clear hr0 hc0
 have H : (lexiphaneref1_Right.l0 k l0 0 0 0) = some r := h
 clear h
 have H' := Aside0.mk H
 clear H
 go_enter Tryz.func154, Tryz.ntmps154
 go_wp2
 go_loopg [3, 4, 5] k (fun kq v3 v4 v5 w' => ∃ (x3_1 : Int) (x4_1 : Int) (x5_1 : Int), v3 = .int .i64 x3_1 ∧ v4 = .int .i64 x4_1 ∧ v5 = .int .i64 x5_1 ∧ Aside0 (lexiphaneref1_Right.l0 kq l0 x3_1 x4_1 x5_1 = some r) ∧ Aside0 (kq ≤ k) ∧ Drawn0 w w')
 case atStart => exact ⟨(0), (0), (0), (by first | rfl | (simp; done) | (simp [*]; done)), (by first | rfl | (simp; done) | (simp [*]; done)), (by first | rfl | (simp; done) | (simp [*]; done)), H', ⟨Nat.le_refl _⟩, by repeat (first | exact Drawn0.refl _ | apply Drawn0.step)⟩
 case round =>
  clear H'
  try clear c1
  obtain ⟨x3_1, x4_1, x5_1, rfl, rfl, rfl, HA, HK1, ⟨m1, rfl⟩⟩ := hrel
  cases gk with
  | zero => exact absurd HA.out (by simp [lexiphaneref1_Right.l0])
  | succ k1 =>
   have H := HA.out
   clear HA
   simp only [lexiphaneref1_Right.l0] at H
   by_cases c2 : x5_1 < (l0.length : Int)
   ·rw [if_pos c2] at H
    have c2b0 : decide (x5_1 < (l0.length : Int)) = true := decide_eq_true c2
    clear c2
    have HC3 := Aside0.mk H
    clear H
    go_upto_region 5 with (fail)
    go_cut [23] (fun v23 wc => ∃ (kq : Nat) (x23_2 : Bool), v23 = .bool x23_2 ∧ Aside0 (lexiphaneref1_Right.j1 kq l0 x3_1 x4_1 x5_1 x23_2 = some r) ∧ Aside0 (kq ≤ k1) ∧ Drawn0 w wc)
    case first =>
     have H := HC3.out
     clear HC3
     by_cases c4 : 0 ≤ x5_1
     ·rw [if_pos c4] at H
      have c4b0 : decide (0 ≤ x5_1) = true := decide_eq_true c4
      clear c4
      (first | rw [c4b0] | (simp only [i64_w, i32_w]; rw [c4b0]) | skip)
      by_cases c5 : (rd l0 x5_1) < 0
      ·rw [if_pos c5] at H
       have c5b0 : decide ((rd l0 x5_1) < 0) = true := decide_eq_true c5
       clear c5
       have H' := Aside0.mk H
       clear H
       have p358 : 0 ≤ (x5_1 : Int) := of_decide_eq_true (by first | (with_reducible assumption) | assumption)
       have q358 : x5_1 < (l0.length : Int) := of_decide_eq_true (by first | (with_reducible assumption) | assumption)
       obtain ⟨ad358, e358, hx358_0⟩ := Kd.at_int HR0.out x5_1 p358 q358
       cases e358
       replace p358 := eq_true p358
       replace q358 := eq_true q358
       go_wp2
       go_meet
       case rel => exact ⟨_, (true), (by first | rfl | (simp; done) | (simp [*]; done)), H', ⟨by have := HK1.out; first | omega | exact Nat.le_refl _⟩, by repeat (first | exact Drawn0.refl _ | apply Drawn0.step)⟩
      ·rw [if_neg c5] at H
       have c5b0 : decide ((rd l0 x5_1) < 0) = false := decide_eq_false c5
       clear c5
       have H' := Aside0.mk H
       clear H
       have p358 : 0 ≤ (x5_1 : Int) := of_decide_eq_true (by first | (with_reducible assumption) | assumption)
       have q358 : x5_1 < (l0.length : Int) := of_decide_eq_true (by first | (with_reducible assumption) | assumption)
       obtain ⟨ad358, e358, hx358_0⟩ := Kd.at_int HR0.out x5_1 p358 q358
       cases e358
       replace p358 := eq_true p358
       replace q358 := eq_true q358
       have p359 : 0 ≤ (x5_1 : Int) := of_decide_eq_true (by first | (with_reducible assumption) | assumption)
       have q359 : x5_1 < (l0.length : Int) := of_decide_eq_true (by first | (with_reducible assumption) | assumption)
       obtain ⟨ad359, e359, hx359_0⟩ := Kd.at_int HR0.out x5_1 p359 q359
       obtain rfl : ad358 = ad359 := (by injection e359)
       replace p359 := eq_true p359
       replace q359 := eq_true q359
       go_wp2
       go_meet
       case rel => exact ⟨_, (decide ((rd l0 x5_1) > 15)), (by first | rfl | (simp; done) | (simp [*]; done)), H', ⟨by have := HK1.out; first | omega | exact Nat.le_refl _⟩, by repeat (first | exact Drawn0.refl _ | apply Drawn0.step)⟩
     ·rw [if_neg c4] at H
      exact absurd H (by simp)
    case rest =>
     clear HC3
     try clear c1
     try clear c2
     try clear c2b0
     try clear p2
     try clear p3
     try clear q3
     try clear hx3
     try clear c4
     try clear c4b0
     try clear c5
     try clear c5b0
     try clear hx358_0
     try clear hx359_0
     try clear p358
     try clear p359
     try clear q358
     try clear q359
     obtain ⟨kq, x23_2, rfl, HA, HJ2, ⟨mc2, rfl⟩⟩ := hcut
     cases kq with
     | zero => exact absurd HA.out (by simp [lexiphaneref1_Right.j1])
     | succ kj2 =>
      have H := HA.out
      clear HA
      simp only [lexiphaneref1_Right.j1] at H
      by_cases c6 : x23_2 = true
      ·subst c6
       have H1 : (some 1) = some r := by rw [if_pos rfl] at H; exact H
       clear H
       have H := H1
       clear H1
       obtain rfl := Option.some.inj H
       go_wp2
       go_ret
       exact ⟨by first | rfl | (simp; done) | (simp [*]; done), by repeat (first | exact Drawn0.refl _ | apply Drawn0.step)⟩
      ·replace c6 := Bool.eq_false_iff.mpr c6
       subst c6
       have H1 : (if 0 ≤ x5_1 then (if x5_1 < (l0.length : Int) then (if (rd l0 x5_1) > 0 then (lexiphaneref1_Right.l0 kj2 l0 (wrap64 (x3_1 + 1)) (rd l0 x5_1) (wrap64 (x5_1 + 1))) else (lexiphaneref1_Right.l0 kj2 l0 x3_1 x4_1 (wrap64 (x5_1 + 1)))) else (none)) else (none)) = some r := by rw [if_neg (show ¬ (false = true) by decide)] at H; exact H
       clear H
       have H := H1
       clear H1
       by_cases c7 : 0 ≤ x5_1
       ·rw [if_pos c7] at H
        have c7b0 : decide (0 ≤ x5_1) = true := decide_eq_true c7
        clear c7
        by_cases c8 : x5_1 < (l0.length : Int)
        ·rw [if_pos c8] at H
         have c8b0 : decide (x5_1 < (l0.length : Int)) = true := decide_eq_true c8
         clear c8
         by_cases c9 : (rd l0 x5_1) > 0
         ·rw [if_pos c9] at H
          have c9b0 : decide (0 < (rd l0 x5_1)) = true := decide_eq_true c9
          clear c9
          have H' := Aside0.mk H
          clear H
          have p360 : 0 ≤ (x5_1 : Int) := of_decide_eq_true (by first | (with_reducible assumption) | assumption)
          have q360 : x5_1 < (l0.length : Int) := of_decide_eq_true (by first | (with_reducible assumption) | assumption)
          obtain ⟨ad360, e360, hx360_0⟩ := Kd.at_int HR0.out x5_1 p360 q360
          cases e360
          replace p360 := eq_true p360
          replace q360 := eq_true q360
          have p361 : 0 ≤ (x5_1 : Int) := of_decide_eq_true (by first | (with_reducible assumption) | assumption)
          have q361 : x5_1 < (l0.length : Int) := of_decide_eq_true (by first | (with_reducible assumption) | assumption)
          obtain ⟨ad361, e361, hx361_0⟩ := Kd.at_int HR0.out x5_1 p361 q361
          obtain rfl : ad360 = ad361 := (by injection e361)
          replace p361 := eq_true p361
          replace q361 := eq_true q361
          go_wp2
          go_roundg kj2
          case measure => have := HK1.out; have := HJ2.out; omega
          case rel => exact ⟨(wrap64 (x3_1 + 1)), (rd l0 x5_1), (wrap64 (x5_1 + 1)), (by first | rfl | (simp; done) | (simp [*]; done)), (by first | rfl | (simp; done) | (simp [*]; done)), (by first | rfl | (simp; done) | (simp [*]; done)), H', ⟨by have := HK1.out; have := HJ2.out; omega⟩, by repeat (first | exact Drawn0.refl _ | apply Drawn0.step)⟩
         ·rw [if_neg c9] at H
          have c9b0 : decide (0 < (rd l0 x5_1)) = false := decide_eq_false c9
          clear c9
          have H' := Aside0.mk H
          clear H
          have p360 : 0 ≤ (x5_1 : Int) := of_decide_eq_true (by first | (with_reducible assumption) | assumption)
          have q360 : x5_1 < (l0.length : Int) := of_decide_eq_true (by first | (with_reducible assumption) | assumption)
          obtain ⟨ad360, e360, hx360_0⟩ := Kd.at_int HR0.out x5_1 p360 q360
          cases e360
          replace p360 := eq_true p360
          replace q360 := eq_true q360
          go_wp2
          go_roundg kj2
          case measure => have := HK1.out; have := HJ2.out; omega
          case rel => exact ⟨(x3_1), (x4_1), (wrap64 (x5_1 + 1)), (by first | rfl | (simp; done) | (simp [*]; done)), (by first | rfl | (simp; done) | (simp [*]; done)), (by first | rfl | (simp; done) | (simp [*]; done)), H', ⟨by have := HK1.out; have := HJ2.out; omega⟩, by repeat (first | exact Drawn0.refl _ | apply Drawn0.step)⟩
        ·rw [if_neg c8] at H
         exact absurd H (by simp)
       ·rw [if_neg c7] at H
        exact absurd H (by simp)
   ·rw [if_neg c2] at H
    have c2b0 : decide (x5_1 < (l0.length : Int)) = false := decide_eq_false c2
    clear c2
    replace H := Option.bind_eq_some_iff.mp H
    obtain ⟨t357, A100, H⟩ := H
    replace H : (if t357 = 32768 then (some 0) else (if x3_1 = 1 then (if x4_1 = 1 then (some 0) else (some 8)) else (some 8))) = some r := H
    have A10 := Aside0.mk A100
    clear A100
    by_cases c11 : t357 = 32768
    ·rw [if_pos c11] at H
     have c11b0 : (t357 == 32768) = true := beq_iff_eq.mpr c11
     have c11b1 : (t357 != 32768) = false := bne_eq_false_iff_eq.mpr c11
     clear c11
     obtain rfl := Option.some.inj H
     go_wp2_with (first | ((with_reducible refine gate_callee (f := 197) rfl ?_); refine goesL_ (some 36) rfl rfl Tryz.func197 (by kernel_rfl) rfl #[.slice A0 l0.length c0] rfl (by (try simp only [List.map_toArray, List.map_cons, List.map_nil]); first | done | rfl | (simp only [List.length_drop, List.length_take]; rfl)) ?_; (with_reducible refine (lexiphaneref1_Kraft.calls k1 _ _ l0 t357 _ ?side1 ?side2 A10.out).mono ?_); (case side1 => repeat (first | exact HR0.out | (with_reducible refine Kd.C_alloc ?_ _) | (with_reducible refine Kd.C_drewN ?_ _) | (with_reducible refine Kd.C_drew ?_))); (case side2 => exact HC0.out); rintro e w' ⟨rfl, ⟨nd, rfl⟩⟩; refine ⟨_, rfl, ?_⟩))
     go_ret
     exact ⟨by first | rfl | (simp; done) | (simp [*]; done), by repeat (first | exact Drawn0.refl _ | apply Drawn0.step)⟩
    ·rw [if_neg c11] at H
     have c11b0 : (t357 == 32768) = false := beq_eq_false_iff_ne.mpr c11
     have c11b1 : (t357 != 32768) = true := bne_iff_ne.mpr c11
     by_cases c12 : x3_1 = 1
     ·rw [if_pos c12] at H
      have c12b0 : (x3_1 == 1) = true := beq_iff_eq.mpr c12
      have c12b1 : (x3_1 != 1) = false := bne_eq_false_iff_eq.mpr c12
      clear c12
      by_cases c13 : x4_1 = 1
      ·rw [if_pos c13] at H
       have c13b0 : (x4_1 == 1) = true := beq_iff_eq.mpr c13
       have c13b1 : (x4_1 != 1) = false := bne_eq_false_iff_eq.mpr c13
       clear c13
       obtain rfl := Option.some.inj H
       go_wp2_with (first | ((with_reducible refine gate_callee (f := 197) rfl ?_); refine goesL_ (some 36) rfl rfl Tryz.func197 (by kernel_rfl) rfl #[.slice A0 l0.length c0] rfl (by (try simp only [List.map_toArray, List.map_cons, List.map_nil]); first | done | rfl | (simp only [List.length_drop, List.length_take]; rfl)) ?_; (with_reducible refine (lexiphaneref1_Kraft.calls k1 _ _ l0 t357 _ ?side1 ?side2 A10.out).mono ?_); (case side1 => repeat (first | exact HR0.out | (with_reducible refine Kd.C_alloc ?_ _) | (with_reducible refine Kd.C_drewN ?_ _) | (with_reducible refine Kd.C_drew ?_))); (case side2 => exact HC0.out); rintro e w' ⟨rfl, ⟨nd, rfl⟩⟩; refine ⟨_, rfl, ?_⟩))
       go_ret
       exact ⟨by first | rfl | (simp; done) | (simp [*]; done), by repeat (first | exact Drawn0.refl _ | apply Drawn0.step)⟩
      ·rw [if_neg c13] at H
       have c13b0 : (x4_1 == 1) = false := beq_eq_false_iff_ne.mpr c13
       have c13b1 : (x4_1 != 1) = true := bne_iff_ne.mpr c13
       obtain rfl := Option.some.inj H
       go_wp2_with (first | ((with_reducible refine gate_callee (f := 197) rfl ?_); refine goesL_ (some 36) rfl rfl Tryz.func197 (by kernel_rfl) rfl #[.slice A0 l0.length c0] rfl (by (try simp only [List.map_toArray, List.map_cons, List.map_nil]); first | done | rfl | (simp only [List.length_drop, List.length_take]; rfl)) ?_; (with_reducible refine (lexiphaneref1_Kraft.calls k1 _ _ l0 t357 _ ?side1 ?side2 A10.out).mono ?_); (case side1 => repeat (first | exact HR0.out | (with_reducible refine Kd.C_alloc ?_ _) | (with_reducible refine Kd.C_drewN ?_ _) | (with_reducible refine Kd.C_drew ?_))); (case side2 => exact HC0.out); rintro e w' ⟨rfl, ⟨nd, rfl⟩⟩; refine ⟨_, rfl, ?_⟩))
       go_ret
       exact ⟨by first | rfl | (simp; done) | (simp [*]; done), by repeat (first | exact Drawn0.refl _ | apply Drawn0.step)⟩
     ·rw [if_neg c12] at H
      have c12b0 : (x3_1 == 1) = false := beq_eq_false_iff_ne.mpr c12
      have c12b1 : (x3_1 != 1) = true := bne_iff_ne.mpr c12
      obtain rfl := Option.some.inj H
      go_wp2_with (first | ((with_reducible refine gate_callee (f := 197) rfl ?_); refine goesL_ (some 36) rfl rfl Tryz.func197 (by kernel_rfl) rfl #[.slice A0 l0.length c0] rfl (by (try simp only [List.map_toArray, List.map_cons, List.map_nil]); first | done | rfl | (simp only [List.length_drop, List.length_take]; rfl)) ?_; (with_reducible refine (lexiphaneref1_Kraft.calls k1 _ _ l0 t357 _ ?side1 ?side2 A10.out).mono ?_); (case side1 => repeat (first | exact HR0.out | (with_reducible refine Kd.C_alloc ?_ _) | (with_reducible refine Kd.C_drewN ?_ _) | (with_reducible refine Kd.C_drew ?_))); (case side2 => exact HC0.out); rintro e w' ⟨rfl, ⟨nd, rfl⟩⟩; refine ⟨_, rfl, ?_⟩))
      go_ret
      exact ⟨by first | rfl | (simp; done) | (simp [*]; done), by repeat (first | exact Drawn0.refl _ | apply Drawn0.step)⟩
mutual
def lexiphaneref1_Codes.l0 : Nat → List Int → List Int → Int → Int → Option (List Int × Int)
 | 0, _, _, _, _ => none
 | k + 1, x0, x5, x6, x7 => if x7 ≤ 15 then (lexiphaneref1_Codes.l1 k x0 x5 (wrap64 (x6 * 2)) x7 0) else (some (x5, 0))
def lexiphaneref1_Codes.l1 : Nat → List Int → List Int → Int → Int → Int → Option (List Int × Int)
 | 0, _, _, _, _, _ => none
 | k + 1, x0, x5, x6, x7, x8 => if x8 < (x0.length : Int) then (if 0 ≤ x8 then (if (rd x0 x8) = x7 then (if x8 < (x5.length : Int) then (lexiphaneref1_Codes.l1 k x0 (x5.set (x8 : Int).toNat x6) (wrap64 (x6 + 1)) x7 (wrap64 (x8 + 1))) else (none)) else (lexiphaneref1_Codes.l1 k x0 x5 x6 x7 (wrap64 (x8 + 1)))) else (none)) else (lexiphaneref1_Codes.l0 k x0 x5 x6 (wrap64 (x7 + 1)))
end
def lexiphaneref1_Codes.f (k : Nat) (l0 : List Int) : Option (List Int × Int) := (lexiphaneref1_Right.f k l0).bind fun t362 => (if t362 = 0 then (if 0 ≤ (l0.length : Int) then (if ((l0.length : Int) : Int).toNat ≤ 35184372088832 then (lexiphaneref1_Codes.l0 k l0 (List.replicate ((l0.length : Int) : Int).toNat 0) 0 1) else (none)) else (none)) else (some (([] : List Int), t362)))
theorem lexiphaneref1_Codes.mono_l : ∀ k, (∀ y0 y1 y2 y3, LeO (lexiphaneref1_Codes.l0 k y0 y1 y2 y3) (lexiphaneref1_Codes.l0 (k + 1) y0 y1 y2 y3)) ∧ (∀ y0 y1 y2 y3 y4, LeO (lexiphaneref1_Codes.l1 k y0 y1 y2 y3 y4) (lexiphaneref1_Codes.l1 (k + 1) y0 y1 y2 y3 y4))
 | 0 => ⟨fun _ _ _ _ r h => by simp [lexiphaneref1_Codes.l0] at h, fun _ _ _ _ _ r h => by simp [lexiphaneref1_Codes.l1] at h⟩
 | k + 1 => by
  obtain ⟨ih0, ih1⟩ := lexiphaneref1_Codes.mono_l k
  refine ⟨?_, ?_⟩
  ·intro y0 y1 y2 y3
   unfold lexiphaneref1_Codes.l0
   repeat' first
   | (with_reducible exact ih0 _ _ _ _)
   | (with_reducible exact ih1 _ _ _ _ _)
   | (with_reducible exact lexiphaneref1_Right.mono _ _)
   | (with_reducible exact LeO.refl _)
   | (with_reducible exact LeO.none _)
   | (with_reducible refine LeO.ite ?_ ?_)
   | (with_reducible refine LeO.bind ?_ (fun _ => ?_))
   | exact ih0 _ _ _ _
   | exact ih1 _ _ _ _ _
   | exact lexiphaneref1_Right.mono _ _
   | exact LeO.none _
   | refine LeO.ite ?_ ?_
   | refine LeO.bind ?_ (fun _ => ?_)
  ·intro y0 y1 y2 y3 y4
   unfold lexiphaneref1_Codes.l1
   repeat' first
   | (with_reducible exact ih0 _ _ _ _)
   | (with_reducible exact ih1 _ _ _ _ _)
   | (with_reducible exact lexiphaneref1_Right.mono _ _)
   | (with_reducible exact LeO.refl _)
   | (with_reducible exact LeO.none _)
   | (with_reducible refine LeO.ite ?_ ?_)
   | (with_reducible refine LeO.bind ?_ (fun _ => ?_))
   | exact ih0 _ _ _ _
   | exact ih1 _ _ _ _ _
   | exact lexiphaneref1_Right.mono _ _
   | exact LeO.none _
   | refine LeO.ite ?_ ?_
   | refine LeO.bind ?_ (fun _ => ?_)
theorem lexiphaneref1_Codes.mono : ∀ a0 k, LeO (lexiphaneref1_Codes.f k a0) (lexiphaneref1_Codes.f (k + 1) a0) := by
 intro a0 k
 obtain ⟨ih0, ih1⟩ := lexiphaneref1_Codes.mono_l k
 unfold lexiphaneref1_Codes.f
 repeat' first
   | (with_reducible exact ih0 _ _ _ _)
   | (with_reducible exact ih1 _ _ _ _ _)
   | (with_reducible exact lexiphaneref1_Right.mono _ _)
   | (with_reducible exact LeO.refl _)
   | (with_reducible exact LeO.none _)
   | (with_reducible refine LeO.ite ?_ ?_)
   | (with_reducible refine LeO.bind ?_ (fun _ => ?_))
   | exact ih0 _ _ _ _
   | exact ih1 _ _ _ _ _
   | exact lexiphaneref1_Right.mono _ _
   | exact LeO.none _
   | refine LeO.ite ?_ ?_
   | refine LeO.bind ?_ (fun _ => ?_)
set_option maxHeartbeats 8000000 in
theorem lexiphaneref1_Codes.calls (k : Nat) (A0 : Option Addr) (c0 : Nat) (l0 : List Int) (r1 : List Int) (r2 : Int) (w : World) (hr0 : Kd.C (Kd.int .i64) w A0 l0.length l0) (hc0 : l0.length ≤ c0) (h : lexiphaneref1_Codes.f k l0 = some (r1, r2)) :
  Calls Tryz.prog 103 #[.slice A0 l0.length c0] w fun e w' => ∃ v0_ : Value, e = .returned (.tuple #[v0_, .int .i64 r2]) ∧ Kd.R (Kd.int .i64) 3 w' w.heap.size (fun _ => True) v0_ r1 ∧ Below w.heap.size w w' := by
 have HR0 := Aside0.mk hr0
 have HC0 := Aside0.mk hc0
 clear hr0 hc0
 have HB := Aside0.mk (Below.refl w.heap.size w)
 have H : ((lexiphaneref1_Right.f k l0).bind fun t362 => (if t362 = 0 then (if 0 ≤ (l0.length : Int) then (if ((l0.length : Int) : Int).toNat ≤ 35184372088832 then (lexiphaneref1_Codes.l0 k l0 (List.replicate ((l0.length : Int) : Int).toNat 0) 0 1) else (none)) else (none)) else (some (([] : List Int), t362)))) = some (r1, r2) := h
 clear h
 replace H := Option.bind_eq_some_iff.mp H
 obtain ⟨t362, A20, H⟩ := H
 replace H : (if t362 = 0 then (if 0 ≤ (l0.length : Int) then (if ((l0.length : Int) : Int).toNat ≤ 35184372088832 then (lexiphaneref1_Codes.l0 k l0 (List.replicate ((l0.length : Int) : Int).toNat 0) 0 1) else (none)) else (none)) else (some (([] : List Int), t362))) = some (r1, r2) := H
 have A2 := Aside0.mk A20
 clear A20
 by_cases c3 : t362 = 0
 ·rw [if_pos c3] at H
  have c3b0 : (t362 == 0) = true := beq_iff_eq.mpr c3
  have c3b1 : (t362 != 0) = false := bne_eq_false_iff_eq.mpr c3
  clear c3
  by_cases c4 : 0 ≤ (l0.length : Int)
  ·rw [if_pos c4] at H
   have c4b0 := eq_true c4
   have c4b1 : decide (0 ≤ (l0.length : Int)) = true := decide_eq_true c4
   clear c4
   by_cases c5 : ((l0.length : Int) : Int).toNat ≤ 35184372088832
   ·rw [if_pos c5] at H
    have c5b0 := eq_true c5
    have c5b1 : decide (((l0.length : Int) : Int).toNat ≤ 35184372088832) = true := decide_eq_true c5
    clear c5
    obtain ⟨y363, hy363⟩ : ∃ y_ : List Int, y_ = (List.replicate ((l0.length : Int) : Int).toNat 0) := ⟨_, rfl⟩
    replace H : (lexiphaneref1_Codes.l0 k l0 y363 0 1) = some (r1, r2) := by first | (rw [hy363]; with_reducible exact H) | (have H2_ := (Option.bind_some _ _).symm.trans H; rw [hy363]; with_reducible exact H2_) | (have H2_ := (Option.bind_some _ _).symm.trans H; with_reducible exact H2_) | with_reducible exact H | (rw [hy363]; exact H) | exact H
    have Ny363 := Aside0.mk hy363
    clear hy363
    have H' := Aside0.mk H
    clear H
    go_enter Tryz.func103, Tryz.ntmps103
    go_wp2_with (first | ((with_reducible refine gate_callee (f := 154) rfl ?_); refine goesL_ (some 10) rfl rfl Tryz.func154 (by kernel_rfl) rfl #[.slice A0 l0.length c0] rfl (by (try simp only [List.map_toArray, List.map_cons, List.map_nil]); first | done | rfl | (simp only [List.length_drop, List.length_take]; rfl)) ?_; (with_reducible refine (lexiphaneref1_Right.calls k _ _ l0 t362 _ ?side1 ?side2 A2.out).mono ?_); (case side1 => repeat (first | exact HR0.out | (with_reducible refine Kd.C_alloc ?_ _) | (with_reducible refine Kd.C_drewN ?_ _) | (with_reducible refine Kd.C_drew ?_))); (case side2 => exact HC0.out); rintro e w' ⟨rfl, ⟨nd, rfl⟩⟩; refine ⟨_, rfl, ?_⟩) | ((with_reducible refine gate_dst (N := 16) rfl ?_); refine Kd.R_make (Kd.int .i64) _ 3 rfl (N := 16) rfl 29 _ _ rfl (l0.length : Int) rfl rfl Tryz.underlying29 (.int .i64 0) 8 info3 rfl (by decide) (by omega) 0 (ok := fun _ => True) (okp := fun _ => True) rfl (fun _ hk => hk) trivial (of_decide_eq_true (by first | (with_reducible assumption) | assumption)) (Nat.le_trans (Nat.mul_le_mul_right _ (of_decide_eq_true (by first | (with_reducible assumption) | assumption) : (l0.length : Int).toNat ≤ 35184372088832)) (by omega)) (Below.refl _ _) (Nat.le_refl _) ?_; intro v364 w6 ho7 hb hg_ hnew_; clear hg_ hnew_; (first | rw [← Ny363.out] at ho7 | (simp only [Int.reduceToNat] at ho7; rw [← Ny363.out] at ho7)); have n0_ := Aside0.mk (Kd.R_lower ho7 (below_size (by repeat (first | (with_reducible first | exact HB.out | apply below_alloc | apply pw_below_drewN | apply below_drew1) | exact HB.out)))); have n1_ := Aside0.mk (below_step (by repeat (first | (with_reducible first | exact HB.out | apply below_alloc | apply pw_below_drewN | apply below_drew1) | exact HB.out)) hb); clear HB; have HO365 := n0_; have HB := n1_; clear n0_ n1_; clear hb ho7))
    go_loopg [6, 7] k (fun kq v6 v7 w' => ∃ (x5_1 : List Int) (x6_1 : Int) (x7_1 : Int), v6 = .int .i64 x6_1 ∧ v7 = .int .i64 x7_1 ∧ Aside0 (lexiphaneref1_Codes.l0 kq l0 x5_1 x6_1 x7_1 = some (r1, r2)) ∧ Aside0 (kq ≤ k) ∧ Aside0 (Kd.R (Kd.int .i64) 3 w' w.heap.size (fun _ => True) v364 x5_1) ∧ Aside0 (Below w.heap.size w w'))
    case atStart => exact ⟨(y363), (0), (1), (by first | rfl | (simp; done) | (simp [*]; done)), (by first | rfl | (simp; done) | (simp [*]; done)), H', ⟨Nat.le_refl _⟩, ⟨by (with_reducible repeat (first | apply Kd.R_alloc | apply Kd.R_drewN | apply Kd.R_drew)); exact HO365.out⟩, ⟨by repeat (first | (with_reducible first | exact HB.out | apply below_alloc | apply pw_below_drewN | apply below_drew1) | exact HB.out)⟩⟩
    case round =>
     clear H'
     try clear c1
     try clear p2
     try clear c3
     try clear c3b0
     try clear c3b1
     try clear c4
     try clear c4b0
     try clear c4b1
     try clear c5
     try clear c5b0
     try clear c5b1
     obtain ⟨x5_1, x6_1, x7_1, rfl, rfl, HA, HK1, HO_5, HB⟩ := hrel
     cases gk with
     | zero => exact absurd HA.out (by simp [lexiphaneref1_Codes.l0])
     | succ k1 =>
      have H := HA.out
      clear HA
      simp only [lexiphaneref1_Codes.l0] at H
      by_cases c8 : x7_1 ≤ 15
      ·rw [if_pos c8] at H
       have c8b0 : decide (x7_1 ≤ 15) = true := decide_eq_true c8
       clear c8
       have H' := Aside0.mk H
       clear H
       go_wp2
       go_loopg [6, 8] k1 (fun kq v6 v8 w' => ∃ (x5_2 : List Int) (x6_2 : Int) (x8_2 : Int), v6 = .int .i64 x6_2 ∧ v8 = .int .i64 x8_2 ∧ Aside0 (lexiphaneref1_Codes.l1 kq l0 x5_2 x6_2 x7_1 x8_2 = some (r1, r2)) ∧ Aside0 (kq ≤ k1) ∧ Aside0 (Kd.R (Kd.int .i64) 3 w' w.heap.size (fun _ => True) v364 x5_2) ∧ Aside0 (Below w.heap.size w w'))
       case atStart => exact ⟨(x5_1), (wrap64 (x6_1 * 2)), (0), (by first | rfl | (simp; done) | (simp [*]; done)), (by first | rfl | (simp; done) | (simp [*]; done)), H', ⟨Nat.le_refl _⟩, ⟨by (with_reducible repeat (first | apply Kd.R_alloc | apply Kd.R_drewN | apply Kd.R_drew)); exact HO_5.out⟩, ⟨by repeat (first | (with_reducible first | exact HB.out | apply below_alloc | apply pw_below_drewN | apply below_drew1) | exact HB.out)⟩⟩
       case round =>
        clear H'
        try clear c1
        try clear p2
        try clear c3
        try clear c3b0
        try clear c3b1
        try clear c4
        try clear c4b0
        try clear c4b1
        try clear c5
        try clear c5b0
        try clear c5b1
        try clear p6
        try clear c8
        try clear c8b0
        try clear p2
        obtain ⟨x5_2, x6_2, x8_2, rfl, rfl, HA, HK2, HO_5, HB⟩ := hrel
        cases gk with
        | zero => exact absurd HA.out (by simp [lexiphaneref1_Codes.l1])
        | succ k2 =>
         have H := HA.out
         clear HA
         simp only [lexiphaneref1_Codes.l1] at H
         by_cases c9 : x8_2 < (l0.length : Int)
         ·rw [if_pos c9] at H
          have c9b0 : decide (x8_2 < (l0.length : Int)) = true := decide_eq_true c9
          clear c9
          by_cases c10 : 0 ≤ x8_2
          ·rw [if_pos c10] at H
           have c10b0 : decide (0 ≤ x8_2) = true := decide_eq_true c10
           clear c10
           by_cases c11 : (rd l0 x8_2) = x7_1
           ·rw [if_pos c11] at H
            have c11b0 : ((rd l0 x8_2) == x7_1) = true := beq_iff_eq.mpr c11
            have c11b1 : ((rd l0 x8_2) != x7_1) = false := bne_eq_false_iff_eq.mpr c11
            clear c11
            by_cases c12 : x8_2 < (x5_2.length : Int)
            ·rw [if_pos c12] at H
             have c12b0 : decide (x8_2 < (x5_2.length : Int)) = true := decide_eq_true c12
             clear c12
             obtain ⟨y367, hy367⟩ : ∃ y_ : List Int, y_ = (x5_2.set (x8_2 : Int).toNat x6_2) := ⟨_, rfl⟩
             replace H : (lexiphaneref1_Codes.l1 k2 l0 y367 (wrap64 (x6_2 + 1)) x7_1 (wrap64 (x8_2 + 1))) = some (r1, r2) := by first | (rw [hy367]; with_reducible exact H) | (have H2_ := (Option.bind_some _ _).symm.trans H; rw [hy367]; with_reducible exact H2_) | (have H2_ := (Option.bind_some _ _).symm.trans H; with_reducible exact H2_) | with_reducible exact H | (rw [hy367]; exact H) | exact H
             have Ny367 := Aside0.mk hy367
             clear hy367
             have H' := Aside0.mk H
             clear H
             have p366 : 0 ≤ (x8_2 : Int) := of_decide_eq_true (by first | (with_reducible assumption) | assumption)
             have q366 : x8_2 < (l0.length : Int) := of_decide_eq_true (by first | (with_reducible assumption) | assumption)
             obtain ⟨ad366, e366, hx366_0⟩ := Kd.at_int HR0.out x8_2 p366 q366
             cases e366
             replace hx366_0 := (HB.out.cell (World.block_lt_of_cell? w _ hx366_0)).trans hx366_0
             replace p366 := eq_true p366
             replace q366 := eq_true q366
             have p13 : 0 ≤ (x8_2 : Int) := of_decide_eq_true (by first | (with_reducible assumption) | assumption)
             have q13 : (x8_2 : Int) < ((x5_2.length : Int) : Int) := of_decide_eq_true (by first | (with_reducible assumption) | assumption)
             obtain ⟨go13, co13, eo13, gb13, gl13, cl13, HG13⟩ := Kd.R_form HO_5.out (by omega)
             (first | cases eo13 | (injection eo13 with ea_ en_ ec_; (first | subst ea_ | (injection ea_ with ea_; subst ea_)); subst ec_; clear en_))
             have GB13 := Aside0.mk gb13
             have GG13 := Aside0.mk HG13
             clear gb13 gl13 HG13
             obtain ⟨hx13_0, hf13_0⟩ := Kd.R_celln 0 HO_5.out (x8_2 : Int) p13 q13
             replace p13 := eq_true p13
             replace q13 := eq_true q13
             have HP14 := Kd.R_putg HO_5.out (x8_2 : Int) x6_2
             go_wp2_with (first | ((with_reducible refine gate_store (t := 3) (p := 38) rfl ?_); refine store_event (t := 3) (p := 38) (v := ?vo_w15) (w1 := (wr.setCell ⟨go13, (x8_2 : Int).toNat, none⟩ (.int .i64 x6_2))) ?hg ?ho ?hn ?hr ?_; (case ho => rfl); (case hg => rfl); (case hn => rfl); (case hr => first | (go_simp; done) | (go_simp; rfl)); intro w15 hw; have hg : wr.grownBy w15 (some go13) := (by rw [hw]; exact HP14.2); have hp_ : Kd.R (Kd.int .i64) 3 w15 w.heap.size (fun _ => True) (.slice (some ⟨go13, 0, none⟩) x5_2.length co13) y367 := (by rw [hw, Ny367.out]; exact HP14.1); clear HP14; have n0_ := Aside0.mk (hp_); have n1_ := Aside0.mk ((by rw [hw]; exact below_set (HB.out) GB13.out : Below w.heap.size w w15)); clear HO_5; clear HB; have HO_5 := n0_; have HB := n1_; clear n0_ n1_; clear hg hw hp_))
             go_roundg k2
             case measure => have := HK1.out; have := HK2.out; omega
             case rel => exact ⟨(y367), (wrap64 (x6_2 + 1)), (wrap64 (x8_2 + 1)), (by first | rfl | (simp; done) | (simp [*]; done)), (by first | rfl | (simp; done) | (simp [*]; done)), H', ⟨by have := HK1.out; have := HK2.out; omega⟩, ⟨by (with_reducible repeat (first | apply Kd.R_alloc | apply Kd.R_drewN | apply Kd.R_drew)); exact HO_5.out⟩, ⟨by repeat (first | (with_reducible first | exact HB.out | apply below_alloc | apply pw_below_drewN | apply below_drew1) | exact HB.out)⟩⟩
            ·rw [if_neg c12] at H
             exact absurd H (by simp)
           ·rw [if_neg c11] at H
            have c11b0 : ((rd l0 x8_2) == x7_1) = false := beq_eq_false_iff_ne.mpr c11
            have c11b1 : ((rd l0 x8_2) != x7_1) = true := bne_iff_ne.mpr c11
            have H' := Aside0.mk H
            clear H
            have p366 : 0 ≤ (x8_2 : Int) := of_decide_eq_true (by first | (with_reducible assumption) | assumption)
            have q366 : x8_2 < (l0.length : Int) := of_decide_eq_true (by first | (with_reducible assumption) | assumption)
            obtain ⟨ad366, e366, hx366_0⟩ := Kd.at_int HR0.out x8_2 p366 q366
            cases e366
            replace hx366_0 := (HB.out.cell (World.block_lt_of_cell? w _ hx366_0)).trans hx366_0
            replace p366 := eq_true p366
            replace q366 := eq_true q366
            go_wp2
            go_roundg k2
            case measure => have := HK1.out; have := HK2.out; omega
            case rel => exact ⟨(x5_2), (x6_2), (wrap64 (x8_2 + 1)), (by first | rfl | (simp; done) | (simp [*]; done)), (by first | rfl | (simp; done) | (simp [*]; done)), H', ⟨by have := HK1.out; have := HK2.out; omega⟩, ⟨by (with_reducible repeat (first | apply Kd.R_alloc | apply Kd.R_drewN | apply Kd.R_drew)); exact HO_5.out⟩, ⟨by repeat (first | (with_reducible first | exact HB.out | apply below_alloc | apply pw_below_drewN | apply below_drew1) | exact HB.out)⟩⟩
          ·rw [if_neg c10] at H
           exact absurd H (by simp)
         ·rw [if_neg c9] at H
          have c9b0 : decide (x8_2 < (l0.length : Int)) = false := decide_eq_false c9
          clear c9
          have H' := Aside0.mk H
          clear H
          go_wp2
          go_roundg k2
          case measure => have := HK1.out; have := HK2.out; omega
          case rel => exact ⟨(x5_2), (x6_2), (wrap64 (x7_1 + 1)), (by first | rfl | (simp; done) | (simp [*]; done)), (by first | rfl | (simp; done) | (simp [*]; done)), H', ⟨by have := HK1.out; have := HK2.out; omega⟩, ⟨by (with_reducible repeat (first | apply Kd.R_alloc | apply Kd.R_drewN | apply Kd.R_drew)); exact HO_5.out⟩, ⟨by repeat (first | (with_reducible first | exact HB.out | apply below_alloc | apply pw_below_drewN | apply below_drew1) | exact HB.out)⟩⟩
      ·rw [if_neg c8] at H
       have c8b0 : decide (x7_1 ≤ 15) = false := decide_eq_false c8
       clear c8
       simp only [Option.some.injEq, Prod.mk.injEq] at H
       obtain ⟨rfl, rfl⟩ := H
       go_wp2
       go_ret2
       exact ⟨_, by first | rfl | (simp [errW_none, errW_some] <;> rfl) | (simp [*, errW_none, errW_some] <;> rfl), by (with_reducible repeat (first | apply Kd.R_alloc | apply Kd.R_drewN | apply Kd.R_drew)); exact HO_5.out, by repeat (first | (with_reducible first | exact HB.out | apply below_alloc | apply pw_below_drewN | apply below_drew1) | exact HB.out)⟩
   ·rw [if_neg c5] at H
    exact absurd H (by simp)
  ·rw [if_neg c4] at H
   exact absurd H (by simp)
 ·rw [if_neg c3] at H
  have c3b0 : (t362 == 0) = false := beq_eq_false_iff_ne.mpr c3
  have c3b1 : (t362 != 0) = true := bne_iff_ne.mpr c3
  simp only [Option.some.injEq, Prod.mk.injEq] at H
  obtain ⟨rfl, rfl⟩ := H
  go_enter Tryz.func103, Tryz.ntmps103
  go_wp2_with (first | ((with_reducible refine gate_callee (f := 154) rfl ?_); refine goesL_ (some 10) rfl rfl Tryz.func154 (by kernel_rfl) rfl #[.slice A0 l0.length c0] rfl (by (try simp only [List.map_toArray, List.map_cons, List.map_nil]); first | done | rfl | (simp only [List.length_drop, List.length_take]; rfl)) ?_; (with_reducible refine (lexiphaneref1_Right.calls k _ _ l0 t362 _ ?side1 ?side2 A2.out).mono ?_); (case side1 => repeat (first | exact HR0.out | (with_reducible refine Kd.C_alloc ?_ _) | (with_reducible refine Kd.C_drewN ?_ _) | (with_reducible refine Kd.C_drew ?_))); (case side2 => exact HC0.out); rintro e w' ⟨rfl, ⟨nd, rfl⟩⟩; refine ⟨_, rfl, ?_⟩))
  go_ret2
  exact ⟨_, by first | rfl | (simp [errW_none, errW_some] <;> rfl) | (simp [*, errW_none, errW_some] <;> rfl), by first | exact Kd.R_nil _ _ _ _ _ | exact Kd.N_nil _ _ _ _ _ | exact Kd.V_nil _ _ _ _ _ | exact Kd.Q_nil _ _ _ _ _ | exact Kd.S_nil _ _ _ _ _, by repeat (first | (with_reducible first | exact HB.out | apply below_alloc | apply pw_below_drewN | apply below_drew1) | exact HB.out)⟩
mutual
def lexiphaneref1_Tab.l0 : Nat → List Int → List Int → Int → Int → Option (ByteArray × Bool)
 | 0, _, _, _, _ => none
 | k + 1, x0, x4, x5, x6 => if x6 < (x0.length : Int) then (if 0 ≤ x6 then (if (rd x0 x6) < 0 then (lexiphaneref1_Tab.j1 k x0 x4 x5 x6 true) else (lexiphaneref1_Tab.j1 k x0 x4 x5 x6 (decide ((rd x0 x6) > 15)))) else (none)) else (some (strOfNums x4, true))
def lexiphaneref1_Tab.j1 : Nat → List Int → List Int → Int → Int → Bool → Option (ByteArray × Bool)
 | 0, _, _, _, _, _ => none
 | k + 1, x0, x4, x5, x6, x27 => if x27 = true then (some ((⟨#[]⟩ : ByteArray), false)) else (if (wrap64 (x5 + 1)) = 16 then (if 0 ≤ x6 then (if x6 < (x0.length : Int) then (if x4.length < 140737488355328 then (lexiphaneref1_Tab.l0 k x0 (x4 ++ [(wrap64 ((wrap64 ((wrap64 (16 * (rd x0 x6))) + (wrap64 (x5 + 1)))) - 1)) % 256]) 0 (wrap64 (x6 + 1))) else (none)) else (none)) else (none)) else (if x6 = (wrap64 ((x0.length : Int) - 1)) then (if 0 ≤ x6 then (if x6 < (x0.length : Int) then (if x4.length < 140737488355328 then (lexiphaneref1_Tab.l0 k x0 (x4 ++ [(wrap64 ((wrap64 ((wrap64 (16 * (rd x0 x6))) + (wrap64 (x5 + 1)))) - 1)) % 256]) 0 (wrap64 (x6 + 1))) else (none)) else (none)) else (none)) else (if 0 ≤ (wrap64 (x6 + 1)) then (if (wrap64 (x6 + 1)) < (x0.length : Int) then (if 0 ≤ x6 then (if x6 < (x0.length : Int) then (if (rd x0 (wrap64 (x6 + 1))) = (rd x0 x6) then (lexiphaneref1_Tab.l0 k x0 x4 (wrap64 (x5 + 1)) (wrap64 (x6 + 1))) else (if x4.length < 140737488355328 then (lexiphaneref1_Tab.l0 k x0 (x4 ++ [(wrap64 ((wrap64 ((wrap64 (16 * (rd x0 x6))) + (wrap64 (x5 + 1)))) - 1)) % 256]) 0 (wrap64 (x6 + 1))) else (none))) else (none)) else (none)) else (none)) else (none))))
end
def lexiphaneref1_Tab.f (k : Nat) (l0 : List Int) : Option (ByteArray × Bool) := if (l0.length : Int) > 356 then (some ((⟨#[]⟩ : ByteArray), false)) else (lexiphaneref1_Tab.l0 k l0 ([] : List Int) 0 0)
theorem lexiphaneref1_Tab.mono_l : ∀ k, (∀ y0 y1 y2 y3, LeO (lexiphaneref1_Tab.l0 k y0 y1 y2 y3) (lexiphaneref1_Tab.l0 (k + 1) y0 y1 y2 y3)) ∧ (∀ y0 y1 y2 y3 y4, LeO (lexiphaneref1_Tab.j1 k y0 y1 y2 y3 y4) (lexiphaneref1_Tab.j1 (k + 1) y0 y1 y2 y3 y4))
 | 0 => ⟨fun _ _ _ _ r h => by simp [lexiphaneref1_Tab.l0] at h, fun _ _ _ _ _ r h => by simp [lexiphaneref1_Tab.j1] at h⟩
 | k + 1 => by
  obtain ⟨ih0, ih1⟩ := lexiphaneref1_Tab.mono_l k
  refine ⟨?_, ?_⟩
  ·intro y0 y1 y2 y3
   unfold lexiphaneref1_Tab.l0
   repeat' first
   | (with_reducible exact ih0 _ _ _ _)
   | (with_reducible exact ih1 _ _ _ _ _)
   | (with_reducible exact LeO.refl _)
   | (with_reducible exact LeO.none _)
   | (with_reducible refine LeO.ite ?_ ?_)
   | (with_reducible refine LeO.bind ?_ (fun _ => ?_))
   | exact ih0 _ _ _ _
   | exact ih1 _ _ _ _ _
   | exact LeO.none _
   | refine LeO.ite ?_ ?_
   | refine LeO.bind ?_ (fun _ => ?_)
  ·intro y0 y1 y2 y3 y4
   unfold lexiphaneref1_Tab.j1
   repeat' first
   | (with_reducible exact ih0 _ _ _ _)
   | (with_reducible exact ih1 _ _ _ _ _)
   | (with_reducible exact LeO.refl _)
   | (with_reducible exact LeO.none _)
   | (with_reducible refine LeO.ite ?_ ?_)
   | (with_reducible refine LeO.bind ?_ (fun _ => ?_))
   | exact ih0 _ _ _ _
   | exact ih1 _ _ _ _ _
   | exact LeO.none _
   | refine LeO.ite ?_ ?_
   | refine LeO.bind ?_ (fun _ => ?_)
theorem lexiphaneref1_Tab.mono : ∀ a0 k, LeO (lexiphaneref1_Tab.f k a0) (lexiphaneref1_Tab.f (k + 1) a0) := by
 intro a0 k
 obtain ⟨ih0, ih1⟩ := lexiphaneref1_Tab.mono_l k
 unfold lexiphaneref1_Tab.f
 repeat' first
   | (with_reducible exact ih0 _ _ _ _)
   | (with_reducible exact ih1 _ _ _ _ _)
   | (with_reducible exact LeO.refl _)
   | (with_reducible exact LeO.none _)
   | (with_reducible refine LeO.ite ?_ ?_)
   | (with_reducible refine LeO.bind ?_ (fun _ => ?_))
   | exact ih0 _ _ _ _
   | exact ih1 _ _ _ _ _
   | exact LeO.none _
   | refine LeO.ite ?_ ?_
   | refine LeO.bind ?_ (fun _ => ?_)
end Go.Proofs.YtepgkimlmoikmaaGreat.Leaf
