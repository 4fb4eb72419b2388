/- ShU: a part of its proof (contracts of the functions that it reaches, and the plain mathematics behind them). -/
import Derived.Test.YtepgkimlmoikmaaGreatShU9
set_option linter.unusedVariables false
set_option linter.unusedSimpArgs false
set_option maxHeartbeats 2000000
set_option maxRecDepth 100000
set_option linter.unusedVariables false
set_option linter.unusedSimpArgs false
namespace Go.Proofs.YtepgkimlmoikmaaGreat.Leaf
open Go.RowKit Go.Proofs.YtepgkimlmoikmaaGreatW.PrintWords Go.Proofs.YtepgkimlmoikmaaGreatW.PrintLast Go.Proofs.YtepgkimlmoikmaaGreatW.PrintMore
attribute [local go_sem] max2_int min2_int max_two min_two max_three min_three max_four min_four
private theorem wr_sum_312 (p q : Nat) (h : p + q ≤ 9223372036854775807) : wrap64 ((p : Int) + (q : Int)) = (p : Int) + (q : Int) := by unfold wrap64; omega
mutual
def lexiphaneref1_Get.j0 : Nat → List ByteArray → Int → Int → Int → ByteArray → Bool → Option (ByteArray × Int)
 | 0, _, _, _, _, _, _ => none
 | k + 1, x0, x1, x2, x3, x4, x45 => if x45 = true then (some ((⟨#[]⟩ : ByteArray), 1)) else (if x2 = 1 then (if (x4.size : Int) = x3 then (some (x4, 0)) else (some ((⟨#[]⟩ : ByteArray), 12))) else (if x1 = 0 then ((lexiphaneref1_numbers.f k x0 x3 x4).bind fun bt460 => (some (bt460.1, bt460.2))) else ((lexiphaneref1_Untab.f k x4 (wrap64 (256 + (x0.length : Int)))).bind fun bt462 => (if bt462.2.2 = 0 then ((lexiphaneref1_Codes.f k bt462.1).bind fun bt467 => (if bt467.2 = 0 then (if 0 ≤ bt462.2.1 then (if bt462.2.1 ≤ (x4.size : Int) then ((lexiphaneref1_bitsOf.f k (x4.extract (bt462.2.1 : Int).toNat x4.size)).bind fun t471 => (lexiphaneref1_Get.l0 k x0 x3 bt462.1 bt467.1 t471 (⟨#[]⟩ : ByteArray) 0)) else (none)) else (none)) else (some ((⟨#[]⟩ : ByteArray), bt467.2)))) else (some ((⟨#[]⟩ : ByteArray), bt462.2.2))))))
def lexiphaneref1_Get.l0 : Nat → List ByteArray → Int → List Int → List Int → List Int → ByteArray → Int → Option (ByteArray × Int)
 | 0, _, _, _, _, _, _, _ => none
 | k + 1, x0, x3, x12, x15, x16, x17, x18 => if (x17.size : Int) < x3 then ((lexiphaneref1_Next.f k x12 x15 x16 x18).bind fun bt474 => (if bt474.2.2 = 0 then ((lexiphaneref1_Means.f k x0 bt474.1).bind fun bt477 => (if (wrap64 ((x17.size : Int) + (bt477.1.size : Int))) > x3 then (some ((⟨#[]⟩ : ByteArray), 12)) else (if x17.size + bt477.1.size ≤ 9223372036854775807 then (lexiphaneref1_Get.l0 k x0 x3 x12 x15 x16 (x17 ++ bt477.1) (wrap64 (x18 + bt474.2.1))) else (none)))) else (some ((⟨#[]⟩ : ByteArray), bt474.2.2)))) else (if (wrap64 ((x16.length : Int) - x18)) ≥ 8 then (some ((⟨#[]⟩ : ByteArray), 13)) else (lexiphaneref1_Get.l1 k x16 x17 x18))
def lexiphaneref1_Get.l1 : Nat → List Int → ByteArray → Int → Option (ByteArray × Int)
 | 0, _, _, _ => none
 | k + 1, x16, x17, x18 => if x18 < (x16.length : Int) then (if 0 ≤ x18 then (if (rd x16 x18) = 0 then (lexiphaneref1_Get.l1 k x16 x17 (wrap64 (x18 + 1))) else (some ((⟨#[]⟩ : ByteArray), 13))) else (none)) else (some (x17, 0))
end
def lexiphaneref1_Get.f (k : Nat) (l0 : List ByteArray) (a1 : Int) (a2 : Int) (a3 : Int) (a4 : ByteArray) : Option (ByteArray × Int) := if a1 < 0 then (lexiphaneref1_Get.j0 k l0 a1 a2 a3 a4 true) else (if a1 > 1 then (lexiphaneref1_Get.j0 k l0 a1 a2 a3 a4 true) else (if a2 = 1 then (if a3 < 1 then (lexiphaneref1_Get.j0 k l0 a1 a2 a3 a4 true) else (lexiphaneref1_Get.j0 k l0 a1 a2 a3 a4 (decide (a3 > 1024)))) else (if a2 = 2 then (if a3 < 1 then (lexiphaneref1_Get.j0 k l0 a1 a2 a3 a4 true) else (lexiphaneref1_Get.j0 k l0 a1 a2 a3 a4 (decide (a3 > 1024)))) else (lexiphaneref1_Get.j0 k l0 a1 a2 a3 a4 true))))
theorem lexiphaneref1_Get.mono_l : ∀ k, (∀ y0 y1 y2 y3 y4 y5, LeO (lexiphaneref1_Get.j0 k y0 y1 y2 y3 y4 y5) (lexiphaneref1_Get.j0 (k + 1) y0 y1 y2 y3 y4 y5)) ∧ (∀ y0 y1 y2 y3 y4 y5 y6, LeO (lexiphaneref1_Get.l0 k y0 y1 y2 y3 y4 y5 y6) (lexiphaneref1_Get.l0 (k + 1) y0 y1 y2 y3 y4 y5 y6)) ∧ (∀ y0 y1 y2, LeO (lexiphaneref1_Get.l1 k y0 y1 y2) (lexiphaneref1_Get.l1 (k + 1) y0 y1 y2))
 | 0 => ⟨fun _ _ _ _ _ _ r h => by simp [lexiphaneref1_Get.j0] at h, fun _ _ _ _ _ _ _ r h => by simp [lexiphaneref1_Get.l0] at h, fun _ _ _ r h => by simp [lexiphaneref1_Get.l1] at h⟩
 | k + 1 => by
  obtain ⟨ih0, ih1, ih2⟩ := lexiphaneref1_Get.mono_l k
  refine ⟨?_, ?_, ?_⟩
  ·intro y0 y1 y2 y3 y4 y5
   unfold lexiphaneref1_Get.j0
   repeat' first
   | (with_reducible exact ih0 _ _ _ _ _ _)
   | (with_reducible exact ih1 _ _ _ _ _ _ _)
   | (with_reducible exact ih2 _ _ _)
   | (with_reducible exact lexiphaneref1_Codes.mono _ _)
   | (with_reducible exact lexiphaneref1_Means.mono _ _ _)
   | (with_reducible exact lexiphaneref1_Next.mono _ _ _ _ _)
   | (with_reducible exact lexiphaneref1_Untab.mono _ _ _)
   | (with_reducible exact lexiphaneref1_bitsOf.mono _ _)
   | (with_reducible exact lexiphaneref1_numbers.mono _ _ _ _)
   | (with_reducible exact LeO.refl _)
   | (with_reducible exact LeO.none _)
   | (with_reducible refine LeO.ite ?_ ?_)
   | (with_reducible refine LeO.bind ?_ (fun _ => ?_))
   | exact ih0 _ _ _ _ _ _
   | exact ih1 _ _ _ _ _ _ _
   | exact ih2 _ _ _
   | exact lexiphaneref1_Codes.mono _ _
   | exact lexiphaneref1_Means.mono _ _ _
   | exact lexiphaneref1_Next.mono _ _ _ _ _
   | exact lexiphaneref1_Untab.mono _ _ _
   | exact lexiphaneref1_bitsOf.mono _ _
   | exact lexiphaneref1_numbers.mono _ _ _ _
   | exact LeO.none _
   | refine LeO.ite ?_ ?_
   | refine LeO.bind ?_ (fun _ => ?_)
  ·intro y0 y1 y2 y3 y4 y5 y6
   unfold lexiphaneref1_Get.l0
   repeat' first
   | (with_reducible exact ih0 _ _ _ _ _ _)
   | (with_reducible exact ih1 _ _ _ _ _ _ _)
   | (with_reducible exact ih2 _ _ _)
   | (with_reducible exact lexiphaneref1_Codes.mono _ _)
   | (with_reducible exact lexiphaneref1_Means.mono _ _ _)
   | (with_reducible exact lexiphaneref1_Next.mono _ _ _ _ _)
   | (with_reducible exact lexiphaneref1_Untab.mono _ _ _)
   | (with_reducible exact lexiphaneref1_bitsOf.mono _ _)
   | (with_reducible exact lexiphaneref1_numbers.mono _ _ _ _)
   | (with_reducible exact LeO.refl _)
   | (with_reducible exact LeO.none _)
   | (with_reducible refine LeO.ite ?_ ?_)
   | (with_reducible refine LeO.bind ?_ (fun _ => ?_))
   | exact ih0 _ _ _ _ _ _
   | exact ih1 _ _ _ _ _ _ _
   | exact ih2 _ _ _
   | exact lexiphaneref1_Codes.mono _ _
   | exact lexiphaneref1_Means.mono _ _ _
   | exact lexiphaneref1_Next.mono _ _ _ _ _
   | exact lexiphaneref1_Untab.mono _ _ _
   | exact lexiphaneref1_bitsOf.mono _ _
   | exact lexiphaneref1_numbers.mono _ _ _ _
   | exact LeO.none _
   | refine LeO.ite ?_ ?_
   | refine LeO.bind ?_ (fun _ => ?_)
  ·intro y0 y1 y2
   unfold lexiphaneref1_Get.l1
   repeat' first
   | (with_reducible exact ih0 _ _ _ _ _ _)
   | (with_reducible exact ih1 _ _ _ _ _ _ _)
   | (with_reducible exact ih2 _ _ _)
   | (with_reducible exact lexiphaneref1_Codes.mono _ _)
   | (with_reducible exact lexiphaneref1_Means.mono _ _ _)
   | (with_reducible exact lexiphaneref1_Next.mono _ _ _ _ _)
   | (with_reducible exact lexiphaneref1_Untab.mono _ _ _)
   | (with_reducible exact lexiphaneref1_bitsOf.mono _ _)
   | (with_reducible exact lexiphaneref1_numbers.mono _ _ _ _)
   | (with_reducible exact LeO.refl _)
   | (with_reducible exact LeO.none _)
   | (with_reducible refine LeO.ite ?_ ?_)
   | (with_reducible refine LeO.bind ?_ (fun _ => ?_))
   | exact ih0 _ _ _ _ _ _
   | exact ih1 _ _ _ _ _ _ _
   | exact ih2 _ _ _
   | exact lexiphaneref1_Codes.mono _ _
   | exact lexiphaneref1_Means.mono _ _ _
   | exact lexiphaneref1_Next.mono _ _ _ _ _
   | exact lexiphaneref1_Untab.mono _ _ _
   | exact lexiphaneref1_bitsOf.mono _ _
   | exact lexiphaneref1_numbers.mono _ _ _ _
   | exact LeO.none _
   | refine LeO.ite ?_ ?_
   | refine LeO.bind ?_ (fun _ => ?_)
theorem lexiphaneref1_Get.mono : ∀ a0 a1 a2 a3 a4 k, LeO (lexiphaneref1_Get.f k a0 a1 a2 a3 a4) (lexiphaneref1_Get.f (k + 1) a0 a1 a2 a3 a4) := by
 intro a0 a1 a2 a3 a4 k
 obtain ⟨ih0, ih1, ih2⟩ := lexiphaneref1_Get.mono_l k
 unfold lexiphaneref1_Get.f
 repeat' first
   | (with_reducible exact ih0 _ _ _ _ _ _)
   | (with_reducible exact ih1 _ _ _ _ _ _ _)
   | (with_reducible exact ih2 _ _ _)
   | (with_reducible exact lexiphaneref1_Codes.mono _ _)
   | (with_reducible exact lexiphaneref1_Means.mono _ _ _)
   | (with_reducible exact lexiphaneref1_Next.mono _ _ _ _ _)
   | (with_reducible exact lexiphaneref1_Untab.mono _ _ _)
   | (with_reducible exact lexiphaneref1_bitsOf.mono _ _)
   | (with_reducible exact lexiphaneref1_numbers.mono _ _ _ _)
   | (with_reducible exact LeO.refl _)
   | (with_reducible exact LeO.none _)
   | (with_reducible refine LeO.ite ?_ ?_)
   | (with_reducible refine LeO.bind ?_ (fun _ => ?_))
   | exact ih0 _ _ _ _ _ _
   | exact ih1 _ _ _ _ _ _ _
   | exact ih2 _ _ _
   | exact lexiphaneref1_Codes.mono _ _
   | exact lexiphaneref1_Means.mono _ _ _
   | exact lexiphaneref1_Next.mono _ _ _ _ _
   | exact lexiphaneref1_Untab.mono _ _ _
   | exact lexiphaneref1_bitsOf.mono _ _
   | exact lexiphaneref1_numbers.mono _ _ _ _
   | exact LeO.none _
   | refine LeO.ite ?_ ?_
   | refine LeO.bind ?_ (fun _ => ?_)
set_option maxHeartbeats 8000000 in
theorem lexiphaneref1_Get.calls (k : Nat) (A0 : Option Addr) (c0 : Nat) (l0 : List ByteArray) (a1 : Int) (a2 : Int) (a3 : Int) (a4 : ByteArray) (r1 : ByteArray) (r2 : Int) (w : World) (hr0 : Kd.C Kd.string w A0 l0.length l0) (hc0 : l0.length ≤ c0) (h : lexiphaneref1_Get.f k l0 a1 a2 a3 a4 = some (r1, r2)) :
  Calls Tryz.prog 36 #[.slice A0 l0.length c0, .int .i64 a1, .int .i64 a2, .int .i64 a3, .string a4] w fun e w' => e = .returned (.tuple #[.string r1, .int .i64 r2]) ∧ Below w.heap.size w w' := by
 have HR0 := Aside0.mk hr0
 have HC0 := Aside0.mk hc0
 clear hr0 hc0
 have HB := Aside0.mk (Below.refl w.heap.size w)
 have H : (if a1 < 0 then (lexiphaneref1_Get.j0 k l0 a1 a2 a3 a4 true) else (if a1 > 1 then (lexiphaneref1_Get.j0 k l0 a1 a2 a3 a4 true) else (if a2 = 1 then (if a3 < 1 then (lexiphaneref1_Get.j0 k l0 a1 a2 a3 a4 true) else (lexiphaneref1_Get.j0 k l0 a1 a2 a3 a4 (decide (a3 > 1024)))) else (if a2 = 2 then (if a3 < 1 then (lexiphaneref1_Get.j0 k l0 a1 a2 a3 a4 true) else (lexiphaneref1_Get.j0 k l0 a1 a2 a3 a4 (decide (a3 > 1024)))) else (lexiphaneref1_Get.j0 k l0 a1 a2 a3 a4 true))))) = some (r1, r2) := h
 clear h
 have HC6 := Aside0.mk H
 clear H
 go_enter Tryz.func36, Tryz.ntmps36
 go_upto_region 1 with (fail)
 go_cut [45] (fun v45 wc => ∃ (kq : Nat) (x45_5 : Bool), v45 = .bool x45_5 ∧ Aside0 (lexiphaneref1_Get.j0 kq l0 a1 a2 a3 a4 x45_5 = some (r1, r2)) ∧ Aside0 (kq ≤ k) ∧ Aside0 (Below w.heap.size w wc))
 case first =>
  have H := HC6.out
  clear HC6
  by_cases c7 : a1 < 0
  ·rw [if_pos c7] at H
   have c7b0 : decide (a1 < 0) = true := decide_eq_true c7
   clear c7
   (first | rw [c7b0] | (simp only [i64_w, i32_w]; rw [c7b0]) | skip)
   have H' := Aside0.mk H
   clear H
   go_wp2
   go_meet
   case rel => exact ⟨_, (true), (by first | rfl | (simp; done) | (simp [*]; done)), H', ⟨by first | omega | exact Nat.le_refl _⟩, ⟨by repeat (first | (with_reducible first | exact HB.out | apply below_alloc | apply pw_below_drewN | apply below_drew1) | exact HB.out)⟩⟩
  ·rw [if_neg c7] at H
   have c7b0 : decide (a1 < 0) = false := decide_eq_false c7
   clear c7
   (first | rw [c7b0] | (simp only [i64_w, i32_w]; rw [c7b0]) | skip)
   by_cases c8 : a1 > 1
   ·rw [if_pos c8] at H
    have c8b0 : decide (1 < a1) = true := decide_eq_true c8
    clear c8
    have H' := Aside0.mk H
    clear H
    go_wp2
    go_meet
    case rel => exact ⟨_, (true), (by first | rfl | (simp; done) | (simp [*]; done)), H', ⟨by first | omega | exact Nat.le_refl _⟩, ⟨by repeat (first | (with_reducible first | exact HB.out | apply below_alloc | apply pw_below_drewN | apply below_drew1) | exact HB.out)⟩⟩
   ·rw [if_neg c8] at H
    have c8b0 : decide (1 < a1) = false := decide_eq_false c8
    clear c8
    by_cases c9 : a2 = 1
    ·rw [if_pos c9] at H
     have c9b0 : (a2 == 1) = true := beq_iff_eq.mpr c9
     have c9b1 : (a2 != 1) = false := bne_eq_false_iff_eq.mpr c9
     clear c9
     by_cases c10 : a3 < 1
     ·rw [if_pos c10] at H
      have c10b0 : decide (a3 < 1) = true := decide_eq_true c10
      clear c10
      have H' := Aside0.mk H
      clear H
      go_wp2
      go_meet
      case rel => exact ⟨_, (true), (by first | rfl | (simp; done) | (simp [*]; done)), H', ⟨by first | omega | exact Nat.le_refl _⟩, ⟨by repeat (first | (with_reducible first | exact HB.out | apply below_alloc | apply pw_below_drewN | apply below_drew1) | exact HB.out)⟩⟩
     ·rw [if_neg c10] at H
      have c10b0 : decide (a3 < 1) = false := decide_eq_false c10
      clear c10
      have H' := Aside0.mk H
      clear H
      go_wp2
      go_meet
      case rel => exact ⟨_, (decide (a3 > 1024)), (by first | rfl | (simp; done) | (simp [*]; done)), H', ⟨by first | omega | exact Nat.le_refl _⟩, ⟨by repeat (first | (with_reducible first | exact HB.out | apply below_alloc | apply pw_below_drewN | apply below_drew1) | exact HB.out)⟩⟩
    ·rw [if_neg c9] at H
     have c9b0 : (a2 == 1) = false := beq_eq_false_iff_ne.mpr c9
     have c9b1 : (a2 != 1) = true := bne_iff_ne.mpr c9
     by_cases c11 : a2 = 2
     ·rw [if_pos c11] at H
      have c11b0 : (a2 == 2) = true := beq_iff_eq.mpr c11
      have c11b1 : (a2 != 2) = false := bne_eq_false_iff_eq.mpr c11
      clear c11
      by_cases c12 : a3 < 1
      ·rw [if_pos c12] at H
       have c12b0 : decide (a3 < 1) = true := decide_eq_true c12
       clear c12
       have H' := Aside0.mk H
       clear H
       go_wp2
       go_meet
       case rel => exact ⟨_, (true), (by first | rfl | (simp; done) | (simp [*]; done)), H', ⟨by first | omega | exact Nat.le_refl _⟩, ⟨by repeat (first | (with_reducible first | exact HB.out | apply below_alloc | apply pw_below_drewN | apply below_drew1) | exact HB.out)⟩⟩
      ·rw [if_neg c12] at H
       have c12b0 : decide (a3 < 1) = false := decide_eq_false c12
       clear c12
       have H' := Aside0.mk H
       clear H
       go_wp2
       go_meet
       case rel => exact ⟨_, (decide (a3 > 1024)), (by first | rfl | (simp; done) | (simp [*]; done)), H', ⟨by first | omega | exact Nat.le_refl _⟩, ⟨by repeat (first | (with_reducible first | exact HB.out | apply below_alloc | apply pw_below_drewN | apply below_drew1) | exact HB.out)⟩⟩
     ·rw [if_neg c11] at H
      have c11b0 : (a2 == 2) = false := beq_eq_false_iff_ne.mpr c11
      have c11b1 : (a2 != 2) = true := bne_iff_ne.mpr c11
      have H' := Aside0.mk H
      clear H
      go_wp2
      go_meet
      case rel => exact ⟨_, (true), (by first | rfl | (simp; done) | (simp [*]; done)), H', ⟨by first | omega | exact Nat.le_refl _⟩, ⟨by repeat (first | (with_reducible first | exact HB.out | apply below_alloc | apply pw_below_drewN | apply below_drew1) | exact HB.out)⟩⟩
 case rest =>
  clear HC6
  try clear c1
  try clear p2
  try clear c3
  try clear c7
  try clear c7b0
  try clear c8
  try clear c8b0
  try clear c9
  try clear c9b0
  try clear c9b1
  try clear c10
  try clear c10b0
  try clear c11
  try clear c11b0
  try clear c11b1
  try clear c12
  try clear c12b0
  obtain ⟨kq, x45_5, rfl, HA, HJ5, HB⟩ := hcut
  cases kq with
  | zero => exact absurd HA.out (by simp [lexiphaneref1_Get.j0])
  | succ kj5 =>
   have H := HA.out
   clear HA
   simp only [lexiphaneref1_Get.j0] at H
   by_cases c13 : x45_5 = true
   ·subst c13
    have H1 : (some ((⟨#[]⟩ : ByteArray), 1)) = some (r1, r2) := by rw [if_pos rfl] at H; exact H
    clear H
    have H := H1
    clear H1
    simp only [Option.some.injEq, Prod.mk.injEq] at H
    obtain ⟨rfl, rfl⟩ := H
    go_wp2
    go_ret2
    exact ⟨by first | rfl | (simp [errW_none, errW_some] <;> rfl) | (simp [*, errW_none, errW_some] <;> rfl), by repeat (first | (with_reducible first | exact HB.out | apply below_alloc | apply pw_below_drewN | apply below_drew1) | exact HB.out)⟩
   ·replace c13 := Bool.eq_false_iff.mpr c13
    subst c13
    have H1 : (if a2 = 1 then (if (a4.size : Int) = a3 then (some (a4, 0)) else (some ((⟨#[]⟩ : ByteArray), 12))) else (if a1 = 0 then ((lexiphaneref1_numbers.f kj5 l0 a3 a4).bind fun bt460 => (some (bt460.1, bt460.2))) else ((lexiphaneref1_Untab.f kj5 a4 (wrap64 (256 + (l0.length : Int)))).bind fun bt462 => (if bt462.2.2 = 0 then ((lexiphaneref1_Codes.f kj5 bt462.1).bind fun bt467 => (if bt467.2 = 0 then (if 0 ≤ bt462.2.1 then (if bt462.2.1 ≤ (a4.size : Int) then ((lexiphaneref1_bitsOf.f kj5 (a4.extract (bt462.2.1 : Int).toNat a4.size)).bind fun t471 => (lexiphaneref1_Get.l0 kj5 l0 a3 bt462.1 bt467.1 t471 (⟨#[]⟩ : ByteArray) 0)) else (none)) else (none)) else (some ((⟨#[]⟩ : ByteArray), bt467.2)))) else (some ((⟨#[]⟩ : ByteArray), bt462.2.2)))))) = some (r1, r2) := by rw [if_neg (show ¬ (false = true) by decide)] at H; exact H
    clear H
    have H := H1
    clear H1
    by_cases c14 : a2 = 1
    ·rw [if_pos c14] at H
     have c14b0 : (a2 == 1) = true := beq_iff_eq.mpr c14
     have c14b1 : (a2 != 1) = false := bne_eq_false_iff_eq.mpr c14
     clear c14
     by_cases c15 : (a4.size : Int) = a3
     ·rw [if_pos c15] at H
      have c15b0 : ((a4.size : Int) == a3) = true := beq_iff_eq.mpr c15
      have c15b1 : ((a4.size : Int) != a3) = false := bne_eq_false_iff_eq.mpr c15
      clear c15
      simp only [Option.some.injEq, Prod.mk.injEq] at H
      obtain ⟨rfl, rfl⟩ := H
      go_wp2
      go_ret2
      exact ⟨by first | rfl | (simp [errW_none, errW_some] <;> rfl) | (simp [*, errW_none, errW_some] <;> rfl), by repeat (first | (with_reducible first | exact HB.out | apply below_alloc | apply pw_below_drewN | apply below_drew1) | exact HB.out)⟩
     ·rw [if_neg c15] at H
      have c15b0 : ((a4.size : Int) == a3) = false := beq_eq_false_iff_ne.mpr c15
      have c15b1 : ((a4.size : Int) != a3) = true := bne_iff_ne.mpr c15
      simp only [Option.some.injEq, Prod.mk.injEq] at H
      obtain ⟨rfl, rfl⟩ := H
      go_wp2
      go_ret2
      exact ⟨by first | rfl | (simp [errW_none, errW_some] <;> rfl) | (simp [*, errW_none, errW_some] <;> rfl), by repeat (first | (with_reducible first | exact HB.out | apply below_alloc | apply pw_below_drewN | apply below_drew1) | exact HB.out)⟩
    ·rw [if_neg c14] at H
     have c14b0 : (a2 == 1) = false := beq_eq_false_iff_ne.mpr c14
     have c14b1 : (a2 != 1) = true := bne_iff_ne.mpr c14
     by_cases c16 : a1 = 0
     ·rw [if_pos c16] at H
      have c16b0 : (a1 == 0) = true := beq_iff_eq.mpr c16
      have c16b1 : (a1 != 0) = false := bne_eq_false_iff_eq.mpr c16
      clear c16
      replace H := Option.bind_eq_some_iff.mp H
      obtain ⟨⟨t460, t461⟩, A170, H⟩ := H
      replace H : (some (t460, t461)) = some (r1, r2) := H
      have A17 := Aside0.mk A170
      clear A170
      simp only [Option.some.injEq, Prod.mk.injEq] at H
      obtain ⟨rfl, rfl⟩ := H
      go_wp2_with (first | ((with_reducible refine gate_callee (f := 107) rfl ?_); refine goesL_ (some 58) rfl rfl Tryz.func107 (by kernel_rfl) rfl #[.slice A0 l0.length c0, .int .i64 a3, .string a4] rfl (by (try simp only [List.map_toArray, List.map_cons, List.map_nil]); first | done | rfl | (simp only [List.length_drop, List.length_take]; rfl)) ?_; (with_reducible refine (lexiphaneref1_numbers.calls kj5 _ _ l0 a3 a4 t460 t461 _ ?side1 ?side2 A17.out).mono ?_); (case side1 => repeat (first | exact (Kd.C_below HR0.out HB.out) | (with_reducible refine Kd.C_alloc ?_ _) | (with_reducible refine Kd.C_drewN ?_ _) | (with_reducible refine Kd.C_drew ?_))); (case side2 => exact HC0.out); rintro e w18 ⟨rfl, hb⟩; refine ⟨_, rfl, ?_⟩; have n0_ := Aside0.mk (below_step (by repeat (first | (with_reducible first | exact HB.out | apply below_alloc | apply pw_below_drewN | apply below_drew1) | exact HB.out)) hb); clear HB; have HB := n0_; clear n0_; (try clear hb); (try clear hb2); (try clear hk); (try clear hi)))
      go_ret2
      exact ⟨by first | rfl | (simp [errW_none, errW_some] <;> rfl) | (simp [*, errW_none, errW_some] <;> rfl), by repeat (first | (with_reducible first | exact HB.out | apply below_alloc | apply pw_below_drewN | apply below_drew1) | exact HB.out)⟩
     ·rw [if_neg c16] at H
      have c16b0 : (a1 == 0) = false := beq_eq_false_iff_ne.mpr c16
      have c16b1 : (a1 != 0) = true := bne_iff_ne.mpr c16
      replace H := Option.bind_eq_some_iff.mp H
      obtain ⟨⟨t462, t463, t464⟩, A190, H⟩ := H
      replace H : (if t464 = 0 then ((lexiphaneref1_Codes.f kj5 t462).bind fun bt467 => (if bt467.2 = 0 then (if 0 ≤ t463 then (if t463 ≤ (a4.size : Int) then ((lexiphaneref1_bitsOf.f kj5 (a4.extract (t463 : Int).toNat a4.size)).bind fun t471 => (lexiphaneref1_Get.l0 kj5 l0 a3 t462 bt467.1 t471 (⟨#[]⟩ : ByteArray) 0)) else (none)) else (none)) else (some ((⟨#[]⟩ : ByteArray), bt467.2)))) else (some ((⟨#[]⟩ : ByteArray), t464))) = some (r1, r2) := H
      have A19 := Aside0.mk A190
      clear A190
      by_cases c20 : t464 = 0
      ·rw [if_pos c20] at H
       have c20b0 : (t464 == 0) = true := beq_iff_eq.mpr c20
       have c20b1 : (t464 != 0) = false := bne_eq_false_iff_eq.mpr c20
       clear c20
       replace H := Option.bind_eq_some_iff.mp H
       obtain ⟨⟨t467, t468⟩, A210, H⟩ := H
       replace H : (if t468 = 0 then (if 0 ≤ t463 then (if t463 ≤ (a4.size : Int) then ((lexiphaneref1_bitsOf.f kj5 (a4.extract (t463 : Int).toNat a4.size)).bind fun t471 => (lexiphaneref1_Get.l0 kj5 l0 a3 t462 t467 t471 (⟨#[]⟩ : ByteArray) 0)) else (none)) else (none)) else (some ((⟨#[]⟩ : ByteArray), t468))) = some (r1, r2) := H
       have A21 := Aside0.mk A210
       clear A210
       by_cases c22 : t468 = 0
       ·rw [if_pos c22] at H
        have c22b0 : (t468 == 0) = true := beq_iff_eq.mpr c22
        have c22b1 : (t468 != 0) = false := bne_eq_false_iff_eq.mpr c22
        clear c22
        by_cases c23 : 0 ≤ t463
        ·rw [if_pos c23] at H
         have c23b0 := eq_true c23
         have c23b1 : decide (0 ≤ t463) = true := decide_eq_true c23
         clear c23
         by_cases c24 : t463 ≤ (a4.size : Int)
         ·rw [if_pos c24] at H
          have c24b0 := eq_true c24
          have c24b1 : decide (t463 ≤ (a4.size : Int)) = true := decide_eq_true c24
          clear c24
          replace H := Option.bind_eq_some_iff.mp H
          obtain ⟨t471, A250, H⟩ := H
          replace H : (lexiphaneref1_Get.l0 kj5 l0 a3 t462 t467 t471 (⟨#[]⟩ : ByteArray) 0) = some (r1, r2) := H
          have A25 := Aside0.mk A250
          clear A250
          have H' := Aside0.mk H
          clear H
          go_wp2_with (first | ((with_reducible refine gate_callee (f := 108) rfl ?_); refine goesL_ (some 66) rfl rfl Tryz.func108 (by kernel_rfl) rfl #[.string a4, .int .i64 (wrap64 (256 + (l0.length : Int)))] rfl (by (try simp only [List.map_toArray, List.map_cons, List.map_nil]); first | done | rfl | (simp only [List.length_drop, List.length_take]; rfl)) ?_; (with_reducible refine (lexiphaneref1_Untab.calls kj5 a4 (wrap64 (256 + (l0.length : Int))) t462 t463 t464 _ A19.out).mono ?_); rintro e w26 ⟨v465, rfl, ho0, hb⟩; refine ⟨_, rfl, ?_⟩; have n0_ := Aside0.mk (Kd.R_lower ho0 (below_size (by repeat (first | (with_reducible first | exact HB.out | apply below_alloc | apply pw_below_drewN | apply below_drew1) | exact HB.out)))); have n1_ := Aside0.mk (below_step (by repeat (first | (with_reducible first | exact HB.out | apply below_alloc | apply pw_below_drewN | apply below_drew1) | exact HB.out)) hb); clear HB; have HO466 := n0_; have HB := n1_; clear n0_ n1_; (try clear hb); (try clear hb2); (try clear hk); (try clear hi); (try clear ho0); obtain ⟨Ao27, co27, eo27⟩ := Kd.R_slice HO466.out; subst eo27) | ((with_reducible refine gate_callee (f := 103) rfl ?_); refine goesL_ (some 75) rfl rfl Tryz.func103 (by kernel_rfl) rfl #[.slice Ao27 t462.length co27] rfl (by (try simp only [List.map_toArray, List.map_cons, List.map_nil]); first | done | rfl | (simp only [List.length_drop, List.length_take]; rfl)) ?_; (with_reducible refine (lexiphaneref1_Codes.calls kj5 _ _ t462 t467 t468 _ ?side1 ?side2 A21.out).mono ?_); (case side1 => repeat (first | exact (Kd.R_reads' HO466.out).2.2 | (with_reducible refine Kd.C_alloc ?_ _) | (with_reducible refine Kd.C_drewN ?_ _) | (with_reducible refine Kd.C_drew ?_))); (case side2 => exact (Kd.R_reads' HO466.out).2.1); rintro e w28 ⟨v469, rfl, ho0, hb⟩; refine ⟨_, rfl, ?_⟩; have n0_ := Aside0.mk (Kd.R_elder' (by (with_reducible repeat (first | apply Kd.R_alloc | apply Kd.R_drewN | apply Kd.R_drew)); exact HO466.out) (Kd.R_base ho0) hb); have n1_ := Aside0.mk (Kd.R_lower (Kd.R_new' ho0 (Kd.R_lt (by (with_reducible repeat (first | apply Kd.R_alloc | apply Kd.R_drewN | apply Kd.R_drew)); exact HO466.out))) (below_size (by repeat (first | (with_reducible first | exact HB.out | apply below_alloc | apply pw_below_drewN | apply below_drew1) | exact HB.out)))); have n2_ := Aside0.mk (below_step (by repeat (first | (with_reducible first | exact HB.out | apply below_alloc | apply pw_below_drewN | apply below_drew1) | exact HB.out)) hb); clear HO466; clear HB; have HO466 := n0_; have HO470 := n1_; have HB := n2_; clear n0_ n1_ n2_; (try clear hb); (try clear hb2); (try clear hk); (try clear hi); (try clear ho0)) | ((with_reducible refine gate_callee (f := 109) rfl ?_); refine goesL_ (some 84) rfl rfl Tryz.func109 (by kernel_rfl) rfl #[.string (a4.extract (t463 : Int).toNat a4.size)] rfl (by (try simp only [List.map_toArray, List.map_cons, List.map_nil]); first | done | rfl | (simp only [List.length_drop, List.length_take]; rfl)) ?_; (with_reducible refine (lexiphaneref1_bitsOf.calls kj5 (a4.extract (t463 : Int).toNat a4.size) t471 _ A25.out).mono ?_); rintro e w29 ⟨v472, rfl, ho0, hb⟩; refine ⟨_, rfl, ?_⟩; have n0_ := Aside0.mk (Kd.R_elder' (by (with_reducible repeat (first | apply Kd.R_alloc | apply Kd.R_drewN | apply Kd.R_drew)); exact HO466.out) (Kd.R_base ho0) hb); have n1_ := Aside0.mk (Kd.R_elder' (by (with_reducible repeat (first | apply Kd.R_alloc | apply Kd.R_drewN | apply Kd.R_drew)); exact HO470.out) (Kd.R_base ho0) hb); have n2_ := Aside0.mk (Kd.R_lower (Kd.R_new' (Kd.R_new' ho0 (Kd.R_lt (by (with_reducible repeat (first | apply Kd.R_alloc | apply Kd.R_drewN | apply Kd.R_drew)); exact HO466.out))) (Kd.R_lt (by (with_reducible repeat (first | apply Kd.R_alloc | apply Kd.R_drewN | apply Kd.R_drew)); exact HO470.out))) (below_size (by repeat (first | (with_reducible first | exact HB.out | apply below_alloc | apply pw_below_drewN | apply below_drew1) | exact HB.out)))); have n3_ := Aside0.mk (below_step (by repeat (first | (with_reducible first | exact HB.out | apply below_alloc | apply pw_below_drewN | apply below_drew1) | exact HB.out)) hb); clear HO466; clear HO470; clear HB; have HO466 := n0_; have HO470 := n1_; have HO473 := n2_; have HB := n3_; clear n0_ n1_ n2_ n3_; (try clear hb); (try clear hb2); (try clear hk); (try clear hi); (try clear ho0)))
          go_loopg [17, 18] kj5 (fun kq v17 v18 w' => ∃ (x17_2 : ByteArray) (x18_2 : Int), v17 = .string x17_2 ∧ v18 = .int .i64 x18_2 ∧ Aside0 (lexiphaneref1_Get.l0 kq l0 a3 t462 t467 t471 x17_2 x18_2 = some (r1, r2)) ∧ Aside0 (kq ≤ kj5) ∧ Aside0 (Kd.R (Kd.int .i64) 3 w' w.heap.size (fun k_ => some k_ ≠ (v469 : Value).ownBlock ∧ some k_ ≠ (v472 : Value).ownBlock) (.slice Ao27 t462.length co27) t462) ∧ Aside0 (Kd.R (Kd.int .i64) 3 w' w.heap.size (fun k_ => some k_ ≠ ((.slice Ao27 t462.length co27) : Value).ownBlock ∧ some k_ ≠ (v472 : Value).ownBlock) v469 t467) ∧ Aside0 (Kd.R (Kd.int .i64) 3 w' w.heap.size (fun k_ => some k_ ≠ ((.slice Ao27 t462.length co27) : Value).ownBlock ∧ some k_ ≠ (v469 : Value).ownBlock) v472 t471) ∧ Aside0 (Below w.heap.size w w'))
          case atStart => exact ⟨((⟨#[]⟩ : ByteArray)), (0), (by first | rfl | (simp; done) | (simp [*]; done)), (by first | rfl | (simp; done) | (simp [*]; done)), H', ⟨Nat.le_refl _⟩, ⟨by (with_reducible repeat (first | apply Kd.R_alloc | apply Kd.R_drewN | apply Kd.R_drew)); exact Kd.R_mono HO466.out (fun _ hk => ⟨hk.1.2, hk.2⟩)⟩, ⟨by (with_reducible repeat (first | apply Kd.R_alloc | apply Kd.R_drewN | apply Kd.R_drew)); exact Kd.R_mono HO470.out (fun _ hk => ⟨hk.1.2, hk.2⟩)⟩, ⟨by (with_reducible repeat (first | apply Kd.R_alloc | apply Kd.R_drewN | apply Kd.R_drew)); exact Kd.R_mono HO473.out (fun _ hk => ⟨hk.1.2, hk.2⟩)⟩, ⟨by repeat (first | (with_reducible first | exact HB.out | apply below_alloc | apply pw_below_drewN | apply below_drew1) | exact HB.out)⟩⟩
          case round =>
           clear H'
           try clear c1
           try clear c2
           try clear p2
           try clear c3
           try clear p6
           try clear c7
           try clear c7b0
           try clear c8
           try clear c8b0
           try clear c9
           try clear c9b0
           try clear c9b1
           try clear c10
           try clear c10b0
           try clear c11
           try clear c11b0
           try clear c11b1
           try clear c12
           try clear c12b0
           try clear c13
           try clear c14
           try clear c14b0
           try clear c14b1
           try clear c15
           try clear c15b0
           try clear c15b1
           try clear c16
           try clear c16b0
           try clear c16b1
           try clear c20
           try clear c20b0
           try clear c20b1
           try clear c22
           try clear c22b0
           try clear c22b1
           try clear c23
           try clear c23b0
           try clear c23b1
           try clear c24
           try clear c24b0
           try clear c24b1
           try clear p2
           obtain ⟨x17_2, x18_2, rfl, rfl, HA, HK2, HO_12, HO_15, HO_16, HB⟩ := hrel
           cases gk with
           | zero => exact absurd HA.out (by simp [lexiphaneref1_Get.l0])
           | succ k2 =>
            have H := HA.out
            clear HA
            simp only [lexiphaneref1_Get.l0] at H
            by_cases c30 : (x17_2.size : Int) < a3
            ·rw [if_pos c30] at H
             have c30b0 : decide ((x17_2.size : Int) < a3) = true := decide_eq_true c30
             clear c30
             replace H := Option.bind_eq_some_iff.mp H
             obtain ⟨⟨t474, t475, t476⟩, A310, H⟩ := H
             replace H : (if t476 = 0 then ((lexiphaneref1_Means.f k2 l0 t474).bind fun bt477 => (if (wrap64 ((x17_2.size : Int) + (bt477.1.size : Int))) > a3 then (some ((⟨#[]⟩ : ByteArray), 12)) else (if x17_2.size + bt477.1.size ≤ 9223372036854775807 then (lexiphaneref1_Get.l0 k2 l0 a3 t462 t467 t471 (x17_2 ++ bt477.1) (wrap64 (x18_2 + t475))) else (none)))) else (some ((⟨#[]⟩ : ByteArray), t476))) = some (r1, r2) := H
             have A31 := Aside0.mk A310
             clear A310
             by_cases c32 : t476 = 0
             ·rw [if_pos c32] at H
              have c32b0 : (t476 == 0) = true := beq_iff_eq.mpr c32
              have c32b1 : (t476 != 0) = false := bne_eq_false_iff_eq.mpr c32
              clear c32
              replace H := Option.bind_eq_some_iff.mp H
              obtain ⟨⟨t477, t478⟩, A330, H⟩ := H
              replace H : (if (wrap64 ((x17_2.size : Int) + (t477.size : Int))) > a3 then (some ((⟨#[]⟩ : ByteArray), 12)) else (if x17_2.size + t477.size ≤ 9223372036854775807 then (lexiphaneref1_Get.l0 k2 l0 a3 t462 t467 t471 (x17_2 ++ t477) (wrap64 (x18_2 + t475))) else (none))) = some (r1, r2) := H
              have A33 := Aside0.mk A330
              clear A330
              by_cases c34 : (wrap64 ((x17_2.size : Int) + (t477.size : Int))) > a3
              ·rw [if_pos c34] at H
               have c34b0 : decide (a3 < (wrap64 ((x17_2.size : Int) + (t477.size : Int)))) = true := decide_eq_true c34
               clear c34
               simp only [Option.some.injEq, Prod.mk.injEq] at H
               obtain ⟨rfl, rfl⟩ := H
               obtain ⟨Ao35, co35, eo35⟩ := Kd.R_slice HO_15.out
               subst eo35
               obtain ⟨Ao36, co36, eo36⟩ := Kd.R_slice HO_16.out
               subst eo36
               go_wp2_with (first | ((with_reducible refine gate_callee (f := 110) rfl ?_); refine goesL_ (some 94) rfl rfl Tryz.func110 (by kernel_rfl) rfl #[.slice Ao27 t462.length co27, .slice Ao35 t467.length co35, .slice Ao36 t471.length co36, .int .i64 x18_2] rfl (by (try simp only [List.map_toArray, List.map_cons, List.map_nil]); first | done | rfl | (simp only [List.length_drop, List.length_take]; rfl)) ?_; (with_reducible refine (lexiphaneref1_Next.calls k2 _ _ t462 _ _ t467 _ _ t471 x18_2 t474 t475 t476 _ ?side1 ?side2 ?side3 ?side4 ?side5 ?side6 A31.out).mono ?_); (case side1 => repeat (first | exact (Kd.R_reads' HO_12.out).2.2 | (with_reducible refine Kd.C_alloc ?_ _) | (with_reducible refine Kd.C_drewN ?_ _) | (with_reducible refine Kd.C_drew ?_))); (case side2 => exact (Kd.R_reads' HO_12.out).2.1); (case side3 => repeat (first | exact (Kd.R_reads' HO_15.out).2.2 | (with_reducible refine Kd.C_alloc ?_ _) | (with_reducible refine Kd.C_drewN ?_ _) | (with_reducible refine Kd.C_drew ?_))); (case side4 => exact (Kd.R_reads' HO_15.out).2.1); (case side5 => repeat (first | exact (Kd.R_reads' HO_16.out).2.2 | (with_reducible refine Kd.C_alloc ?_ _) | (with_reducible refine Kd.C_drewN ?_ _) | (with_reducible refine Kd.C_drew ?_))); (case side6 => exact (Kd.R_reads' HO_16.out).2.1); rintro e w' ⟨rfl, ⟨nd, rfl⟩⟩; refine ⟨_, rfl, ?_⟩) | ((with_reducible refine gate_callee (f := 106) rfl ?_); refine goesL_ (some 107) rfl rfl Tryz.func106 (by kernel_rfl) rfl #[.slice A0 l0.length c0, .int .i64 t474] rfl (by (try simp only [List.map_toArray, List.map_cons, List.map_nil]); first | done | rfl | (simp only [List.length_drop, List.length_take]; rfl)) ?_; (with_reducible refine (lexiphaneref1_Means.calls k2 _ _ l0 t474 t477 t478 _ ?side1 ?side2 A33.out).mono ?_); (case side1 => repeat (first | exact (Kd.C_below HR0.out (by repeat (first | (with_reducible first | exact HB.out | apply below_alloc | apply pw_below_drewN | apply below_drew1) | exact HB.out))) | (with_reducible refine Kd.C_alloc ?_ _) | (with_reducible refine Kd.C_drewN ?_ _) | (with_reducible refine Kd.C_drew ?_))); (case side2 => exact HC0.out); rintro e w37 ⟨rfl, hb⟩; refine ⟨_, rfl, ?_⟩; have n0_ := Aside0.mk (Kd.R_below (by (with_reducible repeat (first | apply Kd.R_alloc | apply Kd.R_drewN | apply Kd.R_drew)); exact HO_12.out) hb); have n1_ := Aside0.mk (Kd.R_below (by (with_reducible repeat (first | apply Kd.R_alloc | apply Kd.R_drewN | apply Kd.R_drew)); exact HO_15.out) hb); have n2_ := Aside0.mk (Kd.R_below (by (with_reducible repeat (first | apply Kd.R_alloc | apply Kd.R_drewN | apply Kd.R_drew)); exact HO_16.out) hb); have n3_ := Aside0.mk (below_step (by repeat (first | (with_reducible first | exact HB.out | apply below_alloc | apply pw_below_drewN | apply below_drew1) | exact HB.out)) hb); clear HO_12; clear HO_15; clear HO_16; clear HB; have HO_12 := n0_; have HO_15 := n1_; have HO_16 := n2_; have HB := n3_; clear n0_ n1_ n2_ n3_; (try clear hb); (try clear hb2); (try clear hk); (try clear hi)))
               go_ret2
               exact ⟨by first | rfl | (simp [errW_none, errW_some] <;> rfl) | (simp [*, errW_none, errW_some] <;> rfl), by repeat (first | (with_reducible first | exact HB.out | apply below_alloc | apply pw_below_drewN | apply below_drew1) | exact HB.out)⟩
              ·rw [if_neg c34] at H
               have c34b0 : decide (a3 < (wrap64 ((x17_2.size : Int) + (t477.size : Int)))) = false := decide_eq_false c34
               clear c34
               by_cases c38 : x17_2.size + t477.size ≤ 9223372036854775807
               ·rw [if_pos c38] at H
                rw [wr_sum_312 _ _ c38] at c34b0
                have c38b0 := eq_true c38
                have c38b1 : decide (x17_2.size + t477.size ≤ 9223372036854775807) = true := decide_eq_true c38
                try have c38b2 : (9223372036854775807 < x17_2.size + t477.size) = False := eq_false (Nat.not_lt.2 c38)
                have H' := Aside0.mk H
                clear H
                obtain ⟨Ao39, co39, eo39⟩ := Kd.R_slice HO_15.out
                subst eo39
                obtain ⟨Ao40, co40, eo40⟩ := Kd.R_slice HO_16.out
                subst eo40
                go_wp2_with (first | ((with_reducible refine gate_callee (f := 110) rfl ?_); refine goesL_ (some 94) rfl rfl Tryz.func110 (by kernel_rfl) rfl #[.slice Ao27 t462.length co27, .slice Ao39 t467.length co39, .slice Ao40 t471.length co40, .int .i64 x18_2] rfl (by (try simp only [List.map_toArray, List.map_cons, List.map_nil]); first | done | rfl | (simp only [List.length_drop, List.length_take]; rfl)) ?_; (with_reducible refine (lexiphaneref1_Next.calls k2 _ _ t462 _ _ t467 _ _ t471 x18_2 t474 t475 t476 _ ?side1 ?side2 ?side3 ?side4 ?side5 ?side6 A31.out).mono ?_); (case side1 => repeat (first | exact (Kd.R_reads' HO_12.out).2.2 | (with_reducible refine Kd.C_alloc ?_ _) | (with_reducible refine Kd.C_drewN ?_ _) | (with_reducible refine Kd.C_drew ?_))); (case side2 => exact (Kd.R_reads' HO_12.out).2.1); (case side3 => repeat (first | exact (Kd.R_reads' HO_15.out).2.2 | (with_reducible refine Kd.C_alloc ?_ _) | (with_reducible refine Kd.C_drewN ?_ _) | (with_reducible refine Kd.C_drew ?_))); (case side4 => exact (Kd.R_reads' HO_15.out).2.1); (case side5 => repeat (first | exact (Kd.R_reads' HO_16.out).2.2 | (with_reducible refine Kd.C_alloc ?_ _) | (with_reducible refine Kd.C_drewN ?_ _) | (with_reducible refine Kd.C_drew ?_))); (case side6 => exact (Kd.R_reads' HO_16.out).2.1); rintro e w' ⟨rfl, ⟨nd, rfl⟩⟩; refine ⟨_, rfl, ?_⟩) | ((with_reducible refine gate_callee (f := 106) rfl ?_); refine goesL_ (some 107) rfl rfl Tryz.func106 (by kernel_rfl) rfl #[.slice A0 l0.length c0, .int .i64 t474] rfl (by (try simp only [List.map_toArray, List.map_cons, List.map_nil]); first | done | rfl | (simp only [List.length_drop, List.length_take]; rfl)) ?_; (with_reducible refine (lexiphaneref1_Means.calls k2 _ _ l0 t474 t477 t478 _ ?side1 ?side2 A33.out).mono ?_); (case side1 => repeat (first | exact (Kd.C_below HR0.out (by repeat (first | (with_reducible first | exact HB.out | apply below_alloc | apply pw_below_drewN | apply below_drew1) | exact HB.out))) | (with_reducible refine Kd.C_alloc ?_ _) | (with_reducible refine Kd.C_drewN ?_ _) | (with_reducible refine Kd.C_drew ?_))); (case side2 => exact HC0.out); rintro e w41 ⟨rfl, hb⟩; refine ⟨_, rfl, ?_⟩; have n0_ := Aside0.mk (Kd.R_below (by (with_reducible repeat (first | apply Kd.R_alloc | apply Kd.R_drewN | apply Kd.R_drew)); exact HO_12.out) hb); have n1_ := Aside0.mk (Kd.R_below (by (with_reducible repeat (first | apply Kd.R_alloc | apply Kd.R_drewN | apply Kd.R_drew)); exact HO_15.out) hb); have n2_ := Aside0.mk (Kd.R_below (by (with_reducible repeat (first | apply Kd.R_alloc | apply Kd.R_drewN | apply Kd.R_drew)); exact HO_16.out) hb); have n3_ := Aside0.mk (below_step (by repeat (first | (with_reducible first | exact HB.out | apply below_alloc | apply pw_below_drewN | apply below_drew1) | exact HB.out)) hb); clear HO_12; clear HO_15; clear HO_16; clear HB; have HO_12 := n0_; have HO_15 := n1_; have HO_16 := n2_; have HB := n3_; clear n0_ n1_ n2_ n3_; (try clear hb); (try clear hb2); (try clear hk); (try clear hi)))
                go_roundg k2
                case measure => have := HJ5.out; have := HK2.out; omega
                case rel => exact ⟨(x17_2 ++ t477), (wrap64 (x18_2 + t475)), (by first | rfl | (simp; done) | (simp [*]; done)), (by first | rfl | (simp; done) | (simp [*]; done)), H', ⟨by have := HJ5.out; have := HK2.out; omega⟩, ⟨by (with_reducible repeat (first | apply Kd.R_alloc | apply Kd.R_drewN | apply Kd.R_drew)); exact HO_12.out⟩, ⟨by (with_reducible repeat (first | apply Kd.R_alloc | apply Kd.R_drewN | apply Kd.R_drew)); exact HO_15.out⟩, ⟨by (with_reducible repeat (first | apply Kd.R_alloc | apply Kd.R_drewN | apply Kd.R_drew)); exact HO_16.out⟩, ⟨by repeat (first | (with_reducible first | exact HB.out | apply below_alloc | apply pw_below_drewN | apply below_drew1) | exact HB.out)⟩⟩
               ·rw [if_neg c38] at H
                exact absurd H (by simp)
             ·rw [if_neg c32] at H
              have c32b0 : (t476 == 0) = false := beq_eq_false_iff_ne.mpr c32
              have c32b1 : (t476 != 0) = true := bne_iff_ne.mpr c32
              simp only [Option.some.injEq, Prod.mk.injEq] at H
              obtain ⟨rfl, rfl⟩ := H
              obtain ⟨Ao42, co42, eo42⟩ := Kd.R_slice HO_15.out
              subst eo42
              obtain ⟨Ao43, co43, eo43⟩ := Kd.R_slice HO_16.out
              subst eo43
              go_wp2_with (first | ((with_reducible refine gate_callee (f := 110) rfl ?_); refine goesL_ (some 94) rfl rfl Tryz.func110 (by kernel_rfl) rfl #[.slice Ao27 t462.length co27, .slice Ao42 t467.length co42, .slice Ao43 t471.length co43, .int .i64 x18_2] rfl (by (try simp only [List.map_toArray, List.map_cons, List.map_nil]); first | done | rfl | (simp only [List.length_drop, List.length_take]; rfl)) ?_; (with_reducible refine (lexiphaneref1_Next.calls k2 _ _ t462 _ _ t467 _ _ t471 x18_2 t474 t475 t476 _ ?side1 ?side2 ?side3 ?side4 ?side5 ?side6 A31.out).mono ?_); (case side1 => repeat (first | exact (Kd.R_reads' HO_12.out).2.2 | (with_reducible refine Kd.C_alloc ?_ _) | (with_reducible refine Kd.C_drewN ?_ _) | (with_reducible refine Kd.C_drew ?_))); (case side2 => exact (Kd.R_reads' HO_12.out).2.1); (case side3 => repeat (first | exact (Kd.R_reads' HO_15.out).2.2 | (with_reducible refine Kd.C_alloc ?_ _) | (with_reducible refine Kd.C_drewN ?_ _) | (with_reducible refine Kd.C_drew ?_))); (case side4 => exact (Kd.R_reads' HO_15.out).2.1); (case side5 => repeat (first | exact (Kd.R_reads' HO_16.out).2.2 | (with_reducible refine Kd.C_alloc ?_ _) | (with_reducible refine Kd.C_drewN ?_ _) | (with_reducible refine Kd.C_drew ?_))); (case side6 => exact (Kd.R_reads' HO_16.out).2.1); rintro e w' ⟨rfl, ⟨nd, rfl⟩⟩; refine ⟨_, rfl, ?_⟩))
              go_ret2
              exact ⟨by first | rfl | (simp [errW_none, errW_some] <;> rfl) | (simp [*, errW_none, errW_some] <;> rfl), by repeat (first | (with_reducible first | exact HB.out | apply below_alloc | apply pw_below_drewN | apply below_drew1) | exact HB.out)⟩
            ·rw [if_neg c30] at H
             have c30b0 : decide ((x17_2.size : Int) < a3) = false := decide_eq_false c30
             clear c30
             by_cases c44 : (wrap64 ((t471.length : Int) - x18_2)) ≥ 8
             ·rw [if_pos c44] at H
              have c44b0 : decide (8 ≤ (wrap64 ((t471.length : Int) - x18_2))) = true := decide_eq_true c44
              clear c44
              simp only [Option.some.injEq, Prod.mk.injEq] at H
              obtain ⟨rfl, rfl⟩ := H
              obtain ⟨Ao45, co45, eo45⟩ := Kd.R_slice HO_16.out
              subst eo45
              go_wp2
              go_ret2
              exact ⟨by first | rfl | (simp [errW_none, errW_some] <;> rfl) | (simp [*, errW_none, errW_some] <;> rfl), by repeat (first | (with_reducible first | exact HB.out | apply below_alloc | apply pw_below_drewN | apply below_drew1) | exact HB.out)⟩
             ·rw [if_neg c44] at H
              have c44b0 : decide (8 ≤ (wrap64 ((t471.length : Int) - x18_2))) = false := decide_eq_false c44
              clear c44
              have H' := Aside0.mk H
              clear H
              obtain ⟨Ao46, co46, eo46⟩ := Kd.R_slice HO_16.out
              subst eo46
              go_wp2
              go_loopg [18] k2 (fun kq v18 w' => ∃ (x18_3 : Int), v18 = .int .i64 x18_3 ∧ Aside0 (lexiphaneref1_Get.l1 kq t471 x17_2 x18_3 = some (r1, r2)) ∧ Aside0 (kq ≤ k2) ∧ Aside0 (Kd.R (Kd.int .i64) 3 w' w.heap.size (fun _ => True) (.slice Ao46 t471.length co46) t471) ∧ Aside0 (Below w.heap.size w w'))
              case atStart => exact ⟨(x18_2), (by first | rfl | (simp; done) | (simp [*]; done)), H', ⟨Nat.le_refl _⟩, ⟨by (with_reducible repeat (first | apply Kd.R_alloc | apply Kd.R_drewN | apply Kd.R_drew)); exact Kd.R_mono HO_16.out (fun _ hk => trivial)⟩, ⟨by repeat (first | (with_reducible first | exact HB.out | apply below_alloc | apply pw_below_drewN | apply below_drew1) | exact HB.out)⟩⟩
              case round =>
               clear H'
               try clear c1
               try clear c2
               try clear p2
               try clear c3
               try clear c4
               try clear p6
               try clear c7
               try clear c7b0
               try clear c8
               try clear c8b0
               try clear c9
               try clear c9b0
               try clear c9b1
               try clear c10
               try clear c10b0
               try clear c11
               try clear c11b0
               try clear c11b1
               try clear c12
               try clear c12b0
               try clear c13
               try clear c14
               try clear c14b0
               try clear c14b1
               try clear c15
               try clear c15b0
               try clear c15b1
               try clear c16
               try clear c16b0
               try clear c16b1
               try clear c20
               try clear c20b0
               try clear c20b1
               try clear c22
               try clear c22b0
               try clear c22b1
               try clear c23
               try clear c23b0
               try clear c23b1
               try clear c24
               try clear c24b0
               try clear c24b1
               try clear c30
               try clear c30b0
               try clear c32
               try clear c32b0
               try clear c32b1
               try clear c34
               try clear c34b0
               try clear c36
               try clear c38
               try clear c38b0
               try clear c38b1
               try clear c38b2
               try clear c44
               try clear c44b0
               try clear p2
               try clear p6
               obtain ⟨x18_3, rfl, HA, HK3, HO_16, HB⟩ := hrel
               cases gk with
               | zero => exact absurd HA.out (by simp [lexiphaneref1_Get.l1])
               | succ k3 =>
                have H := HA.out
                clear HA
                simp only [lexiphaneref1_Get.l1] at H
                by_cases c47 : x18_3 < (t471.length : Int)
                ·rw [if_pos c47] at H
                 have c47b0 : decide (x18_3 < (t471.length : Int)) = true := decide_eq_true c47
                 clear c47
                 by_cases c48 : 0 ≤ x18_3
                 ·rw [if_pos c48] at H
                  have c48b0 : decide (0 ≤ x18_3) = true := decide_eq_true c48
                  clear c48
                  by_cases c49 : (rd t471 x18_3) = 0
                  ·rw [if_pos c49] at H
                   have c49b0 : ((rd t471 x18_3) == 0) = true := beq_iff_eq.mpr c49
                   have c49b1 : ((rd t471 x18_3) != 0) = false := bne_eq_false_iff_eq.mpr c49
                   clear c49
                   have H' := Aside0.mk H
                   clear H
                   have p479 : 0 ≤ (x18_3 : Int) := of_decide_eq_true (by first | (with_reducible assumption) | assumption)
                   have q479 : x18_3 < (t471.length : Int) := of_decide_eq_true (by first | (with_reducible assumption) | assumption)
                   obtain ⟨ad479, e479, hx479_0⟩ := Kd.at_int (Kd.R_reads' HO_16.out).2.2 x18_3 p479 q479
                   cases e479
                   replace p479 := eq_true p479
                   replace q479 := eq_true q479
                   go_wp2
                   go_roundg k3
                   case measure => have := HJ5.out; have := HK2.out; have := HK3.out; omega
                   case rel => exact ⟨(wrap64 (x18_3 + 1)), (by first | rfl | (simp; done) | (simp [*]; done)), H', ⟨by have := HJ5.out; have := HK2.out; have := HK3.out; omega⟩, ⟨by (with_reducible repeat (first | apply Kd.R_alloc | apply Kd.R_drewN | apply Kd.R_drew)); exact HO_16.out⟩, ⟨by repeat (first | (with_reducible first | exact HB.out | apply below_alloc | apply pw_below_drewN | apply below_drew1) | exact HB.out)⟩⟩
                  ·rw [if_neg c49] at H
                   have c49b0 : ((rd t471 x18_3) == 0) = false := beq_eq_false_iff_ne.mpr c49
                   have c49b1 : ((rd t471 x18_3) != 0) = true := bne_iff_ne.mpr c49
                   simp only [Option.some.injEq, Prod.mk.injEq] at H
                   obtain ⟨rfl, rfl⟩ := H
                   have p479 : 0 ≤ (x18_3 : Int) := of_decide_eq_true (by first | (with_reducible assumption) | assumption)
                   have q479 : x18_3 < (t471.length : Int) := of_decide_eq_true (by first | (with_reducible assumption) | assumption)
                   obtain ⟨ad479, e479, hx479_0⟩ := Kd.at_int (Kd.R_reads' HO_16.out).2.2 x18_3 p479 q479
                   cases e479
                   replace p479 := eq_true p479
                   replace q479 := eq_true q479
                   go_wp2
                   go_ret2
                   exact ⟨by first | rfl | (simp [errW_none, errW_some] <;> rfl) | (simp [*, errW_none, errW_some] <;> rfl), by repeat (first | (with_reducible first | exact HB.out | apply below_alloc | apply pw_below_drewN | apply below_drew1) | exact HB.out)⟩
                 ·rw [if_neg c48] at H
                  exact absurd H (by simp)
                ·rw [if_neg c47] at H
                 have c47b0 : decide (x18_3 < (t471.length : Int)) = false := decide_eq_false c47
                 clear c47
                 simp only [Option.some.injEq, Prod.mk.injEq] at H
                 obtain ⟨rfl, rfl⟩ := H
                 go_wp2
                 go_ret2
                 exact ⟨by first | rfl | (simp [errW_none, errW_some] <;> rfl) | (simp [*, errW_none, errW_some] <;> rfl), by repeat (first | (with_reducible first | exact HB.out | apply below_alloc | apply pw_below_drewN | apply below_drew1) | exact HB.out)⟩
         ·rw [if_neg c24] at H
          exact absurd H (by simp)
        ·rw [if_neg c23] at H
         exact absurd H (by simp)
       ·rw [if_neg c22] at H
        have c22b0 : (t468 == 0) = false := beq_eq_false_iff_ne.mpr c22
        have c22b1 : (t468 != 0) = true := bne_iff_ne.mpr c22
        simp only [Option.some.injEq, Prod.mk.injEq] at H
        obtain ⟨rfl, rfl⟩ := H
        go_wp2_with (first | ((with_reducible refine gate_callee (f := 108) rfl ?_); refine goesL_ (some 66) rfl rfl Tryz.func108 (by kernel_rfl) rfl #[.string a4, .int .i64 (wrap64 (256 + (l0.length : Int)))] rfl (by (try simp only [List.map_toArray, List.map_cons, List.map_nil]); first | done | rfl | (simp only [List.length_drop, List.length_take]; rfl)) ?_; (with_reducible refine (lexiphaneref1_Untab.calls kj5 a4 (wrap64 (256 + (l0.length : Int))) t462 t463 t464 _ A19.out).mono ?_); rintro e w50 ⟨v465, rfl, ho0, hb⟩; refine ⟨_, rfl, ?_⟩; have n0_ := Aside0.mk (Kd.R_lower ho0 (below_size (by repeat (first | (with_reducible first | exact HB.out | apply below_alloc | apply pw_below_drewN | apply below_drew1) | exact HB.out)))); have n1_ := Aside0.mk (below_step (by repeat (first | (with_reducible first | exact HB.out | apply below_alloc | apply pw_below_drewN | apply below_drew1) | exact HB.out)) hb); clear HB; have HO466 := n0_; have HB := n1_; clear n0_ n1_; (try clear hb); (try clear hb2); (try clear hk); (try clear hi); (try clear ho0); obtain ⟨Ao51, co51, eo51⟩ := Kd.R_slice HO466.out; subst eo51) | ((with_reducible refine gate_callee (f := 103) rfl ?_); refine goesL_ (some 75) rfl rfl Tryz.func103 (by kernel_rfl) rfl #[.slice Ao51 t462.length co51] rfl (by (try simp only [List.map_toArray, List.map_cons, List.map_nil]); first | done | rfl | (simp only [List.length_drop, List.length_take]; rfl)) ?_; (with_reducible refine (lexiphaneref1_Codes.calls kj5 _ _ t462 t467 t468 _ ?side1 ?side2 A21.out).mono ?_); (case side1 => repeat (first | exact (Kd.R_reads' HO466.out).2.2 | (with_reducible refine Kd.C_alloc ?_ _) | (with_reducible refine Kd.C_drewN ?_ _) | (with_reducible refine Kd.C_drew ?_))); (case side2 => exact (Kd.R_reads' HO466.out).2.1); rintro e w52 ⟨v469, rfl, ho0, hb⟩; refine ⟨_, rfl, ?_⟩; have n0_ := Aside0.mk (Kd.R_elder' (by (with_reducible repeat (first | apply Kd.R_alloc | apply Kd.R_drewN | apply Kd.R_drew)); exact HO466.out) (Kd.R_base ho0) hb); have n1_ := Aside0.mk (Kd.R_lower (Kd.R_new' ho0 (Kd.R_lt (by (with_reducible repeat (first | apply Kd.R_alloc | apply Kd.R_drewN | apply Kd.R_drew)); exact HO466.out))) (below_size (by repeat (first | (with_reducible first | exact HB.out | apply below_alloc | apply pw_below_drewN | apply below_drew1) | exact HB.out)))); have n2_ := Aside0.mk (below_step (by repeat (first | (with_reducible first | exact HB.out | apply below_alloc | apply pw_below_drewN | apply below_drew1) | exact HB.out)) hb); clear HO466; clear HB; have HO466 := n0_; have HO470 := n1_; have HB := n2_; clear n0_ n1_ n2_; (try clear hb); (try clear hb2); (try clear hk); (try clear hi); (try clear ho0)))
        go_ret2
        exact ⟨by first | rfl | (simp [errW_none, errW_some] <;> rfl) | (simp [*, errW_none, errW_some] <;> rfl), by repeat (first | (with_reducible first | exact HB.out | apply below_alloc | apply pw_below_drewN | apply below_drew1) | exact HB.out)⟩
      ·rw [if_neg c20] at H
       have c20b0 : (t464 == 0) = false := beq_eq_false_iff_ne.mpr c20
       have c20b1 : (t464 != 0) = true := bne_iff_ne.mpr c20
       simp only [Option.some.injEq, Prod.mk.injEq] at H
       obtain ⟨rfl, rfl⟩ := H
       go_wp2_with (first | ((with_reducible refine gate_callee (f := 108) rfl ?_); refine goesL_ (some 66) rfl rfl Tryz.func108 (by kernel_rfl) rfl #[.string a4, .int .i64 (wrap64 (256 + (l0.length : Int)))] rfl (by (try simp only [List.map_toArray, List.map_cons, List.map_nil]); first | done | rfl | (simp only [List.length_drop, List.length_take]; rfl)) ?_; (with_reducible refine (lexiphaneref1_Untab.calls kj5 a4 (wrap64 (256 + (l0.length : Int))) t462 t463 t464 _ A19.out).mono ?_); rintro e w53 ⟨v465, rfl, ho0, hb⟩; refine ⟨_, rfl, ?_⟩; have n0_ := Aside0.mk (Kd.R_lower ho0 (below_size (by repeat (first | (with_reducible first | exact HB.out | apply below_alloc | apply pw_below_drewN | apply below_drew1) | exact HB.out)))); have n1_ := Aside0.mk (below_step (by repeat (first | (with_reducible first | exact HB.out | apply below_alloc | apply pw_below_drewN | apply below_drew1) | exact HB.out)) hb); clear HB; have HO466 := n0_; have HB := n1_; clear n0_ n1_; (try clear hb); (try clear hb2); (try clear hk); (try clear hi); (try clear ho0)))
       go_ret2
       exact ⟨by first | rfl | (simp [errW_none, errW_some] <;> rfl) | (simp [*, errW_none, errW_some] <;> rfl), by repeat (first | (with_reducible first | exact HB.out | apply below_alloc | apply pw_below_drewN | apply below_drew1) | exact HB.out)⟩
def lexiphaneref1_Of.l0 : Nat → ByteArray → Int → Int → Option (Int)
 | 0, _, _, _ => none
 | k + 1, x0, x3, x4 => if x4 < (x0.size : Int) then (if 0 ≤ x4 then (lexiphaneref1_Of.l0 k x0 (Go.bits .or .u64 (IntKind.u64.wrap (x3 * 256)) (IntKind.u64.wrap (bt x0 x4))) (wrap64 (x4 + 1))) else (none)) else (some x3)
def lexiphaneref1_Of.f (k : Nat) (a0 : ByteArray) : Option (Int) := lexiphaneref1_Of.l0 k a0 0 0
theorem lexiphaneref1_Of.mono_l : ∀ k, (∀ y0 y1 y2, LeO (lexiphaneref1_Of.l0 k y0 y1 y2) (lexiphaneref1_Of.l0 (k + 1) y0 y1 y2))
 | 0 => fun _ _ _ r h => by simp [lexiphaneref1_Of.l0] at h
 | k + 1 => by
  have ih0 := lexiphaneref1_Of.mono_l k
  ·intro y0 y1 y2
   unfold lexiphaneref1_Of.l0
   repeat' first
   | (with_reducible exact ih0 _ _ _)
   | (with_reducible exact LeO.refl _)
   | (with_reducible exact LeO.none _)
   | (with_reducible refine LeO.ite ?_ ?_)
   | (with_reducible refine LeO.bind ?_ (fun _ => ?_))
   | exact ih0 _ _ _
   | exact LeO.none _
   | refine LeO.ite ?_ ?_
   | refine LeO.bind ?_ (fun _ => ?_)
theorem lexiphaneref1_Of.mono : ∀ a0 k, LeO (lexiphaneref1_Of.f k a0) (lexiphaneref1_Of.f (k + 1) a0) := by
 intro a0 k
 have ih0 := lexiphaneref1_Of.mono_l k
 unfold lexiphaneref1_Of.f
 repeat' first
   | (with_reducible exact ih0 _ _ _)
   | (with_reducible exact LeO.refl _)
   | (with_reducible exact LeO.none _)
   | (with_reducible refine LeO.ite ?_ ?_)
   | (with_reducible refine LeO.bind ?_ (fun _ => ?_))
   | exact ih0 _ _ _
   | exact LeO.none _
   | refine LeO.ite ?_ ?_
   | refine LeO.bind ?_ (fun _ => ?_)
end Go.Proofs.YtepgkimlmoikmaaGreat.Leaf
