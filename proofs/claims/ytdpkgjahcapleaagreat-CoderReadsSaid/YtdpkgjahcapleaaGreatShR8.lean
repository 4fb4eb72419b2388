/- ShR: a part of its proof (contracts of the functions that it reaches, and the plain mathematics behind them). -/
import Derived.Test.YtdpkgjahcapleaaGreatShR7
set_option linter.unusedVariables false
set_option linter.unusedSimpArgs false
set_option linter.unusedVariables false
set_option linter.unusedSimpArgs false
namespace Go.Proofs.YtdpkgjahcapleaaGreat.Leaf
open Go.RowKit Go.Proofs.YtdpkgjahcapleaaGreatW.PrintWords Go.Proofs.YtdpkgjahcapleaaGreatW.PrintLast Go.Proofs.YtdpkgjahcapleaaGreatW.PrintMore
attribute [local go_sem] max2_int min2_int max_two min_two max_three min_three max_four min_four
private theorem wr_sum_25 (p q : Nat) (h : p + q ≤ 9223372036854775807) : wrap64 ((p : Int) + (q : Int)) = (p : Int) + (q : Int) := by unfold wrap64; omega
def lexiphaneref1_Means.j0 : Nat → List ByteArray → Int → Bool → Option (ByteArray × Bool)
  | 0, _, _, _ => none
  | k + 1, x0, x1, x14 => if x14 = true then (some ((⟨#[]⟩ : ByteArray), false)) else (if x1 < 256 then (some (strOfNums (([(x1) % 256] : List Int)), true)) else (if 0 ≤ (wrap64 (x1 - 256)) then (if (wrap64 (x1 - 256)) < (x0.length : Int) then (some (rdOf ByteArray.empty x0 (wrap64 (x1 - 256)), true)) else (none)) else (none)))
def lexiphaneref1_Means.f (k : Nat) (l0 : List ByteArray) (a1 : Int) : Option (ByteArray × Bool) := if a1 < 0 then (lexiphaneref1_Means.j0 k l0 a1 true) else (lexiphaneref1_Means.j0 k l0 a1 (decide (a1 ≥ (wrap64 (256 + (l0.length : Int))))))
theorem lexiphaneref1_Means.mono_l : ∀ k, (∀ y0 y1 y2, LeO (lexiphaneref1_Means.j0 k y0 y1 y2) (lexiphaneref1_Means.j0 (k + 1) y0 y1 y2))
  | 0 => fun _ _ _ r h => by simp [lexiphaneref1_Means.j0] at h
  | k + 1 => by
    have ih0 := lexiphaneref1_Means.mono_l k
    · intro y0 y1 y2
      unfold lexiphaneref1_Means.j0
      repeat' first
      | (with_reducible exact ih0 _ _ _)
      | (with_reducible exact LeO.refl _)
      | (with_reducible exact LeO.none _)
      | (with_reducible refine LeO.ite ?_ ?_)
      | (with_reducible refine LeO.bind ?_ (fun _ => ?_))
      | exact ih0 _ _ _
      | exact LeO.none _
      | refine LeO.ite ?_ ?_
      | refine LeO.bind ?_ (fun _ => ?_)
theorem lexiphaneref1_Means.mono : ∀ a0 a1 k, LeO (lexiphaneref1_Means.f k a0 a1) (lexiphaneref1_Means.f (k + 1) a0 a1) := by
  intro a0 a1 k
  have ih0 := lexiphaneref1_Means.mono_l k
  unfold lexiphaneref1_Means.f
  repeat' first
      | (with_reducible exact ih0 _ _ _)
      | (with_reducible exact LeO.refl _)
      | (with_reducible exact LeO.none _)
      | (with_reducible refine LeO.ite ?_ ?_)
      | (with_reducible refine LeO.bind ?_ (fun _ => ?_))
      | exact ih0 _ _ _
      | exact LeO.none _
      | refine LeO.ite ?_ ?_
      | refine LeO.bind ?_ (fun _ => ?_)
set_option maxHeartbeats 8000000 in
set_option maxRecDepth 100000 in
theorem lexiphaneref1_Means.calls (k : Nat) (A0 : Option Addr) (c0 : Nat) (l0 : List ByteArray) (a1 : Int) (r1 : ByteArray) (r2 : Bool) (w : World) (hr0 : Kd.C Kd.string w A0 l0.length l0) (hc0 : l0.length ≤ c0) (h : lexiphaneref1_Means.f k l0 a1 = some (r1, r2)) :
    Calls Tryz.prog 72 #[.slice A0 l0.length c0, .int .i64 a1] w fun e w' => e = .returned (.tuple #[.string r1, .bool r2]) ∧ Below w.heap.size w w' := by
  have HR0 := Aside0.mk hr0
  have HC0 := Aside0.mk hc0
  clear hr0 hc0
  have HB := Aside0.mk (Below.refl w.heap.size w)
  have H : (if a1 < 0 then (lexiphaneref1_Means.j0 k l0 a1 true) else (lexiphaneref1_Means.j0 k l0 a1 (decide (a1 ≥ (wrap64 (256 + (l0.length : Int))))))) = some (r1, r2) := h
  clear h
  have HC3 := Aside0.mk H
  clear H
  go_enter Tryz.func72, Tryz.ntmps72
  go_upto_region 1 with (fail)
  go_cut [14] (fun v14 wc => ∃ (kq : Nat) (x14_2 : Bool), v14 = .bool x14_2 ∧ Aside0 (lexiphaneref1_Means.j0 kq l0 a1 x14_2 = some (r1, r2)) ∧ Aside0 (kq ≤ k) ∧ Aside0 (Below w.heap.size w wc))
  case first =>
    have H := HC3.out
    clear HC3
    by_cases c4 : a1 < 0
    · rw [if_pos c4] at H
      have c4b0 : decide (a1 < 0) = true := decide_eq_true c4
      clear c4
      (first | rw [c4b0] | (simp only [i64_w, i32_w]; rw [c4b0]) | skip)
      have H' := Aside0.mk H
      clear H
      go_wp2
      go_meet
      case rel => exact ⟨_, (true), (by first | rfl | (simp; done) | (simp [*]; done)), H', ⟨by first | omega | exact Nat.le_refl _⟩, ⟨by repeat (first | (with_reducible first | exact HB.out | apply below_alloc | apply pw_below_drewN | apply below_drew1) | exact HB.out)⟩⟩
    · rw [if_neg c4] at H
      have c4b0 : decide (a1 < 0) = false := decide_eq_false c4
      clear c4
      (first | rw [c4b0] | (simp only [i64_w, i32_w]; rw [c4b0]) | skip)
      have H' := Aside0.mk H
      clear H
      go_wp2
      go_meet
      case rel => exact ⟨_, (decide (a1 ≥ (wrap64 (256 + (l0.length : Int))))), (by first | rfl | (simp; done) | (simp [*]; done)), H', ⟨by first | omega | exact Nat.le_refl _⟩, ⟨by repeat (first | (with_reducible first | exact HB.out | apply below_alloc | apply pw_below_drewN | apply below_drew1) | exact HB.out)⟩⟩
  case rest =>
    clear HC3
    try clear p2
    try clear c4
    try clear c4b0
    obtain ⟨kq, x14_2, rfl, HA, HJ2, HB⟩ := hcut
    cases kq with
    | zero => exact absurd HA.out (by simp [lexiphaneref1_Means.j0])
    | succ kj2 =>
      have H := HA.out
      clear HA
      simp only [lexiphaneref1_Means.j0] at H
      by_cases c5 : x14_2 = true
      · subst c5
        have H1 : (some ((⟨#[]⟩ : ByteArray), false)) = some (r1, r2) := by rw [if_pos rfl] at H; exact H
        clear H
        have H := H1
        clear H1
        simp only [Option.some.injEq, Prod.mk.injEq] at H
        obtain ⟨rfl, rfl⟩ := H
        go_wp2
        go_ret2
        exact ⟨by first | rfl | (simp [errW_none, errW_some] <;> rfl) | (simp [*, errW_none, errW_some] <;> rfl), by repeat (first | (with_reducible first | exact HB.out | apply below_alloc | apply pw_below_drewN | apply below_drew1) | exact HB.out)⟩
      · replace c5 := Bool.eq_false_iff.mpr c5
        subst c5
        have H1 : (if a1 < 256 then (some (strOfNums (([(a1) % 256] : List Int)), true)) else (if 0 ≤ (wrap64 (a1 - 256)) then (if (wrap64 (a1 - 256)) < (l0.length : Int) then (some (rdOf ByteArray.empty l0 (wrap64 (a1 - 256)), true)) else (none)) else (none))) = some (r1, r2) := by rw [if_neg (show ¬ (false = true) by decide)] at H; exact H
        clear H
        have H := H1
        clear H1
        by_cases c6 : a1 < 256
        · rw [if_pos c6] at H
          have c6b0 : decide (a1 < 256) = true := decide_eq_true c6
          clear c6
          obtain ⟨y258, hy258⟩ : ∃ y_ : List Int, y_ = (([(a1) % 256] : List Int)) := ⟨_, rfl⟩
          replace H : (some (strOfNums y258, true)) = some (r1, r2) := by first | (rw [hy258]; with_reducible exact H) | (have H2_ := (Option.bind_some _ _).symm.trans H; rw [hy258]; with_reducible exact H2_) | (have H2_ := (Option.bind_some _ _).symm.trans H; with_reducible exact H2_) | with_reducible exact H | (rw [hy258]; exact H) | exact H
          have Ny258 := Aside0.mk hy258
          clear hy258
          simp only [Option.some.injEq, Prod.mk.injEq] at H
          obtain ⟨rfl, rfl⟩ := H
          go_wp2_with (first | ((with_reducible refine gate_dst (N := 19) rfl ?_); (try (refine gate_guard (by rfl) ?_; dsimp only)); refine Kd.R_lit (Kd.int .u8) _ 5 ?hg (N := 19) ?hd (xs := ([(a1) % 256] : List Int)) (inner := [.int .u8 ((a1) % 256)]) (ok := fun _ => True) (okp := fun _ => True) ?hr ?hp (fun _ hk => hk) trivial (Below.refl _ _) (Nat.le_refl _) (by simp) ?_; (case hd => rfl); (case hg => rfl); (case hr => first | (go_simp; done) | (go_simp; rfl)); (case hp => exact (Reps.one (show Kd.M (Kd.int .u8) _ _ _ ((a1) % 256) [.int .u8 ((a1) % 256)] from rfl) (Reps.none _ _))); intro v259 w7 ho8 hb hg_ hnew_; clear hg_ hnew_; (first | rw [← Ny258.out] at ho8 | (simp only [Int.reduceToNat] at ho8; rw [← Ny258.out] at ho8)); have n0_ := Aside0.mk (Kd.R_lower ho8 (below_size (by repeat (first | (with_reducible first | exact HB.out | apply below_alloc | apply pw_below_drewN | apply below_drew1) | exact HB.out)))); have n1_ := Aside0.mk (below_step (by repeat (first | (with_reducible first | exact HB.out | apply below_alloc | apply pw_below_drewN | apply below_drew1) | exact HB.out)) hb); clear HB; have HO260 := n0_; have HB := n1_; clear n0_ n1_; clear hb ho8; have hcv9 := own_string (P := Tryz.prog) Tryz.underlying103 Tryz.underlying5 Tryz.underlying9 (Kd.own_of_R HO260.out)))
          go_ret2
          exact ⟨by first | rfl | (simp [errW_none, errW_some] <;> rfl) | (simp [*, errW_none, errW_some] <;> rfl), by repeat (first | (with_reducible first | exact HB.out | apply below_alloc | apply pw_below_drewN | apply below_drew1) | exact HB.out)⟩
        · rw [if_neg c6] at H
          have c6b0 : decide (a1 < 256) = false := decide_eq_false c6
          clear c6
          obtain ⟨ji10, hji10⟩ : ∃ j_ : Int, (wrap64 (a1 - 256)) = j_ := ⟨_, rfl⟩
          replace H : (if 0 ≤ (ji10) then (if (ji10) < (l0.length : Int) then (some (rdOf ByteArray.empty l0 (ji10), true)) else (none)) else (none)) = some (r1, r2) := by first | (rw [hji10] at H; exact H) | (simp only [hji10] at H ⊢; exact H)
          have hji10w : (IntKind.i64.wrap (a1 - 256)) = ji10 := (i64_w _).trans hji10
          by_cases c11 : 0 ≤ (ji10)
          · rw [if_pos c11] at H
            have c11b0 : decide (0 ≤ (ji10)) = true := decide_eq_true c11
            clear c11
            by_cases c12 : (ji10) < (l0.length : Int)
            · rw [if_pos c12] at H
              have c12b0 : decide ((ji10) < (l0.length : Int)) = true := decide_eq_true c12
              clear c12
              simp only [Option.some.injEq, Prod.mk.injEq] at H
              obtain ⟨rfl, rfl⟩ := H
              have p261 : 0 ≤ ((ji10) : Int) := of_decide_eq_true (by first | (with_reducible assumption) | assumption)
              have q261 : (ji10) < (l0.length : Int) := of_decide_eq_true (by first | (with_reducible assumption) | assumption)
              obtain ⟨ad261, e261, hx261_0⟩ := Kd.at_string HR0.out (ji10) p261 q261
              cases e261
              replace hx261_0 := (HB.out.cell (World.block_lt_of_cell? w _ hx261_0)).trans hx261_0
              replace p261 := eq_true p261
              replace q261 := eq_true q261
              go_wp2
              go_ret2
              exact ⟨by first | rfl | (simp [errW_none, errW_some] <;> rfl) | (simp only [← hji10]; first | rfl | (simp [errW_none, errW_some] <;> rfl)) | (simp [*, errW_none, errW_some] <;> rfl), by repeat (first | (with_reducible first | exact HB.out | apply below_alloc | apply pw_below_drewN | apply below_drew1) | exact HB.out)⟩
            · rw [if_neg c12] at H
              exact absurd H (by simp)
          · rw [if_neg c11] at H
            exact absurd H (by simp)
mutual
def lexiphaneref1_Unnumber.l0 : Nat → ByteArray → Int → Int → Int → Option (Int × Int × Int)
  | 0, _, _, _, _ => none
  | k + 1, x0, x5, x6, x7 => if x7 = (x0.size : Int) then (some (0, 0, 2)) else (if 0 ≤ x7 then (if x7 < (x0.size : Int) then (if x7 = 4 then (lexiphaneref1_Unnumber.j1 k x0 x5 x6 x7 (wrap64 (bt x0 x7)) (decide ((wrap64 (bt x0 x7)) > 15))) else (lexiphaneref1_Unnumber.j1 k x0 x5 x6 x7 (wrap64 (bt x0 x7)) false)) else (none)) else (none))
def lexiphaneref1_Unnumber.j1 : Nat → ByteArray → Int → Int → Int → Int → Bool → Option (Int × Int × Int)
  | 0, _, _, _, _, _, _ => none
  | k + 1, x0, x5, x6, x7, x8, x24 => if x24 = true then (some (0, 0, 4)) else (if x8 < 128 then (if x8 = 0 then (if x7 > 0 then (some (0, 0, 3)) else (some (wrap64 (x5 + (wrap64 ((Int.tmod x8 128) * x6))), wrap64 (x7 + 1), 0))) else (some (wrap64 (x5 + (wrap64 ((Int.tmod x8 128) * x6))), wrap64 (x7 + 1), 0))) else (lexiphaneref1_Unnumber.l0 k x0 (wrap64 (x5 + (wrap64 ((Int.tmod x8 128) * x6)))) (wrap64 (x6 * 128)) (wrap64 (x7 + 1))))
end
def lexiphaneref1_Unnumber.f (k : Nat) (a0 : ByteArray) : Option (Int × Int × Int) := lexiphaneref1_Unnumber.l0 k a0 0 1 0
theorem lexiphaneref1_Unnumber.mono_l : ∀ k, (∀ y0 y1 y2 y3, LeO (lexiphaneref1_Unnumber.l0 k y0 y1 y2 y3) (lexiphaneref1_Unnumber.l0 (k + 1) y0 y1 y2 y3)) ∧ (∀ y0 y1 y2 y3 y4 y5, LeO (lexiphaneref1_Unnumber.j1 k y0 y1 y2 y3 y4 y5) (lexiphaneref1_Unnumber.j1 (k + 1) y0 y1 y2 y3 y4 y5))
  | 0 => ⟨fun _ _ _ _ r h => by simp [lexiphaneref1_Unnumber.l0] at h, fun _ _ _ _ _ _ r h => by simp [lexiphaneref1_Unnumber.j1] at h⟩
  | k + 1 => by
    obtain ⟨ih0, ih1⟩ := lexiphaneref1_Unnumber.mono_l k
    refine ⟨?_, ?_⟩
    · intro y0 y1 y2 y3
      unfold lexiphaneref1_Unnumber.l0
      repeat' first
      | (with_reducible exact ih0 _ _ _ _)
      | (with_reducible exact ih1 _ _ _ _ _ _)
      | (with_reducible exact LeO.refl _)
      | (with_reducible exact LeO.none _)
      | (with_reducible refine LeO.ite ?_ ?_)
      | (with_reducible refine LeO.bind ?_ (fun _ => ?_))
      | exact ih0 _ _ _ _
      | exact ih1 _ _ _ _ _ _
      | exact LeO.none _
      | refine LeO.ite ?_ ?_
      | refine LeO.bind ?_ (fun _ => ?_)
    · intro y0 y1 y2 y3 y4 y5
      unfold lexiphaneref1_Unnumber.j1
      repeat' first
      | (with_reducible exact ih0 _ _ _ _)
      | (with_reducible exact ih1 _ _ _ _ _ _)
      | (with_reducible exact LeO.refl _)
      | (with_reducible exact LeO.none _)
      | (with_reducible refine LeO.ite ?_ ?_)
      | (with_reducible refine LeO.bind ?_ (fun _ => ?_))
      | exact ih0 _ _ _ _
      | exact ih1 _ _ _ _ _ _
      | exact LeO.none _
      | refine LeO.ite ?_ ?_
      | refine LeO.bind ?_ (fun _ => ?_)
theorem lexiphaneref1_Unnumber.mono : ∀ a0 k, LeO (lexiphaneref1_Unnumber.f k a0) (lexiphaneref1_Unnumber.f (k + 1) a0) := by
  intro a0 k
  obtain ⟨ih0, ih1⟩ := lexiphaneref1_Unnumber.mono_l k
  unfold lexiphaneref1_Unnumber.f
  repeat' first
      | (with_reducible exact ih0 _ _ _ _)
      | (with_reducible exact ih1 _ _ _ _ _ _)
      | (with_reducible exact LeO.refl _)
      | (with_reducible exact LeO.none _)
      | (with_reducible refine LeO.ite ?_ ?_)
      | (with_reducible refine LeO.bind ?_ (fun _ => ?_))
      | exact ih0 _ _ _ _
      | exact ih1 _ _ _ _ _ _
      | exact LeO.none _
      | refine LeO.ite ?_ ?_
      | refine LeO.bind ?_ (fun _ => ?_)
set_option maxHeartbeats 8000000 in
set_option maxRecDepth 100000 in
theorem lexiphaneref1_Unnumber.calls (k : Nat) (a0 : ByteArray) (r1 : Int) (r2 : Int) (r3 : Int) (w : World) (h : lexiphaneref1_Unnumber.f k a0 = some (r1, r2, r3)) :
    Calls Tryz.prog 86 #[.string a0] w fun e w' => e = .returned (.tuple #[.int .i64 r1, .int .i64 r2, .int .i64 r3]) ∧ Drawn0 w w' := by
  have H : (lexiphaneref1_Unnumber.l0 k a0 0 1 0) = some (r1, r2, r3) := h
  clear h
  have H' := Aside0.mk H
  clear H
  go_enter Tryz.func86, Tryz.ntmps86
  go_wp2
  go_loopg [5, 6, 7] k (fun kq v5 v6 v7 w' => ∃ (x5_1 : Int) (x6_1 : Int) (x7_1 : Int), v5 = .int .i64 x5_1 ∧ v6 = .int .i64 x6_1 ∧ v7 = .int .i64 x7_1 ∧ Aside0 (lexiphaneref1_Unnumber.l0 kq a0 x5_1 x6_1 x7_1 = some (r1, r2, r3)) ∧ Aside0 (kq ≤ k) ∧ Drawn0 w w')
  case atStart => exact ⟨(0), (1), (0), (by first | rfl | (simp; done) | (simp [*]; done)), (by first | rfl | (simp; done) | (simp [*]; done)), (by first | rfl | (simp; done) | (simp [*]; done)), H', ⟨Nat.le_refl _⟩, by repeat (first | exact Drawn0.refl _ | apply Drawn0.step)⟩
  case round =>
    clear H'
    obtain ⟨x5_1, x6_1, x7_1, rfl, rfl, rfl, HA, HK1, ⟨m1, rfl⟩⟩ := hrel
    cases gk with
    | zero => exact absurd HA.out (by simp [lexiphaneref1_Unnumber.l0])
    | succ k1 =>
      have H := HA.out
      clear HA
      simp only [lexiphaneref1_Unnumber.l0] at H
      by_cases c2 : x7_1 = (a0.size : Int)
      · rw [if_pos c2] at H
        have c2b0 : (x7_1 == (a0.size : Int)) = true := beq_iff_eq.mpr c2
        have c2b1 : (x7_1 != (a0.size : Int)) = false := bne_eq_false_iff_eq.mpr c2
        clear c2
        simp only [Option.some.injEq, Prod.mk.injEq] at H
        obtain ⟨rfl, rfl, rfl⟩ := H
        go_wp2
        go_ret3
        exact ⟨by first | rfl | (simp; done) | (simp [*]; done), by repeat (first | exact Drawn0.refl _ | apply Drawn0.step)⟩
      · rw [if_neg c2] at H
        have c2b0 : (x7_1 == (a0.size : Int)) = false := beq_eq_false_iff_ne.mpr c2
        have c2b1 : (x7_1 != (a0.size : Int)) = true := bne_iff_ne.mpr c2
        by_cases c3 : 0 ≤ x7_1
        · rw [if_pos c3] at H
          have c3b0 : decide (0 ≤ x7_1) = true := decide_eq_true c3
          clear c3
          by_cases c4 : x7_1 < (a0.size : Int)
          · rw [if_pos c4] at H
            have c4b0 : decide (x7_1 < (a0.size : Int)) = true := decide_eq_true c4
            clear c4
            have HC6 := Aside0.mk H
            clear H
            have p5 : 0 ≤ (x7_1 : Int) := of_decide_eq_true (by first | (with_reducible assumption) | assumption)
            have q5 : x7_1 < (a0.size : Int) := of_decide_eq_true (by first | (with_reducible assumption) | assumption)
            have hx5 := bt_at a0 x7_1
            replace p5 := eq_true p5
            replace q5 := eq_true q5
            go_upto_region 7 with (fail)
            go_cut [24] (fun v24 wc => ∃ (kq : Nat) (x24_5 : Bool), v24 = .bool x24_5 ∧ Aside0 (lexiphaneref1_Unnumber.j1 kq a0 x5_1 x6_1 x7_1 (wrap64 (bt a0 x7_1)) x24_5 = some (r1, r2, r3)) ∧ Aside0 (kq ≤ k1) ∧ Drawn0 w wc)
            case first =>
              have H := HC6.out
              clear HC6
              by_cases c7 : x7_1 = 4
              · rw [if_pos c7] at H
                have c7b0 : (x7_1 == 4) = true := beq_iff_eq.mpr c7
                have c7b1 : (x7_1 != 4) = false := bne_eq_false_iff_eq.mpr c7
                clear c7
                (first | rw [c7b0] | (simp only [i64_w, i32_w]; rw [c7b0]) | skip)
                have H' := Aside0.mk H
                clear H
                go_wp2
                go_meet
                case rel => exact ⟨_, (decide ((wrap64 (bt a0 x7_1)) > 15)), (by first | rfl | (simp; done) | (simp [*]; done)), H', ⟨by have := HK1.out; first | omega | exact Nat.le_refl _⟩, by repeat (first | exact Drawn0.refl _ | apply Drawn0.step)⟩
              · rw [if_neg c7] at H
                have c7b0 : (x7_1 == 4) = false := beq_eq_false_iff_ne.mpr c7
                have c7b1 : (x7_1 != 4) = true := bne_iff_ne.mpr c7
                (first | rw [c7b0] | (simp only [i64_w, i32_w]; rw [c7b0]) | skip)
                have H' := Aside0.mk H
                clear H
                go_wp2
                go_meet
                case rel => exact ⟨_, (false), (by first | rfl | (simp; done) | (simp [*]; done)), H', ⟨by have := HK1.out; first | omega | exact Nat.le_refl _⟩, by repeat (first | exact Drawn0.refl _ | apply Drawn0.step)⟩
            case rest =>
              clear HC6
              try clear c2
              try clear c2b0
              try clear c2b1
              try clear p2
              try clear c3
              try clear c3b0
              try clear c4
              try clear c4b0
              try clear p5
              try clear q5
              try clear hx5
              try clear p6
              try clear c7
              try clear c7b0
              try clear c7b1
              try clear p5
              try clear q5
              obtain ⟨kq, x24_5, rfl, HA, HJ5, ⟨mc5, rfl⟩⟩ := hcut
              cases kq with
              | zero => exact absurd HA.out (by simp [lexiphaneref1_Unnumber.j1])
              | succ kj5 =>
                have H := HA.out
                clear HA
                simp only [lexiphaneref1_Unnumber.j1] at H
                by_cases c8 : x24_5 = true
                · subst c8
                  have H1 : (some (0, 0, 4)) = some (r1, r2, r3) := by rw [if_pos rfl] at H; exact H
                  clear H
                  have H := H1
                  clear H1
                  simp only [Option.some.injEq, Prod.mk.injEq] at H
                  obtain ⟨rfl, rfl, rfl⟩ := H
                  go_wp2
                  go_ret3
                  exact ⟨by first | rfl | (simp; done) | (simp [*]; done), by repeat (first | exact Drawn0.refl _ | apply Drawn0.step)⟩
                · replace c8 := Bool.eq_false_iff.mpr c8
                  subst c8
                  have H1 : (if (wrap64 (bt a0 x7_1)) < 128 then (if (wrap64 (bt a0 x7_1)) = 0 then (if x7_1 > 0 then (some (0, 0, 3)) else (some (wrap64 (x5_1 + (wrap64 ((Int.tmod (wrap64 (bt a0 x7_1)) 128) * x6_1))), wrap64 (x7_1 + 1), 0))) else (some (wrap64 (x5_1 + (wrap64 ((Int.tmod (wrap64 (bt a0 x7_1)) 128) * x6_1))), wrap64 (x7_1 + 1), 0))) else (lexiphaneref1_Unnumber.l0 kj5 a0 (wrap64 (x5_1 + (wrap64 ((Int.tmod (wrap64 (bt a0 x7_1)) 128) * x6_1)))) (wrap64 (x6_1 * 128)) (wrap64 (x7_1 + 1)))) = some (r1, r2, r3) := by rw [if_neg (show ¬ (false = true) by decide)] at H; exact H
                  clear H
                  have H := H1
                  clear H1
                  by_cases c9 : (wrap64 (bt a0 x7_1)) < 128
                  · rw [if_pos c9] at H
                    have c9b0 : decide ((wrap64 (bt a0 x7_1)) < 128) = true := decide_eq_true c9
                    clear c9
                    by_cases c10 : (wrap64 (bt a0 x7_1)) = 0
                    · rw [if_pos c10] at H
                      have c10b0 : ((wrap64 (bt a0 x7_1)) == 0) = true := beq_iff_eq.mpr c10
                      have c10b1 : ((wrap64 (bt a0 x7_1)) != 0) = false := bne_eq_false_iff_eq.mpr c10
                      clear c10
                      by_cases c11 : x7_1 > 0
                      · rw [if_pos c11] at H
                        have c11b0 : decide (0 < x7_1) = true := decide_eq_true c11
                        clear c11
                        simp only [Option.some.injEq, Prod.mk.injEq] at H
                        obtain ⟨rfl, rfl, rfl⟩ := H
                        go_wp2
                        go_ret3
                        exact ⟨by first | rfl | (simp; done) | (simp [*]; done), by repeat (first | exact Drawn0.refl _ | apply Drawn0.step)⟩
                      · rw [if_neg c11] at H
                        have c11b0 : decide (0 < x7_1) = false := decide_eq_false c11
                        clear c11
                        simp only [Option.some.injEq, Prod.mk.injEq] at H
                        obtain ⟨rfl, rfl, rfl⟩ := H
                        go_wp2
                        go_ret3
                        exact ⟨by first | rfl | (simp; done) | (simp [*]; done), by repeat (first | exact Drawn0.refl _ | apply Drawn0.step)⟩
                    · rw [if_neg c10] at H
                      have c10b0 : ((wrap64 (bt a0 x7_1)) == 0) = false := beq_eq_false_iff_ne.mpr c10
                      have c10b1 : ((wrap64 (bt a0 x7_1)) != 0) = true := bne_iff_ne.mpr c10
                      simp only [Option.some.injEq, Prod.mk.injEq] at H
                      obtain ⟨rfl, rfl, rfl⟩ := H
                      go_wp2
                      go_ret3
                      exact ⟨by first | rfl | (simp; done) | (simp [*]; done), by repeat (first | exact Drawn0.refl _ | apply Drawn0.step)⟩
                  · rw [if_neg c9] at H
                    have c9b0 : decide ((wrap64 (bt a0 x7_1)) < 128) = false := decide_eq_false c9
                    clear c9
                    have H' := Aside0.mk H
                    clear H
                    go_wp2
                    go_roundg kj5
                    case measure => have := HK1.out; have := HJ5.out; omega
                    case rel => exact ⟨(wrap64 (x5_1 + (wrap64 ((Int.tmod (wrap64 (bt a0 x7_1)) 128) * x6_1)))), (wrap64 (x6_1 * 128)), (wrap64 (x7_1 + 1)), (by first | rfl | (simp; done) | (simp [*]; done)), (by first | rfl | (simp; done) | (simp [*]; done)), (by first | rfl | (simp; done) | (simp [*]; done)), H', ⟨by have := HK1.out; have := HJ5.out; omega⟩, by repeat (first | exact Drawn0.refl _ | apply Drawn0.step)⟩
          · rw [if_neg c4] at H
            exact absurd H (by simp)
        · rw [if_neg c3] at H
          exact absurd H (by simp)
def lexiphaneref1_numbers.l0 : Nat → List ByteArray → Int → ByteArray → ByteArray → Option (ByteArray × Int)
  | 0, _, _, _, _ => none
  | k + 1, x0, x1, x2, x8 => if (x8.size : Int) < x1 then ((lexiphaneref1_Unnumber.f k x2).bind fun bt262 => (if bt262.2.2 = 0 then (if 0 ≤ bt262.2.1 then (if bt262.2.1 ≤ (x2.size : Int) then ((lexiphaneref1_Means.f k x0 bt262.1).bind fun bt265 => (if bt265.2 = true then (if (wrap64 ((x8.size : Int) + (bt265.1.size : Int))) > x1 then (some ((⟨#[]⟩ : ByteArray), 12)) else (if x8.size + bt265.1.size ≤ 9223372036854775807 then (lexiphaneref1_numbers.l0 k x0 x1 (x2.extract (bt262.2.1 : Int).toNat x2.size) (x8 ++ bt265.1)) else (none))) else (some ((⟨#[]⟩ : ByteArray), 9)))) else (none)) else (none)) else (some ((⟨#[]⟩ : ByteArray), bt262.2.2)))) else (if x2.toList = ([] : List UInt8) then (some (x8, 0)) else (some ((⟨#[]⟩ : ByteArray), 13)))
def lexiphaneref1_numbers.f (k : Nat) (l0 : List ByteArray) (a1 : Int) (a2 : ByteArray) : Option (ByteArray × Int) := lexiphaneref1_numbers.l0 k l0 a1 a2 (⟨#[]⟩ : ByteArray)
theorem lexiphaneref1_numbers.mono_l : ∀ k, (∀ y0 y1 y2 y3, LeO (lexiphaneref1_numbers.l0 k y0 y1 y2 y3) (lexiphaneref1_numbers.l0 (k + 1) y0 y1 y2 y3))
  | 0 => fun _ _ _ _ r h => by simp [lexiphaneref1_numbers.l0] at h
  | k + 1 => by
    have ih0 := lexiphaneref1_numbers.mono_l k
    · intro y0 y1 y2 y3
      unfold lexiphaneref1_numbers.l0
      repeat' first
      | (with_reducible exact ih0 _ _ _ _)
      | (with_reducible exact lexiphaneref1_Means.mono _ _ _)
      | (with_reducible exact lexiphaneref1_Unnumber.mono _ _)
      | (with_reducible exact LeO.refl _)
      | (with_reducible exact LeO.none _)
      | (with_reducible refine LeO.ite ?_ ?_)
      | (with_reducible refine LeO.bind ?_ (fun _ => ?_))
      | exact ih0 _ _ _ _
      | exact lexiphaneref1_Means.mono _ _ _
      | exact lexiphaneref1_Unnumber.mono _ _
      | exact LeO.none _
      | refine LeO.ite ?_ ?_
      | refine LeO.bind ?_ (fun _ => ?_)
theorem lexiphaneref1_numbers.mono : ∀ a0 a1 a2 k, LeO (lexiphaneref1_numbers.f k a0 a1 a2) (lexiphaneref1_numbers.f (k + 1) a0 a1 a2) := by
  intro a0 a1 a2 k
  have ih0 := lexiphaneref1_numbers.mono_l k
  unfold lexiphaneref1_numbers.f
  repeat' first
      | (with_reducible exact ih0 _ _ _ _)
      | (with_reducible exact lexiphaneref1_Means.mono _ _ _)
      | (with_reducible exact lexiphaneref1_Unnumber.mono _ _)
      | (with_reducible exact LeO.refl _)
      | (with_reducible exact LeO.none _)
      | (with_reducible refine LeO.ite ?_ ?_)
      | (with_reducible refine LeO.bind ?_ (fun _ => ?_))
      | exact ih0 _ _ _ _
      | exact lexiphaneref1_Means.mono _ _ _
      | exact lexiphaneref1_Unnumber.mono _ _
      | exact LeO.none _
      | refine LeO.ite ?_ ?_
      | refine LeO.bind ?_ (fun _ => ?_)
set_option maxHeartbeats 8000000 in
set_option maxRecDepth 100000 in
theorem lexiphaneref1_numbers.calls (k : Nat) (A0 : Option Addr) (c0 : Nat) (l0 : List ByteArray) (a1 : Int) (a2 : ByteArray) (r1 : ByteArray) (r2 : Int) (w : World) (hr0 : Kd.C Kd.string w A0 l0.length l0) (hc0 : l0.length ≤ c0) (h : lexiphaneref1_numbers.f k l0 a1 a2 = some (r1, r2)) :
    Calls Tryz.prog 67 #[.slice A0 l0.length c0, .int .i64 a1, .string a2] w fun e w' => e = .returned (.tuple #[.string r1, .int .i64 r2]) ∧ Below w.heap.size w w' := by
  have HR0 := Aside0.mk hr0
  have HC0 := Aside0.mk hc0
  clear hr0 hc0
  have HB := Aside0.mk (Below.refl w.heap.size w)
  have H : (lexiphaneref1_numbers.l0 k l0 a1 a2 (⟨#[]⟩ : ByteArray)) = some (r1, r2) := h
  clear h
  have H' := Aside0.mk H
  clear H
  go_enter Tryz.func67, Tryz.ntmps67
  go_wp2
  go_loopg [2, 8] k (fun kq v2 v8 w' => ∃ (x2_1 : ByteArray) (x8_1 : ByteArray), v2 = .string x2_1 ∧ v8 = .string x8_1 ∧ Aside0 (lexiphaneref1_numbers.l0 kq l0 a1 x2_1 x8_1 = some (r1, r2)) ∧ Aside0 (kq ≤ k) ∧ Aside0 (Below w.heap.size w w'))
  case atStart => exact ⟨(a2), ((⟨#[]⟩ : ByteArray)), (by first | rfl | (simp; done) | (simp [*]; done)), (by first | rfl | (simp; done) | (simp [*]; done)), H', ⟨Nat.le_refl _⟩, ⟨by repeat (first | (with_reducible first | exact HB.out | apply below_alloc | apply pw_below_drewN | apply below_drew1) | exact HB.out)⟩⟩
  case round =>
    clear H'
    try clear p2
    obtain ⟨x2_1, x8_1, rfl, rfl, HA, HK1, HB⟩ := hrel
    cases gk with
    | zero => exact absurd HA.out (by simp [lexiphaneref1_numbers.l0])
    | succ k1 =>
      have H := HA.out
      clear HA
      simp only [lexiphaneref1_numbers.l0] at H
      by_cases c4 : (x8_1.size : Int) < a1
      · rw [if_pos c4] at H
        have c4b0 : decide ((x8_1.size : Int) < a1) = true := decide_eq_true c4
        clear c4
        replace H := Option.bind_eq_some_iff.mp H
        obtain ⟨⟨t262, t263, t264⟩, A50, H⟩ := H
        replace H : (if t264 = 0 then (if 0 ≤ t263 then (if t263 ≤ (x2_1.size : Int) then ((lexiphaneref1_Means.f k1 l0 t262).bind fun bt265 => (if bt265.2 = true then (if (wrap64 ((x8_1.size : Int) + (bt265.1.size : Int))) > a1 then (some ((⟨#[]⟩ : ByteArray), 12)) else (if x8_1.size + bt265.1.size ≤ 9223372036854775807 then (lexiphaneref1_numbers.l0 k1 l0 a1 (x2_1.extract (t263 : Int).toNat x2_1.size) (x8_1 ++ bt265.1)) else (none))) else (some ((⟨#[]⟩ : ByteArray), 9)))) else (none)) else (none)) else (some ((⟨#[]⟩ : ByteArray), t264))) = some (r1, r2) := H
        have A5 := Aside0.mk A50
        clear A50
        by_cases c6 : t264 = 0
        · rw [if_pos c6] at H
          have c6b0 : (t264 == 0) = true := beq_iff_eq.mpr c6
          have c6b1 : (t264 != 0) = false := bne_eq_false_iff_eq.mpr c6
          clear c6
          by_cases c7 : 0 ≤ t263
          · rw [if_pos c7] at H
            have c7b0 := eq_true c7
            have c7b1 : decide (0 ≤ t263) = true := decide_eq_true c7
            clear c7
            by_cases c8 : t263 ≤ (x2_1.size : Int)
            · rw [if_pos c8] at H
              have c8b0 := eq_true c8
              have c8b1 : decide (t263 ≤ (x2_1.size : Int)) = true := decide_eq_true c8
              clear c8
              replace H := Option.bind_eq_some_iff.mp H
              obtain ⟨⟨t265, t266⟩, A90, H⟩ := H
              replace H : (if t266 = true then (if (wrap64 ((x8_1.size : Int) + (t265.size : Int))) > a1 then (some ((⟨#[]⟩ : ByteArray), 12)) else (if x8_1.size + t265.size ≤ 9223372036854775807 then (lexiphaneref1_numbers.l0 k1 l0 a1 (x2_1.extract (t263 : Int).toNat x2_1.size) (x8_1 ++ t265)) else (none))) else (some ((⟨#[]⟩ : ByteArray), 9))) = some (r1, r2) := H
              have A9 := Aside0.mk A90
              clear A90
              by_cases c10 : t266 = true
              · subst c10
                have H1 : (if (wrap64 ((x8_1.size : Int) + (t265.size : Int))) > a1 then (some ((⟨#[]⟩ : ByteArray), 12)) else (if x8_1.size + t265.size ≤ 9223372036854775807 then (lexiphaneref1_numbers.l0 k1 l0 a1 (x2_1.extract (t263 : Int).toNat x2_1.size) (x8_1 ++ t265)) else (none))) = some (r1, r2) := by rw [if_pos rfl] at H; exact H
                clear H
                have H := H1
                clear H1
                by_cases c11 : (wrap64 ((x8_1.size : Int) + (t265.size : Int))) > a1
                · rw [if_pos c11] at H
                  have c11b0 : decide (a1 < (wrap64 ((x8_1.size : Int) + (t265.size : Int)))) = true := decide_eq_true c11
                  clear c11
                  simp only [Option.some.injEq, Prod.mk.injEq] at H
                  obtain ⟨rfl, rfl⟩ := H
                  go_wp2_with (first | ((with_reducible refine gate_callee (f := 86) rfl ?_); refine goesL_ (some 20) rfl rfl Tryz.func86 (by kernel_rfl) rfl #[.string x2_1] rfl (by (try simp only [List.map_toArray, List.map_cons, List.map_nil]); first | done | rfl | (simp only [List.length_drop, List.length_take]; rfl)) ?_; (with_reducible refine (lexiphaneref1_Unnumber.calls k1 x2_1 t262 t263 t264 _ A5.out).mono ?_); rintro e w' ⟨rfl, ⟨nd, rfl⟩⟩; refine ⟨_, rfl, ?_⟩) | ((with_reducible refine gate_callee (f := 72) rfl ?_); refine goesL_ (some 33) rfl rfl Tryz.func72 (by kernel_rfl) rfl #[.slice A0 l0.length c0, .int .i64 t262] rfl (by (try simp only [List.map_toArray, List.map_cons, List.map_nil]); first | done | rfl | (simp only [List.length_drop, List.length_take]; rfl)) ?_; (with_reducible refine (lexiphaneref1_Means.calls k1 _ _ l0 t262 t265 true _ ?side1 ?side2 A9.out).mono ?_); (case side1 => repeat (first | exact (Kd.C_below HR0.out (by repeat (first | (with_reducible first | exact HB.out | apply below_alloc | apply pw_below_drewN | apply below_drew1) | exact HB.out))) | (with_reducible refine Kd.C_alloc ?_ _) | (with_reducible refine Kd.C_drewN ?_ _) | (with_reducible refine Kd.C_drew ?_))); (case side2 => exact HC0.out); rintro e w12 ⟨rfl, hb⟩; refine ⟨_, rfl, ?_⟩; have n0_ := Aside0.mk (below_step (by repeat (first | (with_reducible first | exact HB.out | apply below_alloc | apply pw_below_drewN | apply below_drew1) | exact HB.out)) hb); clear HB; have HB := n0_; clear n0_; (try clear hb); (try clear hb2); (try clear hk); (try clear hi)))
                  go_ret2
                  exact ⟨by first | rfl | (simp [errW_none, errW_some] <;> rfl) | (simp [*, errW_none, errW_some] <;> rfl), by repeat (first | (with_reducible first | exact HB.out | apply below_alloc | apply pw_below_drewN | apply below_drew1) | exact HB.out)⟩
                · rw [if_neg c11] at H
                  have c11b0 : decide (a1 < (wrap64 ((x8_1.size : Int) + (t265.size : Int)))) = false := decide_eq_false c11
                  clear c11
                  by_cases c13 : x8_1.size + t265.size ≤ 9223372036854775807
                  · rw [if_pos c13] at H
                    rw [wr_sum_25 _ _ c13] at c11b0
                    have c13b0 := eq_true c13
                    have c13b1 : decide (x8_1.size + t265.size ≤ 9223372036854775807) = true := decide_eq_true c13
                    try have c13b2 : (9223372036854775807 < x8_1.size + t265.size) = False := eq_false (Nat.not_lt.2 c13)
                    have H' := Aside0.mk H
                    clear H
                    go_wp2_with (first | ((with_reducible refine gate_callee (f := 86) rfl ?_); refine goesL_ (some 20) rfl rfl Tryz.func86 (by kernel_rfl) rfl #[.string x2_1] rfl (by (try simp only [List.map_toArray, List.map_cons, List.map_nil]); first | done | rfl | (simp only [List.length_drop, List.length_take]; rfl)) ?_; (with_reducible refine (lexiphaneref1_Unnumber.calls k1 x2_1 t262 t263 t264 _ A5.out).mono ?_); rintro e w' ⟨rfl, ⟨nd, rfl⟩⟩; refine ⟨_, rfl, ?_⟩) | ((with_reducible refine gate_callee (f := 72) rfl ?_); refine goesL_ (some 33) rfl rfl Tryz.func72 (by kernel_rfl) rfl #[.slice A0 l0.length c0, .int .i64 t262] rfl (by (try simp only [List.map_toArray, List.map_cons, List.map_nil]); first | done | rfl | (simp only [List.length_drop, List.length_take]; rfl)) ?_; (with_reducible refine (lexiphaneref1_Means.calls k1 _ _ l0 t262 t265 true _ ?side1 ?side2 A9.out).mono ?_); (case side1 => repeat (first | exact (Kd.C_below HR0.out (by repeat (first | (with_reducible first | exact HB.out | apply below_alloc | apply pw_below_drewN | apply below_drew1) | exact HB.out))) | (with_reducible refine Kd.C_alloc ?_ _) | (with_reducible refine Kd.C_drewN ?_ _) | (with_reducible refine Kd.C_drew ?_))); (case side2 => exact HC0.out); rintro e w14 ⟨rfl, hb⟩; refine ⟨_, rfl, ?_⟩; have n0_ := Aside0.mk (below_step (by repeat (first | (with_reducible first | exact HB.out | apply below_alloc | apply pw_below_drewN | apply below_drew1) | exact HB.out)) hb); clear HB; have HB := n0_; clear n0_; (try clear hb); (try clear hb2); (try clear hk); (try clear hi)))
                    go_roundg k1
                    case measure => have := HK1.out; omega
                    case rel => exact ⟨(x2_1.extract (t263 : Int).toNat x2_1.size), (x8_1 ++ t265), (by first | rfl | (simp; done) | (simp [*]; done)), (by first | rfl | (simp; done) | (simp [*]; done)), H', ⟨by have := HK1.out; omega⟩, ⟨by repeat (first | (with_reducible first | exact HB.out | apply below_alloc | apply pw_below_drewN | apply below_drew1) | exact HB.out)⟩⟩
                  · rw [if_neg c13] at H
                    exact absurd H (by simp)
              · replace c10 := Bool.eq_false_iff.mpr c10
                subst c10
                have H1 : (some ((⟨#[]⟩ : ByteArray), 9)) = some (r1, r2) := by rw [if_neg (show ¬ (false = true) by decide)] at H; exact H
                clear H
                have H := H1
                clear H1
                simp only [Option.some.injEq, Prod.mk.injEq] at H
                obtain ⟨rfl, rfl⟩ := H
                go_wp2_with (first | ((with_reducible refine gate_callee (f := 86) rfl ?_); refine goesL_ (some 20) rfl rfl Tryz.func86 (by kernel_rfl) rfl #[.string x2_1] rfl (by (try simp only [List.map_toArray, List.map_cons, List.map_nil]); first | done | rfl | (simp only [List.length_drop, List.length_take]; rfl)) ?_; (with_reducible refine (lexiphaneref1_Unnumber.calls k1 x2_1 t262 t263 t264 _ A5.out).mono ?_); rintro e w' ⟨rfl, ⟨nd, rfl⟩⟩; refine ⟨_, rfl, ?_⟩) | ((with_reducible refine gate_callee (f := 72) rfl ?_); refine goesL_ (some 33) rfl rfl Tryz.func72 (by kernel_rfl) rfl #[.slice A0 l0.length c0, .int .i64 t262] rfl (by (try simp only [List.map_toArray, List.map_cons, List.map_nil]); first | done | rfl | (simp only [List.length_drop, List.length_take]; rfl)) ?_; (with_reducible refine (lexiphaneref1_Means.calls k1 _ _ l0 t262 t265 false _ ?side1 ?side2 A9.out).mono ?_); (case side1 => repeat (first | exact (Kd.C_below HR0.out (by repeat (first | (with_reducible first | exact HB.out | apply below_alloc | apply pw_below_drewN | apply below_drew1) | exact HB.out))) | (with_reducible refine Kd.C_alloc ?_ _) | (with_reducible refine Kd.C_drewN ?_ _) | (with_reducible refine Kd.C_drew ?_))); (case side2 => exact HC0.out); rintro e w15 ⟨rfl, hb⟩; refine ⟨_, rfl, ?_⟩; have n0_ := Aside0.mk (below_step (by repeat (first | (with_reducible first | exact HB.out | apply below_alloc | apply pw_below_drewN | apply below_drew1) | exact HB.out)) hb); clear HB; have HB := n0_; clear n0_; (try clear hb); (try clear hb2); (try clear hk); (try clear hi)))
                go_ret2
                exact ⟨by first | rfl | (simp [errW_none, errW_some] <;> rfl) | (simp [*, errW_none, errW_some] <;> rfl), by repeat (first | (with_reducible first | exact HB.out | apply below_alloc | apply pw_below_drewN | apply below_drew1) | exact HB.out)⟩
            · rw [if_neg c8] at H
              exact absurd H (by simp)
          · rw [if_neg c7] at H
            exact absurd H (by simp)
        · rw [if_neg c6] at H
          have c6b0 : (t264 == 0) = false := beq_eq_false_iff_ne.mpr c6
          have c6b1 : (t264 != 0) = true := bne_iff_ne.mpr c6
          simp only [Option.some.injEq, Prod.mk.injEq] at H
          obtain ⟨rfl, rfl⟩ := H
          go_wp2_with (first | ((with_reducible refine gate_callee (f := 86) rfl ?_); refine goesL_ (some 20) rfl rfl Tryz.func86 (by kernel_rfl) rfl #[.string x2_1] rfl (by (try simp only [List.map_toArray, List.map_cons, List.map_nil]); first | done | rfl | (simp only [List.length_drop, List.length_take]; rfl)) ?_; (with_reducible refine (lexiphaneref1_Unnumber.calls k1 x2_1 t262 t263 t264 _ A5.out).mono ?_); rintro e w' ⟨rfl, ⟨nd, rfl⟩⟩; refine ⟨_, rfl, ?_⟩))
          go_ret2
          exact ⟨by first | rfl | (simp [errW_none, errW_some] <;> rfl) | (simp [*, errW_none, errW_some] <;> rfl), by repeat (first | (with_reducible first | exact HB.out | apply below_alloc | apply pw_below_drewN | apply below_drew1) | exact HB.out)⟩
      · rw [if_neg c4] at H
        have c4b0 : decide ((x8_1.size : Int) < a1) = false := decide_eq_false c4
        clear c4
        by_cases c16 : x2_1.toList = ([] : List UInt8)
        · rw [if_pos c16] at H
          have c16b0 : (x2_1.toList == ([] : List UInt8)) = true := beq_iff_eq.mpr c16
          have c16b1 : (x2_1.toList != ([] : List UInt8)) = false := bne_eq_false_iff_eq.mpr c16
          clear c16
          simp only [Option.some.injEq, Prod.mk.injEq] at H
          obtain ⟨rfl, rfl⟩ := H
          go_wp2
          go_ret2
          exact ⟨by first | rfl | (simp [errW_none, errW_some] <;> rfl) | (simp [*, errW_none, errW_some] <;> rfl), by repeat (first | (with_reducible first | exact HB.out | apply below_alloc | apply pw_below_drewN | apply below_drew1) | exact HB.out)⟩
        · rw [if_neg c16] at H
          have c16b0 : (x2_1.toList == ([] : List UInt8)) = false := beq_eq_false_iff_ne.mpr c16
          have c16b1 : (x2_1.toList != ([] : List UInt8)) = true := bne_iff_ne.mpr c16
          simp only [Option.some.injEq, Prod.mk.injEq] at H
          obtain ⟨rfl, rfl⟩ := H
          go_wp2
          go_ret2
          exact ⟨by first | rfl | (simp [errW_none, errW_some] <;> rfl) | (simp [*, errW_none, errW_some] <;> rfl), by repeat (first | (with_reducible first | exact HB.out | apply below_alloc | apply pw_below_drewN | apply below_drew1) | exact HB.out)⟩
mutual
def lexiphaneref1_Untab.j0 : Nat → ByteArray → Int → Bool → Option (List Int × Int × Int)
  | 0, _, _, _ => none
  | k + 1, x0, x1, x17 => if x17 = true then (some (([] : List Int), 0, 1)) else (lexiphaneref1_Untab.l0 k x0 x1 ([] : List Int) 0)
def lexiphaneref1_Untab.l0 : Nat → ByteArray → Int → List Int → Int → Option (List Int × Int × Int)
  | 0, _, _, _, _ => none
  | k + 1, x0, x1, x7, x8 => if (x7.length : Int) < x1 then (if x8 = (x0.size : Int) then (some (([] : List Int), 0, 2)) else (if 0 ≤ x8 then (if x8 < (x0.size : Int) then (if (wrap64 ((x7.length : Int) + (wrap64 ((Int.tmod (wrap64 (bt x0 x8)) 16) + 1)))) > x1 then (lexiphaneref1_Untab.j2 k x0 x1 x7 x8 (wrap64 (Int.tdiv (wrap64 (bt x0 x8)) 16)) (wrap64 ((Int.tmod (wrap64 (bt x0 x8)) 16) + 1)) true) else (if x8 > 0 then (if 0 ≤ (wrap64 (x8 - 1)) then (if (wrap64 (x8 - 1)) < (x0.size : Int) then (if (wrap64 (Int.tdiv (wrap64 (bt x0 (wrap64 (x8 - 1)))) 16)) = (wrap64 (Int.tdiv (wrap64 (bt x0 x8)) 16)) then (lexiphaneref1_Untab.j2 k x0 x1 x7 x8 (wrap64 (Int.tdiv (wrap64 (bt x0 x8)) 16)) (wrap64 ((Int.tmod (wrap64 (bt x0 x8)) 16) + 1)) (decide ((Int.tmod (wrap64 (bt x0 (wrap64 (x8 - 1)))) 16) < 15))) else (lexiphaneref1_Untab.j2 k x0 x1 x7 x8 (wrap64 (Int.tdiv (wrap64 (bt x0 x8)) 16)) (wrap64 ((Int.tmod (wrap64 (bt x0 x8)) 16) + 1)) false)) else (none)) else (none)) else (lexiphaneref1_Untab.j2 k x0 x1 x7 x8 (wrap64 (Int.tdiv (wrap64 (bt x0 x8)) 16)) (wrap64 ((Int.tmod (wrap64 (bt x0 x8)) 16) + 1)) false))) else (none)) else (none))) else (some (x7, x8, 0))
def lexiphaneref1_Untab.j2 : Nat → ByteArray → Int → List Int → Int → Int → Int → Bool → Option (List Int × Int × Int)
  | 0, _, _, _, _, _, _, _ => none
  | k + 1, x0, x1, x7, x8, x9, x10, x67 => if x67 = true then (some (([] : List Int), 0, 3)) else (lexiphaneref1_Untab.l1 k x0 x1 x7 x8 x9 x10 0)
def lexiphaneref1_Untab.l1 : Nat → ByteArray → Int → List Int → Int → Int → Int → Int → Option (List Int × Int × Int)
  | 0, _, _, _, _, _, _, _ => none
  | k + 1, x0, x1, x7, x8, x9, x10, x11 => if x11 < x10 then (if x7.length < 17592186044416 then (lexiphaneref1_Untab.l1 k x0 x1 (x7 ++ [x9]) x8 x9 x10 (wrap64 (x11 + 1))) else (none)) else (lexiphaneref1_Untab.l0 k x0 x1 x7 (wrap64 (x8 + 1)))
end
def lexiphaneref1_Untab.f (k : Nat) (a0 : ByteArray) (a1 : Int) : Option (List Int × Int × Int) := if a1 < 0 then (lexiphaneref1_Untab.j0 k a0 a1 true) else (lexiphaneref1_Untab.j0 k a0 a1 (decide (a1 > 356)))
theorem lexiphaneref1_Untab.mono_l : ∀ k, (∀ y0 y1 y2, LeO (lexiphaneref1_Untab.j0 k y0 y1 y2) (lexiphaneref1_Untab.j0 (k + 1) y0 y1 y2)) ∧ (∀ y0 y1 y2 y3, LeO (lexiphaneref1_Untab.l0 k y0 y1 y2 y3) (lexiphaneref1_Untab.l0 (k + 1) y0 y1 y2 y3)) ∧ (∀ y0 y1 y2 y3 y4 y5 y6, LeO (lexiphaneref1_Untab.j2 k y0 y1 y2 y3 y4 y5 y6) (lexiphaneref1_Untab.j2 (k + 1) y0 y1 y2 y3 y4 y5 y6)) ∧ (∀ y0 y1 y2 y3 y4 y5 y6, LeO (lexiphaneref1_Untab.l1 k y0 y1 y2 y3 y4 y5 y6) (lexiphaneref1_Untab.l1 (k + 1) y0 y1 y2 y3 y4 y5 y6))
  | 0 => ⟨fun _ _ _ r h => by simp [lexiphaneref1_Untab.j0] at h, fun _ _ _ _ r h => by simp [lexiphaneref1_Untab.l0] at h, fun _ _ _ _ _ _ _ r h => by simp [lexiphaneref1_Untab.j2] at h, fun _ _ _ _ _ _ _ r h => by simp [lexiphaneref1_Untab.l1] at h⟩
  | k + 1 => by
    obtain ⟨ih0, ih1, ih2, ih3⟩ := lexiphaneref1_Untab.mono_l k
    refine ⟨?_, ?_, ?_, ?_⟩
    · intro y0 y1 y2
      unfold lexiphaneref1_Untab.j0
      repeat' first
      | (with_reducible exact ih0 _ _ _)
      | (with_reducible exact ih1 _ _ _ _)
      | (with_reducible exact ih2 _ _ _ _ _ _ _)
      | (with_reducible exact ih3 _ _ _ _ _ _ _)
      | (with_reducible exact LeO.refl _)
      | (with_reducible exact LeO.none _)
      | (with_reducible refine LeO.ite ?_ ?_)
      | (with_reducible refine LeO.bind ?_ (fun _ => ?_))
      | exact ih0 _ _ _
      | exact ih1 _ _ _ _
      | exact ih2 _ _ _ _ _ _ _
      | exact ih3 _ _ _ _ _ _ _
      | exact LeO.none _
      | refine LeO.ite ?_ ?_
      | refine LeO.bind ?_ (fun _ => ?_)
    · intro y0 y1 y2 y3
      unfold lexiphaneref1_Untab.l0
      repeat' first
      | (with_reducible exact ih0 _ _ _)
      | (with_reducible exact ih1 _ _ _ _)
      | (with_reducible exact ih2 _ _ _ _ _ _ _)
      | (with_reducible exact ih3 _ _ _ _ _ _ _)
      | (with_reducible exact LeO.refl _)
      | (with_reducible exact LeO.none _)
      | (with_reducible refine LeO.ite ?_ ?_)
      | (with_reducible refine LeO.bind ?_ (fun _ => ?_))
      | exact ih0 _ _ _
      | exact ih1 _ _ _ _
      | exact ih2 _ _ _ _ _ _ _
      | exact ih3 _ _ _ _ _ _ _
      | exact LeO.none _
      | refine LeO.ite ?_ ?_
      | refine LeO.bind ?_ (fun _ => ?_)
    · intro y0 y1 y2 y3 y4 y5 y6
      unfold lexiphaneref1_Untab.j2
      repeat' first
      | (with_reducible exact ih0 _ _ _)
      | (with_reducible exact ih1 _ _ _ _)
      | (with_reducible exact ih2 _ _ _ _ _ _ _)
      | (with_reducible exact ih3 _ _ _ _ _ _ _)
      | (with_reducible exact LeO.refl _)
      | (with_reducible exact LeO.none _)
      | (with_reducible refine LeO.ite ?_ ?_)
      | (with_reducible refine LeO.bind ?_ (fun _ => ?_))
      | exact ih0 _ _ _
      | exact ih1 _ _ _ _
      | exact ih2 _ _ _ _ _ _ _
      | exact ih3 _ _ _ _ _ _ _
      | exact LeO.none _
      | refine LeO.ite ?_ ?_
      | refine LeO.bind ?_ (fun _ => ?_)
    · intro y0 y1 y2 y3 y4 y5 y6
      unfold lexiphaneref1_Untab.l1
      repeat' first
      | (with_reducible exact ih0 _ _ _)
      | (with_reducible exact ih1 _ _ _ _)
      | (with_reducible exact ih2 _ _ _ _ _ _ _)
      | (with_reducible exact ih3 _ _ _ _ _ _ _)
      | (with_reducible exact LeO.refl _)
      | (with_reducible exact LeO.none _)
      | (with_reducible refine LeO.ite ?_ ?_)
      | (with_reducible refine LeO.bind ?_ (fun _ => ?_))
      | exact ih0 _ _ _
      | exact ih1 _ _ _ _
      | exact ih2 _ _ _ _ _ _ _
      | exact ih3 _ _ _ _ _ _ _
      | exact LeO.none _
      | refine LeO.ite ?_ ?_
      | refine LeO.bind ?_ (fun _ => ?_)
theorem lexiphaneref1_Untab.mono : ∀ a0 a1 k, LeO (lexiphaneref1_Untab.f k a0 a1) (lexiphaneref1_Untab.f (k + 1) a0 a1) := by
  intro a0 a1 k
  obtain ⟨ih0, ih1, ih2, ih3⟩ := lexiphaneref1_Untab.mono_l k
  unfold lexiphaneref1_Untab.f
  repeat' first
      | (with_reducible exact ih0 _ _ _)
      | (with_reducible exact ih1 _ _ _ _)
      | (with_reducible exact ih2 _ _ _ _ _ _ _)
      | (with_reducible exact ih3 _ _ _ _ _ _ _)
      | (with_reducible exact LeO.refl _)
      | (with_reducible exact LeO.none _)
      | (with_reducible refine LeO.ite ?_ ?_)
      | (with_reducible refine LeO.bind ?_ (fun _ => ?_))
      | exact ih0 _ _ _
      | exact ih1 _ _ _ _
      | exact ih2 _ _ _ _ _ _ _
      | exact ih3 _ _ _ _ _ _ _
      | exact LeO.none _
      | refine LeO.ite ?_ ?_
      | refine LeO.bind ?_ (fun _ => ?_)
set_option maxHeartbeats 8000000 in
set_option maxRecDepth 100000 in
theorem lexiphaneref1_Untab.calls (k : Nat) (a0 : ByteArray) (a1 : Int) (r1 : List Int) (r2 : Int) (r3 : Int) (w : World) (h : lexiphaneref1_Untab.f k a0 a1 = some (r1, r2, r3)) :
    Calls Tryz.prog 68 #[.string a0, .int .i64 a1] w fun e w' => ∃ v0_ : Value, e = .returned (.tuple #[v0_, .int .i64 r2, .int .i64 r3]) ∧ Kd.R (Kd.int .i64) 3 w' w.heap.size (fun _ => True) v0_ r1 ∧ Below w.heap.size w w' := by
  have HB := Aside0.mk (Below.refl w.heap.size w)
  have H : (if a1 < 0 then (lexiphaneref1_Untab.j0 k a0 a1 true) else (lexiphaneref1_Untab.j0 k a0 a1 (decide (a1 > 356)))) = some (r1, r2, r3) := h
  clear h
  have HC3 := Aside0.mk H
  clear H
  go_enter Tryz.func68, Tryz.ntmps68
  go_upto_region 1 with (fail)
  repeat (go_quiet (fail); go_upto_region 1 with (fail))
  go_cut [17] (fun v17 wc => ∃ (kq : Nat) (x17_2 : Bool), v17 = .bool x17_2 ∧ Aside0 (lexiphaneref1_Untab.j0 kq a0 a1 x17_2 = some (r1, r2, r3)) ∧ Aside0 (kq ≤ k) ∧ Aside0 (Below w.heap.size w wc))
  case first =>
    have H := HC3.out
    clear HC3
    by_cases c4 : a1 < 0
    · rw [if_pos c4] at H
      have c4b0 : decide (a1 < 0) = true := decide_eq_true c4
      clear c4
      (first | rw [c4b0] | (simp only [i64_w, i32_w]; rw [c4b0]) | skip)
      have H' := Aside0.mk H
      clear H
      go_wp2
      repeat (go_quiet (fail); try go_wp2)
      go_meet
      case rel => exact ⟨_, (true), (by first | rfl | (simp; done) | (simp [*]; done)), H', ⟨by first | omega | exact Nat.le_refl _⟩, ⟨by repeat (first | (with_reducible first | exact HB.out | apply below_alloc | apply pw_below_drewN | apply below_drew1) | exact HB.out)⟩⟩
    · rw [if_neg c4] at H
      have c4b0 : decide (a1 < 0) = false := decide_eq_false c4
      clear c4
      (first | rw [c4b0] | (simp only [i64_w, i32_w]; rw [c4b0]) | skip)
      have H' := Aside0.mk H
      clear H
      go_wp2
      repeat (go_quiet (fail); try go_wp2)
      go_meet
      case rel => exact ⟨_, (decide (a1 > 356)), (by first | rfl | (simp; done) | (simp [*]; done)), H', ⟨by first | omega | exact Nat.le_refl _⟩, ⟨by repeat (first | (with_reducible first | exact HB.out | apply below_alloc | apply pw_below_drewN | apply below_drew1) | exact HB.out)⟩⟩
  case rest =>
    clear HC3
    try clear p2
    try clear c4
    try clear c4b0
    obtain ⟨kq, x17_2, rfl, HA, HJ2, HB⟩ := hcut
    cases kq with
    | zero => exact absurd HA.out (by simp [lexiphaneref1_Untab.j0])
    | succ kj2 =>
      have H := HA.out
      clear HA
      simp only [lexiphaneref1_Untab.j0] at H
      by_cases c5 : x17_2 = true
      · subst c5
        have H1 : (some (([] : List Int), 0, 1)) = some (r1, r2, r3) := by rw [if_pos rfl] at H; exact H
        clear H
        have H := H1
        clear H1
        simp only [Option.some.injEq, Prod.mk.injEq] at H
        obtain ⟨rfl, rfl, rfl⟩ := H
        go_wp2
        repeat (go_quiet (fail); try go_wp2)
        go_ret3
        exact ⟨_, by first | rfl | (simp [errW_none, errW_some] <;> rfl) | (simp [*, errW_none, errW_some] <;> rfl), by first | exact Kd.R_nil _ _ _ _ _ | exact Kd.N_nil _ _ _ _ _ | exact Kd.V_nil _ _ _ _ _ | exact Kd.Q_nil _ _ _ _ _ | exact Kd.S_nil _ _ _ _ _, by repeat (first | (with_reducible first | exact HB.out | apply below_alloc | apply pw_below_drewN | apply below_drew1) | exact HB.out)⟩
      · replace c5 := Bool.eq_false_iff.mpr c5
        subst c5
        have H1 : (lexiphaneref1_Untab.l0 kj2 a0 a1 ([] : List Int) 0) = some (r1, r2, r3) := by rw [if_neg (show ¬ (false = true) by decide)] at H; exact H
        clear H
        have H := H1
        clear H1
        have H' := Aside0.mk H
        clear H
        go_wp2
        repeat (go_quiet (fail); try go_wp2)
        go_loopg [7, 8] kj2 (fun kq v7 v8 w' => ∃ (x7_2 : List Int) (x8_2 : Int), v8 = .int .i64 x8_2 ∧ Aside0 (lexiphaneref1_Untab.l0 kq a0 a1 x7_2 x8_2 = some (r1, r2, r3)) ∧ Aside0 (kq ≤ kj2) ∧ Aside0 (Kd.R (Kd.int .i64) 3 w' w.heap.size (fun _ => True) v7 x7_2) ∧ Aside0 (Below w.heap.size w w'))
        case atStart => exact ⟨(([] : List Int)), (0), (by first | rfl | (simp; done) | (simp [*]; done)), H', ⟨Nat.le_refl _⟩, ⟨by first | exact Kd.R_nil _ _ _ _ _ | exact Kd.N_nil _ _ _ _ _ | exact Kd.V_nil _ _ _ _ _ | exact Kd.Q_nil _ _ _ _ _ | exact Kd.S_nil _ _ _ _ _⟩, ⟨by repeat (first | (with_reducible first | exact HB.out | apply below_alloc | apply pw_below_drewN | apply below_drew1) | exact HB.out)⟩⟩
        case round =>
          clear H'
          try clear p2
          try clear c4
          try clear c4b0
          try clear c5
          try clear p2
          obtain ⟨x7_2, x8_2, rfl, HA, HK2, HO_7, HB⟩ := hrel
          cases gk with
          | zero => exact absurd HA.out (by simp [lexiphaneref1_Untab.l0])
          | succ k2 =>
            have H := HA.out
            clear HA
            simp only [lexiphaneref1_Untab.l0] at H
            by_cases c6 : (x7_2.length : Int) < a1
            · rw [if_pos c6] at H
              have c6b0 : decide ((x7_2.length : Int) < a1) = true := decide_eq_true c6
              clear c6
              by_cases c7 : x8_2 = (a0.size : Int)
              · rw [if_pos c7] at H
                have c7b0 : (x8_2 == (a0.size : Int)) = true := beq_iff_eq.mpr c7
                have c7b1 : (x8_2 != (a0.size : Int)) = false := bne_eq_false_iff_eq.mpr c7
                clear c7
                simp only [Option.some.injEq, Prod.mk.injEq] at H
                obtain ⟨rfl, rfl, rfl⟩ := H
                obtain ⟨Ao8, co8, eo8⟩ := Kd.R_slice HO_7.out
                subst eo8
                go_wp2
                repeat (go_quiet (fail); try go_wp2)
                go_ret3
                exact ⟨_, by first | rfl | (simp [errW_none, errW_some] <;> rfl) | (simp [*, errW_none, errW_some] <;> rfl), by first | exact Kd.R_nil _ _ _ _ _ | exact Kd.N_nil _ _ _ _ _ | exact Kd.V_nil _ _ _ _ _ | exact Kd.Q_nil _ _ _ _ _ | exact Kd.S_nil _ _ _ _ _, by repeat (first | (with_reducible first | exact HB.out | apply below_alloc | apply pw_below_drewN | apply below_drew1) | exact HB.out)⟩
              · rw [if_neg c7] at H
                have c7b0 : (x8_2 == (a0.size : Int)) = false := beq_eq_false_iff_ne.mpr c7
                have c7b1 : (x8_2 != (a0.size : Int)) = true := bne_iff_ne.mpr c7
                by_cases c9 : 0 ≤ x8_2
                · rw [if_pos c9] at H
                  have c9b0 : decide (0 ≤ x8_2) = true := decide_eq_true c9
                  clear c9
                  by_cases c10 : x8_2 < (a0.size : Int)
                  · rw [if_pos c10] at H
                    have c10b0 : decide (x8_2 < (a0.size : Int)) = true := decide_eq_true c10
                    clear c10
                    have HC13 := Aside0.mk H
                    clear H
                    obtain ⟨Ao14, co14, eo14⟩ := Kd.R_slice HO_7.out
                    subst eo14
                    have p11 : 0 ≤ (x8_2 : Int) := of_decide_eq_true (by first | (with_reducible assumption) | assumption)
                    have q11 : x8_2 < (a0.size : Int) := of_decide_eq_true (by first | (with_reducible assumption) | assumption)
                    have hx11 := bt_at a0 x8_2
                    replace p11 := eq_true p11
                    replace q11 := eq_true q11
                    have p12 : 0 ≤ (x8_2 : Int) := of_decide_eq_true (by first | (with_reducible assumption) | assumption)
                    have q12 : x8_2 < (a0.size : Int) := of_decide_eq_true (by first | (with_reducible assumption) | assumption)
                    have hx12 := bt_at a0 x8_2
                    replace p12 := eq_true p12
                    replace q12 := eq_true q12
                    go_upto_region 10 with (fail)
                    repeat (go_quiet (fail); go_upto_region 10 with (fail))
                    go_cut [67] (fun v67 wc => ∃ (kq : Nat) (x67_12 : Bool), v67 = .bool x67_12 ∧ Aside0 (lexiphaneref1_Untab.j2 kq a0 a1 x7_2 x8_2 (wrap64 (Int.tdiv (wrap64 (bt a0 x8_2)) 16)) (wrap64 ((Int.tmod (wrap64 (bt a0 x8_2)) 16) + 1)) x67_12 = some (r1, r2, r3)) ∧ Aside0 (kq ≤ k2) ∧ Aside0 (Kd.R (Kd.int .i64) 3 wc w.heap.size (fun _ => True) (.slice Ao14 x7_2.length co14) x7_2) ∧ Aside0 (Below w.heap.size w wc))
                    case first =>
                      have H := HC13.out
                      clear HC13
                      by_cases c15 : (wrap64 ((x7_2.length : Int) + (wrap64 ((Int.tmod (wrap64 (bt a0 x8_2)) 16) + 1)))) > a1
                      · rw [if_pos c15] at H
                        have c15b0 : decide (a1 < (wrap64 ((x7_2.length : Int) + (wrap64 ((Int.tmod (wrap64 (bt a0 x8_2)) 16) + 1))))) = true := decide_eq_true c15
                        clear c15
                        (first | rw [c15b0] | (simp only [i64_w, i32_w]; rw [c15b0]) | skip)
                        have H' := Aside0.mk H
                        clear H
                        go_wp2
                        repeat (go_quiet (fail); try go_wp2)
                        go_meet
                        case rel => exact ⟨_, (true), (by first | rfl | (simp; done) | (simp [*]; done)), H', ⟨by have := HJ2.out; have := HK2.out; first | omega | exact Nat.le_refl _⟩, ⟨by (with_reducible repeat (first | apply Kd.R_alloc | apply Kd.R_drewN | apply Kd.R_drew)); exact HO_7.out⟩, ⟨by repeat (first | (with_reducible first | exact HB.out | apply below_alloc | apply pw_below_drewN | apply below_drew1) | exact HB.out)⟩⟩
                      · rw [if_neg c15] at H
                        have c15b0 : decide (a1 < (wrap64 ((x7_2.length : Int) + (wrap64 ((Int.tmod (wrap64 (bt a0 x8_2)) 16) + 1))))) = false := decide_eq_false c15
                        clear c15
                        (first | rw [c15b0] | (simp only [i64_w, i32_w]; rw [c15b0]) | skip)
                        by_cases c16 : x8_2 > 0
                        · rw [if_pos c16] at H
                          have c16b0 : decide (0 < x8_2) = true := decide_eq_true c16
                          clear c16
                          obtain ⟨ji17, hji17⟩ : ∃ j_ : Int, (wrap64 (x8_2 - 1)) = j_ := ⟨_, rfl⟩
                          replace H : (if 0 ≤ (ji17) then (if (ji17) < (a0.size : Int) then (if (wrap64 (Int.tdiv (wrap64 (bt a0 (ji17))) 16)) = (wrap64 (Int.tdiv (wrap64 (bt a0 x8_2)) 16)) then (lexiphaneref1_Untab.j2 k2 a0 a1 x7_2 x8_2 (wrap64 (Int.tdiv (wrap64 (bt a0 x8_2)) 16)) (wrap64 ((Int.tmod (wrap64 (bt a0 x8_2)) 16) + 1)) (decide ((Int.tmod (wrap64 (bt a0 (ji17))) 16) < 15))) else (lexiphaneref1_Untab.j2 k2 a0 a1 x7_2 x8_2 (wrap64 (Int.tdiv (wrap64 (bt a0 x8_2)) 16)) (wrap64 ((Int.tmod (wrap64 (bt a0 x8_2)) 16) + 1)) false)) else (none)) else (none)) = some (r1, r2, r3) := by first | (rw [hji17] at H; exact H) | (simp only [hji17] at H ⊢; exact H)
                          have hji17w : (IntKind.i64.wrap (x8_2 - 1)) = ji17 := (i64_w _).trans hji17
                          by_cases c18 : 0 ≤ (ji17)
                          · rw [if_pos c18] at H
                            have c18b0 : decide (0 ≤ (ji17)) = true := decide_eq_true c18
                            clear c18
                            by_cases c19 : (ji17) < (a0.size : Int)
                            · rw [if_pos c19] at H
                              have c19b0 : decide ((ji17) < (a0.size : Int)) = true := decide_eq_true c19
                              clear c19
                              by_cases c21 : (wrap64 (Int.tdiv (wrap64 (bt a0 (ji17))) 16)) = (wrap64 (Int.tdiv (wrap64 (bt a0 x8_2)) 16))
                              · rw [if_pos c21] at H
                                have c21b0 : ((wrap64 (Int.tdiv (wrap64 (bt a0 (ji17))) 16)) == (wrap64 (Int.tdiv (wrap64 (bt a0 x8_2)) 16))) = true := beq_iff_eq.mpr c21
                                have c21b1 : ((wrap64 (Int.tdiv (wrap64 (bt a0 (ji17))) 16)) != (wrap64 (Int.tdiv (wrap64 (bt a0 x8_2)) 16))) = false := bne_eq_false_iff_eq.mpr c21
                                clear c21
                                have H' := Aside0.mk H
                                clear H
                                have p20 : 0 ≤ ((ji17) : Int) := of_decide_eq_true (by first | (with_reducible assumption) | assumption)
                                have q20 : (ji17) < (a0.size : Int) := of_decide_eq_true (by first | (with_reducible assumption) | assumption)
                                have hx20 := bt_at a0 (ji17)
                                replace p20 := eq_true p20
                                replace q20 := eq_true q20
                                have p22 : 0 ≤ ((ji17) : Int) := of_decide_eq_true (by first | (with_reducible assumption) | assumption)
                                have q22 : (ji17) < (a0.size : Int) := of_decide_eq_true (by first | (with_reducible assumption) | assumption)
                                have hx22 := bt_at a0 (ji17)
                                replace p22 := eq_true p22
                                replace q22 := eq_true q22
                                go_wp2
                                repeat (go_quiet (fail); try go_wp2)
                                go_meet
                                case rel => exact ⟨_, (decide ((Int.tmod (wrap64 (bt a0 (ji17))) 16) < 15)), (by first | rfl | (simp; done) | (simp only [← hji17] <;> (first | rfl | simp)) | (simp [*]; done)), H', ⟨by have := HJ2.out; have := HK2.out; first | omega | exact Nat.le_refl _⟩, ⟨by (with_reducible repeat (first | apply Kd.R_alloc | apply Kd.R_drewN | apply Kd.R_drew)); exact HO_7.out⟩, ⟨by repeat (first | (with_reducible first | exact HB.out | apply below_alloc | apply pw_below_drewN | apply below_drew1) | exact HB.out)⟩⟩
                              · rw [if_neg c21] at H
                                have c21b0 : ((wrap64 (Int.tdiv (wrap64 (bt a0 (ji17))) 16)) == (wrap64 (Int.tdiv (wrap64 (bt a0 x8_2)) 16))) = false := beq_eq_false_iff_ne.mpr c21
                                have c21b1 : ((wrap64 (Int.tdiv (wrap64 (bt a0 (ji17))) 16)) != (wrap64 (Int.tdiv (wrap64 (bt a0 x8_2)) 16))) = true := bne_iff_ne.mpr c21
                                have H' := Aside0.mk H
                                clear H
                                have p20 : 0 ≤ ((ji17) : Int) := of_decide_eq_true (by first | (with_reducible assumption) | assumption)
                                have q20 : (ji17) < (a0.size : Int) := of_decide_eq_true (by first | (with_reducible assumption) | assumption)
                                have hx20 := bt_at a0 (ji17)
                                replace p20 := eq_true p20
                                replace q20 := eq_true q20
                                go_wp2
                                repeat (go_quiet (fail); try go_wp2)
                                go_meet
                                case rel => exact ⟨_, (false), (by first | rfl | (simp; done) | (simp [*]; done)), H', ⟨by have := HJ2.out; have := HK2.out; first | omega | exact Nat.le_refl _⟩, ⟨by (with_reducible repeat (first | apply Kd.R_alloc | apply Kd.R_drewN | apply Kd.R_drew)); exact HO_7.out⟩, ⟨by repeat (first | (with_reducible first | exact HB.out | apply below_alloc | apply pw_below_drewN | apply below_drew1) | exact HB.out)⟩⟩
                            · rw [if_neg c19] at H
                              exact absurd H (by simp)
                          · rw [if_neg c18] at H
                            exact absurd H (by simp)
                        · rw [if_neg c16] at H
                          have c16b0 : decide (0 < x8_2) = false := decide_eq_false c16
                          clear c16
                          have H' := Aside0.mk H
                          clear H
                          go_wp2
                          repeat (go_quiet (fail); try go_wp2)
                          go_meet
                          case rel => exact ⟨_, (false), (by first | rfl | (simp; done) | (simp [*]; done)), H', ⟨by have := HJ2.out; have := HK2.out; first | omega | exact Nat.le_refl _⟩, ⟨by (with_reducible repeat (first | apply Kd.R_alloc | apply Kd.R_drewN | apply Kd.R_drew)); exact HO_7.out⟩, ⟨by repeat (first | (with_reducible first | exact HB.out | apply below_alloc | apply pw_below_drewN | apply below_drew1) | exact HB.out)⟩⟩
                    case rest =>
                      clear HC13
                      try clear c1
                      try clear p1
                      try clear q1
                      try clear hx1
                      try clear c2
                      try clear p2
                      try clear q2
                      try clear hx2
                      try clear c4
                      try clear c4b0
                      try clear c5
                      try clear c6
                      try clear c6b0
                      try clear p6
                      try clear c7
                      try clear c7b0
                      try clear c7b1
                      try clear c9
                      try clear c9b0
                      try clear c10
                      try clear c10b0
                      try clear p11
                      try clear q11
                      try clear hx11
                      try clear p12
                      try clear q12
                      try clear hx12
                      try clear c15
                      try clear c15b0
                      try clear c16
                      try clear c16b0
                      try clear c18
                      try clear c18b0
                      try clear c19
                      try clear c19b0
                      try clear p20
                      try clear q20
                      try clear hx20
                      try clear c21
                      try clear c21b0
                      try clear c21b1
                      try clear p22
                      try clear q22
                      try clear hx22
                      try clear p11
                      try clear p12
                      try clear p2
                      try clear p20
                      try clear p22
                      try clear q11
                      try clear q12
                      try clear q20
                      try clear q22
                      obtain ⟨kq, x67_12, rfl, HA, HJ12, HO_7, HB⟩ := hcut
                      cases kq with
                      | zero => exact absurd HA.out (by simp [lexiphaneref1_Untab.j2])
                      | succ kj12 =>
                        have H := HA.out
                        clear HA
                        simp only [lexiphaneref1_Untab.j2] at H
                        by_cases c23 : x67_12 = true
                        · subst c23
                          have H1 : (some (([] : List Int), 0, 3)) = some (r1, r2, r3) := by rw [if_pos rfl] at H; exact H
                          clear H
                          have H := H1
                          clear H1
                          simp only [Option.some.injEq, Prod.mk.injEq] at H
                          obtain ⟨rfl, rfl, rfl⟩ := H
                          go_wp2
                          repeat (go_quiet (fail); try go_wp2)
                          go_ret3
                          exact ⟨_, by first | rfl | (simp [errW_none, errW_some] <;> rfl) | (simp [*, errW_none, errW_some] <;> rfl), by first | exact Kd.R_nil _ _ _ _ _ | exact Kd.N_nil _ _ _ _ _ | exact Kd.V_nil _ _ _ _ _ | exact Kd.Q_nil _ _ _ _ _ | exact Kd.S_nil _ _ _ _ _, by repeat (first | (with_reducible first | exact HB.out | apply below_alloc | apply pw_below_drewN | apply below_drew1) | exact HB.out)⟩
                        · replace c23 := Bool.eq_false_iff.mpr c23
                          subst c23
                          have H1 : (lexiphaneref1_Untab.l1 kj12 a0 a1 x7_2 x8_2 (wrap64 (Int.tdiv (wrap64 (bt a0 x8_2)) 16)) (wrap64 ((Int.tmod (wrap64 (bt a0 x8_2)) 16) + 1)) 0) = some (r1, r2, r3) := by rw [if_neg (show ¬ (false = true) by decide)] at H; exact H
                          clear H
                          have H := H1
                          clear H1
                          have H' := Aside0.mk H
                          clear H
                          go_wp2
                          repeat (go_quiet (fail); try go_wp2)
                          go_loopg [7, 11] kj12 (fun kq v7 v11 w' => ∃ (x7_4 : List Int) (x11_4 : Int), v11 = .int .i64 x11_4 ∧ Aside0 (lexiphaneref1_Untab.l1 kq a0 a1 x7_4 x8_2 (wrap64 (Int.tdiv (wrap64 (bt a0 x8_2)) 16)) (wrap64 ((Int.tmod (wrap64 (bt a0 x8_2)) 16) + 1)) x11_4 = some (r1, r2, r3)) ∧ Aside0 (kq ≤ kj12) ∧ Aside0 (Kd.R (Kd.int .i64) 3 w' w.heap.size (fun _ => True) v7 x7_4) ∧ Aside0 (Below w.heap.size w w'))
                          case atStart => exact ⟨(x7_2), (0), (by first | rfl | (simp; done) | (simp [*]; done)), H', ⟨Nat.le_refl _⟩, ⟨by (with_reducible repeat (first | apply Kd.R_alloc | apply Kd.R_drewN | apply Kd.R_drew)); exact HO_7.out⟩, ⟨by repeat (first | (with_reducible first | exact HB.out | apply below_alloc | apply pw_below_drewN | apply below_drew1) | exact HB.out)⟩⟩
                          case round =>
                            clear H'
                            try clear c1
                            try clear p1
                            try clear q1
                            try clear hx1
                            try clear c2
                            try clear p2
                            try clear q2
                            try clear hx2
                            try clear c4
                            try clear c4b0
                            try clear c5
                            try clear c6
                            try clear c6b0
                            try clear p6
                            try clear c7
                            try clear c7b0
                            try clear c7b1
                            try clear c9
                            try clear c9b0
                            try clear c10
                            try clear c10b0
                            try clear p11
                            try clear q11
                            try clear hx11
                            try clear p12
                            try clear q12
                            try clear hx12
                            try clear c15
                            try clear c15b0
                            try clear c16
                            try clear c16b0
                            try clear c18
                            try clear c18b0
                            try clear c19
                            try clear c19b0
                            try clear p20
                            try clear q20
                            try clear hx20
                            try clear c21
                            try clear c21b0
                            try clear c21b1
                            try clear p22
                            try clear q22
                            try clear hx22
                            try clear c23
                            try clear p1
                            try clear p11
                            try clear p12
                            try clear p2
                            try clear p20
                            try clear p22
                            try clear p6
                            try clear q1
                            try clear q11
                            try clear q12
                            try clear q2
                            try clear q20
                            try clear q22
                            obtain ⟨x7_4, x11_4, rfl, HA, HK4, HO_7, HB⟩ := hrel
                            cases gk with
                            | zero => exact absurd HA.out (by simp [lexiphaneref1_Untab.l1])
                            | succ k4 =>
                              have H := HA.out
                              clear HA
                              simp only [lexiphaneref1_Untab.l1] at H
                              by_cases c24 : x11_4 < (wrap64 ((Int.tmod (wrap64 (bt a0 x8_2)) 16) + 1))
                              · rw [if_pos c24] at H
                                have c24b0 : decide (x11_4 < (wrap64 ((Int.tmod (wrap64 (bt a0 x8_2)) 16) + 1))) = true := decide_eq_true c24
                                clear c24
                                by_cases c25 : x7_4.length < 17592186044416
                                · rw [if_pos c25] at H
                                  have LMc25 := Aside0.mk c25
                                  clear c25
                                  obtain ⟨y267, hy267⟩ : ∃ y_ : List Int, y_ = (x7_4 ++ [(wrap64 (Int.tdiv (wrap64 (bt a0 x8_2)) 16))]) := ⟨_, rfl⟩
                                  replace H : (lexiphaneref1_Untab.l1 k4 a0 a1 y267 x8_2 (wrap64 (Int.tdiv (wrap64 (bt a0 x8_2)) 16)) (wrap64 ((Int.tmod (wrap64 (bt a0 x8_2)) 16) + 1)) (wrap64 (x11_4 + 1))) = some (r1, r2, r3) := by first | (rw [hy267]; with_reducible exact H) | (have H2_ := (Option.bind_some _ _).symm.trans H; rw [hy267]; with_reducible exact H2_) | (have H2_ := (Option.bind_some _ _).symm.trans H; with_reducible exact H2_) | with_reducible exact H | (rw [hy267]; exact H) | exact H
                                  have Ny267 := Aside0.mk hy267
                                  clear hy267
                                  have H' := Aside0.mk H
                                  clear H
                                  go_wp2_with (first | ((with_reducible refine gate_builtin (b := .append) (xs := #[.tmp 73, .tmp 75]) rfl ?_); at_builtin; refine Kd.R_append (Kd.int .i64) (w0 := w) w.heap.size rfl (.tmp 73) (.tmp 75) 67 3 (.int .i64 0) 8 rfl Tryz.underlying67 info3 rfl (by decide) (by omega) u7 x7_4 (wrap64 (Int.tdiv (wrap64 (bt a0 x8_2)) 16)) [.int .i64 (wrap64 (Int.tdiv (wrap64 (bt a0 x8_2)) 16))] (fun _ => True) (fun _ => False) rfl rfl ?aP (fun _ hk => hk.elim) ?aF ?aO ?aB ?aS ?aL ?_; (case aP => exact rfl); (case aB => exact (by repeat (first | (with_reducible first | exact HB.out | apply below_alloc | apply pw_below_drewN | apply below_drew1) | exact HB.out))); (case aF => exact (fun _ _ => trivial)); (case aO => exact (by (with_reducible repeat (first | apply Kd.R_alloc | apply Kd.R_drewN | apply Kd.R_drew)); exact HO_7.out)); (case aS => exact (below_size (by repeat (first | (with_reducible first | exact HB.out | apply below_alloc | apply pw_below_drewN | apply below_drew1) | exact HB.out)))); (case aL => have := LMc25.out; omega); intro v268 w26 ho hb hg hat; rw [← Ny267.out] at ho; have n0_ := Aside0.mk (hb); have n1_ := Aside0.mk (ho); clear HB; clear HO_7; have HB := n0_; have HO269 := n1_; clear n0_ n1_; clear ho hb hg hat))
                                  repeat (go_quiet (first | ((with_reducible refine gate_builtin (b := .append) (xs := #[.tmp 73, .tmp 75]) rfl ?_); at_builtin; refine Kd.R_append (Kd.int .i64) (w0 := w) w.heap.size rfl (.tmp 73) (.tmp 75) 67 3 (.int .i64 0) 8 rfl Tryz.underlying67 info3 rfl (by decide) (by omega) u7 x7_4 (wrap64 (Int.tdiv (wrap64 (bt a0 x8_2)) 16)) [.int .i64 (wrap64 (Int.tdiv (wrap64 (bt a0 x8_2)) 16))] (fun _ => True) (fun _ => False) rfl rfl ?aP (fun _ hk => hk.elim) ?aF ?aO ?aB ?aS ?aL ?_; (case aP => exact rfl); (case aB => exact (by repeat (first | (with_reducible first | exact HB.out | apply below_alloc | apply pw_below_drewN | apply below_drew1) | exact HB.out))); (case aF => exact (fun _ _ => trivial)); (case aO => exact (by (with_reducible repeat (first | apply Kd.R_alloc | apply Kd.R_drewN | apply Kd.R_drew)); exact HO_7.out)); (case aS => exact (below_size (by repeat (first | (with_reducible first | exact HB.out | apply below_alloc | apply pw_below_drewN | apply below_drew1) | exact HB.out)))); (case aL => have := LMc25.out; omega); intro v268 w26 ho hb hg hat; rw [← Ny267.out] at ho; have n0_ := Aside0.mk (hb); have n1_ := Aside0.mk (ho); clear HB; clear HO_7; have HB := n0_; have HO269 := n1_; clear n0_ n1_; clear ho hb hg hat)); try go_wp2_with (first | ((with_reducible refine gate_builtin (b := .append) (xs := #[.tmp 73, .tmp 75]) rfl ?_); at_builtin; refine Kd.R_append (Kd.int .i64) (w0 := w) w.heap.size rfl (.tmp 73) (.tmp 75) 67 3 (.int .i64 0) 8 rfl Tryz.underlying67 info3 rfl (by decide) (by omega) u7 x7_4 (wrap64 (Int.tdiv (wrap64 (bt a0 x8_2)) 16)) [.int .i64 (wrap64 (Int.tdiv (wrap64 (bt a0 x8_2)) 16))] (fun _ => True) (fun _ => False) rfl rfl ?aP (fun _ hk => hk.elim) ?aF ?aO ?aB ?aS ?aL ?_; (case aP => exact rfl); (case aB => exact (by repeat (first | (with_reducible first | exact HB.out | apply below_alloc | apply pw_below_drewN | apply below_drew1) | exact HB.out))); (case aF => exact (fun _ _ => trivial)); (case aO => exact (by (with_reducible repeat (first | apply Kd.R_alloc | apply Kd.R_drewN | apply Kd.R_drew)); exact HO_7.out)); (case aS => exact (below_size (by repeat (first | (with_reducible first | exact HB.out | apply below_alloc | apply pw_below_drewN | apply below_drew1) | exact HB.out)))); (case aL => have := LMc25.out; omega); intro v268 w26 ho hb hg hat; rw [← Ny267.out] at ho; have n0_ := Aside0.mk (hb); have n1_ := Aside0.mk (ho); clear HB; clear HO_7; have HB := n0_; have HO269 := n1_; clear n0_ n1_; clear ho hb hg hat)))
                                  go_roundg k4
                                  case measure => have := HJ2.out; have := HK2.out; have := HJ12.out; have := HK4.out; omega
                                  case rel => exact ⟨(y267), (wrap64 (x11_4 + 1)), (by first | rfl | (simp; done) | (simp [*]; done)), H', ⟨by have := HJ2.out; have := HK2.out; have := HJ12.out; have := HK4.out; omega⟩, ⟨by (with_reducible repeat (first | apply Kd.R_alloc | apply Kd.R_drewN | apply Kd.R_drew)); exact HO269.out⟩, ⟨by repeat (first | (with_reducible first | exact HB.out | apply below_alloc | apply pw_below_drewN | apply below_drew1) | exact HB.out)⟩⟩
                                · rw [if_neg c25] at H
                                  exact absurd H (by simp)
                              · rw [if_neg c24] at H
                                have c24b0 : decide (x11_4 < (wrap64 ((Int.tmod (wrap64 (bt a0 x8_2)) 16) + 1))) = false := decide_eq_false c24
                                clear c24
                                have H' := Aside0.mk H
                                clear H
                                go_wp2
                                repeat (go_quiet (fail); try go_wp2)
                                go_roundg k4
                                case measure => have := HJ2.out; have := HK2.out; have := HJ12.out; have := HK4.out; omega
                                case rel => exact ⟨(x7_4), (wrap64 (x8_2 + 1)), (by first | rfl | (simp; done) | (simp [*]; done)), H', ⟨by have := HJ2.out; have := HK2.out; have := HJ12.out; have := HK4.out; omega⟩, ⟨by (with_reducible repeat (first | apply Kd.R_alloc | apply Kd.R_drewN | apply Kd.R_drew)); exact HO_7.out⟩, ⟨by repeat (first | (with_reducible first | exact HB.out | apply below_alloc | apply pw_below_drewN | apply below_drew1) | exact HB.out)⟩⟩
                  · rw [if_neg c10] at H
                    exact absurd H (by simp)
                · rw [if_neg c9] at H
                  exact absurd H (by simp)
            · rw [if_neg c6] at H
              have c6b0 : decide ((x7_2.length : Int) < a1) = false := decide_eq_false c6
              clear c6
              simp only [Option.some.injEq, Prod.mk.injEq] at H
              obtain ⟨rfl, rfl, rfl⟩ := H
              obtain ⟨Ao27, co27, eo27⟩ := Kd.R_slice HO_7.out
              subst eo27
              go_wp2
              repeat (go_quiet (fail); try go_wp2)
              go_ret3
              exact ⟨_, by first | rfl | (simp [errW_none, errW_some] <;> rfl) | (simp [*, errW_none, errW_some] <;> rfl), by (with_reducible repeat (first | apply Kd.R_alloc | apply Kd.R_drewN | apply Kd.R_drew)); exact HO_7.out, by repeat (first | (with_reducible first | exact HB.out | apply below_alloc | apply pw_below_drewN | apply below_drew1) | exact HB.out)⟩
def lexiphaneref1_Kraft.l0 : Nat → List Int → Int → Int → Option (Int)
  | 0, _, _, _ => none
  | k + 1, x0, x3, x4 => if x4 < (x0.length : Int) then (if 0 ≤ x4 then (if (rd x0 x4) ≥ 1 then (if (rd x0 x4) ≤ 15 then (if 0 ≤ (IntKind.u64.wrap (wrap64 (15 - (rd x0 x4)))) then (lexiphaneref1_Kraft.l0 k x0 (wrap64 (x3 + (shl .i64 1 (IntKind.u64.wrap (wrap64 (15 - (rd x0 x4))))))) (wrap64 (x4 + 1))) else (none)) else (lexiphaneref1_Kraft.l0 k x0 x3 (wrap64 (x4 + 1)))) else (lexiphaneref1_Kraft.l0 k x0 x3 (wrap64 (x4 + 1)))) else (none)) else (some x3)
def lexiphaneref1_Kraft.f (k : Nat) (l0 : List Int) : Option (Int) := lexiphaneref1_Kraft.l0 k l0 0 0
theorem lexiphaneref1_Kraft.mono_l : ∀ k, (∀ y0 y1 y2, LeO (lexiphaneref1_Kraft.l0 k y0 y1 y2) (lexiphaneref1_Kraft.l0 (k + 1) y0 y1 y2))
  | 0 => fun _ _ _ r h => by simp [lexiphaneref1_Kraft.l0] at h
  | k + 1 => by
    have ih0 := lexiphaneref1_Kraft.mono_l k
    · intro y0 y1 y2
      unfold lexiphaneref1_Kraft.l0
      repeat' first
      | (with_reducible exact ih0 _ _ _)
      | (with_reducible exact LeO.refl _)
      | (with_reducible exact LeO.none _)
      | (with_reducible refine LeO.ite ?_ ?_)
      | (with_reducible refine LeO.bind ?_ (fun _ => ?_))
      | exact ih0 _ _ _
      | exact LeO.none _
      | refine LeO.ite ?_ ?_
      | refine LeO.bind ?_ (fun _ => ?_)
theorem lexiphaneref1_Kraft.mono : ∀ a0 k, LeO (lexiphaneref1_Kraft.f k a0) (lexiphaneref1_Kraft.f (k + 1) a0) := by
  intro a0 k
  have ih0 := lexiphaneref1_Kraft.mono_l k
  unfold lexiphaneref1_Kraft.f
  repeat' first
      | (with_reducible exact ih0 _ _ _)
      | (with_reducible exact LeO.refl _)
      | (with_reducible exact LeO.none _)
      | (with_reducible refine LeO.ite ?_ ?_)
      | (with_reducible refine LeO.bind ?_ (fun _ => ?_))
      | exact ih0 _ _ _
      | exact LeO.none _
      | refine LeO.ite ?_ ?_
      | refine LeO.bind ?_ (fun _ => ?_)
set_option maxHeartbeats 8000000 in
set_option maxRecDepth 100000 in
theorem lexiphaneref1_Kraft.calls (k : Nat) (A0 : Option Addr) (c0 : Nat) (l0 : List Int) (r : Int) (w : World) (hr0 : Kd.C (Kd.int .i64) w A0 l0.length l0) (hc0 : l0.length ≤ c0) (h : lexiphaneref1_Kraft.f k l0 = some r) :
    Calls Tryz.prog 98 #[.slice A0 l0.length c0] w fun e w' => e = .returned (.int .i64 r) ∧ Drawn0 w w' := by
  have HR0 := Aside0.mk hr0
  have HC0 := Aside0.mk hc0
  clear hr0 hc0
  have H : (lexiphaneref1_Kraft.l0 k l0 0 0) = some r := h
  clear h
  have H' := Aside0.mk H
  clear H
  go_enter Tryz.func98, Tryz.ntmps98
  go_wp2
  go_loopg [3, 4] k (fun kq v3 v4 w' => ∃ (x3_1 : Int) (x4_1 : Int), v3 = .int .i64 x3_1 ∧ v4 = .int .i64 x4_1 ∧ Aside0 (lexiphaneref1_Kraft.l0 kq l0 x3_1 x4_1 = some r) ∧ Aside0 (kq ≤ k) ∧ Drawn0 w w')
  case atStart => exact ⟨(0), (0), (by first | rfl | (simp; done) | (simp [*]; done)), (by first | rfl | (simp; done) | (simp [*]; done)), H', ⟨Nat.le_refl _⟩, by repeat (first | exact Drawn0.refl _ | apply Drawn0.step)⟩
  case round =>
    clear H'
    obtain ⟨x3_1, x4_1, rfl, rfl, HA, HK1, ⟨m1, rfl⟩⟩ := hrel
    cases gk with
    | zero => exact absurd HA.out (by simp [lexiphaneref1_Kraft.l0])
    | succ k1 =>
      have H := HA.out
      clear HA
      simp only [lexiphaneref1_Kraft.l0] at H
      by_cases c2 : x4_1 < (l0.length : Int)
      · rw [if_pos c2] at H
        have c2b0 : decide (x4_1 < (l0.length : Int)) = true := decide_eq_true c2
        clear c2
        by_cases c3 : 0 ≤ x4_1
        · rw [if_pos c3] at H
          have c3b0 : decide (0 ≤ x4_1) = true := decide_eq_true c3
          clear c3
          by_cases c4 : (rd l0 x4_1) ≥ 1
          · rw [if_pos c4] at H
            have c4b0 : decide (1 ≤ (rd l0 x4_1)) = true := decide_eq_true c4
            clear c4
            by_cases c5 : (rd l0 x4_1) ≤ 15
            · rw [if_pos c5] at H
              have c5b0 : decide ((rd l0 x4_1) ≤ 15) = true := decide_eq_true c5
              clear c5
              obtain ⟨ji6, hji6⟩ : ∃ j_ : Int, (IntKind.u64.wrap (wrap64 (15 - (rd l0 x4_1)))) = j_ := ⟨_, rfl⟩
              replace H : (if 0 ≤ (ji6) then (lexiphaneref1_Kraft.l0 k1 l0 (wrap64 (x3_1 + (shl .i64 1 (ji6)))) (wrap64 (x4_1 + 1))) else (none)) = some r := by first | (rw [hji6] at H; exact H) | (simp only [hji6] at H ⊢; exact H)
              by_cases c7 : 0 ≤ (ji6)
              · rw [if_pos c7] at H
                have c7b0 := eq_true c7
                have c7b1 : decide (0 ≤ (ji6)) = true := decide_eq_true c7
                clear c7
                obtain ⟨ji8, hji8⟩ : ∃ j_ : Int, (shl .i64 1 (ji6)) = j_ := ⟨_, rfl⟩
                replace H : (lexiphaneref1_Kraft.l0 k1 l0 (wrap64 (x3_1 + (ji8))) (wrap64 (x4_1 + 1))) = some r := by first | (rw [hji8] at H; exact H) | (simp only [hji8] at H ⊢; exact H)
                have hji8_ : (IntKind.i64.wrap (1 * 2 ^ min (ji6).toNat 64)) = ji8 := hji8
                have hji8z : (ji6) ≤ 64 → (IntKind.i64.wrap (1 * 2 ^ (ji6).toNat)) = ji8 := shl_small hji8
                have hji8u : (IntKind.i64.wrap (2 ^ min (ji6).toNat 64)) = ji8 := by have h_ := hji8_; rw [Int.one_mul] at h_; exact h_
                have hji8v : (ji6) ≤ 64 → (IntKind.i64.wrap (2 ^ (ji6).toNat)) = ji8 := fun hle_ => by have h_ := hji8z hle_; rw [Int.one_mul] at h_; exact h_
                have hji8y : (wrap64 (1 * 2 ^ min (ji6).toNat 64)) = ji8 := (i64_w _).symm.trans hji8_
                have hji8x : (ji6) ≤ 64 → (wrap64 (1 * 2 ^ (ji6).toNat)) = ji8 := fun h_ => (i64_w _).symm.trans (hji8z h_)
                have H' := Aside0.mk H
                clear H
                have p270 : 0 ≤ (x4_1 : Int) := of_decide_eq_true (by first | (with_reducible assumption) | assumption)
                have q270 : x4_1 < (l0.length : Int) := of_decide_eq_true (by first | (with_reducible assumption) | assumption)
                obtain ⟨ad270, e270, hx270_0⟩ := Kd.at_int HR0.out x4_1 p270 q270
                cases e270
                replace p270 := eq_true p270
                replace q270 := eq_true q270
                have p271 : 0 ≤ (x4_1 : Int) := of_decide_eq_true (by first | (with_reducible assumption) | assumption)
                have q271 : x4_1 < (l0.length : Int) := of_decide_eq_true (by first | (with_reducible assumption) | assumption)
                obtain ⟨ad271, e271, hx271_0⟩ := Kd.at_int HR0.out x4_1 p271 q271
                obtain rfl : ad270 = ad271 := (by injection e271)
                replace p271 := eq_true p271
                replace q271 := eq_true q271
                have p272 : 0 ≤ (x4_1 : Int) := of_decide_eq_true (by first | (with_reducible assumption) | assumption)
                have q272 : x4_1 < (l0.length : Int) := of_decide_eq_true (by first | (with_reducible assumption) | assumption)
                obtain ⟨ad272, e272, hx272_0⟩ := Kd.at_int HR0.out x4_1 p272 q272
                obtain rfl : ad270 = ad272 := (by injection e272)
                replace p272 := eq_true p272
                replace q272 := eq_true q272
                go_wp2
                go_roundg k1
                case measure => have := HK1.out; omega
                case rel => exact ⟨(wrap64 (x3_1 + (ji8))), (wrap64 (x4_1 + 1)), (by first | rfl | (simp; done) | (simp only [← hji8] <;> (first | rfl | simp)) | (simp [*]; done)), (by first | rfl | (simp; done) | (simp [*]; done)), H', ⟨by have := HK1.out; omega⟩, by repeat (first | exact Drawn0.refl _ | apply Drawn0.step)⟩
              · rw [if_neg c7] at H
                exact absurd H (by simp)
            · rw [if_neg c5] at H
              have c5b0 : decide ((rd l0 x4_1) ≤ 15) = false := decide_eq_false c5
              clear c5
              have H' := Aside0.mk H
              clear H
              have p270 : 0 ≤ (x4_1 : Int) := of_decide_eq_true (by first | (with_reducible assumption) | assumption)
              have q270 : x4_1 < (l0.length : Int) := of_decide_eq_true (by first | (with_reducible assumption) | assumption)
              obtain ⟨ad270, e270, hx270_0⟩ := Kd.at_int HR0.out x4_1 p270 q270
              cases e270
              replace p270 := eq_true p270
              replace q270 := eq_true q270
              have p271 : 0 ≤ (x4_1 : Int) := of_decide_eq_true (by first | (with_reducible assumption) | assumption)
              have q271 : x4_1 < (l0.length : Int) := of_decide_eq_true (by first | (with_reducible assumption) | assumption)
              obtain ⟨ad271, e271, hx271_0⟩ := Kd.at_int HR0.out x4_1 p271 q271
              obtain rfl : ad270 = ad271 := (by injection e271)
              replace p271 := eq_true p271
              replace q271 := eq_true q271
              go_wp2
              go_roundg k1
              case measure => have := HK1.out; omega
              case rel => exact ⟨(x3_1), (wrap64 (x4_1 + 1)), (by first | rfl | (simp; done) | (simp [*]; done)), (by first | rfl | (simp; done) | (simp [*]; done)), H', ⟨by have := HK1.out; omega⟩, by repeat (first | exact Drawn0.refl _ | apply Drawn0.step)⟩
          · rw [if_neg c4] at H
            have c4b0 : decide (1 ≤ (rd l0 x4_1)) = false := decide_eq_false c4
            clear c4
            have H' := Aside0.mk H
            clear H
            have p270 : 0 ≤ (x4_1 : Int) := of_decide_eq_true (by first | (with_reducible assumption) | assumption)
            have q270 : x4_1 < (l0.length : Int) := of_decide_eq_true (by first | (with_reducible assumption) | assumption)
            obtain ⟨ad270, e270, hx270_0⟩ := Kd.at_int HR0.out x4_1 p270 q270
            cases e270
            replace p270 := eq_true p270
            replace q270 := eq_true q270
            go_wp2
            go_roundg k1
            case measure => have := HK1.out; omega
            case rel => exact ⟨(x3_1), (wrap64 (x4_1 + 1)), (by first | rfl | (simp; done) | (simp [*]; done)), (by first | rfl | (simp; done) | (simp [*]; done)), H', ⟨by have := HK1.out; omega⟩, by repeat (first | exact Drawn0.refl _ | apply Drawn0.step)⟩
        · rw [if_neg c3] at H
          exact absurd H (by simp)
      · rw [if_neg c2] at H
        have c2b0 : decide (x4_1 < (l0.length : Int)) = false := decide_eq_false c2
        clear c2
        obtain rfl := Option.some.inj H
        go_wp2
        go_ret
        exact ⟨by first | rfl | (simp; done) | (simp [*]; done), by repeat (first | exact Drawn0.refl _ | apply Drawn0.step)⟩
mutual
def lexiphaneref1_Right.l0 : Nat → List Int → Int → Int → Int → Option (Int)
  | 0, _, _, _, _ => none
  | k + 1, x0, x3, x4, x5 => if x5 < (x0.length : Int) then (if 0 ≤ x5 then (if (rd x0 x5) < 0 then (lexiphaneref1_Right.j1 k x0 x3 x4 x5 true) else (lexiphaneref1_Right.j1 k x0 x3 x4 x5 (decide ((rd x0 x5) > 15)))) else (none)) else ((lexiphaneref1_Kraft.f k x0).bind fun t273 => (if t273 = 32768 then (some 0) else (if x3 = 1 then (if x4 = 1 then (some 0) else (some 8)) else (some 8))))
def lexiphaneref1_Right.j1 : Nat → List Int → Int → Int → Int → Bool → Option (Int)
  | 0, _, _, _, _, _ => none
  | k + 1, x0, x3, x4, x5, x23 => if x23 = true then (some 1) else (if 0 ≤ x5 then (if x5 < (x0.length : Int) then (if (rd x0 x5) > 0 then (lexiphaneref1_Right.l0 k x0 (wrap64 (x3 + 1)) (rd x0 x5) (wrap64 (x5 + 1))) else (lexiphaneref1_Right.l0 k x0 x3 x4 (wrap64 (x5 + 1)))) else (none)) else (none))
end
def lexiphaneref1_Right.f (k : Nat) (l0 : List Int) : Option (Int) := lexiphaneref1_Right.l0 k l0 0 0 0
theorem lexiphaneref1_Right.mono_l : ∀ k, (∀ y0 y1 y2 y3, LeO (lexiphaneref1_Right.l0 k y0 y1 y2 y3) (lexiphaneref1_Right.l0 (k + 1) y0 y1 y2 y3)) ∧ (∀ y0 y1 y2 y3 y4, LeO (lexiphaneref1_Right.j1 k y0 y1 y2 y3 y4) (lexiphaneref1_Right.j1 (k + 1) y0 y1 y2 y3 y4))
  | 0 => ⟨fun _ _ _ _ r h => by simp [lexiphaneref1_Right.l0] at h, fun _ _ _ _ _ r h => by simp [lexiphaneref1_Right.j1] at h⟩
  | k + 1 => by
    obtain ⟨ih0, ih1⟩ := lexiphaneref1_Right.mono_l k
    refine ⟨?_, ?_⟩
    · intro y0 y1 y2 y3
      unfold lexiphaneref1_Right.l0
      repeat' first
      | (with_reducible exact ih0 _ _ _ _)
      | (with_reducible exact ih1 _ _ _ _ _)
      | (with_reducible exact lexiphaneref1_Kraft.mono _ _)
      | (with_reducible exact LeO.refl _)
      | (with_reducible exact LeO.none _)
      | (with_reducible refine LeO.ite ?_ ?_)
      | (with_reducible refine LeO.bind ?_ (fun _ => ?_))
      | exact ih0 _ _ _ _
      | exact ih1 _ _ _ _ _
      | exact lexiphaneref1_Kraft.mono _ _
      | exact LeO.none _
      | refine LeO.ite ?_ ?_
      | refine LeO.bind ?_ (fun _ => ?_)
    · intro y0 y1 y2 y3 y4
      unfold lexiphaneref1_Right.j1
      repeat' first
      | (with_reducible exact ih0 _ _ _ _)
      | (with_reducible exact ih1 _ _ _ _ _)
      | (with_reducible exact lexiphaneref1_Kraft.mono _ _)
      | (with_reducible exact LeO.refl _)
      | (with_reducible exact LeO.none _)
      | (with_reducible refine LeO.ite ?_ ?_)
      | (with_reducible refine LeO.bind ?_ (fun _ => ?_))
      | exact ih0 _ _ _ _
      | exact ih1 _ _ _ _ _
      | exact lexiphaneref1_Kraft.mono _ _
      | exact LeO.none _
      | refine LeO.ite ?_ ?_
      | refine LeO.bind ?_ (fun _ => ?_)
theorem lexiphaneref1_Right.mono : ∀ a0 k, LeO (lexiphaneref1_Right.f k a0) (lexiphaneref1_Right.f (k + 1) a0) := by
  intro a0 k
  obtain ⟨ih0, ih1⟩ := lexiphaneref1_Right.mono_l k
  unfold lexiphaneref1_Right.f
  repeat' first
      | (with_reducible exact ih0 _ _ _ _)
      | (with_reducible exact ih1 _ _ _ _ _)
      | (with_reducible exact lexiphaneref1_Kraft.mono _ _)
      | (with_reducible exact LeO.refl _)
      | (with_reducible exact LeO.none _)
      | (with_reducible refine LeO.ite ?_ ?_)
      | (with_reducible refine LeO.bind ?_ (fun _ => ?_))
      | exact ih0 _ _ _ _
      | exact ih1 _ _ _ _ _
      | exact lexiphaneref1_Kraft.mono _ _
      | exact LeO.none _
      | refine LeO.ite ?_ ?_
      | refine LeO.bind ?_ (fun _ => ?_)
set_option maxHeartbeats 8000000 in
set_option maxRecDepth 100000 in
theorem lexiphaneref1_Right.calls (k : Nat) (A0 : Option Addr) (c0 : Nat) (l0 : List Int) (r : Int) (w : World) (hr0 : Kd.C (Kd.int .i64) w A0 l0.length l0) (hc0 : l0.length ≤ c0) (h : lexiphaneref1_Right.f k l0 = some r) :
    Calls Tryz.prog 87 #[.slice A0 l0.length c0] w fun e w' => e = .returned (.int .i64 r) ∧ Drawn0 w w' := by
  have HR0 := Aside0.mk hr0
  have HC0 := Aside0.mk hc0
  clear hr0 hc0
  have H : (lexiphaneref1_Right.l0 k l0 0 0 0) = some r := h
  clear h
  have H' := Aside0.mk H
  clear H
  go_enter Tryz.func87, Tryz.ntmps87
  go_wp2
  go_loopg [3, 4, 5] k (fun kq v3 v4 v5 w' => ∃ (x3_1 : Int) (x4_1 : Int) (x5_1 : Int), v3 = .int .i64 x3_1 ∧ v4 = .int .i64 x4_1 ∧ v5 = .int .i64 x5_1 ∧ Aside0 (lexiphaneref1_Right.l0 kq l0 x3_1 x4_1 x5_1 = some r) ∧ Aside0 (kq ≤ k) ∧ Drawn0 w w')
  case atStart => exact ⟨(0), (0), (0), (by first | rfl | (simp; done) | (simp [*]; done)), (by first | rfl | (simp; done) | (simp [*]; done)), (by first | rfl | (simp; done) | (simp [*]; done)), H', ⟨Nat.le_refl _⟩, by repeat (first | exact Drawn0.refl _ | apply Drawn0.step)⟩
  case round =>
    clear H'
    obtain ⟨x3_1, x4_1, x5_1, rfl, rfl, rfl, HA, HK1, ⟨m1, rfl⟩⟩ := hrel
    cases gk with
    | zero => exact absurd HA.out (by simp [lexiphaneref1_Right.l0])
    | succ k1 =>
      have H := HA.out
      clear HA
      simp only [lexiphaneref1_Right.l0] at H
      by_cases c2 : x5_1 < (l0.length : Int)
      · rw [if_pos c2] at H
        have c2b0 : decide (x5_1 < (l0.length : Int)) = true := decide_eq_true c2
        clear c2
        have HC3 := Aside0.mk H
        clear H
        go_upto_region 5 with (fail)
        go_cut [23] (fun v23 wc => ∃ (kq : Nat) (x23_2 : Bool), v23 = .bool x23_2 ∧ Aside0 (lexiphaneref1_Right.j1 kq l0 x3_1 x4_1 x5_1 x23_2 = some r) ∧ Aside0 (kq ≤ k1) ∧ Drawn0 w wc)
        case first =>
          have H := HC3.out
          clear HC3
          by_cases c4 : 0 ≤ x5_1
          · rw [if_pos c4] at H
            have c4b0 : decide (0 ≤ x5_1) = true := decide_eq_true c4
            clear c4
            (first | rw [c4b0] | (simp only [i64_w, i32_w]; rw [c4b0]) | skip)
            by_cases c5 : (rd l0 x5_1) < 0
            · rw [if_pos c5] at H
              have c5b0 : decide ((rd l0 x5_1) < 0) = true := decide_eq_true c5
              clear c5
              have H' := Aside0.mk H
              clear H
              have p274 : 0 ≤ (x5_1 : Int) := of_decide_eq_true (by first | (with_reducible assumption) | assumption)
              have q274 : x5_1 < (l0.length : Int) := of_decide_eq_true (by first | (with_reducible assumption) | assumption)
              obtain ⟨ad274, e274, hx274_0⟩ := Kd.at_int HR0.out x5_1 p274 q274
              cases e274
              replace p274 := eq_true p274
              replace q274 := eq_true q274
              go_wp2
              go_meet
              case rel => exact ⟨_, (true), (by first | rfl | (simp; done) | (simp [*]; done)), H', ⟨by have := HK1.out; first | omega | exact Nat.le_refl _⟩, by repeat (first | exact Drawn0.refl _ | apply Drawn0.step)⟩
            · rw [if_neg c5] at H
              have c5b0 : decide ((rd l0 x5_1) < 0) = false := decide_eq_false c5
              clear c5
              have H' := Aside0.mk H
              clear H
              have p274 : 0 ≤ (x5_1 : Int) := of_decide_eq_true (by first | (with_reducible assumption) | assumption)
              have q274 : x5_1 < (l0.length : Int) := of_decide_eq_true (by first | (with_reducible assumption) | assumption)
              obtain ⟨ad274, e274, hx274_0⟩ := Kd.at_int HR0.out x5_1 p274 q274
              cases e274
              replace p274 := eq_true p274
              replace q274 := eq_true q274
              have p275 : 0 ≤ (x5_1 : Int) := of_decide_eq_true (by first | (with_reducible assumption) | assumption)
              have q275 : x5_1 < (l0.length : Int) := of_decide_eq_true (by first | (with_reducible assumption) | assumption)
              obtain ⟨ad275, e275, hx275_0⟩ := Kd.at_int HR0.out x5_1 p275 q275
              obtain rfl : ad274 = ad275 := (by injection e275)
              replace p275 := eq_true p275
              replace q275 := eq_true q275
              go_wp2
              go_meet
              case rel => exact ⟨_, (decide ((rd l0 x5_1) > 15)), (by first | rfl | (simp; done) | (simp [*]; done)), H', ⟨by have := HK1.out; first | omega | exact Nat.le_refl _⟩, by repeat (first | exact Drawn0.refl _ | apply Drawn0.step)⟩
          · rw [if_neg c4] at H
            exact absurd H (by simp)
        case rest =>
          clear HC3
          try clear c2
          try clear c2b0
          try clear p2
          try clear q2
          try clear hx2
          try clear c4
          try clear c4b0
          try clear c5
          try clear c5b0
          try clear hx274_0
          try clear hx275_0
          try clear p274
          try clear p275
          try clear q274
          try clear q275
          obtain ⟨kq, x23_2, rfl, HA, HJ2, ⟨mc2, rfl⟩⟩ := hcut
          cases kq with
          | zero => exact absurd HA.out (by simp [lexiphaneref1_Right.j1])
          | succ kj2 =>
            have H := HA.out
            clear HA
            simp only [lexiphaneref1_Right.j1] at H
            by_cases c6 : x23_2 = true
            · subst c6
              have H1 : (some 1) = some r := by rw [if_pos rfl] at H; exact H
              clear H
              have H := H1
              clear H1
              obtain rfl := Option.some.inj H
              go_wp2
              go_ret
              exact ⟨by first | rfl | (simp; done) | (simp [*]; done), by repeat (first | exact Drawn0.refl _ | apply Drawn0.step)⟩
            · replace c6 := Bool.eq_false_iff.mpr c6
              subst c6
              have H1 : (if 0 ≤ x5_1 then (if x5_1 < (l0.length : Int) then (if (rd l0 x5_1) > 0 then (lexiphaneref1_Right.l0 kj2 l0 (wrap64 (x3_1 + 1)) (rd l0 x5_1) (wrap64 (x5_1 + 1))) else (lexiphaneref1_Right.l0 kj2 l0 x3_1 x4_1 (wrap64 (x5_1 + 1)))) else (none)) else (none)) = some r := by rw [if_neg (show ¬ (false = true) by decide)] at H; exact H
              clear H
              have H := H1
              clear H1
              by_cases c7 : 0 ≤ x5_1
              · rw [if_pos c7] at H
                have c7b0 : decide (0 ≤ x5_1) = true := decide_eq_true c7
                clear c7
                by_cases c8 : x5_1 < (l0.length : Int)
                · rw [if_pos c8] at H
                  have c8b0 : decide (x5_1 < (l0.length : Int)) = true := decide_eq_true c8
                  clear c8
                  by_cases c9 : (rd l0 x5_1) > 0
                  · rw [if_pos c9] at H
                    have c9b0 : decide (0 < (rd l0 x5_1)) = true := decide_eq_true c9
                    clear c9
                    have H' := Aside0.mk H
                    clear H
                    have p276 : 0 ≤ (x5_1 : Int) := of_decide_eq_true (by first | (with_reducible assumption) | assumption)
                    have q276 : x5_1 < (l0.length : Int) := of_decide_eq_true (by first | (with_reducible assumption) | assumption)
                    obtain ⟨ad276, e276, hx276_0⟩ := Kd.at_int HR0.out x5_1 p276 q276
                    cases e276
                    replace p276 := eq_true p276
                    replace q276 := eq_true q276
                    have p277 : 0 ≤ (x5_1 : Int) := of_decide_eq_true (by first | (with_reducible assumption) | assumption)
                    have q277 : x5_1 < (l0.length : Int) := of_decide_eq_true (by first | (with_reducible assumption) | assumption)
                    obtain ⟨ad277, e277, hx277_0⟩ := Kd.at_int HR0.out x5_1 p277 q277
                    obtain rfl : ad276 = ad277 := (by injection e277)
                    replace p277 := eq_true p277
                    replace q277 := eq_true q277
                    go_wp2
                    go_roundg kj2
                    case measure => have := HK1.out; have := HJ2.out; omega
                    case rel => exact ⟨(wrap64 (x3_1 + 1)), (rd l0 x5_1), (wrap64 (x5_1 + 1)), (by first | rfl | (simp; done) | (simp [*]; done)), (by first | rfl | (simp; done) | (simp [*]; done)), (by first | rfl | (simp; done) | (simp [*]; done)), H', ⟨by have := HK1.out; have := HJ2.out; omega⟩, by repeat (first | exact Drawn0.refl _ | apply Drawn0.step)⟩
                  · rw [if_neg c9] at H
                    have c9b0 : decide (0 < (rd l0 x5_1)) = false := decide_eq_false c9
                    clear c9
                    have H' := Aside0.mk H
                    clear H
                    have p276 : 0 ≤ (x5_1 : Int) := of_decide_eq_true (by first | (with_reducible assumption) | assumption)
                    have q276 : x5_1 < (l0.length : Int) := of_decide_eq_true (by first | (with_reducible assumption) | assumption)
                    obtain ⟨ad276, e276, hx276_0⟩ := Kd.at_int HR0.out x5_1 p276 q276
                    cases e276
                    replace p276 := eq_true p276
                    replace q276 := eq_true q276
                    go_wp2
                    go_roundg kj2
                    case measure => have := HK1.out; have := HJ2.out; omega
                    case rel => exact ⟨(x3_1), (x4_1), (wrap64 (x5_1 + 1)), (by first | rfl | (simp; done) | (simp [*]; done)), (by first | rfl | (simp; done) | (simp [*]; done)), (by first | rfl | (simp; done) | (simp [*]; done)), H', ⟨by have := HK1.out; have := HJ2.out; omega⟩, by repeat (first | exact Drawn0.refl _ | apply Drawn0.step)⟩
                · rw [if_neg c8] at H
                  exact absurd H (by simp)
              · rw [if_neg c7] at H
                exact absurd H (by simp)
      · rw [if_neg c2] at H
        have c2b0 : decide (x5_1 < (l0.length : Int)) = false := decide_eq_false c2
        clear c2
        replace H := Option.bind_eq_some_iff.mp H
        obtain ⟨t273, A100, H⟩ := H
        replace H : (if t273 = 32768 then (some 0) else (if x3_1 = 1 then (if x4_1 = 1 then (some 0) else (some 8)) else (some 8))) = some r := H
        have A10 := Aside0.mk A100
        clear A100
        by_cases c11 : t273 = 32768
        · rw [if_pos c11] at H
          have c11b0 : (t273 == 32768) = true := beq_iff_eq.mpr c11
          have c11b1 : (t273 != 32768) = false := bne_eq_false_iff_eq.mpr c11
          clear c11
          obtain rfl := Option.some.inj H
          go_wp2_with (first | ((with_reducible refine gate_callee (f := 98) rfl ?_); refine goesL_ (some 36) rfl rfl Tryz.func98 (by kernel_rfl) rfl #[.slice A0 l0.length c0] rfl (by (try simp only [List.map_toArray, List.map_cons, List.map_nil]); first | done | rfl | (simp only [List.length_drop, List.length_take]; rfl)) ?_; (with_reducible refine (lexiphaneref1_Kraft.calls k1 _ _ l0 t273 _ ?side1 ?side2 A10.out).mono ?_); (case side1 => repeat (first | exact HR0.out | (with_reducible refine Kd.C_alloc ?_ _) | (with_reducible refine Kd.C_drewN ?_ _) | (with_reducible refine Kd.C_drew ?_))); (case side2 => exact HC0.out); rintro e w' ⟨rfl, ⟨nd, rfl⟩⟩; refine ⟨_, rfl, ?_⟩))
          go_ret
          exact ⟨by first | rfl | (simp; done) | (simp [*]; done), by repeat (first | exact Drawn0.refl _ | apply Drawn0.step)⟩
        · rw [if_neg c11] at H
          have c11b0 : (t273 == 32768) = false := beq_eq_false_iff_ne.mpr c11
          have c11b1 : (t273 != 32768) = true := bne_iff_ne.mpr c11
          by_cases c12 : x3_1 = 1
          · rw [if_pos c12] at H
            have c12b0 : (x3_1 == 1) = true := beq_iff_eq.mpr c12
            have c12b1 : (x3_1 != 1) = false := bne_eq_false_iff_eq.mpr c12
            clear c12
            by_cases c13 : x4_1 = 1
            · rw [if_pos c13] at H
              have c13b0 : (x4_1 == 1) = true := beq_iff_eq.mpr c13
              have c13b1 : (x4_1 != 1) = false := bne_eq_false_iff_eq.mpr c13
              clear c13
              obtain rfl := Option.some.inj H
              go_wp2_with (first | ((with_reducible refine gate_callee (f := 98) rfl ?_); refine goesL_ (some 36) rfl rfl Tryz.func98 (by kernel_rfl) rfl #[.slice A0 l0.length c0] rfl (by (try simp only [List.map_toArray, List.map_cons, List.map_nil]); first | done | rfl | (simp only [List.length_drop, List.length_take]; rfl)) ?_; (with_reducible refine (lexiphaneref1_Kraft.calls k1 _ _ l0 t273 _ ?side1 ?side2 A10.out).mono ?_); (case side1 => repeat (first | exact HR0.out | (with_reducible refine Kd.C_alloc ?_ _) | (with_reducible refine Kd.C_drewN ?_ _) | (with_reducible refine Kd.C_drew ?_))); (case side2 => exact HC0.out); rintro e w' ⟨rfl, ⟨nd, rfl⟩⟩; refine ⟨_, rfl, ?_⟩))
              go_ret
              exact ⟨by first | rfl | (simp; done) | (simp [*]; done), by repeat (first | exact Drawn0.refl _ | apply Drawn0.step)⟩
            · rw [if_neg c13] at H
              have c13b0 : (x4_1 == 1) = false := beq_eq_false_iff_ne.mpr c13
              have c13b1 : (x4_1 != 1) = true := bne_iff_ne.mpr c13
              obtain rfl := Option.some.inj H
              go_wp2_with (first | ((with_reducible refine gate_callee (f := 98) rfl ?_); refine goesL_ (some 36) rfl rfl Tryz.func98 (by kernel_rfl) rfl #[.slice A0 l0.length c0] rfl (by (try simp only [List.map_toArray, List.map_cons, List.map_nil]); first | done | rfl | (simp only [List.length_drop, List.length_take]; rfl)) ?_; (with_reducible refine (lexiphaneref1_Kraft.calls k1 _ _ l0 t273 _ ?side1 ?side2 A10.out).mono ?_); (case side1 => repeat (first | exact HR0.out | (with_reducible refine Kd.C_alloc ?_ _) | (with_reducible refine Kd.C_drewN ?_ _) | (with_reducible refine Kd.C_drew ?_))); (case side2 => exact HC0.out); rintro e w' ⟨rfl, ⟨nd, rfl⟩⟩; refine ⟨_, rfl, ?_⟩))
              go_ret
              exact ⟨by first | rfl | (simp; done) | (simp [*]; done), by repeat (first | exact Drawn0.refl _ | apply Drawn0.step)⟩
          · rw [if_neg c12] at H
            have c12b0 : (x3_1 == 1) = false := beq_eq_false_iff_ne.mpr c12
            have c12b1 : (x3_1 != 1) = true := bne_iff_ne.mpr c12
            obtain rfl := Option.some.inj H
            go_wp2_with (first | ((with_reducible refine gate_callee (f := 98) rfl ?_); refine goesL_ (some 36) rfl rfl Tryz.func98 (by kernel_rfl) rfl #[.slice A0 l0.length c0] rfl (by (try simp only [List.map_toArray, List.map_cons, List.map_nil]); first | done | rfl | (simp only [List.length_drop, List.length_take]; rfl)) ?_; (with_reducible refine (lexiphaneref1_Kraft.calls k1 _ _ l0 t273 _ ?side1 ?side2 A10.out).mono ?_); (case side1 => repeat (first | exact HR0.out | (with_reducible refine Kd.C_alloc ?_ _) | (with_reducible refine Kd.C_drewN ?_ _) | (with_reducible refine Kd.C_drew ?_))); (case side2 => exact HC0.out); rintro e w' ⟨rfl, ⟨nd, rfl⟩⟩; refine ⟨_, rfl, ?_⟩))
            go_ret
            exact ⟨by first | rfl | (simp; done) | (simp [*]; done), by repeat (first | exact Drawn0.refl _ | apply Drawn0.step)⟩
end Go.Proofs.YtdpkgjahcapleaaGreat.Leaf
