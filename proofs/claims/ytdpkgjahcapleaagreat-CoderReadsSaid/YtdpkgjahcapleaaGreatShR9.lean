/- ShR: a part of its proof (contracts of the functions that it reaches, and the plain mathematics behind them). -/
import Derived.Test.YtdpkgjahcapleaaGreatShR8
set_option linter.unusedVariables false
set_option linter.unusedSimpArgs false
set_option linter.unusedVariables false
set_option linter.unusedSimpArgs false
namespace Go.Proofs.YtdpkgjahcapleaaGreat.Leaf
open Go.RowKit Go.Proofs.YtdpkgjahcapleaaGreatW.PrintWords Go.Proofs.YtdpkgjahcapleaaGreatW.PrintLast Go.Proofs.YtdpkgjahcapleaaGreatW.PrintMore
attribute [local go_sem] max2_int min2_int max_two min_two max_three min_three max_four min_four
private theorem wr_sum_26 (p q : Nat) (h : p + q ≤ 9223372036854775807) : wrap64 ((p : Int) + (q : Int)) = (p : Int) + (q : Int) := by unfold wrap64; omega
mutual
def lexiphaneref1_Codes.l0 : Nat → List Int → List Int → Int → Int → Option (List Int × Int)
  | 0, _, _, _, _ => none
  | k + 1, x0, x5, x6, x7 => if x7 ≤ 15 then (lexiphaneref1_Codes.l1 k x0 x5 (wrap64 (x6 * 2)) x7 0) else (some (x5, 0))
def lexiphaneref1_Codes.l1 : Nat → List Int → List Int → Int → Int → Int → Option (List Int × Int)
  | 0, _, _, _, _, _ => none
  | k + 1, x0, x5, x6, x7, x8 => if x8 < (x0.length : Int) then (if 0 ≤ x8 then (if (rd x0 x8) = x7 then (if x8 < (x5.length : Int) then (lexiphaneref1_Codes.l1 k x0 (x5.set (x8 : Int).toNat x6) (wrap64 (x6 + 1)) x7 (wrap64 (x8 + 1))) else (none)) else (lexiphaneref1_Codes.l1 k x0 x5 x6 x7 (wrap64 (x8 + 1)))) else (none)) else (lexiphaneref1_Codes.l0 k x0 x5 x6 (wrap64 (x7 + 1)))
end
def lexiphaneref1_Codes.f (k : Nat) (l0 : List Int) : Option (List Int × Int) := (lexiphaneref1_Right.f k l0).bind fun t278 => (if t278 = 0 then (if 0 ≤ (l0.length : Int) then (if ((l0.length : Int) : Int).toNat ≤ 35184372088832 then (lexiphaneref1_Codes.l0 k l0 (List.replicate ((l0.length : Int) : Int).toNat 0) 0 1) else (none)) else (none)) else (some (([] : List Int), t278)))
theorem lexiphaneref1_Codes.mono_l : ∀ k, (∀ y0 y1 y2 y3, LeO (lexiphaneref1_Codes.l0 k y0 y1 y2 y3) (lexiphaneref1_Codes.l0 (k + 1) y0 y1 y2 y3)) ∧ (∀ y0 y1 y2 y3 y4, LeO (lexiphaneref1_Codes.l1 k y0 y1 y2 y3 y4) (lexiphaneref1_Codes.l1 (k + 1) y0 y1 y2 y3 y4))
  | 0 => ⟨fun _ _ _ _ r h => by simp [lexiphaneref1_Codes.l0] at h, fun _ _ _ _ _ r h => by simp [lexiphaneref1_Codes.l1] at h⟩
  | k + 1 => by
    obtain ⟨ih0, ih1⟩ := lexiphaneref1_Codes.mono_l k
    refine ⟨?_, ?_⟩
    · intro y0 y1 y2 y3
      unfold lexiphaneref1_Codes.l0
      repeat' first
      | (with_reducible exact ih0 _ _ _ _)
      | (with_reducible exact ih1 _ _ _ _ _)
      | (with_reducible exact lexiphaneref1_Right.mono _ _)
      | (with_reducible exact LeO.refl _)
      | (with_reducible exact LeO.none _)
      | (with_reducible refine LeO.ite ?_ ?_)
      | (with_reducible refine LeO.bind ?_ (fun _ => ?_))
      | exact ih0 _ _ _ _
      | exact ih1 _ _ _ _ _
      | exact lexiphaneref1_Right.mono _ _
      | exact LeO.none _
      | refine LeO.ite ?_ ?_
      | refine LeO.bind ?_ (fun _ => ?_)
    · intro y0 y1 y2 y3 y4
      unfold lexiphaneref1_Codes.l1
      repeat' first
      | (with_reducible exact ih0 _ _ _ _)
      | (with_reducible exact ih1 _ _ _ _ _)
      | (with_reducible exact lexiphaneref1_Right.mono _ _)
      | (with_reducible exact LeO.refl _)
      | (with_reducible exact LeO.none _)
      | (with_reducible refine LeO.ite ?_ ?_)
      | (with_reducible refine LeO.bind ?_ (fun _ => ?_))
      | exact ih0 _ _ _ _
      | exact ih1 _ _ _ _ _
      | exact lexiphaneref1_Right.mono _ _
      | exact LeO.none _
      | refine LeO.ite ?_ ?_
      | refine LeO.bind ?_ (fun _ => ?_)
theorem lexiphaneref1_Codes.mono : ∀ a0 k, LeO (lexiphaneref1_Codes.f k a0) (lexiphaneref1_Codes.f (k + 1) a0) := by
  intro a0 k
  obtain ⟨ih0, ih1⟩ := lexiphaneref1_Codes.mono_l k
  unfold lexiphaneref1_Codes.f
  repeat' first
      | (with_reducible exact ih0 _ _ _ _)
      | (with_reducible exact ih1 _ _ _ _ _)
      | (with_reducible exact lexiphaneref1_Right.mono _ _)
      | (with_reducible exact LeO.refl _)
      | (with_reducible exact LeO.none _)
      | (with_reducible refine LeO.ite ?_ ?_)
      | (with_reducible refine LeO.bind ?_ (fun _ => ?_))
      | exact ih0 _ _ _ _
      | exact ih1 _ _ _ _ _
      | exact lexiphaneref1_Right.mono _ _
      | exact LeO.none _
      | refine LeO.ite ?_ ?_
      | refine LeO.bind ?_ (fun _ => ?_)
set_option maxHeartbeats 8000000 in
set_option maxRecDepth 100000 in
theorem lexiphaneref1_Codes.calls (k : Nat) (A0 : Option Addr) (c0 : Nat) (l0 : List Int) (r1 : List Int) (r2 : Int) (w : World) (hr0 : Kd.C (Kd.int .i64) w A0 l0.length l0) (hc0 : l0.length ≤ c0) (h : lexiphaneref1_Codes.f k l0 = some (r1, r2)) :
    Calls Tryz.prog 69 #[.slice A0 l0.length c0] w fun e w' => ∃ v0_ : Value, e = .returned (.tuple #[v0_, .int .i64 r2]) ∧ Kd.R (Kd.int .i64) 3 w' w.heap.size (fun _ => True) v0_ r1 ∧ Below w.heap.size w w' := by
  have HR0 := Aside0.mk hr0
  have HC0 := Aside0.mk hc0
  clear hr0 hc0
  have HB := Aside0.mk (Below.refl w.heap.size w)
  have H : ((lexiphaneref1_Right.f k l0).bind fun t278 => (if t278 = 0 then (if 0 ≤ (l0.length : Int) then (if ((l0.length : Int) : Int).toNat ≤ 35184372088832 then (lexiphaneref1_Codes.l0 k l0 (List.replicate ((l0.length : Int) : Int).toNat 0) 0 1) else (none)) else (none)) else (some (([] : List Int), t278)))) = some (r1, r2) := h
  clear h
  replace H := Option.bind_eq_some_iff.mp H
  obtain ⟨t278, A20, H⟩ := H
  replace H : (if t278 = 0 then (if 0 ≤ (l0.length : Int) then (if ((l0.length : Int) : Int).toNat ≤ 35184372088832 then (lexiphaneref1_Codes.l0 k l0 (List.replicate ((l0.length : Int) : Int).toNat 0) 0 1) else (none)) else (none)) else (some (([] : List Int), t278))) = some (r1, r2) := H
  have A2 := Aside0.mk A20
  clear A20
  by_cases c3 : t278 = 0
  · rw [if_pos c3] at H
    have c3b0 : (t278 == 0) = true := beq_iff_eq.mpr c3
    have c3b1 : (t278 != 0) = false := bne_eq_false_iff_eq.mpr c3
    clear c3
    by_cases c4 : 0 ≤ (l0.length : Int)
    · rw [if_pos c4] at H
      have c4b0 := eq_true c4
      have c4b1 : decide (0 ≤ (l0.length : Int)) = true := decide_eq_true c4
      clear c4
      by_cases c5 : ((l0.length : Int) : Int).toNat ≤ 35184372088832
      · rw [if_pos c5] at H
        have c5b0 := eq_true c5
        have c5b1 : decide (((l0.length : Int) : Int).toNat ≤ 35184372088832) = true := decide_eq_true c5
        clear c5
        obtain ⟨y279, hy279⟩ : ∃ y_ : List Int, y_ = (List.replicate ((l0.length : Int) : Int).toNat 0) := ⟨_, rfl⟩
        replace H : (lexiphaneref1_Codes.l0 k l0 y279 0 1) = some (r1, r2) := by first | (rw [hy279]; with_reducible exact H) | (have H2_ := (Option.bind_some _ _).symm.trans H; rw [hy279]; with_reducible exact H2_) | (have H2_ := (Option.bind_some _ _).symm.trans H; with_reducible exact H2_) | with_reducible exact H | (rw [hy279]; exact H) | exact H
        have Ny279 := Aside0.mk hy279
        clear hy279
        have H' := Aside0.mk H
        clear H
        go_enter Tryz.func69, Tryz.ntmps69
        go_wp2_with (first | ((with_reducible refine gate_callee (f := 87) rfl ?_); refine goesL_ (some 10) rfl rfl Tryz.func87 (by kernel_rfl) rfl #[.slice A0 l0.length c0] rfl (by (try simp only [List.map_toArray, List.map_cons, List.map_nil]); first | done | rfl | (simp only [List.length_drop, List.length_take]; rfl)) ?_; (with_reducible refine (lexiphaneref1_Right.calls k _ _ l0 t278 _ ?side1 ?side2 A2.out).mono ?_); (case side1 => repeat (first | exact HR0.out | (with_reducible refine Kd.C_alloc ?_ _) | (with_reducible refine Kd.C_drewN ?_ _) | (with_reducible refine Kd.C_drew ?_))); (case side2 => exact HC0.out); rintro e w' ⟨rfl, ⟨nd, rfl⟩⟩; refine ⟨_, rfl, ?_⟩) | ((with_reducible refine gate_dst (N := 16) rfl ?_); refine Kd.R_make (Kd.int .i64) _ 3 rfl (N := 16) rfl 67 _ _ rfl (l0.length : Int) rfl rfl Tryz.underlying67 (.int .i64 0) 8 info3 rfl (by decide) (by omega) 0 (ok := fun _ => True) (okp := fun _ => True) rfl (fun _ hk => hk) trivial (of_decide_eq_true (by first | (with_reducible assumption) | assumption)) (Nat.le_trans (Nat.mul_le_mul_right _ (of_decide_eq_true (by first | (with_reducible assumption) | assumption) : (l0.length : Int).toNat ≤ 35184372088832)) (by omega)) (Below.refl _ _) (Nat.le_refl _) ?_; intro v280 w6 ho7 hb hg_ hnew_; clear hg_ hnew_; (first | rw [← Ny279.out] at ho7 | (simp only [Int.reduceToNat] at ho7; rw [← Ny279.out] at ho7)); have n0_ := Aside0.mk (Kd.R_lower ho7 (below_size (by repeat (first | (with_reducible first | exact HB.out | apply below_alloc | apply pw_below_drewN | apply below_drew1) | exact HB.out)))); have n1_ := Aside0.mk (below_step (by repeat (first | (with_reducible first | exact HB.out | apply below_alloc | apply pw_below_drewN | apply below_drew1) | exact HB.out)) hb); clear HB; have HO281 := n0_; have HB := n1_; clear n0_ n1_; clear hb ho7))
        go_loopg [6, 7] k (fun kq v6 v7 w' => ∃ (x5_1 : List Int) (x6_1 : Int) (x7_1 : Int), v6 = .int .i64 x6_1 ∧ v7 = .int .i64 x7_1 ∧ Aside0 (lexiphaneref1_Codes.l0 kq l0 x5_1 x6_1 x7_1 = some (r1, r2)) ∧ Aside0 (kq ≤ k) ∧ Aside0 (Kd.R (Kd.int .i64) 3 w' w.heap.size (fun _ => True) v280 x5_1) ∧ Aside0 (Below w.heap.size w w'))
        case atStart => exact ⟨(y279), (0), (1), (by first | rfl | (simp; done) | (simp [*]; done)), (by first | rfl | (simp; done) | (simp [*]; done)), H', ⟨Nat.le_refl _⟩, ⟨by (with_reducible repeat (first | apply Kd.R_alloc | apply Kd.R_drewN | apply Kd.R_drew)); exact HO281.out⟩, ⟨by repeat (first | (with_reducible first | exact HB.out | apply below_alloc | apply pw_below_drewN | apply below_drew1) | exact HB.out)⟩⟩
        case round =>
          clear H'
          try clear p2
          try clear c3
          try clear c3b0
          try clear c3b1
          try clear c4
          try clear c4b0
          try clear c4b1
          try clear c5
          try clear c5b0
          try clear c5b1
          try clear c6
          obtain ⟨x5_1, x6_1, x7_1, rfl, rfl, HA, HK1, HO_5, HB⟩ := hrel
          cases gk with
          | zero => exact absurd HA.out (by simp [lexiphaneref1_Codes.l0])
          | succ k1 =>
            have H := HA.out
            clear HA
            simp only [lexiphaneref1_Codes.l0] at H
            by_cases c8 : x7_1 ≤ 15
            · rw [if_pos c8] at H
              have c8b0 : decide (x7_1 ≤ 15) = true := decide_eq_true c8
              clear c8
              have H' := Aside0.mk H
              clear H
              go_wp2
              go_loopg [6, 8] k1 (fun kq v6 v8 w' => ∃ (x5_2 : List Int) (x6_2 : Int) (x8_2 : Int), v6 = .int .i64 x6_2 ∧ v8 = .int .i64 x8_2 ∧ Aside0 (lexiphaneref1_Codes.l1 kq l0 x5_2 x6_2 x7_1 x8_2 = some (r1, r2)) ∧ Aside0 (kq ≤ k1) ∧ Aside0 (Kd.R (Kd.int .i64) 3 w' w.heap.size (fun _ => True) v280 x5_2) ∧ Aside0 (Below w.heap.size w w'))
              case atStart => exact ⟨(x5_1), (wrap64 (x6_1 * 2)), (0), (by first | rfl | (simp; done) | (simp [*]; done)), (by first | rfl | (simp; done) | (simp [*]; done)), H', ⟨Nat.le_refl _⟩, ⟨by (with_reducible repeat (first | apply Kd.R_alloc | apply Kd.R_drewN | apply Kd.R_drew)); exact HO_5.out⟩, ⟨by repeat (first | (with_reducible first | exact HB.out | apply below_alloc | apply pw_below_drewN | apply below_drew1) | exact HB.out)⟩⟩
              case round =>
                clear H'
                try clear p2
                try clear c3
                try clear c3b0
                try clear c3b1
                try clear c4
                try clear c4b0
                try clear c4b1
                try clear c5
                try clear c5b0
                try clear c5b1
                try clear c6
                try clear p6
                try clear c8
                try clear c8b0
                try clear p2
                obtain ⟨x5_2, x6_2, x8_2, rfl, rfl, HA, HK2, HO_5, HB⟩ := hrel
                cases gk with
                | zero => exact absurd HA.out (by simp [lexiphaneref1_Codes.l1])
                | succ k2 =>
                  have H := HA.out
                  clear HA
                  simp only [lexiphaneref1_Codes.l1] at H
                  by_cases c9 : x8_2 < (l0.length : Int)
                  · rw [if_pos c9] at H
                    have c9b0 : decide (x8_2 < (l0.length : Int)) = true := decide_eq_true c9
                    clear c9
                    by_cases c10 : 0 ≤ x8_2
                    · rw [if_pos c10] at H
                      have c10b0 : decide (0 ≤ x8_2) = true := decide_eq_true c10
                      clear c10
                      by_cases c11 : (rd l0 x8_2) = x7_1
                      · rw [if_pos c11] at H
                        have c11b0 : ((rd l0 x8_2) == x7_1) = true := beq_iff_eq.mpr c11
                        have c11b1 : ((rd l0 x8_2) != x7_1) = false := bne_eq_false_iff_eq.mpr c11
                        clear c11
                        by_cases c12 : x8_2 < (x5_2.length : Int)
                        · rw [if_pos c12] at H
                          have c12b0 : decide (x8_2 < (x5_2.length : Int)) = true := decide_eq_true c12
                          clear c12
                          obtain ⟨y283, hy283⟩ : ∃ y_ : List Int, y_ = (x5_2.set (x8_2 : Int).toNat x6_2) := ⟨_, rfl⟩
                          replace H : (lexiphaneref1_Codes.l1 k2 l0 y283 (wrap64 (x6_2 + 1)) x7_1 (wrap64 (x8_2 + 1))) = some (r1, r2) := by first | (rw [hy283]; with_reducible exact H) | (have H2_ := (Option.bind_some _ _).symm.trans H; rw [hy283]; with_reducible exact H2_) | (have H2_ := (Option.bind_some _ _).symm.trans H; with_reducible exact H2_) | with_reducible exact H | (rw [hy283]; exact H) | exact H
                          have Ny283 := Aside0.mk hy283
                          clear hy283
                          have H' := Aside0.mk H
                          clear H
                          have p282 : 0 ≤ (x8_2 : Int) := of_decide_eq_true (by first | (with_reducible assumption) | assumption)
                          have q282 : x8_2 < (l0.length : Int) := of_decide_eq_true (by first | (with_reducible assumption) | assumption)
                          obtain ⟨ad282, e282, hx282_0⟩ := Kd.at_int HR0.out x8_2 p282 q282
                          cases e282
                          replace hx282_0 := (HB.out.cell (World.block_lt_of_cell? w _ hx282_0)).trans hx282_0
                          replace p282 := eq_true p282
                          replace q282 := eq_true q282
                          have p13 : 0 ≤ (x8_2 : Int) := of_decide_eq_true (by first | (with_reducible assumption) | assumption)
                          have q13 : (x8_2 : Int) < ((x5_2.length : Int) : Int) := of_decide_eq_true (by first | (with_reducible assumption) | assumption)
                          obtain ⟨go13, co13, eo13, gb13, gl13, cl13, HG13⟩ := Kd.R_form HO_5.out (by omega)
                          (first | cases eo13 | (injection eo13 with ea_ en_ ec_; (first | subst ea_ | (injection ea_ with ea_; subst ea_)); subst ec_; clear en_))
                          have GB13 := Aside0.mk gb13
                          have GG13 := Aside0.mk HG13
                          clear gb13 gl13 HG13
                          obtain ⟨hx13_0, hf13_0⟩ := Kd.R_celln 0 HO_5.out (x8_2 : Int) p13 q13
                          replace p13 := eq_true p13
                          replace q13 := eq_true q13
                          have HP14 := Kd.R_putg HO_5.out (x8_2 : Int) x6_2
                          go_wp2_with (first | ((with_reducible refine gate_store (t := 3) (p := 38) rfl ?_); refine store_event (t := 3) (p := 38) (v := ?vo_w15) (w1 := (wr.setCell ⟨go13, (x8_2 : Int).toNat, none⟩ (.int .i64 x6_2))) ?hg ?ho ?hn ?hr ?_; (case ho => rfl); (case hg => rfl); (case hn => rfl); (case hr => first | (go_simp; done) | (go_simp; rfl)); intro w15 hw; have hg : wr.grownBy w15 (some go13) := (by rw [hw]; exact HP14.2); have hp_ : Kd.R (Kd.int .i64) 3 w15 w.heap.size (fun _ => True) (.slice (some ⟨go13, 0, none⟩) x5_2.length co13) y283 := (by rw [hw, Ny283.out]; exact HP14.1); clear HP14; have n0_ := Aside0.mk (hp_); have n1_ := Aside0.mk ((by rw [hw]; exact below_set (HB.out) GB13.out : Below w.heap.size w w15)); clear HO_5; clear HB; have HO_5 := n0_; have HB := n1_; clear n0_ n1_; clear hg hw hp_))
                          go_roundg k2
                          case measure => have := HK1.out; have := HK2.out; omega
                          case rel => exact ⟨(y283), (wrap64 (x6_2 + 1)), (wrap64 (x8_2 + 1)), (by first | rfl | (simp; done) | (simp [*]; done)), (by first | rfl | (simp; done) | (simp [*]; done)), H', ⟨by have := HK1.out; have := HK2.out; omega⟩, ⟨by (with_reducible repeat (first | apply Kd.R_alloc | apply Kd.R_drewN | apply Kd.R_drew)); exact HO_5.out⟩, ⟨by repeat (first | (with_reducible first | exact HB.out | apply below_alloc | apply pw_below_drewN | apply below_drew1) | exact HB.out)⟩⟩
                        · rw [if_neg c12] at H
                          exact absurd H (by simp)
                      · rw [if_neg c11] at H
                        have c11b0 : ((rd l0 x8_2) == x7_1) = false := beq_eq_false_iff_ne.mpr c11
                        have c11b1 : ((rd l0 x8_2) != x7_1) = true := bne_iff_ne.mpr c11
                        have H' := Aside0.mk H
                        clear H
                        have p282 : 0 ≤ (x8_2 : Int) := of_decide_eq_true (by first | (with_reducible assumption) | assumption)
                        have q282 : x8_2 < (l0.length : Int) := of_decide_eq_true (by first | (with_reducible assumption) | assumption)
                        obtain ⟨ad282, e282, hx282_0⟩ := Kd.at_int HR0.out x8_2 p282 q282
                        cases e282
                        replace hx282_0 := (HB.out.cell (World.block_lt_of_cell? w _ hx282_0)).trans hx282_0
                        replace p282 := eq_true p282
                        replace q282 := eq_true q282
                        go_wp2
                        go_roundg k2
                        case measure => have := HK1.out; have := HK2.out; omega
                        case rel => exact ⟨(x5_2), (x6_2), (wrap64 (x8_2 + 1)), (by first | rfl | (simp; done) | (simp [*]; done)), (by first | rfl | (simp; done) | (simp [*]; done)), H', ⟨by have := HK1.out; have := HK2.out; omega⟩, ⟨by (with_reducible repeat (first | apply Kd.R_alloc | apply Kd.R_drewN | apply Kd.R_drew)); exact HO_5.out⟩, ⟨by repeat (first | (with_reducible first | exact HB.out | apply below_alloc | apply pw_below_drewN | apply below_drew1) | exact HB.out)⟩⟩
                    · rw [if_neg c10] at H
                      exact absurd H (by simp)
                  · rw [if_neg c9] at H
                    have c9b0 : decide (x8_2 < (l0.length : Int)) = false := decide_eq_false c9
                    clear c9
                    have H' := Aside0.mk H
                    clear H
                    go_wp2
                    go_roundg k2
                    case measure => have := HK1.out; have := HK2.out; omega
                    case rel => exact ⟨(x5_2), (x6_2), (wrap64 (x7_1 + 1)), (by first | rfl | (simp; done) | (simp [*]; done)), (by first | rfl | (simp; done) | (simp [*]; done)), H', ⟨by have := HK1.out; have := HK2.out; omega⟩, ⟨by (with_reducible repeat (first | apply Kd.R_alloc | apply Kd.R_drewN | apply Kd.R_drew)); exact HO_5.out⟩, ⟨by repeat (first | (with_reducible first | exact HB.out | apply below_alloc | apply pw_below_drewN | apply below_drew1) | exact HB.out)⟩⟩
            · rw [if_neg c8] at H
              have c8b0 : decide (x7_1 ≤ 15) = false := decide_eq_false c8
              clear c8
              simp only [Option.some.injEq, Prod.mk.injEq] at H
              obtain ⟨rfl, rfl⟩ := H
              go_wp2
              go_ret2
              exact ⟨_, by first | rfl | (simp [errW_none, errW_some] <;> rfl) | (simp [*, errW_none, errW_some] <;> rfl), by (with_reducible repeat (first | apply Kd.R_alloc | apply Kd.R_drewN | apply Kd.R_drew)); exact HO_5.out, by repeat (first | (with_reducible first | exact HB.out | apply below_alloc | apply pw_below_drewN | apply below_drew1) | exact HB.out)⟩
      · rw [if_neg c5] at H
        exact absurd H (by simp)
    · rw [if_neg c4] at H
      exact absurd H (by simp)
  · rw [if_neg c3] at H
    have c3b0 : (t278 == 0) = false := beq_eq_false_iff_ne.mpr c3
    have c3b1 : (t278 != 0) = true := bne_iff_ne.mpr c3
    simp only [Option.some.injEq, Prod.mk.injEq] at H
    obtain ⟨rfl, rfl⟩ := H
    go_enter Tryz.func69, Tryz.ntmps69
    go_wp2_with (first | ((with_reducible refine gate_callee (f := 87) rfl ?_); refine goesL_ (some 10) rfl rfl Tryz.func87 (by kernel_rfl) rfl #[.slice A0 l0.length c0] rfl (by (try simp only [List.map_toArray, List.map_cons, List.map_nil]); first | done | rfl | (simp only [List.length_drop, List.length_take]; rfl)) ?_; (with_reducible refine (lexiphaneref1_Right.calls k _ _ l0 t278 _ ?side1 ?side2 A2.out).mono ?_); (case side1 => repeat (first | exact HR0.out | (with_reducible refine Kd.C_alloc ?_ _) | (with_reducible refine Kd.C_drewN ?_ _) | (with_reducible refine Kd.C_drew ?_))); (case side2 => exact HC0.out); rintro e w' ⟨rfl, ⟨nd, rfl⟩⟩; refine ⟨_, rfl, ?_⟩))
    go_ret2
    exact ⟨_, by first | rfl | (simp [errW_none, errW_some] <;> rfl) | (simp [*, errW_none, errW_some] <;> rfl), by first | exact Kd.R_nil _ _ _ _ _ | exact Kd.N_nil _ _ _ _ _ | exact Kd.V_nil _ _ _ _ _ | exact Kd.Q_nil _ _ _ _ _ | exact Kd.S_nil _ _ _ _ _, by repeat (first | (with_reducible first | exact HB.out | apply below_alloc | apply pw_below_drewN | apply below_drew1) | exact HB.out)⟩
mutual
def lexiphaneref1_bitsOf.l0 : Nat → ByteArray → List Int → Int → Option (List Int)
  | 0, _, _, _ => none
  | k + 1, x0, x3, x4 => if x4 < (x0.size : Int) then (lexiphaneref1_bitsOf.l1 k x0 x3 x4 7) else (some x3)
def lexiphaneref1_bitsOf.l1 : Nat → ByteArray → List Int → Int → Int → Option (List Int)
  | 0, _, _, _, _ => none
  | k + 1, x0, x3, x4, x5 => if x5 ≥ 0 then (if 0 ≤ x4 then (if x4 < (x0.size : Int) then (if 0 ≤ (IntKind.u64.wrap (x5)) then (if x3.length < 17592186044416 then (lexiphaneref1_bitsOf.l1 k x0 (x3 ++ [Go.bits .and .i64 (shr .i64 (wrap64 (bt x0 x4)) (IntKind.u64.wrap (x5))) 1]) x4 (wrap64 (x5 - 1))) else (none)) else (none)) else (none)) else (none)) else (lexiphaneref1_bitsOf.l0 k x0 x3 (wrap64 (x4 + 1)))
end
def lexiphaneref1_bitsOf.f (k : Nat) (a0 : ByteArray) : Option (List Int) := lexiphaneref1_bitsOf.l0 k a0 ([] : List Int) 0
theorem lexiphaneref1_bitsOf.mono_l : ∀ k, (∀ y0 y1 y2, LeO (lexiphaneref1_bitsOf.l0 k y0 y1 y2) (lexiphaneref1_bitsOf.l0 (k + 1) y0 y1 y2)) ∧ (∀ y0 y1 y2 y3, LeO (lexiphaneref1_bitsOf.l1 k y0 y1 y2 y3) (lexiphaneref1_bitsOf.l1 (k + 1) y0 y1 y2 y3))
  | 0 => ⟨fun _ _ _ r h => by simp [lexiphaneref1_bitsOf.l0] at h, fun _ _ _ _ r h => by simp [lexiphaneref1_bitsOf.l1] at h⟩
  | k + 1 => by
    obtain ⟨ih0, ih1⟩ := lexiphaneref1_bitsOf.mono_l k
    refine ⟨?_, ?_⟩
    · intro y0 y1 y2
      unfold lexiphaneref1_bitsOf.l0
      repeat' first
      | (with_reducible exact ih0 _ _ _)
      | (with_reducible exact ih1 _ _ _ _)
      | (with_reducible exact LeO.refl _)
      | (with_reducible exact LeO.none _)
      | (with_reducible refine LeO.ite ?_ ?_)
      | (with_reducible refine LeO.bind ?_ (fun _ => ?_))
      | exact ih0 _ _ _
      | exact ih1 _ _ _ _
      | exact LeO.none _
      | refine LeO.ite ?_ ?_
      | refine LeO.bind ?_ (fun _ => ?_)
    · intro y0 y1 y2 y3
      unfold lexiphaneref1_bitsOf.l1
      repeat' first
      | (with_reducible exact ih0 _ _ _)
      | (with_reducible exact ih1 _ _ _ _)
      | (with_reducible exact LeO.refl _)
      | (with_reducible exact LeO.none _)
      | (with_reducible refine LeO.ite ?_ ?_)
      | (with_reducible refine LeO.bind ?_ (fun _ => ?_))
      | exact ih0 _ _ _
      | exact ih1 _ _ _ _
      | exact LeO.none _
      | refine LeO.ite ?_ ?_
      | refine LeO.bind ?_ (fun _ => ?_)
theorem lexiphaneref1_bitsOf.mono : ∀ a0 k, LeO (lexiphaneref1_bitsOf.f k a0) (lexiphaneref1_bitsOf.f (k + 1) a0) := by
  intro a0 k
  obtain ⟨ih0, ih1⟩ := lexiphaneref1_bitsOf.mono_l k
  unfold lexiphaneref1_bitsOf.f
  repeat' first
      | (with_reducible exact ih0 _ _ _)
      | (with_reducible exact ih1 _ _ _ _)
      | (with_reducible exact LeO.refl _)
      | (with_reducible exact LeO.none _)
      | (with_reducible refine LeO.ite ?_ ?_)
      | (with_reducible refine LeO.bind ?_ (fun _ => ?_))
      | exact ih0 _ _ _
      | exact ih1 _ _ _ _
      | exact LeO.none _
      | refine LeO.ite ?_ ?_
      | refine LeO.bind ?_ (fun _ => ?_)
set_option maxHeartbeats 8000000 in
set_option maxRecDepth 100000 in
theorem lexiphaneref1_bitsOf.calls (k : Nat) (a0 : ByteArray) (r : List Int) (w : World) (h : lexiphaneref1_bitsOf.f k a0 = some r) :
    Calls Tryz.prog 70 #[.string a0] w fun e w' => ∃ v0_ : Value, e = .returned (v0_) ∧ Kd.R (Kd.int .i64) 3 w' w.heap.size (fun _ => True) v0_ r ∧ Below w.heap.size w w' := by
  have HB := Aside0.mk (Below.refl w.heap.size w)
  have H : (lexiphaneref1_bitsOf.l0 k a0 ([] : List Int) 0) = some r := h
  clear h
  have H' := Aside0.mk H
  clear H
  go_enter Tryz.func70, Tryz.ntmps70
  go_wp2
  go_loopg [3, 4] k (fun kq v3 v4 w' => ∃ (x3_1 : List Int) (x4_1 : Int), v4 = .int .i64 x4_1 ∧ Aside0 (lexiphaneref1_bitsOf.l0 kq a0 x3_1 x4_1 = some r) ∧ Aside0 (kq ≤ k) ∧ Aside0 (Kd.R (Kd.int .i64) 3 w' w.heap.size (fun _ => True) v3 x3_1) ∧ Aside0 (Below w.heap.size w w'))
  case atStart => exact ⟨(([] : List Int)), (0), (by first | rfl | (simp; done) | (simp [*]; done)), H', ⟨Nat.le_refl _⟩, ⟨by first | exact Kd.R_nil _ _ _ _ _ | exact Kd.N_nil _ _ _ _ _ | exact Kd.V_nil _ _ _ _ _ | exact Kd.Q_nil _ _ _ _ _ | exact Kd.S_nil _ _ _ _ _⟩, ⟨by repeat (first | (with_reducible first | exact HB.out | apply below_alloc | apply pw_below_drewN | apply below_drew1) | exact HB.out)⟩⟩
  case round =>
    clear H'
    obtain ⟨x3_1, x4_1, rfl, HA, HK1, HO_3, HB⟩ := hrel
    cases gk with
    | zero => exact absurd HA.out (by simp [lexiphaneref1_bitsOf.l0])
    | succ k1 =>
      have H := HA.out
      clear HA
      simp only [lexiphaneref1_bitsOf.l0] at H
      by_cases c2 : x4_1 < (a0.size : Int)
      · rw [if_pos c2] at H
        have c2b0 : decide (x4_1 < (a0.size : Int)) = true := decide_eq_true c2
        clear c2
        have H' := Aside0.mk H
        clear H
        go_wp2
        go_loopg [3, 5] k1 (fun kq v3 v5 w' => ∃ (x3_2 : List Int) (x5_2 : Int), v5 = .int .i64 x5_2 ∧ Aside0 (lexiphaneref1_bitsOf.l1 kq a0 x3_2 x4_1 x5_2 = some r) ∧ Aside0 (kq ≤ k1) ∧ Aside0 (Kd.R (Kd.int .i64) 3 w' w.heap.size (fun _ => True) v3 x3_2) ∧ Aside0 (Below w.heap.size w w'))
        case atStart => exact ⟨(x3_1), (7), (by first | rfl | (simp; done) | (simp [*]; done)), H', ⟨Nat.le_refl _⟩, ⟨by (with_reducible repeat (first | apply Kd.R_alloc | apply Kd.R_drewN | apply Kd.R_drew)); exact HO_3.out⟩, ⟨by repeat (first | (with_reducible first | exact HB.out | apply below_alloc | apply pw_below_drewN | apply below_drew1) | exact HB.out)⟩⟩
        case round =>
          clear H'
          try clear c2
          try clear c2b0
          try clear p2
          obtain ⟨x3_2, x5_2, rfl, HA, HK2, HO_3, HB⟩ := hrel
          cases gk with
          | zero => exact absurd HA.out (by simp [lexiphaneref1_bitsOf.l1])
          | succ k2 =>
            have H := HA.out
            clear HA
            simp only [lexiphaneref1_bitsOf.l1] at H
            by_cases c3 : x5_2 ≥ 0
            · rw [if_pos c3] at H
              have c3b0 : decide (0 ≤ x5_2) = true := decide_eq_true c3
              clear c3
              by_cases c4 : 0 ≤ x4_1
              · rw [if_pos c4] at H
                have c4b0 : decide (0 ≤ x4_1) = true := decide_eq_true c4
                clear c4
                by_cases c5 : x4_1 < (a0.size : Int)
                · rw [if_pos c5] at H
                  have c5b0 : decide (x4_1 < (a0.size : Int)) = true := decide_eq_true c5
                  clear c5
                  obtain ⟨ji7, hji7⟩ : ∃ j_ : Int, (IntKind.u64.wrap (x5_2)) = j_ := ⟨_, rfl⟩
                  replace H : (if 0 ≤ (ji7) then (if x3_2.length < 17592186044416 then (lexiphaneref1_bitsOf.l1 k2 a0 (x3_2 ++ [Go.bits .and .i64 (shr .i64 (wrap64 (bt a0 x4_1)) (ji7)) 1]) x4_1 (wrap64 (x5_2 - 1))) else (none)) else (none)) = some r := by first | (rw [hji7] at H; exact H) | (simp only [hji7] at H ⊢; exact H)
                  by_cases c8 : 0 ≤ (ji7)
                  · rw [if_pos c8] at H
                    have c8b0 := eq_true c8
                    have c8b1 : decide (0 ≤ (ji7)) = true := decide_eq_true c8
                    clear c8
                    obtain ⟨ji9, hji9⟩ : ∃ j_ : Int, (shr .i64 (wrap64 (bt a0 x4_1)) (ji7)) = j_ := ⟨_, rfl⟩
                    replace H : (if x3_2.length < 17592186044416 then (lexiphaneref1_bitsOf.l1 k2 a0 (x3_2 ++ [Go.bits .and .i64 (ji9) 1]) x4_1 (wrap64 (x5_2 - 1))) else (none)) = some r := by first | (rw [hji9] at H; exact H) | (simp only [hji9] at H ⊢; exact H)
                    have hji9_ : ((wrap64 (bt a0 x4_1)) / 2 ^ min (ji7).toNat 64) = ji9 := hji9
                    have hji9z : (ji7) ≤ 64 → ((wrap64 (bt a0 x4_1)) / 2 ^ (ji7).toNat) = ji9 := shr_small hji9
                    by_cases c10 : x3_2.length < 17592186044416
                    · rw [if_pos c10] at H
                      have LMc10 := Aside0.mk c10
                      clear c10
                      obtain ⟨y284, hy284⟩ : ∃ y_ : List Int, y_ = (x3_2 ++ [Go.bits .and .i64 (ji9) 1]) := ⟨_, rfl⟩
                      replace H : (lexiphaneref1_bitsOf.l1 k2 a0 y284 x4_1 (wrap64 (x5_2 - 1))) = some r := by first | (rw [hy284]; with_reducible exact H) | (have H2_ := (Option.bind_some _ _).symm.trans H; rw [hy284]; with_reducible exact H2_) | (have H2_ := (Option.bind_some _ _).symm.trans H; with_reducible exact H2_) | with_reducible exact H | (rw [hy284]; exact H) | exact H
                      have Ny284 := Aside0.mk hy284
                      clear hy284
                      have H' := Aside0.mk H
                      clear H
                      have p6 : 0 ≤ (x4_1 : Int) := of_decide_eq_true (by first | (with_reducible assumption) | assumption)
                      have q6 : x4_1 < (a0.size : Int) := of_decide_eq_true (by first | (with_reducible assumption) | assumption)
                      have hx6 := bt_at a0 x4_1
                      replace p6 := eq_true p6
                      replace q6 := eq_true q6
                      go_wp2_with (first | ((with_reducible refine gate_builtin (b := .append) (xs := #[.tmp 16, .tmp 25]) rfl ?_); at_builtin; refine Kd.R_append (Kd.int .i64) (w0 := w) w.heap.size rfl (.tmp 16) (.tmp 25) 67 3 (.int .i64 0) 8 rfl Tryz.underlying67 info3 rfl (by decide) (by omega) u3 x3_2 (Go.bits .and .i64 (ji9) 1) [.int .i64 (Go.bits .and .i64 (ji9) 1)] (fun _ => True) (fun _ => False) rfl rfl ?aP (fun _ hk => hk.elim) ?aF ?aO ?aB ?aS ?aL ?_; (case aP => exact rfl); (case aB => exact (by repeat (first | (with_reducible first | exact HB.out | apply below_alloc | apply pw_below_drewN | apply below_drew1) | exact HB.out))); (case aF => exact (fun _ _ => trivial)); (case aO => exact (by (with_reducible repeat (first | apply Kd.R_alloc | apply Kd.R_drewN | apply Kd.R_drew)); exact HO_3.out)); (case aS => exact (below_size (by repeat (first | (with_reducible first | exact HB.out | apply below_alloc | apply pw_below_drewN | apply below_drew1) | exact HB.out)))); (case aL => have := LMc10.out; omega); intro v285 w11 ho hb hg hat; rw [← Ny284.out] at ho; have n0_ := Aside0.mk (hb); have n1_ := Aside0.mk (ho); clear HB; clear HO_3; have HB := n0_; have HO286 := n1_; clear n0_ n1_; clear ho hb hg hat))
                      go_roundg k2
                      case measure => have := HK1.out; have := HK2.out; omega
                      case rel => exact ⟨(y284), (wrap64 (x5_2 - 1)), (by first | rfl | (simp; done) | (simp [*]; done)), H', ⟨by have := HK1.out; have := HK2.out; omega⟩, ⟨by (with_reducible repeat (first | apply Kd.R_alloc | apply Kd.R_drewN | apply Kd.R_drew)); exact HO286.out⟩, ⟨by repeat (first | (with_reducible first | exact HB.out | apply below_alloc | apply pw_below_drewN | apply below_drew1) | exact HB.out)⟩⟩
                    · rw [if_neg c10] at H
                      exact absurd H (by simp)
                  · rw [if_neg c8] at H
                    exact absurd H (by simp)
                · rw [if_neg c5] at H
                  exact absurd H (by simp)
              · rw [if_neg c4] at H
                exact absurd H (by simp)
            · rw [if_neg c3] at H
              have c3b0 : decide (0 ≤ x5_2) = false := decide_eq_false c3
              clear c3
              have H' := Aside0.mk H
              clear H
              go_wp2
              go_roundg k2
              case measure => have := HK1.out; have := HK2.out; omega
              case rel => exact ⟨(x3_2), (wrap64 (x4_1 + 1)), (by first | rfl | (simp; done) | (simp [*]; done)), H', ⟨by have := HK1.out; have := HK2.out; omega⟩, ⟨by (with_reducible repeat (first | apply Kd.R_alloc | apply Kd.R_drewN | apply Kd.R_drew)); exact HO_3.out⟩, ⟨by repeat (first | (with_reducible first | exact HB.out | apply below_alloc | apply pw_below_drewN | apply below_drew1) | exact HB.out)⟩⟩
      · rw [if_neg c2] at H
        have c2b0 : decide (x4_1 < (a0.size : Int)) = false := decide_eq_false c2
        clear c2
        obtain rfl := Option.some.inj H
        go_wp2
        go_ret
        exact ⟨_, by first | rfl | (simp [errW_none, errW_some] <;> rfl) | (simp [*, errW_none, errW_some] <;> rfl), by (with_reducible repeat (first | apply Kd.R_alloc | apply Kd.R_drewN | apply Kd.R_drew)); exact HO_3.out, by repeat (first | (with_reducible first | exact HB.out | apply below_alloc | apply pw_below_drewN | apply below_drew1) | exact HB.out)⟩
mutual
def lexiphaneref1_Next.l0 : Nat → List Int → List Int → List Int → Int → Int → Int → Option (Int × Int × Int)
  | 0, _, _, _, _, _, _ => none
  | k + 1, x0, x1, x2, x3, x11, x12 => if x12 ≤ 15 then (if (wrap64 (x3 + x12)) > (x2.length : Int) then (some (0, 0, 2)) else (if 0 ≤ (wrap64 ((wrap64 (x3 + x12)) - 1)) then (if (wrap64 ((wrap64 (x3 + x12)) - 1)) < (x2.length : Int) then (lexiphaneref1_Next.l1 k x0 x1 x2 x3 (wrap64 ((wrap64 (x11 * 2)) + (rd x2 (wrap64 ((wrap64 (x3 + x12)) - 1))))) x12 false 0) else (none)) else (none))) else (some (0, 0, 8))
def lexiphaneref1_Next.l1 : Nat → List Int → List Int → List Int → Int → Int → Int → Bool → Int → Option (Int × Int × Int)
  | 0, _, _, _, _, _, _, _, _ => none
  | k + 1, x0, x1, x2, x3, x11, x12, x13, x14 => if x14 < (x0.length : Int) then (if 0 ≤ x14 then (if (rd x0 x14) = x12 then (if x14 < (x1.length : Int) then (if (rd x1 x14) = x11 then (some (x14, x12, 0)) else (if x13 = true then (lexiphaneref1_Next.l1 k x0 x1 x2 x3 x11 x12 true (wrap64 (x14 + 1))) else (lexiphaneref1_Next.l1 k x0 x1 x2 x3 x11 x12 (decide ((rd x0 x14) > x12)) (wrap64 (x14 + 1))))) else (none)) else (if x13 = true then (lexiphaneref1_Next.l1 k x0 x1 x2 x3 x11 x12 true (wrap64 (x14 + 1))) else (lexiphaneref1_Next.l1 k x0 x1 x2 x3 x11 x12 (decide ((rd x0 x14) > x12)) (wrap64 (x14 + 1))))) else (none)) else (if x13 = true then (lexiphaneref1_Next.l0 k x0 x1 x2 x3 x11 (wrap64 (x12 + 1))) else (some (0, 0, 8)))
end
def lexiphaneref1_Next.f (k : Nat) (l0 : List Int) (l1 : List Int) (l2 : List Int) (a3 : Int) : Option (Int × Int × Int) := lexiphaneref1_Next.l0 k l0 l1 l2 a3 0 1
theorem lexiphaneref1_Next.mono_l : ∀ k, (∀ y0 y1 y2 y3 y4 y5, LeO (lexiphaneref1_Next.l0 k y0 y1 y2 y3 y4 y5) (lexiphaneref1_Next.l0 (k + 1) y0 y1 y2 y3 y4 y5)) ∧ (∀ y0 y1 y2 y3 y4 y5 y6 y7, LeO (lexiphaneref1_Next.l1 k y0 y1 y2 y3 y4 y5 y6 y7) (lexiphaneref1_Next.l1 (k + 1) y0 y1 y2 y3 y4 y5 y6 y7))
  | 0 => ⟨fun _ _ _ _ _ _ r h => by simp [lexiphaneref1_Next.l0] at h, fun _ _ _ _ _ _ _ _ r h => by simp [lexiphaneref1_Next.l1] at h⟩
  | k + 1 => by
    obtain ⟨ih0, ih1⟩ := lexiphaneref1_Next.mono_l k
    refine ⟨?_, ?_⟩
    · intro y0 y1 y2 y3 y4 y5
      unfold lexiphaneref1_Next.l0
      repeat' first
      | (with_reducible exact ih0 _ _ _ _ _ _)
      | (with_reducible exact ih1 _ _ _ _ _ _ _ _)
      | (with_reducible exact LeO.refl _)
      | (with_reducible exact LeO.none _)
      | (with_reducible refine LeO.ite ?_ ?_)
      | (with_reducible refine LeO.bind ?_ (fun _ => ?_))
      | exact ih0 _ _ _ _ _ _
      | exact ih1 _ _ _ _ _ _ _ _
      | exact LeO.none _
      | refine LeO.ite ?_ ?_
      | refine LeO.bind ?_ (fun _ => ?_)
    · intro y0 y1 y2 y3 y4 y5 y6 y7
      unfold lexiphaneref1_Next.l1
      repeat' first
      | (with_reducible exact ih0 _ _ _ _ _ _)
      | (with_reducible exact ih1 _ _ _ _ _ _ _ _)
      | (with_reducible exact LeO.refl _)
      | (with_reducible exact LeO.none _)
      | (with_reducible refine LeO.ite ?_ ?_)
      | (with_reducible refine LeO.bind ?_ (fun _ => ?_))
      | exact ih0 _ _ _ _ _ _
      | exact ih1 _ _ _ _ _ _ _ _
      | exact LeO.none _
      | refine LeO.ite ?_ ?_
      | refine LeO.bind ?_ (fun _ => ?_)
theorem lexiphaneref1_Next.mono : ∀ a0 a1 a2 a3 k, LeO (lexiphaneref1_Next.f k a0 a1 a2 a3) (lexiphaneref1_Next.f (k + 1) a0 a1 a2 a3) := by
  intro a0 a1 a2 a3 k
  obtain ⟨ih0, ih1⟩ := lexiphaneref1_Next.mono_l k
  unfold lexiphaneref1_Next.f
  repeat' first
      | (with_reducible exact ih0 _ _ _ _ _ _)
      | (with_reducible exact ih1 _ _ _ _ _ _ _ _)
      | (with_reducible exact LeO.refl _)
      | (with_reducible exact LeO.none _)
      | (with_reducible refine LeO.ite ?_ ?_)
      | (with_reducible refine LeO.bind ?_ (fun _ => ?_))
      | exact ih0 _ _ _ _ _ _
      | exact ih1 _ _ _ _ _ _ _ _
      | exact LeO.none _
      | refine LeO.ite ?_ ?_
      | refine LeO.bind ?_ (fun _ => ?_)
set_option maxHeartbeats 8000000 in
set_option maxRecDepth 100000 in
theorem lexiphaneref1_Next.calls (k : Nat) (A0 : Option Addr) (c0 : Nat) (l0 : List Int) (A1 : Option Addr) (c1 : Nat) (l1 : List Int) (A2 : Option Addr) (c2 : Nat) (l2 : List Int) (a3 : Int) (r1 : Int) (r2 : Int) (r3 : Int) (w : World) (hr0 : Kd.C (Kd.int .i64) w A0 l0.length l0) (hc0 : l0.length ≤ c0) (hr1 : Kd.C (Kd.int .i64) w A1 l1.length l1) (hc1 : l1.length ≤ c1) (hr2 : Kd.C (Kd.int .i64) w A2 l2.length l2) (hc2 : l2.length ≤ c2) (h : lexiphaneref1_Next.f k l0 l1 l2 a3 = some (r1, r2, r3)) :
    Calls Tryz.prog 71 #[.slice A0 l0.length c0, .slice A1 l1.length c1, .slice A2 l2.length c2, .int .i64 a3] w fun e w' => e = .returned (.tuple #[.int .i64 r1, .int .i64 r2, .int .i64 r3]) ∧ Drawn0 w w' := by
  have HR0 := Aside0.mk hr0
  have HC0 := Aside0.mk hc0
  clear hr0 hc0
  have HR1 := Aside0.mk hr1
  have HC1 := Aside0.mk hc1
  clear hr1 hc1
  have HR2 := Aside0.mk hr2
  have HC2 := Aside0.mk hc2
  clear hr2 hc2
  have H : (lexiphaneref1_Next.l0 k l0 l1 l2 a3 0 1) = some (r1, r2, r3) := h
  clear h
  have H' := Aside0.mk H
  clear H
  go_enter Tryz.func71, Tryz.ntmps71
  go_wp2
  go_loopg [11, 12] k (fun kq v11 v12 w' => ∃ (x11_1 : Int) (x12_1 : Int), v11 = .int .i64 x11_1 ∧ v12 = .int .i64 x12_1 ∧ Aside0 (lexiphaneref1_Next.l0 kq l0 l1 l2 a3 x11_1 x12_1 = some (r1, r2, r3)) ∧ Aside0 (kq ≤ k) ∧ Drawn0 w w')
  case atStart => exact ⟨(0), (1), (by first | rfl | (simp; done) | (simp [*]; done)), (by first | rfl | (simp; done) | (simp [*]; done)), H', ⟨Nat.le_refl _⟩, by repeat (first | exact Drawn0.refl _ | apply Drawn0.step)⟩
  case round =>
    clear H'
    try clear c1
    try clear c2
    try clear p2
    obtain ⟨x11_1, x12_1, rfl, rfl, HA, HK1, ⟨m1, rfl⟩⟩ := hrel
    cases gk with
    | zero => exact absurd HA.out (by simp [lexiphaneref1_Next.l0])
    | succ k1 =>
      have H := HA.out
      clear HA
      simp only [lexiphaneref1_Next.l0] at H
      by_cases c5 : x12_1 ≤ 15
      · rw [if_pos c5] at H
        have c5b0 : decide (x12_1 ≤ 15) = true := decide_eq_true c5
        clear c5
        by_cases c6 : (wrap64 (a3 + x12_1)) > (l2.length : Int)
        · rw [if_pos c6] at H
          have c6b0 : decide ((l2.length : Int) < (wrap64 (a3 + x12_1))) = true := decide_eq_true c6
          clear c6
          simp only [Option.some.injEq, Prod.mk.injEq] at H
          obtain ⟨rfl, rfl, rfl⟩ := H
          go_wp2
          go_ret3
          exact ⟨by first | rfl | (simp; done) | (simp [*]; done), by repeat (first | exact Drawn0.refl _ | apply Drawn0.step)⟩
        · rw [if_neg c6] at H
          have c6b0 : decide ((l2.length : Int) < (wrap64 (a3 + x12_1))) = false := decide_eq_false c6
          clear c6
          obtain ⟨ji7, hji7⟩ : ∃ j_ : Int, (wrap64 ((wrap64 (a3 + x12_1)) - 1)) = j_ := ⟨_, rfl⟩
          replace H : (if 0 ≤ (ji7) then (if (ji7) < (l2.length : Int) then (lexiphaneref1_Next.l1 k1 l0 l1 l2 a3 (wrap64 ((wrap64 (x11_1 * 2)) + (rd l2 (ji7)))) x12_1 false 0) else (none)) else (none)) = some (r1, r2, r3) := by first | (rw [hji7] at H; exact H) | (simp only [hji7] at H ⊢; exact H)
          have hji7w : (IntKind.i64.wrap ((wrap64 (a3 + x12_1)) - 1)) = ji7 := (i64_w _).trans hji7
          by_cases c8 : 0 ≤ (ji7)
          · rw [if_pos c8] at H
            have c8b0 : decide (0 ≤ (ji7)) = true := decide_eq_true c8
            clear c8
            by_cases c9 : (ji7) < (l2.length : Int)
            · rw [if_pos c9] at H
              have c9b0 : decide ((ji7) < (l2.length : Int)) = true := decide_eq_true c9
              clear c9
              have H' := Aside0.mk H
              clear H
              have p287 : 0 ≤ ((ji7) : Int) := of_decide_eq_true (by first | (with_reducible assumption) | assumption)
              have q287 : (ji7) < (l2.length : Int) := of_decide_eq_true (by first | (with_reducible assumption) | assumption)
              obtain ⟨ad287, e287, hx287_0⟩ := Kd.at_int HR2.out (ji7) p287 q287
              cases e287
              replace p287 := eq_true p287
              replace q287 := eq_true q287
              go_wp2
              go_loopg [13, 14] k1 (fun kq v13 v14 w' => ∃ (x13_2 : Bool) (x14_2 : Int), v13 = .bool x13_2 ∧ v14 = .int .i64 x14_2 ∧ Aside0 (lexiphaneref1_Next.l1 kq l0 l1 l2 a3 (wrap64 ((wrap64 (x11_1 * 2)) + (rd l2 (ji7)))) x12_1 x13_2 x14_2 = some (r1, r2, r3)) ∧ Aside0 (kq ≤ k1) ∧ Drawn0 w w')
              case atStart => exact ⟨(false), (0), (by first | rfl | (simp; done) | (simp [*]; done)), (by first | rfl | (simp; done) | (simp [*]; done)), H', ⟨Nat.le_refl _⟩, by repeat (first | exact Drawn0.refl _ | apply Drawn0.step)⟩
              case round =>
                clear H'
                try clear c1
                try clear c2
                try clear p2
                try clear q2
                try clear hx2
                try clear c5
                try clear c5b0
                try clear c6
                try clear c6b0
                try clear p6
                try clear c7
                try clear c8
                try clear c8b0
                try clear c9
                try clear c9b0
                try clear hx287_0
                try clear p2
                try clear p287
                try clear q287
                obtain ⟨x13_2, x14_2, rfl, rfl, HA, HK2, ⟨m2, rfl⟩⟩ := hrel
                cases gk with
                | zero => exact absurd HA.out (by simp [lexiphaneref1_Next.l1])
                | succ k2 =>
                  have H := HA.out
                  clear HA
                  simp only [lexiphaneref1_Next.l1] at H
                  by_cases c10 : x14_2 < (l0.length : Int)
                  · rw [if_pos c10] at H
                    have c10b0 : decide (x14_2 < (l0.length : Int)) = true := decide_eq_true c10
                    clear c10
                    by_cases c11 : 0 ≤ x14_2
                    · rw [if_pos c11] at H
                      have c11b0 : decide (0 ≤ x14_2) = true := decide_eq_true c11
                      clear c11
                      by_cases c12 : (rd l0 x14_2) = x12_1
                      · rw [if_pos c12] at H
                        have c12b0 : ((rd l0 x14_2) == x12_1) = true := beq_iff_eq.mpr c12
                        have c12b1 : ((rd l0 x14_2) != x12_1) = false := bne_eq_false_iff_eq.mpr c12
                        clear c12
                        by_cases c13 : x14_2 < (l1.length : Int)
                        · rw [if_pos c13] at H
                          have c13b0 : decide (x14_2 < (l1.length : Int)) = true := decide_eq_true c13
                          clear c13
                          by_cases c14 : (rd l1 x14_2) = (wrap64 ((wrap64 (x11_1 * 2)) + (rd l2 (ji7))))
                          · rw [if_pos c14] at H
                            have c14b0 : ((rd l1 x14_2) == (wrap64 ((wrap64 (x11_1 * 2)) + (rd l2 (ji7))))) = true := beq_iff_eq.mpr c14
                            have c14b1 : ((rd l1 x14_2) != (wrap64 ((wrap64 (x11_1 * 2)) + (rd l2 (ji7))))) = false := bne_eq_false_iff_eq.mpr c14
                            clear c14
                            simp only [Option.some.injEq, Prod.mk.injEq] at H
                            obtain ⟨rfl, rfl, rfl⟩ := H
                            have p288 : 0 ≤ (x14_2 : Int) := of_decide_eq_true (by first | (with_reducible assumption) | assumption)
                            have q288 : x14_2 < (l0.length : Int) := of_decide_eq_true (by first | (with_reducible assumption) | assumption)
                            obtain ⟨ad288, e288, hx288_0⟩ := Kd.at_int HR0.out x14_2 p288 q288
                            cases e288
                            replace p288 := eq_true p288
                            replace q288 := eq_true q288
                            have p289 : 0 ≤ (x14_2 : Int) := of_decide_eq_true (by first | (with_reducible assumption) | assumption)
                            have q289 : x14_2 < (l1.length : Int) := of_decide_eq_true (by first | (with_reducible assumption) | assumption)
                            obtain ⟨ad289, e289, hx289_0⟩ := Kd.at_int HR1.out x14_2 p289 q289
                            cases e289
                            replace p289 := eq_true p289
                            replace q289 := eq_true q289
                            go_wp2
                            go_ret3
                            exact ⟨by first | rfl | (simp; done) | (simp only [← hji7] <;> (first | rfl | simp)) | (simp [*]; done), by repeat (first | exact Drawn0.refl _ | apply Drawn0.step)⟩
                          · rw [if_neg c14] at H
                            have c14b0 : ((rd l1 x14_2) == (wrap64 ((wrap64 (x11_1 * 2)) + (rd l2 (ji7))))) = false := beq_eq_false_iff_ne.mpr c14
                            have c14b1 : ((rd l1 x14_2) != (wrap64 ((wrap64 (x11_1 * 2)) + (rd l2 (ji7))))) = true := bne_iff_ne.mpr c14
                            by_cases c15 : x13_2 = true
                            · subst c15
                              have H1 : (lexiphaneref1_Next.l1 k2 l0 l1 l2 a3 (wrap64 ((wrap64 (x11_1 * 2)) + (rd l2 (ji7)))) x12_1 true (wrap64 (x14_2 + 1))) = some (r1, r2, r3) := by rw [if_pos rfl] at H; exact H
                              clear H
                              have H := H1
                              clear H1
                              have H' := Aside0.mk H
                              clear H
                              have p288 : 0 ≤ (x14_2 : Int) := of_decide_eq_true (by first | (with_reducible assumption) | assumption)
                              have q288 : x14_2 < (l0.length : Int) := of_decide_eq_true (by first | (with_reducible assumption) | assumption)
                              obtain ⟨ad288, e288, hx288_0⟩ := Kd.at_int HR0.out x14_2 p288 q288
                              cases e288
                              replace p288 := eq_true p288
                              replace q288 := eq_true q288
                              have p289 : 0 ≤ (x14_2 : Int) := of_decide_eq_true (by first | (with_reducible assumption) | assumption)
                              have q289 : x14_2 < (l1.length : Int) := of_decide_eq_true (by first | (with_reducible assumption) | assumption)
                              obtain ⟨ad289, e289, hx289_0⟩ := Kd.at_int HR1.out x14_2 p289 q289
                              cases e289
                              replace p289 := eq_true p289
                              replace q289 := eq_true q289
                              go_wp2
                              go_roundg k2
                              case measure => have := HK1.out; have := HK2.out; omega
                              case rel => exact ⟨(true), (wrap64 (x14_2 + 1)), (by first | rfl | (simp; done) | (simp [*]; done)), (by first | rfl | (simp; done) | (simp [*]; done)), H', ⟨by have := HK1.out; have := HK2.out; omega⟩, by repeat (first | exact Drawn0.refl _ | apply Drawn0.step)⟩
                            · replace c15 := Bool.eq_false_iff.mpr c15
                              subst c15
                              have H1 : (lexiphaneref1_Next.l1 k2 l0 l1 l2 a3 (wrap64 ((wrap64 (x11_1 * 2)) + (rd l2 (ji7)))) x12_1 (decide ((rd l0 x14_2) > x12_1)) (wrap64 (x14_2 + 1))) = some (r1, r2, r3) := by rw [if_neg (show ¬ (false = true) by decide)] at H; exact H
                              clear H
                              have H := H1
                              clear H1
                              have H' := Aside0.mk H
                              clear H
                              have p288 : 0 ≤ (x14_2 : Int) := of_decide_eq_true (by first | (with_reducible assumption) | assumption)
                              have q288 : x14_2 < (l0.length : Int) := of_decide_eq_true (by first | (with_reducible assumption) | assumption)
                              obtain ⟨ad288, e288, hx288_0⟩ := Kd.at_int HR0.out x14_2 p288 q288
                              cases e288
                              replace p288 := eq_true p288
                              replace q288 := eq_true q288
                              have p289 : 0 ≤ (x14_2 : Int) := of_decide_eq_true (by first | (with_reducible assumption) | assumption)
                              have q289 : x14_2 < (l1.length : Int) := of_decide_eq_true (by first | (with_reducible assumption) | assumption)
                              obtain ⟨ad289, e289, hx289_0⟩ := Kd.at_int HR1.out x14_2 p289 q289
                              cases e289
                              replace p289 := eq_true p289
                              replace q289 := eq_true q289
                              have p290 : 0 ≤ (x14_2 : Int) := of_decide_eq_true (by first | (with_reducible assumption) | assumption)
                              have q290 : x14_2 < (l0.length : Int) := of_decide_eq_true (by first | (with_reducible assumption) | assumption)
                              obtain ⟨ad290, e290, hx290_0⟩ := Kd.at_int HR0.out x14_2 p290 q290
                              obtain rfl : ad288 = ad290 := (by injection e290)
                              replace p290 := eq_true p290
                              replace q290 := eq_true q290
                              go_wp2
                              go_roundg k2
                              case measure => have := HK1.out; have := HK2.out; omega
                              case rel => exact ⟨(decide ((rd l0 x14_2) > x12_1)), (wrap64 (x14_2 + 1)), (by first | rfl | (simp; done) | (simp [*]; done)), (by first | rfl | (simp; done) | (simp [*]; done)), H', ⟨by have := HK1.out; have := HK2.out; omega⟩, by repeat (first | exact Drawn0.refl _ | apply Drawn0.step)⟩
                        · rw [if_neg c13] at H
                          exact absurd H (by simp)
                      · rw [if_neg c12] at H
                        have c12b0 : ((rd l0 x14_2) == x12_1) = false := beq_eq_false_iff_ne.mpr c12
                        have c12b1 : ((rd l0 x14_2) != x12_1) = true := bne_iff_ne.mpr c12
                        by_cases c16 : x13_2 = true
                        · subst c16
                          have H1 : (lexiphaneref1_Next.l1 k2 l0 l1 l2 a3 (wrap64 ((wrap64 (x11_1 * 2)) + (rd l2 (ji7)))) x12_1 true (wrap64 (x14_2 + 1))) = some (r1, r2, r3) := by rw [if_pos rfl] at H; exact H
                          clear H
                          have H := H1
                          clear H1
                          have H' := Aside0.mk H
                          clear H
                          have p288 : 0 ≤ (x14_2 : Int) := of_decide_eq_true (by first | (with_reducible assumption) | assumption)
                          have q288 : x14_2 < (l0.length : Int) := of_decide_eq_true (by first | (with_reducible assumption) | assumption)
                          obtain ⟨ad288, e288, hx288_0⟩ := Kd.at_int HR0.out x14_2 p288 q288
                          cases e288
                          replace p288 := eq_true p288
                          replace q288 := eq_true q288
                          go_wp2
                          go_roundg k2
                          case measure => have := HK1.out; have := HK2.out; omega
                          case rel => exact ⟨(true), (wrap64 (x14_2 + 1)), (by first | rfl | (simp; done) | (simp [*]; done)), (by first | rfl | (simp; done) | (simp [*]; done)), H', ⟨by have := HK1.out; have := HK2.out; omega⟩, by repeat (first | exact Drawn0.refl _ | apply Drawn0.step)⟩
                        · replace c16 := Bool.eq_false_iff.mpr c16
                          subst c16
                          have H1 : (lexiphaneref1_Next.l1 k2 l0 l1 l2 a3 (wrap64 ((wrap64 (x11_1 * 2)) + (rd l2 (ji7)))) x12_1 (decide ((rd l0 x14_2) > x12_1)) (wrap64 (x14_2 + 1))) = some (r1, r2, r3) := by rw [if_neg (show ¬ (false = true) by decide)] at H; exact H
                          clear H
                          have H := H1
                          clear H1
                          have H' := Aside0.mk H
                          clear H
                          have p288 : 0 ≤ (x14_2 : Int) := of_decide_eq_true (by first | (with_reducible assumption) | assumption)
                          have q288 : x14_2 < (l0.length : Int) := of_decide_eq_true (by first | (with_reducible assumption) | assumption)
                          obtain ⟨ad288, e288, hx288_0⟩ := Kd.at_int HR0.out x14_2 p288 q288
                          cases e288
                          replace p288 := eq_true p288
                          replace q288 := eq_true q288
                          have p291 : 0 ≤ (x14_2 : Int) := of_decide_eq_true (by first | (with_reducible assumption) | assumption)
                          have q291 : x14_2 < (l0.length : Int) := of_decide_eq_true (by first | (with_reducible assumption) | assumption)
                          obtain ⟨ad291, e291, hx291_0⟩ := Kd.at_int HR0.out x14_2 p291 q291
                          obtain rfl : ad288 = ad291 := (by injection e291)
                          replace p291 := eq_true p291
                          replace q291 := eq_true q291
                          go_wp2
                          go_roundg k2
                          case measure => have := HK1.out; have := HK2.out; omega
                          case rel => exact ⟨(decide ((rd l0 x14_2) > x12_1)), (wrap64 (x14_2 + 1)), (by first | rfl | (simp; done) | (simp [*]; done)), (by first | rfl | (simp; done) | (simp [*]; done)), H', ⟨by have := HK1.out; have := HK2.out; omega⟩, by repeat (first | exact Drawn0.refl _ | apply Drawn0.step)⟩
                    · rw [if_neg c11] at H
                      exact absurd H (by simp)
                  · rw [if_neg c10] at H
                    have c10b0 : decide (x14_2 < (l0.length : Int)) = false := decide_eq_false c10
                    clear c10
                    by_cases c17 : x13_2 = true
                    · subst c17
                      have H1 : (lexiphaneref1_Next.l0 k2 l0 l1 l2 a3 (wrap64 ((wrap64 (x11_1 * 2)) + (rd l2 (ji7)))) (wrap64 (x12_1 + 1))) = some (r1, r2, r3) := by rw [if_pos rfl] at H; exact H
                      clear H
                      have H := H1
                      clear H1
                      have H' := Aside0.mk H
                      clear H
                      go_wp2
                      go_roundg k2
                      case measure => have := HK1.out; have := HK2.out; omega
                      case rel => exact ⟨((wrap64 ((wrap64 (x11_1 * 2)) + (rd l2 (ji7))))), (wrap64 (x12_1 + 1)), (by first | rfl | (simp; done) | (simp only [← hji7] <;> (first | rfl | simp)) | (simp [*]; done)), (by first | rfl | (simp; done) | (simp [*]; done)), H', ⟨by have := HK1.out; have := HK2.out; omega⟩, by repeat (first | exact Drawn0.refl _ | apply Drawn0.step)⟩
                    · replace c17 := Bool.eq_false_iff.mpr c17
                      subst c17
                      have H1 : (some (0, 0, 8)) = some (r1, r2, r3) := by rw [if_neg (show ¬ (false = true) by decide)] at H; exact H
                      clear H
                      have H := H1
                      clear H1
                      simp only [Option.some.injEq, Prod.mk.injEq] at H
                      obtain ⟨rfl, rfl, rfl⟩ := H
                      go_wp2
                      go_ret3
                      exact ⟨by first | rfl | (simp; done) | (simp only [← hji7] <;> (first | rfl | simp)) | (simp [*]; done), by repeat (first | exact Drawn0.refl _ | apply Drawn0.step)⟩
            · rw [if_neg c9] at H
              exact absurd H (by simp)
          · rw [if_neg c8] at H
            exact absurd H (by simp)
      · rw [if_neg c5] at H
        have c5b0 : decide (x12_1 ≤ 15) = false := decide_eq_false c5
        clear c5
        simp only [Option.some.injEq, Prod.mk.injEq] at H
        obtain ⟨rfl, rfl, rfl⟩ := H
        go_wp2
        go_ret3
        exact ⟨by first | rfl | (simp; done) | (simp [*]; done), by repeat (first | exact Drawn0.refl _ | apply Drawn0.step)⟩
mutual
def lexiphaneref1_Get.j0 : Nat → List ByteArray → Int → Int → Int → ByteArray → Bool → Option (ByteArray × Int)
  | 0, _, _, _, _, _, _ => none
  | k + 1, x0, x1, x2, x3, x4, x45 => if x45 = true then (some ((⟨#[]⟩ : ByteArray), 1)) else (if x2 = 1 then (if (x4.size : Int) = x3 then (some (x4, 0)) else (some ((⟨#[]⟩ : ByteArray), 12))) else (if x1 = 0 then ((lexiphaneref1_numbers.f k x0 x3 x4).bind fun bt292 => (some (bt292.1, bt292.2))) else ((lexiphaneref1_Untab.f k x4 (wrap64 (256 + (x0.length : Int)))).bind fun bt294 => (if bt294.2.2 = 0 then ((lexiphaneref1_Codes.f k bt294.1).bind fun bt299 => (if bt299.2 = 0 then (if 0 ≤ bt294.2.1 then (if bt294.2.1 ≤ (x4.size : Int) then ((lexiphaneref1_bitsOf.f k (x4.extract (bt294.2.1 : Int).toNat x4.size)).bind fun t303 => (lexiphaneref1_Get.l0 k x0 x3 bt294.1 bt299.1 t303 (⟨#[]⟩ : ByteArray) 0)) else (none)) else (none)) else (some ((⟨#[]⟩ : ByteArray), bt299.2)))) else (some ((⟨#[]⟩ : ByteArray), bt294.2.2))))))
def lexiphaneref1_Get.l0 : Nat → List ByteArray → Int → List Int → List Int → List Int → ByteArray → Int → Option (ByteArray × Int)
  | 0, _, _, _, _, _, _, _ => none
  | k + 1, x0, x3, x12, x15, x16, x17, x18 => if (x17.size : Int) < x3 then ((lexiphaneref1_Next.f k x12 x15 x16 x18).bind fun bt306 => (if bt306.2.2 = 0 then ((lexiphaneref1_Means.f k x0 bt306.1).bind fun bt309 => (if (wrap64 ((x17.size : Int) + (bt309.1.size : Int))) > x3 then (some ((⟨#[]⟩ : ByteArray), 12)) else (if x17.size + bt309.1.size ≤ 9223372036854775807 then (lexiphaneref1_Get.l0 k x0 x3 x12 x15 x16 (x17 ++ bt309.1) (wrap64 (x18 + bt306.2.1))) else (none)))) else (some ((⟨#[]⟩ : ByteArray), bt306.2.2)))) else (if (wrap64 ((x16.length : Int) - x18)) ≥ 8 then (some ((⟨#[]⟩ : ByteArray), 13)) else (lexiphaneref1_Get.l1 k x16 x17 x18))
def lexiphaneref1_Get.l1 : Nat → List Int → ByteArray → Int → Option (ByteArray × Int)
  | 0, _, _, _ => none
  | k + 1, x16, x17, x18 => if x18 < (x16.length : Int) then (if 0 ≤ x18 then (if (rd x16 x18) = 0 then (lexiphaneref1_Get.l1 k x16 x17 (wrap64 (x18 + 1))) else (some ((⟨#[]⟩ : ByteArray), 13))) else (none)) else (some (x17, 0))
end
def lexiphaneref1_Get.f (k : Nat) (l0 : List ByteArray) (a1 : Int) (a2 : Int) (a3 : Int) (a4 : ByteArray) : Option (ByteArray × Int) := if a1 < 0 then (lexiphaneref1_Get.j0 k l0 a1 a2 a3 a4 true) else (if a1 > 1 then (lexiphaneref1_Get.j0 k l0 a1 a2 a3 a4 true) else (if a2 = 1 then (if a3 < 1 then (lexiphaneref1_Get.j0 k l0 a1 a2 a3 a4 true) else (lexiphaneref1_Get.j0 k l0 a1 a2 a3 a4 (decide (a3 > 1024)))) else (if a2 = 2 then (if a3 < 1 then (lexiphaneref1_Get.j0 k l0 a1 a2 a3 a4 true) else (lexiphaneref1_Get.j0 k l0 a1 a2 a3 a4 (decide (a3 > 1024)))) else (lexiphaneref1_Get.j0 k l0 a1 a2 a3 a4 true))))
theorem lexiphaneref1_Get.mono_l : ∀ k, (∀ y0 y1 y2 y3 y4 y5, LeO (lexiphaneref1_Get.j0 k y0 y1 y2 y3 y4 y5) (lexiphaneref1_Get.j0 (k + 1) y0 y1 y2 y3 y4 y5)) ∧ (∀ y0 y1 y2 y3 y4 y5 y6, LeO (lexiphaneref1_Get.l0 k y0 y1 y2 y3 y4 y5 y6) (lexiphaneref1_Get.l0 (k + 1) y0 y1 y2 y3 y4 y5 y6)) ∧ (∀ y0 y1 y2, LeO (lexiphaneref1_Get.l1 k y0 y1 y2) (lexiphaneref1_Get.l1 (k + 1) y0 y1 y2))
  | 0 => ⟨fun _ _ _ _ _ _ r h => by simp [lexiphaneref1_Get.j0] at h, fun _ _ _ _ _ _ _ r h => by simp [lexiphaneref1_Get.l0] at h, fun _ _ _ r h => by simp [lexiphaneref1_Get.l1] at h⟩
  | k + 1 => by
    obtain ⟨ih0, ih1, ih2⟩ := lexiphaneref1_Get.mono_l k
    refine ⟨?_, ?_, ?_⟩
    · intro y0 y1 y2 y3 y4 y5
      unfold lexiphaneref1_Get.j0
      repeat' first
      | (with_reducible exact ih0 _ _ _ _ _ _)
      | (with_reducible exact ih1 _ _ _ _ _ _ _)
      | (with_reducible exact ih2 _ _ _)
      | (with_reducible exact lexiphaneref1_Codes.mono _ _)
      | (with_reducible exact lexiphaneref1_Means.mono _ _ _)
      | (with_reducible exact lexiphaneref1_Next.mono _ _ _ _ _)
      | (with_reducible exact lexiphaneref1_Untab.mono _ _ _)
      | (with_reducible exact lexiphaneref1_bitsOf.mono _ _)
      | (with_reducible exact lexiphaneref1_numbers.mono _ _ _ _)
      | (with_reducible exact LeO.refl _)
      | (with_reducible exact LeO.none _)
      | (with_reducible refine LeO.ite ?_ ?_)
      | (with_reducible refine LeO.bind ?_ (fun _ => ?_))
      | exact ih0 _ _ _ _ _ _
      | exact ih1 _ _ _ _ _ _ _
      | exact ih2 _ _ _
      | exact lexiphaneref1_Codes.mono _ _
      | exact lexiphaneref1_Means.mono _ _ _
      | exact lexiphaneref1_Next.mono _ _ _ _ _
      | exact lexiphaneref1_Untab.mono _ _ _
      | exact lexiphaneref1_bitsOf.mono _ _
      | exact lexiphaneref1_numbers.mono _ _ _ _
      | exact LeO.none _
      | refine LeO.ite ?_ ?_
      | refine LeO.bind ?_ (fun _ => ?_)
    · intro y0 y1 y2 y3 y4 y5 y6
      unfold lexiphaneref1_Get.l0
      repeat' first
      | (with_reducible exact ih0 _ _ _ _ _ _)
      | (with_reducible exact ih1 _ _ _ _ _ _ _)
      | (with_reducible exact ih2 _ _ _)
      | (with_reducible exact lexiphaneref1_Codes.mono _ _)
      | (with_reducible exact lexiphaneref1_Means.mono _ _ _)
      | (with_reducible exact lexiphaneref1_Next.mono _ _ _ _ _)
      | (with_reducible exact lexiphaneref1_Untab.mono _ _ _)
      | (with_reducible exact lexiphaneref1_bitsOf.mono _ _)
      | (with_reducible exact lexiphaneref1_numbers.mono _ _ _ _)
      | (with_reducible exact LeO.refl _)
      | (with_reducible exact LeO.none _)
      | (with_reducible refine LeO.ite ?_ ?_)
      | (with_reducible refine LeO.bind ?_ (fun _ => ?_))
      | exact ih0 _ _ _ _ _ _
      | exact ih1 _ _ _ _ _ _ _
      | exact ih2 _ _ _
      | exact lexiphaneref1_Codes.mono _ _
      | exact lexiphaneref1_Means.mono _ _ _
      | exact lexiphaneref1_Next.mono _ _ _ _ _
      | exact lexiphaneref1_Untab.mono _ _ _
      | exact lexiphaneref1_bitsOf.mono _ _
      | exact lexiphaneref1_numbers.mono _ _ _ _
      | exact LeO.none _
      | refine LeO.ite ?_ ?_
      | refine LeO.bind ?_ (fun _ => ?_)
    · intro y0 y1 y2
      unfold lexiphaneref1_Get.l1
      repeat' first
      | (with_reducible exact ih0 _ _ _ _ _ _)
      | (with_reducible exact ih1 _ _ _ _ _ _ _)
      | (with_reducible exact ih2 _ _ _)
      | (with_reducible exact lexiphaneref1_Codes.mono _ _)
      | (with_reducible exact lexiphaneref1_Means.mono _ _ _)
      | (with_reducible exact lexiphaneref1_Next.mono _ _ _ _ _)
      | (with_reducible exact lexiphaneref1_Untab.mono _ _ _)
      | (with_reducible exact lexiphaneref1_bitsOf.mono _ _)
      | (with_reducible exact lexiphaneref1_numbers.mono _ _ _ _)
      | (with_reducible exact LeO.refl _)
      | (with_reducible exact LeO.none _)
      | (with_reducible refine LeO.ite ?_ ?_)
      | (with_reducible refine LeO.bind ?_ (fun _ => ?_))
      | exact ih0 _ _ _ _ _ _
      | exact ih1 _ _ _ _ _ _ _
      | exact ih2 _ _ _
      | exact lexiphaneref1_Codes.mono _ _
      | exact lexiphaneref1_Means.mono _ _ _
      | exact lexiphaneref1_Next.mono _ _ _ _ _
      | exact lexiphaneref1_Untab.mono _ _ _
      | exact lexiphaneref1_bitsOf.mono _ _
      | exact lexiphaneref1_numbers.mono _ _ _ _
      | exact LeO.none _
      | refine LeO.ite ?_ ?_
      | refine LeO.bind ?_ (fun _ => ?_)
theorem lexiphaneref1_Get.mono : ∀ a0 a1 a2 a3 a4 k, LeO (lexiphaneref1_Get.f k a0 a1 a2 a3 a4) (lexiphaneref1_Get.f (k + 1) a0 a1 a2 a3 a4) := by
  intro a0 a1 a2 a3 a4 k
  obtain ⟨ih0, ih1, ih2⟩ := lexiphaneref1_Get.mono_l k
  unfold lexiphaneref1_Get.f
  repeat' first
      | (with_reducible exact ih0 _ _ _ _ _ _)
      | (with_reducible exact ih1 _ _ _ _ _ _ _)
      | (with_reducible exact ih2 _ _ _)
      | (with_reducible exact lexiphaneref1_Codes.mono _ _)
      | (with_reducible exact lexiphaneref1_Means.mono _ _ _)
      | (with_reducible exact lexiphaneref1_Next.mono _ _ _ _ _)
      | (with_reducible exact lexiphaneref1_Untab.mono _ _ _)
      | (with_reducible exact lexiphaneref1_bitsOf.mono _ _)
      | (with_reducible exact lexiphaneref1_numbers.mono _ _ _ _)
      | (with_reducible exact LeO.refl _)
      | (with_reducible exact LeO.none _)
      | (with_reducible refine LeO.ite ?_ ?_)
      | (with_reducible refine LeO.bind ?_ (fun _ => ?_))
      | exact ih0 _ _ _ _ _ _
      | exact ih1 _ _ _ _ _ _ _
      | exact ih2 _ _ _
      | exact lexiphaneref1_Codes.mono _ _
      | exact lexiphaneref1_Means.mono _ _ _
      | exact lexiphaneref1_Next.mono _ _ _ _ _
      | exact lexiphaneref1_Untab.mono _ _ _
      | exact lexiphaneref1_bitsOf.mono _ _
      | exact lexiphaneref1_numbers.mono _ _ _ _
      | exact LeO.none _
      | refine LeO.ite ?_ ?_
      | refine LeO.bind ?_ (fun _ => ?_)
set_option maxHeartbeats 8000000 in
set_option maxRecDepth 100000 in
theorem lexiphaneref1_Get.calls (k : Nat) (A0 : Option Addr) (c0 : Nat) (l0 : List ByteArray) (a1 : Int) (a2 : Int) (a3 : Int) (a4 : ByteArray) (r1 : ByteArray) (r2 : Int) (w : World) (hr0 : Kd.C Kd.string w A0 l0.length l0) (hc0 : l0.length ≤ c0) (h : lexiphaneref1_Get.f k l0 a1 a2 a3 a4 = some (r1, r2)) :
    Calls Tryz.prog 48 #[.slice A0 l0.length c0, .int .i64 a1, .int .i64 a2, .int .i64 a3, .string a4] w fun e w' => e = .returned (.tuple #[.string r1, .int .i64 r2]) ∧ Below w.heap.size w w' := by
  have HR0 := Aside0.mk hr0
  have HC0 := Aside0.mk hc0
  clear hr0 hc0
  have HB := Aside0.mk (Below.refl w.heap.size w)
  have H : (if a1 < 0 then (lexiphaneref1_Get.j0 k l0 a1 a2 a3 a4 true) else (if a1 > 1 then (lexiphaneref1_Get.j0 k l0 a1 a2 a3 a4 true) else (if a2 = 1 then (if a3 < 1 then (lexiphaneref1_Get.j0 k l0 a1 a2 a3 a4 true) else (lexiphaneref1_Get.j0 k l0 a1 a2 a3 a4 (decide (a3 > 1024)))) else (if a2 = 2 then (if a3 < 1 then (lexiphaneref1_Get.j0 k l0 a1 a2 a3 a4 true) else (lexiphaneref1_Get.j0 k l0 a1 a2 a3 a4 (decide (a3 > 1024)))) else (lexiphaneref1_Get.j0 k l0 a1 a2 a3 a4 true))))) = some (r1, r2) := h
  clear h
  have HC6 := Aside0.mk H
  clear H
  go_enter Tryz.func48, Tryz.ntmps48
  go_upto_region 1 with (fail)
  go_cut [45] (fun v45 wc => ∃ (kq : Nat) (x45_5 : Bool), v45 = .bool x45_5 ∧ Aside0 (lexiphaneref1_Get.j0 kq l0 a1 a2 a3 a4 x45_5 = some (r1, r2)) ∧ Aside0 (kq ≤ k) ∧ Aside0 (Below w.heap.size w wc))
  case first =>
    have H := HC6.out
    clear HC6
    by_cases c7 : a1 < 0
    · rw [if_pos c7] at H
      have c7b0 : decide (a1 < 0) = true := decide_eq_true c7
      clear c7
      (first | rw [c7b0] | (simp only [i64_w, i32_w]; rw [c7b0]) | skip)
      have H' := Aside0.mk H
      clear H
      go_wp2
      go_meet
      case rel => exact ⟨_, (true), (by first | rfl | (simp; done) | (simp [*]; done)), H', ⟨by first | omega | exact Nat.le_refl _⟩, ⟨by repeat (first | (with_reducible first | exact HB.out | apply below_alloc | apply pw_below_drewN | apply below_drew1) | exact HB.out)⟩⟩
    · rw [if_neg c7] at H
      have c7b0 : decide (a1 < 0) = false := decide_eq_false c7
      clear c7
      (first | rw [c7b0] | (simp only [i64_w, i32_w]; rw [c7b0]) | skip)
      by_cases c8 : a1 > 1
      · rw [if_pos c8] at H
        have c8b0 : decide (1 < a1) = true := decide_eq_true c8
        clear c8
        have H' := Aside0.mk H
        clear H
        go_wp2
        go_meet
        case rel => exact ⟨_, (true), (by first | rfl | (simp; done) | (simp [*]; done)), H', ⟨by first | omega | exact Nat.le_refl _⟩, ⟨by repeat (first | (with_reducible first | exact HB.out | apply below_alloc | apply pw_below_drewN | apply below_drew1) | exact HB.out)⟩⟩
      · rw [if_neg c8] at H
        have c8b0 : decide (1 < a1) = false := decide_eq_false c8
        clear c8
        by_cases c9 : a2 = 1
        · rw [if_pos c9] at H
          have c9b0 : (a2 == 1) = true := beq_iff_eq.mpr c9
          have c9b1 : (a2 != 1) = false := bne_eq_false_iff_eq.mpr c9
          clear c9
          by_cases c10 : a3 < 1
          · rw [if_pos c10] at H
            have c10b0 : decide (a3 < 1) = true := decide_eq_true c10
            clear c10
            have H' := Aside0.mk H
            clear H
            go_wp2
            go_meet
            case rel => exact ⟨_, (true), (by first | rfl | (simp; done) | (simp [*]; done)), H', ⟨by first | omega | exact Nat.le_refl _⟩, ⟨by repeat (first | (with_reducible first | exact HB.out | apply below_alloc | apply pw_below_drewN | apply below_drew1) | exact HB.out)⟩⟩
          · rw [if_neg c10] at H
            have c10b0 : decide (a3 < 1) = false := decide_eq_false c10
            clear c10
            have H' := Aside0.mk H
            clear H
            go_wp2
            go_meet
            case rel => exact ⟨_, (decide (a3 > 1024)), (by first | rfl | (simp; done) | (simp [*]; done)), H', ⟨by first | omega | exact Nat.le_refl _⟩, ⟨by repeat (first | (with_reducible first | exact HB.out | apply below_alloc | apply pw_below_drewN | apply below_drew1) | exact HB.out)⟩⟩
        · rw [if_neg c9] at H
          have c9b0 : (a2 == 1) = false := beq_eq_false_iff_ne.mpr c9
          have c9b1 : (a2 != 1) = true := bne_iff_ne.mpr c9
          by_cases c11 : a2 = 2
          · rw [if_pos c11] at H
            have c11b0 : (a2 == 2) = true := beq_iff_eq.mpr c11
            have c11b1 : (a2 != 2) = false := bne_eq_false_iff_eq.mpr c11
            clear c11
            by_cases c12 : a3 < 1
            · rw [if_pos c12] at H
              have c12b0 : decide (a3 < 1) = true := decide_eq_true c12
              clear c12
              have H' := Aside0.mk H
              clear H
              go_wp2
              go_meet
              case rel => exact ⟨_, (true), (by first | rfl | (simp; done) | (simp [*]; done)), H', ⟨by first | omega | exact Nat.le_refl _⟩, ⟨by repeat (first | (with_reducible first | exact HB.out | apply below_alloc | apply pw_below_drewN | apply below_drew1) | exact HB.out)⟩⟩
            · rw [if_neg c12] at H
              have c12b0 : decide (a3 < 1) = false := decide_eq_false c12
              clear c12
              have H' := Aside0.mk H
              clear H
              go_wp2
              go_meet
              case rel => exact ⟨_, (decide (a3 > 1024)), (by first | rfl | (simp; done) | (simp [*]; done)), H', ⟨by first | omega | exact Nat.le_refl _⟩, ⟨by repeat (first | (with_reducible first | exact HB.out | apply below_alloc | apply pw_below_drewN | apply below_drew1) | exact HB.out)⟩⟩
          · rw [if_neg c11] at H
            have c11b0 : (a2 == 2) = false := beq_eq_false_iff_ne.mpr c11
            have c11b1 : (a2 != 2) = true := bne_iff_ne.mpr c11
            have H' := Aside0.mk H
            clear H
            go_wp2
            go_meet
            case rel => exact ⟨_, (true), (by first | rfl | (simp; done) | (simp [*]; done)), H', ⟨by first | omega | exact Nat.le_refl _⟩, ⟨by repeat (first | (with_reducible first | exact HB.out | apply below_alloc | apply pw_below_drewN | apply below_drew1) | exact HB.out)⟩⟩
  case rest =>
    clear HC6
    try clear c1
    try clear p2
    try clear c4
    try clear c7
    try clear c7b0
    try clear c8
    try clear c8b0
    try clear c9
    try clear c9b0
    try clear c9b1
    try clear c10
    try clear c10b0
    try clear c11
    try clear c11b0
    try clear c11b1
    try clear c12
    try clear c12b0
    obtain ⟨kq, x45_5, rfl, HA, HJ5, HB⟩ := hcut
    cases kq with
    | zero => exact absurd HA.out (by simp [lexiphaneref1_Get.j0])
    | succ kj5 =>
      have H := HA.out
      clear HA
      simp only [lexiphaneref1_Get.j0] at H
      by_cases c13 : x45_5 = true
      · subst c13
        have H1 : (some ((⟨#[]⟩ : ByteArray), 1)) = some (r1, r2) := by rw [if_pos rfl] at H; exact H
        clear H
        have H := H1
        clear H1
        simp only [Option.some.injEq, Prod.mk.injEq] at H
        obtain ⟨rfl, rfl⟩ := H
        go_wp2
        go_ret2
        exact ⟨by first | rfl | (simp [errW_none, errW_some] <;> rfl) | (simp [*, errW_none, errW_some] <;> rfl), by repeat (first | (with_reducible first | exact HB.out | apply below_alloc | apply pw_below_drewN | apply below_drew1) | exact HB.out)⟩
      · replace c13 := Bool.eq_false_iff.mpr c13
        subst c13
        have H1 : (if a2 = 1 then (if (a4.size : Int) = a3 then (some (a4, 0)) else (some ((⟨#[]⟩ : ByteArray), 12))) else (if a1 = 0 then ((lexiphaneref1_numbers.f kj5 l0 a3 a4).bind fun bt292 => (some (bt292.1, bt292.2))) else ((lexiphaneref1_Untab.f kj5 a4 (wrap64 (256 + (l0.length : Int)))).bind fun bt294 => (if bt294.2.2 = 0 then ((lexiphaneref1_Codes.f kj5 bt294.1).bind fun bt299 => (if bt299.2 = 0 then (if 0 ≤ bt294.2.1 then (if bt294.2.1 ≤ (a4.size : Int) then ((lexiphaneref1_bitsOf.f kj5 (a4.extract (bt294.2.1 : Int).toNat a4.size)).bind fun t303 => (lexiphaneref1_Get.l0 kj5 l0 a3 bt294.1 bt299.1 t303 (⟨#[]⟩ : ByteArray) 0)) else (none)) else (none)) else (some ((⟨#[]⟩ : ByteArray), bt299.2)))) else (some ((⟨#[]⟩ : ByteArray), bt294.2.2)))))) = some (r1, r2) := by rw [if_neg (show ¬ (false = true) by decide)] at H; exact H
        clear H
        have H := H1
        clear H1
        by_cases c14 : a2 = 1
        · rw [if_pos c14] at H
          have c14b0 : (a2 == 1) = true := beq_iff_eq.mpr c14
          have c14b1 : (a2 != 1) = false := bne_eq_false_iff_eq.mpr c14
          clear c14
          by_cases c15 : (a4.size : Int) = a3
          · rw [if_pos c15] at H
            have c15b0 : ((a4.size : Int) == a3) = true := beq_iff_eq.mpr c15
            have c15b1 : ((a4.size : Int) != a3) = false := bne_eq_false_iff_eq.mpr c15
            clear c15
            simp only [Option.some.injEq, Prod.mk.injEq] at H
            obtain ⟨rfl, rfl⟩ := H
            go_wp2
            go_ret2
            exact ⟨by first | rfl | (simp [errW_none, errW_some] <;> rfl) | (simp [*, errW_none, errW_some] <;> rfl), by repeat (first | (with_reducible first | exact HB.out | apply below_alloc | apply pw_below_drewN | apply below_drew1) | exact HB.out)⟩
          · rw [if_neg c15] at H
            have c15b0 : ((a4.size : Int) == a3) = false := beq_eq_false_iff_ne.mpr c15
            have c15b1 : ((a4.size : Int) != a3) = true := bne_iff_ne.mpr c15
            simp only [Option.some.injEq, Prod.mk.injEq] at H
            obtain ⟨rfl, rfl⟩ := H
            go_wp2
            go_ret2
            exact ⟨by first | rfl | (simp [errW_none, errW_some] <;> rfl) | (simp [*, errW_none, errW_some] <;> rfl), by repeat (first | (with_reducible first | exact HB.out | apply below_alloc | apply pw_below_drewN | apply below_drew1) | exact HB.out)⟩
        · rw [if_neg c14] at H
          have c14b0 : (a2 == 1) = false := beq_eq_false_iff_ne.mpr c14
          have c14b1 : (a2 != 1) = true := bne_iff_ne.mpr c14
          by_cases c16 : a1 = 0
          · rw [if_pos c16] at H
            have c16b0 : (a1 == 0) = true := beq_iff_eq.mpr c16
            have c16b1 : (a1 != 0) = false := bne_eq_false_iff_eq.mpr c16
            clear c16
            replace H := Option.bind_eq_some_iff.mp H
            obtain ⟨⟨t292, t293⟩, A170, H⟩ := H
            replace H : (some (t292, t293)) = some (r1, r2) := H
            have A17 := Aside0.mk A170
            clear A170
            simp only [Option.some.injEq, Prod.mk.injEq] at H
            obtain ⟨rfl, rfl⟩ := H
            go_wp2_with (first | ((with_reducible refine gate_callee (f := 67) rfl ?_); refine goesL_ (some 58) rfl rfl Tryz.func67 (by kernel_rfl) rfl #[.slice A0 l0.length c0, .int .i64 a3, .string a4] rfl (by (try simp only [List.map_toArray, List.map_cons, List.map_nil]); first | done | rfl | (simp only [List.length_drop, List.length_take]; rfl)) ?_; (with_reducible refine (lexiphaneref1_numbers.calls kj5 _ _ l0 a3 a4 t292 t293 _ ?side1 ?side2 A17.out).mono ?_); (case side1 => repeat (first | exact (Kd.C_below HR0.out HB.out) | (with_reducible refine Kd.C_alloc ?_ _) | (with_reducible refine Kd.C_drewN ?_ _) | (with_reducible refine Kd.C_drew ?_))); (case side2 => exact HC0.out); rintro e w18 ⟨rfl, hb⟩; refine ⟨_, rfl, ?_⟩; have n0_ := Aside0.mk (below_step (by repeat (first | (with_reducible first | exact HB.out | apply below_alloc | apply pw_below_drewN | apply below_drew1) | exact HB.out)) hb); clear HB; have HB := n0_; clear n0_; (try clear hb); (try clear hb2); (try clear hk); (try clear hi)))
            go_ret2
            exact ⟨by first | rfl | (simp [errW_none, errW_some] <;> rfl) | (simp [*, errW_none, errW_some] <;> rfl), by repeat (first | (with_reducible first | exact HB.out | apply below_alloc | apply pw_below_drewN | apply below_drew1) | exact HB.out)⟩
          · rw [if_neg c16] at H
            have c16b0 : (a1 == 0) = false := beq_eq_false_iff_ne.mpr c16
            have c16b1 : (a1 != 0) = true := bne_iff_ne.mpr c16
            replace H := Option.bind_eq_some_iff.mp H
            obtain ⟨⟨t294, t295, t296⟩, A190, H⟩ := H
            replace H : (if t296 = 0 then ((lexiphaneref1_Codes.f kj5 t294).bind fun bt299 => (if bt299.2 = 0 then (if 0 ≤ t295 then (if t295 ≤ (a4.size : Int) then ((lexiphaneref1_bitsOf.f kj5 (a4.extract (t295 : Int).toNat a4.size)).bind fun t303 => (lexiphaneref1_Get.l0 kj5 l0 a3 t294 bt299.1 t303 (⟨#[]⟩ : ByteArray) 0)) else (none)) else (none)) else (some ((⟨#[]⟩ : ByteArray), bt299.2)))) else (some ((⟨#[]⟩ : ByteArray), t296))) = some (r1, r2) := H
            have A19 := Aside0.mk A190
            clear A190
            by_cases c20 : t296 = 0
            · rw [if_pos c20] at H
              have c20b0 : (t296 == 0) = true := beq_iff_eq.mpr c20
              have c20b1 : (t296 != 0) = false := bne_eq_false_iff_eq.mpr c20
              clear c20
              replace H := Option.bind_eq_some_iff.mp H
              obtain ⟨⟨t299, t300⟩, A210, H⟩ := H
              replace H : (if t300 = 0 then (if 0 ≤ t295 then (if t295 ≤ (a4.size : Int) then ((lexiphaneref1_bitsOf.f kj5 (a4.extract (t295 : Int).toNat a4.size)).bind fun t303 => (lexiphaneref1_Get.l0 kj5 l0 a3 t294 t299 t303 (⟨#[]⟩ : ByteArray) 0)) else (none)) else (none)) else (some ((⟨#[]⟩ : ByteArray), t300))) = some (r1, r2) := H
              have A21 := Aside0.mk A210
              clear A210
              by_cases c22 : t300 = 0
              · rw [if_pos c22] at H
                have c22b0 : (t300 == 0) = true := beq_iff_eq.mpr c22
                have c22b1 : (t300 != 0) = false := bne_eq_false_iff_eq.mpr c22
                clear c22
                by_cases c23 : 0 ≤ t295
                · rw [if_pos c23] at H
                  have c23b0 := eq_true c23
                  have c23b1 : decide (0 ≤ t295) = true := decide_eq_true c23
                  clear c23
                  by_cases c24 : t295 ≤ (a4.size : Int)
                  · rw [if_pos c24] at H
                    have c24b0 := eq_true c24
                    have c24b1 : decide (t295 ≤ (a4.size : Int)) = true := decide_eq_true c24
                    clear c24
                    replace H := Option.bind_eq_some_iff.mp H
                    obtain ⟨t303, A250, H⟩ := H
                    replace H : (lexiphaneref1_Get.l0 kj5 l0 a3 t294 t299 t303 (⟨#[]⟩ : ByteArray) 0) = some (r1, r2) := H
                    have A25 := Aside0.mk A250
                    clear A250
                    have H' := Aside0.mk H
                    clear H
                    go_wp2_with (first | ((with_reducible refine gate_callee (f := 68) rfl ?_); refine goesL_ (some 66) rfl rfl Tryz.func68 (by kernel_rfl) rfl #[.string a4, .int .i64 (wrap64 (256 + (l0.length : Int)))] rfl (by (try simp only [List.map_toArray, List.map_cons, List.map_nil]); first | done | rfl | (simp only [List.length_drop, List.length_take]; rfl)) ?_; (with_reducible refine (lexiphaneref1_Untab.calls kj5 a4 (wrap64 (256 + (l0.length : Int))) t294 t295 t296 _ A19.out).mono ?_); rintro e w26 ⟨v297, rfl, ho0, hb⟩; refine ⟨_, rfl, ?_⟩; have n0_ := Aside0.mk (Kd.R_lower ho0 (below_size (by repeat (first | (with_reducible first | exact HB.out | apply below_alloc | apply pw_below_drewN | apply below_drew1) | exact HB.out)))); have n1_ := Aside0.mk (below_step (by repeat (first | (with_reducible first | exact HB.out | apply below_alloc | apply pw_below_drewN | apply below_drew1) | exact HB.out)) hb); clear HB; have HO298 := n0_; have HB := n1_; clear n0_ n1_; (try clear hb); (try clear hb2); (try clear hk); (try clear hi); (try clear ho0); obtain ⟨Ao27, co27, eo27⟩ := Kd.R_slice HO298.out; subst eo27) | ((with_reducible refine gate_callee (f := 69) rfl ?_); refine goesL_ (some 75) rfl rfl Tryz.func69 (by kernel_rfl) rfl #[.slice Ao27 t294.length co27] rfl (by (try simp only [List.map_toArray, List.map_cons, List.map_nil]); first | done | rfl | (simp only [List.length_drop, List.length_take]; rfl)) ?_; (with_reducible refine (lexiphaneref1_Codes.calls kj5 _ _ t294 t299 t300 _ ?side1 ?side2 A21.out).mono ?_); (case side1 => repeat (first | exact (Kd.R_reads' HO298.out).2.2 | (with_reducible refine Kd.C_alloc ?_ _) | (with_reducible refine Kd.C_drewN ?_ _) | (with_reducible refine Kd.C_drew ?_))); (case side2 => exact (Kd.R_reads' HO298.out).2.1); rintro e w28 ⟨v301, rfl, ho0, hb⟩; refine ⟨_, rfl, ?_⟩; have n0_ := Aside0.mk (Kd.R_elder' (by (with_reducible repeat (first | apply Kd.R_alloc | apply Kd.R_drewN | apply Kd.R_drew)); exact HO298.out) (Kd.R_base ho0) hb); have n1_ := Aside0.mk (Kd.R_lower (Kd.R_new' ho0 (Kd.R_lt (by (with_reducible repeat (first | apply Kd.R_alloc | apply Kd.R_drewN | apply Kd.R_drew)); exact HO298.out))) (below_size (by repeat (first | (with_reducible first | exact HB.out | apply below_alloc | apply pw_below_drewN | apply below_drew1) | exact HB.out)))); have n2_ := Aside0.mk (below_step (by repeat (first | (with_reducible first | exact HB.out | apply below_alloc | apply pw_below_drewN | apply below_drew1) | exact HB.out)) hb); clear HO298; clear HB; have HO298 := n0_; have HO302 := n1_; have HB := n2_; clear n0_ n1_ n2_; (try clear hb); (try clear hb2); (try clear hk); (try clear hi); (try clear ho0)) | ((with_reducible refine gate_callee (f := 70) rfl ?_); refine goesL_ (some 84) rfl rfl Tryz.func70 (by kernel_rfl) rfl #[.string (a4.extract (t295 : Int).toNat a4.size)] rfl (by (try simp only [List.map_toArray, List.map_cons, List.map_nil]); first | done | rfl | (simp only [List.length_drop, List.length_take]; rfl)) ?_; (with_reducible refine (lexiphaneref1_bitsOf.calls kj5 (a4.extract (t295 : Int).toNat a4.size) t303 _ A25.out).mono ?_); rintro e w29 ⟨v304, rfl, ho0, hb⟩; refine ⟨_, rfl, ?_⟩; have n0_ := Aside0.mk (Kd.R_elder' (by (with_reducible repeat (first | apply Kd.R_alloc | apply Kd.R_drewN | apply Kd.R_drew)); exact HO298.out) (Kd.R_base ho0) hb); have n1_ := Aside0.mk (Kd.R_elder' (by (with_reducible repeat (first | apply Kd.R_alloc | apply Kd.R_drewN | apply Kd.R_drew)); exact HO302.out) (Kd.R_base ho0) hb); have n2_ := Aside0.mk (Kd.R_lower (Kd.R_new' (Kd.R_new' ho0 (Kd.R_lt (by (with_reducible repeat (first | apply Kd.R_alloc | apply Kd.R_drewN | apply Kd.R_drew)); exact HO298.out))) (Kd.R_lt (by (with_reducible repeat (first | apply Kd.R_alloc | apply Kd.R_drewN | apply Kd.R_drew)); exact HO302.out))) (below_size (by repeat (first | (with_reducible first | exact HB.out | apply below_alloc | apply pw_below_drewN | apply below_drew1) | exact HB.out)))); have n3_ := Aside0.mk (below_step (by repeat (first | (with_reducible first | exact HB.out | apply below_alloc | apply pw_below_drewN | apply below_drew1) | exact HB.out)) hb); clear HO298; clear HO302; clear HB; have HO298 := n0_; have HO302 := n1_; have HO305 := n2_; have HB := n3_; clear n0_ n1_ n2_ n3_; (try clear hb); (try clear hb2); (try clear hk); (try clear hi); (try clear ho0)))
                    go_loopg [17, 18] kj5 (fun kq v17 v18 w' => ∃ (x17_2 : ByteArray) (x18_2 : Int), v17 = .string x17_2 ∧ v18 = .int .i64 x18_2 ∧ Aside0 (lexiphaneref1_Get.l0 kq l0 a3 t294 t299 t303 x17_2 x18_2 = some (r1, r2)) ∧ Aside0 (kq ≤ kj5) ∧ Aside0 (Kd.R (Kd.int .i64) 3 w' w.heap.size (fun k_ => some k_ ≠ (v301 : Value).ownBlock ∧ some k_ ≠ (v304 : Value).ownBlock) (.slice Ao27 t294.length co27) t294) ∧ Aside0 (Kd.R (Kd.int .i64) 3 w' w.heap.size (fun k_ => some k_ ≠ ((.slice Ao27 t294.length co27) : Value).ownBlock ∧ some k_ ≠ (v304 : Value).ownBlock) v301 t299) ∧ Aside0 (Kd.R (Kd.int .i64) 3 w' w.heap.size (fun k_ => some k_ ≠ ((.slice Ao27 t294.length co27) : Value).ownBlock ∧ some k_ ≠ (v301 : Value).ownBlock) v304 t303) ∧ Aside0 (Below w.heap.size w w'))
                    case atStart => exact ⟨((⟨#[]⟩ : ByteArray)), (0), (by first | rfl | (simp; done) | (simp [*]; done)), (by first | rfl | (simp; done) | (simp [*]; done)), H', ⟨Nat.le_refl _⟩, ⟨by (with_reducible repeat (first | apply Kd.R_alloc | apply Kd.R_drewN | apply Kd.R_drew)); exact Kd.R_mono HO298.out (fun _ hk => ⟨hk.1.2, hk.2⟩)⟩, ⟨by (with_reducible repeat (first | apply Kd.R_alloc | apply Kd.R_drewN | apply Kd.R_drew)); exact Kd.R_mono HO302.out (fun _ hk => ⟨hk.1.2, hk.2⟩)⟩, ⟨by (with_reducible repeat (first | apply Kd.R_alloc | apply Kd.R_drewN | apply Kd.R_drew)); exact Kd.R_mono HO305.out (fun _ hk => ⟨hk.1.2, hk.2⟩)⟩, ⟨by repeat (first | (with_reducible first | exact HB.out | apply below_alloc | apply pw_below_drewN | apply below_drew1) | exact HB.out)⟩⟩
                    case round =>
                      clear H'
                      try clear c1
                      try clear c2
                      try clear p2
                      try clear c4
                      try clear c6
                      try clear p6
                      try clear c7
                      try clear c7b0
                      try clear c8
                      try clear c8b0
                      try clear c9
                      try clear c9b0
                      try clear c9b1
                      try clear c10
                      try clear c10b0
                      try clear c11
                      try clear c11b0
                      try clear c11b1
                      try clear c12
                      try clear c12b0
                      try clear c13
                      try clear c14
                      try clear c14b0
                      try clear c14b1
                      try clear c15
                      try clear c15b0
                      try clear c15b1
                      try clear c16
                      try clear c16b0
                      try clear c16b1
                      try clear c20
                      try clear c20b0
                      try clear c20b1
                      try clear c22
                      try clear c22b0
                      try clear c22b1
                      try clear c23
                      try clear c23b0
                      try clear c23b1
                      try clear c24
                      try clear c24b0
                      try clear c24b1
                      try clear p2
                      obtain ⟨x17_2, x18_2, rfl, rfl, HA, HK2, HO_12, HO_15, HO_16, HB⟩ := hrel
                      cases gk with
                      | zero => exact absurd HA.out (by simp [lexiphaneref1_Get.l0])
                      | succ k2 =>
                        have H := HA.out
                        clear HA
                        simp only [lexiphaneref1_Get.l0] at H
                        by_cases c30 : (x17_2.size : Int) < a3
                        · rw [if_pos c30] at H
                          have c30b0 : decide ((x17_2.size : Int) < a3) = true := decide_eq_true c30
                          clear c30
                          replace H := Option.bind_eq_some_iff.mp H
                          obtain ⟨⟨t306, t307, t308⟩, A310, H⟩ := H
                          replace H : (if t308 = 0 then ((lexiphaneref1_Means.f k2 l0 t306).bind fun bt309 => (if (wrap64 ((x17_2.size : Int) + (bt309.1.size : Int))) > a3 then (some ((⟨#[]⟩ : ByteArray), 12)) else (if x17_2.size + bt309.1.size ≤ 9223372036854775807 then (lexiphaneref1_Get.l0 k2 l0 a3 t294 t299 t303 (x17_2 ++ bt309.1) (wrap64 (x18_2 + t307))) else (none)))) else (some ((⟨#[]⟩ : ByteArray), t308))) = some (r1, r2) := H
                          have A31 := Aside0.mk A310
                          clear A310
                          by_cases c32 : t308 = 0
                          · rw [if_pos c32] at H
                            have c32b0 : (t308 == 0) = true := beq_iff_eq.mpr c32
                            have c32b1 : (t308 != 0) = false := bne_eq_false_iff_eq.mpr c32
                            clear c32
                            replace H := Option.bind_eq_some_iff.mp H
                            obtain ⟨⟨t309, t310⟩, A330, H⟩ := H
                            replace H : (if (wrap64 ((x17_2.size : Int) + (t309.size : Int))) > a3 then (some ((⟨#[]⟩ : ByteArray), 12)) else (if x17_2.size + t309.size ≤ 9223372036854775807 then (lexiphaneref1_Get.l0 k2 l0 a3 t294 t299 t303 (x17_2 ++ t309) (wrap64 (x18_2 + t307))) else (none))) = some (r1, r2) := H
                            have A33 := Aside0.mk A330
                            clear A330
                            by_cases c34 : (wrap64 ((x17_2.size : Int) + (t309.size : Int))) > a3
                            · rw [if_pos c34] at H
                              have c34b0 : decide (a3 < (wrap64 ((x17_2.size : Int) + (t309.size : Int)))) = true := decide_eq_true c34
                              clear c34
                              simp only [Option.some.injEq, Prod.mk.injEq] at H
                              obtain ⟨rfl, rfl⟩ := H
                              obtain ⟨Ao35, co35, eo35⟩ := Kd.R_slice HO_15.out
                              subst eo35
                              obtain ⟨Ao36, co36, eo36⟩ := Kd.R_slice HO_16.out
                              subst eo36
                              go_wp2_with (first | ((with_reducible refine gate_callee (f := 71) rfl ?_); refine goesL_ (some 94) rfl rfl Tryz.func71 (by kernel_rfl) rfl #[.slice Ao27 t294.length co27, .slice Ao35 t299.length co35, .slice Ao36 t303.length co36, .int .i64 x18_2] rfl (by (try simp only [List.map_toArray, List.map_cons, List.map_nil]); first | done | rfl | (simp only [List.length_drop, List.length_take]; rfl)) ?_; (with_reducible refine (lexiphaneref1_Next.calls k2 _ _ t294 _ _ t299 _ _ t303 x18_2 t306 t307 t308 _ ?side1 ?side2 ?side3 ?side4 ?side5 ?side6 A31.out).mono ?_); (case side1 => repeat (first | exact (Kd.R_reads' HO_12.out).2.2 | (with_reducible refine Kd.C_alloc ?_ _) | (with_reducible refine Kd.C_drewN ?_ _) | (with_reducible refine Kd.C_drew ?_))); (case side2 => exact (Kd.R_reads' HO_12.out).2.1); (case side3 => repeat (first | exact (Kd.R_reads' HO_15.out).2.2 | (with_reducible refine Kd.C_alloc ?_ _) | (with_reducible refine Kd.C_drewN ?_ _) | (with_reducible refine Kd.C_drew ?_))); (case side4 => exact (Kd.R_reads' HO_15.out).2.1); (case side5 => repeat (first | exact (Kd.R_reads' HO_16.out).2.2 | (with_reducible refine Kd.C_alloc ?_ _) | (with_reducible refine Kd.C_drewN ?_ _) | (with_reducible refine Kd.C_drew ?_))); (case side6 => exact (Kd.R_reads' HO_16.out).2.1); rintro e w' ⟨rfl, ⟨nd, rfl⟩⟩; refine ⟨_, rfl, ?_⟩) | ((with_reducible refine gate_callee (f := 72) rfl ?_); refine goesL_ (some 107) rfl rfl Tryz.func72 (by kernel_rfl) rfl #[.slice A0 l0.length c0, .int .i64 t306] rfl (by (try simp only [List.map_toArray, List.map_cons, List.map_nil]); first | done | rfl | (simp only [List.length_drop, List.length_take]; rfl)) ?_; (with_reducible refine (lexiphaneref1_Means.calls k2 _ _ l0 t306 t309 t310 _ ?side1 ?side2 A33.out).mono ?_); (case side1 => repeat (first | exact (Kd.C_below HR0.out (by repeat (first | (with_reducible first | exact HB.out | apply below_alloc | apply pw_below_drewN | apply below_drew1) | exact HB.out))) | (with_reducible refine Kd.C_alloc ?_ _) | (with_reducible refine Kd.C_drewN ?_ _) | (with_reducible refine Kd.C_drew ?_))); (case side2 => exact HC0.out); rintro e w37 ⟨rfl, hb⟩; refine ⟨_, rfl, ?_⟩; have n0_ := Aside0.mk (Kd.R_below (by (with_reducible repeat (first | apply Kd.R_alloc | apply Kd.R_drewN | apply Kd.R_drew)); exact HO_12.out) hb); have n1_ := Aside0.mk (Kd.R_below (by (with_reducible repeat (first | apply Kd.R_alloc | apply Kd.R_drewN | apply Kd.R_drew)); exact HO_15.out) hb); have n2_ := Aside0.mk (Kd.R_below (by (with_reducible repeat (first | apply Kd.R_alloc | apply Kd.R_drewN | apply Kd.R_drew)); exact HO_16.out) hb); have n3_ := Aside0.mk (below_step (by repeat (first | (with_reducible first | exact HB.out | apply below_alloc | apply pw_below_drewN | apply below_drew1) | exact HB.out)) hb); clear HO_12; clear HO_15; clear HO_16; clear HB; have HO_12 := n0_; have HO_15 := n1_; have HO_16 := n2_; have HB := n3_; clear n0_ n1_ n2_ n3_; (try clear hb); (try clear hb2); (try clear hk); (try clear hi)))
                              go_ret2
                              exact ⟨by first | rfl | (simp [errW_none, errW_some] <;> rfl) | (simp [*, errW_none, errW_some] <;> rfl), by repeat (first | (with_reducible first | exact HB.out | apply below_alloc | apply pw_below_drewN | apply below_drew1) | exact HB.out)⟩
                            · rw [if_neg c34] at H
                              have c34b0 : decide (a3 < (wrap64 ((x17_2.size : Int) + (t309.size : Int)))) = false := decide_eq_false c34
                              clear c34
                              by_cases c38 : x17_2.size + t309.size ≤ 9223372036854775807
                              · rw [if_pos c38] at H
                                rw [wr_sum_26 _ _ c38] at c34b0
                                have c38b0 := eq_true c38
                                have c38b1 : decide (x17_2.size + t309.size ≤ 9223372036854775807) = true := decide_eq_true c38
                                try have c38b2 : (9223372036854775807 < x17_2.size + t309.size) = False := eq_false (Nat.not_lt.2 c38)
                                have H' := Aside0.mk H
                                clear H
                                obtain ⟨Ao39, co39, eo39⟩ := Kd.R_slice HO_15.out
                                subst eo39
                                obtain ⟨Ao40, co40, eo40⟩ := Kd.R_slice HO_16.out
                                subst eo40
                                go_wp2_with (first | ((with_reducible refine gate_callee (f := 71) rfl ?_); refine goesL_ (some 94) rfl rfl Tryz.func71 (by kernel_rfl) rfl #[.slice Ao27 t294.length co27, .slice Ao39 t299.length co39, .slice Ao40 t303.length co40, .int .i64 x18_2] rfl (by (try simp only [List.map_toArray, List.map_cons, List.map_nil]); first | done | rfl | (simp only [List.length_drop, List.length_take]; rfl)) ?_; (with_reducible refine (lexiphaneref1_Next.calls k2 _ _ t294 _ _ t299 _ _ t303 x18_2 t306 t307 t308 _ ?side1 ?side2 ?side3 ?side4 ?side5 ?side6 A31.out).mono ?_); (case side1 => repeat (first | exact (Kd.R_reads' HO_12.out).2.2 | (with_reducible refine Kd.C_alloc ?_ _) | (with_reducible refine Kd.C_drewN ?_ _) | (with_reducible refine Kd.C_drew ?_))); (case side2 => exact (Kd.R_reads' HO_12.out).2.1); (case side3 => repeat (first | exact (Kd.R_reads' HO_15.out).2.2 | (with_reducible refine Kd.C_alloc ?_ _) | (with_reducible refine Kd.C_drewN ?_ _) | (with_reducible refine Kd.C_drew ?_))); (case side4 => exact (Kd.R_reads' HO_15.out).2.1); (case side5 => repeat (first | exact (Kd.R_reads' HO_16.out).2.2 | (with_reducible refine Kd.C_alloc ?_ _) | (with_reducible refine Kd.C_drewN ?_ _) | (with_reducible refine Kd.C_drew ?_))); (case side6 => exact (Kd.R_reads' HO_16.out).2.1); rintro e w' ⟨rfl, ⟨nd, rfl⟩⟩; refine ⟨_, rfl, ?_⟩) | ((with_reducible refine gate_callee (f := 72) rfl ?_); refine goesL_ (some 107) rfl rfl Tryz.func72 (by kernel_rfl) rfl #[.slice A0 l0.length c0, .int .i64 t306] rfl (by (try simp only [List.map_toArray, List.map_cons, List.map_nil]); first | done | rfl | (simp only [List.length_drop, List.length_take]; rfl)) ?_; (with_reducible refine (lexiphaneref1_Means.calls k2 _ _ l0 t306 t309 t310 _ ?side1 ?side2 A33.out).mono ?_); (case side1 => repeat (first | exact (Kd.C_below HR0.out (by repeat (first | (with_reducible first | exact HB.out | apply below_alloc | apply pw_below_drewN | apply below_drew1) | exact HB.out))) | (with_reducible refine Kd.C_alloc ?_ _) | (with_reducible refine Kd.C_drewN ?_ _) | (with_reducible refine Kd.C_drew ?_))); (case side2 => exact HC0.out); rintro e w41 ⟨rfl, hb⟩; refine ⟨_, rfl, ?_⟩; have n0_ := Aside0.mk (Kd.R_below (by (with_reducible repeat (first | apply Kd.R_alloc | apply Kd.R_drewN | apply Kd.R_drew)); exact HO_12.out) hb); have n1_ := Aside0.mk (Kd.R_below (by (with_reducible repeat (first | apply Kd.R_alloc | apply Kd.R_drewN | apply Kd.R_drew)); exact HO_15.out) hb); have n2_ := Aside0.mk (Kd.R_below (by (with_reducible repeat (first | apply Kd.R_alloc | apply Kd.R_drewN | apply Kd.R_drew)); exact HO_16.out) hb); have n3_ := Aside0.mk (below_step (by repeat (first | (with_reducible first | exact HB.out | apply below_alloc | apply pw_below_drewN | apply below_drew1) | exact HB.out)) hb); clear HO_12; clear HO_15; clear HO_16; clear HB; have HO_12 := n0_; have HO_15 := n1_; have HO_16 := n2_; have HB := n3_; clear n0_ n1_ n2_ n3_; (try clear hb); (try clear hb2); (try clear hk); (try clear hi)))
                                go_roundg k2
                                case measure => have := HJ5.out; have := HK2.out; omega
                                case rel => exact ⟨(x17_2 ++ t309), (wrap64 (x18_2 + t307)), (by first | rfl | (simp; done) | (simp [*]; done)), (by first | rfl | (simp; done) | (simp [*]; done)), H', ⟨by have := HJ5.out; have := HK2.out; omega⟩, ⟨by (with_reducible repeat (first | apply Kd.R_alloc | apply Kd.R_drewN | apply Kd.R_drew)); exact HO_12.out⟩, ⟨by (with_reducible repeat (first | apply Kd.R_alloc | apply Kd.R_drewN | apply Kd.R_drew)); exact HO_15.out⟩, ⟨by (with_reducible repeat (first | apply Kd.R_alloc | apply Kd.R_drewN | apply Kd.R_drew)); exact HO_16.out⟩, ⟨by repeat (first | (with_reducible first | exact HB.out | apply below_alloc | apply pw_below_drewN | apply below_drew1) | exact HB.out)⟩⟩
                              · rw [if_neg c38] at H
                                exact absurd H (by simp)
                          · rw [if_neg c32] at H
                            have c32b0 : (t308 == 0) = false := beq_eq_false_iff_ne.mpr c32
                            have c32b1 : (t308 != 0) = true := bne_iff_ne.mpr c32
                            simp only [Option.some.injEq, Prod.mk.injEq] at H
                            obtain ⟨rfl, rfl⟩ := H
                            obtain ⟨Ao42, co42, eo42⟩ := Kd.R_slice HO_15.out
                            subst eo42
                            obtain ⟨Ao43, co43, eo43⟩ := Kd.R_slice HO_16.out
                            subst eo43
                            go_wp2_with (first | ((with_reducible refine gate_callee (f := 71) rfl ?_); refine goesL_ (some 94) rfl rfl Tryz.func71 (by kernel_rfl) rfl #[.slice Ao27 t294.length co27, .slice Ao42 t299.length co42, .slice Ao43 t303.length co43, .int .i64 x18_2] rfl (by (try simp only [List.map_toArray, List.map_cons, List.map_nil]); first | done | rfl | (simp only [List.length_drop, List.length_take]; rfl)) ?_; (with_reducible refine (lexiphaneref1_Next.calls k2 _ _ t294 _ _ t299 _ _ t303 x18_2 t306 t307 t308 _ ?side1 ?side2 ?side3 ?side4 ?side5 ?side6 A31.out).mono ?_); (case side1 => repeat (first | exact (Kd.R_reads' HO_12.out).2.2 | (with_reducible refine Kd.C_alloc ?_ _) | (with_reducible refine Kd.C_drewN ?_ _) | (with_reducible refine Kd.C_drew ?_))); (case side2 => exact (Kd.R_reads' HO_12.out).2.1); (case side3 => repeat (first | exact (Kd.R_reads' HO_15.out).2.2 | (with_reducible refine Kd.C_alloc ?_ _) | (with_reducible refine Kd.C_drewN ?_ _) | (with_reducible refine Kd.C_drew ?_))); (case side4 => exact (Kd.R_reads' HO_15.out).2.1); (case side5 => repeat (first | exact (Kd.R_reads' HO_16.out).2.2 | (with_reducible refine Kd.C_alloc ?_ _) | (with_reducible refine Kd.C_drewN ?_ _) | (with_reducible refine Kd.C_drew ?_))); (case side6 => exact (Kd.R_reads' HO_16.out).2.1); rintro e w' ⟨rfl, ⟨nd, rfl⟩⟩; refine ⟨_, rfl, ?_⟩))
                            go_ret2
                            exact ⟨by first | rfl | (simp [errW_none, errW_some] <;> rfl) | (simp [*, errW_none, errW_some] <;> rfl), by repeat (first | (with_reducible first | exact HB.out | apply below_alloc | apply pw_below_drewN | apply below_drew1) | exact HB.out)⟩
                        · rw [if_neg c30] at H
                          have c30b0 : decide ((x17_2.size : Int) < a3) = false := decide_eq_false c30
                          clear c30
                          by_cases c44 : (wrap64 ((t303.length : Int) - x18_2)) ≥ 8
                          · rw [if_pos c44] at H
                            have c44b0 : decide (8 ≤ (wrap64 ((t303.length : Int) - x18_2))) = true := decide_eq_true c44
                            clear c44
                            simp only [Option.some.injEq, Prod.mk.injEq] at H
                            obtain ⟨rfl, rfl⟩ := H
                            obtain ⟨Ao45, co45, eo45⟩ := Kd.R_slice HO_16.out
                            subst eo45
                            go_wp2
                            go_ret2
                            exact ⟨by first | rfl | (simp [errW_none, errW_some] <;> rfl) | (simp [*, errW_none, errW_some] <;> rfl), by repeat (first | (with_reducible first | exact HB.out | apply below_alloc | apply pw_below_drewN | apply below_drew1) | exact HB.out)⟩
                          · rw [if_neg c44] at H
                            have c44b0 : decide (8 ≤ (wrap64 ((t303.length : Int) - x18_2))) = false := decide_eq_false c44
                            clear c44
                            have H' := Aside0.mk H
                            clear H
                            obtain ⟨Ao46, co46, eo46⟩ := Kd.R_slice HO_16.out
                            subst eo46
                            go_wp2
                            go_loopg [18] k2 (fun kq v18 w' => ∃ (x18_3 : Int), v18 = .int .i64 x18_3 ∧ Aside0 (lexiphaneref1_Get.l1 kq t303 x17_2 x18_3 = some (r1, r2)) ∧ Aside0 (kq ≤ k2) ∧ Aside0 (Kd.R (Kd.int .i64) 3 w' w.heap.size (fun _ => True) (.slice Ao46 t303.length co46) t303) ∧ Aside0 (Below w.heap.size w w'))
                            case atStart => exact ⟨(x18_2), (by first | rfl | (simp; done) | (simp [*]; done)), H', ⟨Nat.le_refl _⟩, ⟨by (with_reducible repeat (first | apply Kd.R_alloc | apply Kd.R_drewN | apply Kd.R_drew)); exact Kd.R_mono HO_16.out (fun _ hk => trivial)⟩, ⟨by repeat (first | (with_reducible first | exact HB.out | apply below_alloc | apply pw_below_drewN | apply below_drew1) | exact HB.out)⟩⟩
                            case round =>
                              clear H'
                              try clear c1
                              try clear c2
                              try clear p2
                              try clear c3
                              try clear c4
                              try clear c6
                              try clear p6
                              try clear c7
                              try clear c7b0
                              try clear c8
                              try clear c8b0
                              try clear c9
                              try clear c9b0
                              try clear c9b1
                              try clear c10
                              try clear c10b0
                              try clear c11
                              try clear c11b0
                              try clear c11b1
                              try clear c12
                              try clear c12b0
                              try clear c13
                              try clear c14
                              try clear c14b0
                              try clear c14b1
                              try clear c15
                              try clear c15b0
                              try clear c15b1
                              try clear c16
                              try clear c16b0
                              try clear c16b1
                              try clear c20
                              try clear c20b0
                              try clear c20b1
                              try clear c22
                              try clear c22b0
                              try clear c22b1
                              try clear c23
                              try clear c23b0
                              try clear c23b1
                              try clear c24
                              try clear c24b0
                              try clear c24b1
                              try clear c30
                              try clear c30b0
                              try clear c32
                              try clear c32b0
                              try clear c32b1
                              try clear c34
                              try clear c34b0
                              try clear c38
                              try clear c38b0
                              try clear c38b1
                              try clear c38b2
                              try clear c44
                              try clear c44b0
                              try clear p2
                              try clear p6
                              obtain ⟨x18_3, rfl, HA, HK3, HO_16, HB⟩ := hrel
                              cases gk with
                              | zero => exact absurd HA.out (by simp [lexiphaneref1_Get.l1])
                              | succ k3 =>
                                have H := HA.out
                                clear HA
                                simp only [lexiphaneref1_Get.l1] at H
                                by_cases c47 : x18_3 < (t303.length : Int)
                                · rw [if_pos c47] at H
                                  have c47b0 : decide (x18_3 < (t303.length : Int)) = true := decide_eq_true c47
                                  clear c47
                                  by_cases c48 : 0 ≤ x18_3
                                  · rw [if_pos c48] at H
                                    have c48b0 : decide (0 ≤ x18_3) = true := decide_eq_true c48
                                    clear c48
                                    by_cases c49 : (rd t303 x18_3) = 0
                                    · rw [if_pos c49] at H
                                      have c49b0 : ((rd t303 x18_3) == 0) = true := beq_iff_eq.mpr c49
                                      have c49b1 : ((rd t303 x18_3) != 0) = false := bne_eq_false_iff_eq.mpr c49
                                      clear c49
                                      have H' := Aside0.mk H
                                      clear H
                                      have p311 : 0 ≤ (x18_3 : Int) := of_decide_eq_true (by first | (with_reducible assumption) | assumption)
                                      have q311 : x18_3 < (t303.length : Int) := of_decide_eq_true (by first | (with_reducible assumption) | assumption)
                                      obtain ⟨ad311, e311, hx311_0⟩ := Kd.at_int (Kd.R_reads' HO_16.out).2.2 x18_3 p311 q311
                                      cases e311
                                      replace p311 := eq_true p311
                                      replace q311 := eq_true q311
                                      go_wp2
                                      go_roundg k3
                                      case measure => have := HJ5.out; have := HK2.out; have := HK3.out; omega
                                      case rel => exact ⟨(wrap64 (x18_3 + 1)), (by first | rfl | (simp; done) | (simp [*]; done)), H', ⟨by have := HJ5.out; have := HK2.out; have := HK3.out; omega⟩, ⟨by (with_reducible repeat (first | apply Kd.R_alloc | apply Kd.R_drewN | apply Kd.R_drew)); exact HO_16.out⟩, ⟨by repeat (first | (with_reducible first | exact HB.out | apply below_alloc | apply pw_below_drewN | apply below_drew1) | exact HB.out)⟩⟩
                                    · rw [if_neg c49] at H
                                      have c49b0 : ((rd t303 x18_3) == 0) = false := beq_eq_false_iff_ne.mpr c49
                                      have c49b1 : ((rd t303 x18_3) != 0) = true := bne_iff_ne.mpr c49
                                      simp only [Option.some.injEq, Prod.mk.injEq] at H
                                      obtain ⟨rfl, rfl⟩ := H
                                      have p311 : 0 ≤ (x18_3 : Int) := of_decide_eq_true (by first | (with_reducible assumption) | assumption)
                                      have q311 : x18_3 < (t303.length : Int) := of_decide_eq_true (by first | (with_reducible assumption) | assumption)
                                      obtain ⟨ad311, e311, hx311_0⟩ := Kd.at_int (Kd.R_reads' HO_16.out).2.2 x18_3 p311 q311
                                      cases e311
                                      replace p311 := eq_true p311
                                      replace q311 := eq_true q311
                                      go_wp2
                                      go_ret2
                                      exact ⟨by first | rfl | (simp [errW_none, errW_some] <;> rfl) | (simp [*, errW_none, errW_some] <;> rfl), by repeat (first | (with_reducible first | exact HB.out | apply below_alloc | apply pw_below_drewN | apply below_drew1) | exact HB.out)⟩
                                  · rw [if_neg c48] at H
                                    exact absurd H (by simp)
                                · rw [if_neg c47] at H
                                  have c47b0 : decide (x18_3 < (t303.length : Int)) = false := decide_eq_false c47
                                  clear c47
                                  simp only [Option.some.injEq, Prod.mk.injEq] at H
                                  obtain ⟨rfl, rfl⟩ := H
                                  go_wp2
                                  go_ret2
                                  exact ⟨by first | rfl | (simp [errW_none, errW_some] <;> rfl) | (simp [*, errW_none, errW_some] <;> rfl), by repeat (first | (with_reducible first | exact HB.out | apply below_alloc | apply pw_below_drewN | apply below_drew1) | exact HB.out)⟩
                  · rw [if_neg c24] at H
                    exact absurd H (by simp)
                · rw [if_neg c23] at H
                  exact absurd H (by simp)
              · rw [if_neg c22] at H
                have c22b0 : (t300 == 0) = false := beq_eq_false_iff_ne.mpr c22
                have c22b1 : (t300 != 0) = true := bne_iff_ne.mpr c22
                simp only [Option.some.injEq, Prod.mk.injEq] at H
                obtain ⟨rfl, rfl⟩ := H
                go_wp2_with (first | ((with_reducible refine gate_callee (f := 68) rfl ?_); refine goesL_ (some 66) rfl rfl Tryz.func68 (by kernel_rfl) rfl #[.string a4, .int .i64 (wrap64 (256 + (l0.length : Int)))] rfl (by (try simp only [List.map_toArray, List.map_cons, List.map_nil]); first | done | rfl | (simp only [List.length_drop, List.length_take]; rfl)) ?_; (with_reducible refine (lexiphaneref1_Untab.calls kj5 a4 (wrap64 (256 + (l0.length : Int))) t294 t295 t296 _ A19.out).mono ?_); rintro e w50 ⟨v297, rfl, ho0, hb⟩; refine ⟨_, rfl, ?_⟩; have n0_ := Aside0.mk (Kd.R_lower ho0 (below_size (by repeat (first | (with_reducible first | exact HB.out | apply below_alloc | apply pw_below_drewN | apply below_drew1) | exact HB.out)))); have n1_ := Aside0.mk (below_step (by repeat (first | (with_reducible first | exact HB.out | apply below_alloc | apply pw_below_drewN | apply below_drew1) | exact HB.out)) hb); clear HB; have HO298 := n0_; have HB := n1_; clear n0_ n1_; (try clear hb); (try clear hb2); (try clear hk); (try clear hi); (try clear ho0); obtain ⟨Ao51, co51, eo51⟩ := Kd.R_slice HO298.out; subst eo51) | ((with_reducible refine gate_callee (f := 69) rfl ?_); refine goesL_ (some 75) rfl rfl Tryz.func69 (by kernel_rfl) rfl #[.slice Ao51 t294.length co51] rfl (by (try simp only [List.map_toArray, List.map_cons, List.map_nil]); first | done | rfl | (simp only [List.length_drop, List.length_take]; rfl)) ?_; (with_reducible refine (lexiphaneref1_Codes.calls kj5 _ _ t294 t299 t300 _ ?side1 ?side2 A21.out).mono ?_); (case side1 => repeat (first | exact (Kd.R_reads' HO298.out).2.2 | (with_reducible refine Kd.C_alloc ?_ _) | (with_reducible refine Kd.C_drewN ?_ _) | (with_reducible refine Kd.C_drew ?_))); (case side2 => exact (Kd.R_reads' HO298.out).2.1); rintro e w52 ⟨v301, rfl, ho0, hb⟩; refine ⟨_, rfl, ?_⟩; have n0_ := Aside0.mk (Kd.R_elder' (by (with_reducible repeat (first | apply Kd.R_alloc | apply Kd.R_drewN | apply Kd.R_drew)); exact HO298.out) (Kd.R_base ho0) hb); have n1_ := Aside0.mk (Kd.R_lower (Kd.R_new' ho0 (Kd.R_lt (by (with_reducible repeat (first | apply Kd.R_alloc | apply Kd.R_drewN | apply Kd.R_drew)); exact HO298.out))) (below_size (by repeat (first | (with_reducible first | exact HB.out | apply below_alloc | apply pw_below_drewN | apply below_drew1) | exact HB.out)))); have n2_ := Aside0.mk (below_step (by repeat (first | (with_reducible first | exact HB.out | apply below_alloc | apply pw_below_drewN | apply below_drew1) | exact HB.out)) hb); clear HO298; clear HB; have HO298 := n0_; have HO302 := n1_; have HB := n2_; clear n0_ n1_ n2_; (try clear hb); (try clear hb2); (try clear hk); (try clear hi); (try clear ho0)))
                go_ret2
                exact ⟨by first | rfl | (simp [errW_none, errW_some] <;> rfl) | (simp [*, errW_none, errW_some] <;> rfl), by repeat (first | (with_reducible first | exact HB.out | apply below_alloc | apply pw_below_drewN | apply below_drew1) | exact HB.out)⟩
            · rw [if_neg c20] at H
              have c20b0 : (t296 == 0) = false := beq_eq_false_iff_ne.mpr c20
              have c20b1 : (t296 != 0) = true := bne_iff_ne.mpr c20
              simp only [Option.some.injEq, Prod.mk.injEq] at H
              obtain ⟨rfl, rfl⟩ := H
              go_wp2_with (first | ((with_reducible refine gate_callee (f := 68) rfl ?_); refine goesL_ (some 66) rfl rfl Tryz.func68 (by kernel_rfl) rfl #[.string a4, .int .i64 (wrap64 (256 + (l0.length : Int)))] rfl (by (try simp only [List.map_toArray, List.map_cons, List.map_nil]); first | done | rfl | (simp only [List.length_drop, List.length_take]; rfl)) ?_; (with_reducible refine (lexiphaneref1_Untab.calls kj5 a4 (wrap64 (256 + (l0.length : Int))) t294 t295 t296 _ A19.out).mono ?_); rintro e w53 ⟨v297, rfl, ho0, hb⟩; refine ⟨_, rfl, ?_⟩; have n0_ := Aside0.mk (Kd.R_lower ho0 (below_size (by repeat (first | (with_reducible first | exact HB.out | apply below_alloc | apply pw_below_drewN | apply below_drew1) | exact HB.out)))); have n1_ := Aside0.mk (below_step (by repeat (first | (with_reducible first | exact HB.out | apply below_alloc | apply pw_below_drewN | apply below_drew1) | exact HB.out)) hb); clear HB; have HO298 := n0_; have HB := n1_; clear n0_ n1_; (try clear hb); (try clear hb2); (try clear hk); (try clear hi); (try clear ho0)))
              go_ret2
              exact ⟨by first | rfl | (simp [errW_none, errW_some] <;> rfl) | (simp [*, errW_none, errW_some] <;> rfl), by repeat (first | (with_reducible first | exact HB.out | apply below_alloc | apply pw_below_drewN | apply below_drew1) | exact HB.out)⟩
end Go.Proofs.YtdpkgjahcapleaaGreat.Leaf
set_option linter.unusedVariables false
set_option linter.unusedSimpArgs false
namespace Go.Proofs.YtdpkgjahcapleaaGreat.Leaf
open Go.RowKit Go.Proofs.YtdpkgjahcapleaaGreatW.PrintWords Go.Proofs.YtdpkgjahcapleaaGreatW.PrintLast Go.Proofs.YtdpkgjahcapleaaGreatW.PrintMore
attribute [local go_sem] max2_int min2_int max_two min_two max_three min_three max_four min_four
end Go.Proofs.YtdpkgjahcapleaaGreat.Leaf
