/- ShU: a part of its proof (contracts of the functions that it reaches, and the plain mathematics behind them). -/
import Derived.Test.YtepgkimlmoikmaaGreatShU8
set_option linter.unusedVariables false
set_option linter.unusedSimpArgs false
set_option maxHeartbeats 2000000
set_option maxRecDepth 100000
set_option linter.unusedVariables false
set_option linter.unusedSimpArgs false
namespace Go.Proofs.YtepgkimlmoikmaaGreat.Leaf
open Go.RowKit Go.Proofs.YtepgkimlmoikmaaGreatW.PrintWords Go.Proofs.YtepgkimlmoikmaaGreatW.PrintLast Go.Proofs.YtepgkimlmoikmaaGreatW.PrintMore
attribute [local go_sem] max2_int min2_int max_two min_two max_three min_three max_four min_four
private theorem wr_sum_30 (p q : Nat) (h : p + q ≤ 9223372036854775807) : wrap64 ((p : Int) + (q : Int)) = (p : Int) + (q : Int) := by unfold wrap64; omega
def lexiphaneref1_numbers.l0 : Nat → List ByteArray → Int → ByteArray → ByteArray → Option (ByteArray × Int)
 | 0, _, _, _, _ => none
 | k + 1, x0, x1, x2, x8 => if (x8.size : Int) < x1 then ((lexiphaneref1_Unnumber.f k x2).bind fun bt444 => (if bt444.2.2 = 0 then (if 0 ≤ bt444.2.1 then (if bt444.2.1 ≤ (x2.size : Int) then ((lexiphaneref1_Means.f k x0 bt444.1).bind fun bt447 => (if bt447.2 = true then (if (wrap64 ((x8.size : Int) + (bt447.1.size : Int))) > x1 then (some ((⟨#[]⟩ : ByteArray), 12)) else (if x8.size + bt447.1.size ≤ 9223372036854775807 then (lexiphaneref1_numbers.l0 k x0 x1 (x2.extract (bt444.2.1 : Int).toNat x2.size) (x8 ++ bt447.1)) else (none))) else (some ((⟨#[]⟩ : ByteArray), 9)))) else (none)) else (none)) else (some ((⟨#[]⟩ : ByteArray), bt444.2.2)))) else (if x2.toList = ([] : List UInt8) then (some (x8, 0)) else (some ((⟨#[]⟩ : ByteArray), 13)))
def lexiphaneref1_numbers.f (k : Nat) (l0 : List ByteArray) (a1 : Int) (a2 : ByteArray) : Option (ByteArray × Int) := lexiphaneref1_numbers.l0 k l0 a1 a2 (⟨#[]⟩ : ByteArray)
theorem lexiphaneref1_numbers.mono_l : ∀ k, (∀ y0 y1 y2 y3, LeO (lexiphaneref1_numbers.l0 k y0 y1 y2 y3) (lexiphaneref1_numbers.l0 (k + 1) y0 y1 y2 y3))
 | 0 => fun _ _ _ _ r h => by simp [lexiphaneref1_numbers.l0] at h
 | k + 1 => by
  have ih0 := lexiphaneref1_numbers.mono_l k
  ·intro y0 y1 y2 y3
   unfold lexiphaneref1_numbers.l0
   repeat' first
   | (with_reducible exact ih0 _ _ _ _)
   | (with_reducible exact lexiphaneref1_Means.mono _ _ _)
   | (with_reducible exact lexiphaneref1_Unnumber.mono _ _)
   | (with_reducible exact LeO.refl _)
   | (with_reducible exact LeO.none _)
   | (with_reducible refine LeO.ite ?_ ?_)
   | (with_reducible refine LeO.bind ?_ (fun _ => ?_))
   | exact ih0 _ _ _ _
   | exact lexiphaneref1_Means.mono _ _ _
   | exact lexiphaneref1_Unnumber.mono _ _
   | exact LeO.none _
   | refine LeO.ite ?_ ?_
   | refine LeO.bind ?_ (fun _ => ?_)
theorem lexiphaneref1_numbers.mono : ∀ a0 a1 a2 k, LeO (lexiphaneref1_numbers.f k a0 a1 a2) (lexiphaneref1_numbers.f (k + 1) a0 a1 a2) := by
 intro a0 a1 a2 k
 have ih0 := lexiphaneref1_numbers.mono_l k
 unfold lexiphaneref1_numbers.f
 repeat' first
   | (with_reducible exact ih0 _ _ _ _)
   | (with_reducible exact lexiphaneref1_Means.mono _ _ _)
   | (with_reducible exact lexiphaneref1_Unnumber.mono _ _)
   | (with_reducible exact LeO.refl _)
   | (with_reducible exact LeO.none _)
   | (with_reducible refine LeO.ite ?_ ?_)
   | (with_reducible refine LeO.bind ?_ (fun _ => ?_))
   | exact ih0 _ _ _ _
   | exact lexiphaneref1_Means.mono _ _ _
   | exact lexiphaneref1_Unnumber.mono _ _
   | exact LeO.none _
   | refine LeO.ite ?_ ?_
   | refine LeO.bind ?_ (fun _ => ?_)
set_option maxHeartbeats 8000000 in
theorem lexiphaneref1_numbers.calls (k : Nat) (A0 : Option Addr) (c0 : Nat) (l0 : List ByteArray) (a1 : Int) (a2 : ByteArray) (r1 : ByteArray) (r2 : Int) (w : World) (hr0 : Kd.C Kd.string w A0 l0.length l0) (hc0 : l0.length ≤ c0) (h : lexiphaneref1_numbers.f k l0 a1 a2 = some (r1, r2)) :
  Calls Tryz.prog 107 #[.slice A0 l0.length c0, .int .i64 a1, .string a2] w fun e w' => e = .returned (.tuple #[.string r1, .int .i64 r2]) ∧ Below w.heap.size w w' := by
 have HR0 := Aside0.mk hr0
 have HC0 := Aside0.mk hc0
 clear hr0 hc0
 have HB := Aside0.mk (Below.refl w.heap.size w)
 have H : (lexiphaneref1_numbers.l0 k l0 a1 a2 (⟨#[]⟩ : ByteArray)) = some (r1, r2) := h
 clear h
 have H' := Aside0.mk H
 clear H
 go_enter Tryz.func107, Tryz.ntmps107
 go_wp2
 go_loopg [2, 8] k (fun kq v2 v8 w' => ∃ (x2_1 : ByteArray) (x8_1 : ByteArray), v2 = .string x2_1 ∧ v8 = .string x8_1 ∧ Aside0 (lexiphaneref1_numbers.l0 kq l0 a1 x2_1 x8_1 = some (r1, r2)) ∧ Aside0 (kq ≤ k) ∧ Aside0 (Below w.heap.size w w'))
 case atStart => exact ⟨(a2), ((⟨#[]⟩ : ByteArray)), (by first | rfl | (simp; done) | (simp [*]; done)), (by first | rfl | (simp; done) | (simp [*]; done)), H', ⟨Nat.le_refl _⟩, ⟨by repeat (first | (with_reducible first | exact HB.out | apply below_alloc | apply pw_below_drewN | apply below_drew1) | exact HB.out)⟩⟩
 case round =>
  clear H'
  try clear c1
  try clear p2
  obtain ⟨x2_1, x8_1, rfl, rfl, HA, HK1, HB⟩ := hrel
  cases gk with
  | zero => exact absurd HA.out (by simp [lexiphaneref1_numbers.l0])
  | succ k1 =>
   have H := HA.out
   clear HA
   simp only [lexiphaneref1_numbers.l0] at H
   by_cases c4 : (x8_1.size : Int) < a1
   ·rw [if_pos c4] at H
    have c4b0 : decide ((x8_1.size : Int) < a1) = true := decide_eq_true c4
    clear c4
    replace H := Option.bind_eq_some_iff.mp H
    obtain ⟨⟨t444, t445, t446⟩, A50, H⟩ := H
    replace H : (if t446 = 0 then (if 0 ≤ t445 then (if t445 ≤ (x2_1.size : Int) then ((lexiphaneref1_Means.f k1 l0 t444).bind fun bt447 => (if bt447.2 = true then (if (wrap64 ((x8_1.size : Int) + (bt447.1.size : Int))) > a1 then (some ((⟨#[]⟩ : ByteArray), 12)) else (if x8_1.size + bt447.1.size ≤ 9223372036854775807 then (lexiphaneref1_numbers.l0 k1 l0 a1 (x2_1.extract (t445 : Int).toNat x2_1.size) (x8_1 ++ bt447.1)) else (none))) else (some ((⟨#[]⟩ : ByteArray), 9)))) else (none)) else (none)) else (some ((⟨#[]⟩ : ByteArray), t446))) = some (r1, r2) := H
    have A5 := Aside0.mk A50
    clear A50
    by_cases c6 : t446 = 0
    ·rw [if_pos c6] at H
     have c6b0 : (t446 == 0) = true := beq_iff_eq.mpr c6
     have c6b1 : (t446 != 0) = false := bne_eq_false_iff_eq.mpr c6
     clear c6
     by_cases c7 : 0 ≤ t445
     ·rw [if_pos c7] at H
      have c7b0 := eq_true c7
      have c7b1 : decide (0 ≤ t445) = true := decide_eq_true c7
      clear c7
      by_cases c8 : t445 ≤ (x2_1.size : Int)
      ·rw [if_pos c8] at H
       have c8b0 := eq_true c8
       have c8b1 : decide (t445 ≤ (x2_1.size : Int)) = true := decide_eq_true c8
       clear c8
       replace H := Option.bind_eq_some_iff.mp H
       obtain ⟨⟨t447, t448⟩, A90, H⟩ := H
       replace H : (if t448 = true then (if (wrap64 ((x8_1.size : Int) + (t447.size : Int))) > a1 then (some ((⟨#[]⟩ : ByteArray), 12)) else (if x8_1.size + t447.size ≤ 9223372036854775807 then (lexiphaneref1_numbers.l0 k1 l0 a1 (x2_1.extract (t445 : Int).toNat x2_1.size) (x8_1 ++ t447)) else (none))) else (some ((⟨#[]⟩ : ByteArray), 9))) = some (r1, r2) := H
       have A9 := Aside0.mk A90
       clear A90
       by_cases c10 : t448 = true
       ·subst c10
        have H1 : (if (wrap64 ((x8_1.size : Int) + (t447.size : Int))) > a1 then (some ((⟨#[]⟩ : ByteArray), 12)) else (if x8_1.size + t447.size ≤ 9223372036854775807 then (lexiphaneref1_numbers.l0 k1 l0 a1 (x2_1.extract (t445 : Int).toNat x2_1.size) (x8_1 ++ t447)) else (none))) = some (r1, r2) := by rw [if_pos rfl] at H; exact H
        clear H
        have H := H1
        clear H1
        by_cases c11 : (wrap64 ((x8_1.size : Int) + (t447.size : Int))) > a1
        ·rw [if_pos c11] at H
         have c11b0 : decide (a1 < (wrap64 ((x8_1.size : Int) + (t447.size : Int)))) = true := decide_eq_true c11
         clear c11
         simp only [Option.some.injEq, Prod.mk.injEq] at H
         obtain ⟨rfl, rfl⟩ := H
         go_wp2_with (first | ((with_reducible refine gate_callee (f := 155) rfl ?_); refine goesL_ (some 20) rfl rfl Tryz.func155 (by kernel_rfl) rfl #[.string x2_1] rfl (by (try simp only [List.map_toArray, List.map_cons, List.map_nil]); first | done | rfl | (simp only [List.length_drop, List.length_take]; rfl)) ?_; (with_reducible refine (lexiphaneref1_Unnumber.calls k1 x2_1 t444 t445 t446 _ A5.out).mono ?_); rintro e w' ⟨rfl, ⟨nd, rfl⟩⟩; refine ⟨_, rfl, ?_⟩) | ((with_reducible refine gate_callee (f := 106) rfl ?_); refine goesL_ (some 33) rfl rfl Tryz.func106 (by kernel_rfl) rfl #[.slice A0 l0.length c0, .int .i64 t444] rfl (by (try simp only [List.map_toArray, List.map_cons, List.map_nil]); first | done | rfl | (simp only [List.length_drop, List.length_take]; rfl)) ?_; (with_reducible refine (lexiphaneref1_Means.calls k1 _ _ l0 t444 t447 true _ ?side1 ?side2 A9.out).mono ?_); (case side1 => repeat (first | exact (Kd.C_below HR0.out (by repeat (first | (with_reducible first | exact HB.out | apply below_alloc | apply pw_below_drewN | apply below_drew1) | exact HB.out))) | (with_reducible refine Kd.C_alloc ?_ _) | (with_reducible refine Kd.C_drewN ?_ _) | (with_reducible refine Kd.C_drew ?_))); (case side2 => exact HC0.out); rintro e w12 ⟨rfl, hb⟩; refine ⟨_, rfl, ?_⟩; have n0_ := Aside0.mk (below_step (by repeat (first | (with_reducible first | exact HB.out | apply below_alloc | apply pw_below_drewN | apply below_drew1) | exact HB.out)) hb); clear HB; have HB := n0_; clear n0_; (try clear hb); (try clear hb2); (try clear hk); (try clear hi)))
         go_ret2
         exact ⟨by first | rfl | (simp [errW_none, errW_some] <;> rfl) | (simp [*, errW_none, errW_some] <;> rfl), by repeat (first | (with_reducible first | exact HB.out | apply below_alloc | apply pw_below_drewN | apply below_drew1) | exact HB.out)⟩
        ·rw [if_neg c11] at H
         have c11b0 : decide (a1 < (wrap64 ((x8_1.size : Int) + (t447.size : Int)))) = false := decide_eq_false c11
         clear c11
         by_cases c13 : x8_1.size + t447.size ≤ 9223372036854775807
         ·rw [if_pos c13] at H
          rw [wr_sum_30 _ _ c13] at c11b0
          have c13b0 := eq_true c13
          have c13b1 : decide (x8_1.size + t447.size ≤ 9223372036854775807) = true := decide_eq_true c13
          try have c13b2 : (9223372036854775807 < x8_1.size + t447.size) = False := eq_false (Nat.not_lt.2 c13)
          have H' := Aside0.mk H
          clear H
          go_wp2_with (first | ((with_reducible refine gate_callee (f := 155) rfl ?_); refine goesL_ (some 20) rfl rfl Tryz.func155 (by kernel_rfl) rfl #[.string x2_1] rfl (by (try simp only [List.map_toArray, List.map_cons, List.map_nil]); first | done | rfl | (simp only [List.length_drop, List.length_take]; rfl)) ?_; (with_reducible refine (lexiphaneref1_Unnumber.calls k1 x2_1 t444 t445 t446 _ A5.out).mono ?_); rintro e w' ⟨rfl, ⟨nd, rfl⟩⟩; refine ⟨_, rfl, ?_⟩) | ((with_reducible refine gate_callee (f := 106) rfl ?_); refine goesL_ (some 33) rfl rfl Tryz.func106 (by kernel_rfl) rfl #[.slice A0 l0.length c0, .int .i64 t444] rfl (by (try simp only [List.map_toArray, List.map_cons, List.map_nil]); first | done | rfl | (simp only [List.length_drop, List.length_take]; rfl)) ?_; (with_reducible refine (lexiphaneref1_Means.calls k1 _ _ l0 t444 t447 true _ ?side1 ?side2 A9.out).mono ?_); (case side1 => repeat (first | exact (Kd.C_below HR0.out (by repeat (first | (with_reducible first | exact HB.out | apply below_alloc | apply pw_below_drewN | apply below_drew1) | exact HB.out))) | (with_reducible refine Kd.C_alloc ?_ _) | (with_reducible refine Kd.C_drewN ?_ _) | (with_reducible refine Kd.C_drew ?_))); (case side2 => exact HC0.out); rintro e w14 ⟨rfl, hb⟩; refine ⟨_, rfl, ?_⟩; have n0_ := Aside0.mk (below_step (by repeat (first | (with_reducible first | exact HB.out | apply below_alloc | apply pw_below_drewN | apply below_drew1) | exact HB.out)) hb); clear HB; have HB := n0_; clear n0_; (try clear hb); (try clear hb2); (try clear hk); (try clear hi)))
          go_roundg k1
          case measure => have := HK1.out; omega
          case rel => exact ⟨(x2_1.extract (t445 : Int).toNat x2_1.size), (x8_1 ++ t447), (by first | rfl | (simp; done) | (simp [*]; done)), (by first | rfl | (simp; done) | (simp [*]; done)), H', ⟨by have := HK1.out; omega⟩, ⟨by repeat (first | (with_reducible first | exact HB.out | apply below_alloc | apply pw_below_drewN | apply below_drew1) | exact HB.out)⟩⟩
         ·rw [if_neg c13] at H
          exact absurd H (by simp)
       ·replace c10 := Bool.eq_false_iff.mpr c10
        subst c10
        have H1 : (some ((⟨#[]⟩ : ByteArray), 9)) = some (r1, r2) := by rw [if_neg (show ¬ (false = true) by decide)] at H; exact H
        clear H
        have H := H1
        clear H1
        simp only [Option.some.injEq, Prod.mk.injEq] at H
        obtain ⟨rfl, rfl⟩ := H
        go_wp2_with (first | ((with_reducible refine gate_callee (f := 155) rfl ?_); refine goesL_ (some 20) rfl rfl Tryz.func155 (by kernel_rfl) rfl #[.string x2_1] rfl (by (try simp only [List.map_toArray, List.map_cons, List.map_nil]); first | done | rfl | (simp only [List.length_drop, List.length_take]; rfl)) ?_; (with_reducible refine (lexiphaneref1_Unnumber.calls k1 x2_1 t444 t445 t446 _ A5.out).mono ?_); rintro e w' ⟨rfl, ⟨nd, rfl⟩⟩; refine ⟨_, rfl, ?_⟩) | ((with_reducible refine gate_callee (f := 106) rfl ?_); refine goesL_ (some 33) rfl rfl Tryz.func106 (by kernel_rfl) rfl #[.slice A0 l0.length c0, .int .i64 t444] rfl (by (try simp only [List.map_toArray, List.map_cons, List.map_nil]); first | done | rfl | (simp only [List.length_drop, List.length_take]; rfl)) ?_; (with_reducible refine (lexiphaneref1_Means.calls k1 _ _ l0 t444 t447 false _ ?side1 ?side2 A9.out).mono ?_); (case side1 => repeat (first | exact (Kd.C_below HR0.out (by repeat (first | (with_reducible first | exact HB.out | apply below_alloc | apply pw_below_drewN | apply below_drew1) | exact HB.out))) | (with_reducible refine Kd.C_alloc ?_ _) | (with_reducible refine Kd.C_drewN ?_ _) | (with_reducible refine Kd.C_drew ?_))); (case side2 => exact HC0.out); rintro e w15 ⟨rfl, hb⟩; refine ⟨_, rfl, ?_⟩; have n0_ := Aside0.mk (below_step (by repeat (first | (with_reducible first | exact HB.out | apply below_alloc | apply pw_below_drewN | apply below_drew1) | exact HB.out)) hb); clear HB; have HB := n0_; clear n0_; (try clear hb); (try clear hb2); (try clear hk); (try clear hi)))
        go_ret2
        exact ⟨by first | rfl | (simp [errW_none, errW_some] <;> rfl) | (simp [*, errW_none, errW_some] <;> rfl), by repeat (first | (with_reducible first | exact HB.out | apply below_alloc | apply pw_below_drewN | apply below_drew1) | exact HB.out)⟩
      ·rw [if_neg c8] at H
       exact absurd H (by simp)
     ·rw [if_neg c7] at H
      exact absurd H (by simp)
    ·rw [if_neg c6] at H
     have c6b0 : (t446 == 0) = false := beq_eq_false_iff_ne.mpr c6
     have c6b1 : (t446 != 0) = true := bne_iff_ne.mpr c6
     simp only [Option.some.injEq, Prod.mk.injEq] at H
     obtain ⟨rfl, rfl⟩ := H
     go_wp2_with (first | ((with_reducible refine gate_callee (f := 155) rfl ?_); refine goesL_ (some 20) rfl rfl Tryz.func155 (by kernel_rfl) rfl #[.string x2_1] rfl (by (try simp only [List.map_toArray, List.map_cons, List.map_nil]); first | done | rfl | (simp only [List.length_drop, List.length_take]; rfl)) ?_; (with_reducible refine (lexiphaneref1_Unnumber.calls k1 x2_1 t444 t445 t446 _ A5.out).mono ?_); rintro e w' ⟨rfl, ⟨nd, rfl⟩⟩; refine ⟨_, rfl, ?_⟩))
     go_ret2
     exact ⟨by first | rfl | (simp [errW_none, errW_some] <;> rfl) | (simp [*, errW_none, errW_some] <;> rfl), by repeat (first | (with_reducible first | exact HB.out | apply below_alloc | apply pw_below_drewN | apply below_drew1) | exact HB.out)⟩
   ·rw [if_neg c4] at H
    have c4b0 : decide ((x8_1.size : Int) < a1) = false := decide_eq_false c4
    clear c4
    by_cases c16 : x2_1.toList = ([] : List UInt8)
    ·rw [if_pos c16] at H
     have c16b0 : (x2_1.toList == ([] : List UInt8)) = true := beq_iff_eq.mpr c16
     have c16b1 : (x2_1.toList != ([] : List UInt8)) = false := bne_eq_false_iff_eq.mpr c16
     clear c16
     simp only [Option.some.injEq, Prod.mk.injEq] at H
     obtain ⟨rfl, rfl⟩ := H
     go_wp2
     go_ret2
     exact ⟨by first | rfl | (simp [errW_none, errW_some] <;> rfl) | (simp [*, errW_none, errW_some] <;> rfl), by repeat (first | (with_reducible first | exact HB.out | apply below_alloc | apply pw_below_drewN | apply below_drew1) | exact HB.out)⟩
    ·rw [if_neg c16] at H
     have c16b0 : (x2_1.toList == ([] : List UInt8)) = false := beq_eq_false_iff_ne.mpr c16
     have c16b1 : (x2_1.toList != ([] : List UInt8)) = true := bne_iff_ne.mpr c16
     simp only [Option.some.injEq, Prod.mk.injEq] at H
     obtain ⟨rfl, rfl⟩ := H
     go_wp2
     go_ret2
     exact ⟨by first | rfl | (simp [errW_none, errW_some] <;> rfl) | (simp [*, errW_none, errW_some] <;> rfl), by repeat (first | (with_reducible first | exact HB.out | apply below_alloc | apply pw_below_drewN | apply below_drew1) | exact HB.out)⟩
mutual
def lexiphaneref1_Untab.j0 : Nat → ByteArray → Int → Bool → Option (List Int × Int × Int)
 | 0, _, _, _ => none
 | k + 1, x0, x1, x17 => if x17 = true then (some (([] : List Int), 0, 1)) else (lexiphaneref1_Untab.l0 k x0 x1 ([] : List Int) 0)
def lexiphaneref1_Untab.l0 : Nat → ByteArray → Int → List Int → Int → Option (List Int × Int × Int)
 | 0, _, _, _, _ => none
 | k + 1, x0, x1, x7, x8 => if (x7.length : Int) < x1 then (if x8 = (x0.size : Int) then (some (([] : List Int), 0, 2)) else (if 0 ≤ x8 then (if x8 < (x0.size : Int) then (if (wrap64 ((x7.length : Int) + (wrap64 ((Int.tmod (wrap64 (bt x0 x8)) 16) + 1)))) > x1 then (lexiphaneref1_Untab.j2 k x0 x1 x7 x8 (wrap64 (Int.tdiv (wrap64 (bt x0 x8)) 16)) (wrap64 ((Int.tmod (wrap64 (bt x0 x8)) 16) + 1)) true) else (if x8 > 0 then (if 0 ≤ (wrap64 (x8 - 1)) then (if (wrap64 (x8 - 1)) < (x0.size : Int) then (if (wrap64 (Int.tdiv (wrap64 (bt x0 (wrap64 (x8 - 1)))) 16)) = (wrap64 (Int.tdiv (wrap64 (bt x0 x8)) 16)) then (lexiphaneref1_Untab.j2 k x0 x1 x7 x8 (wrap64 (Int.tdiv (wrap64 (bt x0 x8)) 16)) (wrap64 ((Int.tmod (wrap64 (bt x0 x8)) 16) + 1)) (decide ((Int.tmod (wrap64 (bt x0 (wrap64 (x8 - 1)))) 16) < 15))) else (lexiphaneref1_Untab.j2 k x0 x1 x7 x8 (wrap64 (Int.tdiv (wrap64 (bt x0 x8)) 16)) (wrap64 ((Int.tmod (wrap64 (bt x0 x8)) 16) + 1)) false)) else (none)) else (none)) else (lexiphaneref1_Untab.j2 k x0 x1 x7 x8 (wrap64 (Int.tdiv (wrap64 (bt x0 x8)) 16)) (wrap64 ((Int.tmod (wrap64 (bt x0 x8)) 16) + 1)) false))) else (none)) else (none))) else (some (x7, x8, 0))
def lexiphaneref1_Untab.j2 : Nat → ByteArray → Int → List Int → Int → Int → Int → Bool → Option (List Int × Int × Int)
 | 0, _, _, _, _, _, _, _ => none
 | k + 1, x0, x1, x7, x8, x9, x10, x67 => if x67 = true then (some (([] : List Int), 0, 3)) else (lexiphaneref1_Untab.l1 k x0 x1 x7 x8 x9 x10 0)
def lexiphaneref1_Untab.l1 : Nat → ByteArray → Int → List Int → Int → Int → Int → Int → Option (List Int × Int × Int)
 | 0, _, _, _, _, _, _, _ => none
 | k + 1, x0, x1, x7, x8, x9, x10, x11 => if x11 < x10 then (if x7.length < 17592186044416 then (lexiphaneref1_Untab.l1 k x0 x1 (x7 ++ [x9]) x8 x9 x10 (wrap64 (x11 + 1))) else (none)) else (lexiphaneref1_Untab.l0 k x0 x1 x7 (wrap64 (x8 + 1)))
end
def lexiphaneref1_Untab.f (k : Nat) (a0 : ByteArray) (a1 : Int) : Option (List Int × Int × Int) := if a1 < 0 then (lexiphaneref1_Untab.j0 k a0 a1 true) else (lexiphaneref1_Untab.j0 k a0 a1 (decide (a1 > 356)))
theorem lexiphaneref1_Untab.mono_l : ∀ k, (∀ y0 y1 y2, LeO (lexiphaneref1_Untab.j0 k y0 y1 y2) (lexiphaneref1_Untab.j0 (k + 1) y0 y1 y2)) ∧ (∀ y0 y1 y2 y3, LeO (lexiphaneref1_Untab.l0 k y0 y1 y2 y3) (lexiphaneref1_Untab.l0 (k + 1) y0 y1 y2 y3)) ∧ (∀ y0 y1 y2 y3 y4 y5 y6, LeO (lexiphaneref1_Untab.j2 k y0 y1 y2 y3 y4 y5 y6) (lexiphaneref1_Untab.j2 (k + 1) y0 y1 y2 y3 y4 y5 y6)) ∧ (∀ y0 y1 y2 y3 y4 y5 y6, LeO (lexiphaneref1_Untab.l1 k y0 y1 y2 y3 y4 y5 y6) (lexiphaneref1_Untab.l1 (k + 1) y0 y1 y2 y3 y4 y5 y6))
 | 0 => ⟨fun _ _ _ r h => by simp [lexiphaneref1_Untab.j0] at h, fun _ _ _ _ r h => by simp [lexiphaneref1_Untab.l0] at h, fun _ _ _ _ _ _ _ r h => by simp [lexiphaneref1_Untab.j2] at h, fun _ _ _ _ _ _ _ r h => by simp [lexiphaneref1_Untab.l1] at h⟩
 | k + 1 => by
  obtain ⟨ih0, ih1, ih2, ih3⟩ := lexiphaneref1_Untab.mono_l k
  refine ⟨?_, ?_, ?_, ?_⟩
  ·intro y0 y1 y2
   unfold lexiphaneref1_Untab.j0
   repeat' first
   | (with_reducible exact ih0 _ _ _)
   | (with_reducible exact ih1 _ _ _ _)
   | (with_reducible exact ih2 _ _ _ _ _ _ _)
   | (with_reducible exact ih3 _ _ _ _ _ _ _)
   | (with_reducible exact LeO.refl _)
   | (with_reducible exact LeO.none _)
   | (with_reducible refine LeO.ite ?_ ?_)
   | (with_reducible refine LeO.bind ?_ (fun _ => ?_))
   | exact ih0 _ _ _
   | exact ih1 _ _ _ _
   | exact ih2 _ _ _ _ _ _ _
   | exact ih3 _ _ _ _ _ _ _
   | exact LeO.none _
   | refine LeO.ite ?_ ?_
   | refine LeO.bind ?_ (fun _ => ?_)
  ·intro y0 y1 y2 y3
   unfold lexiphaneref1_Untab.l0
   repeat' first
   | (with_reducible exact ih0 _ _ _)
   | (with_reducible exact ih1 _ _ _ _)
   | (with_reducible exact ih2 _ _ _ _ _ _ _)
   | (with_reducible exact ih3 _ _ _ _ _ _ _)
   | (with_reducible exact LeO.refl _)
   | (with_reducible exact LeO.none _)
   | (with_reducible refine LeO.ite ?_ ?_)
   | (with_reducible refine LeO.bind ?_ (fun _ => ?_))
   | exact ih0 _ _ _
   | exact ih1 _ _ _ _
   | exact ih2 _ _ _ _ _ _ _
   | exact ih3 _ _ _ _ _ _ _
   | exact LeO.none _
   | refine LeO.ite ?_ ?_
   | refine LeO.bind ?_ (fun _ => ?_)
  ·intro y0 y1 y2 y3 y4 y5 y6
   unfold lexiphaneref1_Untab.j2
   repeat' first
   | (with_reducible exact ih0 _ _ _)
   | (with_reducible exact ih1 _ _ _ _)
   | (with_reducible exact ih2 _ _ _ _ _ _ _)
   | (with_reducible exact ih3 _ _ _ _ _ _ _)
   | (with_reducible exact LeO.refl _)
   | (with_reducible exact LeO.none _)
   | (with_reducible refine LeO.ite ?_ ?_)
   | (with_reducible refine LeO.bind ?_ (fun _ => ?_))
   | exact ih0 _ _ _
   | exact ih1 _ _ _ _
   | exact ih2 _ _ _ _ _ _ _
   | exact ih3 _ _ _ _ _ _ _
   | exact LeO.none _
   | refine LeO.ite ?_ ?_
   | refine LeO.bind ?_ (fun _ => ?_)
  ·intro y0 y1 y2 y3 y4 y5 y6
   unfold lexiphaneref1_Untab.l1
   repeat' first
   | (with_reducible exact ih0 _ _ _)
   | (with_reducible exact ih1 _ _ _ _)
   | (with_reducible exact ih2 _ _ _ _ _ _ _)
   | (with_reducible exact ih3 _ _ _ _ _ _ _)
   | (with_reducible exact LeO.refl _)
   | (with_reducible exact LeO.none _)
   | (with_reducible refine LeO.ite ?_ ?_)
   | (with_reducible refine LeO.bind ?_ (fun _ => ?_))
   | exact ih0 _ _ _
   | exact ih1 _ _ _ _
   | exact ih2 _ _ _ _ _ _ _
   | exact ih3 _ _ _ _ _ _ _
   | exact LeO.none _
   | refine LeO.ite ?_ ?_
   | refine LeO.bind ?_ (fun _ => ?_)
theorem lexiphaneref1_Untab.mono : ∀ a0 a1 k, LeO (lexiphaneref1_Untab.f k a0 a1) (lexiphaneref1_Untab.f (k + 1) a0 a1) := by
 intro a0 a1 k
 obtain ⟨ih0, ih1, ih2, ih3⟩ := lexiphaneref1_Untab.mono_l k
 unfold lexiphaneref1_Untab.f
 repeat' first
   | (with_reducible exact ih0 _ _ _)
   | (with_reducible exact ih1 _ _ _ _)
   | (with_reducible exact ih2 _ _ _ _ _ _ _)
   | (with_reducible exact ih3 _ _ _ _ _ _ _)
   | (with_reducible exact LeO.refl _)
   | (with_reducible exact LeO.none _)
   | (with_reducible refine LeO.ite ?_ ?_)
   | (with_reducible refine LeO.bind ?_ (fun _ => ?_))
   | exact ih0 _ _ _
   | exact ih1 _ _ _ _
   | exact ih2 _ _ _ _ _ _ _
   | exact ih3 _ _ _ _ _ _ _
   | exact LeO.none _
   | refine LeO.ite ?_ ?_
   | refine LeO.bind ?_ (fun _ => ?_)
set_option maxHeartbeats 8000000 in
theorem lexiphaneref1_Untab.calls (k : Nat) (a0 : ByteArray) (a1 : Int) (r1 : List Int) (r2 : Int) (r3 : Int) (w : World) (h : lexiphaneref1_Untab.f k a0 a1 = some (r1, r2, r3)) :
  Calls Tryz.prog 108 #[.string a0, .int .i64 a1] w fun e w' => ∃ v0_ : Value, e = .returned (.tuple #[v0_, .int .i64 r2, .int .i64 r3]) ∧ Kd.R (Kd.int .i64) 3 w' w.heap.size (fun _ => True) v0_ r1 ∧ Below w.heap.size w w' := by
 have HB := Aside0.mk (Below.refl w.heap.size w)
 have H : (if a1 < 0 then (lexiphaneref1_Untab.j0 k a0 a1 true) else (lexiphaneref1_Untab.j0 k a0 a1 (decide (a1 > 356)))) = some (r1, r2, r3) := h
 clear h
 have HC3 := Aside0.mk H
 clear H
 go_enter Tryz.func108, Tryz.ntmps108
 go_upto_region 1 with (fail)
 repeat (go_quiet (fail); go_upto_region 1 with (fail))
 go_cut [17] (fun v17 wc => ∃ (kq : Nat) (x17_2 : Bool), v17 = .bool x17_2 ∧ Aside0 (lexiphaneref1_Untab.j0 kq a0 a1 x17_2 = some (r1, r2, r3)) ∧ Aside0 (kq ≤ k) ∧ Aside0 (Below w.heap.size w wc))
 case first =>
  have H := HC3.out
  clear HC3
  by_cases c4 : a1 < 0
  ·rw [if_pos c4] at H
   have c4b0 : decide (a1 < 0) = true := decide_eq_true c4
   clear c4
   (first | rw [c4b0] | (simp only [i64_w, i32_w]; rw [c4b0]) | skip)
   have H' := Aside0.mk H
   clear H
   go_wp2
   repeat (go_quiet (fail); try go_wp2)
   go_meet
   case rel => exact ⟨_, (true), (by first | rfl | (simp; done) | (simp [*]; done)), H', ⟨by first | omega | exact Nat.le_refl _⟩, ⟨by repeat (first | (with_reducible first | exact HB.out | apply below_alloc | apply pw_below_drewN | apply below_drew1) | exact HB.out)⟩⟩
  ·rw [if_neg c4] at H
   have c4b0 : decide (a1 < 0) = false := decide_eq_false c4
   clear c4
   (first | rw [c4b0] | (simp only [i64_w, i32_w]; rw [c4b0]) | skip)
   have H' := Aside0.mk H
   clear H
   go_wp2
   repeat (go_quiet (fail); try go_wp2)
   go_meet
   case rel => exact ⟨_, (decide (a1 > 356)), (by first | rfl | (simp; done) | (simp [*]; done)), H', ⟨by first | omega | exact Nat.le_refl _⟩, ⟨by repeat (first | (with_reducible first | exact HB.out | apply below_alloc | apply pw_below_drewN | apply below_drew1) | exact HB.out)⟩⟩
 case rest =>
  clear HC3
  try clear c1
  try clear p2
  try clear c4
  try clear c4b0
  obtain ⟨kq, x17_2, rfl, HA, HJ2, HB⟩ := hcut
  cases kq with
  | zero => exact absurd HA.out (by simp [lexiphaneref1_Untab.j0])
  | succ kj2 =>
   have H := HA.out
   clear HA
   simp only [lexiphaneref1_Untab.j0] at H
   by_cases c5 : x17_2 = true
   ·subst c5
    have H1 : (some (([] : List Int), 0, 1)) = some (r1, r2, r3) := by rw [if_pos rfl] at H; exact H
    clear H
    have H := H1
    clear H1
    simp only [Option.some.injEq, Prod.mk.injEq] at H
    obtain ⟨rfl, rfl, rfl⟩ := H
    go_wp2
    repeat (go_quiet (fail); try go_wp2)
    go_ret3
    exact ⟨_, by first | rfl | (simp [errW_none, errW_some] <;> rfl) | (simp [*, errW_none, errW_some] <;> rfl), by first | exact Kd.R_nil _ _ _ _ _ | exact Kd.N_nil _ _ _ _ _ | exact Kd.V_nil _ _ _ _ _ | exact Kd.Q_nil _ _ _ _ _ | exact Kd.S_nil _ _ _ _ _, by repeat (first | (with_reducible first | exact HB.out | apply below_alloc | apply pw_below_drewN | apply below_drew1) | exact HB.out)⟩
   ·replace c5 := Bool.eq_false_iff.mpr c5
    subst c5
    have H1 : (lexiphaneref1_Untab.l0 kj2 a0 a1 ([] : List Int) 0) = some (r1, r2, r3) := by rw [if_neg (show ¬ (false = true) by decide)] at H; exact H
    clear H
    have H := H1
    clear H1
    have H' := Aside0.mk H
    clear H
    go_wp2
    repeat (go_quiet (fail); try go_wp2)
    go_loopg [7, 8] kj2 (fun kq v7 v8 w' => ∃ (x7_2 : List Int) (x8_2 : Int), v8 = .int .i64 x8_2 ∧ Aside0 (lexiphaneref1_Untab.l0 kq a0 a1 x7_2 x8_2 = some (r1, r2, r3)) ∧ Aside0 (kq ≤ kj2) ∧ Aside0 (Kd.R (Kd.int .i64) 3 w' w.heap.size (fun _ => True) v7 x7_2) ∧ Aside0 (Below w.heap.size w w'))
    case atStart => exact ⟨(([] : List Int)), (0), (by first | rfl | (simp; done) | (simp [*]; done)), H', ⟨Nat.le_refl _⟩, ⟨by first | exact Kd.R_nil _ _ _ _ _ | exact Kd.N_nil _ _ _ _ _ | exact Kd.V_nil _ _ _ _ _ | exact Kd.Q_nil _ _ _ _ _ | exact Kd.S_nil _ _ _ _ _⟩, ⟨by repeat (first | (with_reducible first | exact HB.out | apply below_alloc | apply pw_below_drewN | apply below_drew1) | exact HB.out)⟩⟩
    case round =>
     clear H'
     try clear c1
     try clear p2
     try clear c4
     try clear c4b0
     try clear c5
     try clear p2
     obtain ⟨x7_2, x8_2, rfl, HA, HK2, HO_7, HB⟩ := hrel
     cases gk with
     | zero => exact absurd HA.out (by simp [lexiphaneref1_Untab.l0])
     | succ k2 =>
      have H := HA.out
      clear HA
      simp only [lexiphaneref1_Untab.l0] at H
      by_cases c6 : (x7_2.length : Int) < a1
      ·rw [if_pos c6] at H
       have c6b0 : decide ((x7_2.length : Int) < a1) = true := decide_eq_true c6
       clear c6
       by_cases c7 : x8_2 = (a0.size : Int)
       ·rw [if_pos c7] at H
        have c7b0 : (x8_2 == (a0.size : Int)) = true := beq_iff_eq.mpr c7
        have c7b1 : (x8_2 != (a0.size : Int)) = false := bne_eq_false_iff_eq.mpr c7
        clear c7
        simp only [Option.some.injEq, Prod.mk.injEq] at H
        obtain ⟨rfl, rfl, rfl⟩ := H
        obtain ⟨Ao8, co8, eo8⟩ := Kd.R_slice HO_7.out
        subst eo8
        go_wp2
        repeat (go_quiet (fail); try go_wp2)
        go_ret3
        exact ⟨_, by first | rfl | (simp [errW_none, errW_some] <;> rfl) | (simp [*, errW_none, errW_some] <;> rfl), by first | exact Kd.R_nil _ _ _ _ _ | exact Kd.N_nil _ _ _ _ _ | exact Kd.V_nil _ _ _ _ _ | exact Kd.Q_nil _ _ _ _ _ | exact Kd.S_nil _ _ _ _ _, by repeat (first | (with_reducible first | exact HB.out | apply below_alloc | apply pw_below_drewN | apply below_drew1) | exact HB.out)⟩
       ·rw [if_neg c7] at H
        have c7b0 : (x8_2 == (a0.size : Int)) = false := beq_eq_false_iff_ne.mpr c7
        have c7b1 : (x8_2 != (a0.size : Int)) = true := bne_iff_ne.mpr c7
        by_cases c9 : 0 ≤ x8_2
        ·rw [if_pos c9] at H
         have c9b0 : decide (0 ≤ x8_2) = true := decide_eq_true c9
         clear c9
         by_cases c10 : x8_2 < (a0.size : Int)
         ·rw [if_pos c10] at H
          have c10b0 : decide (x8_2 < (a0.size : Int)) = true := decide_eq_true c10
          clear c10
          have HC13 := Aside0.mk H
          clear H
          obtain ⟨Ao14, co14, eo14⟩ := Kd.R_slice HO_7.out
          subst eo14
          have p11 : 0 ≤ (x8_2 : Int) := of_decide_eq_true (by first | (with_reducible assumption) | assumption)
          have q11 : x8_2 < (a0.size : Int) := of_decide_eq_true (by first | (with_reducible assumption) | assumption)
          have hx11 := bt_at a0 x8_2
          replace p11 := eq_true p11
          replace q11 := eq_true q11
          have p12 : 0 ≤ (x8_2 : Int) := of_decide_eq_true (by first | (with_reducible assumption) | assumption)
          have q12 : x8_2 < (a0.size : Int) := of_decide_eq_true (by first | (with_reducible assumption) | assumption)
          have hx12 := bt_at a0 x8_2
          replace p12 := eq_true p12
          replace q12 := eq_true q12
          go_upto_region 10 with (fail)
          repeat (go_quiet (fail); go_upto_region 10 with (fail))
          go_cut [67] (fun v67 wc => ∃ (kq : Nat) (x67_12 : Bool), v67 = .bool x67_12 ∧ Aside0 (lexiphaneref1_Untab.j2 kq a0 a1 x7_2 x8_2 (wrap64 (Int.tdiv (wrap64 (bt a0 x8_2)) 16)) (wrap64 ((Int.tmod (wrap64 (bt a0 x8_2)) 16) + 1)) x67_12 = some (r1, r2, r3)) ∧ Aside0 (kq ≤ k2) ∧ Aside0 (Kd.R (Kd.int .i64) 3 wc w.heap.size (fun _ => True) (.slice Ao14 x7_2.length co14) x7_2) ∧ Aside0 (Below w.heap.size w wc))
          case first =>
           have H := HC13.out
           clear HC13
           by_cases c15 : (wrap64 ((x7_2.length : Int) + (wrap64 ((Int.tmod (wrap64 (bt a0 x8_2)) 16) + 1)))) > a1
           ·rw [if_pos c15] at H
            have c15b0 : decide (a1 < (wrap64 ((x7_2.length : Int) + (wrap64 ((Int.tmod (wrap64 (bt a0 x8_2)) 16) + 1))))) = true := decide_eq_true c15
            clear c15
            (first | rw [c15b0] | (simp only [i64_w, i32_w]; rw [c15b0]) | skip)
            have H' := Aside0.mk H
            clear H
            go_wp2
            repeat (go_quiet (fail); try go_wp2)
            go_meet
            case rel => exact ⟨_, (true), (by first | rfl | (simp; done) | (simp [*]; done)), H', ⟨by have := HJ2.out; have := HK2.out; first | omega | exact Nat.le_refl _⟩, ⟨by (with_reducible repeat (first | apply Kd.R_alloc | apply Kd.R_drewN | apply Kd.R_drew)); exact HO_7.out⟩, ⟨by repeat (first | (with_reducible first | exact HB.out | apply below_alloc | apply pw_below_drewN | apply below_drew1) | exact HB.out)⟩⟩
           ·rw [if_neg c15] at H
            have c15b0 : decide (a1 < (wrap64 ((x7_2.length : Int) + (wrap64 ((Int.tmod (wrap64 (bt a0 x8_2)) 16) + 1))))) = false := decide_eq_false c15
            clear c15
            (first | rw [c15b0] | (simp only [i64_w, i32_w]; rw [c15b0]) | skip)
            by_cases c16 : x8_2 > 0
            ·rw [if_pos c16] at H
             have c16b0 : decide (0 < x8_2) = true := decide_eq_true c16
             clear c16
             obtain ⟨ji17, hji17⟩ : ∃ j_ : Int, (wrap64 (x8_2 - 1)) = j_ := ⟨_, rfl⟩
             replace H : (if 0 ≤ (ji17) then (if (ji17) < (a0.size : Int) then (if (wrap64 (Int.tdiv (wrap64 (bt a0 (ji17))) 16)) = (wrap64 (Int.tdiv (wrap64 (bt a0 x8_2)) 16)) then (lexiphaneref1_Untab.j2 k2 a0 a1 x7_2 x8_2 (wrap64 (Int.tdiv (wrap64 (bt a0 x8_2)) 16)) (wrap64 ((Int.tmod (wrap64 (bt a0 x8_2)) 16) + 1)) (decide ((Int.tmod (wrap64 (bt a0 (ji17))) 16) < 15))) else (lexiphaneref1_Untab.j2 k2 a0 a1 x7_2 x8_2 (wrap64 (Int.tdiv (wrap64 (bt a0 x8_2)) 16)) (wrap64 ((Int.tmod (wrap64 (bt a0 x8_2)) 16) + 1)) false)) else (none)) else (none)) = some (r1, r2, r3) := by first | (rw [hji17] at H; exact H) | (simp only [hji17] at H ⊢; exact H)
             have hji17w : (IntKind.i64.wrap (x8_2 - 1)) = ji17 := (i64_w _).trans hji17
             by_cases c18 : 0 ≤ (ji17)
             ·rw [if_pos c18] at H
              have c18b0 : decide (0 ≤ (ji17)) = true := decide_eq_true c18
              clear c18
              by_cases c19 : (ji17) < (a0.size : Int)
              ·rw [if_pos c19] at H
               have c19b0 : decide ((ji17) < (a0.size : Int)) = true := decide_eq_true c19
               clear c19
               by_cases c21 : (wrap64 (Int.tdiv (wrap64 (bt a0 (ji17))) 16)) = (wrap64 (Int.tdiv (wrap64 (bt a0 x8_2)) 16))
               ·rw [if_pos c21] at H
                have c21b0 : ((wrap64 (Int.tdiv (wrap64 (bt a0 (ji17))) 16)) == (wrap64 (Int.tdiv (wrap64 (bt a0 x8_2)) 16))) = true := beq_iff_eq.mpr c21
                have c21b1 : ((wrap64 (Int.tdiv (wrap64 (bt a0 (ji17))) 16)) != (wrap64 (Int.tdiv (wrap64 (bt a0 x8_2)) 16))) = false := bne_eq_false_iff_eq.mpr c21
                clear c21
                have H' := Aside0.mk H
                clear H
                have p20 : 0 ≤ ((ji17) : Int) := of_decide_eq_true (by first | (with_reducible assumption) | assumption)
                have q20 : (ji17) < (a0.size : Int) := of_decide_eq_true (by first | (with_reducible assumption) | assumption)
                have hx20 := bt_at a0 (ji17)
                replace p20 := eq_true p20
                replace q20 := eq_true q20
                have p22 : 0 ≤ ((ji17) : Int) := of_decide_eq_true (by first | (with_reducible assumption) | assumption)
                have q22 : (ji17) < (a0.size : Int) := of_decide_eq_true (by first | (with_reducible assumption) | assumption)
                have hx22 := bt_at a0 (ji17)
                replace p22 := eq_true p22
                replace q22 := eq_true q22
                go_wp2
                repeat (go_quiet (fail); try go_wp2)
                go_meet
                case rel => exact ⟨_, (decide ((Int.tmod (wrap64 (bt a0 (ji17))) 16) < 15)), (by first | rfl | (simp; done) | (simp only [← hji17] <;> (first | rfl | simp)) | (simp [*]; done)), H', ⟨by have := HJ2.out; have := HK2.out; first | omega | exact Nat.le_refl _⟩, ⟨by (with_reducible repeat (first | apply Kd.R_alloc | apply Kd.R_drewN | apply Kd.R_drew)); exact HO_7.out⟩, ⟨by repeat (first | (with_reducible first | exact HB.out | apply below_alloc | apply pw_below_drewN | apply below_drew1) | exact HB.out)⟩⟩
               ·rw [if_neg c21] at H
                have c21b0 : ((wrap64 (Int.tdiv (wrap64 (bt a0 (ji17))) 16)) == (wrap64 (Int.tdiv (wrap64 (bt a0 x8_2)) 16))) = false := beq_eq_false_iff_ne.mpr c21
                have c21b1 : ((wrap64 (Int.tdiv (wrap64 (bt a0 (ji17))) 16)) != (wrap64 (Int.tdiv (wrap64 (bt a0 x8_2)) 16))) = true := bne_iff_ne.mpr c21
                have H' := Aside0.mk H
                clear H
                have p20 : 0 ≤ ((ji17) : Int) := of_decide_eq_true (by first | (with_reducible assumption) | assumption)
                have q20 : (ji17) < (a0.size : Int) := of_decide_eq_true (by first | (with_reducible assumption) | assumption)
                have hx20 := bt_at a0 (ji17)
                replace p20 := eq_true p20
                replace q20 := eq_true q20
                go_wp2
                repeat (go_quiet (fail); try go_wp2)
                go_meet
                case rel => exact ⟨_, (false), (by first | rfl | (simp; done) | (simp [*]; done)), H', ⟨by have := HJ2.out; have := HK2.out; first | omega | exact Nat.le_refl _⟩, ⟨by (with_reducible repeat (first | apply Kd.R_alloc | apply Kd.R_drewN | apply Kd.R_drew)); exact HO_7.out⟩, ⟨by repeat (first | (with_reducible first | exact HB.out | apply below_alloc | apply pw_below_drewN | apply below_drew1) | exact HB.out)⟩⟩
              ·rw [if_neg c19] at H
               exact absurd H (by simp)
             ·rw [if_neg c18] at H
              exact absurd H (by simp)
            ·rw [if_neg c16] at H
             have c16b0 : decide (0 < x8_2) = false := decide_eq_false c16
             clear c16
             have H' := Aside0.mk H
             clear H
             go_wp2
             repeat (go_quiet (fail); try go_wp2)
             go_meet
             case rel => exact ⟨_, (false), (by first | rfl | (simp; done) | (simp [*]; done)), H', ⟨by have := HJ2.out; have := HK2.out; first | omega | exact Nat.le_refl _⟩, ⟨by (with_reducible repeat (first | apply Kd.R_alloc | apply Kd.R_drewN | apply Kd.R_drew)); exact HO_7.out⟩, ⟨by repeat (first | (with_reducible first | exact HB.out | apply below_alloc | apply pw_below_drewN | apply below_drew1) | exact HB.out)⟩⟩
          case rest =>
           clear HC13
           try clear c1
           try clear p1
           try clear q1
           try clear hx1
           try clear c2
           try clear p2
           try clear q2
           try clear hx2
           try clear c4
           try clear c4b0
           try clear c5
           try clear c6
           try clear c6b0
           try clear p6
           try clear c7
           try clear c7b0
           try clear c7b1
           try clear c9
           try clear c9b0
           try clear c10
           try clear c10b0
           try clear p11
           try clear q11
           try clear hx11
           try clear p12
           try clear q12
           try clear hx12
           try clear c15
           try clear c15b0
           try clear c16
           try clear c16b0
           try clear c18
           try clear c18b0
           try clear c19
           try clear c19b0
           try clear p20
           try clear q20
           try clear hx20
           try clear c21
           try clear c21b0
           try clear c21b1
           try clear p22
           try clear q22
           try clear hx22
           try clear p11
           try clear p12
           try clear p2
           try clear p20
           try clear p22
           try clear q11
           try clear q12
           try clear q20
           try clear q22
           obtain ⟨kq, x67_12, rfl, HA, HJ12, HO_7, HB⟩ := hcut
           cases kq with
           | zero => exact absurd HA.out (by simp [lexiphaneref1_Untab.j2])
           | succ kj12 =>
            have H := HA.out
            clear HA
            simp only [lexiphaneref1_Untab.j2] at H
            by_cases c23 : x67_12 = true
            ·subst c23
             have H1 : (some (([] : List Int), 0, 3)) = some (r1, r2, r3) := by rw [if_pos rfl] at H; exact H
             clear H
             have H := H1
             clear H1
             simp only [Option.some.injEq, Prod.mk.injEq] at H
             obtain ⟨rfl, rfl, rfl⟩ := H
             go_wp2
             repeat (go_quiet (fail); try go_wp2)
             go_ret3
             exact ⟨_, by first | rfl | (simp [errW_none, errW_some] <;> rfl) | (simp [*, errW_none, errW_some] <;> rfl), by first | exact Kd.R_nil _ _ _ _ _ | exact Kd.N_nil _ _ _ _ _ | exact Kd.V_nil _ _ _ _ _ | exact Kd.Q_nil _ _ _ _ _ | exact Kd.S_nil _ _ _ _ _, by repeat (first | (with_reducible first | exact HB.out | apply below_alloc | apply pw_below_drewN | apply below_drew1) | exact HB.out)⟩
            ·replace c23 := Bool.eq_false_iff.mpr c23
             subst c23
             have H1 : (lexiphaneref1_Untab.l1 kj12 a0 a1 x7_2 x8_2 (wrap64 (Int.tdiv (wrap64 (bt a0 x8_2)) 16)) (wrap64 ((Int.tmod (wrap64 (bt a0 x8_2)) 16) + 1)) 0) = some (r1, r2, r3) := by rw [if_neg (show ¬ (false = true) by decide)] at H; exact H
             clear H
             have H := H1
             clear H1
             have H' := Aside0.mk H
             clear H
             go_wp2
             repeat (go_quiet (fail); try go_wp2)
             go_loopg [7, 11] kj12 (fun kq v7 v11 w' => ∃ (x7_4 : List Int) (x11_4 : Int), v11 = .int .i64 x11_4 ∧ Aside0 (lexiphaneref1_Untab.l1 kq a0 a1 x7_4 x8_2 (wrap64 (Int.tdiv (wrap64 (bt a0 x8_2)) 16)) (wrap64 ((Int.tmod (wrap64 (bt a0 x8_2)) 16) + 1)) x11_4 = some (r1, r2, r3)) ∧ Aside0 (kq ≤ kj12) ∧ Aside0 (Kd.R (Kd.int .i64) 3 w' w.heap.size (fun _ => True) v7 x7_4) ∧ Aside0 (Below w.heap.size w w'))
             case atStart => exact ⟨(x7_2), (0), (by first | rfl | (simp; done) | (simp [*]; done)), H', ⟨Nat.le_refl _⟩, ⟨by (with_reducible repeat (first | apply Kd.R_alloc | apply Kd.R_drewN | apply Kd.R_drew)); exact HO_7.out⟩, ⟨by repeat (first | (with_reducible first | exact HB.out | apply below_alloc | apply pw_below_drewN | apply below_drew1) | exact HB.out)⟩⟩
             case round =>
              clear H'
              try clear c1
              try clear p1
              try clear q1
              try clear hx1
              try clear c2
              try clear p2
              try clear q2
              try clear hx2
              try clear c4
              try clear c4b0
              try clear c5
              try clear c6
              try clear c6b0
              try clear p6
              try clear c7
              try clear c7b0
              try clear c7b1
              try clear c9
              try clear c9b0
              try clear c10
              try clear c10b0
              try clear p11
              try clear q11
              try clear hx11
              try clear p12
              try clear q12
              try clear hx12
              try clear c15
              try clear c15b0
              try clear c16
              try clear c16b0
              try clear c18
              try clear c18b0
              try clear c19
              try clear c19b0
              try clear p20
              try clear q20
              try clear hx20
              try clear c21
              try clear c21b0
              try clear c21b1
              try clear p22
              try clear q22
              try clear hx22
              try clear c23
              try clear p1
              try clear p11
              try clear p12
              try clear p2
              try clear p20
              try clear p22
              try clear p6
              try clear q1
              try clear q11
              try clear q12
              try clear q2
              try clear q20
              try clear q22
              obtain ⟨x7_4, x11_4, rfl, HA, HK4, HO_7, HB⟩ := hrel
              cases gk with
              | zero => exact absurd HA.out (by simp [lexiphaneref1_Untab.l1])
              | succ k4 =>
               have H := HA.out
               clear HA
               simp only [lexiphaneref1_Untab.l1] at H
               by_cases c24 : x11_4 < (wrap64 ((Int.tmod (wrap64 (bt a0 x8_2)) 16) + 1))
               ·rw [if_pos c24] at H
                have c24b0 : decide (x11_4 < (wrap64 ((Int.tmod (wrap64 (bt a0 x8_2)) 16) + 1))) = true := decide_eq_true c24
                clear c24
                by_cases c25 : x7_4.length < 17592186044416
                ·rw [if_pos c25] at H
                 have LMc25 := Aside0.mk c25
                 clear c25
                 obtain ⟨y449, hy449⟩ : ∃ y_ : List Int, y_ = (x7_4 ++ [(wrap64 (Int.tdiv (wrap64 (bt a0 x8_2)) 16))]) := ⟨_, rfl⟩
                 replace H : (lexiphaneref1_Untab.l1 k4 a0 a1 y449 x8_2 (wrap64 (Int.tdiv (wrap64 (bt a0 x8_2)) 16)) (wrap64 ((Int.tmod (wrap64 (bt a0 x8_2)) 16) + 1)) (wrap64 (x11_4 + 1))) = some (r1, r2, r3) := by first | (rw [hy449]; with_reducible exact H) | (have H2_ := (Option.bind_some _ _).symm.trans H; rw [hy449]; with_reducible exact H2_) | (have H2_ := (Option.bind_some _ _).symm.trans H; with_reducible exact H2_) | with_reducible exact H | (rw [hy449]; exact H) | exact H
                 have Ny449 := Aside0.mk hy449
                 clear hy449
                 have H' := Aside0.mk H
                 clear H
                 go_wp2_with (first | ((with_reducible refine gate_builtin (b := .append) (xs := #[.tmp 73, .tmp 75]) rfl ?_); at_builtin; refine Kd.R_append (Kd.int .i64) (w0 := w) w.heap.size rfl (.tmp 73) (.tmp 75) 29 3 (.int .i64 0) 8 rfl Tryz.underlying29 info3 rfl (by decide) (by omega) u7 x7_4 (wrap64 (Int.tdiv (wrap64 (bt a0 x8_2)) 16)) [.int .i64 (wrap64 (Int.tdiv (wrap64 (bt a0 x8_2)) 16))] (fun _ => True) (fun _ => False) rfl rfl ?aP (fun _ hk => hk.elim) ?aF ?aO ?aB ?aS ?aL ?_; (case aP => exact rfl); (case aB => exact (by repeat (first | (with_reducible first | exact HB.out | apply below_alloc | apply pw_below_drewN | apply below_drew1) | exact HB.out))); (case aF => exact (fun _ _ => trivial)); (case aO => exact (by (with_reducible repeat (first | apply Kd.R_alloc | apply Kd.R_drewN | apply Kd.R_drew)); exact HO_7.out)); (case aS => exact (below_size (by repeat (first | (with_reducible first | exact HB.out | apply below_alloc | apply pw_below_drewN | apply below_drew1) | exact HB.out)))); (case aL => have := LMc25.out; omega); intro v450 w26 ho hb hg hat; rw [← Ny449.out] at ho; have n0_ := Aside0.mk (hb); have n1_ := Aside0.mk (ho); clear HB; clear HO_7; have HB := n0_; have HO451 := n1_; clear n0_ n1_; clear ho hb hg hat))
                 repeat (go_quiet (first | ((with_reducible refine gate_builtin (b := .append) (xs := #[.tmp 73, .tmp 75]) rfl ?_); at_builtin; refine Kd.R_append (Kd.int .i64) (w0 := w) w.heap.size rfl (.tmp 73) (.tmp 75) 29 3 (.int .i64 0) 8 rfl Tryz.underlying29 info3 rfl (by decide) (by omega) u7 x7_4 (wrap64 (Int.tdiv (wrap64 (bt a0 x8_2)) 16)) [.int .i64 (wrap64 (Int.tdiv (wrap64 (bt a0 x8_2)) 16))] (fun _ => True) (fun _ => False) rfl rfl ?aP (fun _ hk => hk.elim) ?aF ?aO ?aB ?aS ?aL ?_; (case aP => exact rfl); (case aB => exact (by repeat (first | (with_reducible first | exact HB.out | apply below_alloc | apply pw_below_drewN | apply below_drew1) | exact HB.out))); (case aF => exact (fun _ _ => trivial)); (case aO => exact (by (with_reducible repeat (first | apply Kd.R_alloc | apply Kd.R_drewN | apply Kd.R_drew)); exact HO_7.out)); (case aS => exact (below_size (by repeat (first | (with_reducible first | exact HB.out | apply below_alloc | apply pw_below_drewN | apply below_drew1) | exact HB.out)))); (case aL => have := LMc25.out; omega); intro v450 w26 ho hb hg hat; rw [← Ny449.out] at ho; have n0_ := Aside0.mk (hb); have n1_ := Aside0.mk (ho); clear HB; clear HO_7; have HB := n0_; have HO451 := n1_; clear n0_ n1_; clear ho hb hg hat)); try go_wp2_with (first | ((with_reducible refine gate_builtin (b := .append) (xs := #[.tmp 73, .tmp 75]) rfl ?_); at_builtin; refine Kd.R_append (Kd.int .i64) (w0 := w) w.heap.size rfl (.tmp 73) (.tmp 75) 29 3 (.int .i64 0) 8 rfl Tryz.underlying29 info3 rfl (by decide) (by omega) u7 x7_4 (wrap64 (Int.tdiv (wrap64 (bt a0 x8_2)) 16)) [.int .i64 (wrap64 (Int.tdiv (wrap64 (bt a0 x8_2)) 16))] (fun _ => True) (fun _ => False) rfl rfl ?aP (fun _ hk => hk.elim) ?aF ?aO ?aB ?aS ?aL ?_; (case aP => exact rfl); (case aB => exact (by repeat (first | (with_reducible first | exact HB.out | apply below_alloc | apply pw_below_drewN | apply below_drew1) | exact HB.out))); (case aF => exact (fun _ _ => trivial)); (case aO => exact (by (with_reducible repeat (first | apply Kd.R_alloc | apply Kd.R_drewN | apply Kd.R_drew)); exact HO_7.out)); (case aS => exact (below_size (by repeat (first | (with_reducible first | exact HB.out | apply below_alloc | apply pw_below_drewN | apply below_drew1) | exact HB.out)))); (case aL => have := LMc25.out; omega); intro v450 w26 ho hb hg hat; rw [← Ny449.out] at ho; have n0_ := Aside0.mk (hb); have n1_ := Aside0.mk (ho); clear HB; clear HO_7; have HB := n0_; have HO451 := n1_; clear n0_ n1_; clear ho hb hg hat)))
                 go_roundg k4
                 case measure => have := HJ2.out; have := HK2.out; have := HJ12.out; have := HK4.out; omega
                 case rel => exact ⟨(y449), (wrap64 (x11_4 + 1)), (by first | rfl | (simp; done) | (simp [*]; done)), H', ⟨by have := HJ2.out; have := HK2.out; have := HJ12.out; have := HK4.out; omega⟩, ⟨by (with_reducible repeat (first | apply Kd.R_alloc | apply Kd.R_drewN | apply Kd.R_drew)); exact HO451.out⟩, ⟨by repeat (first | (with_reducible first | exact HB.out | apply below_alloc | apply pw_below_drewN | apply below_drew1) | exact HB.out)⟩⟩
                ·rw [if_neg c25] at H
                 exact absurd H (by simp)
               ·rw [if_neg c24] at H
                have c24b0 : decide (x11_4 < (wrap64 ((Int.tmod (wrap64 (bt a0 x8_2)) 16) + 1))) = false := decide_eq_false c24
                clear c24
                have H' := Aside0.mk H
                clear H
                go_wp2
                repeat (go_quiet (fail); try go_wp2)
                go_roundg k4
                case measure => have := HJ2.out; have := HK2.out; have := HJ12.out; have := HK4.out; omega
                case rel => exact ⟨(x7_4), (wrap64 (x8_2 + 1)), (by first | rfl | (simp; done) | (simp [*]; done)), H', ⟨by have := HJ2.out; have := HK2.out; have := HJ12.out; have := HK4.out; omega⟩, ⟨by (with_reducible repeat (first | apply Kd.R_alloc | apply Kd.R_drewN | apply Kd.R_drew)); exact HO_7.out⟩, ⟨by repeat (first | (with_reducible first | exact HB.out | apply below_alloc | apply pw_below_drewN | apply below_drew1) | exact HB.out)⟩⟩
         ·rw [if_neg c10] at H
          exact absurd H (by simp)
        ·rw [if_neg c9] at H
         exact absurd H (by simp)
      ·rw [if_neg c6] at H
       have c6b0 : decide ((x7_2.length : Int) < a1) = false := decide_eq_false c6
       clear c6
       simp only [Option.some.injEq, Prod.mk.injEq] at H
       obtain ⟨rfl, rfl, rfl⟩ := H
       obtain ⟨Ao27, co27, eo27⟩ := Kd.R_slice HO_7.out
       subst eo27
       go_wp2
       repeat (go_quiet (fail); try go_wp2)
       go_ret3
       exact ⟨_, by first | rfl | (simp [errW_none, errW_some] <;> rfl) | (simp [*, errW_none, errW_some] <;> rfl), by (with_reducible repeat (first | apply Kd.R_alloc | apply Kd.R_drewN | apply Kd.R_drew)); exact HO_7.out, by repeat (first | (with_reducible first | exact HB.out | apply below_alloc | apply pw_below_drewN | apply below_drew1) | exact HB.out)⟩
mutual
def lexiphaneref1_bitsOf.l0 : Nat → ByteArray → List Int → Int → Option (List Int)
 | 0, _, _, _ => none
 | k + 1, x0, x3, x4 => if x4 < (x0.size : Int) then (lexiphaneref1_bitsOf.l1 k x0 x3 x4 7) else (some x3)
def lexiphaneref1_bitsOf.l1 : Nat → ByteArray → List Int → Int → Int → Option (List Int)
 | 0, _, _, _, _ => none
 | k + 1, x0, x3, x4, x5 => if x5 ≥ 0 then (if 0 ≤ x4 then (if x4 < (x0.size : Int) then (if 0 ≤ (IntKind.u64.wrap (x5)) then (if x3.length < 17592186044416 then (lexiphaneref1_bitsOf.l1 k x0 (x3 ++ [Go.bits .and .i64 (shr .i64 (wrap64 (bt x0 x4)) (IntKind.u64.wrap (x5))) 1]) x4 (wrap64 (x5 - 1))) else (none)) else (none)) else (none)) else (none)) else (lexiphaneref1_bitsOf.l0 k x0 x3 (wrap64 (x4 + 1)))
end
def lexiphaneref1_bitsOf.f (k : Nat) (a0 : ByteArray) : Option (List Int) := lexiphaneref1_bitsOf.l0 k a0 ([] : List Int) 0
theorem lexiphaneref1_bitsOf.mono_l : ∀ k, (∀ y0 y1 y2, LeO (lexiphaneref1_bitsOf.l0 k y0 y1 y2) (lexiphaneref1_bitsOf.l0 (k + 1) y0 y1 y2)) ∧ (∀ y0 y1 y2 y3, LeO (lexiphaneref1_bitsOf.l1 k y0 y1 y2 y3) (lexiphaneref1_bitsOf.l1 (k + 1) y0 y1 y2 y3))
 | 0 => ⟨fun _ _ _ r h => by simp [lexiphaneref1_bitsOf.l0] at h, fun _ _ _ _ r h => by simp [lexiphaneref1_bitsOf.l1] at h⟩
 | k + 1 => by
  obtain ⟨ih0, ih1⟩ := lexiphaneref1_bitsOf.mono_l k
  refine ⟨?_, ?_⟩
  ·intro y0 y1 y2
   unfold lexiphaneref1_bitsOf.l0
   repeat' first
   | (with_reducible exact ih0 _ _ _)
   | (with_reducible exact ih1 _ _ _ _)
   | (with_reducible exact LeO.refl _)
   | (with_reducible exact LeO.none _)
   | (with_reducible refine LeO.ite ?_ ?_)
   | (with_reducible refine LeO.bind ?_ (fun _ => ?_))
   | exact ih0 _ _ _
   | exact ih1 _ _ _ _
   | exact LeO.none _
   | refine LeO.ite ?_ ?_
   | refine LeO.bind ?_ (fun _ => ?_)
  ·intro y0 y1 y2 y3
   unfold lexiphaneref1_bitsOf.l1
   repeat' first
   | (with_reducible exact ih0 _ _ _)
   | (with_reducible exact ih1 _ _ _ _)
   | (with_reducible exact LeO.refl _)
   | (with_reducible exact LeO.none _)
   | (with_reducible refine LeO.ite ?_ ?_)
   | (with_reducible refine LeO.bind ?_ (fun _ => ?_))
   | exact ih0 _ _ _
   | exact ih1 _ _ _ _
   | exact LeO.none _
   | refine LeO.ite ?_ ?_
   | refine LeO.bind ?_ (fun _ => ?_)
theorem lexiphaneref1_bitsOf.mono : ∀ a0 k, LeO (lexiphaneref1_bitsOf.f k a0) (lexiphaneref1_bitsOf.f (k + 1) a0) := by
 intro a0 k
 obtain ⟨ih0, ih1⟩ := lexiphaneref1_bitsOf.mono_l k
 unfold lexiphaneref1_bitsOf.f
 repeat' first
   | (with_reducible exact ih0 _ _ _)
   | (with_reducible exact ih1 _ _ _ _)
   | (with_reducible exact LeO.refl _)
   | (with_reducible exact LeO.none _)
   | (with_reducible refine LeO.ite ?_ ?_)
   | (with_reducible refine LeO.bind ?_ (fun _ => ?_))
   | exact ih0 _ _ _
   | exact ih1 _ _ _ _
   | exact LeO.none _
   | refine LeO.ite ?_ ?_
   | refine LeO.bind ?_ (fun _ => ?_)
set_option maxHeartbeats 8000000 in
theorem lexiphaneref1_bitsOf.calls (k : Nat) (a0 : ByteArray) (r : List Int) (w : World) (h : lexiphaneref1_bitsOf.f k a0 = some r) :
  Calls Tryz.prog 109 #[.string a0] w fun e w' => ∃ v0_ : Value, e = .returned (v0_) ∧ Kd.R (Kd.int .i64) 3 w' w.heap.size (fun _ => True) v0_ r ∧ Below w.heap.size w w' := by
 have HB := Aside0.mk (Below.refl w.heap.size w)
 have H : (lexiphaneref1_bitsOf.l0 k a0 ([] : List Int) 0) = some r := h
 clear h
 have H' := Aside0.mk H
 clear H
 go_enter Tryz.func109, Tryz.ntmps109
 go_wp2
 go_loopg [3, 4] k (fun kq v3 v4 w' => ∃ (x3_1 : List Int) (x4_1 : Int), v4 = .int .i64 x4_1 ∧ Aside0 (lexiphaneref1_bitsOf.l0 kq a0 x3_1 x4_1 = some r) ∧ Aside0 (kq ≤ k) ∧ Aside0 (Kd.R (Kd.int .i64) 3 w' w.heap.size (fun _ => True) v3 x3_1) ∧ Aside0 (Below w.heap.size w w'))
 case atStart => exact ⟨(([] : List Int)), (0), (by first | rfl | (simp; done) | (simp [*]; done)), H', ⟨Nat.le_refl _⟩, ⟨by first | exact Kd.R_nil _ _ _ _ _ | exact Kd.N_nil _ _ _ _ _ | exact Kd.V_nil _ _ _ _ _ | exact Kd.Q_nil _ _ _ _ _ | exact Kd.S_nil _ _ _ _ _⟩, ⟨by repeat (first | (with_reducible first | exact HB.out | apply below_alloc | apply pw_below_drewN | apply below_drew1) | exact HB.out)⟩⟩
 case round =>
  clear H'
  try clear c1
  obtain ⟨x3_1, x4_1, rfl, HA, HK1, HO_3, HB⟩ := hrel
  cases gk with
  | zero => exact absurd HA.out (by simp [lexiphaneref1_bitsOf.l0])
  | succ k1 =>
   have H := HA.out
   clear HA
   simp only [lexiphaneref1_bitsOf.l0] at H
   by_cases c2 : x4_1 < (a0.size : Int)
   ·rw [if_pos c2] at H
    have c2b0 : decide (x4_1 < (a0.size : Int)) = true := decide_eq_true c2
    clear c2
    have H' := Aside0.mk H
    clear H
    go_wp2
    go_loopg [3, 5] k1 (fun kq v3 v5 w' => ∃ (x3_2 : List Int) (x5_2 : Int), v5 = .int .i64 x5_2 ∧ Aside0 (lexiphaneref1_bitsOf.l1 kq a0 x3_2 x4_1 x5_2 = some r) ∧ Aside0 (kq ≤ k1) ∧ Aside0 (Kd.R (Kd.int .i64) 3 w' w.heap.size (fun _ => True) v3 x3_2) ∧ Aside0 (Below w.heap.size w w'))
    case atStart => exact ⟨(x3_1), (7), (by first | rfl | (simp; done) | (simp [*]; done)), H', ⟨Nat.le_refl _⟩, ⟨by (with_reducible repeat (first | apply Kd.R_alloc | apply Kd.R_drewN | apply Kd.R_drew)); exact HO_3.out⟩, ⟨by repeat (first | (with_reducible first | exact HB.out | apply below_alloc | apply pw_below_drewN | apply below_drew1) | exact HB.out)⟩⟩
    case round =>
     clear H'
     try clear c1
     try clear c2
     try clear c2b0
     try clear p2
     obtain ⟨x3_2, x5_2, rfl, HA, HK2, HO_3, HB⟩ := hrel
     cases gk with
     | zero => exact absurd HA.out (by simp [lexiphaneref1_bitsOf.l1])
     | succ k2 =>
      have H := HA.out
      clear HA
      simp only [lexiphaneref1_bitsOf.l1] at H
      by_cases c3 : x5_2 ≥ 0
      ·rw [if_pos c3] at H
       have c3b0 : decide (0 ≤ x5_2) = true := decide_eq_true c3
       clear c3
       by_cases c4 : 0 ≤ x4_1
       ·rw [if_pos c4] at H
        have c4b0 : decide (0 ≤ x4_1) = true := decide_eq_true c4
        clear c4
        by_cases c5 : x4_1 < (a0.size : Int)
        ·rw [if_pos c5] at H
         have c5b0 : decide (x4_1 < (a0.size : Int)) = true := decide_eq_true c5
         clear c5
         obtain ⟨ji7, hji7⟩ : ∃ j_ : Int, (IntKind.u64.wrap (x5_2)) = j_ := ⟨_, rfl⟩
         replace H : (if 0 ≤ (ji7) then (if x3_2.length < 17592186044416 then (lexiphaneref1_bitsOf.l1 k2 a0 (x3_2 ++ [Go.bits .and .i64 (shr .i64 (wrap64 (bt a0 x4_1)) (ji7)) 1]) x4_1 (wrap64 (x5_2 - 1))) else (none)) else (none)) = some r := by first | (rw [hji7] at H; exact H) | (simp only [hji7] at H ⊢; exact H)
         by_cases c8 : 0 ≤ (ji7)
         ·rw [if_pos c8] at H
          have c8b0 := eq_true c8
          have c8b1 : decide (0 ≤ (ji7)) = true := decide_eq_true c8
          clear c8
          obtain ⟨ji9, hji9⟩ : ∃ j_ : Int, (shr .i64 (wrap64 (bt a0 x4_1)) (ji7)) = j_ := ⟨_, rfl⟩
          replace H : (if x3_2.length < 17592186044416 then (lexiphaneref1_bitsOf.l1 k2 a0 (x3_2 ++ [Go.bits .and .i64 (ji9) 1]) x4_1 (wrap64 (x5_2 - 1))) else (none)) = some r := by first | (rw [hji9] at H; exact H) | (simp only [hji9] at H ⊢; exact H)
          have hji9_ : ((wrap64 (bt a0 x4_1)) / 2 ^ min (ji7).toNat 64) = ji9 := hji9
          have hji9z : (ji7) ≤ 64 → ((wrap64 (bt a0 x4_1)) / 2 ^ (ji7).toNat) = ji9 := shr_small hji9
          by_cases c10 : x3_2.length < 17592186044416
          ·rw [if_pos c10] at H
           have LMc10 := Aside0.mk c10
           clear c10
           obtain ⟨y452, hy452⟩ : ∃ y_ : List Int, y_ = (x3_2 ++ [Go.bits .and .i64 (ji9) 1]) := ⟨_, rfl⟩
           replace H : (lexiphaneref1_bitsOf.l1 k2 a0 y452 x4_1 (wrap64 (x5_2 - 1))) = some r := by first | (rw [hy452]; with_reducible exact H) | (have H2_ := (Option.bind_some _ _).symm.trans H; rw [hy452]; with_reducible exact H2_) | (have H2_ := (Option.bind_some _ _).symm.trans H; with_reducible exact H2_) | with_reducible exact H | (rw [hy452]; exact H) | exact H
           have Ny452 := Aside0.mk hy452
           clear hy452
           have H' := Aside0.mk H
           clear H
           have p6 : 0 ≤ (x4_1 : Int) := of_decide_eq_true (by first | (with_reducible assumption) | assumption)
           have q6 : x4_1 < (a0.size : Int) := of_decide_eq_true (by first | (with_reducible assumption) | assumption)
           have hx6 := bt_at a0 x4_1
           replace p6 := eq_true p6
           replace q6 := eq_true q6
           go_wp2_with (first | ((with_reducible refine gate_builtin (b := .append) (xs := #[.tmp 16, .tmp 25]) rfl ?_); at_builtin; refine Kd.R_append (Kd.int .i64) (w0 := w) w.heap.size rfl (.tmp 16) (.tmp 25) 29 3 (.int .i64 0) 8 rfl Tryz.underlying29 info3 rfl (by decide) (by omega) u3 x3_2 (Go.bits .and .i64 (ji9) 1) [.int .i64 (Go.bits .and .i64 (ji9) 1)] (fun _ => True) (fun _ => False) rfl rfl ?aP (fun _ hk => hk.elim) ?aF ?aO ?aB ?aS ?aL ?_; (case aP => exact rfl); (case aB => exact (by repeat (first | (with_reducible first | exact HB.out | apply below_alloc | apply pw_below_drewN | apply below_drew1) | exact HB.out))); (case aF => exact (fun _ _ => trivial)); (case aO => exact (by (with_reducible repeat (first | apply Kd.R_alloc | apply Kd.R_drewN | apply Kd.R_drew)); exact HO_3.out)); (case aS => exact (below_size (by repeat (first | (with_reducible first | exact HB.out | apply below_alloc | apply pw_below_drewN | apply below_drew1) | exact HB.out)))); (case aL => have := LMc10.out; omega); intro v453 w11 ho hb hg hat; rw [← Ny452.out] at ho; have n0_ := Aside0.mk (hb); have n1_ := Aside0.mk (ho); clear HB; clear HO_3; have HB := n0_; have HO454 := n1_; clear n0_ n1_; clear ho hb hg hat))
           go_roundg k2
           case measure => have := HK1.out; have := HK2.out; omega
           case rel => exact ⟨(y452), (wrap64 (x5_2 - 1)), (by first | rfl | (simp; done) | (simp [*]; done)), H', ⟨by have := HK1.out; have := HK2.out; omega⟩, ⟨by (with_reducible repeat (first | apply Kd.R_alloc | apply Kd.R_drewN | apply Kd.R_drew)); exact HO454.out⟩, ⟨by repeat (first | (with_reducible first | exact HB.out | apply below_alloc | apply pw_below_drewN | apply below_drew1) | exact HB.out)⟩⟩
          ·rw [if_neg c10] at H
           exact absurd H (by simp)
         ·rw [if_neg c8] at H
          exact absurd H (by simp)
        ·rw [if_neg c5] at H
         exact absurd H (by simp)
       ·rw [if_neg c4] at H
        exact absurd H (by simp)
      ·rw [if_neg c3] at H
       have c3b0 : decide (0 ≤ x5_2) = false := decide_eq_false c3
       clear c3
       have H' := Aside0.mk H
       clear H
       go_wp2
       go_roundg k2
       case measure => have := HK1.out; have := HK2.out; omega
       case rel => exact ⟨(x3_2), (wrap64 (x4_1 + 1)), (by first | rfl | (simp; done) | (simp [*]; done)), H', ⟨by have := HK1.out; have := HK2.out; omega⟩, ⟨by (with_reducible repeat (first | apply Kd.R_alloc | apply Kd.R_drewN | apply Kd.R_drew)); exact HO_3.out⟩, ⟨by repeat (first | (with_reducible first | exact HB.out | apply below_alloc | apply pw_below_drewN | apply below_drew1) | exact HB.out)⟩⟩
   ·rw [if_neg c2] at H
    have c2b0 : decide (x4_1 < (a0.size : Int)) = false := decide_eq_false c2
    clear c2
    obtain rfl := Option.some.inj H
    go_wp2
    go_ret
    exact ⟨_, by first | rfl | (simp [errW_none, errW_some] <;> rfl) | (simp [*, errW_none, errW_some] <;> rfl), by (with_reducible repeat (first | apply Kd.R_alloc | apply Kd.R_drewN | apply Kd.R_drew)); exact HO_3.out, by repeat (first | (with_reducible first | exact HB.out | apply below_alloc | apply pw_below_drewN | apply below_drew1) | exact HB.out)⟩
mutual
def lexiphaneref1_Next.l0 : Nat → List Int → List Int → List Int → Int → Int → Int → Option (Int × Int × Int)
 | 0, _, _, _, _, _, _ => none
 | k + 1, x0, x1, x2, x3, x11, x12 => if x12 ≤ 15 then (if (wrap64 (x3 + x12)) > (x2.length : Int) then (some (0, 0, 2)) else (if 0 ≤ (wrap64 ((wrap64 (x3 + x12)) - 1)) then (if (wrap64 ((wrap64 (x3 + x12)) - 1)) < (x2.length : Int) then (lexiphaneref1_Next.l1 k x0 x1 x2 x3 (wrap64 ((wrap64 (x11 * 2)) + (rd x2 (wrap64 ((wrap64 (x3 + x12)) - 1))))) x12 false 0) else (none)) else (none))) else (some (0, 0, 8))
def lexiphaneref1_Next.l1 : Nat → List Int → List Int → List Int → Int → Int → Int → Bool → Int → Option (Int × Int × Int)
 | 0, _, _, _, _, _, _, _, _ => none
 | k + 1, x0, x1, x2, x3, x11, x12, x13, x14 => if x14 < (x0.length : Int) then (if 0 ≤ x14 then (if (rd x0 x14) = x12 then (if x14 < (x1.length : Int) then (if (rd x1 x14) = x11 then (some (x14, x12, 0)) else (if x13 = true then (lexiphaneref1_Next.l1 k x0 x1 x2 x3 x11 x12 true (wrap64 (x14 + 1))) else (lexiphaneref1_Next.l1 k x0 x1 x2 x3 x11 x12 (decide ((rd x0 x14) > x12)) (wrap64 (x14 + 1))))) else (none)) else (if x13 = true then (lexiphaneref1_Next.l1 k x0 x1 x2 x3 x11 x12 true (wrap64 (x14 + 1))) else (lexiphaneref1_Next.l1 k x0 x1 x2 x3 x11 x12 (decide ((rd x0 x14) > x12)) (wrap64 (x14 + 1))))) else (none)) else (if x13 = true then (lexiphaneref1_Next.l0 k x0 x1 x2 x3 x11 (wrap64 (x12 + 1))) else (some (0, 0, 8)))
end
def lexiphaneref1_Next.f (k : Nat) (l0 : List Int) (l1 : List Int) (l2 : List Int) (a3 : Int) : Option (Int × Int × Int) := lexiphaneref1_Next.l0 k l0 l1 l2 a3 0 1
theorem lexiphaneref1_Next.mono_l : ∀ k, (∀ y0 y1 y2 y3 y4 y5, LeO (lexiphaneref1_Next.l0 k y0 y1 y2 y3 y4 y5) (lexiphaneref1_Next.l0 (k + 1) y0 y1 y2 y3 y4 y5)) ∧ (∀ y0 y1 y2 y3 y4 y5 y6 y7, LeO (lexiphaneref1_Next.l1 k y0 y1 y2 y3 y4 y5 y6 y7) (lexiphaneref1_Next.l1 (k + 1) y0 y1 y2 y3 y4 y5 y6 y7))
 | 0 => ⟨fun _ _ _ _ _ _ r h => by simp [lexiphaneref1_Next.l0] at h, fun _ _ _ _ _ _ _ _ r h => by simp [lexiphaneref1_Next.l1] at h⟩
 | k + 1 => by
  obtain ⟨ih0, ih1⟩ := lexiphaneref1_Next.mono_l k
  refine ⟨?_, ?_⟩
  ·intro y0 y1 y2 y3 y4 y5
   unfold lexiphaneref1_Next.l0
   repeat' first
   | (with_reducible exact ih0 _ _ _ _ _ _)
   | (with_reducible exact ih1 _ _ _ _ _ _ _ _)
   | (with_reducible exact LeO.refl _)
   | (with_reducible exact LeO.none _)
   | (with_reducible refine LeO.ite ?_ ?_)
   | (with_reducible refine LeO.bind ?_ (fun _ => ?_))
   | exact ih0 _ _ _ _ _ _
   | exact ih1 _ _ _ _ _ _ _ _
   | exact LeO.none _
   | refine LeO.ite ?_ ?_
   | refine LeO.bind ?_ (fun _ => ?_)
  ·intro y0 y1 y2 y3 y4 y5 y6 y7
   unfold lexiphaneref1_Next.l1
   repeat' first
   | (with_reducible exact ih0 _ _ _ _ _ _)
   | (with_reducible exact ih1 _ _ _ _ _ _ _ _)
   | (with_reducible exact LeO.refl _)
   | (with_reducible exact LeO.none _)
   | (with_reducible refine LeO.ite ?_ ?_)
   | (with_reducible refine LeO.bind ?_ (fun _ => ?_))
   | exact ih0 _ _ _ _ _ _
   | exact ih1 _ _ _ _ _ _ _ _
   | exact LeO.none _
   | refine LeO.ite ?_ ?_
   | refine LeO.bind ?_ (fun _ => ?_)
theorem lexiphaneref1_Next.mono : ∀ a0 a1 a2 a3 k, LeO (lexiphaneref1_Next.f k a0 a1 a2 a3) (lexiphaneref1_Next.f (k + 1) a0 a1 a2 a3) := by
 intro a0 a1 a2 a3 k
 obtain ⟨ih0, ih1⟩ := lexiphaneref1_Next.mono_l k
 unfold lexiphaneref1_Next.f
 repeat' first
   | (with_reducible exact ih0 _ _ _ _ _ _)
   | (with_reducible exact ih1 _ _ _ _ _ _ _ _)
   | (with_reducible exact LeO.refl _)
   | (with_reducible exact LeO.none _)
   | (with_reducible refine LeO.ite ?_ ?_)
   | (with_reducible refine LeO.bind ?_ (fun _ => ?_))
   | exact ih0 _ _ _ _ _ _
   | exact ih1 _ _ _ _ _ _ _ _
   | exact LeO.none _
   | refine LeO.ite ?_ ?_
   | refine LeO.bind ?_ (fun _ => ?_)
set_option maxHeartbeats 8000000 in
theorem lexiphaneref1_Next.calls (k : Nat) (A0 : Option Addr) (c0 : Nat) (l0 : List Int) (A1 : Option Addr) (c1 : Nat) (l1 : List Int) (A2 : Option Addr) (c2 : Nat) (l2 : List Int) (a3 : Int) (r1 : Int) (r2 : Int) (r3 : Int) (w : World) (hr0 : Kd.C (Kd.int .i64) w A0 l0.length l0) (hc0 : l0.length ≤ c0) (hr1 : Kd.C (Kd.int .i64) w A1 l1.length l1) (hc1 : l1.length ≤ c1) (hr2 : Kd.C (Kd.int .i64) w A2 l2.length l2) (hc2 : l2.length ≤ c2) (h : lexiphaneref1_Next.f k l0 l1 l2 a3 = some (r1, r2, r3)) :
  Calls Tryz.prog 110 #[.slice A0 l0.length c0, .slice A1 l1.length c1, .slice A2 l2.length c2, .int .i64 a3] w fun e w' => e = .returned (.tuple #[.int .i64 r1, .int .i64 r2, .int .i64 r3]) ∧ Drawn0 w w' := by
 have HR0 := Aside0.mk hr0
 have HC0 := Aside0.mk hc0
 clear hr0 hc0
 have HR1 := Aside0.mk hr1
 have HC1 := Aside0.mk hc1
 clear hr1 hc1
 have HR2 := Aside0.mk hr2
 have HC2 := Aside0.mk hc2
 clear hr2 hc2
 have H : (lexiphaneref1_Next.l0 k l0 l1 l2 a3 0 1) = some (r1, r2, r3) := h
 clear h
 have H' := Aside0.mk H
 clear H
 go_enter Tryz.func110, Tryz.ntmps110
 go_wp2
 go_loopg [11, 12] k (fun kq v11 v12 w' => ∃ (x11_1 : Int) (x12_1 : Int), v11 = .int .i64 x11_1 ∧ v12 = .int .i64 x12_1 ∧ Aside0 (lexiphaneref1_Next.l0 kq l0 l1 l2 a3 x11_1 x12_1 = some (r1, r2, r3)) ∧ Aside0 (kq ≤ k) ∧ Drawn0 w w')
 case atStart => exact ⟨(0), (1), (by first | rfl | (simp; done) | (simp [*]; done)), (by first | rfl | (simp; done) | (simp [*]; done)), H', ⟨Nat.le_refl _⟩, by repeat (first | exact Drawn0.refl _ | apply Drawn0.step)⟩
 case round =>
  clear H'
  try clear c1
  try clear c2
  try clear p2
  obtain ⟨x11_1, x12_1, rfl, rfl, HA, HK1, ⟨m1, rfl⟩⟩ := hrel
  cases gk with
  | zero => exact absurd HA.out (by simp [lexiphaneref1_Next.l0])
  | succ k1 =>
   have H := HA.out
   clear HA
   simp only [lexiphaneref1_Next.l0] at H
   by_cases c5 : x12_1 ≤ 15
   ·rw [if_pos c5] at H
    have c5b0 : decide (x12_1 ≤ 15) = true := decide_eq_true c5
    clear c5
    by_cases c6 : (wrap64 (a3 + x12_1)) > (l2.length : Int)
    ·rw [if_pos c6] at H
     have c6b0 : decide ((l2.length : Int) < (wrap64 (a3 + x12_1))) = true := decide_eq_true c6
     clear c6
     simp only [Option.some.injEq, Prod.mk.injEq] at H
     obtain ⟨rfl, rfl, rfl⟩ := H
     go_wp2
     go_ret3
     exact ⟨by first | rfl | (simp; done) | (simp [*]; done), by repeat (first | exact Drawn0.refl _ | apply Drawn0.step)⟩
    ·rw [if_neg c6] at H
     have c6b0 : decide ((l2.length : Int) < (wrap64 (a3 + x12_1))) = false := decide_eq_false c6
     clear c6
     obtain ⟨ji7, hji7⟩ : ∃ j_ : Int, (wrap64 ((wrap64 (a3 + x12_1)) - 1)) = j_ := ⟨_, rfl⟩
     replace H : (if 0 ≤ (ji7) then (if (ji7) < (l2.length : Int) then (lexiphaneref1_Next.l1 k1 l0 l1 l2 a3 (wrap64 ((wrap64 (x11_1 * 2)) + (rd l2 (ji7)))) x12_1 false 0) else (none)) else (none)) = some (r1, r2, r3) := by first | (rw [hji7] at H; exact H) | (simp only [hji7] at H ⊢; exact H)
     have hji7w : (IntKind.i64.wrap ((wrap64 (a3 + x12_1)) - 1)) = ji7 := (i64_w _).trans hji7
     by_cases c8 : 0 ≤ (ji7)
     ·rw [if_pos c8] at H
      have c8b0 : decide (0 ≤ (ji7)) = true := decide_eq_true c8
      clear c8
      by_cases c9 : (ji7) < (l2.length : Int)
      ·rw [if_pos c9] at H
       have c9b0 : decide ((ji7) < (l2.length : Int)) = true := decide_eq_true c9
       clear c9
       have H' := Aside0.mk H
       clear H
       have p455 : 0 ≤ ((ji7) : Int) := of_decide_eq_true (by first | (with_reducible assumption) | assumption)
       have q455 : (ji7) < (l2.length : Int) := of_decide_eq_true (by first | (with_reducible assumption) | assumption)
       obtain ⟨ad455, e455, hx455_0⟩ := Kd.at_int HR2.out (ji7) p455 q455
       cases e455
       replace p455 := eq_true p455
       replace q455 := eq_true q455
       go_wp2
       go_loopg [13, 14] k1 (fun kq v13 v14 w' => ∃ (x13_2 : Bool) (x14_2 : Int), v13 = .bool x13_2 ∧ v14 = .int .i64 x14_2 ∧ Aside0 (lexiphaneref1_Next.l1 kq l0 l1 l2 a3 (wrap64 ((wrap64 (x11_1 * 2)) + (rd l2 (ji7)))) x12_1 x13_2 x14_2 = some (r1, r2, r3)) ∧ Aside0 (kq ≤ k1) ∧ Drawn0 w w')
       case atStart => exact ⟨(false), (0), (by first | rfl | (simp; done) | (simp [*]; done)), (by first | rfl | (simp; done) | (simp [*]; done)), H', ⟨Nat.le_refl _⟩, by repeat (first | exact Drawn0.refl _ | apply Drawn0.step)⟩
       case round =>
        clear H'
        try clear c1
        try clear c2
        try clear p2
        try clear p4
        try clear q4
        try clear hx4
        try clear c5
        try clear c5b0
        try clear c6
        try clear c6b0
        try clear p6
        try clear c8
        try clear c8b0
        try clear c9
        try clear c9b0
        try clear hx455_0
        try clear p2
        try clear p455
        try clear q455
        obtain ⟨x13_2, x14_2, rfl, rfl, HA, HK2, ⟨m2, rfl⟩⟩ := hrel
        cases gk with
        | zero => exact absurd HA.out (by simp [lexiphaneref1_Next.l1])
        | succ k2 =>
         have H := HA.out
         clear HA
         simp only [lexiphaneref1_Next.l1] at H
         by_cases c10 : x14_2 < (l0.length : Int)
         ·rw [if_pos c10] at H
          have c10b0 : decide (x14_2 < (l0.length : Int)) = true := decide_eq_true c10
          clear c10
          by_cases c11 : 0 ≤ x14_2
          ·rw [if_pos c11] at H
           have c11b0 : decide (0 ≤ x14_2) = true := decide_eq_true c11
           clear c11
           by_cases c12 : (rd l0 x14_2) = x12_1
           ·rw [if_pos c12] at H
            have c12b0 : ((rd l0 x14_2) == x12_1) = true := beq_iff_eq.mpr c12
            have c12b1 : ((rd l0 x14_2) != x12_1) = false := bne_eq_false_iff_eq.mpr c12
            clear c12
            by_cases c13 : x14_2 < (l1.length : Int)
            ·rw [if_pos c13] at H
             have c13b0 : decide (x14_2 < (l1.length : Int)) = true := decide_eq_true c13
             clear c13
             by_cases c14 : (rd l1 x14_2) = (wrap64 ((wrap64 (x11_1 * 2)) + (rd l2 (ji7))))
             ·rw [if_pos c14] at H
              have c14b0 : ((rd l1 x14_2) == (wrap64 ((wrap64 (x11_1 * 2)) + (rd l2 (ji7))))) = true := beq_iff_eq.mpr c14
              have c14b1 : ((rd l1 x14_2) != (wrap64 ((wrap64 (x11_1 * 2)) + (rd l2 (ji7))))) = false := bne_eq_false_iff_eq.mpr c14
              clear c14
              simp only [Option.some.injEq, Prod.mk.injEq] at H
              obtain ⟨rfl, rfl, rfl⟩ := H
              have p456 : 0 ≤ (x14_2 : Int) := of_decide_eq_true (by first | (with_reducible assumption) | assumption)
              have q456 : x14_2 < (l0.length : Int) := of_decide_eq_true (by first | (with_reducible assumption) | assumption)
              obtain ⟨ad456, e456, hx456_0⟩ := Kd.at_int HR0.out x14_2 p456 q456
              cases e456
              replace p456 := eq_true p456
              replace q456 := eq_true q456
              have p457 : 0 ≤ (x14_2 : Int) := of_decide_eq_true (by first | (with_reducible assumption) | assumption)
              have q457 : x14_2 < (l1.length : Int) := of_decide_eq_true (by first | (with_reducible assumption) | assumption)
              obtain ⟨ad457, e457, hx457_0⟩ := Kd.at_int HR1.out x14_2 p457 q457
              cases e457
              replace p457 := eq_true p457
              replace q457 := eq_true q457
              go_wp2
              go_ret3
              exact ⟨by first | rfl | (simp; done) | (simp only [← hji7] <;> (first | rfl | simp)) | (simp [*]; done), by repeat (first | exact Drawn0.refl _ | apply Drawn0.step)⟩
             ·rw [if_neg c14] at H
              have c14b0 : ((rd l1 x14_2) == (wrap64 ((wrap64 (x11_1 * 2)) + (rd l2 (ji7))))) = false := beq_eq_false_iff_ne.mpr c14
              have c14b1 : ((rd l1 x14_2) != (wrap64 ((wrap64 (x11_1 * 2)) + (rd l2 (ji7))))) = true := bne_iff_ne.mpr c14
              by_cases c15 : x13_2 = true
              ·subst c15
               have H1 : (lexiphaneref1_Next.l1 k2 l0 l1 l2 a3 (wrap64 ((wrap64 (x11_1 * 2)) + (rd l2 (ji7)))) x12_1 true (wrap64 (x14_2 + 1))) = some (r1, r2, r3) := by rw [if_pos rfl] at H; exact H
               clear H
               have H := H1
               clear H1
               have H' := Aside0.mk H
               clear H
               have p456 : 0 ≤ (x14_2 : Int) := of_decide_eq_true (by first | (with_reducible assumption) | assumption)
               have q456 : x14_2 < (l0.length : Int) := of_decide_eq_true (by first | (with_reducible assumption) | assumption)
               obtain ⟨ad456, e456, hx456_0⟩ := Kd.at_int HR0.out x14_2 p456 q456
               cases e456
               replace p456 := eq_true p456
               replace q456 := eq_true q456
               have p457 : 0 ≤ (x14_2 : Int) := of_decide_eq_true (by first | (with_reducible assumption) | assumption)
               have q457 : x14_2 < (l1.length : Int) := of_decide_eq_true (by first | (with_reducible assumption) | assumption)
               obtain ⟨ad457, e457, hx457_0⟩ := Kd.at_int HR1.out x14_2 p457 q457
               cases e457
               replace p457 := eq_true p457
               replace q457 := eq_true q457
               go_wp2
               go_roundg k2
               case measure => have := HK1.out; have := HK2.out; omega
               case rel => exact ⟨(true), (wrap64 (x14_2 + 1)), (by first | rfl | (simp; done) | (simp [*]; done)), (by first | rfl | (simp; done) | (simp [*]; done)), H', ⟨by have := HK1.out; have := HK2.out; omega⟩, by repeat (first | exact Drawn0.refl _ | apply Drawn0.step)⟩
              ·replace c15 := Bool.eq_false_iff.mpr c15
               subst c15
               have H1 : (lexiphaneref1_Next.l1 k2 l0 l1 l2 a3 (wrap64 ((wrap64 (x11_1 * 2)) + (rd l2 (ji7)))) x12_1 (decide ((rd l0 x14_2) > x12_1)) (wrap64 (x14_2 + 1))) = some (r1, r2, r3) := by rw [if_neg (show ¬ (false = true) by decide)] at H; exact H
               clear H
               have H := H1
               clear H1
               have H' := Aside0.mk H
               clear H
               have p456 : 0 ≤ (x14_2 : Int) := of_decide_eq_true (by first | (with_reducible assumption) | assumption)
               have q456 : x14_2 < (l0.length : Int) := of_decide_eq_true (by first | (with_reducible assumption) | assumption)
               obtain ⟨ad456, e456, hx456_0⟩ := Kd.at_int HR0.out x14_2 p456 q456
               cases e456
               replace p456 := eq_true p456
               replace q456 := eq_true q456
               have p457 : 0 ≤ (x14_2 : Int) := of_decide_eq_true (by first | (with_reducible assumption) | assumption)
               have q457 : x14_2 < (l1.length : Int) := of_decide_eq_true (by first | (with_reducible assumption) | assumption)
               obtain ⟨ad457, e457, hx457_0⟩ := Kd.at_int HR1.out x14_2 p457 q457
               cases e457
               replace p457 := eq_true p457
               replace q457 := eq_true q457
               have p458 : 0 ≤ (x14_2 : Int) := of_decide_eq_true (by first | (with_reducible assumption) | assumption)
               have q458 : x14_2 < (l0.length : Int) := of_decide_eq_true (by first | (with_reducible assumption) | assumption)
               obtain ⟨ad458, e458, hx458_0⟩ := Kd.at_int HR0.out x14_2 p458 q458
               obtain rfl : ad456 = ad458 := (by injection e458)
               replace p458 := eq_true p458
               replace q458 := eq_true q458
               go_wp2
               go_roundg k2
               case measure => have := HK1.out; have := HK2.out; omega
               case rel => exact ⟨(decide ((rd l0 x14_2) > x12_1)), (wrap64 (x14_2 + 1)), (by first | rfl | (simp; done) | (simp [*]; done)), (by first | rfl | (simp; done) | (simp [*]; done)), H', ⟨by have := HK1.out; have := HK2.out; omega⟩, by repeat (first | exact Drawn0.refl _ | apply Drawn0.step)⟩
            ·rw [if_neg c13] at H
             exact absurd H (by simp)
           ·rw [if_neg c12] at H
            have c12b0 : ((rd l0 x14_2) == x12_1) = false := beq_eq_false_iff_ne.mpr c12
            have c12b1 : ((rd l0 x14_2) != x12_1) = true := bne_iff_ne.mpr c12
            by_cases c16 : x13_2 = true
            ·subst c16
             have H1 : (lexiphaneref1_Next.l1 k2 l0 l1 l2 a3 (wrap64 ((wrap64 (x11_1 * 2)) + (rd l2 (ji7)))) x12_1 true (wrap64 (x14_2 + 1))) = some (r1, r2, r3) := by rw [if_pos rfl] at H; exact H
             clear H
             have H := H1
             clear H1
             have H' := Aside0.mk H
             clear H
             have p456 : 0 ≤ (x14_2 : Int) := of_decide_eq_true (by first | (with_reducible assumption) | assumption)
             have q456 : x14_2 < (l0.length : Int) := of_decide_eq_true (by first | (with_reducible assumption) | assumption)
             obtain ⟨ad456, e456, hx456_0⟩ := Kd.at_int HR0.out x14_2 p456 q456
             cases e456
             replace p456 := eq_true p456
             replace q456 := eq_true q456
             go_wp2
             go_roundg k2
             case measure => have := HK1.out; have := HK2.out; omega
             case rel => exact ⟨(true), (wrap64 (x14_2 + 1)), (by first | rfl | (simp; done) | (simp [*]; done)), (by first | rfl | (simp; done) | (simp [*]; done)), H', ⟨by have := HK1.out; have := HK2.out; omega⟩, by repeat (first | exact Drawn0.refl _ | apply Drawn0.step)⟩
            ·replace c16 := Bool.eq_false_iff.mpr c16
             subst c16
             have H1 : (lexiphaneref1_Next.l1 k2 l0 l1 l2 a3 (wrap64 ((wrap64 (x11_1 * 2)) + (rd l2 (ji7)))) x12_1 (decide ((rd l0 x14_2) > x12_1)) (wrap64 (x14_2 + 1))) = some (r1, r2, r3) := by rw [if_neg (show ¬ (false = true) by decide)] at H; exact H
             clear H
             have H := H1
             clear H1
             have H' := Aside0.mk H
             clear H
             have p456 : 0 ≤ (x14_2 : Int) := of_decide_eq_true (by first | (with_reducible assumption) | assumption)
             have q456 : x14_2 < (l0.length : Int) := of_decide_eq_true (by first | (with_reducible assumption) | assumption)
             obtain ⟨ad456, e456, hx456_0⟩ := Kd.at_int HR0.out x14_2 p456 q456
             cases e456
             replace p456 := eq_true p456
             replace q456 := eq_true q456
             have p459 : 0 ≤ (x14_2 : Int) := of_decide_eq_true (by first | (with_reducible assumption) | assumption)
             have q459 : x14_2 < (l0.length : Int) := of_decide_eq_true (by first | (with_reducible assumption) | assumption)
             obtain ⟨ad459, e459, hx459_0⟩ := Kd.at_int HR0.out x14_2 p459 q459
             obtain rfl : ad456 = ad459 := (by injection e459)
             replace p459 := eq_true p459
             replace q459 := eq_true q459
             go_wp2
             go_roundg k2
             case measure => have := HK1.out; have := HK2.out; omega
             case rel => exact ⟨(decide ((rd l0 x14_2) > x12_1)), (wrap64 (x14_2 + 1)), (by first | rfl | (simp; done) | (simp [*]; done)), (by first | rfl | (simp; done) | (simp [*]; done)), H', ⟨by have := HK1.out; have := HK2.out; omega⟩, by repeat (first | exact Drawn0.refl _ | apply Drawn0.step)⟩
          ·rw [if_neg c11] at H
           exact absurd H (by simp)
         ·rw [if_neg c10] at H
          have c10b0 : decide (x14_2 < (l0.length : Int)) = false := decide_eq_false c10
          clear c10
          by_cases c17 : x13_2 = true
          ·subst c17
           have H1 : (lexiphaneref1_Next.l0 k2 l0 l1 l2 a3 (wrap64 ((wrap64 (x11_1 * 2)) + (rd l2 (ji7)))) (wrap64 (x12_1 + 1))) = some (r1, r2, r3) := by rw [if_pos rfl] at H; exact H
           clear H
           have H := H1
           clear H1
           have H' := Aside0.mk H
           clear H
           go_wp2
           go_roundg k2
           case measure => have := HK1.out; have := HK2.out; omega
           case rel => exact ⟨((wrap64 ((wrap64 (x11_1 * 2)) + (rd l2 (ji7))))), (wrap64 (x12_1 + 1)), (by first | rfl | (simp; done) | (simp only [← hji7] <;> (first | rfl | simp)) | (simp [*]; done)), (by first | rfl | (simp; done) | (simp [*]; done)), H', ⟨by have := HK1.out; have := HK2.out; omega⟩, by repeat (first | exact Drawn0.refl _ | apply Drawn0.step)⟩
          ·replace c17 := Bool.eq_false_iff.mpr c17
           subst c17
           have H1 : (some (0, 0, 8)) = some (r1, r2, r3) := by rw [if_neg (show ¬ (false = true) by decide)] at H; exact H
           clear H
           have H := H1
           clear H1
           simp only [Option.some.injEq, Prod.mk.injEq] at H
           obtain ⟨rfl, rfl, rfl⟩ := H
           go_wp2
           go_ret3
           exact ⟨by first | rfl | (simp; done) | (simp only [← hji7] <;> (first | rfl | simp)) | (simp [*]; done), by repeat (first | exact Drawn0.refl _ | apply Drawn0.step)⟩
      ·rw [if_neg c9] at H
       exact absurd H (by simp)
     ·rw [if_neg c8] at H
      exact absurd H (by simp)
   ·rw [if_neg c5] at H
    have c5b0 : decide (x12_1 ≤ 15) = false := decide_eq_false c5
    clear c5
    simp only [Option.some.injEq, Prod.mk.injEq] at H
    obtain ⟨rfl, rfl, rfl⟩ := H
    go_wp2
    go_ret3
    exact ⟨by first | rfl | (simp; done) | (simp [*]; done), by repeat (first | exact Drawn0.refl _ | apply Drawn0.step)⟩
end Go.Proofs.YtepgkimlmoikmaaGreat.Leaf
