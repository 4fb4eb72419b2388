/- FaultTells: every code at every place: its words, its code, by an assertion of two values, and of one. -/
import Derived.Test.YtbnoeoghhbhhcaaDoorFaultD
set_option linter.unusedVariables false
set_option linter.unusedSimpArgs false
namespace Go.Proofs.YtbnoeoghhbhhcaaDoor
open Go.RowKit Go.Proofs.YtbnoeoghhbhhcaaDoorW.PrintWords Go.Proofs.YtbnoeoghhbhhcaaDoorW.PrintLast
open Go.Proofs.YtbnoeoghhbhhcaaDoorW.PrintMore
theorem method_errT (x y : Int) (w : World) : (method 172 28 (.agg #[.int .i64 x, .int .i64 y]) "Error").run Tryd.prog w = .ok (12, .agg #[.int .i64 x, .int .i64 y]) w := by kernel_rfl
set_option maxHeartbeats 4000000 in
set_option maxRecDepth 100000 in
theorem tells_zero (a : Int) (w : World) (hwa : -9223372036854775808 ≤ a ∧ a ≤ 9223372036854775807) (ht : Tab w) : Calls Tryd.prog 3 #[.int .i64 0, .int .i64 a] w fun e w' => e = .returned (.bool true) ∧ Below w.heap.size w w' := by
  have he := run_eql_fault
  have hnn := nameS_size 0
  have hdd := Lib.itoa_length_le a hwa.1 hwa.2
  have q3 : ¬ 9223372036854775807 < (nameS 0).size + 4 := by omega
  have q8 : ¬ 9223372036854775807 < (nameS 0).size + 4 + (Lib.itoa a).length := by omega
  have qs : nameS 0 ++ ⟨#[32, 97, 116, 32]⟩ ++ ⟨(Lib.itoa a).toArray⟩ = wordsS 0 a := rfl
  have HW := Aside0.mk hwa
  have HT1 := Aside0.mk (fun W (hb : Below w.heap.size w W) => tab_below ht hb)
  clear hwa ht hnn hdd
  go_enter Tryd.func3, Tryd.ntmps3
  go_wp2_with fail
  refine (alive_one _).mono ?_
  rintro e w1 ⟨rfl, hb1⟩
  have H1 := Aside0.mk hb1
  clear hb1
  go_wp2_with fail
  refine (fnew_none a _).mono ?_
  rintro e w2 ⟨rfl, rfl⟩
  go_wp2_with fail
  refine (of_nil _).mono ?_
  rintro e w3 ⟨rfl, hb3⟩
  have H3 := Aside0.mk (below_step H1.out hb3)
  clear hb3
  go_wp2_with fail
  refine (try_none _).mono ?_
  rintro e w5 ⟨rfl, hb5⟩
  have c0 := pw_cell_below hb5 (a := ⟨w3.heap.size, 0, none⟩) (v := .int .i64 0) (by simp)
  have c1 := pw_cell_below hb5 (a := ⟨w3.heap.size, 1, none⟩) (v := .int .i64 0) (by simp)
  have d0 := pw_cell_below (below_alloc (below_alloc (Below.refl w5.heap.size w5) (.cells #[.int .i64 0, .int .i64 0] 28)) (.cells #[.int .i64 0, .int .i64 a] 28)) c0
  have d1 := pw_cell_below (below_alloc (below_alloc (Below.refl w5.heap.size w5) (.cells #[.int .i64 0, .int .i64 0] 28)) (.cells #[.int .i64 0, .int .i64 a] 28)) c1
  have H5 := Aside0.mk (below_step (below_alloc H3.out _) hb5)
  clear hb5
  go_wp2_with fail
  have h6 := (below_alloc (below_alloc H5.out (.cells #[.int .i64 0, .int .i64 0] 28)) (.cells #[.int .i64 0, .int .i64 a] 28))
  refine (rname_calls 0 _).mono ?_
  rintro e w6 ⟨rfl, hb6⟩
  have kf0 := pw_cell_below hb6 (a := ⟨w3.heap.size, 0, none⟩) (v := .int .i64 0) (by first | exact d0 | (simp; done) | (simp [*]; done))
  have kf1 := pw_cell_below hb6 (a := ⟨w3.heap.size, 1, none⟩) (v := .int .i64 0) (by first | exact d1 | (simp; done) | (simp [*]; done))
  have kg0 := pw_cell_below hb6 (a := ⟨w5.heap.size, 0, none⟩) (v := .int .i64 0) (by first | exact d0 | (simp; done) | (simp [*]; done))
  have kg1 := pw_cell_below hb6 (a := ⟨w5.heap.size, 1, none⟩) (v := .int .i64 0) (by first | exact d0 | (simp; done) | (simp [*]; done))
  have kx0 := pw_cell_below hb6 (a := ⟨w5.heap.size + 1, 0, none⟩) (v := .int .i64 0) (by first | exact d0 | (simp; done) | (simp [*]; done))
  have kx1 := pw_cell_below hb6 (a := ⟨w5.heap.size + 1, 1, none⟩) (v := .int .i64 a) (by first | exact d0 | (simp; done) | (simp [*]; done))
  have H6 := Aside0.mk (below_step h6 hb6)
  clear hb6 h6 c0 c1 d0 d1
  go_wp2_with fail
  refine (digits_calls a HW.out.1 HW.out.2 _).mono ?_
  rintro e w7 ⟨rfl, hb7⟩
  have lf0 := pw_cell_below hb7 kf0
  have lf1 := pw_cell_below hb7 kf1
  have lg0 := pw_cell_below hb7 kg0
  have lg1 := pw_cell_below hb7 kg1
  have lx0 := pw_cell_below hb7 kx0
  have lx1 := pw_cell_below hb7 kx1
  have h7 := below_step H6.out hb7
  clear hb7 kf0 kf1 kg0 kg1 kx0 kx1
  go_wp2_with fail
  refine (name_calls 0 _).mono ?_
  rintro e w8 ⟨rfl, hb8⟩
  have mf0 := pw_cell_below hb8 (a := ⟨w3.heap.size, 0, none⟩) (v := .int .i64 0) (by first | exact lf0 | (simp [*]; done))
  have mf1 := pw_cell_below hb8 (a := ⟨w3.heap.size, 1, none⟩) (v := .int .i64 0) (by first | exact lf1 | (simp [*]; done))
  have mg0 := pw_cell_below hb8 (a := ⟨w5.heap.size, 0, none⟩) (v := .int .i64 0) (by first | exact lg0 | (simp [*]; done))
  have mg1 := pw_cell_below hb8 (a := ⟨w5.heap.size, 1, none⟩) (v := .int .i64 0) (by first | exact lg1 | (simp [*]; done))
  have mx0 := pw_cell_below hb8 (a := ⟨w5.heap.size + 1, 0, none⟩) (v := .int .i64 0) (by first | exact lx0 | (simp [*]; done))
  have mx1 := pw_cell_below hb8 (a := ⟨w5.heap.size + 1, 1, none⟩) (v := .int .i64 a) (by first | exact lx1 | (simp [*]; done))
  have h8 := below_step h7 hb8
  have H8 := Aside0.mk h8
  clear hb8 h7 lf0 lf1 lg0 lg1 lx0 lx1
  go_wp2_with fail
  refine (rname_calls 0 _).mono ?_
  rintro e w9 ⟨rfl, hb9⟩
  have lf0 := pw_cell_below hb9 (a := ⟨w3.heap.size, 0, none⟩) (v := .int .i64 0) (by first | exact mf0 | (simp [*]; done))
  have lf1 := pw_cell_below hb9 (a := ⟨w3.heap.size, 1, none⟩) (v := .int .i64 0) (by first | exact mf1 | (simp [*]; done))
  have lg0 := pw_cell_below hb9 (a := ⟨w5.heap.size, 0, none⟩) (v := .int .i64 0) (by first | exact mg0 | (simp [*]; done))
  have lg1 := pw_cell_below hb9 (a := ⟨w5.heap.size, 1, none⟩) (v := .int .i64 0) (by first | exact mg1 | (simp [*]; done))
  have lx0 := pw_cell_below hb9 (a := ⟨w5.heap.size + 1, 0, none⟩) (v := .int .i64 0) (by first | exact mx0 | (simp [*]; done))
  have lx1 := pw_cell_below hb9 (a := ⟨w5.heap.size + 1, 1, none⟩) (v := .int .i64 a) (by first | exact mx1 | (simp [*]; done))
  have h9 := below_step h8 hb9
  have H9 := Aside0.mk h9
  clear hb9 h8 mf0 mf1 mg0 mg1 mx0 mx1
  go_wp2_with fail
  refine (error_any 0 a HW.out.1 HW.out.2 _ (HT1.out _ (by first | assumption | simp [*]))).mono ?_
  rintro e w10 ⟨rfl, hb10⟩
  have mf0 := pw_cell_below hb10 (a := ⟨w3.heap.size, 0, none⟩) (v := .int .i64 0) (by first | exact lf0 | (simp [*]; done))
  have mf1 := pw_cell_below hb10 (a := ⟨w3.heap.size, 1, none⟩) (v := .int .i64 0) (by first | exact lf1 | (simp [*]; done))
  have mg0 := pw_cell_below hb10 (a := ⟨w5.heap.size, 0, none⟩) (v := .int .i64 0) (by first | exact lg0 | (simp [*]; done))
  have mg1 := pw_cell_below hb10 (a := ⟨w5.heap.size, 1, none⟩) (v := .int .i64 0) (by first | exact lg1 | (simp [*]; done))
  have mx0 := pw_cell_below hb10 (a := ⟨w5.heap.size + 1, 0, none⟩) (v := .int .i64 0) (by first | exact lx0 | (simp [*]; done))
  have mx1 := pw_cell_below hb10 (a := ⟨w5.heap.size + 1, 1, none⟩) (v := .int .i64 a) (by first | exact lx1 | (simp [*]; done))
  have h10 := below_step h9 hb10
  have H10 := Aside0.mk h10
  clear hb10 h9 lf0 lf1 lg0 lg1 lx0 lx1
  go_wp2_with fail
  refine (code_nil _).mono ?_
  rintro e w11 ⟨rfl, hb11⟩
  have lf0 := pw_cell_below hb11 (a := ⟨w3.heap.size, 0, none⟩) (v := .int .i64 0) (by first | exact mf0 | (simp [*]; done))
  have lf1 := pw_cell_below hb11 (a := ⟨w3.heap.size, 1, none⟩) (v := .int .i64 0) (by first | exact mf1 | (simp [*]; done))
  have lg0 := pw_cell_below hb11 (a := ⟨w5.heap.size, 0, none⟩) (v := .int .i64 0) (by first | exact mg0 | (simp [*]; done))
  have lg1 := pw_cell_below hb11 (a := ⟨w5.heap.size, 1, none⟩) (v := .int .i64 0) (by first | exact mg1 | (simp [*]; done))
  have lx0 := pw_cell_below hb11 (a := ⟨w5.heap.size + 1, 0, none⟩) (v := .int .i64 0) (by first | exact mx0 | (simp [*]; done))
  have lx1 := pw_cell_below hb11 (a := ⟨w5.heap.size + 1, 1, none⟩) (v := .int .i64 a) (by first | exact mx1 | (simp [*]; done))
  have h11 := below_step h10 hb11
  have H11 := Aside0.mk h11
  clear hb11 h10 mf0 mf1 mg0 mg1 mx0 mx1
  go_wp2_with fail
  go_ret
  exact ⟨rfl, by assumption⟩
set_option maxHeartbeats 4000000 in
set_option maxRecDepth 100000 in
theorem tells_some (c : Int) (hc : c ≠ 0) (a : Int) (w : World) (hwa : -9223372036854775808 ≤ a ∧ a ≤ 9223372036854775807) (ht : Tab w) : Calls Tryd.prog 3 #[.int .i64 c, .int .i64 a] w fun e w' => e = .returned (.bool true) ∧ Below w.heap.size w w' := by
  have he := run_eql_fault
  have hm := method_errT
  have hc0 : (c == (0 : Int)) = false := beq_eq_false_iff_ne.2 hc
  have HA := Aside0.mk hc
  clear hc
  have hnn := nameS_size c
  have hdd := Lib.itoa_length_le a hwa.1 hwa.2
  have q3 : ¬ 9223372036854775807 < (nameS c).size + 4 := by omega
  have q8 : ¬ 9223372036854775807 < (nameS c).size + 4 + (Lib.itoa a).length := by omega
  have qs : nameS c ++ ⟨#[32, 97, 116, 32]⟩ ++ ⟨(Lib.itoa a).toArray⟩ = wordsS c a := rfl
  have HW := Aside0.mk hwa
  have HT1 := Aside0.mk (fun W (hb : Below w.heap.size w W) => tab_below ht hb)
  clear hwa ht hnn hdd
  go_enter Tryd.func3, Tryd.ntmps3
  go_wp2_with fail
  refine (alive_one _).mono ?_
  rintro e w1 ⟨rfl, hb1⟩
  have H1 := Aside0.mk hb1
  clear hb1
  go_wp2_with fail
  refine (fnew_some c a HA.out _).mono ?_
  rintro e w2 ⟨rfl, rfl⟩
  go_wp2_with fail
  refine (of_some c a _).mono ?_
  rintro e w3 ⟨rfl, hb3⟩
  have H3 := Aside0.mk (below_step H1.out hb3)
  clear hb3
  go_wp2_with fail
  refine (try_some c a _).mono ?_
  rintro e w5 ⟨rfl, hb5⟩
  have c0 := pw_cell_below hb5 (a := ⟨w3.heap.size, 0, none⟩) (v := .int .i64 c) (by simp)
  have c1 := pw_cell_below hb5 (a := ⟨w3.heap.size, 1, none⟩) (v := .int .i64 a) (by simp)
  have d0 := pw_cell_below (below_alloc (below_alloc (Below.refl w5.heap.size w5) (.cells #[.int .i64 c, .int .i64 a] 28)) (.cells #[.int .i64 c, .int .i64 a] 28)) c0
  have d1 := pw_cell_below (below_alloc (below_alloc (Below.refl w5.heap.size w5) (.cells #[.int .i64 c, .int .i64 a] 28)) (.cells #[.int .i64 c, .int .i64 a] 28)) c1
  have H5 := Aside0.mk (below_step (below_alloc H3.out _) hb5)
  clear hb5
  go_wp2_with fail
  have h6 := (below_alloc (below_alloc H5.out (.cells #[.int .i64 c, .int .i64 a] 28)) (.cells #[.int .i64 c, .int .i64 a] 28))
  refine (rname_calls c _).mono ?_
  rintro e w6 ⟨rfl, hb6⟩
  have kf0 := pw_cell_below hb6 (a := ⟨w3.heap.size, 0, none⟩) (v := .int .i64 c) (by first | exact d0 | (simp; done) | (simp [*]; done))
  have kf1 := pw_cell_below hb6 (a := ⟨w3.heap.size, 1, none⟩) (v := .int .i64 a) (by first | exact d1 | (simp; done) | (simp [*]; done))
  have kg0 := pw_cell_below hb6 (a := ⟨w5.heap.size, 0, none⟩) (v := .int .i64 c) (by first | exact d0 | (simp; done) | (simp [*]; done))
  have kg1 := pw_cell_below hb6 (a := ⟨w5.heap.size, 1, none⟩) (v := .int .i64 a) (by first | exact d0 | (simp; done) | (simp [*]; done))
  have kx0 := pw_cell_below hb6 (a := ⟨w5.heap.size + 1, 0, none⟩) (v := .int .i64 c) (by first | exact d0 | (simp; done) | (simp [*]; done))
  have kx1 := pw_cell_below hb6 (a := ⟨w5.heap.size + 1, 1, none⟩) (v := .int .i64 a) (by first | exact d0 | (simp; done) | (simp [*]; done))
  have H6 := Aside0.mk (below_step h6 hb6)
  clear hb6 h6 c0 c1 d0 d1
  go_wp2_with fail
  refine (digits_calls a HW.out.1 HW.out.2 _).mono ?_
  rintro e w7 ⟨rfl, hb7⟩
  have lf0 := pw_cell_below hb7 kf0
  have lf1 := pw_cell_below hb7 kf1
  have lg0 := pw_cell_below hb7 kg0
  have lg1 := pw_cell_below hb7 kg1
  have lx0 := pw_cell_below hb7 kx0
  have lx1 := pw_cell_below hb7 kx1
  have h7 := below_step H6.out hb7
  clear hb7 kf0 kf1 kg0 kg1 kx0 kx1
  go_wp2_with fail
  refine (name_calls c _).mono ?_
  rintro e w8 ⟨rfl, hb8⟩
  have mf0 := pw_cell_below hb8 (a := ⟨w3.heap.size, 0, none⟩) (v := .int .i64 c) (by first | exact lf0 | (simp [*]; done))
  have mf1 := pw_cell_below hb8 (a := ⟨w3.heap.size, 1, none⟩) (v := .int .i64 a) (by first | exact lf1 | (simp [*]; done))
  have mg0 := pw_cell_below hb8 (a := ⟨w5.heap.size, 0, none⟩) (v := .int .i64 c) (by first | exact lg0 | (simp [*]; done))
  have mg1 := pw_cell_below hb8 (a := ⟨w5.heap.size, 1, none⟩) (v := .int .i64 a) (by first | exact lg1 | (simp [*]; done))
  have mx0 := pw_cell_below hb8 (a := ⟨w5.heap.size + 1, 0, none⟩) (v := .int .i64 c) (by first | exact lx0 | (simp [*]; done))
  have mx1 := pw_cell_below hb8 (a := ⟨w5.heap.size + 1, 1, none⟩) (v := .int .i64 a) (by first | exact lx1 | (simp [*]; done))
  have h8 := below_step h7 hb8
  have H8 := Aside0.mk h8
  clear hb8 h7 lf0 lf1 lg0 lg1 lx0 lx1
  go_wp2_with fail
  refine (rname_calls c _).mono ?_
  rintro e w9 ⟨rfl, hb9⟩
  have lf0 := pw_cell_below hb9 (a := ⟨w3.heap.size, 0, none⟩) (v := .int .i64 c) (by first | exact mf0 | (simp [*]; done))
  have lf1 := pw_cell_below hb9 (a := ⟨w3.heap.size, 1, none⟩) (v := .int .i64 a) (by first | exact mf1 | (simp [*]; done))
  have lg0 := pw_cell_below hb9 (a := ⟨w5.heap.size, 0, none⟩) (v := .int .i64 c) (by first | exact mg0 | (simp [*]; done))
  have lg1 := pw_cell_below hb9 (a := ⟨w5.heap.size, 1, none⟩) (v := .int .i64 a) (by first | exact mg1 | (simp [*]; done))
  have lx0 := pw_cell_below hb9 (a := ⟨w5.heap.size + 1, 0, none⟩) (v := .int .i64 c) (by first | exact mx0 | (simp [*]; done))
  have lx1 := pw_cell_below hb9 (a := ⟨w5.heap.size + 1, 1, none⟩) (v := .int .i64 a) (by first | exact mx1 | (simp [*]; done))
  have h9 := below_step h8 hb9
  have H9 := Aside0.mk h9
  clear hb9 h8 mf0 mf1 mg0 mg1 mx0 mx1
  go_wp2_with fail
  refine (error_any c a HW.out.1 HW.out.2 _ (HT1.out _ (by first | assumption | simp [*]))).mono ?_
  rintro e w10 ⟨rfl, hb10⟩
  have mf0 := pw_cell_below hb10 (a := ⟨w3.heap.size, 0, none⟩) (v := .int .i64 c) (by first | exact lf0 | (simp [*]; done))
  have mf1 := pw_cell_below hb10 (a := ⟨w3.heap.size, 1, none⟩) (v := .int .i64 a) (by first | exact lf1 | (simp [*]; done))
  have mg0 := pw_cell_below hb10 (a := ⟨w5.heap.size, 0, none⟩) (v := .int .i64 c) (by first | exact lg0 | (simp [*]; done))
  have mg1 := pw_cell_below hb10 (a := ⟨w5.heap.size, 1, none⟩) (v := .int .i64 a) (by first | exact lg1 | (simp [*]; done))
  have mx0 := pw_cell_below hb10 (a := ⟨w5.heap.size + 1, 0, none⟩) (v := .int .i64 c) (by first | exact lx0 | (simp [*]; done))
  have mx1 := pw_cell_below hb10 (a := ⟨w5.heap.size + 1, 1, none⟩) (v := .int .i64 a) (by first | exact lx1 | (simp [*]; done))
  have h10 := below_step h9 hb10
  have H10 := Aside0.mk h10
  clear hb10 h9 lf0 lf1 lg0 lg1 lx0 lx1
  go_wp2_with fail
  refine (error_any c a HW.out.1 HW.out.2 _ (HT1.out _ (by first | assumption | simp [*]))).mono ?_
  rintro e w11 ⟨rfl, hb11⟩
  have lf0 := pw_cell_below hb11 (a := ⟨w3.heap.size, 0, none⟩) (v := .int .i64 c) (by first | exact mf0 | (simp [*]; done))
  have lf1 := pw_cell_below hb11 (a := ⟨w3.heap.size, 1, none⟩) (v := .int .i64 a) (by first | exact mf1 | (simp [*]; done))
  have lg0 := pw_cell_below hb11 (a := ⟨w5.heap.size, 0, none⟩) (v := .int .i64 c) (by first | exact mg0 | (simp [*]; done))
  have lg1 := pw_cell_below hb11 (a := ⟨w5.heap.size, 1, none⟩) (v := .int .i64 a) (by first | exact mg1 | (simp [*]; done))
  have lx0 := pw_cell_below hb11 (a := ⟨w5.heap.size + 1, 0, none⟩) (v := .int .i64 c) (by first | exact mx0 | (simp [*]; done))
  have lx1 := pw_cell_below hb11 (a := ⟨w5.heap.size + 1, 1, none⟩) (v := .int .i64 a) (by first | exact mx1 | (simp [*]; done))
  have h11 := below_step h10 hb11
  have H11 := Aside0.mk h11
  clear hb11 h10 mf0 mf1 mg0 mg1 mx0 mx1
  go_wp2_with fail
  refine (code_some c a _).mono ?_
  rintro e w12 ⟨rfl, hb12⟩
  have mf0 := pw_cell_below hb12 (a := ⟨w3.heap.size, 0, none⟩) (v := .int .i64 c) (by first | exact lf0 | (simp [*]; done))
  have mf1 := pw_cell_below hb12 (a := ⟨w3.heap.size, 1, none⟩) (v := .int .i64 a) (by first | exact lf1 | (simp [*]; done))
  have mg0 := pw_cell_below hb12 (a := ⟨w5.heap.size, 0, none⟩) (v := .int .i64 c) (by first | exact lg0 | (simp [*]; done))
  have mg1 := pw_cell_below hb12 (a := ⟨w5.heap.size, 1, none⟩) (v := .int .i64 a) (by first | exact lg1 | (simp [*]; done))
  have mx0 := pw_cell_below hb12 (a := ⟨w5.heap.size + 1, 0, none⟩) (v := .int .i64 c) (by first | exact lx0 | (simp [*]; done))
  have mx1 := pw_cell_below hb12 (a := ⟨w5.heap.size + 1, 1, none⟩) (v := .int .i64 a) (by first | exact lx1 | (simp [*]; done))
  have h12 := below_step h11 hb12
  have H12 := Aside0.mk h12
  clear hb12 h11 lf0 lf1 lg0 lg1 lx0 lx1
  go_wp2_with fail
  go_ret
  exact ⟨rfl, by assumption⟩
theorem tells_law (c a : Int) (w : World) (hwc : (Lit.int .i64 c).wf = true) (hwa : -9223372036854775808 ≤ a ∧ a ≤ 9223372036854775807) (ht : Tab w) : Calls Tryd.prog 3 #[.int .i64 c, .int .i64 a] w fun e w' => e = .returned (.bool true) ∧ Below w.heap.size w w' := by
  by_cases hc : c = 0
  · subst hc
    exact tells_zero a w hwa ht
  · exact tells_some c hc a w hwa ht
end Go.Proofs.YtbnoeoghhbhhcaaDoor
