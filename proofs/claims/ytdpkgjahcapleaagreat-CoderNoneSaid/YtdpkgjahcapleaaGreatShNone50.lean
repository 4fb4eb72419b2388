/- ShNone: a part of its proof (contracts of the functions that it reaches, and the plain mathematics behind them). -/
import Derived.Test.YtdpkgjahcapleaaGreatShNone49
set_option linter.unusedVariables false
set_option linter.unusedSimpArgs false
set_option linter.unusedVariables false
set_option linter.unusedSimpArgs false
namespace Go.Proofs.YtdpkgjahcapleaaGreat
open Go.RowKit Go.Proofs.YtdpkgjahcapleaaGreat.Spec Go.Proofs.YtdpkgjahcapleaaGreatW.PrintWords Go.Proofs.YtdpkgjahcapleaaGreatW.PrintLast
open Go.Proofs.YtdpkgjahcapleaaGreatW.PrintMore
attribute [local go_sem ↓] Go.wp_at_zero Go.wp_at_succ
attribute [local go_sem] max2_int min2_int max_two min_two
set_option maxHeartbeats 1000000 in
theorem write_nil (b : ByteArray) (w : World) : Calls Tryz.prog 16 #[.pointer none, .string b] w fun x w' => x = .returned (.tuple #[.string ⟨#[]⟩, .iface 63 (.agg #[.int .i64 11, .int .i64 0])]) ∧ w = w' := by
  go_enter Tryz.func16, Tryz.ntmps16
  go_wp2_with fail
  refine (ebegin_nil _).mono ?_
  rw [errV_some (by decide)]
  rintro x w1 ⟨rfl, rfl⟩
  go_wp2_with fail
  go_ret2
  exact ⟨rfl, rfl⟩
set_option maxHeartbeats 1000000 in
theorem flush_nil (w : World) : Calls Tryz.prog 17 #[.pointer none] w fun x w' => x = .returned (.tuple #[.string ⟨#[]⟩, .iface 63 (.agg #[.int .i64 11, .int .i64 0])]) ∧ w = w' := by
  go_enter Tryz.func17, Tryz.ntmps17
  go_wp2_with fail
  refine (ebegin_nil _).mono ?_
  rw [errV_some (by decide)]
  rintro x w1 ⟨rfl, rfl⟩
  go_wp2_with fail
  go_ret2
  exact ⟨rfl, rfl⟩
set_option maxHeartbeats 1000000 in
theorem close_nil (w : World) : Calls Tryz.prog 18 #[.pointer none] w fun x w' => x = .returned (.tuple #[.string ⟨#[]⟩, .iface 63 (.agg #[.int .i64 11, .int .i64 0])]) ∧ w = w' := by
  go_enter Tryz.func18, Tryz.ntmps18
  go_wp2_with fail
  refine (flush_nil _).mono ?_
  rintro x w1 ⟨rfl, rfl⟩
  go_wp2_with fail
  go_ret2
  exact ⟨rfl, rfl⟩
set_option maxHeartbeats 1000000 in
theorem none_nil (w : World) : Calls Tryz.prog 50 #[.pointer none] w fun x w' => x = .returned (.bool true) ∧ w = w' := by
  go_enter Tryz.func50, Tryz.ntmps50
  go_wp2_with fail
  go_ret
  exact ⟨rfl, rfl⟩
set_option maxHeartbeats 1000000 in
theorem feed_nil (b : ByteArray) (w : World) : Calls Tryz.prog 23 #[.pointer none, .string b] w fun x w' => x = .returned (.tuple #[.string ⟨#[]⟩, .iface 63 (.agg #[.int .i64 11, .int .i64 0])]) ∧ w = w' := by
  go_enter Tryz.func23, Tryz.ntmps23
  go_wp2_with fail
  refine (none_nil _).mono ?_
  rintro x w1 ⟨rfl, rfl⟩
  go_wp2_with fail
  refine (fnew_some 11 0 (by decide) _).mono ?_
  rintro x w1 ⟨rfl, rfl⟩
  go_wp2_with fail
  go_ret2
  exact ⟨rfl, rfl⟩
set_option maxHeartbeats 1000000 in
theorem finish_nil (w : World) : Calls Tryz.prog 22 #[.pointer none] w fun x w' => x = .returned (.iface 63 (.agg #[.int .i64 11, .int .i64 0])) ∧ w = w' := by
  go_enter Tryz.func22, Tryz.ntmps22
  go_wp2_with fail
  refine (none_nil _).mono ?_
  rintro x w1 ⟨rfl, rfl⟩
  go_wp2_with fail
  refine (fnew_some 11 0 (by decide) _).mono ?_
  rintro x w1 ⟨rfl, rfl⟩
  go_wp2_with fail
  go_ret
  exact ⟨rfl, rfl⟩
set_option maxHeartbeats 1000000 in
theorem xheld_nil (w : World) : Calls Tryz.prog 25 #[.pointer none] w fun x w' => x = .returned (.int .i64 0) ∧ w = w' := by
  go_enter Tryz.func25, Tryz.ntmps25
  go_wp2_with fail
  go_ret
  exact ⟨rfl, rfl⟩
set_option maxHeartbeats 1000000 in
theorem xdone_nil (w : World) : Calls Tryz.prog 30 #[.pointer none] w fun x w' => x = .returned (.bool false) ∧ w = w' := by
  go_enter Tryz.func30, Tryz.ntmps30
  go_wp2_with fail
  go_ret
  exact ⟨rfl, rfl⟩
set_option maxHeartbeats 1000000 in
theorem eheld_nil (w : World) : Calls Tryz.prog 29 #[.pointer none] w fun x w' => x = .returned (.int .i64 0) ∧ w = w' := by
  go_enter Tryz.func29, Tryz.ntmps29
  go_wp2_with fail
  go_ret
  exact ⟨rfl, rfl⟩
set_option maxHeartbeats 2000000 in
set_option maxRecDepth 100000 in
theorem coderNone_law (b : ByteArray) (w : World) (_hb : b.size ≤ 140737488351232) : Calls Tryz.prog 6 #[.string b] w fun e w' => e = .returned (.bool true) ∧ Below w.heap.size w w' := by
  have HAL := Aside0.mk (fun W => alive24_any W)
  by_cases hz : b.size ≤ 100
  · have d1 : decide ((100 : Int) < (b.size : Int)) = false := decide_eq_false (by omega)
    have d1' : decide (100 < b.size) = false := decide_eq_false (by omega)
    have he := run_eql_fault
    have HEN : Aside0 (∀ W : World, Calls Tryz.prog 26 #[.pointer none, .agg #[.int .i64 0, .int .i64 0, .int .i64 1, .int .i64 1], .string b] W fun e w' => e = .returned (.tuple #[.string ⟨#[]⟩, .iface 63 (.agg #[.int .i64 1, .int .i64 0])]) ∧ Below W.heap.size W w') := ⟨fun W => by
      have h := encode_nil (w := W) 0 0 1 1 b
      rw [errV_some (by decide)] at h
      exact h⟩
    have HND : Aside0 (∀ W : World, Calls Tryz.prog 20 #[.pointer none] W fun e w' => e = .returned (.tuple #[.pointer none, .iface 63 (.agg #[.int .i64 1, .int .i64 0])]) ∧ W = w') := ⟨fun W => by
      have h := newdec_nil W
      rw [errV_some (by decide)] at h
      exact h⟩
    have HDE : Aside0 (∀ W : World, Calls Tryz.prog 27 #[.pointer none, .string b] W fun e w' => e = .returned (.tuple #[.string ⟨#[]⟩, .iface 63 (.agg #[.int .i64 1, .int .i64 0])]) ∧ W = w') := ⟨fun W => by
      have h := decode_nil b W
      rw [errV_some (by decide)] at h
      exact h⟩
    have HT : Aside0 (∀ W, Calls Tryz.prog 24 #[.iface 63 (.agg #[.int .i64 11, .int .i64 0]), .int .i64 11, .int .i64 0] W fun e w' => e = .returned (.bool true) ∧ Below W.heap.size W w') := ⟨fun W => by
      have h := told24_any 11 0 11 0 W
      rw [errV_some (by decide)] at h
      exact h⟩
    have HT1 : Aside0 (∀ W, Calls Tryz.prog 24 #[.iface 63 (.agg #[.int .i64 1, .int .i64 0]), .int .i64 1, .int .i64 0] W fun e w' => e = .returned (.bool true) ∧ Below W.heap.size W w') := ⟨fun W => by
      have h := told24_any 1 0 1 0 W
      rw [errV_some (by decide)] at h
      exact h⟩
    clear hz
    go_enter Tryz.func6, Tryz.ntmps6
    go_wp2_with fail
    refine (HAL.out _).mono ?_
    rintro e w1 ⟨rfl, hb1⟩
    have B1 := Aside0.mk hb1
    clear hb1
    go_wp2_with fail
    refine (write_nil b _).mono ?_
    rintro e w2 ⟨rfl, rfl⟩
    go_wp2_with fail
    refine (flush_nil _).mono ?_
    rintro e w2 ⟨rfl, rfl⟩
    go_wp2_with fail
    refine (close_nil _).mono ?_
    rintro e w2 ⟨rfl, rfl⟩
    go_wp2_with fail
    refine (feed_nil b _).mono ?_
    rintro e w2 ⟨rfl, rfl⟩
    go_wp2_with fail
    refine (HND.out _).mono ?_
    rintro e w2 ⟨rfl, rfl⟩
    go_wp2_with fail
    refine (HEN.out _).mono ?_
    rintro e w2 ⟨rfl, hb2⟩
    have B2 := Aside0.mk (below_step B1.out hb2)
    clear hb2
    go_wp2_with fail
    refine (HDE.out _).mono ?_
    rintro e w3 ⟨rfl, rfl⟩
    go_wp2_with fail
    refine (of_some 11 0 _).mono ?_
    rintro e w3 ⟨rfl, hb3⟩
    have B3 := Aside0.mk (below_step B2.out hb3)
    clear hb3
    go_wp2_with fail
    refine (HT.out _).mono ?_
    rintro e w4 ⟨rfl, hb4⟩
    have B4 := Aside0.mk (below_step (below_alloc B3.out _) hb4)
    clear hb4
    go_wp2_with fail
    refine (HT.out _).mono ?_
    rintro e w5 ⟨rfl, hb5⟩
    have B5 := Aside0.mk (below_step B4.out hb5)
    clear hb5
    go_wp2_with fail
    refine (eheld_nil _).mono ?_
    rintro e w2 ⟨rfl, rfl⟩
    go_wp2_with fail
    refine (HT.out _).mono ?_
    rintro e w6 ⟨rfl, hb6⟩
    have B6 := Aside0.mk (below_step B5.out hb6)
    clear hb6
    go_wp2_with fail
    refine (finish_nil _).mono ?_
    rintro e w2 ⟨rfl, rfl⟩
    go_wp2_with fail
    refine (HT.out _).mono ?_
    rintro e w7 ⟨rfl, hb7⟩
    have B7 := Aside0.mk (below_step B6.out hb7)
    clear hb7
    go_wp2_with fail
    refine (xheld_nil _).mono ?_
    rintro e w2 ⟨rfl, rfl⟩
    go_wp2_with fail
    refine (xdone_nil _).mono ?_
    rintro e w2 ⟨rfl, rfl⟩
    go_wp2_with fail
    refine (HT1.out _).mono ?_
    rintro e w8 ⟨rfl, hb8⟩
    have B8 := Aside0.mk (below_step B7.out hb8)
    clear hb8
    go_wp2_with fail
    refine (HT1.out _).mono ?_
    rintro e w9 ⟨rfl, hb9⟩
    have B9 := Aside0.mk (below_step B8.out hb9)
    clear hb9
    go_wp2_with fail
    refine (HT1.out _).mono ?_
    rintro e w10 ⟨rfl, hb10⟩
    have B10 := Aside0.mk (below_step B9.out hb10)
    clear hb10
    go_wp2_with fail
    go_ret
    exact ⟨rfl, B10.out⟩
  · have d1 : decide ((100 : Int) < (b.size : Int)) = true := decide_eq_true (by omega)
    have d1' : decide (100 < b.size) = true := decide_eq_true (by omega)
    clear hz
    go_enter Tryz.func6, Tryz.ntmps6
    go_wp2_with fail
    refine (HAL.out _).mono ?_
    rintro e w1 ⟨rfl, hb1⟩
    have B1 := Aside0.mk hb1
    clear hb1
    go_wp2_with fail
    go_ret
    exact ⟨rfl, B1.out⟩
end Go.Proofs.YtdpkgjahcapleaaGreat
