/- ShE: a part of its proof (contracts of the functions that it reaches, and the plain mathematics behind them). -/
import Derived.Test.YtdpkgjahcapleaaGreatShE39
import Derived.Test.YtdpkgjahcapleaaGreatShE9
import Derived.Test.YtdpkgjahcapleaaGreatShE23
set_option linter.unusedVariables false
set_option linter.unusedSimpArgs false
set_option linter.unusedVariables false
set_option linter.unusedSimpArgs false
namespace Go.Proofs.YtdpkgjahcapleaaGreat
open Go.RowKit Go.Proofs.YtdpkgjahcapleaaGreat.Spec Go.Proofs.YtdpkgjahcapleaaGreatW.PrintWords Go.Proofs.YtdpkgjahcapleaaGreatW.PrintLast
open Go.Proofs.YtdpkgjahcapleaaGreatW.PrintMore
attribute [local go_sem ↓] Go.wp_at_zero Go.wp_at_succ
attribute [local go_sem] max2_int min2_int max_two min_two
namespace Spec
def headS (c k id : Nat) : ByteArray := magicS ++ str (beB 1 1) ++ str (beB c 1) ++ str (beB k 3) ++ str (beB id 8)
def endS (n : Nat) : ByteArray := str (beB 0 1) ++ str (beB n 4)
def frameS (kind raw sum : Nat) (pay : ByteArray) : ByteArray := str (beB kind 1) ++ str (beB raw 2) ++ str (beB pay.size 2) ++ str (beB sum 4) ++ pay
end Spec
theorem beS_size (v n : Nat) : (str (beB v n)).size = n := by rw [← u_size, u_str, beB_len]
set_option maxHeartbeats 2000000 in
set_option maxRecDepth 100000 in
theorem putHead_calls (c k id : Nat) (hc : c ≤ 1) (hk : 1 ≤ k ∧ k ≤ 1024) (hid : id < 18446744073709551616) (w : World) :
    Calls Tryz.prog 60 #[.agg #[.int .i64 (c : Int), .int .i64 (k : Int), .int .u64 (id : Int)]] w fun e w' => e = .returned (.tuple #[.string (headS c k id), .bool true]) ∧ Below w.heap.size w w' := by
  have HSZ := Aside0.mk (fun W => Leaf.frame_size.calls (k : Int) true W (by unfold Leaf.frame_size.f; rw [if_pos (by omega), decide_eq_true (by omega)]))
  have HB1 : Aside0 (∀ W, Calls Tryz.prog 63 #[.int .u64 1, .int .i64 1] W fun e w' => e = .returned (.string (str (beB 1 1))) ∧ Below W.heap.size W w') := ⟨fun W => big_calls 1 (by decide) 1 (by decide) W⟩
  have HB2 : Aside0 (∀ W, Calls Tryz.prog 63 #[.int .u64 (c : Int), .int .i64 1] W fun e w' => e = .returned (.string (str (beB c 1))) ∧ Below W.heap.size W w') := ⟨fun W => big_calls c (by omega) 1 (by decide) W⟩
  have HB3 : Aside0 (∀ W, Calls Tryz.prog 63 #[.int .u64 (k : Int), .int .i64 3] W fun e w' => e = .returned (.string (str (beB k 3))) ∧ Below W.heap.size W w') := ⟨fun W => big_calls k (by omega) 3 (by decide) W⟩
  have HB4 : Aside0 (∀ W, Calls Tryz.prog 63 #[.int .u64 (id : Int), .int .i64 8] W fun e w' => e = .returned (.string (str (beB id 8))) ∧ Below W.heap.size W w') := ⟨fun W => big_calls id hid 8 (by decide) W⟩
  have q1 : IntKind.u64.wrap (c : Int) = (c : Int) := u64_wrap_nat (by omega)
  have q2 : IntKind.u64.wrap (k : Int) = (k : Int) := u64_wrap_nat (by omega)
  have s0 : (w.alloc (.cells #[.int .i64 (c : Int), .int .i64 (k : Int), .int .u64 (id : Int)] 40)).cell? ⟨w.heap.size, 0, none⟩ = some (.int .i64 (c : Int)) := by simp
  have s1 : (w.alloc (.cells #[.int .i64 (c : Int), .int .i64 (k : Int), .int .u64 (id : Int)] 40)).cell? ⟨w.heap.size, 1, none⟩ = some (.int .i64 (k : Int)) := by simp
  have s2 : (w.alloc (.cells #[.int .i64 (c : Int), .int .i64 (k : Int), .int .u64 (id : Int)] 40)).cell? ⟨w.heap.size, 2, none⟩ = some (.int .u64 (id : Int)) := by simp
  have c0 : (((c : Int) != 0) = false ∧ True) ∨ (((c : Int) != 0) = true ∧ ((c : Int) != 1) = false) := by
    have : c = 0 ∨ c = 1 := by omega
    rcases this with rfl | rfl
    · exact .inl ⟨rfl, trivial⟩
    · exact .inr ⟨rfl, rfl⟩
  have z1 := beS_size 1 1
  have z2 := beS_size c 1
  have z3 := beS_size k 3
  have z4 := beS_size id 8
  have HP : Aside0 (headS c k id = magicS ++ str (beB 1 1) ++ str (beB c 1) ++ str (beB k 3) ++ str (beB id 8)) := ⟨rfl⟩
  generalize str (beB 1 1) = x1 at *
  generalize str (beB c 1) = x2 at *
  generalize str (beB k 3) = x3 at *
  generalize str (beB id 8) = x4 at *
  have u1 : ¬ 9223372036854775807 < 4 + x1.size := by omega
  have u2 : ¬ 9223372036854775807 < 4 + x1.size + x2.size := by omega
  have u3 : ¬ 9223372036854775807 < 4 + x1.size + x2.size + x3.size := by omega
  have u4 : ¬ 9223372036854775807 < 4 + x1.size + x2.size + x3.size + x4.size := by omega
  clear hc hk hid z1 z2 z3 z4
  rcases c0 with ⟨t0, _⟩ | ⟨t0, t1⟩
  all_goals
    go_enter Tryz.func60, Tryz.ntmps60
    go_wp2_with fail
    refine (HSZ.out _).mono ?_
    rintro e w1 ⟨rfl, hb1⟩
    have hw1 := below_step ((Below.refl w.heap.size w).alloc (Nat.le_refl _) (.cells #[.int .i64 (c : Int), .int .i64 (k : Int), .int .u64 (id : Int)] 40)) hb1.below
    have r0 := pw_cell_below hb1.below s0
    have r1 := pw_cell_below hb1.below s1
    have r2 := pw_cell_below hb1.below s2
    clear hb1
    go_wp2_with fail
    go_region_held3 (fun w' => w'.cell? ⟨w.heap.size, 0, none⟩ = some (.int .i64 (c : Int)) ∧ w'.cell? ⟨w.heap.size, 1, none⟩ = some (.int .i64 (k : Int)) ∧ w'.cell? ⟨w.heap.size, 2, none⟩ = some (.int .u64 (id : Int)))
      (first | exact ⟨r0, r1, r2⟩ | exact ⟨pw_cell_below h2 r0, pw_cell_below h2 r1, pw_cell_below h2 r2⟩)
      ((go_at_call 63; first
        | ((with_reducible refine (HB1.out _).mono ?_); rintro e w2 ⟨rfl, hb2⟩; have h2 := below_step (below_drew (Below.refl w1.heap.size w1)) hb2)
        | ((with_reducible refine (HB2.out _).mono ?_); rintro e w3 ⟨rfl, hb3⟩; have h2 := below_step h2 hb3)
        | ((with_reducible refine (HB3.out _).mono ?_); rintro e w4 ⟨rfl, hb4⟩; have h2 := below_step h2 hb4)
        | ((with_reducible refine (HB4.out _).mono ?_); rintro e w5 ⟨rfl, hb5⟩; have h2 := below_step h2 hb5)))
    go_wp2_with fail
    go_ret2
    exact ⟨by rw [HP.out]; rfl, below_step hw1 h2⟩
set_option maxHeartbeats 2000000 in
set_option maxRecDepth 100000 in
theorem fput_end (n : Nat) (hn : n ≤ 4294967295) (w : World) :
    Calls Tryz.prog 42 #[.agg #[.int .i64 0, .int .i64 (n : Int), .int .u32 0, .string ⟨#[]⟩]] w fun e w' => e = .returned (.tuple #[.string (endS n), .bool true]) ∧ Below w.heap.size w w' := by
  have HB1 : Aside0 (∀ W, Calls Tryz.prog 63 #[.int .u64 0, .int .i64 1] W fun e w' => e = .returned (.string (str (beB 0 1))) ∧ Below W.heap.size W w') := ⟨fun W => big_calls 0 (by decide) 1 (by decide) W⟩
  have HB2 : Aside0 (∀ W, Calls Tryz.prog 63 #[.int .u64 (n : Int), .int .i64 4] W fun e w' => e = .returned (.string (str (beB n 4))) ∧ Below W.heap.size W w') := ⟨fun W => big_calls n (by omega) 4 (by decide) W⟩
  have q1 : IntKind.u64.wrap (n : Int) = (n : Int) := u64_wrap_nat (by omega)
  have s1 : (w.alloc (.cells #[.int .i64 0, .int .i64 (n : Int), .int .u32 0, .string ⟨#[]⟩] 47)).cell? ⟨w.heap.size, 1, none⟩ = some (.int .i64 (n : Int)) := by simp
  have d1 : decide ((n : Int) < 0) = false := decide_eq_false (by omega)
  have d2 : decide ((4294967295 : Int) < (n : Int)) = false := decide_eq_false (by omega)
  have z1 := beS_size 0 1
  have z2 := beS_size n 4
  have HP : Aside0 (endS n = str (beB 0 1) ++ str (beB n 4)) := ⟨rfl⟩
  generalize str (beB 0 1) = x1 at *
  generalize str (beB n 4) = x2 at *
  have u1 : ¬ 9223372036854775807 < x1.size + x2.size := by omega
  clear hn z1 z2
  go_enter Tryz.func42, Tryz.ntmps42
  go_wp2_with fail
  go_region_held3 (fun w' => w'.cell? ⟨w.heap.size, 1, none⟩ = some (.int .i64 (n : Int)))
    (first | exact s1 | exact pw_cell_below h2 s1)
    ((go_at_call 63; first
      | ((with_reducible refine (HB1.out _).mono ?_); rintro e w2 ⟨rfl, hb2⟩; have h2 := below_step (below_drew (Below.refl (w.alloc (.cells #[.int .i64 0, .int .i64 (n : Int), .int .u32 0, .string ⟨#[]⟩] 47)).heap.size (w.alloc (.cells #[.int .i64 0, .int .i64 (n : Int), .int .u32 0, .string ⟨#[]⟩] 47)))) hb2)
      | ((with_reducible refine (HB2.out _).mono ?_); rintro e w3 ⟨rfl, hb3⟩; have h2 := below_step h2 hb3)))
  go_wp2_with fail
  go_ret2
  exact ⟨by rw [HP.out]; rfl, below_step ((Below.refl w.heap.size w).alloc (Nat.le_refl _) _) h2⟩
set_option maxHeartbeats 2000000 in
set_option maxRecDepth 100000 in
theorem fput_blk (kd r sm : Nat) (p : ByteArray) (hf : fitsR kd r p.size) (hsm : sm < 4294967296) (w : World) :
    Calls Tryz.prog 42 #[.agg #[.int .i64 (kd : Int), .int .i64 (r : Int), .int .u32 (sm : Int), .string p]] w fun e w' => e = .returned (.tuple #[.string (frameS kd r sm p), .bool true]) ∧ Below w.heap.size w w' := by
  have HF := Aside0.mk (fun W => ffits_calls kd r p.size W)
  rw [decide_eq_true hf] at HF
  unfold fitsR at hf
  have HB1 : Aside0 (∀ W, Calls Tryz.prog 63 #[.int .u64 (kd : Int), .int .i64 1] W fun e w' => e = .returned (.string (str (beB kd 1))) ∧ Below W.heap.size W w') := ⟨fun W => big_calls kd (by omega) 1 (by decide) W⟩
  have HB2 : Aside0 (∀ W, Calls Tryz.prog 63 #[.int .u64 (r : Int), .int .i64 2] W fun e w' => e = .returned (.string (str (beB r 2))) ∧ Below W.heap.size W w') := ⟨fun W => big_calls r (by omega) 2 (by decide) W⟩
  have HB3 : Aside0 (∀ W, Calls Tryz.prog 63 #[.int .u64 (p.size : Int), .int .i64 2] W fun e w' => e = .returned (.string (str (beB p.size 2))) ∧ Below W.heap.size W w') := ⟨fun W => big_calls p.size (by omega) 2 (by decide) W⟩
  have HB4 : Aside0 (∀ W, Calls Tryz.prog 63 #[.int .u64 (sm : Int), .int .i64 4] W fun e w' => e = .returned (.string (str (beB sm 4))) ∧ Below W.heap.size W w') := ⟨fun W => big_calls sm (by omega) 4 (by decide) W⟩
  have q1 : IntKind.u64.wrap (kd : Int) = (kd : Int) := u64_wrap_nat (by omega)
  have q2 : IntKind.u64.wrap (r : Int) = (r : Int) := u64_wrap_nat (by omega)
  have q3 : IntKind.u64.wrap (p.size : Int) = (p.size : Int) := u64_wrap_nat (by omega)
  have q4 : IntKind.u64.wrap (sm : Int) = (sm : Int) := u64_wrap_nat (by omega)
  have d0 : ((kd : Int) == 0) = false := beq_eq_false_iff_ne.2 (by omega)
  obtain ⟨W0, hW0⟩ : ∃ W0, W0 = w.alloc (.cells #[.int .i64 (kd : Int), .int .i64 (r : Int), .int .u32 (sm : Int), .string p] 47) := ⟨_, rfl⟩
  have s0 : W0.cell? ⟨w.heap.size, 0, none⟩ = some (.int .i64 (kd : Int)) := by rw [hW0]; simp
  have s1 : W0.cell? ⟨w.heap.size, 1, none⟩ = some (.int .i64 (r : Int)) := by rw [hW0]; simp
  have s2 : W0.cell? ⟨w.heap.size, 2, none⟩ = some (.int .u32 (sm : Int)) := by rw [hW0]; simp
  have s3 : W0.cell? ⟨w.heap.size, 3, none⟩ = some (.string p) := by rw [hW0]; simp
  have HW0 := Aside0.mk (show Below w.heap.size w W0 by rw [hW0]; exact (Below.refl _ _).alloc (Nat.le_refl _) _)
  have z1 := beS_size kd 1
  have z2 := beS_size r 2
  have z3 := beS_size p.size 2
  have z4 := beS_size sm 4
  have HP : Aside0 (frameS kd r sm p = str (beB kd 1) ++ str (beB r 2) ++ str (beB p.size 2) ++ str (beB sm 4) ++ p) := ⟨rfl⟩
  generalize str (beB kd 1) = x1 at *
  generalize str (beB r 2) = x2 at *
  generalize str (beB p.size 2) = x3 at *
  generalize str (beB sm 4) = x4 at *
  have u1 : ¬ 9223372036854775807 < x1.size + x2.size := by omega
  have u2 : ¬ 9223372036854775807 < x1.size + x2.size + x3.size := by omega
  have u3 : ¬ 9223372036854775807 < x1.size + x2.size + x3.size + x4.size := by omega
  have u4 : ¬ 9223372036854775807 < x1.size + x2.size + x3.size + x4.size + p.size := by omega
  have HWE := Aside0.mk hW0
  clear hf hsm z1 z2 z3 z4 hW0
  go_enter Tryz.func42, Tryz.ntmps42
  go_wp2_with fail
  rw [← HWE.out]
  refine (HF.out _).mono ?_
  rintro e w1 ⟨rfl, hb1⟩
  have r0 := pw_cell_below hb1.below s0
  have r1 := pw_cell_below hb1.below s1
  have r2 := pw_cell_below hb1.below s2
  have r3 := pw_cell_below hb1.below s3
  have HW1 := Aside0.mk (below_step HW0.out hb1.below)
  clear hb1
  go_wp2_with fail
  go_region_held3 (fun w' => w'.cell? ⟨w.heap.size, 0, none⟩ = some (.int .i64 (kd : Int)) ∧ w'.cell? ⟨w.heap.size, 1, none⟩ = some (.int .i64 (r : Int)) ∧ w'.cell? ⟨w.heap.size, 2, none⟩ = some (.int .u32 (sm : Int)) ∧ w'.cell? ⟨w.heap.size, 3, none⟩ = some (.string p))
    (first | exact ⟨r0, r1, r2, r3⟩ | exact ⟨pw_cell_below h2 r0, pw_cell_below h2 r1, pw_cell_below h2 r2, pw_cell_below h2 r3⟩)
    ((go_at_call 63; first
      | ((with_reducible refine (HB1.out _).mono ?_); rintro e w2 ⟨rfl, hb2⟩; have h2 := below_step (below_drew (Below.refl w1.heap.size w1)) hb2)
      | ((with_reducible refine (HB2.out _).mono ?_); rintro e w3 ⟨rfl, hb3⟩; have h2 := below_step h2 hb3)
      | ((with_reducible refine (HB3.out _).mono ?_); rintro e w4 ⟨rfl, hb4⟩; have h2 := below_step h2 hb4)
      | ((with_reducible refine (HB4.out _).mono ?_); rintro e w5 ⟨rfl, hb5⟩; have h2 := below_step h2 hb5)))
  go_wp2_with fail
  go_ret2
  exact ⟨by rw [HP.out]; rfl, below_step HW1.out h2⟩
end Go.Proofs.YtdpkgjahcapleaaGreat
set_option linter.unusedVariables false
set_option linter.unusedSimpArgs false
namespace Go.Proofs.YtdpkgjahcapleaaGreat
open Go.RowKit Go.Proofs.YtdpkgjahcapleaaGreat.Spec Go.Proofs.YtdpkgjahcapleaaGreatW.PrintWords Go.Proofs.YtdpkgjahcapleaaGreatW.PrintLast
open Go.Proofs.YtdpkgjahcapleaaGreatW.PrintMore
attribute [local go_sem ↓] Go.wp_at_zero Go.wp_at_succ
attribute [local go_sem] max2_int min2_int max_two min_two
end Go.Proofs.YtdpkgjahcapleaaGreat
