/- ShV: a part of its proof (contracts of the functions that it reaches, and the plain mathematics behind them). -/
import Derived.Test.YtepgkimlmoikmaaGreatShV43
import Derived.Test.YtepgkimlmoikmaaGreatShV7
import Derived.Test.YtepgkimlmoikmaaGreatShV20
set_option linter.unusedVariables false
set_option linter.unusedSimpArgs false
set_option maxHeartbeats 2000000
set_option maxRecDepth 100000
set_option linter.unusedVariables false
set_option linter.unusedSimpArgs false
namespace Go.Proofs.YtepgkimlmoikmaaGreat
open Go.RowKit Go.Proofs.YtepgkimlmoikmaaGreat.Spec Go.Proofs.YtepgkimlmoikmaaGreatW.PrintWords Go.Proofs.YtepgkimlmoikmaaGreatW.PrintLast
open Go.Proofs.YtepgkimlmoikmaaGreatW.PrintMore
attribute [local go_sem ↓] Go.wp_at_zero Go.wp_at_succ
attribute [local go_sem] max2_int min2_int max_two min_two
theorem blk_put4 {w : World} {g t : Nat} {a b c d a' b' c' d' : Value} (h : w.heap[g]? = some (.cells #[a, b, c, d] t (0, 0))) : ((((w.setCell ⟨g, 0, none⟩ a').setCell ⟨g, 1, none⟩ b').setCell ⟨g, 2, none⟩ c').setCell ⟨g, 3, none⟩ d').heap[g]? = some (.cells #[a', b', c', d'] t (0, 0)) := blk_put (blk_put (blk_put (blk_put h 0 a' rfl) 1 b' rfl) 2 c' rfl) 3 d' rfl
theorem not_nil2 {b : ByteArray} (h : 1 ≤ b.size) : b.toList.isEmpty = false := by
 rw [Bool.eq_false_iff]
 intro e
 have h2 := Bridge.empty_iff.1 (List.isEmpty_iff.1 e)
 omega
def frV (f : Fr) : Value := .tuple #[.agg #[.int .i64 (f.kind : Int), .int .i64 (f.raw : Int), .int .u32 (f.sum : Int), .string f.pay], .int .i64 (f.n : Int), .int .i64 (f.e : Int)]
theorem fget_small (b : ByteArray) (hb : b.size ≤ 1000000000) (blk : Nat) (hs : b.size = 0 ∨ 2 < byteAt b 0 ∨ (byteAt b 0 = 0 ∧ b.size < 5 ∨ byteAt b 0 ≠ 0 ∧ b.size < 9) ∨ byteAt b 0 = 0) (w : World) :
  Calls Tryz.prog 158 #[.string b, .int .i64 (blk : Int)] w fun e w' => e = .returned (frV (frameR b blk)) ∧ Below w.heap.size w w' := by
 by_cases h0 : b.size = 0
 ·have hr : frameR b blk = frBad 2 := by unfold frameR; rw [if_pos h0]
  rw [hr]
  have z2 : b.toList = [] := Bridge.empty_iff.2 h0
  have z1 : b.toList.isEmpty = true := by rw [z2]; rfl
  clear h0 hr hs
  go_enter Tryz.func158, Tryz.ntmps158
  go_wp2_with fail
  exact bodyPost_ret (v := frV (frBad 2)) (by simp [results, Tryz.results158, go_sem, frV, frBad]) rfl ⟨rfl, (Below.refl _ _).alloc (Nat.le_refl _) _⟩
 ·have z1 := not_nil2 (b := b) (by omega)
  have z2 : ¬ b.toList = [] := by intro e; rw [e] at z1; cases z1
  have z0 : 0 < b.size := by omega
  have p0 : (0 : Int) < (b.size : Int) := by omega
  have q0 : ((b[0]'z0).toNat : Int) = (byteAt b 0 : Int) := by rw [byte_get z0]
  have hk := byte_lt b 0
  have HR : Aside0 (frameR b blk = _) := ⟨by unfold frameR; rw [if_neg h0]⟩
  generalize byteAt b 0 = kd at *
  by_cases h1 : 2 < kd
  ·have hr := HR.out
   rw [if_pos h1] at hr
   rw [hr]
   have t1 : decide ((2 : Int) < (kd : Int)) = true := decide_eq_true (by omega)
   have t1' : decide (2 < kd) = true := decide_eq_true h1
   clear hr hs h1 HR h0 hk
   go_enter Tryz.func158, Tryz.ntmps158
   go_wp2_with fail
   exact bodyPost_ret (v := frV (frBad 3)) (by simp [results, Tryz.results158, go_sem, frV, frBad]) rfl ⟨rfl, (Below.refl _ _).alloc (Nat.le_refl _) _⟩
  ·have t1 : decide ((2 : Int) < (kd : Int)) = false := decide_eq_false (by omega)
   have t1' : decide (2 < kd) = false := decide_eq_false h1
   by_cases h2 : kd = 0 ∧ b.size < 5 ∨ kd ≠ 0 ∧ b.size < 9
   ·have hr := HR.out
    rw [if_neg h1, if_pos h2] at hr
    rw [hr]
    by_cases h3 : kd = 0
    ·subst h3
     have t2 : decide ((b.size : Int) < 5) = true := decide_eq_true (by omega)
     have t2' : decide (b.size < 5) = true := decide_eq_true (by omega)
     clear hr hs h1 h2 HR h0 hk
     go_enter Tryz.func158, Tryz.ntmps158
     go_wp2_with fail
     exact bodyPost_ret (v := frV (frBad 2)) (by simp [results, Tryz.results158, go_sem, frV, frBad]) rfl ⟨rfl, (Below.refl _ _).alloc (Nat.le_refl _) _⟩
    ·have t2 : decide ((b.size : Int) < 9) = true := decide_eq_true (by omega)
     have t2' : decide (b.size < 9) = true := decide_eq_true (by omega)
     have t3 : ((kd : Int) == 0) = false := beq_eq_false_iff_ne.2 (by omega)
     have t4 : ((kd : Int) != 0) = true := bne_iff_ne.2 (by omega)
     clear hr hs h1 h2 HR h0 hk h3
     go_enter Tryz.func158, Tryz.ntmps158
     go_wp2_with fail
     exact bodyPost_ret (v := frV (frBad 2)) (by simp [results, Tryz.results158, go_sem, frV, frBad]) rfl ⟨rfl, (Below.refl _ _).alloc (Nat.le_refl _) _⟩
   ·have h3 : kd = 0 := by omega
    have hr := HR.out
    rw [if_neg h1, if_neg h2, if_pos h3] at hr
    rw [hr]
    subst h3
    have t2 : decide ((b.size : Int) < 5) = false := decide_eq_false (by omega)
    have t2' : decide (b.size < 5) = false := decide_eq_false (by omega)
    have p5 : (5 : Int) ≤ (b.size : Int) := by omega
    have hkb := ofB_ext b 1 5
    have HN := Aside0.mk (fun W => fnum_calls (b.extract 1 5) (by rw [ext_sz b 1 5 (by omega)]; decide) W)
    generalize ofB (u (b.extract 1 5)) = k at *
    have q1 : IntKind.i64.wrap (k : Int) = (k : Int) := (i64_w _).trans (Bridge.wrN _ (by omega))
    clear hr hs h1 h2 HR h0 hk hkb
    go_enter Tryz.func158, Tryz.ntmps158
    go_wp2_with fail
    refine (HN.out _).mono ?_
    rintro e w1 ⟨rfl, ⟨⟨n1, rfl⟩⟩⟩
    go_wp2_with fail
    exact bodyPost_ret (v := frV ⟨0, k, 0, ⟨#[]⟩, 5, 0⟩) (by simp [results, Tryz.results158, go_sem, frV]) rfl ⟨rfl, by repeat (with_reducible first | exact Below.refl _ _ | apply below_alloc | apply below_drew | apply pw_below_drewN | refine below_set ?_ (Nat.le_refl _) _ _)⟩
theorem fget_big (b : ByteArray) (hb : b.size ≤ 1000000000) (blk : Nat) (h9 : 9 ≤ b.size) (hk0 : byteAt b 0 ≠ 0) (hk2 : byteAt b 0 ≤ 2) (w : World) :
  Calls Tryz.prog 158 #[.string b, .int .i64 (blk : Int)] w fun e w' => e = .returned (frV (frameR b blk)) ∧ Below w.heap.size w w' := by
 have z1 := not_nil2 (b := b) (by omega)
 have z2 : ¬ b.toList = [] := by intro e; rw [e] at z1; cases z1
 have z0 : 0 < b.size := by omega
 have p0 : (0 : Int) < (b.size : Int) := by omega
 have q0 : ((b[0]'z0).toNat : Int) = (byteAt b 0 : Int) := by rw [byte_get z0]
 have HR : Aside0 (frameR b blk = _) := ⟨by unfold frameR; rw [if_neg (by omega), if_neg (by omega), if_neg (by omega), if_neg hk0]⟩
 generalize byteAt b 0 = kd at *
 have t1 : decide ((2 : Int) < (kd : Int)) = false := decide_eq_false (by omega)
 have t1' : decide (2 < kd) = false := decide_eq_false (by omega)
 have t2 : decide ((b.size : Int) < 9) = false := decide_eq_false (by omega)
 have t2' : decide (b.size < 9) = false := decide_eq_false (by omega)
 have t3 : ((kd : Int) == 0) = false := beq_eq_false_iff_ne.2 (by omega)
 have t4 : ((kd : Int) != 0) = true := bne_iff_ne.2 (by omega)
 have p9 : (9 : Int) ≤ (b.size : Int) := by omega
 have pb : (b.size : Int) ≤ 1000000000 := by omega
 have p5 : (5 : Int) ≤ (b.size : Int) := by omega
 have p3 : (3 : Int) ≤ (b.size : Int) := by omega
 have hr := ofB_ext b 1 3
 have hn := ofB_ext b 3 5
 have hsm := ofB_ext b 5 9
 have HN1 := Aside0.mk (fun W => fnum_calls (b.extract 1 3) (by rw [ext_sz b 1 3 (by omega)]; decide) W)
 have HN2 := Aside0.mk (fun W => fnum_calls (b.extract 3 5) (by rw [ext_sz b 3 5 (by omega)]; decide) W)
 have HN3 := Aside0.mk (fun W => fnum_calls (b.extract 5 9) (by rw [ext_sz b 5 9 (by omega)]; decide) W)
 have q3 : IntKind.u32.wrap (ofB (u (b.extract 5 9)) : Int) = (ofB (u (b.extract 5 9)) : Int) := by rw [IntKind.wrap_u32]; omega
 generalize ofB (u (b.extract 1 3)) = r at *
 generalize ofB (u (b.extract 3 5)) = n at *
 generalize ofB (u (b.extract 5 9)) = sm at *
 have qk : IntKind.i64.wrap (kd : Int) = (kd : Int) := (i64_w _).trans (Bridge.wrN _ (by omega))
 have q1 : IntKind.i64.wrap (r : Int) = (r : Int) := (i64_w _).trans (Bridge.wrN _ (by omega))
 have q2 : IntKind.i64.wrap (n : Int) = (n : Int) := (i64_w _).trans (Bridge.wrN _ (by omega))
 have H9 := Aside0.mk (And.intro h9 (And.intro hk0 (And.intro hk2 (And.intro hb (And.intro hr (And.intro hn hsm))))))
 clear h9 hk0 hk2 hb hr hn hsm
 go_enter Tryz.func158, Tryz.ntmps158
 go_upto_region 9 with fail
 go_cut [7] (fun v7 wx => v7 = .pointer (some ⟨w.heap.size + 1, 0, none⟩) ∧ Aside0 (wx.heap[w.heap.size + 1]? = some (.cells #[.int .i64 (kd : Int), .int .i64 (r : Int), .int .u32 (sm : Int), .string ⟨#[]⟩] 67 (0, 0))) ∧ Aside0 (wx.heap[w.heap.size]? = some (.cells #[.int .i64 0, .int .i64 0, .int .u32 0, .string ⟨#[]⟩] 67 (0, 0))) ∧ Aside0 (Below w.heap.size w wx))
 case first =>
  go_region_held3 (fun w' => Below w.heap.size w w') (repeat (with_reducible first | exact Below.refl _ _ | apply below_alloc | apply below_drew | apply pw_below_drewN | refine below_set ?_ (Nat.le_succ _) _ _)) ((go_at_call 199; first | ((with_reducible refine (HN1.out _).mono ?_); rintro e w1 ⟨rfl, ⟨⟨n1, rfl⟩⟩⟩) | ((with_reducible refine (HN3.out _).mono ?_); rintro e w1 ⟨rfl, ⟨⟨n1, rfl⟩⟩⟩)))
  all_goals
   go_wp2_with fail
   go_meet
   refine ⟨rfl, ⟨?_⟩, ⟨?_⟩, ⟨?_⟩⟩
   ·(try (with_reducible refine blk_put4 (a := .int .i64 0) (b := .int .i64 0) (c := .int .u32 0) (d := .string ⟨#[]⟩) ?_))
    repeat (with_reducible first | refine blk_drewN ?_ _ | refine blk_drew ?_ | (refine blk_new2 _ _ _ ?_; simp; done) | refine blk_alloc ?_ _)
   ·repeat (with_reducible first | refine blk_drewN ?_ _ | refine blk_drew ?_ | (refine blk_new2 _ _ _ ?_; rfl) | refine blk_alloc ?_ _ | refine blk_far ?_ (by simp) _)
   ·repeat (with_reducible first | exact Below.refl _ _ | apply below_alloc | apply below_drew | apply pw_below_drewN | refine below_set ?_ (Nat.le_succ _) _ _)
 case rest =>
  obtain ⟨rfl, HB1, HB0, HBW⟩ := hcut
  go_wp2_with fail
  refine (HN2.out _).mono ?_
  rintro e w2 ⟨rfl, hb2⟩
  have HB3 := Aside0.mk (blk_below HB1.out hb2.below)
  have HB4 := Aside0.mk (blk_below HB0.out hb2.below)
  have HBX := Aside0.mk (below_step HBW.out hb2.below)
  clear hb2 HBW HB0 HB1
  have c0 : w2.cell? ⟨w.heap.size + 1, 0, none⟩ = some (.int .i64 (kd : Int)) := (blk_cell HB3.out 0).trans rfl
  have c1 : w2.cell? ⟨w.heap.size + 1, 1, none⟩ = some (.int .i64 (r : Int)) := (blk_cell HB3.out 1).trans rfl
  have c2 : w2.cell? ⟨w.heap.size + 1, 2, none⟩ = some (.int .u32 (sm : Int)) := (blk_cell HB3.out 2).trans rfl
  have c3 : w2.cell? ⟨w.heap.size + 1, 3, none⟩ = some (.string ⟨#[]⟩) := (blk_cell HB3.out 3).trans rfl
  have e3 := blk_frozen HB3.out 3
  have f0 := blk_frozen HB4.out 0
  have f1 := blk_frozen HB4.out 1
  have f2 := blk_frozen HB4.out 2
  have f3 := blk_frozen HB4.out 3
  have g0 : w2.cell? ⟨w.heap.size, 0, none⟩ = some (.int .i64 0) := (blk_cell HB4.out 0).trans rfl
  have g1 : w2.cell? ⟨w.heap.size, 1, none⟩ = some (.int .i64 0) := (blk_cell HB4.out 1).trans rfl
  have g2 : w2.cell? ⟨w.heap.size, 2, none⟩ = some (.int .u32 0) := (blk_cell HB4.out 2).trans rfl
  have g3 : w2.cell? ⟨w.heap.size, 3, none⟩ = some (.string ⟨#[]⟩) := (blk_cell HB4.out 3).trans rfl
  obtain ⟨h9, hk0, hk2, hb, hr, hn, hsm⟩ := H9.out
  have hrr := HR.out
  have HFT := Aside0.mk (fun W => ffits_calls kd r n W)
  by_cases m1 : blk < r
  ·rw [if_pos (.inl m1)] at hrr
   have HRR := Aside0.mk hrr
   have d1 : decide ((blk : Int) < (r : Int)) = true := decide_eq_true (by omega)
   have d1' : decide (blk < r) = true := decide_eq_true m1
   clear h9 hk0 hk2 hb hr hn hsm hrr m1
   go_wp2_with fail
   exact bodyPost_ret (v := frV (frBad 10)) (by simp [results, Tryz.results158, go_sem, frV, frBad, *]) rfl ⟨by rw [HRR.out], by repeat (with_reducible first | exact HBX.out | refine below_set ?_ (Nat.le_refl _) _ _)⟩
  ·have d1 : decide ((blk : Int) < (r : Int)) = false := decide_eq_false (by omega)
   have d1' : decide (blk < r) = false := decide_eq_false m1
   by_cases m2 : fitsR kd r n
   ·rw [if_neg (by intro h; rcases h with h | h; exact m1 h; exact h m2)] at hrr
    rw [decide_eq_true m2] at HFT
    by_cases m3 : b.size - 9 < n
    ·rw [if_pos m3] at hrr
     have HRR := Aside0.mk hrr
     have d2 : decide ((b.size : Int) - 9 < (n : Int)) = true := decide_eq_true (by omega)
     have d3 : decide ((b.size : Int) < (n : Int) + 9) = true := decide_eq_true (by omega)
     have d4 : (b.size : Int) < (n : Int) + 9 := by omega
     clear h9 hk0 hk2 hb hr hn hsm hrr m1 m2 m3
     go_wp2_with fail
     refine (HFT.out _).mono ?_
     rintro e w3 ⟨rfl, ⟨⟨n3, rfl⟩⟩⟩
     go_wp2_with fail
     exact bodyPost_ret (v := frV (frBad 2)) (by simp [results, Tryz.results158, go_sem, frV, frBad, *]) rfl ⟨by rw [HRR.out], by repeat (with_reducible first | exact HBX.out | apply pw_below_drewN | refine below_set ?_ (Nat.le_refl _) _ _)⟩
    ·rw [if_neg m3] at hrr
     have HRR := Aside0.mk hrr
     have d2 : decide ((b.size : Int) - 9 < (n : Int)) = false := decide_eq_false (by omega)
     have d3 : decide ((b.size : Int) < (n : Int) + 9) = false := decide_eq_false (by omega)
     have u1 : (9 : Int) + (n : Int) ≤ (b.size : Int) := by omega
     have u2 : (n : Int) ≤ 65535 := by omega
     clear h9 hk0 hk2 hb hr hn hsm hrr m1 m2 m3
     go_wp2_with fail
     refine (HFT.out _).mono ?_
     rintro e w3 ⟨rfl, ⟨⟨n3, rfl⟩⟩⟩
     go_wp2_with fail
     have l3 : ((((((w2.drewN n3).setCell ⟨w.heap.size + 1, 3, none⟩ (.string (b.extract 9 (9 + n)))).setCell ⟨w.heap.size, 0, none⟩ (.int .i64 (kd : Int))).setCell ⟨w.heap.size, 1, none⟩ (.int .i64 (r : Int))).setCell ⟨w.heap.size, 2, none⟩ (.int .u32 (sm : Int))).setCell ⟨w.heap.size, 3, none⟩ (.string (b.extract 9 (9 + n)))).heap[w.heap.size]? = some (.cells #[.int .i64 (kd : Int), .int .i64 (r : Int), .int .u32 (sm : Int), .string (b.extract 9 (9 + n))] 67 (0, 0)) := blk_put4 (blk_far (blk_drewN HB4.out n3) (by simp) _)
     exact bodyPost_ret (v := frV ⟨kd, r, sm, b.extract 9 (9 + n), 9 + n, 0⟩) (by simp [results, Tryz.results158, go_sem, frV, *]) rfl ⟨by rw [HRR.out], by repeat (with_reducible first | exact HBX.out | apply pw_below_drewN | refine below_set ?_ (Nat.le_refl _) _ _ | refine below_set ?_ (Nat.le_succ _) _ _)⟩
   ·rw [if_pos (.inr m2)] at hrr
    rw [decide_eq_false m2] at HFT
    have HRR := Aside0.mk hrr
    clear h9 hk0 hk2 hb hr hn hsm hrr m1 m2
    go_wp2_with fail
    refine (HFT.out _).mono ?_
    rintro e w3 ⟨rfl, ⟨⟨n3, rfl⟩⟩⟩
    go_wp2_with fail
    exact bodyPost_ret (v := frV (frBad 10)) (by simp [results, Tryz.results158, go_sem, frV, frBad, *]) rfl ⟨by rw [HRR.out], by repeat (with_reducible first | exact HBX.out | apply pw_below_drewN | refine below_set ?_ (Nat.le_refl _) _ _)⟩
theorem fget_calls (b : ByteArray) (hb : b.size ≤ 1000000000) (blk : Nat) (w : World) :
  Calls Tryz.prog 158 #[.string b, .int .i64 (blk : Int)] w fun e w' => e = .returned (frV (frameR b blk)) ∧ Below w.heap.size w w' := by
 by_cases hs : b.size = 0 ∨ 2 < byteAt b 0 ∨ (byteAt b 0 = 0 ∧ b.size < 5 ∨ byteAt b 0 ≠ 0 ∧ b.size < 9) ∨ byteAt b 0 = 0
 ·exact fget_small b hb blk hs w
 ·exact fget_big b hb blk (by omega) (by omega) (by omega) w
end Go.Proofs.YtepgkimlmoikmaaGreat
set_option linter.unusedVariables false
set_option linter.unusedSimpArgs false
namespace Go.Proofs.YtepgkimlmoikmaaGreat
open Go.RowKit Go.Proofs.YtepgkimlmoikmaaGreat.Spec Go.Proofs.YtepgkimlmoikmaaGreatW.PrintWords Go.Proofs.YtepgkimlmoikmaaGreatW.PrintLast
open Go.Proofs.YtepgkimlmoikmaaGreatW.PrintMore
attribute [local go_sem ↓] Go.wp_at_zero Go.wp_at_succ
attribute [local go_sem] max2_int min2_int max_two min_two
namespace Spec
def headS (c k id : Nat) : ByteArray := magicS ++ str (beB 1 1) ++ str (beB c 1) ++ str (beB k 3) ++ str (beB id 8)
def endS (n : Nat) : ByteArray := str (beB 0 1) ++ str (beB n 4)
def frameS (kind raw sum : Nat) (pay : ByteArray) : ByteArray := str (beB kind 1) ++ str (beB raw 2) ++ str (beB pay.size 2) ++ str (beB sum 4) ++ pay
end Spec
theorem beS_size (v n : Nat) : (str (beB v n)).size = n := by rw [← u_size, u_str, beB_len]
theorem putHead_calls (c k id : Nat) (hc : c ≤ 1) (hk : 1 ≤ k ∧ k ≤ 1024) (hid : id < 18446744073709551616) (w : World) :
  Calls Tryz.prog 161 #[.agg #[.int .i64 (c : Int), .int .i64 (k : Int), .int .u64 (id : Int)]] w fun e w' => e = .returned (.tuple #[.string (headS c k id), .bool true]) ∧ Below w.heap.size w w' := by
 have HSZ := Aside0.mk (fun W => Leaf.frame_size.calls (k : Int) true W (by unfold Leaf.frame_size.f; rw [if_pos (by omega), decide_eq_true (by omega)]))
 have HB1 : Aside0 (∀ W, Calls Tryz.prog 164 #[.int .u64 1, .int .i64 1] W fun e w' => e = .returned (.string (str (beB 1 1))) ∧ Below W.heap.size W w') := ⟨fun W => big_calls 1 (by decide) 1 (by decide) W⟩
 have HB2 : Aside0 (∀ W, Calls Tryz.prog 164 #[.int .u64 (c : Int), .int .i64 1] W fun e w' => e = .returned (.string (str (beB c 1))) ∧ Below W.heap.size W w') := ⟨fun W => big_calls c (by omega) 1 (by decide) W⟩
 have HB3 : Aside0 (∀ W, Calls Tryz.prog 164 #[.int .u64 (k : Int), .int .i64 3] W fun e w' => e = .returned (.string (str (beB k 3))) ∧ Below W.heap.size W w') := ⟨fun W => big_calls k (by omega) 3 (by decide) W⟩
 have HB4 : Aside0 (∀ W, Calls Tryz.prog 164 #[.int .u64 (id : Int), .int .i64 8] W fun e w' => e = .returned (.string (str (beB id 8))) ∧ Below W.heap.size W w') := ⟨fun W => big_calls id hid 8 (by decide) W⟩
 have q1 : IntKind.u64.wrap (c : Int) = (c : Int) := u64_wrap_nat (by omega)
 have q2 : IntKind.u64.wrap (k : Int) = (k : Int) := u64_wrap_nat (by omega)
 have s0 : (w.alloc (.cells #[.int .i64 (c : Int), .int .i64 (k : Int), .int .u64 (id : Int)] 90)).cell? ⟨w.heap.size, 0, none⟩ = some (.int .i64 (c : Int)) := by simp
 have s1 : (w.alloc (.cells #[.int .i64 (c : Int), .int .i64 (k : Int), .int .u64 (id : Int)] 90)).cell? ⟨w.heap.size, 1, none⟩ = some (.int .i64 (k : Int)) := by simp
 have s2 : (w.alloc (.cells #[.int .i64 (c : Int), .int .i64 (k : Int), .int .u64 (id : Int)] 90)).cell? ⟨w.heap.size, 2, none⟩ = some (.int .u64 (id : Int)) := by simp
 have c0 : (((c : Int) != 0) = false ∧ True) ∨ (((c : Int) != 0) = true ∧ ((c : Int) != 1) = false) := by
  have : c = 0 ∨ c = 1 := by omega
  rcases this with rfl | rfl
  ·exact .inl ⟨rfl, trivial⟩
  ·exact .inr ⟨rfl, rfl⟩
 have z1 := beS_size 1 1
 have z2 := beS_size c 1
 have z3 := beS_size k 3
 have z4 := beS_size id 8
 have HP : Aside0 (headS c k id = magicS ++ str (beB 1 1) ++ str (beB c 1) ++ str (beB k 3) ++ str (beB id 8)) := ⟨rfl⟩
 generalize str (beB 1 1) = x1 at *
 generalize str (beB c 1) = x2 at *
 generalize str (beB k 3) = x3 at *
 generalize str (beB id 8) = x4 at *
 have u1 : ¬ 9223372036854775807 < 4 + x1.size := by omega
 have u2 : ¬ 9223372036854775807 < 4 + x1.size + x2.size := by omega
 have u3 : ¬ 9223372036854775807 < 4 + x1.size + x2.size + x3.size := by omega
 have u4 : ¬ 9223372036854775807 < 4 + x1.size + x2.size + x3.size + x4.size := by omega
 clear hc hk hid z1 z2 z3 z4
 rcases c0 with ⟨t0, _⟩ | ⟨t0, t1⟩
 all_goals
  go_enter Tryz.func161, Tryz.ntmps161
  go_wp2_with fail
  refine (HSZ.out _).mono ?_
  rintro e w1 ⟨rfl, hb1⟩
  have hw1 := below_step ((Below.refl w.heap.size w).alloc (Nat.le_refl _) (.cells #[.int .i64 (c : Int), .int .i64 (k : Int), .int .u64 (id : Int)] 90)) hb1.below
  have r0 := pw_cell_below hb1.below s0
  have r1 := pw_cell_below hb1.below s1
  have r2 := pw_cell_below hb1.below s2
  clear hb1
  go_wp2_with fail
  go_region_held3 (fun w' => w'.cell? ⟨w.heap.size, 0, none⟩ = some (.int .i64 (c : Int)) ∧ w'.cell? ⟨w.heap.size, 1, none⟩ = some (.int .i64 (k : Int)) ∧ w'.cell? ⟨w.heap.size, 2, none⟩ = some (.int .u64 (id : Int)))
   (first | exact ⟨r0, r1, r2⟩ | exact ⟨pw_cell_below h2 r0, pw_cell_below h2 r1, pw_cell_below h2 r2⟩)
   ((go_at_call 164; first
    | ((with_reducible refine (HB1.out _).mono ?_); rintro e w2 ⟨rfl, hb2⟩; have h2 := below_step (below_drew (Below.refl w1.heap.size w1)) hb2)
    | ((with_reducible refine (HB2.out _).mono ?_); rintro e w3 ⟨rfl, hb3⟩; have h2 := below_step h2 hb3)
    | ((with_reducible refine (HB3.out _).mono ?_); rintro e w4 ⟨rfl, hb4⟩; have h2 := below_step h2 hb4)
    | ((with_reducible refine (HB4.out _).mono ?_); rintro e w5 ⟨rfl, hb5⟩; have h2 := below_step h2 hb5)))
  go_wp2_with fail
  go_ret2
  exact ⟨by rw [HP.out]; rfl, below_step hw1 h2⟩
theorem fput_end (n : Nat) (hn : n ≤ 4294967295) (w : World) :
  Calls Tryz.prog 120 #[.agg #[.int .i64 0, .int .i64 (n : Int), .int .u32 0, .string ⟨#[]⟩]] w fun e w' => e = .returned (.tuple #[.string (endS n), .bool true]) ∧ Below w.heap.size w w' := by
 have HB1 : Aside0 (∀ W, Calls Tryz.prog 164 #[.int .u64 0, .int .i64 1] W fun e w' => e = .returned (.string (str (beB 0 1))) ∧ Below W.heap.size W w') := ⟨fun W => big_calls 0 (by decide) 1 (by decide) W⟩
 have HB2 : Aside0 (∀ W, Calls Tryz.prog 164 #[.int .u64 (n : Int), .int .i64 4] W fun e w' => e = .returned (.string (str (beB n 4))) ∧ Below W.heap.size W w') := ⟨fun W => big_calls n (by omega) 4 (by decide) W⟩
 have q1 : IntKind.u64.wrap (n : Int) = (n : Int) := u64_wrap_nat (by omega)
 have s1 : (w.alloc (.cells #[.int .i64 0, .int .i64 (n : Int), .int .u32 0, .string ⟨#[]⟩] 67)).cell? ⟨w.heap.size, 1, none⟩ = some (.int .i64 (n : Int)) := by simp
 have d1 : decide ((n : Int) < 0) = false := decide_eq_false (by omega)
 have d2 : decide ((4294967295 : Int) < (n : Int)) = false := decide_eq_false (by omega)
 have z1 := beS_size 0 1
 have z2 := beS_size n 4
 have HP : Aside0 (endS n = str (beB 0 1) ++ str (beB n 4)) := ⟨rfl⟩
 generalize str (beB 0 1) = x1 at *
 generalize str (beB n 4) = x2 at *
 have u1 : ¬ 9223372036854775807 < x1.size + x2.size := by omega
 clear hn z1 z2
 go_enter Tryz.func120, Tryz.ntmps120
 go_wp2_with fail
 go_region_held3 (fun w' => w'.cell? ⟨w.heap.size, 1, none⟩ = some (.int .i64 (n : Int)))
  (first | exact s1 | exact pw_cell_below h2 s1)
  ((go_at_call 164; first
   | ((with_reducible refine (HB1.out _).mono ?_); rintro e w2 ⟨rfl, hb2⟩; have h2 := below_step (below_drew (Below.refl (w.alloc (.cells #[.int .i64 0, .int .i64 (n : Int), .int .u32 0, .string ⟨#[]⟩] 67)).heap.size (w.alloc (.cells #[.int .i64 0, .int .i64 (n : Int), .int .u32 0, .string ⟨#[]⟩] 67)))) hb2)
   | ((with_reducible refine (HB2.out _).mono ?_); rintro e w3 ⟨rfl, hb3⟩; have h2 := below_step h2 hb3)))
 go_wp2_with fail
 go_ret2
 exact ⟨by rw [HP.out]; rfl, below_step ((Below.refl w.heap.size w).alloc (Nat.le_refl _) _) h2⟩
theorem fput_blk (kd r sm : Nat) (p : ByteArray) (hf : fitsR kd r p.size) (hsm : sm < 4294967296) (w : World) :
  Calls Tryz.prog 120 #[.agg #[.int .i64 (kd : Int), .int .i64 (r : Int), .int .u32 (sm : Int), .string p]] w fun e w' => e = .returned (.tuple #[.string (frameS kd r sm p), .bool true]) ∧ Below w.heap.size w w' := by
 have HF := Aside0.mk (fun W => ffits_calls kd r p.size W)
 rw [decide_eq_true hf] at HF
 unfold fitsR at hf
 have HB1 : Aside0 (∀ W, Calls Tryz.prog 164 #[.int .u64 (kd : Int), .int .i64 1] W fun e w' => e = .returned (.string (str (beB kd 1))) ∧ Below W.heap.size W w') := ⟨fun W => big_calls kd (by omega) 1 (by decide) W⟩
 have HB2 : Aside0 (∀ W, Calls Tryz.prog 164 #[.int .u64 (r : Int), .int .i64 2] W fun e w' => e = .returned (.string (str (beB r 2))) ∧ Below W.heap.size W w') := ⟨fun W => big_calls r (by omega) 2 (by decide) W⟩
 have HB3 : Aside0 (∀ W, Calls Tryz.prog 164 #[.int .u64 (p.size : Int), .int .i64 2] W fun e w' => e = .returned (.string (str (beB p.size 2))) ∧ Below W.heap.size W w') := ⟨fun W => big_calls p.size (by omega) 2 (by decide) W⟩
 have HB4 : Aside0 (∀ W, Calls Tryz.prog 164 #[.int .u64 (sm : Int), .int .i64 4] W fun e w' => e = .returned (.string (str (beB sm 4))) ∧ Below W.heap.size W w') := ⟨fun W => big_calls sm (by omega) 4 (by decide) W⟩
 have q1 : IntKind.u64.wrap (kd : Int) = (kd : Int) := u64_wrap_nat (by omega)
 have q2 : IntKind.u64.wrap (r : Int) = (r : Int) := u64_wrap_nat (by omega)
 have q3 : IntKind.u64.wrap (p.size : Int) = (p.size : Int) := u64_wrap_nat (by omega)
 have q4 : IntKind.u64.wrap (sm : Int) = (sm : Int) := u64_wrap_nat (by omega)
 have d0 : ((kd : Int) == 0) = false := beq_eq_false_iff_ne.2 (by omega)
 obtain ⟨W0, hW0⟩ : ∃ W0, W0 = w.alloc (.cells #[.int .i64 (kd : Int), .int .i64 (r : Int), .int .u32 (sm : Int), .string p] 67) := ⟨_, rfl⟩
 have s0 : W0.cell? ⟨w.heap.size, 0, none⟩ = some (.int .i64 (kd : Int)) := by rw [hW0]; simp
 have s1 : W0.cell? ⟨w.heap.size, 1, none⟩ = some (.int .i64 (r : Int)) := by rw [hW0]; simp
 have s2 : W0.cell? ⟨w.heap.size, 2, none⟩ = some (.int .u32 (sm : Int)) := by rw [hW0]; simp
 have s3 : W0.cell? ⟨w.heap.size, 3, none⟩ = some (.string p) := by rw [hW0]; simp
 have HW0 := Aside0.mk (show Below w.heap.size w W0 by rw [hW0]; exact (Below.refl _ _).alloc (Nat.le_refl _) _)
 have z1 := beS_size kd 1
 have z2 := beS_size r 2
 have z3 := beS_size p.size 2
 have z4 := beS_size sm 4
 have HP : Aside0 (frameS kd r sm p = str (beB kd 1) ++ str (beB r 2) ++ str (beB p.size 2) ++ str (beB sm 4) ++ p) := ⟨rfl⟩
 generalize str (beB kd 1) = x1 at *
 generalize str (beB r 2) = x2 at *
 generalize str (beB p.size 2) = x3 at *
 generalize str (beB sm 4) = x4 at *
 have u1 : ¬ 9223372036854775807 < x1.size + x2.size := by omega
 have u2 : ¬ 9223372036854775807 < x1.size + x2.size + x3.size := by omega
 have u3 : ¬ 9223372036854775807 < x1.size + x2.size + x3.size + x4.size := by omega
 have u4 : ¬ 9223372036854775807 < x1.size + x2.size + x3.size + x4.size + p.size := by omega
 have HWE := Aside0.mk hW0
 clear hf hsm z1 z2 z3 z4 hW0
 go_enter Tryz.func120, Tryz.ntmps120
 go_wp2_with fail
 rw [← HWE.out]
 refine (HF.out _).mono ?_
 rintro e w1 ⟨rfl, hb1⟩
 have r0 := pw_cell_below hb1.below s0
 have r1 := pw_cell_below hb1.below s1
 have r2 := pw_cell_below hb1.below s2
 have r3 := pw_cell_below hb1.below s3
 have HW1 := Aside0.mk (below_step HW0.out hb1.below)
 clear hb1
 go_wp2_with fail
 go_region_held3 (fun w' => w'.cell? ⟨w.heap.size, 0, none⟩ = some (.int .i64 (kd : Int)) ∧ w'.cell? ⟨w.heap.size, 1, none⟩ = some (.int .i64 (r : Int)) ∧ w'.cell? ⟨w.heap.size, 2, none⟩ = some (.int .u32 (sm : Int)) ∧ w'.cell? ⟨w.heap.size, 3, none⟩ = some (.string p))
  (first | exact ⟨r0, r1, r2, r3⟩ | exact ⟨pw_cell_below h2 r0, pw_cell_below h2 r1, pw_cell_below h2 r2, pw_cell_below h2 r3⟩)
  ((go_at_call 164; first
   | ((with_reducible refine (HB1.out _).mono ?_); rintro e w2 ⟨rfl, hb2⟩; have h2 := below_step (below_drew (Below.refl w1.heap.size w1)) hb2)
   | ((with_reducible refine (HB2.out _).mono ?_); rintro e w3 ⟨rfl, hb3⟩; have h2 := below_step h2 hb3)
   | ((with_reducible refine (HB3.out _).mono ?_); rintro e w4 ⟨rfl, hb4⟩; have h2 := below_step h2 hb4)
   | ((with_reducible refine (HB4.out _).mono ?_); rintro e w5 ⟨rfl, hb5⟩; have h2 := below_step h2 hb5)))
 go_wp2_with fail
 go_ret2
 exact ⟨by rw [HP.out]; rfl, below_step HW1.out h2⟩
end Go.Proofs.YtepgkimlmoikmaaGreat
set_option linter.unusedVariables false
set_option linter.unusedSimpArgs false
namespace Go.Proofs.YtepgkimlmoikmaaGreat
open Go.RowKit Go.Proofs.YtepgkimlmoikmaaGreat.Spec Go.Proofs.YtepgkimlmoikmaaGreatW.PrintWords Go.Proofs.YtepgkimlmoikmaaGreatW.PrintLast
open Go.Proofs.YtepgkimlmoikmaaGreatW.PrintMore
attribute [local go_sem ↓] Go.wp_at_zero Go.wp_at_succ
attribute [local go_sem] max2_int min2_int max_two min_two
end Go.Proofs.YtepgkimlmoikmaaGreat
set_option linter.unusedVariables false
set_option linter.unusedSimpArgs false
namespace Go.Proofs.YtepgkimlmoikmaaGreat
open Go.RowKit Go.Proofs.YtepgkimlmoikmaaGreat.Spec Go.Proofs.YtepgkimlmoikmaaGreatW.PrintWords Go.Proofs.YtepgkimlmoikmaaGreatW.PrintLast
open Go.Proofs.YtepgkimlmoikmaaGreatW.PrintMore
attribute [local go_sem ↓] Go.wp_at_zero Go.wp_at_succ
attribute [local go_sem] max2_int min2_int max_two min_two
theorem wrap_nine {n : Nat} (h : (n : Int) ≤ 65535) : wrap64 (9 + (n : Int)) = 9 + (n : Int) := (show wrap64 ((9 + n : Nat) : Int) = 9 + (n : Int) by rw [Bridge.wrN _ (by omega)]; omega)
attribute [local go_sem] wrap_nine
end Go.Proofs.YtepgkimlmoikmaaGreat
