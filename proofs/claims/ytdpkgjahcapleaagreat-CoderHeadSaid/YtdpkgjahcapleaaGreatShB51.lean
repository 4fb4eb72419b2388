/- ShB: a part of its proof (contracts of the functions that it reaches, and the plain mathematics behind them). -/
import Derived.Test.YtdpkgjahcapleaaGreatShB36
import Derived.Test.YtdpkgjahcapleaaGreatShB45
set_option linter.unusedVariables false
set_option linter.unusedSimpArgs false
set_option linter.unusedVariables false
set_option linter.unusedSimpArgs false
namespace Go.Proofs.YtdpkgjahcapleaaGreat
open Go.RowKit Go.Proofs.YtdpkgjahcapleaaGreat.Spec Go.Proofs.YtdpkgjahcapleaaGreatW.PrintWords Go.Proofs.YtdpkgjahcapleaaGreatW.PrintLast
open Go.Proofs.YtdpkgjahcapleaaGreatW.PrintMore
attribute [local go_sem ↓] Go.wp_at_zero Go.wp_at_succ
attribute [local go_sem] max2_int min2_int max_two min_two
set_option maxHeartbeats 2000000 in
set_option maxRecDepth 100000 in
theorem rframe_end (n : Nat) (hn : n ≤ 4294967295) (w : World) :
    Calls Tryz.prog 19 #[.agg #[.int .i64 0, .int .i64 (n : Int), .int .u32 0, .string ⟨#[]⟩]] w fun e w' => e = .returned (.tuple #[.string (endS n), .bool true]) ∧ Below w.heap.size w w' := by
  have HB1 : Aside0 (∀ W, Calls Tryz.prog 37 #[.int .u64 0, .int .i64 1] W fun e w' => e = .returned (.string (str (beB 0 1))) ∧ Below W.heap.size W w') := ⟨fun W => rbig_calls 0 (by decide) 1 (by decide) W⟩
  have HB2 : Aside0 (∀ W, Calls Tryz.prog 37 #[.int .u64 (n : Int), .int .i64 4] W fun e w' => e = .returned (.string (str (beB n 4))) ∧ Below W.heap.size W w') := ⟨fun W => rbig_calls n (by omega) 4 (by decide) W⟩
  have q1 : IntKind.u64.wrap (n : Int) = (n : Int) := u64_wrap_nat (by omega)
  have s1 : (w.alloc (.cells #[.int .i64 0, .int .i64 (n : Int), .int .u32 0, .string ⟨#[]⟩] 47)).cell? ⟨w.heap.size, 1, none⟩ = some (.int .i64 (n : Int)) := by simp
  have d1 : decide ((n : Int) < 0) = false := decide_eq_false (by omega)
  have d2 : decide ((4294967295 : Int) < (n : Int)) = false := decide_eq_false (by omega)
  have z1 := beS_size 0 1
  have z2 := beS_size n 4
  have HP : Aside0 (endS n = str (beB 0 1) ++ str (beB n 4)) := ⟨rfl⟩
  generalize str (beB 0 1) = x1 at *
  generalize str (beB n 4) = x2 at *
  have u1 : ¬ 9223372036854775807 < x1.size + x2.size := by omega
  clear hn z1 z2
  go_enter Tryz.func19, Tryz.ntmps19
  go_wp2_with fail
  go_region_held3 (fun w' => w'.cell? ⟨w.heap.size, 1, none⟩ = some (.int .i64 (n : Int)))
    (first | exact s1 | exact pw_cell_below h2 s1)
    ((go_at_call 37; first
      | ((with_reducible refine (HB1.out _).mono ?_); rintro e w2 ⟨rfl, hb2⟩; have h2 := below_step (below_drew (Below.refl (w.alloc (.cells #[.int .i64 0, .int .i64 (n : Int), .int .u32 0, .string ⟨#[]⟩] 47)).heap.size (w.alloc (.cells #[.int .i64 0, .int .i64 (n : Int), .int .u32 0, .string ⟨#[]⟩] 47)))) hb2)
      | ((with_reducible refine (HB2.out _).mono ?_); rintro e w3 ⟨rfl, hb3⟩; have h2 := below_step h2 hb3)))
  go_wp2_with fail
  go_ret2
  exact ⟨by rw [HP.out]; rfl, below_step ((Below.refl w.heap.size w).alloc (Nat.le_refl _) _) h2⟩
set_option maxHeartbeats 2000000 in
set_option maxRecDepth 100000 in
theorem write_zero {w : World} {g : Nat} {P : Value} {e1 : En} {hd : ByteArray} (hbeg : Calls Tryz.prog 40 #[.pointer (some ⟨g, 0, none⟩)] w fun x w' => x = .returned (.tuple #[.string hd, .nilIface]) ∧ EncAt w' g P e1 ∧ Mv g w w') (hk : 1 ≤ e1.k) (h0 : e1.held.size = 0) (hw : e1.written ≤ 1000000) (b : ByteArray) (hb : b.size = 0) :
    Calls Tryz.prog 16 #[.pointer (some ⟨g, 0, none⟩), .string b] w fun x w' => x = .returned (.tuple #[.string hd, .nilIface]) ∧ EncAt w' g P e1 ∧ Mv g w w' := by
  have HBEG := Aside0.mk hbeg
  have HEQ : Aside0 ({ e1 with held := e1.held ++ b, written := e1.written + b.size } = e1) := ⟨by
    obtain ⟨x1, x2, x3, x4, x5, x6, x7, x8⟩ := e1
    dsimp only at h0 ⊢
    rw [hb, show x5 ++ b = x5 from u_inj (by rw [u_app, List.length_eq_zero_iff.1 (show (u b).length = 0 by rw [u_size]; exact hb), List.append_nil])]
    rfl⟩
  have hz : (e1.held ++ b).size = 0 := by rw [ByteArray.size_append]; omega
  have u1 : ¬ 9223372036854775807 < e1.held.size + b.size := by omega
  have u2 : (e1.written : Int) + (b.size : Int) ≤ 1000000 := by omega
  have d1 : decide ((e1.k : Int) ≤ ((e1.held ++ b).size : Int)) = false := decide_eq_false (by omega)
  have d1' : decide (e1.k ≤ (e1.held ++ b).size) = false := decide_eq_false (by omega)
  have d2 : decide ((e1.k : Int) ≤ (e1.held.size : Int) + (b.size : Int)) = false := decide_eq_false (by omega)
  have d2' : decide (e1.k ≤ e1.held.size + b.size) = false := decide_eq_false (by omega)
  clear hbeg hk h0 hw hb hz
  go_enter Tryz.func16, Tryz.ntmps16
  go_wp2_with fail
  refine HBEG.out.mono ?_
  rintro x w1 ⟨rfl, he1, hm1⟩
  have HM1 := Aside0.mk hm1
  have c5 := he1.c5
  have c6 := he1.c6
  have f5 := he1.fz 5
  have f6 := he1.fz 6
  have HE1 := Aside0.mk he1
  clear he1 hm1
  go_wp2_with fail
  have he2 : EncAt ((w1.setCell ⟨g, 6, none⟩ (.int .i64 ((e1.written : Int) + (b.size : Int)))).setCell ⟨g, 5, none⟩ (.string (e1.held ++ b))) g P { e1 with held := e1.held ++ b, written := e1.written + b.size } := blk_put (blk_put HE1.out 6 _ rfl) 5 _ rfl
  have HE2 := Aside0.mk he2
  clear he2
  go_loopw [6] (fun v6 wr => v6 = .string hd ∧ Aside0 (EncAt wr g P { e1 with held := e1.held ++ b, written := e1.written + b.size }) ∧ Aside0 (Mv g w wr)) (fun _ wr => heldE g wr)
  case atStart => exact ⟨rfl, HE2, ⟨(HM1.out.set_ 6 _).set_ 5 _⟩⟩
  case round =>
    obtain ⟨rfl, HE3, HM3⟩ := hrel
    have c5 := HE3.out.c5
    have c3 := HE3.out.c3
    dsimp only at c5 c3
    go_wp2_with fail
    go_quiet (fail)
    go_wp2_with fail
    go_ret2
    have he := HE3.out
    rw [HEQ.out] at he
    exact ⟨rfl, he.below (by repeat (first | exact Below.refl _ _ | apply below_drew | apply pw_below_drewN)), HM3.out.then (by repeat (first | exact Below.refl _ _ | apply below_drew | apply pw_below_drewN))⟩
set_option maxHeartbeats 2000000 in
set_option maxRecDepth 100000 in
theorem flush_zero {w : World} {g : Nat} {P : Value} {e1 : En} {hd : ByteArray} (hbeg : Calls Tryz.prog 40 #[.pointer (some ⟨g, 0, none⟩)] w fun x w' => x = .returned (.tuple #[.string hd, .nilIface]) ∧ EncAt w' g P e1 ∧ Mv g w w') (h0 : e1.held.size = 0) :
    Calls Tryz.prog 17 #[.pointer (some ⟨g, 0, none⟩)] w fun x w' => x = .returned (.tuple #[.string hd, .nilIface]) ∧ EncAt w' g P e1 ∧ Mv g w w' := by
  have HBEG := Aside0.mk hbeg
  have z2 : e1.held.toList = [] := Bridge.empty_iff.2 h0
  have z1 : e1.held.toList.isEmpty = true := by rw [z2]; rfl
  clear hbeg h0
  go_enter Tryz.func17, Tryz.ntmps17
  go_wp2_with fail
  refine HBEG.out.mono ?_
  rintro x w1 ⟨rfl, he1, hm1⟩
  have HM1 := Aside0.mk hm1
  have c5 := he1.c5
  have HE1 := Aside0.mk he1
  clear he1 hm1
  go_wp2_with fail
  go_ret2
  exact ⟨rfl, HE1.out, HM1.out⟩
set_option maxHeartbeats 2000000 in
set_option maxRecDepth 100000 in
theorem flush_closed {w : World} {g : Nat} {P : Value} {e : En} (h : EncAt w g P e) {ad : Addr} (hP : P = .pointer (some ad)) (hc : e.closed = true) :
    Calls Tryz.prog 17 #[.pointer (some ⟨g, 0, none⟩)] w fun x w' => x = .returned (.tuple #[.string ⟨#[]⟩, .iface 63 (.agg #[.int .i64 11, .int .i64 (e.written : Int)])]) ∧ w = w' := by
  have H := Aside0.mk (ebegin_closed h hP hc)
  rw [errV_some (by decide)] at H
  clear h hP hc
  go_enter Tryz.func17, Tryz.ntmps17
  go_wp2_with fail
  refine H.out.mono ?_
  rintro x w1 ⟨rfl, rfl⟩
  go_wp2_with fail
  go_ret2
  exact ⟨rfl, rfl⟩
end Go.Proofs.YtdpkgjahcapleaaGreat
