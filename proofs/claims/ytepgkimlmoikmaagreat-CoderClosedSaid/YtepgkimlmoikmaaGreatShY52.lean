/- ShY: a part of its proof (contracts of the functions that it reaches, and the plain mathematics behind them). -/
import Derived.Test.YtepgkimlmoikmaaGreatShY36
import Derived.Test.YtepgkimlmoikmaaGreatShY41
set_option linter.unusedVariables false
set_option linter.unusedSimpArgs false
set_option maxHeartbeats 2000000
set_option maxRecDepth 100000
set_option linter.unusedVariables false
set_option linter.unusedSimpArgs false
namespace Go.Proofs.YtepgkimlmoikmaaGreat
open Go.RowKit Go.Proofs.YtepgkimlmoikmaaGreat.Spec Go.Proofs.YtepgkimlmoikmaaGreatW.PrintWords Go.Proofs.YtepgkimlmoikmaaGreatW.PrintLast
open Go.Proofs.YtepgkimlmoikmaaGreatW.PrintMore
attribute [local go_sem ↓] Go.wp_at_zero Go.wp_at_succ
attribute [local go_sem] max2_int min2_int max_two min_two
theorem eheld_new {w : World} {g : Nat} {P : Value} {e : En} (h : EncAt w g P e) : Calls Tryz.prog 56 #[.pointer (some ⟨g, 0, none⟩)] w fun x w' => x = .returned (.int .i64 (e.held.size : Int)) ∧ Below w.heap.size w w' := by
 have c5 := h.c5
 clear h
 go_enter Tryz.func56, Tryz.ntmps56
 go_wp2_with fail
 go_ret
 exact ⟨rfl, Below.refl _ _⟩
end Go.Proofs.YtepgkimlmoikmaaGreat
set_option linter.unusedVariables false
set_option linter.unusedSimpArgs false
namespace Go.Proofs.YtepgkimlmoikmaaGreat
open Go.RowKit Go.Proofs.YtepgkimlmoikmaaGreat.Spec Go.Proofs.YtepgkimlmoikmaaGreatW.PrintWords Go.Proofs.YtepgkimlmoikmaaGreatW.PrintLast
open Go.Proofs.YtepgkimlmoikmaaGreatW.PrintMore
attribute [local go_sem ↓] Go.wp_at_zero Go.wp_at_succ
attribute [local go_sem] max2_int min2_int max_two min_two
theorem write_closed {w : World} {g : Nat} {P : Value} {e : En} (h : EncAt w g P e) {ad : Addr} (hP : P = .pointer (some ad)) (hc : e.closed = true) (b : ByteArray) :
  Calls Tryz.prog 53 #[.pointer (some ⟨g, 0, none⟩), .string b] w fun x w' => x = .returned (.tuple #[.string ⟨#[]⟩, .iface 152 (.agg #[.int .i64 11, .int .i64 (e.written : Int)])]) ∧ w = w' := by
 have H := Aside0.mk (ebegin_closed h hP hc)
 rw [errV_some (by decide)] at H
 clear h hP hc
 go_enter Tryz.func53, Tryz.ntmps53
 go_wp2_with fail
 refine H.out.mono ?_
 rintro x w1 ⟨rfl, rfl⟩
 go_wp2_with fail
 go_ret2
 exact ⟨rfl, rfl⟩
theorem close_closed {w : World} {g : Nat} {P : Value} {e : En} (h : EncAt w g P e) {ad : Addr} (hP : P = .pointer (some ad)) (hc : e.closed = true) :
  Calls Tryz.prog 55 #[.pointer (some ⟨g, 0, none⟩)] w fun x w' => x = .returned (.tuple #[.string ⟨#[]⟩, .iface 152 (.agg #[.int .i64 11, .int .i64 (e.written : Int)])]) ∧ w = w' := by
 have H := Aside0.mk (flush_closed h hP hc)
 clear h hP hc
 go_enter Tryz.func55, Tryz.ntmps55
 go_wp2_with fail
 refine H.out.mono ?_
 rintro x w1 ⟨rfl, rfl⟩
 go_wp2_with fail
 go_ret2
 exact ⟨rfl, rfl⟩
theorem told_closed (n : Int) (w : World) : Calls Tryz.prog 44 #[.iface 152 (.agg #[.int .i64 11, .int .i64 n]), .int .i64 11, .int .i64 n] w fun e w' => e = .returned (.bool true) ∧ Below w.heap.size w w' := by
 have h := told24_any 11 n 11 n w
 rw [errV_some (by decide)] at h
 refine h.mono ?_
 rintro e w' ⟨rfl, hb⟩
 refine ⟨?_, hb⟩
 unfold toldB
 rw [if_neg (by decide), beq_self_eq_true n]
 rfl
theorem coderClosed_walk (A : Option Addr) (c : Nat) (l : List ByteArray) (p q k wd : Nat) (b more : ByteArray) (n : Nat) (w : World) (hr : StrsIn w A l) (hc : l.length ≤ c) (h16 : l.length * 16 ≤ 140737488351232) (hs : ∀ s ∈ l, s.size ≤ 140737488351232) (hG : Given l ⟨#[]⟩) (hC : cfgB p q k wd = true) (hf0 : (b.size : Int) + (more.size : Int) ≤ 500) (hf1 : (1 : Int) ≤ n) (hf2 : n ≤ (10 : Int)) :
  Calls Tryz.prog 11 #[.slice A l.length c, .agg #[.int .i64 (p : Int), .int .i64 (q : Int), .int .i64 (k : Int), .int .i64 (wd : Int)], .string b, .string more, .int .i64 (n : Int)] w fun e w' => e = .returned (.bool true) ∧ Below w.heap.size w w' := by
 have HAL := Aside0.mk (fun W => alive24_any W)
 have HRC := Aside0.mk (fun W => rconf_calls p q k wd W)
 have HR := Aside0.mk hr
 have s0 : (w.alloc (.cells #[.int .i64 p, .int .i64 q, .int .i64 k, .int .i64 wd] 24)).cell? ⟨w.heap.size, 0, none⟩ = some (.int .i64 p) := by simp
 have s1 : (w.alloc (.cells #[.int .i64 p, .int .i64 q, .int .i64 k, .int .i64 wd] 24)).cell? ⟨w.heap.size, 1, none⟩ = some (.int .i64 q) := by simp
 have s2 : (w.alloc (.cells #[.int .i64 p, .int .i64 q, .int .i64 k, .int .i64 wd] 24)).cell? ⟨w.heap.size, 2, none⟩ = some (.int .i64 k) := by simp
 have s3 : (w.alloc (.cells #[.int .i64 p, .int .i64 q, .int .i64 k, .int .i64 wd] 24)).cell? ⟨w.heap.size, 3, none⟩ = some (.int .i64 wd) := by simp
 have B0 := Aside0.mk ((Below.refl w.heap.size w).alloc (Nat.le_refl _) (.cells #[.int .i64 p, .int .i64 q, .int .i64 k, .int .i64 wd] 24))
 have HD := Aside0.mk (fun (W : World) (hr : StrsIn W A l) => dict24_yes l W hr hc (by omega) hs hG)
 obtain ⟨hl, hss⟩ := phrases_sizes hG.2.2
 obtain ⟨b1, b2, b3, b4, b5⟩ := cfg_bounds hC
 have HC := Aside0.mk hC
 have zn : (n : Int) ≤ 10 := by omega
 have zs : (b.size : Int) + (more.size : Int) ≤ 500 := hf0
 have qs : wrap64 ((b.size : Int) + (more.size : Int)) = (b.size : Int) + (more.size : Int) := Bridge.wr (by omega) (by omega)
 have v0 : decide ((500 : Int) < (b.size : Int) + (more.size : Int)) = false := decide_eq_false (by omega)
 have v2 : decide ((n : Int) < 1) = false := decide_eq_false (by omega)
 have v2' : decide (n < 1) = false := decide_eq_false (by omega)
 have v3 : decide ((10 : Int) < (n : Int)) = false := decide_eq_false (by omega)
 have v4 : decide (10 < n) = false := decide_eq_false (by omega)
 have HN := Aside0.mk (fun (W : World) (ad : Addr) => newenc_yes (P := .pointer (some ad)) rfl p q k wd hC W)
 have HW := Aside0.mk (fun (W : World) (g : Nat) (ad : Addr) (hd : DicF g W (.pointer (some ad)) l) (h : EncAt W g (.pointer (some ad)) (eNew p q k wd)) => write_st hl hss hC (eNew p q k wd) ⟨rfl, rfl, rfl, rfl⟩ rfl b (by show 0 + b.size ≤ _; omega) (by show 0 + b.size ≤ _; omega) W g hd h)
 have hck := (chunk_ok b3.1 ((eNew p q k wd).held ++ b).size ((eNew p q k wd).held ++ b) (Nat.le_refl _)).2.1
 have HCL := Aside0.mk (fun (W : World) (g : Nat) (ad : Addr) (hd : DicF g W (.pointer (some ad)) l) (h : EncAt W g (.pointer (some ad)) { eNew p q k wd with begun := true, held := (chk k ((eNew p q k wd).held ++ b)).2, written := (eNew p q k wd).written + b.size }) => close_st hl hss hC { eNew p q k wd with begun := true, held := (chk k ((eNew p q k wd).held ++ b)).2, written := (eNew p q k wd).written + b.size } ⟨rfl, rfl, rfl, rfl⟩ rfl (Nat.le_of_lt hck) (by show 0 + b.size ≤ _; omega) W g hd h)
 have HNN := Aside0.mk (show n ≤ 10 by omega)
 clear hl hss b1 b2 b3 b4 b5 hC hf0 hf1 hf2 hck
 clear hr hc h16 hs hG
 go_enter Tryz.func11, Tryz.ntmps11
 go_wp2_with fail
 refine (HD.out _ (Kd.C_below HR.out B0.out)).mono ?_
 rintro e w1 ⟨ad, rfl, hd, hb1⟩
 have s0 := pw_cell_below hb1 s0
 have s1 := pw_cell_below hb1 s1
 have s2 := pw_cell_below hb1 s2
 have s3 := pw_cell_below hb1 s3
 have B1 := Aside0.mk (below_step B0.out hb1)
 have D1 := Aside0.mk hd
 clear hb1 hd
 go_wp2_with fail
 refine (HRC.out _).mono ?_
 rw [HC.out]
 rintro e w2 ⟨rfl, hb2⟩
 have s0 := pw_cell_below hb2 s0
 have s1 := pw_cell_below hb2 s1
 have s2 := pw_cell_below hb2 s2
 have s3 := pw_cell_below hb2 s3
 have B2 := Aside0.mk (below_step B1.out hb2)
 have D2 := Aside0.mk (D1.out.below hb2)
 clear hb2
 go_wp2_with fail
 refine (HAL.out _).mono ?_
 rintro e w3 ⟨rfl, hb3⟩
 have s0 := pw_cell_below hb3 s0
 have s1 := pw_cell_below hb3 s1
 have s2 := pw_cell_below hb3 s2
 have s3 := pw_cell_below hb3 s3
 have B3 := Aside0.mk (below_step B2.out hb3)
 have D3 := Aside0.mk (D2.out.below hb3)
 clear hb3
 go_wp2_with fail
 refine (HN.out _ ad).mono ?_
 rintro e w4 ⟨g, rfl, he, hb4, hg⟩
 have F4 := Aside0.mk (DicF.of D3.out hb4 hg)
 have E4 := Aside0.mk he
 have B4 := Aside0.mk (below_step B3.out hb4)
 have G4 := Aside0.mk (Nat.le_trans B3.out.size hg)
 clear hb4 he hg
 go_wp2_with fail
 refine (HW.out _ g ad F4.out E4.out).mono ?_
 rintro x w5 ⟨rfl, he5, hm5⟩
 have E5 := Aside0.mk he5
 have M5 := Aside0.mk hm5
 have F5 := Aside0.mk (F4.out.step hm5)
 clear he5 hm5
 go_wp2_with fail
 refine (HCL.out _ g ad F5.out E5.out).mono ?_
 rintro x w6 ⟨rfl, he6, hm6⟩
 obtain ⟨EZ, hEZ⟩ : ∃ EZ : En, EZ = { eNew p q k wd with begun := true, held := ⟨#[]⟩, written := (eNew p q k wd).written + b.size, closed := true } := ⟨_, rfl⟩
 have hz1 : EZ.closed = true := by rw [hEZ]
 have hz2 : EZ.written = b.size := by rw [hEZ]; exact Nat.zero_add _
 have hz3 : EZ.held = ⟨#[]⟩ := by rw [hEZ]
 have E6 : Aside0 (EncAt w6 g (.pointer (some ad)) EZ) := ⟨by rw [hEZ]; exact he6⟩
 have B6 := Aside0.mk ((M5.out.trans hm6).low B4.out G4.out)
 have HWC : Aside0 (∀ W : World, EncAt W g (.pointer (some ad)) EZ → Calls Tryz.prog 53 #[.pointer (some ⟨g, 0, none⟩), .string more] W fun x w' => x = .returned (.tuple #[.string ⟨#[]⟩, .iface 152 (.agg #[.int .i64 11, .int .i64 (b.size : Int)])]) ∧ W = w') := ⟨fun W h => by
  have := write_closed h rfl hz1 more
  rw [hz2] at this
  exact this⟩
 have HFC : Aside0 (∀ W : World, EncAt W g (.pointer (some ad)) EZ → Calls Tryz.prog 54 #[.pointer (some ⟨g, 0, none⟩)] W fun x w' => x = .returned (.tuple #[.string ⟨#[]⟩, .iface 152 (.agg #[.int .i64 11, .int .i64 (b.size : Int)])]) ∧ W = w') := ⟨fun W h => by
  have := flush_closed h rfl hz1
  rw [hz2] at this
  exact this⟩
 have HCC : Aside0 (∀ W : World, EncAt W g (.pointer (some ad)) EZ → Calls Tryz.prog 55 #[.pointer (some ⟨g, 0, none⟩)] W fun x w' => x = .returned (.tuple #[.string ⟨#[]⟩, .iface 152 (.agg #[.int .i64 11, .int .i64 (b.size : Int)])]) ∧ W = w') := ⟨fun W h => by
  have := close_closed h rfl hz1
  rw [hz2] at this
  exact this⟩
 have HHE : Aside0 (∀ W : World, EncAt W g (.pointer (some ad)) EZ → Calls Tryz.prog 56 #[.pointer (some ⟨g, 0, none⟩)] W fun x w' => x = .returned (.int .i64 0) ∧ Below W.heap.size W w') := ⟨fun W h => by
  have := eheld_new h
  rw [hz3] at this
  exact this⟩
 have HTC := Aside0.mk (fun W => told_closed (b.size : Int) W)
 have en : ((⟨#[]⟩ : ByteArray).toList.isEmpty) = true := by decide +kernel
 clear he6 hm6 hEZ hz1 hz2 hz3 HW HCL HN
 go_wp2_with fail
 go_loopw [15] (fun v15 wr => ∃ j : Nat, v15 = .int .i64 (j : Int) ∧ Aside0 (j ≤ n) ∧ Aside0 (EncAt wr g (.pointer (some ad)) EZ) ∧ Aside0 (Below w.heap.size w wr)) (fun v15 _ => n - (intOf v15).toNat)
 case atStart => exact ⟨0, rfl, ⟨Nat.zero_le _⟩, E6, B6⟩
 case round =>
  obtain ⟨j, rfl, HJ, HE, HB⟩ := hrel
  by_cases hjn : j < n
  ·have d1 : decide ((j : Int) < (n : Int)) = true := decide_eq_true (by omega)
   have d2 : decide (j < n) = true := decide_eq_true hjn
   have zj : (j : Int) ≤ 10 := by omega
   have HJN := Aside0.mk hjn
   clear hjn
   rcases (show j % 3 = 0 ∨ j % 3 = 1 ∨ j % 3 = 2 by omega) with h3 | h3 | h3
   ·have m0 : ((j : Int) % 3 == 0) = true := beq_iff_eq.2 (by omega)
    have m1 : (j : Int) % 3 = 0 := by omega
    clear h3
    go_wp2_with fail
    refine (HWC.out _ HE.out).mono ?_
    rintro x w7 ⟨rfl, rfl⟩
    go_wp2_with fail
    refine (HTC.out _).mono ?_
    rintro x w8 ⟨rfl, hb8⟩
    have E8 := Aside0.mk (HE.out.below hb8)
    have B8 := Aside0.mk (below_step HB.out hb8)
    clear hb8
    go_wp2_with fail
    refine (HHE.out _ E8.out).mono ?_
    rintro x w9 ⟨rfl, hb9⟩
    have E9 := Aside0.mk (E8.out.below hb9)
    have B9 := Aside0.mk (below_step B8.out hb9)
    clear hb9
    go_wp2_with fail
    go_roundw
    case rel => exact ⟨j + 1, rfl, ⟨HJN.out⟩, E9, B9⟩
    case measure =>
     have h1 := HJN.out
     show n - ((j : Int) + 1).toNat < n - (j : Int).toNat
     omega
   ·have m0 : ((j : Int) % 3 == 0) = false := beq_eq_false_iff_ne.2 (by omega)
    have m1 : ((j : Int) % 3 == 1) = true := beq_iff_eq.2 (by omega)
    have m2 : (j : Int) % 3 = 1 := by omega
    clear h3
    go_wp2_with fail
    refine (HFC.out _ HE.out).mono ?_
    rintro x w7 ⟨rfl, rfl⟩
    go_wp2_with fail
    refine (HTC.out _).mono ?_
    rintro x w8 ⟨rfl, hb8⟩
    have E8 := Aside0.mk (HE.out.below hb8)
    have B8 := Aside0.mk (below_step HB.out hb8)
    clear hb8
    go_wp2_with fail
    refine (HHE.out _ E8.out).mono ?_
    rintro x w9 ⟨rfl, hb9⟩
    have E9 := Aside0.mk (E8.out.below hb9)
    have B9 := Aside0.mk (below_step B8.out hb9)
    clear hb9
    go_wp2_with fail
    go_roundw
    case rel => exact ⟨j + 1, rfl, ⟨HJN.out⟩, E9, B9⟩
    case measure =>
     have h1 := HJN.out
     show n - ((j : Int) + 1).toNat < n - (j : Int).toNat
     omega
   ·have m0 : ((j : Int) % 3 == 0) = false := beq_eq_false_iff_ne.2 (by omega)
    have m1 : ((j : Int) % 3 == 1) = false := beq_eq_false_iff_ne.2 (by omega)
    have m2 : (j : Int) % 3 = 2 := by omega
    clear h3
    go_wp2_with fail
    refine (HCC.out _ HE.out).mono ?_
    rintro x w7 ⟨rfl, rfl⟩
    go_wp2_with fail
    refine (HTC.out _).mono ?_
    rintro x w8 ⟨rfl, hb8⟩
    have E8 := Aside0.mk (HE.out.below hb8)
    have B8 := Aside0.mk (below_step HB.out hb8)
    clear hb8
    go_wp2_with fail
    refine (HHE.out _ E8.out).mono ?_
    rintro x w9 ⟨rfl, hb9⟩
    have E9 := Aside0.mk (E8.out.below hb9)
    have B9 := Aside0.mk (below_step B8.out hb9)
    clear hb9
    go_wp2_with fail
    go_roundw
    case rel => exact ⟨j + 1, rfl, ⟨HJN.out⟩, E9, B9⟩
    case measure =>
     have h1 := HJN.out
     show n - ((j : Int) + 1).toNat < n - (j : Int).toNat
     omega
  ·have hje : j = n := by have := HJ.out; omega
   subst hje
   have d1 : decide ((j : Int) < (j : Int)) = false := decide_eq_false (by omega)
   clear hjn
   go_wp2_with fail
   go_ret
   exact ⟨rfl, HB.out⟩
theorem coderClosed_law (A : Option Addr) (c : Nat) (l : List ByteArray) (p q k wd : Int) (b more : ByteArray) (n : Int) (w : World) (hr : StrsIn w A l) (hc : l.length ≤ c) (h16 : l.length * 16 ≤ 140737488351232) (hs : ∀ s ∈ l, s.size ≤ 140737488351232) (hb : b.size ≤ 140737488351232) (hm : more.size ≤ 140737488351232) (hn : (Lit.int .i64 n).wf = true) :
  Calls Tryz.prog 11 #[.slice A l.length c, .agg #[.int .i64 p, .int .i64 q, .int .i64 k, .int .i64 wd], .string b, .string more, .int .i64 n] w fun e w' => e = .returned (.bool true) ∧ Below w.heap.size w w' := by
 have HRC := Aside0.mk (fun W => rconf_calls p q k wd W)
 have qs : wrap64 ((b.size : Int) + (more.size : Int)) = (b.size : Int) + (more.size : Int) := Bridge.wr (by omega) (by omega)
 have s0 : (w.alloc (.cells #[.int .i64 p, .int .i64 q, .int .i64 k, .int .i64 wd] 24)).cell? ⟨w.heap.size, 0, none⟩ = some (.int .i64 p) := by simp
 have s1 : (w.alloc (.cells #[.int .i64 p, .int .i64 q, .int .i64 k, .int .i64 wd] 24)).cell? ⟨w.heap.size, 1, none⟩ = some (.int .i64 q) := by simp
 have s2 : (w.alloc (.cells #[.int .i64 p, .int .i64 q, .int .i64 k, .int .i64 wd] 24)).cell? ⟨w.heap.size, 2, none⟩ = some (.int .i64 k) := by simp
 have s3 : (w.alloc (.cells #[.int .i64 p, .int .i64 q, .int .i64 k, .int .i64 wd] 24)).cell? ⟨w.heap.size, 3, none⟩ = some (.int .i64 wd) := by simp
 have B0 := Aside0.mk ((Below.refl w.heap.size w).alloc (Nat.le_refl _) (.cells #[.int .i64 p, .int .i64 q, .int .i64 k, .int .i64 wd] 24))
 by_cases hG : Given l ⟨#[]⟩
 ·by_cases hC : cfgB p q k wd = true
  ·obtain ⟨hp, hq, hk, hwd⟩ : (0 ≤ p) ∧ (0 ≤ q ∧ q ≤ 1) ∧ (1 ≤ k ∧ k ≤ 1024) ∧ 0 ≤ wd := by
    have hC := hC
    unfold cfgB at hC
    rw [decide_eq_true_iff] at hC
    omega
   obtain ⟨pn, rfl⟩ := Int.eq_ofNat_of_zero_le hp
   obtain ⟨qn, rfl⟩ := Int.eq_ofNat_of_zero_le hq.1
   obtain ⟨kn, rfl⟩ := Int.eq_ofNat_of_zero_le (show 0 ≤ k by omega)
   obtain ⟨wn, rfl⟩ := Int.eq_ofNat_of_zero_le hwd
   by_cases hf0 : (b.size : Int) + (more.size : Int) ≤ 500
   ·skip
    by_cases hf1 : (1 : Int) ≤ n
    ·skip
     by_cases hf2 : n ≤ (10 : Int)
     ·skip
      obtain ⟨m, rfl⟩ := Int.eq_ofNat_of_zero_le (show 0 ≤ n by omega)
      exact coderClosed_walk A c l pn qn kn wn b more m w hr hc h16 hs hG hC hf0 hf1 hf2
     ·have HD := Aside0.mk (fun (W : World) (hr : StrsIn W A l) => dict24_yes l W hr hc (by omega) hs hG)
      have HC := Aside0.mk hC
      have v0 : decide ((500 : Int) < (b.size : Int) + (more.size : Int)) = false := decide_eq_false (by omega)
      have v1 : decide (n < 1) = false := decide_eq_false (by omega)
      have v2 : decide (10 < n) = true := decide_eq_true (by omega)
      clear hp hq hk hwd hC hG hs h16 hc
      clear hf0 hf1 hf2
      have HAL := Aside0.mk (fun W => alive24_any W)
      have HR := Aside0.mk hr
      clear hr
      go_enter Tryz.func11, Tryz.ntmps11
      go_wp2_with fail
      refine (HD.out _ (Kd.C_below HR.out B0.out)).mono ?_
      rintro e w1 ⟨ad, rfl, hd, hb1⟩
      have s0 := pw_cell_below hb1 s0
      have s1 := pw_cell_below hb1 s1
      have s2 := pw_cell_below hb1 s2
      have s3 := pw_cell_below hb1 s3
      have B1 := Aside0.mk (below_step B0.out hb1)
      have D1 := Aside0.mk hd
      clear hb1 hd
      go_wp2_with fail
      refine (HRC.out _).mono ?_
      rw [HC.out]
      rintro e w2 ⟨rfl, hb2⟩
      have s0 := pw_cell_below hb2 s0
      have s1 := pw_cell_below hb2 s1
      have s2 := pw_cell_below hb2 s2
      have s3 := pw_cell_below hb2 s3
      have B2 := Aside0.mk (below_step B1.out hb2)
      have D2 := Aside0.mk (D1.out.below hb2)
      clear hb2
      go_wp2_with fail
      refine (HAL.out _).mono ?_
      rintro e w3 ⟨rfl, hb3⟩
      have s0 := pw_cell_below hb3 s0
      have s1 := pw_cell_below hb3 s1
      have s2 := pw_cell_below hb3 s2
      have s3 := pw_cell_below hb3 s3
      have B3 := Aside0.mk (below_step B2.out hb3)
      have D3 := Aside0.mk (D2.out.below hb3)
      clear hb3
      go_wp2_with fail
      go_ret
      exact ⟨rfl, B3.out⟩
    ·have HD := Aside0.mk (fun (W : World) (hr : StrsIn W A l) => dict24_yes l W hr hc (by omega) hs hG)
     have HC := Aside0.mk hC
     have v0 : decide ((500 : Int) < (b.size : Int) + (more.size : Int)) = false := decide_eq_false (by omega)
     have v1 : decide (n < 1) = true := decide_eq_true (by omega)
     clear hp hq hk hwd hC hG hs h16 hc
     clear hf0 hf1
     have HAL := Aside0.mk (fun W => alive24_any W)
     have HR := Aside0.mk hr
     clear hr
     go_enter Tryz.func11, Tryz.ntmps11
     go_wp2_with fail
     refine (HD.out _ (Kd.C_below HR.out B0.out)).mono ?_
     rintro e w1 ⟨ad, rfl, hd, hb1⟩
     have s0 := pw_cell_below hb1 s0
     have s1 := pw_cell_below hb1 s1
     have s2 := pw_cell_below hb1 s2
     have s3 := pw_cell_below hb1 s3
     have B1 := Aside0.mk (below_step B0.out hb1)
     have D1 := Aside0.mk hd
     clear hb1 hd
     go_wp2_with fail
     refine (HRC.out _).mono ?_
     rw [HC.out]
     rintro e w2 ⟨rfl, hb2⟩
     have s0 := pw_cell_below hb2 s0
     have s1 := pw_cell_below hb2 s1
     have s2 := pw_cell_below hb2 s2
     have s3 := pw_cell_below hb2 s3
     have B2 := Aside0.mk (below_step B1.out hb2)
     have D2 := Aside0.mk (D1.out.below hb2)
     clear hb2
     go_wp2_with fail
     refine (HAL.out _).mono ?_
     rintro e w3 ⟨rfl, hb3⟩
     have s0 := pw_cell_below hb3 s0
     have s1 := pw_cell_below hb3 s1
     have s2 := pw_cell_below hb3 s2
     have s3 := pw_cell_below hb3 s3
     have B3 := Aside0.mk (below_step B2.out hb3)
     have D3 := Aside0.mk (D2.out.below hb3)
     clear hb3
     go_wp2_with fail
     go_ret
     exact ⟨rfl, B3.out⟩
   ·have HD := Aside0.mk (fun (W : World) (hr : StrsIn W A l) => dict24_yes l W hr hc (by omega) hs hG)
    have HC := Aside0.mk hC
    have v0 : decide ((500 : Int) < (b.size : Int) + (more.size : Int)) = true := decide_eq_true (by omega)
    clear hp hq hk hwd hC hG hs h16 hc
    clear hf0
    have HAL := Aside0.mk (fun W => alive24_any W)
    have HR := Aside0.mk hr
    clear hr
    go_enter Tryz.func11, Tryz.ntmps11
    go_wp2_with fail
    refine (HD.out _ (Kd.C_below HR.out B0.out)).mono ?_
    rintro e w1 ⟨ad, rfl, hd, hb1⟩
    have s0 := pw_cell_below hb1 s0
    have s1 := pw_cell_below hb1 s1
    have s2 := pw_cell_below hb1 s2
    have s3 := pw_cell_below hb1 s3
    have B1 := Aside0.mk (below_step B0.out hb1)
    have D1 := Aside0.mk hd
    clear hb1 hd
    go_wp2_with fail
    refine (HRC.out _).mono ?_
    rw [HC.out]
    rintro e w2 ⟨rfl, hb2⟩
    have s0 := pw_cell_below hb2 s0
    have s1 := pw_cell_below hb2 s1
    have s2 := pw_cell_below hb2 s2
    have s3 := pw_cell_below hb2 s3
    have B2 := Aside0.mk (below_step B1.out hb2)
    have D2 := Aside0.mk (D1.out.below hb2)
    clear hb2
    go_wp2_with fail
    refine (HAL.out _).mono ?_
    rintro e w3 ⟨rfl, hb3⟩
    have s0 := pw_cell_below hb3 s0
    have s1 := pw_cell_below hb3 s1
    have s2 := pw_cell_below hb3 s2
    have s3 := pw_cell_below hb3 s3
    have B3 := Aside0.mk (below_step B2.out hb3)
    have D3 := Aside0.mk (D2.out.below hb3)
    clear hb3
    go_wp2_with fail
    go_ret
    exact ⟨rfl, B3.out⟩
  ·have HD := Aside0.mk (fun (W : World) (hr : StrsIn W A l) => dict24_yes l W hr hc (by omega) hs hG)
   have HC := Aside0.mk (Bool.eq_false_iff.2 hC)
   clear hC hG hs h16 hc
   have HAL := Aside0.mk (fun W => alive24_any W)
   have HR := Aside0.mk hr
   clear hr
   go_enter Tryz.func11, Tryz.ntmps11
   go_wp2_with fail
   refine (HD.out _ (Kd.C_below HR.out B0.out)).mono ?_
   rintro e w1 ⟨ad, rfl, hd, hb1⟩
   have s0 := pw_cell_below hb1 s0
   have s1 := pw_cell_below hb1 s1
   have s2 := pw_cell_below hb1 s2
   have s3 := pw_cell_below hb1 s3
   have B1 := Aside0.mk (below_step B0.out hb1)
   have D1 := Aside0.mk hd
   clear hb1 hd
   go_wp2_with fail
   refine (HRC.out _).mono ?_
   rw [HC.out]
   rintro e w2 ⟨rfl, hb2⟩
   have s0 := pw_cell_below hb2 s0
   have s1 := pw_cell_below hb2 s1
   have s2 := pw_cell_below hb2 s2
   have s3 := pw_cell_below hb2 s3
   have B2 := Aside0.mk (below_step B1.out hb2)
   have D2 := Aside0.mk (D1.out.below hb2)
   clear hb2
   go_wp2_with fail
   refine (HAL.out _).mono ?_
   rintro e w3 ⟨rfl, hb3⟩
   have s0 := pw_cell_below hb3 s0
   have s1 := pw_cell_below hb3 s1
   have s2 := pw_cell_below hb3 s2
   have s3 := pw_cell_below hb3 s3
   have B3 := Aside0.mk (below_step B2.out hb3)
   have D3 := Aside0.mk (D2.out.below hb3)
   clear hb3
   go_wp2_with fail
   go_ret
   exact ⟨rfl, B3.out⟩
 ·have HD := Aside0.mk (fun (W : World) (hr : StrsIn W A l) => dict24_no l W hr hc (by omega) hs hG)
  clear hG hs h16 hc
  have HAL := Aside0.mk (fun W => alive24_any W)
  have HR := Aside0.mk hr
  clear hr
  go_enter Tryz.func11, Tryz.ntmps11
  go_wp2_with fail
  refine (HD.out _ (Kd.C_below HR.out B0.out)).mono ?_
  rintro e w1 ⟨rfl, hb1⟩
  have B1 := Aside0.mk (below_step B0.out hb1)
  clear hb1
  go_wp2_with fail
  refine (HAL.out _).mono ?_
  rintro e w3 ⟨rfl, hb3⟩
  have B3 := Aside0.mk (below_step B1.out hb3)
  clear hb3
  go_wp2_with fail
  go_ret
  exact ⟨rfl, B3.out⟩
end Go.Proofs.YtepgkimlmoikmaaGreat
