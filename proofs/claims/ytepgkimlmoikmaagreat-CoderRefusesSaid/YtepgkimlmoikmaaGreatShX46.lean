/- ShX: a part of its proof (contracts of the functions that it reaches, and the plain mathematics behind them). -/
import Derived.Test.YtepgkimlmoikmaaGreatShX25
import Derived.Test.YtepgkimlmoikmaaGreatShX26
import Derived.Test.YtepgkimlmoikmaaGreatShX45
set_option linter.unusedVariables false
set_option linter.unusedSimpArgs false
set_option linter.unusedVariables false
set_option linter.unusedSimpArgs false
namespace Go.Proofs.YtepgkimlmoikmaaGreat
open Go.RowKit Go.Proofs.YtepgkimlmoikmaaGreat.Spec Go.Proofs.YtepgkimlmoikmaaGreatW.PrintWords Go.Proofs.YtepgkimlmoikmaaGreatW.PrintLast
open Go.Proofs.YtepgkimlmoikmaaGreatW.PrintMore
attribute [local go_sem ↓] Go.wp_at_zero Go.wp_at_succ
attribute [local go_sem] max2_int min2_int max_two min_two
theorem encS_size {l : List ByteArray} {q k : Nat} {pay : ByteArray → Nat × ByteArray} (b : ByteArray) : 22 ≤ (encS l q k pay b).size := by
 rw [encS_is, ByteArray.size_append, ByteArray.size_append, headS_size, endS_size]
 omega
theorem eheld_new {w : World} {g : Nat} {P : Value} {e : En} (h : EncAt w g P e) : Calls Tryz.prog 56 #[.pointer (some ⟨g, 0, none⟩)] w fun x w' => x = .returned (.int .i64 (e.held.size : Int)) ∧ Below w.heap.size w w' := by
 have c5 := h.c5
 clear h
 go_enter Tryz.func56, Tryz.ntmps56
 go_wp2_with fail
 go_ret
 exact ⟨rfl, Below.refl _ _⟩
set_option maxHeartbeats 2000000 in
set_option maxRecDepth 100000 in
theorem coderRefuses_law (A : Option Addr) (c : Nat) (l : List ByteArray) (p q k wd : Int) (w : World) (hr : StrsIn w A l) (hc : l.length ≤ c) (h16 : l.length * 16 ≤ 140737488351232) (hs : ∀ s ∈ l, s.size ≤ 140737488351232) :
  Calls Tryz.prog 10 #[.slice A l.length c, .agg #[.int .i64 p, .int .i64 q, .int .i64 k, .int .i64 wd]] w fun e w' => e = .returned (.bool true) ∧ Below w.heap.size w w' := by
 have HAL := Aside0.mk (fun W => alive24_any W)
 have HRC := Aside0.mk (fun W => rconf_calls p q k wd W)
 have HR := Aside0.mk hr
 have s0 : (w.alloc (.cells #[.int .i64 p, .int .i64 q, .int .i64 k, .int .i64 wd] 24)).cell? ⟨w.heap.size, 0, none⟩ = some (.int .i64 p) := by simp
 have s1 : (w.alloc (.cells #[.int .i64 p, .int .i64 q, .int .i64 k, .int .i64 wd] 24)).cell? ⟨w.heap.size, 1, none⟩ = some (.int .i64 q) := by simp
 have s2 : (w.alloc (.cells #[.int .i64 p, .int .i64 q, .int .i64 k, .int .i64 wd] 24)).cell? ⟨w.heap.size, 2, none⟩ = some (.int .i64 k) := by simp
 have s3 : (w.alloc (.cells #[.int .i64 p, .int .i64 q, .int .i64 k, .int .i64 wd] 24)).cell? ⟨w.heap.size, 3, none⟩ = some (.int .i64 wd) := by simp
 have B0 := Aside0.mk ((Below.refl w.heap.size w).alloc (Nat.le_refl _) (.cells #[.int .i64 p, .int .i64 q, .int .i64 k, .int .i64 wd] 24))
 by_cases hG : Given l ⟨#[]⟩
 ·have HD := Aside0.mk (fun (W : World) (hr : StrsIn W A l) => dict24_yes l W hr hc (by omega) hs hG)
  obtain ⟨hl, hss⟩ := phrases_sizes hG.2.2
  clear hr hc h16 hs hG
  by_cases hC : cfgB p q k wd = true
  ·have HC := Aside0.mk hC
   obtain ⟨hp, hq, hk, hwd⟩ : (0 ≤ p) ∧ (0 ≤ q ∧ q ≤ 1) ∧ (1 ≤ k ∧ k ≤ 1024) ∧ 0 ≤ wd := by
    have hC := hC
    unfold cfgB at hC
    rw [decide_eq_true_iff] at hC
    omega
   obtain ⟨pn, rfl⟩ := Int.eq_ofNat_of_zero_le hp
   obtain ⟨qn, rfl⟩ := Int.eq_ofNat_of_zero_le hq.1
   obtain ⟨kn, rfl⟩ := Int.eq_ofNat_of_zero_le (show 0 ≤ k by omega)
   obtain ⟨wn, rfl⟩ := Int.eq_ofNat_of_zero_le hwd
   have HN := Aside0.mk (fun (W : World) (ad : Addr) => newenc_yes (P := .pointer (some ad)) rfl pn qn kn wn hC W)
   have HE := Aside0.mk (fun (W : World) (ad : Addr) (h : DictAt W (.pointer (some ad)) l) => encode_any h rfl hl hss hC (putOk hl hss hC (eNew pn qn kn wn) ⟨rfl, rfl, rfl, rfl⟩) ⟨#[97, 98, 99]⟩ (by decide))
   have hz := encS_size (l := l) (q := qn) (k := kn) (pay := putR l pn qn wn) ⟨#[97, 98, 99]⟩
   generalize encS l qn kn (putR l pn qn wn) ⟨#[97, 98, 99]⟩ = S at *
   have d1 : decide ((17 : Int) < (S.size : Int)) = true := decide_eq_true (by omega)
   have d2 : decide (17 < S.size) = true := decide_eq_true (by omega)
   clear hp hq hk hwd hC hss hl hz
   go_enter Tryz.func10, Tryz.ntmps10
   go_wp2_with fail
   refine (HD.out _ (Kd.C_below HR.out B0.out)).mono ?_
   rintro e w1 ⟨ad, rfl, hd, hb1⟩
   have s0 := pw_cell_below hb1 s0
   have s1 := pw_cell_below hb1 s1
   have s2 := pw_cell_below hb1 s2
   have s3 := pw_cell_below hb1 s3
   have B1 := Aside0.mk (below_step B0.out hb1)
   have D1 := Aside0.mk hd
   clear hb1 hd
   go_wp2_with fail
   refine (HAL.out _).mono ?_
   rintro e w3 ⟨rfl, hb3⟩
   have s0 := pw_cell_below hb3 s0
   have s1 := pw_cell_below hb3 s1
   have s2 := pw_cell_below hb3 s2
   have s3 := pw_cell_below hb3 s3
   have B3 := Aside0.mk (below_step B1.out hb3)
   have D3 := Aside0.mk (D1.out.below hb3)
   clear hb3
   go_wp2_with fail
   refine (HN.out _ ad).mono ?_
   rintro e w4 ⟨g, rfl, he, hb4, hg⟩
   have s0 := pw_cell_below hb4 s0
   have s1 := pw_cell_below hb4 s1
   have s2 := pw_cell_below hb4 s2
   have s3 := pw_cell_below hb4 s3
   have E4 := Aside0.mk he
   have D4 := Aside0.mk (D3.out.below hb4)
   have B4 := Aside0.mk (below_step B3.out hb4)
   clear hb4 he hg
   go_wp2_with fail
   refine (HE.out _ ad D4.out).mono ?_
   rintro e w5 ⟨rfl, hb5⟩
   have s0 := pw_cell_below hb5 s0
   have s1 := pw_cell_below hb5 s1
   have s2 := pw_cell_below hb5 s2
   have s3 := pw_cell_below hb5 s3
   have E5 := Aside0.mk (E4.out.below hb5)
   have B5 := Aside0.mk (below_step B4.out hb5)
   clear hb5
   go_wp2_with fail
   refine (HRC.out _).mono ?_
   rw [HC.out]
   rintro e w6 ⟨rfl, hb6⟩
   have E6 := Aside0.mk (E5.out.below hb6)
   have B6 := Aside0.mk (below_step B5.out hb6)
   clear hb6
   go_wp2_with fail
   refine (eheld_new E6.out).mono ?_
   rintro e w7 ⟨rfl, hb7⟩
   have B7 := Aside0.mk (below_step B6.out hb7)
   clear hb7
   go_wp2_with fail
   go_ret
   exact ⟨rfl, B7.out⟩
  ·have HC := Aside0.mk (Bool.eq_false_iff.2 hC)
   have hCf := Bool.eq_false_iff.2 hC
   have HN := Aside0.mk (fun (W : World) (ad : Addr) => newenc_no (P := .pointer (some ad)) p q k wd hCf rfl W)
   have HE := Aside0.mk (fun (W : World) (ad : Addr) => encode_no (w := W) (P := .pointer (some ad)) p q k wd hCf rfl ⟨#[97, 98, 99]⟩)
   clear hC hss hl hCf
   go_enter Tryz.func10, Tryz.ntmps10
   go_wp2_with fail
   refine (HD.out _ (Kd.C_below HR.out B0.out)).mono ?_
   rintro e w1 ⟨ad, rfl, hd, hb1⟩
   have s0 := pw_cell_below hb1 s0
   have s1 := pw_cell_below hb1 s1
   have s2 := pw_cell_below hb1 s2
   have s3 := pw_cell_below hb1 s3
   have B1 := Aside0.mk (below_step B0.out hb1)
   clear hb1 hd
   go_wp2_with fail
   refine (HAL.out _).mono ?_
   rintro e w3 ⟨rfl, hb3⟩
   have s0 := pw_cell_below hb3 s0
   have s1 := pw_cell_below hb3 s1
   have s2 := pw_cell_below hb3 s2
   have s3 := pw_cell_below hb3 s3
   have B3 := Aside0.mk (below_step B1.out hb3)
   clear hb3
   go_wp2_with fail
   refine (HN.out _ ad).mono ?_
   rintro e w4 ⟨rfl, hb4⟩
   have s0 := pw_cell_below hb4 s0
   have s1 := pw_cell_below hb4 s1
   have s2 := pw_cell_below hb4 s2
   have s3 := pw_cell_below hb4 s3
   have B4 := Aside0.mk (below_step B3.out hb4)
   clear hb4
   go_wp2_with fail
   refine (HE.out _ ad).mono ?_
   rintro e w5 ⟨rfl, hb5⟩
   have s0 := pw_cell_below hb5 s0
   have s1 := pw_cell_below hb5 s1
   have s2 := pw_cell_below hb5 s2
   have s3 := pw_cell_below hb5 s3
   have B5 := Aside0.mk (below_step B4.out hb5)
   clear hb5
   go_wp2_with fail
   refine (HRC.out _).mono ?_
   rw [HC.out]
   rintro e w6 ⟨rfl, hb6⟩
   have B6 := Aside0.mk (below_step B5.out hb6)
   clear hb6
   go_wp2_with fail
   refine (told24_any 1 0 1 0 _).mono ?_
   rintro e w7 ⟨rfl, hb7⟩
   have B7 := Aside0.mk (below_step B6.out hb7)
   clear hb7
   rw [show toldB 1 0 1 0 = true by decide]
   go_wp2_with fail
   refine (told24_any 1 0 1 0 _).mono ?_
   rintro e w8 ⟨rfl, hb8⟩
   have B8 := Aside0.mk (below_step B7.out hb8)
   clear hb8
   rw [show toldB 1 0 1 0 = true by decide]
   go_wp2_with fail
   go_ret
   exact ⟨rfl, B8.out⟩
 ·have HD := Aside0.mk (fun (W : World) (hr : StrsIn W A l) => dict24_no l W hr hc (by omega) hs hG)
  clear hr hc h16 hs hG
  go_enter Tryz.func10, Tryz.ntmps10
  go_wp2_with fail
  refine (HD.out _ (Kd.C_below HR.out B0.out)).mono ?_
  rintro e w1 ⟨rfl, hb1⟩
  have B1 := Aside0.mk (below_step B0.out hb1)
  clear hb1
  go_wp2_with fail
  refine (HAL.out _).mono ?_
  rintro e w3 ⟨rfl, hb3⟩
  have B3 := Aside0.mk (below_step B1.out hb3)
  clear hb3
  go_wp2_with fail
  go_ret
  exact ⟨rfl, B3.out⟩
end Go.Proofs.YtepgkimlmoikmaaGreat
