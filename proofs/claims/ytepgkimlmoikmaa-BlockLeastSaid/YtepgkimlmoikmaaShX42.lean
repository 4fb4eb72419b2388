/- ShX: a part of its proof (contracts of the functions that it reaches, and the plain mathematics behind them). -/
import Derived.Test.YtepgkimlmoikmaaShX41
set_option linter.unusedVariables false
set_option linter.unusedSimpArgs false
set_option linter.unusedVariables false
set_option linter.unusedSimpArgs false
namespace Go.Proofs.Ytepgkimlmoikmaa
open Go.RowKit Go.Proofs.Ytepgkimlmoikmaa.Spec Go.Proofs.YtepgkimlmoikmaaW.PrintWords Go.Proofs.YtepgkimlmoikmaaW.PrintLast
open Go.Proofs.YtepgkimlmoikmaaW.PrintMore
attribute [local go_sem ↓] Go.wp_at_zero Go.wp_at_succ
attribute [local go_sem] max2_int min2_int max_two min_two
set_option maxHeartbeats 2000000 in
set_option maxRecDepth 100000 in
theorem blockLeast_walk (A : Option Addr) (c : Nat) (l : List ByteArray) (p q k wd : Int) (b : ByteArray)  (w : World) (hr : StrsIn w A l) (hc : l.length ≤ c) (h16 : l.length * 16 ≤ 140737488351232) (hs : ∀ s ∈ l, s.size ≤ 140737488351232) (hG : Given l b) (hC : cfgB p q k wd = true) (hf0 : 1 ≤ b.size) (hf1 : (b.size : Int) ≤ k) :
  Calls Try.prog 4 #[.slice A l.length c, .agg #[.int .i64 p, .int .i64 q, .int .i64 k, .int .i64 wd], .string b] w fun e w' => e = .returned (.bool true) ∧ Below w.heap.size w w' := by
 have HAL := Aside0.mk (fun W => alive22 W)
 have HRC := Aside0.mk (fun W => rconf_calls p q k wd W)
 have HR := Aside0.mk hr
 have s0 : (w.alloc (.cells #[.int .i64 p, .int .i64 q, .int .i64 k, .int .i64 wd] 23)).cell? ⟨w.heap.size, 0, none⟩ = some (.int .i64 p) := by simp
 have s1 : (w.alloc (.cells #[.int .i64 p, .int .i64 q, .int .i64 k, .int .i64 wd] 23)).cell? ⟨w.heap.size, 1, none⟩ = some (.int .i64 q) := by simp
 have s2 : (w.alloc (.cells #[.int .i64 p, .int .i64 q, .int .i64 k, .int .i64 wd] 23)).cell? ⟨w.heap.size, 2, none⟩ = some (.int .i64 k) := by simp
 have s3 : (w.alloc (.cells #[.int .i64 p, .int .i64 q, .int .i64 k, .int .i64 wd] 23)).cell? ⟨w.heap.size, 3, none⟩ = some (.int .i64 wd) := by simp
 have B0 := Aside0.mk ((Below.refl w.heap.size w).alloc (Nat.le_refl _) (.cells #[.int .i64 p, .int .i64 q, .int .i64 k, .int .i64 wd] 23))
 have HD := Aside0.mk (fun (W : World) (hr : StrsIn W A l) => dict13_yes l b W hr hc (by omega) hs hG)
 obtain ⟨hl, hss⟩ := phrases_sizes hG.2.2
 obtain ⟨hq, hk2, hw1⟩ := cfgB_q hC
 have HC := Aside0.mk hC
 have v0 : b.toList.isEmpty = false := not_nil (by omega)
 have v1 : ¬ b.toList = [] := nil_n2 (by omega)
 have v2 : decide (k < (b.size : Int)) = false := decide_eq_false (by omega)
 have HT := Aside0.mk (fun (W : World) (ad : Addr) (h : DictN W (.pointer (some ad)) l) => tokens_yes h (by omega) hss p q k wd hC b hf0 hf1)
 obtain ⟨t1, t2, t3, t4⟩ := toks_ok (by omega) hss p hw1 b (by omega)
 have HP := Aside0.mk (fun (W : World) (ad : Addr) (h : DictN W (.pointer (some ad)) l) => put_any h hl hss p q k wd hC b hf0 hf1)
 have HL := Aside0.mk (fun (W : World) (ad : Addr) (h : DictN W (.pointer (some ad)) l) (A : Option Addr) (c : Nat) (hr : IntsIn W A (toks l p wd.toNat b)) (hc : (toks l p wd.toNat b).length ≤ c) => lay_any hq (toks l p wd.toNat b) h hl hss hr hc (by omega) (t4 hf0) t2)
 have hput : (putR l p q wd.toNat b = (2, layR l q (toks l p wd.toNat b)) ∧ (layR l q (toks l p wd.toNat b)).size < b.size) ∨ (putR l p q wd.toNat b = (1, b) ∧ ¬ (layR l q (toks l p wd.toNat b)).size < b.size) := by
  unfold putR
  split
  ·rename_i h; exact .inl ⟨rfl, h⟩
  ·rename_i h; exact .inr ⟨rfl, h⟩
 generalize layR l q (toks l p wd.toNat b) = Y at *
 generalize toks l p wd.toNat b = tk at *
 generalize putR l p q wd.toNat b = R at *
 clear hl hss hq hk2 hw1 t1 t2 t3 t4 hC hf0 hf1
 clear hr hc h16 hs hG
 go_enter Try.func4, Try.ntmps4
 go_wp2_with fail
 refine (HD.out _ (Kd.C_below HR.out B0.out)).mono ?_
 rintro e w1 ⟨ad, rfl, hd, hb1⟩
 have s0 := pw_cell_below hb1 s0
 have s1 := pw_cell_below hb1 s1
 have s2 := pw_cell_below hb1 s2
 have s3 := pw_cell_below hb1 s3
 have B1 := Aside0.mk (below_step B0.out hb1)
 have D1 := Aside0.mk hd
 clear hb1 hd
 go_wp2_with fail
 refine (HRC.out _).mono ?_
 rw [HC.out]
 rintro e w2 ⟨rfl, hb2⟩
 have s0 := pw_cell_below hb2 s0
 have s1 := pw_cell_below hb2 s1
 have s2 := pw_cell_below hb2 s2
 have s3 := pw_cell_below hb2 s3
 have B2 := Aside0.mk (below_step B1.out hb2)
 have D2 := Aside0.mk (D1.out.below hb2)
 clear hb2
 go_wp2_with fail
 refine (HAL.out _).mono ?_
 rintro e w3 ⟨rfl, hb3⟩
 have s0 := pw_cell_below hb3 s0
 have s1 := pw_cell_below hb3 s1
 have s2 := pw_cell_below hb3 s2
 have s3 := pw_cell_below hb3 s3
 have B3 := Aside0.mk (below_step B2.out hb3)
 have D3 := Aside0.mk (D2.out.below hb3)
 clear hb3
 rcases hput with ⟨rfl, hlt⟩ | ⟨rfl, hlt⟩
 ·have e1 : decide ((Y.size : Int) < (b.size : Int)) = true := decide_eq_true (by omega)
  have e2 : decide (Y.size < b.size) = true := decide_eq_true hlt
  have e3 : (Y.toList == Y.toList) = true := beq_self_eq_true _
  clear hlt
  go_wp2_with fail
  refine (HP.out _ _ D3.out).mono ?_
  rintro e w4 ⟨rfl, hb4⟩
  have s0 := pw_cell_below hb4 s0
  have s1 := pw_cell_below hb4 s1
  have s2 := pw_cell_below hb4 s2
  have s3 := pw_cell_below hb4 s3
  have B4 := Aside0.mk (below_step B3.out hb4)
  have D4 := Aside0.mk (D3.out.below hb4)
  clear hb4
  go_wp2_with fail
  refine (HT.out _ _ D4.out).mono ?_
  rintro e w5 ⟨A5, c5, rfl, hc5, hC5, hb5⟩
  have s0 := pw_cell_below hb5 s0
  have s1 := pw_cell_below hb5 s1
  have s2 := pw_cell_below hb5 s2
  have s3 := pw_cell_below hb5 s3
  have B5 := Aside0.mk (below_step B4.out hb5)
  have D5 := Aside0.mk (D4.out.below hb5)
  have I5 := Aside0.mk (And.intro hC5 hc5)
  clear hb5 hC5 hc5
  go_wp2_with fail
  refine (HL.out _ _ D5.out A5 c5 I5.out.1 I5.out.2).mono ?_
  rintro e w6 ⟨rfl, hb6⟩
  have B6 := Aside0.mk (below_step B5.out hb6)
  clear hb6
  go_wp2_with fail
  go_ret
  exact ⟨rfl, B6.out⟩
 ·have e1 : decide ((Y.size : Int) < (b.size : Int)) = false := decide_eq_false (by omega)
  have e2 : decide (Y.size < b.size) = false := decide_eq_false hlt
  have e3 : (b.toList == b.toList) = true := beq_self_eq_true _
  clear hlt
  go_wp2_with fail
  refine (HP.out _ _ D3.out).mono ?_
  rintro e w4 ⟨rfl, hb4⟩
  have s0 := pw_cell_below hb4 s0
  have s1 := pw_cell_below hb4 s1
  have s2 := pw_cell_below hb4 s2
  have s3 := pw_cell_below hb4 s3
  have B4 := Aside0.mk (below_step B3.out hb4)
  have D4 := Aside0.mk (D3.out.below hb4)
  clear hb4
  go_wp2_with fail
  refine (HT.out _ _ D4.out).mono ?_
  rintro e w5 ⟨A5, c5, rfl, hc5, hC5, hb5⟩
  have s0 := pw_cell_below hb5 s0
  have s1 := pw_cell_below hb5 s1
  have s2 := pw_cell_below hb5 s2
  have s3 := pw_cell_below hb5 s3
  have B5 := Aside0.mk (below_step B4.out hb5)
  have D5 := Aside0.mk (D4.out.below hb5)
  have I5 := Aside0.mk (And.intro hC5 hc5)
  clear hb5 hC5 hc5
  go_wp2_with fail
  refine (HL.out _ _ D5.out A5 c5 I5.out.1 I5.out.2).mono ?_
  rintro e w6 ⟨rfl, hb6⟩
  have B6 := Aside0.mk (below_step B5.out hb6)
  clear hb6
  go_wp2_with fail
  go_ret
  exact ⟨rfl, B6.out⟩
set_option maxHeartbeats 2000000 in
set_option maxRecDepth 100000 in
theorem blockLeast_law (A : Option Addr) (c : Nat) (l : List ByteArray) (p q k wd : Int) (b : ByteArray)  (w : World) (hr : StrsIn w A l) (hc : l.length ≤ c) (h16 : l.length * 16 ≤ 140737488351232) (hs : ∀ s ∈ l, s.size ≤ 140737488351232) (hb : b.size ≤ 140737488351232) :
  Calls Try.prog 4 #[.slice A l.length c, .agg #[.int .i64 p, .int .i64 q, .int .i64 k, .int .i64 wd], .string b] w fun e w' => e = .returned (.bool true) ∧ Below w.heap.size w w' := by
 have HAL := Aside0.mk (fun W => alive22 W)
 have HRC := Aside0.mk (fun W => rconf_calls p q k wd W)
 have HR := Aside0.mk hr
 have s0 : (w.alloc (.cells #[.int .i64 p, .int .i64 q, .int .i64 k, .int .i64 wd] 23)).cell? ⟨w.heap.size, 0, none⟩ = some (.int .i64 p) := by simp
 have s1 : (w.alloc (.cells #[.int .i64 p, .int .i64 q, .int .i64 k, .int .i64 wd] 23)).cell? ⟨w.heap.size, 1, none⟩ = some (.int .i64 q) := by simp
 have s2 : (w.alloc (.cells #[.int .i64 p, .int .i64 q, .int .i64 k, .int .i64 wd] 23)).cell? ⟨w.heap.size, 2, none⟩ = some (.int .i64 k) := by simp
 have s3 : (w.alloc (.cells #[.int .i64 p, .int .i64 q, .int .i64 k, .int .i64 wd] 23)).cell? ⟨w.heap.size, 3, none⟩ = some (.int .i64 wd) := by simp
 have B0 := Aside0.mk ((Below.refl w.heap.size w).alloc (Nat.le_refl _) (.cells #[.int .i64 p, .int .i64 q, .int .i64 k, .int .i64 wd] 23))
 by_cases hG : Given l b
 ·have HD := Aside0.mk (fun (W : World) (hr : StrsIn W A l) => dict13_yes l b W hr hc (by omega) hs hG)
  by_cases hf0 : 1 ≤ b.size
  ·skip
   by_cases hf1 : (b.size : Int) ≤ k
   ·skip
    by_cases hC : cfgB p q k wd = true
    ·skip
     exact blockLeast_walk A c l p q k wd b  w hr hc h16 hs hG hC hf0 hf1
    ·skip
     have v0 : b.toList.isEmpty = false := not_nil (by omega)
     have v1 : ¬ b.toList = [] := nil_n2 (by omega)
     have v2 : decide (k < (b.size : Int)) = false := decide_eq_false (by omega)
     have HC := Aside0.mk (Bool.eq_false_iff.2 hC)
     clear hG hs h16 hc hr
     go_enter Try.func4, Try.ntmps4
     go_wp2_with fail
     refine (HD.out _ (Kd.C_below HR.out B0.out)).mono ?_
     rintro e w1 ⟨ad, rfl, hd, hb1⟩
     have s0 := pw_cell_below hb1 s0
     have s1 := pw_cell_below hb1 s1
     have s2 := pw_cell_below hb1 s2
     have s3 := pw_cell_below hb1 s3
     have B1 := Aside0.mk (below_step B0.out hb1)
     have D1 := Aside0.mk hd
     clear hb1 hd
     go_wp2_with fail
     refine (HRC.out _).mono ?_
     rw [HC.out]
     rintro e w2 ⟨rfl, hb2⟩
     have s0 := pw_cell_below hb2 s0
     have s1 := pw_cell_below hb2 s1
     have s2 := pw_cell_below hb2 s2
     have s3 := pw_cell_below hb2 s3
     have B2 := Aside0.mk (below_step B1.out hb2)
     have D2 := Aside0.mk (D1.out.below hb2)
     clear hb2
     go_wp2_with fail
     refine (HAL.out _).mono ?_
     rintro e w3 ⟨rfl, hb3⟩
     have s0 := pw_cell_below hb3 s0
     have s1 := pw_cell_below hb3 s1
     have s2 := pw_cell_below hb3 s2
     have s3 := pw_cell_below hb3 s3
     have B3 := Aside0.mk (below_step B2.out hb3)
     have D3 := Aside0.mk (D2.out.below hb3)
     clear hb3
     go_wp2_with fail
     go_ret
     exact ⟨rfl, B3.out⟩
   ·skip
    have v0 : b.toList.isEmpty = false := not_nil (by omega)
    have v1 : ¬ b.toList = [] := nil_n2 (by omega)
    have v2 : decide (k < (b.size : Int)) = true := decide_eq_true (by omega)
    clear hG hs h16 hc hr
    go_enter Try.func4, Try.ntmps4
    go_wp2_with fail
    refine (HD.out _ (Kd.C_below HR.out B0.out)).mono ?_
    rintro e w1 ⟨ad, rfl, hd, hb1⟩
    have s0 := pw_cell_below hb1 s0
    have s1 := pw_cell_below hb1 s1
    have s2 := pw_cell_below hb1 s2
    have s3 := pw_cell_below hb1 s3
    have B1 := Aside0.mk (below_step B0.out hb1)
    have D1 := Aside0.mk hd
    clear hb1 hd
    have B2 := B1
    have D2 := D1
    go_wp2_with fail
    refine (HAL.out _).mono ?_
    rintro e w3 ⟨rfl, hb3⟩
    have s0 := pw_cell_below hb3 s0
    have s1 := pw_cell_below hb3 s1
    have s2 := pw_cell_below hb3 s2
    have s3 := pw_cell_below hb3 s3
    have B3 := Aside0.mk (below_step B2.out hb3)
    have D3 := Aside0.mk (D2.out.below hb3)
    clear hb3
    go_wp2_with fail
    go_ret
    exact ⟨rfl, B3.out⟩
  ·skip
   have v0 : b.toList.isEmpty = true := nil_y (by omega)
   have v1 : b.toList = [] := nil_y2 (by omega)
   clear hG hs h16 hc hr
   go_enter Try.func4, Try.ntmps4
   go_wp2_with fail
   refine (HD.out _ (Kd.C_below HR.out B0.out)).mono ?_
   rintro e w1 ⟨ad, rfl, hd, hb1⟩
   have s0 := pw_cell_below hb1 s0
   have s1 := pw_cell_below hb1 s1
   have s2 := pw_cell_below hb1 s2
   have s3 := pw_cell_below hb1 s3
   have B1 := Aside0.mk (below_step B0.out hb1)
   have D1 := Aside0.mk hd
   clear hb1 hd
   have B2 := B1
   have D2 := D1
   go_wp2_with fail
   refine (HAL.out _).mono ?_
   rintro e w3 ⟨rfl, hb3⟩
   have s0 := pw_cell_below hb3 s0
   have s1 := pw_cell_below hb3 s1
   have s2 := pw_cell_below hb3 s2
   have s3 := pw_cell_below hb3 s3
   have B3 := Aside0.mk (below_step B2.out hb3)
   have D3 := Aside0.mk (D2.out.below hb3)
   clear hb3
   go_wp2_with fail
   go_ret
   exact ⟨rfl, B3.out⟩
 ·have HD := Aside0.mk (fun (W : World) (hr : StrsIn W A l) => dict13_no l b W hr hc (by omega) hs hG)
  clear hG hs h16 hc hr
  go_enter Try.func4, Try.ntmps4
  go_wp2_with fail
  refine (HD.out _ (Kd.C_below HR.out B0.out)).mono ?_
  rintro e w1 ⟨rfl, hb1⟩
  have B1 := Aside0.mk (below_step B0.out hb1)
  clear hb1
  go_wp2_with fail
  refine (HAL.out _).mono ?_
  rintro e w3 ⟨rfl, hb3⟩
  have B3 := Aside0.mk (below_step B1.out hb3)
  clear hb3
  go_wp2_with fail
  go_ret
  exact ⟨rfl, B3.out⟩
end Go.Proofs.Ytepgkimlmoikmaa
