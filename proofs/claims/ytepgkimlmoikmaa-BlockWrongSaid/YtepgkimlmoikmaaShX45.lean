/- ShX: a part of its proof (contracts of the functions that it reaches, and the plain mathematics behind them). -/
import Derived.Test.YtepgkimlmoikmaaShX41
import Derived.Test.YtepgkimlmoikmaaShX35
set_option linter.unusedVariables false
set_option linter.unusedSimpArgs false
set_option linter.unusedVariables false
set_option linter.unusedSimpArgs false
namespace Go.Proofs.Ytepgkimlmoikmaa
open Go.RowKit Go.Proofs.Ytepgkimlmoikmaa.Spec Go.Proofs.YtepgkimlmoikmaaW.PrintWords Go.Proofs.YtepgkimlmoikmaaW.PrintLast
open Go.Proofs.YtepgkimlmoikmaaW.PrintMore
attribute [local go_sem ↓] Go.wp_at_zero Go.wp_at_succ
attribute [local go_sem] max2_int min2_int max_two min_two
theorem getR_range (l : List ByteArray) (q kd raw : Int) (pay : ByteArray) (h : raw < 1 ∨ 1024 < raw) : getR l q kd raw pay = (⟨#[]⟩, 1) := by
 unfold getR
 rw [if_pos (.inr (.inr (by omega)))]
theorem getR_stored (l : List ByteArray) {q raw : Int} (pay : ByteArray) (hq : q = 0 ∨ q = 1) (h : 1 ≤ raw ∧ raw ≤ 1024) (hne : (pay.size : Int) ≠ raw) : getR l q 1 raw pay = (⟨#[]⟩, 12) := by
 unfold getR
 rw [if_neg (by omega), if_neg (by decide), if_pos hne]
theorem getR_coded (l : List ByteArray) {q raw : Int} (pay : ByteArray) (hq : q = 0 ∨ q = 1) (h : 1 ≤ raw ∧ raw ≤ 1024) : getR l q 2 raw pay = meantR l q raw.toNat pay := by
 unfold getR
 rw [if_neg (by omega), if_pos rfl]
def WrongOk (q z : Int) (b : ByteArray) (kd : Int) (g : ByteArray × Int) : Prop :=
 (((b.size : Int) + z < 1 ∨ 1024 < (b.size : Int) + z) ∧ g = (⟨#[]⟩, 1)) ∨
 (¬ ((b.size : Int) + z < 1 ∨ 1024 < (b.size : Int) + z) ∧ ((kd = 1 ∧ g = (⟨#[]⟩, 12)) ∨ (kd = 2 ∧ q = 0 ∧ g.1 = ⟨#[]⟩ ∧ (0 < z ∧ g.2 = 2 ∨ ¬ 0 < z ∧ z < 0 ∧ (g.2 = 12 ∨ g.2 = 13))) ∨
  (kd = 2 ∧ q = 1 ∧ ((g.2 ≠ 0 ∧ g.1 = ⟨#[]⟩) ∨ (g.2 = 0 ∧ (g.1.size : Int) = (b.size : Int) + z ∧ g.1.extract 0 (min g.1.size b.size) = b.extract 0 (min g.1.size b.size))))))
theorem ext_pre (a t : ByteArray) (n : Nat) (h : n ≤ a.size) : (a ++ t).extract 0 n = a.extract 0 n := by
 apply u_inj
 rw [u_cut, u_cut, u_app, List.drop_zero, List.drop_zero, List.take_append_of_le_length (by rw [u_size]; omega)]
theorem wrong_ok {l : List ByteArray} (hl : l.length ≤ 100) (hs : ∀ s ∈ l, 1 ≤ s.size ∧ s.size ≤ 40) (p : Int) {q : Int} (hq : q = 0 ∨ q = 1) {wd : Nat} (hw : 1 ≤ wd) {b : ByteArray} (h1 : 1 ≤ b.size) (hb : b.size ≤ 1024) {z : Int} (hz : z ≠ 0) : WrongOk q z b (putR l p q wd b).1 (getR l q (putR l p q wd b).1 ((b.size : Int) + z) (putR l p q wd b).2) := by
 by_cases hr : (b.size : Int) + z < 1 ∨ 1024 < (b.size : Int) + z
 ·exact .inl ⟨hr, getR_range _ _ _ _ _ hr⟩
 ·refine .inr ⟨hr, ?_⟩
  obtain ⟨t1, t2, t3, t4⟩ := toks_ok (by omega) hs p hw b (by omega)
  unfold putR
  split
  ·have hg := getR_coded l (layR l q (toks l p wd b)) hq (raw := (b.size : Int) + z) (by omega)
   have ho := meantR_other hl hs hq t2 (t4 h1) (raw := ((b.size : Int) + z).toNat) (by rw [t1]; omega)
   rw [t1] at ho
   obtain ⟨o1, o2⟩ := ho
   show (((2 : Nat) : Int) = 1 ∧ _) ∨ (((2 : Nat) : Int) = 2 ∧ _) ∨ (((2 : Nat) : Int) = 2 ∧ _)
   rw [show getR l q ((2 : Nat) : Int) ((b.size : Int) + z) (layR l q (toks l p wd b)) = _ from hg]
   generalize meantR l q ((b.size : Int) + z).toNat (layR l q (toks l p wd b)) = g at *
   rcases hq with hq | hq
   ·obtain ⟨a1, a2, a3⟩ := o1 hq
    refine .inr (.inl ⟨rfl, hq, a1, ?_⟩)
    by_cases hp : 0 < z
    ·exact .inl ⟨hp, a2 (by omega)⟩
    ·exact .inr ⟨hp, by omega, a3 (by omega)⟩
   ·refine .inr (.inr ⟨rfl, hq, ?_⟩)
    rcases o2 with h | ⟨h3, h4, h5⟩
    ·exact .inl h
    ·refine .inr ⟨h3, by omega, ?_⟩
     rcases h5 with ⟨t, ht⟩ | ⟨t, ht⟩
     ·rw [ht]
      exact ext_pre b t _ (by omega)
     ·have h6 := ext_pre g.1 t (min g.1.size b.size) (by omega)
      rw [← ht] at h6
      exact h6.symm
  ·exact .inl ⟨rfl, getR_stored l b hq (by omega) (by omega)⟩
set_option maxHeartbeats 2000000 in
set_option maxRecDepth 100000 in
theorem blockWrong_walk (A : Option Addr) (c : Nat) (l : List ByteArray) (p q k wd : Int) (b : ByteArray) (z : Int) (w : World) (hr : StrsIn w A l) (hc : l.length ≤ c) (h16 : l.length * 16 ≤ 140737488351232) (hs : ∀ s ∈ l, s.size ≤ 140737488351232) (hG : Given l b) (hC : cfgB p q k wd = true) (hf0 : 2 ≤ b.size) (hf1 : b.size ≤ 300) (hf2 : z ≠ 0) (hf3 : z ≤ 500) (hf4 : -500 ≤ z) (hf5 : (b.size : Int) ≤ k) :
  Calls Try.prog 6 #[.slice A l.length c, .agg #[.int .i64 p, .int .i64 q, .int .i64 k, .int .i64 wd], .string b, .int .i64 z] w fun e w' => e = .returned (.bool true) ∧ Below w.heap.size w w' := by
 have HAL := Aside0.mk (fun W => alive22 W)
 have HRC := Aside0.mk (fun W => rconf_calls p q k wd W)
 have HR := Aside0.mk hr
 have s0 : (w.alloc (.cells #[.int .i64 p, .int .i64 q, .int .i64 k, .int .i64 wd] 23)).cell? ⟨w.heap.size, 0, none⟩ = some (.int .i64 p) := by simp
 have s1 : (w.alloc (.cells #[.int .i64 p, .int .i64 q, .int .i64 k, .int .i64 wd] 23)).cell? ⟨w.heap.size, 1, none⟩ = some (.int .i64 q) := by simp
 have s2 : (w.alloc (.cells #[.int .i64 p, .int .i64 q, .int .i64 k, .int .i64 wd] 23)).cell? ⟨w.heap.size, 2, none⟩ = some (.int .i64 k) := by simp
 have s3 : (w.alloc (.cells #[.int .i64 p, .int .i64 q, .int .i64 k, .int .i64 wd] 23)).cell? ⟨w.heap.size, 3, none⟩ = some (.int .i64 wd) := by simp
 have B0 := Aside0.mk ((Below.refl w.heap.size w).alloc (Nat.le_refl _) (.cells #[.int .i64 p, .int .i64 q, .int .i64 k, .int .i64 wd] 23))
 have HD := Aside0.mk (fun (W : World) (hr : StrsIn W A l) => dict13_yes l b W hr hc (by omega) hs hG)
 obtain ⟨hl, hss⟩ := phrases_sizes hG.2.2
 obtain ⟨hq, hk2, hw1⟩ := cfgB_q hC
 have HC := Aside0.mk hC
 have v0 : decide ((b.size : Int) < 2) = false := decide_eq_false (by omega)
 have v1 : decide (b.size < 2) = false := decide_eq_false (by omega)
 have v2 : decide ((300 : Int) < (b.size : Int)) = false := decide_eq_false (by omega)
 have v3 : decide (300 < b.size) = false := decide_eq_false (by omega)
 have v4 : (z == (0 : Int)) = false := beq_eq_false_iff_ne.2 (by omega)
 have v5 : decide (500 < z) = false := decide_eq_false (by omega)
 have v6 : decide (z < -500) = false := decide_eq_false (by omega)
 have v7 : decide (k < (b.size : Int)) = false := decide_eq_false (by omega)
 have HP := Aside0.mk (fun (W : World) (ad : Addr) (h : DictN W (.pointer (some ad)) l) => put_any h hl hss p q k wd hC b (by omega) hf5)
 have hw := wrong_ok hl hss p hq hw1 (b := b) (by omega) (by omega) (z := z) hf2
 have hps : (putR l p q wd.toNat b).2.size ≤ 100000 := by rcases putR_small l p q wd.toNat b with ⟨_, h⟩ | ⟨_, h⟩ <;> (try rw [h]) <;> omega
 have HGT := Aside0.mk (fun (W : World) (ad : Addr) (h : DictN W (.pointer (some ad)) l) => get_any (how := q) (kind := (putR l p q wd.toNat b).1) (raw := (b.size : Int) + z) h hl hss hps)
 generalize putR l p q wd.toNat b = R at *
 obtain ⟨kd, py⟩ := R
 dsimp only at hw HGT HP
 generalize getR l q kd ((b.size : Int) + z) py = G at *
 obtain ⟨gs, ge⟩ := G
 dsimp only at HGT
 have hb2 : (b.size : Int) ≤ 300 := by omega
 have qz : wrap64 ((b.size : Int) + z) = (b.size : Int) + z := Bridge.wr (by omega) (by omega)
 have qz2 : IntKind.i64.wrap ((b.size : Int) + z) = (b.size : Int) + z := IntWalk.i64_in _ (by omega)
 clear hl hss hk2 hw1 hps hC
 clear hr hc h16 hs hG
 go_enter Try.func6, Try.ntmps6
 go_wp2_with fail
 refine (HD.out _ (Kd.C_below HR.out B0.out)).mono ?_
 rintro e w1 ⟨ad, rfl, hd, hb1⟩
 have s0 := pw_cell_below hb1 s0
 have s1 := pw_cell_below hb1 s1
 have s2 := pw_cell_below hb1 s2
 have s3 := pw_cell_below hb1 s3
 have B1 := Aside0.mk (below_step B0.out hb1)
 have D1 := Aside0.mk hd
 clear hb1 hd
 go_wp2_with fail
 refine (HRC.out _).mono ?_
 rw [HC.out]
 rintro e w2 ⟨rfl, hb2⟩
 have s0 := pw_cell_below hb2 s0
 have s1 := pw_cell_below hb2 s1
 have s2 := pw_cell_below hb2 s2
 have s3 := pw_cell_below hb2 s3
 have B2 := Aside0.mk (below_step B1.out hb2)
 have D2 := Aside0.mk (D1.out.below hb2)
 clear hb2
 go_wp2_with fail
 refine (HAL.out _).mono ?_
 rintro e w3 ⟨rfl, hb3⟩
 have s0 := pw_cell_below hb3 s0
 have s1 := pw_cell_below hb3 s1
 have s2 := pw_cell_below hb3 s2
 have s3 := pw_cell_below hb3 s3
 have B3 := Aside0.mk (below_step B2.out hb3)
 have D3 := Aside0.mk (D2.out.below hb3)
 clear hb3
 rcases hw with ⟨hr, hg⟩ | ⟨hr, h⟩
 ·obtain ⟨rfl, rfl⟩ := Prod.mk.inj hg
  clear hq hg hf0 hf1 hf3 hf4
  have e1 : ((⟨#[]⟩ : ByteArray).toList.isEmpty) = true := by decide +kernel
  rcases hr with h | h
  ·have r1 : decide ((b.size : Int) + z < 1) = true := decide_eq_true h
   clear h
   go_wp2_with fail
   refine (HP.out _ _ D3.out).mono ?_
   rintro e w4 ⟨rfl, hb4⟩
   have s0 := pw_cell_below hb4 s0
   have s1 := pw_cell_below hb4 s1
   have s2 := pw_cell_below hb4 s2
   have s3 := pw_cell_below hb4 s3
   have B4 := Aside0.mk (below_step B3.out hb4)
   have D4 := Aside0.mk (D3.out.below hb4)
   clear hb4
   go_wp2_with fail
   refine (HGT.out _ _ D4.out).mono ?_
   rintro e w5 ⟨rfl, hb5⟩
   have s0 := pw_cell_below hb5 s0
   have s1 := pw_cell_below hb5 s1
   have s2 := pw_cell_below hb5 s2
   have s3 := pw_cell_below hb5 s3
   have B5 := Aside0.mk (below_step B4.out hb5)
   clear hb5
   go_wp2_with fail
   go_ret
   exact ⟨rfl, B5.out⟩
  ·have r1 : decide ((b.size : Int) + z < 1) = false := decide_eq_false (by omega)
   have r2 : decide ((1024 : Int) < (b.size : Int) + z) = true := decide_eq_true h
   clear h
   go_wp2_with fail
   refine (HP.out _ _ D3.out).mono ?_
   rintro e w4 ⟨rfl, hb4⟩
   have s0 := pw_cell_below hb4 s0
   have s1 := pw_cell_below hb4 s1
   have s2 := pw_cell_below hb4 s2
   have s3 := pw_cell_below hb4 s3
   have B4 := Aside0.mk (below_step B3.out hb4)
   have D4 := Aside0.mk (D3.out.below hb4)
   clear hb4
   go_wp2_with fail
   refine (HGT.out _ _ D4.out).mono ?_
   rintro e w5 ⟨rfl, hb5⟩
   have s0 := pw_cell_below hb5 s0
   have s1 := pw_cell_below hb5 s1
   have s2 := pw_cell_below hb5 s2
   have s3 := pw_cell_below hb5 s3
   have B5 := Aside0.mk (below_step B4.out hb5)
   clear hb5
   go_wp2_with fail
   go_ret
   exact ⟨rfl, B5.out⟩
 ·rcases h with ⟨hk1, hg⟩ | ⟨hk1, hq0, hg1, hg2⟩ | ⟨hk1, hq0, hg⟩
  ·obtain ⟨rfl, rfl⟩ := Prod.mk.inj hg
   obtain rfl : kd = 1 := by omega
   have e1 : ((⟨#[]⟩ : ByteArray).toList.isEmpty) = true := by decide +kernel
   have r1 : decide ((b.size : Int) + z < 1) = false := decide_eq_false (by omega)
   have r2 : decide ((1024 : Int) < (b.size : Int) + z) = false := decide_eq_false (by omega)
   clear hg hk1 hq hr hf0 hf1 hf3 hf4
   go_wp2_with fail
   refine (HP.out _ _ D3.out).mono ?_
   rintro e w4 ⟨rfl, hb4⟩
   have s0 := pw_cell_below hb4 s0
   have s1 := pw_cell_below hb4 s1
   have s2 := pw_cell_below hb4 s2
   have s3 := pw_cell_below hb4 s3
   have B4 := Aside0.mk (below_step B3.out hb4)
   have D4 := Aside0.mk (D3.out.below hb4)
   clear hb4
   go_wp2_with fail
   refine (HGT.out _ _ D4.out).mono ?_
   rintro e w5 ⟨rfl, hb5⟩
   have s0 := pw_cell_below hb5 s0
   have s1 := pw_cell_below hb5 s1
   have s2 := pw_cell_below hb5 s2
   have s3 := pw_cell_below hb5 s3
   have B5 := Aside0.mk (below_step B4.out hb5)
   clear hb5
   go_wp2_with fail
   go_ret
   exact ⟨rfl, B5.out⟩
  ·dsimp only at hg1 hg2
   subst hg1
   have rq : (q == (0 : Int)) = true := beq_iff_eq.2 hq0
   obtain rfl : kd = 2 := by omega
   have e1 : ((⟨#[]⟩ : ByteArray).toList.isEmpty) = true := by decide +kernel
   have r1 : decide ((b.size : Int) + z < 1) = false := decide_eq_false (by omega)
   have r2 : decide ((1024 : Int) < (b.size : Int) + z) = false := decide_eq_false (by omega)
   rcases hg2 with ⟨hz, rfl⟩ | ⟨hz, hz2, h12⟩
   ·have r3 : decide (0 < z) = true := decide_eq_true hz
    clear hk1 hq0 hq hr hf0 hf1 hf3 hf4 hz
    go_wp2_with fail
    refine (HP.out _ _ D3.out).mono ?_
    rintro e w4 ⟨rfl, hb4⟩
    have s0 := pw_cell_below hb4 s0
    have s1 := pw_cell_below hb4 s1
    have s2 := pw_cell_below hb4 s2
    have s3 := pw_cell_below hb4 s3
    have B4 := Aside0.mk (below_step B3.out hb4)
    have D4 := Aside0.mk (D3.out.below hb4)
    clear hb4
    go_wp2_with fail
    refine (HGT.out _ _ D4.out).mono ?_
    rintro e w5 ⟨rfl, hb5⟩
    have s0 := pw_cell_below hb5 s0
    have s1 := pw_cell_below hb5 s1
    have s2 := pw_cell_below hb5 s2
    have s3 := pw_cell_below hb5 s3
    have B5 := Aside0.mk (below_step B4.out hb5)
    clear hb5
    go_wp2_with fail
    go_ret
    exact ⟨rfl, B5.out⟩
   ·have r3 : decide (0 < z) = false := decide_eq_false hz
    have r4 : decide (z < 0) = true := decide_eq_true hz2
    rcases h12 with rfl | rfl
    ·clear hk1 hq0 hq hr hf0 hf1 hf3 hf4 hz hz2
     go_wp2_with fail
     refine (HP.out _ _ D3.out).mono ?_
     rintro e w4 ⟨rfl, hb4⟩
     have s0 := pw_cell_below hb4 s0
     have s1 := pw_cell_below hb4 s1
     have s2 := pw_cell_below hb4 s2
     have s3 := pw_cell_below hb4 s3
     have B4 := Aside0.mk (below_step B3.out hb4)
     have D4 := Aside0.mk (D3.out.below hb4)
     clear hb4
     go_wp2_with fail
     refine (HGT.out _ _ D4.out).mono ?_
     rintro e w5 ⟨rfl, hb5⟩
     have s0 := pw_cell_below hb5 s0
     have s1 := pw_cell_below hb5 s1
     have s2 := pw_cell_below hb5 s2
     have s3 := pw_cell_below hb5 s3
     have B5 := Aside0.mk (below_step B4.out hb5)
     clear hb5
     go_wp2_with fail
     go_ret
     exact ⟨rfl, B5.out⟩
    ·clear hk1 hq0 hq hr hf0 hf1 hf3 hf4 hz hz2
     go_wp2_with fail
     refine (HP.out _ _ D3.out).mono ?_
     rintro e w4 ⟨rfl, hb4⟩
     have s0 := pw_cell_below hb4 s0
     have s1 := pw_cell_below hb4 s1
     have s2 := pw_cell_below hb4 s2
     have s3 := pw_cell_below hb4 s3
     have B4 := Aside0.mk (below_step B3.out hb4)
     have D4 := Aside0.mk (D3.out.below hb4)
     clear hb4
     go_wp2_with fail
     refine (HGT.out _ _ D4.out).mono ?_
     rintro e w5 ⟨rfl, hb5⟩
     have s0 := pw_cell_below hb5 s0
     have s1 := pw_cell_below hb5 s1
     have s2 := pw_cell_below hb5 s2
     have s3 := pw_cell_below hb5 s3
     have B5 := Aside0.mk (below_step B4.out hb5)
     clear hb5
     go_wp2_with fail
     go_ret
     exact ⟨rfl, B5.out⟩
  ·have rq : (q == (0 : Int)) = false := beq_eq_false_iff_ne.2 (by omega)
   obtain rfl : kd = 2 := by omega
   have r1 : decide ((b.size : Int) + z < 1) = false := decide_eq_false (by omega)
   have r2 : decide ((1024 : Int) < (b.size : Int) + z) = false := decide_eq_false (by omega)
   rcases hg with ⟨hg1, hg2⟩ | ⟨hg1, hg2, hg3⟩
   ·dsimp only at hg1 hg2
    subst hg2
    have e1 : ((⟨#[]⟩ : ByteArray).toList.isEmpty) = true := by decide +kernel
    have e2 : (ge != 0) = true := bne_iff_ne.2 hg1
    clear hk1 hq0 hq hr hf0 hf1 hf3 hf4 hg1
    go_wp2_with fail
    refine (HP.out _ _ D3.out).mono ?_
    rintro e w4 ⟨rfl, hb4⟩
    have s0 := pw_cell_below hb4 s0
    have s1 := pw_cell_below hb4 s1
    have s2 := pw_cell_below hb4 s2
    have s3 := pw_cell_below hb4 s3
    have B4 := Aside0.mk (below_step B3.out hb4)
    have D4 := Aside0.mk (D3.out.below hb4)
    clear hb4
    go_wp2_with fail
    refine (HGT.out _ _ D4.out).mono ?_
    rintro e w5 ⟨rfl, hb5⟩
    have s0 := pw_cell_below hb5 s0
    have s1 := pw_cell_below hb5 s1
    have s2 := pw_cell_below hb5 s2
    have s3 := pw_cell_below hb5 s3
    have B5 := Aside0.mk (below_step B4.out hb5)
    clear hb5
    go_wp2_with fail
    go_quiet (fail)
    go_wp2_with fail
    go_ret
    exact ⟨rfl, B5.out.trans (by repeat (first | exact Below.refl _ _ | apply below_drew | apply pw_below_drewN))⟩
   ·dsimp only at hg1 hg2 hg3
    subst hg1
    have e3 : ((gs.size : Int) == (b.size : Int) + z) = true := beq_iff_eq.2 hg2
    rcases Int.lt_or_gt_of_ne hf2 with hz | hz
    ·have e5 : ((gs.extract 0 ((b.size : Int) + z).toNat).toList == (b.extract 0 ((b.size : Int) + z).toNat).toList) = true := by
      rw [show min gs.size b.size = ((b.size : Int) + z).toNat by omega] at hg3
      rw [hg3]
      exact beq_self_eq_true _
     have zl : (gs.size : Int) < (b.size : Int) := by omega
     clear hk1 hq0 hq hr hf0 hf1 hf3 hf4 hg3
     go_wp2_with fail
     refine (HP.out _ _ D3.out).mono ?_
     rintro e w4 ⟨rfl, hb4⟩
     have s0 := pw_cell_below hb4 s0
     have s1 := pw_cell_below hb4 s1
     have s2 := pw_cell_below hb4 s2
     have s3 := pw_cell_below hb4 s3
     have B4 := Aside0.mk (below_step B3.out hb4)
     have D4 := Aside0.mk (D3.out.below hb4)
     clear hb4
     go_wp2_with fail
     refine (HGT.out _ _ D4.out).mono ?_
     rintro e w5 ⟨rfl, hb5⟩
     have s0 := pw_cell_below hb5 s0
     have s1 := pw_cell_below hb5 s1
     have s2 := pw_cell_below hb5 s2
     have s3 := pw_cell_below hb5 s3
     have B5 := Aside0.mk (below_step B4.out hb5)
     clear hb5
     go_wp2_with fail
     go_quiet (fail)
     go_wp2_with fail
     go_ret
     exact ⟨by first | rfl | rw [e5], B5.out.trans (by repeat (first | exact Below.refl _ _ | apply below_drew | apply pw_below_drewN))⟩
    ·have e5 : ((gs.extract 0 b.size).toList == b.toList) = true := by
      rw [show min gs.size b.size = b.size by omega, extract_all] at hg3
      rw [hg3]
      exact beq_self_eq_true _
     have zl : (b.size : Int) < (gs.size : Int) := by omega
     clear hk1 hq0 hq hr hf0 hf1 hf3 hf4 hg3
     go_wp2_with fail
     refine (HP.out _ _ D3.out).mono ?_
     rintro e w4 ⟨rfl, hb4⟩
     have s0 := pw_cell_below hb4 s0
     have s1 := pw_cell_below hb4 s1
     have s2 := pw_cell_below hb4 s2
     have s3 := pw_cell_below hb4 s3
     have B4 := Aside0.mk (below_step B3.out hb4)
     have D4 := Aside0.mk (D3.out.below hb4)
     clear hb4
     go_wp2_with fail
     refine (HGT.out _ _ D4.out).mono ?_
     rintro e w5 ⟨rfl, hb5⟩
     have s0 := pw_cell_below hb5 s0
     have s1 := pw_cell_below hb5 s1
     have s2 := pw_cell_below hb5 s2
     have s3 := pw_cell_below hb5 s3
     have B5 := Aside0.mk (below_step B4.out hb5)
     clear hb5
     go_wp2_with fail
     go_quiet (fail)
     go_wp2_with fail
     go_ret
     exact ⟨by first | rfl | rw [e5], B5.out.trans (by repeat (first | exact Below.refl _ _ | apply below_drew | apply pw_below_drewN))⟩
set_option maxHeartbeats 2000000 in
set_option maxRecDepth 100000 in
theorem blockWrong_law (A : Option Addr) (c : Nat) (l : List ByteArray) (p q k wd : Int) (b : ByteArray) (z : Int) (w : World) (hr : StrsIn w A l) (hc : l.length ≤ c) (h16 : l.length * 16 ≤ 140737488351232) (hs : ∀ s ∈ l, s.size ≤ 140737488351232) (hb : b.size ≤ 140737488351232) (hn : (Lit.int .i64 z).wf = true) :
  Calls Try.prog 6 #[.slice A l.length c, .agg #[.int .i64 p, .int .i64 q, .int .i64 k, .int .i64 wd], .string b, .int .i64 z] w fun e w' => e = .returned (.bool true) ∧ Below w.heap.size w w' := by
 have HAL := Aside0.mk (fun W => alive22 W)
 have HRC := Aside0.mk (fun W => rconf_calls p q k wd W)
 have HR := Aside0.mk hr
 have s0 : (w.alloc (.cells #[.int .i64 p, .int .i64 q, .int .i64 k, .int .i64 wd] 23)).cell? ⟨w.heap.size, 0, none⟩ = some (.int .i64 p) := by simp
 have s1 : (w.alloc (.cells #[.int .i64 p, .int .i64 q, .int .i64 k, .int .i64 wd] 23)).cell? ⟨w.heap.size, 1, none⟩ = some (.int .i64 q) := by simp
 have s2 : (w.alloc (.cells #[.int .i64 p, .int .i64 q, .int .i64 k, .int .i64 wd] 23)).cell? ⟨w.heap.size, 2, none⟩ = some (.int .i64 k) := by simp
 have s3 : (w.alloc (.cells #[.int .i64 p, .int .i64 q, .int .i64 k, .int .i64 wd] 23)).cell? ⟨w.heap.size, 3, none⟩ = some (.int .i64 wd) := by simp
 have B0 := Aside0.mk ((Below.refl w.heap.size w).alloc (Nat.le_refl _) (.cells #[.int .i64 p, .int .i64 q, .int .i64 k, .int .i64 wd] 23))
 by_cases hG : Given l b
 ·have HD := Aside0.mk (fun (W : World) (hr : StrsIn W A l) => dict13_yes l b W hr hc (by omega) hs hG)
  by_cases hf0 : 2 ≤ b.size
  ·skip
   by_cases hf1 : b.size ≤ 300
   ·skip
    by_cases hf2 : z ≠ 0
    ·skip
     by_cases hf3 : z ≤ 500
     ·skip
      by_cases hf4 : -500 ≤ z
      ·skip
       by_cases hC : cfgB p q k wd = true
       ·skip
        by_cases hf5 : (b.size : Int) ≤ k
        ·skip
         exact blockWrong_walk A c l p q k wd b z w hr hc h16 hs hG hC hf0 hf1 hf2 hf3 hf4 hf5
        ·skip
         have v0 : decide ((b.size : Int) < 2) = false := decide_eq_false (by omega)
         have v1 : decide (b.size < 2) = false := decide_eq_false (by omega)
         have v2 : decide ((300 : Int) < (b.size : Int)) = false := decide_eq_false (by omega)
         have v3 : decide (300 < b.size) = false := decide_eq_false (by omega)
         have v4 : (z == (0 : Int)) = false := beq_eq_false_iff_ne.2 (by omega)
         have v5 : decide (500 < z) = false := decide_eq_false (by omega)
         have v6 : decide (z < -500) = false := decide_eq_false (by omega)
         have v7 : decide (k < (b.size : Int)) = true := decide_eq_true (by omega)
         have HC := Aside0.mk hC
         clear hG hs h16 hc hr
         go_enter Try.func6, Try.ntmps6
         go_wp2_with fail
         refine (HD.out _ (Kd.C_below HR.out B0.out)).mono ?_
         rintro e w1 ⟨ad, rfl, hd, hb1⟩
         have s0 := pw_cell_below hb1 s0
         have s1 := pw_cell_below hb1 s1
         have s2 := pw_cell_below hb1 s2
         have s3 := pw_cell_below hb1 s3
         have B1 := Aside0.mk (below_step B0.out hb1)
         have D1 := Aside0.mk hd
         clear hb1 hd
         go_wp2_with fail
         refine (HRC.out _).mono ?_
         rw [HC.out]
         rintro e w2 ⟨rfl, hb2⟩
         have s0 := pw_cell_below hb2 s0
         have s1 := pw_cell_below hb2 s1
         have s2 := pw_cell_below hb2 s2
         have s3 := pw_cell_below hb2 s3
         have B2 := Aside0.mk (below_step B1.out hb2)
         have D2 := Aside0.mk (D1.out.below hb2)
         clear hb2
         go_wp2_with fail
         refine (HAL.out _).mono ?_
         rintro e w3 ⟨rfl, hb3⟩
         have s0 := pw_cell_below hb3 s0
         have s1 := pw_cell_below hb3 s1
         have s2 := pw_cell_below hb3 s2
         have s3 := pw_cell_below hb3 s3
         have B3 := Aside0.mk (below_step B2.out hb3)
         have D3 := Aside0.mk (D2.out.below hb3)
         clear hb3
         go_wp2_with fail
         go_ret
         exact ⟨rfl, B3.out⟩
       ·skip
        have v0 : decide ((b.size : Int) < 2) = false := decide_eq_false (by omega)
        have v1 : decide (b.size < 2) = false := decide_eq_false (by omega)
        have v2 : decide ((300 : Int) < (b.size : Int)) = false := decide_eq_false (by omega)
        have v3 : decide (300 < b.size) = false := decide_eq_false (by omega)
        have v4 : (z == (0 : Int)) = false := beq_eq_false_iff_ne.2 (by omega)
        have v5 : decide (500 < z) = false := decide_eq_false (by omega)
        have v6 : decide (z < -500) = false := decide_eq_false (by omega)
        have HC := Aside0.mk (Bool.eq_false_iff.2 hC)
        clear hG hs h16 hc hr
        go_enter Try.func6, Try.ntmps6
        go_wp2_with fail
        refine (HD.out _ (Kd.C_below HR.out B0.out)).mono ?_
        rintro e w1 ⟨ad, rfl, hd, hb1⟩
        have s0 := pw_cell_below hb1 s0
        have s1 := pw_cell_below hb1 s1
        have s2 := pw_cell_below hb1 s2
        have s3 := pw_cell_below hb1 s3
        have B1 := Aside0.mk (below_step B0.out hb1)
        have D1 := Aside0.mk hd
        clear hb1 hd
        go_wp2_with fail
        refine (HRC.out _).mono ?_
        rw [HC.out]
        rintro e w2 ⟨rfl, hb2⟩
        have s0 := pw_cell_below hb2 s0
        have s1 := pw_cell_below hb2 s1
        have s2 := pw_cell_below hb2 s2
        have s3 := pw_cell_below hb2 s3
        have B2 := Aside0.mk (below_step B1.out hb2)
        have D2 := Aside0.mk (D1.out.below hb2)
        clear hb2
        go_wp2_with fail
        refine (HAL.out _).mono ?_
        rintro e w3 ⟨rfl, hb3⟩
        have s0 := pw_cell_below hb3 s0
        have s1 := pw_cell_below hb3 s1
        have s2 := pw_cell_below hb3 s2
        have s3 := pw_cell_below hb3 s3
        have B3 := Aside0.mk (below_step B2.out hb3)
        have D3 := Aside0.mk (D2.out.below hb3)
        clear hb3
        go_wp2_with fail
        go_ret
        exact ⟨rfl, B3.out⟩
      ·skip
       have v0 : decide ((b.size : Int) < 2) = false := decide_eq_false (by omega)
       have v1 : decide (b.size < 2) = false := decide_eq_false (by omega)
       have v2 : decide ((300 : Int) < (b.size : Int)) = false := decide_eq_false (by omega)
       have v3 : decide (300 < b.size) = false := decide_eq_false (by omega)
       have v4 : (z == (0 : Int)) = false := beq_eq_false_iff_ne.2 (by omega)
       have v5 : decide (500 < z) = false := decide_eq_false (by omega)
       have v6 : decide (z < -500) = true := decide_eq_true (by omega)
       clear hG hs h16 hc hr
       go_enter Try.func6, Try.ntmps6
       go_wp2_with fail
       refine (HD.out _ (Kd.C_below HR.out B0.out)).mono ?_
       rintro e w1 ⟨ad, rfl, hd, hb1⟩
       have s0 := pw_cell_below hb1 s0
       have s1 := pw_cell_below hb1 s1
       have s2 := pw_cell_below hb1 s2
       have s3 := pw_cell_below hb1 s3
       have B1 := Aside0.mk (below_step B0.out hb1)
       have D1 := Aside0.mk hd
       clear hb1 hd
       have B2 := B1
       have D2 := D1
       go_wp2_with fail
       refine (HAL.out _).mono ?_
       rintro e w3 ⟨rfl, hb3⟩
       have s0 := pw_cell_below hb3 s0
       have s1 := pw_cell_below hb3 s1
       have s2 := pw_cell_below hb3 s2
       have s3 := pw_cell_below hb3 s3
       have B3 := Aside0.mk (below_step B2.out hb3)
       have D3 := Aside0.mk (D2.out.below hb3)
       clear hb3
       go_wp2_with fail
       go_ret
       exact ⟨rfl, B3.out⟩
     ·skip
      have v0 : decide ((b.size : Int) < 2) = false := decide_eq_false (by omega)
      have v1 : decide (b.size < 2) = false := decide_eq_false (by omega)
      have v2 : decide ((300 : Int) < (b.size : Int)) = false := decide_eq_false (by omega)
      have v3 : decide (300 < b.size) = false := decide_eq_false (by omega)
      have v4 : (z == (0 : Int)) = false := beq_eq_false_iff_ne.2 (by omega)
      have v5 : decide (500 < z) = true := decide_eq_true (by omega)
      clear hG hs h16 hc hr
      go_enter Try.func6, Try.ntmps6
      go_wp2_with fail
      refine (HD.out _ (Kd.C_below HR.out B0.out)).mono ?_
      rintro e w1 ⟨ad, rfl, hd, hb1⟩
      have s0 := pw_cell_below hb1 s0
      have s1 := pw_cell_below hb1 s1
      have s2 := pw_cell_below hb1 s2
      have s3 := pw_cell_below hb1 s3
      have B1 := Aside0.mk (below_step B0.out hb1)
      have D1 := Aside0.mk hd
      clear hb1 hd
      have B2 := B1
      have D2 := D1
      go_wp2_with fail
      refine (HAL.out _).mono ?_
      rintro e w3 ⟨rfl, hb3⟩
      have s0 := pw_cell_below hb3 s0
      have s1 := pw_cell_below hb3 s1
      have s2 := pw_cell_below hb3 s2
      have s3 := pw_cell_below hb3 s3
      have B3 := Aside0.mk (below_step B2.out hb3)
      have D3 := Aside0.mk (D2.out.below hb3)
      clear hb3
      go_wp2_with fail
      go_ret
      exact ⟨rfl, B3.out⟩
    ·skip
     have v0 : decide ((b.size : Int) < 2) = false := decide_eq_false (by omega)
     have v1 : decide (b.size < 2) = false := decide_eq_false (by omega)
     have v2 : decide ((300 : Int) < (b.size : Int)) = false := decide_eq_false (by omega)
     have v3 : decide (300 < b.size) = false := decide_eq_false (by omega)
     have v4 : (z == (0 : Int)) = true := beq_iff_eq.2 (by omega)
     clear hG hs h16 hc hr
     go_enter Try.func6, Try.ntmps6
     go_wp2_with fail
     refine (HD.out _ (Kd.C_below HR.out B0.out)).mono ?_
     rintro e w1 ⟨ad, rfl, hd, hb1⟩
     have s0 := pw_cell_below hb1 s0
     have s1 := pw_cell_below hb1 s1
     have s2 := pw_cell_below hb1 s2
     have s3 := pw_cell_below hb1 s3
     have B1 := Aside0.mk (below_step B0.out hb1)
     have D1 := Aside0.mk hd
     clear hb1 hd
     have B2 := B1
     have D2 := D1
     go_wp2_with fail
     refine (HAL.out _).mono ?_
     rintro e w3 ⟨rfl, hb3⟩
     have s0 := pw_cell_below hb3 s0
     have s1 := pw_cell_below hb3 s1
     have s2 := pw_cell_below hb3 s2
     have s3 := pw_cell_below hb3 s3
     have B3 := Aside0.mk (below_step B2.out hb3)
     have D3 := Aside0.mk (D2.out.below hb3)
     clear hb3
     go_wp2_with fail
     go_ret
     exact ⟨rfl, B3.out⟩
   ·skip
    have v0 : decide ((b.size : Int) < 2) = false := decide_eq_false (by omega)
    have v1 : decide (b.size < 2) = false := decide_eq_false (by omega)
    have v2 : decide ((300 : Int) < (b.size : Int)) = true := decide_eq_true (by omega)
    have v3 : decide (300 < b.size) = true := decide_eq_true (by omega)
    clear hG hs h16 hc hr
    go_enter Try.func6, Try.ntmps6
    go_wp2_with fail
    refine (HD.out _ (Kd.C_below HR.out B0.out)).mono ?_
    rintro e w1 ⟨ad, rfl, hd, hb1⟩
    have s0 := pw_cell_below hb1 s0
    have s1 := pw_cell_below hb1 s1
    have s2 := pw_cell_below hb1 s2
    have s3 := pw_cell_below hb1 s3
    have B1 := Aside0.mk (below_step B0.out hb1)
    have D1 := Aside0.mk hd
    clear hb1 hd
    have B2 := B1
    have D2 := D1
    go_wp2_with fail
    refine (HAL.out _).mono ?_
    rintro e w3 ⟨rfl, hb3⟩
    have s0 := pw_cell_below hb3 s0
    have s1 := pw_cell_below hb3 s1
    have s2 := pw_cell_below hb3 s2
    have s3 := pw_cell_below hb3 s3
    have B3 := Aside0.mk (below_step B2.out hb3)
    have D3 := Aside0.mk (D2.out.below hb3)
    clear hb3
    go_wp2_with fail
    go_ret
    exact ⟨rfl, B3.out⟩
  ·skip
   have v0 : decide ((b.size : Int) < 2) = true := decide_eq_true (by omega)
   have v1 : decide (b.size < 2) = true := decide_eq_true (by omega)
   clear hG hs h16 hc hr
   go_enter Try.func6, Try.ntmps6
   go_wp2_with fail
   refine (HD.out _ (Kd.C_below HR.out B0.out)).mono ?_
   rintro e w1 ⟨ad, rfl, hd, hb1⟩
   have s0 := pw_cell_below hb1 s0
   have s1 := pw_cell_below hb1 s1
   have s2 := pw_cell_below hb1 s2
   have s3 := pw_cell_below hb1 s3
   have B1 := Aside0.mk (below_step B0.out hb1)
   have D1 := Aside0.mk hd
   clear hb1 hd
   have B2 := B1
   have D2 := D1
   go_wp2_with fail
   refine (HAL.out _).mono ?_
   rintro e w3 ⟨rfl, hb3⟩
   have s0 := pw_cell_below hb3 s0
   have s1 := pw_cell_below hb3 s1
   have s2 := pw_cell_below hb3 s2
   have s3 := pw_cell_below hb3 s3
   have B3 := Aside0.mk (below_step B2.out hb3)
   have D3 := Aside0.mk (D2.out.below hb3)
   clear hb3
   go_wp2_with fail
   go_ret
   exact ⟨rfl, B3.out⟩
 ·have HD := Aside0.mk (fun (W : World) (hr : StrsIn W A l) => dict13_no l b W hr hc (by omega) hs hG)
  clear hG hs h16 hc hr
  go_enter Try.func6, Try.ntmps6
  go_wp2_with fail
  refine (HD.out _ (Kd.C_below HR.out B0.out)).mono ?_
  rintro e w1 ⟨rfl, hb1⟩
  have B1 := Aside0.mk (below_step B0.out hb1)
  clear hb1
  go_wp2_with fail
  refine (HAL.out _).mono ?_
  rintro e w3 ⟨rfl, hb3⟩
  have B3 := Aside0.mk (below_step B1.out hb3)
  clear hb3
  go_wp2_with fail
  go_ret
  exact ⟨rfl, B3.out⟩
end Go.Proofs.Ytepgkimlmoikmaa
