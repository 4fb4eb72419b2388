/- ShU: a part of its proof (contracts of the functions that it reaches, and the plain mathematics behind them). -/
import Derived.Test.YtepgkimlmoikmaaGreatShU42
import Derived.Test.YtepgkimlmoikmaaGreatShU50
import Derived.Test.YtepgkimlmoikmaaGreatShU47
set_option linter.unusedVariables false
set_option linter.unusedSimpArgs false
set_option maxHeartbeats 2000000
set_option maxRecDepth 100000
set_option linter.unusedVariables false
set_option linter.unusedSimpArgs false
namespace Go.Proofs.YtepgkimlmoikmaaGreat
open Go.RowKit Go.Proofs.YtepgkimlmoikmaaGreat.Spec Go.Proofs.YtepgkimlmoikmaaGreatW.PrintWords Go.Proofs.YtepgkimlmoikmaaGreatW.PrintLast
open Go.Proofs.YtepgkimlmoikmaaGreatW.PrintMore
attribute [local go_sem ↓] Go.wp_at_zero Go.wp_at_succ
attribute [local go_sem] max2_int min2_int max_two min_two
theorem turn_cell (v : Int) (B : Nat) (w' : World) (h : w'.cell? ⟨B, 0, none⟩ = some (.int .u8 v)) : (convert 55 9 (.slice (some ⟨B, 0, none⟩) 1 1)).run Tryz.prog w' = .ok (.string (strOfNums [v])) w' := by
 refine string_of_reads (P := Tryz.prog) (w := w') (A := some ⟨B, 0, none⟩) (n := 1) (c := 1) (xs := [v]) Tryz.underlying55 Tryz.underlying5 Tryz.underlying9 ⟨rfl, by omega, fun _ => ⟨_, rfl, fun j hj => ?_⟩⟩
 obtain rfl : j = 0 := by omega
 exact h
theorem turn_byte (v : Int) (W : World) : (convert 55 9 (.slice (some ⟨W.heap.size, 0, none⟩) 1 1)).run Tryz.prog (W.alloc (.cells #[.int .u8 v] 5)).drew = .ok (.string (strOfNums [v])) (W.alloc (.cells #[.int .u8 v] 5)).drew :=
 turn_cell v _ _ ((blk_cell (blk_new W _) 0).trans rfl)
theorem strOf_one (v : Int) : (strOfNums [v]).size = 1 := rfl
theorem ext_a (a : ByteArray) (i : Nat) (h : i ≤ a.size) : (a.extract 0 i).size = i := by rw [ext_sz _ _ _ h]; omega
theorem ext_b (a : ByteArray) (i : Nat) : (a.extract i a.size).size = a.size - i := ext_sz _ _ _ (Nat.le_refl _)
theorem blockTurned_walk (A : Option Addr) (c : Nat) (l : List ByteArray) (p q k wd : Int) (b : ByteArray) (z : Int) (by_ : Int) (w : World) (hr : StrsIn w A l) (hc : l.length ≤ c) (h16 : l.length * 16 ≤ 140737488351232) (hs : ∀ s ∈ l, s.size ≤ 140737488351232) (hG : Given l b) (hC : cfgB p q k wd = true) (hf0 : 1 ≤ b.size) (hf1 : (b.size : Int) ≤ k) :
  Calls Tryz.prog 5 #[.slice A l.length c, .agg #[.int .i64 p, .int .i64 q, .int .i64 k, .int .i64 wd], .string b, .int .i64 z, .int .u8 by_] w fun e w' => e = .returned (.bool true) ∧ Below w.heap.size w w' := by
 have HAL := Aside0.mk (fun W => alive22 W)
 have HRC := Aside0.mk (fun W => rconf22_calls p q k wd W)
 have HR := Aside0.mk hr
 have s0 : (w.alloc (.cells #[.int .i64 p, .int .i64 q, .int .i64 k, .int .i64 wd] 24)).cell? ⟨w.heap.size, 0, none⟩ = some (.int .i64 p) := by simp
 have s1 : (w.alloc (.cells #[.int .i64 p, .int .i64 q, .int .i64 k, .int .i64 wd] 24)).cell? ⟨w.heap.size, 1, none⟩ = some (.int .i64 q) := by simp
 have s2 : (w.alloc (.cells #[.int .i64 p, .int .i64 q, .int .i64 k, .int .i64 wd] 24)).cell? ⟨w.heap.size, 2, none⟩ = some (.int .i64 k) := by simp
 have s3 : (w.alloc (.cells #[.int .i64 p, .int .i64 q, .int .i64 k, .int .i64 wd] 24)).cell? ⟨w.heap.size, 3, none⟩ = some (.int .i64 wd) := by simp
 have B0 := Aside0.mk ((Below.refl w.heap.size w).alloc (Nat.le_refl _) (.cells #[.int .i64 p, .int .i64 q, .int .i64 k, .int .i64 wd] 24))
 have HD := Aside0.mk (fun (W : World) (hr : StrsIn W A l) => dict13_yes l b W hr hc (by omega) hs hG)
 obtain ⟨hl, hss⟩ := phrases_sizes hG.2.2
 obtain ⟨hq, hk2, hw1⟩ := cfgB_q hC
 have HC := Aside0.mk hC
 have v0 : b.toList.isEmpty = false := not_nil (by omega)
 have v1 : ¬ b.toList = [] := nil_n2 (by omega)
 have v2 : decide (k < (b.size : Int)) = false := decide_eq_false (by omega)
 have HP := Aside0.mk (fun (W : World) (ad : Addr) (h : DictN W (.pointer (some ad)) l) => put_any h hl hss p q k wd hC b hf0 hf1)
 have hkd : ((putR l p q wd.toNat b).1 : Int) = 1 ∨ ((putR l p q wd.toNat b).1 : Int) = 2 := by unfold putR; split <;> simp
 have hpz : 1 ≤ (putR l p q wd.toNat b).2.size := by
  obtain ⟨t1, t2, t3, t4⟩ := toks_ok (by omega) hss p hw1 b (by omega)
  unfold putR
  split
  ·exact layR_pos hl t2 (t4 hf0)
  ·exact hf0
 have hps : (putR l p q wd.toNat b).2.size ≤ 50000 := by rcases putR_small l p q wd.toNat b with ⟨_, h⟩ | ⟨_, h⟩ <;> (try rw [h]) <;> omega
 have HGT := Aside0.mk (fun (pay : ByteArray) (hp : pay.size ≤ 100000) (W : World) (ad : Addr) (h : DictN W (.pointer (some ad)) l) => get_any (how := q) (kind := (putR l p q wd.toNat b).1) (raw := (b.size : Int)) h hl hss hp)
 have HRG := Aside0.mk (fun (pay : ByteArray) (hp : pay.size ≤ 100000) (W : World) (h : StrsIn W A l) => RefG.rget_calls l hl hss q (putR l p q wd.toNat b).1 (b.size : Int) pay hp h hc)
 have HOK := Aside0.mk (fun (pay : ByteArray) => getR_ok hl hss q (putR l p q wd.toNat b).1 (b.size : Int) pay (by omega) hkd (by omega))
 generalize putR l p q wd.toNat b = R at *
 obtain ⟨kd, py⟩ := R
 dsimp only at HGT HRG HP HOK hpz hps
 have e1 : py.toList.isEmpty = false := not_nil hpz
 have e2 : ¬ py.toList = [] := nil_n2 hpz
 have zp : (py.size : Int) ≤ 50000 := by omega
 have zp1 : 1 ≤ (py.size : Int) := by omega
 have zp0 : ¬ (py.size : Int) = 0 := by omega
 have zp2 : ((py.size : Int) == 0) = false := beq_eq_false_iff_ne.2 zp0
 have zb : (b.size : Int) ≤ 1024 := by omega
 obtain ⟨X, hX⟩ : ∃ X, Int.tmod z (py.size : Int) = X := ⟨_, rfl⟩
 have hx1 : X < (py.size : Int) := by rw [← hX]; exact Int.tmod_lt_of_pos _ (by omega)
 have hx2 : -(py.size : Int) < X := by
  rw [← hX]
  have h := Int.tmod_lt_of_pos (-z) (show (0 : Int) < (py.size : Int) by omega)
  rw [Int.neg_tmod] at h
  omega
 obtain ⟨I, hI⟩ : ∃ I : Nat, Int.tmod (X + (py.size : Int)) (py.size : Int) = (I : Int) := ⟨_, (Int.toNat_of_nonneg (Int.tmod_nonneg _ (by omega))).symm⟩
 have hi1 : I < py.size := by
  have h := Int.tmod_lt_of_pos (X + (py.size : Int)) (show (0 : Int) < (py.size : Int) by omega)
  rw [hI] at h
  omega
 have y1 : (0 : Int) ≤ (I : Int) := by omega
 have y2 : (I : Int) ≤ (py.size : Int) := by omega
 have y3 : (I : Int) < (py.size : Int) := by omega
 have y6 : (I : Int) + 1 ≤ (py.size : Int) := by omega
 have y7 : (0 : Int) ≤ (I : Int) + 1 := by omega
 have HX : Aside0 ((wrap64 X = X ∧ wrap64 (X + (py.size : Int)) = X + (py.size : Int) ∧ wrap64 (I : Int) = (I : Int)) ∧ (IntKind.i64.wrap X = X ∧ IntKind.i64.wrap (X + (py.size : Int)) = X + (py.size : Int) ∧ IntKind.i64.wrap (I : Int) = (I : Int)) ∧ wrap64 ((I : Int) + 1) = (I : Int) + 1 ∧ IntKind.i64.wrap ((I : Int) + 1) = (I : Int) + 1) :=
  ⟨⟨⟨Bridge.wr (by omega) (by omega), Bridge.wr (by omega) (by omega), Bridge.wr (by omega) (by omega)⟩, ⟨IntWalk.i64_in _ (by omega), IntWalk.i64_in _ (by omega), IntWalk.i64_in _ (by omega)⟩, Bridge.wr (by omega) (by omega), IntWalk.i64_in _ (by omega)⟩⟩
 have HPI := Aside0.mk (And.intro hi1 (And.intro hpz hps))
 have HRR := Aside0.mk hr
 clear hl hss hk2 hw1 hps hC hpz hkd hx1 hx2 hi1 hf0 hf1 hq
 obtain ⟨⟨x1, x2, x3⟩, ⟨x4, x5, x6⟩, y4, y5⟩ := HX.out
 clear hr hc h16 hs hG
 go_enter Tryz.func5, Tryz.ntmps5
 go_wp2_with fail
 refine (HD.out _ (Kd.C_below HR.out B0.out)).mono ?_
 rintro e w1 ⟨ad, rfl, hd, hb1⟩
 have s0 := pw_cell_below hb1 s0
 have s1 := pw_cell_below hb1 s1
 have s2 := pw_cell_below hb1 s2
 have s3 := pw_cell_below hb1 s3
 have B1 := Aside0.mk (below_step B0.out hb1)
 have D1 := Aside0.mk hd
 clear hb1 hd
 go_wp2_with fail
 refine (HRC.out _).mono ?_
 rw [HC.out]
 rintro e w2 ⟨rfl, hb2⟩
 have s0 := pw_cell_below hb2 s0
 have s1 := pw_cell_below hb2 s1
 have s2 := pw_cell_below hb2 s2
 have s3 := pw_cell_below hb2 s3
 have B2 := Aside0.mk (below_step B1.out hb2)
 have D2 := Aside0.mk (D1.out.below hb2)
 clear hb2
 go_wp2_with fail
 refine (HAL.out _).mono ?_
 rintro e w3 ⟨rfl, hb3⟩
 have s0 := pw_cell_below hb3 s0
 have s1 := pw_cell_below hb3 s1
 have s2 := pw_cell_below hb3 s2
 have s3 := pw_cell_below hb3 s3
 have B3 := Aside0.mk (below_step B2.out hb3)
 have D3 := Aside0.mk (D2.out.below hb3)
 clear hb3
 go_wp2_with fail
 refine (HP.out _ _ D3.out).mono ?_
 rintro e w4 ⟨rfl, hb4⟩
 have s0 := pw_cell_below hb4 s0
 have s1 := pw_cell_below hb4 s1
 have s2 := pw_cell_below hb4 s2
 have s3 := pw_cell_below hb4 s3
 have B4 := Aside0.mk (below_step B3.out hb4)
 have D4 := Aside0.mk (D3.out.below hb4)
 clear hb4
 go_upto_region 10 with fail
 clear hX hI x1 x2 x3 x4 x5 x6 e1 e2 zp0 zp2
 have hi1 := HPI.out.1
 have hcv := turn_byte
 have hs1 := strOf_one
 have za := ext_a py I (by omega)
 have zb2 := ext_b py (I + 1)
 go_region
 have hb5 : Below w4.heap.size w4 (w4.alloc (.cells #[.int .u8 (bits .xor .u8 (py[I].toNat : Int) by_)] 5)).drew := below_drew (below_alloc (Below.refl _ _) _)
 clear y4 y5
 have HQZ : (py.extract 0 I ++ strOfNums [bits .xor .u8 (py[I].toNat : Int) by_] ++ py.extract (I + 1) py.size).size ≤ 100000 := by
  rw [ByteArray.size_append, ByteArray.size_append, za, zb2, hs1]
  have := HPI.out
  omega
 generalize (py.extract 0 I ++ strOfNums [bits .xor .u8 (py[I].toNat : Int) by_] ++ py.extract (I + 1) py.size) = qy at *
 generalize (w4.alloc (.cells #[.int .u8 (bits .xor .u8 (py[I].toNat : Int) by_)] 5)).drew = w5 at *
 have s0 := pw_cell_below hb5 s0
 have s1 := pw_cell_below hb5 s1
 have s2 := pw_cell_below hb5 s2
 have s3 := pw_cell_below hb5 s3
 have B5 := Aside0.mk (below_step B4.out hb5)
 have D5 := Aside0.mk (D4.out.below hb5)
 have GT := Aside0.mk (fun W ad h => HGT.out qy HQZ W ad h)
 have RG := Aside0.mk (fun W h => HRG.out qy HQZ W h)
 have hok := HOK.out qy
 generalize getR l q (kd : Int) (b.size : Int) qy = G at *
 obtain ⟨gs, ge⟩ := G
 dsimp only at GT RG hok
 obtain ⟨_, hok1, hok2⟩ := hok
 have hg : (ge = 0 ∧ gs.size = b.size) ∨ (ge ≠ 0 ∧ gs = ⟨#[]⟩) := by
  by_cases h : ge = 0
  ·have := hok1 h
   exact .inl ⟨h, by omega⟩
  ·exact .inr ⟨h, hok2 h⟩
 clear hb5 hcv hs1 za zb2 HQZ hok1 hok2
 rcases hg with ⟨rfl, hsz⟩ | ⟨hne, rfl⟩
 ·have f1 : ((gs.size : Int) == (b.size : Int)) = true := beq_iff_eq.2 (by omega)
  have f2 : (gs.toList == gs.toList) = true := beq_self_eq_true _
  have f3 : (gs.size == b.size) = true := beq_iff_eq.2 hsz
  clear hsz
  go_wp2_with fail
  refine (GT.out _ _ D5.out).mono ?_
  rintro e w6 ⟨rfl, hb6⟩
  have s0 := pw_cell_below hb6 s0
  have s1 := pw_cell_below hb6 s1
  have s2 := pw_cell_below hb6 s2
  have s3 := pw_cell_below hb6 s3
  have B6 := Aside0.mk (below_step B5.out hb6)
  clear hb6
  go_wp2_with fail
  refine (RG.out _ (Kd.C_below HRR.out B6.out)).mono ?_
  rintro e w7 ⟨rfl, hb7⟩
  have B7 := Aside0.mk (below_step B6.out hb7)
  clear hb7
  go_wp2_with fail
  go_ret
  exact ⟨rfl, B7.out⟩
 ·have f1 : (ge == (0 : Int)) = false := beq_eq_false_iff_ne.2 hne
  have f2 : (ge != (0 : Int)) = true := bne_iff_ne.2 hne
  have f3 : (ge == ge) = true := beq_self_eq_true _
  have f4 : ((⟨#[]⟩ : ByteArray).toList.isEmpty) = true := by decide +kernel
  have f5 : ((⟨#[]⟩ : ByteArray).toList == (⟨#[]⟩ : ByteArray).toList) = true := beq_self_eq_true _
  clear hne
  go_wp2_with fail
  refine (GT.out _ _ D5.out).mono ?_
  rintro e w6 ⟨rfl, hb6⟩
  have s0 := pw_cell_below hb6 s0
  have s1 := pw_cell_below hb6 s1
  have s2 := pw_cell_below hb6 s2
  have s3 := pw_cell_below hb6 s3
  have B6 := Aside0.mk (below_step B5.out hb6)
  clear hb6
  go_wp2_with fail
  refine (RG.out _ (Kd.C_below HRR.out B6.out)).mono ?_
  rintro e w7 ⟨rfl, hb7⟩
  have B7 := Aside0.mk (below_step B6.out hb7)
  clear hb7
  go_wp2_with fail
  go_ret
  exact ⟨rfl, B7.out⟩
theorem blockTurned_law (A : Option Addr) (c : Nat) (l : List ByteArray) (p q k wd : Int) (b : ByteArray) (z : Int) (by_ : Int) (w : World) (hr : StrsIn w A l) (hc : l.length ≤ c) (h16 : l.length * 16 ≤ 140737488351232) (hs : ∀ s ∈ l, s.size ≤ 140737488351232) (hb : b.size ≤ 140737488351232) (hn : (Lit.int .i64 z).wf = true) (hn2 : (Lit.int .u8 by_).wf = true) :
  Calls Tryz.prog 5 #[.slice A l.length c, .agg #[.int .i64 p, .int .i64 q, .int .i64 k, .int .i64 wd], .string b, .int .i64 z, .int .u8 by_] w fun e w' => e = .returned (.bool true) ∧ Below w.heap.size w w' := by
 have HAL := Aside0.mk (fun W => alive22 W)
 have HRC := Aside0.mk (fun W => rconf22_calls p q k wd W)
 have HR := Aside0.mk hr
 have s0 : (w.alloc (.cells #[.int .i64 p, .int .i64 q, .int .i64 k, .int .i64 wd] 24)).cell? ⟨w.heap.size, 0, none⟩ = some (.int .i64 p) := by simp
 have s1 : (w.alloc (.cells #[.int .i64 p, .int .i64 q, .int .i64 k, .int .i64 wd] 24)).cell? ⟨w.heap.size, 1, none⟩ = some (.int .i64 q) := by simp
 have s2 : (w.alloc (.cells #[.int .i64 p, .int .i64 q, .int .i64 k, .int .i64 wd] 24)).cell? ⟨w.heap.size, 2, none⟩ = some (.int .i64 k) := by simp
 have s3 : (w.alloc (.cells #[.int .i64 p, .int .i64 q, .int .i64 k, .int .i64 wd] 24)).cell? ⟨w.heap.size, 3, none⟩ = some (.int .i64 wd) := by simp
 have B0 := Aside0.mk ((Below.refl w.heap.size w).alloc (Nat.le_refl _) (.cells #[.int .i64 p, .int .i64 q, .int .i64 k, .int .i64 wd] 24))
 by_cases hG : Given l b
 ·have HD := Aside0.mk (fun (W : World) (hr : StrsIn W A l) => dict13_yes l b W hr hc (by omega) hs hG)
  by_cases hf0 : 1 ≤ b.size
  ·skip
   by_cases hf1 : (b.size : Int) ≤ k
   ·skip
    by_cases hC : cfgB p q k wd = true
    ·skip
     exact blockTurned_walk A c l p q k wd b z by_ w hr hc h16 hs hG hC hf0 hf1
    ·skip
     have v0 : b.toList.isEmpty = false := not_nil (by omega)
     have v1 : ¬ b.toList = [] := nil_n2 (by omega)
     have v2 : decide (k < (b.size : Int)) = false := decide_eq_false (by omega)
     have HC := Aside0.mk (Bool.eq_false_iff.2 hC)
     clear hG hs h16 hc hr
     go_enter Tryz.func5, Tryz.ntmps5
     go_wp2_with fail
     refine (HD.out _ (Kd.C_below HR.out B0.out)).mono ?_
     rintro e w1 ⟨ad, rfl, hd, hb1⟩
     have s0 := pw_cell_below hb1 s0
     have s1 := pw_cell_below hb1 s1
     have s2 := pw_cell_below hb1 s2
     have s3 := pw_cell_below hb1 s3
     have B1 := Aside0.mk (below_step B0.out hb1)
     have D1 := Aside0.mk hd
     clear hb1 hd
     go_wp2_with fail
     refine (HRC.out _).mono ?_
     rw [HC.out]
     rintro e w2 ⟨rfl, hb2⟩
     have s0 := pw_cell_below hb2 s0
     have s1 := pw_cell_below hb2 s1
     have s2 := pw_cell_below hb2 s2
     have s3 := pw_cell_below hb2 s3
     have B2 := Aside0.mk (below_step B1.out hb2)
     have D2 := Aside0.mk (D1.out.below hb2)
     clear hb2
     go_wp2_with fail
     refine (HAL.out _).mono ?_
     rintro e w3 ⟨rfl, hb3⟩
     have s0 := pw_cell_below hb3 s0
     have s1 := pw_cell_below hb3 s1
     have s2 := pw_cell_below hb3 s2
     have s3 := pw_cell_below hb3 s3
     have B3 := Aside0.mk (below_step B2.out hb3)
     have D3 := Aside0.mk (D2.out.below hb3)
     clear hb3
     go_wp2_with fail
     go_ret
     exact ⟨rfl, B3.out⟩
   ·skip
    have v0 : b.toList.isEmpty = false := not_nil (by omega)
    have v1 : ¬ b.toList = [] := nil_n2 (by omega)
    have v2 : decide (k < (b.size : Int)) = true := decide_eq_true (by omega)
    clear hG hs h16 hc hr
    go_enter Tryz.func5, Tryz.ntmps5
    go_wp2_with fail
    refine (HD.out _ (Kd.C_below HR.out B0.out)).mono ?_
    rintro e w1 ⟨ad, rfl, hd, hb1⟩
    have s0 := pw_cell_below hb1 s0
    have s1 := pw_cell_below hb1 s1
    have s2 := pw_cell_below hb1 s2
    have s3 := pw_cell_below hb1 s3
    have B1 := Aside0.mk (below_step B0.out hb1)
    have D1 := Aside0.mk hd
    clear hb1 hd
    have B2 := B1
    have D2 := D1
    go_wp2_with fail
    refine (HAL.out _).mono ?_
    rintro e w3 ⟨rfl, hb3⟩
    have s0 := pw_cell_below hb3 s0
    have s1 := pw_cell_below hb3 s1
    have s2 := pw_cell_below hb3 s2
    have s3 := pw_cell_below hb3 s3
    have B3 := Aside0.mk (below_step B2.out hb3)
    have D3 := Aside0.mk (D2.out.below hb3)
    clear hb3
    go_wp2_with fail
    go_ret
    exact ⟨rfl, B3.out⟩
  ·skip
   have v0 : b.toList.isEmpty = true := nil_y (by omega)
   have v1 : b.toList = [] := nil_y2 (by omega)
   clear hG hs h16 hc hr
   go_enter Tryz.func5, Tryz.ntmps5
   go_wp2_with fail
   refine (HD.out _ (Kd.C_below HR.out B0.out)).mono ?_
   rintro e w1 ⟨ad, rfl, hd, hb1⟩
   have s0 := pw_cell_below hb1 s0
   have s1 := pw_cell_below hb1 s1
   have s2 := pw_cell_below hb1 s2
   have s3 := pw_cell_below hb1 s3
   have B1 := Aside0.mk (below_step B0.out hb1)
   have D1 := Aside0.mk hd
   clear hb1 hd
   have B2 := B1
   have D2 := D1
   go_wp2_with fail
   refine (HAL.out _).mono ?_
   rintro e w3 ⟨rfl, hb3⟩
   have s0 := pw_cell_below hb3 s0
   have s1 := pw_cell_below hb3 s1
   have s2 := pw_cell_below hb3 s2
   have s3 := pw_cell_below hb3 s3
   have B3 := Aside0.mk (below_step B2.out hb3)
   have D3 := Aside0.mk (D2.out.below hb3)
   clear hb3
   go_wp2_with fail
   go_ret
   exact ⟨rfl, B3.out⟩
 ·have HD := Aside0.mk (fun (W : World) (hr : StrsIn W A l) => dict13_no l b W hr hc (by omega) hs hG)
  clear hG hs h16 hc hr
  go_enter Tryz.func5, Tryz.ntmps5
  go_wp2_with fail
  refine (HD.out _ (Kd.C_below HR.out B0.out)).mono ?_
  rintro e w1 ⟨rfl, hb1⟩
  have B1 := Aside0.mk (below_step B0.out hb1)
  clear hb1
  go_wp2_with fail
  refine (HAL.out _).mono ?_
  rintro e w3 ⟨rfl, hb3⟩
  have B3 := Aside0.mk (below_step B1.out hb3)
  clear hb3
  go_wp2_with fail
  go_ret
  exact ⟨rfl, B3.out⟩
end Go.Proofs.YtepgkimlmoikmaaGreat
