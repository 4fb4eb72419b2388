/- ShV: a part of its proof (contracts of the functions that it reaches, and the plain mathematics behind them). -/
import Derived.Test.YtepgkimlmoikmaaGreatShV48
set_option linter.unusedVariables false
set_option linter.unusedSimpArgs false
set_option maxHeartbeats 2000000
set_option maxRecDepth 100000
set_option linter.unusedVariables false
set_option linter.unusedSimpArgs false
namespace Go.Proofs.YtepgkimlmoikmaaGreat
open Go.RowKit Go.Proofs.YtepgkimlmoikmaaGreat.Spec Go.Proofs.YtepgkimlmoikmaaGreatW.PrintWords Go.Proofs.YtepgkimlmoikmaaGreatW.PrintLast
open Go.Proofs.YtepgkimlmoikmaaGreatW.PrintMore
attribute [local go_sem ↓] Go.wp_at_zero Go.wp_at_succ
attribute [local go_sem] max2_int min2_int max_two min_two
theorem coderHolds_walk (A : Option Addr) (c : Nat) (l : List ByteArray) (p q k wd : Nat) (A2 : Option Addr) (c2 : Nat) (ps : List ByteArray) (w : World) (hr : StrsIn w A l) (hc : l.length ≤ c) (h16 : l.length * 16 ≤ 140737488351232) (hs : ∀ s ∈ l, s.size ≤ 140737488351232) (hG : Given l ⟨#[]⟩) (hC : cfgB p q k wd = true) (hf0 : ps.length ≤ 30) (hr2 : StrsIn w A2 ps) (hc2 : ps.length ≤ c2) :
  Calls Tryz.prog 14 #[.slice A l.length c, .agg #[.int .i64 (p : Int), .int .i64 (q : Int), .int .i64 (k : Int), .int .i64 (wd : Int)], .slice A2 ps.length c2] w fun e w' => e = .returned (.bool true) ∧ Below w.heap.size w w' := by
 have HAL := Aside0.mk (fun W => alive24_any W)
 have HRC := Aside0.mk (fun W => rconf_calls p q k wd W)
 have HR := Aside0.mk hr
 have s0 : (w.alloc (.cells #[.int .i64 p, .int .i64 q, .int .i64 k, .int .i64 wd] 24)).cell? ⟨w.heap.size, 0, none⟩ = some (.int .i64 p) := by simp
 have s1 : (w.alloc (.cells #[.int .i64 p, .int .i64 q, .int .i64 k, .int .i64 wd] 24)).cell? ⟨w.heap.size, 1, none⟩ = some (.int .i64 q) := by simp
 have s2 : (w.alloc (.cells #[.int .i64 p, .int .i64 q, .int .i64 k, .int .i64 wd] 24)).cell? ⟨w.heap.size, 2, none⟩ = some (.int .i64 k) := by simp
 have s3 : (w.alloc (.cells #[.int .i64 p, .int .i64 q, .int .i64 k, .int .i64 wd] 24)).cell? ⟨w.heap.size, 3, none⟩ = some (.int .i64 wd) := by simp
 have B0 := Aside0.mk ((Below.refl w.heap.size w).alloc (Nat.le_refl _) (.cells #[.int .i64 p, .int .i64 q, .int .i64 k, .int .i64 wd] 24))
 have HD := Aside0.mk (fun (W : World) (hr : StrsIn W A l) => dict24_yes l W hr hc (by omega) hs hG)
 obtain ⟨hl, hss⟩ := phrases_sizes hG.2.2
 obtain ⟨b1, b2, b3, b4, b5⟩ := cfg_bounds hC
 have HC := Aside0.mk hC
 have v0 : decide ((30 : Int) < (ps.length : Int)) = false := decide_eq_false (by omega)
 have v1 : decide (30 < ps.length) = false := decide_eq_false (by omega)
 have HR2 := Aside0.mk hr2
 have HC2 := Aside0.mk (And.intro hc2 hf0)
 have HN := Aside0.mk (fun (W : World) (ad : Addr) => newenc_yes (P := .pointer (some ad)) rfl p q k wd hC W)
 have HND := Aside0.mk (fun (W : World) (ad : Addr) => newdec_calls (P := .pointer (some ad)) rfl W)
 have hpay := payOk hl hss hC
 have HW := Aside0.mk (fun (e : En) (he : e.p = p ∧ e.q = q ∧ e.k = k ∧ e.wd = wd) (hcl : e.closed = false) (b : ByteArray) (hz : e.held.size + b.size ≤ 1000000) (hw : e.written + b.size ≤ 1000000) (W : World) (g : Nat) (ad : Addr) (hd : DicF g W (.pointer (some ad)) l) (h : EncAt W g (.pointer (some ad)) e) => write_st hl hss hC e he hcl b hz hw W g hd h)
 have HF := Aside0.mk (fun (W : World) (g : Nat) (ad : Addr) (d : D) (B b : ByteArray) (h : DecAt W g (.pointer (some ad)) d) (hdi : DicF g W (.pointer (some ad)) l) (hr : Rel l B d) (hz : (B ++ b).size ≤ 900000) => feed_any h hdi rfl hl hss hr b hz)
 have HPK := Aside0.mk (And.intro b2 (And.intro b3 hpay))
 have zk : (k : Int) ≤ 1024 := by omega
 have zk1 : 1 ≤ (k : Int) := by omega
 have R0 := Aside0.mk (rel_new l)
 clear hl hss b1 b2 b3 b4 b5 hC hr2 hc2 hf0 hpay
 clear hr hc h16 hs hG
 go_enter Tryz.func14, Tryz.ntmps14
 go_wp2_with fail
 refine (HD.out _ (Kd.C_below HR.out B0.out)).mono ?_
 rintro e w1 ⟨ad, rfl, hd, hb1⟩
 have s0 := pw_cell_below hb1 s0
 have s1 := pw_cell_below hb1 s1
 have s2 := pw_cell_below hb1 s2
 have s3 := pw_cell_below hb1 s3
 have B1 := Aside0.mk (below_step B0.out hb1)
 have D1 := Aside0.mk hd
 clear hb1 hd
 go_wp2_with fail
 refine (HRC.out _).mono ?_
 rw [HC.out]
 rintro e w2 ⟨rfl, hb2⟩
 have s0 := pw_cell_below hb2 s0
 have s1 := pw_cell_below hb2 s1
 have s2 := pw_cell_below hb2 s2
 have s3 := pw_cell_below hb2 s3
 have B2 := Aside0.mk (below_step B1.out hb2)
 have D2 := Aside0.mk (D1.out.below hb2)
 clear hb2
 go_wp2_with fail
 refine (HAL.out _).mono ?_
 rintro e w3 ⟨rfl, hb3⟩
 have s0 := pw_cell_below hb3 s0
 have s1 := pw_cell_below hb3 s1
 have s2 := pw_cell_below hb3 s2
 have s3 := pw_cell_below hb3 s3
 have B3 := Aside0.mk (below_step B2.out hb3)
 have D3 := Aside0.mk (D2.out.below hb3)
 clear hb3
 have S2 := Aside0.mk s2
 go_wp2_with fail
 refine (HN.out _ ad).mono ?_
 rintro e w4 ⟨g, rfl, he, hb4, hg⟩
 have s0 := pw_cell_below hb4 s0
 have s1 := pw_cell_below hb4 s1
 have s2 := pw_cell_below hb4 s2
 have s3 := pw_cell_below hb4 s3
 have E4 := Aside0.mk he
 have B4 := Aside0.mk (And.intro hb4 hg)
 clear hb4 he hg
 go_wp2_with fail
 refine (HND.out _ ad).mono ?_
 rintro e w5 ⟨rfl, hd5, hb5⟩
 have s0 := pw_cell_below hb5 s0
 have s1 := pw_cell_below hb5 s1
 have s2 := pw_cell_below hb5 s2
 have s3 := pw_cell_below hb5 s3
 have E5 : Aside0 (EncAt w5 g (.pointer (some ad)) (eA p q k wd (osP ps) 0)) := ⟨E4.out.below hb5⟩
 have X5 := Aside0.mk hd5
 have B5 := Aside0.mk (below_step B4.out.1 hb5)
 have GG := Aside0.mk (And.intro B4.out.2 (And.intro (show g < w4.heap.size from E4.out.lt) (show w3.heap.size ≤ w4.heap.size from B4.out.1.size)))
 generalize w4.heap.size = gd at *
 have R5 : Aside0 (Rel l (fedB l q k (putR l p q wd) ps 0) dNew) := ⟨by unfold fedB; rw [if_pos rfl]; exact R0.out⟩
 clear hd5 hb5 s0 s1 s2 s3
 go_wp2_with fail
 go_loopw [13, 14, 70] (fun v13 v14 v70 wr => ∃ (j : Nat) (d : D), v70 = .int .i64 (j : Int) ∧ v13 = .string (catB (dA k (osP ps) j) ++ hA k (osP ps) j) ∧ v14 = .string (catB (dA k (osP ps) j)) ∧ Aside0 (j ≤ ps.length ∧ nA (osP ps) j ≤ 400 * j) ∧ Aside0 (EncAt wr g (.pointer (some ad)) (eA p q k wd (osP ps) j)) ∧ Aside0 (DecAt wr gd (.pointer (some ad)) d) ∧ Aside0 (Rel l (fedB l q k (putR l p q wd) ps j) d) ∧ Aside0 (Below w3.heap.size w3 wr)) (fun _ _ v70 _ => ps.length - (intOf v70).toNat)
 case atStart => exact ⟨0, dNew, rfl, rfl, rfl, ⟨Nat.zero_le _, Nat.zero_le _⟩, E5, X5, R5, B5⟩
 case round =>
  obtain ⟨j, d, rfl, rfl, rfl, HJ, HE, HX, HRE, HB⟩ := hrel
  have hj := HJ.out
  have hlen := HC2.out.2
  by_cases hjn : j < ps.length
  ·have e1 : decide ((j : Int) < (ps.length : Int)) = true := decide_eq_true (by omega)
   have e2 : decide (j < ps.length) = true := decide_eq_true hjn
   have p1 : (0 : Int) ≤ (j : Int) := by omega
   have p2 : (j : Int) < (ps.length : Int) := by omega
   have zj : (j : Int) ≤ 30 := by omega
   obtain ⟨ad2, rfl, hcell⟩ := Kd.at_string (Kd.C_below HR2.out (below_step B3.out HB.out)) (j : Int) p1 p2
   obtain ⟨b, hget⟩ : ∃ b, ps[j]? = some b := ⟨_, List.getElem?_eq_getElem hjn⟩
   have hrd : rdOf ByteArray.empty ps (j : Int) = b := by unfold rdOf; rw [Int.toNat_natCast, List.getD_eq_getElem?_getD, hget]; rfl
   rw [hrd, Int.toNat_natCast] at hcell
   by_cases hb4 : b.size ≤ 400
   ·have u1 : decide ((400 : Int) < (b.size : Int)) = false := decide_eq_false (by omega)
    have u2 : decide (400 < b.size) = false := decide_eq_false (by omega)
    obtain ⟨r1, r2, r3, r4⟩ := run_P (k := k) hget
    have hall := all_P HPK.out.2.1.1 hget
    have hsz := (dA_ok HPK.out.2.1.1 (osP ps) j).2
    have hsz2 := (dA_ok HPK.out.2.1.1 (osP ps) (j + 1)).2
    have hlt2 := hA_lt HPK.out.2.1.1 (osP ps) (j + 1)
    have hok2 := (dA_ok HPK.out.2.1.1 (osP ps) (j + 1)).1
    have hbz := blksS_small HPK.out.2.2 _ hok2
    rw [ByteArray.size_append] at hsz hsz2
    have HWR := Aside0.mk (HW.out (eA p q k wd (osP ps) j) ⟨rfl, rfl, rfl, rfl⟩ rfl b (by show (hA k (osP ps) j).size + _ ≤ _; omega) (by show nA (osP ps) j + _ ≤ _; omega) wr g ad (DicF.of D3.out HB.out GG.out.1) HE.out)
    have hen : ({ eA p q k wd (osP ps) j with begun := true, held := (chk k ((eA p q k wd (osP ps) j).held ++ b)).2, written := (eA p q k wd (osP ps) j).written + b.size } : En) = eA p q k wd (osP ps) (j + 1) := by unfold eA; rw [r2, r3, r4]
    rw [hen] at HWR
    have hfz : (fedB l q k (putR l p q wd) ps (j + 1)).size ≤ 900000 := by
     unfold fedB
     rw [if_neg (by omega), ByteArray.size_append, headS_size]
     omega
    have hfn := fed_next (l := l) (q := q) (pay := putR l p q wd) HPK.out.2.1.1 hjn hget
    obtain ⟨a1, f1, _⟩ := fed_full HPK.out.1 HPK.out.2.1 HPK.out.2.2 ps j
    obtain ⟨a2, f2, _⟩ := fed_full HPK.out.1 HPK.out.2.1 HPK.out.2.2 ps (j + 1)
    have HFD : Aside0 (∀ W : World, DecAt W gd (.pointer (some ad)) d → DicF gd W (.pointer (some ad)) l → Calls Tryz.prog 43 #[.pointer (some ⟨gd, 0, none⟩), .string ((if bA (osP ps) j then ⟨#[]⟩ else headS q k (Idn l)) ++ blksS (putR l p q wd) (chk k (hA k (osP ps) j ++ b)).1)] W fun e w' => ∃ o d', e = .returned (.tuple #[.string o, .nilIface]) ∧ catB (dA k (osP ps) j) ++ o = catB (dA k (osP ps) (j + 1)) ∧ DecAt w' gd (.pointer (some ad)) d' ∧ Rel l (fedB l q k (putR l p q wd) ps (j + 1)) d' ∧ Mv gd W w') := ⟨fun W hx hdi => by
     have h := HF.out W gd ad d _ _ hx hdi HRE.out (by rw [hfn]; exact hfz)
     rw [hfn, f1, f2] at h
     exact h⟩
    have HRN := Aside0.mk (fun (d' : D) (h : Rel l (fedB l q k (putR l p q wd) ps (j + 1)) d') => rel_none HPK.out.1 HPK.out.2.1 HPK.out.2.2 ps (j + 1) h)
    have HJ2 := Aside0.mk (show j + 1 ≤ ps.length ∧ nA (osP ps) (j + 1) ≤ 400 * (j + 1) by omega)
    have hex : (catB (dA k (osP ps) (j + 1)) ++ hA k (osP ps) (j + 1)).extract 0 (catB (dA k (osP ps) (j + 1))).size = catB (dA k (osP ps) (j + 1)) := ext_front _ _
    have hE2 : (eA p q k wd (osP ps) (j + 1)).held = hA k (osP ps) (j + 1) := rfl
    have hsz3 : (catB (dA k (osP ps) (j + 1)) ++ hA k (osP ps) (j + 1)).size = (catB (dA k (osP ps) (j + 1))).size + (hA k (osP ps) (j + 1)).size := ByteArray.size_append ..
    have hsz4 : (catB (dA k (osP ps) j) ++ hA k (osP ps) j).size = (catB (dA k (osP ps) j)).size + (hA k (osP ps) j).size := ByteArray.size_append ..
    obtain ⟨OUT, hOUT⟩ : ∃ OUT, OUT = ((if bA (osP ps) j then (⟨#[]⟩ : ByteArray) else headS q k (Idn l)) ++ blksS (putR l p q wd) (chk k (hA k (osP ps) j ++ b)).1) := ⟨_, rfl⟩
    change Aside0 (Calls Tryz.prog 53 #[.pointer (some ⟨g, 0, none⟩), .string b] wr fun x w' => x = .returned (.tuple #[.string ((if bA (osP ps) j then ⟨#[]⟩ else headS q k (Idn l)) ++ blksS (putR l p q wd) (chk k (hA k (osP ps) j ++ b)).1), .nilIface]) ∧ EncAt w' g (.pointer (some ad)) (eA p q k wd (osP ps) (j + 1)) ∧ Mv g wr w') at HWR
    rw [← hOUT] at HWR HFD
    have HEH : Aside0 (∀ W : World, EncAt W g (.pointer (some ad)) (eA p q k wd (osP ps) (j + 1)) → Calls Tryz.prog 56 #[.pointer (some ⟨g, 0, none⟩)] W fun x w' => x = .returned (.int .i64 ((hA k (osP ps) (j + 1)).size : Int)) ∧ W = w') := ⟨fun W h => eheld_same h⟩
    have HALL := Aside0.mk hall
    have HENX := Aside0.mk (rfl : eA p q k wd (osP ps) (j + 1) = eA p q k wd (osP ps) (j + 1))
    have hn1 := HJ2.out.2
    generalize hHH : hA k (osP ps) (j + 1) = HH at *
    generalize hT2 : catB (dA k (osP ps) (j + 1)) = T2 at *
    generalize hAL2 : T2 ++ HH = AL2 at *
    generalize catB (dA k (osP ps) j) = T1 at *
    generalize hAL1 : T1 ++ hA k (osP ps) j = AL1 at *
    have y1 : (AL2.size : Int) = (T2.size : Int) + (HH.size : Int) := by omega
    have y2 : (HH.size : Int) < (k : Int) := by omega
    have y3 : (T2.size : Int) ≤ 20000 := by omega
    have y4 : (T1.size : Int) ≤ 20000 := by omega
    have y5 : (AL1.size : Int) ≤ 20000 := by omega
    have HYY := Aside0.mk (And.intro y1 (And.intro y2 (And.intro y3 (And.intro y4 (And.intro y5 hex)))))
    have HJN := Aside0.mk hjn
    have HEQS := Aside0.mk (And.intro hHH (And.intro hT2 hAL2))
    clear hj hlen hjn hrd hget r1 r2 r3 r4 hall hsz hsz2 hlt2 hok2 hbz hen hfz hfn f1 f2 hE2 hsz3 hsz4 hOUT hAL1 hAL2 hHH hT2 y1 y2 y3 y4 y5 hex hn1
    have v5 : (b.size : Int) ≤ 400 := by omega
    clear hb4
    go_wp2_with fail
    refine HWR.out.mono ?_
    rintro x w6 ⟨rfl, he6, hm6⟩
    have E6 := Aside0.mk he6
    have X6 : Aside0 (DecAt w6 gd (.pointer (some ad)) d) := ⟨hm6.blk HX.out (by have := GG.out.2.1; omega)⟩
    have B6 := Aside0.mk (hm6.low HB.out GG.out.1)
    clear he6 hm6
    go_wp2_with fail
    refine (HFD.out _ X6.out (DicF.of D3.out B6.out GG.out.2.2)).mono ?_
    rintro x w7 ⟨o, d', rfl, ho, hx7, hr7, hm7⟩
    have HO := Aside0.mk ho
    have E7 : Aside0 (EncAt w7 g (.pointer (some ad)) (eA p q k wd (osP ps) (j + 1))) := ⟨hm7.blk E6.out (by have := GG.out.2.1; omega)⟩
    have X7 := Aside0.mk hx7
    have R7 := Aside0.mk hr7
    have N7 := Aside0.mk (HRN.out d' hr7)
    have B7 := Aside0.mk (hm7.low B6.out GG.out.2.2)
    have hos : (T2.size : Int) = (T1.size : Int) + (o.size : Int) := by rw [← ho, ByteArray.size_append]; omega
    have zo : ¬ 9223372036854775807 < T1.size + o.size := by have := HYY.out; omega
    have za : ¬ 9223372036854775807 < AL1.size + b.size := by have := HYY.out; omega
    clear ho hx7 hr7 hm7 hos
    go_upto_region 17 with fail
    rw [← HALL.out, HO.out]
    have HXH : Aside0 (∀ W : World, DecAt W gd (.pointer (some ad)) d' → Calls Tryz.prog 61 #[.pointer (some ⟨gd, 0, none⟩)] W fun e w' => e = .returned (.int .i64 0) ∧ W = w') := ⟨fun W h => by have hh := xheld_calls h; rw [N7.out] at hh; exact hh⟩
    have k7 := pw_cell_below B7.out S2.out
    have f1 : decide ((HH.size : Int) < 0) = false := decide_eq_false (by omega)
    have f2 : decide ((k : Int) ≤ (HH.size : Int)) = false := decide_eq_false (by have := HYY.out; omega)
    have f2n : decide (k ≤ HH.size) = false := decide_eq_false (by have := HYY.out; omega)
    have f2o : ¬ k ≤ HH.size := by have := HYY.out; omega
    have f3 : wrap64 ((AL2.size : Int) - (T2.size : Int)) = (HH.size : Int) := by rw [Bridge.wr (by have := HYY.out; omega) (by have := HYY.out; omega)]; have := HYY.out; omega
    have f4 : IntKind.i64.wrap ((AL2.size : Int) - (T2.size : Int)) = (HH.size : Int) := by rw [IntWalk.i64_in _ (by have := HYY.out; omega)]; have := HYY.out; omega
    have f5 : (T2.size : Int) ≤ (AL2.size : Int) := by have := HYY.out; omega
    have f6 : T2.size ≤ AL2.size := by omega
    have f7 : AL2.extract 0 T2.size = T2 := HYY.out.2.2.2.2.2
    have f8 : (T2.toList == T2.toList) = true := beq_self_eq_true _
    have f9 : ((HH.size : Int) == (HH.size : Int)) = true := beq_self_eq_true _
    have HQ7 := Aside0.mk (fun n => (show Below w7.heap.size w7 (w7.drewN n) by repeat (first | exact Below.refl _ _ | apply pw_below_drewN)))
    clear f5
    go_quiet (first
     | ((go_at_call 56; exact quiet_same (HEH.out _ (E7.out.below (by repeat (first | exact Below.refl _ _ | apply below_drew | apply pw_below_drewN))))))
     | ((go_at_call 61; exact quiet_same (HXH.out _ (X7.out.below (by repeat (first | exact Below.refl _ _ | apply below_drew | apply pw_below_drewN)))))))
    have E8 : Aside0 (EncAt (w7.drewN nq) g (.pointer (some ad)) (eA p q k wd (osP ps) (j + 1))) := ⟨E7.out.below (HQ7.out nq)⟩
    have X8 : Aside0 (DecAt (w7.drewN nq) gd (.pointer (some ad)) d') := ⟨X7.out.below (HQ7.out nq)⟩
    have B8 := Aside0.mk (pw_below_drewN B7.out nq)
    clear k7 f1 f2 f2n f2o f3 f4 f6 f7 f8 f9 zo za
    go_wp2_with fail
    go_roundw
    case rel =>
     have hstep : (j : Int) + 1 = ((j + 1 : Nat) : Int) := by omega
     refine ⟨j + 1, d', congrArg (Value.int .i64) hstep, ?_, ?_, HJ2, E8, X8, R7, B8⟩
     ·rw [← HEQS.out.2.2, ← HEQS.out.2.1, ← HEQS.out.1]
     ·rw [← HEQS.out.2.1]
    case measure =>
     have h1 := HJN.out
     exact measI _ j h1
   ·have u1 : decide ((400 : Int) < (b.size : Int)) = true := decide_eq_true (by omega)
    have u2 : decide (400 < b.size) = true := decide_eq_true (by omega)
    clear hj hlen hjn hrd hget hb4
    go_wp2_with fail
    go_ret
    exact ⟨rfl, below_step B3.out HB.out⟩
  ·have hje : j = ps.length := by omega
   have e1 : decide ((j : Int) < (ps.length : Int)) = false := decide_eq_false (by omega)
   have e2 : decide (j < ps.length) = false := decide_eq_false hjn
   have hm := mod_P HPK.out.2.1.1 ps j hj.1
   have hEH : Aside0 (∀ W : World, EncAt W g (.pointer (some ad)) (eA p q k wd (osP ps) j) → Calls Tryz.prog 56 #[.pointer (some ⟨g, 0, none⟩)] W fun x w' => x = .returned (.int .i64 ((hA k (osP ps) j).size : Int)) ∧ W = w') := ⟨fun W h => eheld_same h⟩
   have hlt := hA_lt HPK.out.2.1.1 (osP ps) j
   have hsz := (dA_ok HPK.out.2.1.1 (osP ps) j).2
   have hzz : (catB (dA k (osP ps) j) ++ hA k (osP ps) j).size ≤ 20000 := by have := hj.2; rw [ByteArray.size_append] at hsz ⊢; omega
   generalize catB (dA k (osP ps) j) ++ hA k (osP ps) j = AL at *
   generalize hA k (osP ps) j = HH at *
   have k7 := pw_cell_below HB.out S2.out
   have g1 : ¬ (k : Int) = 0 := by omega
   have g2 : ((k : Int) == 0) = false := beq_eq_false_iff_ne.2 g1
   have g3 : Int.tmod (AL.size : Int) (k : Int) = (HH.size : Int) := by rw [← hm]; exact (Int.ofNat_tmod _ _).symm
   have g4 : wrap64 (HH.size : Int) = (HH.size : Int) := Bridge.wr (by omega) (by omega)
   have g5 : IntKind.i64.wrap (HH.size : Int) = (HH.size : Int) := IntWalk.i64_in _ (by omega)
   have f9 : ((HH.size : Int) == (HH.size : Int)) = true := beq_self_eq_true _
   clear hj hlen hjn hje hm hlt hsz hzz
   go_wp2_with fail
   go_quiet ((go_at_call 56; exact quiet_same (hEH.out _ (HE.out.below (by repeat (first | exact Below.refl _ _ | apply below_drew | apply pw_below_drewN))))))
   have B8 := Aside0.mk (pw_below_drewN HB.out nq)
   clear k7 g1 g2 g3 g4 g5 f9
   go_wp2_with fail
   go_ret
   exact ⟨rfl, below_step B3.out B8.out⟩
theorem coderHolds_law (A : Option Addr) (c : Nat) (l : List ByteArray) (p q k wd : Int) (A2 : Option Addr) (c2 : Nat) (ps : List ByteArray) (w : World) (hr : StrsIn w A l) (hc : l.length ≤ c) (h16 : l.length * 16 ≤ 140737488351232) (hs : ∀ s ∈ l, s.size ≤ 140737488351232) (hr2 : StrsIn w A2 ps) (hc2 : ps.length ≤ c2) (h162 : ps.length * 16 ≤ 140737488351232) (hs2 : ∀ s ∈ ps, s.size ≤ 140737488351232) :
  Calls Tryz.prog 14 #[.slice A l.length c, .agg #[.int .i64 p, .int .i64 q, .int .i64 k, .int .i64 wd], .slice A2 ps.length c2] w fun e w' => e = .returned (.bool true) ∧ Below w.heap.size w w' := by
 have HRC := Aside0.mk (fun W => rconf_calls p q k wd W)
 have s0 : (w.alloc (.cells #[.int .i64 p, .int .i64 q, .int .i64 k, .int .i64 wd] 24)).cell? ⟨w.heap.size, 0, none⟩ = some (.int .i64 p) := by simp
 have s1 : (w.alloc (.cells #[.int .i64 p, .int .i64 q, .int .i64 k, .int .i64 wd] 24)).cell? ⟨w.heap.size, 1, none⟩ = some (.int .i64 q) := by simp
 have s2 : (w.alloc (.cells #[.int .i64 p, .int .i64 q, .int .i64 k, .int .i64 wd] 24)).cell? ⟨w.heap.size, 2, none⟩ = some (.int .i64 k) := by simp
 have s3 : (w.alloc (.cells #[.int .i64 p, .int .i64 q, .int .i64 k, .int .i64 wd] 24)).cell? ⟨w.heap.size, 3, none⟩ = some (.int .i64 wd) := by simp
 have B0 := Aside0.mk ((Below.refl w.heap.size w).alloc (Nat.le_refl _) (.cells #[.int .i64 p, .int .i64 q, .int .i64 k, .int .i64 wd] 24))
 by_cases hG : Given l ⟨#[]⟩
 ·by_cases hC : cfgB p q k wd = true
  ·obtain ⟨hp, hq, hk, hwd⟩ : (0 ≤ p) ∧ (0 ≤ q ∧ q ≤ 1) ∧ (1 ≤ k ∧ k ≤ 1024) ∧ 0 ≤ wd := by
    have hC := hC
    unfold cfgB at hC
    rw [decide_eq_true_iff] at hC
    omega
   obtain ⟨pn, rfl⟩ := Int.eq_ofNat_of_zero_le hp
   obtain ⟨qn, rfl⟩ := Int.eq_ofNat_of_zero_le hq.1
   obtain ⟨kn, rfl⟩ := Int.eq_ofNat_of_zero_le (show 0 ≤ k by omega)
   obtain ⟨wn, rfl⟩ := Int.eq_ofNat_of_zero_le hwd
   by_cases hf0 : ps.length ≤ 30
   ·skip
    exact coderHolds_walk A c l pn qn kn wn A2 c2 ps w hr hc h16 hs hG hC hf0 hr2 hc2
   ·have HD := Aside0.mk (fun (W : World) (hr : StrsIn W A l) => dict24_yes l W hr hc (by omega) hs hG)
    have HC := Aside0.mk hC
    have v0 : decide ((30 : Int) < (ps.length : Int)) = true := decide_eq_true (by omega)
    have v1 : decide (30 < ps.length) = true := decide_eq_true (by omega)
    clear hp hq hk hwd hC hG hs h16 hc
    clear hf0
    have HAL := Aside0.mk (fun W => alive24_any W)
    have HR := Aside0.mk hr
    clear hr
    go_enter Tryz.func14, Tryz.ntmps14
    go_wp2_with fail
    refine (HD.out _ (Kd.C_below HR.out B0.out)).mono ?_
    rintro e w1 ⟨ad, rfl, hd, hb1⟩
    have s0 := pw_cell_below hb1 s0
    have s1 := pw_cell_below hb1 s1
    have s2 := pw_cell_below hb1 s2
    have s3 := pw_cell_below hb1 s3
    have B1 := Aside0.mk (below_step B0.out hb1)
    have D1 := Aside0.mk hd
    clear hb1 hd
    go_wp2_with fail
    refine (HRC.out _).mono ?_
    rw [HC.out]
    rintro e w2 ⟨rfl, hb2⟩
    have s0 := pw_cell_below hb2 s0
    have s1 := pw_cell_below hb2 s1
    have s2 := pw_cell_below hb2 s2
    have s3 := pw_cell_below hb2 s3
    have B2 := Aside0.mk (below_step B1.out hb2)
    have D2 := Aside0.mk (D1.out.below hb2)
    clear hb2
    go_wp2_with fail
    refine (HAL.out _).mono ?_
    rintro e w3 ⟨rfl, hb3⟩
    have s0 := pw_cell_below hb3 s0
    have s1 := pw_cell_below hb3 s1
    have s2 := pw_cell_below hb3 s2
    have s3 := pw_cell_below hb3 s3
    have B3 := Aside0.mk (below_step B2.out hb3)
    have D3 := Aside0.mk (D2.out.below hb3)
    clear hb3
    go_wp2_with fail
    go_ret
    exact ⟨rfl, B3.out⟩
  ·have HD := Aside0.mk (fun (W : World) (hr : StrsIn W A l) => dict24_yes l W hr hc (by omega) hs hG)
   have HC := Aside0.mk (Bool.eq_false_iff.2 hC)
   clear hC hG hs h16 hc
   have HAL := Aside0.mk (fun W => alive24_any W)
   have HR := Aside0.mk hr
   clear hr
   go_enter Tryz.func14, Tryz.ntmps14
   go_wp2_with fail
   refine (HD.out _ (Kd.C_below HR.out B0.out)).mono ?_
   rintro e w1 ⟨ad, rfl, hd, hb1⟩
   have s0 := pw_cell_below hb1 s0
   have s1 := pw_cell_below hb1 s1
   have s2 := pw_cell_below hb1 s2
   have s3 := pw_cell_below hb1 s3
   have B1 := Aside0.mk (below_step B0.out hb1)
   have D1 := Aside0.mk hd
   clear hb1 hd
   go_wp2_with fail
   refine (HRC.out _).mono ?_
   rw [HC.out]
   rintro e w2 ⟨rfl, hb2⟩
   have s0 := pw_cell_below hb2 s0
   have s1 := pw_cell_below hb2 s1
   have s2 := pw_cell_below hb2 s2
   have s3 := pw_cell_below hb2 s3
   have B2 := Aside0.mk (below_step B1.out hb2)
   have D2 := Aside0.mk (D1.out.below hb2)
   clear hb2
   go_wp2_with fail
   refine (HAL.out _).mono ?_
   rintro e w3 ⟨rfl, hb3⟩
   have s0 := pw_cell_below hb3 s0
   have s1 := pw_cell_below hb3 s1
   have s2 := pw_cell_below hb3 s2
   have s3 := pw_cell_below hb3 s3
   have B3 := Aside0.mk (below_step B2.out hb3)
   have D3 := Aside0.mk (D2.out.below hb3)
   clear hb3
   go_wp2_with fail
   go_ret
   exact ⟨rfl, B3.out⟩
 ·have HD := Aside0.mk (fun (W : World) (hr : StrsIn W A l) => dict24_no l W hr hc (by omega) hs hG)
  clear hG hs h16 hc
  have HAL := Aside0.mk (fun W => alive24_any W)
  have HR := Aside0.mk hr
  clear hr
  go_enter Tryz.func14, Tryz.ntmps14
  go_wp2_with fail
  refine (HD.out _ (Kd.C_below HR.out B0.out)).mono ?_
  rintro e w1 ⟨rfl, hb1⟩
  have B1 := Aside0.mk (below_step B0.out hb1)
  clear hb1
  go_wp2_with fail
  refine (HAL.out _).mono ?_
  rintro e w3 ⟨rfl, hb3⟩
  have B3 := Aside0.mk (below_step B1.out hb3)
  clear hb3
  go_wp2_with fail
  go_ret
  exact ⟨rfl, B3.out⟩
end Go.Proofs.YtepgkimlmoikmaaGreat
