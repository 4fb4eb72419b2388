/- ShB: a part of its proof (contracts of the functions that it reaches, and the plain mathematics behind them). -/
import Derived.Test.YtdpkgjahcapleaaGreatShB46
set_option linter.unusedVariables false
set_option linter.unusedSimpArgs false
set_option linter.unusedVariables false
set_option linter.unusedSimpArgs false
namespace Go.Proofs.YtdpkgjahcapleaaGreat
open Go.RowKit Go.Proofs.YtdpkgjahcapleaaGreat.Spec Go.Proofs.YtdpkgjahcapleaaGreatW.PrintWords Go.Proofs.YtdpkgjahcapleaaGreatW.PrintLast
open Go.Proofs.YtdpkgjahcapleaaGreatW.PrintMore
attribute [local go_sem ↓] Go.wp_at_zero Go.wp_at_succ
attribute [local go_sem] max2_int min2_int max_two min_two
theorem wrong_full {l : List ByteArray} {c k id : Nat} (hc : c ≤ 1) (hk : 1 ≤ k ∧ k ≤ 1024) (hid : id < 18446744073709551616) (hne : (id : Int) ≠ Idv l) : full l (headS c k id) = ⟨⟨#[]⟩, 0, 6, false⟩ := by
  have h := head_read c k id hc hk hid
  exact full_id (by rw [headS_size]; omega) (by rw [h]) (by rw [h]; exact hne)
set_option maxHeartbeats 2000000 in
set_option maxRecDepth 100000 in
theorem coderWrong_law (A : Option Addr) (c : Nat) (l : List ByteArray) (p q k wd : Int) (id : Int) (m : ByteArray) (w : World) (hr : StrsIn w A l) (hc : l.length ≤ c) (h16 : l.length * 16 ≤ 140737488351232) (hs : ∀ s ∈ l, s.size ≤ 140737488351232) (hid : 0 ≤ id ∧ id < 18446744073709551616) (hm : m.size ≤ 140737488351232) :
    Calls Tryz.prog 5 #[.slice A l.length c, .agg #[.int .i64 p, .int .i64 q, .int .i64 k, .int .i64 wd], .int .u64 id, .string m] w fun e w' => e = .returned (.bool true) ∧ Below w.heap.size w w' := by
  have HAL := Aside0.mk (fun W => alive24_any W)
  have HRC := Aside0.mk (fun W => rconf_calls p q k wd W)
  have HR := Aside0.mk hr
  have s0 : (w.alloc (.cells #[.int .i64 p, .int .i64 q, .int .i64 k, .int .i64 wd] 24)).cell? ⟨w.heap.size, 0, none⟩ = some (.int .i64 p) := by simp
  have s1 : (w.alloc (.cells #[.int .i64 p, .int .i64 q, .int .i64 k, .int .i64 wd] 24)).cell? ⟨w.heap.size, 1, none⟩ = some (.int .i64 q) := by simp
  have s2 : (w.alloc (.cells #[.int .i64 p, .int .i64 q, .int .i64 k, .int .i64 wd] 24)).cell? ⟨w.heap.size, 2, none⟩ = some (.int .i64 k) := by simp
  have s3 : (w.alloc (.cells #[.int .i64 p, .int .i64 q, .int .i64 k, .int .i64 wd] 24)).cell? ⟨w.heap.size, 3, none⟩ = some (.int .i64 wd) := by simp
  have B0 := Aside0.mk ((Below.refl w.heap.size w).alloc (Nat.le_refl _) (.cells #[.int .i64 p, .int .i64 q, .int .i64 k, .int .i64 wd] 24))
  by_cases hG : Given l ⟨#[]⟩
  · have HD := Aside0.mk (fun (W : World) (hr : StrsIn W A l) => dict24_yes l W hr hc (by omega) hs hG)
    obtain ⟨hl, hss⟩ := phrases_sizes hG.2.2
    clear hr hc h16 hs hG
    by_cases hC : cfgB p q k wd = true
    · have HC := Aside0.mk hC
      by_cases hM : m.size ≤ 300
      · have v1 : decide ((300 : Int) < (m.size : Int)) = false := decide_eq_false (by omega)
        have v2 : decide (300 < m.size) = false := decide_eq_false (by omega)
        obtain ⟨hq, hk, hid'⟩ : (0 ≤ q ∧ q ≤ 1) ∧ (1 ≤ k ∧ k ≤ 1024) ∧ 0 ≤ id := by
          unfold cfgB at hC
          rw [decide_eq_true_iff] at hC
          omega
        obtain ⟨qn, rfl⟩ := Int.eq_ofNat_of_zero_le hq.1
        obtain ⟨kn, rfl⟩ := Int.eq_ofNat_of_zero_le (show 0 ≤ k by omega)
        obtain ⟨idn, rfl⟩ := Int.eq_ofNat_of_zero_le hid'
        have HH := Aside0.mk (fun W => rhead_calls qn kn idn (by omega) (by omega) (by omega) W)
        have HI := Aside0.mk (fun (W : World) (ad : Addr) (h : DictAt W (.pointer (some ad)) l) => id_any h hl (fun s h => by have := (hss s h).2; omega))
        have HL := Aside0.mk hl
        have HSS := Aside0.mk hss
        have HM := Aside0.mk hM
        have hz := headS_size qn kn idn
        by_cases hE : (idn : Int) = Idv l
        · have HE := Aside0.mk hE
          have v3 : decide ((idn : Int) = Bridge.fnv (Spec.bytes l)) = true := decide_eq_true hE
          have v4 : ((idn : Int) == Bridge.fnv (Spec.bytes l)) = true := beq_iff_eq.2 hE
          generalize Bridge.fnv (Spec.bytes l) = F at *
          clear hE hss hl hM hz hq hk hid hid' hC hm
          go_enter Tryz.func5, Tryz.ntmps5
          go_wp2_with fail
          refine (HD.out _ (Kd.C_below HR.out B0.out)).mono ?_
          rintro e w1 ⟨ad, rfl, hd, hb1⟩
          have s0 := pw_cell_below hb1 s0
          have s1 := pw_cell_below hb1 s1
          have s2 := pw_cell_below hb1 s2
          have s3 := pw_cell_below hb1 s3
          have B1 := Aside0.mk (below_step B0.out hb1)
          have D1 := Aside0.mk hd
          clear hb1 hd
          go_wp2_with fail
          refine (HRC.out _).mono ?_
          rw [HC.out]
          rintro e w2 ⟨rfl, hb2⟩
          have B2 := Aside0.mk (below_step B1.out hb2)
          have D2 := Aside0.mk (D1.out.below hb2)
          clear hb2
          go_wp2_with fail
          refine (HAL.out _).mono ?_
          rintro e w3 ⟨rfl, hb3⟩
          have B3 := Aside0.mk (below_step B2.out hb3)
          have D3 := Aside0.mk (D2.out.below hb3)
          clear hb3
          go_wp2_with fail
          refine (newdec_calls rfl _).mono ?_
          rintro e w4 ⟨rfl, hx, hb4⟩
          have B4 := Aside0.mk (below_step B3.out hb4)
          have D4 := Aside0.mk (D3.out.below hb4)
          clear hb4 hx
          go_wp2_with fail
          refine (HI.out _ ad D4.out).mono ?_
          rintro e w5 ⟨rfl, hb5⟩
          have B5 := Aside0.mk (below_step B4.out hb5)
          clear hb5
          go_wp2_with fail
          go_ret
          exact ⟨rfl, B5.out⟩
        · have HNE := Aside0.mk hE
          have v3 : decide ((idn : Int) = Bridge.fnv (Spec.bytes l)) = false := decide_eq_false hE
          have v4 : ((idn : Int) == Bridge.fnv (Spec.bytes l)) = false := beq_eq_false_iff_ne.2 hE
          have hf0 : full l (⟨#[]⟩ ++ (headS qn kn idn).extract 0 16) = ⟨⟨#[]⟩, 0, 0, false⟩ := by
            refine full_short ?_
            rw [ByteArray.size_append, ext_sz _ _ _ (by omega)]
            decide
          have hjoin : (⟨#[]⟩ ++ (headS qn kn idn).extract 0 16) ++ (headS qn kn idn).extract 16 (headS qn kn idn).size = headS qn kn idn := by
            apply u_inj
            rw [ba_nil_append, u_app, u_ext, u_ext, List.take_of_length_le (l := (u (headS qn kn idn)).drop 16) (by rw [List.length_drop, u_size]; omega)]
            exact List.take_append_drop 16 (u (headS qn kn idn))
          have hf1 : full l ((⟨#[]⟩ ++ (headS qn kn idn).extract 0 16) ++ (headS qn kn idn).extract 16 (headS qn kn idn).size) = ⟨⟨#[]⟩, 0, 6, false⟩ := by
            rw [hjoin]
            exact wrong_full (by omega) (by omega) (by omega) hE
          have hf2 : full l (((⟨#[]⟩ ++ (headS qn kn idn).extract 0 16) ++ (headS qn kn idn).extract 16 (headS qn kn idn).size) ++ m) = ⟨⟨#[]⟩, 0, 6, false⟩ := by
            rw [full_err (by rw [hf1]; decide), hf1]
          have hn0 : full l ⟨#[]⟩ = ⟨⟨#[]⟩, 0, 0, false⟩ := full_short (by decide)
          have hz1 : (⟨#[]⟩ ++ (headS qn kn idn).extract 0 16).size ≤ 900000 := by rw [ByteArray.size_append, ext_sz _ _ _ (by omega)]; decide
          have hz2 : ((⟨#[]⟩ ++ (headS qn kn idn).extract 0 16) ++ (headS qn kn idn).extract 16 (headS qn kn idn).size).size ≤ 900000 := by rw [hjoin, hz]; decide
          have hz3 : (((⟨#[]⟩ ++ (headS qn kn idn).extract 0 16) ++ (headS qn kn idn).extract 16 (headS qn kn idn).size) ++ m).size ≤ 900000 := by rw [ByteArray.size_append, hjoin, hz]; omega
          clear hjoin
          have HT : Aside0 (∀ W, Calls Tryz.prog 24 #[.iface 63 (.agg #[.int .i64 6, .int .i64 0]), .int .i64 6, .int .i64 0] W fun e w' => e = .returned (.bool true) ∧ Below W.heap.size W w') := ⟨fun W => by
            have h := told24_any 6 0 6 0 W
            rw [errV_some (by decide)] at h
            exact h⟩
          generalize headS qn kn idn = H at *
          have HF1 := Aside0.mk (fun (W : World) (g : Nat) (ad : Addr) (h : DecAt W g (.pointer (some ad)) dNew) (hdi : DicF g W (.pointer (some ad)) l) => feed_any h hdi rfl hl hss (rel_new l) (H.extract 0 16) hz1)
          have HF2 := Aside0.mk (fun (W : World) (g : Nat) (ad : Addr) (d : D) (h : DecAt W g (.pointer (some ad)) d) (hdi : DicF g W (.pointer (some ad)) l) (hr : Rel l _ d) => feed_any h hdi rfl hl hss hr (H.extract 16 H.size) hz2)
          have HF3 := Aside0.mk (fun (W : World) (g : Nat) (ad : Addr) (d : D) (h : DecAt W g (.pointer (some ad)) d) (hdi : DicF g W (.pointer (some ad)) l) (hr : Rel l _ d) => feed_any h hdi rfl hl hss hr m hz3)
          have hnn : errV (Sc.code ⟨⟨#[]⟩, 0, 0, false⟩) (((Sc.at_ ⟨⟨#[]⟩, 0, 0, false⟩ : Nat)) : Int) = .nilIface := rfl
          rw [hf0, hn0, hnn] at HF1
          clear hnn
          rw [hf1, hf0] at HF2
          rw [hf2, hf1] at HF3
          rw [errV_some (by decide)] at HF2 HF3
          have HW := Aside0.mk hf2
          have p16 : (16 : Int) ≤ (H.size : Int) := by omega
          have p16' : 16 ≤ H.size := by omega
          generalize Bridge.fnv (Spec.bytes l) = F at *
          clear hE hss hl hM hz hq hk hid hid' hC hm hf0 hf1 hf2 hn0 hz1 hz2 hz3
          go_enter Tryz.func5, Tryz.ntmps5
          go_wp2_with fail
          refine (HD.out _ (Kd.C_below HR.out B0.out)).mono ?_
          rintro e w1 ⟨ad, rfl, hd, hb1⟩
          have s0 := pw_cell_below hb1 s0
          have s1 := pw_cell_below hb1 s1
          have s2 := pw_cell_below hb1 s2
          have s3 := pw_cell_below hb1 s3
          have B1 := Aside0.mk (below_step B0.out hb1)
          have D1 := Aside0.mk hd
          clear hb1 hd
          go_wp2_with fail
          refine (HRC.out _).mono ?_
          rw [HC.out]
          rintro e w2 ⟨rfl, hb2⟩
          have s0 := pw_cell_below hb2 s0
          have s1 := pw_cell_below hb2 s1
          have s2 := pw_cell_below hb2 s2
          have s3 := pw_cell_below hb2 s3
          have B2 := Aside0.mk (below_step B1.out hb2)
          have D2 := Aside0.mk (D1.out.below hb2)
          clear hb2
          go_wp2_with fail
          refine (HAL.out _).mono ?_
          rintro e w3 ⟨rfl, hb3⟩
          have s0 := pw_cell_below hb3 s0
          have s1 := pw_cell_below hb3 s1
          have s2 := pw_cell_below hb3 s2
          have s3 := pw_cell_below hb3 s3
          have B3 := Aside0.mk (below_step B2.out hb3)
          have D3 := Aside0.mk (D2.out.below hb3)
          clear hb3
          go_wp2_with fail
          refine (newdec_calls rfl _).mono ?_
          rintro e w4 ⟨rfl, hx, hb4⟩
          have s0 := pw_cell_below hb4 s0
          have s1 := pw_cell_below hb4 s1
          have s2 := pw_cell_below hb4 s2
          have s3 := pw_cell_below hb4 s3
          have D4 := Aside0.mk (D3.out.below hb4)
          have X4 := Aside0.mk hx
          have F4 := Aside0.mk (DicF.of D3.out hb4 (Nat.le_refl _))
          have B4 := Aside0.mk (below_step B3.out hb4)
          have G4 := Aside0.mk B3.out.size
          clear hb4 hx
          generalize w3.heap.size = g at *
          go_wp2_with fail
          refine (HI.out _ ad D4.out).mono ?_
          rintro e w5 ⟨rfl, hb5⟩
          have s0 := pw_cell_below hb5 s0
          have s1 := pw_cell_below hb5 s1
          have s2 := pw_cell_below hb5 s2
          have s3 := pw_cell_below hb5 s3
          have B5 := Aside0.mk (below_step B4.out hb5)
          have X5 := Aside0.mk (X4.out.below hb5)
          have F5 := Aside0.mk (F4.out.step (Mv.of hb5))
          clear hb5
          go_wp2_with fail
          refine (HH.out _).mono ?_
          rintro e w6 ⟨rfl, hb6⟩
          have B6 := Aside0.mk (below_step B5.out hb6)
          have X6 := Aside0.mk (X5.out.below hb6)
          have F6 := Aside0.mk (F5.out.step (Mv.of hb6))
          clear hb6
          go_wp2_with fail
          refine (HF1.out _ g ad X6.out F6.out).mono ?_
          rintro e w7 ⟨o1, d1, rfl, ho1, hx, hr, hm⟩
          have ho1' : o1 = ⟨#[]⟩ := by rw [ba_nil_append] at ho1; exact ho1
          subst ho1'
          have X7 := Aside0.mk hx
          have R7 := Aside0.mk hr
          have M7 := Aside0.mk hm
          have F7 := Aside0.mk (F6.out.step hm)
          clear ho1 hx hr hm
          go_wp2_with fail
          refine (HF2.out _ g ad d1 X7.out F7.out R7.out).mono ?_
          rintro e w8 ⟨o2, d2, rfl, ho2, hx, hr, hm⟩
          have ho2' : o2 = ⟨#[]⟩ := by rw [ba_nil_append] at ho2; exact ho2
          subst ho2'
          have X8 := Aside0.mk hx
          have R8 := Aside0.mk hr
          have M8 := Aside0.mk (M7.out.trans hm)
          have F8 := Aside0.mk (F7.out.step hm)
          clear ho2 hx hr hm
          go_wp2_with fail
          refine (HF3.out _ g ad d2 X8.out F8.out R8.out).mono ?_
          rintro e w9 ⟨o3, d3, rfl, ho3, hx, hr, hm⟩
          have ho3' : o3 = ⟨#[]⟩ := by rw [ba_nil_append] at ho3; exact ho3
          subst ho3'
          have X9 := Aside0.mk hx
          have hld := (hr.2 (by rw [HW.out]; decide)).2.2
          have M9 := Aside0.mk (M8.out.trans hm)
          have HLD : Aside0 (d3.held.size = 0) := ⟨by rw [hld]; rfl⟩
          clear ho3 hx hr hm hld
          go_wp2_with fail
          refine (HT.out _).mono ?_
          rintro e w10 ⟨rfl, hb10⟩
          have X10 := Aside0.mk (X9.out.below hb10)
          have M10 := Aside0.mk (M9.out.then hb10)
          clear hb10
          go_wp2_with fail
          refine (HT.out _).mono ?_
          rintro e w11 ⟨rfl, hb11⟩
          have X11 := Aside0.mk (X10.out.below hb11)
          have M11 := Aside0.mk (M10.out.then hb11)
          clear hb11
          go_wp2_with fail
          refine (xheld_calls X11.out).mono ?_
          rw [HLD.out]
          rintro e w12 ⟨rfl, rfl⟩
          go_wp2_with fail
          go_ret
          exact ⟨rfl, M11.out.low B6.out G4.out⟩
      · have v1 : decide ((300 : Int) < (m.size : Int)) = true := decide_eq_true (by omega)
        have v2 : decide (300 < m.size) = true := decide_eq_true (by omega)
        clear hM hm hid hC hss hl
        go_enter Tryz.func5, Tryz.ntmps5
        go_wp2_with fail
        refine (HD.out _ (Kd.C_below HR.out B0.out)).mono ?_
        rintro e w1 ⟨ad, rfl, hd, hb1⟩
        have s0 := pw_cell_below hb1 s0
        have s1 := pw_cell_below hb1 s1
        have s2 := pw_cell_below hb1 s2
        have s3 := pw_cell_below hb1 s3
        have B1 := Aside0.mk (below_step B0.out hb1)
        clear hb1 hd
        go_wp2_with fail
        refine (HRC.out _).mono ?_
        rw [HC.out]
        rintro e w2 ⟨rfl, hb2⟩
        have B2 := Aside0.mk (below_step B1.out hb2)
        clear hb2
        go_wp2_with fail
        refine (HAL.out _).mono ?_
        rintro e w3 ⟨rfl, hb3⟩
        have B3 := Aside0.mk (below_step B2.out hb3)
        clear hb3
        go_wp2_with fail
        go_ret
        exact ⟨rfl, B3.out⟩
    · have HC := Aside0.mk (Bool.eq_false_iff.2 hC)
      clear hC hm hid hss hl
      go_enter Tryz.func5, Tryz.ntmps5
      go_wp2_with fail
      refine (HD.out _ (Kd.C_below HR.out B0.out)).mono ?_
      rintro e w1 ⟨ad, rfl, hd, hb1⟩
      have s0 := pw_cell_below hb1 s0
      have s1 := pw_cell_below hb1 s1
      have s2 := pw_cell_below hb1 s2
      have s3 := pw_cell_below hb1 s3
      have B1 := Aside0.mk (below_step B0.out hb1)
      clear hb1 hd
      go_wp2_with fail
      refine (HRC.out _).mono ?_
      rw [HC.out]
      rintro e w2 ⟨rfl, hb2⟩
      have B2 := Aside0.mk (below_step B1.out hb2)
      clear hb2
      go_wp2_with fail
      refine (HAL.out _).mono ?_
      rintro e w3 ⟨rfl, hb3⟩
      have B3 := Aside0.mk (below_step B2.out hb3)
      clear hb3
      go_wp2_with fail
      go_ret
      exact ⟨rfl, B3.out⟩
  · have HD := Aside0.mk (fun (W : World) (hr : StrsIn W A l) => dict24_no l W hr hc (by omega) hs hG)
    clear hr hc h16 hs hG hid hm
    go_enter Tryz.func5, Tryz.ntmps5
    go_wp2_with fail
    refine (HD.out _ (Kd.C_below HR.out B0.out)).mono ?_
    rintro e w1 ⟨rfl, hb1⟩
    have B1 := Aside0.mk (below_step B0.out hb1)
    clear hb1
    go_wp2_with fail
    refine (HAL.out _).mono ?_
    rintro e w3 ⟨rfl, hb3⟩
    have B3 := Aside0.mk (below_step B1.out hb3)
    clear hb3
    go_wp2_with fail
    go_ret
    exact ⟨rfl, B3.out⟩
end Go.Proofs.YtdpkgjahcapleaaGreat
