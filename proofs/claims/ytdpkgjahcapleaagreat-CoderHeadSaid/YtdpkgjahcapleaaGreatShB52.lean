/- ShB: a part of its proof (contracts of the functions that it reaches, and the plain mathematics behind them). -/
import Derived.Test.YtdpkgjahcapleaaGreatShB46
import Derived.Test.YtdpkgjahcapleaaGreatShB51
set_option linter.unusedVariables false
set_option linter.unusedSimpArgs false
set_option linter.unusedVariables false
set_option linter.unusedSimpArgs false
namespace Go.Proofs.YtdpkgjahcapleaaGreat
open Go.RowKit Go.Proofs.YtdpkgjahcapleaaGreat.Spec Go.Proofs.YtdpkgjahcapleaaGreatW.PrintWords Go.Proofs.YtdpkgjahcapleaaGreatW.PrintLast
open Go.Proofs.YtdpkgjahcapleaaGreatW.PrintMore
attribute [local go_sem ↓] Go.wp_at_zero Go.wp_at_succ
attribute [local go_sem] max2_int min2_int max_two min_two
set_option maxHeartbeats 2000000 in
set_option maxRecDepth 100000 in
theorem coderHead_law (A : Option Addr) (c : Nat) (l : List ByteArray) (p q k wd : Int) (n : Int) (w : World) (hr : StrsIn w A l) (hc : l.length ≤ c) (h16 : l.length * 16 ≤ 140737488351232) (hs : ∀ s ∈ l, s.size ≤ 140737488351232) (hn : (Lit.int .i64 n).wf = true) :
    Calls Tryz.prog 3 #[.slice A l.length c, .agg #[.int .i64 p, .int .i64 q, .int .i64 k, .int .i64 wd], .int .i64 n] w fun e w' => e = .returned (.bool true) ∧ Below w.heap.size w w' := by
  have HAL := Aside0.mk (fun W => alive24_any W)
  have HRC := Aside0.mk (fun W => rconf_calls p q k wd W)
  have HR := Aside0.mk hr
  have s0 : (w.alloc (.cells #[.int .i64 p, .int .i64 q, .int .i64 k, .int .i64 wd] 24)).cell? ⟨w.heap.size, 0, none⟩ = some (.int .i64 p) := by simp
  have s1 : (w.alloc (.cells #[.int .i64 p, .int .i64 q, .int .i64 k, .int .i64 wd] 24)).cell? ⟨w.heap.size, 1, none⟩ = some (.int .i64 q) := by simp
  have s2 : (w.alloc (.cells #[.int .i64 p, .int .i64 q, .int .i64 k, .int .i64 wd] 24)).cell? ⟨w.heap.size, 2, none⟩ = some (.int .i64 k) := by simp
  have s3 : (w.alloc (.cells #[.int .i64 p, .int .i64 q, .int .i64 k, .int .i64 wd] 24)).cell? ⟨w.heap.size, 3, none⟩ = some (.int .i64 wd) := by simp
  have B0 := Aside0.mk ((Below.refl w.heap.size w).alloc (Nat.le_refl _) (.cells #[.int .i64 p, .int .i64 q, .int .i64 k, .int .i64 wd] 24))
  by_cases hG : Given l ⟨#[]⟩
  · have HD := Aside0.mk (fun (W : World) (hr : StrsIn W A l) => dict24_yes l W hr hc (by omega) hs hG)
    obtain ⟨hl, hss⟩ := phrases_sizes hG.2.2
    clear hr hc h16 hs hG
    by_cases hC : cfgB p q k wd = true
    · have HC := Aside0.mk hC
      obtain ⟨hp, hq, hk, hwd⟩ : (0 ≤ p) ∧ (0 ≤ q ∧ q ≤ 1) ∧ (1 ≤ k ∧ k ≤ 1024) ∧ 0 ≤ wd := by
        have hC := hC
        unfold cfgB at hC
        rw [decide_eq_true_iff] at hC
        omega
      obtain ⟨pn, rfl⟩ := Int.eq_ofNat_of_zero_le hp
      obtain ⟨qn, rfl⟩ := Int.eq_ofNat_of_zero_le hq.1
      obtain ⟨kn, rfl⟩ := Int.eq_ofNat_of_zero_le (show 0 ≤ k by omega)
      obtain ⟨wn, rfl⟩ := Int.eq_ofNat_of_zero_le hwd
      obtain ⟨i1, i2⟩ := idn_is l
      have HI := Aside0.mk (fun (W : World) (ad : Addr) (h : DictAt W (.pointer (some ad)) l) => id_any h hl (fun s h => by have := (hss s h).2; omega))
      rw [← i1] at HI
      have HH := Aside0.mk (fun W => rhead_calls qn kn (Idn l) (by omega) (by omega) i2 W)
      have HB : Aside0 (∀ (W : World) (g : Nat) (ad : Addr), EncAt W g (.pointer (some ad)) (eNew pn qn kn wn) → DicF g W (.pointer (some ad)) l → Calls Tryz.prog 40 #[.pointer (some ⟨g, 0, none⟩)] W fun x w' => x = .returned (.tuple #[.string (headS qn kn (Idn l)), .nilIface]) ∧ EncAt w' g (.pointer (some ad)) ⟨pn, qn, kn, wn, ⟨#[]⟩, 0, true, false⟩ ∧ Mv g W w') := ⟨fun W g ad h hdi => by
        have hb := ebegin_first h hdi rfl hl (fun s h => by have := (hss s h).2; omega) rfl rfl (by show qn ≤ 1; omega) (by show 1 ≤ kn ∧ kn ≤ 1024; omega)
        dsimp only [eNew] at hb
        exact hb⟩
      have HBA : Aside0 (∀ (W : World) (g : Nat) (ad : Addr), EncAt W g (.pointer (some ad)) ⟨pn, qn, kn, wn, ⟨#[]⟩, 0, true, false⟩ → Calls Tryz.prog 40 #[.pointer (some ⟨g, 0, none⟩)] W fun x w' => x = .returned (.tuple #[.string ⟨#[]⟩, .nilIface]) ∧ EncAt w' g (.pointer (some ad)) ⟨pn, qn, kn, wn, ⟨#[]⟩, 0, true, false⟩ ∧ Mv g W w') := ⟨fun W g ad h => by
        refine (ebegin_again h rfl rfl rfl).mono ?_
        rintro x W' ⟨rfl, rfl⟩
        exact ⟨rfl, h, Mv.refl _ _⟩⟩
      have HKN : Aside0 (1 ≤ kn) := ⟨by omega⟩
      have hz : (headS qn kn (Idn l)).size = 17 := headS_size _ _ _
      have HN := Aside0.mk (fun (W : World) (ad : Addr) => newenc_yes (P := .pointer (some ad)) rfl pn qn kn wn hC W)
      have HZ := Aside0.mk hz
      have hez := endS_size 0
      have HRE : Aside0 (∀ W : World, Calls Tryz.prog 19 #[.agg #[.int .i64 0, .int .i64 0, .int .u32 0, .string ⟨#[]⟩]] W fun e w' => e = .returned (.tuple #[.string (endS 0), .bool true]) ∧ Below W.heap.size W w') := ⟨fun W => rframe_end 0 (by decide) W⟩
      have hrem : (wrap64 (n.tmod 3 + 3)).tmod 3 = 0 ∨ (wrap64 (n.tmod 3 + 3)).tmod 3 = 1 ∨ (wrap64 (n.tmod 3 + 3)).tmod 3 = 2 := by
        have h0 : -3 < n.tmod 3 ∧ n.tmod 3 < 3 := by
          rcases Int.le_total 0 n with h | h
          · rw [Int.tmod_eq_emod_of_nonneg h]; omega
          · obtain ⟨m, rfl⟩ : ∃ m, n = -m := ⟨-n, by omega⟩
            rw [Int.neg_tmod, Int.tmod_eq_emod_of_nonneg (by omega)]
            omega
        obtain ⟨m, hm⟩ := Int.eq_ofNat_of_zero_le (show 0 ≤ n.tmod 3 + 3 by omega)
        have h1 : wrap64 (n.tmod 3 + 3) = (m : Int) := by
          rw [hm]
          exact Bridge.wrN _ (by omega)
        rw [h1, Int.tmod_eq_emod_of_nonneg (by omega)]
        omega
      generalize headS qn kn (Idn l) = H at *
      have u1 : ¬ 9223372036854775807 < H.size + (endS 0).size := by omega
      clear hp hq hk hwd hC hz i1 i2 hez hss hl hn
      rcases hrem with h3 | h3 | h3
      · skip
        go_enter Tryz.func3, Tryz.ntmps3
        go_wp2_with fail
        refine (HD.out _ (Kd.C_below HR.out B0.out)).mono ?_
        rintro e w1 ⟨ad, rfl, hd, hb1⟩
        have s0 := pw_cell_below hb1 s0
        have s1 := pw_cell_below hb1 s1
        have s2 := pw_cell_below hb1 s2
        have s3 := pw_cell_below hb1 s3
        have B1 := Aside0.mk (below_step B0.out hb1)
        have D1 := Aside0.mk hd
        clear hb1 hd
        go_wp2_with fail
        refine (HRC.out _).mono ?_
        rw [HC.out]
        rintro e w2 ⟨rfl, hb2⟩
        have s0 := pw_cell_below hb2 s0
        have s1 := pw_cell_below hb2 s1
        have s2 := pw_cell_below hb2 s2
        have s3 := pw_cell_below hb2 s3
        have B2 := Aside0.mk (below_step B1.out hb2)
        have D2 := Aside0.mk (D1.out.below hb2)
        clear hb2
        go_wp2_with fail
        refine (HAL.out _).mono ?_
        rintro e w3 ⟨rfl, hb3⟩
        have s0 := pw_cell_below hb3 s0
        have s1 := pw_cell_below hb3 s1
        have s2 := pw_cell_below hb3 s2
        have s3 := pw_cell_below hb3 s3
        have B3 := Aside0.mk (below_step B2.out hb3)
        have D3 := Aside0.mk (D2.out.below hb3)
        clear hb3
        go_wp2_with fail
        refine (HN.out _ ad).mono ?_
        rintro e w4 ⟨g, rfl, he, hb4, hg⟩
        have s0 := pw_cell_below hb4 s0
        have s1 := pw_cell_below hb4 s1
        have s2 := pw_cell_below hb4 s2
        have s3 := pw_cell_below hb4 s3
        have E4 := Aside0.mk he
        have D4 := Aside0.mk (D3.out.below hb4)
        have F4 := Aside0.mk (DicF.of D3.out hb4 hg)
        have B4 := Aside0.mk (below_step B3.out hb4)
        have G4 := Aside0.mk (Nat.le_trans B3.out.size hg)
        clear hb4 he hg
        go_wp2_with fail
        go_region_held3 (fun w' => w'.cell? ⟨w.heap.size, 1, none⟩ = some (.int .i64 (qn : Int)) ∧ w'.cell? ⟨w.heap.size, 2, none⟩ = some (.int .i64 (kn : Int)))
          (first | exact ⟨s1, s2⟩ | exact ⟨pw_cell_below h2 s1, pw_cell_below h2 s2⟩)
          ((first
            | (go_at_call 15; refine (HI.out _ ad (D4.out.below (by repeat (first | exact Below.refl _ _ | apply below_alloc | apply below_drew | apply pw_below_drewN)))).mono ?_; rintro x w5 ⟨rfl, hb5⟩; have h2 := below_step (below_drew (Below.refl w4.heap.size w4)) hb5)
            | (go_at_call 14; refine (HH.out _).mono ?_; rintro x w6 ⟨rfl, hb6⟩; have h2 := below_step h2 hb6)))
        have B6 := Aside0.mk (below_step B4.out h2)
        have E6 := Aside0.mk (E4.out.below h2)
        have F6 := Aside0.mk (F4.out.step (Mv.of h2))
        clear h2
        go_wp2_with fail
        refine (write_zero (HB.out _ g ad E6.out F6.out) HKN.out rfl (Nat.zero_le _) _ rfl).mono ?_
        rintro x w7 ⟨rfl, he7, hm7⟩
        have E7 := Aside0.mk he7
        have M7 := Aside0.mk hm7
        clear he7 hm7
        go_wp2_with fail
        refine (flush_zero (HBA.out _ g ad E7.out) rfl).mono ?_
        rintro x w8 ⟨rfl, he8, hm8⟩
        have M8 := Aside0.mk (M7.out.trans hm8)
        clear he8 hm8
        go_wp2_with fail
        go_ret
        exact ⟨rfl, M8.out.low B6.out G4.out⟩
      · skip
        go_enter Tryz.func3, Tryz.ntmps3
        go_wp2_with fail
        refine (HD.out _ (Kd.C_below HR.out B0.out)).mono ?_
        rintro e w1 ⟨ad, rfl, hd, hb1⟩
        have s0 := pw_cell_below hb1 s0
        have s1 := pw_cell_below hb1 s1
        have s2 := pw_cell_below hb1 s2
        have s3 := pw_cell_below hb1 s3
        have B1 := Aside0.mk (below_step B0.out hb1)
        have D1 := Aside0.mk hd
        clear hb1 hd
        go_wp2_with fail
        refine (HRC.out _).mono ?_
        rw [HC.out]
        rintro e w2 ⟨rfl, hb2⟩
        have s0 := pw_cell_below hb2 s0
        have s1 := pw_cell_below hb2 s1
        have s2 := pw_cell_below hb2 s2
        have s3 := pw_cell_below hb2 s3
        have B2 := Aside0.mk (below_step B1.out hb2)
        have D2 := Aside0.mk (D1.out.below hb2)
        clear hb2
        go_wp2_with fail
        refine (HAL.out _).mono ?_
        rintro e w3 ⟨rfl, hb3⟩
        have s0 := pw_cell_below hb3 s0
        have s1 := pw_cell_below hb3 s1
        have s2 := pw_cell_below hb3 s2
        have s3 := pw_cell_below hb3 s3
        have B3 := Aside0.mk (below_step B2.out hb3)
        have D3 := Aside0.mk (D2.out.below hb3)
        clear hb3
        go_wp2_with fail
        refine (HN.out _ ad).mono ?_
        rintro e w4 ⟨g, rfl, he, hb4, hg⟩
        have s0 := pw_cell_below hb4 s0
        have s1 := pw_cell_below hb4 s1
        have s2 := pw_cell_below hb4 s2
        have s3 := pw_cell_below hb4 s3
        have E4 := Aside0.mk he
        have D4 := Aside0.mk (D3.out.below hb4)
        have F4 := Aside0.mk (DicF.of D3.out hb4 hg)
        have B4 := Aside0.mk (below_step B3.out hb4)
        have G4 := Aside0.mk (Nat.le_trans B3.out.size hg)
        clear hb4 he hg
        go_wp2_with fail
        go_region_held3 (fun w' => w'.cell? ⟨w.heap.size, 1, none⟩ = some (.int .i64 (qn : Int)) ∧ w'.cell? ⟨w.heap.size, 2, none⟩ = some (.int .i64 (kn : Int)))
          (first | exact ⟨s1, s2⟩ | exact ⟨pw_cell_below h2 s1, pw_cell_below h2 s2⟩)
          ((first
            | (go_at_call 15; refine (HI.out _ ad (D4.out.below (by repeat (first | exact Below.refl _ _ | apply below_alloc | apply below_drew | apply pw_below_drewN)))).mono ?_; rintro x w5 ⟨rfl, hb5⟩; have h2 := below_step (below_drew (Below.refl w4.heap.size w4)) hb5)
            | (go_at_call 14; refine (HH.out _).mono ?_; rintro x w6 ⟨rfl, hb6⟩; have h2 := below_step h2 hb6)))
        have B6 := Aside0.mk (below_step B4.out h2)
        have E6 := Aside0.mk (E4.out.below h2)
        have F6 := Aside0.mk (F4.out.step (Mv.of h2))
        clear h2
        go_wp2_with fail
        refine (flush_zero (HB.out _ g ad E6.out F6.out) rfl).mono ?_
        rintro x w7 ⟨rfl, he7, hm7⟩
        have E7 := Aside0.mk he7
        have M7 := Aside0.mk hm7
        clear he7 hm7
        go_wp2_with fail
        refine (flush_zero (HBA.out _ g ad E7.out) rfl).mono ?_
        rintro x w8 ⟨rfl, he8, hm8⟩
        have M8 := Aside0.mk (M7.out.trans hm8)
        clear he8 hm8
        go_wp2_with fail
        go_ret
        exact ⟨rfl, M8.out.low B6.out G4.out⟩
      · skip
        go_enter Tryz.func3, Tryz.ntmps3
        go_wp2_with fail
        refine (HD.out _ (Kd.C_below HR.out B0.out)).mono ?_
        rintro e w1 ⟨ad, rfl, hd, hb1⟩
        have s0 := pw_cell_below hb1 s0
        have s1 := pw_cell_below hb1 s1
        have s2 := pw_cell_below hb1 s2
        have s3 := pw_cell_below hb1 s3
        have B1 := Aside0.mk (below_step B0.out hb1)
        have D1 := Aside0.mk hd
        clear hb1 hd
        go_wp2_with fail
        refine (HRC.out _).mono ?_
        rw [HC.out]
        rintro e w2 ⟨rfl, hb2⟩
        have s0 := pw_cell_below hb2 s0
        have s1 := pw_cell_below hb2 s1
        have s2 := pw_cell_below hb2 s2
        have s3 := pw_cell_below hb2 s3
        have B2 := Aside0.mk (below_step B1.out hb2)
        have D2 := Aside0.mk (D1.out.below hb2)
        clear hb2
        go_wp2_with fail
        refine (HAL.out _).mono ?_
        rintro e w3 ⟨rfl, hb3⟩
        have s0 := pw_cell_below hb3 s0
        have s1 := pw_cell_below hb3 s1
        have s2 := pw_cell_below hb3 s2
        have s3 := pw_cell_below hb3 s3
        have B3 := Aside0.mk (below_step B2.out hb3)
        have D3 := Aside0.mk (D2.out.below hb3)
        clear hb3
        go_wp2_with fail
        refine (HN.out _ ad).mono ?_
        rintro e w4 ⟨g, rfl, he, hb4, hg⟩
        have s0 := pw_cell_below hb4 s0
        have s1 := pw_cell_below hb4 s1
        have s2 := pw_cell_below hb4 s2
        have s3 := pw_cell_below hb4 s3
        have E4 := Aside0.mk he
        have D4 := Aside0.mk (D3.out.below hb4)
        have F4 := Aside0.mk (DicF.of D3.out hb4 hg)
        have B4 := Aside0.mk (below_step B3.out hb4)
        have G4 := Aside0.mk (Nat.le_trans B3.out.size hg)
        clear hb4 he hg
        go_wp2_with fail
        go_region_held3 (fun w' => w'.cell? ⟨w.heap.size, 1, none⟩ = some (.int .i64 (qn : Int)) ∧ w'.cell? ⟨w.heap.size, 2, none⟩ = some (.int .i64 (kn : Int)))
          (first | exact ⟨s1, s2⟩ | exact ⟨pw_cell_below h2 s1, pw_cell_below h2 s2⟩)
          ((first
            | (go_at_call 15; refine (HI.out _ ad (D4.out.below (by repeat (first | exact Below.refl _ _ | apply below_alloc | apply below_drew | apply pw_below_drewN)))).mono ?_; rintro x w5 ⟨rfl, hb5⟩; have h2 := below_step (below_drew (Below.refl w4.heap.size w4)) hb5)
            | (go_at_call 14; refine (HH.out _).mono ?_; rintro x w6 ⟨rfl, hb6⟩; have h2 := below_step h2 hb6)))
        have B6 := Aside0.mk (below_step B4.out h2)
        have E6 := Aside0.mk (E4.out.below h2)
        have F6 := Aside0.mk (F4.out.step (Mv.of h2))
        clear h2
        go_wp2_with fail
        refine (close_any (flush_zero (HB.out _ g ad E6.out F6.out) rfl) (Nat.zero_le _) (by rw [HZ.out]; decide)).mono ?_
        rintro x w7 ⟨rfl, he7, hm7⟩
        have E7 := Aside0.mk he7
        have M7 := Aside0.mk hm7
        clear he7 hm7
        go_wp2_with fail
        refine (HRE.out _).mono ?_
        rintro x w8 ⟨rfl, hb8⟩
        have E8 := Aside0.mk (E7.out.below hb8)
        have M8 := Aside0.mk (M7.out.then hb8)
        clear hb8
        go_wp2_with fail
        refine (flush_closed E8.out rfl rfl).mono ?_
        rintro x w9 ⟨rfl, rfl⟩
        go_wp2_with fail
        go_ret
        exact ⟨rfl, M8.out.low B6.out G4.out⟩
    · have HC := Aside0.mk (Bool.eq_false_iff.2 hC)
      clear hC hn hss hl
      go_enter Tryz.func3, Tryz.ntmps3
      go_wp2_with fail
      refine (HD.out _ (Kd.C_below HR.out B0.out)).mono ?_
      rintro e w1 ⟨ad, rfl, hd, hb1⟩
      have s0 := pw_cell_below hb1 s0
      have s1 := pw_cell_below hb1 s1
      have s2 := pw_cell_below hb1 s2
      have s3 := pw_cell_below hb1 s3
      have B1 := Aside0.mk (below_step B0.out hb1)
      clear hb1 hd
      go_wp2_with fail
      refine (HRC.out _).mono ?_
      rw [HC.out]
      rintro e w2 ⟨rfl, hb2⟩
      have B2 := Aside0.mk (below_step B1.out hb2)
      clear hb2
      go_wp2_with fail
      refine (HAL.out _).mono ?_
      rintro e w3 ⟨rfl, hb3⟩
      have B3 := Aside0.mk (below_step B2.out hb3)
      clear hb3
      go_wp2_with fail
      go_ret
      exact ⟨rfl, B3.out⟩
  · have HD := Aside0.mk (fun (W : World) (hr : StrsIn W A l) => dict24_no l W hr hc (by omega) hs hG)
    clear hr hc h16 hs hG hn
    go_enter Tryz.func3, Tryz.ntmps3
    go_wp2_with fail
    refine (HD.out _ (Kd.C_below HR.out B0.out)).mono ?_
    rintro e w1 ⟨rfl, hb1⟩
    have B1 := Aside0.mk (below_step B0.out hb1)
    clear hb1
    go_wp2_with fail
    refine (HAL.out _).mono ?_
    rintro e w3 ⟨rfl, hb3⟩
    have B3 := Aside0.mk (below_step B1.out hb3)
    clear hb3
    go_wp2_with fail
    go_ret
    exact ⟨rfl, B3.out⟩
end Go.Proofs.YtdpkgjahcapleaaGreat
