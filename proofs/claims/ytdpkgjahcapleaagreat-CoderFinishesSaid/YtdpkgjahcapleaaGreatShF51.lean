/- ShF: a part of its proof (contracts of the functions that it reaches, and the plain mathematics behind them). -/
import Derived.Test.YtdpkgjahcapleaaGreatShF44
import Derived.Test.YtdpkgjahcapleaaGreatShF50
set_option linter.unusedVariables false
set_option linter.unusedSimpArgs false
set_option linter.unusedVariables false
set_option linter.unusedSimpArgs false
namespace Go.Proofs.YtdpkgjahcapleaaGreat
open Go.RowKit Go.Proofs.YtdpkgjahcapleaaGreat.Spec Go.Proofs.YtdpkgjahcapleaaGreatW.PrintWords Go.Proofs.YtdpkgjahcapleaaGreatW.PrintLast
open Go.Proofs.YtdpkgjahcapleaaGreatW.PrintMore
attribute [local go_sem ↓] Go.wp_at_zero Go.wp_at_succ
attribute [local go_sem] max2_int min2_int max_two min_two
theorem told_self (S : Sc) : toldB (finC S) (S.at_ : Int) (finC S) (rAt S : Nat) = true := by
  unfold toldB rAt
  by_cases h : finC S = 0
  · rw [if_pos h, h]; rfl
  · rw [if_neg h, if_neg h]
    have h1 : (finC S != 0) = true := bne_iff_ne.2 h
    rw [h1]
    simp
theorem ext_step (B : ByteArray) (i j : Nat) (h : i ≤ j) (hj : j ≤ B.size) : B.extract 0 i ++ B.extract i j = B.extract 0 j := by
  apply u_inj
  rw [u_app, u_ext, u_ext, u_ext]
  simp only [List.drop_zero, Nat.sub_zero]
  rw [← List.take_append_drop i ((u B).take j), List.take_take, Nat.min_eq_left h, List.drop_take]
theorem ext_over (B : ByteArray) (i : Nat) (h : B.size ≤ i) : B.extract 0 i = B := by
  apply u_inj
  rw [u_ext]
  simp only [List.drop_zero, Nat.sub_zero]
  exact List.take_of_length_le (by rw [u_size]; exact h)
theorem ext_none (B : ByteArray) : B.extract 0 0 = ⟨#[]⟩ := by
  apply u_inj
  rw [u_ext]
  rfl
theorem full_at (l : List ByteArray) (B : ByteArray) : (full l B).at_ ≤ B.size := by
  unfold full
  split
  · exact Nat.zero_le _
  · split
    · exact Nat.zero_le _
    · split
      · exact Nat.zero_le _
      · exact (scan_app l _ _ B ⟨#[]⟩ B.size 17 ⟨#[]⟩ (by omega) (by omega)).1
set_option maxHeartbeats 2000000 in
set_option maxRecDepth 100000 in
theorem fin_walk (A : Option Addr) (c : Nat) (l : List ByteArray) (B : ByteArray) (n : Nat) (w : World) (hr : StrsIn w A l) (hc : l.length ≤ c) (h16 : l.length * 16 ≤ 140737488351232) (hs : ∀ s ∈ l, s.size ≤ 140737488351232) (hG : Given l ⟨#[]⟩) (hB : B.size ≤ 1000) (hn : 1 ≤ n ∧ n ≤ 10) :
    Calls Tryz.prog 4 #[.slice A l.length c, .string B, .int .i64 (n : Int)] w fun e w' => e = .returned (.bool true) ∧ Below w.heap.size w w' := by
  have HAL := Aside0.mk (fun W => alive24_any W)
  have HR := Aside0.mk hr
  have HD := Aside0.mk (fun (W : World) (hr : StrsIn W A l) => dict24_yes l W hr hc (by omega) hs hG)
  obtain ⟨hl, hss⟩ := phrases_sizes hG.2.2
  have HRD := Aside0.mk (fun (W : World) (hr : StrsIn W A l) => rdecode_calls l hl hss B (by omega) hr hc)
  have HFE := Aside0.mk (fun (W : World) (g i j : Nat) (ad : Addr) (d : D) (h : DecAt W g (.pointer (some ad)) d) (hdi : DicF g W (.pointer (some ad)) l) (hr : Rel l (B.extract 0 i) d) (hij : i ≤ j) (hj : j ≤ B.size) => feed_any h hdi rfl hl hss hr (B.extract i j) (by rw [ext_step B i j hij hj, ext_sz _ _ _ hj]; omega))
  have HTL := Aside0.mk (fun W => told24_any (finC (full l B)) ((full l B).at_ : Int) (finC (full l B)) (rAt (full l B) : Nat) W)
  rw [told_self] at HTL
  have HB := Aside0.mk hB
  have HLS := Aside0.mk (And.intro hl hss)
  have HN := Aside0.mk hn
  have v1 : decide ((1000 : Int) < (B.size : Int)) = false := decide_eq_false (by omega)
  have v2 : decide (1000 < B.size) = false := decide_eq_false (by omega)
  have v3 : decide ((n : Int) < 1) = false := decide_eq_false (by omega)
  have v4 : decide ((10 : Int) < (n : Int)) = false := decide_eq_false (by omega)
  have v5 : decide (n < 1) = false := decide_eq_false (by omega)
  have v6 : decide (10 < n) = false := decide_eq_false (by omega)
  have v7 : decide (n = 0) = false := decide_eq_false (by omega)
  have v8 : ¬ n = 0 := by omega
  clear hr hc h16 hs hG hB hn hl hss
  go_enter Tryz.func4, Tryz.ntmps4
  go_wp2_with fail
  refine (HD.out _ HR.out).mono ?_
  rintro e w1 ⟨ad, rfl, hd, hb1⟩
  have B1 := Aside0.mk hb1
  have D1 := Aside0.mk hd
  clear hb1 hd
  go_wp2_with fail
  refine (HAL.out _).mono ?_
  rintro e w3 ⟨rfl, hb3⟩
  have B3 := Aside0.mk (below_step B1.out hb3)
  have D3 := Aside0.mk (D1.out.below hb3)
  clear hb3
  go_wp2_with fail
  refine (newdec_calls rfl _).mono ?_
  rintro e w4 ⟨rfl, hx, hb4⟩
  have X4 := Aside0.mk hx
  have F4 := Aside0.mk (DicF.of D3.out hb4 (Nat.le_refl _))
  have B4 := Aside0.mk (below_step B3.out hb4)
  have G4 := Aside0.mk B3.out.size
  clear hb4 hx
  generalize w3.heap.size = g at *
  go_wp2_with fail
  refine (HRD.out _ (Kd.C_below HR.out B4.out)).mono ?_
  rintro e w5 ⟨rfl, hb5⟩
  have X5 := Aside0.mk (X4.out.below hb5)
  have F5 := Aside0.mk (F4.out.step (Mv.of hb5))
  have B5 := Aside0.mk (below_step B4.out hb5)
  clear hb5
  go_wp2_with fail
  go_loopw [14, 15] (fun v14 v15 wr => ∃ (i : Nat) (d : D), v14 = .string (full l (B.extract 0 i)).out ∧ v15 = .int .i64 (i : Int) ∧ Aside0 (i ≤ 3000) ∧ Aside0 (DecAt wr g (.pointer (some ad)) d) ∧ Aside0 (Rel l (B.extract 0 i) d) ∧ Aside0 (Mv g w5 wr)) (fun _ v15 _ => B.size - (intOf v15).toNat)
  case atStart => exact ⟨0, dNew, by rw [ext_none, full_short (by decide)], rfl, ⟨by omega⟩, X5, ⟨by rw [ext_none]; exact rel_new l⟩, ⟨Mv.refl _ _⟩⟩
  case round =>
    obtain ⟨i, d, rfl, rfl, HI, HX, HRl, HM⟩ := hrel
    by_cases hlt : i < B.size
    · have d1 : decide ((i : Int) < (B.size : Int)) = true := decide_eq_true (by omega)
      have d1' : decide (i < B.size) = true := decide_eq_true hlt
      obtain ⟨Q, hQ⟩ : ∃ Q, B.size / n = Q := ⟨_, rfl⟩
      have hQb : Q ≤ 1000 := by rw [← hQ]; exact Nat.le_trans (Nat.div_le_self _ _) HB.out
      have q1 : wrap64 ((B.size : Int) / (n : Int)) = (Q : Int) := by rw [← Int.natCast_ediv, hQ]; exact Bridge.wrN _ (by omega)
      clear hQ
      have hib := HI.out
      by_cases hq0 : Q = 0
      · subst hq0
        obtain ⟨J, hJ⟩ : ∃ J, J = i + 1 := ⟨_, rfl⟩
        have q2 : wrap64 ((i : Int) + 1) = (J : Int) := by rw [hJ]; exact Bridge.wrN (i + 1) (by omega)
        have c1 : (i : Int) ≤ (J : Int) := by omega
        have c2 : (J : Int) ≤ (B.size : Int) := by omega
        have c3 : i ≤ J := by omega
        have c4 : J ≤ B.size := by omega
        have c5 : ¬ (B.size : Int) < (J : Int) := by omega
        have c6 : ¬ B.size < J := by omega
        have HIJ : Aside0 (i ≤ J ∧ J ≤ B.size) := ⟨⟨c3, c4⟩⟩
        have HIJ2 : Aside0 (J ≤ 3000 ∧ True ∧ i < J) := ⟨⟨by have := HB.out; omega, trivial, by omega⟩⟩
        have HLT := Aside0.mk hlt
        clear hlt hJ hib hQb
        go_wp2_with fail
        refine (finish_any HX.out rfl HRl.out).mono ?_
        rintro e w6 ⟨rfl, rfl⟩
        go_wp2_with fail
        refine (HFE.out _ g i J ad d HX.out (F5.out.step HM.out) HRl.out HIJ.out.1 HIJ.out.2).mono ?_
        rintro e w7 ⟨o, d2, rfl, ho, hx, hr2, hm⟩
        rw [ext_step B i J HIJ.out.1 HIJ.out.2] at ho hr2
        have HO := Aside0.mk ho
        have HX2 := Aside0.mk hx
        have HR2 := Aside0.mk hr2
        have HM2 := Aside0.mk (HM.out.trans hm)
        have us := congrArg ByteArray.size ho
        rw [ByteArray.size_append] at us
        have ub := full_bound HLS.out.1 HLS.out.2 (B.extract 0 J)
        have ua := full_at l (B.extract 0 J)
        rw [ext_sz B 0 J HIJ.out.2] at ua
        have hbz := HB.out
        have u1 : ¬ 9223372036854775807 < (full l (B.extract 0 i)).out.size + o.size := by rw [us]; omega
        clear ho hx hr2 hm us ub ua hbz
        go_wp2_with fail
        refine ⟨⟨J, d2, ?_, congrArg (Value.int .i64) q2, ⟨HIJ2.out.1⟩, HX2, HR2, HM2⟩, ?_⟩
        · rw [← HO.out]
        · have h1 := HIJ2.out.2.2
          have h2 := HLT.out
          rw [q2]
          show B.size - (J : Int).toNat < B.size - (i : Int).toNat
          omega
      · obtain ⟨J, hJ⟩ : ∃ J, J = i + Q := ⟨_, rfl⟩
        have q2 : wrap64 ((i : Int) + (Q : Int)) = (J : Int) := by rw [hJ]; exact Bridge.wrN (i + Q) (by omega)
        have x1 : ¬ (Q : Int) < 1 := by omega
        have x2 : (1 : Int) ≤ (Q : Int) := by omega
        have c1 : (i : Int) ≤ (J : Int) := by omega
        have c3 : i ≤ J := by omega
        by_cases hJB : J ≤ B.size
        · have c2 : (J : Int) ≤ (B.size : Int) := by omega
          have c4 : J ≤ B.size := by omega
          have c5 : ¬ (B.size : Int) < (J : Int) := by omega
          have c6 : ¬ B.size < J := by omega
          have HIJ : Aside0 (i ≤ J ∧ J ≤ B.size) := ⟨⟨c3, c4⟩⟩
          have HIJ2 : Aside0 (J ≤ 3000 ∧ True ∧ i < J) := ⟨⟨by have := HB.out; omega, trivial, by omega⟩⟩
          have HLT := Aside0.mk hlt
          clear hlt hJ hib hQb hJB
          go_wp2_with fail
          refine (finish_any HX.out rfl HRl.out).mono ?_
          rintro e w6 ⟨rfl, rfl⟩
          go_wp2_with fail
          refine (HFE.out _ g i J ad d HX.out (F5.out.step HM.out) HRl.out HIJ.out.1 HIJ.out.2).mono ?_
          rintro e w7 ⟨o, d2, rfl, ho, hx, hr2, hm⟩
          rw [ext_step B i J HIJ.out.1 HIJ.out.2] at ho hr2
          have HO := Aside0.mk ho
          have HX2 := Aside0.mk hx
          have HR2 := Aside0.mk hr2
          have HM2 := Aside0.mk (HM.out.trans hm)
          have us := congrArg ByteArray.size ho
          rw [ByteArray.size_append] at us
          have ub := full_bound HLS.out.1 HLS.out.2 (B.extract 0 J)
          have ua := full_at l (B.extract 0 J)
          rw [ext_sz B 0 J HIJ.out.2] at ua
          have hbz := HB.out
          have u1 : ¬ 9223372036854775807 < (full l (B.extract 0 i)).out.size + o.size := by rw [us]; omega
          clear ho hx hr2 hm us ub ua hbz
          go_wp2_with fail
          refine ⟨⟨J, d2, ?_, congrArg (Value.int .i64) q2, ⟨HIJ2.out.1⟩, HX2, HR2, HM2⟩, ?_⟩
          · rw [← HO.out]
          · have h1 := HIJ2.out.2.2
            have h2 := HLT.out
            rw [q2]
            show B.size - (J : Int).toNat < B.size - (i : Int).toNat
            omega
        · have c5 : (B.size : Int) < (J : Int) := by omega
          have c6 : B.size < J := by omega
          have c7 : (i : Int) ≤ (B.size : Int) := by omega
          have c8 : i ≤ B.size := by omega
          have HIJ : Aside0 (i ≤ B.size ∧ B.size ≤ B.size) := ⟨⟨c8, Nat.le_refl _⟩⟩
          have HIJ2 : Aside0 (J ≤ 3000 ∧ B.size ≤ J ∧ i < J) := ⟨⟨by have := HB.out; omega, by omega, by omega⟩⟩
          have HLT := Aside0.mk hlt
          clear hlt hJ hib hQb hJB
          go_wp2_with fail
          refine (finish_any HX.out rfl HRl.out).mono ?_
          rintro e w6 ⟨rfl, rfl⟩
          go_wp2_with fail
          refine (HFE.out _ g i B.size ad d HX.out (F5.out.step HM.out) HRl.out HIJ.out.1 HIJ.out.2).mono ?_
          rintro e w7 ⟨o, d2, rfl, ho, hx, hr2, hm⟩
          rw [ext_step B i B.size HIJ.out.1 HIJ.out.2] at ho hr2
          have HO := Aside0.mk ho
          have HX2 := Aside0.mk hx
          have HR2 := Aside0.mk hr2
          have HM2 := Aside0.mk (HM.out.trans hm)
          have us := congrArg ByteArray.size ho
          rw [ByteArray.size_append] at us
          have ub := full_bound HLS.out.1 HLS.out.2 (B.extract 0 B.size)
          have ua := full_at l (B.extract 0 B.size)
          rw [ext_sz B 0 B.size HIJ.out.2] at ua
          have hbz := HB.out
          have u1 : ¬ 9223372036854775807 < (full l (B.extract 0 i)).out.size + o.size := by rw [us]; omega
          clear ho hx hr2 hm us ub ua hbz
          go_wp2_with fail
          refine ⟨⟨J, d2, ?_, congrArg (Value.int .i64) q2, ⟨HIJ2.out.1⟩, HX2, ⟨?_⟩, HM2⟩, ?_⟩
          · rw [ext_over B J HIJ2.out.2.1, ← ext_over B B.size (Nat.le_refl _), ← HO.out, ext_over B B.size (Nat.le_refl _)]
          · rw [ext_over B J HIJ2.out.2.1]
            have h := HR2.out
            rw [ext_over B B.size (Nat.le_refl _)] at h
            exact h
          · have h1 := HIJ2.out.2.2
            have h2 := HLT.out
            rw [q2]
            show B.size - (J : Int).toNat < B.size - (i : Int).toNat
            omega
    · have d1 : decide ((i : Int) < (B.size : Int)) = false := decide_eq_false (by omega)
      have d1' : decide (i < B.size) = false := decide_eq_false hlt
      rw [ext_over B i (by omega)]
      have hrl := HRl.out
      rw [ext_over B i (by omega)] at hrl
      have HRB := Aside0.mk hrl
      clear hlt hrl HRl
      go_wp2_with fail
      go_loopw [18] (fun v18 wq => ∃ k : Nat, v18 = .int .i64 (k : Int) ∧ Aside0 (k ≤ n) ∧ Aside0 (DecAt wq g (.pointer (some ad)) d) ∧ Aside0 (Mv g w5 wq)) (fun v18 _ => n - (intOf v18).toNat)
      case atStart => exact ⟨0, rfl, ⟨Nat.zero_le _⟩, HX, HM⟩
      case round =>
        obtain ⟨k, rfl, HKk, HXq, HMq⟩ := hrel
        by_cases hkn : k < n
        · have f1 : decide ((k : Int) < (n : Int)) = true := decide_eq_true (by omega)
          have f2 : decide (k < n) = true := decide_eq_true hkn
          have f3 : (k : Int) ≤ 10 := by have := HN.out; omega
          have HKN := Aside0.mk hkn
          clear hkn
          go_wp2_with fail
          refine (finish_any HXq.out rfl HRB.out).mono ?_
          rintro e w6 ⟨rfl, rfl⟩
          go_wp2_with fail
          refine (HTL.out _).mono ?_
          rintro e w7 ⟨rfl, hb7⟩
          have HX7 := Aside0.mk (HXq.out.below hb7)
          have HM7 := Aside0.mk (HMq.out.then hb7)
          clear hb7
          go_wp2_with fail
          refine ⟨⟨k + 1, congrArg (Value.int .i64) (Int.natCast_add k 1).symm, ⟨HKN.out⟩, HX7, HM7⟩, ?_⟩
          have h1 := HKN.out
          show n - ((k : Int) + 1).toNat < n - (k : Int).toNat
          omega
        · have f1 : decide ((k : Int) < (n : Int)) = false := decide_eq_false (by omega)
          have f2 : decide (k < n) = false := decide_eq_false hkn
          clear hkn
          go_wp2_with fail
          go_ret
          exact ⟨rfl, HMq.out.low B5.out G4.out⟩
set_option maxHeartbeats 2000000 in
set_option maxRecDepth 100000 in
theorem coderFinishes_law (A : Option Addr) (c : Nat) (l : List ByteArray) (B : ByteArray) (n : Int) (w : World) (hr : StrsIn w A l) (hc : l.length ≤ c) (h16 : l.length * 16 ≤ 140737488351232) (hs : ∀ s ∈ l, s.size ≤ 140737488351232) (hB : B.size ≤ 140737488351232) (hn : (Lit.int .i64 n).wf = true) :
    Calls Tryz.prog 4 #[.slice A l.length c, .string B, .int .i64 n] w fun e w' => e = .returned (.bool true) ∧ Below w.heap.size w w' := by
  have HAL := Aside0.mk (fun W => alive24_any W)
  have HR := Aside0.mk hr
  by_cases hG : Given l ⟨#[]⟩
  · have HD := Aside0.mk (fun (W : World) (hr : StrsIn W A l) => dict24_yes l W hr hc (by omega) hs hG)
    by_cases h1 : B.size ≤ 1000
    · by_cases h2 : 1 ≤ n
      · by_cases h3 : n ≤ 10
        · obtain ⟨m, rfl⟩ := Int.eq_ofNat_of_zero_le (show 0 ≤ n by omega)
          exact fin_walk A c l B m w hr hc h16 hs hG h1 (by omega)
        · skip
          have v1 : decide ((1000 : Int) < (B.size : Int)) = false := decide_eq_false (by omega)
          have v2 : decide (1000 < B.size) = false := decide_eq_false (by omega)
          have v3 : decide ((n : Int) < 1) = false := decide_eq_false (by omega)
          have v4 : decide ((10 : Int) < (n : Int)) = true := decide_eq_true (by omega)
          clear hr hc h16 hs hG hB hn h1 h2 h3
          go_enter Tryz.func4, Tryz.ntmps4
          go_wp2_with fail
          refine (HD.out _ HR.out).mono ?_
          rintro e w1 ⟨ad, rfl, hd, hb1⟩
          have B1 := Aside0.mk hb1
          clear hb1 hd
          go_wp2_with fail
          refine (HAL.out _).mono ?_
          rintro e w3 ⟨rfl, hb3⟩
          have B3 := Aside0.mk (below_step B1.out hb3)
          clear hb3
          go_wp2_with fail
          go_ret
          exact ⟨rfl, B3.out⟩
      · skip
        have v1 : decide ((1000 : Int) < (B.size : Int)) = false := decide_eq_false (by omega)
        have v2 : decide (1000 < B.size) = false := decide_eq_false (by omega)
        have v3 : decide ((n : Int) < 1) = true := decide_eq_true (by omega)
        clear hr hc h16 hs hG hB hn h1 h2
        go_enter Tryz.func4, Tryz.ntmps4
        go_wp2_with fail
        refine (HD.out _ HR.out).mono ?_
        rintro e w1 ⟨ad, rfl, hd, hb1⟩
        have B1 := Aside0.mk hb1
        clear hb1 hd
        go_wp2_with fail
        refine (HAL.out _).mono ?_
        rintro e w3 ⟨rfl, hb3⟩
        have B3 := Aside0.mk (below_step B1.out hb3)
        clear hb3
        go_wp2_with fail
        go_ret
        exact ⟨rfl, B3.out⟩
    · have h2 : True := trivial
      have v1 : decide ((1000 : Int) < (B.size : Int)) = true := decide_eq_true (by omega)
      have v2 : decide (1000 < B.size) = true := decide_eq_true (by omega)
      clear hr hc h16 hs hG hB hn h1 h2
      go_enter Tryz.func4, Tryz.ntmps4
      go_wp2_with fail
      refine (HD.out _ HR.out).mono ?_
      rintro e w1 ⟨ad, rfl, hd, hb1⟩
      have B1 := Aside0.mk hb1
      clear hb1 hd
      go_wp2_with fail
      refine (HAL.out _).mono ?_
      rintro e w3 ⟨rfl, hb3⟩
      have B3 := Aside0.mk (below_step B1.out hb3)
      clear hb3
      go_wp2_with fail
      go_ret
      exact ⟨rfl, B3.out⟩
  · have HD := Aside0.mk (fun (W : World) (hr : StrsIn W A l) => dict24_no l W hr hc (by omega) hs hG)
    clear hr hc h16 hs hG hB hn
    go_enter Tryz.func4, Tryz.ntmps4
    go_wp2_with fail
    refine (HD.out _ HR.out).mono ?_
    rintro e w1 ⟨rfl, hb1⟩
    have B1 := Aside0.mk hb1
    clear hb1
    go_wp2_with fail
    refine (HAL.out _).mono ?_
    rintro e w3 ⟨rfl, hb3⟩
    have B3 := Aside0.mk (below_step B1.out hb3)
    clear hb3
    go_wp2_with fail
    go_ret
    exact ⟨rfl, B3.out⟩
end Go.Proofs.YtdpkgjahcapleaaGreat
