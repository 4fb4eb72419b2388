/- ShR: a part of its proof (contracts of the functions that it reaches, and the plain mathematics behind them). -/
import Derived.Test.YtdpkgjahcapleaaGreatShR45
set_option linter.unusedVariables false
set_option linter.unusedSimpArgs false
set_option linter.unusedVariables false
set_option linter.unusedSimpArgs false
namespace Go.Proofs.YtdpkgjahcapleaaGreat
open Go.RowKit Go.Proofs.YtdpkgjahcapleaaGreat.Spec Go.Proofs.YtdpkgjahcapleaaGreatW.PrintWords Go.Proofs.YtdpkgjahcapleaaGreatW.PrintLast
open Go.Proofs.YtdpkgjahcapleaaGreatW.PrintMore
attribute [local go_sem ↓] Go.wp_at_zero Go.wp_at_succ
attribute [local go_sem] max2_int min2_int max_two min_two
theorem tmod_range (n : Int) (M : Nat) (hM : 0 < M) : -(M : Int) < n.tmod (M : Int) ∧ n.tmod (M : Int) < (M : Int) := by
  rcases Int.le_total 0 n with h | h
  · rw [Int.tmod_eq_emod_of_nonneg h]
    have h1 := Int.emod_nonneg n (show (M : Int) ≠ 0 by omega)
    have h2 := Int.emod_lt_of_pos n (show (0 : Int) < (M : Int) by omega)
    omega
  · obtain ⟨m, rfl⟩ : ∃ m, n = -m := ⟨-n, by omega⟩
    rw [Int.neg_tmod, Int.tmod_eq_emod_of_nonneg (by omega)]
    have h1 := Int.emod_nonneg m (show (M : Int) ≠ 0 by omega)
    have h2 := Int.emod_lt_of_pos m (show (0 : Int) < (M : Int) by omega)
    omega
theorem place_in (n : Int) (M : Nat) (hM : 0 < M) : ∃ N : Nat, N < M ∧ (n.tmod (M : Int) + (M : Int)).tmod (M : Int) = (N : Int) := by
  obtain ⟨h1, h2⟩ := tmod_range n M hM
  have h3 : 0 ≤ n.tmod (M : Int) + (M : Int) := by omega
  rw [Int.tmod_eq_emod_of_nonneg h3]
  have h4 := Int.emod_nonneg (n.tmod (M : Int) + (M : Int)) (show (M : Int) ≠ 0 by omega)
  have h5 := Int.emod_lt_of_pos (n.tmod (M : Int) + (M : Int)) (show (0 : Int) < (M : Int) by omega)
  exact ⟨((n.tmod (M : Int) + (M : Int)) % (M : Int)).toNat, by omega, by omega⟩
theorem fin_two (S : Sc) (h : finC S ≠ 2) : errV S.code (S.at_ : Int) = errV (finC S) (S.at_ : Int) := by
  by_cases hc : S.code = 0
  · cases hd : S.done with
    | true => have : finC S = 0 := by unfold finC; rw [if_neg (fun n => n hc), if_pos hd]
              rw [this, hc]
    | false => exact absurd (by unfold finC; rw [if_neg (fun n => n hc), if_neg (by rw [hd]; decide)]) h
  · have : finC S = S.code := by unfold finC; rw [if_pos hc]
    rw [this]
theorem rat_two (S : Sc) (h : finC S ≠ 0) : rAt S = S.at_ := by unfold rAt; rw [if_neg h]
set_option maxHeartbeats 2000000 in
set_option maxRecDepth 100000 in
theorem stops_walk (A : Option Addr) (c : Nat) (l : List ByteArray) (B M : ByteArray) (n : Int) (w : World) (hr : StrsIn w A l) (hc : l.length ≤ c) (h16 : l.length * 16 ≤ 140737488351232) (hs : ∀ s ∈ l, s.size ≤ 140737488351232) (hG : Given l ⟨#[]⟩) (hB : B.size + M.size ≤ 2000) {T : Nat → Int} (hT : TabAt w T) :
    Calls Tryz.prog 8 #[.slice A l.length c, .string B, .string M, .int .i64 n] w fun e w' => e = .returned (.bool true) ∧ Below w.heap.size w w' := by
  have HAL := Aside0.mk (fun W => alive24_any W)
  have HR := Aside0.mk hr
  have HD := Aside0.mk (fun (W : World) (hr : StrsIn W A l) => dict24_yes l W hr hc (by omega) hs hG)
  obtain ⟨hl, hss⟩ := phrases_sizes hG.2.2
  have HTA := Aside0.mk hT
  obtain ⟨N, hN1, hN2⟩ := place_in n (B.size + 1) (by omega)
  have hr1 := tmod_range n (B.size + 1) (by omega)
  have e0 : ((B.size + 1 : Nat) : Int) = (B.size : Int) + 1 := by omega
  rw [e0] at hN2 hr1
  obtain ⟨hr2, hr3⟩ := hr1
  generalize hq : n.tmod ((B.size : Int) + 1) = q at *
  rw [← Int.add_assoc] at hN2
  have hNB : N ≤ B.size := by omega
  have HRD := Aside0.mk (fun (W : World) (hr : StrsIn W A l) => rdecode_calls l hl hss B (by omega) hr hc)
  have HF1 := Aside0.mk (fun (W : World) (g : Nat) (ad : Addr) (d : D) (h : DecAt W g (.pointer (some ad)) d) (hdi : DicF g W (.pointer (some ad)) l) (hr : Rel l ⟨#[]⟩ d) => feed_any h hdi rfl hl hss hr (B.extract 0 N) (by rw [ba_nil_append, ext_sz _ _ _ hNB]; omega))
  rw [ba_nil_append] at HF1
  have HF2 := Aside0.mk (fun (W : World) (g : Nat) (ad : Addr) (d : D) (h : DecAt W g (.pointer (some ad)) d) (hdi : DicF g W (.pointer (some ad)) l) (hr : Rel l (B.extract 0 N) d) => feed_any h hdi rfl hl hss hr (B.extract N B.size) (by rw [ext_step B N B.size hNB (Nat.le_refl _), ext_sz _ _ _ (Nat.le_refl _)]; omega))
  rw [ext_step B N B.size hNB (Nat.le_refl _), ext_zero] at HF2
  have HFB := Aside0.mk (fun (W : World) (g : Nat) (ad : Addr) (d : D) (h : DecAt W g (.pointer (some ad)) d) (hr : Rel l (B.extract 0 N) d) (hc : (full l (B.extract 0 N)).code ≠ 0) => feed_bad h rfl hr hc M)
  have HN1 := Aside0.mk (fun (W : World) (g : Nat) (ad : Addr) (d : D) (h : DecAt W g (.pointer (some ad)) d) (hr : Rel l (B.extract 0 N) d) => finish_any h rfl hr)
  have HN2 := Aside0.mk (fun (W : World) (g : Nat) (ad : Addr) (d : D) (h : DecAt W g (.pointer (some ad)) d) (hr : Rel l B d) => finish_any h rfl hr)
  have HDN := Aside0.mk (fun (W : World) (g : Nat) (ad : Addr) (d : D) (h : DecAt W g (.pointer (some ad)) d) (hr : Rel l (B.extract 0 N) d) => xdone_calls h hr)
  have HTL := Aside0.mk (fun W => told24_any (finC (full l B)) ((full l B).at_ : Int) (finC (full l B)) (rAt (full l B) : Nat) W)
  rw [told_self] at HTL
  have hO : (full l (⟨#[]⟩ : ByteArray)).out = ⟨#[]⟩ := by rw [full_short (by decide)]
  rw [hO] at HF1
  have hsz2 := full_bound hl hss B
  have hat2 := full_at l B
  have hsz1 := full_bound hl hss (B.extract 0 N)
  have hat1 := full_at l (B.extract 0 N)
  rw [ext_sz B 0 N hNB] at hat1
  have HER := Aside0.mk (error_any T (full l (B.extract 0 N)).code (full l (B.extract 0 N)).at_ (by omega))
  have hb1' : (full l (B.extract 0 N)).out.size ≤ 4096000 := by omega
  have hb2' : (full l B).out.size ≤ 4096000 := by omega
  have H22 := Aside0.mk (fin_two (full l B))
  have HRT := Aside0.mk (rat_two (full l B))
  have HF0 : Aside0 ((full l (B.extract 0 N)).code ≠ 0 → finC (full l (B.extract 0 N)) = (full l (B.extract 0 N)).code) := ⟨fun h => by unfold finC; rw [if_pos h]⟩
  have HFZ : Aside0 ((full l B).code ≠ 0 → finC (full l B) = (full l B).code) := ⟨fun h => by unfold finC; rw [if_pos h]⟩
  have HE1 := Aside0.mk (fun (d : D) (h : Rel l (B.extract 0 N) d) (hc : (full l (B.extract 0 N)).code ≠ 0) => (h.2 hc).2.2)
  have HT2 : Aside0 (∀ W : World, (full l B).code = 2 → finC (full l B) = 2 → Calls Tryz.prog 24 #[errV (full l B).code ((full l B).at_ : Int), .int .i64 2, .int .i64 (rAt (full l B) : Nat)] W fun e w' => e = .returned (.bool true) ∧ Below W.heap.size W w') := ⟨fun W h1 h2 => by
    have := HTL.out W
    rw [h2] at this
    rw [h1]
    exact this⟩
  have v1 : ¬ (2000 : Int) < (B.size : Int) + (M.size : Int) := by omega
  have v2 : (B.size : Int) ≤ 2000 := by omega
  have v3 : (M.size : Int) ≤ 2000 := by omega
  have v4 : ¬ 2000 < B.size + M.size := by omega
  have n1 : (N : Int) ≤ (B.size : Int) := by omega
  have n2 : N ≤ B.size := by omega
  generalize full l B = S at *
  generalize full l (B.extract 0 N) = S1 at *
  clear hr hc h16 hs hG hB hl hss hT hN1 e0 hO hsz1 hsz2 hat1 hat2
  by_cases hc : S1.code ≠ 0
  · have hf := HF0.out hc
    have E0 := errV_some hc (S1.at_ : Int)
    have HE0 := Aside0.mk E0
    obtain ⟨sx, hsx, hce⟩ := HER.out
    have HCE := Aside0.mk hce
    have HFB2 := Aside0.mk (fun W g ad d h hr => HFB.out W g ad d h hr hc)
    have HE2 := Aside0.mk (fun d h => HE1.out d h hc)
    rw [hf] at HN1 HDN
    rw [decide_eq_false hc] at HDN
    rw [E0] at HF1 HN1 HFB2
    clear E0 hf hc hsx hce HF0 HFZ HTL H22 HRT HF2 HT2 HN2 HER HFB HE1
    go_enter Tryz.func8, Tryz.ntmps8
    go_wp2_with fail
    refine (HD.out _ HR.out).mono ?_
    rintro e w1 ⟨ad, rfl, hd, hb1⟩
    have B1 := Aside0.mk hb1
    have D1 := Aside0.mk hd
    clear hb1 hd
    go_wp2_with fail
    refine (HAL.out _).mono ?_
    rintro e w3 ⟨rfl, hb3⟩
    have B3 := Aside0.mk (below_step B1.out hb3)
    have D3 := Aside0.mk (D1.out.below hb3)
    clear hb3
    go_wp2_with fail
    refine (newdec_calls rfl _).mono ?_
    rintro e w4 ⟨rfl, hx, hb4⟩
    have X4 := Aside0.mk hx
    have F4 := Aside0.mk (DicF.of D3.out hb4 (Nat.le_refl _))
    have B4 := Aside0.mk (below_step B3.out hb4)
    have G4 := Aside0.mk B3.out.size
    have G5 : Aside0 (w3.heap.size ≠ 0) := ⟨fun e => by
      have h := (HTA.out.below B3.out) 0 (by decide)
      have h2 : w3.heap[0]? = none := Array.getElem?_eq_none (Nat.le_of_eq e)
      simp [World.cell?, h2] at h⟩
    have T4 := Aside0.mk (HTA.out.below B4.out)
    clear hb4 hx
    generalize w3.heap.size = g at *
    go_wp2_with fail
    refine (HF1.out _ _ _ _ X4.out F4.out (rel_new l)).mono ?_
    rintro e w5 ⟨o, d, rfl, ho, hx, hrl, hm⟩
    rw [ba_nil_append] at ho
    subst ho
    have X5 := Aside0.mk hx
    have R5 := Aside0.mk hrl
    have M5 := Aside0.mk hm
    clear hx hrl hm
    go_wp2_with fail
    refine (HN1.out _ _ _ _ X5.out R5.out).mono ?_
    rintro e w6 ⟨rfl, rfl⟩
    go_wp2_with fail
    refine (HFB2.out _ _ _ _ X5.out R5.out).mono ?_
    rintro e w7 ⟨rfl, hx, hm⟩
    have X7 := Aside0.mk hx
    have M7 := Aside0.mk (M5.out.trans hm)
    clear hx hm
    go_wp2_with fail
    refine (HCE.out _ (T4.out.mv M7.out G5.out)).mono ?_
    rintro e w8 ⟨rfl, hb⟩
    have M8 := Aside0.mk (M7.out.then hb)
    have X8 := Aside0.mk (X7.out.below hb)
    clear hb
    go_wp2_with fail
    refine (HCE.out _ (T4.out.mv M8.out G5.out)).mono ?_
    rintro e w9 ⟨rfl, hb⟩
    have M9 := Aside0.mk (M8.out.then hb)
    have X9 := Aside0.mk (X8.out.below hb)
    clear hb
    go_wp2_with fail
    refine (HCE.out _ (T4.out.mv M9.out G5.out)).mono ?_
    rintro e w10 ⟨rfl, hb⟩
    have M10 := Aside0.mk (M9.out.then hb)
    have X10 := Aside0.mk (X9.out.below hb)
    clear hb
    go_wp2_with fail
    refine (HCE.out _ (T4.out.mv M10.out G5.out)).mono ?_
    rintro e w11 ⟨rfl, hb⟩
    have M11 := Aside0.mk (M10.out.then hb)
    have X11 := Aside0.mk (X10.out.below hb)
    clear hb
    go_wp2_with fail
    have hz : d.held.size = 0 := by rw [HE2.out d R5.out]; rfl
    have hxh := xheld_calls X11.out
    rw [hz] at hxh
    refine hxh.mono ?_
    rintro e w12 ⟨rfl, rfl⟩
    go_wp2_with fail
    refine (HDN.out _ _ _ _ X11.out R5.out).mono ?_
    rintro e w13 ⟨rfl, ⟨⟨k, rfl⟩⟩⟩
    go_wp2_with fail
    go_ret
    exact ⟨rfl, (M11.out.drewN k).low B4.out G4.out⟩
  · have hc0 := Decidable.not_not.1 hc
    have E0 : errV S1.code (S1.at_ : Int) = .nilIface := if_pos hc0
    rw [E0] at HF1
    clear E0 hc hc0 HF0 HFB HER HE1 HDN
    by_cases h2 : finC S = 2
    · by_cases h3 : S.code = 0
      · have E1 : errV S.code (S.at_ : Int) = .nilIface := if_pos h3
        rw [E1] at HF2
        rw [h2] at HRD HTL HN2
        clear E1 h2 h3 H22 HRT HFZ HT2
        go_enter Tryz.func8, Tryz.ntmps8
        go_wp2_with fail
        refine (HD.out _ HR.out).mono ?_
        rintro e w1 ⟨ad, rfl, hd, hb1⟩
        have B1 := Aside0.mk hb1
        have D1 := Aside0.mk hd
        clear hb1 hd
        go_wp2_with fail
        refine (HAL.out _).mono ?_
        rintro e w3 ⟨rfl, hb3⟩
        have B3 := Aside0.mk (below_step B1.out hb3)
        have D3 := Aside0.mk (D1.out.below hb3)
        clear hb3
        go_wp2_with fail
        refine (newdec_calls rfl _).mono ?_
        rintro e w4 ⟨rfl, hx, hb4⟩
        have X4 := Aside0.mk hx
        have F4 := Aside0.mk (DicF.of D3.out hb4 (Nat.le_refl _))
        have B4 := Aside0.mk (below_step B3.out hb4)
        have G4 := Aside0.mk B3.out.size
        have G5 : Aside0 (w3.heap.size ≠ 0) := ⟨fun e => by
          have h := (HTA.out.below B3.out) 0 (by decide)
          have h2 : w3.heap[0]? = none := Array.getElem?_eq_none (Nat.le_of_eq e)
          simp [World.cell?, h2] at h⟩
        have T4 := Aside0.mk (HTA.out.below B4.out)
        clear hb4 hx
        generalize w3.heap.size = g at *
        go_wp2_with fail
        refine (HF1.out _ _ _ _ X4.out F4.out (rel_new l)).mono ?_
        rintro e w5 ⟨o, d, rfl, ho, hx, hrl, hm⟩
        rw [ba_nil_append] at ho
        subst ho
        have X5 := Aside0.mk hx
        have R5 := Aside0.mk hrl
        have M5 := Aside0.mk hm
        clear hx hrl hm
        go_wp2_with fail
        refine (HN1.out _ _ _ _ X5.out R5.out).mono ?_
        rintro e w6 ⟨rfl, rfl⟩
        go_wp2_with fail
        refine (HF2.out _ _ _ _ X5.out (F4.out.step M5.out) R5.out).mono ?_
        rintro e w7 ⟨o, d2, rfl, ho, hx, hrl, hm⟩
        have X7 := Aside0.mk hx
        have R7 := Aside0.mk hrl
        have M7 := Aside0.mk (M5.out.trans hm)
        have B7 := Aside0.mk (M7.out.low B4.out G4.out)
        have us := congrArg ByteArray.size ho
        rw [ByteArray.size_append] at us
        have u1 : ¬ 9223372036854775807 < S1.out.size + o.size := by omega
        clear hx hrl hm us
        go_wp2_with fail
        refine (HRD.out _ (Kd.C_below HR.out B7.out)).mono ?_
        rintro e w8 ⟨rfl, hb8⟩
        have X8 := Aside0.mk (X7.out.below hb8)
        have M8 := Aside0.mk (M7.out.then hb8)
        clear hb8
        go_wp2_with fail
        refine (HN2.out _ _ _ _ X8.out R7.out).mono ?_
        rintro e w9 ⟨rfl, rfl⟩
        go_wp2_with fail
        refine (HTL.out _).mono ?_
        rintro e w10 ⟨rfl, hb⟩
        have X10 := Aside0.mk (X8.out.below hb)
        have M10 := Aside0.mk (M8.out.then hb)
        clear hb
        go_wp2_with fail
        go_ret
        exact ⟨rfl, M10.out.low B4.out G4.out⟩
      · have h4 : S.code = 2 := (HFZ.out h3).symm.trans h2
        have HT3 := Aside0.mk (fun W => HT2.out W h4 h2)
        have E1 := errV_some h3 (S.at_ : Int)
        rw [E1] at HF2 HT3
        rw [h2] at HRD HTL HN2
        clear E1 h2 h3 h4 H22 HRT HFZ HT2
        go_enter Tryz.func8, Tryz.ntmps8
        go_wp2_with fail
        refine (HD.out _ HR.out).mono ?_
        rintro e w1 ⟨ad, rfl, hd, hb1⟩
        have B1 := Aside0.mk hb1
        have D1 := Aside0.mk hd
        clear hb1 hd
        go_wp2_with fail
        refine (HAL.out _).mono ?_
        rintro e w3 ⟨rfl, hb3⟩
        have B3 := Aside0.mk (below_step B1.out hb3)
        have D3 := Aside0.mk (D1.out.below hb3)
        clear hb3
        go_wp2_with fail
        refine (newdec_calls rfl _).mono ?_
        rintro e w4 ⟨rfl, hx, hb4⟩
        have X4 := Aside0.mk hx
        have F4 := Aside0.mk (DicF.of D3.out hb4 (Nat.le_refl _))
        have B4 := Aside0.mk (below_step B3.out hb4)
        have G4 := Aside0.mk B3.out.size
        have G5 : Aside0 (w3.heap.size ≠ 0) := ⟨fun e => by
          have h := (HTA.out.below B3.out) 0 (by decide)
          have h2 : w3.heap[0]? = none := Array.getElem?_eq_none (Nat.le_of_eq e)
          simp [World.cell?, h2] at h⟩
        have T4 := Aside0.mk (HTA.out.below B4.out)
        clear hb4 hx
        generalize w3.heap.size = g at *
        go_wp2_with fail
        refine (HF1.out _ _ _ _ X4.out F4.out (rel_new l)).mono ?_
        rintro e w5 ⟨o, d, rfl, ho, hx, hrl, hm⟩
        rw [ba_nil_append] at ho
        subst ho
        have X5 := Aside0.mk hx
        have R5 := Aside0.mk hrl
        have M5 := Aside0.mk hm
        clear hx hrl hm
        go_wp2_with fail
        refine (HN1.out _ _ _ _ X5.out R5.out).mono ?_
        rintro e w6 ⟨rfl, rfl⟩
        go_wp2_with fail
        refine (HF2.out _ _ _ _ X5.out (F4.out.step M5.out) R5.out).mono ?_
        rintro e w7 ⟨o, d2, rfl, ho, hx, hrl, hm⟩
        have X7 := Aside0.mk hx
        have R7 := Aside0.mk hrl
        have M7 := Aside0.mk (M5.out.trans hm)
        have B7 := Aside0.mk (M7.out.low B4.out G4.out)
        have us := congrArg ByteArray.size ho
        rw [ByteArray.size_append] at us
        have u1 : ¬ 9223372036854775807 < S1.out.size + o.size := by omega
        clear hx hrl hm us
        go_wp2_with fail
        refine (HRD.out _ (Kd.C_below HR.out B7.out)).mono ?_
        rintro e w8 ⟨rfl, hb8⟩
        have X8 := Aside0.mk (X7.out.below hb8)
        have M8 := Aside0.mk (M7.out.then hb8)
        clear hb8
        go_wp2_with fail
        refine (HT3.out _).mono ?_
        rintro e w9 ⟨rfl, hb⟩
        have X9 := Aside0.mk (X8.out.below hb)
        have M9 := Aside0.mk (M8.out.then hb)
        clear hb
        go_wp2_with fail
        refine (HN2.out _ _ _ _ X9.out R7.out).mono ?_
        rintro e w10 ⟨rfl, rfl⟩
        go_wp2_with fail
        refine (HTL.out _).mono ?_
        rintro e w11 ⟨rfl, hb⟩
        have X11 := Aside0.mk (X9.out.below hb)
        have M11 := Aside0.mk (M9.out.then hb)
        clear hb
        go_wp2_with fail
        go_ret
        exact ⟨rfl, M11.out.low B4.out G4.out⟩
    · have E1 := H22.out h2
      rw [E1] at HF2
      have w1 : (finC S == (2 : Int)) = false := beq_eq_false_iff_ne.2 h2
      generalize finC S = fc at *
      clear E1 h2 H22 HRT HFZ HT2
      go_enter Tryz.func8, Tryz.ntmps8
      go_wp2_with fail
      refine (HD.out _ HR.out).mono ?_
      rintro e w1 ⟨ad, rfl, hd, hb1⟩
      have B1 := Aside0.mk hb1
      have D1 := Aside0.mk hd
      clear hb1 hd
      go_wp2_with fail
      refine (HAL.out _).mono ?_
      rintro e w3 ⟨rfl, hb3⟩
      have B3 := Aside0.mk (below_step B1.out hb3)
      have D3 := Aside0.mk (D1.out.below hb3)
      clear hb3
      go_wp2_with fail
      refine (newdec_calls rfl _).mono ?_
      rintro e w4 ⟨rfl, hx, hb4⟩
      have X4 := Aside0.mk hx
      have F4 := Aside0.mk (DicF.of D3.out hb4 (Nat.le_refl _))
      have B4 := Aside0.mk (below_step B3.out hb4)
      have G4 := Aside0.mk B3.out.size
      have G5 : Aside0 (w3.heap.size ≠ 0) := ⟨fun e => by
        have h := (HTA.out.below B3.out) 0 (by decide)
        have h2 : w3.heap[0]? = none := Array.getElem?_eq_none (Nat.le_of_eq e)
        simp [World.cell?, h2] at h⟩
      have T4 := Aside0.mk (HTA.out.below B4.out)
      clear hb4 hx
      generalize w3.heap.size = g at *
      go_wp2_with fail
      refine (HF1.out _ _ _ _ X4.out F4.out (rel_new l)).mono ?_
      rintro e w5 ⟨o, d, rfl, ho, hx, hrl, hm⟩
      rw [ba_nil_append] at ho
      subst ho
      have X5 := Aside0.mk hx
      have R5 := Aside0.mk hrl
      have M5 := Aside0.mk hm
      clear hx hrl hm
      go_wp2_with fail
      refine (HN1.out _ _ _ _ X5.out R5.out).mono ?_
      rintro e w6 ⟨rfl, rfl⟩
      go_wp2_with fail
      refine (HF2.out _ _ _ _ X5.out (F4.out.step M5.out) R5.out).mono ?_
      rintro e w7 ⟨o, d2, rfl, ho, hx, hrl, hm⟩
      have X7 := Aside0.mk hx
      have R7 := Aside0.mk hrl
      have M7 := Aside0.mk (M5.out.trans hm)
      have B7 := Aside0.mk (M7.out.low B4.out G4.out)
      have us := congrArg ByteArray.size ho
      rw [ByteArray.size_append] at us
      have u1 : ¬ 9223372036854775807 < S1.out.size + o.size := by omega
      clear hx hrl hm us
      go_wp2_with fail
      refine (HRD.out _ (Kd.C_below HR.out B7.out)).mono ?_
      rintro e w8 ⟨rfl, hb8⟩
      have X8 := Aside0.mk (X7.out.below hb8)
      have M8 := Aside0.mk (M7.out.then hb8)
      clear hb8
      go_wp2_with fail
      refine (HTL.out _).mono ?_
      rintro e w9 ⟨rfl, hb⟩
      have X9 := Aside0.mk (X8.out.below hb)
      have M9 := Aside0.mk (M8.out.then hb)
      clear hb
      go_wp2_with fail
      refine (HN2.out _ _ _ _ X9.out R7.out).mono ?_
      rintro e w10 ⟨rfl, rfl⟩
      go_wp2_with fail
      refine (HTL.out _).mono ?_
      rintro e w11 ⟨rfl, hb⟩
      have X11 := Aside0.mk (X9.out.below hb)
      have M11 := Aside0.mk (M9.out.then hb)
      clear hb
      go_wp2_with fail
      go_ret
      exact ⟨rfl, M11.out.low B4.out G4.out⟩
set_option maxHeartbeats 2000000 in
set_option maxRecDepth 100000 in
theorem coderStops_law (A : Option Addr) (c : Nat) (l : List ByteArray) (B M : ByteArray) (n : Int) (w : World) (hr : StrsIn w A l) (hc : l.length ≤ c) (h16 : l.length * 16 ≤ 140737488351232) (hs : ∀ s ∈ l, s.size ≤ 140737488351232) (hB : B.size ≤ 140737488351232) (hM : M.size ≤ 140737488351232) (hn : (Lit.int .i64 n).wf = true) {T : Nat → Int} (hT : TabAt w T) :
    Calls Tryz.prog 8 #[.slice A l.length c, .string B, .string M, .int .i64 n] w fun e w' => e = .returned (.bool true) ∧ Below w.heap.size w w' := by
  have HAL := Aside0.mk (fun W => alive24_any W)
  have HR := Aside0.mk hr
  by_cases hG : Given l ⟨#[]⟩
  · have HD := Aside0.mk (fun (W : World) (hr : StrsIn W A l) => dict24_yes l W hr hc (by omega) hs hG)
    by_cases h1 : B.size + M.size ≤ 2000
    · exact stops_walk A c l B M n w hr hc h16 hs hG h1 hT
    · skip
      have v1 : (2000 : Int) < (B.size : Int) + (M.size : Int) := by omega
      have v2 : (B.size : Int) ≤ 140737488351232 := by omega
      have v3 : (M.size : Int) ≤ 140737488351232 := by omega
      have v4 : 2000 < B.size + M.size := by omega
      clear hr hc h16 hs hG hB hM h1 hn hT
      go_enter Tryz.func8, Tryz.ntmps8
      go_wp2_with fail
      refine (HD.out _ HR.out).mono ?_
      rintro e w1 ⟨ad, rfl, hd, hb1⟩
      have B1 := Aside0.mk hb1
      clear hb1 hd
      go_wp2_with fail
      refine (HAL.out _).mono ?_
      rintro e w3 ⟨rfl, hb3⟩
      have B3 := Aside0.mk (below_step B1.out hb3)
      clear hb3
      go_wp2_with fail
      go_ret
      exact ⟨rfl, B3.out⟩
  · have HD := Aside0.mk (fun (W : World) (hr : StrsIn W A l) => dict24_no l W hr hc (by omega) hs hG)
    clear hr hc h16 hs hG hB hM hn hT
    go_enter Tryz.func8, Tryz.ntmps8
    go_wp2_with fail
    refine (HD.out _ HR.out).mono ?_
    rintro e w1 ⟨rfl, hb1⟩
    have B1 := Aside0.mk hb1
    clear hb1
    go_wp2_with fail
    refine (HAL.out _).mono ?_
    rintro e w3 ⟨rfl, hb3⟩
    have B3 := Aside0.mk (below_step B1.out hb3)
    clear hb3
    go_wp2_with fail
    go_ret
    exact ⟨rfl, B3.out⟩
end Go.Proofs.YtdpkgjahcapleaaGreat
