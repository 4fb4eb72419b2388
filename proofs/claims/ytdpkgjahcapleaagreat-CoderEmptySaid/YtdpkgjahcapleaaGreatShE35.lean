/- ShE: a part of its proof (contracts of the functions that it reaches, and the plain mathematics behind them). -/
import Derived.Test.YtdpkgjahcapleaaGreatShE34
set_option linter.unusedVariables false
set_option linter.unusedSimpArgs false
set_option linter.unusedVariables false
set_option linter.unusedSimpArgs false
namespace Go.Proofs.YtdpkgjahcapleaaGreat
open Go.RowKit Go.Proofs.YtdpkgjahcapleaaGreat.Spec Go.Proofs.YtdpkgjahcapleaaGreatW.PrintWords Go.Proofs.YtdpkgjahcapleaaGreatW.PrintLast
open Go.Proofs.YtdpkgjahcapleaaGreatW.PrintMore
attribute [local go_sem ↓] Go.wp_at_zero Go.wp_at_succ
attribute [local go_sem] max2_int min2_int max_two min_two
namespace Spec
def finC (S : Sc) : Int := if S.code ≠ 0 then S.code else if S.done = true then 0 else 2
end Spec
def dNew : D := ⟨0, 0, 0, false, false, ⟨#[]⟩, 0, 0, 0, 0⟩
theorem rel_new (l : List ByteArray) : Rel l ⟨#[]⟩ dNew := by
  have h : (⟨#[]⟩ : ByteArray).size < 17 := by decide
  refine ⟨fun _ => ?_, fun e => absurd (by rw [full_short h]) e⟩
  unfold dOk
  rw [if_pos h]
  rfl
set_option maxHeartbeats 1000000 in
theorem newdec_calls {P : Value} {ad : Addr} (hP : P = .pointer (some ad)) (w : World) :
    Calls Tryz.prog 20 #[P] w fun e w' => e = .returned (.tuple #[.pointer (some ⟨w.heap.size, 0, none⟩), .nilIface]) ∧ DecAt w' w.heap.size P dNew ∧ Below w.heap.size w w' := by
  subst hP
  go_enter Tryz.func20, Tryz.ntmps20
  go_wp2_with fail
  go_ret2
  exact ⟨rfl, blk_new _ _, (Below.refl _ _).alloc (Nat.le_refl _) _⟩
set_option maxHeartbeats 2000000 in
set_option maxRecDepth 100000 in
theorem finish_any {w : World} {g : Nat} {P : Value} {d : D} {l : List ByteArray} {B : ByteArray} (h : DecAt w g P d) {ad : Addr} (hP : P = .pointer (some ad)) (hr : Rel l B d) :
    Calls Tryz.prog 22 #[.pointer (some ⟨g, 0, none⟩)] w fun e w' => e = .returned (errV (finC (full l B)) ((full l B).at_ : Int)) ∧ w = w' := by
  have HNO := Aside0.mk (none_calls h hP)
  have c9 := h.c9
  have c5 := h.c5
  have c7 := h.c7
  rw [rel_err hr] at c9
  have hd := hr.1
  have hat : (full l B).code = 0 → d.at_ = (full l B).at_ ∧ d.done = (full l B).done := by
    intro hc
    rw [hd hc]
    unfold dOk
    by_cases g : B.size < 17
    · rw [if_pos g, full_short g]; exact ⟨rfl, rfl⟩
    · rw [if_neg g]; exact ⟨rfl, rfl⟩
  generalize full l B = S at *
  obtain ⟨o, a, c, dn⟩ := S
  dsimp only at *
  unfold finC
  dsimp only
  clear hd hr
  by_cases hc : c = 0
  · obtain ⟨h1, h2⟩ := hat hc
    subst hc
    rw [h1] at c7
    rw [h2] at c5
    rw [if_neg (fun n => n rfl)]
    have c9' : w.cell? ⟨g, 9, none⟩ = some .nilIface := c9
    clear hat h1 h2 c9 h hP
    cases dn with
    | true =>
      rw [if_pos rfl]
      go_enter Tryz.func22, Tryz.ntmps22
      go_wp2_with fail
      refine HNO.out.mono ?_
      rintro x w1 ⟨rfl, rfl⟩
      go_wp2_with fail
      go_ret
      exact ⟨rfl, rfl⟩
    | false =>
      rw [if_neg (by decide)]
      go_enter Tryz.func22, Tryz.ntmps22
      go_wp2_with fail
      refine HNO.out.mono ?_
      rintro x w1 ⟨rfl, rfl⟩
      go_wp2_with fail
      refine (fnew_any 2 (a : Int) _).mono ?_
      rintro x w1 ⟨rfl, rfl⟩
      go_wp2_with fail
      go_ret
      exact ⟨rfl, rfl⟩
  · rw [if_pos hc]
    have HE := Aside0.mk (errV_some hc (a : Int))
    rw [HE.out] at c9 ⊢
    clear hat h hP hc
    go_enter Tryz.func22, Tryz.ntmps22
    go_wp2_with fail
    refine HNO.out.mono ?_
    rintro x w1 ⟨rfl, rfl⟩
    go_wp2_with fail
    go_ret
    exact ⟨rfl, rfl⟩
set_option maxHeartbeats 1000000 in
theorem xheld_calls {w : World} {g : Nat} {P : Value} {d : D} (h : DecAt w g P d) :
    Calls Tryz.prog 25 #[.pointer (some ⟨g, 0, none⟩)] w fun e w' => e = .returned (.int .i64 (d.held.size : Int)) ∧ w = w' := by
  have c6 := h.c6
  clear h
  go_enter Tryz.func25, Tryz.ntmps25
  go_wp2_with fail
  go_ret
  exact ⟨rfl, rfl⟩
set_option maxHeartbeats 2000000 in
set_option maxRecDepth 100000 in
theorem xdone_calls {w : World} {g : Nat} {P : Value} {d : D} {l : List ByteArray} {B : ByteArray} (h : DecAt w g P d) (hr : Rel l B d) :
    Calls Tryz.prog 30 #[.pointer (some ⟨g, 0, none⟩)] w fun e w' => e = .returned (.bool (decide (finC (full l B) = 0))) ∧ Drawn0 w w' := by
  have c9 := h.c9
  have c5 := h.c5
  rw [rel_err hr] at c9
  have hd := hr.1
  have hat : (full l B).code = 0 → d.done = (full l B).done := by
    intro hc
    rw [hd hc]
    unfold dOk
    by_cases g : B.size < 17
    · rw [if_pos g, full_short g]
    · rw [if_neg g]
  generalize full l B = S at *
  obtain ⟨o, a, c, dn⟩ := S
  dsimp only at *
  unfold finC
  dsimp only
  clear hd hr
  generalize d.done = dd at *
  by_cases hc : c = 0
  · have h2 := hat hc
    subst hc h2
    rw [if_neg (fun n => n rfl)]
    have c9' : w.cell? ⟨g, 9, none⟩ = some .nilIface := c9
    clear hat c9 h
    cases dd with
    | true =>
      rw [if_pos rfl]
      go_enter Tryz.func30, Tryz.ntmps30
      go_wp2_with fail
      go_ret
      exact ⟨rfl, Drawn0.refl w⟩
    | false =>
      rw [if_neg (by decide)]
      go_enter Tryz.func30, Tryz.ntmps30
      go_wp2_with fail
      go_ret
      exact ⟨rfl, Drawn0.refl w⟩
  · rw [if_pos hc]
    have HE := Aside0.mk (errV_some hc (a : Int))
    rw [HE.out] at c9
    rw [decide_eq_false hc]
    clear hat h hc
    cases dd with
    | true =>
      go_enter Tryz.func30, Tryz.ntmps30
      go_wp2_with fail
      go_ret
      exact ⟨rfl, Drawn0.refl w⟩
    | false =>
      go_enter Tryz.func30, Tryz.ntmps30
      go_wp2_with fail
      go_ret
      exact ⟨rfl, Drawn0.refl w⟩
set_option maxHeartbeats 2000000 in
set_option maxRecDepth 100000 in
theorem decode_any {w : World} {P : Value} {l : List ByteArray} (hd : DictAt w P l) {ad : Addr} (hP : P = .pointer (some ad)) (hl : l.length ≤ 100) (hs : ∀ s ∈ l, 1 ≤ s.size ∧ s.size ≤ 40) (B : ByteArray) (hz : B.size ≤ 900000) :
    Calls Tryz.prog 27 #[P, .string B] w fun e w' => e = .returned (.tuple #[.string (if finC (full l B) = 0 then (full l B).out else ⟨#[]⟩), errV (finC (full l B)) ((full l B).at_ : Int)]) ∧ Below w.heap.size w w' := by
  have HD := Aside0.mk hd
  have HND := Aside0.mk (newdec_calls hP w)
  have HFE := Aside0.mk (fun (W : World) (g : Nat) (h : DecAt W g P dNew) (hdi : DicF g W P l) => feed_any h hdi hP hl hs (rel_new l) B (by rw [ba_nil_append]; exact hz))
  have hB : (⟨#[]⟩ : ByteArray) ++ B = B := ba_nil_append B
  have hO : (full l (⟨#[]⟩ : ByteArray)).out = ⟨#[]⟩ := by rw [full_short (by decide)]
  rw [hB, hO] at HFE
  have HFI := Aside0.mk (fun (W : World) (g : Nat) (d : D) (h : DecAt W g P d) (hr : Rel l B d) => finish_any h hP hr)
  subst hP
  by_cases hc : (full l B).code = 0
  · have hf : finC (full l B) = if (full l B).done = true then 0 else 2 := by unfold finC; rw [if_neg (fun n => n hc)]
    rw [hf] at HFI ⊢
    rw [hc] at HFE
    have HFE2 : Aside0 (∀ (W : World) (g : Nat), DecAt W g (.pointer (some ad)) dNew → DicF g W (.pointer (some ad)) l → Calls Tryz.prog 23 #[.pointer (some ⟨g, 0, none⟩), .string B] W fun e w' => ∃ o d', e = .returned (.tuple #[.string o, .nilIface]) ∧ (⟨#[]⟩ : ByteArray) ++ o = (full l B).out ∧ DecAt w' g (.pointer (some ad)) d' ∧ Rel l B d' ∧ Mv g W w') := HFE
    cases hdn : (full l B).done with
    | true =>
      rw [hdn, if_pos rfl] at HFI
      rw [if_pos rfl, if_pos rfl]
      have HFI2 : Aside0 (∀ (W : World) (g : Nat) (d : D), DecAt W g (.pointer (some ad)) d → Rel l B d → Calls Tryz.prog 22 #[.pointer (some ⟨g, 0, none⟩)] W fun e w' => e = .returned .nilIface ∧ W = w') := HFI
      clear hd hl hs hz hB hO hc hf hdn HFE HFI
      go_enter Tryz.func27, Tryz.ntmps27
      go_wp2_with fail
      refine HND.out.mono ?_
      rintro e w1 ⟨rfl, hd1, hb1⟩
      have HD1 := Aside0.mk hd1
      have HB1 := Aside0.mk hb1
      clear hd1 hb1
      go_wp2_with fail
      refine (HFE2.out _ _ HD1.out (DicF.of HD.out HB1.out (Nat.le_refl _))).mono ?_
      rintro e w2 ⟨o, d2, rfl, ho, hd2, hr2, hm2⟩
      have HO := Aside0.mk ho
      have HD2 := Aside0.mk hd2
      have HR2 := Aside0.mk hr2
      have HB2 := Aside0.mk (hm2.low HB1.out (Nat.le_refl _))
      clear ho hd2 hr2 hm2
      go_wp2_with fail
      refine (HFI2.out _ _ _ HD2.out HR2.out).mono ?_
      rintro e w3 ⟨rfl, rfl⟩
      go_wp2_with fail
      refine (of_nil _).mono ?_
      rintro e w4 ⟨rfl, hb4⟩
      have HB4 := Aside0.mk (below_step HB2.out hb4)
      clear hb4
      go_wp2_with fail
      go_ret2
      exact ⟨by rw [← HO.out, ba_nil_append]; rfl, by repeat (first | exact HB4.out | apply below_alloc | apply below_drew | apply pw_below_drewN)⟩
    | false =>
      rw [hdn, if_neg (by decide)] at HFI
      rw [if_neg (by decide), if_neg (by decide)]
      have HE := Aside0.mk (errV_some (show (2 : Int) ≠ 0 by decide) ((full l B).at_ : Int))
      rw [HE.out] at HFI ⊢
      have HOF := Aside0.mk (fun W => of_some 2 ((full l B).at_ : Int) W)
      generalize (full l B).at_ = at2 at *
      clear hd hl hs hz hB hO hc hf hdn HFE
      go_enter Tryz.func27, Tryz.ntmps27
      go_wp2_with fail
      refine HND.out.mono ?_
      rintro e w1 ⟨rfl, hd1, hb1⟩
      have HD1 := Aside0.mk hd1
      have HB1 := Aside0.mk hb1
      clear hd1 hb1
      go_wp2_with fail
      refine (HFE2.out _ _ HD1.out (DicF.of HD.out HB1.out (Nat.le_refl _))).mono ?_
      rintro e w2 ⟨o, d2, rfl, ho, hd2, hr2, hm2⟩
      have HD2 := Aside0.mk hd2
      have HR2 := Aside0.mk hr2
      have HB2 := Aside0.mk (hm2.low HB1.out (Nat.le_refl _))
      clear ho hd2 hr2 hm2
      go_wp2_with fail
      refine (HFI.out _ _ _ HD2.out HR2.out).mono ?_
      rintro e w3 ⟨rfl, rfl⟩
      go_wp2_with fail
      refine (HOF.out _).mono ?_
      rintro e w4 ⟨rfl, hb4⟩
      have HB4 := Aside0.mk (below_step HB2.out hb4)
      clear hb4
      go_wp2_with fail
      go_quiet (fail)
      go_wp2_with fail
      go_ret2
      exact ⟨rfl, by repeat (first | exact HB4.out | apply below_alloc | apply below_drew | apply pw_below_drewN)⟩
  · have hf : finC (full l B) = (full l B).code := by unfold finC; rw [if_pos hc]
    rw [hf, if_neg hc]
    have HE := Aside0.mk (errV_some hc ((full l B).at_ : Int))
    rw [HE.out] at HFE ⊢
    have HOF := Aside0.mk (fun W => of_some (full l B).code ((full l B).at_ : Int) W)
    generalize (full l B).at_ = at2 at *
    generalize (full l B).code = cd at *
    clear hd hl hs hz hB hO hc hf
    go_enter Tryz.func27, Tryz.ntmps27
    go_wp2_with fail
    refine HND.out.mono ?_
    rintro e w1 ⟨rfl, hd1, hb1⟩
    have HD1 := Aside0.mk hd1
    have HB1 := Aside0.mk hb1
    clear hd1 hb1
    go_wp2_with fail
    refine (HFE.out _ _ HD1.out (DicF.of HD.out HB1.out (Nat.le_refl _))).mono ?_
    rintro e w2 ⟨o, d2, rfl, ho, hd2, hr2, hm2⟩
    have HB2 := Aside0.mk (hm2.low HB1.out (Nat.le_refl _))
    clear ho hd2 hr2 hm2
    go_wp2_with fail
    refine (HOF.out _).mono ?_
    rintro e w4 ⟨rfl, hb4⟩
    have HB4 := Aside0.mk (below_step HB2.out hb4)
    clear hb4
    go_wp2_with fail
    go_quiet (fail)
    go_wp2_with fail
    go_ret2
    exact ⟨rfl, by repeat (first | exact HB4.out | apply below_alloc | apply below_drew | apply pw_below_drewN)⟩
end Go.Proofs.YtdpkgjahcapleaaGreat
