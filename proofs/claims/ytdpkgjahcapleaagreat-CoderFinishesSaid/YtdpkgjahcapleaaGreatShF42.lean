/- ShF: a part of its proof (contracts of the functions that it reaches, and the plain mathematics behind them). -/
import Derived.Test.YtdpkgjahcapleaaGreatShF35
import Derived.Test.YtdpkgjahcapleaaGreatShF41
import Derived.Test.YtdpkgjahcapleaaGreatShF28
set_option linter.unusedVariables false
set_option linter.unusedSimpArgs false
set_option linter.unusedVariables false
set_option linter.unusedSimpArgs false
namespace Go.Proofs.YtdpkgjahcapleaaGreat
open Go.RowKit Go.Proofs.YtdpkgjahcapleaaGreat.Spec Go.Proofs.YtdpkgjahcapleaaGreatW.PrintWords Go.Proofs.YtdpkgjahcapleaaGreatW.PrintLast
open Go.Proofs.YtdpkgjahcapleaaGreatW.PrintMore
attribute [local go_sem ↓] Go.wp_at_zero Go.wp_at_succ
attribute [local go_sem] max2_int min2_int max_two min_two
set_option maxHeartbeats 1000000 in
set_option maxRecDepth 100000 in
theorem told24_any (c a code at_ : Int) (w : World) : Calls Tryz.prog 24 #[errV c a, .int .i64 code, .int .i64 at_] w fun e w' => e = .returned (.bool (toldB c a code at_)) ∧ Below w.heap.size w w' := by
  have he := run_eql_fault
  by_cases h0 : code = 0
  · have h0b : (code == (0 : Int)) = true := beq_iff_eq.2 h0
    by_cases hc : c = 0
    · have e1 : toldB c a code at_ = true := by unfold toldB; rw [if_pos h0, hc]; rfl
      have e2 : errV c a = .nilIface := if_pos hc
      rw [e1, e2]
      clear e1 e2 hc
      clear h0
      go_enter Tryz.func24, Tryz.ntmps24
      go_wp2
      go_ret
      exact ⟨rfl, Below.refl _ _⟩
    · have e1 : toldB c a code at_ = false := by unfold toldB; rw [if_pos h0]; exact beq_eq_false_iff_ne.2 hc
      have e2 := errV_some hc a
      rw [e1, e2]
      clear e1 e2 hc
      clear h0
      go_enter Tryz.func24, Tryz.ntmps24
      go_wp2
      go_ret
      exact ⟨rfl, Below.refl _ _⟩
  · have h0b : (code == (0 : Int)) = false := beq_eq_false_iff_ne.2 h0
    by_cases hc : c = 0
    · have e1 : toldB c a code at_ = false := by unfold toldB; rw [if_neg h0, hc]; rfl
      have e2 : errV c a = .nilIface := if_pos hc
      rw [e1, e2]
      clear e1 e2 hc
      clear h0
      go_enter Tryz.func24, Tryz.ntmps24
      go_wp2_with (go_at_call 28; refine (of_nil _).mono ?_; rintro e w1 ⟨rfl, hb⟩)
      repeat (go_quiet (fail); try go_wp2)
      go_ret
      exact ⟨rfl, by repeat (first | exact hb | apply below_alloc | apply below_drew | apply pw_below_drewN)⟩
    · have e1 : toldB c a code at_ = (c == code && a == at_) := by unfold toldB; rw [if_neg h0]; have : (c != 0) = true := bne_iff_ne.2 hc; rw [this]; rfl
      have e2 := errV_some hc a
      rw [e1, e2]
      clear e1 e2 hc
      clear h0
      go_enter Tryz.func24, Tryz.ntmps24
      go_wp2_with (go_at_call 28; refine (of_some c a _).mono ?_; rintro e w1 ⟨rfl, hb⟩)
      repeat (go_quiet (fail); try go_wp2)
      go_ret
      exact ⟨rfl, by repeat (first | exact hb | apply below_alloc | apply below_drew | apply pw_below_drewN)⟩
def eNew (p q k wd : Nat) : En := ⟨p, q, k, wd, ⟨#[]⟩, 0, false, false⟩
theorem cfg_bounds {p q k wd : Nat} (h : cfgB p q k wd = true) : p ≤ 2 ∧ q ≤ 1 ∧ (1 ≤ k ∧ k ≤ 1024) ∧ 1 ≤ wd ∧ wd ≤ 1024 := by
  unfold cfgB at h
  rw [decide_eq_true_iff] at h
  omega
set_option maxHeartbeats 2000000 in
set_option maxRecDepth 100000 in
theorem newenc_yes {P : Value} {ad : Addr} (hP : P = .pointer (some ad)) (p q k wd : Nat) (hc : cfgB p q k wd = true) (w : World) :
    Calls Tryz.prog 13 #[P, .agg #[.int .i64 (p : Int), .int .i64 (q : Int), .int .i64 (k : Int), .int .i64 (wd : Int)]] w fun e w' => ∃ g, e = .returned (.tuple #[.pointer (some ⟨g, 0, none⟩), .nilIface]) ∧ EncAt w' g P (eNew p q k wd) ∧ Below w.heap.size w w' ∧ w.heap.size ≤ g := by
  have HRT := Aside0.mk (fun W => right_calls p q k wd W)
  rw [hc] at HRT
  subst hP
  clear hc
  go_enter Tryz.func13, Tryz.ntmps13
  go_wp2_with fail
  refine (HRT.out _).mono ?_
  rintro e w1 ⟨rfl, hb1⟩
  obtain ⟨c0, c1, c2, c3⟩ := cfg_at hb1
  have H1 := Aside0.mk (below_step (below_alloc (Below.refl _ _) _) hb1)
  clear hb1
  go_wp2_with fail
  go_ret2
  exact ⟨_, rfl, blk_new _ _, below_alloc H1.out _, H1.out.size⟩
namespace Spec
def encS (l : List ByteArray) (q k : Nat) (pay : ByteArray → Nat × ByteArray) (b : ByteArray) : ByteArray :=
  headS q k (Idn l) ++ (cutR pay k b.size b).1 ++ ((if (cutR pay k b.size b).2.size = 0 then ⟨#[]⟩ else ⟨#[]⟩ ++ blkS pay (cutR pay k b.size b).2) ++ endS b.size)
end Spec
set_option maxHeartbeats 2000000 in
set_option maxRecDepth 100000 in
theorem encode_any {w : World} {P : Value} {l : List ByteArray} {p q k wd : Nat} {pay : ByteArray → Nat × ByteArray} (hd : DictAt w P l) {ad : Addr} (hP : P = .pointer (some ad)) (hl : l.length ≤ 100) (hs : ∀ s ∈ l, 1 ≤ s.size ∧ s.size ≤ 40) (hc : cfgB p q k wd = true) (hp : PutOk P l (eNew p q k wd) pay) (b : ByteArray) (hz : b.size ≤ 100000) :
    Calls Tryz.prog 26 #[P, .agg #[.int .i64 (p : Int), .int .i64 (q : Int), .int .i64 (k : Int), .int .i64 (wd : Int)], .string b] w fun e w' => e = .returned (.tuple #[.string (encS l q k pay b), .nilIface]) ∧ Below w.heap.size w w' := by
  have HD := Aside0.mk hd
  obtain ⟨hp2, hq1, hk, hwd⟩ := cfg_bounds hc
  have hs' : ∀ s ∈ l, s.size < 1000000 := fun s hm => by have := (hs s hm).2; omega
  have HNE := Aside0.mk (fun W => newenc_yes hP p q k wd hc W)
  obtain ⟨E2, hE2⟩ : ∃ E2 : En, E2 = ⟨p, q, k, wd, (cutR pay k b.size b).2, b.size, true, false⟩ := ⟨_, rfl⟩
  have HWR : Aside0 (∀ (W : World) (g : Nat), EncAt W g P (eNew p q k wd) → DicF g W P l → Calls Tryz.prog 16 #[.pointer (some ⟨g, 0, none⟩), .string b] W fun x w' => x = .returned (.tuple #[.string (headS q k (Idn l) ++ (cutR pay k b.size b).1), .nilIface]) ∧ EncAt w' g P E2 ∧ Mv g W w') := ⟨fun W g h hdi => by
    have hw := write_any (e := eNew p q k wd) (ebegin_first h hdi hP hl hs' rfl rfl hq1 hk) hdi (pay := pay) ⟨hp.calls, hp.fits⟩ hk b (by show 0 + b.size ≤ _; omega) (by show 0 + b.size ≤ _; omega) (Nat.le_of_eq (headS_size _ _ _))
    dsimp only [eNew] at hw
    rw [ba_nil_append, Nat.zero_add] at hw
    rw [hE2]
    exact hw⟩
  have hcs := cut_size hp hk.1 hk.2 b.size b
  have hcr : (cutR pay k b.size b).2.size < k := cut_rest pay k hk.1 b.size b (Nat.le_refl _)
  have hcs1 : (cutR pay k b.size b).1.size ≤ 10 * b.size := hcs.1
  obtain ⟨F, hF⟩ : ∃ F, F = (if (cutR pay k b.size b).2.size = 0 then ⟨#[]⟩ else ⟨#[]⟩ ++ blkS pay (cutR pay k b.size b).2) := ⟨_, rfl⟩
  have hFz : F.size ≤ 2000 := by
    rw [hF]
    split
    · exact Nat.zero_le _
    · rename_i hne
      rw [ByteArray.size_append]
      have := (blkS_size hp hk.2 (cutR pay k b.size b).2 (Nat.pos_of_ne_zero hne) (Nat.le_of_lt hcr)).1
      show 0 + _ ≤ _
      omega
  have HCL : Aside0 (∀ (W : World) (g : Nat), EncAt W g P E2 → DicF g W P l → Calls Tryz.prog 18 #[.pointer (some ⟨g, 0, none⟩)] W fun x w' => x = .returned (.tuple #[.string (F ++ endS b.size), .nilIface]) ∧ Mv g W w') := ⟨fun W g h hdi => by
    have hf := flush_any (e := E2) (e1 := E2) (pay := pay) (hd := ⟨#[]⟩) (l := l) ((ebegin_again h hP (by rw [hE2]) (by rw [hE2])).mono fun x w' ⟨h1, h2⟩ => ⟨h1, h2 ▸ h, h2 ▸ Mv.refl g W⟩) hdi (by rw [hE2]; exact ⟨hp.calls, hp.fits⟩) (by rw [hE2]; exact hk) (by rw [hE2]; exact Nat.le_of_lt hcr) (Nat.zero_le _)
    rw [show (if E2.held.size = 0 then ⟨#[]⟩ else ⟨#[]⟩ ++ blkS pay E2.held) = F by rw [hF, hE2]] at hf
    have hc := close_any hf (by rw [hE2]; show b.size ≤ _; omega) (by omega)
    rw [show ({ E2 with held := ⟨#[]⟩ } : En).written = b.size by rw [hE2]] at hc
    exact hc.mono fun x w' ⟨h1, _, h3⟩ => ⟨h1, h3⟩⟩
  have hez := endS_size b.size
  have hhz := headS_size q k (Idn l)
  have HX : Aside0 (encS l q k pay b = headS q k (Idn l) ++ (cutR pay k b.size b).1 ++ (F ++ endS b.size)) := ⟨by rw [hF]; rfl⟩
  generalize headS q k (Idn l) = x1 at *
  generalize (cutR pay k b.size b).1 = x2 at *
  generalize endS b.size = x3 at *
  have u1 : ¬ 9223372036854775807 < x1.size + x2.size + (F.size + x3.size) := by omega
  subst hP
  have e0 : (w.alloc (.cells #[.int .i64 (p : Int), .int .i64 (q : Int), .int .i64 (k : Int), .int .i64 (wd : Int)] 24)).cell? ⟨w.heap.size, 0, none⟩ = some (.int .i64 (p : Int)) := by simp
  clear hd hl hs hc hp hz hp2 hq1 hk hwd hs' hE2 hcs hcr hcs1 hF hFz hez hhz
  go_enter Tryz.func26, Tryz.ntmps26
  go_wp2_with fail
  refine (HNE.out _).mono ?_
  rintro x w1 ⟨g, rfl, he1, hb1, hg1⟩
  have HE1 := Aside0.mk he1
  have HB1 := Aside0.mk (below_step ((Below.refl w.heap.size w).alloc (Nat.le_refl _) _) hb1)
  have HG1 := Aside0.mk (show w.heap.size ≤ g by simp at hg1; omega)
  clear he1 hb1 hg1
  go_wp2_with fail
  refine (HWR.out _ g HE1.out (DicF.of HD.out HB1.out HG1.out)).mono ?_
  rintro x w2 ⟨rfl, he2, hm2⟩
  have HE2 := Aside0.mk he2
  have HB2 := Aside0.mk (hm2.low HB1.out HG1.out)
  clear he2 hm2
  go_wp2_with fail
  refine (HCL.out _ g HE2.out (DicF.of HD.out HB2.out HG1.out)).mono ?_
  rintro x w3 ⟨rfl, hm3⟩
  have HB3 := Aside0.mk (hm3.low HB2.out HG1.out)
  clear hm3
  go_wp2_with fail
  go_ret2
  exact ⟨by rw [HX.out]; rfl, HB3.out⟩
end Go.Proofs.YtdpkgjahcapleaaGreat
