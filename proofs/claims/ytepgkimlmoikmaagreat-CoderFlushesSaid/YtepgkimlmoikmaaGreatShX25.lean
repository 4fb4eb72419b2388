/- ShX: a part of its proof (contracts of the functions that it reaches, and the plain mathematics behind them). -/
import Derived.Test.YtepgkimlmoikmaaGreatShX26
import Derived.Test.YtepgkimlmoikmaaGreatShX42
import Derived.Test.YtepgkimlmoikmaaGreatShX17
import Derived.Test.YtepgkimlmoikmaaGreatShX41
set_option linter.unusedVariables false
set_option linter.unusedSimpArgs false
set_option linter.unusedVariables false
set_option linter.unusedSimpArgs false
namespace Go.Proofs.YtepgkimlmoikmaaGreat
open Go.RowKit Go.Proofs.YtepgkimlmoikmaaGreat.Spec Go.Proofs.YtepgkimlmoikmaaGreatW.PrintWords Go.Proofs.YtepgkimlmoikmaaGreatW.PrintLast
open Go.Proofs.YtepgkimlmoikmaaGreatW.PrintMore
attribute [local go_sem ↓] Go.wp_at_zero Go.wp_at_succ
attribute [local go_sem] max2_int min2_int max_two min_two
set_option maxHeartbeats 1000000 in
set_option maxRecDepth 100000 in
theorem told24_any (c a code at_ : Int) (w : World) : Calls Tryz.prog 44 #[errV c a, .int .i64 code, .int .i64 at_] w fun e w' => e = .returned (.bool (toldB c a code at_)) ∧ Below w.heap.size w w' := by
 have he := run_eql_fault
 by_cases h0 : code = 0
 ·have h0b : (code == (0 : Int)) = true := beq_iff_eq.2 h0
  by_cases hc : c = 0
  ·have e1 : toldB c a code at_ = true := by unfold toldB; rw [if_pos h0, hc]; rfl
   have e2 : errV c a = .nilIface := if_pos hc
   rw [e1, e2]
   clear e1 e2 hc
   clear h0
   go_enter Tryz.func44, Tryz.ntmps44
   go_wp2
   go_ret
   exact ⟨rfl, Below.refl _ _⟩
  ·have e1 : toldB c a code at_ = false := by unfold toldB; rw [if_pos h0]; exact beq_eq_false_iff_ne.2 hc
   have e2 := errV_some hc a
   rw [e1, e2]
   clear e1 e2 hc
   clear h0
   go_enter Tryz.func44, Tryz.ntmps44
   go_wp2
   go_ret
   exact ⟨rfl, Below.refl _ _⟩
 ·have h0b : (code == (0 : Int)) = false := beq_eq_false_iff_ne.2 h0
  by_cases hc : c = 0
  ·have e1 : toldB c a code at_ = false := by unfold toldB; rw [if_neg h0, hc]; rfl
   have e2 : errV c a = .nilIface := if_pos hc
   rw [e1, e2]
   clear e1 e2 hc
   clear h0
   go_enter Tryz.func44, Tryz.ntmps44
   go_wp2_with (go_at_call 116; refine (of_nil _).mono ?_; rintro e w1 ⟨rfl, hb⟩)
   repeat (go_quiet (fail); try go_wp2)
   go_ret
   exact ⟨rfl, by repeat (first | exact hb | apply below_alloc | apply below_drew | apply pw_below_drewN)⟩
  ·have e1 : toldB c a code at_ = (c == code && a == at_) := by unfold toldB; rw [if_neg h0]; have : (c != 0) = true := bne_iff_ne.2 hc; rw [this]; rfl
   have e2 := errV_some hc a
   rw [e1, e2]
   clear e1 e2 hc
   clear h0
   go_enter Tryz.func44, Tryz.ntmps44
   go_wp2_with (go_at_call 116; refine (of_some c a _).mono ?_; rintro e w1 ⟨rfl, hb⟩)
   repeat (go_quiet (fail); try go_wp2)
   go_ret
   exact ⟨rfl, by repeat (first | exact hb | apply below_alloc | apply below_drew | apply pw_below_drewN)⟩
def eNew (p q k wd : Nat) : En := ⟨p, q, k, wd, ⟨#[]⟩, 0, false, false⟩
theorem cfg_bounds {p q k wd : Nat} (h : cfgB p q k wd = true) : p ≤ 2 ∧ q ≤ 1 ∧ (1 ≤ k ∧ k ≤ 1024) ∧ 1 ≤ wd ∧ wd ≤ 1024 := by
 unfold cfgB at h
 rw [decide_eq_true_iff] at h
 omega
set_option maxHeartbeats 2000000 in
set_option maxRecDepth 100000 in
theorem newenc_yes {P : Value} {ad : Addr} (hP : P = .pointer (some ad)) (p q k wd : Nat) (hc : cfgB p q k wd = true) (w : World) :
  Calls Tryz.prog 46 #[P, .agg #[.int .i64 (p : Int), .int .i64 (q : Int), .int .i64 (k : Int), .int .i64 (wd : Int)]] w fun e w' => ∃ g, e = .returned (.tuple #[.pointer (some ⟨g, 0, none⟩), .nilIface]) ∧ EncAt w' g P (eNew p q k wd) ∧ Below w.heap.size w w' ∧ w.heap.size ≤ g := by
 have HRT := Aside0.mk (fun W => right_calls p q k wd W)
 rw [hc] at HRT
 subst hP
 clear hc
 go_enter Tryz.func46, Tryz.ntmps46
 go_wp2_with fail
 refine (HRT.out _).mono ?_
 rintro e w1 ⟨rfl, hb1⟩
 obtain ⟨c0, c1, c2, c3⟩ := cfg_at hb1
 have H1 := Aside0.mk (below_step (below_alloc (Below.refl _ _) _) hb1)
 clear hb1
 go_wp2_with fail
 go_ret2
 exact ⟨_, rfl, blk_new _ _, below_alloc H1.out _, H1.out.size⟩
set_option maxHeartbeats 2000000 in
set_option maxRecDepth 100000 in
theorem newenc_no {P : Value} (p q k wd : Int) (hc : cfgB p q k wd = false) {ad : Addr} (hP : P = .pointer (some ad)) (w : World) :
  Calls Tryz.prog 46 #[P, .agg #[.int .i64 p, .int .i64 q, .int .i64 k, .int .i64 wd]] w fun e w' => e = .returned (.tuple #[.pointer none, errV 1 0]) ∧ Below w.heap.size w w' := by
 have HRT := Aside0.mk (fun W => right_calls p q k wd W)
 rw [hc] at HRT
 subst hP
 clear hc
 go_enter Tryz.func46, Tryz.ntmps46
 go_wp2_with fail
 refine (HRT.out _).mono ?_
 rintro e w1 ⟨rfl, hb1⟩
 have H1 := Aside0.mk (below_step (below_alloc (Below.refl _ _) _) hb1)
 clear hb1
 go_wp2_with fail
 refine (fnew_any 1 0 _).mono ?_
 rintro x w2 ⟨rfl, rfl⟩
 go_wp2_with fail
 go_ret2
 exact ⟨rfl, H1.out⟩
namespace Spec
def encS (l : List ByteArray) (q k : Nat) (pay : ByteArray → Nat × ByteArray) (b : ByteArray) : ByteArray :=
 headS q k (Idn l) ++ (cutR pay k b.size b).1 ++ ((if (cutR pay k b.size b).2.size = 0 then ⟨#[]⟩ else ⟨#[]⟩ ++ blkS pay (cutR pay k b.size b).2) ++ endS b.size)
end Spec
set_option maxHeartbeats 2000000 in
set_option maxRecDepth 100000 in
theorem encode_any {w : World} {P : Value} {l : List ByteArray} {p q k wd : Nat} {pay : ByteArray → Nat × ByteArray} (hd : DictAt w P l) {ad : Addr} (hP : P = .pointer (some ad)) (hl : l.length ≤ 100) (hs : ∀ s ∈ l, 1 ≤ s.size ∧ s.size ≤ 40) (hc : cfgB p q k wd = true) (hp : PutOk P l (eNew p q k wd) pay) (b : ByteArray) (hz : b.size ≤ 100000) :
  Calls Tryz.prog 57 #[P, .agg #[.int .i64 (p : Int), .int .i64 (q : Int), .int .i64 (k : Int), .int .i64 (wd : Int)], .string b] w fun e w' => e = .returned (.tuple #[.string (encS l q k pay b), .nilIface]) ∧ Below w.heap.size w w' := by
 have HD := Aside0.mk hd
 obtain ⟨hp2, hq1, hk, hwd⟩ := cfg_bounds hc
 have hs' : ∀ s ∈ l, s.size < 1000000 := fun s hm => by have := (hs s hm).2; omega
 have HNE := Aside0.mk (fun W => newenc_yes hP p q k wd hc W)
 obtain ⟨E2, hE2⟩ : ∃ E2 : En, E2 = ⟨p, q, k, wd, (cutR pay k b.size b).2, b.size, true, false⟩ := ⟨_, rfl⟩
 have HWR : Aside0 (∀ (W : World) (g : Nat), EncAt W g P (eNew p q k wd) → DicF g W P l → Calls Tryz.prog 53 #[.pointer (some ⟨g, 0, none⟩), .string b] W fun x w' => x = .returned (.tuple #[.string (headS q k (Idn l) ++ (cutR pay k b.size b).1), .nilIface]) ∧ EncAt w' g P E2 ∧ Mv g W w') := ⟨fun W g h hdi => by
  have hw := write_any (e := eNew p q k wd) (ebegin_first h hdi hP hl hs' rfl rfl hq1 hk) hdi (pay := pay) ⟨hp.calls, hp.fits⟩ hk b (by show 0 + b.size ≤ _; omega) (by show 0 + b.size ≤ _; omega) (Nat.le_of_eq (headS_size _ _ _))
  dsimp only [eNew] at hw
  rw [ba_nil_append, Nat.zero_add] at hw
  rw [hE2]
  exact hw⟩
 have hcs := cut_size hp hk.1 hk.2 b.size b
 have hcr : (cutR pay k b.size b).2.size < k := cut_rest pay k hk.1 b.size b (Nat.le_refl _)
 have hcs1 : (cutR pay k b.size b).1.size ≤ 10 * b.size := hcs.1
 obtain ⟨F, hF⟩ : ∃ F, F = (if (cutR pay k b.size b).2.size = 0 then ⟨#[]⟩ else ⟨#[]⟩ ++ blkS pay (cutR pay k b.size b).2) := ⟨_, rfl⟩
 have hFz : F.size ≤ 2000 := by
  rw [hF]
  split
  ·exact Nat.zero_le _
  ·rename_i hne
   rw [ByteArray.size_append]
   have := (blkS_size hp hk.2 (cutR pay k b.size b).2 (Nat.pos_of_ne_zero hne) (Nat.le_of_lt hcr)).1
   show 0 + _ ≤ _
   omega
 have HCL : Aside0 (∀ (W : World) (g : Nat), EncAt W g P E2 → DicF g W P l → Calls Tryz.prog 55 #[.pointer (some ⟨g, 0, none⟩)] W fun x w' => x = .returned (.tuple #[.string (F ++ endS b.size), .nilIface]) ∧ Mv g W w') := ⟨fun W g h hdi => by
  have hf := flush_any (e := E2) (e1 := E2) (pay := pay) (hd := ⟨#[]⟩) (l := l) ((ebegin_again h hP (by rw [hE2]) (by rw [hE2])).mono fun x w' ⟨h1, h2⟩ => ⟨h1, h2 ▸ h, h2 ▸ Mv.refl g W⟩) hdi (by rw [hE2]; exact ⟨hp.calls, hp.fits⟩) (by rw [hE2]; exact hk) (by rw [hE2]; exact Nat.le_of_lt hcr) (Nat.zero_le _)
  rw [show (if E2.held.size = 0 then ⟨#[]⟩ else ⟨#[]⟩ ++ blkS pay E2.held) = F by rw [hF, hE2]] at hf
  have hc := close_any hf (by rw [hE2]; show b.size ≤ _; omega) (by omega)
  rw [show ({ E2 with held := ⟨#[]⟩ } : En).written = b.size by rw [hE2]] at hc
  exact hc.mono fun x w' ⟨h1, _, h3⟩ => ⟨h1, h3⟩⟩
 have hez := endS_size b.size
 have hhz := headS_size q k (Idn l)
 have HX : Aside0 (encS l q k pay b = headS q k (Idn l) ++ (cutR pay k b.size b).1 ++ (F ++ endS b.size)) := ⟨by rw [hF]; rfl⟩
 generalize headS q k (Idn l) = x1 at *
 generalize (cutR pay k b.size b).1 = x2 at *
 generalize endS b.size = x3 at *
 have u1 : ¬ 9223372036854775807 < x1.size + x2.size + (F.size + x3.size) := by omega
 subst hP
 have e0 : (w.alloc (.cells #[.int .i64 (p : Int), .int .i64 (q : Int), .int .i64 (k : Int), .int .i64 (wd : Int)] 24)).cell? ⟨w.heap.size, 0, none⟩ = some (.int .i64 (p : Int)) := by simp
 clear hd hl hs hc hp hz hp2 hq1 hk hwd hs' hE2 hcs hcr hcs1 hF hFz hez hhz
 go_enter Tryz.func57, Tryz.ntmps57
 go_wp2_with fail
 refine (HNE.out _).mono ?_
 rintro x w1 ⟨g, rfl, he1, hb1, hg1⟩
 have HE1 := Aside0.mk he1
 have HB1 := Aside0.mk (below_step ((Below.refl w.heap.size w).alloc (Nat.le_refl _) _) hb1)
 have HG1 := Aside0.mk (show w.heap.size ≤ g by simp at hg1; omega)
 clear he1 hb1 hg1
 go_wp2_with fail
 refine (HWR.out _ g HE1.out (DicF.of HD.out HB1.out HG1.out)).mono ?_
 rintro x w2 ⟨rfl, he2, hm2⟩
 have HE2 := Aside0.mk he2
 have HB2 := Aside0.mk (hm2.low HB1.out HG1.out)
 clear he2 hm2
 go_wp2_with fail
 refine (HCL.out _ g HE2.out (DicF.of HD.out HB2.out HG1.out)).mono ?_
 rintro x w3 ⟨rfl, hm3⟩
 have HB3 := Aside0.mk (hm3.low HB2.out HG1.out)
 clear hm3
 go_wp2_with fail
 go_ret2
 exact ⟨by rw [HX.out]; rfl, HB3.out⟩
theorem encode_no {w : World} {P : Value} (p q k wd : Int) (hc : cfgB p q k wd = false) {ad : Addr} (hP : P = .pointer (some ad)) (b : ByteArray) :
  Calls Tryz.prog 57 #[P, .agg #[.int .i64 p, .int .i64 q, .int .i64 k, .int .i64 wd], .string b] w fun e w' => e = .returned (.tuple #[.string ⟨#[]⟩, errV 1 0]) ∧ Below w.heap.size w w' := by
 have HN := Aside0.mk (fun W => newenc_no p q k wd hc hP W)
 rw [errV_some (show (1 : Int) ≠ 0 by decide)] at HN ⊢
 subst hP
 clear hc
 go_enter Tryz.func57, Tryz.ntmps57
 go_wp2_with fail
 refine (HN.out _).mono ?_
 rintro x w1 ⟨rfl, hb1⟩
 have HB1 := Aside0.mk (below_step ((Below.refl w.heap.size w).alloc (Nat.le_refl _) _) hb1)
 clear hb1
 go_wp2_with fail
 go_ret2
 exact ⟨rfl, HB1.out⟩
end Go.Proofs.YtepgkimlmoikmaaGreat
set_option linter.unusedVariables false
set_option linter.unusedSimpArgs false
namespace Go.Proofs.YtepgkimlmoikmaaGreat
open Go.RowKit Go.Proofs.YtepgkimlmoikmaaGreat.Spec Go.Proofs.YtepgkimlmoikmaaGreatW.PrintWords Go.Proofs.YtepgkimlmoikmaaGreatW.PrintLast
open Go.Proofs.YtepgkimlmoikmaaGreatW.PrintMore
attribute [local go_sem ↓] Go.wp_at_zero Go.wp_at_succ
attribute [local go_sem] max2_int min2_int max_two min_two
namespace Spec
def payN (l : List ByteArray) (b : ByteArray) : Nat × ByteArray := if (nums2 (par l b b.size 0)).length < b.size then (2, str (nums2 (par l b b.size 0))) else (1, b)
def strm : ByteArray := encS abab 0 100 (payN abab) three
end Spec
theorem nums2_pos {x : List Int} (h : x ≠ []) : 1 ≤ (nums2 x).length := by
 cases x with
 | nil => exact absurd rfl h
 | cons t r =>
  rw [nums2, List.length_append]
  have := List.length_pos_iff.2 (num_ne t.toNat)
  omega
theorem putok_small {P : Value} {l : List ByteArray} (hl : l.length ≤ 100) (hs : ∀ s ∈ l, 1 ≤ s.size ∧ s.size ≤ 40) : PutOk P l (eNew 0 0 100 100) (payN l) := by
 have hne : ∀ b : ByteArray, 1 ≤ b.size → b.size ≤ 100 → par l b b.size 0 ≠ [] := fun b h1 h2 => by
  have := (toks_ok (l := l) (by omega) hs 0 (wd := 1) (Nat.le_refl 1) b (by omega)).2.2.2 h1
  rw [toks_zero] at this
  exact this
 refine ⟨fun W b hd h1 h2 => ?_, fun b h1 h2 => ?_⟩
 ·have h2' : b.size ≤ 100 := h2
  refine (put_small (DictN.of hd) (by omega) hs b h1 h2' (hne b h1 h2')).mono ?_
  rintro x w' ⟨rfl, hb⟩
  refine ⟨?_, hb⟩
  unfold payN
  by_cases q : (nums2 (par l b b.size 0)).length < b.size
  ·rw [if_pos q, if_pos q]; rfl
  ·rw [if_neg q, if_neg q]; rfl
 ·have h2' : b.size ≤ 100 := h2
  unfold payN fitsR
  by_cases q : (nums2 (par l b b.size 0)).length < b.size
  ·rw [if_pos q]
   have hz : (str (nums2 (par l b b.size 0))).size = (nums2 (par l b b.size 0)).length := by rw [← u_size, u_str]
   have := nums2_pos (hne b h1 h2')
   exact ⟨⟨h1, by omega⟩, by show 1 ≤ (str (nums2 (par l b b.size 0))).size; omega, .inr ⟨rfl, by show (str (nums2 (par l b b.size 0))).size < b.size; omega⟩⟩
  ·rw [if_neg q]
   exact ⟨⟨h1, by omega⟩, h1, .inl ⟨rfl, rfl⟩⟩
theorem strm_size : strm.size = 35 := by decide +kernel
theorem strm_fin : finC (full abab strm) = 0 := by decide +kernel
theorem strm_out : u (full abab strm).out = u three := by decide +kernel
theorem x_fin : finC (full abab ⟨#[120]⟩) = 2 ∧ (full abab ⟨#[120]⟩).at_ = 0 := by decide +kernel
set_option maxHeartbeats 2000000 in
set_option maxRecDepth 100000 in
theorem alive24_any (w : World) : Calls Tryz.prog 38 #[] w fun e w' => e = .returned (.bool true) ∧ Below w.heap.size w w' := by
 have HA : Aside0 (∀ W : World, Calls Tryz.prog 67 #[.slice (some ⟨W.heap.size, 0, none⟩) 1 1] (W.alloc (.cells #[.string ⟨#[97, 98, 97, 98]⟩] 9)) fun e w' => ∃ ad, e = .returned (.pointer (some ad)) ∧ Aside0 (DictAt w' (.pointer (some ad)) abab) ∧ Below W.heap.size W w') := ⟨by
  intro W
  refine (make_yes abab _ (strs_lit W abab (by decide)) (Nat.le_refl _) (fun s hs => by have := (abab_sizes s hs).2; omega) phr_abab).mono ?_
  rintro e w' ⟨ad, rfl, hd, hb⟩
  exact ⟨ad, rfl, ⟨hd⟩, below_step ((Below.refl _ _).alloc (Nat.le_refl _) _) hb⟩⟩
 have HE : Aside0 (∀ (W : World) (ad : Addr), DictAt W (.pointer (some ad)) abab → Calls Tryz.prog 57 #[.pointer (some ad), .agg #[.int .i64 0, .int .i64 0, .int .i64 100, .int .i64 100], .string ⟨#[97, 98, 97, 98, 97, 98]⟩] W fun e w' => e = .returned (.tuple #[.string strm, .nilIface]) ∧ Below W.heap.size W w') := ⟨fun W ad hd => encode_any (p := 0) (q := 0) (k := 100) (wd := 100) hd rfl (by decide) abab_sizes (by decide) (putok_small (by decide) abab_sizes) three (by decide)⟩
 have HD1 : Aside0 (∀ (W : World) (ad : Addr), DictAt W (.pointer (some ad)) abab → Calls Tryz.prog 64 #[.pointer (some ad), .string strm] W fun e w' => e = .returned (.tuple #[.string ⟨#[97, 98, 97, 98, 97, 98]⟩, .nilIface]) ∧ Below W.heap.size W w') := ⟨fun W ad hd => by
  have h := decode_any hd rfl (by decide) abab_sizes strm (by rw [strm_size]; decide)
  rw [strm_fin, if_pos rfl, u_inj strm_out] at h
  exact h⟩
 have HD2 : Aside0 (∀ (W : World) (ad : Addr), DictAt W (.pointer (some ad)) abab → Calls Tryz.prog 64 #[.pointer (some ad), .string ⟨#[120]⟩] W fun e w' => e = .returned (.tuple #[.string ⟨#[]⟩, .iface 152 (.agg #[.int .i64 2, .int .i64 0])]) ∧ Below W.heap.size W w') := ⟨fun W ad hd => by
  have h := decode_any hd rfl (by decide) abab_sizes ⟨#[120]⟩ (by decide)
  rw [x_fin.1, x_fin.2, if_neg (by decide), errV_some (by decide)] at h
  exact h⟩
 have HT : Aside0 (∀ W, Calls Tryz.prog 44 #[.iface 152 (.agg #[.int .i64 2, .int .i64 0]), .int .i64 2, .int .i64 0] W fun e w' => e = .returned (.bool true) ∧ Below W.heap.size W w') := ⟨fun W => by
  have h := told24_any 2 0 2 0 W
  rw [errV_some (by decide)] at h
  exact h⟩
 have hz : ((strm.size : Int) == 35) = true := by rw [strm_size]; rfl
 have hz2 : (strm.size == 35) = true := by rw [strm_size]; rfl
 have hz3 : strm.size = 35 := strm_size
 generalize strm = st at *
 go_enter Tryz.func38, Tryz.ntmps38
 go_wp2_with fail
 refine (HA.out _).mono ?_
 rintro e w1 ⟨ad, rfl, HDA, hb1⟩
 have HB1 := Aside0.mk hb1
 clear hb1
 go_wp2_with fail
 have HDA1 := Aside0.mk (HDA.out.below (below_alloc (Below.refl _ _) (.cells #[.int .i64 0, .int .i64 0, .int .i64 100, .int .i64 100] 24)))
 refine (HE.out _ ad HDA1.out).mono ?_
 rintro e w2 ⟨rfl, hb2⟩
 have HB2 := Aside0.mk (below_step (below_alloc HB1.out _) hb2)
 have HDA2 := Aside0.mk (HDA1.out.below hb2)
 clear hb2
 go_wp2_with fail
 refine (HD1.out _ ad HDA2.out).mono ?_
 rintro e w3 ⟨rfl, hb3⟩
 have HB3 := Aside0.mk (below_step HB2.out hb3)
 have HDA3 := Aside0.mk (HDA2.out.below hb3)
 clear hb3
 go_wp2_with fail
 refine (HD2.out _ ad HDA3.out).mono ?_
 rintro e w4 ⟨rfl, hb4⟩
 have HB4 := Aside0.mk (below_step HB3.out hb4)
 clear hb4
 go_wp2_with fail
 refine (HT.out _).mono ?_
 rintro e w5 ⟨rfl, hb5⟩
 have HB5 := Aside0.mk (below_step HB4.out hb5)
 clear hb5
 go_wp2_with fail
 go_ret
 exact ⟨rfl, HB5.out⟩
end Go.Proofs.YtepgkimlmoikmaaGreat
set_option linter.unusedVariables false
set_option linter.unusedSimpArgs false
namespace Go.Proofs.YtepgkimlmoikmaaGreat
open Go.RowKit Go.Proofs.YtepgkimlmoikmaaGreat.Spec Go.Proofs.YtepgkimlmoikmaaGreatW.PrintWords Go.Proofs.YtepgkimlmoikmaaGreatW.PrintLast
open Go.Proofs.YtepgkimlmoikmaaGreatW.PrintMore
attribute [local go_sem ↓] Go.wp_at_zero Go.wp_at_succ
attribute [local go_sem] max2_int min2_int max_two min_two
theorem dictn_at {w : World} {ad : Addr} {l : List ByteArray} (h : DictN w (.pointer (some ad)) l) : DictAt w (.pointer (some ad)) l := by
 rcases h.out with h | ⟨h, _⟩
 ·exact h
 ·cases h
set_option maxHeartbeats 2000000 in
set_option maxRecDepth 100000 in
theorem dict24_yes {A : Option Addr} {c : Nat} (l : List ByteArray) (w : World) (hr : StrsIn w A l) (hc : l.length ≤ c) (hl : l.length ≤ 140737488351232) (hsz : ∀ s ∈ l, s.size ≤ 140737488351232) (h : Given l ⟨#[]⟩) : Calls Tryz.prog 37 #[.slice A l.length c] w fun e w' => ∃ ad, e = .returned (.tuple #[.pointer (some ad), .bool true]) ∧ DictAt w' (.pointer (some ad)) l ∧ Below w.heap.size w w' := by
 have H := Aside0.mk (dict13_yes l ⟨#[]⟩ w hr hc hl hsz h)
 clear hr hc hl hsz h
 go_enter Tryz.func37, Tryz.ntmps37
 go_wp2_with fail
 refine H.out.mono ?_
 rintro e w1 ⟨ad, rfl, hd, hb⟩
 have HD := Aside0.mk (dictn_at hd)
 have HB := Aside0.mk hb
 clear hd hb
 go_wp2_with fail
 go_ret2
 exact ⟨ad, rfl, HD.out, HB.out⟩
set_option maxHeartbeats 2000000 in
set_option maxRecDepth 100000 in
theorem dict24_no {A : Option Addr} {c : Nat} (l : List ByteArray) (w : World) (hr : StrsIn w A l) (hc : l.length ≤ c) (hl : l.length ≤ 140737488351232) (hsz : ∀ s ∈ l, s.size ≤ 140737488351232) (h : ¬ Given l ⟨#[]⟩) : Calls Tryz.prog 37 #[.slice A l.length c] w fun e w' => e = .returned (.tuple #[.pointer none, .bool false]) ∧ Below w.heap.size w w' := by
 have H := Aside0.mk (dict13_no l ⟨#[]⟩ w hr hc hl hsz h)
 clear hr hc hl hsz h
 go_enter Tryz.func37, Tryz.ntmps37
 go_wp2_with fail
 refine H.out.mono ?_
 rintro e w1 ⟨rfl, hb⟩
 have HB := Aside0.mk hb
 clear hb
 go_wp2_with fail
 go_ret2
 exact ⟨rfl, HB.out⟩
theorem rconf_calls (p q k wd : Int) (w : World) : Calls Tryz.prog 27 #[.agg #[.int .i64 p, .int .i64 q, .int .i64 k, .int .i64 wd]] w fun e w' => e = .returned (.bool (cfgB p q k wd)) ∧ Below w.heap.size w w' := by
 refine Leaf.lexiphaneref1_ConfigRight.calls p q k wd (cfgB p q k wd) w ?_
 unfold Leaf.lexiphaneref1_ConfigRight.f cfgB
 repeat' split
 all_goals (first | (congr 1; rw [decide_eq_decide]; omega) | (congr 1; symm; rw [decide_eq_false_iff_not]; omega))
end Go.Proofs.YtepgkimlmoikmaaGreat
