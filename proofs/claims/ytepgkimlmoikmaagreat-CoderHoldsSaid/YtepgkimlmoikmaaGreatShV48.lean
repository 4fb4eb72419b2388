/- ShV: a part of its proof (contracts of the functions that it reaches, and the plain mathematics behind them). -/
import Derived.Test.YtepgkimlmoikmaaGreatShV36
import Derived.Test.YtepgkimlmoikmaaGreatShV47
import Derived.Test.YtepgkimlmoikmaaGreatShV42
set_option linter.unusedVariables false
set_option linter.unusedSimpArgs false
set_option maxHeartbeats 2000000
set_option maxRecDepth 100000
set_option linter.unusedVariables false
set_option linter.unusedSimpArgs false
namespace Go.Proofs.YtepgkimlmoikmaaGreat
open Go.RowKit Go.Proofs.YtepgkimlmoikmaaGreat.Spec Go.Proofs.YtepgkimlmoikmaaGreatW.PrintWords Go.Proofs.YtepgkimlmoikmaaGreatW.PrintLast
open Go.Proofs.YtepgkimlmoikmaaGreatW.PrintMore
attribute [local go_sem ↓] Go.wp_at_zero Go.wp_at_succ
attribute [local go_sem] max2_int min2_int max_two min_two
theorem coded_one (w : World) : Calls Tryz.prog 75 #[.int .i64 1] w fun e w' => e = .returned (.bool true) ∧ Below w.heap.size w w' := by
 refine (coded_calls 1 w).mono ?_
 rintro e w' ⟨rfl, h⟩
 exact ⟨rfl, h.below⟩
theorem lay_nums2 {A : Option Addr} {c : Nat} {p : Value} {l : List ByteArray} (toks : List Int) {w : World} (hd : DictN w p l) (hl : l.length ≤ 1000) (hs : ∀ s ∈ l, 1 ≤ s.size ∧ s.size ≤ 40) (hr : IntsIn w A toks) (hc : toks.length ≤ c) (hn : toks.length ≤ 2000) (h0 : toks ≠ []) (ht : ∀ t ∈ toks, Tok l t) :
  Calls Tryz.prog 32 #[p, .int .i64 0, .slice A toks.length c] w fun e w' => e = .returned (.tuple #[.string (str (nums2 toks)), .int .i64 0]) ∧ Below w.heap.size w w' := by
 have HD := Aside0.mk hd
 have HR := Aside0.mk hr
 have HC := Aside0.mk hc
 have HN := Aside0.mk hn
 have HL := Aside0.mk hl
 have HS := Aside0.mk hs
 have HT := Aside0.mk ht
 have hpos : 0 < toks.length := List.length_pos_iff.2 h0
 have e0 : ((toks.length : Int) == (0 : Int)) = false := beq_eq_false_iff_ne.2 (by omega)
 have e0' : (toks.length == 0) = false := beq_eq_false_iff_ne.2 (by omega)
 have e0n : ¬ toks = [] := h0
 clear hd hr hc hn hl hs ht hpos h0
 go_enter Tryz.func32, Tryz.ntmps32
 go_wp2_with (go_at_call 75; refine (coded_zero _).mono ?_; rintro e w1 ⟨rfl, hb1⟩; have H1 := Aside0.mk hb1; clear hb1)
 go_loopw [25] (fun v25 wr => ∃ i : Nat, v25 = .int .i64 i ∧ Aside0 (i ≤ toks.length) ∧ Aside0 (Below w.heap.size w wr)) (fun v25 _ => toks.length - (intOf v25).toNat)
 case atStart => exact ⟨0, rfl, ⟨Nat.zero_le _⟩, H1⟩
 case round =>
  obtain ⟨i, rfl, HI, HB⟩ := hrel
  have hi := HI.out
  have hn := HN.out
  by_cases hlt : i < toks.length
  ·have d0 : decide ((i : Int) < (toks.length : Int)) = true := decide_eq_true (by omega)
   have d0' : decide (i < toks.length) = true := decide_eq_true hlt
   have p1 : (0 : Int) ≤ (i : Int) := by omega
   have p2 : (i : Int) < (toks.length : Int) := by omega
   have HLT := Aside0.mk hlt
   obtain ⟨t, hget⟩ : ∃ t, toks[i]? = some t := ⟨_, List.getElem?_eq_getElem hlt⟩
   obtain ⟨ad2, e2, hcell⟩ := Kd.at_int (Kd.C_below HR.out HB.out) (i : Int) p1 p2
   have hrd : rd toks (i : Int) = t := by unfold rd; rw [Int.toNat_natCast, List.getD_eq_getElem?_getD, hget]; rfl
   rw [hrd, Int.toNat_natCast] at hcell
   subst e2
   have HTK := Aside0.mk (HT.out t (List.mem_of_getElem? hget))
   have HDT := Aside0.mk (decide_eq_true HTK.out)
   have HIN : Aside0 (In64 t) := ⟨by have h := HTK.out; have := HL.out; unfold Tok at h; unfold In64; omega⟩
   clear hi hn hlt hget hrd
   go_wp2_with (go_at_call 98; refine (right_any (HD.out.below HB.out) HS.out t HIN.out).mono ?_; rw [HDT.out]; rintro e w2 ⟨rfl, hb2⟩; have HB2 := Aside0.mk (below_step HB.out hb2); clear hb2)
   go_roundw
   case rel =>
    have h1 := HLT.out
    have h2 := HN.out
    exact ⟨i + 1, by rw [step1 i (by omega)], ⟨by omega⟩, HB2⟩
   case measure => have h1 := HLT.out; have h2 := HN.out; exact meas _ i h1 (by omega)
  ·have d0 : decide ((i : Int) < (toks.length : Int)) = false := decide_eq_false (by omega)
   have d0' : decide (i < toks.length) = false := decide_eq_false hlt
   clear hi hn hlt
   go_wp2
   go_loopw [10, 41] (fun v10 v41 wr => ∃ i : Nat, v41 = .int .i64 i ∧ v10 = .string (str (nums2 (toks.take i))) ∧ Aside0 (i ≤ toks.length) ∧ Aside0 (Below w.heap.size w wr)) (fun _ v41 _ => toks.length - (intOf v41).toNat)
   case atStart => exact ⟨0, rfl, rfl, ⟨Nat.zero_le _⟩, HB⟩
   case round =>
    obtain ⟨i, rfl, rfl, HI2, HB2⟩ := hrel
    have hi := HI2.out
    have hn := HN.out
    by_cases hlt : i < toks.length
    ·have d1 : decide ((i : Int) < (toks.length : Int)) = true := decide_eq_true (by omega)
     have d1' : decide (i < toks.length) = true := decide_eq_true hlt
     have p1 : (0 : Int) ≤ (i : Int) := by omega
     have p2 : (i : Int) < (toks.length : Int) := by omega
     have HLT := Aside0.mk hlt
     obtain ⟨t, hget⟩ : ∃ t, toks[i]? = some t := ⟨_, List.getElem?_eq_getElem hlt⟩
     obtain ⟨ad2, e2, hcell⟩ := Kd.at_int (Kd.C_below HR.out HB2.out) (i : Int) p1 p2
     have hrd : rd toks (i : Int) = t := by unfold rd; rw [Int.toNat_natCast, List.getD_eq_getElem?_getD, hget]; rfl
     rw [hrd, Int.toNat_natCast] at hcell
     subst e2
     have htk := HT.out t (List.mem_of_getElem? hget)
     have hll := HL.out
     unfold Tok at htk
     obtain ⟨m, rfl⟩ : ∃ m : Nat, t = m := ⟨t.toNat, by omega⟩
     have HMB := Aside0.mk (show m < 4294967296 by omega)
     have hz := nums2_size HL.out (toks.take i) (fun q hq => HT.out q (List.mem_of_mem_take hq))
     have hz2 := num_size (n := m) (by omega)
     rw [List.length_take] at hz
     have q1 : ¬ 9223372036854775807 < (str (nums2 (toks.take i))).size + (str (num m)).size := by rw [← u_size, ← u_size, u_str, u_str]; omega
     have HTS := Aside0.mk (show nums2 (toks.take (i + 1)) = nums2 (toks.take i) ++ num m by rw [take_succ hget, nums2_append]; simp [nums2])
     clear hi hn hlt hget hrd htk hll hz hz2
     go_wp2_with (go_at_call 100; refine (vput_nat HMB.out _).mono ?_; rintro e w2 ⟨rfl, hb2⟩; have HB3 := Aside0.mk (below_step HB2.out hb2); clear hb2)
     go_roundw
     case rel =>
      have h1 := HLT.out
      have h2 := HN.out
      exact ⟨i + 1, by rw [step1 i (by omega)], by rw [HTS.out, str_append], ⟨by omega⟩, HB3⟩
     case measure => have h1 := HLT.out; have h2 := HN.out; exact meas _ i h1 (by omega)
    ·have d1 : decide ((i : Int) < (toks.length : Int)) = false := decide_eq_false (by omega)
     have d1' : decide (i < toks.length) = false := decide_eq_false hlt
     have HE := Aside0.mk (show toks.take i = toks from List.take_of_length_le (by omega))
     clear hi hn hlt
     go_wp2
     go_ret2
     rw [HE.out]
     exact ⟨rfl, HB2.out⟩
theorem lay_codes {A : Option Addr} {c : Nat} {p : Value} {l : List ByteArray} (toks : List Int) {w : World} (hd : DictN w p l) (hl : l.length ≤ 100) (hs : ∀ s ∈ l, 1 ≤ s.size ∧ s.size ≤ 40) (hr : IntsIn w A toks) (hc : toks.length ≤ c) (hn : toks.length ≤ 2000) (h0 : toks ≠ []) (ht : ∀ t ∈ toks, Tok l t) :
  Calls Tryz.prog 32 #[p, .int .i64 1, .slice A toks.length c] w fun e w' => e = .returned (.tuple #[.string (payC (256 + l.length) (toks.map Int.toNat)), .int .i64 0]) ∧ Below w.heap.size w w' := by
 have HCD := Aside0.mk (fun (W : World) (h : DictN W p l) (hr : IntsIn W A toks) => codes_any toks h hl hr hc hn h0 ht)
 have HD := Aside0.mk hd
 have HR := Aside0.mk hr
 have HC := Aside0.mk hc
 have HN := Aside0.mk hn
 have HL := Aside0.mk hl
 have HS := Aside0.mk hs
 have HT := Aside0.mk ht
 have hpos : 0 < toks.length := List.length_pos_iff.2 h0
 have e0 : ((toks.length : Int) == (0 : Int)) = false := beq_eq_false_iff_ne.2 (by omega)
 have e0' : (toks.length == 0) = false := beq_eq_false_iff_ne.2 (by omega)
 have e0n : ¬ toks = [] := h0
 clear hd hr hc hn hl hs ht hpos h0
 go_enter Tryz.func32, Tryz.ntmps32
 go_wp2_with (go_at_call 75; refine (coded_one _).mono ?_; rintro e w1 ⟨rfl, hb1⟩; have H1 := Aside0.mk hb1; clear hb1)
 go_loopw [25] (fun v25 wr => ∃ i : Nat, v25 = .int .i64 i ∧ Aside0 (i ≤ toks.length) ∧ Aside0 (Below w.heap.size w wr)) (fun v25 _ => toks.length - (intOf v25).toNat)
 case atStart => exact ⟨0, rfl, ⟨Nat.zero_le _⟩, H1⟩
 case round =>
  obtain ⟨i, rfl, HI, HB⟩ := hrel
  have hi := HI.out
  have hn := HN.out
  by_cases hlt : i < toks.length
  ·have d0 : decide ((i : Int) < (toks.length : Int)) = true := decide_eq_true (by omega)
   have d0' : decide (i < toks.length) = true := decide_eq_true hlt
   have p1 : (0 : Int) ≤ (i : Int) := by omega
   have p2 : (i : Int) < (toks.length : Int) := by omega
   have HLT := Aside0.mk hlt
   obtain ⟨t, hget⟩ : ∃ t, toks[i]? = some t := ⟨_, List.getElem?_eq_getElem hlt⟩
   obtain ⟨ad2, e2, hcell⟩ := Kd.at_int (Kd.C_below HR.out HB.out) (i : Int) p1 p2
   have hrd : rd toks (i : Int) = t := by unfold rd; rw [Int.toNat_natCast, List.getD_eq_getElem?_getD, hget]; rfl
   rw [hrd, Int.toNat_natCast] at hcell
   subst e2
   have HTK := Aside0.mk (HT.out t (List.mem_of_getElem? hget))
   have HDT := Aside0.mk (decide_eq_true HTK.out)
   have HIN : Aside0 (In64 t) := ⟨by have h := HTK.out; have := HL.out; unfold Tok at h; unfold In64; omega⟩
   clear hi hn hlt hget hrd
   go_wp2_with (go_at_call 98; refine (right_any (HD.out.below HB.out) HS.out t HIN.out).mono ?_; rw [HDT.out]; rintro e w2 ⟨rfl, hb2⟩; have HB2 := Aside0.mk (below_step HB.out hb2); clear hb2)
   go_roundw
   case rel =>
    have h1 := HLT.out
    have h2 := HN.out
    exact ⟨i + 1, by rw [step1 i (by omega)], ⟨by omega⟩, HB2⟩
   case measure => have h1 := HLT.out; have h2 := HN.out; exact meas _ i h1 (by omega)
  ·have d0 : decide ((i : Int) < (toks.length : Int)) = false := decide_eq_false (by omega)
   have d0' : decide (i < toks.length) = false := decide_eq_false hlt
   clear hi hn hlt
   go_wp2_with fail
   refine (HCD.out _ (HD.out.below HB.out) (Kd.C_below HR.out HB.out)).mono ?_
   rintro e w2 ⟨rfl, hb2⟩
   have HB2 := Aside0.mk (below_step HB.out hb2)
   clear hb2
   go_wp2_with fail
   go_ret2
   exact ⟨rfl, HB2.out⟩
theorem lay_any {A : Option Addr} {c : Nat} {p : Value} {l : List ByteArray} {q : Int} (hq : q = 0 ∨ q = 1) (toks : List Int) {w : World} (hd : DictN w p l) (hl : l.length ≤ 100) (hs : ∀ s ∈ l, 1 ≤ s.size ∧ s.size ≤ 40) (hr : IntsIn w A toks) (hc : toks.length ≤ c) (hn : toks.length ≤ 2000) (h0 : toks ≠ []) (ht : ∀ t ∈ toks, Tok l t) :
  Calls Tryz.prog 32 #[p, .int .i64 q, .slice A toks.length c] w fun e w' => e = .returned (.tuple #[.string (layR l q toks), .int .i64 0]) ∧ Below w.heap.size w w' := by
 rcases hq with rfl | rfl
 ·exact lay_nums2 toks hd (by omega) hs hr hc hn h0 ht
 ·exact lay_codes toks hd hl hs hr hc hn h0 ht
theorem cfgB_q {p q k wd : Int} (h : cfgB p q k wd = true) : (q = 0 ∨ q = 1) ∧ k ≤ 1024 ∧ 1 ≤ wd.toNat := by unfold cfgB at h; rw [decide_eq_true_iff] at h; omega
theorem put_any {P : Value} {l : List ByteArray} {w : World} (hd : DictN w P l) (hl : l.length ≤ 100) (hs : ∀ s ∈ l, 1 ≤ s.size ∧ s.size ≤ 40) (p q k wd : Int) (hcf : cfgB p q k wd = true) (b : ByteArray) (h1 : 1 ≤ b.size) (hk : (b.size : Int) ≤ k) :
  Calls Tryz.prog 24 #[P, .agg #[.int .i64 p, .int .i64 q, .int .i64 k, .int .i64 wd], .string b] w fun e w' => e = .returned (.tuple #[.int .i64 ((putR l p q wd.toNat b).1 : Int), .string (putR l p q wd.toNat b).2, .int .i64 0]) ∧ Below w.heap.size w w' := by
 obtain ⟨hq, hk2, hw1⟩ := cfgB_q hcf
 have HD := Aside0.mk hd
 have HT := Aside0.mk (fun (W : World) (h : DictN W P l) => tokens_yes h (by omega) hs p q k wd hcf b h1 hk)
 obtain ⟨_, ht, hn, hne⟩ := toks_ok (by omega) hs p hw1 b (by omega)
 have HL := Aside0.mk (fun (W : World) (h : DictN W P l) (A : Option Addr) (c : Nat) (hr : IntsIn W A (toks l p wd.toNat b)) (hc : (toks l p wd.toNat b).length ≤ c) => lay_any hq (toks l p wd.toNat b) h hl hs hr hc (by omega) (hne h1) ht)
 unfold putR
 generalize layR l q (toks l p wd.toNat b) = s at *
 clear hd hl hs h1 hne ht hn hk hcf hw1 hq hk2
 by_cases hq : s.size < b.size
 ·rw [if_pos hq]
  have d1 : decide ((s.size : Int) < (b.size : Int)) = true := decide_eq_true (by omega)
  have d2 : decide (s.size < b.size) = true := decide_eq_true (by omega)
  clear hq
  go_enter Tryz.func24, Tryz.ntmps24
  go_wp2_with fail
  refine (HT.out _ (HD.out.below (below_alloc (Below.refl _ _) _))).mono ?_
  rintro e w2 ⟨A, c, rfl, hc, hC, hb2⟩
  obtain ⟨c0, c1, c2, c3⟩ := cfg_at hb2
  have HC := Aside0.mk hC
  have HCC := Aside0.mk hc
  have H2 := Aside0.mk (below_step (below_alloc (Below.refl _ _) _) hb2)
  clear hc hC hb2
  go_wp2_with fail
  refine (HL.out _ (HD.out.below H2.out) A c HC.out HCC.out).mono ?_
  rintro e w3 ⟨rfl, hb3⟩
  have H3 := Aside0.mk (below_step H2.out hb3)
  clear hb3
  go_wp2
  go_ret3
  exact ⟨rfl, H3.out⟩
 ·rw [if_neg hq]
  have d1 : decide ((s.size : Int) < (b.size : Int)) = false := decide_eq_false (by omega)
  have d2 : decide (s.size < b.size) = false := decide_eq_false (by omega)
  clear hq
  go_enter Tryz.func24, Tryz.ntmps24
  go_wp2_with fail
  refine (HT.out _ (HD.out.below (below_alloc (Below.refl _ _) _))).mono ?_
  rintro e w2 ⟨A, c, rfl, hc, hC, hb2⟩
  obtain ⟨c0, c1, c2, c3⟩ := cfg_at hb2
  have HC := Aside0.mk hC
  have HCC := Aside0.mk hc
  have H2 := Aside0.mk (below_step (below_alloc (Below.refl _ _) _) hb2)
  clear hc hC hb2
  go_wp2_with fail
  refine (HL.out _ (HD.out.below H2.out) A c HC.out HCC.out).mono ?_
  rintro e w3 ⟨rfl, hb3⟩
  have H3 := Aside0.mk (below_step H2.out hb3)
  clear hb3
  go_wp2
  go_ret3
  exact ⟨rfl, H3.out⟩
end Go.Proofs.YtepgkimlmoikmaaGreat
set_option linter.unusedVariables false
set_option linter.unusedSimpArgs false
namespace Go.Proofs.YtepgkimlmoikmaaGreat
open Go.RowKit Go.Proofs.YtepgkimlmoikmaaGreat.Spec Go.Proofs.YtepgkimlmoikmaaGreatW.PrintWords Go.Proofs.YtepgkimlmoikmaaGreatW.PrintLast
open Go.Proofs.YtepgkimlmoikmaaGreatW.PrintMore
attribute [local go_sem ↓] Go.wp_at_zero Go.wp_at_succ
attribute [local go_sem] max2_int min2_int max_two min_two
theorem layR_pos {l : List ByteArray} (hl : l.length ≤ 100) {q : Int} {toks : List Int} (ht : ∀ t ∈ toks, Tok l t) (hne : toks ≠ []) : 1 ≤ (layR l q toks).size := by
 unfold layR
 split
 ·cases toks with
  | nil => exact absurd rfl hne
  | cons t r =>
   show 1 ≤ (str (num t.toNat ++ nums2 r)).size
   rw [← u_size, u_str, List.length_append]
   have := List.length_pos_iff.2 (num_ne t.toNat)
   omega
 ·obtain ⟨hb, hi⟩ := tok_nat ht
  have hne2 : toks.map Int.toNat ≠ [] := by simpa using hne
  obtain ⟨_, _, _, g4, _⟩ := lensC_right hne2 hb (by omega)
  unfold payC
  rw [ByteArray.size_append, strOfNums_size]
  cases hx : lensC (256 + l.length) (toks.map Int.toNat) with
  | nil => rw [hx, List.length_nil] at g4; omega
  | cons x t =>
   have := (TabMath.enc_sizes t 0 x (by omega)).2.1
   omega
theorem putR_fits {l : List ByteArray} (hl : l.length ≤ 100) (hs : ∀ s ∈ l, 1 ≤ s.size ∧ s.size ≤ 40) (p : Int) {q : Int} {wd : Nat} (hw : 1 ≤ wd) {b : ByteArray} (h1 : 1 ≤ b.size) (hb : b.size ≤ 1024) : fitsR (putR l p q wd b).1 b.size (putR l p q wd b).2.size := by
 obtain ⟨t1, t2, t3, t4⟩ := toks_ok (by omega) hs p hw b (by omega)
 have hp := layR_pos hl (q := q) t2 (t4 h1)
 unfold fitsR putR
 split
 ·exact ⟨⟨h1, hb⟩, hp, .inr ⟨rfl, by assumption⟩⟩
 ·exact ⟨⟨h1, hb⟩, h1, .inl ⟨rfl, rfl⟩⟩
theorem payOk {l : List ByteArray} (hl : l.length ≤ 100) (hs : ∀ s ∈ l, 1 ≤ s.size ∧ s.size ≤ 40) {p q k wd : Nat} (hc : cfgB p q k wd = true) : PayOk l q k (putR l p q wd) := by
 obtain ⟨h2, h3, h4, h5, _⟩ := cfg_bounds hc
 exact ⟨fun b h1 hb => putR_fits hl hs _ h5 h1 (by omega), fun b h1 hb => getR_putR hl hs _ (by omega) h5 h1 (by omega)⟩
theorem putOk {P : Value} {l : List ByteArray} (hl : l.length ≤ 100) (hs : ∀ s ∈ l, 1 ≤ s.size ∧ s.size ≤ 40) {p q k wd : Nat} (hc : cfgB p q k wd = true) (e : En) (he : e.p = p ∧ e.q = q ∧ e.k = k ∧ e.wd = wd) : PutOk P l e (putR l p q wd) := by
 obtain ⟨h2, h3, h4, h5, _⟩ := cfg_bounds hc
 obtain ⟨e1, e2, e3, e4⟩ := he
 refine ⟨fun W b hd h1 hb => ?_, fun b h1 hb => putR_fits hl hs _ h5 h1 (by omega)⟩
 rw [e1, e2, e3, e4]
 have h := put_any (DictN.of hd) hl hs p q k wd hc b h1 (by omega)
 rw [Int.toNat_natCast] at h
 exact h
end Go.Proofs.YtepgkimlmoikmaaGreat
set_option linter.unusedVariables false
set_option linter.unusedSimpArgs false
namespace Go.Proofs.YtepgkimlmoikmaaGreat
open Go.RowKit Go.Proofs.YtepgkimlmoikmaaGreat.Spec Go.Proofs.YtepgkimlmoikmaaGreatW.PrintWords Go.Proofs.YtepgkimlmoikmaaGreatW.PrintLast
open Go.Proofs.YtepgkimlmoikmaaGreatW.PrintMore
attribute [local go_sem ↓] Go.wp_at_zero Go.wp_at_succ
attribute [local go_sem] max2_int min2_int max_two min_two
theorem blkS_small {l : List ByteArray} {q k : Nat} {pay : ByteArray → Nat × ByteArray} (hp : PayOk l q k pay) {b : ByteArray} (h1 : 1 ≤ b.size) (h2 : b.size ≤ k) : (blkS pay b).size ≤ 10 * b.size ∧ 10 ≤ (blkS pay b).size := by
 have hf := hp.fits b h1 h2
 have hz : (blkS pay b).size = 9 + (pay b).2.size := frameS_size _ _ _ _
 unfold fitsR at hf
 omega
theorem blksS_small {l : List ByteArray} {q k : Nat} {pay : ByteArray → Nat × ByteArray} (hp : PayOk l q k pay) : ∀ bs : List ByteArray, (∀ b ∈ bs, 1 ≤ b.size ∧ b.size ≤ k) → (blksS pay bs).size ≤ 10 * (catB bs).size
 | [], _ => Nat.le_refl _
 | b :: r, h => by
  have ih := blksS_small hp r fun x hx => h x (List.mem_cons_of_mem _ hx)
  obtain ⟨h1, h2⟩ := h b (List.mem_cons_self ..)
  have hb := (blkS_small hp h1 h2).1
  rw [blksS, catB, ByteArray.size_append, ByteArray.size_append]
  omega
def eA (p q k wd : Nat) (os : List (Int × ByteArray)) (j : Nat) : En := ⟨p, q, k, wd, hA k os j, nA os j, bA os j, false⟩
section
variable {l : List ByteArray} {ad : Addr} {p q k wd : Nat} (hl : l.length ≤ 100) (hs : ∀ s ∈ l, 1 ≤ s.size ∧ s.size ≤ 40) (hc : cfgB p q k wd = true)
include hl hs hc
theorem ebegin_any (e : En) (he : e.p = p ∧ e.q = q ∧ e.k = k ∧ e.wd = wd) (hcl : e.closed = false) (W : World) (g : Nat) (hd : DicF g W (.pointer (some ad)) l) (h : EncAt W g (.pointer (some ad)) e) :
  Calls Tryz.prog 118 #[.pointer (some ⟨g, 0, none⟩)] W fun x w' => x = .returned (.tuple #[.string (if e.begun then ⟨#[]⟩ else headS q k (Idn l)), .nilIface]) ∧ EncAt w' g (.pointer (some ad)) { e with begun := true } ∧ Mv g W w' := by
 obtain ⟨h2, h3, h4, h5, _⟩ := cfg_bounds hc
 obtain ⟨rfl, rfl, rfl, rfl⟩ := he
 cases hb : e.begun with
 | false => exact ebegin_first h hd rfl hl (fun s h => by have := (hs s h).2; omega) hb hcl (by omega) (by omega)
 | true =>
  refine (ebegin_again h rfl hb hcl).mono ?_
  rintro x W' ⟨rfl, rfl⟩
  refine ⟨rfl, ?_, Mv.refl _ _⟩
  rw [show ({ e with begun := true } : En) = e by rw [← hb]]
  exact h
theorem write_st (e : En) (he : e.p = p ∧ e.q = q ∧ e.k = k ∧ e.wd = wd) (hcl : e.closed = false) (b : ByteArray) (hz : e.held.size + b.size ≤ 1000000) (hw : e.written + b.size ≤ 1000000) (W : World) (g : Nat) (hd : DicF g W (.pointer (some ad)) l) (h : EncAt W g (.pointer (some ad)) e) :
  Calls Tryz.prog 53 #[.pointer (some ⟨g, 0, none⟩), .string b] W fun x w' => x = .returned (.tuple #[.string ((if e.begun then ⟨#[]⟩ else headS q k (Idn l)) ++ blksS (putR l p q wd) (chk k (e.held ++ b)).1), .nilIface]) ∧ EncAt w' g (.pointer (some ad)) { e with begun := true, held := (chk k (e.held ++ b)).2, written := e.written + b.size } ∧ Mv g W w' := by
 obtain ⟨h2, h3, h4, h5, _⟩ := cfg_bounds hc
 have hbg := ebegin_any hl hs hc e he hcl W g hd h
 obtain ⟨rfl, rfl, rfl, rfl⟩ := he
 have hh : (if e.begun then (⟨#[]⟩ : ByteArray) else headS e.q e.k (Idn l)).size ≤ 17 := by
  split
  ·exact Nat.zero_le _
  ·rw [headS_size]; exact Nat.le_refl _
 have := write_any (e := e) hbg hd (putOk hl hs hc { e with begun := true } ⟨rfl, rfl, rfl, rfl⟩) (by show 1 ≤ e.k ∧ e.k ≤ 1024; omega) b hz hw hh
 rw [cut_chunk] at this
 exact this
end
end Go.Proofs.YtepgkimlmoikmaaGreat
set_option linter.unusedVariables false
set_option linter.unusedSimpArgs false
namespace Go.Proofs.YtepgkimlmoikmaaGreat
open Go.RowKit Go.Proofs.YtepgkimlmoikmaaGreat.Spec Go.Proofs.YtepgkimlmoikmaaGreatW.PrintWords Go.Proofs.YtepgkimlmoikmaaGreatW.PrintLast
open Go.Proofs.YtepgkimlmoikmaaGreatW.PrintMore
attribute [local go_sem ↓] Go.wp_at_zero Go.wp_at_succ
attribute [local go_sem] max2_int min2_int max_two min_two
namespace Spec
def HL (k : Nat) (os : List (Int × ByteArray)) : ByteArray := hA k os os.length
end Spec
end Go.Proofs.YtepgkimlmoikmaaGreat
set_option linter.unusedVariables false
set_option linter.unusedSimpArgs false
namespace Go.Proofs.YtepgkimlmoikmaaGreat
open Go.RowKit Go.Proofs.YtepgkimlmoikmaaGreat.Spec Go.Proofs.YtepgkimlmoikmaaGreatW.PrintWords Go.Proofs.YtepgkimlmoikmaaGreatW.PrintLast
open Go.Proofs.YtepgkimlmoikmaaGreatW.PrintMore
attribute [local go_sem ↓] Go.wp_at_zero Go.wp_at_succ
attribute [local go_sem] max2_int min2_int max_two min_two
namespace Spec
def osP (ps : List ByteArray) : List (Int × ByteArray) := ps.map fun b => (1, b)
def fedB (l : List ByteArray) (q k : Nat) (pay : ByteArray → Nat × ByteArray) (ps : List ByteArray) (j : Nat) : ByteArray := if j = 0 then ⟨#[]⟩ else headS q k (Idn l) ++ blksS pay (dA k (osP ps) j)
end Spec
theorem osP_at {ps : List ByteArray} {j : Nat} {b : ByteArray} (h : ps[j]? = some b) : opA (osP ps) j = (1, b) := by
 unfold opA osP
 rw [List.getD_eq_getElem?_getD, List.getElem?_map, h]
 rfl
theorem run_P {k : Nat} {ps : List ByteArray} {j : Nat} {b : ByteArray} (h : ps[j]? = some b) : dA k (osP ps) (j + 1) = dA k (osP ps) j ++ (chk k (hA k (osP ps) j ++ b)).1 ∧ hA k (osP ps) (j + 1) = (chk k (hA k (osP ps) j ++ b)).2 ∧ nA (osP ps) (j + 1) = nA (osP ps) j + b.size ∧ bA (osP ps) (j + 1) = true := by
 have ho := osP_at h
 refine ⟨?_, ?_, ?_, ?_⟩
 ·rw [dA]; unfold wA; rw [ho, if_pos rfl]
 ·rw [hA, ho, if_pos rfl]
 ·rw [nA, ho, if_pos rfl]
 ·rw [bA, ho, decide_eq_true (show (1 : Int) = 1 ∨ (1 : Int) = 2 from .inl rfl), Bool.or_true]
theorem all_P {k : Nat} (hk : 1 ≤ k) {ps : List ByteArray} {j : Nat} {b : ByteArray} (h : ps[j]? = some b) : catB (dA k (osP ps) (j + 1)) ++ hA k (osP ps) (j + 1) = (catB (dA k (osP ps) j) ++ hA k (osP ps) j) ++ b := by
 obtain ⟨h1, h2, _, _⟩ := run_P (k := k) h
 rw [h1, h2, catB_app, ba_assoc, (chunk_ok hk _ _ (Nat.le_refl _)).2.2, ba_assoc]
theorem whole_P {k : Nat} (hk : 1 ≤ k) (ps : List ByteArray) : ∀ j, j ≤ ps.length → (∀ b ∈ dA k (osP ps) j, b.size = k) ∧ bA (osP ps) j = decide (0 < j)
 | 0, _ => ⟨fun _ h => (by cases h), rfl⟩
 | j + 1, hj => by
  obtain ⟨i1, i2⟩ := whole_P hk ps j (by omega)
  obtain ⟨h1, _, _, h4⟩ := run_P (k := k) (List.getElem?_eq_getElem (show j < ps.length by omega))
  refine ⟨fun b hb => ?_, by rw [h4]; exact (decide_eq_true (by omega)).symm⟩
  rw [h1] at hb
  rcases List.mem_append.1 hb with h | h
  ·exact i1 b h
  ·exact (chunk_ok hk _ _ (Nat.le_refl _)).1 b h
theorem catB_len {k : Nat} : ∀ bs : List ByteArray, (∀ b ∈ bs, b.size = k) → (catB bs).size = bs.length * k
 | [], _ => (Nat.zero_mul k).symm
 | b :: r, h => by
  rw [catB, ByteArray.size_append, catB_len r fun x hx => h x (List.mem_cons_of_mem _ hx), h b (List.mem_cons_self ..), List.length_cons, Nat.add_mul, Nat.one_mul, Nat.add_comm]
theorem mod_P {k : Nat} (hk : 1 ≤ k) (ps : List ByteArray) (j : Nat) (hj : j ≤ ps.length) : (catB (dA k (osP ps) j) ++ hA k (osP ps) j).size % k = (hA k (osP ps) j).size := by
 rw [ByteArray.size_append, catB_len _ (whole_P hk ps j hj).1, Nat.add_comm, Nat.add_mul_mod_self_right, Nat.mod_eq_of_lt (hA_lt hk _ j)]
theorem fed_full {l : List ByteArray} {q k : Nat} {pay : ByteArray → Nat × ByteArray} (hq : q ≤ 1) (hk : 1 ≤ k ∧ k ≤ 1024) (hp : PayOk l q k pay) (ps : List ByteArray) (j : Nat) : ∃ a, full l (fedB l q k pay ps j) = ⟨catB (dA k (osP ps) j), a, 0, false⟩ ∧ a = (if j = 0 then 0 else (fedB l q k pay ps j).size) := by
 unfold fedB
 by_cases h : j = 0
 ·subst h
  exact ⟨0, full_short (by rw [if_pos rfl]; decide), rfl⟩
 ·rw [if_neg h, if_neg h]
  exact ⟨_, full_open hq hk hp _ (dA_ok hk.1 _ j).1, rfl⟩
theorem fed_next {l : List ByteArray} {q k : Nat} {pay : ByteArray → Nat × ByteArray} {ps : List ByteArray} {j : Nat} {b : ByteArray} (hk : 1 ≤ k) (hj : j < ps.length) (h : ps[j]? = some b) : fedB l q k pay ps j ++ ((if bA (osP ps) j then ⟨#[]⟩ else headS q k (Idn l)) ++ blksS pay (chk k (hA k (osP ps) j ++ b)).1) = fedB l q k pay ps (j + 1) := by
 obtain ⟨h1, _, _, _⟩ := run_P (k := k) h
 unfold fedB
 rw [(whole_P hk ps j (by omega)).2, if_neg (show ¬ j + 1 = 0 by omega), h1, blksS_app]
 by_cases e : j = 0
 ·subst e
  rw [if_pos rfl, decide_eq_false (by decide), if_neg (by decide), ba_nil_append]
  show _ = headS q k (Idn l) ++ (blksS pay [] ++ _)
  rw [show blksS pay [] = ⟨#[]⟩ from rfl, ba_nil_append]
 ·rw [if_neg e, decide_eq_true (by omega), if_pos rfl, ba_nil_append, ba_assoc]
theorem rel_none {l : List ByteArray} {q k : Nat} {pay : ByteArray → Nat × ByteArray} (hq : q ≤ 1) (hk : 1 ≤ k ∧ k ≤ 1024) (hp : PayOk l q k pay) (ps : List ByteArray) (j : Nat) {d : D} (hr : Rel l (fedB l q k pay ps j) d) : d.held.size = 0 := by
 obtain ⟨a, h1, h2⟩ := fed_full hq hk hp ps j
 have hd := hr.1 (by rw [h1])
 rw [hd]
 unfold dOk
 by_cases h : j = 0
 ·subst h
  rw [if_pos (by unfold fedB; rw [if_pos rfl]; decide)]
  unfold fedB
  rw [if_pos rfl]
  rfl
 ·rw [if_neg (by unfold fedB; rw [if_neg h, ByteArray.size_append, headS_size]; omega), h1]
  show ((fedB l q k pay ps j).extract a (fedB l q k pay ps j).size).size = 0
  rw [h2, if_neg h, ext_sz _ _ _ (Nat.le_refl _)]
  omega
theorem eheld_same {w : World} {g : Nat} {P : Value} {e : En} (h : EncAt w g P e) : Calls Tryz.prog 56 #[.pointer (some ⟨g, 0, none⟩)] w fun x w' => x = .returned (.int .i64 (e.held.size : Int)) ∧ w = w' := by
 have c5 := h.c5
 clear h
 go_enter Tryz.func56, Tryz.ntmps56
 go_wp2_with fail
 go_ret
 exact ⟨rfl, rfl⟩
end Go.Proofs.YtepgkimlmoikmaaGreat
set_option linter.unusedVariables false
set_option linter.unusedSimpArgs false
namespace Go.Proofs.YtepgkimlmoikmaaGreat
open Go.RowKit Go.Proofs.YtepgkimlmoikmaaGreat.Spec Go.Proofs.YtepgkimlmoikmaaGreatW.PrintWords Go.Proofs.YtepgkimlmoikmaaGreatW.PrintLast
open Go.Proofs.YtepgkimlmoikmaaGreatW.PrintMore
attribute [local go_sem ↓] Go.wp_at_zero Go.wp_at_succ
attribute [local go_sem] max2_int min2_int max_two min_two
end Go.Proofs.YtepgkimlmoikmaaGreat
