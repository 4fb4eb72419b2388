/- ShE: a part of its proof (contracts of the functions that it reaches, and the plain mathematics behind them). -/
import Derived.Test.YtdpkgjahcapleaaGreatShE27
import Derived.Test.YtdpkgjahcapleaaGreatShE16
set_option linter.unusedVariables false
set_option linter.unusedSimpArgs false
set_option linter.unusedVariables false
set_option linter.unusedSimpArgs false
namespace Go.Proofs.YtdpkgjahcapleaaGreat
open Go.RowKit Go.Proofs.YtdpkgjahcapleaaGreat.Spec Go.Proofs.YtdpkgjahcapleaaGreatW.PrintWords Go.Proofs.YtdpkgjahcapleaaGreatW.PrintLast
attribute [local go_sem ↓] Go.wp_at_zero Go.wp_at_succ
namespace Spec
def word (l : List ByteArray) (t : Int) : ByteArray := if t < 0 then ⟨#[]⟩ else if t < 256 then ⟨#[UInt8.ofNat t.toNat]⟩ else l.getD (t.toNat - 256) ⟨#[]⟩
def Tok (l : List ByteArray) (t : Int) : Prop := 0 ≤ t ∧ t < 256 + (l.length : Int)
instance (l : List ByteArray) (t : Int) : Decidable (Tok l t) := by unfold Tok; infer_instance
theorem word_low {l : List ByteArray} {t : Int} (h0 : 0 ≤ t) (h : t < 256) : word l t = ⟨#[UInt8.ofNat t.toNat]⟩ := by unfold word; rw [if_neg (by omega), if_pos h]
theorem word_neg {l : List ByteArray} {t : Int} (h : t < 0) : word l t = ⟨#[]⟩ := by unfold word; rw [if_pos h]
theorem word_high {l : List ByteArray} {t : Int} (h : ¬ t < 256) : word l t = l.getD (t.toNat - 256) ⟨#[]⟩ := by unfold word; rw [if_neg (by omega), if_neg h]
theorem word_out {l : List ByteArray} {t : Int} (h : ¬ Tok l t) : word l t = ⟨#[]⟩ := by
  unfold Tok at h
  by_cases h0 : t < 0
  · exact word_neg h0
  · rw [word_high (by omega), List.getD_eq_getElem?_getD, List.getElem?_eq_none (by omega)]; rfl
theorem word_size {l : List ByteArray} (hl : ∀ s ∈ l, 1 ≤ s.size ∧ s.size ≤ 40) {t : Int} (h : Tok l t) : 1 ≤ (word l t).size ∧ (word l t).size ≤ 40 := by
  unfold Tok at h
  by_cases h1 : t < 256
  · rw [word_low h.1 h1]; exact ⟨Nat.le_refl 1, by show 1 ≤ 40; omega⟩
  · rw [word_high h1, List.getD_eq_getElem?_getD, List.getElem?_eq_getElem (by omega)]
    exact hl _ (List.getElem_mem _)
def cat (l : List ByteArray) : List Int → ByteArray
  | [] => ⟨#[]⟩
  | t :: r => word l t ++ cat l r
theorem ba_append_nil (a : ByteArray) : a ++ (⟨#[]⟩ : ByteArray) = a := by apply u_inj; simp [u]
theorem ba_nil_append (a : ByteArray) : (⟨#[]⟩ : ByteArray) ++ a = a := by apply u_inj; simp [u]
theorem ba_assoc (a b c : ByteArray) : a ++ b ++ c = a ++ (b ++ c) := by apply u_inj; simp [u]
theorem cat_append (l : List ByteArray) (a b : List Int) : cat l (a ++ b) = cat l a ++ cat l b := by
  induction a with
  | nil => rw [List.nil_append, cat, ba_nil_append]
  | cons t r ih => rw [List.cons_append, cat, cat, ih, ba_assoc]
def nums2 : List Int → List UInt8
  | [] => []
  | t :: r => num t.toNat ++ nums2 r
theorem nums2_append (a b : List Int) : nums2 (a ++ b) = nums2 a ++ nums2 b := by
  induction a with
  | nil => rfl
  | cons t r ih => rw [List.cons_append, nums2, nums2, ih, List.append_assoc]
end Spec
namespace Bridge
open Leaf
theorem means_ev (l : List ByteArray) (hl : l.length ≤ 1000) (t : Int) (h0 : -9223372036854775808 ≤ t) (h1 : t ≤ 9223372036854775807) : Ev (fun k => lexiphaneref1_Means.f k l t) (word l t, decide (Tok l t)) := by
  have hstep : ∀ k, lexiphaneref1_Means.f k l t = lexiphaneref1_Means.j0 k l t (decide (¬ Tok l t)) := by
    intro k
    unfold lexiphaneref1_Means.f Tok
    rw [wr (x := 256 + (l.length : Int)) (by omega) (by omega)]
    by_cases h : t < 0
    · rw [if_pos h]; congr 1; symm; rw [decide_eq_true_iff]; omega
    · rw [if_neg h]; congr 1; rw [decide_eq_decide]; omega
  refine Ev.congr hstep ?_
  refine Ev.step (f := fun _ => some (word l t, decide (Tok l t))) (fun k => ?_) (Ev.now _)
  simp only [lexiphaneref1_Means.j0]
  by_cases h : Tok l t
  · rw [if_neg (by simpa using h), decide_eq_true h]
    have h' := h
    unfold Tok at h'
    by_cases h2 : t < 256
    · rw [if_pos h2, word_low h'.1 h2, show t % 256 = t by omega]
      rfl
    · rw [if_neg h2, wr (by omega) (by omega), if_pos (by omega), if_pos (by omega), word_high h2]
      unfold rdOf
      rw [show (t - 256).toNat = t.toNat - 256 by omega]
      rfl
  · rw [if_pos (by simpa using h), decide_eq_false h, word_out h]
end Bridge
set_option maxHeartbeats 1000000 in
set_option maxRecDepth 100000 in
theorem textd_any {w : World} {p : Value} {l : List ByteArray} (h : DictAt w p l) (t : Int) (h0 : -9223372036854775808 ≤ t) (h1 : t ≤ 9223372036854775807) : Calls Tryz.prog 124 #[p, .int .i64 t] w fun e w' => e = .returned (.string (word l t)) ∧ Below w.heap.size w w' := by
  have H := Aside0.mk h
  obtain ⟨ad, v, base, rfl, _, _⟩ := h.out
  clear h
  by_cases hneg : t < 0
  · have d1 : decide (t < 0) = true := decide_eq_true hneg
    have HW := Aside0.mk (word_neg (l := l) hneg)
    clear hneg
    go_enter Tryz.func124, Tryz.ntmps124
    go_wp2
    go_ret
    rw [HW.out]
    exact ⟨rfl, Below.refl _ _⟩
  · have d1 : decide (t < 0) = false := decide_eq_false hneg
    by_cases hlow : t < 256
    · have d2 : decide (t < 256) = true := decide_eq_true hlow
      have HW := Aside0.mk (word_low (l := l) (by omega) hlow)
      have HT := Aside0.mk (show 0 ≤ t ∧ t < 256 by omega)
      have hw8 : IntKind.u8.wrap t = t := by rw [IntKind.wrap_u8]; omega
      have hcv := own_string (P := Tryz.prog) (src := 103) (dst := 9) (e := 5) Tryz.underlying103 Tryz.underlying5 Tryz.underlying9 (own_lit w w.heap.size 5 .u8 [t] (Nat.le_refl _) (by simp))
      simp only [nums, List.map_cons, List.map_nil, List.length_cons, List.length_nil, Nat.zero_add] at hcv
      clear hneg hlow
      go_enter Tryz.func124, Tryz.ntmps124
      go_wp2
      go_ret
      rw [HW.out]
      exact ⟨rfl, (Below.refl _ _).alloc (Nat.le_refl _) _⟩
    · have d2 : decide (t < 256) = false := decide_eq_false hlow
      have HW := Aside0.mk (word_high (l := l) hlow)
      have HT := Aside0.mk (show 256 ≤ t by omega)
      have hw : wrap64 (t - 256) = t - 256 := Bridge.wr (by omega) (by omega)
      clear hneg hlow
      by_cases hin : t - 256 < l.length
      · have HIN := Aside0.mk hin
        clear hin
        go_enter Tryz.func124, Tryz.ntmps124
        go_wp2_with fail
        refine (at_in H.out (t - 256) (by have := HT.out; omega) HIN.out).mono ?_
        rintro e w' ⟨rfl, rfl⟩
        go_wp2
        go_ret
        rw [HW.out, show t.toNat - 256 = (t - 256).toNat by have := HT.out; omega]
        exact ⟨rfl, Below.refl _ _⟩
      · have HIN := Aside0.mk (show (l.length : Int) ≤ t - 256 by omega)
        clear hin
        go_enter Tryz.func124, Tryz.ntmps124
        go_wp2_with fail
        refine (at_out H.out (t - 256) (fun hh => by have := HIN.out; omega)).mono ?_
        rintro e w' ⟨rfl, rfl⟩
        go_wp2
        go_ret
        rw [HW.out, List.getD_eq_getElem?_getD, List.getElem?_eq_none (by have := HT.out; have := HIN.out; omega)]
        exact ⟨rfl, Below.refl _ _⟩
structure DictN (w : World) (p : Value) (l : List ByteArray) : Prop where mk :: (out : DictAt w p l ∨ p = .pointer none ∧ l = [])
theorem DictN.below {w w' : World} {p : Value} {l : List ByteArray} (h : DictN w p l) (hb : Below w.heap.size w w') : DictN w' p l := ⟨h.out.imp (fun h => h.below hb) id⟩
theorem DictN.of {w : World} {p : Value} {l : List ByteArray} (h : DictAt w p l) : DictN w p l := ⟨.inl h⟩
theorem DictN.nil (w : World) : DictN w (.pointer none) [] := ⟨.inr ⟨rfl, rfl⟩⟩
theorem alln_any {w : World} {p : Value} {l : List ByteArray} (h : DictN w p l) (hl : l.length * 16 ≤ 140737488355328) : Calls Tryz.prog 116 #[p] w fun e w' => ∃ v', e = .returned v' ∧ StrsAt w' w.heap.size v' l ∧ Below w.heap.size w w' := by
  rcases h.out with h | ⟨rfl, rfl⟩
  · exact all_any h hl
  · refine (all_nil w).mono ?_
    rintro e w' ⟨rfl, rfl⟩
    exact ⟨_, rfl, Kd.R_nil _ _ _ _ _, Below.refl _ _⟩
set_option maxHeartbeats 1000000 in
set_option maxRecDepth 100000 in
theorem textn_nil {w : World} (t : Int) (h0 : -9223372036854775808 ≤ t) (h1 : t ≤ 9223372036854775807) : Calls Tryz.prog 124 #[.pointer none, .int .i64 t] w fun e w' => e = .returned (.string (word [] t)) ∧ Below w.heap.size w w' := by
  by_cases hneg : t < 0
  · have d1 : decide (t < 0) = true := decide_eq_true hneg
    have HW := Aside0.mk (word_neg (l := []) hneg)
    clear hneg
    go_enter Tryz.func124, Tryz.ntmps124
    go_wp2
    go_ret
    rw [HW.out]
    exact ⟨rfl, Below.refl _ _⟩
  · have d1 : decide (t < 0) = false := decide_eq_false hneg
    by_cases hlow : t < 256
    · have d2 : decide (t < 256) = true := decide_eq_true hlow
      have HW := Aside0.mk (word_low (l := []) (by omega) hlow)
      have HT := Aside0.mk (show 0 ≤ t ∧ t < 256 by omega)
      have hw8 : IntKind.u8.wrap t = t := by rw [IntKind.wrap_u8]; omega
      have hcv := own_string (P := Tryz.prog) (src := 103) (dst := 9) (e := 5) Tryz.underlying103 Tryz.underlying5 Tryz.underlying9 (own_lit w w.heap.size 5 .u8 [t] (Nat.le_refl _) (by simp))
      simp only [nums, List.map_cons, List.map_nil, List.length_cons, List.length_nil, Nat.zero_add] at hcv
      clear hneg hlow
      go_enter Tryz.func124, Tryz.ntmps124
      go_wp2
      go_ret
      rw [HW.out]
      exact ⟨rfl, (Below.refl _ _).alloc (Nat.le_refl _) _⟩
    · have d2 : decide (t < 256) = false := decide_eq_false hlow
      have HW := Aside0.mk (show word [] t = ⟨#[]⟩ by rw [word_high (l := []) hlow]; rfl)
      have hw : wrap64 (t - 256) = t - 256 := Bridge.wr (by omega) (by omega)
      clear hneg hlow
      go_enter Tryz.func124, Tryz.ntmps124
      go_wp2_with fail
      refine (at_nil _ _).mono ?_
      rintro e w' ⟨rfl, rfl⟩
      go_wp2
      go_ret
      rw [HW.out]
      exact ⟨rfl, Below.refl _ _⟩
theorem text_any {w : World} {p : Value} {l : List ByteArray} (h : DictN w p l) (t : Int) (h0 : -9223372036854775808 ≤ t) (h1 : t ≤ 9223372036854775807) : Calls Tryz.prog 124 #[p, .int .i64 t] w fun e w' => e = .returned (.string (word l t)) ∧ Below w.heap.size w w' := by
  rcases h.out with h | ⟨rfl, rfl⟩
  · exact textd_any h t h0 h1
  · exact textn_nil t h0 h1
end Go.Proofs.YtdpkgjahcapleaaGreat
set_option linter.unusedVariables false
set_option linter.unusedSimpArgs false
namespace Go.Proofs.YtdpkgjahcapleaaGreat
open Go.RowKit Go.Proofs.YtdpkgjahcapleaaGreat.Spec Go.Proofs.YtdpkgjahcapleaaGreatW.PrintWords Go.Proofs.YtdpkgjahcapleaaGreatW.PrintLast
open Go.Proofs.YtdpkgjahcapleaaGreatW.PrintMore
attribute [local go_sem ↓] Go.wp_at_zero Go.wp_at_succ
attribute [local go_sem] max2_int min2_int max_two min_two
abbrev IntsIn (w : World) (A : Option Addr) (l : List Int) : Prop := (Kd.int .i64).C w A l.length l
def In64 (t : Int) : Prop := -9223372036854775808 ≤ t ∧ t ≤ 9223372036854775807
theorem step1 (i : Nat) (h : i ≤ 1000000000) : wrap64 ((i : Int) + 1) = ((i + 1 : Nat) : Int) := by rw [Bridge.wr (by omega) (by omega)]; omega
theorem meas (n i : Nat) (h : i < n) (hn : i ≤ 1000000000) : n - (intOf (.int .i64 (wrap64 ((i : Int) + 1)))).toNat < n - (intOf (.int .i64 (i : Int))).toNat := by
  rw [step1 i hn]
  show n - (i + 1) < n - i
  omega
set_option maxHeartbeats 1000000 in
set_option maxRecDepth 100000 in
theorem right_any {w : World} {p : Value} {l : List ByteArray} (h : DictN w p l) (hl : ∀ s ∈ l, 1 ≤ s.size ∧ s.size ≤ 40) (t : Int) (ht : In64 t) : Calls Tryz.prog 96 #[p, .int .i64 t] w fun e w' => e = .returned (.bool (decide (Tok l t))) ∧ Below w.heap.size w w' := by
  have H := Aside0.mk h
  have HT := Aside0.mk ht
  have hd : decide (0 < ((word l t).size : Int)) = decide (Tok l t) := by
    rw [decide_eq_decide]
    by_cases g : Tok l t
    · have := (word_size hl g).1
      exact ⟨fun _ => g, fun _ => by omega⟩
    · rw [word_out g]; exact ⟨fun h => absurd h (by decide), fun h => absurd h g⟩
  have HD := Aside0.mk (show decide (0 < (word l t).size) = decide (Tok l t) by rw [← hd, decide_eq_decide]; omega)
  clear h ht
  have hlen : Calls Tryz.prog 103 #[p, .int .i64 t] w fun e w' => e = .returned (.int .i64 ((word l t).size : Int)) ∧ Below w.heap.size w w' := by
    clear hd
    go_enter Tryz.func103, Tryz.ntmps103
    go_wp2_with (go_at_call 124; refine (text_any H.out t HT.out.1 HT.out.2).mono ?_; rintro e w' ⟨rfl, hb⟩)
    go_ret
    exact ⟨rfl, hb⟩
  have HLEN := Aside0.mk hlen
  clear hlen
  go_enter Tryz.func96, Tryz.ntmps96
  go_wp2_with (go_at_call 103; refine HLEN.out.mono ?_; rintro e w' ⟨rfl, hb⟩)
  go_ret
  rw [← HD.out]
  exact ⟨rfl, hb⟩
theorem coded_zero (w : World) : Calls Tryz.prog 55 #[.int .i64 0] w fun e w' => e = .returned (.bool true) ∧ Below w.heap.size w w' := by
  go_enter Tryz.func55, Tryz.ntmps55
  go_wp2
  go_ret
  exact ⟨rfl, Below.refl _ _⟩
theorem num_size {n : Nat} (h : n < 4294967296) : (num n).length ≤ 5 := Bridge.num_len h
theorem nums2_size {l : List ByteArray} (hl : l.length ≤ 1000) (toks : List Int) (h : ∀ t ∈ toks, Tok l t) : (nums2 toks).length ≤ 5 * toks.length := by
  induction toks with
  | nil => exact Nat.le_refl 0
  | cons t r ih =>
    have h1 := h t (List.mem_cons_self ..)
    have h2 := ih fun q hq => h q (List.mem_cons_of_mem _ hq)
    unfold Tok at h1
    have h3 := num_size (n := t.toNat) (by omega)
    rw [nums2, List.length_append, List.length_cons]
    omega
theorem str_append (a b : List UInt8) : str a ++ str b = str (a ++ b) := by apply u_inj; rw [u_str]; simp [u, str]
theorem take_succ {l : List Int} {i : Nat} {t : Int} (h : l[i]? = some t) : l.take (i + 1) = l.take i ++ [t] := by rw [List.take_add_one, h]; rfl
set_option maxHeartbeats 2000000 in
set_option maxRecDepth 100000 in
theorem lay_nums {A : Option Addr} {c : Nat} {p : Value} {l : List ByteArray} (toks : List Int) {w : World} (hd : DictN w p l) (hl : l.length ≤ 1000) (hs : ∀ s ∈ l, 1 ≤ s.size ∧ s.size ≤ 40) (hr : IntsIn w A toks) (hc : toks.length ≤ c) (hn : toks.length ≤ 1000) (h0 : toks ≠ []) (ht : ∀ t ∈ toks, Tok l t) :
    Calls Tryz.prog 83 #[p, .int .i64 0, .slice A toks.length c] w fun e w' => e = .returned (.tuple #[.string (str (nums2 toks)), .int .i64 0]) ∧ Below w.heap.size w w' := by
  have HD := Aside0.mk hd
  have HR := Aside0.mk hr
  have HC := Aside0.mk hc
  have HN := Aside0.mk hn
  have HL := Aside0.mk hl
  have HS := Aside0.mk hs
  have HT := Aside0.mk ht
  have hpos : 0 < toks.length := List.length_pos_iff.2 h0
  have e0 : ((toks.length : Int) == (0 : Int)) = false := beq_eq_false_iff_ne.2 (by omega)
  have e0' : (toks.length == 0) = false := beq_eq_false_iff_ne.2 (by omega)
  have e0n : ¬ toks = [] := h0
  clear hd hr hc hn hl hs ht hpos h0
  go_enter Tryz.func83, Tryz.ntmps83
  go_wp2_with (go_at_call 55; refine (coded_zero _).mono ?_; rintro e w1 ⟨rfl, hb1⟩; have H1 := Aside0.mk hb1; clear hb1)
  go_loopw [25] (fun v25 wr => ∃ i : Nat, v25 = .int .i64 i ∧ Aside0 (i ≤ toks.length) ∧ Aside0 (Below w.heap.size w wr)) (fun v25 _ => toks.length - (intOf v25).toNat)
  case atStart => exact ⟨0, rfl, ⟨Nat.zero_le _⟩, H1⟩
  case round =>
    obtain ⟨i, rfl, HI, HB⟩ := hrel
    have hi := HI.out
    have hn := HN.out
    by_cases hlt : i < toks.length
    · have d0 : decide ((i : Int) < (toks.length : Int)) = true := decide_eq_true (by omega)
      have d0' : decide (i < toks.length) = true := decide_eq_true hlt
      have p1 : (0 : Int) ≤ (i : Int) := by omega
      have p2 : (i : Int) < (toks.length : Int) := by omega
      have HLT := Aside0.mk hlt
      obtain ⟨t, hget⟩ : ∃ t, toks[i]? = some t := ⟨_, List.getElem?_eq_getElem hlt⟩
      obtain ⟨ad2, e2, hcell⟩ := Kd.at_int (Kd.C_below HR.out HB.out) (i : Int) p1 p2
      have hrd : rd toks (i : Int) = t := by unfold rd; rw [Int.toNat_natCast, List.getD_eq_getElem?_getD, hget]; rfl
      rw [hrd, Int.toNat_natCast] at hcell
      subst e2
      have HTK := Aside0.mk (HT.out t (List.mem_of_getElem? hget))
      have HDT := Aside0.mk (decide_eq_true HTK.out)
      have HIN : Aside0 (In64 t) := ⟨by have h := HTK.out; have := HL.out; unfold Tok at h; unfold In64; omega⟩
      clear hi hn hlt hget hrd
      go_wp2_with (go_at_call 96; refine (right_any (HD.out.below HB.out) HS.out t HIN.out).mono ?_; rw [HDT.out]; rintro e w2 ⟨rfl, hb2⟩; have HB2 := Aside0.mk (below_step HB.out hb2); clear hb2)
      go_roundw
      case rel =>
        have h1 := HLT.out
        have h2 := HN.out
        exact ⟨i + 1, by rw [step1 i (by omega)], ⟨by omega⟩, HB2⟩
      case measure => have h1 := HLT.out; have h2 := HN.out; exact meas _ i h1 (by omega)
    · have d0 : decide ((i : Int) < (toks.length : Int)) = false := decide_eq_false (by omega)
      have d0' : decide (i < toks.length) = false := decide_eq_false hlt
      clear hi hn hlt
      go_wp2
      go_loopw [10, 41] (fun v10 v41 wr => ∃ i : Nat, v41 = .int .i64 i ∧ v10 = .string (str (nums2 (toks.take i))) ∧ Aside0 (i ≤ toks.length) ∧ Aside0 (Below w.heap.size w wr)) (fun _ v41 _ => toks.length - (intOf v41).toNat)
      case atStart => exact ⟨0, rfl, rfl, ⟨Nat.zero_le _⟩, HB⟩
      case round =>
        obtain ⟨i, rfl, rfl, HI2, HB2⟩ := hrel
        have hi := HI2.out
        have hn := HN.out
        by_cases hlt : i < toks.length
        · have d1 : decide ((i : Int) < (toks.length : Int)) = true := decide_eq_true (by omega)
          have d1' : decide (i < toks.length) = true := decide_eq_true hlt
          have p1 : (0 : Int) ≤ (i : Int) := by omega
          have p2 : (i : Int) < (toks.length : Int) := by omega
          have HLT := Aside0.mk hlt
          obtain ⟨t, hget⟩ : ∃ t, toks[i]? = some t := ⟨_, List.getElem?_eq_getElem hlt⟩
          obtain ⟨ad2, e2, hcell⟩ := Kd.at_int (Kd.C_below HR.out HB2.out) (i : Int) p1 p2
          have hrd : rd toks (i : Int) = t := by unfold rd; rw [Int.toNat_natCast, List.getD_eq_getElem?_getD, hget]; rfl
          rw [hrd, Int.toNat_natCast] at hcell
          subst e2
          have htk := HT.out t (List.mem_of_getElem? hget)
          have hll := HL.out
          unfold Tok at htk
          obtain ⟨m, rfl⟩ : ∃ m : Nat, t = m := ⟨t.toNat, by omega⟩
          have HMB := Aside0.mk (show m < 4294967296 by omega)
          have hz := nums2_size HL.out (toks.take i) (fun q hq => HT.out q (List.mem_of_mem_take hq))
          have hz2 := num_size (n := m) (by omega)
          rw [List.length_take] at hz
          have q1 : ¬ 9223372036854775807 < (str (nums2 (toks.take i))).size + (str (num m)).size := by rw [← u_size, ← u_size, u_str, u_str]; omega
          have HTS := Aside0.mk (show nums2 (toks.take (i + 1)) = nums2 (toks.take i) ++ num m by rw [take_succ hget, nums2_append]; simp [nums2])
          clear hi hn hlt hget hrd htk hll hz hz2
          go_wp2_with (go_at_call 59; refine (vput_nat HMB.out _).mono ?_; rintro e w2 ⟨rfl, hb2⟩; have HB3 := Aside0.mk (below_step HB2.out hb2); clear hb2)
          go_roundw
          case rel =>
            have h1 := HLT.out
            have h2 := HN.out
            exact ⟨i + 1, by rw [step1 i (by omega)], by rw [HTS.out, str_append], ⟨by omega⟩, HB3⟩
          case measure => have h1 := HLT.out; have h2 := HN.out; exact meas _ i h1 (by omega)
        · have d1 : decide ((i : Int) < (toks.length : Int)) = false := decide_eq_false (by omega)
          have d1' : decide (i < toks.length) = false := decide_eq_false hlt
          have HE := Aside0.mk (show toks.take i = toks from List.take_of_length_le (by omega))
          clear hi hn hlt
          go_wp2
          go_ret2
          rw [HE.out]
          exact ⟨rfl, HB2.out⟩
end Go.Proofs.YtdpkgjahcapleaaGreat
