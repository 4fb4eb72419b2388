/- ShF: a part of its proof (contracts of the functions that it reaches, and the plain mathematics behind them). -/
import Derived.Test.YtdpkgjahcapleaaGreatShF21
import Derived.Test.YtdpkgjahcapleaaGreatShF22
set_option linter.unusedVariables false
set_option linter.unusedSimpArgs false
set_option linter.unusedVariables false
set_option linter.unusedSimpArgs false
namespace Go.Proofs.YtdpkgjahcapleaaGreat
open Go.RowKit Go.Proofs.YtdpkgjahcapleaaGreat.Spec Go.Proofs.YtdpkgjahcapleaaGreatW.PrintWords Go.Proofs.YtdpkgjahcapleaaGreatW.PrintLast
open Go.Proofs.YtdpkgjahcapleaaGreatW.PrintMore
attribute [local go_sem ↓] Go.wp_at_zero Go.wp_at_succ
attribute [local go_sem] max2_int min2_int max_two min_two
abbrev IntsIn (w : World) (A : Option Addr) (l : List Int) : Prop := (Kd.int .i64).C w A l.length l
def In64 (t : Int) : Prop := -9223372036854775808 ≤ t ∧ t ≤ 9223372036854775807
theorem step1 (i : Nat) (h : i ≤ 1000000000) : wrap64 ((i : Int) + 1) = ((i + 1 : Nat) : Int) := by rw [Bridge.wr (by omega) (by omega)]; omega
theorem meas (n i : Nat) (h : i < n) (hn : i ≤ 1000000000) : n - (intOf (.int .i64 (wrap64 ((i : Int) + 1)))).toNat < n - (intOf (.int .i64 (i : Int))).toNat := by
  rw [step1 i hn]
  show n - (i + 1) < n - i
  omega
set_option maxHeartbeats 1000000 in
set_option maxRecDepth 100000 in
theorem right_any {w : World} {p : Value} {l : List ByteArray} (h : DictN w p l) (hl : ∀ s ∈ l, 1 ≤ s.size ∧ s.size ≤ 40) (t : Int) (ht : In64 t) : Calls Tryz.prog 96 #[p, .int .i64 t] w fun e w' => e = .returned (.bool (decide (Tok l t))) ∧ Below w.heap.size w w' := by
  have H := Aside0.mk h
  have HT := Aside0.mk ht
  have hd : decide (0 < ((word l t).size : Int)) = decide (Tok l t) := by
    rw [decide_eq_decide]
    by_cases g : Tok l t
    · have := (word_size hl g).1
      exact ⟨fun _ => g, fun _ => by omega⟩
    · rw [word_out g]; exact ⟨fun h => absurd h (by decide), fun h => absurd h g⟩
  have HD := Aside0.mk (show decide (0 < (word l t).size) = decide (Tok l t) by rw [← hd, decide_eq_decide]; omega)
  clear h ht
  have hlen : Calls Tryz.prog 103 #[p, .int .i64 t] w fun e w' => e = .returned (.int .i64 ((word l t).size : Int)) ∧ Below w.heap.size w w' := by
    clear hd
    go_enter Tryz.func103, Tryz.ntmps103
    go_wp2_with (go_at_call 124; refine (text_any H.out t HT.out.1 HT.out.2).mono ?_; rintro e w' ⟨rfl, hb⟩)
    go_ret
    exact ⟨rfl, hb⟩
  have HLEN := Aside0.mk hlen
  clear hlen
  go_enter Tryz.func96, Tryz.ntmps96
  go_wp2_with (go_at_call 103; refine HLEN.out.mono ?_; rintro e w' ⟨rfl, hb⟩)
  go_ret
  rw [← HD.out]
  exact ⟨rfl, hb⟩
theorem coded_zero (w : World) : Calls Tryz.prog 55 #[.int .i64 0] w fun e w' => e = .returned (.bool true) ∧ Below w.heap.size w w' := by
  go_enter Tryz.func55, Tryz.ntmps55
  go_wp2
  go_ret
  exact ⟨rfl, Below.refl _ _⟩
theorem num_size {n : Nat} (h : n < 4294967296) : (num n).length ≤ 5 := Bridge.num_len h
theorem nums2_size {l : List ByteArray} (hl : l.length ≤ 1000) (toks : List Int) (h : ∀ t ∈ toks, Tok l t) : (nums2 toks).length ≤ 5 * toks.length := by
  induction toks with
  | nil => exact Nat.le_refl 0
  | cons t r ih =>
    have h1 := h t (List.mem_cons_self ..)
    have h2 := ih fun q hq => h q (List.mem_cons_of_mem _ hq)
    unfold Tok at h1
    have h3 := num_size (n := t.toNat) (by omega)
    rw [nums2, List.length_append, List.length_cons]
    omega
theorem str_append (a b : List UInt8) : str a ++ str b = str (a ++ b) := by apply u_inj; rw [u_str]; simp [u, str]
theorem take_succ {l : List Int} {i : Nat} {t : Int} (h : l[i]? = some t) : l.take (i + 1) = l.take i ++ [t] := by rw [List.take_add_one, h]; rfl
set_option maxHeartbeats 2000000 in
set_option maxRecDepth 100000 in
theorem lay_nums {A : Option Addr} {c : Nat} {p : Value} {l : List ByteArray} (toks : List Int) {w : World} (hd : DictN w p l) (hl : l.length ≤ 1000) (hs : ∀ s ∈ l, 1 ≤ s.size ∧ s.size ≤ 40) (hr : IntsIn w A toks) (hc : toks.length ≤ c) (hn : toks.length ≤ 1000) (h0 : toks ≠ []) (ht : ∀ t ∈ toks, Tok l t) :
    Calls Tryz.prog 83 #[p, .int .i64 0, .slice A toks.length c] w fun e w' => e = .returned (.tuple #[.string (str (nums2 toks)), .int .i64 0]) ∧ Below w.heap.size w w' := by
  have HD := Aside0.mk hd
  have HR := Aside0.mk hr
  have HC := Aside0.mk hc
  have HN := Aside0.mk hn
  have HL := Aside0.mk hl
  have HS := Aside0.mk hs
  have HT := Aside0.mk ht
  have hpos : 0 < toks.length := List.length_pos_iff.2 h0
  have e0 : ((toks.length : Int) == (0 : Int)) = false := beq_eq_false_iff_ne.2 (by omega)
  have e0' : (toks.length == 0) = false := beq_eq_false_iff_ne.2 (by omega)
  have e0n : ¬ toks = [] := h0
  clear hd hr hc hn hl hs ht hpos h0
  go_enter Tryz.func83, Tryz.ntmps83
  go_wp2_with (go_at_call 55; refine (coded_zero _).mono ?_; rintro e w1 ⟨rfl, hb1⟩; have H1 := Aside0.mk hb1; clear hb1)
  go_loopw [25] (fun v25 wr => ∃ i : Nat, v25 = .int .i64 i ∧ Aside0 (i ≤ toks.length) ∧ Aside0 (Below w.heap.size w wr)) (fun v25 _ => toks.length - (intOf v25).toNat)
  case atStart => exact ⟨0, rfl, ⟨Nat.zero_le _⟩, H1⟩
  case round =>
    obtain ⟨i, rfl, HI, HB⟩ := hrel
    have hi := HI.out
    have hn := HN.out
    by_cases hlt : i < toks.length
    · have d0 : decide ((i : Int) < (toks.length : Int)) = true := decide_eq_true (by omega)
      have d0' : decide (i < toks.length) = true := decide_eq_true hlt
      have p1 : (0 : Int) ≤ (i : Int) := by omega
      have p2 : (i : Int) < (toks.length : Int) := by omega
      have HLT := Aside0.mk hlt
      obtain ⟨t, hget⟩ : ∃ t, toks[i]? = some t := ⟨_, List.getElem?_eq_getElem hlt⟩
      obtain ⟨ad2, e2, hcell⟩ := Kd.at_int (Kd.C_below HR.out HB.out) (i : Int) p1 p2
      have hrd : rd toks (i : Int) = t := by unfold rd; rw [Int.toNat_natCast, List.getD_eq_getElem?_getD, hget]; rfl
      rw [hrd, Int.toNat_natCast] at hcell
      subst e2
      have HTK := Aside0.mk (HT.out t (List.mem_of_getElem? hget))
      have HDT := Aside0.mk (decide_eq_true HTK.out)
      have HIN : Aside0 (In64 t) := ⟨by have h := HTK.out; have := HL.out; unfold Tok at h; unfold In64; omega⟩
      clear hi hn hlt hget hrd
      go_wp2_with (go_at_call 96; refine (right_any (HD.out.below HB.out) HS.out t HIN.out).mono ?_; rw [HDT.out]; rintro e w2 ⟨rfl, hb2⟩; have HB2 := Aside0.mk (below_step HB.out hb2); clear hb2)
      go_roundw
      case rel =>
        have h1 := HLT.out
        have h2 := HN.out
        exact ⟨i + 1, by rw [step1 i (by omega)], ⟨by omega⟩, HB2⟩
      case measure => have h1 := HLT.out; have h2 := HN.out; exact meas _ i h1 (by omega)
    · have d0 : decide ((i : Int) < (toks.length : Int)) = false := decide_eq_false (by omega)
      have d0' : decide (i < toks.length) = false := decide_eq_false hlt
      clear hi hn hlt
      go_wp2
      go_loopw [10, 41] (fun v10 v41 wr => ∃ i : Nat, v41 = .int .i64 i ∧ v10 = .string (str (nums2 (toks.take i))) ∧ Aside0 (i ≤ toks.length) ∧ Aside0 (Below w.heap.size w wr)) (fun _ v41 _ => toks.length - (intOf v41).toNat)
      case atStart => exact ⟨0, rfl, rfl, ⟨Nat.zero_le _⟩, HB⟩
      case round =>
        obtain ⟨i, rfl, rfl, HI2, HB2⟩ := hrel
        have hi := HI2.out
        have hn := HN.out
        by_cases hlt : i < toks.length
        · have d1 : decide ((i : Int) < (toks.length : Int)) = true := decide_eq_true (by omega)
          have d1' : decide (i < toks.length) = true := decide_eq_true hlt
          have p1 : (0 : Int) ≤ (i : Int) := by omega
          have p2 : (i : Int) < (toks.length : Int) := by omega
          have HLT := Aside0.mk hlt
          obtain ⟨t, hget⟩ : ∃ t, toks[i]? = some t := ⟨_, List.getElem?_eq_getElem hlt⟩
          obtain ⟨ad2, e2, hcell⟩ := Kd.at_int (Kd.C_below HR.out HB2.out) (i : Int) p1 p2
          have hrd : rd toks (i : Int) = t := by unfold rd; rw [Int.toNat_natCast, List.getD_eq_getElem?_getD, hget]; rfl
          rw [hrd, Int.toNat_natCast] at hcell
          subst e2
          have htk := HT.out t (List.mem_of_getElem? hget)
          have hll := HL.out
          unfold Tok at htk
          obtain ⟨m, rfl⟩ : ∃ m : Nat, t = m := ⟨t.toNat, by omega⟩
          have HMB := Aside0.mk (show m < 4294967296 by omega)
          have hz := nums2_size HL.out (toks.take i) (fun q hq => HT.out q (List.mem_of_mem_take hq))
          have hz2 := num_size (n := m) (by omega)
          rw [List.length_take] at hz
          have q1 : ¬ 9223372036854775807 < (str (nums2 (toks.take i))).size + (str (num m)).size := by rw [← u_size, ← u_size, u_str, u_str]; omega
          have HTS := Aside0.mk (show nums2 (toks.take (i + 1)) = nums2 (toks.take i) ++ num m by rw [take_succ hget, nums2_append]; simp [nums2])
          clear hi hn hlt hget hrd htk hll hz hz2
          go_wp2_with (go_at_call 59; refine (vput_nat HMB.out _).mono ?_; rintro e w2 ⟨rfl, hb2⟩; have HB3 := Aside0.mk (below_step HB2.out hb2); clear hb2)
          go_roundw
          case rel =>
            have h1 := HLT.out
            have h2 := HN.out
            exact ⟨i + 1, by rw [step1 i (by omega)], by rw [HTS.out, str_append], ⟨by omega⟩, HB3⟩
          case measure => have h1 := HLT.out; have h2 := HN.out; exact meas _ i h1 (by omega)
        · have d1 : decide ((i : Int) < (toks.length : Int)) = false := decide_eq_false (by omega)
          have d1' : decide (i < toks.length) = false := decide_eq_false hlt
          have HE := Aside0.mk (show toks.take i = toks from List.take_of_length_le (by omega))
          clear hi hn hlt
          go_wp2
          go_ret2
          rw [HE.out]
          exact ⟨rfl, HB2.out⟩
end Go.Proofs.YtdpkgjahcapleaaGreat
