/- Tokens as numbers: package block's Lay; the document's Mean. -/
import Derived.Test.YtboklkfplnmabaaGreatMean
import Derived.Test.YtboklkfplnmabaaGreatBookA
set_option linter.unusedVariables false
set_option linter.unusedSimpArgs false
namespace Go.Proofs.YtboklkfplnmabaaGreat
open Go.RowKit Go.Proofs.YtboklkfplnmabaaGreat.Spec Go.Proofs.YtboklkfplnmabaaGreatW.PrintWords Go.Proofs.YtboklkfplnmabaaGreatW.PrintLast
open Go.Proofs.YtboklkfplnmabaaGreatW.PrintMore
attribute [local go_sem ↓] Go.wp_at_zero Go.wp_at_succ
attribute [local go_sem] max2_int min2_int max_two min_two
theorem meanR_nil (l : List ByteArray) (most : Int) (s : ByteArray) : meanR l most s [] = (s, 0) := rfl
theorem meanR_cons (l : List ByteArray) (most : Int) (s : ByteArray) (t : Int) (r : List Int) : meanR l most s (t :: r) = if ¬ Tok l t then (⟨#[]⟩, 9) else if max most 0 < (s.size : Int) + ((word l t).size : Int) then (⟨#[]⟩, 10) else meanR l most (s ++ word l t) r := rfl
abbrev IntsIn (w : World) (A : Option Addr) (l : List Int) : Prop := (Kd.int .i64).C w A l.length l
def In64 (t : Int) : Prop := -9223372036854775808 ≤ t ∧ t ≤ 9223372036854775807
theorem step1 (i : Nat) (h : i ≤ 1000000000) : wrap64 ((i : Int) + 1) = ((i + 1 : Nat) : Int) := by rw [Bridge.wr (by omega) (by omega)]; omega
theorem meas (n i : Nat) (h : i < n) (hn : i ≤ 1000000000) : n - (intOf (.int .i64 (wrap64 ((i : Int) + 1)))).toNat < n - (intOf (.int .i64 (i : Int))).toNat := by
  rw [step1 i hn]
  show n - (i + 1) < n - i
  omega
set_option maxHeartbeats 1000000 in
set_option maxRecDepth 100000 in
theorem right_any {w : World} {p : Value} {l : List ByteArray} (h : DictN w p l) (hl : ∀ s ∈ l, 1 ≤ s.size ∧ s.size ≤ 40) (t : Int) (ht : In64 t) : Calls Tryz.prog 58 #[p, .int .i64 t] w fun e w' => e = .returned (.bool (decide (Tok l t))) ∧ Below w.heap.size w w' := by
  have H := Aside0.mk h
  have HT := Aside0.mk ht
  have hd : decide (0 < ((word l t).size : Int)) = decide (Tok l t) := by
    rw [decide_eq_decide]
    by_cases g : Tok l t
    · have := (word_size hl g).1
      exact ⟨fun _ => g, fun _ => by omega⟩
    · rw [word_out g]; exact ⟨fun h => absurd h (by decide), fun h => absurd h g⟩
  have HD := Aside0.mk (show decide (0 < (word l t).size) = decide (Tok l t) by rw [← hd, decide_eq_decide]; omega)
  clear h ht
  have hlen : Calls Tryz.prog 95 #[p, .int .i64 t] w fun e w' => e = .returned (.int .i64 ((word l t).size : Int)) ∧ Below w.heap.size w w' := by
    clear hd
    go_enter Tryz.func95, Tryz.ntmps95
    go_wp2_with (go_at_call 125; refine (text_any H.out t HT.out.1 HT.out.2).mono ?_; rintro e w' ⟨rfl, hb⟩)
    go_ret
    exact ⟨rfl, hb⟩
  have HLEN := Aside0.mk hlen
  clear hlen
  go_enter Tryz.func58, Tryz.ntmps58
  go_wp2_with (go_at_call 95; refine HLEN.out.mono ?_; rintro e w' ⟨rfl, hb⟩)
  go_ret
  rw [← HD.out]
  exact ⟨rfl, hb⟩
set_option maxHeartbeats 2000000 in
set_option maxRecDepth 100000 in
theorem rmean_calls {A A2 : Option Addr} {c c2 : Nat} (l : List ByteArray) (toks : List Int) (mo : Nat) (hmo : mo ≤ 1099511627776) {w : World} (hr : StrsIn w A l) (hc : l.length ≤ c) (hr2 : IntsIn w A2 toks) (hc2 : toks.length ≤ c2) (hl : l.length ≤ 1000) (hs : ∀ s ∈ l, 1 ≤ s.size ∧ s.size ≤ 40) (hn : toks.length ≤ 1000) (ht : ∀ t ∈ toks, In64 t) :
    Calls Tryz.prog 23 #[.slice A l.length c, .int .i64 (mo : Int), .slice A2 toks.length c2] w fun e w' => e = .returned (.tuple #[.string (meanR l (mo : Int) ⟨#[]⟩ toks).1, .int .i64 (meanR l (mo : Int) ⟨#[]⟩ toks).2]) ∧ Below w.heap.size w w' := by
  have HR := Aside0.mk hr
  have HC := Aside0.mk hc
  have HR2 := Aside0.mk hr2
  have HL := Aside0.mk hl
  have HN := Aside0.mk hn
  have HS := Aside0.mk hs
  have HT := Aside0.mk ht
  have HMO := Aside0.mk hmo
  have hmx : max (mo : Int) 0 = (mo : Int) := by omega
  have hmx2 : decide ((mo : Int) < 0) = false := decide_eq_false (by omega)
  clear hr hc hr2 hc2 hl hs hn ht hmo
  go_enter Tryz.func23, Tryz.ntmps23
  go_wp2_with fail
  go_loopw [8, 9] (fun v8 v9 wr => ∃ (i : Nat) (s : ByteArray) (r : List Int), v8 = .string s ∧ v9 = .int .i64 i ∧ Aside0 (i ≤ toks.length ∧ s.size ≤ mo) ∧ Aside0 (toks.drop i = r) ∧ Aside0 (meanR l (mo : Int) s r = meanR l (mo : Int) ⟨#[]⟩ toks) ∧ Aside0 (Below w.heap.size w wr)) (fun _ v9 _ => toks.length - (intOf v9).toNat)
  case atStart => exact ⟨0, ⟨#[]⟩, toks, rfl, rfl, ⟨by omega, Nat.zero_le _⟩, ⟨rfl⟩, ⟨rfl⟩, ⟨by repeat (first | exact Below.refl _ _ | apply below_alloc | apply below_drew)⟩⟩
  case round =>
    obtain ⟨i, s, r, rfl, rfl, HI, HD, HM, HB⟩ := hrel
    have hi := HI.out
    have hn := HN.out
    have hmo := HMO.out
    cases r with
    | nil =>
      have hlen := congrArg List.length HD.out
      rw [List.length_drop, List.length_nil] at hlen
      have d0 : decide ((i : Int) < (toks.length : Int)) = false := decide_eq_false (by omega)
      have d0' : decide (i < toks.length) = false := decide_eq_false (by omega)
      clear hi hn hmo hlen
      go_wp2
      go_ret2
      have hm := HM.out
      rw [meanR_nil] at hm
      rw [← hm]
      exact ⟨rfl, HB.out⟩
    | cons t r =>
      have hlen := congrArg List.length HD.out
      rw [List.length_drop, List.length_cons] at hlen
      have d0 : decide ((i : Int) < (toks.length : Int)) = true := decide_eq_true (by omega)
      have d0' : decide (i < toks.length) = true := decide_eq_true (by omega)
      have p1 : (0 : Int) ≤ (i : Int) := by omega
      have p2 : (i : Int) < (toks.length : Int) := by omega
      have HLT := Aside0.mk (show i < toks.length by omega)
      have hget : toks[i]? = some t := by
        have := congrArg (fun q => q[0]?) HD.out
        simpa using this
      obtain ⟨ad2, e2, hcell⟩ := Kd.at_int (Kd.C_below HR2.out HB.out) (i : Int) p1 p2
      have hrd : rd toks (i : Int) = t := by unfold rd; rw [Int.toNat_natCast, List.getD_eq_getElem?_getD, hget]; rfl
      rw [hrd, Int.toNat_natCast] at hcell
      subst e2
      have HIN := Aside0.mk (HT.out t (List.mem_of_getElem? hget))
      have hm := HM.out
      rw [meanR_cons] at hm
      by_cases hk : Tok l t
      · have HTK := Aside0.mk (decide_eq_true hk)
        rw [if_neg (fun n => n hk)] at hm
        have hw := word_size HS.out hk
        by_cases hsz : mo < s.size + (word l t).size
        · rw [if_pos (by omega)] at hm
          have d3 : decide ((mo : Int) < (s.size : Int) + ((word l t).size : Int)) = true := decide_eq_true (by omega)
          have q1 : wrap64 ((s.size : Int) + ((word l t).size : Int)) = (s.size : Int) + ((word l t).size : Int) := Bridge.wr (by omega) (by omega)
          have HMM := Aside0.mk hm
          clear hi hn hmo hlen hget hrd hk hm hw hsz
          go_wp2_with (go_at_call 66; refine (means_calls l t (Kd.C_below HR.out HB.out) HC.out HL.out HIN.out.1 HIN.out.2).mono ?_; rw [HTK.out]; rintro e w2 ⟨rfl, hb2⟩; have HB2 := Aside0.mk (below_step HB.out hb2); clear hb2)
          go_ret2
          rw [← HMM.out]
          exact ⟨rfl, HB2.out⟩
        · rw [if_neg (by omega)] at hm
          have d3 : decide ((mo : Int) < (s.size : Int) + ((word l t).size : Int)) = false := decide_eq_false (by omega)
          have q2 : ¬ 9223372036854775807 < s.size + (word l t).size := by omega
          have q1 : wrap64 ((s.size : Int) + ((word l t).size : Int)) = (s.size : Int) + ((word l t).size : Int) := Bridge.wr (by omega) (by omega)
          have HMM := Aside0.mk hm
          have HZ := Aside0.mk hsz
          clear hi hn hmo hlen hget hrd hk hm hw hsz
          go_wp2_with (go_at_call 66; refine (means_calls l t (Kd.C_below HR.out HB.out) HC.out HL.out HIN.out.1 HIN.out.2).mono ?_; rw [HTK.out]; rintro e w2 ⟨rfl, hb2⟩; have HB2 := Aside0.mk (below_step HB.out hb2); clear hb2)
          go_roundw
          case rel =>
            have h1 := HLT.out
            have h2 := HN.out
            have h3 := HZ.out
            exact ⟨i + 1, s ++ word l t, r, rfl, by rw [step1 i (by omega)], ⟨by omega, by rw [ByteArray.size_append]; omega⟩, ⟨by rw [← List.drop_drop, HD.out]; rfl⟩, HMM, HB2⟩
          case measure => have h1 := HLT.out; have h2 := HN.out; exact meas _ i h1 (by omega)
      · have HTK := Aside0.mk (decide_eq_false hk)
        rw [if_pos hk] at hm
        have HMM := Aside0.mk hm
        clear hi hn hmo hlen hget hrd hk hm
        go_wp2_with (go_at_call 66; refine (means_calls l t (Kd.C_below HR.out HB.out) HC.out HL.out HIN.out.1 HIN.out.2).mono ?_; rw [HTK.out]; rintro e w2 ⟨rfl, hb2⟩; have HB2 := Aside0.mk (below_step HB.out hb2); clear hb2)
        go_ret2
        rw [← HMM.out]
        exact ⟨rfl, HB2.out⟩
theorem coded_zero (w : World) : Calls Tryz.prog 35 #[.int .i64 0] w fun e w' => e = .returned (.bool true) ∧ Below w.heap.size w w' := by
  go_enter Tryz.func35, Tryz.ntmps35
  go_wp2
  go_ret
  exact ⟨rfl, Below.refl _ _⟩
theorem num_size {n : Nat} (h : n < 4294967296) : (num n).length ≤ 5 := Bridge.num_len h
theorem nums2_size {l : List ByteArray} (hl : l.length ≤ 1000) (toks : List Int) (h : ∀ t ∈ toks, Tok l t) : (nums2 toks).length ≤ 5 * toks.length := by
  induction toks with
  | nil => exact Nat.le_refl 0
  | cons t r ih =>
    have h1 := h t (List.mem_cons_self ..)
    have h2 := ih fun q hq => h q (List.mem_cons_of_mem _ hq)
    unfold Tok at h1
    have h3 := num_size (n := t.toNat) (by omega)
    rw [nums2, List.length_append, List.length_cons]
    omega
theorem str_append (a b : List UInt8) : str a ++ str b = str (a ++ b) := by apply u_inj; rw [u_str]; simp [u, str]
theorem take_succ {l : List Int} {i : Nat} {t : Int} (h : l[i]? = some t) : l.take (i + 1) = l.take i ++ [t] := by rw [List.take_add_one, h]; rfl
set_option maxHeartbeats 2000000 in
set_option maxRecDepth 100000 in
theorem lay_nums {A : Option Addr} {c : Nat} {p : Value} {l : List ByteArray} (toks : List Int) {w : World} (hd : DictN w p l) (hl : l.length ≤ 1000) (hs : ∀ s ∈ l, 1 ≤ s.size ∧ s.size ≤ 40) (hr : IntsIn w A toks) (hc : toks.length ≤ c) (hn : toks.length ≤ 1000) (h0 : toks ≠ []) (ht : ∀ t ∈ toks, Tok l t) :
    Calls Tryz.prog 20 #[p, .int .i64 0, .slice A toks.length c] w fun e w' => e = .returned (.tuple #[.string (str (nums2 toks)), .int .i64 0]) ∧ Below w.heap.size w w' := by
  have HD := Aside0.mk hd
  have HR := Aside0.mk hr
  have HC := Aside0.mk hc
  have HN := Aside0.mk hn
  have HL := Aside0.mk hl
  have HS := Aside0.mk hs
  have HT := Aside0.mk ht
  have hpos : 0 < toks.length := List.length_pos_iff.2 h0
  have e0 : ((toks.length : Int) == (0 : Int)) = false := beq_eq_false_iff_ne.2 (by omega)
  have e0' : (toks.length == 0) = false := beq_eq_false_iff_ne.2 (by omega)
  have e0n : ¬ toks = [] := h0
  clear hd hr hc hn hl hs ht hpos h0
  go_enter Tryz.func20, Tryz.ntmps20
  go_wp2_with (go_at_call 35; refine (coded_zero _).mono ?_; rintro e w1 ⟨rfl, hb1⟩; have H1 := Aside0.mk hb1; clear hb1)
  go_loopw [25] (fun v25 wr => ∃ i : Nat, v25 = .int .i64 i ∧ Aside0 (i ≤ toks.length) ∧ Aside0 (Below w.heap.size w wr)) (fun v25 _ => toks.length - (intOf v25).toNat)
  case atStart => exact ⟨0, rfl, ⟨Nat.zero_le _⟩, H1⟩
  case round =>
    obtain ⟨i, rfl, HI, HB⟩ := hrel
    have hi := HI.out
    have hn := HN.out
    by_cases hlt : i < toks.length
    · have d0 : decide ((i : Int) < (toks.length : Int)) = true := decide_eq_true (by omega)
      have d0' : decide (i < toks.length) = true := decide_eq_true hlt
      have p1 : (0 : Int) ≤ (i : Int) := by omega
      have p2 : (i : Int) < (toks.length : Int) := by omega
      have HLT := Aside0.mk hlt
      obtain ⟨t, hget⟩ : ∃ t, toks[i]? = some t := ⟨_, List.getElem?_eq_getElem hlt⟩
      obtain ⟨ad2, e2, hcell⟩ := Kd.at_int (Kd.C_below HR.out HB.out) (i : Int) p1 p2
      have hrd : rd toks (i : Int) = t := by unfold rd; rw [Int.toNat_natCast, List.getD_eq_getElem?_getD, hget]; rfl
      rw [hrd, Int.toNat_natCast] at hcell
      subst e2
      have HTK := Aside0.mk (HT.out t (List.mem_of_getElem? hget))
      have HDT := Aside0.mk (decide_eq_true HTK.out)
      have HIN : Aside0 (In64 t) := ⟨by have h := HTK.out; have := HL.out; unfold Tok at h; unfold In64; omega⟩
      clear hi hn hlt hget hrd
      go_wp2_with (go_at_call 58; refine (right_any (HD.out.below HB.out) HS.out t HIN.out).mono ?_; rw [HDT.out]; rintro e w2 ⟨rfl, hb2⟩; have HB2 := Aside0.mk (below_step HB.out hb2); clear hb2)
      go_roundw
      case rel =>
        have h1 := HLT.out
        have h2 := HN.out
        exact ⟨i + 1, by rw [step1 i (by omega)], ⟨by omega⟩, HB2⟩
      case measure => have h1 := HLT.out; have h2 := HN.out; exact meas _ i h1 (by omega)
    · have d0 : decide ((i : Int) < (toks.length : Int)) = false := decide_eq_false (by omega)
      have d0' : decide (i < toks.length) = false := decide_eq_false hlt
      clear hi hn hlt
      go_wp2
      go_loopw [10, 41] (fun v10 v41 wr => ∃ i : Nat, v41 = .int .i64 i ∧ v10 = .string (str (nums2 (toks.take i))) ∧ Aside0 (i ≤ toks.length) ∧ Aside0 (Below w.heap.size w wr)) (fun _ v41 _ => toks.length - (intOf v41).toNat)
      case atStart => exact ⟨0, rfl, rfl, ⟨Nat.zero_le _⟩, HB⟩
      case round =>
        obtain ⟨i, rfl, rfl, HI2, HB2⟩ := hrel
        have hi := HI2.out
        have hn := HN.out
        by_cases hlt : i < toks.length
        · have d1 : decide ((i : Int) < (toks.length : Int)) = true := decide_eq_true (by omega)
          have d1' : decide (i < toks.length) = true := decide_eq_true hlt
          have p1 : (0 : Int) ≤ (i : Int) := by omega
          have p2 : (i : Int) < (toks.length : Int) := by omega
          have HLT := Aside0.mk hlt
          obtain ⟨t, hget⟩ : ∃ t, toks[i]? = some t := ⟨_, List.getElem?_eq_getElem hlt⟩
          obtain ⟨ad2, e2, hcell⟩ := Kd.at_int (Kd.C_below HR.out HB2.out) (i : Int) p1 p2
          have hrd : rd toks (i : Int) = t := by unfold rd; rw [Int.toNat_natCast, List.getD_eq_getElem?_getD, hget]; rfl
          rw [hrd, Int.toNat_natCast] at hcell
          subst e2
          have htk := HT.out t (List.mem_of_getElem? hget)
          have hll := HL.out
          unfold Tok at htk
          obtain ⟨m, rfl⟩ : ∃ m : Nat, t = m := ⟨t.toNat, by omega⟩
          have HMB := Aside0.mk (show m < 4294967296 by omega)
          have hz := nums2_size HL.out (toks.take i) (fun q hq => HT.out q (List.mem_of_mem_take hq))
          have hz2 := num_size (n := m) (by omega)
          rw [List.length_take] at hz
          have q1 : ¬ 9223372036854775807 < (str (nums2 (toks.take i))).size + (str (num m)).size := by rw [← u_size, ← u_size, u_str, u_str]; omega
          have HTS := Aside0.mk (show nums2 (toks.take (i + 1)) = nums2 (toks.take i) ++ num m by rw [take_succ hget, nums2_append]; simp [nums2])
          clear hi hn hlt hget hrd htk hll hz hz2
          go_wp2_with (go_at_call 60; refine (vput_nat HMB.out _).mono ?_; rintro e w2 ⟨rfl, hb2⟩; have HB3 := Aside0.mk (below_step HB2.out hb2); clear hb2)
          go_roundw
          case rel =>
            have h1 := HLT.out
            have h2 := HN.out
            exact ⟨i + 1, by rw [step1 i (by omega)], by rw [HTS.out, str_append], ⟨by omega⟩, HB3⟩
          case measure => have h1 := HLT.out; have h2 := HN.out; exact meas _ i h1 (by omega)
        · have d1 : decide ((i : Int) < (toks.length : Int)) = false := decide_eq_false (by omega)
          have d1' : decide (i < toks.length) = false := decide_eq_false hlt
          have HE := Aside0.mk (show toks.take i = toks from List.take_of_length_le (by omega))
          clear hi hn hlt
          go_wp2
          go_ret2
          rw [HE.out]
          exact ⟨rfl, HB2.out⟩
end Go.Proofs.YtboklkfplnmabaaGreat
