/- ShE: a part of its proof (contracts of the functions that it reaches, and the plain mathematics behind them). -/
import Derived.Test.YtdpkgjahcapleaaGreatShE36
import Derived.Test.YtdpkgjahcapleaaGreatShE30
import Derived.Test.YtdpkgjahcapleaaGreatShE41
set_option linter.unusedVariables false
set_option linter.unusedSimpArgs false
set_option linter.unusedVariables false
set_option linter.unusedSimpArgs false
namespace Go.Proofs.YtdpkgjahcapleaaGreat
open Go.RowKit Go.Proofs.YtdpkgjahcapleaaGreat.Spec Go.Proofs.YtdpkgjahcapleaaGreatW.PrintWords Go.Proofs.YtdpkgjahcapleaaGreatW.PrintLast
open Go.Proofs.YtdpkgjahcapleaaGreatW.PrintMore
attribute [local go_sem ↓] Go.wp_at_zero Go.wp_at_succ
attribute [local go_sem] max2_int min2_int max_two min_two
namespace Spec
def payN (l : List ByteArray) (b : ByteArray) : Nat × ByteArray := if (nums2 (par l b b.size 0)).length < b.size then (2, str (nums2 (par l b b.size 0))) else (1, b)
def strm : ByteArray := encS abab 0 100 (payN abab) three
end Spec
theorem nums2_pos {x : List Int} (h : x ≠ []) : 1 ≤ (nums2 x).length := by
  cases x with
  | nil => exact absurd rfl h
  | cons t r =>
    rw [nums2, List.length_append]
    have := List.length_pos_iff.2 (num_ne t.toNat)
    omega
theorem putok_small {P : Value} {l : List ByteArray} (hl : l.length ≤ 100) (hs : ∀ s ∈ l, 1 ≤ s.size ∧ s.size ≤ 40) : PutOk P l (eNew 0 0 100 100) (payN l) := by
  have hne : ∀ b : ByteArray, 1 ≤ b.size → b.size ≤ 100 → par l b b.size 0 ≠ [] := fun b h1 h2 => by
    have := (toks_ok (l := l) (by omega) hs 0 (wd := 1) (Nat.le_refl 1) b (by omega)).2.2.2 h1
    rw [toks_zero] at this
    exact this
  refine ⟨fun W b hd h1 h2 => ?_, fun b h1 h2 => ?_⟩
  · have h2' : b.size ≤ 100 := h2
    refine (put_small (DictN.of hd) (by omega) hs b h1 h2' (hne b h1 h2')).mono ?_
    rintro x w' ⟨rfl, hb⟩
    refine ⟨?_, hb⟩
    unfold payN
    by_cases q : (nums2 (par l b b.size 0)).length < b.size
    · rw [if_pos q, if_pos q]; rfl
    · rw [if_neg q, if_neg q]; rfl
  · have h2' : b.size ≤ 100 := h2
    unfold payN fitsR
    by_cases q : (nums2 (par l b b.size 0)).length < b.size
    · rw [if_pos q]
      have hz : (str (nums2 (par l b b.size 0))).size = (nums2 (par l b b.size 0)).length := by rw [← u_size, u_str]
      have := nums2_pos (hne b h1 h2')
      exact ⟨⟨h1, by omega⟩, by show 1 ≤ (str (nums2 (par l b b.size 0))).size; omega, .inr ⟨rfl, by show (str (nums2 (par l b b.size 0))).size < b.size; omega⟩⟩
    · rw [if_neg q]
      exact ⟨⟨h1, by omega⟩, h1, .inl ⟨rfl, rfl⟩⟩
theorem strm_size : strm.size = 35 := by decide +kernel
theorem strm_fin : finC (full abab strm) = 0 := by decide +kernel
theorem strm_out : u (full abab strm).out = u three := by decide +kernel
theorem x_fin : finC (full abab ⟨#[120]⟩) = 2 ∧ (full abab ⟨#[120]⟩).at_ = 0 := by decide +kernel
set_option maxHeartbeats 2000000 in
set_option maxRecDepth 100000 in
theorem alive24_any (w : World) : Calls Tryz.prog 12 #[] w fun e w' => e = .returned (.bool true) ∧ Below w.heap.size w w' := by
  have HA : Aside0 (∀ W : World, Calls Tryz.prog 34 #[.slice (some ⟨W.heap.size, 0, none⟩) 1 1] (W.alloc (.cells #[.string ⟨#[97, 98, 97, 98]⟩] 9)) fun e w' => ∃ ad, e = .returned (.pointer (some ad)) ∧ Aside0 (DictAt w' (.pointer (some ad)) abab) ∧ Below W.heap.size W w') := ⟨by
    intro W
    refine (make_yes abab _ (strs_lit W abab (by decide)) (Nat.le_refl _) (fun s hs => by have := (abab_sizes s hs).2; omega) phr_abab).mono ?_
    rintro e w' ⟨ad, rfl, hd, hb⟩
    exact ⟨ad, rfl, ⟨hd⟩, below_step ((Below.refl _ _).alloc (Nat.le_refl _) _) hb⟩⟩
  have HE : Aside0 (∀ (W : World) (ad : Addr), DictAt W (.pointer (some ad)) abab → Calls Tryz.prog 26 #[.pointer (some ad), .agg #[.int .i64 0, .int .i64 0, .int .i64 100, .int .i64 100], .string ⟨#[97, 98, 97, 98, 97, 98]⟩] W fun e w' => e = .returned (.tuple #[.string strm, .nilIface]) ∧ Below W.heap.size W w') := ⟨fun W ad hd => encode_any (p := 0) (q := 0) (k := 100) (wd := 100) hd rfl (by decide) abab_sizes (by decide) (putok_small (by decide) abab_sizes) three (by decide)⟩
  have HD1 : Aside0 (∀ (W : World) (ad : Addr), DictAt W (.pointer (some ad)) abab → Calls Tryz.prog 27 #[.pointer (some ad), .string strm] W fun e w' => e = .returned (.tuple #[.string ⟨#[97, 98, 97, 98, 97, 98]⟩, .nilIface]) ∧ Below W.heap.size W w') := ⟨fun W ad hd => by
    have h := decode_any hd rfl (by decide) abab_sizes strm (by rw [strm_size]; decide)
    rw [strm_fin, if_pos rfl, u_inj strm_out] at h
    exact h⟩
  have HD2 : Aside0 (∀ (W : World) (ad : Addr), DictAt W (.pointer (some ad)) abab → Calls Tryz.prog 27 #[.pointer (some ad), .string ⟨#[120]⟩] W fun e w' => e = .returned (.tuple #[.string ⟨#[]⟩, .iface 63 (.agg #[.int .i64 2, .int .i64 0])]) ∧ Below W.heap.size W w') := ⟨fun W ad hd => by
    have h := decode_any hd rfl (by decide) abab_sizes ⟨#[120]⟩ (by decide)
    rw [x_fin.1, x_fin.2, if_neg (by decide), errV_some (by decide)] at h
    exact h⟩
  have HT : Aside0 (∀ W, Calls Tryz.prog 24 #[.iface 63 (.agg #[.int .i64 2, .int .i64 0]), .int .i64 2, .int .i64 0] W fun e w' => e = .returned (.bool true) ∧ Below W.heap.size W w') := ⟨fun W => by
    have h := told24_any 2 0 2 0 W
    rw [errV_some (by decide)] at h
    exact h⟩
  have hz : ((strm.size : Int) == 35) = true := by rw [strm_size]; rfl
  have hz2 : (strm.size == 35) = true := by rw [strm_size]; rfl
  have hz3 : strm.size = 35 := strm_size
  generalize strm = st at *
  go_enter Tryz.func12, Tryz.ntmps12
  go_wp2_with fail
  refine (HA.out _).mono ?_
  rintro e w1 ⟨ad, rfl, HDA, hb1⟩
  have HB1 := Aside0.mk hb1
  clear hb1
  go_wp2_with fail
  have HDA1 := Aside0.mk (HDA.out.below (below_alloc (Below.refl _ _) (.cells #[.int .i64 0, .int .i64 0, .int .i64 100, .int .i64 100] 24)))
  refine (HE.out _ ad HDA1.out).mono ?_
  rintro e w2 ⟨rfl, hb2⟩
  have HB2 := Aside0.mk (below_step (below_alloc HB1.out _) hb2)
  have HDA2 := Aside0.mk (HDA1.out.below hb2)
  clear hb2
  go_wp2_with fail
  refine (HD1.out _ ad HDA2.out).mono ?_
  rintro e w3 ⟨rfl, hb3⟩
  have HB3 := Aside0.mk (below_step HB2.out hb3)
  have HDA3 := Aside0.mk (HDA2.out.below hb3)
  clear hb3
  go_wp2_with fail
  refine (HD2.out _ ad HDA3.out).mono ?_
  rintro e w4 ⟨rfl, hb4⟩
  have HB4 := Aside0.mk (below_step HB3.out hb4)
  clear hb4
  go_wp2_with fail
  refine (HT.out _).mono ?_
  rintro e w5 ⟨rfl, hb5⟩
  have HB5 := Aside0.mk (below_step HB4.out hb5)
  clear hb5
  go_wp2_with fail
  go_ret
  exact ⟨rfl, HB5.out⟩
end Go.Proofs.YtdpkgjahcapleaaGreat
set_option linter.unusedVariables false
set_option linter.unusedSimpArgs false
namespace Go.Proofs.YtdpkgjahcapleaaGreat
open Go.RowKit Go.Proofs.YtdpkgjahcapleaaGreat.Spec Go.Proofs.YtdpkgjahcapleaaGreatW.PrintWords Go.Proofs.YtdpkgjahcapleaaGreatW.PrintLast
open Go.Proofs.YtdpkgjahcapleaaGreatW.PrintMore
attribute [local go_sem ↓] Go.wp_at_zero Go.wp_at_succ
attribute [local go_sem] max2_int min2_int max_two min_two
theorem dictn_at {w : World} {ad : Addr} {l : List ByteArray} (h : DictN w (.pointer (some ad)) l) : DictAt w (.pointer (some ad)) l := by
  rcases h.out with h | ⟨h, _⟩
  · exact h
  · cases h
set_option maxHeartbeats 2000000 in
set_option maxRecDepth 100000 in
theorem dict24_yes {A : Option Addr} {c : Nat} (l : List ByteArray) (w : World) (hr : StrsIn w A l) (hc : l.length ≤ c) (hl : l.length ≤ 140737488351232) (hsz : ∀ s ∈ l, s.size ≤ 140737488351232) (h : Given l ⟨#[]⟩) : Calls Tryz.prog 10 #[.slice A l.length c] w fun e w' => ∃ ad, e = .returned (.tuple #[.pointer (some ad), .bool true]) ∧ DictAt w' (.pointer (some ad)) l ∧ Below w.heap.size w w' := by
  have H := Aside0.mk (dict13_yes l ⟨#[]⟩ w hr hc hl hsz h)
  clear hr hc hl hsz h
  go_enter Tryz.func10, Tryz.ntmps10
  go_wp2_with fail
  refine H.out.mono ?_
  rintro e w1 ⟨ad, rfl, hd, hb⟩
  have HD := Aside0.mk (dictn_at hd)
  have HB := Aside0.mk hb
  clear hd hb
  go_wp2_with fail
  go_ret2
  exact ⟨ad, rfl, HD.out, HB.out⟩
set_option maxHeartbeats 2000000 in
set_option maxRecDepth 100000 in
theorem dict24_no {A : Option Addr} {c : Nat} (l : List ByteArray) (w : World) (hr : StrsIn w A l) (hc : l.length ≤ c) (hl : l.length ≤ 140737488351232) (hsz : ∀ s ∈ l, s.size ≤ 140737488351232) (h : ¬ Given l ⟨#[]⟩) : Calls Tryz.prog 10 #[.slice A l.length c] w fun e w' => e = .returned (.tuple #[.pointer none, .bool false]) ∧ Below w.heap.size w w' := by
  have H := Aside0.mk (dict13_no l ⟨#[]⟩ w hr hc hl hsz h)
  clear hr hc hl hsz h
  go_enter Tryz.func10, Tryz.ntmps10
  go_wp2_with fail
  refine H.out.mono ?_
  rintro e w1 ⟨rfl, hb⟩
  have HB := Aside0.mk hb
  clear hb
  go_wp2_with fail
  go_ret2
  exact ⟨rfl, HB.out⟩
theorem rconf_calls (p q k wd : Int) (w : World) : Calls Tryz.prog 11 #[.agg #[.int .i64 p, .int .i64 q, .int .i64 k, .int .i64 wd]] w fun e w' => e = .returned (.bool (cfgB p q k wd)) ∧ Below w.heap.size w w' := by
  refine Leaf.lexiphaneref1_ConfigRight.calls p q k wd (cfgB p q k wd) w ?_
  unfold Leaf.lexiphaneref1_ConfigRight.f cfgB
  repeat' split
  all_goals (first | (congr 1; rw [decide_eq_decide]; omega) | (congr 1; symm; rw [decide_eq_false_iff_not]; omega))
theorem head_read (c k id : Nat) (hc : c ≤ 1) (hk : 1 ≤ k ∧ k ≤ 1024) (hid : id < 18446744073709551616) : headR (headS c k id) = ⟨c, k, id, 0⟩ := by
  have hz := headS_size c k id
  have hu : u (headS c k id) = [76, 88, 80, 72] ++ (beB 1 1 ++ (beB c 1 ++ (beB k 3 ++ beB id 8))) := by
    unfold headS
    rw [u_app, u_app, u_app, u_app, u_str, u_str, u_str, u_str]
    simp only [List.append_assoc]
    rfl
  have e1 : beB 1 1 = [1] := by decide
  have e2 : ∃ x, beB c 1 = [x] := by
    match h : beB c 1, beB_len c 1 with
    | [x], _ => exact ⟨x, rfl⟩
  obtain ⟨x, hx⟩ := e2
  have e3 : ∃ a b d, beB k 3 = [a, b, d] := by
    match h : beB k 3, beB_len k 3 with
    | [a, b, d], _ => exact ⟨a, b, d, rfl⟩
  obtain ⟨a, b, d, hy⟩ := e3
  have o2 := ofB_beB c 1
  have o3 := ofB_beB k 3
  have o4 := ofB_beB id 8
  have l4 := beB_len id 8
  rw [hx] at o2
  have o2' : x.toNat = c := by
    have : ofB [x] = x.toNat := by unfold ofB; simp
    rw [this] at o2
    rw [o2]
    exact Nat.mod_eq_of_lt (by omega)
  have m0 : (headS c k id).extract 0 4 = magicS := by
    apply u_inj; rw [u_ext, hu]; rfl
  have m4 : byteAt (headS c k id) 4 = 1 := by unfold byteAt; rw [hu, e1]; rfl
  have m5 : byteAt (headS c k id) 5 = c := by unfold byteAt; rw [hu, e1, hx]; exact o2'
  have m6 : ofB (u ((headS c k id).extract 6 9)) = k := by
    rw [u_ext, hu, e1, hx, hy]
    show ofB [a, b, d] = k
    rw [← hy, o3]
    exact Nat.mod_eq_of_lt (by omega)
  have m9 : ofB (u ((headS c k id).extract 9 17)) = id := by
    rw [u_ext, hu, e1, hx, hy]
    show ofB ((beB id 8).take 8) = id
    rw [List.take_of_length_le (by omega), o4]
    exact Nat.mod_eq_of_lt (by omega)
  unfold headR
  rw [if_neg (by omega), m0, m4, m5, m6, m9, if_neg (by simp), if_neg (by omega), if_neg (by omega)]
end Go.Proofs.YtdpkgjahcapleaaGreat
set_option linter.unusedVariables false
set_option linter.unusedSimpArgs false
namespace Go.Proofs.YtdpkgjahcapleaaGreat
open Go.RowKit Go.Proofs.YtdpkgjahcapleaaGreat.Spec Go.Proofs.YtdpkgjahcapleaaGreatW.PrintWords Go.Proofs.YtdpkgjahcapleaaGreatW.PrintLast
open Go.Proofs.YtdpkgjahcapleaaGreatW.PrintMore
attribute [local go_sem ↓] Go.wp_at_zero Go.wp_at_succ
attribute [local go_sem] max2_int min2_int max_two min_two
theorem ext_step (B : ByteArray) (i j : Nat) (h : i ≤ j) (hj : j ≤ B.size) : B.extract 0 i ++ B.extract i j = B.extract 0 j := by
  apply u_inj
  rw [u_app, u_ext, u_ext, u_ext]
  simp only [List.drop_zero, Nat.sub_zero]
  rw [← List.take_append_drop i ((u B).take j), List.take_take, Nat.min_eq_left h, List.drop_take]
theorem ext_none (B : ByteArray) : B.extract 0 0 = ⟨#[]⟩ := by
  apply u_inj
  rw [u_ext]
  rfl
theorem full_at (l : List ByteArray) (B : ByteArray) : (full l B).at_ ≤ B.size := by
  unfold full
  split
  · exact Nat.zero_le _
  · split
    · exact Nat.zero_le _
    · split
      · exact Nat.zero_le _
      · exact (scan_app l _ _ B ⟨#[]⟩ B.size 17 ⟨#[]⟩ (by omega) (by omega)).1
end Go.Proofs.YtdpkgjahcapleaaGreat
