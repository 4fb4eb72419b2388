/- ShF: a part of its proof (contracts of the functions that it reaches, and the plain mathematics behind them). -/
import Derived.Test.YtdpkgjahcapleaaGreatShF20
set_option linter.unusedVariables false
set_option linter.unusedSimpArgs false
set_option linter.unusedVariables false
set_option linter.unusedSimpArgs false
namespace Go.Proofs.YtdpkgjahcapleaaGreat
open Go.RowKit Go.Proofs.YtdpkgjahcapleaaGreat.Spec Go.Proofs.YtdpkgjahcapleaaGreatW.PrintWords Go.Proofs.YtdpkgjahcapleaaGreatW.PrintLast
attribute [local go_sem ↓] Go.wp_at_zero Go.wp_at_succ
namespace Spec
def word (l : List ByteArray) (t : Int) : ByteArray := if t < 0 then ⟨#[]⟩ else if t < 256 then ⟨#[UInt8.ofNat t.toNat]⟩ else l.getD (t.toNat - 256) ⟨#[]⟩
def Tok (l : List ByteArray) (t : Int) : Prop := 0 ≤ t ∧ t < 256 + (l.length : Int)
instance (l : List ByteArray) (t : Int) : Decidable (Tok l t) := by unfold Tok; infer_instance
theorem word_low {l : List ByteArray} {t : Int} (h0 : 0 ≤ t) (h : t < 256) : word l t = ⟨#[UInt8.ofNat t.toNat]⟩ := by unfold word; rw [if_neg (by omega), if_pos h]
theorem word_neg {l : List ByteArray} {t : Int} (h : t < 0) : word l t = ⟨#[]⟩ := by unfold word; rw [if_pos h]
theorem word_high {l : List ByteArray} {t : Int} (h : ¬ t < 256) : word l t = l.getD (t.toNat - 256) ⟨#[]⟩ := by unfold word; rw [if_neg (by omega), if_neg h]
theorem word_out {l : List ByteArray} {t : Int} (h : ¬ Tok l t) : word l t = ⟨#[]⟩ := by
  unfold Tok at h
  by_cases h0 : t < 0
  · exact word_neg h0
  · rw [word_high (by omega), List.getD_eq_getElem?_getD, List.getElem?_eq_none (by omega)]; rfl
theorem word_size {l : List ByteArray} (hl : ∀ s ∈ l, 1 ≤ s.size ∧ s.size ≤ 40) {t : Int} (h : Tok l t) : 1 ≤ (word l t).size ∧ (word l t).size ≤ 40 := by
  unfold Tok at h
  by_cases h1 : t < 256
  · rw [word_low h.1 h1]; exact ⟨Nat.le_refl 1, by show 1 ≤ 40; omega⟩
  · rw [word_high h1, List.getD_eq_getElem?_getD, List.getElem?_eq_getElem (by omega)]
    exact hl _ (List.getElem_mem _)
def cat (l : List ByteArray) : List Int → ByteArray
  | [] => ⟨#[]⟩
  | t :: r => word l t ++ cat l r
theorem ba_append_nil (a : ByteArray) : a ++ (⟨#[]⟩ : ByteArray) = a := by apply u_inj; simp [u]
theorem ba_nil_append (a : ByteArray) : (⟨#[]⟩ : ByteArray) ++ a = a := by apply u_inj; simp [u]
theorem ba_assoc (a b c : ByteArray) : a ++ b ++ c = a ++ (b ++ c) := by apply u_inj; simp [u]
theorem cat_append (l : List ByteArray) (a b : List Int) : cat l (a ++ b) = cat l a ++ cat l b := by
  induction a with
  | nil => rw [List.nil_append, cat, ba_nil_append]
  | cons t r ih => rw [List.cons_append, cat, cat, ih, ba_assoc]
def nums2 : List Int → List UInt8
  | [] => []
  | t :: r => num t.toNat ++ nums2 r
theorem nums2_append (a b : List Int) : nums2 (a ++ b) = nums2 a ++ nums2 b := by
  induction a with
  | nil => rfl
  | cons t r ih => rw [List.cons_append, nums2, nums2, ih, List.append_assoc]
end Spec
namespace Bridge
open Leaf
theorem means_ev (l : List ByteArray) (hl : l.length ≤ 1000) (t : Int) (h0 : -9223372036854775808 ≤ t) (h1 : t ≤ 9223372036854775807) : Ev (fun k => lexiphaneref1_Means.f k l t) (word l t, decide (Tok l t)) := by
  have hstep : ∀ k, lexiphaneref1_Means.f k l t = lexiphaneref1_Means.j0 k l t (decide (¬ Tok l t)) := by
    intro k
    unfold lexiphaneref1_Means.f Tok
    rw [wr (x := 256 + (l.length : Int)) (by omega) (by omega)]
    by_cases h : t < 0
    · rw [if_pos h]; congr 1; symm; rw [decide_eq_true_iff]; omega
    · rw [if_neg h]; congr 1; rw [decide_eq_decide]; omega
  refine Ev.congr hstep ?_
  refine Ev.step (f := fun _ => some (word l t, decide (Tok l t))) (fun k => ?_) (Ev.now _)
  simp only [lexiphaneref1_Means.j0]
  by_cases h : Tok l t
  · rw [if_neg (by simpa using h), decide_eq_true h]
    have h' := h
    unfold Tok at h'
    by_cases h2 : t < 256
    · rw [if_pos h2, word_low h'.1 h2, show t % 256 = t by omega]
      rfl
    · rw [if_neg h2, wr (by omega) (by omega), if_pos (by omega), if_pos (by omega), word_high h2]
      unfold rdOf
      rw [show (t - 256).toNat = t.toNat - 256 by omega]
      rfl
  · rw [if_pos (by simpa using h), decide_eq_false h, word_out h]
end Bridge
set_option maxHeartbeats 1000000 in
set_option maxRecDepth 100000 in
theorem textd_any {w : World} {p : Value} {l : List ByteArray} (h : DictAt w p l) (t : Int) (h0 : -9223372036854775808 ≤ t) (h1 : t ≤ 9223372036854775807) : Calls Tryz.prog 124 #[p, .int .i64 t] w fun e w' => e = .returned (.string (word l t)) ∧ Below w.heap.size w w' := by
  have H := Aside0.mk h
  obtain ⟨ad, v, base, rfl, _, _⟩ := h.out
  clear h
  by_cases hneg : t < 0
  · have d1 : decide (t < 0) = true := decide_eq_true hneg
    have HW := Aside0.mk (word_neg (l := l) hneg)
    clear hneg
    go_enter Tryz.func124, Tryz.ntmps124
    go_wp2
    go_ret
    rw [HW.out]
    exact ⟨rfl, Below.refl _ _⟩
  · have d1 : decide (t < 0) = false := decide_eq_false hneg
    by_cases hlow : t < 256
    · have d2 : decide (t < 256) = true := decide_eq_true hlow
      have HW := Aside0.mk (word_low (l := l) (by omega) hlow)
      have HT := Aside0.mk (show 0 ≤ t ∧ t < 256 by omega)
      have hw8 : IntKind.u8.wrap t = t := by rw [IntKind.wrap_u8]; omega
      have hcv := own_string (P := Tryz.prog) (src := 103) (dst := 9) (e := 5) Tryz.underlying103 Tryz.underlying5 Tryz.underlying9 (own_lit w w.heap.size 5 .u8 [t] (Nat.le_refl _) (by simp))
      simp only [nums, List.map_cons, List.map_nil, List.length_cons, List.length_nil, Nat.zero_add] at hcv
      clear hneg hlow
      go_enter Tryz.func124, Tryz.ntmps124
      go_wp2
      go_ret
      rw [HW.out]
      exact ⟨rfl, (Below.refl _ _).alloc (Nat.le_refl _) _⟩
    · have d2 : decide (t < 256) = false := decide_eq_false hlow
      have HW := Aside0.mk (word_high (l := l) hlow)
      have HT := Aside0.mk (show 256 ≤ t by omega)
      have hw : wrap64 (t - 256) = t - 256 := Bridge.wr (by omega) (by omega)
      clear hneg hlow
      by_cases hin : t - 256 < l.length
      · have HIN := Aside0.mk hin
        clear hin
        go_enter Tryz.func124, Tryz.ntmps124
        go_wp2_with fail
        refine (at_in H.out (t - 256) (by have := HT.out; omega) HIN.out).mono ?_
        rintro e w' ⟨rfl, rfl⟩
        go_wp2
        go_ret
        rw [HW.out, show t.toNat - 256 = (t - 256).toNat by have := HT.out; omega]
        exact ⟨rfl, Below.refl _ _⟩
      · have HIN := Aside0.mk (show (l.length : Int) ≤ t - 256 by omega)
        clear hin
        go_enter Tryz.func124, Tryz.ntmps124
        go_wp2_with fail
        refine (at_out H.out (t - 256) (fun hh => by have := HIN.out; omega)).mono ?_
        rintro e w' ⟨rfl, rfl⟩
        go_wp2
        go_ret
        rw [HW.out, List.getD_eq_getElem?_getD, List.getElem?_eq_none (by have := HT.out; have := HIN.out; omega)]
        exact ⟨rfl, Below.refl _ _⟩
structure DictN (w : World) (p : Value) (l : List ByteArray) : Prop where mk :: (out : DictAt w p l ∨ p = .pointer none ∧ l = [])
theorem DictN.below {w w' : World} {p : Value} {l : List ByteArray} (h : DictN w p l) (hb : Below w.heap.size w w') : DictN w' p l := ⟨h.out.imp (fun h => h.below hb) id⟩
theorem DictN.of {w : World} {p : Value} {l : List ByteArray} (h : DictAt w p l) : DictN w p l := ⟨.inl h⟩
theorem DictN.nil (w : World) : DictN w (.pointer none) [] := ⟨.inr ⟨rfl, rfl⟩⟩
theorem alln_any {w : World} {p : Value} {l : List ByteArray} (h : DictN w p l) (hl : l.length * 16 ≤ 140737488355328) : Calls Tryz.prog 116 #[p] w fun e w' => ∃ v', e = .returned v' ∧ StrsAt w' w.heap.size v' l ∧ Below w.heap.size w w' := by
  rcases h.out with h | ⟨rfl, rfl⟩
  · exact all_any h hl
  · refine (all_nil w).mono ?_
    rintro e w' ⟨rfl, rfl⟩
    exact ⟨_, rfl, Kd.R_nil _ _ _ _ _, Below.refl _ _⟩
set_option maxHeartbeats 1000000 in
set_option maxRecDepth 100000 in
theorem textn_nil {w : World} (t : Int) (h0 : -9223372036854775808 ≤ t) (h1 : t ≤ 9223372036854775807) : Calls Tryz.prog 124 #[.pointer none, .int .i64 t] w fun e w' => e = .returned (.string (word [] t)) ∧ Below w.heap.size w w' := by
  by_cases hneg : t < 0
  · have d1 : decide (t < 0) = true := decide_eq_true hneg
    have HW := Aside0.mk (word_neg (l := []) hneg)
    clear hneg
    go_enter Tryz.func124, Tryz.ntmps124
    go_wp2
    go_ret
    rw [HW.out]
    exact ⟨rfl, Below.refl _ _⟩
  · have d1 : decide (t < 0) = false := decide_eq_false hneg
    by_cases hlow : t < 256
    · have d2 : decide (t < 256) = true := decide_eq_true hlow
      have HW := Aside0.mk (word_low (l := []) (by omega) hlow)
      have HT := Aside0.mk (show 0 ≤ t ∧ t < 256 by omega)
      have hw8 : IntKind.u8.wrap t = t := by rw [IntKind.wrap_u8]; omega
      have hcv := own_string (P := Tryz.prog) (src := 103) (dst := 9) (e := 5) Tryz.underlying103 Tryz.underlying5 Tryz.underlying9 (own_lit w w.heap.size 5 .u8 [t] (Nat.le_refl _) (by simp))
      simp only [nums, List.map_cons, List.map_nil, List.length_cons, List.length_nil, Nat.zero_add] at hcv
      clear hneg hlow
      go_enter Tryz.func124, Tryz.ntmps124
      go_wp2
      go_ret
      rw [HW.out]
      exact ⟨rfl, (Below.refl _ _).alloc (Nat.le_refl _) _⟩
    · have d2 : decide (t < 256) = false := decide_eq_false hlow
      have HW := Aside0.mk (show word [] t = ⟨#[]⟩ by rw [word_high (l := []) hlow]; rfl)
      have hw : wrap64 (t - 256) = t - 256 := Bridge.wr (by omega) (by omega)
      clear hneg hlow
      go_enter Tryz.func124, Tryz.ntmps124
      go_wp2_with fail
      refine (at_nil _ _).mono ?_
      rintro e w' ⟨rfl, rfl⟩
      go_wp2
      go_ret
      rw [HW.out]
      exact ⟨rfl, Below.refl _ _⟩
theorem text_any {w : World} {p : Value} {l : List ByteArray} (h : DictN w p l) (t : Int) (h0 : -9223372036854775808 ≤ t) (h1 : t ≤ 9223372036854775807) : Calls Tryz.prog 124 #[p, .int .i64 t] w fun e w' => e = .returned (.string (word l t)) ∧ Below w.heap.size w w' := by
  rcases h.out with h | ⟨rfl, rfl⟩
  · exact textd_any h t h0 h1
  · exact textn_nil t h0 h1
end Go.Proofs.YtdpkgjahcapleaaGreat
