/- Package block: Tokens of every way. -/
import Derived.Test.YtboklkfplnmabaaBestC
import Derived.Test.YtboklkfplnmabaaDict13
set_option linter.unusedVariables false
set_option linter.unusedSimpArgs false
namespace Go.Proofs.Ytboklkfplnmabaa
open Go.RowKit Go.Proofs.Ytboklkfplnmabaa.Spec Go.Proofs.YtboklkfplnmabaaW.PrintWords Go.Proofs.YtboklkfplnmabaaW.PrintLast
open Go.Proofs.YtboklkfplnmabaaW.PrintMore
attribute [local go_sem ↓] Go.wp_at_zero Go.wp_at_succ
theorem ints_l0 (a b : List Int) (hl : a.length = b.length) (hm : a.length ≤ 140737488351232) (d : Nat) : ∀ i : Nat, i + d = a.length → Ev (fun k => Leaf.lexiphanebook_SameInts.l0 k a b i) (decide (a.drop i = b.drop i)) := by
  have rdg : ∀ (l : List Int) (i : Nat) (h : i < l.length), rd l (i : Int) = l[i] := by
    intro l i h
    unfold rd
    rw [Int.toNat_natCast, List.getD_eq_getElem?_getD, List.getElem?_eq_getElem h]
    rfl
  induction d with
  | zero =>
    intro i hi
    refine Ev.step (f := fun _ => some _) (fun k => ?_) (Ev.now _)
    simp only [Leaf.lexiphanebook_SameInts.l0]
    rw [if_neg (by omega), List.drop_of_length_le (by omega), List.drop_of_length_le (by omega)]
    rfl
  | succ d ih =>
    intro i hi
    have hia : i < a.length := by omega
    have hib : i < b.length := by omega
    have da := List.drop_eq_getElem_cons hia
    have db := List.drop_eq_getElem_cons hib
    rw [da, db]
    by_cases h : a[i] = b[i]
    · have := ih (i + 1) (by omega)
      have e : decide (a[i] :: a.drop (i + 1) = b[i] :: b.drop (i + 1)) = decide (a.drop (i + 1) = b.drop (i + 1)) := by rw [decide_eq_decide]; exact ⟨fun e => by injection e, fun e => by rw [h, e]⟩
      rw [e]
      refine Ev.step (fun k => ?_) this
      simp only [Leaf.lexiphanebook_SameInts.l0]
      rw [if_pos (by omega), if_pos (by omega), if_pos (by omega), rdg a i hia, rdg b i hib, if_pos h, Bridge.wrS i (by omega)]
    · have e : decide (a[i] :: a.drop (i + 1) = b[i] :: b.drop (i + 1)) = false := by rw [decide_eq_false_iff_not]; intro e; injection e with e1; exact h e1
      rw [e]
      refine Ev.step (f := fun _ => some _) (fun k => ?_) (Ev.now _)
      simp only [Leaf.lexiphanebook_SameInts.l0]
      rw [if_pos (by omega), if_pos (by omega), if_pos (by omega), rdg a i hia, rdg b i hib, if_neg h]
theorem ints_ev (a b : List Int) (hm : a.length ≤ 140737488351232) : Ev (fun k => Leaf.lexiphanebook_SameInts.f k a b) (decide (a = b)) := by
  by_cases hl : a.length = b.length
  · have := ints_l0 a b hl hm a.length 0 (by omega)
    simp only [List.drop_zero] at this
    refine Ev.congr (fun k => ?_) this
    unfold Leaf.lexiphanebook_SameInts.f
    rw [if_pos (by omega)]
    rfl
  · have e : decide (a = b) = false := by rw [decide_eq_false_iff_not]; intro e; exact hl (by rw [e])
    rw [e]
    refine Ev.congr (f := fun _ => some _) (fun k => ?_) (Ev.now _)
    unfold Leaf.lexiphanebook_SameInts.f
    rw [if_neg (by omega)]
theorem ints_calls {A A' : Option Addr} {c c' : Nat} (l l' : List Int) {w : World} (hr : IntsIn w A l) (hc : l.length ≤ c) (hr' : IntsIn w A' l') (hc' : l'.length ≤ c') (hl : l.length ≤ 140737488351232) : Calls Try.prog 22 #[.slice A l.length c, .slice A' l'.length c'] w fun e w' => e = .returned (.bool (decide (l = l'))) ∧ Drawn0 w w' := by
  obtain ⟨k, hk⟩ := (ints_ev l l' hl).rounds
  exact Leaf.lexiphanebook_SameInts.calls k A c l A' c' l' _ w hr hc hr' hc' hk
namespace Spec
def toks (l : List ByteArray) (p : Int) (wd : Nat) (b : ByteArray) : List Int := if p = 0 then par l b b.size 0 else if p = 1 then fpar l b b.size 0 else bwin l wd b.size b
def cfgB (p q k w : Int) : Bool := decide (0 ≤ p ∧ p ≤ 2 ∧ 0 ≤ q ∧ q ≤ 1 ∧ 1 ≤ k ∧ k ≤ 1024 ∧ 1 ≤ w ∧ w ≤ 1024)
end Spec
theorem toks_zero (l : List ByteArray) (wd : Nat) (b : ByteArray) : toks l 0 wd b = par l b b.size 0 := by unfold toks; rw [if_pos rfl]
theorem toks_one (l : List ByteArray) (wd : Nat) (b : ByteArray) : toks l 1 wd b = fpar l b b.size 0 := by unfold toks; rw [if_neg (by decide), if_pos rfl]
theorem toks_two (l : List ByteArray) (wd : Nat) (b : ByteArray) : toks l 2 wd b = bwin l wd b.size b := by unfold toks; rw [if_neg (by decide), if_neg (by decide)]
theorem toks_ok {l : List ByteArray} (hl : l.length ≤ 1000) (hs : ∀ s ∈ l, 1 ≤ s.size ∧ s.size ≤ 40) (p : Int) {wd : Nat} (hw : 1 ≤ wd) (b : ByteArray) (hb : b.size ≤ 100000) : cat l (toks l p wd b) = b ∧ (∀ t ∈ toks l p wd b, Tok l t) ∧ (toks l p wd b).length ≤ b.size ∧ (1 ≤ b.size → toks l p wd b ≠ []) := by
  have hne : cat l (toks l p wd b) = b → 1 ≤ b.size → toks l p wd b ≠ [] := by
    intro h h1 e
    rw [e] at h
    have := congrArg ByteArray.size h
    have h0 : (cat l []).size = 0 := rfl
    omega
  unfold toks at hne ⊢
  split
  · rename_i hp
    rw [if_pos hp] at hne
    have hf : ∀ a, a < b.size → Fits l b a (nxt l b a).1 (nxt l b a).2 := fun a ha => nxt_fits hs b a ha
    have h1 : cat l (par l b b.size 0) = b := by rw [par_tks, tks_cat hf _ _ (Nat.zero_le _) (by omega), extract_all]
    exact ⟨h1, par_tok hs b _ _, par_len l b _ _, hne h1⟩
  · rename_i hp
    split
    · rename_i hq
      rw [if_neg hp, if_pos hq] at hne
      have hf : ∀ a, a < b.size → Fits l b a (fnx l b a).1 (fnx l b a).2 := fun a ha => fnx_fits hs b a ha
      have h1 : cat l (fpar l b b.size 0) = b := by rw [fpar_tks, tks_cat hf _ _ (Nat.zero_le _) (by omega), extract_all]
      exact ⟨h1, by rw [fpar_tks]; exact tks_tok hf _ _, by rw [fpar_tks]; exact tks_len _ _ _ _, hne h1⟩
    · rename_i hq
      rw [if_neg hp, if_neg hq] at hne
      have h := bwin_cat hl hs wd hw b.size b (Nat.le_refl _) hb
      exact ⟨h.1, h.2, bwin_len l wd hw _ _, hne h.1⟩
theorem right_calls (p q k wd : Int) (w : World) : Calls Try.prog 24 #[.agg #[.int .i64 p, .int .i64 q, .int .i64 k, .int .i64 wd]] w fun e w' => e = .returned (.bool (cfgB p q k wd)) ∧ Below w.heap.size w w' := by
  refine Leaf.block_Right.calls p q k wd _ w ?_
  have hcod : ∀ x : Int, Leaf.block_coded.f x = some (decide (0 ≤ x ∧ x ≤ 1)) := by
    intro x
    unfold Leaf.block_coded.f
    split
    · rename_i h; subst h; rfl
    · congr 1
      rw [Bool.eq_iff_iff, beq_iff_eq, decide_eq_true_iff]
      omega
  have hsiz : ∀ x : Int, Leaf.block_size.f x = some (decide (1 ≤ x ∧ x ≤ 1024)) := by
    intro x
    unfold Leaf.block_size.f
    split
    · congr 1
      rw [decide_eq_decide]
      omega
    · congr 1
      symm
      rw [decide_eq_false_iff_not]
      omega
  unfold Leaf.block_Right.f
  rw [hcod, hsiz, hsiz]
  simp only [Option.bind_some]
  unfold cfgB
  by_cases h1 : p ≥ 0
  · rw [if_pos h1]
    by_cases h2 : p ≤ 2
    · rw [if_pos h2]
      by_cases h3 : 0 ≤ q ∧ q ≤ 1
      · rw [if_pos (decide_eq_true h3)]
        by_cases h4 : 1 ≤ k ∧ k ≤ 1024
        · rw [if_pos (decide_eq_true h4)]
          congr 1
          rw [decide_eq_decide]
          omega
        · rw [if_neg (by rw [decide_eq_true_iff]; exact h4)]
          congr 1
          symm
          rw [decide_eq_false_iff_not]
          omega
      · rw [if_neg (by rw [decide_eq_true_iff]; exact h3)]
        congr 1
        symm
        rw [decide_eq_false_iff_not]
        omega
    · rw [if_neg h2]
      congr 1
      symm
      rw [decide_eq_false_iff_not]
      omega
  · rw [if_neg h1]
    congr 1
    symm
    rw [decide_eq_false_iff_not]
    omega
theorem cfg_at {w w1 : World} {a b c d : Value} (hb : Below (w.alloc (.cells #[a, b, c, d] 24)).heap.size (w.alloc (.cells #[a, b, c, d] 24)) w1) :
    w1.cell? ⟨w.heap.size, 0, none⟩ = some a ∧ w1.cell? ⟨w.heap.size, 1, none⟩ = some b ∧ w1.cell? ⟨w.heap.size, 2, none⟩ = some c ∧ w1.cell? ⟨w.heap.size, 3, none⟩ = some d := by
  have hh : (w.alloc (.cells #[a, b, c, d] 24)).heap[w.heap.size]? = some (.cells #[a, b, c, d] 24 (0, 0)) := heap_alloc_new _ _
  exact ⟨pw_cell_below hb (blk_cell hh 0), pw_cell_below hb (blk_cell hh 1), pw_cell_below hb (blk_cell hh 2), pw_cell_below hb (blk_cell hh 3)⟩
set_option maxHeartbeats 2000000 in
set_option maxRecDepth 100000 in
theorem tokens_yes {P : Value} {l : List ByteArray} {w : World} (hd : DictN w P l) (hl : l.length ≤ 1000) (hs : ∀ s ∈ l, 1 ≤ s.size ∧ s.size ≤ 40) (p q k wd : Int) (hcf : cfgB p q k wd = true) (b : ByteArray) (h1 : 1 ≤ b.size) (hb : (b.size : Int) ≤ k) :
    Calls Try.prog 13 #[P, .agg #[.int .i64 p, .int .i64 q, .int .i64 k, .int .i64 wd], .string b] w fun e w' => ∃ A c, e = .returned (.tuple #[.slice A (toks l p wd.toNat b).length c, .int .i64 0]) ∧ (toks l p wd.toNat b).length ≤ c ∧ IntsIn w' A (toks l p wd.toNat b) ∧ Below w.heap.size w w' := by
  have hcb := hcf
  unfold cfgB at hcb
  rw [decide_eq_true_iff] at hcb
  have HD := Aside0.mk hd
  have HRT := Aside0.mk (fun W => right_calls p q k wd W)
  rw [hcf] at HRT
  have z1 := not_nil h1
  have z2 : ¬ b.toList = [] := by intro e; rw [e] at z1; cases z1
  have d1 : decide (k < (b.size : Int)) = false := decide_eq_false (by omega)
  have hp3 : p = 0 ∨ p = 1 ∨ p = 2 := by omega
  obtain ⟨wn, hwn⟩ : ∃ n : Nat, wd = n := ⟨wd.toNat, by omega⟩
  subst hwn
  rw [Int.toNat_natCast]
  have HP0 := Aside0.mk (fun (W : World) (h : DictN W P l) => parse_any h hl hs b (by omega))
  have HP1 := Aside0.mk (fun (W : World) (h : DictN W P l) => fparse_any h hl hs b (by omega))
  have HP2 := Aside0.mk (fun (W : World) (h : DictN W P l) => bparse_any h hl hs b (by omega) wn (by omega) (by omega))
  clear hd hl hs h1 hb hcf hcb
  rcases hp3 with rfl | rfl | rfl
  · rw [toks_zero]
    go_enter Try.func13, Try.ntmps13
    go_wp2_with fail
    refine (HRT.out _).mono ?_
    rintro e w1 ⟨rfl, hb1⟩
    obtain ⟨c0, c1, c2, c3⟩ := cfg_at hb1
    have H1 := Aside0.mk (below_step (below_alloc (Below.refl _ _) _) hb1)
    clear hb1
    go_wp2_with fail
    refine (HP0.out _ (HD.out.below H1.out)).mono ?_
    rintro e w2 ⟨A, c, rfl, hc, hC, hb2⟩
    have HC := Aside0.mk hC
    have HCC := Aside0.mk hc
    have H2 := Aside0.mk (below_step H1.out hb2)
    clear hc hC hb2
    go_wp2
    go_ret2
    exact ⟨A, c, rfl, HCC.out, HC.out, H2.out⟩
  · rw [toks_one]
    go_enter Try.func13, Try.ntmps13
    go_wp2_with fail
    refine (HRT.out _).mono ?_
    rintro e w1 ⟨rfl, hb1⟩
    obtain ⟨c0, c1, c2, c3⟩ := cfg_at hb1
    have H1 := Aside0.mk (below_step (below_alloc (Below.refl _ _) _) hb1)
    clear hb1
    go_wp2_with fail
    refine (HP1.out _ (HD.out.below H1.out)).mono ?_
    rintro e w2 ⟨A, c, rfl, hc, hC, hb2⟩
    have HC := Aside0.mk hC
    have HCC := Aside0.mk hc
    have H2 := Aside0.mk (below_step H1.out hb2)
    clear hc hC hb2
    go_wp2
    go_ret2
    exact ⟨A, c, rfl, HCC.out, HC.out, H2.out⟩
  · rw [toks_two]
    go_enter Try.func13, Try.ntmps13
    go_wp2_with fail
    refine (HRT.out _).mono ?_
    rintro e w1 ⟨rfl, hb1⟩
    obtain ⟨c0, c1, c2, c3⟩ := cfg_at hb1
    have H1 := Aside0.mk (below_step (below_alloc (Below.refl _ _) _) hb1)
    clear hb1
    go_wp2_with fail
    refine (HP2.out _ (HD.out.below H1.out)).mono ?_
    rintro e w2 ⟨A, c, rfl, hc, hC, hb2⟩
    have HC := Aside0.mk hC
    have HCC := Aside0.mk hc
    have H2 := Aside0.mk (below_step H1.out hb2)
    clear hc hC hb2
    go_wp2
    go_ret2
    exact ⟨A, c, rfl, HCC.out, HC.out, H2.out⟩
set_option maxHeartbeats 2000000 in
set_option maxRecDepth 100000 in
theorem tokens_no (P : Value) (p q k wd : Int) (b : ByteArray) (h : ¬ (cfgB p q k wd = true ∧ 1 ≤ b.size ∧ (b.size : Int) ≤ k)) (w : World) :
    Calls Try.prog 13 #[P, .agg #[.int .i64 p, .int .i64 q, .int .i64 k, .int .i64 wd], .string b] w fun e w' => e = .returned (.tuple #[.slice none 0 0, .int .i64 1]) ∧ Below w.heap.size w w' := by
  have HRT := Aside0.mk (fun W => right_calls p q k wd W)
  cases hcf : cfgB p q k wd with
  | false =>
    rw [hcf] at HRT
    clear hcf h
    go_enter Try.func13, Try.ntmps13
    go_wp2_with fail
    refine (HRT.out _).mono ?_
    rintro e w1 ⟨rfl, hb1⟩
    have H1 := Aside0.mk (below_step (below_alloc (Below.refl _ _) _) hb1)
    clear hb1
    go_wp2
    go_ret2
    exact ⟨rfl, H1.out⟩
  | true =>
    rw [hcf] at HRT
    by_cases h0 : b.size = 0
    · have z2 : b.toList = [] := Bridge.empty_iff.2 h0
      have z1 : b.toList.isEmpty = true := by rw [z2]; rfl
      clear hcf h h0
      go_enter Try.func13, Try.ntmps13
      go_wp2_with fail
      refine (HRT.out _).mono ?_
      rintro e w1 ⟨rfl, hb1⟩
      have H1 := Aside0.mk (below_step (below_alloc (Below.refl _ _) _) hb1)
      clear hb1
      go_wp2
      go_ret2
      exact ⟨rfl, H1.out⟩
    · have z1 := not_nil (b := b) (by omega)
      have z2 : ¬ b.toList = [] := by intro e; rw [e] at z1; cases z1
      have d1 : decide (k < (b.size : Int)) = true := decide_eq_true (Int.not_le.1 (fun hk => h ⟨hcf, by omega, hk⟩))
      clear hcf h h0
      go_enter Try.func13, Try.ntmps13
      go_wp2_with fail
      refine (HRT.out _).mono ?_
      rintro e w1 ⟨rfl, hb1⟩
      obtain ⟨c0, c1, c2, c3⟩ := cfg_at hb1
      have H1 := Aside0.mk (below_step (below_alloc (Below.refl _ _) _) hb1)
      clear hb1
      go_wp2
      go_ret2
      exact ⟨rfl, H1.out⟩
end Go.Proofs.Ytboklkfplnmabaa
