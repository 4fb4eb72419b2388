/- For every block and way of parsing: without a dictionary, as numbers, a block is stored as it is. -/
import Derived.Test.YtboklkfplnmabaaTokens
import Derived.Test.YtboklkfplnmabaaAlive
set_option linter.unusedVariables false
set_option linter.unusedSimpArgs false
namespace Go.Proofs.Ytboklkfplnmabaa
open Go.RowKit Go.Proofs.Ytboklkfplnmabaa.Spec Go.Proofs.YtboklkfplnmabaaW.PrintWords Go.Proofs.YtboklkfplnmabaaW.PrintLast
open Go.Proofs.YtboklkfplnmabaaW.PrintMore
attribute [local go_sem ↓] Go.wp_at_zero Go.wp_at_succ
set_option maxHeartbeats 2000000 in
set_option maxRecDepth 100000 in
theorem put_zero {P : Value} {l : List ByteArray} {w : World} (hd : DictN w P l) (hl : l.length ≤ 1000) (hs : ∀ s ∈ l, 1 ≤ s.size ∧ s.size ≤ 40) (p k wd : Int) (hcf : cfgB p 0 k wd = true) (b : ByteArray) (h1 : 1 ≤ b.size) (hk : (b.size : Int) ≤ k) (hb : b.size ≤ 1000) :
    Calls Try.prog 12 #[P, .agg #[.int .i64 p, .int .i64 0, .int .i64 k, .int .i64 wd], .string b] w fun e w' => e = .returned (.tuple (if (nums2 (toks l p wd.toNat b)).length < b.size then #[.int .i64 2, .string (str (nums2 (toks l p wd.toNat b))), .int .i64 0] else #[.int .i64 1, .string b, .int .i64 0])) ∧ Below w.heap.size w w' := by
  have HD := Aside0.mk hd
  have HT := Aside0.mk (fun (W : World) (h : DictN W P l) => tokens_yes h hl hs p 0 k wd hcf b h1 hk)
  have hw1 : 1 ≤ wd.toNat := by unfold cfgB at hcf; rw [decide_eq_true_iff] at hcf; omega
  obtain ⟨_, ht, hn, hne⟩ := toks_ok hl hs p hw1 b (by omega)
  have HL := Aside0.mk (fun (W : World) (h : DictN W P l) (A : Option Addr) (c : Nat) (hr : IntsIn W A (toks l p wd.toNat b)) (hc : (toks l p wd.toNat b).length ≤ c) => lay_nums (toks l p wd.toNat b) h hl hs hr hc (by omega) (hne h1) ht)
  have hz : (str (nums2 (toks l p wd.toNat b))).size = (nums2 (toks l p wd.toNat b)).length := by rw [← u_size, u_str]
  generalize str (nums2 (toks l p wd.toNat b)) = s at *
  clear hd hl hs h1 hb hne ht hn hk hcf hw1
  by_cases hq : (nums2 (toks l p wd.toNat b)).length < b.size
  · rw [if_pos hq]
    have d1 : decide ((s.size : Int) < (b.size : Int)) = true := decide_eq_true (by omega)
    have d2 : decide (s.size < b.size) = true := decide_eq_true (by omega)
    clear hq hz
    go_enter Try.func12, Try.ntmps12
    go_wp2_with fail
    refine (HT.out _ (HD.out.below (below_alloc (Below.refl _ _) _))).mono ?_
    rintro e w2 ⟨A, c, rfl, hc, hC, hb2⟩
    obtain ⟨c0, c1, c2, c3⟩ := cfg_at hb2
    have HC := Aside0.mk hC
    have HCC := Aside0.mk hc
    have H2 := Aside0.mk (below_step (below_alloc (Below.refl _ _) _) hb2)
    clear hc hC hb2
    go_wp2_with fail
    refine (HL.out _ (HD.out.below H2.out) A c HC.out HCC.out).mono ?_
    rintro e w3 ⟨rfl, hb3⟩
    have H3 := Aside0.mk (below_step H2.out hb3)
    clear hb3
    go_wp2
    go_ret3
    exact ⟨rfl, H3.out⟩
  · rw [if_neg hq]
    have d1 : decide ((s.size : Int) < (b.size : Int)) = false := decide_eq_false (by omega)
    have d2 : decide (s.size < b.size) = false := decide_eq_false (by omega)
    clear hq hz
    go_enter Try.func12, Try.ntmps12
    go_wp2_with fail
    refine (HT.out _ (HD.out.below (below_alloc (Below.refl _ _) _))).mono ?_
    rintro e w2 ⟨A, c, rfl, hc, hC, hb2⟩
    obtain ⟨c0, c1, c2, c3⟩ := cfg_at hb2
    have HC := Aside0.mk hC
    have HCC := Aside0.mk hc
    have H2 := Aside0.mk (below_step (below_alloc (Below.refl _ _) _) hb2)
    clear hc hC hb2
    go_wp2_with fail
    refine (HL.out _ (HD.out.below H2.out) A c HC.out HCC.out).mono ?_
    rintro e w3 ⟨rfl, hb3⟩
    have H3 := Aside0.mk (below_step H2.out hb3)
    clear hb3
    go_wp2
    go_ret3
    exact ⟨rfl, H3.out⟩
theorem cat_none {r : List Int} (h : ∀ t ∈ r, Tok [] t) : (cat [] r).size = r.length := by
  induction r with
  | nil => rfl
  | cons t r ih =>
    have h1 := h t (List.mem_cons_self ..)
    have h2 := ih fun q hq => h q (List.mem_cons_of_mem _ hq)
    unfold Tok at h1
    rw [List.length_nil] at h1
    rw [cat, ByteArray.size_append, List.length_cons, h2, word_low h1.1 (by omega)]
    show 1 + r.length = _
    omega
theorem num_pos (n : Nat) : 1 ≤ (num n).length := by
  rw [num]; split <;> simp
theorem nums2_ge (r : List Int) : r.length ≤ (nums2 r).length := by
  induction r with
  | nil => exact Nat.le_refl 0
  | cons t r ih => rw [nums2, List.length_append, List.length_cons]; have := num_pos t.toNat; omega
set_option maxHeartbeats 2000000 in
set_option maxRecDepth 100000 in
theorem stores_yes (b : ByteArray) (p : Int) (w : World) (h1 : 1 ≤ b.size) (h4 : b.size ≤ 400) (hp : 0 ≤ p ∧ p ≤ 2) :
    Calls Try.prog 3 #[.string b, .int .i64 p] w fun e w' => e = .returned (.bool true) ∧ Below w.heap.size w w' := by
  have hcf : cfgB p 0 1024 1024 = true := by unfold cfgB; rw [decide_eq_true_iff]; omega
  have ht := toks_ok (l := []) (Nat.zero_le _) (fun s hs => by cases hs) p (wd := 1024) (by decide) b (by omega)
  have hlen : (toks [] p 1024 b).length = b.size := by rw [← cat_none ht.2.1, ht.1]
  have hnl : ¬ (nums2 (toks [] p 1024 b)).length < b.size := by have := nums2_ge (toks [] p 1024 b); omega
  have HP := Aside0.mk (fun (W : World) => put_zero (DictN.nil W) (Nat.zero_le _) (fun s hs => by cases hs) p 1024 1024 hcf b h1 (by omega) (by omega))
  have HT := Aside0.mk (fun (W : World) => tokens_yes (DictN.nil W) (Nat.zero_le _) (fun s hs => by cases hs) p 0 1024 1024 hcf b h1 (by omega))
  rw [show (1024 : Int).toNat = 1024 from rfl, if_neg hnl] at HP
  rw [show (1024 : Int).toNat = 1024 from rfl, hlen] at HT
  have d1 : decide ((b.size : Int) < 1) = false := decide_eq_false (by omega)
  have d1' : decide (b.size < 1) = false := decide_eq_false (by omega)
  have d2 : decide ((400 : Int) < (b.size : Int)) = false := decide_eq_false (by omega)
  have d2' : decide (400 < b.size) = false := decide_eq_false (by omega)
  have d3 : decide (p < 0) = false := decide_eq_false (by omega)
  have d4 : decide (2 < p) = false := decide_eq_false (by omega)
  clear hcf ht hlen hnl h1 h4 hp
  go_enter Try.func3, Try.ntmps3
  go_wp2_with fail
  refine (alive22 _).mono ?_
  rintro e w1 ⟨rfl, hb1⟩
  have H1 := Aside0.mk hb1
  clear hb1
  go_wp2_with fail
  refine (HP.out _).mono ?_
  rintro e w2 ⟨rfl, hb2⟩
  obtain ⟨c0, c1, c2, c3⟩ := cfg_at hb2
  have H2 := Aside0.mk (below_step (below_alloc H1.out _) hb2)
  clear hb2
  go_wp2_with fail
  refine (HT.out _).mono ?_
  rintro e w3 ⟨A, c, rfl, hc, hC, hb3⟩
  have H3 := Aside0.mk (below_step H2.out hb3)
  clear hb3 hc hC
  go_wp2
  go_ret
  exact ⟨rfl, H3.out⟩
set_option maxHeartbeats 2000000 in
set_option maxRecDepth 100000 in
theorem stores_no (b : ByteArray) (p : Int) (w : World) (h : ¬ (1 ≤ b.size ∧ b.size ≤ 400 ∧ 0 ≤ p ∧ p ≤ 2)) :
    Calls Try.prog 3 #[.string b, .int .i64 p] w fun e w' => e = .returned (.bool true) ∧ Below w.heap.size w w' := by
  by_cases h1 : 1 ≤ b.size
  · have d1 : decide ((b.size : Int) < 1) = false := decide_eq_false (by omega)
    have d1' : decide (b.size < 1) = false := decide_eq_false (by omega)
    by_cases h2 : b.size ≤ 400
    · have d2 : decide ((400 : Int) < (b.size : Int)) = false := decide_eq_false (by omega)
      have d2' : decide (400 < b.size) = false := decide_eq_false (by omega)
      by_cases h3 : 0 ≤ p
      · have d3 : decide (p < 0) = false := decide_eq_false (by omega)
        have d4 : decide (2 < p) = true := decide_eq_true (Int.not_le.1 (fun hk => h ⟨h1, h2, h3, hk⟩))
        clear h h1 h2 h3
        go_enter Try.func3, Try.ntmps3
        go_wp2_with fail
        refine (alive22 _).mono ?_
        rintro e w1 ⟨rfl, hb1⟩
        go_wp2
        go_ret
        exact ⟨rfl, hb1⟩
      · have d3 : decide (p < 0) = true := decide_eq_true (by omega)
        clear h h1 h2 h3
        go_enter Try.func3, Try.ntmps3
        go_wp2_with fail
        refine (alive22 _).mono ?_
        rintro e w1 ⟨rfl, hb1⟩
        go_wp2
        go_ret
        exact ⟨rfl, hb1⟩
    · have d2 : decide ((400 : Int) < (b.size : Int)) = true := decide_eq_true (by omega)
      have d2' : decide (400 < b.size) = true := decide_eq_true (by omega)
      clear h h1 h2
      go_enter Try.func3, Try.ntmps3
      go_wp2_with fail
      refine (alive22 _).mono ?_
      rintro e w1 ⟨rfl, hb1⟩
      go_wp2
      go_ret
      exact ⟨rfl, hb1⟩
  · have d1 : decide ((b.size : Int) < 1) = true := decide_eq_true (by omega)
    have d1' : decide (b.size < 1) = true := decide_eq_true (by omega)
    clear h h1
    go_enter Try.func3, Try.ntmps3
    go_wp2_with fail
    refine (alive22 _).mono ?_
    rintro e w1 ⟨rfl, hb1⟩
    go_wp2
    go_ret
    exact ⟨rfl, hb1⟩
theorem blockStores_law (b : ByteArray) (p : Int) (w : World) (_hb : b.size ≤ 140737488351232) (_hp : (Lit.int .i64 p).wf = true) :
    Calls Try.prog 3 #[.string b, .int .i64 p] w fun e w' => e = .returned (.bool true) ∧ Below w.heap.size w w' := by
  by_cases h : 1 ≤ b.size ∧ b.size ≤ 400 ∧ 0 ≤ p ∧ p ≤ 2
  · exact stores_yes b p w h.1 h.2.1 h.2.2
  · exact stores_no b p w h
end Go.Proofs.Ytboklkfplnmabaa
