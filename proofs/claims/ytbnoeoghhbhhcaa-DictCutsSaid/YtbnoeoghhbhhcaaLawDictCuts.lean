/- DictCuts: for every phrases, cut and further bytes the law DictCuts (P601) returns true; no condition. -/
import Derived.Test.YtbnoeoghhbhhcaaDictG
set_option linter.unusedVariables false
set_option linter.unusedSimpArgs false
namespace Go.Proofs.Ytbnoeoghhbhhcaa
open Go.RowKit Go.Proofs.Ytbnoeoghhbhhcaa.Spec Go.Proofs.YtbnoeoghhbhhcaaW.PrintWords Go.Proofs.YtbnoeoghhbhhcaaW.PrintLast
open Go.Proofs.YtbnoeoghhbhhcaaW.PrintMore
theorem body_len2 {l : List ByteArray} (h : ∀ s ∈ l, s.size < 4294967296) : (body l).length ≤ l.length * 5 + total l := by
  induction l with
  | nil => simp [body, total]
  | cons s t ih =>
    have h1 := h s (List.mem_cons_self ..)
    have h2 := ih (fun x hx => h x (List.mem_cons_of_mem _ hx))
    have h3 := Bridge.num_len (n := s.size) h1
    simp only [body, List.length_append, List.length_cons, u_size, total]
    omega
theorem turn_in (k : Int) (n : Nat) (h : 0 < n) (hn : n < 4611686018427387904) : ∃ j : Nat, Int.tmod (wrap64 (Int.tmod k (n : Int) + (n : Int))) (n : Int) = (j : Int) ∧ j < n := by
  have h1 := Int.tmod_lt_of_pos k (b := (n : Int)) (by omega)
  have h2 : -(n : Int) < Int.tmod k (n : Int) := by
    have := Int.tmod_lt_of_pos (-k) (b := (n : Int)) (by omega)
    rw [Int.neg_tmod] at this
    omega
  rw [Bridge.wr (by omega) (by omega)]
  have h3 := Int.tmod_nonneg (a := Int.tmod k (n : Int) + (n : Int)) (n : Int) (by omega)
  have h4 := Int.tmod_lt_of_pos (Int.tmod k (n : Int) + (n : Int)) (b := (n : Int)) (by omega)
  exact ⟨(Int.tmod (Int.tmod k (n : Int) + (n : Int)) (n : Int)).toNat, by omega, by omega⟩
theorem load_cut {l : List ByteArray} (hm : l.length ≤ 100 ∧ May 0 [] l) (j : Nat) (hj : j < (Spec.bytes l).length) : (Spec.load ((Spec.bytes l).take j)).2.1 = 2 ∧ (Spec.load ((Spec.bytes l).take j)).2.2 ≤ j := by
  obtain ⟨c1, c2, _⟩ := split_cut (l := l) (by omega) (may_small hm.2) j hj
  unfold Spec.load
  rw [if_pos (by omega)]
  exact ⟨c1, c2⟩
theorem load_more {l : List ByteArray} (hm : l.length ≤ 100 ∧ May 0 [] l) (more : List UInt8) (h : more ≠ []) : Spec.load (Spec.bytes l ++ more) = ([], 13, (Spec.bytes l).length) := by
  have := split_more (l := l) (by omega) (may_small hm.2) more h
  unfold Spec.load
  rw [this, if_pos (by simp)]
set_option maxHeartbeats 2000000 in
set_option maxRecDepth 100000 in
theorem cuts_tail (A : Option Addr) (c : Nat) (l : List ByteArray) (k : Int) (more : ByteArray) (w : World) (hr : StrsIn w A l) (hc : l.length ≤ c) (h16 : l.length * 16 ≤ 140737488351232) (hsz : ∀ s ∈ l, s.size ≤ 140737488351232) (hk : (Lit.int .i64 k).wf = true) (hm0 : more.size ≠ 0) (hm : more.size ≤ 50) (hfew : Bridge.few l = true) :
    Calls Try.prog 8 #[.slice A l.length c, .int .i64 k, .string more] w fun e w' => e = .returned (.bool true) ∧ Below w.heap.size w w' := by
  have HF := Aside0.mk (few_calls l hr hc (by omega) hsz)
  rw [hfew] at HF
  have HR := Aside0.mk hr
  have HC := Aside0.mk hc
  clear hr hc hfew
  have m1 : (more.toList == ([] : List UInt8)) = false := beq_eq_false_iff_ne.2 (fun h => hm0 (Bridge.empty_iff.1 h))
  have m2 : decide ((50 : Int) < (more.size : Int)) = false := decide_eq_false (by omega)
  go_enter Try.func8, Try.ntmps8
  go_wp2_with fail
  refine HF.out.mono ?_
  rintro e w1 ⟨rfl, hd1⟩
  have H1 := Aside0.mk hd1.below
  clear hd1
  go_wp2_with fail
  refine (alive_any _).mono ?_
  rintro e w2 ⟨rfl, hb2⟩
  have H2 := Aside0.mk (below_step H1.out hb2)
  clear hb2
  go_wp2_with fail
  by_cases hp : (phrases l).1 = 0
  · refine (make_yes l _ (Kd.C_below HR.out H2.out) HC.out hsz hp).mono ?_
    rintro e w3 ⟨ad, rfl, hd, hb3⟩
    have HD := Aside0.mk hd
    have H3 := Aside0.mk (below_step H2.out hb3)
    have hmay := (phrases_ok l).1 hp
    have HM := Aside0.mk hmay
    have hl := hmay.1
    clear hd hb3 hp hmay
    go_wp2_with fail
    refine (bytes_any HD.out hl (fun s hs => by have := (HM.out.2.1 s hs).2; omega)).mono ?_
    rintro e w4 ⟨rfl, hb4⟩
    have H4 := Aside0.mk (below_step H3.out hb4)
    clear hb4
    have hbl := body_len (l := l) (fun s hs => by have := (HM.out.2.1 s hs).2; omega)
    have hne := num_ne l.length
    have hnl := Bridge.num_len (n := l.length) (by omega)
    obtain ⟨B, hB⟩ : ∃ B, B = str (Spec.bytes l) := ⟨_, rfl⟩
    have hBu : u B = Spec.bytes l := by rw [hB, u_str]
    have hBs : B.size = (Spec.bytes l).length := by rw [← u_size, hBu]
    rw [← hB]
    have hpos : 0 < B.size := by rw [hBs]; unfold Spec.bytes; rw [List.length_append]; have := List.length_pos_iff.2 hne; omega
    have hb2 := body_len2 (l := l) (may_small HM.out.2)
    have hb3 := HM.out.2.2.1
    have hBm : B.size ≤ 2000 := by rw [hBs]; unfold Spec.bytes; rw [List.length_append]; omega
    clear hb2 hb3
    obtain ⟨j, hj, hjl⟩ := turn_in k B.size hpos (by omega)
    have hcut := load_cut HM.out j (by omega)
    have hmore := load_more HM.out (u more) (fun h => hm0 (by rw [← u_size, h]; rfl))
    rw [← hBu] at hcut hmore
    have e1 : u (B.extract 0 j) = (u B).take j := by rw [u_extract]; simp
    rw [← e1] at hcut
    rw [← u_app] at hmore
    have hext : (B.extract 0 j).size = j := by rw [← u_size, e1, List.length_take, u_size]; omega
    have HLN := Aside0.mk (fun W (h : (B.extract 0 j).size ≤ 1000000) => load_no (B.extract 0 j) h W (by rw [hcut.1]; decide))
    rw [hcut.1] at HLN
    have hpl : ((Spec.load (u (B.extract 0 j))).2.2 : Int) ≤ (B.size : Int) := by omega
    generalize (Spec.load (u (B.extract 0 j))).2.2 = pl at *
    have HLM := Aside0.mk (fun W (h : (B ++ more).size ≤ 1000000) => load_no (B ++ more) h W (by rw [hmore]; simp))
    rw [hmore] at HLM
    rw [u_size] at HLM
    have q1 : ¬ 9223372036854775807 < B.size + more.size := by omega
    have HJ := Aside0.mk hj
    clear hB hbl hne hnl hBu hBs hj hcut hmore e1 hext
    have hj := HJ.out
    have j1 : (0 : Int) ≤ (j : Int) := by omega
    have j2 : (j : Int) ≤ (B.size : Int) := by omega
    have n1 : (B.toList == ([] : List UInt8)) = false := beq_eq_false_iff_ne.2 (fun h => by have := Bridge.empty_iff.1 h; omega)
    have n2 : ((B.size : Int) == 0) = false := beq_eq_false_iff_ne.2 (by omega)
    go_wp2_with fail
    refine (HLN.out _ (by rw [← u_size, u_extract, List.length_take]; omega)).mono ?_
    rintro e w5 ⟨rfl, hb5⟩
    have H5 := Aside0.mk (below_step H4.out hb5)
    clear hb5
    go_wp2_with fail
    refine (of_some _ _ _).mono ?_
    rintro e w6 ⟨rfl, hb6⟩
    have H6 := Aside0.mk (below_step H5.out hb6)
    clear hb6
    go_wp2_with fail
    refine (HLM.out _ (by rw [ByteArray.size_append]; omega)).mono ?_
    rintro e w7 ⟨rfl, hb7⟩
    have c0 := pw_cell_below hb7 (a := ⟨w6.heap.size, 0, none⟩) (v := .int .i64 2) (by simp)
    have c1 := pw_cell_below hb7 (a := ⟨w6.heap.size, 1, none⟩) (v := .int .i64 (pl : Int)) (by simp)
    have H7 := Aside0.mk (below_step H6.out (below_step (below_alloc (Below.refl w6.heap.size w6) _) hb7))
    clear hb7
    have pl0 : (0 : Int) ≤ (pl : Int) := by omega
    have pl1 : decide ((pl : Int) ≤ (B.size : Int)) = true := decide_eq_true hpl
    have pl2 : pl ≤ B.size := by omega
    go_wp2_with fail
    refine (told_some 13 (B.size : Int) (by decide) _).mono ?_
    rintro e w8 ⟨rfl, hb8⟩
    go_wp2
    go_ret
    exact ⟨rfl, below_step H7.out hb8⟩
  · refine (make_no l _ (Kd.C_below HR.out H2.out) HC.out hsz hp).mono ?_
    rintro e w3 ⟨rfl, hb3⟩
    go_wp2
    go_ret
    exact ⟨rfl, below_step H2.out hb3⟩
set_option maxHeartbeats 1000000 in
set_option maxRecDepth 100000 in
theorem cuts_law (A : Option Addr) (c : Nat) (l : List ByteArray) (k : Int) (more : ByteArray) (w : World) (hr : StrsIn w A l) (hc : l.length ≤ c) (h16 : l.length * 16 ≤ 140737488351232) (hsz : ∀ s ∈ l, s.size ≤ 140737488351232) (hk : (Lit.int .i64 k).wf = true) (hms : more.size ≤ 140737488351232) :
    Calls Try.prog 8 #[.slice A l.length c, .int .i64 k, .string more] w fun e w' => e = .returned (.bool true) ∧ Below w.heap.size w w' := by
  by_cases hfew : Bridge.few l = true
  · by_cases hm0 : more.size = 0
    · have HF := Aside0.mk (few_calls l hr hc (by omega) hsz)
      rw [hfew] at HF
      have m1 : (more.toList == ([] : List UInt8)) = true := beq_iff_eq.2 (Bridge.empty_iff.2 hm0)
      clear hr hc hfew hm0
      go_enter Try.func8, Try.ntmps8
      go_wp2_with (first | (go_at_call 16; refine HF.out.mono ?_; rintro e w1 ⟨rfl, ⟨nd, rfl⟩⟩) | (go_at_call 13; refine (alive_any _).mono ?_; rintro e w2 ⟨rfl, hb2⟩))
      go_ret
      exact ⟨rfl, below_step (pw_below_drewN (Below.refl _ _) _) hb2⟩
    · by_cases hm : 50 < more.size
      · have HF := Aside0.mk (few_calls l hr hc (by omega) hsz)
        rw [hfew] at HF
        have m1 : (more.toList == ([] : List UInt8)) = false := beq_eq_false_iff_ne.2 (fun h => hm0 (Bridge.empty_iff.1 h))
        have m2 : decide ((50 : Int) < (more.size : Int)) = true := decide_eq_true (by omega)
        clear hr hc hfew hm0 hm
        go_enter Try.func8, Try.ntmps8
        go_wp2_with (first | (go_at_call 16; refine HF.out.mono ?_; rintro e w1 ⟨rfl, ⟨nd, rfl⟩⟩) | (go_at_call 13; refine (alive_any _).mono ?_; rintro e w2 ⟨rfl, hb2⟩))
        go_ret
        exact ⟨rfl, below_step (pw_below_drewN (Below.refl _ _) _) hb2⟩
      · exact cuts_tail A c l k more w hr hc h16 hsz hk hm0 (by omega) hfew
  · have HF := Aside0.mk (few_calls l hr hc (by omega) hsz)
    rw [Bool.eq_false_iff.2 hfew] at HF
    clear hr hc hfew
    go_enter Try.func8, Try.ntmps8
    go_wp2_with (first | (go_at_call 16; refine HF.out.mono ?_; rintro e w1 ⟨rfl, ⟨nd, rfl⟩⟩) | (go_at_call 13; refine (alive_any _).mono ?_; rintro e w2 ⟨rfl, hb2⟩))
    go_ret
    exact ⟨rfl, below_step (pw_below_drewN (Below.refl _ _) _) hb2⟩
end Go.Proofs.Ytbnoeoghhbhhcaa
