/- FaultNames: each code has a name of its own; what is none is an error. -/
import Derived.Test.YtbnoeoghhbhhcaaDictI
set_option linter.unusedVariables false
set_option linter.unusedSimpArgs false
namespace Go.Proofs.Ytbnoeoghhbhhcaa
open Go.RowKit Go.Proofs.Ytbnoeoghhbhhcaa.Spec Go.Proofs.YtbnoeoghhbhhcaaW.PrintWords Go.Proofs.YtbnoeoghhbhhcaaW.PrintLast
open Go.Proofs.YtbnoeoghhbhhcaaW.PrintMore
theorem nameS_in (c : Int) (h : 0 ≤ c ∧ c < 14) : nameS c = names.getD c.toNat ByteArray.empty := if_pos h
theorem nameS_out (c : Int) (h : ¬ (0 ≤ c ∧ c < 14)) : nameS c = ⟨#[101, 114, 114, 111, 114]⟩ := if_neg h
theorem names_facts : ∀ i, i < 14 → names.getD i ByteArray.empty ≠ ⟨#[101, 114, 114, 111, 114]⟩ ∧ names.getD i ByteArray.empty ≠ ⟨#[]⟩ := by decide +kernel
theorem names_facts2 : ∀ i, i < 14 → (names.getD i ByteArray.empty).toList ≠ [101, 114, 114, 111, 114] ∧ (names.getD i ByteArray.empty).toList ≠ [] := by decide +kernel
theorem names_inj2 : ∀ i, i < 14 → ∀ j, j < 14 → (names.getD i ByteArray.empty).toList = (names.getD j ByteArray.empty).toList → i = j := by decide +kernel
theorem names_inj : ∀ i, i < 14 → ∀ j, j < 14 → names.getD i ByteArray.empty = names.getD j ByteArray.empty → i = j := by decide +kernel
theorem geq_int (a b : Int) (h : b ≤ a) : decide (a ≥ b) = true := decide_eq_true h
set_option maxHeartbeats 1000000 in
set_option maxRecDepth 100000 in
/-- the law's text, at what the two names are -/
theorem names_out (a b : Int) (w : World) (ha : ¬ (0 ≤ a ∧ a < 14)) : Calls Try.prog 10 #[.int .i64 a, .int .i64 b] w fun e w' => e = .returned (.bool true) ∧ Below w.heap.size w w' := by
  have na : ∀ W, Calls Try.prog 37 #[.int .i64 a] W fun e w' => e = .returned (.string ⟨#[101, 114, 114, 111, 114]⟩) ∧ Below W.heap.size W w' := by
    intro W; have := name_calls a W; rw [nameS_out a ha] at this; exact this
  have NA := Aside0.mk na
  clear na
  have tail : (decide (0 ≤ a) && decide (a ≤ 13)) = false := by
    by_cases h : 0 ≤ a
    · rw [decide_eq_false (p := a ≤ 13) (by omega), Bool.and_false]
    · rw [decide_eq_false h, Bool.false_and]
  by_cases h0 : 0 ≤ a
  · have m1 : decide (a ≤ 13) = false := decide_eq_false (by omega)
    have m2 : ¬ a ≤ 13 := by omega
    clear ha
    go_enter Try.func10, Try.ntmps10
    go_wp2_with fail
    refine (alive_one _).mono ?_
    rintro e w1 ⟨rfl, hb1⟩
    have H1 := Aside0.mk hb1
    clear hb1
    go_wp2_with fail
    by_cases g0 : 0 ≤ b
    all_goals
      go_wp2_with fail
      refine (NA.out _).mono ?_
      rintro e w2 ⟨rfl, hb2⟩
      have H2 := Aside0.mk (below_step H1.out hb2)
      clear hb2
      go_wp2_with fail
      refine (NA.out _).mono ?_
      rintro e w3 ⟨rfl, hb3⟩
      go_wp2
      go_ret
      exact ⟨rfl, below_step H2.out hb3⟩
  · have m1 : decide (0 ≤ a) = false := decide_eq_false h0
    clear ha
    go_enter Try.func10, Try.ntmps10
    go_wp2_with fail
    refine (alive_one _).mono ?_
    rintro e w1 ⟨rfl, hb1⟩
    have H1 := Aside0.mk hb1
    clear hb1
    go_wp2_with fail
    by_cases g0 : 0 ≤ b
    all_goals
      go_wp2_with fail
      refine (NA.out _).mono ?_
      rintro e w2 ⟨rfl, hb2⟩
      have H2 := Aside0.mk (below_step H1.out hb2)
      clear hb2
      go_wp2_with fail
      refine (NA.out _).mono ?_
      rintro e w3 ⟨rfl, hb3⟩
      go_wp2
      go_ret
      exact ⟨rfl, below_step H2.out hb3⟩
set_option maxHeartbeats 1000000 in
set_option maxRecDepth 100000 in
theorem names_half (a b : Int) (w : World) (ha : 0 ≤ a ∧ a < 14) (hb : ¬ (0 ≤ b ∧ b < 14)) : Calls Try.prog 10 #[.int .i64 a, .int .i64 b] w fun e w' => e = .returned (.bool true) ∧ Below w.heap.size w w' := by
  have hn1 : nameS a ≠ ⟨#[101, 114, 114, 111, 114]⟩ := by rw [nameS_in a ha]; exact (names_facts a.toNat (by omega)).1
  have hn1' : ¬ (nameS a).toList = [101, 114, 114, 111, 114] := by rw [nameS_in a ha]; exact (names_facts2 a.toNat (by omega)).1
  have hn2' : ¬ (nameS a).toList = [] := by rw [nameS_in a ha]; exact (names_facts2 a.toNat (by omega)).2
  have hn2 : nameS a ≠ ⟨#[]⟩ := by rw [nameS_in a ha]; exact (names_facts a.toNat (by omega)).2
  have na := name_calls a
  generalize nameS a = s at *
  have NA := Aside0.mk na
  clear na
  have m1 : decide (0 ≤ a) = true := decide_eq_true ha.1
  have m2 : decide (a ≤ 13) = true := decide_eq_true (by omega)
  have m3 : a ≤ 13 := by omega
  have m4 : 0 ≤ a := ha.1
  have z1 : (s.toList == [101, 114, 114, 111, 114]) = false := beq_eq_false_iff_ne.2 hn1'
  have z2 : s.toList.isEmpty = false := by
    rw [Bool.eq_false_iff]; intro h; exact hn2' (List.isEmpty_iff.1 h)
  have e1 := decide_eq_false hn1
  have e2 := decide_eq_false hn2
  clear ha
  by_cases h0 : 0 ≤ b
  · have m5 : decide (b ≤ 13) = false := decide_eq_false (by omega)
    have m6 : ¬ b ≤ 13 := by omega
    clear hb
    go_enter Try.func10, Try.ntmps10
    go_wp2_with fail
    refine (alive_one _).mono ?_
    rintro e w1 ⟨rfl, hb1⟩
    have H1 := Aside0.mk hb1
    clear hb1
    go_wp2_with fail
    refine (NA.out _).mono ?_
    rintro e w2 ⟨rfl, hb2⟩
    have H2 := Aside0.mk (below_step H1.out hb2)
    clear hb2
    go_wp2_with fail
    refine (NA.out _).mono ?_
    rintro e w3 ⟨rfl, hb3⟩
    go_wp2
    go_ret
    exact ⟨rfl, below_step H2.out hb3⟩
  · have m5 : decide (0 ≤ b) = false := decide_eq_false h0
    clear hb
    go_enter Try.func10, Try.ntmps10
    go_wp2_with fail
    refine (alive_one _).mono ?_
    rintro e w1 ⟨rfl, hb1⟩
    have H1 := Aside0.mk hb1
    clear hb1
    go_wp2_with fail
    refine (NA.out _).mono ?_
    rintro e w2 ⟨rfl, hb2⟩
    have H2 := Aside0.mk (below_step H1.out hb2)
    clear hb2
    go_wp2_with fail
    refine (NA.out _).mono ?_
    rintro e w3 ⟨rfl, hb3⟩
    go_wp2
    go_ret
    exact ⟨rfl, below_step H2.out hb3⟩
set_option maxHeartbeats 1000000 in
set_option maxRecDepth 100000 in
theorem names_both (a b : Int) (w : World) (ha : 0 ≤ a ∧ a < 14) (hb : 0 ≤ b ∧ b < 14) (hne : a ≠ b) : Calls Try.prog 10 #[.int .i64 a, .int .i64 b] w fun e w' => e = .returned (.bool true) ∧ Below w.heap.size w w' := by
  have hn1 : nameS a ≠ ⟨#[101, 114, 114, 111, 114]⟩ := by rw [nameS_in a ha]; exact (names_facts a.toNat (by omega)).1
  have hn1' : ¬ (nameS a).toList = [101, 114, 114, 111, 114] := by rw [nameS_in a ha]; exact (names_facts2 a.toNat (by omega)).1
  have hn2' : ¬ (nameS a).toList = [] := by rw [nameS_in a ha]; exact (names_facts2 a.toNat (by omega)).2
  have hn2 : nameS a ≠ ⟨#[]⟩ := by rw [nameS_in a ha]; exact (names_facts a.toNat (by omega)).2
  have hn3 : nameS a ≠ nameS b := by
    intro he
    rw [nameS_in a ha, nameS_in b hb] at he
    have := names_inj a.toNat (by omega) b.toNat (by omega) he
    omega
  have hab : (a == b) = false := beq_eq_false_iff_ne.2 hne
  have hn4 := decide_eq_false hn3
  have hn5 : ¬ (nameS a).toList = (nameS b).toList := by
    intro he
    rw [nameS_in a ha, nameS_in b hb] at he
    have := names_inj2 a.toNat (by omega) b.toNat (by omega) he
    omega
  have na := name_calls a
  have nb := name_calls b
  generalize nameS a = s at *
  generalize nameS b = t at *
  have NA := Aside0.mk na
  have NB := Aside0.mk nb
  clear na nb
  have m1 : decide (0 ≤ a) = true := decide_eq_true ha.1
  have m2 : decide (a ≤ 13) = true := decide_eq_true (by omega)
  have m3 : a ≤ 13 := by omega
  have m4 : 0 ≤ a := ha.1
  have m5 : decide (0 ≤ b) = true := decide_eq_true hb.1
  have m6 : decide (b ≤ 13) = true := decide_eq_true (by omega)
  have m7 : b ≤ 13 := by omega
  have m8 : 0 ≤ b := hb.1
  have z1 : (s.toList == [101, 114, 114, 111, 114]) = false := beq_eq_false_iff_ne.2 hn1'
  have z2 : s.toList.isEmpty = false := by
    rw [Bool.eq_false_iff]; intro h; exact hn2' (List.isEmpty_iff.1 h)
  have z3 : (s.toList == t.toList) = false := beq_eq_false_iff_ne.2 hn5
  have e1 := decide_eq_false hn1
  have e2 := decide_eq_false hn2
  clear ha hb hne
  go_enter Try.func10, Try.ntmps10
  go_wp2_with fail
  refine (alive_one _).mono ?_
  rintro e w1 ⟨rfl, hb1⟩
  have H1 := Aside0.mk hb1
  clear hb1
  go_wp2_with fail
  refine (NA.out _).mono ?_
  rintro e w2 ⟨rfl, hb2⟩
  have H2 := Aside0.mk (below_step H1.out hb2)
  clear hb2
  go_wp2_with fail
  refine (NA.out _).mono ?_
  rintro e w3 ⟨rfl, hb3⟩
  have H3 := Aside0.mk (below_step H2.out hb3)
  clear hb3
  go_wp2_with fail
  refine (NB.out _).mono ?_
  rintro e w4 ⟨rfl, hb4⟩
  have H4 := Aside0.mk (below_step H3.out hb4)
  clear hb4
  go_wp2_with fail
  refine (NA.out _).mono ?_
  rintro e w5 ⟨rfl, hb5⟩
  go_wp2
  go_ret
  exact ⟨rfl, below_step H4.out hb5⟩
set_option maxHeartbeats 1000000 in
set_option maxRecDepth 100000 in
theorem names_same (a : Int) (w : World) (ha : 0 ≤ a ∧ a < 14) : Calls Try.prog 10 #[.int .i64 a, .int .i64 a] w fun e w' => e = .returned (.bool true) ∧ Below w.heap.size w w' := by
  have hn1 : nameS a ≠ ⟨#[101, 114, 114, 111, 114]⟩ := by rw [nameS_in a ha]; exact (names_facts a.toNat (by omega)).1
  have hn1' : ¬ (nameS a).toList = [101, 114, 114, 111, 114] := by rw [nameS_in a ha]; exact (names_facts2 a.toNat (by omega)).1
  have hn2' : ¬ (nameS a).toList = [] := by rw [nameS_in a ha]; exact (names_facts2 a.toNat (by omega)).2
  have hn2 : nameS a ≠ ⟨#[]⟩ := by rw [nameS_in a ha]; exact (names_facts a.toNat (by omega)).2
  have na := name_calls a
  generalize nameS a = s at *
  have NA := Aside0.mk na
  clear na
  have m1 : decide (0 ≤ a) = true := decide_eq_true ha.1
  have m2 : decide (a ≤ 13) = true := decide_eq_true (by omega)
  have m3 : a ≤ 13 := by omega
  have m4 : 0 ≤ a := ha.1
  have z1 : (s.toList == [101, 114, 114, 111, 114]) = false := beq_eq_false_iff_ne.2 hn1'
  have z2 : s.toList.isEmpty = false := by
    rw [Bool.eq_false_iff]; intro h; exact hn2' (List.isEmpty_iff.1 h)
  have e1 := decide_eq_false hn1
  have e2 := decide_eq_false hn2
  clear ha
  go_enter Try.func10, Try.ntmps10
  go_wp2_with fail
  refine (alive_one _).mono ?_
  rintro e w1 ⟨rfl, hb1⟩
  have H1 := Aside0.mk hb1
  clear hb1
  go_wp2_with fail
  refine (NA.out _).mono ?_
  rintro e w2 ⟨rfl, hb2⟩
  have H2 := Aside0.mk (below_step H1.out hb2)
  clear hb2
  go_wp2_with fail
  refine (NA.out _).mono ?_
  rintro e w3 ⟨rfl, hb3⟩
  have H3 := Aside0.mk (below_step H2.out hb3)
  clear hb3
  go_wp2_with fail
  refine (NA.out _).mono ?_
  rintro e w4 ⟨rfl, hb4⟩
  have H4 := Aside0.mk (below_step H3.out hb4)
  clear hb4
  go_wp2_with fail
  refine (NA.out _).mono ?_
  rintro e w5 ⟨rfl, hb5⟩
  go_wp2
  go_ret
  exact ⟨rfl, below_step H4.out hb5⟩
theorem names_law (a b : Int) (w : World) (hwa : (Lit.int .i64 a).wf = true) (hwb : (Lit.int .i64 b).wf = true) : Calls Try.prog 10 #[.int .i64 a, .int .i64 b] w fun e w' => e = .returned (.bool true) ∧ Below w.heap.size w w' := by
  by_cases ha : 0 ≤ a ∧ a < 14
  · by_cases hb : 0 ≤ b ∧ b < 14
    · by_cases h : a = b
      · subst h; exact names_same a w ha
      · exact names_both a b w ha hb h
    · exact names_half a b w ha hb
  · exact names_out a b w ha
end Go.Proofs.Ytbnoeoghhbhhcaa
