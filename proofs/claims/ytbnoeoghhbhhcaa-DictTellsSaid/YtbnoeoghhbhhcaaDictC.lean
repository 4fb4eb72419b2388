/- Contracts: told, a dictionary made or not, the first call that the laws make. -/
import Derived.Test.YtbnoeoghhbhhcaaDictB

set_option linter.unusedVariables false
set_option linter.unusedSimpArgs false
namespace Go.Proofs.Ytbnoeoghhbhhcaa
open Go.RowKit Go.Proofs.Ytbnoeoghhbhhcaa.Spec Go.Proofs.YtbnoeoghhbhhcaaW.PrintWords Go.Proofs.YtbnoeoghhbhhcaaW.PrintLast
open Go.Proofs.YtbnoeoghhbhhcaaW.PrintMore
theorem eqFault (d : Nat) (w : World) (x0 y0 : Int) (x1 y1 : Int) :
    (Op.equalIn (d + 2) 33 (.agg #[.int .i64 x0, .int .i64 x1]) (.agg #[.int .i64 y0, .int .i64 y1])).run Try.prog w = .ok (x0 == y0 && (x1 == y1)) w := by
  refine eqA_of Try.underlying33 (by kernel_rfl) ?_
  refine eqf_cons (by rfl) (by go_simp; rfl) (by go_simp; rfl) (by go_simp) ?_
  exact eqf_last (by rfl) (by go_simp; rfl) (by go_simp; rfl) (by go_simp)
theorem run_eql_fault (x0 y0 x1 y1 : Int) (w : World) : (binOp .eql 33 (.agg #[.int .i64 x0, .int .i64 x1]) (.agg #[.int .i64 y0, .int .i64 y1])).run Try.prog w = .ok (.bool (x0 == y0 && (x1 == y1))) w := by
  simp only [binOp]
  simp [Op.equal, Op.maxDepth, eqFault 9998]

def toldB (c a code at_ : Int) : Bool := if code = 0 then c == 0 else (c != 0) && (c == code && a == at_)
set_option maxHeartbeats 1000000 in
set_option maxRecDepth 100000 in
theorem told_any (c a code at_ : Int) (w : World) : Calls Try.prog 26 #[errV c a, .int .i64 code, .int .i64 at_] w fun e w' => e = .returned (.bool (toldB c a code at_)) ∧ Below w.heap.size w w' := by
  have he := run_eql_fault
  by_cases h0 : code = 0
  · have h0b : (code == (0 : Int)) = true := beq_iff_eq.2 h0
    by_cases hc : c = 0
    · have e1 : toldB c a code at_ = true := by unfold toldB; rw [if_pos h0, hc]; rfl
      have e2 : errV c a = .nilIface := if_pos hc
      rw [e1, e2]
      clear e1 e2 hc
      clear h0
      go_enter Try.func26, Try.ntmps26
      go_wp2
      go_ret
      exact ⟨rfl, Below.refl _ _⟩
    · have e1 : toldB c a code at_ = false := by unfold toldB; rw [if_pos h0]; exact beq_eq_false_iff_ne.2 hc
      have e2 := errV_some hc a
      rw [e1, e2]
      clear e1 e2 hc
      clear h0
      go_enter Try.func26, Try.ntmps26
      go_wp2
      go_ret
      exact ⟨rfl, Below.refl _ _⟩
  · have h0b : (code == (0 : Int)) = false := beq_eq_false_iff_ne.2 h0
    by_cases hc : c = 0
    · have e1 : toldB c a code at_ = false := by unfold toldB; rw [if_neg h0, hc]; rfl
      have e2 : errV c a = .nilIface := if_pos hc
      rw [e1, e2]
      clear e1 e2 hc
      clear h0
      go_enter Try.func26, Try.ntmps26
      go_wp2_with (go_at_call 15; refine (of_nil _).mono ?_; rintro e w1 ⟨rfl, hb⟩)
      repeat (go_quiet (fail); try go_wp2)
      go_ret
      exact ⟨rfl, by repeat (first | exact hb | apply below_alloc | apply below_drew | apply pw_below_drewN)⟩
    · have e1 : toldB c a code at_ = (c == code && a == at_) := by unfold toldB; rw [if_neg h0]; have : (c != 0) = true := bne_iff_ne.2 hc; rw [this]; rfl
      have e2 := errV_some hc a
      rw [e1, e2]
      clear e1 e2 hc
      clear h0
      go_enter Try.func26, Try.ntmps26
      go_wp2_with (go_at_call 15; refine (of_some c a _).mono ?_; rintro e w1 ⟨rfl, hb⟩)
      repeat (go_quiet (fail); try go_wp2)
      go_ret
      exact ⟨rfl, by repeat (first | exact hb | apply below_alloc | apply below_drew | apply pw_below_drewN)⟩

/-! ### making one -/
theorem new_yes {A : Option Addr} {c : Nat} (l : List ByteArray) (w : World) (hr : StrsIn w A l) (hc : l.length ≤ c) (hsz : ∀ s ∈ l, s.size ≤ 140737488351232) (h : (phrases l).1 = 0) : Calls Try.prog 14 #[.slice A l.length c] w fun e w' => ∃ ad, e = .returned (.tuple #[.pointer (some ad), .nilIface]) ∧ DictAt w' (.pointer (some ad)) l ∧ Below w.heap.size w w' := by
  refine (new_calls l w hr hc hsz).mono ?_
  rintro e w' ⟨hb, h1 | h1⟩
  · obtain ⟨_, p, rfl, hd⟩ := h1
    obtain ⟨ad, v, base, rfl, hq⟩ := hd.out
    exact ⟨ad, rfl, hd, hb⟩
  · exact absurd h h1.1
theorem new_no {A : Option Addr} {c : Nat} (l : List ByteArray) (w : World) (hr : StrsIn w A l) (hc : l.length ≤ c) (hsz : ∀ s ∈ l, s.size ≤ 140737488351232) (h : (phrases l).1 ≠ 0) : Calls Try.prog 14 #[.slice A l.length c] w fun e w' => e = .returned (.tuple #[.pointer none, .iface 33 (.agg #[.int .i64 (phrases l).1, .int .i64 (phrases l).2])]) ∧ Below w.heap.size w w' := by
  refine (new_calls l w hr hc hsz).mono ?_
  rintro e w' ⟨hb, h1 | h1⟩
  · exact absurd h1.1 h
  · obtain ⟨_, rfl⟩ := h1
    rw [errV_some (by omega)]
    exact ⟨rfl, hb⟩
set_option maxHeartbeats 400000 in
theorem make_yes {A : Option Addr} {c : Nat} (l : List ByteArray) (w : World) (hr : StrsIn w A l) (hc : l.length ≤ c) (hsz : ∀ s ∈ l, s.size ≤ 140737488351232) (h : (phrases l).1 = 0) : Calls Try.prog 17 #[.slice A l.length c] w fun e w' => ∃ ad, e = .returned (.pointer (some ad)) ∧ DictAt w' (.pointer (some ad)) l ∧ Below w.heap.size w w' := by
  have HC := Aside0.mk hc
  have HR := Aside0.mk hr
  have H := Aside0.mk h
  clear hr h hc
  go_enter Try.func17, Try.ntmps17
  go_wp2_with (go_at_call 14; refine (new_yes l _ HR.out HC.out hsz H.out).mono ?_; rintro e w' ⟨ad, rfl, hd, hb⟩)
  go_ret
  exact ⟨ad, rfl, hd, hb⟩
set_option maxHeartbeats 400000 in
theorem make_no {A : Option Addr} {c : Nat} (l : List ByteArray) (w : World) (hr : StrsIn w A l) (hc : l.length ≤ c) (hsz : ∀ s ∈ l, s.size ≤ 140737488351232) (h : (phrases l).1 ≠ 0) : Calls Try.prog 17 #[.slice A l.length c] w fun e w' => e = .returned (.pointer none) ∧ Below w.heap.size w w' := by
  have HC := Aside0.mk hc
  have HR := Aside0.mk hr
  have H := Aside0.mk h
  clear hr h hc
  go_enter Try.func17, Try.ntmps17
  go_wp2_with (go_at_call 14; refine (new_no l _ HR.out HC.out hsz H.out).mono ?_; rintro e w' ⟨rfl, hb⟩)
  go_ret
  exact ⟨rfl, hb⟩
/-! ### alive -/
theorem strs_lit (w : World) (l : List ByteArray) (hm : l.length ≤ 1000) : StrsIn (w.alloc (.cells (l.map Value.string).toArray 9)) (some ⟨w.heap.size, 0, none⟩) l :=
  (Kd.R_reads' (Kd.R_of_own (h1 := fun _ => rfl) (ok := fun _ => True) (own_lit_of (enc := Value.string) w 0 9 l (Nat.zero_le _) (by omega)) (fun _ _ => trivial))).2.2
def la : List ByteArray := [⟨#[97, 98]⟩, ⟨#[99]⟩]
def lb : List ByteArray := [⟨#[97]⟩, ⟨#[97]⟩]
theorem la_ok : phrases la = (0, 0) := by decide +kernel
theorem lb_no : phrases lb = (5, 1) := by decide +kernel
theorem la_bytes : str (Spec.bytes la) = ⟨#[2, 2, 97, 98, 1, 99]⟩ := by
  have e : Spec.bytes la = [2, 2, 97, 98, 1, 99] := by
    simp [Spec.bytes, body, la, num_small, u, ByteArray.size]
  rw [e]; rfl
theorem la_small : ∀ s ∈ la, s.size < 1000000 := by decide +kernel
theorem lb_small : ∀ s ∈ lb, s.size < 1000000 := by decide +kernel
set_option maxHeartbeats 1000000 in
set_option maxRecDepth 100000 in
theorem alive_any (w : World) : Calls Try.prog 13 #[] w fun e w' => e = .returned (.bool true) ∧ Below w.heap.size w w' := by
  have he := run_eql_fault
  have HA : ∀ W : World, Calls Try.prog 14 #[.slice (some ⟨W.heap.size, 0, none⟩) 2 2] (W.alloc (.cells #[.string ⟨#[97, 98]⟩, .string ⟨#[99]⟩] 9)) fun e w' => ∃ ad, e = .returned (.tuple #[.pointer (some ad), .nilIface]) ∧ Aside0 (DictAt w' (.pointer (some ad)) la) ∧ Below W.heap.size W w' := by
    intro W
    refine (new_yes la _ (strs_lit W la (by decide)) (Nat.le_refl _) (fun s hs => by have := la_small s hs; omega) (by rw [la_ok])).mono ?_
    rintro e w' ⟨ad, rfl, hd, hb⟩
    exact ⟨ad, rfl, ⟨hd⟩, below_step ((Below.refl _ _).alloc (Nat.le_refl _) _) hb⟩
  have HB : ∀ W : World, Calls Try.prog 14 #[.slice (some ⟨W.heap.size, 0, none⟩) 2 2] (W.alloc (.cells #[.string ⟨#[97]⟩, .string ⟨#[97]⟩] 9)) fun e w' => e = .returned (.tuple #[.pointer none, .iface 33 (.agg #[.int .i64 5, .int .i64 1])]) ∧ Below W.heap.size W w' := by
    intro W
    have := new_no lb _ (strs_lit W lb (by decide)) (Nat.le_refl _) (fun s hs => by have := lb_small s hs; omega) (by rw [lb_no]; decide)
    rw [lb_no] at this
    refine this.mono ?_
    rintro e w' ⟨rfl, hb⟩
    exact ⟨rfl, below_step ((Below.refl _ _).alloc (Nat.le_refl _) _) hb⟩
  have HA' := Aside0.mk HA
  have HB' := Aside0.mk HB
  clear HA HB
  go_enter Try.func13, Try.ntmps13
  go_wp2_with fail
  refine (HA'.out _).mono ?_
  rintro e w1 ⟨ad, rfl, HD, hb1⟩
  have H1 := Aside0.mk hb1
  clear hb1
  go_wp2_with fail
  refine (HB'.out _).mono ?_
  rintro e w2 ⟨rfl, hb2⟩
  have HD2 := Aside0.mk (HD.out.below hb2)
  have H2 := Aside0.mk (below_step H1.out hb2)
  clear hb2
  go_wp2_with fail
  refine (of_some _ _ _).mono ?_
  rintro e w3 ⟨rfl, hb3⟩
  have HD3 := Aside0.mk (HD2.out.below hb3)
  have H3 := Aside0.mk (below_step H2.out hb3)
  clear hb3
  go_wp2_with fail
  refine (len_any (l := la) (HD3.out.below (by repeat (first | exact Below.refl _ _ | apply below_alloc | apply below_drew | apply pw_below_drewN))) (by decide)).mono ?_
  rintro e w4 ⟨rfl, hb4⟩
  have c0 := Aside0.mk (pw_cell_below hb4 (a := ⟨w3.heap.size, 0, none⟩) (v := .int .i64 5) (by simp))
  have c1 := Aside0.mk (pw_cell_below hb4 (a := ⟨w3.heap.size, 1, none⟩) (v := .int .i64 1) (by simp))
  have hb4' := below_step (below_alloc (Below.refl w3.heap.size w3) _) hb4
  have HD4 := Aside0.mk (HD3.out.below hb4')
  have H4 := Aside0.mk (below_step H3.out hb4')
  clear hb4 hb4'
  rw [show ((la.length : Nat) : Int) = 2 from rfl]
  go_wp2_with fail
  refine (bytes_any (l := la) HD4.out (by decide) la_small).mono ?_
  rw [la_bytes]
  rintro e w5 ⟨rfl, hb5⟩
  have d0 := pw_cell_below hb5 c0.out
  have d1 := pw_cell_below hb5 c1.out
  go_wp2
  go_ret
  exact ⟨rfl, below_step H4.out hb5⟩
end Go.Proofs.Ytbnoeoghhbhhcaa
