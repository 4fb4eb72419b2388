/- Contracts: told, a dictionary made or not, the first call that the laws make. -/
import Derived.Test.YtboklkfplnmabaaGreatDictB

set_option linter.unusedVariables false
set_option linter.unusedSimpArgs false
namespace Go.Proofs.YtboklkfplnmabaaGreat
open Go.RowKit Go.Proofs.YtboklkfplnmabaaGreat.Spec Go.Proofs.YtboklkfplnmabaaGreatW.PrintWords Go.Proofs.YtboklkfplnmabaaGreatW.PrintLast
open Go.Proofs.YtboklkfplnmabaaGreatW.PrintMore
theorem eqFault (d : Nat) (w : World) (x0 y0 : Int) (x1 y1 : Int) :
    (Op.equalIn (d + 2) 189 (.agg #[.int .i64 x0, .int .i64 x1]) (.agg #[.int .i64 y0, .int .i64 y1])).run Tryz.prog w = .ok (x0 == y0 && (x1 == y1)) w := by
  refine eqA_of Tryz.underlying189 (by kernel_rfl) ?_
  refine eqf_cons (by rfl) (by go_simp; rfl) (by go_simp; rfl) (by go_simp) ?_
  exact eqf_last (by rfl) (by go_simp; rfl) (by go_simp; rfl) (by go_simp)
theorem run_eql_fault (x0 y0 x1 y1 : Int) (w : World) : (binOp .eql 189 (.agg #[.int .i64 x0, .int .i64 x1]) (.agg #[.int .i64 y0, .int .i64 y1])).run Tryz.prog w = .ok (.bool (x0 == y0 && (x1 == y1))) w := by
  simp only [binOp]
  simp [Op.equal, Op.maxDepth, eqFault 9998]

def toldB (c a code at_ : Int) : Bool := if code = 0 then c == 0 else (c != 0) && (c == code && a == at_)
/-! ### making one -/
theorem new_yes {A : Option Addr} {c : Nat} (l : List ByteArray) (w : World) (hr : StrsIn w A l) (hc : l.length ≤ c) (hsz : ∀ s ∈ l, s.size ≤ 140737488351232) (h : (phrases l).1 = 0) : Calls Tryz.prog 72 #[.slice A l.length c] w fun e w' => ∃ ad, e = .returned (.tuple #[.pointer (some ad), .nilIface]) ∧ DictAt w' (.pointer (some ad)) l ∧ Below w.heap.size w w' := by
  refine (new_calls l w hr hc hsz).mono ?_
  rintro e w' ⟨hb, h1 | h1⟩
  · obtain ⟨_, p, rfl, hd⟩ := h1
    obtain ⟨ad, v, base, rfl, hq⟩ := hd.out
    exact ⟨ad, rfl, hd, hb⟩
  · exact absurd h h1.1
theorem new_no {A : Option Addr} {c : Nat} (l : List ByteArray) (w : World) (hr : StrsIn w A l) (hc : l.length ≤ c) (hsz : ∀ s ∈ l, s.size ≤ 140737488351232) (h : (phrases l).1 ≠ 0) : Calls Tryz.prog 72 #[.slice A l.length c] w fun e w' => e = .returned (.tuple #[.pointer none, .iface 189 (.agg #[.int .i64 (phrases l).1, .int .i64 (phrases l).2])]) ∧ Below w.heap.size w w' := by
  refine (new_calls l w hr hc hsz).mono ?_
  rintro e w' ⟨hb, h1 | h1⟩
  · exact absurd h1.1 h
  · obtain ⟨_, rfl⟩ := h1
    rw [errV_some (by omega)]
    exact ⟨rfl, hb⟩
set_option maxHeartbeats 400000 in
theorem make_yes {A : Option Addr} {c : Nat} (l : List ByteArray) (w : World) (hr : StrsIn w A l) (hc : l.length ≤ c) (hsz : ∀ s ∈ l, s.size ≤ 140737488351232) (h : (phrases l).1 = 0) : Calls Tryz.prog 27 #[.slice A l.length c] w fun e w' => ∃ ad, e = .returned (.pointer (some ad)) ∧ DictAt w' (.pointer (some ad)) l ∧ Below w.heap.size w w' := by
  have HC := Aside0.mk hc
  have HR := Aside0.mk hr
  have H := Aside0.mk h
  clear hr h hc
  go_enter Tryz.func27, Tryz.ntmps27
  go_wp2_with (go_at_call 72; refine (new_yes l _ HR.out HC.out hsz H.out).mono ?_; rintro e w' ⟨ad, rfl, hd, hb⟩)
  go_ret
  exact ⟨ad, rfl, hd, hb⟩
set_option maxHeartbeats 400000 in
theorem make_no {A : Option Addr} {c : Nat} (l : List ByteArray) (w : World) (hr : StrsIn w A l) (hc : l.length ≤ c) (hsz : ∀ s ∈ l, s.size ≤ 140737488351232) (h : (phrases l).1 ≠ 0) : Calls Tryz.prog 27 #[.slice A l.length c] w fun e w' => e = .returned (.pointer none) ∧ Below w.heap.size w w' := by
  have HC := Aside0.mk hc
  have HR := Aside0.mk hr
  have H := Aside0.mk h
  clear hr h hc
  go_enter Tryz.func27, Tryz.ntmps27
  go_wp2_with (go_at_call 72; refine (new_no l _ HR.out HC.out hsz H.out).mono ?_; rintro e w' ⟨rfl, hb⟩)
  go_ret
  exact ⟨rfl, hb⟩
/-! ### alive -/
theorem strs_lit (w : World) (l : List ByteArray) (hm : l.length ≤ 1000) : StrsIn (w.alloc (.cells (l.map Value.string).toArray 9)) (some ⟨w.heap.size, 0, none⟩) l :=
  (Kd.R_reads' (Kd.R_of_own (h1 := fun _ => rfl) (ok := fun _ => True) (own_lit_of (enc := Value.string) w 0 9 l (Nat.zero_le _) (by omega)) (fun _ _ => trivial))).2.2
def la : List ByteArray := [⟨#[97, 98]⟩, ⟨#[99]⟩]
def lb : List ByteArray := [⟨#[97]⟩, ⟨#[97]⟩]
theorem la_ok : phrases la = (0, 0) := by decide +kernel
theorem lb_no : phrases lb = (5, 1) := by decide +kernel
theorem la_bytes : str (Spec.bytes la) = ⟨#[2, 2, 97, 98, 1, 99]⟩ := by
  have e : Spec.bytes la = [2, 2, 97, 98, 1, 99] := by
    simp [Spec.bytes, body, la, num_small, u, ByteArray.size]
  rw [e]; rfl
theorem la_small : ∀ s ∈ la, s.size < 1000000 := by decide +kernel
theorem lb_small : ∀ s ∈ lb, s.size < 1000000 := by decide +kernel
end Go.Proofs.YtboklkfplnmabaaGreat
