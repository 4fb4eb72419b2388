/- ShY: a part of its proof (contracts of the functions that it reaches, and the plain mathematics behind them). -/
import Derived.Test.YtepgkimlmoikmaaGreatShY34
import Derived.BigRegion
set_option linter.unusedVariables false
set_option linter.unusedSimpArgs false
set_option maxHeartbeats 2000000
set_option maxRecDepth 100000
set_option linter.unusedVariables false
set_option linter.unusedSimpArgs false
namespace Go.Proofs.YtepgkimlmoikmaaGreat
open Go.RowKit Go.Proofs.YtepgkimlmoikmaaGreat.Spec Go.Proofs.YtepgkimlmoikmaaGreatW.PrintWords Go.Proofs.YtepgkimlmoikmaaGreatW.PrintLast
open Go.Proofs.YtepgkimlmoikmaaGreatW.PrintMore
attribute [local go_sem ↓] Go.wp_at_zero Go.wp_at_succ
attribute [local go_sem] max2_int min2_int max_two min_two
theorem name_out (c : Int) (hc : c < 0 ∨ 14 ≤ c) (w : World) : Calls Tryz.prog 250 #[.int .i64 c] w fun e w' => e = .returned (.string ⟨#[101, 114, 114, 111, 114]⟩) ∧ Below w.heap.size w w' := by
 rcases hc with h | h
 ·have d1 : decide (c < 0) = true := decide_eq_true h
  go_enter Tryz.func250, Tryz.ntmps250
  go_wp2
  go_ret
  exact ⟨rfl, (Below.refl _ _).alloc (Nat.le_refl _) _⟩
 ·have d1 : decide (c < 0) = false := decide_eq_false (by omega)
  have d2 : decide (14 ≤ c) = true := decide_eq_true h
  go_enter Tryz.func250, Tryz.ntmps250
  go_wp2
  go_ret
  exact ⟨rfl, (Below.refl _ _).alloc (Nat.le_refl _) _⟩
def names : List ByteArray := [(⟨#[111, 107]⟩ : ByteArray), (⟨#[97, 114, 103]⟩ : ByteArray), (⟨#[109, 111, 114, 101]⟩ : ByteArray), (⟨#[102, 111, 114, 109]⟩ : ByteArray), (⟨#[114, 97, 110, 103, 101]⟩ : ByteArray), (⟨#[100, 105, 99, 116]⟩ : ByteArray), (⟨#[119, 114, 111, 110, 103]⟩ : ByteArray), (⟨#[115, 117, 109]⟩ : ByteArray), (⟨#[99, 111, 100, 101]⟩ : ByteArray), (⟨#[116, 111, 107, 101, 110]⟩ : ByteArray), (⟨#[115, 105, 122, 101]⟩ : ByteArray), (⟨#[115, 116, 97, 116, 101]⟩ : ByteArray), (⟨#[108, 101, 110, 103, 116, 104]⟩ : ByteArray), (⟨#[98, 101, 104, 105, 110, 100]⟩ : ByteArray)]
def nameS (c : Int) : ByteArray := if 0 ≤ c ∧ c < 14 then names.getD c.toNat ByteArray.empty else ⟨#[101, 114, 114, 111, 114]⟩
theorem names_small : ∀ s ∈ names, s.size ≤ 10 := by decide +kernel
theorem nameS_size (c : Int) : (nameS c).size ≤ 10 := by
 unfold nameS
 split
 ·rw [List.getD_eq_getElem?_getD]
  cases h : names[c.toNat]? with
  | none => decide
  | some s => exact names_small s (List.mem_of_getElem? h)
 ·decide
theorem name_in (c : Nat) (hc : c < 14) (w : World) : Calls Tryz.prog 250 #[.int .i64 (c : Int)] w fun e w' => e = .returned (.string (nameS c)) ∧ Below w.heap.size w w' := by
 have d1 : decide ((c : Int) < 0) = false := decide_eq_false (by omega)
 have d2 : decide (14 ≤ (c : Int)) = false := decide_eq_false (by omega)
 rcases (show c = 0 ∨ c = 1 ∨ c = 2 ∨ c = 3 ∨ c = 4 ∨ c = 5 ∨ c = 6 ∨ c = 7 ∨ c = 8 ∨ c = 9 ∨ c = 10 ∨ c = 11 ∨ c = 12 ∨ c = 13 by omega) with rfl | rfl | rfl | rfl | rfl | rfl | rfl | rfl | rfl | rfl | rfl | rfl | rfl | rfl
 all_goals (
  clear hc d1 d2
  go_enter Tryz.func250, Tryz.ntmps250
  go_wp2
  go_ret
  exact ⟨rfl, (Below.refl _ _).alloc (Nat.le_refl _) _⟩)
theorem name_calls (c : Int) (w : World) : Calls Tryz.prog 250 #[.int .i64 c] w fun e w' => e = .returned (.string (nameS c)) ∧ Below w.heap.size w w' := by
 by_cases h : 0 ≤ c ∧ c < 14
 ·obtain ⟨n, rfl⟩ := Int.eq_ofNat_of_zero_le h.1
  exact name_in n (by omega) w
 ·have : nameS c = ⟨#[101, 114, 114, 111, 114]⟩ := if_neg h
  rw [this]
  exact name_out c (by omega) w
end Go.Proofs.YtepgkimlmoikmaaGreat
