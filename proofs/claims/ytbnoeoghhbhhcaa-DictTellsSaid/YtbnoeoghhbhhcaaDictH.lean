/- Contracts: a fault's name and its words (at a place below a hundred). -/
import Derived.Test.YtbnoeoghhbhhcaaDictG
import Derived.Deep.RegionHeld3
set_option linter.unusedVariables false
set_option linter.unusedSimpArgs false
namespace Go.Proofs.Ytbnoeoghhbhhcaa
open Go.RowKit Go.Proofs.Ytbnoeoghhbhhcaa.Spec Go.Proofs.YtbnoeoghhbhhcaaW.PrintWords Go.Proofs.YtbnoeoghhbhhcaaW.PrintLast
open Go.Proofs.YtbnoeoghhbhhcaaW.PrintMore
attribute [local go_sem ↓] Go.wp_at_zero Go.wp_at_succ
def names : List ByteArray := [(⟨#[111, 107]⟩ : ByteArray), (⟨#[97, 114, 103]⟩ : ByteArray), (⟨#[109, 111, 114, 101]⟩ : ByteArray), (⟨#[102, 111, 114, 109]⟩ : ByteArray), (⟨#[114, 97, 110, 103, 101]⟩ : ByteArray), (⟨#[100, 105, 99, 116]⟩ : ByteArray), (⟨#[119, 114, 111, 110, 103]⟩ : ByteArray), (⟨#[115, 117, 109]⟩ : ByteArray), (⟨#[99, 111, 100, 101]⟩ : ByteArray), (⟨#[116, 111, 107, 101, 110]⟩ : ByteArray), (⟨#[115, 105, 122, 101]⟩ : ByteArray), (⟨#[115, 116, 97, 116, 101]⟩ : ByteArray), (⟨#[108, 101, 110, 103, 116, 104]⟩ : ByteArray), (⟨#[98, 101, 104, 105, 110, 100]⟩ : ByteArray)]
def nameS (c : Int) : ByteArray := if 0 ≤ c ∧ c < 14 then names.getD c.toNat ByteArray.empty else ⟨#[101, 114, 114, 111, 114]⟩
theorem name_f (c : Int) : Leaf.fault_Name.f c = some (nameS c) := by
  unfold Leaf.fault_Name.f nameS
  rw [Option.bind_some]
  by_cases h : 0 ≤ c ∧ c < 14
  · rw [if_pos h, if_neg (by omega), if_neg (by show ¬ c ≥ 14; omega), if_pos h.1, if_pos (by show c < 14; omega)]
    rfl
  · rw [if_neg h]
    by_cases h1 : c < 0
    · rw [if_pos h1]
    · rw [if_neg h1, if_pos (by show c ≥ 14; omega)]
theorem name_calls (c : Int) (w : World) : Calls Try.prog 37 #[.int .i64 c] w fun e w' => e = .returned (.string (nameS c)) ∧ Below w.heap.size w w' :=
  Leaf.fault_Name.calls c _ w (name_f c)
theorem names_small : ∀ s ∈ names, s.size ≤ 10 := by decide +kernel
theorem nameS_size (c : Int) : (nameS c).size ≤ 10 := by
  unfold nameS
  split
  · rw [List.getD_eq_getElem?_getD]
    cases h : names[c.toNat]? with
    | none => decide
    | some s => exact names_small s (List.mem_of_getElem? h)
  · decide
def smallS (a : Nat) : ByteArray := ⟨(Lib.decDigits a).toArray⟩
def faultS (c : Int) (a : Nat) : ByteArray := (nameS c ++ ⟨#[32, 97, 116, 32]⟩) ++ smallS a
theorem digits_small : ∀ a, a < 100 → (Lib.decDigits a).length ≤ 20 := by decide +kernel
set_option maxHeartbeats 1000000 in
set_option maxRecDepth 100000 in
theorem error_small (c : Int) (a : Nat) (ha : a < 100) (w : World) : Calls Try.prog 100 #[.agg #[.int .i64 c, .int .i64 (a : Int)]] w fun e w' => e = .returned (.string (faultS c a)) ∧ Below w.heap.size w w' := by
  have hn := nameS_size c
  have hd := digits_small a ha
  have hs : (smallS a).size = (Lib.decDigits a).length := rfl
  have q3 : ¬ 9223372036854775807 < (nameS c).size + 4 := by omega
  have q8 : ¬ 9223372036854775807 < (nameS c).size + 4 + (Lib.decDigits a).length := by omega
  clear hs
  go_enter Try.func100, Try.ntmps100
  go_wp2_with fail
  go_region_held3 (fun w' => w'.cell? ⟨w.heap.size, 0, none⟩ = some (.int .i64 c) ∧ w'.cell? ⟨w.heap.size, 1, none⟩ = some (.int .i64 (a : Int)))
    (first | go_keep | exact ⟨pw_cell_below hb (by simp), pw_cell_below hb (by simp)⟩ | exact ⟨pw_cell_below hb (by assumption), pw_cell_below hb (by assumption)⟩)
    (first | (go_at_call 37; refine (name_calls c _).mono ?_; rintro e w1 ⟨rfl, hb⟩) | (go_at_call 101; refine (Try.strconv_Itoa_small a ha _).mono ?_; rintro e w2 ⟨rfl, rfl⟩))
  go_wp2
  go_ret
  exact ⟨rfl, below_step (below_drew (below_alloc (Below.refl _ _) _)) hb⟩
end Go.Proofs.Ytbnoeoghhbhhcaa
