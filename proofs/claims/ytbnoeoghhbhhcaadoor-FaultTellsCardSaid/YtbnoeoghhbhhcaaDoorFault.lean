/- Contracts of package fault: New, Of, Must, Code, Name, Error (at below a hundred), chapter 1's first call. -/
import Derived.Test.YtbnoeoghhbhhcaaDoorLeaf1
import Derived.Test.YtbnoeoghhbhhcaaDoorShelf
import Derived.WalkSpells
import Derived.Deep.RegionHeld3
set_option linter.unusedVariables false
set_option linter.unusedSimpArgs false
namespace Go.Proofs.YtbnoeoghhbhhcaaDoor
open Go.RowKit Go.Proofs.YtbnoeoghhbhhcaaDoorW.PrintWords Go.Proofs.YtbnoeoghhbhhcaaDoorW.PrintLast
open Go.Proofs.YtbnoeoghhbhhcaaDoorW.PrintMore
/-! ### faults -/
/-- A fault as a value of type error. -/
def errV (c a : Int) : Value := if c = 0 then .nilIface else .iface 28 (.agg #[.int .i64 c, .int .i64 a])
theorem errV_zero (a : Int) : errV 0 a = .nilIface := rfl
theorem errV_some {c : Int} (h : c ≠ 0) (a : Int) : errV c a = .iface 28 (.agg #[.int .i64 c, .int .i64 a]) := if_neg h
set_option maxHeartbeats 400000 in
theorem fnew_some (c a : Int) (h : c ≠ 0) (w : World) : Calls Tryd.prog 6 #[.int .i64 c, .int .i64 a] w fun e w' => e = .returned (.iface 28 (.agg #[.int .i64 c, .int .i64 a])) ∧ w = w' := by
  have hb : (c == (0 : Int)) = false := beq_eq_false_iff_ne.2 h
  clear h
  go_enter Tryd.func6, Tryd.ntmps6
  go_wp2
  go_ret
  exact ⟨rfl, rfl⟩
theorem fnew_none (a : Int) (w : World) : Calls Tryd.prog 6 #[.int .i64 0, .int .i64 a] w fun e w' => e = .returned .nilIface ∧ w = w' := by
  go_enter Tryd.func6, Tryd.ntmps6
  go_wp2
  go_ret
  exact ⟨rfl, rfl⟩
theorem fnew_any (c a : Int) (w : World) : Calls Tryd.prog 6 #[.int .i64 c, .int .i64 a] w fun e w' => e = .returned (errV c a) ∧ w = w' := by
  by_cases h : c = 0
  · subst h; exact fnew_none a w
  · rw [errV_some h]; exact fnew_some c a h w
theorem ta_yes (v : Value) (w : World) : (Instr.typeAssert (.iface 28 v) 25 28 true).run Tryd.prog w = .ok (.tuple #[v, .bool true]) w := by
  simp [Instr.typeAssert, run_underlying Tryd.underlying28, go_sem, Result.andThen]
theorem ta_nil (w : World) : (Instr.typeAssert .nilIface 25 28 true).run Tryd.prog w = .ok (.tuple #[.agg #[.int .i64 0, .int .i64 0], .bool false]) w := by
  kernel_rfl
set_option maxHeartbeats 400000 in
set_option maxRecDepth 100000 in
theorem of_some (c a : Int) (w : World) : Calls Tryd.prog 7 #[.iface 28 (.agg #[.int .i64 c, .int .i64 a])] w fun e w' => e = .returned (.tuple #[.agg #[.int .i64 c, .int .i64 a], .bool true]) ∧ Below w.heap.size w w' := by
  have ta := ta_yes
  go_enter Tryd.func7, Tryd.ntmps7
  go_wp2
  exact bodyPost_ret (v := .tuple #[.agg #[.int .i64 c, .int .i64 a], .bool true]) (by simp [results, Tryd.results7, go_sem]) rfl ⟨rfl, by repeat (first | exact Below.refl _ _ | apply below_alloc | apply below_drew)⟩
set_option maxHeartbeats 400000 in
set_option maxRecDepth 100000 in
theorem of_nil (w : World) : Calls Tryd.prog 7 #[.nilIface] w fun e w' => e = .returned (.tuple #[.agg #[.int .i64 0, .int .i64 0], .bool false]) ∧ Below w.heap.size w w' := by
  have ta := ta_nil
  go_enter Tryd.func7, Tryd.ntmps7
  go_wp2
  exact bodyPost_ret (v := .tuple #[.agg #[.int .i64 0, .int .i64 0], .bool false]) (by simp [results, Tryd.results7, go_sem]) rfl ⟨rfl, by repeat (first | exact Below.refl _ _ | apply below_alloc | apply below_drew)⟩
theorem eqFault (d : Nat) (w : World) (x0 y0 : Int) (x1 y1 : Int) :
    (Op.equalIn (d + 2) 28 (.agg #[.int .i64 x0, .int .i64 x1]) (.agg #[.int .i64 y0, .int .i64 y1])).run Tryd.prog w = .ok (x0 == y0 && (x1 == y1)) w := by
  refine eqA_of Tryd.underlying28 (by kernel_rfl) ?_
  refine eqf_cons (by rfl) (by go_simp; rfl) (by go_simp; rfl) (by go_simp) ?_
  exact eqf_last (by rfl) (by go_simp; rfl) (by go_simp; rfl) (by go_simp)
theorem run_eql_fault (x0 y0 x1 y1 : Int) (w : World) : (binOp .eql 28 (.agg #[.int .i64 x0, .int .i64 x1]) (.agg #[.int .i64 y0, .int .i64 y1])).run Tryd.prog w = .ok (.bool (x0 == y0 && (x1 == y1))) w := by
  simp only [binOp]
  simp [Op.equal, Op.maxDepth, eqFault 9998]

def names : List ByteArray := [(⟨#[111, 107]⟩ : ByteArray), (⟨#[97, 114, 103]⟩ : ByteArray), (⟨#[109, 111, 114, 101]⟩ : ByteArray), (⟨#[102, 111, 114, 109]⟩ : ByteArray), (⟨#[114, 97, 110, 103, 101]⟩ : ByteArray), (⟨#[100, 105, 99, 116]⟩ : ByteArray), (⟨#[119, 114, 111, 110, 103]⟩ : ByteArray), (⟨#[115, 117, 109]⟩ : ByteArray), (⟨#[99, 111, 100, 101]⟩ : ByteArray), (⟨#[116, 111, 107, 101, 110]⟩ : ByteArray), (⟨#[115, 105, 122, 101]⟩ : ByteArray), (⟨#[115, 116, 97, 116, 101]⟩ : ByteArray), (⟨#[108, 101, 110, 103, 116, 104]⟩ : ByteArray), (⟨#[98, 101, 104, 105, 110, 100]⟩ : ByteArray)]
def nameS (c : Int) : ByteArray := if 0 ≤ c ∧ c < 14 then names.getD c.toNat ByteArray.empty else ⟨#[101, 114, 114, 111, 114]⟩
theorem name_f (c : Int) : Leaf.fault_Name.f c = some (nameS c) := by
  unfold Leaf.fault_Name.f nameS
  rw [Option.bind_some]
  by_cases h : 0 ≤ c ∧ c < 14
  · rw [if_pos h, if_neg (by omega), if_neg (by show ¬ c ≥ 14; omega), if_pos h.1, if_pos (by show c < 14; omega)]
    rfl
  · rw [if_neg h]
    by_cases h1 : c < 0
    · rw [if_pos h1]
    · rw [if_neg h1, if_pos (by show c ≥ 14; omega)]
theorem name_calls (c : Int) (w : World) : Calls Tryd.prog 11 #[.int .i64 c] w fun e w' => e = .returned (.string (nameS c)) ∧ Below w.heap.size w w' :=
  Leaf.fault_Name.calls c _ w (name_f c)
theorem names_small : ∀ s ∈ names, s.size ≤ 10 := by decide +kernel
theorem nameS_size (c : Int) : (nameS c).size ≤ 10 := by
  unfold nameS
  split
  · rw [List.getD_eq_getElem?_getD]
    cases h : names[c.toNat]? with
    | none => decide
    | some s => exact names_small s (List.mem_of_getElem? h)
  · decide
def smallS (a : Nat) : ByteArray := ⟨(Lib.decDigits a).toArray⟩
def faultS (c : Int) (a : Nat) : ByteArray := (nameS c ++ ⟨#[32, 97, 116, 32]⟩) ++ smallS a
theorem digits_small : ∀ a, a < 100 → (Lib.decDigits a).length ≤ 20 := by decide +kernel
set_option maxHeartbeats 1000000 in
set_option maxRecDepth 100000 in
theorem error_small (c : Int) (a : Nat) (ha : a < 100) (w : World) : Calls Tryd.prog 12 #[.agg #[.int .i64 c, .int .i64 (a : Int)]] w fun e w' => e = .returned (.string (faultS c a)) ∧ Below w.heap.size w w' := by
  have hn := nameS_size c
  have hd := digits_small a ha
  have hs : (smallS a).size = (Lib.decDigits a).length := rfl
  have q3 : ¬ 9223372036854775807 < (nameS c).size + 4 := by omega
  have q8 : ¬ 9223372036854775807 < (nameS c).size + 4 + (Lib.decDigits a).length := by omega
  clear hs
  go_enter Tryd.func12, Tryd.ntmps12
  go_wp2_with fail
  go_region_held3 (fun w' => w'.cell? ⟨w.heap.size, 0, none⟩ = some (.int .i64 c) ∧ w'.cell? ⟨w.heap.size, 1, none⟩ = some (.int .i64 (a : Int)))
    (first | go_keep | exact ⟨pw_cell_below hb (by simp), pw_cell_below hb (by simp)⟩ | exact ⟨pw_cell_below hb (by assumption), pw_cell_below hb (by assumption)⟩)
    (first | (go_at_call 11; refine (name_calls c _).mono ?_; rintro e w1 ⟨rfl, hb⟩) | (go_at_call 16; refine (Tryd.strconv_Itoa_small a ha _).mono ?_; rintro e w2 ⟨rfl, rfl⟩))
  go_wp2
  go_ret
  exact ⟨rfl, below_step (below_drew (below_alloc (Below.refl _ _) _)) hb⟩
theorem ta1_yes (v : Value) (w : World) : (Instr.typeAssert (.iface 28 v) 25 28 false).run Tryd.prog w = .ok v w := by
  simp [Instr.typeAssert, run_underlying Tryd.underlying28, go_sem, Result.andThen]
set_option maxHeartbeats 400000 in
set_option maxRecDepth 100000 in
theorem must_some (c a : Int) (w : World) : Calls Tryd.prog 15 #[.iface 28 (.agg #[.int .i64 c, .int .i64 a])] w fun e w' => e = .returned (.agg #[.int .i64 c, .int .i64 a]) ∧ Below w.heap.size w w' := by
  have ta := ta1_yes
  go_enter Tryd.func15, Tryd.ntmps15
  go_wp2
  exact bodyPost_ret (v := .agg #[.int .i64 c, .int .i64 a]) (by simp [results, Tryd.results15, go_sem]) rfl ⟨rfl, by repeat (first | exact Below.refl _ _ | apply below_alloc | apply below_drew)⟩
set_option maxHeartbeats 400000 in
set_option maxRecDepth 100000 in
theorem code_some (c a : Int) (w : World) : Calls Tryd.prog 13 #[.iface 28 (.agg #[.int .i64 c, .int .i64 a])] w fun e w' => e = .returned (.int .i64 c) ∧ Below w.heap.size w w' := by
  go_enter Tryd.func13, Tryd.ntmps13
  go_wp2_with fail
  refine (of_some c a _).mono ?_
  rintro e w1 ⟨rfl, hb1⟩
  go_wp2
  go_ret
  exact ⟨rfl, by repeat (first | exact hb1 | exact Below.refl _ _ | apply below_alloc | apply below_drew)⟩
theorem method_err247 (x y : Int) (w : World) : (method 247 28 (.agg #[.int .i64 x, .int .i64 y]) "Error").run Tryd.prog w = .ok (12, .agg #[.int .i64 x, .int .i64 y]) w := by kernel_rfl
theorem seven : faultS 7 7 = ⟨#[115, 117, 109, 32, 97, 116, 32, 55]⟩ := by decide +kernel
theorem name_dict : nameS 5 = ⟨#[100, 105, 99, 116]⟩ := by decide +kernel
set_option maxHeartbeats 1000000 in
set_option maxRecDepth 100000 in
theorem alive_one (w : World) : Calls Tryd.prog 5 #[] w fun e w' => e = .returned (.bool true) ∧ Below w.heap.size w w' := by
  have he := run_eql_fault
  have hm := method_err247
  go_enter Tryd.func5, Tryd.ntmps5
  go_wp2_with fail
  refine (fnew_some 7 7 (by decide) _).mono ?_
  rintro e w1 ⟨rfl, rfl⟩
  go_wp2_with fail
  refine (of_some 7 7 _).mono ?_
  rintro e w2 ⟨rfl, hb2⟩
  have H2 := Aside0.mk hb2
  clear hb2
  go_wp2_with fail
  refine (fnew_none 3 _).mono ?_
  rintro e w3 ⟨rfl, rfl⟩
  go_wp2_with fail
  have h7 := error_small 7 7 (by decide) (w2.alloc (.cells #[.int .i64 7, .int .i64 7] 28))
  rw [seven] at h7
  refine h7.mono ?_
  rintro e w4 ⟨rfl, hb4⟩
  have c0 := pw_cell_below hb4 (a := ⟨w2.heap.size, 0, none⟩) (v := .int .i64 7) (by simp)
  have c1 := pw_cell_below hb4 (a := ⟨w2.heap.size, 1, none⟩) (v := .int .i64 7) (by simp)
  have H4 := Aside0.mk (below_step (below_alloc H2.out _) hb4)
  clear hb4
  go_wp2_with fail
  refine (code_some 7 7 _).mono ?_
  rintro e w5 ⟨rfl, hb5⟩
  go_wp2_with fail
  have h5 := name_calls 5 w5
  rw [name_dict] at h5
  refine h5.mono ?_
  rintro e w6 ⟨rfl, hb6⟩
  go_wp2
  go_ret
  exact ⟨rfl, below_step (below_step H4.out hb5) hb6⟩
end Go.Proofs.YtbnoeoghhbhhcaaDoor
