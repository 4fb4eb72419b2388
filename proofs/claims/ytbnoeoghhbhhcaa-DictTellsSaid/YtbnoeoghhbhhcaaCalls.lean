/- Contracts of the leaf functions: what each call returns, in the words of the plain mathematics. -/
import Derived.Test.YtbnoeoghhbhhcaaBridgeB
import Derived.Test.YtbnoeoghhbhhcaaShelf
import Derived.WalkSpells
set_option linter.unusedVariables false
set_option linter.unusedSimpArgs false
namespace Go.Proofs.Ytbnoeoghhbhhcaa
open Go.RowKit Go.Proofs.Ytbnoeoghhbhhcaa.Spec Go.Proofs.YtbnoeoghhbhhcaaW.PrintWords Go.Proofs.YtbnoeoghhbhhcaaW.PrintLast

/-! ### leaves -/
abbrev StrsIn (w : World) (A : Option Addr) (l : List ByteArray) : Prop := Kd.C Kd.string w A l.length l
theorem putS_pair (n : Int) : Bridge.putS n = ((Bridge.putS n).1, (Bridge.putS n).2) := rfl
theorem vput_calls (n : Int) (w : World) : Calls Try.prog 43 #[.int .i64 n] w fun e w' => e = .returned (.tuple #[.string (Bridge.putS n).1, .bool (Bridge.putS n).2]) ∧ Below w.heap.size w w' := by
  obtain ⟨k, hk⟩ := (Bridge.put_ev n).rounds
  exact Leaf.vari_Put.calls k n _ _ w hk
theorem vput_nat {n : Nat} (h : n < 4294967296) (w : World) : Calls Try.prog 43 #[.int .i64 (n : Int)] w fun e w' => e = .returned (.tuple #[.string (str (num n)), .bool true]) ∧ Below w.heap.size w w' := by
  have := vput_calls (n : Int) w
  rw [Bridge.putS_nat h] at this
  exact this
theorem vget_calls (b : ByteArray) (hb : b.size ≤ 140737488351232) (w : World) : Calls Try.prog 74 #[.string b] w fun e w' => e = .returned (.tuple #[.int .i64 (un 0 0 (u b)).1, .int .i64 (un 0 0 (u b)).2.1, .int .i64 (un 0 0 (u b)).2.2]) ∧ Drawn0 w w' := by
  obtain ⟨k, hk⟩ := (Bridge.get_ev b hb).rounds
  exact Leaf.vari_Get.calls k b _ _ _ w hk
theorem contains_calls {A : Option Addr} {c : Nat} (l : List ByteArray) (s : ByteArray) {w : World} (hr : StrsIn w A l) (hc : l.length ≤ c) (hl : l.length ≤ 140737488351232) : Calls Try.prog 40 #[.slice A l.length c, .string s] w fun e w' => e = .returned (.bool (decide (s ∈ l))) ∧ Drawn0 w w' := by
  obtain ⟨k, hk⟩ := (Bridge.contains_ev l s hl).rounds
  exact Leaf.slices_Contains_string_string.calls k A c l s _ w hr hc hk
theorem index_calls {A : Option Addr} {c : Nat} (l : List ByteArray) (s : ByteArray) {w : World} (hr : StrsIn w A l) (hc : l.length ≤ c) (hl : l.length ≤ 140737488351232) : Calls Try.prog 42 #[.slice A l.length c, .string s] w fun e w' => e = .returned (.int .i64 (Bridge.fndI s l)) ∧ Drawn0 w w' := by
  obtain ⟨k, hk⟩ := (Bridge.index_ev l s hl).rounds
  exact Leaf.slices_Index_string_string.calls k A c l s _ w hr hc hk
theorem few_calls {A : Option Addr} {c : Nat} (l : List ByteArray) {w : World} (hr : StrsIn w A l) (hc : l.length ≤ c) (hl : l.length ≤ 140737488351232) (hsz : ∀ s ∈ l, s.size ≤ 140737488351232) : Calls Try.prog 16 #[.slice A l.length c] w fun e w' => e = .returned (.bool (Bridge.few l)) ∧ Drawn0 w w' := by
  obtain ⟨k, hk⟩ := (Bridge.few_ev l hl hsz).rounds
  exact Leaf.lexiphanelaw6_Few.calls k A c l _ w hr hc hk
theorem texts_calls {A A' : Option Addr} {c c' : Nat} (l l' : List ByteArray) {w : World} (hr : StrsIn w A l) (hc : l.length ≤ c) (hr' : StrsIn w A' l') (hc' : l'.length ≤ c') (hl : l.length ≤ 140737488351232) : Calls Try.prog 27 #[.slice A l.length c, .slice A' l'.length c'] w fun e w' => e = .returned (.bool (decide (l = l'))) ∧ Drawn0 w w' := by
  obtain ⟨k, hk⟩ := (Bridge.texts_ev l l' hl).rounds
  exact Leaf.lexiphanebook_SameTexts.calls k A c l A' c' l' _ w hr hc hr' hc' hk
theorem rphrases_calls {A : Option Addr} {c : Nat} (l : List ByteArray) {w : World} (hr : StrsIn w A l) (hc : l.length ≤ c) (hsz : ∀ s ∈ l, s.size ≤ 140737488351232) : Calls Try.prog 29 #[.slice A l.length c] w fun e w' => e = .returned (.tuple #[.int .i64 (phrases l).1, .int .i64 (phrases l).2]) ∧ Drawn0 w w' := by
  obtain ⟨k, hk⟩ := (Bridge.phrases_ev l hsz).rounds
  exact Leaf.lexiphaneref1_Phrases.calls k A c l _ _ w hr hc hk
theorem rfind_calls {A : Option Addr} {c : Nat} (l : List ByteArray) (s : ByteArray) {w : World} (hr : StrsIn w A l) (hc : l.length ≤ c) (hl : l.length ≤ 140737488351232) : Calls Try.prog 31 #[.slice A l.length c, .string s] w fun e w' => e = .returned (.int .i64 (Bridge.fndI s l)) ∧ Drawn0 w w' := by
  obtain ⟨k, hk⟩ := (Bridge.find_ev l s hl).rounds
  exact Leaf.lexiphaneref1_Find.calls k A c l s _ w hr hc hk
theorem rbytes_calls {A : Option Addr} {c : Nat} (l : List ByteArray) {w : World} (hr : StrsIn w A l) (hc : l.length ≤ c) (hl : l.length ≤ 1000) (hsz : ∀ s ∈ l, s.size < 4294967296) : Calls Try.prog 33 #[.slice A l.length c] w fun e w' => e = .returned (.string (str (Spec.bytes l))) ∧ Below w.heap.size w w' := by
  obtain ⟨k, hk⟩ := (Bridge.bytes_ev l hl hsz).rounds
  exact Leaf.lexiphaneref1_Bytes.calls k A c l _ w hr hc hk
theorem rfnv_calls (b : ByteArray) (hb : b.size ≤ 140737488351232) (w : World) : Calls Try.prog 34 #[.string b] w fun e w' => e = .returned (.int .u64 (Bridge.fnv (u b))) ∧ Drawn0 w w' := by
  obtain ⟨k, hk⟩ := (Bridge.fnv_ev b hb).rounds
  exact Leaf.lexiphaneref1_Fnv.calls k b _ w hk
theorem sclone_calls (s : ByteArray) (w : World) (hs : s.size ≤ 281474976710656) : Calls Try.prog 41 #[.string s] w fun e w' => e = .returned (.string s) ∧ Below w.heap.size w w' := by
  go_enter Try.func41, Try.ntmps41
  go_wp2_with (go_at_call 71; refine (Try.stringslite_Clone s _ hs).mono ?_; rintro e w' ⟨rfl, hb⟩)
  go_ret
  exact ⟨rfl, hb⟩

/-! ### faults -/
/-- A fault as a value of type error. -/
def errV (c a : Int) : Value := if c = 0 then .nilIface else .iface 33 (.agg #[.int .i64 c, .int .i64 a])
theorem errV_zero (a : Int) : errV 0 a = .nilIface := rfl
theorem errV_some {c : Int} (h : c ≠ 0) (a : Int) : errV c a = .iface 33 (.agg #[.int .i64 c, .int .i64 a]) := if_neg h
set_option maxHeartbeats 400000 in
theorem fnew_some (c a : Int) (h : c ≠ 0) (w : World) : Calls Try.prog 38 #[.int .i64 c, .int .i64 a] w fun e w' => e = .returned (.iface 33 (.agg #[.int .i64 c, .int .i64 a])) ∧ w = w' := by
  have hb : (c == (0 : Int)) = false := beq_eq_false_iff_ne.2 h
  clear h
  go_enter Try.func38, Try.ntmps38
  go_wp2
  go_ret
  exact ⟨rfl, rfl⟩
theorem fnew_none (a : Int) (w : World) : Calls Try.prog 38 #[.int .i64 0, .int .i64 a] w fun e w' => e = .returned .nilIface ∧ w = w' := by
  go_enter Try.func38, Try.ntmps38
  go_wp2
  go_ret
  exact ⟨rfl, rfl⟩
theorem fnew_any (c a : Int) (w : World) : Calls Try.prog 38 #[.int .i64 c, .int .i64 a] w fun e w' => e = .returned (errV c a) ∧ w = w' := by
  by_cases h : c = 0
  · subst h; exact fnew_none a w
  · rw [errV_some h]; exact fnew_some c a h w
theorem ta_yes (v : Value) (w : World) : (Instr.typeAssert (.iface 33 v) 28 33 true).run Try.prog w = .ok (.tuple #[v, .bool true]) w := by
  simp [Instr.typeAssert, run_underlying Try.underlying33, go_sem, Result.andThen]
theorem ta_nil (w : World) : (Instr.typeAssert .nilIface 28 33 true).run Try.prog w = .ok (.tuple #[.agg #[.int .i64 0, .int .i64 0], .bool false]) w := by
  kernel_rfl
set_option maxHeartbeats 400000 in
set_option maxRecDepth 100000 in
theorem of_some (c a : Int) (w : World) : Calls Try.prog 15 #[.iface 33 (.agg #[.int .i64 c, .int .i64 a])] w fun e w' => e = .returned (.tuple #[.agg #[.int .i64 c, .int .i64 a], .bool true]) ∧ Below w.heap.size w w' := by
  have ta := ta_yes
  go_enter Try.func15, Try.ntmps15
  go_wp2
  exact bodyPost_ret (v := .tuple #[.agg #[.int .i64 c, .int .i64 a], .bool true]) (by simp [results, Try.results15, go_sem]) rfl ⟨rfl, by repeat (first | exact Below.refl _ _ | apply below_alloc | apply below_drew)⟩
set_option maxHeartbeats 400000 in
set_option maxRecDepth 100000 in
theorem of_nil (w : World) : Calls Try.prog 15 #[.nilIface] w fun e w' => e = .returned (.tuple #[.agg #[.int .i64 0, .int .i64 0], .bool false]) ∧ Below w.heap.size w w' := by
  have ta := ta_nil
  go_enter Try.func15, Try.ntmps15
  go_wp2
  exact bodyPost_ret (v := .tuple #[.agg #[.int .i64 0, .int .i64 0], .bool false]) (by simp [results, Try.results15, go_sem]) rfl ⟨rfl, by repeat (first | exact Below.refl _ _ | apply below_alloc | apply below_drew)⟩
end Go.Proofs.Ytbnoeoghhbhhcaa
