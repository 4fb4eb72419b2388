/- ShU: a part of its proof (contracts of the functions that it reaches, and the plain mathematics behind them). -/
import Derived.Test.YtepgkimlmoikmaaGreatShU12
import Derived.Test.YtepgkimlmoikmaaGreatShU13
import Derived.WalkSpells
set_option linter.unusedVariables false
set_option linter.unusedSimpArgs false
set_option maxHeartbeats 2000000
set_option maxRecDepth 100000
set_option linter.unusedVariables false
set_option linter.unusedSimpArgs false
namespace Go.Proofs.YtepgkimlmoikmaaGreat
open Go.RowKit Go.Proofs.YtepgkimlmoikmaaGreat.Spec Go.Proofs.YtepgkimlmoikmaaGreatW.PrintWords Go.Proofs.YtepgkimlmoikmaaGreatW.PrintLast

theorem Leaf.info9 : (Tryz.prog.info? 9).map (fun i => (i.zero, i.size, i.bytes)) = some (some (.string ⟨#[]⟩), 1, 16) := by kernel_rfl
abbrev StrsIn (w : World) (A : Option Addr) (l : List ByteArray) : Prop := Kd.C Kd.string w A l.length l
theorem vput_calls (n : Int) (w : World) : Calls Tryz.prog 100 #[.int .i64 n] w fun e w' => e = .returned (.tuple #[.string (Bridge.putS n).1, .bool (Bridge.putS n).2]) ∧ Below w.heap.size w w' := by
 obtain ⟨k, hk⟩ := (Bridge.put_ev n).rounds
 exact Leaf.vari_Put.calls k n _ _ w hk
theorem vput_nat {n : Nat} (h : n < 4294967296) (w : World) : Calls Tryz.prog 100 #[.int .i64 (n : Int)] w fun e w' => e = .returned (.tuple #[.string (str (num n)), .bool true]) ∧ Below w.heap.size w w' := by
 have := vput_calls (n : Int) w
 rw [Bridge.putS_nat h] at this
 exact this
theorem vget_calls (b : ByteArray) (hb : b.size ≤ 140737488351232) (w : World) : Calls Tryz.prog 184 #[.string b] w fun e w' => e = .returned (.tuple #[.int .i64 (un 0 0 (u b)).1, .int .i64 (un 0 0 (u b)).2.1, .int .i64 (un 0 0 (u b)).2.2]) ∧ Drawn0 w w' := by
 obtain ⟨k, hk⟩ := (Bridge.get_ev b hb).rounds
 exact Leaf.vari_Get.calls k b _ _ _ w hk
theorem contains_calls {A : Option Addr} {c : Nat} (l : List ByteArray) (s : ByteArray) {w : World} (hr : StrsIn w A l) (hc : l.length ≤ c) (hl : l.length ≤ 140737488351232) : Calls Tryz.prog 166 #[.slice A l.length c, .string s] w fun e w' => e = .returned (.bool (decide (s ∈ l))) ∧ Drawn0 w w' := by
 obtain ⟨k, hk⟩ := (Bridge.contains_ev l s hl).rounds
 exact Leaf.slices_Contains_string_string.calls k A c l s _ w hr hc hk
theorem few_calls {A : Option Addr} {c : Nat} (l : List ByteArray) {w : World} (hr : StrsIn w A l) (hc : l.length ≤ c) (hl : l.length ≤ 140737488351232) (hsz : ∀ s ∈ l, s.size ≤ 140737488351232) : Calls Tryz.prog 65 #[.slice A l.length c] w fun e w' => e = .returned (.bool (Bridge.few l)) ∧ Drawn0 w w' := by
 obtain ⟨k, hk⟩ := (Bridge.few_ev l hl hsz).rounds
 exact Leaf.lexiphanelaw6_Few.calls k A c l _ w hr hc hk
theorem rphrases_calls {A : Option Addr} {c : Nat} (l : List ByteArray) {w : World} (hr : StrsIn w A l) (hc : l.length ≤ c) (hsz : ∀ s ∈ l, s.size ≤ 140737488351232) : Calls Tryz.prog 66 #[.slice A l.length c] w fun e w' => e = .returned (.tuple #[.int .i64 (phrases l).1, .int .i64 (phrases l).2]) ∧ Drawn0 w w' := by
 obtain ⟨k, hk⟩ := (Bridge.phrases_ev l hsz).rounds
 exact Leaf.lexiphaneref1_Phrases.calls k A c l _ _ w hr hc hk
theorem sclone_calls (s : ByteArray) (w : World) (hs : s.size ≤ 281474976710656) : Calls Tryz.prog 167 #[.string s] w fun e w' => e = .returned (.string s) ∧ Below w.heap.size w w' := by
 go_enter Tryz.func167, Tryz.ntmps167
 go_wp2_with (go_at_call 206; refine (Tryz.stringslite_Clone s _ hs).mono ?_; rintro e w' ⟨rfl, hb⟩)
 go_ret
 exact ⟨rfl, hb⟩
def errV (c a : Int) : Value := if c = 0 then .nilIface else .iface 152 (.agg #[.int .i64 c, .int .i64 a])
theorem fnew_some (c a : Int) (h : c ≠ 0) (w : World) : Calls Tryz.prog 113 #[.int .i64 c, .int .i64 a] w fun e w' => e = .returned (.iface 152 (.agg #[.int .i64 c, .int .i64 a])) ∧ w = w' := by
 have hb : (c == (0 : Int)) = false := beq_eq_false_iff_ne.2 h
 clear h
 go_enter Tryz.func113, Tryz.ntmps113
 go_wp2
 go_ret
 exact ⟨rfl, rfl⟩
end Go.Proofs.YtepgkimlmoikmaaGreat
