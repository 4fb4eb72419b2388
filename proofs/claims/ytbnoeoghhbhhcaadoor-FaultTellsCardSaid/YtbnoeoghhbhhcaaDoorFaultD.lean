/- The document's digits and names; what 'Code' tells of nil. -/
import Derived.Test.YtbnoeoghhbhhcaaDoorFaultC
import Derived.Lib.ItoaLen
set_option linter.unusedVariables false
set_option linter.unusedSimpArgs false
namespace Go.Proofs.YtbnoeoghhbhhcaaDoor
open Go.RowKit Go.Proofs.YtbnoeoghhbhhcaaDoorW.PrintWords Go.Proofs.YtbnoeoghhbhhcaaDoorW.PrintLast
open Go.Proofs.YtbnoeoghhbhhcaaDoorW.PrintMore
theorem rname_f (c : Int) : Leaf.lexiphaneref1_Name.f c = some (nameS c) := by
  unfold Leaf.lexiphaneref1_Name.f nameS
  rw [Option.bind_some]
  by_cases h : 0 ≤ c ∧ c < 14
  · rw [if_pos h, if_neg (by omega), if_neg (by show ¬ c ≥ 14; omega), if_pos h.1, if_pos (by show c < 14; omega)]
    rfl
  · rw [if_neg h]
    by_cases h1 : c < 0
    · rw [if_pos h1]
    · rw [if_neg h1, if_pos (by show c ≥ 14; omega)]
theorem rname_calls (c : Int) (w : World) : Calls Tryd.prog 9 #[.int .i64 c] w fun e w' => e = .returned (.string (nameS c)) ∧ Below w.heap.size w w' :=
  Leaf.lexiphaneref1_Name.calls c _ w (rname_f c)
def oneS (v : Int) : ByteArray := ⟨#[UInt8.ofNat (48 + v.natAbs % 10)]⟩
theorem tmod_abs (v : Int) : (Int.tmod v 10).natAbs = v.natAbs % 10 := by
  rw [Int.natAbs_tmod]; rfl
theorem tdiv_abs (v : Int) : (Int.tdiv v 10).natAbs = v.natAbs / 10 := by
  rw [Int.natAbs_tdiv]; rfl
theorem wr64 {x : Int} (h0 : -9223372036854775808 ≤ x) (h1 : x ≤ 9223372036854775807) : wrap64 x = x := by
  unfold wrap64; omega
theorem oneS_size (v : Int) : (oneS v).size = 1 := rfl
theorem dig_step (k : Nat) (x0 : Int) (s : ByteArray) (v : Int) (h0 : -9223372036854775808 ≤ v) (h1 : v ≤ 9223372036854775807) (hv : v ≠ 0 ∨ s = ⟨#[]⟩) (hs : s.size ≤ 1000) :
    Leaf.lexiphaneref1_Digits.l0 (k + 2) x0 s v = Leaf.lexiphaneref1_Digits.l0 k x0 (oneS v ++ s) (Int.tdiv v 10) := by
  have ha := tmod_abs v
  have hd := tdiv_abs v
  have hm : v.natAbs % 10 < 10 := Nat.mod_lt _ (by omega)
  have e1 : Leaf.lexiphaneref1_Digits.l0 (k + 2) x0 s v = Leaf.lexiphaneref1_Digits.j1 (k + 1) x0 s v true := by
    rw [Leaf.lexiphaneref1_Digits.l0]
    by_cases hz : v = 0
    · rw [if_pos hz]
      rcases hv with h | h
      · exact absurd hz h
      · subst h; rw [show ((⟨#[]⟩ : ByteArray).toList == ([] : List UInt8)) = true by rw [Go.ByteArray.toList_eq]; rfl]
    · rw [if_neg hz]
  rw [e1, Leaf.lexiphaneref1_Digits.j1, if_pos rfl]
  have hq : wrap64 (Int.tdiv v 10) = Int.tdiv v 10 := wr64 (by omega) (by omega)
  by_cases hn : Int.tmod v 10 < 0
  · rw [if_pos hn, Option.bind_some]
    have e2 : (wrap64 (48 + wrap64 (-(Int.tmod v 10)))) % 256 = ((48 + v.natAbs % 10 : Nat) : Int) := by
      rw [wr64 (x := -(Int.tmod v 10)) (by omega) (by omega), wr64 (by omega) (by omega)]; omega
    rw [e2, hq]
    have e3 : strOfNums [((48 + v.natAbs % 10 : Nat) : Int)] = oneS v := rfl
    rw [e3, if_pos (by rw [oneS_size]; omega)]
  · rw [if_neg hn, Option.bind_some]
    have e2 : (wrap64 (48 + (Int.tmod v 10))) % 256 = ((48 + v.natAbs % 10 : Nat) : Int) := by
      rw [wr64 (by omega) (by omega)]; omega
    rw [e2, hq]
    have e3 : strOfNums [((48 + v.natAbs % 10 : Nat) : Int)] = oneS v := rfl
    rw [e3, if_pos (by rw [oneS_size]; omega)]
def finS (x0 : Int) (s : ByteArray) : ByteArray := if x0 < 0 then ⟨#[45]⟩ ++ s else s
theorem dig_stop (k : Nat) (x0 : Int) (s : ByteArray) (hs : 0 < s.size) (hm : s.size ≤ 1000) : Leaf.lexiphaneref1_Digits.l0 (k + 2) x0 s 0 = some (finS x0 s) := by
  rw [Leaf.lexiphaneref1_Digits.l0, if_pos rfl]
  have e : (s.toList == ([] : List UInt8)) = false := by
    rw [beq_eq_false_iff_ne]
    intro he
    have := congrArg List.length he
    rw [Go.ByteArray.toList_eq] at this
    rw [show s.data.toList.length = s.size from data_length s] at this
    rw [List.length_nil] at this
    omega
  rw [e, Leaf.lexiphaneref1_Digits.j1, if_neg (by decide)]
  unfold finS
  by_cases h : x0 < 0
  · rw [if_pos h, if_pos h, if_pos (by omega)]
  · rw [if_neg h, if_neg h]
def decS (n : Nat) : ByteArray := ⟨(Lib.decDigits n).toArray⟩
theorem ba_eq {a b : ByteArray} (h : a.data.toList = b.data.toList) : a = b := by
  cases a; cases b
  simp only at h
  rw [Array.toList_inj.1 h]
theorem decS_small (v : Int) (s : ByteArray) (h : v.natAbs < 10) : decS v.natAbs ++ s = oneS v ++ s := by
  unfold decS oneS
  rw [Lib.decDigits, dif_pos h, Nat.mod_eq_of_lt h]
theorem decS_more (v : Int) (s : ByteArray) (h : ¬ v.natAbs < 10) : decS v.natAbs ++ s = decS (Int.tdiv v 10).natAbs ++ (oneS v ++ s) := by
  rw [tdiv_abs]
  unfold decS oneS
  rw [Lib.decDigits, dif_neg h]
  apply ba_eq
  simp
theorem dig_l0 (x0 : Int) : ∀ (d : Nat) (s : ByteArray) (v : Int), -9223372036854775808 ≤ v → v ≤ 9223372036854775807 → v.natAbs < 10 ^ d → s.size + d ≤ 1000 → (0 < s.size ∨ 0 < d ∧ s = ⟨#[]⟩) →
    Leaf.lexiphaneref1_Digits.l0 (2 * d + 2) x0 s v = some (finS x0 (if 0 < s.size ∧ v = 0 then s else decS v.natAbs ++ s))
  | 0, s, v, h0, h1, hv, hs, ho => by
    have hz : v = 0 := by omega
    have hp : 0 < s.size := by omega
    subst hz
    rw [if_pos ⟨hp, rfl⟩]
    exact dig_stop 0 x0 s hp (by omega)
  | d + 1, s, v, h0, h1, hv, hs, ho => by
    by_cases hz : 0 < s.size ∧ v = 0
    · rw [if_pos hz]
      obtain ⟨hp, rfl⟩ := hz
      exact dig_stop _ x0 s hp (by omega)
    · rw [if_neg hz]
      have ht := tdiv_abs v
      have hsz : (oneS v ++ s).size = 1 + s.size := by rw [ByteArray.size_append, oneS_size]
      have h10 : 10 ^ (d + 1) = 10 ^ d * 10 := Nat.pow_succ ..
      have hor : v ≠ 0 ∨ s = ⟨#[]⟩ := by
        rcases ho with h | h
        · exact .inl fun e => hz ⟨h, e⟩
        · exact .inr h.2
      rw [show 2 * (d + 1) + 2 = (2 * d + 2) + 2 by omega, dig_step _ x0 s v h0 h1 hor (by omega),
        dig_l0 x0 d (oneS v ++ s) (Int.tdiv v 10) (by omega) (by omega) (by rw [ht]; omega) (by rw [hsz]; omega) (.inl (by rw [hsz]; omega))]
      congr 2
      by_cases hs10 : v.natAbs < 10
      · rw [if_pos ⟨by rw [hsz]; omega, by omega⟩, decS_small v s hs10]
      · rw [if_neg (by rintro ⟨_, h⟩; rw [h] at ht; simp at ht; omega), decS_more v s hs10]
theorem digits_f (a : Int) (h0 : -9223372036854775808 ≤ a) (h1 : a ≤ 9223372036854775807) : Leaf.lexiphaneref1_Digits.f 42 a = some ⟨(Lib.itoa a).toArray⟩ := by
  unfold Leaf.lexiphaneref1_Digits.f
  rw [show 42 = 2 * 20 + 2 by rfl, dig_l0 a 20 ⟨#[]⟩ a h0 h1 (by have : 10 ^ 20 = 100000000000000000000 := rfl; omega) (by decide) (.inr ⟨by decide, rfl⟩)]
  rw [if_neg (by rintro ⟨h, _⟩; exact absurd h (by decide))]
  unfold finS Lib.itoa decS
  by_cases hn : a < 0
  · rw [if_pos hn, if_pos hn]
    congr 1
    apply ba_eq
    simp
  · rw [if_neg hn, if_neg hn]
    congr 1
    apply ba_eq
    simp
    congr 1
    omega
theorem digits_calls (a : Int) (h0 : -9223372036854775808 ≤ a) (h1 : a ≤ 9223372036854775807) (w : World) : Calls Tryd.prog 10 #[.int .i64 a] w fun e w' => e = .returned (.string ⟨(Lib.itoa a).toArray⟩) ∧ Below w.heap.size w w' :=
  Leaf.lexiphaneref1_Digits.calls 42 a _ w (digits_f a h0 h1)
set_option maxHeartbeats 400000 in
set_option maxRecDepth 100000 in
theorem code_nil (w : World) : Calls Tryd.prog 13 #[.nilIface] w fun e w' => e = .returned (.int .i64 0) ∧ Below w.heap.size w w' := by
  go_enter Tryd.func13, Tryd.ntmps13
  go_wp2
  go_ret
  exact ⟨rfl, by repeat (first | exact Below.refl _ _ | apply below_alloc | apply below_drew)⟩
end Go.Proofs.YtbnoeoghhbhhcaaDoor
