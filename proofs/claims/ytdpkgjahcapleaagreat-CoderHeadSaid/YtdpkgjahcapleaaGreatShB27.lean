/- ShB: a part of its proof (contracts of the functions that it reaches, and the plain mathematics behind them). -/
import Derived.Test.YtdpkgjahcapleaaGreatShB23
set_option linter.unusedVariables false
set_option linter.unusedSimpArgs false
set_option linter.unusedVariables false
set_option linter.unusedSimpArgs false
namespace Go.Proofs.YtdpkgjahcapleaaGreat
open Go.RowKit Go.Proofs.YtdpkgjahcapleaaGreat.Spec Go.Proofs.YtdpkgjahcapleaaGreatW.PrintWords Go.Proofs.YtdpkgjahcapleaaGreatW.PrintLast
open Go.Proofs.YtdpkgjahcapleaaGreatW.PrintMore
attribute [local go_sem ↓] Go.wp_at_zero Go.wp_at_succ
namespace Spec
def hp (b s : ByteArray) : Bool := decide ((u b).take s.size = u s)
def lng (tail : ByteArray) : Nat → Int × Nat → List ByteArray → Int × Nat
  | _, b, [] => b
  | k, b, s :: r => if b.2 < s.size ∧ hp tail s = true then lng tail (k + 1) ((k : Int), s.size) r else lng tail (k + 1) b r
end Spec
theorem hp_f (a s : ByteArray) : Leaf.strings_HasPrefix.f a s = some (hp a s) := by
  unfold Leaf.strings_HasPrefix.f Leaf.stringslite_HasPrefix.f hp
  have h1 := u_size a
  have h2 := u_size s
  by_cases h : s.size ≤ a.size
  · rw [if_pos (by omega), if_pos (by omega), if_pos (by omega), Option.bind_some, Int.toNat_natCast]
    congr 1
    rw [Lib.toList_data, Lib.toList_data]
    show (u (a.extract 0 s.size) == u s) = _
    rw [u_cut, List.drop_zero, Nat.sub_zero]
    rw [Bool.eq_iff_iff, decide_eq_true_iff, beq_iff_eq]
  · rw [if_neg (by omega), Option.bind_some]
    congr 1
    symm
    rw [decide_eq_false_iff_not]
    intro e
    have := congrArg List.length e
    rw [List.length_take] at this
    omega
theorem hp_calls (a s : ByteArray) (w : World) : Calls Tryz.prog 117 #[.string a, .string s] w fun e w' => e = .returned (.bool (hp a s)) ∧ Below w.heap.size w w' := by
  refine (Leaf.strings_HasPrefix.calls a s _ w (hp_f a s)).mono ?_
  rintro e w' ⟨rfl, hb⟩
  exact ⟨rfl, hb.below⟩
theorem lng_nil (t : ByteArray) (k : Nat) (b : Int × Nat) : lng t k b [] = b := rfl
theorem lng_cons (t : ByteArray) (k : Nat) (b : Int × Nat) (s : ByteArray) (r : List ByteArray) : lng t k b (s :: r) = if b.2 < s.size ∧ hp t s = true then lng t (k + 1) ((k : Int), s.size) r else lng t (k + 1) b r := rfl
set_option maxHeartbeats 2000000 in
set_option maxRecDepth 100000 in
theorem longest_any {p : Value} {l : List ByteArray} {w : World} (hd : DictN w p l) (hl : l.length ≤ 1000) (hs : ∀ s ∈ l, 1 ≤ s.size ∧ s.size ≤ 40) (b : ByteArray) (a : Nat) (ha : a < b.size) (hb : b.size ≤ 100000) :
    Calls Tryz.prog 115 #[p, .string b, .int .i64 a] w fun e w' => e = .returned (.tuple #[.int .i64 (lng (b.extract a b.size) 0 (-1, 0) l).1, .int .i64 (lng (b.extract a b.size) 0 (-1, 0) l).2]) ∧ Below w.heap.size w w' := by
  have HA := Aside0.mk (alln_any hd (by omega))
  have HL := Aside0.mk hl
  have HS := Aside0.mk hs
  have d1 : decide ((a : Int) < 0) = false := decide_eq_false (by omega)
  have d2 : decide ((b.size : Int) ≤ (a : Int)) = false := decide_eq_false (by omega)
  have d3 : decide (b.size ≤ a) = false := decide_eq_false (by omega)
  have z1 : ¬ b.size < a := by omega
  have z2 : a ≤ b.size := by omega
  clear hd hl hs ha hb
  go_enter Tryz.func115, Tryz.ntmps115
  go_wp2_with fail
  refine HA.out.mono ?_
  rintro e w1 ⟨v1, rfl, hrow, hb1⟩
  obtain ⟨A, c, rfl, hc, hC⟩ := Kd.R_reads hrow
  have HC := Aside0.mk hC
  have H1 := Aside0.mk hb1
  clear hrow hc hC hb1
  go_wp2_with fail
  go_loopw [8, 9, 23] (fun v8 v9 v23 wr => ∃ (i : Nat) (q : Int × Nat) (r : List ByteArray), v8 = .int .i64 q.1 ∧ v9 = .int .i64 q.2 ∧ v23 = .int .i64 i ∧ Aside0 (i ≤ l.length) ∧ Aside0 (l.drop i = r) ∧ Aside0 (lng (b.extract a b.size) i q r = lng (b.extract a b.size) 0 (-1, 0) l) ∧ Aside0 (Below w1.heap.size w1 wr)) (fun _ _ v23 _ => l.length - (intOf v23).toNat)
  case atStart => exact ⟨0, (-1, 0), l, rfl, rfl, rfl, ⟨Nat.zero_le _⟩, ⟨rfl⟩, ⟨rfl⟩, ⟨by repeat (first | exact Below.refl _ _ | apply below_alloc | apply below_drew)⟩⟩
  case round =>
    obtain ⟨i, ⟨q1, q2⟩, r, rfl, rfl, rfl, HI, HD, HM, HB⟩ := hrel
    have hi := HI.out
    have hn := HL.out
    cases r with
    | nil =>
      have hlen := congrArg List.length HD.out
      rw [List.length_drop, List.length_nil] at hlen
      have d0 : decide ((i : Int) < (l.length : Int)) = false := decide_eq_false (by omega)
      have d0' : decide (i < l.length) = false := decide_eq_false (by omega)
      clear hi hn hlen
      go_wp2
      go_ret2
      have hm := HM.out
      rw [lng_nil] at hm
      rw [← hm]
      exact ⟨rfl, below_step H1.out HB.out⟩
    | cons s r =>
      have hlen := congrArg List.length HD.out
      rw [List.length_drop, List.length_cons] at hlen
      have d0 : decide ((i : Int) < (l.length : Int)) = true := decide_eq_true (by omega)
      have d0' : decide (i < l.length) = true := decide_eq_true (by omega)
      have HLT := Aside0.mk (show i < l.length by omega)
      have p1 : (0 : Int) ≤ (i : Int) := by omega
      have p2 : (i : Int) < (l.length : Int) := by omega
      have hget : l[i]? = some s := by
        have := congrArg (fun q => q[0]?) HD.out
        simpa using this
      obtain ⟨ad2, e2, hcell⟩ := Kd.at_string (Kd.C_below HC.out HB.out) (i : Int) p1 p2
      have hrd : rdOf ByteArray.empty l (i : Int) = s := by unfold rdOf; rw [Int.toNat_natCast, List.getD_eq_getElem?_getD, hget]; rfl
      rw [hrd, Int.toNat_natCast] at hcell
      subst e2
      have hsz := HS.out s (List.mem_of_getElem? hget)
      have hm := HM.out
      rw [lng_cons] at hm
      have HD2 : Aside0 (l.drop (i + 1) = r) := ⟨by rw [← List.drop_drop, HD.out]; rfl⟩
      by_cases hq : q2 < s.size
      · have d4 : decide ((q2 : Int) < (s.size : Int)) = true := decide_eq_true (by omega)
        have d4' : decide (q2 < s.size) = true := decide_eq_true hq
        cases hh : hp (b.extract a b.size) s with
        | false =>
          rw [if_neg (by rw [hh]; simp)] at hm
          have HMM := Aside0.mk hm
          have HH := Aside0.mk hh
          clear hi hn hlen hget hrd hm hq hh hsz
          go_wp2_with fail
          refine (hp_calls _ _ _).mono ?_
          rw [HH.out]
          rintro e w2 ⟨rfl, hb2⟩
          have HB2 := Aside0.mk (below_step HB.out hb2)
          clear hb2
          go_wp2_with fail
          go_roundw
          case rel =>
            have h1 := HLT.out
            have h2 := HL.out
            exact ⟨i + 1, (q1, q2), r, rfl, rfl, by rw [step1 i (by omega)], ⟨by omega⟩, HD2, HMM, HB2⟩
          case measure => have h1 := HLT.out; have h2 := HL.out; exact meas _ i h1 (by omega)
        | true =>
          rw [if_pos ⟨hq, hh⟩] at hm
          have HMM := Aside0.mk hm
          have HH := Aside0.mk hh
          clear hi hn hlen hget hrd hm hq hh hsz
          go_wp2_with fail
          refine (hp_calls _ _ _).mono ?_
          rw [HH.out]
          rintro e w2 ⟨rfl, hb2⟩
          have HB2 := Aside0.mk (below_step HB.out hb2)
          clear hb2
          go_wp2_with fail
          go_roundw
          case rel =>
            have h1 := HLT.out
            have h2 := HL.out
            exact ⟨i + 1, ((i : Int), s.size), r, rfl, rfl, by rw [step1 i (by omega)], ⟨by omega⟩, HD2, HMM, HB2⟩
          case measure => have h1 := HLT.out; have h2 := HL.out; exact meas _ i h1 (by omega)
      · have d4 : decide ((q2 : Int) < (s.size : Int)) = false := decide_eq_false (by omega)
        have d4' : decide (q2 < s.size) = false := decide_eq_false hq
        rw [if_neg (fun h => hq h.1)] at hm
        have HMM := Aside0.mk hm
        clear hi hn hlen hget hrd hm hq hsz
        go_wp2_with fail
        go_roundw
        case rel =>
          have h1 := HLT.out
          have h2 := HL.out
          exact ⟨i + 1, (q1, q2), r, rfl, rfl, by rw [step1 i (by omega)], ⟨by omega⟩, HD2, HMM, HB⟩
        case measure => have h1 := HLT.out; have h2 := HL.out; exact meas _ i h1 (by omega)
end Go.Proofs.YtdpkgjahcapleaaGreat
