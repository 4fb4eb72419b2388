/- ShU: a part of its proof (contracts of the functions that it reaches, and the plain mathematics behind them). -/
import Derived.Test.YtepgkimlmoikmaaGreatShU18
set_option linter.unusedVariables false
set_option linter.unusedSimpArgs false
set_option maxHeartbeats 2000000
set_option maxRecDepth 100000
set_option linter.unusedVariables false
set_option linter.unusedSimpArgs false
namespace Go.Proofs.YtepgkimlmoikmaaGreat
open Go.RowKit Go.Proofs.YtepgkimlmoikmaaGreat.Spec Go.Proofs.YtepgkimlmoikmaaGreatW.PrintWords Go.Proofs.YtepgkimlmoikmaaGreatW.PrintLast
open Go.Proofs.YtepgkimlmoikmaaGreatW.PrintMore
attribute [local go_sem ↓] Go.wp_at_zero Go.wp_at_succ
namespace Spec
def bitAt (b : ByteArray) (i : Nat) : Nat := ((u b).getD (i / 8) 0).toNat / 2 ^ (7 - i % 8) % 2
def peekV (b : ByteArray) (a : Nat) : Nat → Nat
 | 0 => 0
 | n + 1 => 2 * peekV b a n + bitAt b (a + n)
theorem bitAt_lt (b : ByteArray) (i : Nat) : bitAt b i < 2 := Nat.mod_lt _ (by omega)
theorem peekV_lt (b : ByteArray) (a n : Nat) : peekV b a n < 2 ^ n := by
 induction n with
 | zero => exact Nat.one_pos
 | succ n ih => have := bitAt_lt b (a + n); rw [peekV, Nat.pow_succ]; omega
end Spec
structure RdAt (w : World) (g : Nat) (b : ByteArray) (a : Nat) : Prop where
 c0 : w.cell? ⟨g, 0, none⟩ = some (.string b)
 c1 : w.cell? ⟨g, 1, none⟩ = some (.int .i64 (a : Int))
 f1 : w.frozen? ⟨g, 1, none⟩ = false
theorem RdAt.lt {w : World} {g : Nat} {b : ByteArray} {a : Nat} (h : RdAt w g b a) : g < w.heap.size := World.block_lt_of_cell? w _ h.c0
theorem RdAt.below {w w1 : World} {g : Nat} {b : ByteArray} {a : Nat} (h : RdAt w g b a) (hb : Below w.heap.size w w1) : RdAt w1 g b a :=
 ⟨pw_cell_below hb h.c0, pw_cell_below hb h.c1, (hb.frozen (p := ⟨g, 1, none⟩) h.lt).trans h.f1⟩
theorem RdAt.drew {w : World} {g : Nat} {b : ByteArray} {a : Nat} (h : RdAt w g b a) (n : Nat) : RdAt (w.drewN n) g b a := h.below ((Drawn0.refl w).step n).below
theorem RdAt.put {w : World} {g : Nat} {b : ByteArray} {a : Nat} (h : RdAt w g b a) (a' : Nat) : RdAt (w.setCell ⟨g, 1, none⟩ (.int .i64 (a' : Int))) g b a' := by
 have h10 : (⟨g, 1, none⟩ : Addr) ≠ ⟨g, 0, none⟩ := by simp
 refine ⟨?_, ?_, ?_⟩
 ·rw [World.cell?_setCell_other _ _ _ _ h10]; exact h.c0
 ·exact World.cell?_setCell_same _ _ _ h.c1
 ·rw [World.frozen?_setCell]; exact h.f1
theorem bits_and1 (x : Nat) (hx : x < 4294967296) : Go.bits .and .i64 (x : Int) 1 = ((x % 2 : Nat) : Int) := by
 have e1 : BitVec.ofInt 64 (x : Int) = BitVec.ofNat 64 x := by simp
 have e4 : ((BitVec.ofNat 64 x) &&& (BitVec.ofNat 64 1)).toNat = x % 2 := by
  rw [BitVec.toNat_and, BitVec.toNat_ofNat, BitVec.toNat_ofNat, Nat.mod_eq_of_lt (by omega)]
  exact Nat.and_one_is_mod x
 unfold Go.bits
 show IntKind.i64.wrap (((BitVec.ofInt 64 (x : Int)) &&& (BitVec.ofNat 64 1)).toNat : Int) = _
 rw [e1, e4]
 exact (i64_w _).trans (Bridge.wrN _ (by omega))
theorem bits_or1 (v c : Nat) (hv : v < 4294967296) (hc : c < 2) : Go.bits .or .i64 ((2 * v : Nat) : Int) (c : Int) = ((2 * v + c : Nat) : Int) := by
 have e1 : BitVec.ofInt 64 ((2 * v : Nat) : Int) = BitVec.ofNat 64 (2 * v) := by rw [BitVec.ofInt_natCast]
 have e2 : BitVec.ofInt 64 (c : Int) = BitVec.ofNat 64 c := by simp
 have e4 : ((BitVec.ofNat 64 (2 * v)) ||| (BitVec.ofNat 64 c)).toNat = 2 * v + c := by
  rw [BitVec.toNat_or, BitVec.toNat_ofNat, BitVec.toNat_ofNat, Nat.mod_eq_of_lt (by omega), Nat.mod_eq_of_lt (by omega)]
  exact (Nat.two_pow_add_eq_or_of_lt (i := 1) (by omega) v).symm
 unfold Go.bits
 show IntKind.i64.wrap (((BitVec.ofInt 64 ((2 * v : Nat) : Int)) ||| (BitVec.ofInt 64 (c : Int))).toNat : Int) = _
 rw [e1, e2, e4]
 exact (i64_w _).trans (Bridge.wrN _ (by omega))
theorem or_bit (b : ByteArray) (a i J : Nat) (hJ : J = (a + i) / 8) (hJ2 : J < b.size) (hp : peekV b a i < 2147483648) :
  Go.bits .or .i64 (2 * (peekV b a i : Int)) (Go.bits .and .i64 (wrap64 (b[J].toNat : Int) / 2 ^ (7 - (a + i) % 8)) 1) = ((peekV b a (i + 1) : Nat) : Int) := by
 have h8 := b[J].toNat_lt
 have hg : (u b).getD ((a + i) / 8) 0 = b[J] := by
  rw [← hJ, List.getD_eq_getElem?_getD, List.getElem?_eq_getElem (by rw [u_size]; exact hJ2)]
  rfl
 have hdiv : b[J].toNat / 2 ^ (7 - (a + i) % 8) ≤ b[J].toNat := Nat.div_le_self _ _
 have e1 : wrap64 (b[J].toNat : Int) / 2 ^ (7 - (a + i) % 8) = ((b[J].toNat / 2 ^ (7 - (a + i) % 8) : Nat) : Int) := by
  rw [Bridge.wrN _ (by omega), Int.natCast_ediv, Int.natCast_pow]
  rfl
 rw [e1, bits_and1 _ (by omega), show (2 * (peekV b a i : Int)) = ((2 * peekV b a i : Nat) : Int) by omega, bits_or1 _ _ (by omega) (Nat.mod_lt _ (by omega)), peekV]
 unfold bitAt
 rw [hg]
theorem Drawn0.trans {w w1 w2 : World} (h : Drawn0 w w1) (h2 : Drawn0 w1 w2) : Drawn0 w w2 := by
 obtain ⟨⟨n, rfl⟩⟩ := h2
 exact h.step n
theorem left_calls {w : World} {g a : Nat} {b : ByteArray} (h : RdAt w g b a) (hb : b.size ≤ 100000) (ha : a ≤ 8 * b.size) :
  Calls Tryz.prog 212 #[.pointer (some ⟨g, 0, none⟩)] w fun e w' => e = .returned (.int .i64 (8 * (b.size : Int) - (a : Int))) ∧ Drawn0 w w' := by
 have c0 := h.c0
 have c1 := h.c1
 have q1 : wrap64 (8 * (b.size : Int)) = 8 * (b.size : Int) := Bridge.wr (by omega) (by omega)
 have q2 : wrap64 (8 * (b.size : Int) - (a : Int)) = 8 * (b.size : Int) - (a : Int) := Bridge.wr (by omega) (by omega)
 clear h hb ha
 go_enter Tryz.func212, Tryz.ntmps212
 go_wp2_with fail
 go_quiet (fail)
 go_wp2_with fail
 go_ret
 refine ⟨?_, (Drawn0.refl w).step _⟩
 show Ending.returned (.int .i64 (wrap64 (8 * (b.size : Int) - (a : Int)))) = _
 rw [q2]
theorem peek_calls {w : World} {g a : Nat} {b : ByteArray} (h : RdAt w g b a) (hb : b.size ≤ 100000) (ha : a ≤ 8 * b.size) (n : Nat) (hn : n ≤ 32) :
  Calls Tryz.prog 213 #[.pointer (some ⟨g, 0, none⟩), .int .i64 (n : Int)] w fun e w' => e = .returned (.int .i64 (peekV b a n : Nat)) ∧ Drawn0 w w' := by
 have H := Aside0.mk h
 have HN := Aside0.mk (show b.size ≤ 100000 ∧ a ≤ 8 * b.size ∧ n ≤ 32 from ⟨hb, ha, hn⟩)
 have d1 : decide ((n : Int) < 0) = false := decide_eq_false (by omega)
 have d2 : decide ((32 : Int) < (n : Int)) = false := decide_eq_false (by omega)
 have d2' : decide (32 < n) = false := decide_eq_false (by omega)
 clear h hb ha hn
 go_enter Tryz.func213, Tryz.ntmps213
 go_wp2_with fail
 go_loopw [5, 15] (fun v5 v15 wr => ∃ i : Nat, v5 = .int .i64 (peekV b a i : Nat) ∧ v15 = .int .i64 (i : Int) ∧ Aside0 (i ≤ n) ∧ Aside0 (Drawn0 w wr)) (fun _ v15 _ => n - (intOf v15).toNat)
 case atStart => exact ⟨0, rfl, rfl, ⟨Nat.zero_le _⟩, ⟨Drawn0.refl w⟩⟩
 case round =>
  obtain ⟨i, rfl, rfl, HI, HB⟩ := hrel
  have hi := HI.out
  have hn := HN.out
  by_cases hlt : i < n
  ·have d3 : decide ((i : Int) < (n : Int)) = true := decide_eq_true (by omega)
   have d3' : decide (i < n) = true := decide_eq_true hlt
   have HLT := Aside0.mk hlt
   have hpv := peekV_lt b a i
   have h32 : 2 ^ i ≤ 2 ^ 31 := Nat.pow_le_pow_right (by omega) (by omega)
   have HL := Aside0.mk (left_calls (H.out.below HB.out.below) HN.out.1 HN.out.2.1)
   have q0 : wrap64 ((peekV b a i : Nat) * 2 : Int) = ((2 * peekV b a i : Nat) : Int) := by rw [Bridge.wr (by omega) (by omega)]; omega
   have HP := Aside0.mk (show peekV b a i < 2147483648 by omega)
   clear hpv h32 hi hn hlt
   go_wp2_with fail
   refine HL.out.mono ?_
   rintro e w2 ⟨rfl, hb2⟩
   have HB2 := Aside0.mk (Drawn0.trans HB.out hb2)
   have h2 := H.out.below HB2.out.below
   have c0 := h2.c0
   have c1 := h2.c1
   clear h2 hb2
   by_cases hin : a + i < 8 * b.size
   ·have d4 : decide ((i : Int) < 8 * (b.size : Int) - (a : Int)) = true := decide_eq_true (by omega)
    have q1 : wrap64 ((a : Int) + (i : Int)) = ((a + i : Nat) : Int) := by rw [Bridge.wr (by have := HN.out; omega) (by have := HN.out; omega)]; omega
    obtain ⟨J, hJ⟩ : ∃ J, J = (a + i) / 8 := ⟨_, rfl⟩
    have hJ2 : J < b.size := by omega
    have q3 : ((a : Int) + (i : Int)).tdiv 8 = (J : Int) := by rw [Int.tdiv_eq_ediv_of_nonneg (by omega)]; omega
    have q4 : wrap64 (J : Int) = (J : Int) := Bridge.wr (by omega) (by have := HN.out; omega)
    have HJ := Aside0.mk hJ
    have HR := Aside0.mk (or_bit b a i J hJ hJ2 HP.out)
    clear hin hJ
    go_wp2_with fail
    go_roundw
    case rel =>
     have h1 := HLT.out
     have h2 := HN.out
     exact ⟨i + 1, by rw [HR.out], by rw [step1 i (by omega)], ⟨by omega⟩, HB2⟩
    case measure => have h1 := HLT.out; have h2 := HN.out; exact meas _ i h1 (by omega)
   ·have d4 : decide ((i : Int) < 8 * (b.size : Int) - (a : Int)) = false := decide_eq_false (by omega)
    have HBT : Aside0 (bitAt b (a + i) = 0) := ⟨by
     unfold bitAt
     rw [List.getD_eq_getElem?_getD, List.getElem?_eq_none (by rw [u_size]; omega)]
     show 0 / _ % 2 = 0
     rw [Nat.zero_div]⟩
    clear hin
    go_wp2_with fail
    go_roundw
    case rel =>
     have h1 := HLT.out
     have h2 := HN.out
     exact ⟨i + 1, by rw [peekV, HBT.out]; rfl, by rw [step1 i (by omega)], ⟨by omega⟩, HB2⟩
    case measure => have h1 := HLT.out; have h2 := HN.out; exact meas _ i h1 (by omega)
  ·have d3 : decide ((i : Int) < (n : Int)) = false := decide_eq_false (by omega)
   have d3' : decide (i < n) = false := decide_eq_false hlt
   have he : i = n := by omega
   subst he
   clear hi hn hlt
   go_wp2
   go_ret
   exact ⟨rfl, HB.out⟩
theorem rest_calls {w : World} {g a : Nat} {b : ByteArray} (h : RdAt w g b a) (hb : b.size ≤ 100000) (ha : a ≤ 8 * b.size) :
  Calls Tryz.prog 186 #[.pointer (some ⟨g, 0, none⟩)] w fun e w' => e = .returned (.bool (decide (8 * b.size - a < 8 ∧ peekV b a (8 * b.size - a) = 0))) ∧ Drawn0 w w' := by
 have H := Aside0.mk h
 have HL := Aside0.mk (left_calls h hb ha)
 obtain ⟨n, hn⟩ : ∃ n, n = 8 * b.size - a := ⟨_, rfl⟩
 have hn2 : 8 * (b.size : Int) - (a : Int) = (n : Int) := by omega
 rw [← hn]
 rw [hn2] at HL
 by_cases h8 : n < 8
 ·have d1 : decide ((n : Int) < 8) = true := decide_eq_true (by omega)
  have d1' : decide (n < 8) = true := decide_eq_true h8
  have HL2 := Aside0.mk (fun (W : World) (h : RdAt W g b a) => left_calls h hb ha)
  rw [hn2] at HL2
  have HP := Aside0.mk (fun (W : World) (h : RdAt W g b a) => peek_calls h hb ha n (by omega))
  rw [show decide (n < 8 ∧ peekV b a n = 0) = ((peekV b a n : Int) == 0) by rw [Bool.eq_iff_iff, decide_eq_true_iff, beq_iff_eq]; omega]
  generalize peekV b a n = z at HP ⊢
  obtain ⟨y, hy⟩ : ∃ y, y = ((z : Int) == 0) := ⟨_, rfl⟩
  rw [← hy]
  clear h hb ha hn hn2 h8
  go_enter Tryz.func186, Tryz.ntmps186
  go_wp2_with fail
  refine HL.out.mono ?_
  rintro e w2 ⟨rfl, hb2⟩
  have HB2 := Aside0.mk hb2
  clear hb2
  go_wp2_with fail
  refine (HL2.out _ (H.out.below HB2.out.below)).mono ?_
  rintro e w3 ⟨rfl, hb3⟩
  have HB3 := Aside0.mk (Drawn0.trans HB2.out hb3)
  clear hb3
  go_wp2_with fail
  refine (HP.out _ (H.out.below HB3.out.below)).mono ?_
  rintro e w4 ⟨rfl, hb4⟩
  have HB4 := Aside0.mk (Drawn0.trans HB3.out hb4)
  clear hb4
  go_wp2_with fail
  go_ret
  refine ⟨?_, HB4.out⟩
  rw [hy]
  rfl
 ·have d1 : decide ((n : Int) < 8) = false := decide_eq_false (by omega)
  have d1' : decide (n < 8) = false := decide_eq_false h8
  rw [show decide (n < 8 ∧ peekV b a n = 0) = false by rw [decide_eq_false_iff_not]; exact fun h => h8 h.1]
  clear h hb ha hn hn2 h8
  go_enter Tryz.func186, Tryz.ntmps186
  go_wp2_with fail
  refine HL.out.mono ?_
  rintro e w2 ⟨rfl, hb2⟩
  have HB2 := Aside0.mk hb2
  clear hb2
  go_wp2_with fail
  go_ret
  exact ⟨rfl, HB2.out⟩
end Go.Proofs.YtepgkimlmoikmaaGreat
namespace Go.Proofs.YtepgkimlmoikmaaGreat
open Go.RowKit Go.Proofs.YtepgkimlmoikmaaGreat.Spec Go.Proofs.YtepgkimlmoikmaaGreatW.PrintWords Go.Proofs.YtepgkimlmoikmaaGreatW.PrintLast
open Go.Proofs.YtepgkimlmoikmaaGreatW.PrintMore
attribute [local go_sem ↓] Go.wp_at_zero Go.wp_at_succ
namespace Spec
def usedL : List Int → Nat
 | [] => 0
 | x :: r => (if 0 < x then 1 else 0) + usedL r
def kraftL : List Int → Nat
 | [] => 0
 | x :: r => (if 1 ≤ x ∧ x ≤ 15 then 2 ^ (15 - x.toNat) else 0) + kraftL r
def Out15 (x : Int) : Prop := x < 0 ∨ 15 < x
instance (x : Int) : Decidable (Out15 x) := by unfold Out15; infer_instance
def cright (l : List Int) : Int := if l.any (fun x => decide (Out15 x)) then 1 else if kraftL l = 32768 ∨ (usedL l = 1 ∧ (1 : Int) ∈ l) then 0 else 8
end Spec
theorem rd_at (l : List Int) (i : Nat) (h : i < l.length) : rd l (i : Int) = l[i] := by
 unfold rd
 rw [Int.toNat_natCast, List.getD_eq_getElem?_getD, List.getElem?_eq_getElem h]
 rfl
theorem used_l0 (l : List Int) (hl : l.length ≤ 1000000) (d : Nat) : ∀ (i acc : Nat), i + d = l.length → acc ≤ i → Ev (fun k => Leaf.hist_Used.l0 k (acc : Int) l (l.length : Int) (i : Int)) (((acc + usedL (l.drop i) : Nat) : Int)) := by
 induction d with
 | zero =>
  intro i acc hi ha
  refine Ev.step (f := fun _ => some _) (fun k => ?_) (Ev.now _)
  simp only [Leaf.hist_Used.l0]
  rw [if_neg (by omega), List.drop_of_length_le (by omega)]
  rfl
 | succ d ih =>
  intro i acc hi ha
  have hlt : i < l.length := by omega
  rw [List.drop_eq_getElem_cons hlt, usedL]
  by_cases h : 0 < l[i]
  ·rw [if_pos h, ← Nat.add_assoc]
   refine Ev.step (fun k => ?_) (ih (i + 1) (acc + 1) (by omega) (by omega))
   simp only [Leaf.hist_Used.l0]
   rw [if_pos (by omega), if_pos (by omega), if_pos (by omega), rd_at l i hlt, if_pos h, Bridge.wrS i (by omega), Bridge.wrS acc (by omega)]
  ·rw [if_neg h, Nat.zero_add]
   refine Ev.step (fun k => ?_) (ih (i + 1) acc (by omega) (by omega))
   simp only [Leaf.hist_Used.l0]
   rw [if_pos (by omega), if_pos (by omega), if_pos (by omega), rd_at l i hlt, if_neg h, Bridge.wrS i (by omega)]
theorem used_calls {A : Option Addr} {c : Nat} (l : List Int) {w : World} (hr : IntsIn w A l) (hc : l.length ≤ c) (hl : l.length ≤ 1000000) : Calls Tryz.prog 211 #[.slice A l.length c] w fun e w' => e = .returned (.int .i64 (usedL l : Nat)) ∧ Drawn0 w w' := by
 have h := used_l0 l hl l.length 0 0 (by omega) (Nat.le_refl 0)
 rw [List.drop_zero, Nat.zero_add] at h
 obtain ⟨k, hk⟩ := h.rounds
 exact Leaf.hist_Used.calls k A c l _ w hr hc hk
theorem kraft_l0 (l : List Int) (hl : l.length ≤ 1000000) (d : Nat) : ∀ (i acc : Nat), i + d = l.length → acc ≤ 32768 * i → Ev (fun k => Leaf.lens_Kraft.l0 k (acc : Int) l (l.length : Int) (i : Int)) (((acc + kraftL (l.drop i) : Nat) : Int)) := by
 induction d with
 | zero =>
  intro i acc hi ha
  refine Ev.step (f := fun _ => some _) (fun k => ?_) (Ev.now _)
  simp only [Leaf.lens_Kraft.l0]
  rw [if_neg (by omega), List.drop_of_length_le (by omega)]
  rfl
 | succ d ih =>
  intro i acc hi ha
  have hlt : i < l.length := by omega
  rw [List.drop_eq_getElem_cons hlt, kraftL]
  by_cases h1 : l[i] ≥ 1
  ·by_cases h2 : l[i] ≤ 15
   ·rw [if_pos ⟨h1, h2⟩, ← Nat.add_assoc]
    have hp : 2 ^ (15 - l[i].toNat) ≤ 2 ^ 15 := Nat.pow_le_pow_right (by omega) (by omega)
    have e1 : wrap64 (15 - l[i]) = ((15 - l[i].toNat : Nat) : Int) := by rw [Bridge.wr (by omega) (by omega)]; omega
    have e2 : shl .i64 1 ((15 - l[i].toNat : Nat) : Int) = ((2 ^ (15 - l[i].toNat) : Nat) : Int) := by
     unfold shl
     rw [Int.toNat_natCast, Nat.min_eq_left (by show 15 - l[i].toNat ≤ 64; omega), i64_w, Int.one_mul]
     have h := Bridge.wrN (2 ^ (15 - l[i].toNat)) (by omega)
     rw [Int.natCast_pow] at h ⊢
     exact h
    refine Ev.step (fun k => ?_) (ih (i + 1) (acc + 2 ^ (15 - l[i].toNat)) (by omega) (by omega))
    simp only [Leaf.lens_Kraft.l0]
    rw [if_pos (by omega), if_pos (by omega), if_pos (by omega), rd_at l i hlt, if_pos h1, if_pos h2, e1, if_pos (by omega), e2, Bridge.wrS i (by omega), ← Int.natCast_add, Bridge.wrN _ (by omega)]
   ·rw [if_neg (fun h => h2 h.2), Nat.zero_add]
    refine Ev.step (fun k => ?_) (ih (i + 1) acc (by omega) (by omega))
    simp only [Leaf.lens_Kraft.l0]
    rw [if_pos (by omega), if_pos (by omega), if_pos (by omega), rd_at l i hlt, if_pos h1, if_neg h2, Bridge.wrS i (by omega)]
  ·rw [if_neg (fun h => h1 h.1), Nat.zero_add]
   refine Ev.step (fun k => ?_) (ih (i + 1) acc (by omega) (by omega))
   simp only [Leaf.lens_Kraft.l0]
   rw [if_pos (by omega), if_pos (by omega), if_pos (by omega), rd_at l i hlt, if_neg h1, Bridge.wrS i (by omega)]
theorem kraft_calls {A : Option Addr} {c : Nat} (l : List Int) {w : World} (hr : IntsIn w A l) (hc : l.length ≤ c) (hl : l.length ≤ 1000000) : Calls Tryz.prog 223 #[.slice A l.length c] w fun e w' => e = .returned (.int .i64 (kraftL l : Nat)) ∧ Drawn0 w w' := by
 have h := kraft_l0 l hl l.length 0 0 (by omega) (Nat.le_refl 0)
 rw [List.drop_zero, Nat.zero_add] at h
 obtain ⟨k, hk⟩ := h.rounds
 exact Leaf.lens_Kraft.calls k A c l _ w hr hc hk
theorem indexi_l0 (l : List Int) (x : Int) (hl : l.length ≤ 1000000) (d : Nat) : ∀ (i : Nat), i + d = l.length → ∃ r, Ev (fun k => Leaf.slices_Index_int_int.l0 k l x (l.length : Int) (i : Int)) r ∧ decide (r ≥ 0) = decide (x ∈ l.drop i) := by
 induction d with
 | zero =>
  intro i hi
  refine ⟨-1, Ev.step (f := fun _ => some _) (fun k => ?_) (Ev.now _), ?_⟩
  ·simp only [Leaf.slices_Index_int_int.l0]
   rw [if_neg (by omega)]
  ·rw [List.drop_of_length_le (by omega)]; simp
 | succ d ih =>
  intro i hi
  have hlt : i < l.length := by omega
  rw [List.drop_eq_getElem_cons hlt]
  by_cases h : x = l[i]
  ·refine ⟨(i : Int), Ev.step (f := fun _ => some _) (fun k => ?_) (Ev.now _), ?_⟩
   ·simp only [Leaf.slices_Index_int_int.l0]
    rw [if_pos (by omega), if_pos (by omega), if_pos (by omega), rd_at l i hlt, if_pos h]
   ·rw [decide_eq_decide]; exact ⟨fun _ => by rw [h]; exact List.mem_cons_self .., fun _ => by omega⟩
  ·obtain ⟨r, hr, hd⟩ := ih (i + 1) (by omega)
   refine ⟨r, Ev.step (fun k => ?_) hr, ?_⟩
   ·simp only [Leaf.slices_Index_int_int.l0]
    rw [if_pos (by omega), if_pos (by omega), if_pos (by omega), rd_at l i hlt, if_neg h, Bridge.wrS i (by omega)]
   ·rw [hd, decide_eq_decide]; exact ⟨fun h => List.mem_cons_of_mem _ h, fun h2 => by rcases List.mem_cons.1 h2 with e | e; exact absurd e h; exact e⟩
theorem containsi_calls {A : Option Addr} {c : Nat} (l : List Int) (x : Int) {w : World} (hr : IntsIn w A l) (hc : l.length ≤ c) (hl : l.length ≤ 1000000) : Calls Tryz.prog 224 #[.slice A l.length c, .int .i64 x] w fun e w' => e = .returned (.bool (decide (x ∈ l))) ∧ Drawn0 w w' := by
 obtain ⟨r, h, hd⟩ := indexi_l0 l x hl l.length 0 (by omega)
 rw [List.drop_zero] at hd
 obtain ⟨k, hk⟩ := h.rounds
 refine Leaf.slices_Contains_int_int.calls k A c l x _ w hr hc ?_
 have hk2 : Leaf.slices_Index_int_int.f k l x = some r := hk
 unfold Leaf.slices_Contains_int_int.f
 rw [hk2, ← hd]
 rfl
theorem out15_calls (x : Int) (w : World) : Calls Tryz.prog 222 #[.int .i64 x] w fun e w' => e = .returned (.bool (decide (Out15 x))) ∧ w = w' := by
 by_cases h1 : x < 0
 ·have d1 : decide (x < 0) = true := decide_eq_true h1
  rw [show decide (Out15 x) = true from decide_eq_true (.inl h1)]
  clear h1
  go_enter Tryz.func222, Tryz.ntmps222
  go_wp2_with fail
  go_ret
  exact ⟨rfl, rfl⟩
 ·have d1 : decide (x < 0) = false := decide_eq_false h1
  have e : decide (Out15 x) = decide (15 < x) := by rw [decide_eq_decide]; unfold Out15; omega
  rw [e]
  clear h1 e
  go_enter Tryz.func222, Tryz.ntmps222
  go_wp2_with fail
  go_ret
  exact ⟨rfl, rfl⟩
theorem indexf_calls {A : Option Addr} {c : Nat} (l : List Int) {w : World} (hr : IntsIn w A l) (hc : l.length ≤ c) (hl : l.length ≤ 1000000) (f : FuncId) (p : Int → Bool)
  (hf : ∀ (x : Int) (W : World), Calls Tryz.prog f #[.int .i64 x] W fun e w' => e = .returned (.bool (p x)) ∧ W = w')
  (eg : ∀ (args : Array Value) (W : World), (callFunc f args).run Tryz.prog W = .ok (.enter f args) W) :
  Calls Tryz.prog 227 #[.slice A l.length c, .func (.func f) #[] #[]] w fun e w' => (∃ r : Int, e = .returned (.int .i64 r) ∧ decide (0 ≤ r) = l.any p) ∧ w = w' := by
 have HR := Aside0.mk hr
 have HL := Aside0.mk hl
 clear hr hc hl
 go_enter Tryz.func227, Tryz.ntmps227
 go_wp2_with fail
 go_loopw [8] (fun v8 wr => ∃ i : Nat, v8 = .int .i64 (i : Int) ∧ Aside0 (i ≤ l.length ∧ (l.drop i).any p = l.any p) ∧ w = wr) (fun v8 _ => l.length - (intOf v8).toNat)
 case atStart => exact ⟨0, rfl, ⟨Nat.zero_le _, by rw [List.drop_zero]⟩, rfl⟩
 case round =>
  obtain ⟨i, rfl, HI, rfl⟩ := hrel
  have hi := HI.out.1
  by_cases hlt : i < l.length
  ·have d1 : decide ((i : Int) < (l.length : Int)) = true := decide_eq_true (by omega)
   have d1' : decide (i < l.length) = true := decide_eq_true hlt
   have HLT := Aside0.mk hlt
   have p1 : (0 : Int) ≤ (i : Int) := by omega
   have p2 : (i : Int) < (l.length : Int) := by omega
   obtain ⟨ad2, e2, hcell⟩ := Kd.at_int HR.out (i : Int) p1 p2
   rw [rd_at l i hlt, Int.toNat_natCast] at hcell
   have HA := HI.out.2
   rw [List.drop_eq_getElem_cons hlt, List.any_cons] at HA
   have HAA := Aside0.mk HA
   subst e2
   generalize l[i] = x at hcell HAA
   clear hi hlt HA
   cases hp : p x with
   | true =>
    rw [hp, Bool.true_or] at HAA
    go_wp2_with fail
    refine (hf x _).mono ?_
    rw [hp]
    rintro e w2 ⟨rfl, rfl⟩
    clear hp
    go_wp2_with fail
    go_ret
    refine ⟨⟨_, rfl, ?_⟩, rfl⟩
    rw [← HAA.out, decide_eq_true_iff]
    omega
   | false =>
    rw [hp, Bool.false_or] at HAA
    go_wp2_with fail
    refine (hf x _).mono ?_
    rw [hp]
    rintro e w2 ⟨rfl, rfl⟩
    clear hp
    go_wp2_with fail
    go_roundw
    case rel =>
     have h1 := HLT.out
     have h2 := HL.out
     exact ⟨i + 1, by rw [step1 i (by omega)], ⟨by omega, HAA.out⟩, trivial⟩
    case measure => have h1 := HLT.out; have h2 := HL.out; exact meas _ i h1 (by omega)
  ·have d1 : decide ((i : Int) < (l.length : Int)) = false := decide_eq_false (by omega)
   have d1' : decide (i < l.length) = false := decide_eq_false hlt
   have HA := HI.out.2
   rw [List.drop_of_length_le (by omega)] at HA
   clear hi hlt
   go_wp2_with fail
   go_ret
   exact ⟨⟨-1, rfl, by rw [← HA]; rfl⟩, rfl⟩
theorem containsf_calls {A : Option Addr} {c : Nat} (l : List Int) {w : World} (hr : IntsIn w A l) (hc : l.length ≤ c) (hl : l.length ≤ 1000000) (f : FuncId) (p : Int → Bool)
  (hf : ∀ (x : Int) (W : World), Calls Tryz.prog f #[.int .i64 x] W fun e w' => e = .returned (.bool (p x)) ∧ W = w')
  (eg : ∀ (args : Array Value) (W : World), (callFunc f args).run Tryz.prog W = .ok (.enter f args) W) :
  Calls Tryz.prog 217 #[.slice A l.length c, .func (.func f) #[] #[]] w fun e w' => e = .returned (.bool (l.any p)) ∧ w = w' := by
 have H := Aside0.mk (indexf_calls l hr hc hl f p hf eg)
 generalize l.any p = y at H ⊢
 clear hr hc hl hf eg
 go_enter Tryz.func217, Tryz.ntmps217
 go_wp2_with fail
 refine H.out.mono ?_
 rintro e w2 ⟨⟨r, rfl, hd⟩, rfl⟩
 subst hd
 go_wp2_with fail
 go_ret
 exact ⟨rfl, rfl⟩
theorem cright_calls {A : Option Addr} {c : Nat} (l : List Int) {w : World} (hr : IntsIn w A l) (hc : l.length ≤ c) (hl : l.length ≤ 1000000) : Calls Tryz.prog 195 #[.slice A l.length c] w fun e w' => e = .returned (.int .i64 (cright l)) ∧ Drawn0 w w' := by
 have HC := Aside0.mk (containsf_calls l hr hc hl 222 (fun x => decide (Out15 x)) out15_calls (fun args w => enters_ Tryz.func222 (by kernel_rfl) rfl args w))
 have HK := Aside0.mk (kraft_calls l hr hc hl)
 have HU := Aside0.mk (fun (W : World) (h : Drawn0 w W) => used_calls l (Kd.C_below hr h.below) hc hl)
 have HI := Aside0.mk (fun (W : World) (h : Drawn0 w W) => containsi_calls l 1 (Kd.C_below hr h.below) hc hl)
 obtain ⟨y, hy⟩ : ∃ y, y = l.any (fun x => decide (Out15 x)) := ⟨_, rfl⟩
 obtain ⟨k, hk⟩ : ∃ k, k = kraftL l := ⟨_, rfl⟩
 obtain ⟨n, hn⟩ : ∃ n, n = usedL l := ⟨_, rfl⟩
 obtain ⟨z, hz⟩ : ∃ z, z = decide ((1 : Int) ∈ l) := ⟨_, rfl⟩
 obtain ⟨q, hq⟩ : ∃ q, ((k : Int) == 32768) = q := ⟨_, rfl⟩
 have hR : cright l = if y = true then 1 else if q = true ∨ (n = 1 ∧ z = true) then 0 else 8 := by
  have c1 : (q = true ∨ (n = 1 ∧ z = true)) ↔ (kraftL l = 32768 ∨ (usedL l = 1 ∧ (1 : Int) ∈ l)) := by
   rw [hz, decide_eq_true_iff, ← hq, beq_iff_eq, ← hk, ← hn, show ((k : Int) = 32768) = (k = 32768) from propext ⟨fun h => by omega, fun h => by omega⟩]
  unfold cright
  rw [← hy]
  split
  ·rfl
  ·by_cases h : kraftL l = 32768 ∨ (usedL l = 1 ∧ (1 : Int) ∈ l)
   ·rw [if_pos h, if_pos (c1.2 h)]
   ·rw [if_neg h, if_neg (fun g => h (c1.1 g))]
 rw [hR]
 rw [← hy] at HC
 rw [← hk] at HK
 rw [← hn] at HU
 rw [← hz] at HI
 clear hR hy hk hn hz hr hc hl
 by_cases h1 : n = 1
 ·subst h1
  cases y <;> cases q <;> cases z <;> simp only [if_true, if_false, Bool.false_eq_true, true_or, or_true, and_true, and_false, or_false, false_or, true_and]
  all_goals
   go_enter Tryz.func195, Tryz.ntmps195
   go_wp2_with fail
   refine HC.out.mono ?_
   rintro e w1 ⟨rfl, rfl⟩
   go_wp2_with fail
   refine HK.out.mono ?_
   rintro e w2 ⟨rfl, hb2⟩
   have HB2 := Aside0.mk hb2
   clear hb2
   go_wp2_with fail
   refine (HU.out _ HB2.out).mono ?_
   rintro e w3 ⟨rfl, hb3⟩
   have HB3 := Aside0.mk (Drawn0.trans HB2.out hb3)
   clear hb3
   go_wp2_with fail
   refine (HI.out _ HB3.out).mono ?_
   rintro e w4 ⟨rfl, hb4⟩
   have HB4 := Aside0.mk (Drawn0.trans HB3.out hb4)
   clear hb4
   go_wp2
   go_ret
   exact ⟨rfl, HB4.out⟩
 ·have e1 : ((n : Int) == 1) = false := beq_eq_false_iff_ne.2 (by omega)
  have e2 : ((n : Int) = 1) = False := eq_false (by omega)
  have e3 : (n == 1) = false := beq_eq_false_iff_ne.2 h1
  cases y <;> cases q <;> simp only [if_true, if_false, Bool.false_eq_true, true_or, or_true, and_true, and_false, or_false, false_or, true_and, h1, false_and]
  all_goals
   clear h1
   go_enter Tryz.func195, Tryz.ntmps195
   go_wp2_with fail
   refine HC.out.mono ?_
   rintro e w1 ⟨rfl, rfl⟩
   go_wp2_with fail
   refine HK.out.mono ?_
   rintro e w2 ⟨rfl, hb2⟩
   have HB2 := Aside0.mk hb2
   clear hb2
   go_wp2_with fail
   refine (HU.out _ HB2.out).mono ?_
   rintro e w3 ⟨rfl, hb3⟩
   have HB3 := Aside0.mk (Drawn0.trans HB2.out hb3)
   clear hb3
   go_wp2
   go_ret
   exact ⟨rfl, HB3.out⟩
end Go.Proofs.YtepgkimlmoikmaaGreat
namespace Go.Proofs.YtepgkimlmoikmaaGreat
open Go.RowKit Go.Proofs.YtepgkimlmoikmaaGreat.Spec Go.Proofs.YtepgkimlmoikmaaGreatW.PrintWords Go.Proofs.YtepgkimlmoikmaaGreatW.PrintLast
open Go.Proofs.YtepgkimlmoikmaaGreatW.PrintMore
attribute [local go_sem ↓] Go.wp_at_zero Go.wp_at_succ
namespace Spec
def cnt (l : List Int) (n : Int) : Nat := l.countP (fun x => decide (x = n))
def preC (l : List Int) : Nat → Nat
 | 0 => 0
 | n + 1 => 2 * preC l n + cnt l ((n + 1 : Nat) : Int)
def cod (l : List Int) (i : Nat) : Int := if 1 ≤ l.getD i 0 ∧ l.getD i 0 ≤ 15 then ((2 * preC l ((l.getD i 0).toNat - 1) + cnt (l.take i) (l.getD i 0) : Nat) : Int) else 0
def codesL (l : List Int) : List Int := (List.range l.length).map (cod l)
def outL (l : List Int) (n : Nat) (s : Nat) : List Int := (List.range l.length).map fun i => if (1 ≤ l.getD i 0 ∧ l.getD i 0 < n) ∨ (l.getD i 0 = n ∧ i < s) then cod l i else 0
theorem outL_len (l : List Int) (n s : Nat) : (outL l n s).length = l.length := by unfold outL; rw [List.length_map, List.length_range]
theorem codesL_len (l : List Int) : (codesL l).length = l.length := by unfold codesL; rw [List.length_map, List.length_range]
theorem outL_at (l : List Int) (n s i : Nat) (hi : i < l.length) : (outL l n s)[i]? = some (if (1 ≤ l.getD i 0 ∧ l.getD i 0 < n) ∨ (l.getD i 0 = n ∧ i < s) then cod l i else 0) := by
 unfold outL
 rw [List.getElem?_map, List.getElem?_range hi]
 rfl
theorem outL_one (l : List Int) : outL l 1 0 = List.replicate l.length 0 := by
 apply List.ext_getElem?
 intro i
 by_cases hi : i < l.length
 ·rw [outL_at l 1 0 i hi, List.getElem?_replicate, if_pos hi, if_neg (by omega)]
 ·rw [List.getElem?_eq_none (by rw [outL_len]; omega), List.getElem?_eq_none (by rw [List.length_replicate]; omega)]
theorem outL_all (l : List Int) : outL l 16 0 = codesL l := by
 unfold outL codesL
 apply List.map_congr_left
 intro i hi
 split
 ·rfl
 ·rename_i h
  unfold cod
  rw [if_neg (by omega)]
theorem outL_next (l : List Int) (n : Nat) (h1 : 1 ≤ n) : outL l n l.length = outL l (n + 1) 0 := by
 unfold outL
 apply List.map_congr_left
 intro i hi
 rw [List.mem_range] at hi
 by_cases h : (1 ≤ l.getD i 0 ∧ l.getD i 0 < n) ∨ (l.getD i 0 = n ∧ i < l.length)
 ·rw [if_pos h, if_pos (by omega)]
 ·rw [if_neg h, if_neg (by omega)]
theorem outL_skip (l : List Int) (n s : Nat) (h : l.getD s 0 ≠ n) : outL l n (s + 1) = outL l n s := by
 unfold outL
 apply List.map_congr_left
 intro i hi
 by_cases h2 : (1 ≤ l.getD i 0 ∧ l.getD i 0 < n) ∨ (l.getD i 0 = n ∧ i < s)
 ·rw [if_pos h2, if_pos (by omega)]
 ·rw [if_neg h2, if_neg]
  rintro (g | ⟨g, g2⟩)
  ·exact h2 (.inl g)
  ·by_cases e : i = s
   ·subst e; exact h g
   ·exact h2 (.inr ⟨g, by omega⟩)
theorem outL_set (l : List Int) (n s : Nat) (hs : s < l.length) (h : l.getD s 0 = n) : outL l n (s + 1) = (outL l n s).set s (cod l s) := by
 apply List.ext_getElem?
 intro i
 by_cases hi : i < l.length
 ·rw [List.getElem?_set, outL_at l n (s + 1) i hi, outL_at l n s i hi]
  by_cases e : s = i
  ·subst e
   rw [if_pos rfl, if_pos (.inr ⟨h, by omega⟩), if_pos (by rw [outL_len]; exact hi)]
  ·rw [if_neg e]
   by_cases h2 : (1 ≤ l.getD i 0 ∧ l.getD i 0 < n) ∨ (l.getD i 0 = n ∧ i < s)
   ·rw [if_pos h2, if_pos (by omega)]
   ·rw [if_neg h2, if_neg (by omega)]
 ·rw [List.getElem?_eq_none (by rw [outL_len]; omega), List.getElem?_eq_none (by rw [List.length_set, outL_len]; omega)]
theorem cnt_le (l : List Int) (n : Int) : cnt l n ≤ l.length := List.countP_le_length
theorem preC_le (l : List Int) (n : Nat) : preC l n + l.length ≤ 2 ^ n * l.length := by
 induction n with
 | zero => rw [preC, Nat.pow_zero]; omega
 | succ n ih =>
  have h := cnt_le l ((n + 1 : Nat) : Int)
  rw [preC, Nat.pow_succ, Nat.mul_comm (2 ^ n) 2, Nat.mul_assoc]
  omega
theorem cnt_take (l : List Int) (n : Int) (s : Nat) (hs : s < l.length) : cnt (l.take (s + 1)) n = cnt (l.take s) n + (if l[s] = n then 1 else 0) := by
 unfold cnt
 rw [List.take_add_one, List.getElem?_eq_getElem hs, List.countP_append]
 congr 1
 simp [List.countP_cons]
end Spec
def RowI (w : World) (g : Nat) (l : List Int) : Prop := w.heap[g]? = some (.cells (l.map (Value.int .i64)).toArray 3 (0, 0))
theorem RowI.get {w : World} {g : Nat} {l : List Int} (h : RowI w g l) (i : Nat) (x : Int) (hx : l[i]? = some x) : w.cell? ⟨g, i, none⟩ = some (.int .i64 x) := by
 refine (blk_cell h i).trans ?_
 rw [List.getElem?_toArray, List.getElem?_map, hx]
 rfl
theorem RowI.fz {w : World} {g : Nat} {l : List Int} (h : RowI w g l) (i : Nat) : w.frozen? ⟨g, i, none⟩ = false := blk_frozen h i
theorem RowI.put {w : World} {g : Nat} {l : List Int} (h : RowI w g l) (i : Nat) (x : Int) : RowI (w.setCell ⟨g, i, none⟩ (.int .i64 x)) g (l.set i x) := by
 refine blk_put h i _ ?_
 rw [List.setIfInBounds_toArray, List.map_set]
theorem RowI.ints {w : World} {g : Nat} {l : List Int} (h : RowI w g l) (hl : l.length ≤ 100000) : IntsIn w (some ⟨g, 0, none⟩) l := by
 refine ⟨rfl, by omega, fun _ => ⟨_, rfl, fun j p hp => ⟨[.int .i64 p], rfl, rfl, fun i u hu => ?_⟩⟩⟩
 cases i with
 | zero =>
  obtain rfl : Value.int .i64 p = u := by injection hu
  have := h.get j p hp
  show w.cell? ((⟨g, 0, none⟩ : Addr).add (j * 1 + 0)) = _
  rw [add_plain, Nat.mul_one, Nat.add_zero]
  simpa using this
 | succ i => cases hu
theorem RowI.below {w w1 : World} {g : Nat} {l : List Int} (h : RowI w g l) (hb : Below w.heap.size w w1) : RowI w1 g l := blk_below h hb
theorem make_i (m : Nat) (h : m ≤ 100000) : ∀ W : World, (Instr.makeSlice 29 (.int .i64 (m : Int)) (.int .i64 (m : Int))).run Tryz.prog W = .ok (.slice (some ⟨W.heap.size, 0, none⟩) m m) (W.alloc (.cells (((List.replicate m (0 : Int)).map (Value.int .i64)).toArray) 3)) := by
 intro W
 obtain ⟨i0, hi, hzz⟩ := Option.map_eq_some_iff.1 Leaf.info3
 simp only [Prod.mk.injEq] at hzz
 obtain ⟨hz0, hz1, hz2⟩ := hzz
 have hr := run_make (P := Tryz.prog) W 29 3 i0 _ Tryz.underlying29 hi hz0 .i64 .i64 (m : Int) (m : Int) (by omega) (by omega) (by rw [hz2]; omega) (by omega)
 rw [hr]
 have he : madeCells (Value.int .i64 0).cells ((m : Int).toNat * i0.size) = ((List.replicate m (0 : Int)).map (Value.int .i64)).toArray := by
  rw [hz1, Int.toNat_natCast]
  apply Array.ext'
  apply List.ext_getElem
  ·simp [madeCells]
  ·intro i h1 h2
   simp [madeCells, Value.cells, Nat.mod_one]
 rw [he, Int.toNat_natCast]
theorem getD_at (l : List Int) (i : Nat) (h : i < l.length) : l.getD i 0 = l[i] := by rw [List.getD_eq_getElem?_getD, List.getElem?_eq_getElem h]; rfl
theorem cod_at (l : List Int) (s n : Nat) (hs : s < l.length) (h1 : 1 ≤ n) (h2 : n ≤ 15) (h : l[s] = (n : Int)) : cod l s = ((2 * preC l (n - 1) + cnt (l.take s) (n : Int) : Nat) : Int) := by
 unfold cod
 rw [getD_at l s hs, h, if_pos (by omega), Int.toNat_natCast]
theorem next_le (l : List Int) (n s : Nat) (hl : l.length ≤ 2000) (h2 : n ≤ 15) : 2 * preC l (n - 1) + cnt (l.take s) (n : Int) ≤ 134217728 := by
 have h3 := preC_le l (n - 1)
 have h4 := cnt_le (l.take s) (n : Int)
 rw [List.length_take] at h4
 have h5 : 2 ^ (n - 1) ≤ 2 ^ 15 := Nat.pow_le_pow_right (by omega) (by omega)
 have h6 : 2 ^ (n - 1) * l.length ≤ 2 ^ 15 * 2000 := Nat.mul_le_mul h5 hl
 omega
theorem codeof_no {A : Option Addr} {c : Nat} (l : List Int) {w : World} (hr : IntsIn w A l) (hc : l.length ≤ c) (hl : l.length ≤ 2000) (h0 : cright l ≠ 0) :
  Calls Tryz.prog 150 #[.slice A l.length c] w fun e w' => e = .returned (.tuple #[.slice none 0 0, .int .i64 (cright l)]) ∧ Below w.heap.size w w' := by
 have HC := Aside0.mk (cright_calls l hr hc (by omega))
 have e1 : (cright l == 0) = false := beq_eq_false_iff_ne.2 h0
 have e2 : (cright l = 0) = False := eq_false h0
 generalize cright l = z at *
 clear hr hc hl h0
 go_enter Tryz.func150, Tryz.ntmps150
 go_wp2_with fail
 refine HC.out.mono ?_
 rintro e w2 ⟨rfl, hb2⟩
 have HB2 := Aside0.mk hb2
 clear hb2
 go_wp2
 go_ret2
 exact ⟨rfl, HB2.out.below⟩
set_option maxHeartbeats 4000000 in
theorem codeof_yes {A : Option Addr} {c : Nat} (l : List Int) {w : World} (hr : IntsIn w A l) (hc : l.length ≤ c) (hl : l.length ≤ 2000) (h0 : cright l = 0) :
  Calls Tryz.prog 150 #[.slice A l.length c] w fun e w' => ∃ g, e = .returned (.tuple #[.slice (some ⟨g, 0, none⟩) l.length l.length, .int .i64 0]) ∧ RowI w' g (codesL l) ∧ w.heap.size ≤ g ∧ Below w.heap.size w w' := by
 have HC := Aside0.mk (cright_calls l hr hc (by omega))
 rw [h0] at HC
 have HR := Aside0.mk hr
 have HL := Aside0.mk hl
 have mk := make_i l.length (by omega)
 clear hr hc hl h0
 go_enter Tryz.func150, Tryz.ntmps150
 go_wp2_with fail
 refine HC.out.mono ?_
 rintro e w2 ⟨rfl, hb2⟩
 have HB2 := Aside0.mk hb2
 clear hb2
 go_wp2_with fail
 obtain ⟨g, hg⟩ : ∃ g, g = w2.heap.size := ⟨_, rfl⟩
 have HI1 : Aside0 (RowI (w2.alloc (.cells (Array.replicate l.length (Value.int .i64 0)) 3)) g (outL l 1 0)) := ⟨by unfold RowI; rw [outL_one, List.map_replicate, List.toArray_replicate, hg]; exact heap_alloc_new _ _⟩
 have HG : Aside0 (w.heap.size ≤ g) := ⟨by rw [hg]; exact HB2.out.below.size⟩
 have HB3 : Aside0 (Below w.heap.size w (w2.alloc (.cells (Array.replicate l.length (Value.int .i64 0)) 3))) := ⟨below_alloc HB2.out.below _⟩
 rw [← hg]
 generalize w2.alloc (.cells (Array.replicate l.length (Value.int .i64 0)) 3) = w3 at *
 clear hg mk HB2 HC
 go_loopw [6, 7] (fun v6 v7 wr => ∃ n : Nat, v6 = .int .i64 (preC l n : Nat) ∧ v7 = .int .i64 ((n : Int) + 1) ∧ Aside0 (n ≤ 15) ∧ Aside0 (RowI wr g (outL l (n + 1) 0)) ∧ Aside0 (Below w.heap.size w wr)) (fun _ v7 _ => 17 - (intOf v7).toNat)
 case atStart => exact ⟨0, rfl, rfl, ⟨Nat.zero_le _⟩, HI1, HB3⟩
 case round =>
  obtain ⟨n, rfl, rfl, HN, HI, HB⟩ := hrel
  by_cases hn : n = 15
  ·subst hn
   go_wp2_with fail
   go_ret2
   refine ⟨g, rfl, ?_, HG.out, HB.out⟩
   rw [← outL_all]
   exact HI.out
  ·have h15 := HN.out
   have d1 : decide ((n : Int) + 1 ≤ 15) = true := decide_eq_true (by omega)
   have d2 : (n : Int) + 1 ≤ 15 := by omega
   have HN2 := Aside0.mk (show n + 1 ≤ 15 by omega)
   have hnx := next_le l (n + 1) 0 HL.out (by omega)
   have hcz : cnt (l.take 0) ((n + 1 : Nat) : Int) = 0 := rfl
   rw [hcz, Nat.add_zero, Nat.add_sub_cancel] at hnx
   have q1 : wrap64 ((preC l n : Nat) * 2 : Int) = ((2 * preC l n : Nat) : Int) := by rw [Bridge.wr (by omega) (by omega)]; omega
   clear hn h15 hnx hcz
   go_wp2_with fail
   go_loopw [6, 25] (fun v6 v25 wq => ∃ s : Nat, v6 = .int .i64 ((2 * preC l n + cnt (l.take s) ((n + 1 : Nat) : Int) : Nat) : Int) ∧ v25 = .int .i64 (s : Int) ∧ Aside0 (s ≤ l.length) ∧ Aside0 (RowI wq g (outL l (n + 1) s)) ∧ Aside0 (Below w.heap.size w wq)) (fun _ v25 _ => l.length - (intOf v25).toNat)
   case atStart => exact ⟨0, by rw [q1]; rfl, rfl, ⟨Nat.zero_le _⟩, HI, HB⟩
   case round =>
    obtain ⟨s, rfl, rfl, HS, HI2, HB2⟩ := hrel
    have hs := HS.out
    by_cases hlt : s < l.length
    ·have d3 : decide ((s : Int) < (l.length : Int)) = true := decide_eq_true (by omega)
     have d3' : decide (s < l.length) = true := decide_eq_true hlt
     have HLT := Aside0.mk hlt
     have p1 : (0 : Int) ≤ (s : Int) := by omega
     have p2 : (s : Int) < (l.length : Int) := by omega
     have p3 : s < l.length := hlt
     obtain ⟨ad2, e2, hcell⟩ := Kd.at_int (Kd.C_below HR.out HB2.out) (s : Int) p1 p2
     rw [rd_at l s hlt, Int.toNat_natCast] at hcell
     have HCT := Aside0.mk (cnt_take l ((n + 1 : Nat) : Int) s hlt)
     have HGD := Aside0.mk (getD_at l s hlt)
     have hnx := next_le l (n + 1) s HL.out HN2.out
     rw [Nat.add_sub_cancel] at hnx
     subst e2
     by_cases hx : l[s] = ((n + 1 : Nat) : Int)
     ·have HCO := Aside0.mk (cod_at l s (n + 1) hlt (by omega) HN2.out hx)
      rw [Nat.add_sub_cancel] at HCO
      have HPUT := Aside0.mk (HI2.out.put s (cod l s))
      rw [← outL_set l (n + 1) s hlt (by rw [HGD.out, hx]), HCO.out] at HPUT
      have hy := HI2.out.get s _ (outL_at l (n + 1) s s hlt)
      rw [if_neg (by rw [HGD.out, hx]; omega)] at hy
      have hfz := HI2.out.fz s
      rw [hx, if_pos rfl] at HCT
      rw [hx] at hcell
      obtain ⟨v, hv⟩ : ∃ v, v = 2 * preC l n + cnt (l.take s) ((n + 1 : Nat) : Int) := ⟨_, rfl⟩
      rw [← hv] at HPUT hnx ⊢
      have HV := Aside0.mk hv
      have e1 : ((n + 1 : Nat) : Int) = (n : Int) + 1 := by omega
      rw [e1] at hcell
      have HNX := Aside0.mk hnx
      clear hs hlt hx hv hnx HCO HGD e1
      go_wp2_with fail
      go_roundw
      case rel =>
       have h1 := HLT.out
       have h2 := HL.out
       have h3 := HNX.out
       refine ⟨s + 1, ?_, by rw [step1 s (by omega)], ⟨by omega⟩, HPUT, ⟨HB2.out.setCell HG.out _⟩⟩
       rw [HCT.out, step1 v (by omega), HV.out]
       rfl
      case measure => have h1 := HLT.out; have h2 := HL.out; exact meas _ s h1 (by omega)
     ·have HSK := Aside0.mk (outL_skip l (n + 1) s (by rw [HGD.out]; exact hx))
      rw [if_neg hx, Nat.add_zero] at HCT
      generalize l[s] = x at hcell hx
      have e1 : (x == (n : Int) + 1) = false := beq_eq_false_iff_ne.2 (by omega)
      have e2 : (x = (n : Int) + 1) = False := eq_false (by omega)
      obtain ⟨v, hv⟩ : ∃ v, v = 2 * preC l n + cnt (l.take s) ((n + 1 : Nat) : Int) := ⟨_, rfl⟩
      rw [← hv] at hnx ⊢
      have HV := Aside0.mk hv
      clear hs hlt hx hv hnx HGD
      go_wp2_with fail
      go_roundw
      case rel =>
       have h1 := HLT.out
       have h2 := HL.out
       refine ⟨s + 1, ?_, by rw [step1 s (by omega)], ⟨by omega⟩, ⟨by rw [HSK.out]; exact HI2.out⟩, HB2⟩
       rw [HCT.out, HV.out]
       rfl
      case measure => have h1 := HLT.out; have h2 := HL.out; exact meas _ s h1 (by omega)
    ·have d3 : decide ((s : Int) < (l.length : Int)) = false := decide_eq_false (by omega)
     have d3' : decide (s < l.length) = false := decide_eq_false hlt
     have hse : s = l.length := by omega
     have HSE := Aside0.mk hse
     clear hs hlt hse
     go_wp2_with fail
     go_roundw
     case rel =>
      have h1 := HN2.out
      refine ⟨n + 1, ?_, ?_, ⟨by omega⟩, ⟨?_⟩, HB2⟩
      ·rw [HSE.out, List.take_length, preC]
      ·rw [Int.natCast_add]
       rfl
      ·rw [← outL_next l (n + 1) (by omega), ← HSE.out]
       exact HI2.out
     case measure =>
      have h1 := HN2.out
      show 17 - ((n : Int) + 1 + 1).toNat < 17 - ((n : Int) + 1).toNat
      omega
end Go.Proofs.YtepgkimlmoikmaaGreat
set_option linter.unusedVariables false
set_option linter.unusedSimpArgs false
namespace Go.Proofs.YtepgkimlmoikmaaGreat
open Go.RowKit Go.Proofs.YtepgkimlmoikmaaGreat.Spec Go.Proofs.YtepgkimlmoikmaaGreatW.PrintWords Go.Proofs.YtepgkimlmoikmaaGreatW.PrintLast
open Go.Proofs.YtepgkimlmoikmaaGreatW.PrintMore
attribute [local go_sem ↓] Go.wp_at_zero Go.wp_at_succ
attribute [local go_sem] max2_int min2_int max_two min_two
def bitG (B : List Nat) (i : Nat) : Nat := B.getD i 0
def byteB (B : List Nat) (k : Nat) : Nat := bitG B (8 * k) * 128 + bitG B (8 * k + 1) * 64 + bitG B (8 * k + 2) * 32 + bitG B (8 * k + 3) * 16 + bitG B (8 * k + 4) * 8 + bitG B (8 * k + 5) * 4 + bitG B (8 * k + 6) * 2 + bitG B (8 * k + 7)
def bytesB (B : List Nat) : List Nat := (List.range ((B.length + 7) / 8)).map (byteB B)
def Bits (B : List Nat) : Prop := ∀ x ∈ B, x ≤ 1
theorem bitG_le {B : List Nat} (h : Bits B) (i : Nat) : bitG B i ≤ 1 := by
 unfold bitG
 rw [List.getD_eq_getElem?_getD]
 cases hx : B[i]? with
 | none => exact Nat.zero_le _
 | some x => exact h x (List.mem_of_getElem? hx)
theorem bitG_off {B : List Nat} {i : Nat} (h : B.length ≤ i) : bitG B i = 0 := by
 unfold bitG
 rw [List.getD_eq_getElem?_getD, List.getElem?_eq_none h]
 rfl
theorem bitG_snoc (B : List Nat) (t i : Nat) : bitG (B ++ [t]) i = if i = B.length then t else bitG B i := by
 unfold bitG
 rw [List.getD_eq_getElem?_getD, List.getD_eq_getElem?_getD]
 by_cases h : i = B.length
 ·subst h
  rw [if_pos rfl, List.getElem?_append_right (Nat.le_refl _), Nat.sub_self]
  rfl
 ·rw [if_neg h]
  by_cases h2 : i < B.length
  ·rw [List.getElem?_append_left h2]
  ·rw [List.getElem?_eq_none (by rw [List.length_append, List.length_singleton]; omega), List.getElem?_eq_none (by omega)]
theorem byteB_small {B : List Nat} (h : Bits B) (k : Nat) : byteB B k < 256 := by
 have h0 := bitG_le h (8 * k)
 have h1 := bitG_le h (8 * k + 1)
 have h2 := bitG_le h (8 * k + 2)
 have h3 := bitG_le h (8 * k + 3)
 have h4 := bitG_le h (8 * k + 4)
 have h5 := bitG_le h (8 * k + 5)
 have h6 := bitG_le h (8 * k + 6)
 have h7 := bitG_le h (8 * k + 7)
 unfold byteB
 omega
theorem byteB_other (B : List Nat) (t k : Nat) (h : k ≠ B.length / 8) : byteB (B ++ [t]) k = byteB B k := by
 unfold byteB
 simp only [bitG_snoc]
 rw [if_neg (by omega), if_neg (by omega), if_neg (by omega), if_neg (by omega), if_neg (by omega), if_neg (by omega), if_neg (by omega), if_neg (by omega)]
theorem or_add (s m y : Nat) (hy : y < 2 ^ s) {x : Nat} (hx : x = 2 ^ s * m) : x ||| y = x + y := by
 rw [hx]
 exact (Nat.two_pow_add_eq_or_of_lt hy m).symm
theorem byteB_here {B : List Nat} (t : Nat) (ht : t ≤ 1) : byteB (B ++ [t]) (B.length / 8) = byteB B (B.length / 8) ||| t * 2 ^ (7 - B.length % 8) := by
 obtain ⟨k, j, hn, hk, hj, hj8⟩ : ∃ k j, B.length = 8 * k + j ∧ B.length / 8 = k ∧ B.length % 8 = j ∧ j < 8 := ⟨B.length / 8, B.length % 8, by omega, rfl, rfl, by omega⟩
 rw [hk, hj]
 have ho : ∀ i, j ≤ i → bitG B (8 * k + i) = 0 := fun i hi => bitG_off (by omega)
 have hs : ∀ i, i ≠ j → bitG (B ++ [t]) (8 * k + i) = bitG B (8 * k + i) := fun i hi => by rw [bitG_snoc, if_neg (by omega)]
 have hsj : bitG (B ++ [t]) (8 * k + j) = t := by rw [bitG_snoc, if_pos (by omega)]
 have e0 := ho 0
 have e1 := ho 1
 have e2 := ho 2
 have e3 := ho 3
 have e4 := ho 4
 have e5 := ho 5
 have e6 := ho 6
 have e7 := ho 7
 have s0 := hs 0
 have s1 := hs 1
 have s2 := hs 2
 have s3 := hs 3
 have s4 := hs 4
 have s5 := hs 5
 have s6 := hs 6
 have s7 := hs 7
 rw [Nat.add_zero] at e0 s0
 have hx : byteB B k = 2 ^ (8 - j) * (byteB B k / 2 ^ (8 - j)) := by
  clear s0 s1 s2 s3 s4 s5 s6 s7 hs hsj ho
  unfold byteB
  match j, hj8 with
  | 0, _ | 1, _ | 2, _ | 3, _ | 4, _ | 5, _ | 6, _ | 7, _ => omega
 have hy : t * 2 ^ (7 - j) < 2 ^ (8 - j) := by
  match j, hj8 with
  | 0, _ | 1, _ | 2, _ | 3, _ | 4, _ | 5, _ | 6, _ | 7, _ => omega
 rw [or_add (8 - j) _ _ hy hx]
 unfold byteB
 clear hx hy hs ho
 match j, hj8 with
 | 0, _ | 1, _ | 2, _ | 3, _ | 4, _ | 5, _ | 6, _ | 7, _ => (try rw [Nat.add_zero] at hsj); omega
theorem bytesB_len (B : List Nat) : (bytesB B).length = (B.length + 7) / 8 := by simp [bytesB]
theorem bytesB_get (B : List Nat) {k : Nat} (h : k < (B.length + 7) / 8) : (bytesB B)[k]? = some (byteB B k) := by
 unfold bytesB
 rw [List.getElem?_map, List.getElem?_range h]
 rfl
theorem byteB_off {B : List Nat} {k : Nat} (h : B.length ≤ 8 * k) : byteB B k = 0 := by
 unfold byteB
 rw [bitG_off (by omega), bitG_off (by omega), bitG_off (by omega), bitG_off (by omega), bitG_off (by omega), bitG_off (by omega), bitG_off (by omega), bitG_off (by omega)]
theorem bytesB_snoc (B : List Nat) (t : Nat) (ht : t ≤ 1) : bytesB (B ++ [t]) = (if B.length % 8 = 0 then bytesB B ++ [0] else bytesB B).set (B.length / 8) (byteB B (B.length / 8) ||| t * 2 ^ (7 - B.length % 8)) := by
 have hl : (if B.length % 8 = 0 then bytesB B ++ [0] else bytesB B).length = B.length / 8 + 1 := by
  split
  ·rw [List.length_append, bytesB_len, List.length_singleton]; omega
  ·rw [bytesB_len]; omega
 refine List.ext_getElem? fun k => ?_
 rw [List.getElem?_set, hl]
 by_cases hk : k < B.length / 8 + 1
 ·rw [bytesB_get _ (by rw [List.length_append, List.length_singleton]; omega)]
  by_cases he : B.length / 8 = k
  ·rw [if_pos he, if_pos (by omega), ← he, byteB_here t ht]
  ·rw [if_neg he, byteB_other B t k (fun e => he e.symm)]
   have hk2 : k < (B.length + 7) / 8 := by omega
   split
   ·rw [List.getElem?_append_left (by rw [bytesB_len]; exact hk2), bytesB_get _ hk2]
   ·rw [bytesB_get _ hk2]
 ·rw [List.getElem?_eq_none (by rw [bytesB_len, List.length_append, List.length_singleton]; omega), if_neg (by omega), List.getElem?_eq_none (by rw [hl]; omega)]
def bitsOf (c n : Nat) : List Nat := (List.range n).map fun i => c / 2 ^ (n - 1 - i) % 2
theorem bitsOf_len (c n : Nat) : (bitsOf c n).length = n := by simp [bitsOf]
theorem bitsOf_get (c : Nat) {n i : Nat} (h : i < n) : (bitsOf c n)[i]? = some (c / 2 ^ (n - 1 - i) % 2) := by
 unfold bitsOf
 rw [List.getElem?_map, List.getElem?_range h]
 rfl
theorem bits_app {B C : List Nat} (h : Bits B) (h2 : Bits C) : Bits (B ++ C) := fun x hx => (List.mem_append.1 hx).elim (h x) (h2 x)
def intN (ns : List Nat) : List Int := ns.map fun (s : Nat) => (s : Int)
theorem intN_len (ns : List Nat) : (intN ns).length = ns.length := by simp [intN]
end Go.Proofs.YtepgkimlmoikmaaGreat
