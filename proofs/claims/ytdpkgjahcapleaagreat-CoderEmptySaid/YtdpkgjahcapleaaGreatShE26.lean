/- ShE: a part of its proof (contracts of the functions that it reaches, and the plain mathematics behind them). -/
import Derived.Test.YtdpkgjahcapleaaGreatShE27
set_option linter.unusedVariables false
set_option linter.unusedSimpArgs false
set_option linter.unusedVariables false
set_option linter.unusedSimpArgs false
namespace Go.Proofs.YtdpkgjahcapleaaGreat
open Go.RowKit Go.Proofs.YtdpkgjahcapleaaGreat.Spec Go.Proofs.YtdpkgjahcapleaaGreatW.PrintWords Go.Proofs.YtdpkgjahcapleaaGreatW.PrintLast
open Go.Proofs.YtdpkgjahcapleaaGreatW.PrintMore
attribute [local go_sem ↓] Go.wp_at_zero Go.wp_at_succ
attribute [local go_sem] max2_int min2_int max_two min_two
namespace Spec
def ofB (l : List UInt8) : Nat := l.foldl (fun n c => n * 256 + c.toNat) 0
def byteAt (b : ByteArray) (i : Nat) : Nat := ((u b).getD i 0).toNat
def beB (v : Nat) : Nat → List UInt8
  | 0 => []
  | n + 1 => UInt8.ofNat (v / 256 ^ n % 256) :: beB v n
def fitsR (kind raw n : Nat) : Prop := (1 ≤ raw ∧ raw ≤ 1024) ∧ 1 ≤ n ∧ (kind = 1 ∧ n = raw ∨ kind = 2 ∧ n < raw)
instance (kind raw n : Nat) : Decidable (fitsR kind raw n) := inferInstanceAs (Decidable ((1 ≤ raw ∧ raw ≤ 1024) ∧ 1 ≤ n ∧ (kind = 1 ∧ n = raw ∨ kind = 2 ∧ n < raw)))
theorem beB_len (v n : Nat) : (beB v n).length = n := by
  induction n with
  | zero => rfl
  | succ n ih => rw [beB, List.length_cons, ih]
theorem ofB_acc (l : List UInt8) : ∀ a, l.foldl (fun n c => n * 256 + c.toNat) a = a * 256 ^ l.length + ofB l := by
  unfold ofB
  induction l with
  | nil => intro a; simp
  | cons c t ih =>
    intro a
    rw [List.foldl_cons, List.foldl_cons, ih, ih (0 * 256 + c.toNat), List.length_cons, Nat.pow_succ, Nat.add_mul, Nat.mul_comm (256 ^ t.length) 256, ← Nat.mul_assoc, Nat.zero_mul, Nat.zero_add, Nat.add_assoc]
theorem ofB_cons (c : UInt8) (l : List UInt8) : ofB (c :: l) = c.toNat * 256 ^ l.length + ofB l := by
  have := ofB_acc l (0 * 256 + c.toNat)
  rw [Nat.zero_mul, Nat.zero_add] at this
  rw [← this]
  unfold ofB
  rw [List.foldl_cons, Nat.zero_mul, Nat.zero_add]
theorem ofB_beB (v n : Nat) : ofB (beB v n) = v % 256 ^ n := by
  induction n with
  | zero => rw [Nat.pow_zero, Nat.mod_one]; rfl
  | succ n ih =>
    have h : (UInt8.ofNat (v / 256 ^ n % 256)).toNat = v / 256 ^ n % 256 := by rw [UInt8.toNat_ofNat']; exact Nat.mod_eq_of_lt (Nat.mod_lt _ (by decide))
    rw [beB, ofB_cons, beB_len, ih, h, Nat.pow_succ, Nat.mod_mul, Nat.mul_comm (256 ^ n), Nat.add_comm]
theorem ofB_lt (l : List UInt8) : ofB l < 256 ^ l.length := by
  induction l with
  | nil => exact Nat.one_pos
  | cons c t ih =>
    rw [ofB_cons, List.length_cons, Nat.pow_succ]
    have hc := c.toNat_lt
    have h2 : (c.toNat + 1) * 256 ^ t.length ≤ 256 * 256 ^ t.length := Nat.mul_le_mul_right _ (by omega)
    rw [Nat.add_mul] at h2
    omega
theorem u_ext (b : ByteArray) (i j : Nat) : u (b.extract i j) = ((u b).drop i).take (j - i) := by
  unfold u
  rw [ByteArray.data_extract, Array.toList_extract, List.extract_eq_take_drop]
theorem ext_sz (b : ByteArray) (i j : Nat) (h : j ≤ b.size) : (b.extract i j).size = j - i := by
  rw [← u_size, u_ext, List.length_take, List.length_drop, u_size]
  omega
theorem ofB_ext (b : ByteArray) (i j : Nat) : ofB (u (b.extract i j)) < 256 ^ (j - i) := by
  have h := ofB_lt (u (b.extract i j))
  have h1 : (u (b.extract i j)).length ≤ j - i := by rw [u_ext, List.length_take]; omega
  have h2 : 256 ^ (u (b.extract i j)).length ≤ 256 ^ (j - i) := Nat.pow_le_pow_right (by omega) h1
  omega
end Spec
namespace Bridge
open Leaf
theorem or8 (a c : Nat) (ha : a * 256 < 18446744073709551616) (hc : c < 256) : Go.bits .or .u64 ((a * 256 : Nat) : Int) (c : Int) = ((a * 256 + c : Nat) : Int) := by
  have h1 : a ≤ 72057594037927935 := Nat.le_of_lt_succ (Nat.lt_of_mul_lt_mul_right (a := 256) ha)
  have h2 : a * 256 + c < 18446744073709551616 := Nat.lt_of_lt_of_le (Nat.add_lt_add_of_le_of_lt (Nat.mul_le_mul_right 256 h1) hc) (Nat.le_refl _)
  have e1 : BitVec.ofInt 64 ((a * 256 : Nat) : Int) = BitVec.ofNat 64 (a * 256) := by rw [BitVec.ofInt_natCast]
  have e2 : BitVec.ofInt 64 (c : Int) = BitVec.ofNat 64 c := by rw [BitVec.ofInt_natCast]
  have e4 : ((BitVec.ofNat 64 (a * 256)) ||| (BitVec.ofNat 64 c)).toNat = a * 256 + c := by
    rw [BitVec.toNat_or, BitVec.toNat_ofNat, BitVec.toNat_ofNat, Nat.mod_eq_of_lt ha, Nat.mod_eq_of_lt (by omega)]
    have h3 := Nat.two_pow_add_eq_or_of_lt (i := 8) (show c < 2 ^ 8 from hc) a
    rw [show (2 : Nat) ^ 8 * a = a * 256 by rw [Nat.mul_comm]] at h3
    exact h3.symm
  unfold Go.bits
  show IntKind.u64.wrap (((BitVec.ofInt 64 ((a * 256 : Nat) : Int)) ||| (BitVec.ofInt 64 (c : Int))).toNat : Int) = _
  rw [e1, e2, e4]
  exact u64_wrap_nat h2
theorem num_step (a : Nat) (c : UInt8) (ha : a * 256 < 18446744073709551616) : Go.bits .or .u64 (IntKind.u64.wrap ((a : Int) * 256)) (IntKind.u64.wrap (c.toNat : Int)) = ((a * 256 + c.toNat : Nat) : Int) := by
  have hc := c.toNat_lt
  rw [show ((a : Int) * 256) = ((a * 256 : Nat) : Int) by omega, u64_wrap_nat ha, u64_wrap_nat (by omega), or8 a c.toNat ha hc]
theorem fnum_l0 (b : ByteArray) (hb : b.size ≤ 8) (t : List UInt8) : ∀ (i a : Nat), i ≤ b.size → a < 256 ^ i → (u b).drop i = t → Ev (fun k => frame_num.l0 k b (a : Int) (b.size : Int) (i : Int)) (t.foldl (fun n c => n * 256 + c.toNat) a : Nat) := by
  induction t with
  | nil =>
    intro i a hi ha hd
    have : b.size = i := by have := congrArg List.length hd; rw [List.length_drop, u_size] at this; simp at this; omega
    refine Ev.step (f := fun _ => some _) (fun k => ?_) (Ev.now _)
    simp only [frame_num.l0]
    rw [if_neg (by omega)]
    rfl
  | cons c t ih =>
    intro i a hi ha hd
    obtain ⟨hlt, hc, hd2⟩ := drop_cons hd
    have hbt : bt b (i : Int) = (c.toNat : Int) := by rw [bt_u b i hlt, hc]
    rw [u_size] at hlt
    have hc := c.toNat_lt
    have hp : 256 ^ (i + 1) ≤ 256 ^ 8 := Nat.pow_le_pow_right (by omega) (by omega)
    have hs : 256 ^ (i + 1) = 256 ^ i * 256 := Nat.pow_succ ..
    have h8 : (256 : Nat) ^ 8 = 18446744073709551616 := by decide
    refine Ev.step (fun k => ?_) (ih (i + 1) (a * 256 + c.toNat) (by omega) (by omega) hd2)
    simp only [frame_num.l0]
    rw [if_pos (by omega), if_pos (by omega), if_pos (by omega), hbt, num_step a c (by omega), wrS i (by omega)]
theorem big_l0 (v : Nat) (hv : v < 18446744073709551616) (n : Nat) : ∀ (out : List Int), n ≤ 8 → out.length + n ≤ 100 → Ev (fun k => frame_big.l0 k (v : Int) ((n : Int) - 1) out) (str (out.map (fun x => UInt8.ofNat x.toNat) ++ beB v n)) := by
  induction n with
  | zero =>
    intro out hn ho
    refine Ev.step (f := fun _ => some _) (fun k => ?_) (Ev.now _)
    simp only [frame_big.l0]
    rw [if_neg (by omega), strOfNums_str, beB, List.append_nil]
  | succ n ih =>
    intro out hn ho
    have e1 : ((n + 1 : Nat) : Int) - 1 = (n : Int) := by omega
    rw [e1]
    have e2 : (shr .u64 (v : Int) (wrap64 (8 * (n : Int)))) % 256 = ((v / 256 ^ n % 256 : Nat) : Int) := by
      rw [wr (by omega) (by omega)]
      unfold shr
      rw [show min (8 * (n : Int)).toNat IntKind.u64.bits = 8 * n by show min _ 64 = _; omega]
      rw [show (256 : Nat) ^ n = 2 ^ (8 * n) by rw [Nat.pow_mul], Int.natCast_emod, Int.natCast_ediv, Int.natCast_pow]
      rfl
    have := ih (out ++ [((v / 256 ^ n % 256 : Nat) : Int)]) (by omega) (by rw [List.length_append, List.length_singleton]; omega)
    rw [show str ((out ++ [((v / 256 ^ n % 256 : Nat) : Int)]).map (fun x => UInt8.ofNat x.toNat) ++ beB v n) = str (out.map (fun x => UInt8.ofNat x.toNat) ++ beB v (n + 1)) by rw [List.map_append, List.append_assoc, beB]; rfl] at this
    refine Ev.step (fun k => ?_) this
    simp only [frame_big.l0]
    rw [if_pos (by omega), if_pos (by rw [wr (by omega) (by omega)]; omega), if_pos (by omega), e2, wr (x := (n : Int) - 1) (by omega) (by omega)]
end Bridge
theorem fnum_calls (b : ByteArray) (hb : b.size ≤ 8) (w : World) : Calls Tryz.prog 89 #[.string b] w fun e w' => e = .returned (.int .u64 (ofB (u b) : Nat)) ∧ Drawn0 w w' := by
  obtain ⟨k, hk⟩ := (Bridge.fnum_l0 b hb (u b) 0 0 (Nat.zero_le _) Nat.one_pos rfl).rounds
  exact Leaf.frame_num.calls k b _ w hk
theorem big_calls (v : Nat) (hv : v < 18446744073709551616) (n : Nat) (hn : 1 ≤ n ∧ n ≤ 8) (w : World) : Calls Tryz.prog 63 #[.int .u64 (v : Int), .int .i64 (n : Int)] w fun e w' => e = .returned (.string (str (beB v n))) ∧ Below w.heap.size w w' := by
  obtain ⟨k, hk⟩ := (Bridge.big_l0 v hv n [] hn.2 (by rw [List.length_nil]; omega)).rounds
  rw [List.map_nil, List.nil_append] at hk
  exact Leaf.frame_big.calls k v n _ w (by unfold Leaf.frame_big.f; rw [Bridge.wr (by omega) (by omega)]; exact hk)
theorem ffits_calls (kind raw n : Nat) (w : World) : Calls Tryz.prog 64 #[.int .i64 (kind : Int), .int .i64 (raw : Int), .int .i64 (n : Int)] w fun e w' => e = .returned (.bool (decide (fitsR kind raw n))) ∧ Drawn0 w w' := by
  refine Leaf.frame_fits.calls kind raw n _ w ?_
  unfold Leaf.frame_fits.f Leaf.frame_size.f
  by_cases h1 : 1 ≤ raw
  · rw [if_pos (by omega)]
    by_cases h2 : raw ≤ 1024
    · rw [decide_eq_true (show (raw : Int) ≤ 1024 by omega), Option.bind_some, if_pos rfl]
      by_cases h3 : 1 ≤ n
      · rw [if_pos (by omega)]
        by_cases h4 : kind = 1
        · rw [if_pos (by omega)]
          by_cases h5 : n = raw
          · rw [if_pos (by omega), decide_eq_true (show fitsR kind raw n from ⟨⟨h1, h2⟩, h3, .inl ⟨h4, h5⟩⟩)]
          · rw [if_neg (by omega), if_neg (by omega), decide_eq_false (show ¬ fitsR kind raw n by unfold fitsR; omega)]
        · rw [if_neg (by omega)]
          by_cases h5 : kind = 2
          · rw [if_pos (by omega)]
            congr 1
            rw [decide_eq_decide]
            unfold fitsR
            omega
          · rw [if_neg (by omega), decide_eq_false (show ¬ fitsR kind raw n by unfold fitsR; omega)]
      · rw [if_neg (by omega), decide_eq_false (show ¬ fitsR kind raw n by unfold fitsR; omega)]
    · rw [decide_eq_false (show ¬ (raw : Int) ≤ 1024 by omega), Option.bind_some, if_neg (by decide), decide_eq_false (show ¬ fitsR kind raw n by unfold fitsR; omega)]
  · rw [if_neg (by omega), Option.bind_some, if_neg (by decide), decide_eq_false (show ¬ fitsR kind raw n by unfold fitsR; omega)]
end Go.Proofs.YtdpkgjahcapleaaGreat
set_option linter.unusedVariables false
set_option linter.unusedSimpArgs false
namespace Go.Proofs.YtdpkgjahcapleaaGreat
open Go.RowKit Go.Proofs.YtdpkgjahcapleaaGreat.Spec Go.Proofs.YtdpkgjahcapleaaGreatW.PrintWords Go.Proofs.YtdpkgjahcapleaaGreatW.PrintLast
open Go.Proofs.YtdpkgjahcapleaaGreatW.PrintMore
attribute [local go_sem ↓] Go.wp_at_zero Go.wp_at_succ
attribute [local go_sem] max2_int min2_int max_two min_two
namespace Spec
def magicS : ByteArray := ⟨#[76, 88, 80, 72]⟩
structure Hd where
  c : Nat
  k : Nat
  id : Nat
  e : Nat
def headR (b : ByteArray) : Hd :=
  if b.size < 17 then ⟨0, 0, 0, 2⟩
  else if b.extract 0 4 ≠ magicS ∨ byteAt b 4 ≠ 1 then ⟨0, 0, 0, 3⟩
  else if 1 < byteAt b 5 then ⟨0, 0, 0, 8⟩
  else if ofB (u (b.extract 6 9)) < 1 ∨ 1024 < ofB (u (b.extract 6 9)) then ⟨0, 0, 0, 4⟩
  else ⟨byteAt b 5, ofB (u (b.extract 6 9)), ofB (u (b.extract 9 17)), 0⟩
structure Fr where
  kind : Nat
  raw : Nat
  sum : Nat
  pay : ByteArray
  n : Nat
  e : Nat
def frBad (e : Nat) : Fr := ⟨0, 0, 0, ⟨#[]⟩, 0, e⟩
def frameR (b : ByteArray) (blk : Nat) : Fr :=
  if b.size = 0 then frBad 2
  else if 2 < byteAt b 0 then frBad 3
  else if byteAt b 0 = 0 ∧ b.size < 5 ∨ byteAt b 0 ≠ 0 ∧ b.size < 9 then frBad 2
  else if byteAt b 0 = 0 then ⟨0, ofB (u (b.extract 1 5)), 0, ⟨#[]⟩, 5, 0⟩
  else if blk < ofB (u (b.extract 1 3)) ∨ ¬ fitsR (byteAt b 0) (ofB (u (b.extract 1 3))) (ofB (u (b.extract 3 5))) then frBad 10
  else if b.size - 9 < ofB (u (b.extract 3 5)) then frBad 2
  else ⟨byteAt b 0, ofB (u (b.extract 1 3)), ofB (u (b.extract 5 9)), b.extract 9 (9 + ofB (u (b.extract 3 5))), 9 + ofB (u (b.extract 3 5)), 0⟩
end Spec
theorem ext_app (b c : ByteArray) (i j : Nat) (h : j ≤ b.size) : (b ++ c).extract i j = b.extract i j := by
  apply u_inj
  rw [u_ext, u_ext, u_app]
  by_cases hi : i ≤ j
  · rw [List.drop_append_of_le_length (by rw [u_size]; omega), List.take_append_of_le_length (by rw [List.length_drop, u_size]; omega)]
  · rw [show j - i = 0 by omega, List.take_zero, List.take_zero]
theorem byte_app (b c : ByteArray) (i : Nat) (h : i < b.size) : byteAt (b ++ c) i = byteAt b i := by
  unfold byteAt
  rw [u_app, List.getD_eq_getElem?_getD, List.getD_eq_getElem?_getD, List.getElem?_append_left (by rw [u_size]; exact h)]
theorem head_app (b c : ByteArray) (h : 17 ≤ b.size) : headR (b ++ c) = headR b := by
  unfold headR
  have hz : (b ++ c).size = b.size + c.size := ByteArray.size_append ..
  rw [if_neg (show ¬ (b ++ c).size < 17 by omega), if_neg (show ¬ b.size < 17 by omega), ext_app b c 0 4 (by omega), ext_app b c 6 9 (by omega), ext_app b c 9 17 (by omega), byte_app b c 4 (by omega), byte_app b c 5 (by omega)]
theorem frame_app (b c : ByteArray) (blk : Nat) (h : (frameR b blk).e ≠ 2) : frameR (b ++ c) blk = frameR b blk := by
  have hz : (b ++ c).size = b.size + c.size := ByteArray.size_append ..
  unfold frameR at h ⊢
  by_cases h0 : b.size = 0
  · rw [if_pos h0] at h; exact absurd rfl h
  · rw [if_neg h0] at h ⊢
    rw [if_neg (by omega), byte_app b c 0 (by omega)]
    by_cases h1 : 2 < byteAt b 0
    · rw [if_pos h1, if_pos h1]
    · rw [if_neg h1] at h ⊢
      rw [if_neg h1]
      by_cases h2 : byteAt b 0 = 0 ∧ b.size < 5 ∨ byteAt b 0 ≠ 0 ∧ b.size < 9
      · rw [if_pos h2] at h; exact absurd rfl h
      · rw [if_neg h2] at h ⊢
        rw [if_neg (by omega)]
        by_cases h3 : byteAt b 0 = 0
        · rw [if_pos h3, if_pos h3, ext_app b c 1 5 (by omega)]
        · rw [if_neg h3] at h ⊢
          rw [if_neg h3, ext_app b c 1 3 (by omega), ext_app b c 3 5 (by omega), ext_app b c 5 9 (by omega)]
          by_cases h4 : blk < ofB (u (b.extract 1 3)) ∨ ¬ fitsR (byteAt b 0) (ofB (u (b.extract 1 3))) (ofB (u (b.extract 3 5)))
          · rw [if_pos h4, if_pos h4]
          · rw [if_neg h4] at h ⊢
            rw [if_neg h4]
            by_cases h5 : b.size - 9 < ofB (u (b.extract 3 5))
            · rw [if_pos h5] at h; exact absurd rfl h
            · rw [if_neg h5, if_neg (by omega), ext_app b c 9 _ (by omega)]
theorem frame_n (b : ByteArray) (blk : Nat) (h : (frameR b blk).e = 0) : 5 ≤ (frameR b blk).n ∧ (frameR b blk).n ≤ b.size ∧ (frameR b blk).n ≤ 1033 ∧ ((frameR b blk).kind = 0 ∧ (frameR b blk).raw < 4294967296 ∨ (1 ≤ (frameR b blk).kind ∧ (frameR b blk).kind ≤ 2) ∧ (1 ≤ (frameR b blk).raw ∧ (frameR b blk).raw ≤ 1024) ∧ (frameR b blk).pay.size ≤ 1024) := by
  unfold frameR at h ⊢
  by_cases h0 : b.size = 0
  · rw [if_pos h0] at h; exact absurd h (by decide)
  rw [if_neg h0] at h ⊢
  by_cases h1 : 2 < byteAt b 0
  · rw [if_pos h1] at h; exact absurd h (by decide)
  rw [if_neg h1] at h ⊢
  by_cases h2 : byteAt b 0 = 0 ∧ b.size < 5 ∨ byteAt b 0 ≠ 0 ∧ b.size < 9
  · rw [if_pos h2] at h; exact absurd h (by decide)
  rw [if_neg h2] at h ⊢
  by_cases h3 : byteAt b 0 = 0
  · rw [if_pos h3]
    have := ofB_ext b 1 5
    exact ⟨Nat.le_refl 5, show 5 ≤ b.size by omega, show 5 ≤ 1033 by omega, .inl ⟨rfl, this⟩⟩
  rw [if_neg h3] at h ⊢
  by_cases h4 : blk < ofB (u (b.extract 1 3)) ∨ ¬ fitsR (byteAt b 0) (ofB (u (b.extract 1 3))) (ofB (u (b.extract 3 5)))
  · rw [if_pos h4] at h; exact absurd h (by decide)
  rw [if_neg h4] at h ⊢
  have h4' : fitsR (byteAt b 0) (ofB (u (b.extract 1 3))) (ofB (u (b.extract 3 5))) := Decidable.not_not.1 (fun n => h4 (.inr n))
  unfold fitsR at h4'
  by_cases h5 : b.size - 9 < ofB (u (b.extract 3 5))
  · rw [if_pos h5] at h; exact absurd h (by decide)
  rw [if_neg h5]
  generalize ofB (u (b.extract 3 5)) = n at *
  generalize ofB (u (b.extract 1 3)) = r at *
  have hp : (b.extract 9 (9 + n)).size = n := by rw [ext_sz b 9 (9 + n) (by omega)]; omega
  exact ⟨show 5 ≤ 9 + n by omega, show 9 + n ≤ b.size by omega, show 9 + n ≤ 1033 by omega, .inr ⟨⟨show 1 ≤ byteAt b 0 by omega, show byteAt b 0 ≤ 2 by omega⟩, ⟨show 1 ≤ r by omega, show r ≤ 1024 by omega⟩, show (b.extract 9 (9 + n)).size ≤ 1024 by omega⟩⟩
theorem frame_held (b : ByteArray) (blk : Nat) (h : (frameR b blk).e = 2) : b.size ≤ 1032 := by
  unfold frameR at h
  by_cases h0 : b.size = 0
  · omega
  rw [if_neg h0] at h
  by_cases h1 : 2 < byteAt b 0
  · rw [if_pos h1] at h; exact absurd h (by decide)
  rw [if_neg h1] at h
  by_cases h2 : byteAt b 0 = 0 ∧ b.size < 5 ∨ byteAt b 0 ≠ 0 ∧ b.size < 9
  · omega
  rw [if_neg h2] at h
  by_cases h3 : byteAt b 0 = 0
  · rw [if_pos h3] at h; exact absurd h (show ¬ (0 : Nat) = 2 by decide)
  rw [if_neg h3] at h
  by_cases h4 : blk < ofB (u (b.extract 1 3)) ∨ ¬ fitsR (byteAt b 0) (ofB (u (b.extract 1 3))) (ofB (u (b.extract 3 5)))
  · rw [if_pos h4] at h; exact absurd h (by decide)
  rw [if_neg h4] at h
  have h4' : fitsR (byteAt b 0) (ofB (u (b.extract 1 3))) (ofB (u (b.extract 3 5))) := Decidable.not_not.1 (fun n => h4 (.inr n))
  unfold fitsR at h4'
  by_cases h5 : b.size - 9 < ofB (u (b.extract 3 5))
  · omega
  · rw [if_neg h5] at h; exact absurd h (show ¬ (0 : Nat) = 2 by decide)
end Go.Proofs.YtdpkgjahcapleaaGreat
