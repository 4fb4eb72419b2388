/- ShY: a part of its proof (contracts of the functions that it reaches, and the plain mathematics behind them). -/
import Derived.Test.YtepgkimlmoikmaaGreatShY32
import Derived.Deep.RegionHeld3
import Derived.Deep.DeepCutAuto
import Derived.Test.YtepgkimlmoikmaaGreatShY7
import Derived.Test.YtepgkimlmoikmaaGreatShY18
set_option linter.unusedVariables false
set_option linter.unusedSimpArgs false
set_option maxHeartbeats 2000000
set_option maxRecDepth 100000
set_option linter.unusedVariables false
set_option linter.unusedSimpArgs false
namespace Go.Proofs.YtepgkimlmoikmaaGreat
open Go.RowKit Go.Proofs.YtepgkimlmoikmaaGreat.Spec Go.Proofs.YtepgkimlmoikmaaGreatW.PrintWords Go.Proofs.YtepgkimlmoikmaaGreatW.PrintLast
open Go.Proofs.YtepgkimlmoikmaaGreatW.PrintMore
attribute [local go_sem ↓] Go.wp_at_zero Go.wp_at_succ
attribute [local go_sem] max2_int min2_int max_two min_two
namespace Spec
def ofB (l : List UInt8) : Nat := l.foldl (fun n c => n * 256 + c.toNat) 0
def byteAt (b : ByteArray) (i : Nat) : Nat := ((u b).getD i 0).toNat
def beB (v : Nat) : Nat → List UInt8
 | 0 => []
 | n + 1 => UInt8.ofNat (v / 256 ^ n % 256) :: beB v n
def fitsR (kind raw n : Nat) : Prop := (1 ≤ raw ∧ raw ≤ 1024) ∧ 1 ≤ n ∧ (kind = 1 ∧ n = raw ∨ kind = 2 ∧ n < raw)
instance (kind raw n : Nat) : Decidable (fitsR kind raw n) := inferInstanceAs (Decidable ((1 ≤ raw ∧ raw ≤ 1024) ∧ 1 ≤ n ∧ (kind = 1 ∧ n = raw ∨ kind = 2 ∧ n < raw)))
theorem beB_len (v n : Nat) : (beB v n).length = n := by
 induction n with
 | zero => rfl
 | succ n ih => rw [beB, List.length_cons, ih]
theorem ofB_acc (l : List UInt8) : ∀ a, l.foldl (fun n c => n * 256 + c.toNat) a = a * 256 ^ l.length + ofB l := by
 unfold ofB
 induction l with
 | nil => intro a; simp
 | cons c t ih =>
  intro a
  rw [List.foldl_cons, List.foldl_cons, ih, ih (0 * 256 + c.toNat), List.length_cons, Nat.pow_succ, Nat.add_mul, Nat.mul_comm (256 ^ t.length) 256, ← Nat.mul_assoc, Nat.zero_mul, Nat.zero_add, Nat.add_assoc]
theorem ofB_cons (c : UInt8) (l : List UInt8) : ofB (c :: l) = c.toNat * 256 ^ l.length + ofB l := by
 have := ofB_acc l (0 * 256 + c.toNat)
 rw [Nat.zero_mul, Nat.zero_add] at this
 rw [← this]
 unfold ofB
 rw [List.foldl_cons, Nat.zero_mul, Nat.zero_add]
theorem ofB_beB (v n : Nat) : ofB (beB v n) = v % 256 ^ n := by
 induction n with
 | zero => rw [Nat.pow_zero, Nat.mod_one]; rfl
 | succ n ih =>
  have h : (UInt8.ofNat (v / 256 ^ n % 256)).toNat = v / 256 ^ n % 256 := by rw [UInt8.toNat_ofNat']; exact Nat.mod_eq_of_lt (Nat.mod_lt _ (by decide))
  rw [beB, ofB_cons, beB_len, ih, h, Nat.pow_succ, Nat.mod_mul, Nat.mul_comm (256 ^ n), Nat.add_comm]
theorem ofB_lt (l : List UInt8) : ofB l < 256 ^ l.length := by
 induction l with
 | nil => exact Nat.one_pos
 | cons c t ih =>
  rw [ofB_cons, List.length_cons, Nat.pow_succ]
  have hc := c.toNat_lt
  have h2 : (c.toNat + 1) * 256 ^ t.length ≤ 256 * 256 ^ t.length := Nat.mul_le_mul_right _ (by omega)
  rw [Nat.add_mul] at h2
  omega
theorem u_ext (b : ByteArray) (i j : Nat) : u (b.extract i j) = ((u b).drop i).take (j - i) := by
 unfold u
 rw [ByteArray.data_extract, Array.toList_extract, List.extract_eq_take_drop]
theorem ext_sz (b : ByteArray) (i j : Nat) (h : j ≤ b.size) : (b.extract i j).size = j - i := by
 rw [← u_size, u_ext, List.length_take, List.length_drop, u_size]
 omega
theorem ofB_ext (b : ByteArray) (i j : Nat) : ofB (u (b.extract i j)) < 256 ^ (j - i) := by
 have h := ofB_lt (u (b.extract i j))
 have h1 : (u (b.extract i j)).length ≤ j - i := by rw [u_ext, List.length_take]; omega
 have h2 : 256 ^ (u (b.extract i j)).length ≤ 256 ^ (j - i) := Nat.pow_le_pow_right (by omega) h1
 omega
end Spec
namespace Bridge
open Leaf
theorem or8 (a c : Nat) (ha : a * 256 < 18446744073709551616) (hc : c < 256) : Go.bits .or .u64 ((a * 256 : Nat) : Int) (c : Int) = ((a * 256 + c : Nat) : Int) := by
 have h1 : a ≤ 72057594037927935 := Nat.le_of_lt_succ (Nat.lt_of_mul_lt_mul_right (a := 256) ha)
 have h2 : a * 256 + c < 18446744073709551616 := Nat.lt_of_lt_of_le (Nat.add_lt_add_of_le_of_lt (Nat.mul_le_mul_right 256 h1) hc) (Nat.le_refl _)
 have e1 : BitVec.ofInt 64 ((a * 256 : Nat) : Int) = BitVec.ofNat 64 (a * 256) := by rw [BitVec.ofInt_natCast]
 have e2 : BitVec.ofInt 64 (c : Int) = BitVec.ofNat 64 c := by rw [BitVec.ofInt_natCast]
 have e4 : ((BitVec.ofNat 64 (a * 256)) ||| (BitVec.ofNat 64 c)).toNat = a * 256 + c := by
  rw [BitVec.toNat_or, BitVec.toNat_ofNat, BitVec.toNat_ofNat, Nat.mod_eq_of_lt ha, Nat.mod_eq_of_lt (by omega)]
  have h3 := Nat.two_pow_add_eq_or_of_lt (i := 8) (show c < 2 ^ 8 from hc) a
  rw [show (2 : Nat) ^ 8 * a = a * 256 by rw [Nat.mul_comm]] at h3
  exact h3.symm
 unfold Go.bits
 show IntKind.u64.wrap (((BitVec.ofInt 64 ((a * 256 : Nat) : Int)) ||| (BitVec.ofInt 64 (c : Int))).toNat : Int) = _
 rw [e1, e2, e4]
 exact u64_wrap_nat h2
theorem num_step (a : Nat) (c : UInt8) (ha : a * 256 < 18446744073709551616) : Go.bits .or .u64 (IntKind.u64.wrap ((a : Int) * 256)) (IntKind.u64.wrap (c.toNat : Int)) = ((a * 256 + c.toNat : Nat) : Int) := by
 have hc := c.toNat_lt
 rw [show ((a : Int) * 256) = ((a * 256 : Nat) : Int) by omega, u64_wrap_nat ha, u64_wrap_nat (by omega), or8 a c.toNat ha hc]
theorem fnum_l0 (b : ByteArray) (hb : b.size ≤ 8) (t : List UInt8) : ∀ (i a : Nat), i ≤ b.size → a < 256 ^ i → (u b).drop i = t → Ev (fun k => frame_num.l0 k b (a : Int) (b.size : Int) (i : Int)) (t.foldl (fun n c => n * 256 + c.toNat) a : Nat) := by
 induction t with
 | nil =>
  intro i a hi ha hd
  have : b.size = i := by have := congrArg List.length hd; rw [List.length_drop, u_size] at this; simp at this; omega
  refine Ev.step (f := fun _ => some _) (fun k => ?_) (Ev.now _)
  simp only [frame_num.l0]
  rw [if_neg (by omega)]
  rfl
 | cons c t ih =>
  intro i a hi ha hd
  obtain ⟨hlt, hc, hd2⟩ := drop_cons hd
  have hbt : bt b (i : Int) = (c.toNat : Int) := by rw [bt_u b i hlt, hc]
  rw [u_size] at hlt
  have hc := c.toNat_lt
  have hp : 256 ^ (i + 1) ≤ 256 ^ 8 := Nat.pow_le_pow_right (by omega) (by omega)
  have hs : 256 ^ (i + 1) = 256 ^ i * 256 := Nat.pow_succ ..
  have h8 : (256 : Nat) ^ 8 = 18446744073709551616 := by decide
  refine Ev.step (fun k => ?_) (ih (i + 1) (a * 256 + c.toNat) (by omega) (by omega) hd2)
  simp only [frame_num.l0]
  rw [if_pos (by omega), if_pos (by omega), if_pos (by omega), hbt, num_step a c (by omega), wrS i (by omega)]
theorem big_l0 (v : Nat) (hv : v < 18446744073709551616) (n : Nat) : ∀ (out : List Int), n ≤ 8 → out.length + n ≤ 100 → Ev (fun k => frame_big.l0 k (v : Int) ((n : Int) - 1) out) (str (out.map (fun x => UInt8.ofNat x.toNat) ++ beB v n)) := by
 induction n with
 | zero =>
  intro out hn ho
  refine Ev.step (f := fun _ => some _) (fun k => ?_) (Ev.now _)
  simp only [frame_big.l0]
  rw [if_neg (by omega), strOfNums_str, beB, List.append_nil]
 | succ n ih =>
  intro out hn ho
  have e1 : ((n + 1 : Nat) : Int) - 1 = (n : Int) := by omega
  rw [e1]
  have e2 : (shr .u64 (v : Int) (wrap64 (8 * (n : Int)))) % 256 = ((v / 256 ^ n % 256 : Nat) : Int) := by
   rw [wr (by omega) (by omega)]
   unfold shr
   rw [show min (8 * (n : Int)).toNat IntKind.u64.bits = 8 * n by show min _ 64 = _; omega]
   rw [show (256 : Nat) ^ n = 2 ^ (8 * n) by rw [Nat.pow_mul], Int.natCast_emod, Int.natCast_ediv, Int.natCast_pow]
   rfl
  have := ih (out ++ [((v / 256 ^ n % 256 : Nat) : Int)]) (by omega) (by rw [List.length_append, List.length_singleton]; omega)
  rw [show str ((out ++ [((v / 256 ^ n % 256 : Nat) : Int)]).map (fun x => UInt8.ofNat x.toNat) ++ beB v n) = str (out.map (fun x => UInt8.ofNat x.toNat) ++ beB v (n + 1)) by rw [List.map_append, List.append_assoc, beB]; rfl] at this
  refine Ev.step (fun k => ?_) this
  simp only [frame_big.l0]
  rw [if_pos (by omega), if_pos (by rw [wr (by omega) (by omega)]; omega), if_pos (by omega), e2, wr (x := (n : Int) - 1) (by omega) (by omega)]
theorem rbig_l0 (n N : Nat) (hN : n ≤ N) (hN8 : N ≤ 8) : ∀ (v : Nat) (out : List UInt8), out.length + n = N → Ev (fun k => lexiphaneref1_Big.l0 k (v : Int) (List.replicate n 0 ++ out.map (fun c => (c.toNat : Int))) ((n : Int) - 1)) (str (beB v n ++ out)) := by
 induction n with
 | zero =>
  intro v out ho
  refine Ev.step (f := fun _ => some _) (fun k => ?_) (Ev.now _)
  simp only [lexiphaneref1_Big.l0]
  rw [if_neg (by omega), strOfNums_str, beB, List.nil_append, List.replicate_zero, List.nil_append, List.map_map]
  congr 2
  conv => rhs; rw [← List.map_id out]
  congr 1
  funext c
  exact UInt8.ofNat_toNat
 | succ n ih =>
  intro v out ho
  have e1 : ((n + 1 : Nat) : Int) - 1 = (n : Int) := by omega
  rw [e1]
  have := ih (by omega) (v / 256) (UInt8.ofNat (v % 256) :: out) (by rw [List.length_cons]; omega)
  have e2 : beB v (n + 1) ++ out = beB (v / 256) n ++ UInt8.ofNat (v % 256) :: out := by
   have : ∀ m, beB v (m + 1) = beB (v / 256) m ++ [UInt8.ofNat (v % 256)] := by
    intro m
    induction m with
    | zero => rw [beB, beB, beB, Nat.pow_zero, Nat.div_one]; rfl
    | succ m ih => rw [beB, ih, beB, List.cons_append, Nat.div_div_eq_div_mul, Nat.pow_succ, Nat.mul_comm 256]
   rw [this, List.append_assoc]
   rfl
  rw [e2]
  refine Ev.step (fun k => ?_) this
  simp only [lexiphaneref1_Big.l0]
  rw [if_pos (by omega), if_pos (by omega), if_pos (by simp; omega), wr (x := (n : Int) - 1) (by omega) (by omega)]
  congr 1
  rw [Int.toNat_natCast, List.replicate_succ', List.append_assoc, List.set_append_right _ _ (by simp), List.length_replicate, Nat.sub_self, List.map_cons]
  have hm : ((UInt8.ofNat (v % 256)).toNat : Int) = (v : Int) % 256 := by rw [UInt8.toNat_ofNat']; omega
  rw [hm]
  rfl
end Bridge
theorem fnum_calls (b : ByteArray) (hb : b.size ≤ 8) (w : World) : Calls Tryz.prog 199 #[.string b] w fun e w' => e = .returned (.int .u64 (ofB (u b) : Nat)) ∧ Drawn0 w w' := by
 obtain ⟨k, hk⟩ := (Bridge.fnum_l0 b hb (u b) 0 0 (Nat.zero_le _) Nat.one_pos rfl).rounds
 exact Leaf.frame_num.calls k b _ w hk
theorem big_calls (v : Nat) (hv : v < 18446744073709551616) (n : Nat) (hn : 1 ≤ n ∧ n ≤ 8) (w : World) : Calls Tryz.prog 164 #[.int .u64 (v : Int), .int .i64 (n : Int)] w fun e w' => e = .returned (.string (str (beB v n))) ∧ Below w.heap.size w w' := by
 obtain ⟨k, hk⟩ := (Bridge.big_l0 v hv n [] hn.2 (by rw [List.length_nil]; omega)).rounds
 rw [List.map_nil, List.nil_append] at hk
 exact Leaf.frame_big.calls k v n _ w (by unfold Leaf.frame_big.f; rw [Bridge.wr (by omega) (by omega)]; exact hk)
theorem rbig_calls (v : Nat) (hv : v < 18446744073709551616) (n : Nat) (hn : 1 ≤ n ∧ n ≤ 8) (w : World) : Calls Tryz.prog 117 #[.int .u64 (v : Int), .int .i64 (n : Int)] w fun e w' => e = .returned (.string (str (beB v n))) ∧ Below w.heap.size w w' := by
 obtain ⟨k, hk⟩ := (Bridge.rbig_l0 n n (Nat.le_refl _) hn.2 v [] (by simp)).rounds
 rw [List.map_nil, List.append_nil, List.append_nil] at hk
 exact Leaf.lexiphaneref1_Big.calls k v n _ w (by unfold Leaf.lexiphaneref1_Big.f; rw [if_pos (by omega), if_pos (by omega), Bridge.wr (by omega) (by omega), Int.toNat_natCast]; exact hk)
theorem ffits_calls (kind raw n : Nat) (w : World) : Calls Tryz.prog 165 #[.int .i64 (kind : Int), .int .i64 (raw : Int), .int .i64 (n : Int)] w fun e w' => e = .returned (.bool (decide (fitsR kind raw n))) ∧ Drawn0 w w' := by
 refine Leaf.frame_fits.calls kind raw n _ w ?_
 unfold Leaf.frame_fits.f Leaf.frame_size.f
 by_cases h1 : 1 ≤ raw
 ·rw [if_pos (by omega)]
  by_cases h2 : raw ≤ 1024
  ·rw [decide_eq_true (show (raw : Int) ≤ 1024 by omega), Option.bind_some, if_pos rfl]
   by_cases h3 : 1 ≤ n
   ·rw [if_pos (by omega)]
    by_cases h4 : kind = 1
    ·rw [if_pos (by omega)]
     by_cases h5 : n = raw
     ·rw [if_pos (by omega), decide_eq_true (show fitsR kind raw n from ⟨⟨h1, h2⟩, h3, .inl ⟨h4, h5⟩⟩)]
     ·rw [if_neg (by omega), if_neg (by omega), decide_eq_false (show ¬ fitsR kind raw n by unfold fitsR; omega)]
    ·rw [if_neg (by omega)]
     by_cases h5 : kind = 2
     ·rw [if_pos (by omega)]
      congr 1
      rw [decide_eq_decide]
      unfold fitsR
      omega
     ·rw [if_neg (by omega), decide_eq_false (show ¬ fitsR kind raw n by unfold fitsR; omega)]
   ·rw [if_neg (by omega), decide_eq_false (show ¬ fitsR kind raw n by unfold fitsR; omega)]
  ·rw [decide_eq_false (show ¬ (raw : Int) ≤ 1024 by omega), Option.bind_some, if_neg (by decide), decide_eq_false (show ¬ fitsR kind raw n by unfold fitsR; omega)]
 ·rw [if_neg (by omega), Option.bind_some, if_neg (by decide), decide_eq_false (show ¬ fitsR kind raw n by unfold fitsR; omega)]
end Go.Proofs.YtepgkimlmoikmaaGreat
set_option linter.unusedVariables false
set_option linter.unusedSimpArgs false
namespace Go.Proofs.YtepgkimlmoikmaaGreat
open Go.RowKit Go.Proofs.YtepgkimlmoikmaaGreat.Spec Go.Proofs.YtepgkimlmoikmaaGreatW.PrintWords Go.Proofs.YtepgkimlmoikmaaGreatW.PrintLast
open Go.Proofs.YtepgkimlmoikmaaGreatW.PrintMore
attribute [local go_sem ↓] Go.wp_at_zero Go.wp_at_succ
attribute [local go_sem] max2_int min2_int max_two min_two
namespace Spec
def magicS : ByteArray := ⟨#[76, 88, 80, 72]⟩
structure Hd where
 c : Nat
 k : Nat
 id : Nat
 e : Nat
def headR (b : ByteArray) : Hd :=
 if b.size < 17 then ⟨0, 0, 0, 2⟩
 else if b.extract 0 4 ≠ magicS ∨ byteAt b 4 ≠ 1 then ⟨0, 0, 0, 3⟩
 else if 1 < byteAt b 5 then ⟨0, 0, 0, 8⟩
 else if ofB (u (b.extract 6 9)) < 1 ∨ 1024 < ofB (u (b.extract 6 9)) then ⟨0, 0, 0, 4⟩
 else ⟨byteAt b 5, ofB (u (b.extract 6 9)), ofB (u (b.extract 9 17)), 0⟩
structure Fr where
 kind : Nat
 raw : Nat
 sum : Nat
 pay : ByteArray
 n : Nat
 e : Nat
def frBad (e : Nat) : Fr := ⟨0, 0, 0, ⟨#[]⟩, 0, e⟩
def frameR (b : ByteArray) (blk : Nat) : Fr :=
 if b.size = 0 then frBad 2
 else if 2 < byteAt b 0 then frBad 3
 else if byteAt b 0 = 0 ∧ b.size < 5 ∨ byteAt b 0 ≠ 0 ∧ b.size < 9 then frBad 2
 else if byteAt b 0 = 0 then ⟨0, ofB (u (b.extract 1 5)), 0, ⟨#[]⟩, 5, 0⟩
 else if blk < ofB (u (b.extract 1 3)) ∨ ¬ fitsR (byteAt b 0) (ofB (u (b.extract 1 3))) (ofB (u (b.extract 3 5))) then frBad 10
 else if b.size - 9 < ofB (u (b.extract 3 5)) then frBad 2
 else ⟨byteAt b 0, ofB (u (b.extract 1 3)), ofB (u (b.extract 5 9)), b.extract 9 (9 + ofB (u (b.extract 3 5))), 9 + ofB (u (b.extract 3 5)), 0⟩
end Spec
theorem ext_app (b c : ByteArray) (i j : Nat) (h : j ≤ b.size) : (b ++ c).extract i j = b.extract i j := by
 apply u_inj
 rw [u_ext, u_ext, u_app]
 by_cases hi : i ≤ j
 ·rw [List.drop_append_of_le_length (by rw [u_size]; omega), List.take_append_of_le_length (by rw [List.length_drop, u_size]; omega)]
 ·rw [show j - i = 0 by omega, List.take_zero, List.take_zero]
theorem byte_app (b c : ByteArray) (i : Nat) (h : i < b.size) : byteAt (b ++ c) i = byteAt b i := by
 unfold byteAt
 rw [u_app, List.getD_eq_getElem?_getD, List.getD_eq_getElem?_getD, List.getElem?_append_left (by rw [u_size]; exact h)]
theorem head_app (b c : ByteArray) (h : 17 ≤ b.size) : headR (b ++ c) = headR b := by
 unfold headR
 have hz : (b ++ c).size = b.size + c.size := ByteArray.size_append ..
 rw [if_neg (show ¬ (b ++ c).size < 17 by omega), if_neg (show ¬ b.size < 17 by omega), ext_app b c 0 4 (by omega), ext_app b c 6 9 (by omega), ext_app b c 9 17 (by omega), byte_app b c 4 (by omega), byte_app b c 5 (by omega)]
theorem frame_app (b c : ByteArray) (blk : Nat) (h : (frameR b blk).e ≠ 2) : frameR (b ++ c) blk = frameR b blk := by
 have hz : (b ++ c).size = b.size + c.size := ByteArray.size_append ..
 unfold frameR at h ⊢
 by_cases h0 : b.size = 0
 ·rw [if_pos h0] at h; exact absurd rfl h
 ·rw [if_neg h0] at h ⊢
  rw [if_neg (by omega), byte_app b c 0 (by omega)]
  by_cases h1 : 2 < byteAt b 0
  ·rw [if_pos h1, if_pos h1]
  ·rw [if_neg h1] at h ⊢
   rw [if_neg h1]
   by_cases h2 : byteAt b 0 = 0 ∧ b.size < 5 ∨ byteAt b 0 ≠ 0 ∧ b.size < 9
   ·rw [if_pos h2] at h; exact absurd rfl h
   ·rw [if_neg h2] at h ⊢
    rw [if_neg (by omega)]
    by_cases h3 : byteAt b 0 = 0
    ·rw [if_pos h3, if_pos h3, ext_app b c 1 5 (by omega)]
    ·rw [if_neg h3] at h ⊢
     rw [if_neg h3, ext_app b c 1 3 (by omega), ext_app b c 3 5 (by omega), ext_app b c 5 9 (by omega)]
     by_cases h4 : blk < ofB (u (b.extract 1 3)) ∨ ¬ fitsR (byteAt b 0) (ofB (u (b.extract 1 3))) (ofB (u (b.extract 3 5)))
     ·rw [if_pos h4, if_pos h4]
     ·rw [if_neg h4] at h ⊢
      rw [if_neg h4]
      by_cases h5 : b.size - 9 < ofB (u (b.extract 3 5))
      ·rw [if_pos h5] at h; exact absurd rfl h
      ·rw [if_neg h5, if_neg (by omega), ext_app b c 9 _ (by omega)]
theorem frame_n (b : ByteArray) (blk : Nat) (h : (frameR b blk).e = 0) : 5 ≤ (frameR b blk).n ∧ (frameR b blk).n ≤ b.size ∧ (frameR b blk).n ≤ 1033 ∧ ((frameR b blk).kind = 0 ∧ (frameR b blk).raw < 4294967296 ∨ (1 ≤ (frameR b blk).kind ∧ (frameR b blk).kind ≤ 2) ∧ (1 ≤ (frameR b blk).raw ∧ (frameR b blk).raw ≤ 1024) ∧ (frameR b blk).pay.size ≤ 1024) := by
 unfold frameR at h ⊢
 by_cases h0 : b.size = 0
 ·rw [if_pos h0] at h; exact absurd h (by decide)
 rw [if_neg h0] at h ⊢
 by_cases h1 : 2 < byteAt b 0
 ·rw [if_pos h1] at h; exact absurd h (by decide)
 rw [if_neg h1] at h ⊢
 by_cases h2 : byteAt b 0 = 0 ∧ b.size < 5 ∨ byteAt b 0 ≠ 0 ∧ b.size < 9
 ·rw [if_pos h2] at h; exact absurd h (by decide)
 rw [if_neg h2] at h ⊢
 by_cases h3 : byteAt b 0 = 0
 ·rw [if_pos h3]
  have := ofB_ext b 1 5
  exact ⟨Nat.le_refl 5, show 5 ≤ b.size by omega, show 5 ≤ 1033 by omega, .inl ⟨rfl, this⟩⟩
 rw [if_neg h3] at h ⊢
 by_cases h4 : blk < ofB (u (b.extract 1 3)) ∨ ¬ fitsR (byteAt b 0) (ofB (u (b.extract 1 3))) (ofB (u (b.extract 3 5)))
 ·rw [if_pos h4] at h; exact absurd h (by decide)
 rw [if_neg h4] at h ⊢
 have h4' : fitsR (byteAt b 0) (ofB (u (b.extract 1 3))) (ofB (u (b.extract 3 5))) := Decidable.not_not.1 (fun n => h4 (.inr n))
 unfold fitsR at h4'
 by_cases h5 : b.size - 9 < ofB (u (b.extract 3 5))
 ·rw [if_pos h5] at h; exact absurd h (by decide)
 rw [if_neg h5]
 generalize ofB (u (b.extract 3 5)) = n at *
 generalize ofB (u (b.extract 1 3)) = r at *
 have hp : (b.extract 9 (9 + n)).size = n := by rw [ext_sz b 9 (9 + n) (by omega)]; omega
 exact ⟨show 5 ≤ 9 + n by omega, show 9 + n ≤ b.size by omega, show 9 + n ≤ 1033 by omega, .inr ⟨⟨show 1 ≤ byteAt b 0 by omega, show byteAt b 0 ≤ 2 by omega⟩, ⟨show 1 ≤ r by omega, show r ≤ 1024 by omega⟩, show (b.extract 9 (9 + n)).size ≤ 1024 by omega⟩⟩
theorem frame_held (b : ByteArray) (blk : Nat) (h : (frameR b blk).e = 2) : b.size ≤ 1032 := by
 unfold frameR at h
 by_cases h0 : b.size = 0
 ·omega
 rw [if_neg h0] at h
 by_cases h1 : 2 < byteAt b 0
 ·rw [if_pos h1] at h; exact absurd h (by decide)
 rw [if_neg h1] at h
 by_cases h2 : byteAt b 0 = 0 ∧ b.size < 5 ∨ byteAt b 0 ≠ 0 ∧ b.size < 9
 ·omega
 rw [if_neg h2] at h
 by_cases h3 : byteAt b 0 = 0
 ·rw [if_pos h3] at h; exact absurd h (show ¬ (0 : Nat) = 2 by decide)
 rw [if_neg h3] at h
 by_cases h4 : blk < ofB (u (b.extract 1 3)) ∨ ¬ fitsR (byteAt b 0) (ofB (u (b.extract 1 3))) (ofB (u (b.extract 3 5)))
 ·rw [if_pos h4] at h; exact absurd h (by decide)
 rw [if_neg h4] at h
 have h4' : fitsR (byteAt b 0) (ofB (u (b.extract 1 3))) (ofB (u (b.extract 3 5))) := Decidable.not_not.1 (fun n => h4 (.inr n))
 unfold fitsR at h4'
 by_cases h5 : b.size - 9 < ofB (u (b.extract 3 5))
 ·omega
 ·rw [if_neg h5] at h; exact absurd h (show ¬ (0 : Nat) = 2 by decide)
end Go.Proofs.YtepgkimlmoikmaaGreat
set_option linter.unusedVariables false
set_option linter.unusedSimpArgs false
namespace Go.Proofs.YtepgkimlmoikmaaGreat
open Go.RowKit Go.Proofs.YtepgkimlmoikmaaGreat.Spec Go.Proofs.YtepgkimlmoikmaaGreatW.PrintWords Go.Proofs.YtepgkimlmoikmaaGreatW.PrintLast
open Go.Proofs.YtepgkimlmoikmaaGreatW.PrintMore
attribute [local go_sem ↓] Go.wp_at_zero Go.wp_at_succ
attribute [local go_sem] max2_int min2_int max_two min_two
theorem byte_get {b : ByteArray} {i : Nat} (h : i < b.size) : byteAt b i = (b[i]).toNat := by
 unfold byteAt
 rw [List.getD_eq_getElem?_getD, List.getElem?_eq_getElem (by rw [u_size]; exact h)]
 rfl
theorem byte_lt (b : ByteArray) (i : Nat) : byteAt b i < 256 := by
 unfold byteAt
 exact UInt8.toNat_lt _
theorem blk_new2 (w : World) (o : Obj) (g : Nat) (h : g = w.heap.size) : (w.alloc o).heap[g]? = some o := by subst h; exact blk_new w o
theorem below_set {w W : World} (h : Below w.heap.size w W) {g : Nat} (hg : w.heap.size ≤ g) (i : Nat) (v : Value) : Below w.heap.size w (W.setCell ⟨g, i, none⟩ v) := h.setCell hg v
theorem blk_put3 {w : World} {g t : Nat} {a b c a' b' c' : Value} (h : w.heap[g]? = some (.cells #[a, b, c] t (0, 0))) : (((w.setCell ⟨g, 0, none⟩ a').setCell ⟨g, 1, none⟩ b').setCell ⟨g, 2, none⟩ c').heap[g]? = some (.cells #[a', b', c'] t (0, 0)) := blk_put (blk_put (blk_put h 0 a' rfl) 1 b' rfl) 2 c' rfl
theorem getHead_calls (b : ByteArray) (hb : b.size ≤ 1000000000) (w : World) :
  Calls Tryz.prog 198 #[.string b] w fun e w' => e = .returned (.tuple #[.agg #[.int .i64 ((headR b).c : Int), .int .i64 ((headR b).k : Int), .int .u64 ((headR b).id : Int)], .int .i64 ((headR b).e : Int)]) ∧ Below w.heap.size w w' := by
 by_cases h0 : b.size < 17
 ·have hr : headR b = ⟨0, 0, 0, 2⟩ := by unfold headR; rw [if_pos h0]
  rw [hr]
  have d0 : decide ((b.size : Int) < 17) = true := decide_eq_true (by omega)
  have d0' : decide (b.size < 17) = true := decide_eq_true h0
  clear h0 hr
  go_enter Tryz.func198, Tryz.ntmps198
  go_wp2_with fail
  exact bodyPost_ret (v := .tuple #[.agg #[.int .i64 0, .int .i64 0, .int .u64 0], .int .i64 2]) (by simp [results, Tryz.results198, go_sem]) rfl ⟨rfl, (Below.refl _ _).alloc (Nat.le_refl _) _⟩
 ·have d0 : decide ((b.size : Int) < 17) = false := decide_eq_false (by omega)
  have d0' : decide (b.size < 17) = false := decide_eq_false h0
  have hk := ofB_ext b 6 9
  have HN1 := Aside0.mk (fun W => fnum_calls (b.extract 6 9) (by rw [ext_sz b 6 9 (by omega)]; decide) W)
  have HN2 := Aside0.mk (fun W => fnum_calls (b.extract 9 17) (by rw [ext_sz b 9 17 (by omega)]; decide) W)
  have z5 : 5 < b.size := by omega
  have q0 : IntKind.i64.wrap (((b[5]'z5).toNat : Nat) : Int) = (byteAt b 5 : Int) := by rw [byte_get z5]; exact (i64_w _).trans (Bridge.wrN _ (by have := (b[5]'z5).toNat_lt; omega))
  have q1 : IntKind.i64.wrap (ofB (u (b.extract 6 9)) : Int) = (ofB (u (b.extract 6 9)) : Int) := (i64_w _).trans (Bridge.wrN _ (by omega))
  have HR : Aside0 (headR b = if b.extract 0 4 ≠ magicS ∨ byteAt b 4 ≠ 1 then ⟨0, 0, 0, 3⟩
 else if 1 < byteAt b 5 then ⟨0, 0, 0, 8⟩
 else if ofB (u (b.extract 6 9)) < 1 ∨ 1024 < ofB (u (b.extract 6 9)) then ⟨0, 0, 0, 4⟩
 else ⟨byteAt b 5, ofB (u (b.extract 6 9)), ofB (u (b.extract 9 17)), 0⟩) := ⟨by unfold headR; rw [if_neg h0]⟩
  generalize ofB (u (b.extract 6 9)) = k at *
  generalize ofB (u (b.extract 9 17)) = id at *
  have hc5 := byte_lt b 5
  generalize byteAt b 5 = c5 at *
  have p1 : (5 : Int) < (b.size : Int) := by omega
  have p2 : (4 : Int) < (b.size : Int) := by omega
  have p3 : (9 : Int) ≤ (b.size : Int) := by omega
  have p4 : (17 : Int) ≤ (b.size : Int) := by omega
  have H5 := Aside0.mk hc5
  have H6 := Aside0.mk hk
  have H0 := Aside0.mk h0
  clear hc5 hk h0
  go_enter Tryz.func198, Tryz.ntmps198
  go_upto_region 3 with fail
  go_cut [4] (fun v4 wx => v4 = .pointer (some ⟨w.heap.size + 1, 0, none⟩) ∧ Aside0 (wx.heap[w.heap.size + 1]? = some (.cells #[.int .i64 (c5 : Int), .int .i64 (k : Int), .int .u64 (id : Int)] 90 (0, 0))) ∧ Aside0 (wx.heap[w.heap.size]? = some (.cells #[.int .i64 0, .int .i64 0, .int .u64 0] 90 (0, 0))) ∧ Aside0 (Below w.heap.size w wx))
  case first =>
   go_region_held3 (fun w' => Below w.heap.size w w') (repeat (first | exact Below.refl _ _ | apply below_alloc | apply below_drew | apply pw_below_drewN | refine Below.setCell ?_ (Nat.le_succ _) _)) ((go_at_call 199; first | ((with_reducible refine (HN1.out _).mono ?_); rintro e w1 ⟨rfl, ⟨⟨n1, rfl⟩⟩⟩) | ((with_reducible refine (HN2.out _).mono ?_); rintro e w1 ⟨rfl, ⟨⟨n1, rfl⟩⟩⟩)))
   all_goals
    go_wp2_with fail
    go_meet
    refine ⟨rfl, ⟨?_⟩, ⟨?_⟩, ⟨?_⟩⟩
    ·(try (with_reducible refine blk_put3 (a := .int .i64 0) (b := .int .i64 0) (c := .int .u64 0) ?_))
     repeat (with_reducible first | refine blk_drewN ?_ _ | refine blk_drew ?_ | (refine blk_new2 _ _ _ ?_; simp; done) | refine blk_alloc ?_ _)
    ·repeat (with_reducible first | refine blk_drewN ?_ _ | refine blk_drew ?_ | (refine blk_new2 _ _ _ ?_; rfl) | refine blk_alloc ?_ _ | refine blk_far ?_ (by simp) _)
    ·repeat (with_reducible first | exact Below.refl _ _ | apply below_alloc | apply below_drew | apply pw_below_drewN | refine below_set ?_ (Nat.le_succ _) _ _)
  case rest =>
   obtain ⟨rfl, HB1, HB0, HBW⟩ := hcut
   have c0 : wc.cell? ⟨w.heap.size + 1, 0, none⟩ = some (.int .i64 (c5 : Int)) := (blk_cell HB1.out 0).trans rfl
   have c1 : wc.cell? ⟨w.heap.size + 1, 1, none⟩ = some (.int .i64 (k : Int)) := (blk_cell HB1.out 1).trans rfl
   have c2 : wc.cell? ⟨w.heap.size + 1, 2, none⟩ = some (.int .u64 (id : Int)) := (blk_cell HB1.out 2).trans rfl
   have f0 := blk_frozen HB0.out 0
   have f1 := blk_frozen HB0.out 1
   have f2 := blk_frozen HB0.out 2
   have g0 : wc.cell? ⟨w.heap.size, 0, none⟩ = some (.int .i64 0) := (blk_cell HB0.out 0).trans rfl
   have g1 : wc.cell? ⟨w.heap.size, 1, none⟩ = some (.int .i64 0) := (blk_cell HB0.out 1).trans rfl
   have g2 : wc.cell? ⟨w.heap.size, 2, none⟩ = some (.int .u64 0) := (blk_cell HB0.out 2).trans rfl
   have HSZ := Aside0.mk (fun W => Leaf.frame_size.calls (k : Int) (decide (1 ≤ k ∧ k ≤ 1024)) W (by unfold Leaf.frame_size.f; split <;> (congr 1; first | (rw [decide_eq_decide]; omega) | (symm; rw [decide_eq_false_iff_not]; omega))))
   have hend : ∀ (W : World) (x y z : Value), Below wc.heap.size wc W → Below w.heap.size w (((W.setCell ⟨w.heap.size, 0, none⟩ x).setCell ⟨w.heap.size, 1, none⟩ y).setCell ⟨w.heap.size, 2, none⟩ z) := fun W x y z hW => below_set (below_set (below_set (below_step HBW.out hW) (Nat.le_refl _) _ _) (Nat.le_refl _) _ _) (Nat.le_refl _) _ _
   have HEND := Aside0.mk hend
   clear hend
   have z4 : 4 < b.size := by omega
   by_cases m1 : b.extract 0 4 = magicS ∧ byteAt b 4 = 1
   ·have t1 : ((b.extract 0 4).toList == [76, 88, 80, 72]) = true := beq_iff_eq.2 (by rw [m1.1, Bridge.toList_u]; rfl)
    have t2 : (((b[4]'z4).toNat : Int) == 1) = true := beq_iff_eq.2 (by rw [← byte_get z4, m1.2]; rfl)
    have t3 : (((b[4]'z4).toNat : Int) != 1) = false := by rw [bne, t2]; rfl
    have hr := HR.out
    rw [if_neg (by rw [m1.1, m1.2]; simp)] at hr
    clear m1
    by_cases m2 : 1 < c5
    ·rw [if_pos m2] at hr
     have HRR := Aside0.mk hr
     have t4 : ((c5 : Int) != 0) = true := bne_iff_ne.2 (by omega)
     have t5 : ((c5 : Int) != 1) = true := bne_iff_ne.2 (by omega)
     clear hr m2
     go_wp2_with fail
     exact bodyPost_ret (v := .tuple #[.agg #[.int .i64 0, .int .i64 0, .int .u64 0], .int .i64 8]) (by simp [results, Tryz.results198, go_sem, *]) rfl ⟨by rw [HRR.out]; rfl, HEND.out _ _ _ _ (Below.refl _ _)⟩
    ·rw [if_neg m2] at hr
     by_cases m3 : k < 1 ∨ 1024 < k
     ·rw [if_pos m3] at hr
      have HRR := Aside0.mk hr
      rw [decide_eq_false (by omega)] at HSZ
      have hc2 : c5 = 0 ∨ c5 = 1 := by omega
      clear hr m2 m3
      rcases hc2 with rfl | rfl
      all_goals
       go_wp2_with fail
       refine (HSZ.out _).mono ?_
       rintro e w2 ⟨rfl, hb2⟩
       have h0 := pw_cell_below hb2.below g0
       have h1 := pw_cell_below hb2.below g1
       have h2 := pw_cell_below hb2.below g2
       have e0 := (hb2.below.frozen (p := ⟨w.heap.size, 0, none⟩) (blk_lt HB0.out)).trans f0
       have e1 := (hb2.below.frozen (p := ⟨w.heap.size, 1, none⟩) (blk_lt HB0.out)).trans f1
       have e2 := (hb2.below.frozen (p := ⟨w.heap.size, 2, none⟩) (blk_lt HB0.out)).trans f2
       have HB2 := Aside0.mk hb2.below
       clear hb2
       go_wp2_with fail
       exact bodyPost_ret (v := .tuple #[.agg #[.int .i64 0, .int .i64 0, .int .u64 0], .int .i64 4]) (by simp [results, Tryz.results198, go_sem, *]) rfl ⟨by rw [HRR.out]; rfl, HEND.out _ _ _ _ HB2.out⟩
     ·rw [if_neg m3] at hr
      have HRR := Aside0.mk hr
      rw [decide_eq_true (by omega)] at HSZ
      have hc2 : c5 = 0 ∨ c5 = 1 := by omega
      clear hr m2 m3
      rcases hc2 with rfl | rfl
      all_goals
       go_wp2_with fail
       refine (HSZ.out _).mono ?_
       rintro e w2 ⟨rfl, hb2⟩
       have h0 := pw_cell_below hb2.below g0
       have h1 := pw_cell_below hb2.below g1
       have h2 := pw_cell_below hb2.below g2
       have i0 := pw_cell_below hb2.below c0
       have i1 := pw_cell_below hb2.below c1
       have i2 := pw_cell_below hb2.below c2
       have e0 := (hb2.below.frozen (p := ⟨w.heap.size, 0, none⟩) (blk_lt HB0.out)).trans f0
       have e1 := (hb2.below.frozen (p := ⟨w.heap.size, 1, none⟩) (blk_lt HB0.out)).trans f1
       have e2 := (hb2.below.frozen (p := ⟨w.heap.size, 2, none⟩) (blk_lt HB0.out)).trans f2
       have HB2 := Aside0.mk hb2.below
       clear hb2
       go_wp2_with fail
       first | exact bodyPost_ret (v := .tuple #[.agg #[.int .i64 0, .int .i64 (k : Int), .int .u64 (id : Int)], .int .i64 0]) (by simp [results, Tryz.results198, go_sem, *]) rfl ⟨by rw [HRR.out]; rfl, HEND.out _ _ _ _ HB2.out⟩ | exact bodyPost_ret (v := .tuple #[.agg #[.int .i64 1, .int .i64 (k : Int), .int .u64 (id : Int)], .int .i64 0]) (by simp [results, Tryz.results198, go_sem, *]) rfl ⟨by rw [HRR.out]; rfl, HEND.out _ _ _ _ HB2.out⟩
   ·have hr := HR.out
    rw [if_pos (by by_cases q : b.extract 0 4 = magicS; exact .inr (fun e => m1 ⟨q, e⟩); exact .inl q)] at hr
    have HRR := Aside0.mk hr
    by_cases q : b.extract 0 4 = magicS
    ·have t1 : ((b.extract 0 4).toList == [76, 88, 80, 72]) = true := beq_iff_eq.2 (by rw [q, Bridge.toList_u]; rfl)
     have hne : ¬ ((b[4]'z4).toNat : Int) = 1 := fun e => m1 ⟨q, by rw [byte_get z4]; omega⟩
     have t2 : (((b[4]'z4).toNat : Int) == 1) = false := beq_eq_false_iff_ne.2 hne
     have t3 : (((b[4]'z4).toNat : Int) != 1) = true := bne_iff_ne.2 hne
     clear hr m1 q hne
     go_wp2_with fail
     exact bodyPost_ret (v := .tuple #[.agg #[.int .i64 0, .int .i64 0, .int .u64 0], .int .i64 3]) (by simp [results, Tryz.results198, go_sem, *]) rfl ⟨by rw [HRR.out]; rfl, HEND.out _ _ _ _ (Below.refl _ _)⟩
    ·have t1 : ((b.extract 0 4).toList == [76, 88, 80, 72]) = false := beq_eq_false_iff_ne.2 (fun e => q (u_inj (by rw [← Bridge.toList_u, e]; rfl)))
     clear hr m1 q
     go_wp2_with fail
     exact bodyPost_ret (v := .tuple #[.agg #[.int .i64 0, .int .i64 0, .int .u64 0], .int .i64 3]) (by simp [results, Tryz.results198, go_sem, *]) rfl ⟨by rw [HRR.out]; rfl, HEND.out _ _ _ _ (Below.refl _ _)⟩
end Go.Proofs.YtepgkimlmoikmaaGreat
set_option linter.unusedVariables false
set_option linter.unusedSimpArgs false
namespace Go.Proofs.YtepgkimlmoikmaaGreat
open Go.RowKit Go.Proofs.YtepgkimlmoikmaaGreat.Spec Go.Proofs.YtepgkimlmoikmaaGreatW.PrintWords Go.Proofs.YtepgkimlmoikmaaGreatW.PrintLast
open Go.Proofs.YtepgkimlmoikmaaGreatW.PrintMore
attribute [local go_sem ↓] Go.wp_at_zero Go.wp_at_succ
attribute [local go_sem] max2_int min2_int max_two min_two
theorem blk_put4 {w : World} {g t : Nat} {a b c d a' b' c' d' : Value} (h : w.heap[g]? = some (.cells #[a, b, c, d] t (0, 0))) : ((((w.setCell ⟨g, 0, none⟩ a').setCell ⟨g, 1, none⟩ b').setCell ⟨g, 2, none⟩ c').setCell ⟨g, 3, none⟩ d').heap[g]? = some (.cells #[a', b', c', d'] t (0, 0)) := blk_put (blk_put (blk_put (blk_put h 0 a' rfl) 1 b' rfl) 2 c' rfl) 3 d' rfl
theorem not_nil2 {b : ByteArray} (h : 1 ≤ b.size) : b.toList.isEmpty = false := by
 rw [Bool.eq_false_iff]
 intro e
 have h2 := Bridge.empty_iff.1 (List.isEmpty_iff.1 e)
 omega
def frV (f : Fr) : Value := .tuple #[.agg #[.int .i64 (f.kind : Int), .int .i64 (f.raw : Int), .int .u32 (f.sum : Int), .string f.pay], .int .i64 (f.n : Int), .int .i64 (f.e : Int)]
theorem fget_small (b : ByteArray) (hb : b.size ≤ 1000000000) (blk : Nat) (hs : b.size = 0 ∨ 2 < byteAt b 0 ∨ (byteAt b 0 = 0 ∧ b.size < 5 ∨ byteAt b 0 ≠ 0 ∧ b.size < 9) ∨ byteAt b 0 = 0) (w : World) :
  Calls Tryz.prog 158 #[.string b, .int .i64 (blk : Int)] w fun e w' => e = .returned (frV (frameR b blk)) ∧ Below w.heap.size w w' := by
 by_cases h0 : b.size = 0
 ·have hr : frameR b blk = frBad 2 := by unfold frameR; rw [if_pos h0]
  rw [hr]
  have z2 : b.toList = [] := Bridge.empty_iff.2 h0
  have z1 : b.toList.isEmpty = true := by rw [z2]; rfl
  clear h0 hr hs
  go_enter Tryz.func158, Tryz.ntmps158
  go_wp2_with fail
  exact bodyPost_ret (v := frV (frBad 2)) (by simp [results, Tryz.results158, go_sem, frV, frBad]) rfl ⟨rfl, (Below.refl _ _).alloc (Nat.le_refl _) _⟩
 ·have z1 := not_nil2 (b := b) (by omega)
  have z2 : ¬ b.toList = [] := by intro e; rw [e] at z1; cases z1
  have z0 : 0 < b.size := by omega
  have p0 : (0 : Int) < (b.size : Int) := by omega
  have q0 : ((b[0]'z0).toNat : Int) = (byteAt b 0 : Int) := by rw [byte_get z0]
  have hk := byte_lt b 0
  have HR : Aside0 (frameR b blk = _) := ⟨by unfold frameR; rw [if_neg h0]⟩
  generalize byteAt b 0 = kd at *
  by_cases h1 : 2 < kd
  ·have hr := HR.out
   rw [if_pos h1] at hr
   rw [hr]
   have t1 : decide ((2 : Int) < (kd : Int)) = true := decide_eq_true (by omega)
   have t1' : decide (2 < kd) = true := decide_eq_true h1
   clear hr hs h1 HR h0 hk
   go_enter Tryz.func158, Tryz.ntmps158
   go_wp2_with fail
   exact bodyPost_ret (v := frV (frBad 3)) (by simp [results, Tryz.results158, go_sem, frV, frBad]) rfl ⟨rfl, (Below.refl _ _).alloc (Nat.le_refl _) _⟩
  ·have t1 : decide ((2 : Int) < (kd : Int)) = false := decide_eq_false (by omega)
   have t1' : decide (2 < kd) = false := decide_eq_false h1
   by_cases h2 : kd = 0 ∧ b.size < 5 ∨ kd ≠ 0 ∧ b.size < 9
   ·have hr := HR.out
    rw [if_neg h1, if_pos h2] at hr
    rw [hr]
    by_cases h3 : kd = 0
    ·subst h3
     have t2 : decide ((b.size : Int) < 5) = true := decide_eq_true (by omega)
     have t2' : decide (b.size < 5) = true := decide_eq_true (by omega)
     clear hr hs h1 h2 HR h0 hk
     go_enter Tryz.func158, Tryz.ntmps158
     go_wp2_with fail
     exact bodyPost_ret (v := frV (frBad 2)) (by simp [results, Tryz.results158, go_sem, frV, frBad]) rfl ⟨rfl, (Below.refl _ _).alloc (Nat.le_refl _) _⟩
    ·have t2 : decide ((b.size : Int) < 9) = true := decide_eq_true (by omega)
     have t2' : decide (b.size < 9) = true := decide_eq_true (by omega)
     have t3 : ((kd : Int) == 0) = false := beq_eq_false_iff_ne.2 (by omega)
     have t4 : ((kd : Int) != 0) = true := bne_iff_ne.2 (by omega)
     clear hr hs h1 h2 HR h0 hk h3
     go_enter Tryz.func158, Tryz.ntmps158
     go_wp2_with fail
     exact bodyPost_ret (v := frV (frBad 2)) (by simp [results, Tryz.results158, go_sem, frV, frBad]) rfl ⟨rfl, (Below.refl _ _).alloc (Nat.le_refl _) _⟩
   ·have h3 : kd = 0 := by omega
    have hr := HR.out
    rw [if_neg h1, if_neg h2, if_pos h3] at hr
    rw [hr]
    subst h3
    have t2 : decide ((b.size : Int) < 5) = false := decide_eq_false (by omega)
    have t2' : decide (b.size < 5) = false := decide_eq_false (by omega)
    have p5 : (5 : Int) ≤ (b.size : Int) := by omega
    have hkb := ofB_ext b 1 5
    have HN := Aside0.mk (fun W => fnum_calls (b.extract 1 5) (by rw [ext_sz b 1 5 (by omega)]; decide) W)
    generalize ofB (u (b.extract 1 5)) = k at *
    have q1 : IntKind.i64.wrap (k : Int) = (k : Int) := (i64_w _).trans (Bridge.wrN _ (by omega))
    clear hr hs h1 h2 HR h0 hk hkb
    go_enter Tryz.func158, Tryz.ntmps158
    go_wp2_with fail
    refine (HN.out _).mono ?_
    rintro e w1 ⟨rfl, ⟨⟨n1, rfl⟩⟩⟩
    go_wp2_with fail
    exact bodyPost_ret (v := frV ⟨0, k, 0, ⟨#[]⟩, 5, 0⟩) (by simp [results, Tryz.results158, go_sem, frV]) rfl ⟨rfl, by repeat (with_reducible first | exact Below.refl _ _ | apply below_alloc | apply below_drew | apply pw_below_drewN | refine below_set ?_ (Nat.le_refl _) _ _)⟩
theorem fget_big (b : ByteArray) (hb : b.size ≤ 1000000000) (blk : Nat) (h9 : 9 ≤ b.size) (hk0 : byteAt b 0 ≠ 0) (hk2 : byteAt b 0 ≤ 2) (w : World) :
  Calls Tryz.prog 158 #[.string b, .int .i64 (blk : Int)] w fun e w' => e = .returned (frV (frameR b blk)) ∧ Below w.heap.size w w' := by
 have z1 := not_nil2 (b := b) (by omega)
 have z2 : ¬ b.toList = [] := by intro e; rw [e] at z1; cases z1
 have z0 : 0 < b.size := by omega
 have p0 : (0 : Int) < (b.size : Int) := by omega
 have q0 : ((b[0]'z0).toNat : Int) = (byteAt b 0 : Int) := by rw [byte_get z0]
 have HR : Aside0 (frameR b blk = _) := ⟨by unfold frameR; rw [if_neg (by omega), if_neg (by omega), if_neg (by omega), if_neg hk0]⟩
 generalize byteAt b 0 = kd at *
 have t1 : decide ((2 : Int) < (kd : Int)) = false := decide_eq_false (by omega)
 have t1' : decide (2 < kd) = false := decide_eq_false (by omega)
 have t2 : decide ((b.size : Int) < 9) = false := decide_eq_false (by omega)
 have t2' : decide (b.size < 9) = false := decide_eq_false (by omega)
 have t3 : ((kd : Int) == 0) = false := beq_eq_false_iff_ne.2 (by omega)
 have t4 : ((kd : Int) != 0) = true := bne_iff_ne.2 (by omega)
 have p9 : (9 : Int) ≤ (b.size : Int) := by omega
 have pb : (b.size : Int) ≤ 1000000000 := by omega
 have p5 : (5 : Int) ≤ (b.size : Int) := by omega
 have p3 : (3 : Int) ≤ (b.size : Int) := by omega
 have hr := ofB_ext b 1 3
 have hn := ofB_ext b 3 5
 have hsm := ofB_ext b 5 9
 have HN1 := Aside0.mk (fun W => fnum_calls (b.extract 1 3) (by rw [ext_sz b 1 3 (by omega)]; decide) W)
 have HN2 := Aside0.mk (fun W => fnum_calls (b.extract 3 5) (by rw [ext_sz b 3 5 (by omega)]; decide) W)
 have HN3 := Aside0.mk (fun W => fnum_calls (b.extract 5 9) (by rw [ext_sz b 5 9 (by omega)]; decide) W)
 have q3 : IntKind.u32.wrap (ofB (u (b.extract 5 9)) : Int) = (ofB (u (b.extract 5 9)) : Int) := by rw [IntKind.wrap_u32]; omega
 generalize ofB (u (b.extract 1 3)) = r at *
 generalize ofB (u (b.extract 3 5)) = n at *
 generalize ofB (u (b.extract 5 9)) = sm at *
 have qk : IntKind.i64.wrap (kd : Int) = (kd : Int) := (i64_w _).trans (Bridge.wrN _ (by omega))
 have q1 : IntKind.i64.wrap (r : Int) = (r : Int) := (i64_w _).trans (Bridge.wrN _ (by omega))
 have q2 : IntKind.i64.wrap (n : Int) = (n : Int) := (i64_w _).trans (Bridge.wrN _ (by omega))
 have H9 := Aside0.mk (And.intro h9 (And.intro hk0 (And.intro hk2 (And.intro hb (And.intro hr (And.intro hn hsm))))))
 clear h9 hk0 hk2 hb hr hn hsm
 go_enter Tryz.func158, Tryz.ntmps158
 go_upto_region 9 with fail
 go_cut [7] (fun v7 wx => v7 = .pointer (some ⟨w.heap.size + 1, 0, none⟩) ∧ Aside0 (wx.heap[w.heap.size + 1]? = some (.cells #[.int .i64 (kd : Int), .int .i64 (r : Int), .int .u32 (sm : Int), .string ⟨#[]⟩] 67 (0, 0))) ∧ Aside0 (wx.heap[w.heap.size]? = some (.cells #[.int .i64 0, .int .i64 0, .int .u32 0, .string ⟨#[]⟩] 67 (0, 0))) ∧ Aside0 (Below w.heap.size w wx))
 case first =>
  go_region_held3 (fun w' => Below w.heap.size w w') (repeat (with_reducible first | exact Below.refl _ _ | apply below_alloc | apply below_drew | apply pw_below_drewN | refine below_set ?_ (Nat.le_succ _) _ _)) ((go_at_call 199; first | ((with_reducible refine (HN1.out _).mono ?_); rintro e w1 ⟨rfl, ⟨⟨n1, rfl⟩⟩⟩) | ((with_reducible refine (HN3.out _).mono ?_); rintro e w1 ⟨rfl, ⟨⟨n1, rfl⟩⟩⟩)))
  all_goals
   go_wp2_with fail
   go_meet
   refine ⟨rfl, ⟨?_⟩, ⟨?_⟩, ⟨?_⟩⟩
   ·(try (with_reducible refine blk_put4 (a := .int .i64 0) (b := .int .i64 0) (c := .int .u32 0) (d := .string ⟨#[]⟩) ?_))
    repeat (with_reducible first | refine blk_drewN ?_ _ | refine blk_drew ?_ | (refine blk_new2 _ _ _ ?_; simp; done) | refine blk_alloc ?_ _)
   ·repeat (with_reducible first | refine blk_drewN ?_ _ | refine blk_drew ?_ | (refine blk_new2 _ _ _ ?_; rfl) | refine blk_alloc ?_ _ | refine blk_far ?_ (by simp) _)
   ·repeat (with_reducible first | exact Below.refl _ _ | apply below_alloc | apply below_drew | apply pw_below_drewN | refine below_set ?_ (Nat.le_succ _) _ _)
 case rest =>
  obtain ⟨rfl, HB1, HB0, HBW⟩ := hcut
  go_wp2_with fail
  refine (HN2.out _).mono ?_
  rintro e w2 ⟨rfl, hb2⟩
  have HB3 := Aside0.mk (blk_below HB1.out hb2.below)
  have HB4 := Aside0.mk (blk_below HB0.out hb2.below)
  have HBX := Aside0.mk (below_step HBW.out hb2.below)
  clear hb2 HBW HB0 HB1
  have c0 : w2.cell? ⟨w.heap.size + 1, 0, none⟩ = some (.int .i64 (kd : Int)) := (blk_cell HB3.out 0).trans rfl
  have c1 : w2.cell? ⟨w.heap.size + 1, 1, none⟩ = some (.int .i64 (r : Int)) := (blk_cell HB3.out 1).trans rfl
  have c2 : w2.cell? ⟨w.heap.size + 1, 2, none⟩ = some (.int .u32 (sm : Int)) := (blk_cell HB3.out 2).trans rfl
  have c3 : w2.cell? ⟨w.heap.size + 1, 3, none⟩ = some (.string ⟨#[]⟩) := (blk_cell HB3.out 3).trans rfl
  have e3 := blk_frozen HB3.out 3
  have f0 := blk_frozen HB4.out 0
  have f1 := blk_frozen HB4.out 1
  have f2 := blk_frozen HB4.out 2
  have f3 := blk_frozen HB4.out 3
  have g0 : w2.cell? ⟨w.heap.size, 0, none⟩ = some (.int .i64 0) := (blk_cell HB4.out 0).trans rfl
  have g1 : w2.cell? ⟨w.heap.size, 1, none⟩ = some (.int .i64 0) := (blk_cell HB4.out 1).trans rfl
  have g2 : w2.cell? ⟨w.heap.size, 2, none⟩ = some (.int .u32 0) := (blk_cell HB4.out 2).trans rfl
  have g3 : w2.cell? ⟨w.heap.size, 3, none⟩ = some (.string ⟨#[]⟩) := (blk_cell HB4.out 3).trans rfl
  obtain ⟨h9, hk0, hk2, hb, hr, hn, hsm⟩ := H9.out
  have hrr := HR.out
  have HFT := Aside0.mk (fun W => ffits_calls kd r n W)
  by_cases m1 : blk < r
  ·rw [if_pos (.inl m1)] at hrr
   have HRR := Aside0.mk hrr
   have d1 : decide ((blk : Int) < (r : Int)) = true := decide_eq_true (by omega)
   have d1' : decide (blk < r) = true := decide_eq_true m1
   clear h9 hk0 hk2 hb hr hn hsm hrr m1
   go_wp2_with fail
   exact bodyPost_ret (v := frV (frBad 10)) (by simp [results, Tryz.results158, go_sem, frV, frBad, *]) rfl ⟨by rw [HRR.out], by repeat (with_reducible first | exact HBX.out | refine below_set ?_ (Nat.le_refl _) _ _)⟩
  ·have d1 : decide ((blk : Int) < (r : Int)) = false := decide_eq_false (by omega)
   have d1' : decide (blk < r) = false := decide_eq_false m1
   by_cases m2 : fitsR kd r n
   ·rw [if_neg (by intro h; rcases h with h | h; exact m1 h; exact h m2)] at hrr
    rw [decide_eq_true m2] at HFT
    by_cases m3 : b.size - 9 < n
    ·rw [if_pos m3] at hrr
     have HRR := Aside0.mk hrr
     have d2 : decide ((b.size : Int) - 9 < (n : Int)) = true := decide_eq_true (by omega)
     have d3 : decide ((b.size : Int) < (n : Int) + 9) = true := decide_eq_true (by omega)
     have d4 : (b.size : Int) < (n : Int) + 9 := by omega
     clear h9 hk0 hk2 hb hr hn hsm hrr m1 m2 m3
     go_wp2_with fail
     refine (HFT.out _).mono ?_
     rintro e w3 ⟨rfl, ⟨⟨n3, rfl⟩⟩⟩
     go_wp2_with fail
     exact bodyPost_ret (v := frV (frBad 2)) (by simp [results, Tryz.results158, go_sem, frV, frBad, *]) rfl ⟨by rw [HRR.out], by repeat (with_reducible first | exact HBX.out | apply pw_below_drewN | refine below_set ?_ (Nat.le_refl _) _ _)⟩
    ·rw [if_neg m3] at hrr
     have HRR := Aside0.mk hrr
     have d2 : decide ((b.size : Int) - 9 < (n : Int)) = false := decide_eq_false (by omega)
     have d3 : decide ((b.size : Int) < (n : Int) + 9) = false := decide_eq_false (by omega)
     have u1 : (9 : Int) + (n : Int) ≤ (b.size : Int) := by omega
     have u2 : (n : Int) ≤ 65535 := by omega
     clear h9 hk0 hk2 hb hr hn hsm hrr m1 m2 m3
     go_wp2_with fail
     refine (HFT.out _).mono ?_
     rintro e w3 ⟨rfl, ⟨⟨n3, rfl⟩⟩⟩
     go_wp2_with fail
     have l3 : ((((((w2.drewN n3).setCell ⟨w.heap.size + 1, 3, none⟩ (.string (b.extract 9 (9 + n)))).setCell ⟨w.heap.size, 0, none⟩ (.int .i64 (kd : Int))).setCell ⟨w.heap.size, 1, none⟩ (.int .i64 (r : Int))).setCell ⟨w.heap.size, 2, none⟩ (.int .u32 (sm : Int))).setCell ⟨w.heap.size, 3, none⟩ (.string (b.extract 9 (9 + n)))).heap[w.heap.size]? = some (.cells #[.int .i64 (kd : Int), .int .i64 (r : Int), .int .u32 (sm : Int), .string (b.extract 9 (9 + n))] 67 (0, 0)) := blk_put4 (blk_far (blk_drewN HB4.out n3) (by simp) _)
     exact bodyPost_ret (v := frV ⟨kd, r, sm, b.extract 9 (9 + n), 9 + n, 0⟩) (by simp [results, Tryz.results158, go_sem, frV, *]) rfl ⟨by rw [HRR.out], by repeat (with_reducible first | exact HBX.out | apply pw_below_drewN | refine below_set ?_ (Nat.le_refl _) _ _ | refine below_set ?_ (Nat.le_succ _) _ _)⟩
   ·rw [if_pos (.inr m2)] at hrr
    rw [decide_eq_false m2] at HFT
    have HRR := Aside0.mk hrr
    clear h9 hk0 hk2 hb hr hn hsm hrr m1 m2
    go_wp2_with fail
    refine (HFT.out _).mono ?_
    rintro e w3 ⟨rfl, ⟨⟨n3, rfl⟩⟩⟩
    go_wp2_with fail
    exact bodyPost_ret (v := frV (frBad 10)) (by simp [results, Tryz.results158, go_sem, frV, frBad, *]) rfl ⟨by rw [HRR.out], by repeat (with_reducible first | exact HBX.out | apply pw_below_drewN | refine below_set ?_ (Nat.le_refl _) _ _)⟩
theorem fget_calls (b : ByteArray) (hb : b.size ≤ 1000000000) (blk : Nat) (w : World) :
  Calls Tryz.prog 158 #[.string b, .int .i64 (blk : Int)] w fun e w' => e = .returned (frV (frameR b blk)) ∧ Below w.heap.size w w' := by
 by_cases hs : b.size = 0 ∨ 2 < byteAt b 0 ∨ (byteAt b 0 = 0 ∧ b.size < 5 ∨ byteAt b 0 ≠ 0 ∧ b.size < 9) ∨ byteAt b 0 = 0
 ·exact fget_small b hb blk hs w
 ·exact fget_big b hb blk (by omega) (by omega) (by omega) w
end Go.Proofs.YtepgkimlmoikmaaGreat
set_option linter.unusedVariables false
set_option linter.unusedSimpArgs false
namespace Go.Proofs.YtepgkimlmoikmaaGreat
open Go.RowKit Go.Proofs.YtepgkimlmoikmaaGreat.Spec Go.Proofs.YtepgkimlmoikmaaGreatW.PrintWords Go.Proofs.YtepgkimlmoikmaaGreatW.PrintLast
open Go.Proofs.YtepgkimlmoikmaaGreatW.PrintMore
attribute [local go_sem ↓] Go.wp_at_zero Go.wp_at_succ
attribute [local go_sem] max2_int min2_int max_two min_two
namespace Spec
def headS (c k id : Nat) : ByteArray := magicS ++ str (beB 1 1) ++ str (beB c 1) ++ str (beB k 3) ++ str (beB id 8)
def endS (n : Nat) : ByteArray := str (beB 0 1) ++ str (beB n 4)
def frameS (kind raw sum : Nat) (pay : ByteArray) : ByteArray := str (beB kind 1) ++ str (beB raw 2) ++ str (beB pay.size 2) ++ str (beB sum 4) ++ pay
end Spec
theorem beS_size (v n : Nat) : (str (beB v n)).size = n := by rw [← u_size, u_str, beB_len]
theorem putHead_calls (c k id : Nat) (hc : c ≤ 1) (hk : 1 ≤ k ∧ k ≤ 1024) (hid : id < 18446744073709551616) (w : World) :
  Calls Tryz.prog 161 #[.agg #[.int .i64 (c : Int), .int .i64 (k : Int), .int .u64 (id : Int)]] w fun e w' => e = .returned (.tuple #[.string (headS c k id), .bool true]) ∧ Below w.heap.size w w' := by
 have HSZ := Aside0.mk (fun W => Leaf.frame_size.calls (k : Int) true W (by unfold Leaf.frame_size.f; rw [if_pos (by omega), decide_eq_true (by omega)]))
 have HB1 : Aside0 (∀ W, Calls Tryz.prog 164 #[.int .u64 1, .int .i64 1] W fun e w' => e = .returned (.string (str (beB 1 1))) ∧ Below W.heap.size W w') := ⟨fun W => big_calls 1 (by decide) 1 (by decide) W⟩
 have HB2 : Aside0 (∀ W, Calls Tryz.prog 164 #[.int .u64 (c : Int), .int .i64 1] W fun e w' => e = .returned (.string (str (beB c 1))) ∧ Below W.heap.size W w') := ⟨fun W => big_calls c (by omega) 1 (by decide) W⟩
 have HB3 : Aside0 (∀ W, Calls Tryz.prog 164 #[.int .u64 (k : Int), .int .i64 3] W fun e w' => e = .returned (.string (str (beB k 3))) ∧ Below W.heap.size W w') := ⟨fun W => big_calls k (by omega) 3 (by decide) W⟩
 have HB4 : Aside0 (∀ W, Calls Tryz.prog 164 #[.int .u64 (id : Int), .int .i64 8] W fun e w' => e = .returned (.string (str (beB id 8))) ∧ Below W.heap.size W w') := ⟨fun W => big_calls id hid 8 (by decide) W⟩
 have q1 : IntKind.u64.wrap (c : Int) = (c : Int) := u64_wrap_nat (by omega)
 have q2 : IntKind.u64.wrap (k : Int) = (k : Int) := u64_wrap_nat (by omega)
 have s0 : (w.alloc (.cells #[.int .i64 (c : Int), .int .i64 (k : Int), .int .u64 (id : Int)] 90)).cell? ⟨w.heap.size, 0, none⟩ = some (.int .i64 (c : Int)) := by simp
 have s1 : (w.alloc (.cells #[.int .i64 (c : Int), .int .i64 (k : Int), .int .u64 (id : Int)] 90)).cell? ⟨w.heap.size, 1, none⟩ = some (.int .i64 (k : Int)) := by simp
 have s2 : (w.alloc (.cells #[.int .i64 (c : Int), .int .i64 (k : Int), .int .u64 (id : Int)] 90)).cell? ⟨w.heap.size, 2, none⟩ = some (.int .u64 (id : Int)) := by simp
 have c0 : (((c : Int) != 0) = false ∧ True) ∨ (((c : Int) != 0) = true ∧ ((c : Int) != 1) = false) := by
  have : c = 0 ∨ c = 1 := by omega
  rcases this with rfl | rfl
  ·exact .inl ⟨rfl, trivial⟩
  ·exact .inr ⟨rfl, rfl⟩
 have z1 := beS_size 1 1
 have z2 := beS_size c 1
 have z3 := beS_size k 3
 have z4 := beS_size id 8
 have HP : Aside0 (headS c k id = magicS ++ str (beB 1 1) ++ str (beB c 1) ++ str (beB k 3) ++ str (beB id 8)) := ⟨rfl⟩
 generalize str (beB 1 1) = x1 at *
 generalize str (beB c 1) = x2 at *
 generalize str (beB k 3) = x3 at *
 generalize str (beB id 8) = x4 at *
 have u1 : ¬ 9223372036854775807 < 4 + x1.size := by omega
 have u2 : ¬ 9223372036854775807 < 4 + x1.size + x2.size := by omega
 have u3 : ¬ 9223372036854775807 < 4 + x1.size + x2.size + x3.size := by omega
 have u4 : ¬ 9223372036854775807 < 4 + x1.size + x2.size + x3.size + x4.size := by omega
 clear hc hk hid z1 z2 z3 z4
 rcases c0 with ⟨t0, _⟩ | ⟨t0, t1⟩
 all_goals
  go_enter Tryz.func161, Tryz.ntmps161
  go_wp2_with fail
  refine (HSZ.out _).mono ?_
  rintro e w1 ⟨rfl, hb1⟩
  have hw1 := below_step ((Below.refl w.heap.size w).alloc (Nat.le_refl _) (.cells #[.int .i64 (c : Int), .int .i64 (k : Int), .int .u64 (id : Int)] 90)) hb1.below
  have r0 := pw_cell_below hb1.below s0
  have r1 := pw_cell_below hb1.below s1
  have r2 := pw_cell_below hb1.below s2
  clear hb1
  go_wp2_with fail
  go_region_held3 (fun w' => w'.cell? ⟨w.heap.size, 0, none⟩ = some (.int .i64 (c : Int)) ∧ w'.cell? ⟨w.heap.size, 1, none⟩ = some (.int .i64 (k : Int)) ∧ w'.cell? ⟨w.heap.size, 2, none⟩ = some (.int .u64 (id : Int)))
   (first | exact ⟨r0, r1, r2⟩ | exact ⟨pw_cell_below h2 r0, pw_cell_below h2 r1, pw_cell_below h2 r2⟩)
   ((go_at_call 164; first
    | ((with_reducible refine (HB1.out _).mono ?_); rintro e w2 ⟨rfl, hb2⟩; have h2 := below_step (below_drew (Below.refl w1.heap.size w1)) hb2)
    | ((with_reducible refine (HB2.out _).mono ?_); rintro e w3 ⟨rfl, hb3⟩; have h2 := below_step h2 hb3)
    | ((with_reducible refine (HB3.out _).mono ?_); rintro e w4 ⟨rfl, hb4⟩; have h2 := below_step h2 hb4)
    | ((with_reducible refine (HB4.out _).mono ?_); rintro e w5 ⟨rfl, hb5⟩; have h2 := below_step h2 hb5)))
  go_wp2_with fail
  go_ret2
  exact ⟨by rw [HP.out]; rfl, below_step hw1 h2⟩
theorem fput_end (n : Nat) (hn : n ≤ 4294967295) (w : World) :
  Calls Tryz.prog 120 #[.agg #[.int .i64 0, .int .i64 (n : Int), .int .u32 0, .string ⟨#[]⟩]] w fun e w' => e = .returned (.tuple #[.string (endS n), .bool true]) ∧ Below w.heap.size w w' := by
 have HB1 : Aside0 (∀ W, Calls Tryz.prog 164 #[.int .u64 0, .int .i64 1] W fun e w' => e = .returned (.string (str (beB 0 1))) ∧ Below W.heap.size W w') := ⟨fun W => big_calls 0 (by decide) 1 (by decide) W⟩
 have HB2 : Aside0 (∀ W, Calls Tryz.prog 164 #[.int .u64 (n : Int), .int .i64 4] W fun e w' => e = .returned (.string (str (beB n 4))) ∧ Below W.heap.size W w') := ⟨fun W => big_calls n (by omega) 4 (by decide) W⟩
 have q1 : IntKind.u64.wrap (n : Int) = (n : Int) := u64_wrap_nat (by omega)
 have s1 : (w.alloc (.cells #[.int .i64 0, .int .i64 (n : Int), .int .u32 0, .string ⟨#[]⟩] 67)).cell? ⟨w.heap.size, 1, none⟩ = some (.int .i64 (n : Int)) := by simp
 have d1 : decide ((n : Int) < 0) = false := decide_eq_false (by omega)
 have d2 : decide ((4294967295 : Int) < (n : Int)) = false := decide_eq_false (by omega)
 have z1 := beS_size 0 1
 have z2 := beS_size n 4
 have HP : Aside0 (endS n = str (beB 0 1) ++ str (beB n 4)) := ⟨rfl⟩
 generalize str (beB 0 1) = x1 at *
 generalize str (beB n 4) = x2 at *
 have u1 : ¬ 9223372036854775807 < x1.size + x2.size := by omega
 clear hn z1 z2
 go_enter Tryz.func120, Tryz.ntmps120
 go_wp2_with fail
 go_region_held3 (fun w' => w'.cell? ⟨w.heap.size, 1, none⟩ = some (.int .i64 (n : Int)))
  (first | exact s1 | exact pw_cell_below h2 s1)
  ((go_at_call 164; first
   | ((with_reducible refine (HB1.out _).mono ?_); rintro e w2 ⟨rfl, hb2⟩; have h2 := below_step (below_drew (Below.refl (w.alloc (.cells #[.int .i64 0, .int .i64 (n : Int), .int .u32 0, .string ⟨#[]⟩] 67)).heap.size (w.alloc (.cells #[.int .i64 0, .int .i64 (n : Int), .int .u32 0, .string ⟨#[]⟩] 67)))) hb2)
   | ((with_reducible refine (HB2.out _).mono ?_); rintro e w3 ⟨rfl, hb3⟩; have h2 := below_step h2 hb3)))
 go_wp2_with fail
 go_ret2
 exact ⟨by rw [HP.out]; rfl, below_step ((Below.refl w.heap.size w).alloc (Nat.le_refl _) _) h2⟩
theorem fput_blk (kd r sm : Nat) (p : ByteArray) (hf : fitsR kd r p.size) (hsm : sm < 4294967296) (w : World) :
  Calls Tryz.prog 120 #[.agg #[.int .i64 (kd : Int), .int .i64 (r : Int), .int .u32 (sm : Int), .string p]] w fun e w' => e = .returned (.tuple #[.string (frameS kd r sm p), .bool true]) ∧ Below w.heap.size w w' := by
 have HF := Aside0.mk (fun W => ffits_calls kd r p.size W)
 rw [decide_eq_true hf] at HF
 unfold fitsR at hf
 have HB1 : Aside0 (∀ W, Calls Tryz.prog 164 #[.int .u64 (kd : Int), .int .i64 1] W fun e w' => e = .returned (.string (str (beB kd 1))) ∧ Below W.heap.size W w') := ⟨fun W => big_calls kd (by omega) 1 (by decide) W⟩
 have HB2 : Aside0 (∀ W, Calls Tryz.prog 164 #[.int .u64 (r : Int), .int .i64 2] W fun e w' => e = .returned (.string (str (beB r 2))) ∧ Below W.heap.size W w') := ⟨fun W => big_calls r (by omega) 2 (by decide) W⟩
 have HB3 : Aside0 (∀ W, Calls Tryz.prog 164 #[.int .u64 (p.size : Int), .int .i64 2] W fun e w' => e = .returned (.string (str (beB p.size 2))) ∧ Below W.heap.size W w') := ⟨fun W => big_calls p.size (by omega) 2 (by decide) W⟩
 have HB4 : Aside0 (∀ W, Calls Tryz.prog 164 #[.int .u64 (sm : Int), .int .i64 4] W fun e w' => e = .returned (.string (str (beB sm 4))) ∧ Below W.heap.size W w') := ⟨fun W => big_calls sm (by omega) 4 (by decide) W⟩
 have q1 : IntKind.u64.wrap (kd : Int) = (kd : Int) := u64_wrap_nat (by omega)
 have q2 : IntKind.u64.wrap (r : Int) = (r : Int) := u64_wrap_nat (by omega)
 have q3 : IntKind.u64.wrap (p.size : Int) = (p.size : Int) := u64_wrap_nat (by omega)
 have q4 : IntKind.u64.wrap (sm : Int) = (sm : Int) := u64_wrap_nat (by omega)
 have d0 : ((kd : Int) == 0) = false := beq_eq_false_iff_ne.2 (by omega)
 obtain ⟨W0, hW0⟩ : ∃ W0, W0 = w.alloc (.cells #[.int .i64 (kd : Int), .int .i64 (r : Int), .int .u32 (sm : Int), .string p] 67) := ⟨_, rfl⟩
 have s0 : W0.cell? ⟨w.heap.size, 0, none⟩ = some (.int .i64 (kd : Int)) := by rw [hW0]; simp
 have s1 : W0.cell? ⟨w.heap.size, 1, none⟩ = some (.int .i64 (r : Int)) := by rw [hW0]; simp
 have s2 : W0.cell? ⟨w.heap.size, 2, none⟩ = some (.int .u32 (sm : Int)) := by rw [hW0]; simp
 have s3 : W0.cell? ⟨w.heap.size, 3, none⟩ = some (.string p) := by rw [hW0]; simp
 have HW0 := Aside0.mk (show Below w.heap.size w W0 by rw [hW0]; exact (Below.refl _ _).alloc (Nat.le_refl _) _)
 have z1 := beS_size kd 1
 have z2 := beS_size r 2
 have z3 := beS_size p.size 2
 have z4 := beS_size sm 4
 have HP : Aside0 (frameS kd r sm p = str (beB kd 1) ++ str (beB r 2) ++ str (beB p.size 2) ++ str (beB sm 4) ++ p) := ⟨rfl⟩
 generalize str (beB kd 1) = x1 at *
 generalize str (beB r 2) = x2 at *
 generalize str (beB p.size 2) = x3 at *
 generalize str (beB sm 4) = x4 at *
 have u1 : ¬ 9223372036854775807 < x1.size + x2.size := by omega
 have u2 : ¬ 9223372036854775807 < x1.size + x2.size + x3.size := by omega
 have u3 : ¬ 9223372036854775807 < x1.size + x2.size + x3.size + x4.size := by omega
 have u4 : ¬ 9223372036854775807 < x1.size + x2.size + x3.size + x4.size + p.size := by omega
 have HWE := Aside0.mk hW0
 clear hf hsm z1 z2 z3 z4 hW0
 go_enter Tryz.func120, Tryz.ntmps120
 go_wp2_with fail
 rw [← HWE.out]
 refine (HF.out _).mono ?_
 rintro e w1 ⟨rfl, hb1⟩
 have r0 := pw_cell_below hb1.below s0
 have r1 := pw_cell_below hb1.below s1
 have r2 := pw_cell_below hb1.below s2
 have r3 := pw_cell_below hb1.below s3
 have HW1 := Aside0.mk (below_step HW0.out hb1.below)
 clear hb1
 go_wp2_with fail
 go_region_held3 (fun w' => w'.cell? ⟨w.heap.size, 0, none⟩ = some (.int .i64 (kd : Int)) ∧ w'.cell? ⟨w.heap.size, 1, none⟩ = some (.int .i64 (r : Int)) ∧ w'.cell? ⟨w.heap.size, 2, none⟩ = some (.int .u32 (sm : Int)) ∧ w'.cell? ⟨w.heap.size, 3, none⟩ = some (.string p))
  (first | exact ⟨r0, r1, r2, r3⟩ | exact ⟨pw_cell_below h2 r0, pw_cell_below h2 r1, pw_cell_below h2 r2, pw_cell_below h2 r3⟩)
  ((go_at_call 164; first
   | ((with_reducible refine (HB1.out _).mono ?_); rintro e w2 ⟨rfl, hb2⟩; have h2 := below_step (below_drew (Below.refl w1.heap.size w1)) hb2)
   | ((with_reducible refine (HB2.out _).mono ?_); rintro e w3 ⟨rfl, hb3⟩; have h2 := below_step h2 hb3)
   | ((with_reducible refine (HB3.out _).mono ?_); rintro e w4 ⟨rfl, hb4⟩; have h2 := below_step h2 hb4)
   | ((with_reducible refine (HB4.out _).mono ?_); rintro e w5 ⟨rfl, hb5⟩; have h2 := below_step h2 hb5)))
 go_wp2_with fail
 go_ret2
 exact ⟨by rw [HP.out]; rfl, below_step HW1.out h2⟩
end Go.Proofs.YtepgkimlmoikmaaGreat
set_option linter.unusedVariables false
set_option linter.unusedSimpArgs false
namespace Go.Proofs.YtepgkimlmoikmaaGreat
open Go.RowKit Go.Proofs.YtepgkimlmoikmaaGreat.Spec Go.Proofs.YtepgkimlmoikmaaGreatW.PrintWords Go.Proofs.YtepgkimlmoikmaaGreatW.PrintLast
open Go.Proofs.YtepgkimlmoikmaaGreatW.PrintMore
attribute [local go_sem ↓] Go.wp_at_zero Go.wp_at_succ
attribute [local go_sem] max2_int min2_int max_two min_two
end Go.Proofs.YtepgkimlmoikmaaGreat
set_option linter.unusedVariables false
set_option linter.unusedSimpArgs false
namespace Go.Proofs.YtepgkimlmoikmaaGreat
open Go.RowKit Go.Proofs.YtepgkimlmoikmaaGreat.Spec Go.Proofs.YtepgkimlmoikmaaGreatW.PrintWords Go.Proofs.YtepgkimlmoikmaaGreatW.PrintLast
open Go.Proofs.YtepgkimlmoikmaaGreatW.PrintMore
attribute [local go_sem ↓] Go.wp_at_zero Go.wp_at_succ
attribute [local go_sem] max2_int min2_int max_two min_two
end Go.Proofs.YtepgkimlmoikmaaGreat
set_option linter.unusedVariables false
set_option linter.unusedSimpArgs false
namespace Go.Proofs.YtepgkimlmoikmaaGreat
open Go.RowKit Go.Proofs.YtepgkimlmoikmaaGreat.Spec Go.Proofs.YtepgkimlmoikmaaGreatW.PrintWords Go.Proofs.YtepgkimlmoikmaaGreatW.PrintLast
open Go.Proofs.YtepgkimlmoikmaaGreatW.PrintMore
attribute [local go_sem ↓] Go.wp_at_zero Go.wp_at_succ
attribute [local go_sem] max2_int min2_int max_two min_two
theorem wrap_nine {n : Nat} (h : (n : Int) ≤ 65535) : wrap64 (9 + (n : Int)) = 9 + (n : Int) := (show wrap64 ((9 + n : Nat) : Int) = 9 + (n : Int) by rw [Bridge.wrN _ (by omega)]; omega)
attribute [local go_sem] wrap_nine
end Go.Proofs.YtepgkimlmoikmaaGreat
