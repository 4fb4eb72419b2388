/- ShNone: a part of its proof (contracts of the functions that it reaches, and the plain mathematics behind them). -/
import Derived.Test.YtdpkgjahcapleaaGreatShNone15
set_option linter.unusedVariables false
set_option linter.unusedSimpArgs false
set_option linter.unusedVariables false
set_option linter.unusedSimpArgs false
namespace Go.Proofs.YtdpkgjahcapleaaGreat
open Go.RowKit Go.Proofs.YtdpkgjahcapleaaGreat.Spec Go.Proofs.YtdpkgjahcapleaaGreatW.PrintWords Go.Proofs.YtdpkgjahcapleaaGreatW.PrintLast
open Go.Proofs.YtdpkgjahcapleaaGreatW.PrintMore
attribute [local go_sem ↓] Go.wp_at_zero Go.wp_at_succ
attribute [local go_sem] max2_int min2_int max_two min_two
namespace Spec
def crcBit (v : Int) : Int := if Go.bits .and .u32 v 1 = 1 then Go.bits .xor .u32 (v / 2) 3988292384 else v / 2
def crcBits (v : Int) : Nat → Int
  | 0 => v
  | n + 1 => crcBit (crcBits v n)
def crcStep (v : Int) (c : UInt8) : Int := crcBits (Go.bits .xor .u32 v (IntKind.u32.wrap (c.toNat : Int))) 8
def crcR (l : List UInt8) : Int := Go.bits .xor .u32 IntKind.u32.max (l.foldl crcStep 4294967295)
end Spec
theorem crc_init : Go.bits .xor .u32 IntKind.u32.max 0 = 4294967295 := by decide +kernel
set_option maxHeartbeats 2000000 in
theorem crc_add (b : ByteArray) (hb : b.size ≤ 140737488351232) (B : Nat) (w : World) (hc : w.cell? ⟨B, 0, none⟩ = some (.int .u32 0)) (hf : w.frozen? ⟨B, 0, none⟩ = false) :
    Calls Tryz.prog 84 #[.pointer (some ⟨B, 0, none⟩), .string b] w fun e w' => e = .returned (.tuple #[]) ∧ w' = w.setCell ⟨B, 0, none⟩ (.int .u32 (crcR (u b))) := by
  have HI := Aside0.mk crc_init
  go_enter Tryz.func84, Tryz.ntmps84
  go_wp2_with fail
  go_loop [4, 5, 6, 16] (fun v4 v5 v6 v16 => ∃ (i : Nat), i ≤ b.size ∧ v16 = .int .i64 i ∧ v4 = .int .u32 (((u b).take i).foldl crcStep 4294967295)) (fun _ _ _ v16 => b.size - (intOf v16).toNat)
  case atStart => exact ⟨0, Nat.zero_le _, rfl, by rw [HI.out]; rfl⟩
  case round =>
    obtain ⟨i, hi, rfl, rfl⟩ := hrel
    by_cases hlt : i < b.size
    · have hx : i < (u b).length := by rw [u_size]; exact hlt
      have ht : (u b).take (i + 1) = (u b).take i ++ [(u b)[i]] := List.take_succ_eq_append_getElem hx
      have HT := Aside0.mk ht
      clear ht
      have p1 : (0 : Int) ≤ (i : Int) := by omega
      have p2 : (i : Int) < (b.size : Int) := by omega
      obtain ⟨h, hh⟩ : ∃ h, h = List.foldl crcStep 4294967295 ((u b).take i) := ⟨_, rfl⟩
      rw [← hh]
      have HH := Aside0.mk hh
      clear hh
      go_wp2_with fail
      go_loop [4, 6, 25] (fun v4 v6 v25 => ∃ (n : Nat), n ≤ 8 ∧ v25 = .int .i64 n ∧ v4 = .int .u32 (crcBits (Go.bits .xor .u32 h (IntKind.u32.wrap ((u b)[i].toNat : Int))) n)) (fun _ _ v25 => 8 - (intOf v25).toNat)
      case atStart => exact ⟨0, Nat.zero_le _, rfl, rfl⟩
      case round =>
        obtain ⟨n, hn, rfl, rfl⟩ := hrel
        obtain ⟨v, hv⟩ : ∃ v, v = crcBits (Go.bits .xor .u32 h (IntKind.u32.wrap ((u b)[i].toNat : Int))) n := ⟨_, rfl⟩
        rw [← hv]
        have HV := Aside0.mk hv
        clear hv
        by_cases h8 : n < 8
        · by_cases hb1 : Go.bits .and .u32 v 1 = 1
          · have hb2 : (Go.bits .and .u32 v 1 == 1) = true := beq_iff_eq.2 hb1
            go_wp2
            go_round
            case rel =>
              refine ⟨n + 1, by omega, by go_num, ?_⟩
              rw [crcBits, ← HV.out]
              unfold crcBit
              rw [if_pos hb1]
            case measure => simp [intOf]; omega
          · have hb2 : (Go.bits .and .u32 v 1 == 1) = false := beq_eq_false_iff_ne.2 hb1
            go_wp2
            go_round
            case rel =>
              refine ⟨n + 1, by omega, by go_num, ?_⟩
              rw [crcBits, ← HV.out]
              unfold crcBit
              rw [if_neg hb1]
            case measure => simp [intOf]; omega
        · have : n = 8 := by omega
          subst this
          go_wp2
          go_round
          case rel =>
            refine ⟨i + 1, by omega, by go_num, ?_⟩
            rw [HT.out, List.foldl_append, ← HH.out, HV.out]
            rfl
          case measure => simp [intOf]; omega
    · have : i = b.size := by omega
      subst this
      go_wp2
      go_end0
      exact ⟨rfl, by rw [List.take_of_length_le (by rw [u_size]; omega)]; rfl⟩
set_option maxHeartbeats 400000 in
theorem crc_now (B : Nat) (c : Int) (w : World) (hc : w.cell? ⟨B, 0, none⟩ = some (.int .u32 c)) : Calls Tryz.prog 85 #[.pointer (some ⟨B, 0, none⟩)] w fun e w' => e = .returned (.int .u32 c) ∧ w' = w := by
  go_enter Tryz.func85, Tryz.ntmps85
  go_wp2
  go_ret
  exact ⟨rfl, rfl⟩
set_option maxHeartbeats 400000 in
theorem crc_calls (b : ByteArray) (hb : b.size ≤ 140737488351232) (w : World) : Calls Tryz.prog 62 #[.string b] w fun e w' => e = .returned (.int .u32 (crcR (u b))) ∧ Below w.heap.size w w' := by
  go_enter Tryz.func62, Tryz.ntmps62
  go_wp2_with fail
  refine (crc_add b hb _ _ ?_ ?_).mono ?_
  · simp
  · simp
  rintro e w' ⟨rfl, rfl⟩
  go_wp2_with fail
  refine (crc_now _ (crcR (u b)) _ (by simp)).mono ?_
  rintro e w' ⟨rfl, rfl⟩
  go_wp2
  go_ret
  exact ⟨rfl, (Below.refl _ _).alloc (Nat.le_refl _) _⟩
theorem u32_range (x : Int) : 0 ≤ IntKind.u32.wrap x ∧ IntKind.u32.wrap x < 4294967296 := by
  simp [IntKind.wrap, IntKind.bits, IntKind.signed]; omega
theorem crc_range (l : List UInt8) : 0 ≤ crcR l ∧ crcR l < 4294967296 := by
  unfold crcR Go.bits
  exact u32_range _
end Go.Proofs.YtdpkgjahcapleaaGreat
