/- ShNone: a part of its proof (contracts of the functions that it reaches, and the plain mathematics behind them). -/
import Derived.Test.YtdpkgjahcapleaaGreatShNone16
set_option linter.unusedVariables false
set_option linter.unusedSimpArgs false
set_option linter.unusedVariables false
set_option linter.unusedSimpArgs false
namespace Go.Proofs.YtdpkgjahcapleaaGreat
open Go.RowKit Go.Proofs.YtdpkgjahcapleaaGreat.Spec Go.Proofs.YtdpkgjahcapleaaGreatW.PrintWords Go.Proofs.YtdpkgjahcapleaaGreatW.PrintLast
open Go.Proofs.YtdpkgjahcapleaaGreatW.PrintMore
attribute [local go_sem ↓] Go.wp_at_zero Go.wp_at_succ
attribute [local go_sem] max2_int min2_int max_two min_two
namespace Spec
def magicS : ByteArray := ⟨#[76, 88, 80, 72]⟩
structure Hd where
  c : Nat
  k : Nat
  id : Nat
  e : Nat
def headR (b : ByteArray) : Hd :=
  if b.size < 17 then ⟨0, 0, 0, 2⟩
  else if b.extract 0 4 ≠ magicS ∨ byteAt b 4 ≠ 1 then ⟨0, 0, 0, 3⟩
  else if 1 < byteAt b 5 then ⟨0, 0, 0, 8⟩
  else if ofB (u (b.extract 6 9)) < 1 ∨ 1024 < ofB (u (b.extract 6 9)) then ⟨0, 0, 0, 4⟩
  else ⟨byteAt b 5, ofB (u (b.extract 6 9)), ofB (u (b.extract 9 17)), 0⟩
structure Fr where
  kind : Nat
  raw : Nat
  sum : Nat
  pay : ByteArray
  n : Nat
  e : Nat
def frBad (e : Nat) : Fr := ⟨0, 0, 0, ⟨#[]⟩, 0, e⟩
def frameR (b : ByteArray) (blk : Nat) : Fr :=
  if b.size = 0 then frBad 2
  else if 2 < byteAt b 0 then frBad 3
  else if byteAt b 0 = 0 ∧ b.size < 5 ∨ byteAt b 0 ≠ 0 ∧ b.size < 9 then frBad 2
  else if byteAt b 0 = 0 then ⟨0, ofB (u (b.extract 1 5)), 0, ⟨#[]⟩, 5, 0⟩
  else if blk < ofB (u (b.extract 1 3)) ∨ ¬ fitsR (byteAt b 0) (ofB (u (b.extract 1 3))) (ofB (u (b.extract 3 5))) then frBad 10
  else if b.size - 9 < ofB (u (b.extract 3 5)) then frBad 2
  else ⟨byteAt b 0, ofB (u (b.extract 1 3)), ofB (u (b.extract 5 9)), b.extract 9 (9 + ofB (u (b.extract 3 5))), 9 + ofB (u (b.extract 3 5)), 0⟩
end Spec
theorem ext_app (b c : ByteArray) (i j : Nat) (h : j ≤ b.size) : (b ++ c).extract i j = b.extract i j := by
  apply u_inj
  rw [u_ext, u_ext, u_app]
  by_cases hi : i ≤ j
  · rw [List.drop_append_of_le_length (by rw [u_size]; omega), List.take_append_of_le_length (by rw [List.length_drop, u_size]; omega)]
  · rw [show j - i = 0 by omega, List.take_zero, List.take_zero]
theorem byte_app (b c : ByteArray) (i : Nat) (h : i < b.size) : byteAt (b ++ c) i = byteAt b i := by
  unfold byteAt
  rw [u_app, List.getD_eq_getElem?_getD, List.getD_eq_getElem?_getD, List.getElem?_append_left (by rw [u_size]; exact h)]
theorem head_app (b c : ByteArray) (h : 17 ≤ b.size) : headR (b ++ c) = headR b := by
  unfold headR
  have hz : (b ++ c).size = b.size + c.size := ByteArray.size_append ..
  rw [if_neg (show ¬ (b ++ c).size < 17 by omega), if_neg (show ¬ b.size < 17 by omega), ext_app b c 0 4 (by omega), ext_app b c 6 9 (by omega), ext_app b c 9 17 (by omega), byte_app b c 4 (by omega), byte_app b c 5 (by omega)]
theorem frame_app (b c : ByteArray) (blk : Nat) (h : (frameR b blk).e ≠ 2) : frameR (b ++ c) blk = frameR b blk := by
  have hz : (b ++ c).size = b.size + c.size := ByteArray.size_append ..
  unfold frameR at h ⊢
  by_cases h0 : b.size = 0
  · rw [if_pos h0] at h; exact absurd rfl h
  · rw [if_neg h0] at h ⊢
    rw [if_neg (by omega), byte_app b c 0 (by omega)]
    by_cases h1 : 2 < byteAt b 0
    · rw [if_pos h1, if_pos h1]
    · rw [if_neg h1] at h ⊢
      rw [if_neg h1]
      by_cases h2 : byteAt b 0 = 0 ∧ b.size < 5 ∨ byteAt b 0 ≠ 0 ∧ b.size < 9
      · rw [if_pos h2] at h; exact absurd rfl h
      · rw [if_neg h2] at h ⊢
        rw [if_neg (by omega)]
        by_cases h3 : byteAt b 0 = 0
        · rw [if_pos h3, if_pos h3, ext_app b c 1 5 (by omega)]
        · rw [if_neg h3] at h ⊢
          rw [if_neg h3, ext_app b c 1 3 (by omega), ext_app b c 3 5 (by omega), ext_app b c 5 9 (by omega)]
          by_cases h4 : blk < ofB (u (b.extract 1 3)) ∨ ¬ fitsR (byteAt b 0) (ofB (u (b.extract 1 3))) (ofB (u (b.extract 3 5)))
          · rw [if_pos h4, if_pos h4]
          · rw [if_neg h4] at h ⊢
            rw [if_neg h4]
            by_cases h5 : b.size - 9 < ofB (u (b.extract 3 5))
            · rw [if_pos h5] at h; exact absurd rfl h
            · rw [if_neg h5, if_neg (by omega), ext_app b c 9 _ (by omega)]
theorem frame_n (b : ByteArray) (blk : Nat) (h : (frameR b blk).e = 0) : 5 ≤ (frameR b blk).n ∧ (frameR b blk).n ≤ b.size ∧ (frameR b blk).n ≤ 1033 ∧ ((frameR b blk).kind = 0 ∧ (frameR b blk).raw < 4294967296 ∨ (1 ≤ (frameR b blk).kind ∧ (frameR b blk).kind ≤ 2) ∧ (1 ≤ (frameR b blk).raw ∧ (frameR b blk).raw ≤ 1024) ∧ (frameR b blk).pay.size ≤ 1024) := by
  unfold frameR at h ⊢
  by_cases h0 : b.size = 0
  · rw [if_pos h0] at h; exact absurd h (by decide)
  rw [if_neg h0] at h ⊢
  by_cases h1 : 2 < byteAt b 0
  · rw [if_pos h1] at h; exact absurd h (by decide)
  rw [if_neg h1] at h ⊢
  by_cases h2 : byteAt b 0 = 0 ∧ b.size < 5 ∨ byteAt b 0 ≠ 0 ∧ b.size < 9
  · rw [if_pos h2] at h; exact absurd h (by decide)
  rw [if_neg h2] at h ⊢
  by_cases h3 : byteAt b 0 = 0
  · rw [if_pos h3]
    have := ofB_ext b 1 5
    exact ⟨Nat.le_refl 5, show 5 ≤ b.size by omega, show 5 ≤ 1033 by omega, .inl ⟨rfl, this⟩⟩
  rw [if_neg h3] at h ⊢
  by_cases h4 : blk < ofB (u (b.extract 1 3)) ∨ ¬ fitsR (byteAt b 0) (ofB (u (b.extract 1 3))) (ofB (u (b.extract 3 5)))
  · rw [if_pos h4] at h; exact absurd h (by decide)
  rw [if_neg h4] at h ⊢
  have h4' : fitsR (byteAt b 0) (ofB (u (b.extract 1 3))) (ofB (u (b.extract 3 5))) := Decidable.not_not.1 (fun n => h4 (.inr n))
  unfold fitsR at h4'
  by_cases h5 : b.size - 9 < ofB (u (b.extract 3 5))
  · rw [if_pos h5] at h; exact absurd h (by decide)
  rw [if_neg h5]
  generalize ofB (u (b.extract 3 5)) = n at *
  generalize ofB (u (b.extract 1 3)) = r at *
  have hp : (b.extract 9 (9 + n)).size = n := by rw [ext_sz b 9 (9 + n) (by omega)]; omega
  exact ⟨show 5 ≤ 9 + n by omega, show 9 + n ≤ b.size by omega, show 9 + n ≤ 1033 by omega, .inr ⟨⟨show 1 ≤ byteAt b 0 by omega, show byteAt b 0 ≤ 2 by omega⟩, ⟨show 1 ≤ r by omega, show r ≤ 1024 by omega⟩, show (b.extract 9 (9 + n)).size ≤ 1024 by omega⟩⟩
end Go.Proofs.YtdpkgjahcapleaaGreat
