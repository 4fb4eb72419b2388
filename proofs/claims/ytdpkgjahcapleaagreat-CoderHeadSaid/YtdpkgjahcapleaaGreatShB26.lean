/- ShB: a part of its proof (contracts of the functions that it reaches, and the plain mathematics behind them). -/
import Derived.Test.YtdpkgjahcapleaaGreatShB19
import Derived.Test.YtdpkgjahcapleaaGreatShB16
import Derived.Test.YtdpkgjahcapleaaGreatShB39
set_option linter.unusedVariables false
set_option linter.unusedSimpArgs false
set_option linter.unusedVariables false
set_option linter.unusedSimpArgs false
namespace Go.Proofs.YtdpkgjahcapleaaGreat
open Go.RowKit Go.Proofs.YtdpkgjahcapleaaGreat.Spec Go.Proofs.YtdpkgjahcapleaaGreatW.PrintWords Go.Proofs.YtdpkgjahcapleaaGreatW.PrintLast
open Go.Proofs.YtdpkgjahcapleaaGreatW.PrintMore
attribute [local go_sem ↓] Go.wp_at_zero Go.wp_at_succ
attribute [local go_sem] max2_int min2_int max_two min_two
namespace Spec
structure Sc where
  out : ByteArray
  at_ : Nat
  code : Int
  done : Bool
def scan (l : List ByteArray) (how : Int) (blk : Nat) (B : ByteArray) : Nat → Nat → ByteArray → Sc
  | 0, a, out => ⟨out, a, 0, false⟩
  | f + 1, a, out =>
    if (frameR (B.extract a B.size) blk).e = 2 then ⟨out, a, 0, false⟩
    else if (frameR (B.extract a B.size) blk).e ≠ 0 then ⟨out, a, (frameR (B.extract a B.size) blk).e, false⟩
    else if (frameR (B.extract a B.size) blk).kind = 0 then
      if (frameR (B.extract a B.size) blk).raw ≠ out.size % 4294967296 then ⟨out, a, 12, false⟩
      else if a + (frameR (B.extract a B.size) blk).n < B.size then ⟨out, a + (frameR (B.extract a B.size) blk).n, 13, true⟩
      else ⟨out, a + (frameR (B.extract a B.size) blk).n, 0, true⟩
    else if (getR l how (frameR (B.extract a B.size) blk).kind (frameR (B.extract a B.size) blk).raw (frameR (B.extract a B.size) blk).pay).2 ≠ 0 then
      ⟨out, a, (getR l how (frameR (B.extract a B.size) blk).kind (frameR (B.extract a B.size) blk).raw (frameR (B.extract a B.size) blk).pay).2, false⟩
    else if crcR (u (getR l how (frameR (B.extract a B.size) blk).kind (frameR (B.extract a B.size) blk).raw (frameR (B.extract a B.size) blk).pay).1) ≠ (frameR (B.extract a B.size) blk).sum then ⟨out, a, 7, false⟩
    else scan l how blk B f (a + (frameR (B.extract a B.size) blk).n) (out ++ (getR l how (frameR (B.extract a B.size) blk).kind (frameR (B.extract a B.size) blk).raw (frameR (B.extract a B.size) blk).pay).1)
end Spec
theorem ext_all (B : ByteArray) (a : Nat) : (B.extract a B.size).size = B.size - a := by rw [ext_sz B a B.size (Nat.le_refl _)]
theorem scan_fuel (l : List ByteArray) (how : Int) (blk : Nat) (B : ByteArray) : ∀ (f f' a : Nat) (out : ByteArray), B.size < a + f → B.size < a + f' → a ≤ B.size → scan l how blk B f a out = scan l how blk B f' a out := by
  intro f
  induction f with
  | zero => intro f' a out h1 h2 h3; omega
  | succ f ih =>
    intro f' a out h1 h2 h3
    obtain ⟨f', rfl⟩ : ∃ g, f' = g + 1 := ⟨f' - 1, by omega⟩
    rw [scan, scan]
    by_cases g1 : (frameR (B.extract a B.size) blk).e = 2
    · rw [if_pos g1, if_pos g1]
    rw [if_neg g1, if_neg g1]
    by_cases g2 : (frameR (B.extract a B.size) blk).e ≠ 0
    · rw [if_pos g2, if_pos g2]
    rw [if_neg g2, if_neg g2]
    by_cases g3 : (frameR (B.extract a B.size) blk).kind = 0
    · rw [if_pos g3, if_pos g3]
    rw [if_neg g3, if_neg g3]
    obtain ⟨k1, k2, _, _⟩ := frame_n _ blk (Decidable.not_not.1 g2)
    rw [ext_all] at k2
    rw [ih f' _ _ (by omega) (by omega) (by omega)]
def scanF (l : List ByteArray) (how : Int) (blk : Nat) (B : ByteArray) (a : Nat) (out : ByteArray) : Sc := scan l how blk B (B.size + 1 - a) a out
section
variable {l : List ByteArray} {how : Int} {blk : Nat} {B : ByteArray} {a : Nat} {out : ByteArray}
theorem scan_wait (ha : a ≤ B.size) (h : (frameR (B.extract a B.size) blk).e = 2) : scanF l how blk B a out = ⟨out, a, 0, false⟩ := by
  unfold scanF
  rw [show B.size + 1 - a = (B.size - a) + 1 by omega, scan, if_pos h]
theorem scan_bad (ha : a ≤ B.size) (h : (frameR (B.extract a B.size) blk).e ≠ 2) (h2 : (frameR (B.extract a B.size) blk).e ≠ 0) : scanF l how blk B a out = ⟨out, a, (frameR (B.extract a B.size) blk).e, false⟩ := by
  unfold scanF
  rw [show B.size + 1 - a = (B.size - a) + 1 by omega, scan, if_neg h, if_pos h2]
theorem scan_length (ha : a ≤ B.size) (h : (frameR (B.extract a B.size) blk).e = 0) (hk : (frameR (B.extract a B.size) blk).kind = 0) (hr : (frameR (B.extract a B.size) blk).raw ≠ out.size % 4294967296) : scanF l how blk B a out = ⟨out, a, 12, false⟩ := by
  unfold scanF
  rw [show B.size + 1 - a = (B.size - a) + 1 by omega, scan, if_neg (by rw [h]; decide), if_neg (fun n => n h), if_pos hk, if_pos hr]
theorem scan_end (ha : a ≤ B.size) (h : (frameR (B.extract a B.size) blk).e = 0) (hk : (frameR (B.extract a B.size) blk).kind = 0) (hr : (frameR (B.extract a B.size) blk).raw = out.size % 4294967296) : scanF l how blk B a out = ⟨out, a + (frameR (B.extract a B.size) blk).n, if a + (frameR (B.extract a B.size) blk).n < B.size then 13 else 0, true⟩ := by
  unfold scanF
  rw [show B.size + 1 - a = (B.size - a) + 1 by omega, scan, if_neg (by rw [h]; decide), if_neg (fun n => n h), if_pos hk, if_neg (fun n => n hr)]
  split <;> rfl
theorem scan_get (ha : a ≤ B.size) (h : (frameR (B.extract a B.size) blk).e = 0) (hk : (frameR (B.extract a B.size) blk).kind ≠ 0) (hg : (getR l how (frameR (B.extract a B.size) blk).kind (frameR (B.extract a B.size) blk).raw (frameR (B.extract a B.size) blk).pay).2 ≠ 0) : scanF l how blk B a out = ⟨out, a, (getR l how (frameR (B.extract a B.size) blk).kind (frameR (B.extract a B.size) blk).raw (frameR (B.extract a B.size) blk).pay).2, false⟩ := by
  unfold scanF
  rw [show B.size + 1 - a = (B.size - a) + 1 by omega, scan, if_neg (by rw [h]; decide), if_neg (fun n => n h), if_neg hk, if_pos hg]
theorem scan_sum (ha : a ≤ B.size) (h : (frameR (B.extract a B.size) blk).e = 0) (hk : (frameR (B.extract a B.size) blk).kind ≠ 0) (hg : (getR l how (frameR (B.extract a B.size) blk).kind (frameR (B.extract a B.size) blk).raw (frameR (B.extract a B.size) blk).pay).2 = 0) (hs : crcR (u (getR l how (frameR (B.extract a B.size) blk).kind (frameR (B.extract a B.size) blk).raw (frameR (B.extract a B.size) blk).pay).1) ≠ (frameR (B.extract a B.size) blk).sum) : scanF l how blk B a out = ⟨out, a, 7, false⟩ := by
  unfold scanF
  rw [show B.size + 1 - a = (B.size - a) + 1 by omega, scan, if_neg (by rw [h]; decide), if_neg (fun n => n h), if_neg hk, if_neg (fun n => n hg), if_pos hs]
theorem scan_more (ha : a ≤ B.size) (h : (frameR (B.extract a B.size) blk).e = 0) (hk : (frameR (B.extract a B.size) blk).kind ≠ 0) (hg : (getR l how (frameR (B.extract a B.size) blk).kind (frameR (B.extract a B.size) blk).raw (frameR (B.extract a B.size) blk).pay).2 = 0) (hs : crcR (u (getR l how (frameR (B.extract a B.size) blk).kind (frameR (B.extract a B.size) blk).raw (frameR (B.extract a B.size) blk).pay).1) = (frameR (B.extract a B.size) blk).sum) : scanF l how blk B a out = scanF l how blk B (a + (frameR (B.extract a B.size) blk).n) (out ++ (getR l how (frameR (B.extract a B.size) blk).kind (frameR (B.extract a B.size) blk).raw (frameR (B.extract a B.size) blk).pay).1) := by
  obtain ⟨k1, k2, _, _⟩ := frame_n _ blk h
  rw [ext_all] at k2
  unfold scanF
  rw [show B.size + 1 - a = (B.size - a) + 1 by omega, scan, if_neg (by rw [h]; decide), if_neg (fun n => n h), if_neg hk, if_neg (fun n => n hg), if_neg (fun n => n hs)]
  exact scan_fuel l how blk B _ _ _ _ (by omega) (by omega) (by omega)
end
theorem scan_app (l : List ByteArray) (how : Int) (blk : Nat) (B c : ByteArray) : ∀ (d a : Nat) (out : ByteArray), a ≤ B.size → B.size ≤ a + d →
    (scanF l how blk B a out).at_ ≤ B.size ∧ a ≤ (scanF l how blk B a out).at_ ∧
    ((scanF l how blk B a out).code ≠ 0 → scanF l how blk (B ++ c) a out = scanF l how blk B a out) ∧
    ((scanF l how blk B a out).code = 0 → (scanF l how blk B a out).done = false → scanF l how blk (B ++ c) a out = scanF l how blk (B ++ c) (scanF l how blk B a out).at_ (scanF l how blk B a out).out ∧ (frameR (B.extract (scanF l how blk B a out).at_ B.size) blk).e = 2) ∧
    ((scanF l how blk B a out).code = 0 → (scanF l how blk B a out).done = true → (scanF l how blk B a out).at_ = B.size ∧ scanF l how blk (B ++ c) a out = ⟨(scanF l how blk B a out).out, B.size, if 0 < c.size then 13 else 0, true⟩) := by
  have hz : (B ++ c).size = B.size + c.size := ByteArray.size_append ..
  intro d
  induction d using Nat.strongRecOn with
  | ind d ih =>
    intro a out ha hd
    have hx : ∀ i, i ≤ B.size → (B ++ c).extract i (B ++ c).size = B.extract i B.size ++ c := by
      intro i hi
      apply u_inj
      rw [u_ext, u_app, u_app, u_ext, hz, List.drop_append_of_le_length (by rw [u_size]; omega), List.take_of_length_le (by rw [List.length_append, List.length_drop, u_size, u_size]; omega), List.take_of_length_le (by rw [List.length_drop, u_size]; omega)]
    by_cases g1 : (frameR (B.extract a B.size) blk).e = 2
    · rw [scan_wait ha g1]
      exact ⟨ha, Nat.le_refl _, fun h => absurd rfl h, fun _ _ => ⟨rfl, g1⟩, fun _ h => Bool.noConfusion h⟩
    have g0 : frameR ((B ++ c).extract a (B ++ c).size) blk = frameR (B.extract a B.size) blk := by rw [hx a ha]; exact frame_app _ _ _ g1
    have ha2 : a ≤ (B ++ c).size := by omega
    by_cases g2 : (frameR (B.extract a B.size) blk).e = 0
    · obtain ⟨k1, k2, _, _⟩ := frame_n _ blk g2
      rw [ext_all] at k2
      by_cases g3 : (frameR (B.extract a B.size) blk).kind = 0
      · by_cases g4 : (frameR (B.extract a B.size) blk).raw = out.size % 4294967296
        · rw [scan_end ha g2 g3 g4, scan_end ha2 (by rw [g0]; exact g2) (by rw [g0]; exact g3) (by rw [g0]; exact g4), g0, hz]
          by_cases g5 : a + (frameR (B.extract a B.size) blk).n < B.size
          · rw [if_pos g5, if_pos (by omega)]
            exact ⟨by show a + _ ≤ _; omega, by show a ≤ a + _; omega, fun _ => rfl, fun h => absurd h (show ¬ (13 : Int) = 0 by decide), fun h => absurd h (show ¬ (13 : Int) = 0 by decide)⟩
          · rw [if_neg g5]
            have g6 : a + (frameR (B.extract a B.size) blk).n = B.size := by omega
            rw [g6]
            refine ⟨Nat.le_refl _, ha, fun h => absurd rfl h, fun _ h => Bool.noConfusion h, fun _ _ => ⟨rfl, ?_⟩⟩
            by_cases g7 : 0 < c.size
            · rw [if_pos g7, if_pos (by omega)]
            · rw [if_neg g7, if_neg (by omega)]
        · rw [scan_length ha g2 g3 g4, scan_length ha2 (by rw [g0]; exact g2) (by rw [g0]; exact g3) (by rw [g0]; exact g4)]
          exact ⟨ha, Nat.le_refl _, fun _ => rfl, fun h => absurd h (show ¬ (12 : Int) = 0 by decide), fun h => absurd h (show ¬ (12 : Int) = 0 by decide)⟩
      · by_cases g4 : (getR l how (frameR (B.extract a B.size) blk).kind (frameR (B.extract a B.size) blk).raw (frameR (B.extract a B.size) blk).pay).2 = 0
        · by_cases g5 : crcR (u (getR l how (frameR (B.extract a B.size) blk).kind (frameR (B.extract a B.size) blk).raw (frameR (B.extract a B.size) blk).pay).1) = (frameR (B.extract a B.size) blk).sum
          · rw [scan_more ha g2 g3 g4 g5, scan_more ha2 (by rw [g0]; exact g2) (by rw [g0]; exact g3) (by rw [g0]; exact g4) (by rw [g0]; exact g5), g0]
            obtain ⟨j1, j2, j3⟩ := ih (d - (frameR (B.extract a B.size) blk).n) (by omega) (a + (frameR (B.extract a B.size) blk).n) (out ++ (getR l how (frameR (B.extract a B.size) blk).kind (frameR (B.extract a B.size) blk).raw (frameR (B.extract a B.size) blk).pay).1) (by omega) (by omega)
            exact ⟨j1, by omega, j3⟩
          · rw [scan_sum ha g2 g3 g4 g5, scan_sum ha2 (by rw [g0]; exact g2) (by rw [g0]; exact g3) (by rw [g0]; exact g4) (by rw [g0]; exact g5)]
            exact ⟨ha, Nat.le_refl _, fun _ => rfl, fun h => absurd h (show ¬ (7 : Int) = 0 by decide), fun h => absurd h (show ¬ (7 : Int) = 0 by decide)⟩
        · rw [scan_get ha g2 g3 g4, scan_get ha2 (by rw [g0]; exact g2) (by rw [g0]; exact g3) (by rw [g0]; exact g4), g0]
          exact ⟨ha, Nat.le_refl _, fun _ => rfl, fun h => absurd h g4, fun h => absurd h g4⟩
    · rw [scan_bad ha g1 g2, scan_bad ha2 (by rw [g0]; exact g1) (by rw [g0]; exact g2), g0]
      have g3 : ¬ (((frameR (B.extract a B.size) blk).e : Nat) : Int) = 0 := by omega
      exact ⟨ha, Nat.le_refl _, fun _ => rfl, fun h => absurd h g3, fun h => absurd h g3⟩
end Go.Proofs.YtdpkgjahcapleaaGreat
