/- ShF: a part of its proof (contracts of the functions that it reaches, and the plain mathematics behind them). -/
import Derived.Test.YtdpkgjahcapleaaGreatShF20
import Derived.Test.YtdpkgjahcapleaaGreatShF17
import Derived.Test.YtdpkgjahcapleaaGreatShF47
import Derived.Test.YtdpkgjahcapleaaGreatShF19
import Derived.Test.YtdpkgjahcapleaaGreatShF28
import Derived.Deep.RegionHeld3
set_option linter.unusedVariables false
set_option linter.unusedSimpArgs false
set_option linter.unusedVariables false
set_option linter.unusedSimpArgs false
namespace Go.Proofs.YtdpkgjahcapleaaGreat
open Go.RowKit Go.Proofs.YtdpkgjahcapleaaGreat.Spec Go.Proofs.YtdpkgjahcapleaaGreatW.PrintWords Go.Proofs.YtdpkgjahcapleaaGreatW.PrintLast
open Go.Proofs.YtdpkgjahcapleaaGreatW.PrintMore
attribute [local go_sem ↓] Go.wp_at_zero Go.wp_at_succ
attribute [local go_sem] max2_int min2_int max_two min_two
namespace Spec
structure Sc where
  out : ByteArray
  at_ : Nat
  code : Int
  done : Bool
def scan (l : List ByteArray) (how : Int) (blk : Nat) (B : ByteArray) : Nat → Nat → ByteArray → Sc
  | 0, a, out => ⟨out, a, 0, false⟩
  | f + 1, a, out =>
    if (frameR (B.extract a B.size) blk).e = 2 then ⟨out, a, 0, false⟩
    else if (frameR (B.extract a B.size) blk).e ≠ 0 then ⟨out, a, (frameR (B.extract a B.size) blk).e, false⟩
    else if (frameR (B.extract a B.size) blk).kind = 0 then
      if (frameR (B.extract a B.size) blk).raw ≠ out.size % 4294967296 then ⟨out, a, 12, false⟩
      else if a + (frameR (B.extract a B.size) blk).n < B.size then ⟨out, a + (frameR (B.extract a B.size) blk).n, 13, true⟩
      else ⟨out, a + (frameR (B.extract a B.size) blk).n, 0, true⟩
    else if (getR l how (frameR (B.extract a B.size) blk).kind (frameR (B.extract a B.size) blk).raw (frameR (B.extract a B.size) blk).pay).2 ≠ 0 then
      ⟨out, a, (getR l how (frameR (B.extract a B.size) blk).kind (frameR (B.extract a B.size) blk).raw (frameR (B.extract a B.size) blk).pay).2, false⟩
    else if crcR (u (getR l how (frameR (B.extract a B.size) blk).kind (frameR (B.extract a B.size) blk).raw (frameR (B.extract a B.size) blk).pay).1) ≠ (frameR (B.extract a B.size) blk).sum then ⟨out, a, 7, false⟩
    else scan l how blk B f (a + (frameR (B.extract a B.size) blk).n) (out ++ (getR l how (frameR (B.extract a B.size) blk).kind (frameR (B.extract a B.size) blk).raw (frameR (B.extract a B.size) blk).pay).1)
end Spec
theorem ext_all (B : ByteArray) (a : Nat) : (B.extract a B.size).size = B.size - a := by rw [ext_sz B a B.size (Nat.le_refl _)]
theorem scan_fuel (l : List ByteArray) (how : Int) (blk : Nat) (B : ByteArray) : ∀ (f f' a : Nat) (out : ByteArray), B.size < a + f → B.size < a + f' → a ≤ B.size → scan l how blk B f a out = scan l how blk B f' a out := by
  intro f
  induction f with
  | zero => intro f' a out h1 h2 h3; omega
  | succ f ih =>
    intro f' a out h1 h2 h3
    obtain ⟨f', rfl⟩ : ∃ g, f' = g + 1 := ⟨f' - 1, by omega⟩
    rw [scan, scan]
    by_cases g1 : (frameR (B.extract a B.size) blk).e = 2
    · rw [if_pos g1, if_pos g1]
    rw [if_neg g1, if_neg g1]
    by_cases g2 : (frameR (B.extract a B.size) blk).e ≠ 0
    · rw [if_pos g2, if_pos g2]
    rw [if_neg g2, if_neg g2]
    by_cases g3 : (frameR (B.extract a B.size) blk).kind = 0
    · rw [if_pos g3, if_pos g3]
    rw [if_neg g3, if_neg g3]
    obtain ⟨k1, k2, _, _⟩ := frame_n _ blk (Decidable.not_not.1 g2)
    rw [ext_all] at k2
    rw [ih f' _ _ (by omega) (by omega) (by omega)]
def scanF (l : List ByteArray) (how : Int) (blk : Nat) (B : ByteArray) (a : Nat) (out : ByteArray) : Sc := scan l how blk B (B.size + 1 - a) a out
section
variable {l : List ByteArray} {how : Int} {blk : Nat} {B : ByteArray} {a : Nat} {out : ByteArray}
theorem scan_wait (ha : a ≤ B.size) (h : (frameR (B.extract a B.size) blk).e = 2) : scanF l how blk B a out = ⟨out, a, 0, false⟩ := by
  unfold scanF
  rw [show B.size + 1 - a = (B.size - a) + 1 by omega, scan, if_pos h]
theorem scan_bad (ha : a ≤ B.size) (h : (frameR (B.extract a B.size) blk).e ≠ 2) (h2 : (frameR (B.extract a B.size) blk).e ≠ 0) : scanF l how blk B a out = ⟨out, a, (frameR (B.extract a B.size) blk).e, false⟩ := by
  unfold scanF
  rw [show B.size + 1 - a = (B.size - a) + 1 by omega, scan, if_neg h, if_pos h2]
theorem scan_length (ha : a ≤ B.size) (h : (frameR (B.extract a B.size) blk).e = 0) (hk : (frameR (B.extract a B.size) blk).kind = 0) (hr : (frameR (B.extract a B.size) blk).raw ≠ out.size % 4294967296) : scanF l how blk B a out = ⟨out, a, 12, false⟩ := by
  unfold scanF
  rw [show B.size + 1 - a = (B.size - a) + 1 by omega, scan, if_neg (by rw [h]; decide), if_neg (fun n => n h), if_pos hk, if_pos hr]
theorem scan_end (ha : a ≤ B.size) (h : (frameR (B.extract a B.size) blk).e = 0) (hk : (frameR (B.extract a B.size) blk).kind = 0) (hr : (frameR (B.extract a B.size) blk).raw = out.size % 4294967296) : scanF l how blk B a out = ⟨out, a + (frameR (B.extract a B.size) blk).n, if a + (frameR (B.extract a B.size) blk).n < B.size then 13 else 0, true⟩ := by
  unfold scanF
  rw [show B.size + 1 - a = (B.size - a) + 1 by omega, scan, if_neg (by rw [h]; decide), if_neg (fun n => n h), if_pos hk, if_neg (fun n => n hr)]
  split <;> rfl
theorem scan_get (ha : a ≤ B.size) (h : (frameR (B.extract a B.size) blk).e = 0) (hk : (frameR (B.extract a B.size) blk).kind ≠ 0) (hg : (getR l how (frameR (B.extract a B.size) blk).kind (frameR (B.extract a B.size) blk).raw (frameR (B.extract a B.size) blk).pay).2 ≠ 0) : scanF l how blk B a out = ⟨out, a, (getR l how (frameR (B.extract a B.size) blk).kind (frameR (B.extract a B.size) blk).raw (frameR (B.extract a B.size) blk).pay).2, false⟩ := by
  unfold scanF
  rw [show B.size + 1 - a = (B.size - a) + 1 by omega, scan, if_neg (by rw [h]; decide), if_neg (fun n => n h), if_neg hk, if_pos hg]
theorem scan_sum (ha : a ≤ B.size) (h : (frameR (B.extract a B.size) blk).e = 0) (hk : (frameR (B.extract a B.size) blk).kind ≠ 0) (hg : (getR l how (frameR (B.extract a B.size) blk).kind (frameR (B.extract a B.size) blk).raw (frameR (B.extract a B.size) blk).pay).2 = 0) (hs : crcR (u (getR l how (frameR (B.extract a B.size) blk).kind (frameR (B.extract a B.size) blk).raw (frameR (B.extract a B.size) blk).pay).1) ≠ (frameR (B.extract a B.size) blk).sum) : scanF l how blk B a out = ⟨out, a, 7, false⟩ := by
  unfold scanF
  rw [show B.size + 1 - a = (B.size - a) + 1 by omega, scan, if_neg (by rw [h]; decide), if_neg (fun n => n h), if_neg hk, if_neg (fun n => n hg), if_pos hs]
theorem scan_more (ha : a ≤ B.size) (h : (frameR (B.extract a B.size) blk).e = 0) (hk : (frameR (B.extract a B.size) blk).kind ≠ 0) (hg : (getR l how (frameR (B.extract a B.size) blk).kind (frameR (B.extract a B.size) blk).raw (frameR (B.extract a B.size) blk).pay).2 = 0) (hs : crcR (u (getR l how (frameR (B.extract a B.size) blk).kind (frameR (B.extract a B.size) blk).raw (frameR (B.extract a B.size) blk).pay).1) = (frameR (B.extract a B.size) blk).sum) : scanF l how blk B a out = scanF l how blk B (a + (frameR (B.extract a B.size) blk).n) (out ++ (getR l how (frameR (B.extract a B.size) blk).kind (frameR (B.extract a B.size) blk).raw (frameR (B.extract a B.size) blk).pay).1) := by
  obtain ⟨k1, k2, _, _⟩ := frame_n _ blk h
  rw [ext_all] at k2
  unfold scanF
  rw [show B.size + 1 - a = (B.size - a) + 1 by omega, scan, if_neg (by rw [h]; decide), if_neg (fun n => n h), if_neg hk, if_neg (fun n => n hg), if_neg (fun n => n hs)]
  exact scan_fuel l how blk B _ _ _ _ (by omega) (by omega) (by omega)
end
theorem scan_app (l : List ByteArray) (how : Int) (blk : Nat) (B c : ByteArray) : ∀ (d a : Nat) (out : ByteArray), a ≤ B.size → B.size ≤ a + d →
    (scanF l how blk B a out).at_ ≤ B.size ∧ a ≤ (scanF l how blk B a out).at_ ∧
    ((scanF l how blk B a out).code ≠ 0 → scanF l how blk (B ++ c) a out = scanF l how blk B a out) ∧
    ((scanF l how blk B a out).code = 0 → (scanF l how blk B a out).done = false → scanF l how blk (B ++ c) a out = scanF l how blk (B ++ c) (scanF l how blk B a out).at_ (scanF l how blk B a out).out ∧ (frameR (B.extract (scanF l how blk B a out).at_ B.size) blk).e = 2) ∧
    ((scanF l how blk B a out).code = 0 → (scanF l how blk B a out).done = true → (scanF l how blk B a out).at_ = B.size ∧ scanF l how blk (B ++ c) a out = ⟨(scanF l how blk B a out).out, B.size, if 0 < c.size then 13 else 0, true⟩) := by
  have hz : (B ++ c).size = B.size + c.size := ByteArray.size_append ..
  intro d
  induction d using Nat.strongRecOn with
  | ind d ih =>
    intro a out ha hd
    have hx : ∀ i, i ≤ B.size → (B ++ c).extract i (B ++ c).size = B.extract i B.size ++ c := by
      intro i hi
      apply u_inj
      rw [u_ext, u_app, u_app, u_ext, hz, List.drop_append_of_le_length (by rw [u_size]; omega), List.take_of_length_le (by rw [List.length_append, List.length_drop, u_size, u_size]; omega), List.take_of_length_le (by rw [List.length_drop, u_size]; omega)]
    by_cases g1 : (frameR (B.extract a B.size) blk).e = 2
    · rw [scan_wait ha g1]
      exact ⟨ha, Nat.le_refl _, fun h => absurd rfl h, fun _ _ => ⟨rfl, g1⟩, fun _ h => Bool.noConfusion h⟩
    have g0 : frameR ((B ++ c).extract a (B ++ c).size) blk = frameR (B.extract a B.size) blk := by rw [hx a ha]; exact frame_app _ _ _ g1
    have ha2 : a ≤ (B ++ c).size := by omega
    by_cases g2 : (frameR (B.extract a B.size) blk).e = 0
    · obtain ⟨k1, k2, _, _⟩ := frame_n _ blk g2
      rw [ext_all] at k2
      by_cases g3 : (frameR (B.extract a B.size) blk).kind = 0
      · by_cases g4 : (frameR (B.extract a B.size) blk).raw = out.size % 4294967296
        · rw [scan_end ha g2 g3 g4, scan_end ha2 (by rw [g0]; exact g2) (by rw [g0]; exact g3) (by rw [g0]; exact g4), g0, hz]
          by_cases g5 : a + (frameR (B.extract a B.size) blk).n < B.size
          · rw [if_pos g5, if_pos (by omega)]
            exact ⟨by show a + _ ≤ _; omega, by show a ≤ a + _; omega, fun _ => rfl, fun h => absurd h (show ¬ (13 : Int) = 0 by decide), fun h => absurd h (show ¬ (13 : Int) = 0 by decide)⟩
          · rw [if_neg g5]
            have g6 : a + (frameR (B.extract a B.size) blk).n = B.size := by omega
            rw [g6]
            refine ⟨Nat.le_refl _, ha, fun h => absurd rfl h, fun _ h => Bool.noConfusion h, fun _ _ => ⟨rfl, ?_⟩⟩
            by_cases g7 : 0 < c.size
            · rw [if_pos g7, if_pos (by omega)]
            · rw [if_neg g7, if_neg (by omega)]
        · rw [scan_length ha g2 g3 g4, scan_length ha2 (by rw [g0]; exact g2) (by rw [g0]; exact g3) (by rw [g0]; exact g4)]
          exact ⟨ha, Nat.le_refl _, fun _ => rfl, fun h => absurd h (show ¬ (12 : Int) = 0 by decide), fun h => absurd h (show ¬ (12 : Int) = 0 by decide)⟩
      · by_cases g4 : (getR l how (frameR (B.extract a B.size) blk).kind (frameR (B.extract a B.size) blk).raw (frameR (B.extract a B.size) blk).pay).2 = 0
        · by_cases g5 : crcR (u (getR l how (frameR (B.extract a B.size) blk).kind (frameR (B.extract a B.size) blk).raw (frameR (B.extract a B.size) blk).pay).1) = (frameR (B.extract a B.size) blk).sum
          · rw [scan_more ha g2 g3 g4 g5, scan_more ha2 (by rw [g0]; exact g2) (by rw [g0]; exact g3) (by rw [g0]; exact g4) (by rw [g0]; exact g5), g0]
            obtain ⟨j1, j2, j3⟩ := ih (d - (frameR (B.extract a B.size) blk).n) (by omega) (a + (frameR (B.extract a B.size) blk).n) (out ++ (getR l how (frameR (B.extract a B.size) blk).kind (frameR (B.extract a B.size) blk).raw (frameR (B.extract a B.size) blk).pay).1) (by omega) (by omega)
            exact ⟨j1, by omega, j3⟩
          · rw [scan_sum ha g2 g3 g4 g5, scan_sum ha2 (by rw [g0]; exact g2) (by rw [g0]; exact g3) (by rw [g0]; exact g4) (by rw [g0]; exact g5)]
            exact ⟨ha, Nat.le_refl _, fun _ => rfl, fun h => absurd h (show ¬ (7 : Int) = 0 by decide), fun h => absurd h (show ¬ (7 : Int) = 0 by decide)⟩
        · rw [scan_get ha g2 g3 g4, scan_get ha2 (by rw [g0]; exact g2) (by rw [g0]; exact g3) (by rw [g0]; exact g4), g0]
          exact ⟨ha, Nat.le_refl _, fun _ => rfl, fun h => absurd h g4, fun h => absurd h g4⟩
    · rw [scan_bad ha g1 g2, scan_bad ha2 (by rw [g0]; exact g1) (by rw [g0]; exact g2), g0]
      have g3 : ¬ (((frameR (B.extract a B.size) blk).e : Nat) : Int) = 0 := by omega
      exact ⟨ha, Nat.le_refl _, fun _ => rfl, fun h => absurd h g3, fun h => absurd h g3⟩
end Go.Proofs.YtdpkgjahcapleaaGreat
set_option linter.unusedVariables false
set_option linter.unusedSimpArgs false
namespace Go.Proofs.YtdpkgjahcapleaaGreat
open Go.RowKit Go.Proofs.YtdpkgjahcapleaaGreat.Spec Go.Proofs.YtdpkgjahcapleaaGreatW.PrintWords Go.Proofs.YtdpkgjahcapleaaGreatW.PrintLast
open Go.Proofs.YtdpkgjahcapleaaGreatW.PrintMore
attribute [local go_sem ↓] Go.wp_at_zero Go.wp_at_succ
attribute [local go_sem] max2_int min2_int max_two min_two
structure Mv (g : Nat) (w w' : World) : Prop where
  os : w'.os = w.os
  tape : w'.tape = w.tape
  output : w'.output = w.output
  size : w.heap.size ≤ w'.heap.size
  block : ∀ k, k < w.heap.size → k ≠ g → w'.heap[k]? = w.heap[k]?
section
variable {g : Nat} {w w1 w2 w0 : World}
theorem Mv.refl (g : Nat) (w : World) : Mv g w w := ⟨rfl, rfl, rfl, Nat.le_refl _, fun _ _ _ => rfl⟩
theorem Mv.trans (h : Mv g w w1) (k : Mv g w1 w2) : Mv g w w2 := ⟨k.os.trans h.os, k.tape.trans h.tape, k.output.trans h.output, Nat.le_trans h.size k.size, fun i hi hg => (k.block i (Nat.lt_of_lt_of_le hi h.size) hg).trans (h.block i hi hg)⟩
theorem Mv.of (h : Below w.heap.size w w1) : Mv g w w1 := ⟨h.os, h.tape, h.output, h.size, fun k hk _ => h.block k hk⟩
theorem Mv.then (h : Mv g w w1) (k : Below w1.heap.size w1 w2) : Mv g w w2 := h.trans (Mv.of k)
theorem Mv.set_ (h : Mv g w w1) (i : Nat) (v : Value) : Mv g w (w1.setCell ⟨g, i, none⟩ v) := ⟨h.os, h.tape, h.output, by simpa using h.size, fun k hk hg => (Below.heap_setCell w1 ⟨g, i, none⟩ v k hg).trans (h.block k hk hg)⟩
theorem Mv.alloc (h : Mv g w w1) (o : Obj) : Mv g w (w1.alloc o) := h.then ((Below.refl _ _).alloc (Nat.le_refl _) o)
theorem Mv.drewN (h : Mv g w w1) (n : Nat) : Mv g w (w1.drewN n) := ⟨h.os, h.tape, h.output, h.size, h.block⟩
theorem Mv.low (h : Mv g w w1) (hb : Below w0.heap.size w0 w) (hg : w0.heap.size ≤ g) : Below w0.heap.size w0 w1 := ⟨h.os.trans hb.os, h.tape.trans hb.tape, h.output.trans hb.output, Nat.le_trans hb.size h.size, fun k hk => (h.block k (Nat.lt_of_lt_of_le hk hb.size) (by omega)).trans (hb.block k hk)⟩
theorem Mv.blk {g' : Nat} {o : Obj} (h : Mv g w w1) (hb : w.heap[g']? = some o) (hg : g' ≠ g) : w1.heap[g']? = some o := (h.block g' (blk_lt hb) hg).trans hb
end
def DicF (g : Nat) (w : World) (P : Value) (l : List ByteArray) : Prop := ∀ W, Mv g w W → DictAt W P l
theorem DicF.now {g : Nat} {w : World} {P : Value} {l : List ByteArray} (h : DicF g w P l) : DictAt w P l := h w (Mv.refl g w)
theorem DicF.step {g : Nat} {w w1 : World} {P : Value} {l : List ByteArray} (h : DicF g w P l) (k : Mv g w w1) : DicF g w1 P l := fun W hW => h W (k.trans hW)
theorem DicF.of {g : Nat} {w0 w : World} {P : Value} {l : List ByteArray} (h : DictAt w0 P l) (hb : Below w0.heap.size w0 w) (hg : w0.heap.size ≤ g) : DicF g w P l := fun W hW => h.below (hW.low hb hg)
namespace Spec
structure D where
  hc : Nat
  hk : Nat
  hid : Nat
  begun : Bool
  done : Bool
  held : ByteArray
  at_ : Nat
  told : Nat
  ec : Int
  ea : Nat
end Spec
def decC (P : Value) (d : D) : Array Value := #[P, .int .i64 (d.hc : Int), .int .i64 (d.hk : Int), .int .u64 (d.hid : Int), .bool d.begun, .bool d.done, .string d.held, .int .i64 (d.at_ : Int), .int .i64 (d.told : Int), errV d.ec (d.ea : Int)]
def DecAt (w : World) (g : Nat) (P : Value) (d : D) : Prop := w.heap[g]? = some (.cells (decC P d) 87 (0, 0))
section
variable {w : World} {g : Nat} {P : Value} {d : D}
theorem DecAt.lt (h : DecAt w g P d) : g < w.heap.size := blk_lt h
theorem DecAt.below {w1 : World} (h : DecAt w g P d) (hb : Below w.heap.size w w1) : DecAt w1 g P d := blk_below h hb
theorem DecAt.c0 (h : DecAt w g P d) : w.cell? ⟨g, 0, none⟩ = some P := (blk_cell h 0).trans rfl
theorem DecAt.c1 (h : DecAt w g P d) : w.cell? ⟨g, 1, none⟩ = some (.int .i64 (d.hc : Int)) := (blk_cell h 1).trans rfl
theorem DecAt.c2 (h : DecAt w g P d) : w.cell? ⟨g, 2, none⟩ = some (.int .i64 (d.hk : Int)) := (blk_cell h 2).trans rfl
theorem DecAt.c3 (h : DecAt w g P d) : w.cell? ⟨g, 3, none⟩ = some (.int .u64 (d.hid : Int)) := (blk_cell h 3).trans rfl
theorem DecAt.c4 (h : DecAt w g P d) : w.cell? ⟨g, 4, none⟩ = some (.bool d.begun) := (blk_cell h 4).trans rfl
theorem DecAt.c5 (h : DecAt w g P d) : w.cell? ⟨g, 5, none⟩ = some (.bool d.done) := (blk_cell h 5).trans rfl
theorem DecAt.c6 (h : DecAt w g P d) : w.cell? ⟨g, 6, none⟩ = some (.string d.held) := (blk_cell h 6).trans rfl
theorem DecAt.c7 (h : DecAt w g P d) : w.cell? ⟨g, 7, none⟩ = some (.int .i64 (d.at_ : Int)) := (blk_cell h 7).trans rfl
theorem DecAt.c8 (h : DecAt w g P d) : w.cell? ⟨g, 8, none⟩ = some (.int .i64 (d.told : Int)) := (blk_cell h 8).trans rfl
theorem DecAt.c9 (h : DecAt w g P d) : w.cell? ⟨g, 9, none⟩ = some (errV d.ec (d.ea : Int)) := (blk_cell h 9).trans rfl
theorem DecAt.fz (h : DecAt w g P d) (i : Nat) : w.frozen? ⟨g, i, none⟩ = false := blk_frozen h i
end
set_option maxHeartbeats 1000000 in
theorem take_calls {w : World} {g : Nat} {P : Value} {d : D} (h : DecAt w g P d) (n : Nat) (hn : n ≤ d.held.size) (ha : d.at_ + n ≤ 1000000000) (hz : d.held.size ≤ 1000000000) :
    Calls Tryz.prog 77 #[.pointer (some ⟨g, 0, none⟩), .int .i64 (n : Int)] w fun e w' => e = .returned (.tuple #[]) ∧ DecAt w' g P { d with held := d.held.extract n d.held.size, at_ := d.at_ + n } ∧ Mv g w w' := by
  have H := Aside0.mk h
  have c6 := h.c6
  have c7 := h.c7
  have f6 := h.fz 6
  have f7 := h.fz 7
  have u1 : (n : Int) ≤ (d.held.size : Int) := by omega
  have u2 : (d.at_ : Int) + (n : Int) ≤ 1000000000 := by omega
  clear h hn ha
  go_enter Tryz.func77, Tryz.ntmps77
  go_wp2_with fail
  go_end0
  exact ⟨rfl, blk_put (blk_put H.out 6 _ rfl) 7 _ rfl, ((Mv.refl g w).set_ 6 _).set_ 7 _⟩
set_option maxHeartbeats 1000000 in
theorem wrong_calls {w : World} {g : Nat} {P : Value} {d : D} (h : DecAt w g P d) (e : Int) (he : e ≠ 0) :
    Calls Tryz.prog 74 #[.pointer (some ⟨g, 0, none⟩), .int .i64 e] w fun x w' => x = .returned (.tuple #[]) ∧ DecAt w' g P { d with held := ⟨#[]⟩, ec := e, ea := d.at_ } ∧ Mv g w w' := by
  have H := Aside0.mk h
  have c7 := h.c7
  have f9 := h.fz 9
  have f6 := h.fz 6
  have c6 := h.c6
  have c9 := h.c9
  have HE := Aside0.mk (errV_some he (d.at_ : Int))
  have HN := Aside0.mk (fun W => fnew_some e (d.at_ : Int) he W)
  generalize errV d.ec (d.ea : Int) = v0 at c9
  clear h he
  go_enter Tryz.func74, Tryz.ntmps74
  go_wp2_with fail
  refine (HN.out _).mono ?_
  rintro x w1 ⟨rfl, rfl⟩
  go_wp2_with fail
  go_end0
  exact ⟨rfl, blk_put (blk_put H.out 9 _ rfl) 6 _ (by unfold decC; rw [HE.out]; rfl), ((Mv.refl g w).set_ 9 _).set_ 6 _⟩
end Go.Proofs.YtdpkgjahcapleaaGreat
