/- ShY: a part of its proof (contracts of the functions that it reaches, and the plain mathematics behind them). -/
import Derived.Test.YtepgkimlmoikmaaGreatShY32
import Derived.Test.YtepgkimlmoikmaaGreatShY37
import Derived.Test.YtepgkimlmoikmaaGreatShY33
import Derived.Test.YtepgkimlmoikmaaGreatShY18
import Derived.Deep.RegionHeld3
import Derived.Deep.DeepCutAuto
set_option linter.unusedVariables false
set_option linter.unusedSimpArgs false
set_option maxHeartbeats 2000000
set_option maxRecDepth 100000
set_option linter.unusedVariables false
set_option linter.unusedSimpArgs false
namespace Go.Proofs.YtepgkimlmoikmaaGreat
open Go.RowKit Go.Proofs.YtepgkimlmoikmaaGreat.Spec Go.Proofs.YtepgkimlmoikmaaGreatW.PrintWords Go.Proofs.YtepgkimlmoikmaaGreatW.PrintLast
open Go.Proofs.YtepgkimlmoikmaaGreatW.PrintMore
attribute [local go_sem ↓] Go.wp_at_zero Go.wp_at_succ
attribute [local go_sem] max2_int min2_int max_two min_two
namespace Spec
structure Sc where
 out : ByteArray
 at_ : Nat
 code : Int
 done : Bool
def scan (l : List ByteArray) (how : Int) (blk : Nat) (B : ByteArray) : Nat → Nat → ByteArray → Sc
 | 0, a, out => ⟨out, a, 0, false⟩
 | f + 1, a, out =>
  if (frameR (B.extract a B.size) blk).e = 2 then ⟨out, a, 0, false⟩
  else if (frameR (B.extract a B.size) blk).e ≠ 0 then ⟨out, a, (frameR (B.extract a B.size) blk).e, false⟩
  else if (frameR (B.extract a B.size) blk).kind = 0 then
   if (frameR (B.extract a B.size) blk).raw ≠ out.size % 4294967296 then ⟨out, a, 12, false⟩
   else if a + (frameR (B.extract a B.size) blk).n < B.size then ⟨out, a + (frameR (B.extract a B.size) blk).n, 13, true⟩
   else ⟨out, a + (frameR (B.extract a B.size) blk).n, 0, true⟩
  else if (getR l how (frameR (B.extract a B.size) blk).kind (frameR (B.extract a B.size) blk).raw (frameR (B.extract a B.size) blk).pay).2 ≠ 0 then
   ⟨out, a, (getR l how (frameR (B.extract a B.size) blk).kind (frameR (B.extract a B.size) blk).raw (frameR (B.extract a B.size) blk).pay).2, false⟩
  else if crcR (u (getR l how (frameR (B.extract a B.size) blk).kind (frameR (B.extract a B.size) blk).raw (frameR (B.extract a B.size) blk).pay).1) ≠ (frameR (B.extract a B.size) blk).sum then ⟨out, a, 7, false⟩
  else scan l how blk B f (a + (frameR (B.extract a B.size) blk).n) (out ++ (getR l how (frameR (B.extract a B.size) blk).kind (frameR (B.extract a B.size) blk).raw (frameR (B.extract a B.size) blk).pay).1)
end Spec
theorem ext_all (B : ByteArray) (a : Nat) : (B.extract a B.size).size = B.size - a := by rw [ext_sz B a B.size (Nat.le_refl _)]
theorem scan_fuel (l : List ByteArray) (how : Int) (blk : Nat) (B : ByteArray) : ∀ (f f' a : Nat) (out : ByteArray), B.size < a + f → B.size < a + f' → a ≤ B.size → scan l how blk B f a out = scan l how blk B f' a out := by
 intro f
 induction f with
 | zero => intro f' a out h1 h2 h3; omega
 | succ f ih =>
  intro f' a out h1 h2 h3
  obtain ⟨f', rfl⟩ : ∃ g, f' = g + 1 := ⟨f' - 1, by omega⟩
  rw [scan, scan]
  by_cases g1 : (frameR (B.extract a B.size) blk).e = 2
  ·rw [if_pos g1, if_pos g1]
  rw [if_neg g1, if_neg g1]
  by_cases g2 : (frameR (B.extract a B.size) blk).e ≠ 0
  ·rw [if_pos g2, if_pos g2]
  rw [if_neg g2, if_neg g2]
  by_cases g3 : (frameR (B.extract a B.size) blk).kind = 0
  ·rw [if_pos g3, if_pos g3]
  rw [if_neg g3, if_neg g3]
  obtain ⟨k1, k2, _, _⟩ := frame_n _ blk (Decidable.not_not.1 g2)
  rw [ext_all] at k2
  rw [ih f' _ _ (by omega) (by omega) (by omega)]
def scanF (l : List ByteArray) (how : Int) (blk : Nat) (B : ByteArray) (a : Nat) (out : ByteArray) : Sc := scan l how blk B (B.size + 1 - a) a out
section
variable {l : List ByteArray} {how : Int} {blk : Nat} {B : ByteArray} {a : Nat} {out : ByteArray}
theorem scan_wait (ha : a ≤ B.size) (h : (frameR (B.extract a B.size) blk).e = 2) : scanF l how blk B a out = ⟨out, a, 0, false⟩ := by
 unfold scanF
 rw [show B.size + 1 - a = (B.size - a) + 1 by omega, scan, if_pos h]
theorem scan_bad (ha : a ≤ B.size) (h : (frameR (B.extract a B.size) blk).e ≠ 2) (h2 : (frameR (B.extract a B.size) blk).e ≠ 0) : scanF l how blk B a out = ⟨out, a, (frameR (B.extract a B.size) blk).e, false⟩ := by
 unfold scanF
 rw [show B.size + 1 - a = (B.size - a) + 1 by omega, scan, if_neg h, if_pos h2]
theorem scan_length (ha : a ≤ B.size) (h : (frameR (B.extract a B.size) blk).e = 0) (hk : (frameR (B.extract a B.size) blk).kind = 0) (hr : (frameR (B.extract a B.size) blk).raw ≠ out.size % 4294967296) : scanF l how blk B a out = ⟨out, a, 12, false⟩ := by
 unfold scanF
 rw [show B.size + 1 - a = (B.size - a) + 1 by omega, scan, if_neg (by rw [h]; decide), if_neg (fun n => n h), if_pos hk, if_pos hr]
theorem scan_end (ha : a ≤ B.size) (h : (frameR (B.extract a B.size) blk).e = 0) (hk : (frameR (B.extract a B.size) blk).kind = 0) (hr : (frameR (B.extract a B.size) blk).raw = out.size % 4294967296) : scanF l how blk B a out = ⟨out, a + (frameR (B.extract a B.size) blk).n, if a + (frameR (B.extract a B.size) blk).n < B.size then 13 else 0, true⟩ := by
 unfold scanF
 rw [show B.size + 1 - a = (B.size - a) + 1 by omega, scan, if_neg (by rw [h]; decide), if_neg (fun n => n h), if_pos hk, if_neg (fun n => n hr)]
 split <;> rfl
theorem scan_get (ha : a ≤ B.size) (h : (frameR (B.extract a B.size) blk).e = 0) (hk : (frameR (B.extract a B.size) blk).kind ≠ 0) (hg : (getR l how (frameR (B.extract a B.size) blk).kind (frameR (B.extract a B.size) blk).raw (frameR (B.extract a B.size) blk).pay).2 ≠ 0) : scanF l how blk B a out = ⟨out, a, (getR l how (frameR (B.extract a B.size) blk).kind (frameR (B.extract a B.size) blk).raw (frameR (B.extract a B.size) blk).pay).2, false⟩ := by
 unfold scanF
 rw [show B.size + 1 - a = (B.size - a) + 1 by omega, scan, if_neg (by rw [h]; decide), if_neg (fun n => n h), if_neg hk, if_pos hg]
theorem scan_sum (ha : a ≤ B.size) (h : (frameR (B.extract a B.size) blk).e = 0) (hk : (frameR (B.extract a B.size) blk).kind ≠ 0) (hg : (getR l how (frameR (B.extract a B.size) blk).kind (frameR (B.extract a B.size) blk).raw (frameR (B.extract a B.size) blk).pay).2 = 0) (hs : crcR (u (getR l how (frameR (B.extract a B.size) blk).kind (frameR (B.extract a B.size) blk).raw (frameR (B.extract a B.size) blk).pay).1) ≠ (frameR (B.extract a B.size) blk).sum) : scanF l how blk B a out = ⟨out, a, 7, false⟩ := by
 unfold scanF
 rw [show B.size + 1 - a = (B.size - a) + 1 by omega, scan, if_neg (by rw [h]; decide), if_neg (fun n => n h), if_neg hk, if_neg (fun n => n hg), if_pos hs]
theorem scan_more (ha : a ≤ B.size) (h : (frameR (B.extract a B.size) blk).e = 0) (hk : (frameR (B.extract a B.size) blk).kind ≠ 0) (hg : (getR l how (frameR (B.extract a B.size) blk).kind (frameR (B.extract a B.size) blk).raw (frameR (B.extract a B.size) blk).pay).2 = 0) (hs : crcR (u (getR l how (frameR (B.extract a B.size) blk).kind (frameR (B.extract a B.size) blk).raw (frameR (B.extract a B.size) blk).pay).1) = (frameR (B.extract a B.size) blk).sum) : scanF l how blk B a out = scanF l how blk B (a + (frameR (B.extract a B.size) blk).n) (out ++ (getR l how (frameR (B.extract a B.size) blk).kind (frameR (B.extract a B.size) blk).raw (frameR (B.extract a B.size) blk).pay).1) := by
 obtain ⟨k1, k2, _, _⟩ := frame_n _ blk h
 rw [ext_all] at k2
 unfold scanF
 rw [show B.size + 1 - a = (B.size - a) + 1 by omega, scan, if_neg (by rw [h]; decide), if_neg (fun n => n h), if_neg hk, if_neg (fun n => n hg), if_neg (fun n => n hs)]
 exact scan_fuel l how blk B _ _ _ _ (by omega) (by omega) (by omega)
end
theorem scan_app (l : List ByteArray) (how : Int) (blk : Nat) (B c : ByteArray) : ∀ (d a : Nat) (out : ByteArray), a ≤ B.size → B.size ≤ a + d →
  (scanF l how blk B a out).at_ ≤ B.size ∧ a ≤ (scanF l how blk B a out).at_ ∧
  ((scanF l how blk B a out).code ≠ 0 → scanF l how blk (B ++ c) a out = scanF l how blk B a out) ∧
  ((scanF l how blk B a out).code = 0 → (scanF l how blk B a out).done = false → scanF l how blk (B ++ c) a out = scanF l how blk (B ++ c) (scanF l how blk B a out).at_ (scanF l how blk B a out).out ∧ (frameR (B.extract (scanF l how blk B a out).at_ B.size) blk).e = 2) ∧
  ((scanF l how blk B a out).code = 0 → (scanF l how blk B a out).done = true → (scanF l how blk B a out).at_ = B.size ∧ scanF l how blk (B ++ c) a out = ⟨(scanF l how blk B a out).out, B.size, if 0 < c.size then 13 else 0, true⟩) := by
 have hz : (B ++ c).size = B.size + c.size := ByteArray.size_append ..
 intro d
 induction d using Nat.strongRecOn with
 | ind d ih =>
  intro a out ha hd
  have hx : ∀ i, i ≤ B.size → (B ++ c).extract i (B ++ c).size = B.extract i B.size ++ c := by
   intro i hi
   apply u_inj
   rw [u_ext, u_app, u_app, u_ext, hz, List.drop_append_of_le_length (by rw [u_size]; omega), List.take_of_length_le (by rw [List.length_append, List.length_drop, u_size, u_size]; omega), List.take_of_length_le (by rw [List.length_drop, u_size]; omega)]
  by_cases g1 : (frameR (B.extract a B.size) blk).e = 2
  ·rw [scan_wait ha g1]
   exact ⟨ha, Nat.le_refl _, fun h => absurd rfl h, fun _ _ => ⟨rfl, g1⟩, fun _ h => Bool.noConfusion h⟩
  have g0 : frameR ((B ++ c).extract a (B ++ c).size) blk = frameR (B.extract a B.size) blk := by rw [hx a ha]; exact frame_app _ _ _ g1
  have ha2 : a ≤ (B ++ c).size := by omega
  by_cases g2 : (frameR (B.extract a B.size) blk).e = 0
  ·obtain ⟨k1, k2, _, _⟩ := frame_n _ blk g2
   rw [ext_all] at k2
   by_cases g3 : (frameR (B.extract a B.size) blk).kind = 0
   ·by_cases g4 : (frameR (B.extract a B.size) blk).raw = out.size % 4294967296
    ·rw [scan_end ha g2 g3 g4, scan_end ha2 (by rw [g0]; exact g2) (by rw [g0]; exact g3) (by rw [g0]; exact g4), g0, hz]
     by_cases g5 : a + (frameR (B.extract a B.size) blk).n < B.size
     ·rw [if_pos g5, if_pos (by omega)]
      exact ⟨by show a + _ ≤ _; omega, by show a ≤ a + _; omega, fun _ => rfl, fun h => absurd h (show ¬ (13 : Int) = 0 by decide), fun h => absurd h (show ¬ (13 : Int) = 0 by decide)⟩
     ·rw [if_neg g5]
      have g6 : a + (frameR (B.extract a B.size) blk).n = B.size := by omega
      rw [g6]
      refine ⟨Nat.le_refl _, ha, fun h => absurd rfl h, fun _ h => Bool.noConfusion h, fun _ _ => ⟨rfl, ?_⟩⟩
      by_cases g7 : 0 < c.size
      ·rw [if_pos g7, if_pos (by omega)]
      ·rw [if_neg g7, if_neg (by omega)]
    ·rw [scan_length ha g2 g3 g4, scan_length ha2 (by rw [g0]; exact g2) (by rw [g0]; exact g3) (by rw [g0]; exact g4)]
     exact ⟨ha, Nat.le_refl _, fun _ => rfl, fun h => absurd h (show ¬ (12 : Int) = 0 by decide), fun h => absurd h (show ¬ (12 : Int) = 0 by decide)⟩
   ·by_cases g4 : (getR l how (frameR (B.extract a B.size) blk).kind (frameR (B.extract a B.size) blk).raw (frameR (B.extract a B.size) blk).pay).2 = 0
    ·by_cases g5 : crcR (u (getR l how (frameR (B.extract a B.size) blk).kind (frameR (B.extract a B.size) blk).raw (frameR (B.extract a B.size) blk).pay).1) = (frameR (B.extract a B.size) blk).sum
     ·rw [scan_more ha g2 g3 g4 g5, scan_more ha2 (by rw [g0]; exact g2) (by rw [g0]; exact g3) (by rw [g0]; exact g4) (by rw [g0]; exact g5), g0]
      obtain ⟨j1, j2, j3⟩ := ih (d - (frameR (B.extract a B.size) blk).n) (by omega) (a + (frameR (B.extract a B.size) blk).n) (out ++ (getR l how (frameR (B.extract a B.size) blk).kind (frameR (B.extract a B.size) blk).raw (frameR (B.extract a B.size) blk).pay).1) (by omega) (by omega)
      exact ⟨j1, by omega, j3⟩
     ·rw [scan_sum ha g2 g3 g4 g5, scan_sum ha2 (by rw [g0]; exact g2) (by rw [g0]; exact g3) (by rw [g0]; exact g4) (by rw [g0]; exact g5)]
      exact ⟨ha, Nat.le_refl _, fun _ => rfl, fun h => absurd h (show ¬ (7 : Int) = 0 by decide), fun h => absurd h (show ¬ (7 : Int) = 0 by decide)⟩
    ·rw [scan_get ha g2 g3 g4, scan_get ha2 (by rw [g0]; exact g2) (by rw [g0]; exact g3) (by rw [g0]; exact g4), g0]
     exact ⟨ha, Nat.le_refl _, fun _ => rfl, fun h => absurd h g4, fun h => absurd h g4⟩
  ·rw [scan_bad ha g1 g2, scan_bad ha2 (by rw [g0]; exact g1) (by rw [g0]; exact g2), g0]
   have g3 : ¬ (((frameR (B.extract a B.size) blk).e : Nat) : Int) = 0 := by omega
   exact ⟨ha, Nat.le_refl _, fun _ => rfl, fun h => absurd h g3, fun h => absurd h g3⟩
end Go.Proofs.YtepgkimlmoikmaaGreat
set_option linter.unusedVariables false
set_option linter.unusedSimpArgs false
namespace Go.Proofs.YtepgkimlmoikmaaGreat
open Go.RowKit Go.Proofs.YtepgkimlmoikmaaGreat.Spec Go.Proofs.YtepgkimlmoikmaaGreatW.PrintWords Go.Proofs.YtepgkimlmoikmaaGreatW.PrintLast
open Go.Proofs.YtepgkimlmoikmaaGreatW.PrintMore
attribute [local go_sem ↓] Go.wp_at_zero Go.wp_at_succ
attribute [local go_sem] max2_int min2_int max_two min_two
structure Mv (g : Nat) (w w' : World) : Prop where
 os : w'.os = w.os
 tape : w'.tape = w.tape
 output : w'.output = w.output
 size : w.heap.size ≤ w'.heap.size
 block : ∀ k, k < w.heap.size → k ≠ g → w'.heap[k]? = w.heap[k]?
section
variable {g : Nat} {w w1 w2 w0 : World}
theorem Mv.refl (g : Nat) (w : World) : Mv g w w := ⟨rfl, rfl, rfl, Nat.le_refl _, fun _ _ _ => rfl⟩
theorem Mv.trans (h : Mv g w w1) (k : Mv g w1 w2) : Mv g w w2 := ⟨k.os.trans h.os, k.tape.trans h.tape, k.output.trans h.output, Nat.le_trans h.size k.size, fun i hi hg => (k.block i (Nat.lt_of_lt_of_le hi h.size) hg).trans (h.block i hi hg)⟩
theorem Mv.of (h : Below w.heap.size w w1) : Mv g w w1 := ⟨h.os, h.tape, h.output, h.size, fun k hk _ => h.block k hk⟩
theorem Mv.then (h : Mv g w w1) (k : Below w1.heap.size w1 w2) : Mv g w w2 := h.trans (Mv.of k)
theorem Mv.set_ (h : Mv g w w1) (i : Nat) (v : Value) : Mv g w (w1.setCell ⟨g, i, none⟩ v) := ⟨h.os, h.tape, h.output, by simpa using h.size, fun k hk hg => (Below.heap_setCell w1 ⟨g, i, none⟩ v k hg).trans (h.block k hk hg)⟩
theorem Mv.alloc (h : Mv g w w1) (o : Obj) : Mv g w (w1.alloc o) := h.then ((Below.refl _ _).alloc (Nat.le_refl _) o)
theorem Mv.drewN (h : Mv g w w1) (n : Nat) : Mv g w (w1.drewN n) := ⟨h.os, h.tape, h.output, h.size, h.block⟩
theorem Mv.low (h : Mv g w w1) (hb : Below w0.heap.size w0 w) (hg : w0.heap.size ≤ g) : Below w0.heap.size w0 w1 := ⟨h.os.trans hb.os, h.tape.trans hb.tape, h.output.trans hb.output, Nat.le_trans hb.size h.size, fun k hk => (h.block k (Nat.lt_of_lt_of_le hk hb.size) (by omega)).trans (hb.block k hk)⟩
theorem Mv.blk {g' : Nat} {o : Obj} (h : Mv g w w1) (hb : w.heap[g']? = some o) (hg : g' ≠ g) : w1.heap[g']? = some o := (h.block g' (blk_lt hb) hg).trans hb
end
def DicF (g : Nat) (w : World) (P : Value) (l : List ByteArray) : Prop := ∀ W, Mv g w W → DictAt W P l
theorem DicF.now {g : Nat} {w : World} {P : Value} {l : List ByteArray} (h : DicF g w P l) : DictAt w P l := h w (Mv.refl g w)
theorem DicF.step {g : Nat} {w w1 : World} {P : Value} {l : List ByteArray} (h : DicF g w P l) (k : Mv g w w1) : DicF g w1 P l := fun W hW => h W (k.trans hW)
theorem DicF.of {g : Nat} {w0 w : World} {P : Value} {l : List ByteArray} (h : DictAt w0 P l) (hb : Below w0.heap.size w0 w) (hg : w0.heap.size ≤ g) : DicF g w P l := fun W hW => h.below (hW.low hb hg)
namespace Spec
structure D where
 hc : Nat
 hk : Nat
 hid : Nat
 begun : Bool
 done : Bool
 held : ByteArray
 at_ : Nat
 told : Nat
 ec : Int
 ea : Nat
end Spec
def decC (P : Value) (d : D) : Array Value := #[P, .int .i64 (d.hc : Int), .int .i64 (d.hk : Int), .int .u64 (d.hid : Int), .bool d.begun, .bool d.done, .string d.held, .int .i64 (d.at_ : Int), .int .i64 (d.told : Int), errV d.ec (d.ea : Int)]
def DecAt (w : World) (g : Nat) (P : Value) (d : D) : Prop := w.heap[g]? = some (.cells (decC P d) 149 (0, 0))
section
variable {w : World} {g : Nat} {P : Value} {d : D}
theorem DecAt.lt (h : DecAt w g P d) : g < w.heap.size := blk_lt h
theorem DecAt.below {w1 : World} (h : DecAt w g P d) (hb : Below w.heap.size w w1) : DecAt w1 g P d := blk_below h hb
theorem DecAt.c0 (h : DecAt w g P d) : w.cell? ⟨g, 0, none⟩ = some P := (blk_cell h 0).trans rfl
theorem DecAt.c1 (h : DecAt w g P d) : w.cell? ⟨g, 1, none⟩ = some (.int .i64 (d.hc : Int)) := (blk_cell h 1).trans rfl
theorem DecAt.c2 (h : DecAt w g P d) : w.cell? ⟨g, 2, none⟩ = some (.int .i64 (d.hk : Int)) := (blk_cell h 2).trans rfl
theorem DecAt.c3 (h : DecAt w g P d) : w.cell? ⟨g, 3, none⟩ = some (.int .u64 (d.hid : Int)) := (blk_cell h 3).trans rfl
theorem DecAt.c4 (h : DecAt w g P d) : w.cell? ⟨g, 4, none⟩ = some (.bool d.begun) := (blk_cell h 4).trans rfl
theorem DecAt.c5 (h : DecAt w g P d) : w.cell? ⟨g, 5, none⟩ = some (.bool d.done) := (blk_cell h 5).trans rfl
theorem DecAt.c6 (h : DecAt w g P d) : w.cell? ⟨g, 6, none⟩ = some (.string d.held) := (blk_cell h 6).trans rfl
theorem DecAt.c7 (h : DecAt w g P d) : w.cell? ⟨g, 7, none⟩ = some (.int .i64 (d.at_ : Int)) := (blk_cell h 7).trans rfl
theorem DecAt.c8 (h : DecAt w g P d) : w.cell? ⟨g, 8, none⟩ = some (.int .i64 (d.told : Int)) := (blk_cell h 8).trans rfl
theorem DecAt.c9 (h : DecAt w g P d) : w.cell? ⟨g, 9, none⟩ = some (errV d.ec (d.ea : Int)) := (blk_cell h 9).trans rfl
theorem DecAt.fz (h : DecAt w g P d) (i : Nat) : w.frozen? ⟨g, i, none⟩ = false := blk_frozen h i
end
theorem take_calls {w : World} {g : Nat} {P : Value} {d : D} (h : DecAt w g P d) (n : Nat) (hn : n ≤ d.held.size) (ha : d.at_ + n ≤ 1000000000) (hz : d.held.size ≤ 1000000000) :
  Calls Tryz.prog 160 #[.pointer (some ⟨g, 0, none⟩), .int .i64 (n : Int)] w fun e w' => e = .returned (.tuple #[]) ∧ DecAt w' g P { d with held := d.held.extract n d.held.size, at_ := d.at_ + n } ∧ Mv g w w' := by
 have H := Aside0.mk h
 have c6 := h.c6
 have c7 := h.c7
 have f6 := h.fz 6
 have f7 := h.fz 7
 have u1 : (n : Int) ≤ (d.held.size : Int) := by omega
 have u2 : (d.at_ : Int) + (n : Int) ≤ 1000000000 := by omega
 clear h hn ha
 go_enter Tryz.func160, Tryz.ntmps160
 go_wp2_with fail
 go_end0
 exact ⟨rfl, blk_put (blk_put H.out 6 _ rfl) 7 _ rfl, ((Mv.refl g w).set_ 6 _).set_ 7 _⟩
theorem wrong_calls {w : World} {g : Nat} {P : Value} {d : D} (h : DecAt w g P d) (e : Int) (he : e ≠ 0) :
  Calls Tryz.prog 157 #[.pointer (some ⟨g, 0, none⟩), .int .i64 e] w fun x w' => x = .returned (.tuple #[]) ∧ DecAt w' g P { d with held := ⟨#[]⟩, ec := e, ea := d.at_ } ∧ Mv g w w' := by
 have H := Aside0.mk h
 have c7 := h.c7
 have f9 := h.fz 9
 have f6 := h.fz 6
 have c6 := h.c6
 have c9 := h.c9
 have HE := Aside0.mk (errV_some he (d.at_ : Int))
 have HN := Aside0.mk (fun W => fnew_some e (d.at_ : Int) he W)
 generalize errV d.ec (d.ea : Int) = v0 at c9
 clear h he
 go_enter Tryz.func157, Tryz.ntmps157
 go_wp2_with fail
 refine (HN.out _).mono ?_
 rintro x w1 ⟨rfl, rfl⟩
 go_wp2_with fail
 go_end0
 exact ⟨rfl, blk_put (blk_put H.out 9 _ rfl) 6 _ (by unfold decC; rw [HE.out]; rfl), ((Mv.refl g w).set_ 9 _).set_ 6 _⟩
end Go.Proofs.YtepgkimlmoikmaaGreat
set_option linter.unusedVariables false
set_option linter.unusedSimpArgs false
namespace Go.Proofs.YtepgkimlmoikmaaGreat
open Go.RowKit Go.Proofs.YtepgkimlmoikmaaGreat.Spec Go.Proofs.YtepgkimlmoikmaaGreatW.PrintWords Go.Proofs.YtepgkimlmoikmaaGreatW.PrintLast
open Go.Proofs.YtepgkimlmoikmaaGreatW.PrintMore
attribute [local go_sem ↓] Go.wp_at_zero Go.wp_at_succ
attribute [local go_sem] max2_int min2_int max_two min_two
namespace Spec
structure En where
 p : Nat
 q : Nat
 k : Nat
 wd : Nat
 held : ByteArray
 written : Nat
 begun : Bool
 closed : Bool
def blkS (pay : ByteArray → Nat × ByteArray) (b : ByteArray) : ByteArray := frameS (pay b).1 b.size (crcR (u b)).toNat (pay b).2
def cutR (pay : ByteArray → Nat × ByteArray) (k : Nat) : Nat → ByteArray → ByteArray × ByteArray
 | 0, h => (⟨#[]⟩, h)
 | f + 1, h => if k ≤ h.size then (blkS pay (h.extract 0 k) ++ (cutR pay k f (h.extract k h.size)).1, (cutR pay k f (h.extract k h.size)).2) else (⟨#[]⟩, h)
end Spec
def encCells (P : Value) (e : En) : Array Value := #[P, .int .i64 (e.p : Int), .int .i64 (e.q : Int), .int .i64 (e.k : Int), .int .i64 (e.wd : Int), .string e.held, .int .i64 (e.written : Int), .bool e.begun, .bool e.closed]
def EncAt (w : World) (g : Nat) (P : Value) (e : En) : Prop := w.heap[g]? = some (.cells (encCells P e) 156 (0, 0))
section
variable {w : World} {g : Nat} {P : Value} {e : En}
theorem EncAt.lt (h : EncAt w g P e) : g < w.heap.size := blk_lt h
theorem EncAt.below {w1 : World} (h : EncAt w g P e) (hb : Below w.heap.size w w1) : EncAt w1 g P e := blk_below h hb
theorem EncAt.c0 (h : EncAt w g P e) : w.cell? ⟨g, 0, none⟩ = some P := (blk_cell h 0).trans rfl
theorem EncAt.c1 (h : EncAt w g P e) : w.cell? ⟨g, 1, none⟩ = some (.int .i64 (e.p : Int)) := (blk_cell h 1).trans rfl
theorem EncAt.c2 (h : EncAt w g P e) : w.cell? ⟨g, 2, none⟩ = some (.int .i64 (e.q : Int)) := (blk_cell h 2).trans rfl
theorem EncAt.c3 (h : EncAt w g P e) : w.cell? ⟨g, 3, none⟩ = some (.int .i64 (e.k : Int)) := (blk_cell h 3).trans rfl
theorem EncAt.c4 (h : EncAt w g P e) : w.cell? ⟨g, 4, none⟩ = some (.int .i64 (e.wd : Int)) := (blk_cell h 4).trans rfl
theorem EncAt.c5 (h : EncAt w g P e) : w.cell? ⟨g, 5, none⟩ = some (.string e.held) := (blk_cell h 5).trans rfl
theorem EncAt.c6 (h : EncAt w g P e) : w.cell? ⟨g, 6, none⟩ = some (.int .i64 (e.written : Int)) := (blk_cell h 6).trans rfl
theorem EncAt.c7 (h : EncAt w g P e) : w.cell? ⟨g, 7, none⟩ = some (.bool e.begun) := (blk_cell h 7).trans rfl
theorem EncAt.c8 (h : EncAt w g P e) : w.cell? ⟨g, 8, none⟩ = some (.bool e.closed) := (blk_cell h 8).trans rfl
theorem EncAt.fz (h : EncAt w g P e) (i : Nat) : w.frozen? ⟨g, i, none⟩ = false := blk_frozen h i
end
structure PutOk (P : Value) (l : List ByteArray) (e : En) (pay : ByteArray → Nat × ByteArray) : Prop where
 calls : ∀ (W : World) (b : ByteArray), DictAt W P l → 1 ≤ b.size → b.size ≤ e.k → Calls Tryz.prog 24 #[P, .agg #[.int .i64 (e.p : Int), .int .i64 (e.q : Int), .int .i64 (e.k : Int), .int .i64 (e.wd : Int)], .string b] W fun x w' => x = .returned (.tuple #[.int .i64 ((pay b).1 : Int), .string (pay b).2, .int .i64 0]) ∧ Below W.heap.size W w'
 fits : ∀ b : ByteArray, 1 ≤ b.size → b.size ≤ e.k → fitsR (pay b).1 b.size (pay b).2.size
def Idn (l : List ByteArray) : Nat := (Bridge.fnv (Spec.bytes l)).toNat
theorem idn_is (l : List ByteArray) : ((Idn l : Nat) : Int) = Bridge.fnv (Spec.bytes l) ∧ Idn l < 18446744073709551616 := by
 have h := fnv_range (Spec.bytes l) 14695981039346656037 (by decide) (by decide)
 change 0 ≤ Bridge.fnv (Spec.bytes l) ∧ Bridge.fnv (Spec.bytes l) < 18446744073709551616 at h
 unfold Idn
 omega
theorem eframe_calls {w : World} {g : Nat} {P : Value} {e : En} {l : List ByteArray} {pay : ByteArray → Nat × ByteArray} (h : EncAt w g P e) (hdi : DicF g w P l) (hp : PutOk P l e pay) (b : ByteArray) (h1 : 1 ≤ b.size) (hk : b.size ≤ e.k) (hk2 : e.k ≤ 1024) :
  Calls Tryz.prog 119 #[.pointer (some ⟨g, 0, none⟩), .string b] w fun x w' => x = .returned (.string (blkS pay b)) ∧ Below w.heap.size w w' := by
 have HPUT := Aside0.mk (fun (W : World) (hd : DictAt W P l) => hp.calls W b hd h1 hk)
 have HCRC := Aside0.mk (fun W => crc_calls b (by omega) W)
 have hcr := crc_range (u b)
 have hcn : crcR (u b) = (((crcR (u b)).toNat : Nat) : Int) := by omega
 rw [hcn] at HCRC
 have HFP := Aside0.mk (fun W => fput_blk (pay b).1 b.size (crcR (u b)).toNat (pay b).2 (hp.fits b h1 hk) (by omega) W)
 have HX : Aside0 (blkS pay b = frameS (pay b).1 b.size (crcR (u b)).toNat (pay b).2) := ⟨rfl⟩
 generalize (crcR (u b)).toNat = cr at *
 generalize pay b = q at *
 obtain ⟨kd, py⟩ := q
 dsimp only at HPUT HFP HX
 have HDI := Aside0.mk hdi
 have s0 := h.c0
 have s1 := h.c1
 have s2 := h.c2
 have s3 := h.c3
 have s4 := h.c4
 clear h hdi hp h1 hk hk2 hcr hcn
 go_enter Tryz.func119, Tryz.ntmps119
 go_wp2_with fail
 go_region_held3 (fun w' => w'.cell? ⟨g, 0, none⟩ = some P ∧ w'.cell? ⟨g, 1, none⟩ = some (.int .i64 (e.p : Int)) ∧ w'.cell? ⟨g, 2, none⟩ = some (.int .i64 (e.q : Int)) ∧ w'.cell? ⟨g, 3, none⟩ = some (.int .i64 (e.k : Int)) ∧ w'.cell? ⟨g, 4, none⟩ = some (.int .i64 (e.wd : Int)))
  (first | exact ⟨s0, s1, s2, s3, s4⟩ | exact ⟨pw_cell_below hb2 s0, pw_cell_below hb2 s1, pw_cell_below hb2 s2, pw_cell_below hb2 s3, pw_cell_below hb2 s4⟩)
  ((go_at_call 24; refine (HPUT.out _ (HDI.out _ (Mv.of (by repeat (first | exact Below.refl _ _ | apply below_alloc | apply below_drew | apply pw_below_drewN))))).mono ?_; rintro x w2 ⟨rfl, hb2⟩; have hm2 : Below w.heap.size w w2 := below_step (by repeat (first | exact Below.refl _ _ | apply below_alloc | apply below_drew | apply pw_below_drewN)) hb2))
 have HM2 := Aside0.mk hm2
 clear hb2 hm2
 go_wp2_with fail
 refine (HCRC.out _).mono ?_
 rintro x w3 ⟨rfl, hb3⟩
 have HM3 := Aside0.mk (below_step HM2.out hb3)
 clear hb3
 go_wp2_with fail
 refine (HFP.out _).mono ?_
 rintro x w4 ⟨rfl, hb4⟩
 have HM4 := Aside0.mk (below_step HM3.out hb4)
 clear hb4
 go_wp2_with fail
 go_ret
 exact ⟨by rw [HX.out]; rfl, HM4.out⟩
theorem ebegin_first {w : World} {g : Nat} {P : Value} {e : En} {l : List ByteArray} (h : EncAt w g P e) (hdi : DicF g w P l) {ad : Addr} (hP : P = .pointer (some ad)) (hl : l.length ≤ 100) (hs : ∀ s ∈ l, s.size < 1000000) (hb : e.begun = false) (hc : e.closed = false) (hq : e.q ≤ 1) (hk : 1 ≤ e.k ∧ e.k ≤ 1024) :
  Calls Tryz.prog 118 #[.pointer (some ⟨g, 0, none⟩)] w fun x w' => x = .returned (.tuple #[.string (headS e.q e.k (Idn l)), .nilIface]) ∧ EncAt w' g P { e with begun := true } ∧ Mv g w w' := by
 have H := Aside0.mk h
 have HDI := Aside0.mk hdi
 obtain ⟨i1, i2⟩ := idn_is l
 have HID := Aside0.mk (fun (W : World) (h : DictAt W P l) => id_any h hl hs)
 rw [← i1] at HID
 have HPH := Aside0.mk (fun W => putHead_calls e.q e.k (Idn l) hq hk i2 W)
 generalize Idn l = idn at *
 have s0 := h.c0
 have s2 := h.c2
 have s3 := h.c3
 have c7 := h.c7
 have c8 := h.c8
 have f7 := h.fz 7
 rw [hb] at c7
 rw [hc] at c8
 subst hP
 have hm0 : Mv g w (w.setCell ⟨g, 7, none⟩ (.bool true)) := (Mv.refl g w).set_ 7 _
 have HM0 := Aside0.mk hm0
 have he0 : EncAt (w.setCell ⟨g, 7, none⟩ (.bool true)) g (.pointer (some ad)) { e with begun := true } := blk_put h 7 _ rfl
 have HE0 := Aside0.mk he0
 have t0 := he0.c0
 have t2 := he0.c2
 have t3 := he0.c3
 clear h hdi hl hs hb hc hq hk i1 i2 hm0 he0
 go_enter Tryz.func118, Tryz.ntmps118
 go_wp2_with fail
 go_region_held3 (fun w' => w'.cell? ⟨g, 0, none⟩ = some (.pointer (some ad)) ∧ w'.cell? ⟨g, 2, none⟩ = some (.int .i64 (e.q : Int)) ∧ w'.cell? ⟨g, 3, none⟩ = some (.int .i64 (e.k : Int)))
  (first | exact ⟨t0, t2, t3⟩ | exact ⟨pw_cell_below h2 t0, pw_cell_below h2 t2, pw_cell_below h2 t3⟩)
  ((first
   | (go_at_call 162; refine (HID.out _ (HDI.out _ (HM0.out.then (by repeat (first | exact Below.refl _ _ | apply below_alloc | apply below_drew | apply pw_below_drewN))))).mono ?_; rintro x w2 ⟨rfl, hb2⟩; have h2 := below_step (below_drew (Below.refl (w.setCell ⟨g, 7, none⟩ (.bool true)).heap.size (w.setCell ⟨g, 7, none⟩ (.bool true)))) hb2)
   | (go_at_call 161; refine (HPH.out _).mono ?_; rintro x w3 ⟨rfl, hb3⟩; have h2 := below_step h2 hb3)))
 have HF := Aside0.mk h2
 clear h2
 go_wp2_with fail
 go_ret2
 exact ⟨rfl, HE0.out.below HF.out, HM0.out.then HF.out⟩
theorem ebegin_again {w : World} {g : Nat} {P : Value} {e : En} (h : EncAt w g P e) {ad : Addr} (hP : P = .pointer (some ad)) (hb : e.begun = true) (hc : e.closed = false) :
  Calls Tryz.prog 118 #[.pointer (some ⟨g, 0, none⟩)] w fun x w' => x = .returned (.tuple #[.string ⟨#[]⟩, .nilIface]) ∧ w = w' := by
 have s0 := h.c0
 have c7 := h.c7
 have c8 := h.c8
 rw [hb] at c7
 rw [hc] at c8
 subst hP
 clear h hb hc
 go_enter Tryz.func118, Tryz.ntmps118
 go_wp2_with fail
 go_ret2
 exact ⟨rfl, rfl⟩
theorem ebegin_closed {w : World} {g : Nat} {P : Value} {e : En} (h : EncAt w g P e) {ad : Addr} (hP : P = .pointer (some ad)) (hc : e.closed = true) :
  Calls Tryz.prog 118 #[.pointer (some ⟨g, 0, none⟩)] w fun x w' => x = .returned (.tuple #[.string ⟨#[]⟩, errV 11 (e.written : Int)]) ∧ w = w' := by
 have s0 := h.c0
 have c6 := h.c6
 have c8 := h.c8
 rw [hc] at c8
 subst hP
 clear h hc
 go_enter Tryz.func118, Tryz.ntmps118
 go_wp2_with fail
 refine (fnew_any 11 (e.written : Int) _).mono ?_
 rintro x w1 ⟨rfl, rfl⟩
 go_wp2_with fail
 go_ret2
 exact ⟨rfl, rfl⟩
end Go.Proofs.YtepgkimlmoikmaaGreat
set_option linter.unusedVariables false
set_option linter.unusedSimpArgs false
namespace Go.Proofs.YtepgkimlmoikmaaGreat
open Go.RowKit Go.Proofs.YtepgkimlmoikmaaGreat.Spec Go.Proofs.YtepgkimlmoikmaaGreatW.PrintWords Go.Proofs.YtepgkimlmoikmaaGreatW.PrintLast
open Go.Proofs.YtepgkimlmoikmaaGreatW.PrintMore
attribute [local go_sem ↓] Go.wp_at_zero Go.wp_at_succ
attribute [local go_sem] max2_int min2_int max_two min_two
def Idv (l : List ByteArray) : Int := Bridge.fnv (Spec.bytes l)
theorem begin_wait {w : World} {g : Nat} {P : Value} {d : D} (h : DecAt w g P d) (hz : d.held.size ≤ 1000000000) (he : (headR d.held).e = 2) :
  Calls Tryz.prog 156 #[.pointer (some ⟨g, 0, none⟩)] w fun e w' => e = .returned (.bool false) ∧ DecAt w' g P d ∧ Mv g w w' := by
 have H := Aside0.mk h
 have c6 := h.c6
 have HG := Aside0.mk (fun W => getHead_calls d.held hz W)
 rw [he] at HG
 generalize headR d.held = q at *
 obtain ⟨qc, qk, qi, qe⟩ := q
 clear h he
 go_enter Tryz.func156, Tryz.ntmps156
 go_wp2_with fail
 refine (HG.out _).mono ?_
 rintro e w1 ⟨rfl, hb1⟩
 have HB1 := Aside0.mk hb1
 clear hb1
 go_wp2_with fail
 go_ret
 exact ⟨rfl, H.out.below (below_alloc HB1.out _), Mv.of (below_alloc HB1.out _)⟩
theorem begin_bad {w : World} {g : Nat} {P : Value} {d : D} (h : DecAt w g P d) (hz : d.held.size ≤ 1000000000) (he : (headR d.held).e ≠ 2) (he0 : (headR d.held).e ≠ 0) :
  Calls Tryz.prog 156 #[.pointer (some ⟨g, 0, none⟩)] w fun e w' => e = .returned (.bool false) ∧ DecAt w' g P { d with held := ⟨#[]⟩, ec := (headR d.held).e, ea := d.at_ } ∧ Mv g w w' := by
 have H := Aside0.mk h
 have c6 := h.c6
 have HG := Aside0.mk (fun W => getHead_calls d.held hz W)
 generalize headR d.held = q at *
 obtain ⟨qc, qk, qi, qe⟩ := q
 have d1 : ((qe : Int) == 2) = false := beq_eq_false_iff_ne.2 (fun e => he (by show qe = 2; omega))
 have d2 : ((qe : Int) == 0) = false := beq_eq_false_iff_ne.2 (fun e => he0 (by show qe = 0; omega))
 have d3 : ((qe : Int) != 0) = true := bne_iff_ne.2 (fun e => he0 (by show qe = 0; omega))
 have HW := Aside0.mk (fun (W : World) (h : DecAt W g P d) => wrong_calls h (qe : Int) (fun e => he0 (by show qe = 0; omega)))
 clear h he he0
 go_enter Tryz.func156, Tryz.ntmps156
 go_wp2_with fail
 refine (HG.out _).mono ?_
 rintro e w1 ⟨rfl, hb1⟩
 have HB1 := Aside0.mk hb1
 clear hb1
 go_wp2_with fail
 go_quiet (fail)
 go_wp2_with fail
 refine (HW.out _ (H.out.below (by repeat (first | exact HB1.out | apply below_alloc | apply below_drew | apply pw_below_drewN)))).mono ?_
 rintro e w2 ⟨rfl, hd2, hm2⟩
 have HD2 := Aside0.mk hd2
 have HM2 := Aside0.mk hm2
 clear hd2 hm2
 go_wp2_with fail
 go_ret
 exact ⟨rfl, HD2.out, (Mv.of (by repeat (first | exact HB1.out | apply below_alloc | apply below_drew | apply pw_below_drewN))).trans HM2.out⟩
theorem begin_id {w : World} {g : Nat} {P : Value} {d : D} {l : List ByteArray} (h : DecAt w g P d) (hd : DicF g w P l) (hl : l.length ≤ 100) (hs : ∀ s ∈ l, s.size < 1000000) (hz : d.held.size ≤ 1000000000) (he : (headR d.held).e = 0) (hi : ((headR d.held).id : Int) ≠ Idv l) :
  Calls Tryz.prog 156 #[.pointer (some ⟨g, 0, none⟩)] w fun e w' => e = .returned (.bool false) ∧ DecAt w' g P { d with held := ⟨#[]⟩, ec := 6, ea := d.at_ } ∧ Mv g w w' := by
 have H := Aside0.mk h
 have HDI := Aside0.mk hd
 have c6 := h.c6
 have HG := Aside0.mk (fun W => getHead_calls d.held hz W)
 rw [he] at HG
 have HID := Aside0.mk (fun (W : World) (h : DictAt W P l) => id_any h hl hs)
 have hb1 : ((headR d.held).id != Idv l) = true := bne_iff_ne.2 hi
 have hq : Aside0 (∀ W : World, DictAt W P l → Calls Tryz.prog 162 #[P] W fun e w' => e = .returned (.int .u64 (Idv l)) ∧ Below W.heap.size W w') := HID
 generalize Idv l = iv at *
 generalize headR d.held = q at *
 obtain ⟨qc, qk, qi, qe⟩ := q
 have d1 : ((qi : Int) != iv) = true := hb1
 have HW := Aside0.mk (fun (W : World) (h : DecAt W g P d) => wrong_calls h (6 : Int) (by decide))
 have cP := h.c0
 clear h he hi hd hb1 hs HID
 go_enter Tryz.func156, Tryz.ntmps156
 go_wp2_with fail
 refine (HG.out _).mono ?_
 rintro e w1 ⟨rfl, hb1⟩
 have HB1 := Aside0.mk hb1
 have cP1 := pw_cell_below hb1 cP
 clear hb1
 go_wp2_with fail
 have s1 : (w1.alloc (.cells #[.int .i64 (qc : Int), .int .i64 (qk : Int), .int .u64 (qi : Int)] 90)).cell? ⟨w1.heap.size, 2, none⟩ = some (.int .u64 (qi : Int)) := by simp
 have s2 : (w1.alloc (.cells #[.int .i64 (qc : Int), .int .i64 (qk : Int), .int .u64 (qi : Int)] 90)).cell? ⟨g, 0, none⟩ = some P := pw_cell_below ((Below.refl _ _).alloc (Nat.le_refl _) _) cP1
 go_region_held3 (fun w' => w'.cell? ⟨w1.heap.size, 2, none⟩ = some (.int .u64 (qi : Int)) ∧ w'.cell? ⟨g, 0, none⟩ = some P)
  (first | exact ⟨s1, s2⟩ | exact ⟨s3, s4⟩)
  ((go_at_call 162; refine (hq.out _ (HDI.out _ (Mv.of (by repeat (first | exact HB1.out | apply below_alloc | apply below_drew | apply pw_below_drewN))))).mono ?_; rintro e w2 ⟨rfl, hb2⟩; have hm2 : Below w.heap.size w w2 := below_step (by repeat (first | exact HB1.out | apply below_alloc | apply below_drew | apply pw_below_drewN)) hb2; have s3 : w2.cell? ⟨w1.heap.size, 2, none⟩ = some (.int .u64 (qi : Int)) := pw_cell_below hb2 s1; have s4 : w2.cell? ⟨g, 0, none⟩ = some P := pw_cell_below hb2 s2))
 have HM2 := Aside0.mk hm2
 clear hm2 hb2
 go_wp2_with fail
 refine (HW.out _ (H.out.below HM2.out)).mono ?_
 rintro e w3 ⟨rfl, hd3, hm3⟩
 have HD3 := Aside0.mk hd3
 have HM3 := Aside0.mk hm3
 clear hd3 hm3
 go_wp2_with fail
 go_ret
 exact ⟨rfl, HD3.out, (Mv.of HM2.out).trans HM3.out⟩
theorem begin_ok {w : World} {g : Nat} {P : Value} {d : D} {l : List ByteArray} (h : DecAt w g P d) (hd : DicF g w P l) (hl : l.length ≤ 100) (hs : ∀ s ∈ l, s.size < 1000000) (hz : d.held.size ≤ 1000000000) (he : (headR d.held).e = 0) (hi : ((headR d.held).id : Int) = Idv l) (h17 : 17 ≤ d.held.size) (ha : d.at_ ≤ 100000000) :
  Calls Tryz.prog 156 #[.pointer (some ⟨g, 0, none⟩)] w fun e w' => e = .returned (.bool true) ∧ DecAt w' g P { d with hc := (headR d.held).c, hk := (headR d.held).k, hid := (headR d.held).id, begun := true, held := d.held.extract 17 d.held.size, at_ := d.at_ + 17 } ∧ Mv g w w' := by
 have H := Aside0.mk h
 have HDI := Aside0.mk hd
 have c6 := h.c6
 have HG := Aside0.mk (fun W => getHead_calls d.held hz W)
 rw [he] at HG
 have HID := Aside0.mk (fun (W : World) (h : DictAt W P l) => id_any h hl hs)
 have hb1 : ((headR d.held).id != Idv l) = false := by rw [bne, beq_iff_eq.2 hi]; rfl
 have hq : Aside0 (∀ W : World, DictAt W P l → Calls Tryz.prog 162 #[P] W fun e w' => e = .returned (.int .u64 (Idv l)) ∧ Below W.heap.size W w') := HID
 generalize Idv l = iv at *
 generalize headR d.held = q at *
 obtain ⟨qc, qk, qi, qe⟩ := q
 have d1 : ((qi : Int) != iv) = false := hb1
 have HT := Aside0.mk (fun (W : World) (h : DecAt W g P { d with hc := qc, hk := qk, hid := qi, begun := true }) => take_calls h 17 h17 (by show d.at_ + 17 ≤ _; omega) hz)
 have cP := h.c0
 have f1 := h.fz 1
 have f2 := h.fz 2
 have f3 := h.fz 3
 have f4 := h.fz 4
 have k1 := h.c1
 have k2 := h.c2
 have k3 := h.c3
 have k4 := h.c4
 have HF := Aside0.mk (fun i => h.fz i)
 have HLT := Aside0.mk h.lt
 clear h he hi hd hb1 hs HID h17 ha f1 f2 f3 f4 k1 k2 k3 k4
 go_enter Tryz.func156, Tryz.ntmps156
 go_wp2_with fail
 refine (HG.out _).mono ?_
 rintro e w1 ⟨rfl, hb1⟩
 have HB1 := Aside0.mk hb1
 have cP1 := pw_cell_below hb1 cP
 clear hb1
 go_wp2_with fail
 have s1 : (w1.alloc (.cells #[.int .i64 (qc : Int), .int .i64 (qk : Int), .int .u64 (qi : Int)] 90)).cell? ⟨w1.heap.size, 2, none⟩ = some (.int .u64 (qi : Int)) := by simp
 have s2 : (w1.alloc (.cells #[.int .i64 (qc : Int), .int .i64 (qk : Int), .int .u64 (qi : Int)] 90)).cell? ⟨g, 0, none⟩ = some P := pw_cell_below ((Below.refl _ _).alloc (Nat.le_refl _) _) cP1
 go_region_held3 (fun w' => w'.cell? ⟨w1.heap.size, 2, none⟩ = some (.int .u64 (qi : Int)) ∧ w'.cell? ⟨g, 0, none⟩ = some P)
  (first | exact ⟨s1, s2⟩ | exact ⟨s3, s4⟩)
  ((go_at_call 162; refine (hq.out _ (HDI.out _ (Mv.of (by repeat (first | exact HB1.out | apply below_alloc | apply below_drew | apply pw_below_drewN))))).mono ?_; rintro e w2 ⟨rfl, hb2⟩; have hm2 : Below w.heap.size w w2 := below_step (by repeat (first | exact HB1.out | apply below_alloc | apply below_drew | apply pw_below_drewN)) hb2; have s3 : w2.cell? ⟨w1.heap.size, 2, none⟩ = some (.int .u64 (qi : Int)) := pw_cell_below hb2 s1; have s4 : w2.cell? ⟨g, 0, none⟩ = some P := pw_cell_below hb2 s2))
 have HM2 := Aside0.mk hm2
 have hd2 := H.out.below hm2
 have HD2 := Aside0.mk hd2
 have k1 := hd2.c1
 have k2 := hd2.c2
 have k3 := hd2.c3
 have k4 := hd2.c4
 have f1 := hd2.fz 1
 have f2 := hd2.fz 2
 have f3 := hd2.fz 3
 have f4 := hd2.fz 4
 have e0 := pw_cell_below hb2 (a := ⟨w1.heap.size, 0, none⟩) (v := .int .i64 (qc : Int)) (by simp)
 have e1 := pw_cell_below hb2 (a := ⟨w1.heap.size, 1, none⟩) (v := .int .i64 (qk : Int)) (by simp)
 have e2 := pw_cell_below hb2 (a := ⟨w1.heap.size, 2, none⟩) (v := .int .u64 (qi : Int)) (by simp)
 clear hm2 hb2 hd2
 go_wp2_with fail
 have hd5 : DecAt ((((w2.setCell ⟨g, 1, none⟩ (.int .i64 (qc : Int))).setCell ⟨g, 2, none⟩ (.int .i64 (qk : Int))).setCell ⟨g, 3, none⟩ (.int .u64 (qi : Int))).setCell ⟨g, 4, none⟩ (.bool true)) g P { d with hc := qc, hk := qk, hid := qi, begun := true } := blk_put (blk_put (blk_put (blk_put HD2.out 1 _ rfl) 2 _ rfl) 3 _ rfl) 4 _ rfl
 refine (HT.out _ hd5).mono ?_
 rintro e w6 ⟨rfl, hd6, hm6⟩
 have HD6 := Aside0.mk hd6
 have HM6 := Aside0.mk hm6
 clear hd5 hd6 hm6
 go_wp2_with fail
 go_ret
 exact ⟨rfl, HD6.out, (((((Mv.of HM2.out).set_ 1 _).set_ 2 _).set_ 3 _).set_ 4 _).trans HM6.out⟩
end Go.Proofs.YtepgkimlmoikmaaGreat
set_option linter.unusedVariables false
set_option linter.unusedSimpArgs false
namespace Go.Proofs.YtepgkimlmoikmaaGreat
open Go.RowKit Go.Proofs.YtepgkimlmoikmaaGreat.Spec Go.Proofs.YtepgkimlmoikmaaGreatW.PrintWords Go.Proofs.YtepgkimlmoikmaaGreatW.PrintLast
open Go.Proofs.YtepgkimlmoikmaaGreatW.PrintMore
attribute [local go_sem ↓] Go.wp_at_zero Go.wp_at_succ
attribute [local go_sem] max2_int min2_int max_two min_two
namespace Spec
def meantD (l : List ByteArray) (how : Nat) (told : Nat) (f : Fr) : ByteArray × Int :=
 if f.kind = 0 then (if f.raw ≠ told % 4294967296 then (⟨#[]⟩, 12) else (⟨#[]⟩, 0))
 else if (getR l how f.kind f.raw f.pay).2 = 0 then (if crcR (u (getR l how f.kind f.raw f.pay).1) ≠ f.sum then ((getR l how f.kind f.raw f.pay).1, 7) else ((getR l how f.kind f.raw f.pay).1, 0))
 else getR l how f.kind f.raw f.pay
end Spec
theorem meant_end {w : World} {g : Nat} {P : Value} {d : D} (l : List ByteArray) (h : DecAt w g P d) (f : Fr) (hk : f.kind = 0) (hr : f.raw < 4294967296) (ht : d.told ≤ 1000000000) :
  Calls Tryz.prog 159 #[.pointer (some ⟨g, 0, none⟩), .agg #[.int .i64 (f.kind : Int), .int .i64 (f.raw : Int), .int .u32 (f.sum : Int), .string f.pay]] w fun e w' => e = .returned (.tuple #[.string (meantD l d.hc d.told f).1, .int .i64 (meantD l d.hc d.told f).2]) ∧ Below w.heap.size w w' := by
 have H := Aside0.mk h
 have HM : Aside0 (meantD l d.hc d.told f = _) := ⟨by unfold meantD; rw [if_pos hk]⟩
 obtain ⟨kd, r, sm, py, n, er⟩ := f
 have hk2 : kd = 0 := hk
 subst hk2
 have hd := h.below ((Below.refl _ _).alloc (Nat.le_refl _) (.cells #[.int .i64 0, .int .i64 (r : Int), .int .u32 (sm : Int), .string py] 67))
 have c8 := hd.c8
 have q1 : IntKind.i64.wrap (IntKind.u32.wrap (d.told : Int)) = (d.told : Int) := by rw [IntKind.wrap_u32]; exact ((congrArg IntKind.i64.wrap (by omega)).trans (i64_w _)).trans (Bridge.wrN _ (by omega))
 have q2 : IntKind.u32.wrap (d.told : Int) = (d.told : Int) := by rw [IntKind.wrap_u32]; omega
 have q3 : IntKind.i64.wrap (d.told : Int) = (d.told : Int) := (i64_w _).trans (Bridge.wrN _ (by omega))
 have hm := HM.out
 have hmod : d.told % 4294967296 = d.told := Nat.mod_eq_of_lt (by omega)
 rw [hmod] at hm
 by_cases hq : r = d.told
 ·rw [if_neg (fun n => n hq)] at hm
  have HMM := Aside0.mk hm
  have d1 : ((r : Int) == (d.told : Int)) = true := beq_iff_eq.2 (by omega)
  have d2 : ((r : Int) != (d.told : Int)) = false := by rw [bne, d1]; rfl
  clear h hk hr ht hm hmod hq hd
  go_enter Tryz.func159, Tryz.ntmps159
  go_wp2_with fail
  go_quiet (fail)
  go_wp2_with fail
  go_ret2
  refine ⟨?_, by repeat (first | exact Below.refl _ _ | apply below_alloc | apply below_drew | apply pw_below_drewN)⟩
  rw [HMM.out]
  rfl
 ·rw [if_pos hq] at hm
  have HMM := Aside0.mk hm
  have d1 : ((r : Int) == (d.told : Int)) = false := beq_eq_false_iff_ne.2 (by omega)
  have d2 : ((r : Int) != (d.told : Int)) = true := bne_iff_ne.2 (by omega)
  clear h hk hr ht hm hmod hq hd
  go_enter Tryz.func159, Tryz.ntmps159
  go_wp2_with fail
  go_quiet (fail)
  go_wp2_with fail
  go_ret2
  refine ⟨?_, by repeat (first | exact Below.refl _ _ | apply below_alloc | apply below_drew | apply pw_below_drewN)⟩
  rw [HMM.out]
  rfl
theorem meant_blk {w : World} {g : Nat} {P : Value} {d : D} {l : List ByteArray} (h : DecAt w g P d) (hdi : DicF g w P l) (hl : l.length ≤ 100) (hs : ∀ s ∈ l, 1 ≤ s.size ∧ s.size ≤ 40) (f : Fr) (hk : f.kind ≠ 0) (hp : f.pay.size ≤ 100000) (hgz : (getR l d.hc f.kind f.raw f.pay).1.size ≤ 1000000) :
  Calls Tryz.prog 159 #[.pointer (some ⟨g, 0, none⟩), .agg #[.int .i64 (f.kind : Int), .int .i64 (f.raw : Int), .int .u32 (f.sum : Int), .string f.pay]] w fun e w' => e = .returned (.tuple #[.string (meantD l d.hc d.told f).1, .int .i64 (meantD l d.hc d.told f).2]) ∧ Below w.heap.size w w' := by
 have H := Aside0.mk h
 have HDI := Aside0.mk hdi
 have HM : Aside0 (meantD l d.hc d.told f = _) := ⟨by unfold meantD; rw [if_neg hk]⟩
 obtain ⟨kd, r, sm, py, n, er⟩ := f
 have HG := Aside0.mk (fun (W : World) (h : DictN W P l) => get_any h (how := d.hc) (kind := kd) (raw := r) (pay := py) hl hs hp)
 have hgz2 : (getR l d.hc kd r py).1.size ≤ 1000000 := hgz
 have HC := Aside0.mk (fun W => crc_calls (getR l d.hc kd r py).1 (by omega) W)
 dsimp only at HM
 obtain ⟨S, E, hSE⟩ : ∃ S E, getR l d.hc kd r py = (S, E) := ⟨_, _, rfl⟩
 rw [hSE] at HG HC HM
 have hk2 : kd ≠ 0 := hk
 have d0 : ((kd : Int) == 0) = false := beq_eq_false_iff_ne.2 (by omega)
 have hd := h.below ((Below.refl _ _).alloc (Nat.le_refl _) (.cells #[.int .i64 (kd : Int), .int .i64 (r : Int), .int .u32 (sm : Int), .string py] 67))
 have s0 := hd.c0
 have s1 := hd.c1
 have s2 : (w.alloc (.cells #[.int .i64 (kd : Int), .int .i64 (r : Int), .int .u32 (sm : Int), .string py] 67)).cell? ⟨w.heap.size, 0, none⟩ = some (.int .i64 (kd : Int)) := by simp
 have s3 : (w.alloc (.cells #[.int .i64 (kd : Int), .int .i64 (r : Int), .int .u32 (sm : Int), .string py] 67)).cell? ⟨w.heap.size, 1, none⟩ = some (.int .i64 (r : Int)) := by simp
 have s4 : (w.alloc (.cells #[.int .i64 (kd : Int), .int .i64 (r : Int), .int .u32 (sm : Int), .string py] 67)).cell? ⟨w.heap.size, 3, none⟩ = some (.string py) := by simp
 have s5 : (w.alloc (.cells #[.int .i64 (kd : Int), .int .i64 (r : Int), .int .u32 (sm : Int), .string py] 67)).cell? ⟨w.heap.size, 2, none⟩ = some (.int .u32 (sm : Int)) := by simp
 clear h hdi hk hk2 hp hgz hgz2 hl hs hSE hd
 go_enter Tryz.func159, Tryz.ntmps159
 go_wp2_with fail
 go_region_held3 (fun w' => w'.cell? ⟨g, 0, none⟩ = some P ∧ w'.cell? ⟨g, 1, none⟩ = some (.int .i64 (d.hc : Int)) ∧ w'.cell? ⟨w.heap.size, 0, none⟩ = some (.int .i64 (kd : Int)) ∧ w'.cell? ⟨w.heap.size, 1, none⟩ = some (.int .i64 (r : Int)) ∧ w'.cell? ⟨w.heap.size, 3, none⟩ = some (.string py))
  (first | exact ⟨s0, s1, s2, s3, s4⟩ | exact ⟨pw_cell_below hb2 s0, pw_cell_below hb2 s1, pw_cell_below hb2 s2, pw_cell_below hb2 s3, pw_cell_below hb2 s4⟩)
  ((go_at_call 30; refine (HG.out _ (DictN.of (HDI.out _ (Mv.of (by repeat (first | exact Below.refl _ _ | apply below_alloc | apply below_drew | apply pw_below_drewN)))))).mono ?_; rintro e w2 ⟨rfl, hb2⟩; have hm2 : Below w.heap.size w w2 := below_step (by repeat (first | exact Below.refl _ _ | apply below_alloc | apply below_drew | apply pw_below_drewN)) hb2))
 have HM2 := Aside0.mk hm2
 have r5 := pw_cell_below hb2 s5
 clear hm2 hb2
 by_cases he : E = 0
 ·subst he
  have hm := HM.out
  rw [if_pos rfl] at hm
  by_cases hcq : crcR (u S) = (sm : Int)
  ·rw [if_neg (fun n => n hcq)] at hm
   have HMM := Aside0.mk hm
   have d2 : (crcR (u S) != (sm : Int)) = false := by rw [bne, beq_iff_eq.2 hcq]; rfl
   generalize crcR (u S) = cr at *
   clear hm hcq
   go_wp2_with fail
   go_region_held3 (fun w' => w'.cell? ⟨w.heap.size, 2, none⟩ = some (.int .u32 (sm : Int))) (first | exact r5 | exact pw_cell_below hb3 r5)
    ((go_at_call 163; refine (HC.out _).mono ?_; rintro e w3 ⟨rfl, hb3⟩; have hm3 : Below w.heap.size w w3 := below_step (below_drew HM2.out) hb3))
   go_wp2_with fail
   go_ret2
   refine ⟨?_, hm3⟩
   rw [HMM.out]
   rfl
  ·rw [if_pos hcq] at hm
   have HMM := Aside0.mk hm
   have d2 : (crcR (u S) != (sm : Int)) = true := bne_iff_ne.2 hcq
   generalize crcR (u S) = cr at *
   clear hm hcq
   go_wp2_with fail
   go_region_held3 (fun w' => w'.cell? ⟨w.heap.size, 2, none⟩ = some (.int .u32 (sm : Int))) (first | exact r5 | exact pw_cell_below hb3 r5)
    ((go_at_call 163; refine (HC.out _).mono ?_; rintro e w3 ⟨rfl, hb3⟩; have hm3 : Below w.heap.size w w3 := below_step (below_drew HM2.out) hb3))
   go_wp2_with fail
   go_ret2
   refine ⟨?_, hm3⟩
   rw [HMM.out]
   rfl
 ·have d1 : (E == 0) = false := beq_eq_false_iff_ne.2 he
  have hm := HM.out
  rw [if_neg he] at hm
  have HMM := Aside0.mk hm
  clear hm he
  go_wp2_with fail
  go_quiet (fail)
  go_wp2_with fail
  go_ret2
  refine ⟨?_, by repeat (first | exact HM2.out | apply below_alloc | apply below_drew | apply pw_below_drewN)⟩
  rw [HMM.out]
  rfl
end Go.Proofs.YtepgkimlmoikmaaGreat
set_option linter.unusedVariables false
set_option linter.unusedSimpArgs false
namespace Go.Proofs.YtepgkimlmoikmaaGreat
open Go.RowKit Go.Proofs.YtepgkimlmoikmaaGreat.Spec Go.Proofs.YtepgkimlmoikmaaGreatW.PrintWords Go.Proofs.YtepgkimlmoikmaaGreatW.PrintLast
open Go.Proofs.YtepgkimlmoikmaaGreatW.PrintMore
attribute [local go_sem ↓] Go.wp_at_zero Go.wp_at_succ
attribute [local go_sem] max2_int min2_int max_two min_two
namespace Spec
def wrongD (d : D) (e : Int) : D := { d with held := ⟨#[]⟩, ec := e, ea := d.at_ }
def beginD (l : List ByteArray) (d : D) : D × Bool :=
 if (headR d.held).e = 2 then (d, false)
 else if (headR d.held).e ≠ 0 then (wrongD d (headR d.held).e, false)
 else if ((headR d.held).id : Int) ≠ Idv l then (wrongD d 6, false)
 else ({ d with hc := (headR d.held).c, hk := (headR d.held).k, hid := (headR d.held).id, begun := true, held := d.held.extract 17 d.held.size, at_ := d.at_ + 17 }, true)
def stepD (d : D) (f : Fr) (s : ByteArray) : D := { d with done := decide (f.kind = 0), told := d.told + s.size, held := d.held.extract f.n d.held.size, at_ := d.at_ + f.n }
def nextD (l : List ByteArray) (d : D) : D × ByteArray × Bool :=
 if d.begun = false then ((beginD l d).1, ⟨#[]⟩, (beginD l d).2)
 else if d.held.size = 0 then (d, ⟨#[]⟩, false)
 else if d.done = true then (wrongD d 13, ⟨#[]⟩, false)
 else if (frameR d.held d.hk).e = 2 then (d, ⟨#[]⟩, false)
 else if (frameR d.held d.hk).e ≠ 0 then (wrongD d (frameR d.held d.hk).e, ⟨#[]⟩, false)
 else if (meantD l d.hc d.told (frameR d.held d.hk)).2 ≠ 0 then (wrongD d (meantD l d.hc d.told (frameR d.held d.hk)).2, ⟨#[]⟩, false)
 else (stepD d (frameR d.held d.hk) (meantD l d.hc d.told (frameR d.held d.hk)).1, (meantD l d.hc d.told (frameR d.held d.hk)).1, true)
end Spec
theorem old_cells {W W1 : World} (hb : Below W.heap.size W W1) : (∀ k i, k < W.heap.size → W1.cell? ⟨k, i, none⟩ = W.cell? ⟨k, i, none⟩) ∧ (∀ k i, k < W.heap.size → W1.frozen? ⟨k, i, none⟩ = W.frozen? ⟨k, i, none⟩) :=
 ⟨fun k i h => hb.cell (p := ⟨k, i, none⟩) h, fun k i h => hb.frozen (p := ⟨k, i, none⟩) h⟩
theorem head_size {b : ByteArray} (h : (headR b).e ≠ 2) : 17 ≤ b.size := by
 unfold headR at h
 by_cases g : b.size < 17
 ·rw [if_pos g] at h; exact absurd rfl h
 ·omega
theorem begin_any {w : World} {g : Nat} {P : Value} {d : D} {l : List ByteArray} (h : DecAt w g P d) (hd : DicF g w P l) (hl : l.length ≤ 100) (hs : ∀ s ∈ l, 1 ≤ s.size ∧ s.size ≤ 40) (hz : d.held.size ≤ 1000000000) (ha : d.at_ ≤ 100000000) :
  Calls Tryz.prog 156 #[.pointer (some ⟨g, 0, none⟩)] w fun e w' => e = .returned (.bool (beginD l d).2) ∧ DecAt w' g P (beginD l d).1 ∧ Mv g w w' := by
 have hs' : ∀ s ∈ l, s.size < 1000000 := fun s hm => by have := (hs s hm).2; omega
 unfold beginD
 by_cases h1 : (headR d.held).e = 2
 ·rw [if_pos h1]; exact begin_wait h hz h1
 rw [if_neg h1]
 by_cases h2 : (headR d.held).e ≠ 0
 ·rw [if_pos h2]; exact begin_bad h hz h1 h2
 rw [if_neg h2]
 by_cases h3 : ((headR d.held).id : Int) ≠ Idv l
 ·rw [if_pos h3]; exact begin_id h hd hl hs' hz (Decidable.not_not.1 h2) h3
 ·rw [if_neg h3]; exact begin_ok h hd hl hs' hz (Decidable.not_not.1 h2) (Decidable.not_not.1 h3) (head_size h1) ha
theorem next_begin {w : World} {g : Nat} {P : Value} {d : D} {l : List ByteArray} (h : DecAt w g P d) (hd : DicF g w P l) (hl : l.length ≤ 100) (hs : ∀ s ∈ l, 1 ≤ s.size ∧ s.size ≤ 40) (hz : d.held.size ≤ 1000000000) (ha : d.at_ ≤ 100000000) (hb : d.begun = false) :
  Calls Tryz.prog 115 #[.pointer (some ⟨g, 0, none⟩)] w fun e w' => e = .returned (.tuple #[.string (nextD l d).2.1, .bool (nextD l d).2.2]) ∧ DecAt w' g P (nextD l d).1 ∧ Mv g w w' := by
 have hn : nextD l d = ((beginD l d).1, ⟨#[]⟩, (beginD l d).2) := by unfold nextD; rw [if_pos hb]
 rw [hn]
 have HB := Aside0.mk (begin_any h hd hl hs hz ha)
 generalize beginD l d = q at *
 obtain ⟨q1, q2⟩ := q
 have c4 := h.c4
 rw [hb] at c4
 clear h hd hl hs hz ha hb hn
 go_enter Tryz.func115, Tryz.ntmps115
 go_wp2_with fail
 refine HB.out.mono ?_
 rintro e w1 ⟨rfl, hd1, hm1⟩
 have HD1 := Aside0.mk hd1
 have HM1 := Aside0.mk hm1
 clear hd1 hm1
 go_wp2_with fail
 go_ret2
 exact ⟨rfl, HD1.out, HM1.out⟩
theorem next_stop {w : World} {g : Nat} {P : Value} {d : D} (l : List ByteArray) (h : DecAt w g P d) (hb : d.begun = true) (hz : d.held.size = 0 ∨ d.done = true) :
  Calls Tryz.prog 115 #[.pointer (some ⟨g, 0, none⟩)] w fun e w' => e = .returned (.tuple #[.string (nextD l d).2.1, .bool (nextD l d).2.2]) ∧ DecAt w' g P (nextD l d).1 ∧ Mv g w w' := by
 have c4 := h.c4
 have c6 := h.c6
 rw [hb] at c4
 by_cases h0 : d.held.size = 0
 ·have hn : nextD l d = (d, ⟨#[]⟩, false) := by unfold nextD; rw [if_neg (by rw [hb]; decide), if_pos h0]
  rw [hn]
  have z2 : d.held.toList = [] := Bridge.empty_iff.2 h0
  have z1 : d.held.toList.isEmpty = true := by rw [z2]; rfl
  have H := Aside0.mk h
  clear h hb hz h0 hn
  go_enter Tryz.func115, Tryz.ntmps115
  go_wp2_with fail
  go_ret2
  exact ⟨rfl, H.out, Mv.refl _ _⟩
 ·have hdn : d.done = true := hz.resolve_left h0
  have hn : nextD l d = (wrongD d 13, ⟨#[]⟩, false) := by unfold nextD; rw [if_neg (by rw [hb]; decide), if_neg h0, if_pos hdn]
  rw [hn]
  have z1 := not_nil2 (b := d.held) (by omega)
  have z2 : ¬ d.held.toList = [] := by intro e; rw [e] at z1; cases z1
  have c5 := h.c5
  rw [hdn] at c5
  have HW := Aside0.mk (wrong_calls h (13 : Int) (by decide))
  clear h hb hz h0 hn hdn
  go_enter Tryz.func115, Tryz.ntmps115
  go_wp2_with fail
  refine HW.out.mono ?_
  rintro e w1 ⟨rfl, hd1, hm1⟩
  have HD1 := Aside0.mk hd1
  have HM1 := Aside0.mk hm1
  clear hd1 hm1
  go_wp2_with fail
  go_ret2
  exact ⟨rfl, HD1.out, HM1.out⟩
theorem meantd_any {w : World} {g : Nat} {P : Value} {d : D} {l : List ByteArray} (h : DecAt w g P d) (hdi : DicF g w P l) (hl : l.length ≤ 100) (hs : ∀ s ∈ l, 1 ≤ s.size ∧ s.size ≤ 40) (b : ByteArray) (blk : Nat) (he : (frameR b blk).e = 0) (hc : d.hc ≤ 1) (ht : d.told ≤ 1000000000) :
  Calls Tryz.prog 159 #[.pointer (some ⟨g, 0, none⟩), .agg #[.int .i64 ((frameR b blk).kind : Int), .int .i64 ((frameR b blk).raw : Int), .int .u32 ((frameR b blk).sum : Int), .string (frameR b blk).pay]] w fun e w' => e = .returned (.tuple #[.string (meantD l d.hc d.told (frameR b blk)).1, .int .i64 (meantD l d.hc d.told (frameR b blk)).2]) ∧ Below w.heap.size w w' := by
 obtain ⟨_, _, _, hf⟩ := frame_n b blk he
 rcases hf with ⟨hk, hr⟩ | ⟨hk, hr, hp⟩
 ·exact meant_end l h _ hk hr ht
 ·refine meant_blk h hdi hl hs _ (by omega) (by omega) ?_
  obtain ⟨_, g2, g3⟩ := getR_ok hl hs d.hc (frameR b blk).kind (frameR b blk).raw (frameR b blk).pay (by omega) (by omega) (by omega)
  by_cases q : (getR l d.hc (frameR b blk).kind (frameR b blk).raw (frameR b blk).pay).2 = 0
  ·have := g2 q; omega
  ·rw [g3 q]; exact Nat.zero_le _
theorem meant_size {l : List ByteArray} (hl : l.length ≤ 100) (hs : ∀ s ∈ l, 1 ≤ s.size ∧ s.size ≤ 40) {how : Nat} (hc : how ≤ 1) (told : Nat) (b : ByteArray) (blk : Nat) (he : (frameR b blk).e = 0) (hm : (meantD l how told (frameR b blk)).2 = 0) : (meantD l how told (frameR b blk)).1.size ≤ 1024 := by
 obtain ⟨_, _, _, hf⟩ := frame_n b blk he
 unfold meantD at hm ⊢
 rcases hf with ⟨hk, hr⟩ | ⟨hk, hr, hp⟩
 ·rw [if_pos hk]
  split <;> exact Nat.zero_le _
 ·rw [if_neg (by omega)] at hm ⊢
  obtain ⟨_, g2, g3⟩ := getR_ok hl hs how (frameR b blk).kind (frameR b blk).raw (frameR b blk).pay (by omega) (by omega) (by omega)
  by_cases q : (getR l how (frameR b blk).kind (frameR b blk).raw (frameR b blk).pay).2 = 0
  ·have := g2 q
   rw [if_pos q]
   split
   ·show (getR l how (frameR b blk).kind (frameR b blk).raw (frameR b blk).pay).1.size ≤ 1024
    omega
   ·show (getR l how (frameR b blk).kind (frameR b blk).raw (frameR b blk).pay).1.size ≤ 1024
    omega
  ·rw [if_neg q] at hm
   exact absurd hm q
theorem next_frame {w : World} {g : Nat} {P : Value} {d : D} {l : List ByteArray} (h : DecAt w g P d) (hdi : DicF g w P l) (hl : l.length ≤ 100) (hs : ∀ s ∈ l, 1 ≤ s.size ∧ s.size ≤ 40) (hz : d.held.size ≤ 1000000000) (ha : d.at_ ≤ 100000000) (ht : d.told ≤ 1000000000) (hc : d.hc ≤ 1) (hb : d.begun = true) (h0 : d.held.size ≠ 0) (hdn : d.done = false) :
    Calls Tryz.prog 115 #[.pointer (some ⟨g, 0, none⟩)] w fun e w' => e = .returned (.tuple #[.string (nextD l d).2.1, .bool (nextD l d).2.2]) ∧ DecAt w' g P (nextD l d).1 ∧ Mv g w w' := by
  have H := Aside0.mk h
  have HDI := Aside0.mk hdi
  have HN : Aside0 (nextD l d = _) := ⟨by unfold nextD; rw [if_neg (by rw [hb]; decide), if_neg h0, if_neg (by rw [hdn]; decide)]⟩
  have HFG := Aside0.mk (fun W => fget_calls d.held hz d.hk W)
  have HME := Aside0.mk (fun (W : World) (h : DecAt W g P d) (hdi : DicF g W P l) (he : (frameR d.held d.hk).e = 0) => meantd_any h hdi hl hs d.held d.hk he hc ht)
  have HMS := Aside0.mk (fun (he : (frameR d.held d.hk).e = 0) => meant_size hl hs hc d.told d.held d.hk he)
  have HFN := Aside0.mk (fun (he : (frameR d.held d.hk).e = 0) => frame_n d.held d.hk he)
  have HTK := Aside0.mk (fun (W : World) (dn : Bool) (td : Nat) (n : Nat) (h : DecAt W g P { d with done := dn, told := td }) (hn : n ≤ d.held.size) (h1 : n ≤ 2000) => take_calls h n hn (by show d.at_ + n ≤ _; omega) hz)
  generalize frameR d.held d.hk = f at *
  unfold frV at HFG
  obtain ⟨kd, r, sm, py, n, er⟩ := f
  dsimp only at HN HFG HME HMS HFN
  have z1 := not_nil2 (b := d.held) (by omega)
  have z2 : ¬ d.held.toList = [] := by intro e; rw [e] at z1; cases z1
  have c2 := h.c2
  have c4 := h.c4
  have c5 := h.c5
  have c6 := h.c6
  rw [hb] at c4
  rw [hdn] at c5
  have HT := Aside0.mk ht
  clear h hdi hl hs hz ha ht hc hb h0 hdn
  go_enter Tryz.func115, Tryz.ntmps115
  go_upto_region 8 with fail
  go_cut [4, 5, 6] (fun v4 v5 v6 wx => ∃ gf, v4 = .pointer (some ⟨gf, 0, none⟩) ∧ v5 = .int .i64 (n : Int) ∧ v6 = .int .i64 (er : Int) ∧ Aside0 (wx.heap[gf]? = some (.cells #[.int .i64 (kd : Int), .int .i64 (r : Int), .int .u32 (sm : Int), .string py] 67 (0, 0))) ∧ Aside0 (Below w.heap.size w wx) ∧ Aside0 (w.heap.size ≤ gf))
  case first =>
    go_region_held3 (fun w' => w'.cell? ⟨g, 6, none⟩ = some (.string d.held) ∧ w'.cell? ⟨g, 2, none⟩ = some (.int .i64 (d.hk : Int)))
      (first | exact ⟨c6, c2⟩ | (refine ⟨pw_cell_below ?_ c6, pw_cell_below ?_ c2⟩ <;> repeat (with_reducible first | exact Below.refl _ _ | exact hm2 | apply below_alloc | apply below_drew | apply pw_below_drewN | refine below_set ?_ (Nat.le_refl _) _ _ | refine below_set ?_ hm2.size _ _)))
      ((go_at_call 158; refine (HFG.out _).mono ?_; rintro e w2 ⟨rfl, hb2⟩; obtain ⟨hcc, hff⟩ := old_cells hb2; have hm2 : Below w.heap.size w w2 := below_step (by repeat (with_reducible first | exact Below.refl _ _ | apply below_alloc | apply below_drew | apply pw_below_drewN)) hb2))
    all_goals
      go_wp2_with fail
      go_meet
      first
        | (with_reducible refine ⟨w2.heap.size, rfl, rfl, rfl, ⟨?_⟩, ⟨?_⟩, ⟨hm2.size⟩⟩
           · exact blk_new _ _
           · exact below_alloc hm2 _)
        | (with_reducible refine ⟨w.heap.size, rfl, rfl, rfl, ⟨blk_put4 (a := .int .i64 0) (b := .int .i64 0) (c := .int .u32 0) (d := .string ⟨#[]⟩) (blk_below ?_ hb2)⟩, ⟨?_⟩, ⟨Nat.le_refl _⟩⟩
           · repeat (with_reducible first | refine blk_drewN ?_ _ | refine blk_drew ?_ | (refine blk_new2 _ _ _ ?_; rfl) | refine blk_alloc ?_ _)
           · repeat (with_reducible first | exact hm2 | refine below_set ?_ (Nat.le_refl _) _ _))
  case rest =>
    obtain ⟨gf, rfl, rfl, rfl, HBF, HBW, HGF⟩ := hcut
    have hd := H.out.below HBW.out
    have HD := Aside0.mk hd
    have HDW := Aside0.mk (HDI.out.step (Mv.of HBW.out))
    clear hd
    have hn := HN.out
    by_cases h2 : er = 2
    · rw [if_pos h2] at hn
      have HNN := Aside0.mk hn
      subst h2
      clear hn
      go_wp2_with fail
      go_ret2
      rw [HNN.out]
      exact ⟨rfl, HD.out, Mv.of HBW.out⟩
    rw [if_neg h2] at hn
    by_cases h0 : er = 0
    · rw [if_neg (fun n => n h0)] at hn
      subst h0
      have HMF := Aside0.mk (HME.out wc HD.out HDW.out rfl)
      have k0 : wc.cell? ⟨gf, 0, none⟩ = some (.int .i64 (kd : Int)) := (blk_cell HBF.out 0).trans rfl
      have k1 : wc.cell? ⟨gf, 1, none⟩ = some (.int .i64 (r : Int)) := (blk_cell HBF.out 1).trans rfl
      have k2 : wc.cell? ⟨gf, 2, none⟩ = some (.int .u32 (sm : Int)) := (blk_cell HBF.out 2).trans rfl
      have k3 : wc.cell? ⟨gf, 3, none⟩ = some (.string py) := (blk_cell HBF.out 3).trans rfl
      have hms := HMS.out rfl
      obtain ⟨n5, nz, n33, _⟩ := HFN.out rfl
      generalize meantD l d.hc d.told ⟨kd, r, sm, py, n, 0⟩ = m at *
      obtain ⟨S, E⟩ := m
      dsimp only at hn hms HMF
      by_cases hE : E = 0
      · rw [if_neg (fun n => n hE)] at hn
        have hms2 := hms hE
        subst hE
        have HNN := Aside0.mk hn
        have HSZ := Aside0.mk (And.intro hms2 (And.intro n5 (And.intro nz n33)))
        clear hn h2 hms hms2 n5 nz n33
        go_wp2_with fail
        refine HMF.out.mono ?_
        rintro e w2 ⟨rfl, hb2⟩
        have hd2 := HD.out.below hb2
        have HD2 := Aside0.mk hd2
        have HB2 := Aside0.mk hb2
        have f5 := hd2.fz 5
        have f8 := hd2.fz 8
        have c85 := hd2.c5
        have c8 := hd2.c8
        have r0 := pw_cell_below hb2 k0
        have t1 : (d.told : Int) ≤ 1000000000 := by have := HT.out; omega
        have t2 : (S.size : Int) ≤ 1024 := by have := HSZ.out.1; omega
        have hne : gf ≠ g := by have := HGF.out; have := H.out.lt; omega
        have hne2 : (⟨g, 5, none⟩ : Addr) ≠ ⟨gf, 0, none⟩ := fun e => hne (by injection e with e1 _ _; exact e1.symm)
        clear hd2 hb2
        by_cases hk : kd = 0
        · subst hk
          go_wp2_with fail
          have hd5 : DecAt ((w2.setCell ⟨g, 5, none⟩ (.bool true)).setCell ⟨g, 8, none⟩ (.int .i64 ((d.told : Int) + (S.size : Int)))) g P { d with done := true, told := d.told + S.size } := blk_put (blk_put HD2.out 5 _ rfl) 8 _ rfl
          refine (HTK.out _ true (d.told + S.size) n hd5 HSZ.out.2.2.1 (by have := HSZ.out.2.2.2; omega)).mono ?_
          rintro e w6 ⟨rfl, hd6, hm6⟩
          have HD6 := Aside0.mk hd6
          have HM6 := Aside0.mk hm6
          clear hd5 hd6 hm6
          go_wp2_with fail
          go_ret2
          rw [HNN.out]
          exact ⟨rfl, HD6.out, ((((Mv.of HBW.out).then HB2.out).set_ 5 _).set_ 8 _).trans HM6.out⟩
        · have dk : ((kd : Int) == 0) = false := beq_eq_false_iff_ne.2 (by omega)
          have HK : Aside0 (decide (kd = 0) = false) := ⟨decide_eq_false hk⟩
          clear hk
          go_wp2_with fail
          have hd5 : DecAt ((w2.setCell ⟨g, 5, none⟩ (.bool false)).setCell ⟨g, 8, none⟩ (.int .i64 ((d.told : Int) + (S.size : Int)))) g P { d with done := false, told := d.told + S.size } := blk_put (blk_put HD2.out 5 _ rfl) 8 _ rfl
          refine (HTK.out _ false (d.told + S.size) n hd5 HSZ.out.2.2.1 (by have := HSZ.out.2.2.2; omega)).mono ?_
          rintro e w6 ⟨rfl, hd6, hm6⟩
          have HD6 := Aside0.mk hd6
          have HM6 := Aside0.mk hm6
          clear hd5 hd6 hm6
          go_wp2_with fail
          go_ret2
          rw [HNN.out]
          unfold stepD
          dsimp only
          rw [HK.out]
          exact ⟨rfl, HD6.out, ((((Mv.of HBW.out).then HB2.out).set_ 5 _).set_ 8 _).trans HM6.out⟩
      · rw [if_pos hE] at hn
        have HNN := Aside0.mk hn
        have d1 : (E == 0) = false := beq_eq_false_iff_ne.2 hE
        have d2 : (E != 0) = true := bne_iff_ne.2 hE
        have HW := Aside0.mk (fun (W : World) (h : DecAt W g P d) => wrong_calls h E hE)
        clear hn h2 hms n5 nz n33 hE
        go_wp2_with fail
        refine HMF.out.mono ?_
        rintro e w2 ⟨rfl, hb2⟩
        have HB2 := Aside0.mk hb2
        clear hb2
        go_wp2_with fail
        refine (HW.out _ (HD.out.below HB2.out)).mono ?_
        rintro e w3 ⟨rfl, hd3, hm3⟩
        have HD3 := Aside0.mk hd3
        have HM3 := Aside0.mk hm3
        clear hd3 hm3
        go_wp2_with fail
        go_ret2
        rw [HNN.out]
        exact ⟨rfl, HD3.out, ((Mv.of HBW.out).then HB2.out).trans HM3.out⟩
    · rw [if_pos h0] at hn
      have HNN := Aside0.mk hn
      have d1 : ((er : Int) == 2) = false := beq_eq_false_iff_ne.2 (by omega)
      have d2 : ((er : Int) == 0) = false := beq_eq_false_iff_ne.2 (by omega)
      have d3 : ((er : Int) != 0) = true := bne_iff_ne.2 (by omega)
      have HW := Aside0.mk (wrong_calls HD.out (er : Int) (by omega))
      clear hn h2 h0
      go_wp2_with fail
      refine HW.out.mono ?_
      rintro e w3 ⟨rfl, hd3, hm3⟩
      have HD3 := Aside0.mk hd3
      have HM3 := Aside0.mk hm3
      clear hd3 hm3
      go_wp2_with fail
      go_ret2
      rw [HNN.out]
      exact ⟨rfl, HD3.out, (Mv.of HBW.out).trans HM3.out⟩
end Go.Proofs.YtepgkimlmoikmaaGreat
