/- ShF: a part of its proof (contracts of the functions that it reaches, and the plain mathematics behind them). -/
import Derived.Test.YtdpkgjahcapleaaGreatShF43
import Derived.Test.YtdpkgjahcapleaaGreatShF29
set_option linter.unusedVariables false
set_option linter.unusedSimpArgs false
set_option linter.unusedVariables false
set_option linter.unusedSimpArgs false
namespace Go.Proofs.YtdpkgjahcapleaaGreat
open Go.RowKit Go.Proofs.YtdpkgjahcapleaaGreat.Spec Go.Proofs.YtdpkgjahcapleaaGreatW.PrintWords Go.Proofs.YtdpkgjahcapleaaGreatW.PrintLast
open Go.Proofs.YtdpkgjahcapleaaGreatW.PrintMore
attribute [local go_sem ↓] Go.wp_at_zero Go.wp_at_succ
attribute [local go_sem] max2_int min2_int max_two min_two
namespace Spec
structure En where
  p : Nat
  q : Nat
  k : Nat
  wd : Nat
  held : ByteArray
  written : Nat
  begun : Bool
  closed : Bool
def blkS (pay : ByteArray → Nat × ByteArray) (b : ByteArray) : ByteArray := frameS (pay b).1 b.size (crcR (u b)).toNat (pay b).2
def cutR (pay : ByteArray → Nat × ByteArray) (k : Nat) : Nat → ByteArray → ByteArray × ByteArray
  | 0, h => (⟨#[]⟩, h)
  | f + 1, h => if k ≤ h.size then (blkS pay (h.extract 0 k) ++ (cutR pay k f (h.extract k h.size)).1, (cutR pay k f (h.extract k h.size)).2) else (⟨#[]⟩, h)
end Spec
def encCells (P : Value) (e : En) : Array Value := #[P, .int .i64 (e.p : Int), .int .i64 (e.q : Int), .int .i64 (e.k : Int), .int .i64 (e.wd : Int), .string e.held, .int .i64 (e.written : Int), .bool e.begun, .bool e.closed]
def EncAt (w : World) (g : Nat) (P : Value) (e : En) : Prop := w.heap[g]? = some (.cells (encCells P e) 81 (0, 0))
section
variable {w : World} {g : Nat} {P : Value} {e : En}
theorem EncAt.lt (h : EncAt w g P e) : g < w.heap.size := blk_lt h
theorem EncAt.below {w1 : World} (h : EncAt w g P e) (hb : Below w.heap.size w w1) : EncAt w1 g P e := blk_below h hb
theorem EncAt.c0 (h : EncAt w g P e) : w.cell? ⟨g, 0, none⟩ = some P := (blk_cell h 0).trans rfl
theorem EncAt.c1 (h : EncAt w g P e) : w.cell? ⟨g, 1, none⟩ = some (.int .i64 (e.p : Int)) := (blk_cell h 1).trans rfl
theorem EncAt.c2 (h : EncAt w g P e) : w.cell? ⟨g, 2, none⟩ = some (.int .i64 (e.q : Int)) := (blk_cell h 2).trans rfl
theorem EncAt.c3 (h : EncAt w g P e) : w.cell? ⟨g, 3, none⟩ = some (.int .i64 (e.k : Int)) := (blk_cell h 3).trans rfl
theorem EncAt.c4 (h : EncAt w g P e) : w.cell? ⟨g, 4, none⟩ = some (.int .i64 (e.wd : Int)) := (blk_cell h 4).trans rfl
theorem EncAt.c5 (h : EncAt w g P e) : w.cell? ⟨g, 5, none⟩ = some (.string e.held) := (blk_cell h 5).trans rfl
theorem EncAt.c6 (h : EncAt w g P e) : w.cell? ⟨g, 6, none⟩ = some (.int .i64 (e.written : Int)) := (blk_cell h 6).trans rfl
theorem EncAt.c7 (h : EncAt w g P e) : w.cell? ⟨g, 7, none⟩ = some (.bool e.begun) := (blk_cell h 7).trans rfl
theorem EncAt.c8 (h : EncAt w g P e) : w.cell? ⟨g, 8, none⟩ = some (.bool e.closed) := (blk_cell h 8).trans rfl
theorem EncAt.fz (h : EncAt w g P e) (i : Nat) : w.frozen? ⟨g, i, none⟩ = false := blk_frozen h i
end
structure PutOk (P : Value) (l : List ByteArray) (e : En) (pay : ByteArray → Nat × ByteArray) : Prop where
  calls : ∀ (W : World) (b : ByteArray), DictAt W P l → 1 ≤ b.size → b.size ≤ e.k → Calls Tryz.prog 61 #[P, .agg #[.int .i64 (e.p : Int), .int .i64 (e.q : Int), .int .i64 (e.k : Int), .int .i64 (e.wd : Int)], .string b] W fun x w' => x = .returned (.tuple #[.int .i64 ((pay b).1 : Int), .string (pay b).2, .int .i64 0]) ∧ Below W.heap.size W w'
  fits : ∀ b : ByteArray, 1 ≤ b.size → b.size ≤ e.k → fitsR (pay b).1 b.size (pay b).2.size
def Idn (l : List ByteArray) : Nat := (Bridge.fnv (Spec.bytes l)).toNat
theorem idn_is (l : List ByteArray) : ((Idn l : Nat) : Int) = Bridge.fnv (Spec.bytes l) ∧ Idn l < 18446744073709551616 := by
  have h := fnv_range (Spec.bytes l) 14695981039346656037 (by decide) (by decide)
  change 0 ≤ Bridge.fnv (Spec.bytes l) ∧ Bridge.fnv (Spec.bytes l) < 18446744073709551616 at h
  unfold Idn
  omega
set_option maxHeartbeats 2000000 in
set_option maxRecDepth 100000 in
theorem eframe_calls {w : World} {g : Nat} {P : Value} {e : En} {l : List ByteArray} {pay : ByteArray → Nat × ByteArray} (h : EncAt w g P e) (hdi : DicF g w P l) (hp : PutOk P l e pay) (b : ByteArray) (h1 : 1 ≤ b.size) (hk : b.size ≤ e.k) (hk2 : e.k ≤ 1024) :
    Calls Tryz.prog 41 #[.pointer (some ⟨g, 0, none⟩), .string b] w fun x w' => x = .returned (.string (blkS pay b)) ∧ Below w.heap.size w w' := by
  have HPUT := Aside0.mk (fun (W : World) (hd : DictAt W P l) => hp.calls W b hd h1 hk)
  have HCRC := Aside0.mk (fun W => crc_calls b (by omega) W)
  have hcr := crc_range (u b)
  have hcn : crcR (u b) = (((crcR (u b)).toNat : Nat) : Int) := by omega
  rw [hcn] at HCRC
  have HFP := Aside0.mk (fun W => fput_blk (pay b).1 b.size (crcR (u b)).toNat (pay b).2 (hp.fits b h1 hk) (by omega) W)
  have HX : Aside0 (blkS pay b = frameS (pay b).1 b.size (crcR (u b)).toNat (pay b).2) := ⟨rfl⟩
  generalize (crcR (u b)).toNat = cr at *
  generalize pay b = q at *
  obtain ⟨kd, py⟩ := q
  dsimp only at HPUT HFP HX
  have HDI := Aside0.mk hdi
  have s0 := h.c0
  have s1 := h.c1
  have s2 := h.c2
  have s3 := h.c3
  have s4 := h.c4
  clear h hdi hp h1 hk hk2 hcr hcn
  go_enter Tryz.func41, Tryz.ntmps41
  go_wp2_with fail
  go_region_held3 (fun w' => w'.cell? ⟨g, 0, none⟩ = some P ∧ w'.cell? ⟨g, 1, none⟩ = some (.int .i64 (e.p : Int)) ∧ w'.cell? ⟨g, 2, none⟩ = some (.int .i64 (e.q : Int)) ∧ w'.cell? ⟨g, 3, none⟩ = some (.int .i64 (e.k : Int)) ∧ w'.cell? ⟨g, 4, none⟩ = some (.int .i64 (e.wd : Int)))
    (first | exact ⟨s0, s1, s2, s3, s4⟩ | exact ⟨pw_cell_below hb2 s0, pw_cell_below hb2 s1, pw_cell_below hb2 s2, pw_cell_below hb2 s3, pw_cell_below hb2 s4⟩)
    ((go_at_call 61; refine (HPUT.out _ (HDI.out _ (Mv.of (by repeat (first | exact Below.refl _ _ | apply below_alloc | apply below_drew | apply pw_below_drewN))))).mono ?_; rintro x w2 ⟨rfl, hb2⟩; have hm2 : Below w.heap.size w w2 := below_step (by repeat (first | exact Below.refl _ _ | apply below_alloc | apply below_drew | apply pw_below_drewN)) hb2))
  have HM2 := Aside0.mk hm2
  clear hb2 hm2
  go_wp2_with fail
  refine (HCRC.out _).mono ?_
  rintro x w3 ⟨rfl, hb3⟩
  have HM3 := Aside0.mk (below_step HM2.out hb3)
  clear hb3
  go_wp2_with fail
  refine (HFP.out _).mono ?_
  rintro x w4 ⟨rfl, hb4⟩
  have HM4 := Aside0.mk (below_step HM3.out hb4)
  clear hb4
  go_wp2_with fail
  go_ret
  exact ⟨by rw [HX.out]; rfl, HM4.out⟩
set_option maxHeartbeats 2000000 in
set_option maxRecDepth 100000 in
theorem ebegin_first {w : World} {g : Nat} {P : Value} {e : En} {l : List ByteArray} (h : EncAt w g P e) (hdi : DicF g w P l) {ad : Addr} (hP : P = .pointer (some ad)) (hl : l.length ≤ 100) (hs : ∀ s ∈ l, s.size < 1000000) (hb : e.begun = false) (hc : e.closed = false) (hq : e.q ≤ 1) (hk : 1 ≤ e.k ∧ e.k ≤ 1024) :
    Calls Tryz.prog 40 #[.pointer (some ⟨g, 0, none⟩)] w fun x w' => x = .returned (.tuple #[.string (headS e.q e.k (Idn l)), .nilIface]) ∧ EncAt w' g P { e with begun := true } ∧ Mv g w w' := by
  have H := Aside0.mk h
  have HDI := Aside0.mk hdi
  obtain ⟨i1, i2⟩ := idn_is l
  have HID := Aside0.mk (fun (W : World) (h : DictAt W P l) => id_any h hl hs)
  rw [← i1] at HID
  have HPH := Aside0.mk (fun W => putHead_calls e.q e.k (Idn l) hq hk i2 W)
  generalize Idn l = idn at *
  have s0 := h.c0
  have s2 := h.c2
  have s3 := h.c3
  have c7 := h.c7
  have c8 := h.c8
  have f7 := h.fz 7
  rw [hb] at c7
  rw [hc] at c8
  subst hP
  have hm0 : Mv g w (w.setCell ⟨g, 7, none⟩ (.bool true)) := (Mv.refl g w).set_ 7 _
  have HM0 := Aside0.mk hm0
  have he0 : EncAt (w.setCell ⟨g, 7, none⟩ (.bool true)) g (.pointer (some ad)) { e with begun := true } := blk_put h 7 _ rfl
  have HE0 := Aside0.mk he0
  have t0 := he0.c0
  have t2 := he0.c2
  have t3 := he0.c3
  clear h hdi hl hs hb hc hq hk i1 i2 hm0 he0
  go_enter Tryz.func40, Tryz.ntmps40
  go_wp2_with fail
  go_region_held3 (fun w' => w'.cell? ⟨g, 0, none⟩ = some (.pointer (some ad)) ∧ w'.cell? ⟨g, 2, none⟩ = some (.int .i64 (e.q : Int)) ∧ w'.cell? ⟨g, 3, none⟩ = some (.int .i64 (e.k : Int)))
    (first | exact ⟨t0, t2, t3⟩ | exact ⟨pw_cell_below h2 t0, pw_cell_below h2 t2, pw_cell_below h2 t3⟩)
    ((first
      | (go_at_call 15; refine (HID.out _ (HDI.out _ (HM0.out.then (by repeat (first | exact Below.refl _ _ | apply below_alloc | apply below_drew | apply pw_below_drewN))))).mono ?_; rintro x w2 ⟨rfl, hb2⟩; have h2 := below_step (below_drew (Below.refl (w.setCell ⟨g, 7, none⟩ (.bool true)).heap.size (w.setCell ⟨g, 7, none⟩ (.bool true)))) hb2)
      | (go_at_call 60; refine (HPH.out _).mono ?_; rintro x w3 ⟨rfl, hb3⟩; have h2 := below_step h2 hb3)))
  have HF := Aside0.mk h2
  clear h2
  go_wp2_with fail
  go_ret2
  exact ⟨rfl, HE0.out.below HF.out, HM0.out.then HF.out⟩
set_option maxHeartbeats 1000000 in
theorem ebegin_again {w : World} {g : Nat} {P : Value} {e : En} (h : EncAt w g P e) {ad : Addr} (hP : P = .pointer (some ad)) (hb : e.begun = true) (hc : e.closed = false) :
    Calls Tryz.prog 40 #[.pointer (some ⟨g, 0, none⟩)] w fun x w' => x = .returned (.tuple #[.string ⟨#[]⟩, .nilIface]) ∧ w = w' := by
  have s0 := h.c0
  have c7 := h.c7
  have c8 := h.c8
  rw [hb] at c7
  rw [hc] at c8
  subst hP
  clear h hb hc
  go_enter Tryz.func40, Tryz.ntmps40
  go_wp2_with fail
  go_ret2
  exact ⟨rfl, rfl⟩
end Go.Proofs.YtdpkgjahcapleaaGreat
