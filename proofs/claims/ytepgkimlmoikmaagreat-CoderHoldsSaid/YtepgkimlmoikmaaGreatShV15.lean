/- ShV: a part of its proof (contracts of the functions that it reaches, and the plain mathematics behind them). -/
import Derived.Test.YtepgkimlmoikmaaGreatShV37
import Derived.Test.YtepgkimlmoikmaaGreatShV13
set_option linter.unusedVariables false
set_option linter.unusedSimpArgs false
set_option maxHeartbeats 2000000
set_option maxRecDepth 100000
set_option linter.unusedVariables false
set_option linter.unusedSimpArgs false
namespace Go.Proofs.YtepgkimlmoikmaaGreat
open Go.RowKit Go.Proofs.YtepgkimlmoikmaaGreat.Spec Go.Proofs.YtepgkimlmoikmaaGreatW.PrintWords Go.Proofs.YtepgkimlmoikmaaGreatW.PrintLast
open Go.Proofs.YtepgkimlmoikmaaGreatW.PrintMore
attribute [local go_sem ↓] Go.wp_at_zero Go.wp_at_succ
attribute [local go_sem] max2_int min2_int max_two min_two
abbrev IntsIn (w : World) (A : Option Addr) (l : List Int) : Prop := (Kd.int .i64).C w A l.length l
def In64 (t : Int) : Prop := -9223372036854775808 ≤ t ∧ t ≤ 9223372036854775807
theorem step1 (i : Nat) (h : i ≤ 1000000000) : wrap64 ((i : Int) + 1) = ((i + 1 : Nat) : Int) := by rw [Bridge.wr (by omega) (by omega)]; omega
theorem meas (n i : Nat) (h : i < n) (hn : i ≤ 1000000000) : n - (intOf (.int .i64 (wrap64 ((i : Int) + 1)))).toNat < n - (intOf (.int .i64 (i : Int))).toNat := by
 rw [step1 i hn]
 show n - (i + 1) < n - i
 omega
theorem right_any {w : World} {p : Value} {l : List ByteArray} (h : DictN w p l) (hl : ∀ s ∈ l, 1 ≤ s.size ∧ s.size ≤ 40) (t : Int) (ht : In64 t) : Calls Tryz.prog 98 #[p, .int .i64 t] w fun e w' => e = .returned (.bool (decide (Tok l t))) ∧ Below w.heap.size w w' := by
 have H := Aside0.mk h
 have HT := Aside0.mk ht
 have hd : decide (0 < ((word l t).size : Int)) = decide (Tok l t) := by
  rw [decide_eq_decide]
  by_cases g : Tok l t
  ·have := (word_size hl g).1
   exact ⟨fun _ => g, fun _ => by omega⟩
  ·rw [word_out g]; exact ⟨fun h => absurd h (by decide), fun h => absurd h g⟩
 have HD := Aside0.mk (show decide (0 < (word l t).size) = decide (Tok l t) by rw [← hd, decide_eq_decide]; omega)
 clear h ht
 have hlen : Calls Tryz.prog 146 #[p, .int .i64 t] w fun e w' => e = .returned (.int .i64 ((word l t).size : Int)) ∧ Below w.heap.size w w' := by
  clear hd
  go_enter Tryz.func146, Tryz.ntmps146
  go_wp2_with (go_at_call 185; refine (text_any H.out t HT.out.1 HT.out.2).mono ?_; rintro e w' ⟨rfl, hb⟩)
  go_ret
  exact ⟨rfl, hb⟩
 have HLEN := Aside0.mk hlen
 clear hlen
 go_enter Tryz.func98, Tryz.ntmps98
 go_wp2_with (go_at_call 146; refine HLEN.out.mono ?_; rintro e w' ⟨rfl, hb⟩)
 go_ret
 rw [← HD.out]
 exact ⟨rfl, hb⟩
theorem coded_zero (w : World) : Calls Tryz.prog 75 #[.int .i64 0] w fun e w' => e = .returned (.bool true) ∧ Below w.heap.size w w' := by
 go_enter Tryz.func75, Tryz.ntmps75
 go_wp2
 go_ret
 exact ⟨rfl, Below.refl _ _⟩
theorem num_size {n : Nat} (h : n < 4294967296) : (num n).length ≤ 5 := Bridge.num_len h
theorem nums2_size {l : List ByteArray} (hl : l.length ≤ 1000) (toks : List Int) (h : ∀ t ∈ toks, Tok l t) : (nums2 toks).length ≤ 5 * toks.length := by
 induction toks with
 | nil => exact Nat.le_refl 0
 | cons t r ih =>
  have h1 := h t (List.mem_cons_self ..)
  have h2 := ih fun q hq => h q (List.mem_cons_of_mem _ hq)
  unfold Tok at h1
  have h3 := num_size (n := t.toNat) (by omega)
  rw [nums2, List.length_append, List.length_cons]
  omega
theorem str_append (a b : List UInt8) : str a ++ str b = str (a ++ b) := by apply u_inj; rw [u_str]; simp [u, str]
theorem take_succ {l : List Int} {i : Nat} {t : Int} (h : l[i]? = some t) : l.take (i + 1) = l.take i ++ [t] := by rw [List.take_add_one, h]; rfl
theorem lay_nums {A : Option Addr} {c : Nat} {p : Value} {l : List ByteArray} (toks : List Int) {w : World} (hd : DictN w p l) (hl : l.length ≤ 1000) (hs : ∀ s ∈ l, 1 ≤ s.size ∧ s.size ≤ 40) (hr : IntsIn w A toks) (hc : toks.length ≤ c) (hn : toks.length ≤ 1000) (h0 : toks ≠ []) (ht : ∀ t ∈ toks, Tok l t) :
  Calls Tryz.prog 32 #[p, .int .i64 0, .slice A toks.length c] w fun e w' => e = .returned (.tuple #[.string (str (nums2 toks)), .int .i64 0]) ∧ Below w.heap.size w w' := by
 have HD := Aside0.mk hd
 have HR := Aside0.mk hr
 have HC := Aside0.mk hc
 have HN := Aside0.mk hn
 have HL := Aside0.mk hl
 have HS := Aside0.mk hs
 have HT := Aside0.mk ht
 have hpos : 0 < toks.length := List.length_pos_iff.2 h0
 have e0 : ((toks.length : Int) == (0 : Int)) = false := beq_eq_false_iff_ne.2 (by omega)
 have e0' : (toks.length == 0) = false := beq_eq_false_iff_ne.2 (by omega)
 have e0n : ¬ toks = [] := h0
 clear hd hr hc hn hl hs ht hpos h0
 go_enter Tryz.func32, Tryz.ntmps32
 go_wp2_with (go_at_call 75; refine (coded_zero _).mono ?_; rintro e w1 ⟨rfl, hb1⟩; have H1 := Aside0.mk hb1; clear hb1)
 go_loopw [25] (fun v25 wr => ∃ i : Nat, v25 = .int .i64 i ∧ Aside0 (i ≤ toks.length) ∧ Aside0 (Below w.heap.size w wr)) (fun v25 _ => toks.length - (intOf v25).toNat)
 case atStart => exact ⟨0, rfl, ⟨Nat.zero_le _⟩, H1⟩
 case round =>
  obtain ⟨i, rfl, HI, HB⟩ := hrel
  have hi := HI.out
  have hn := HN.out
  by_cases hlt : i < toks.length
  ·have d0 : decide ((i : Int) < (toks.length : Int)) = true := decide_eq_true (by omega)
   have d0' : decide (i < toks.length) = true := decide_eq_true hlt
   have p1 : (0 : Int) ≤ (i : Int) := by omega
   have p2 : (i : Int) < (toks.length : Int) := by omega
   have HLT := Aside0.mk hlt
   obtain ⟨t, hget⟩ : ∃ t, toks[i]? = some t := ⟨_, List.getElem?_eq_getElem hlt⟩
   obtain ⟨ad2, e2, hcell⟩ := Kd.at_int (Kd.C_below HR.out HB.out) (i : Int) p1 p2
   have hrd : rd toks (i : Int) = t := by unfold rd; rw [Int.toNat_natCast, List.getD_eq_getElem?_getD, hget]; rfl
   rw [hrd, Int.toNat_natCast] at hcell
   subst e2
   have HTK := Aside0.mk (HT.out t (List.mem_of_getElem? hget))
   have HDT := Aside0.mk (decide_eq_true HTK.out)
   have HIN : Aside0 (In64 t) := ⟨by have h := HTK.out; have := HL.out; unfold Tok at h; unfold In64; omega⟩
   clear hi hn hlt hget hrd
   go_wp2_with (go_at_call 98; refine (right_any (HD.out.below HB.out) HS.out t HIN.out).mono ?_; rw [HDT.out]; rintro e w2 ⟨rfl, hb2⟩; have HB2 := Aside0.mk (below_step HB.out hb2); clear hb2)
   go_roundw
   case rel =>
    have h1 := HLT.out
    have h2 := HN.out
    exact ⟨i + 1, by rw [step1 i (by omega)], ⟨by omega⟩, HB2⟩
   case measure => have h1 := HLT.out; have h2 := HN.out; exact meas _ i h1 (by omega)
  ·have d0 : decide ((i : Int) < (toks.length : Int)) = false := decide_eq_false (by omega)
   have d0' : decide (i < toks.length) = false := decide_eq_false hlt
   clear hi hn hlt
   go_wp2
   go_loopw [10, 41] (fun v10 v41 wr => ∃ i : Nat, v41 = .int .i64 i ∧ v10 = .string (str (nums2 (toks.take i))) ∧ Aside0 (i ≤ toks.length) ∧ Aside0 (Below w.heap.size w wr)) (fun _ v41 _ => toks.length - (intOf v41).toNat)
   case atStart => exact ⟨0, rfl, rfl, ⟨Nat.zero_le _⟩, HB⟩
   case round =>
    obtain ⟨i, rfl, rfl, HI2, HB2⟩ := hrel
    have hi := HI2.out
    have hn := HN.out
    by_cases hlt : i < toks.length
    ·have d1 : decide ((i : Int) < (toks.length : Int)) = true := decide_eq_true (by omega)
     have d1' : decide (i < toks.length) = true := decide_eq_true hlt
     have p1 : (0 : Int) ≤ (i : Int) := by omega
     have p2 : (i : Int) < (toks.length : Int) := by omega
     have HLT := Aside0.mk hlt
     obtain ⟨t, hget⟩ : ∃ t, toks[i]? = some t := ⟨_, List.getElem?_eq_getElem hlt⟩
     obtain ⟨ad2, e2, hcell⟩ := Kd.at_int (Kd.C_below HR.out HB2.out) (i : Int) p1 p2
     have hrd : rd toks (i : Int) = t := by unfold rd; rw [Int.toNat_natCast, List.getD_eq_getElem?_getD, hget]; rfl
     rw [hrd, Int.toNat_natCast] at hcell
     subst e2
     have htk := HT.out t (List.mem_of_getElem? hget)
     have hll := HL.out
     unfold Tok at htk
     obtain ⟨m, rfl⟩ : ∃ m : Nat, t = m := ⟨t.toNat, by omega⟩
     have HMB := Aside0.mk (show m < 4294967296 by omega)
     have hz := nums2_size HL.out (toks.take i) (fun q hq => HT.out q (List.mem_of_mem_take hq))
     have hz2 := num_size (n := m) (by omega)
     rw [List.length_take] at hz
     have q1 : ¬ 9223372036854775807 < (str (nums2 (toks.take i))).size + (str (num m)).size := by rw [← u_size, ← u_size, u_str, u_str]; omega
     have HTS := Aside0.mk (show nums2 (toks.take (i + 1)) = nums2 (toks.take i) ++ num m by rw [take_succ hget, nums2_append]; simp [nums2])
     clear hi hn hlt hget hrd htk hll hz hz2
     go_wp2_with (go_at_call 100; refine (vput_nat HMB.out _).mono ?_; rintro e w2 ⟨rfl, hb2⟩; have HB3 := Aside0.mk (below_step HB2.out hb2); clear hb2)
     go_roundw
     case rel =>
      have h1 := HLT.out
      have h2 := HN.out
      exact ⟨i + 1, by rw [step1 i (by omega)], by rw [HTS.out, str_append], ⟨by omega⟩, HB3⟩
     case measure => have h1 := HLT.out; have h2 := HN.out; exact meas _ i h1 (by omega)
    ·have d1 : decide ((i : Int) < (toks.length : Int)) = false := decide_eq_false (by omega)
     have d1' : decide (i < toks.length) = false := decide_eq_false hlt
     have HE := Aside0.mk (show toks.take i = toks from List.take_of_length_le (by omega))
     clear hi hn hlt
     go_wp2
     go_ret2
     rw [HE.out]
     exact ⟨rfl, HB2.out⟩
end Go.Proofs.YtepgkimlmoikmaaGreat
set_option linter.unusedVariables false
set_option linter.unusedSimpArgs false
namespace Go.Proofs.YtepgkimlmoikmaaGreat
open Go.RowKit Go.Proofs.YtepgkimlmoikmaaGreat.Spec Go.Proofs.YtepgkimlmoikmaaGreatW.PrintWords Go.Proofs.YtepgkimlmoikmaaGreatW.PrintLast
open Go.Proofs.YtepgkimlmoikmaaGreatW.PrintMore
attribute [local go_sem ↓] Go.wp_at_zero Go.wp_at_succ
attribute [local go_sem] max2_int min2_int max_two min_two
theorem of_one {A2 : Option Addr} {c2 : Nat} {p : Value} {l : List ByteArray} (most t : Int) {w : World} (hd : DictN w p l) (hs : ∀ s ∈ l, 1 ≤ s.size ∧ s.size ≤ 40) (hl : l.length ≤ 1000) (hr : IntsIn w A2 [t]) (hc : 1 ≤ c2) (ht : Tok l t) (hm : ((word l t).size : Int) ≤ most) (hM : most ≤ 100000) :
  Calls Tryz.prog 144 #[p, .int .i64 most, .slice A2 1 c2] w fun e w' => e = .returned (.tuple #[.string (word l t), .int .i64 0]) ∧ Below w.heap.size w w' := by
 have HD := Aside0.mk hd
 have HR := Aside0.mk hr
 have hw := word_size hs ht
 have HIN : Aside0 (In64 t) := ⟨by unfold Tok at ht; unfold In64; omega⟩
 have HZ := Aside0.mk (show 1 ≤ (word l t).size ∧ (word l t).size ≤ 40 ∧ ((word l t).size : Int) ≤ most ∧ most ≤ 100000 from ⟨hw.1, hw.2, hm, hM⟩)
 have HE : Aside0 ((word l t).toList = [] → False) := ⟨by intro h; rw [Lib.toList_data] at h; have h2 := congrArg List.length h; have h3 : (word l t).data.toList.length = (word l t).size := u_size (word l t); have h4 := hw.1; rw [h3] at h2; rw [List.length_nil] at h2; omega⟩
 have HX : Aside0 (strOfNums (bytesOf (word l t)) = word l t) := ⟨by
  apply u_inj
  show ((bytesOf (word l t)).map fun n => UInt8.ofNat n.toNat) = (word l t).data.toList
  unfold bytesOf
  rw [List.map_map]
  exact (List.map_congr_left fun b _ => by simp).trans (List.map_id _)⟩
 clear hd hs hl hr ht hm hM hw
 go_enter Tryz.func144, Tryz.ntmps144
 go_wp2_with fail
 go_loopw [8, 14] (fun v8 v14 wr => Aside0 (Below w.heap.size w wr) ∧ ((v14 = .int .i64 0 ∧ v8 = .slice none 0 0) ∨ (v14 = .int .i64 1 ∧ ∃ A c, v8 = .slice A (bytesOf (word l t)).length c ∧ Aside0 (wr.ownsRow w.heap.size 5 1 v8 (bytesOf (word l t)).length (nums .u8 (bytesOf (word l t))))))) (fun _ v14 _ => 1 - (intOf v14).toNat)
 case atStart => exact ⟨⟨by repeat (first | exact Below.refl _ _ | apply below_alloc | apply below_drew)⟩, .inl ⟨rfl, rfl⟩⟩
 case round =>
  obtain ⟨HB, ⟨rfl, rfl⟩ | ⟨rfl, A, c, rfl, HO⟩⟩ := hrel
  ·obtain ⟨ad2, e2, hcell⟩ := Kd.at_int (Kd.C_below HR.out HB.out) 0 (by decide) (show (0 : Int) < 1 by decide)
   have hrd : rd [t] (0 : Int) = t := rfl
   rw [hrd] at hcell
   have hcell' : wr.cell? ad2 = some (.int .i64 t) := hcell
   clear hcell
   subst e2
   have hz := HZ.out
   have n1 : ¬ (word l t).toList = [] := fun h => HE.out h
   have n2 : (word l t).toList.isEmpty = false := by rw [Bool.eq_false_iff]; intro h; exact n1 (List.isEmpty_iff.1 h)
   have n3 : ¬ most < 0 := by omega
   have n4 : decide (most < ((word l t).size : Int)) = false := decide_eq_false (by omega)
   have n5 : ¬ most < ((word l t).size : Int) := by omega
   have n6 : wrap64 most = most := Bridge.wr (by omega) (by omega)
   clear hz
   go_wp2_with fail
   refine (text_any (HD.out.below HB.out) t HIN.out.1 HIN.out.2).mono ?_
   rintro e w2 ⟨rfl, hb2⟩
   have HB2 := Aside0.mk (below_step HB.out hb2)
   clear hb2
   have hz := HZ.out
   go_wp2_with (at_builtin; refine print_append_str w.heap.size rfl (.tmp 33) (.tmp 34) 55 9 5 rfl Tryz.underlying55 Tryz.underlying9 Leaf.info5 (.slice none 0 0) [] (word l t) rfl rfl (own_nil _ _ _ _) HB2.out HB2.out.size (show 0 + (word l t).size ≤ 140737488355328 by omega) ?_; intro v1 w3 hrow hbelow hgrow; obtain ⟨A1, c1, rfl⟩ := own_slice hrow; have HROW := Aside0.mk hrow; have HB3 := Aside0.mk hbelow; clear hrow hbelow hgrow)
   go_roundw
   case rel => exact ⟨HB3, .inr ⟨rfl, A1, c1, rfl, HROW⟩⟩
   case measure => exact (by decide)
  ·have hcv := own_string (P := Tryz.prog) (src := 55) (dst := 9) (e := 5) Tryz.underlying55 Tryz.underlying5 Tryz.underlying9 HO.out
   rw [HX.out] at hcv
   go_wp2
   go_ret2
   exact ⟨rfl, HB.out⟩
end Go.Proofs.YtepgkimlmoikmaaGreat
set_option linter.unusedVariables false
set_option linter.unusedSimpArgs false
namespace Go.Proofs.YtepgkimlmoikmaaGreat
open Go.RowKit Go.Proofs.YtepgkimlmoikmaaGreat.Spec Go.Proofs.YtepgkimlmoikmaaGreatW.PrintWords Go.Proofs.YtepgkimlmoikmaaGreatW.PrintLast
open Go.Proofs.YtepgkimlmoikmaaGreatW.PrintMore
attribute [local go_sem ↓] Go.wp_at_zero Go.wp_at_succ
theorem u_cut (b : ByteArray) (i j : Nat) : u (b.extract i j) = ((u b).drop i).take (j - i) := by
 unfold u
 rw [ByteArray.data_extract, Array.toList_extract, List.extract_eq_take_drop]
structure SrcAt (w : World) (g : Nat) (s : ByteArray) : Prop where
 c0 : w.cell? ⟨g, 0, none⟩ = some (.string s)
 c1 : w.cell? ⟨g, 1, none⟩ = some (.pointer none)
 c3 : w.cell? ⟨g, 3, none⟩ = some (.int .i64 0)
 f0 : w.frozen? ⟨g, 0, none⟩ = false
 f3 : w.frozen? ⟨g, 3, none⟩ = false
theorem SrcAt.lt {w : World} {g : Nat} {s : ByteArray} (h : SrcAt w g s) : g < w.heap.size := World.block_lt_of_cell? w _ h.c0
theorem SrcAt.below {w w1 : World} {g : Nat} {s : ByteArray} (h : SrcAt w g s) (hb : Below w.heap.size w w1) : SrcAt w1 g s :=
 ⟨pw_cell_below hb h.c0, pw_cell_below hb h.c1, pw_cell_below hb h.c3, (hb.frozen (p := ⟨g, 0, none⟩) h.lt).trans h.f0, (hb.frozen (p := ⟨g, 3, none⟩) h.lt).trans h.f3⟩
theorem SrcAt.put {w : World} {g : Nat} {s : ByteArray} (h : SrcAt w g s) (s' : ByteArray) : SrcAt ((w.setCell ⟨g, 0, none⟩ (.string s')).setCell ⟨g, 3, none⟩ (.int .i64 0)) g s' := by
 have h30 : (⟨g, 3, none⟩ : Addr) ≠ ⟨g, 0, none⟩ := by simp
 have h31 : (⟨g, 3, none⟩ : Addr) ≠ ⟨g, 1, none⟩ := by simp
 have h01 : (⟨g, 0, none⟩ : Addr) ≠ ⟨g, 1, none⟩ := by simp
 have h03 : (⟨g, 0, none⟩ : Addr) ≠ ⟨g, 3, none⟩ := by simp
 refine ⟨?_, ?_, ?_, ?_, ?_⟩
 ·rw [World.cell?_setCell_other _ _ _ _ h30]; exact World.cell?_setCell_same _ _ _ h.c0
 ·rw [World.cell?_setCell_other _ _ _ _ h31, World.cell?_setCell_other _ _ _ _ h01]; exact h.c1
 ·exact World.cell?_setCell_same _ _ _ ((World.cell?_setCell_other _ _ _ _ h03).trans h.c3)
 ·rw [World.frozen?_setCell, World.frozen?_setCell]; exact h.f0
 ·rw [World.frozen?_setCell, World.frozen?_setCell]; exact h.f3
theorem open_zero (p : Value) (s : ByteArray) (w : World) : Calls Tryz.prog 142 #[p, .int .i64 0, .string s] w fun e w' => e = .returned (.tuple #[.pointer (some ⟨w.heap.size, 0, none⟩), .int .i64 0]) ∧ SrcAt w' w.heap.size s ∧ Below w.heap.size w w' := by
 go_enter Tryz.func142, Tryz.ntmps142
 go_wp2
 go_ret2
 have hh : (w.alloc (.cells #[.string s, .pointer none, .pointer none, .int .i64 0] 201)).heap[w.heap.size]? = some (.cells #[.string s, .pointer none, .pointer none, .int .i64 0] 201 (0, 0)) := heap_alloc_new _ _
 exact ⟨rfl, ⟨blk_cell hh 0, blk_cell hh 1, blk_cell hh 3, blk_frozen hh 0, blk_frozen hh 3⟩, (Below.refl _ _).alloc (Nat.le_refl _) _⟩
theorem over_any {w : World} {g : Nat} {s : ByteArray} (h : SrcAt w g s) : Calls Tryz.prog 145 #[.pointer (some ⟨g, 0, none⟩)] w fun e w' => e = .returned (.bool s.toList.isEmpty) ∧ w = w' := by
 have c0 := h.c0
 have c1 := h.c1
 clear h
 go_enter Tryz.func145, Tryz.ntmps145
 go_wp2
 go_ret
 exact ⟨rfl, rfl⟩
end Go.Proofs.YtepgkimlmoikmaaGreat
set_option linter.unusedVariables false
set_option linter.unusedSimpArgs false
namespace Go.Proofs.YtepgkimlmoikmaaGreat
open Go.RowKit Go.Proofs.YtepgkimlmoikmaaGreat.Spec Go.Proofs.YtepgkimlmoikmaaGreatW.PrintWords Go.Proofs.YtepgkimlmoikmaaGreatW.PrintLast
open Go.Proofs.YtepgkimlmoikmaaGreatW.PrintMore
attribute [local go_sem ↓] Go.wp_at_zero Go.wp_at_succ
theorem lit_ints (W : World) (t : Int) : IntsIn (W.alloc (.cells #[.int .i64 t] 3)) (some ⟨W.heap.size, 0, none⟩) [t] := by
 have h := own_lit W W.heap.size 3 .i64 [t] (Nat.le_refl _) (by simp)
 have h2 : (Kd.int .i64).R 3 (W.alloc (.cells #[.int .i64 t] 3)) W.heap.size (fun _ => True) (.slice (some ⟨W.heap.size, 0, none⟩) 1 1) [t] := Kd.R_of_own h (fun _ _ => trivial)
 obtain ⟨A, c, e, _, hC⟩ := Kd.R_reads h2
 injection e with e1
 subst e1
 exact hC
def roomOf (n : Nat) : Value → Nat
 | .string s => n - s.size
 | _ => 0
theorem cat_size {l : List ByteArray} (hs : ∀ s ∈ l, 1 ≤ s.size ∧ s.size ≤ 40) {r : List Int} (h : ∀ t ∈ r, Tok l t) : r.length ≤ (cat l r).size := by
 induction r with
 | nil => exact Nat.le_refl 0
 | cons t r ih =>
  have h1 := (word_size hs (h t (List.mem_cons_self ..))).1
  have h2 := ih fun q hq => h q (List.mem_cons_of_mem _ hq)
  rw [cat, ByteArray.size_append, List.length_cons]
  omega
end Go.Proofs.YtepgkimlmoikmaaGreat
set_option linter.unusedVariables false
set_option linter.unusedSimpArgs false
namespace Go.Proofs.YtepgkimlmoikmaaGreat
open Go.RowKit Go.Proofs.YtepgkimlmoikmaaGreat.Spec Go.Proofs.YtepgkimlmoikmaaGreatW.PrintWords Go.Proofs.YtepgkimlmoikmaaGreatW.PrintLast
open Go.Proofs.YtepgkimlmoikmaaGreatW.PrintMore
attribute [local go_sem ↓] Go.wp_at_zero Go.wp_at_succ
namespace Spec
def hp (b s : ByteArray) : Bool := decide ((u b).take s.size = u s)
def lng (tail : ByteArray) : Nat → Int × Nat → List ByteArray → Int × Nat
 | _, b, [] => b
 | k, b, s :: r => if b.2 < s.size ∧ hp tail s = true then lng tail (k + 1) ((k : Int), s.size) r else lng tail (k + 1) b r
end Spec
theorem hp_f (a s : ByteArray) : Leaf.strings_HasPrefix.f a s = some (hp a s) := by
 unfold Leaf.strings_HasPrefix.f Leaf.stringslite_HasPrefix.f hp
 have h1 := u_size a
 have h2 := u_size s
 by_cases h : s.size ≤ a.size
 ·rw [if_pos (by omega), if_pos (by omega), if_pos (by omega), Option.bind_some, Int.toNat_natCast]
  congr 1
  rw [Lib.toList_data, Lib.toList_data]
  show (u (a.extract 0 s.size) == u s) = _
  rw [u_cut, List.drop_zero, Nat.sub_zero]
  rw [Bool.eq_iff_iff, decide_eq_true_iff, beq_iff_eq]
 ·rw [if_neg (by omega), Option.bind_some]
  congr 1
  symm
  rw [decide_eq_false_iff_not]
  intro e
  have := congrArg List.length e
  rw [List.length_take] at this
  omega
theorem hp_calls (a s : ByteArray) (w : World) : Calls Tryz.prog 170 #[.string a, .string s] w fun e w' => e = .returned (.bool (hp a s)) ∧ Below w.heap.size w w' := by
 refine (Leaf.strings_HasPrefix.calls a s _ w (hp_f a s)).mono ?_
 rintro e w' ⟨rfl, hb⟩
 exact ⟨rfl, hb.below⟩
theorem lng_nil (t : ByteArray) (k : Nat) (b : Int × Nat) : lng t k b [] = b := rfl
theorem lng_cons (t : ByteArray) (k : Nat) (b : Int × Nat) (s : ByteArray) (r : List ByteArray) : lng t k b (s :: r) = if b.2 < s.size ∧ hp t s = true then lng t (k + 1) ((k : Int), s.size) r else lng t (k + 1) b r := rfl
theorem longest_any {p : Value} {l : List ByteArray} {w : World} (hd : DictN w p l) (hl : l.length ≤ 1000) (hs : ∀ s ∈ l, 1 ≤ s.size ∧ s.size ≤ 40) (b : ByteArray) (a : Nat) (ha : a < b.size) (hb : b.size ≤ 100000) :
  Calls Tryz.prog 168 #[p, .string b, .int .i64 a] w fun e w' => e = .returned (.tuple #[.int .i64 (lng (b.extract a b.size) 0 (-1, 0) l).1, .int .i64 (lng (b.extract a b.size) 0 (-1, 0) l).2]) ∧ Below w.heap.size w w' := by
 have HA := Aside0.mk (alln_any hd (by omega))
 have HL := Aside0.mk hl
 have HS := Aside0.mk hs
 have d1 : decide ((a : Int) < 0) = false := decide_eq_false (by omega)
 have d2 : decide ((b.size : Int) ≤ (a : Int)) = false := decide_eq_false (by omega)
 have d3 : decide (b.size ≤ a) = false := decide_eq_false (by omega)
 have z1 : ¬ b.size < a := by omega
 have z2 : a ≤ b.size := by omega
 clear hd hl hs ha hb
 go_enter Tryz.func168, Tryz.ntmps168
 go_wp2_with fail
 refine HA.out.mono ?_
 rintro e w1 ⟨v1, rfl, hrow, hb1⟩
 obtain ⟨A, c, rfl, hc, hC⟩ := Kd.R_reads hrow
 have HC := Aside0.mk hC
 have H1 := Aside0.mk hb1
 clear hrow hc hC hb1
 go_wp2_with fail
 go_loopw [8, 9, 23] (fun v8 v9 v23 wr => ∃ (i : Nat) (q : Int × Nat) (r : List ByteArray), v8 = .int .i64 q.1 ∧ v9 = .int .i64 q.2 ∧ v23 = .int .i64 i ∧ Aside0 (i ≤ l.length) ∧ Aside0 (l.drop i = r) ∧ Aside0 (lng (b.extract a b.size) i q r = lng (b.extract a b.size) 0 (-1, 0) l) ∧ Aside0 (Below w1.heap.size w1 wr)) (fun _ _ v23 _ => l.length - (intOf v23).toNat)
 case atStart => exact ⟨0, (-1, 0), l, rfl, rfl, rfl, ⟨Nat.zero_le _⟩, ⟨rfl⟩, ⟨rfl⟩, ⟨by repeat (first | exact Below.refl _ _ | apply below_alloc | apply below_drew)⟩⟩
 case round =>
  obtain ⟨i, ⟨q1, q2⟩, r, rfl, rfl, rfl, HI, HD, HM, HB⟩ := hrel
  have hi := HI.out
  have hn := HL.out
  cases r with
  | nil =>
   have hlen := congrArg List.length HD.out
   rw [List.length_drop, List.length_nil] at hlen
   have d0 : decide ((i : Int) < (l.length : Int)) = false := decide_eq_false (by omega)
   have d0' : decide (i < l.length) = false := decide_eq_false (by omega)
   clear hi hn hlen
   go_wp2
   go_ret2
   have hm := HM.out
   rw [lng_nil] at hm
   rw [← hm]
   exact ⟨rfl, below_step H1.out HB.out⟩
  | cons s r =>
   have hlen := congrArg List.length HD.out
   rw [List.length_drop, List.length_cons] at hlen
   have d0 : decide ((i : Int) < (l.length : Int)) = true := decide_eq_true (by omega)
   have d0' : decide (i < l.length) = true := decide_eq_true (by omega)
   have HLT := Aside0.mk (show i < l.length by omega)
   have p1 : (0 : Int) ≤ (i : Int) := by omega
   have p2 : (i : Int) < (l.length : Int) := by omega
   have hget : l[i]? = some s := by
    have := congrArg (fun q => q[0]?) HD.out
    simpa using this
   obtain ⟨ad2, e2, hcell⟩ := Kd.at_string (Kd.C_below HC.out HB.out) (i : Int) p1 p2
   have hrd : rdOf ByteArray.empty l (i : Int) = s := by unfold rdOf; rw [Int.toNat_natCast, List.getD_eq_getElem?_getD, hget]; rfl
   rw [hrd, Int.toNat_natCast] at hcell
   subst e2
   have hsz := HS.out s (List.mem_of_getElem? hget)
   have hm := HM.out
   rw [lng_cons] at hm
   have HD2 : Aside0 (l.drop (i + 1) = r) := ⟨by rw [← List.drop_drop, HD.out]; rfl⟩
   by_cases hq : q2 < s.size
   ·have d4 : decide ((q2 : Int) < (s.size : Int)) = true := decide_eq_true (by omega)
    have d4' : decide (q2 < s.size) = true := decide_eq_true hq
    cases hh : hp (b.extract a b.size) s with
    | false =>
     rw [if_neg (by rw [hh]; simp)] at hm
     have HMM := Aside0.mk hm
     have HH := Aside0.mk hh
     clear hi hn hlen hget hrd hm hq hh hsz
     go_wp2_with fail
     refine (hp_calls _ _ _).mono ?_
     rw [HH.out]
     rintro e w2 ⟨rfl, hb2⟩
     have HB2 := Aside0.mk (below_step HB.out hb2)
     clear hb2
     go_wp2_with fail
     go_roundw
     case rel =>
      have h1 := HLT.out
      have h2 := HL.out
      exact ⟨i + 1, (q1, q2), r, rfl, rfl, by rw [step1 i (by omega)], ⟨by omega⟩, HD2, HMM, HB2⟩
     case measure => have h1 := HLT.out; have h2 := HL.out; exact meas _ i h1 (by omega)
    | true =>
     rw [if_pos ⟨hq, hh⟩] at hm
     have HMM := Aside0.mk hm
     have HH := Aside0.mk hh
     clear hi hn hlen hget hrd hm hq hh hsz
     go_wp2_with fail
     refine (hp_calls _ _ _).mono ?_
     rw [HH.out]
     rintro e w2 ⟨rfl, hb2⟩
     have HB2 := Aside0.mk (below_step HB.out hb2)
     clear hb2
     go_wp2_with fail
     go_roundw
     case rel =>
      have h1 := HLT.out
      have h2 := HL.out
      exact ⟨i + 1, ((i : Int), s.size), r, rfl, rfl, by rw [step1 i (by omega)], ⟨by omega⟩, HD2, HMM, HB2⟩
     case measure => have h1 := HLT.out; have h2 := HL.out; exact meas _ i h1 (by omega)
   ·have d4 : decide ((q2 : Int) < (s.size : Int)) = false := decide_eq_false (by omega)
    have d4' : decide (q2 < s.size) = false := decide_eq_false hq
    rw [if_neg (fun h => hq h.1)] at hm
    have HMM := Aside0.mk hm
    clear hi hn hlen hget hrd hm hq hsz
    go_wp2_with fail
    go_roundw
    case rel =>
     have h1 := HLT.out
     have h2 := HL.out
     exact ⟨i + 1, (q1, q2), r, rfl, rfl, by rw [step1 i (by omega)], ⟨by omega⟩, HD2, HMM, HB⟩
    case measure => have h1 := HLT.out; have h2 := HL.out; exact meas _ i h1 (by omega)
end Go.Proofs.YtepgkimlmoikmaaGreat
