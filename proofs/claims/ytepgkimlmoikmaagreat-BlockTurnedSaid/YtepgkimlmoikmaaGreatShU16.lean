/- ShU: a part of its proof (contracts of the functions that it reaches, and the plain mathematics behind them). -/
import Derived.Test.YtepgkimlmoikmaaGreatShU43
import Derived.Test.YtepgkimlmoikmaaGreatShU15
set_option linter.unusedVariables false
set_option linter.unusedSimpArgs false
set_option maxHeartbeats 2000000
set_option maxRecDepth 100000
set_option linter.unusedVariables false
set_option linter.unusedSimpArgs false
namespace Go.Proofs.YtepgkimlmoikmaaGreat
open Go.RowKit Go.Proofs.YtepgkimlmoikmaaGreat.Spec Go.Proofs.YtepgkimlmoikmaaGreatW.PrintWords Go.Proofs.YtepgkimlmoikmaaGreatW.PrintLast
open Go.Proofs.YtepgkimlmoikmaaGreatW.PrintMore
attribute [local go_sem ↓] Go.wp_at_zero Go.wp_at_succ
attribute [local go_sem] max2_int min2_int max_two min_two
abbrev IntsIn (w : World) (A : Option Addr) (l : List Int) : Prop := (Kd.int .i64).C w A l.length l
def In64 (t : Int) : Prop := -9223372036854775808 ≤ t ∧ t ≤ 9223372036854775807
theorem step1 (i : Nat) (h : i ≤ 1000000000) : wrap64 ((i : Int) + 1) = ((i + 1 : Nat) : Int) := by rw [Bridge.wr (by omega) (by omega)]; omega
theorem meas (n i : Nat) (h : i < n) (hn : i ≤ 1000000000) : n - (intOf (.int .i64 (wrap64 ((i : Int) + 1)))).toNat < n - (intOf (.int .i64 (i : Int))).toNat := by
 rw [step1 i hn]
 show n - (i + 1) < n - i
 omega
theorem right_any {w : World} {p : Value} {l : List ByteArray} (h : DictN w p l) (hl : ∀ s ∈ l, 1 ≤ s.size ∧ s.size ≤ 40) (t : Int) (ht : In64 t) : Calls Tryz.prog 98 #[p, .int .i64 t] w fun e w' => e = .returned (.bool (decide (Tok l t))) ∧ Below w.heap.size w w' := by
 have H := Aside0.mk h
 have HT := Aside0.mk ht
 have hd : decide (0 < ((word l t).size : Int)) = decide (Tok l t) := by
  rw [decide_eq_decide]
  by_cases g : Tok l t
  ·have := (word_size hl g).1
   exact ⟨fun _ => g, fun _ => by omega⟩
  ·rw [word_out g]; exact ⟨fun h => absurd h (by decide), fun h => absurd h g⟩
 have HD := Aside0.mk (show decide (0 < (word l t).size) = decide (Tok l t) by rw [← hd, decide_eq_decide]; omega)
 clear h ht
 have hlen : Calls Tryz.prog 146 #[p, .int .i64 t] w fun e w' => e = .returned (.int .i64 ((word l t).size : Int)) ∧ Below w.heap.size w w' := by
  clear hd
  go_enter Tryz.func146, Tryz.ntmps146
  go_wp2_with (go_at_call 185; refine (text_any H.out t HT.out.1 HT.out.2).mono ?_; rintro e w' ⟨rfl, hb⟩)
  go_ret
  exact ⟨rfl, hb⟩
 have HLEN := Aside0.mk hlen
 clear hlen
 go_enter Tryz.func98, Tryz.ntmps98
 go_wp2_with (go_at_call 146; refine HLEN.out.mono ?_; rintro e w' ⟨rfl, hb⟩)
 go_ret
 rw [← HD.out]
 exact ⟨rfl, hb⟩
theorem coded_zero (w : World) : Calls Tryz.prog 75 #[.int .i64 0] w fun e w' => e = .returned (.bool true) ∧ Below w.heap.size w w' := by
 go_enter Tryz.func75, Tryz.ntmps75
 go_wp2
 go_ret
 exact ⟨rfl, Below.refl _ _⟩
theorem num_size {n : Nat} (h : n < 4294967296) : (num n).length ≤ 5 := Bridge.num_len h
theorem nums2_size {l : List ByteArray} (hl : l.length ≤ 1000) (toks : List Int) (h : ∀ t ∈ toks, Tok l t) : (nums2 toks).length ≤ 5 * toks.length := by
 induction toks with
 | nil => exact Nat.le_refl 0
 | cons t r ih =>
  have h1 := h t (List.mem_cons_self ..)
  have h2 := ih fun q hq => h q (List.mem_cons_of_mem _ hq)
  unfold Tok at h1
  have h3 := num_size (n := t.toNat) (by omega)
  rw [nums2, List.length_append, List.length_cons]
  omega
theorem str_append (a b : List UInt8) : str a ++ str b = str (a ++ b) := by apply u_inj; rw [u_str]; simp [u, str]
theorem take_succ {l : List Int} {i : Nat} {t : Int} (h : l[i]? = some t) : l.take (i + 1) = l.take i ++ [t] := by rw [List.take_add_one, h]; rfl
theorem lay_nums {A : Option Addr} {c : Nat} {p : Value} {l : List ByteArray} (toks : List Int) {w : World} (hd : DictN w p l) (hl : l.length ≤ 1000) (hs : ∀ s ∈ l, 1 ≤ s.size ∧ s.size ≤ 40) (hr : IntsIn w A toks) (hc : toks.length ≤ c) (hn : toks.length ≤ 1000) (h0 : toks ≠ []) (ht : ∀ t ∈ toks, Tok l t) :
  Calls Tryz.prog 32 #[p, .int .i64 0, .slice A toks.length c] w fun e w' => e = .returned (.tuple #[.string (str (nums2 toks)), .int .i64 0]) ∧ Below w.heap.size w w' := by
 have HD := Aside0.mk hd
 have HR := Aside0.mk hr
 have HC := Aside0.mk hc
 have HN := Aside0.mk hn
 have HL := Aside0.mk hl
 have HS := Aside0.mk hs
 have HT := Aside0.mk ht
 have hpos : 0 < toks.length := List.length_pos_iff.2 h0
 have e0 : ((toks.length : Int) == (0 : Int)) = false := beq_eq_false_iff_ne.2 (by omega)
 have e0' : (toks.length == 0) = false := beq_eq_false_iff_ne.2 (by omega)
 have e0n : ¬ toks = [] := h0
 clear hd hr hc hn hl hs ht hpos h0
 go_enter Tryz.func32, Tryz.ntmps32
 go_wp2_with (go_at_call 75; refine (coded_zero _).mono ?_; rintro e w1 ⟨rfl, hb1⟩; have H1 := Aside0.mk hb1; clear hb1)
 go_loopw [25] (fun v25 wr => ∃ i : Nat, v25 = .int .i64 i ∧ Aside0 (i ≤ toks.length) ∧ Aside0 (Below w.heap.size w wr)) (fun v25 _ => toks.length - (intOf v25).toNat)
 case atStart => exact ⟨0, rfl, ⟨Nat.zero_le _⟩, H1⟩
 case round =>
  obtain ⟨i, rfl, HI, HB⟩ := hrel
  have hi := HI.out
  have hn := HN.out
  by_cases hlt : i < toks.length
  ·have d0 : decide ((i : Int) < (toks.length : Int)) = true := decide_eq_true (by omega)
   have d0' : decide (i < toks.length) = true := decide_eq_true hlt
   have p1 : (0 : Int) ≤ (i : Int) := by omega
   have p2 : (i : Int) < (toks.length : Int) := by omega
   have HLT := Aside0.mk hlt
   obtain ⟨t, hget⟩ : ∃ t, toks[i]? = some t := ⟨_, List.getElem?_eq_getElem hlt⟩
   obtain ⟨ad2, e2, hcell⟩ := Kd.at_int (Kd.C_below HR.out HB.out) (i : Int) p1 p2
   have hrd : rd toks (i : Int) = t := by unfold rd; rw [Int.toNat_natCast, List.getD_eq_getElem?_getD, hget]; rfl
   rw [hrd, Int.toNat_natCast] at hcell
   subst e2
   have HTK := Aside0.mk (HT.out t (List.mem_of_getElem? hget))
   have HDT := Aside0.mk (decide_eq_true HTK.out)
   have HIN : Aside0 (In64 t) := ⟨by have h := HTK.out; have := HL.out; unfold Tok at h; unfold In64; omega⟩
   clear hi hn hlt hget hrd
   go_wp2_with (go_at_call 98; refine (right_any (HD.out.below HB.out) HS.out t HIN.out).mono ?_; rw [HDT.out]; rintro e w2 ⟨rfl, hb2⟩; have HB2 := Aside0.mk (below_step HB.out hb2); clear hb2)
   go_roundw
   case rel =>
    have h1 := HLT.out
    have h2 := HN.out
    exact ⟨i + 1, by rw [step1 i (by omega)], ⟨by omega⟩, HB2⟩
   case measure => have h1 := HLT.out; have h2 := HN.out; exact meas _ i h1 (by omega)
  ·have d0 : decide ((i : Int) < (toks.length : Int)) = false := decide_eq_false (by omega)
   have d0' : decide (i < toks.length) = false := decide_eq_false hlt
   clear hi hn hlt
   go_wp2
   go_loopw [10, 41] (fun v10 v41 wr => ∃ i : Nat, v41 = .int .i64 i ∧ v10 = .string (str (nums2 (toks.take i))) ∧ Aside0 (i ≤ toks.length) ∧ Aside0 (Below w.heap.size w wr)) (fun _ v41 _ => toks.length - (intOf v41).toNat)
   case atStart => exact ⟨0, rfl, rfl, ⟨Nat.zero_le _⟩, HB⟩
   case round =>
    obtain ⟨i, rfl, rfl, HI2, HB2⟩ := hrel
    have hi := HI2.out
    have hn := HN.out
    by_cases hlt : i < toks.length
    ·have d1 : decide ((i : Int) < (toks.length : Int)) = true := decide_eq_true (by omega)
     have d1' : decide (i < toks.length) = true := decide_eq_true hlt
     have p1 : (0 : Int) ≤ (i : Int) := by omega
     have p2 : (i : Int) < (toks.length : Int) := by omega
     have HLT := Aside0.mk hlt
     obtain ⟨t, hget⟩ : ∃ t, toks[i]? = some t := ⟨_, List.getElem?_eq_getElem hlt⟩
     obtain ⟨ad2, e2, hcell⟩ := Kd.at_int (Kd.C_below HR.out HB2.out) (i : Int) p1 p2
     have hrd : rd toks (i : Int) = t := by unfold rd; rw [Int.toNat_natCast, List.getD_eq_getElem?_getD, hget]; rfl
     rw [hrd, Int.toNat_natCast] at hcell
     subst e2
     have htk := HT.out t (List.mem_of_getElem? hget)
     have hll := HL.out
     unfold Tok at htk
     obtain ⟨m, rfl⟩ : ∃ m : Nat, t = m := ⟨t.toNat, by omega⟩
     have HMB := Aside0.mk (show m < 4294967296 by omega)
     have hz := nums2_size HL.out (toks.take i) (fun q hq => HT.out q (List.mem_of_mem_take hq))
     have hz2 := num_size (n := m) (by omega)
     rw [List.length_take] at hz
     have q1 : ¬ 9223372036854775807 < (str (nums2 (toks.take i))).size + (str (num m)).size := by rw [← u_size, ← u_size, u_str, u_str]; omega
     have HTS := Aside0.mk (show nums2 (toks.take (i + 1)) = nums2 (toks.take i) ++ num m by rw [take_succ hget, nums2_append]; simp [nums2])
     clear hi hn hlt hget hrd htk hll hz hz2
     go_wp2_with (go_at_call 100; refine (vput_nat HMB.out _).mono ?_; rintro e w2 ⟨rfl, hb2⟩; have HB3 := Aside0.mk (below_step HB2.out hb2); clear hb2)
     go_roundw
     case rel =>
      have h1 := HLT.out
      have h2 := HN.out
      exact ⟨i + 1, by rw [step1 i (by omega)], by rw [HTS.out, str_append], ⟨by omega⟩, HB3⟩
     case measure => have h1 := HLT.out; have h2 := HN.out; exact meas _ i h1 (by omega)
    ·have d1 : decide ((i : Int) < (toks.length : Int)) = false := decide_eq_false (by omega)
     have d1' : decide (i < toks.length) = false := decide_eq_false hlt
     have HE := Aside0.mk (show toks.take i = toks from List.take_of_length_le (by omega))
     clear hi hn hlt
     go_wp2
     go_ret2
     rw [HE.out]
     exact ⟨rfl, HB2.out⟩
end Go.Proofs.YtepgkimlmoikmaaGreat
set_option linter.unusedVariables false
set_option linter.unusedSimpArgs false
namespace Go.Proofs.YtepgkimlmoikmaaGreat
open Go.RowKit Go.Proofs.YtepgkimlmoikmaaGreat.Spec Go.Proofs.YtepgkimlmoikmaaGreatW.PrintWords Go.Proofs.YtepgkimlmoikmaaGreatW.PrintLast
open Go.Proofs.YtepgkimlmoikmaaGreatW.PrintMore
attribute [local go_sem ↓] Go.wp_at_zero Go.wp_at_succ
attribute [local go_sem] max2_int min2_int max_two min_two
theorem of_one {A2 : Option Addr} {c2 : Nat} {p : Value} {l : List ByteArray} (most t : Int) {w : World} (hd : DictN w p l) (hs : ∀ s ∈ l, 1 ≤ s.size ∧ s.size ≤ 40) (hl : l.length ≤ 1000) (hr : IntsIn w A2 [t]) (hc : 1 ≤ c2) (ht : Tok l t) (hm : ((word l t).size : Int) ≤ most) (hM : most ≤ 100000) :
  Calls Tryz.prog 144 #[p, .int .i64 most, .slice A2 1 c2] w fun e w' => e = .returned (.tuple #[.string (word l t), .int .i64 0]) ∧ Below w.heap.size w w' := by
 have HD := Aside0.mk hd
 have HR := Aside0.mk hr
 have hw := word_size hs ht
 have HIN : Aside0 (In64 t) := ⟨by unfold Tok at ht; unfold In64; omega⟩
 have HZ := Aside0.mk (show 1 ≤ (word l t).size ∧ (word l t).size ≤ 40 ∧ ((word l t).size : Int) ≤ most ∧ most ≤ 100000 from ⟨hw.1, hw.2, hm, hM⟩)
 have HE : Aside0 ((word l t).toList = [] → False) := ⟨by intro h; rw [Lib.toList_data] at h; have h2 := congrArg List.length h; have h3 : (word l t).data.toList.length = (word l t).size := u_size (word l t); have h4 := hw.1; rw [h3] at h2; rw [List.length_nil] at h2; omega⟩
 have HX : Aside0 (strOfNums (bytesOf (word l t)) = word l t) := ⟨by
  apply u_inj
  show ((bytesOf (word l t)).map fun n => UInt8.ofNat n.toNat) = (word l t).data.toList
  unfold bytesOf
  rw [List.map_map]
  exact (List.map_congr_left fun b _ => by simp).trans (List.map_id _)⟩
 clear hd hs hl hr ht hm hM hw
 go_enter Tryz.func144, Tryz.ntmps144
 go_wp2_with fail
 go_loopw [8, 14] (fun v8 v14 wr => Aside0 (Below w.heap.size w wr) ∧ ((v14 = .int .i64 0 ∧ v8 = .slice none 0 0) ∨ (v14 = .int .i64 1 ∧ ∃ A c, v8 = .slice A (bytesOf (word l t)).length c ∧ Aside0 (wr.ownsRow w.heap.size 5 1 v8 (bytesOf (word l t)).length (nums .u8 (bytesOf (word l t))))))) (fun _ v14 _ => 1 - (intOf v14).toNat)
 case atStart => exact ⟨⟨by repeat (first | exact Below.refl _ _ | apply below_alloc | apply below_drew)⟩, .inl ⟨rfl, rfl⟩⟩
 case round =>
  obtain ⟨HB, ⟨rfl, rfl⟩ | ⟨rfl, A, c, rfl, HO⟩⟩ := hrel
  ·obtain ⟨ad2, e2, hcell⟩ := Kd.at_int (Kd.C_below HR.out HB.out) 0 (by decide) (show (0 : Int) < 1 by decide)
   have hrd : rd [t] (0 : Int) = t := rfl
   rw [hrd] at hcell
   have hcell' : wr.cell? ad2 = some (.int .i64 t) := hcell
   clear hcell
   subst e2
   have hz := HZ.out
   have n1 : ¬ (word l t).toList = [] := fun h => HE.out h
   have n2 : (word l t).toList.isEmpty = false := by rw [Bool.eq_false_iff]; intro h; exact n1 (List.isEmpty_iff.1 h)
   have n3 : ¬ most < 0 := by omega
   have n4 : decide (most < ((word l t).size : Int)) = false := decide_eq_false (by omega)
   have n5 : ¬ most < ((word l t).size : Int) := by omega
   have n6 : wrap64 most = most := Bridge.wr (by omega) (by omega)
   clear hz
   go_wp2_with fail
   refine (text_any (HD.out.below HB.out) t HIN.out.1 HIN.out.2).mono ?_
   rintro e w2 ⟨rfl, hb2⟩
   have HB2 := Aside0.mk (below_step HB.out hb2)
   clear hb2
   have hz := HZ.out
   go_wp2_with (at_builtin; refine print_append_str w.heap.size rfl (.tmp 33) (.tmp 34) 55 9 5 rfl Tryz.underlying55 Tryz.underlying9 Leaf.info5 (.slice none 0 0) [] (word l t) rfl rfl (own_nil _ _ _ _) HB2.out HB2.out.size (show 0 + (word l t).size ≤ 140737488355328 by omega) ?_; intro v1 w3 hrow hbelow hgrow; obtain ⟨A1, c1, rfl⟩ := own_slice hrow; have HROW := Aside0.mk hrow; have HB3 := Aside0.mk hbelow; clear hrow hbelow hgrow)
   go_roundw
   case rel => exact ⟨HB3, .inr ⟨rfl, A1, c1, rfl, HROW⟩⟩
   case measure => exact (by decide)
  ·have hcv := own_string (P := Tryz.prog) (src := 55) (dst := 9) (e := 5) Tryz.underlying55 Tryz.underlying5 Tryz.underlying9 HO.out
   rw [HX.out] at hcv
   go_wp2
   go_ret2
   exact ⟨rfl, HB.out⟩
end Go.Proofs.YtepgkimlmoikmaaGreat
set_option linter.unusedVariables false
set_option linter.unusedSimpArgs false
namespace Go.Proofs.YtepgkimlmoikmaaGreat
open Go.RowKit Go.Proofs.YtepgkimlmoikmaaGreat.Spec Go.Proofs.YtepgkimlmoikmaaGreatW.PrintWords Go.Proofs.YtepgkimlmoikmaaGreatW.PrintLast
open Go.Proofs.YtepgkimlmoikmaaGreatW.PrintMore
attribute [local go_sem ↓] Go.wp_at_zero Go.wp_at_succ
theorem u_cut (b : ByteArray) (i j : Nat) : u (b.extract i j) = ((u b).drop i).take (j - i) := by
 unfold u
 rw [ByteArray.data_extract, Array.toList_extract, List.extract_eq_take_drop]
structure SrcAt (w : World) (g : Nat) (s : ByteArray) : Prop where
 c0 : w.cell? ⟨g, 0, none⟩ = some (.string s)
 c1 : w.cell? ⟨g, 1, none⟩ = some (.pointer none)
 c3 : w.cell? ⟨g, 3, none⟩ = some (.int .i64 0)
 f0 : w.frozen? ⟨g, 0, none⟩ = false
 f3 : w.frozen? ⟨g, 3, none⟩ = false
theorem SrcAt.lt {w : World} {g : Nat} {s : ByteArray} (h : SrcAt w g s) : g < w.heap.size := World.block_lt_of_cell? w _ h.c0
theorem SrcAt.below {w w1 : World} {g : Nat} {s : ByteArray} (h : SrcAt w g s) (hb : Below w.heap.size w w1) : SrcAt w1 g s :=
 ⟨pw_cell_below hb h.c0, pw_cell_below hb h.c1, pw_cell_below hb h.c3, (hb.frozen (p := ⟨g, 0, none⟩) h.lt).trans h.f0, (hb.frozen (p := ⟨g, 3, none⟩) h.lt).trans h.f3⟩
theorem SrcAt.put {w : World} {g : Nat} {s : ByteArray} (h : SrcAt w g s) (s' : ByteArray) : SrcAt ((w.setCell ⟨g, 0, none⟩ (.string s')).setCell ⟨g, 3, none⟩ (.int .i64 0)) g s' := by
 have h30 : (⟨g, 3, none⟩ : Addr) ≠ ⟨g, 0, none⟩ := by simp
 have h31 : (⟨g, 3, none⟩ : Addr) ≠ ⟨g, 1, none⟩ := by simp
 have h01 : (⟨g, 0, none⟩ : Addr) ≠ ⟨g, 1, none⟩ := by simp
 have h03 : (⟨g, 0, none⟩ : Addr) ≠ ⟨g, 3, none⟩ := by simp
 refine ⟨?_, ?_, ?_, ?_, ?_⟩
 ·rw [World.cell?_setCell_other _ _ _ _ h30]; exact World.cell?_setCell_same _ _ _ h.c0
 ·rw [World.cell?_setCell_other _ _ _ _ h31, World.cell?_setCell_other _ _ _ _ h01]; exact h.c1
 ·exact World.cell?_setCell_same _ _ _ ((World.cell?_setCell_other _ _ _ _ h03).trans h.c3)
 ·rw [World.frozen?_setCell, World.frozen?_setCell]; exact h.f0
 ·rw [World.frozen?_setCell, World.frozen?_setCell]; exact h.f3
theorem open_zero (p : Value) (s : ByteArray) (w : World) : Calls Tryz.prog 142 #[p, .int .i64 0, .string s] w fun e w' => e = .returned (.tuple #[.pointer (some ⟨w.heap.size, 0, none⟩), .int .i64 0]) ∧ SrcAt w' w.heap.size s ∧ Below w.heap.size w w' := by
 go_enter Tryz.func142, Tryz.ntmps142
 go_wp2
 go_ret2
 have hh : (w.alloc (.cells #[.string s, .pointer none, .pointer none, .int .i64 0] 201)).heap[w.heap.size]? = some (.cells #[.string s, .pointer none, .pointer none, .int .i64 0] 201 (0, 0)) := heap_alloc_new _ _
 exact ⟨rfl, ⟨blk_cell hh 0, blk_cell hh 1, blk_cell hh 3, blk_frozen hh 0, blk_frozen hh 3⟩, (Below.refl _ _).alloc (Nat.le_refl _) _⟩
theorem over_any {w : World} {g : Nat} {s : ByteArray} (h : SrcAt w g s) : Calls Tryz.prog 145 #[.pointer (some ⟨g, 0, none⟩)] w fun e w' => e = .returned (.bool s.toList.isEmpty) ∧ w = w' := by
 have c0 := h.c0
 have c1 := h.c1
 clear h
 go_enter Tryz.func145, Tryz.ntmps145
 go_wp2
 go_ret
 exact ⟨rfl, rfl⟩
theorem next_num {w : World} {g n : Nat} {rest : List UInt8} (h : SrcAt w g (str (num n ++ rest))) (hn : n < 4294967296) (hr : rest.length ≤ 100000) : Calls Tryz.prog 143 #[.pointer (some ⟨g, 0, none⟩)] w fun e w' => e = .returned (.int .i64 n) ∧ SrcAt w' g (str rest) ∧ ∀ w0, w0.heap.size ≤ g → Below w0.heap.size w0 w → Below w0.heap.size w0 w' := by
 have H := Aside0.mk h
 have hlen := num_size hn
 have hsz : (str (num n ++ rest)).size = (num n).length + rest.length := by rw [← u_size, u_str, List.length_append]
 have hv := fun w => vget_calls (str (num n ++ rest)) (by omega) w
 rw [u_str, un_num0 hn] at hv
 have HV := Aside0.mk hv
 have HS : Aside0 ((str (num n ++ rest)).extract (num n).length (str (num n ++ rest)).size = str rest) := ⟨by
  apply u_inj
  rw [u_cut, List.take_of_length_le (by rw [List.length_drop, u_size]; omega), u_str, u_str, List.drop_left]⟩
 have HZ := Aside0.mk (show (num n).length ≤ (str (num n ++ rest)).size ∧ (str (num n ++ rest)).size ≤ 100005 by omega)
 generalize str (num n ++ rest) = s at *
 generalize (num n).length = m at *
 have z1 : ¬ s.size < m := by have := HZ.out; omega
 have z2 : m ≤ s.size := by have := HZ.out; omega
 have c0 := h.c0
 have c1 := h.c1
 clear h hv hsz
 go_enter Tryz.func143, Tryz.ntmps143
 go_wp2_with fail
 refine (HV.out _).mono ?_
 rintro e w2 ⟨rfl, hb2⟩
 have HB2 := Aside0.mk (drawn_below hb2)
 have h := H.out.below HB2.out
 have H2 := Aside0.mk h
 have c0 := h.c0
 have c1 := h.c1
 have c3 := h.c3
 have f0 := h.f0
 have f3 := h.f3
 clear h hb2
 go_wp2
 go_ret
 refine ⟨rfl, ?_, fun w0 hg hb => ((below_step hb HB2.out).setCell hg _).setCell hg _⟩
 rw [HS.out]
 exact H2.out.put _
end Go.Proofs.YtepgkimlmoikmaaGreat
