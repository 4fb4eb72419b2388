/- ShX: a part of its proof (contracts of the functions that it reaches, and the plain mathematics behind them). -/
import Derived.Test.YtepgkimlmoikmaaShX41
import Derived.Test.YtepgkimlmoikmaaShX49
set_option linter.unusedVariables false
set_option linter.unusedSimpArgs false
set_option linter.unusedVariables false
set_option linter.unusedSimpArgs false
namespace Go.Proofs.Ytepgkimlmoikmaa
open Go.RowKit Go.Proofs.Ytepgkimlmoikmaa.Spec Go.Proofs.YtepgkimlmoikmaaW.PrintWords Go.Proofs.YtepgkimlmoikmaaW.PrintLast
open Go.Proofs.YtepgkimlmoikmaaW.PrintMore
attribute [local go_sem ↓] Go.wp_at_zero Go.wp_at_succ
attribute [local go_sem] max2_int min2_int max_two min_two
open Pk
theorem rep_cnt (m n c : Nat) (hc : c < m) (hn : 1 ≤ n) : symsL (cntN m (List.replicate n c)) = [c] := by
 have hmem : ∀ s, s ∈ symsL (cntN m (List.replicate n c)) ↔ s = c := fun s => by
  rw [symsL_mem]
  constructor
  ·rintro ⟨x, hx, hp⟩
   have hs : s < m := by
    have := (List.getElem?_eq_some_iff.1 hx).1
    rw [cntN_len] at this
    exact this
   rw [cntN_get _ hs, Option.some.injEq] at hx
   have hpos : 0 < (List.replicate n c).count s := by omega
   exact (List.mem_replicate.1 (List.count_pos_iff.1 hpos)).2
  ·rintro rfl
   refine ⟨_, cntN_get _ hc, ?_⟩
   rw [List.count_replicate_self]
   omega
 have hnd := symsL_nodup (cntN m (List.replicate n c))
 generalize symsL (cntN m (List.replicate n c)) = L at *
 match L, hmem, hnd with
 | [], h, _ => exact absurd ((h c).2 rfl) List.not_mem_nil
 | [x], h, _ => rw [(h x).1 (List.mem_cons_self ..)]
 | x :: y :: r, h, nd =>
  have h1 := (h x).1 (List.mem_cons_self ..)
  have h2 := (h y).1 (List.mem_cons_of_mem _ (List.mem_cons_self ..))
  have := (List.nodup_cons.1 nd).1
  rw [h1, h2] at this
  exact absurd (List.mem_cons_self ..) this
theorem rep_lens (m n c : Nat) (hc : c < m) (hn : 1 ≤ n) : lensC m (List.replicate n c) = (List.replicate m (0 : Int)).set c 1 := by
 have hs := rep_cnt m n c hc hn
 have hf : (firstL (cntN m (List.replicate n c))).length = 1 := by rw [← symsL_len, hs]; rfl
 obtain ⟨s, h1, h2, h3⟩ := lens_alone _ hf
 rw [hs, List.cons.injEq] at h2
 obtain rfl := h2.1
 apply List.ext_getElem?
 intro i
 rw [List.getElem?_set, List.length_replicate, List.getElem?_replicate]
 by_cases hi : i < m
 ·rw [show (lensC m (List.replicate n c))[i]? = some ((lenOf 15 (cntN m (List.replicate n c)) i : Nat) : Int) from lensL_get 15 _ (by rw [cntN_len]; exact hi), h3]
  by_cases e : c = i
  ·subst e; rw [if_pos rfl, if_pos rfl, if_pos hi]; rfl
  ·rw [if_neg (fun h => e h.symm), if_neg e, if_pos hi]; rfl
 ·have hl : (lensC m (List.replicate n c)).length = m := by rw [show (lensC m (List.replicate n c)).length = _ from lensL_len 15 _, cntN_len]
  rw [List.getElem?_eq_none (by omega), if_neg hi, if_neg (by omega)]
theorem cnt_zero (n : Nat) (x : Int) (hx : x ≠ 0) : cnt (List.replicate n (0 : Int)) x = 0 := by
 unfold cnt
 rw [List.countP_eq_zero]
 intro y hy
 have := (List.mem_replicate.1 hy).2
 subst this
 simpa using fun e => hx e.symm
theorem rep_code (m n c : Nat) (hc : c < m) : codeB ((List.replicate m (0 : Int)).set c 1) c = [0] := by
 have hg : ((List.replicate m (0 : Int)).set c 1)[c]? = some ((1 : Nat) : Int) := by rw [List.getElem?_set, if_pos rfl, if_pos (by rw [List.length_replicate]; exact hc)]; rfl
 have h1 := cod_here hg (Nat.le_refl _) (by decide)
 have ht : ((List.replicate m (0 : Int)).set c 1).take c = List.replicate c 0 := by
  rw [List.take_set_of_le (Nat.le_refl _), List.take_replicate, Nat.min_eq_left (Nat.le_of_lt hc)]
 rw [ht, cnt_zero c _ (by decide)] at h1
 unfold codeB codN
 rw [h1, List.getD_eq_getElem?_getD, hg]
 show bitsOf (2 * 0 + 0) 1 = [0]
 rfl
theorem codes_rep (L : List Int) (c : Nat) (h : codeB L c = [0]) : ∀ n, codesB L (List.replicate n c) = List.replicate n 0
 | 0 => rfl
 | n + 1 => by
  rw [List.replicate_succ, List.replicate_succ, ← codes_rep L c h n]
  show List.flatMap (codeB L) (c :: List.replicate n c) = _
  rw [List.flatMap_cons, h]
  rfl
theorem bytes_rep (n : Nat) : bytesB (List.replicate n 0) = List.replicate ((n + 7) / 8) 0 := by
 have hb : ∀ i, bitG (List.replicate n 0) i = 0 := fun i => by
  unfold bitG
  rw [List.getD_eq_getElem?_getD, List.getElem?_replicate]
  split <;> rfl
 unfold bytesB
 rw [List.length_replicate]
 apply List.ext_getElem?
 intro i
 rw [List.getElem?_map, List.getElem?_replicate]
 by_cases hi : i < (n + 7) / 8
 ·rw [List.getElem?_range hi, if_pos hi]
  show some (byteB _ i) = some 0
  unfold byteB
  simp only [hb]
 ·rw [List.getElem?_eq_none (by rw [List.length_range]; omega), if_neg hi]
  rfl
theorem pay_rep (n c : Nat) (hc : c < 256) (hn : 1 ≤ n) : payC 256 (List.replicate n c) = strOfNums (TabMath.enc 0 ((List.replicate 256 (0 : Int)).set c 1)) ++ str ((List.replicate ((n + 7) / 8) 0).map UInt8.ofNat) := by
 unfold payC
 rw [rep_lens 256 n c hc hn]
 unfold bytC
 rw [codes_rep _ c (rep_code 256 n c hc), bytes_rep]
theorem tok_rep (n c : Nat) : (List.replicate n (c : Int)).map Int.toNat = List.replicate n c := by rw [List.map_replicate, Int.toNat_natCast]
theorem u8_range {c : Int} (h : (Lit.int .u8 c).wf = true) : 0 ≤ c ∧ c < 256 := by
 simp only [Lit.wf, Bool.and_eq_true, decide_eq_true_eq] at h
 have h1 : IntKind.u8.min = 0 := by rfl
 have h2 : IntKind.u8.max = 255 := by rfl
 omega
end Go.Proofs.Ytepgkimlmoikmaa
set_option linter.unusedVariables false
set_option linter.unusedSimpArgs false
namespace Go.Proofs.Ytepgkimlmoikmaa
open Go.RowKit Go.Proofs.Ytepgkimlmoikmaa.Spec Go.Proofs.YtepgkimlmoikmaaW.PrintWords Go.Proofs.YtepgkimlmoikmaaW.PrintLast
open Go.Proofs.YtepgkimlmoikmaaW.PrintMore
attribute [local go_sem ↓] Go.wp_at_zero Go.wp_at_succ
attribute [local go_sem] max2_int min2_int max_two min_two
theorem make_b (m : Nat) (h : m ≤ 100000) : ∀ W : World, (Instr.makeSlice 42 (.int .i64 (m : Int)) (.int .i64 (m : Int))).run Try.prog W = .ok (.slice (some ⟨W.heap.size, 0, none⟩) m m) (W.alloc (.cells (Array.replicate m (Value.int .u8 0)) 5)) := by
 intro W
 obtain ⟨i0, hi, hzz⟩ := Option.map_eq_some_iff.1 Leaf.info5
 simp only [Prod.mk.injEq] at hzz
 obtain ⟨hz0, hz1, hz2⟩ := hzz
 have hr := run_make (P := Try.prog) W 42 5 i0 _ Try.underlying42 hi hz0 .i64 .i64 (m : Int) (m : Int) (by omega) (by omega) (by rw [hz2]; omega) (by omega)
 rw [hr]
 have he : madeCells (Value.int .u8 0).cells ((m : Int).toNat * i0.size) = Array.replicate m (Value.int .u8 0) := by
  rw [hz1, Int.toNat_natCast]
  apply Array.ext'
  apply List.ext_getElem
  ·simp [madeCells]
  ·intro i h1 h2
   simp [madeCells, Value.cells, Nat.mod_one]
 rw [he, Int.toNat_natCast]
theorem str_made (W : World) (m : Nat) (hm : m ≤ 100000) : (convert 42 9 (.slice (some ⟨W.heap.size, 0, none⟩) m m)).run Try.prog (W.alloc (.cells (Array.replicate m (Value.int .u8 0)) 5)) = .ok (.string (str ((List.replicate m 0).map UInt8.ofNat))) (W.alloc (.cells (Array.replicate m (Value.int .u8 0)) 5)) := by
 have h := string_of_reads (P := Try.prog) (w := W.alloc (.cells (Array.replicate m (Value.int .u8 0)) 5)) (A := some ⟨W.heap.size, 0, none⟩) (n := m) (c := m) (xs := List.replicate m 0) Try.underlying42 Try.underlying5 Try.underlying9 (by
  refine ⟨List.length_replicate .., by omega, fun _ => ⟨_, rfl, fun j hj => ?_⟩⟩
  rw [Lib.add_plain, Nat.zero_add]
  refine (blk_cell (blk_new W _) j).trans ?_
  rw [Array.getElem?_replicate, if_pos hj, List.getD_eq_getElem?_getD, List.getElem?_replicate, if_pos hj]
  rfl)
 have e : strOfNums (List.replicate m 0) = str ((List.replicate m 0).map UInt8.ofNat) := by
  unfold strOfNums str
  rw [List.map_replicate, List.map_replicate]
  rfl
 rw [h, e]
def fillL (n : Nat) (c : Int) (j : Nat) : List Int := List.replicate j c ++ List.replicate (n - j) 0
theorem fill_set (n : Nat) (c : Int) {j : Nat} (h : j < n) : (fillL n c j).set j c = fillL n c (j + 1) := by
 unfold fillL
 rw [List.set_append_right _ _ (by rw [List.length_replicate]; exact Nat.le_refl _), List.length_replicate, Nat.sub_self, show n - j = (n - (j + 1)) + 1 by omega, List.replicate_succ, List.set_cons_zero, List.replicate_succ', List.append_assoc]
 rfl
theorem fill_get (n : Nat) (c : Int) {j : Nat} (h : j < n) : (fillL n c j)[j]? = some 0 := by
 unfold fillL
 rw [List.getElem?_append_right (by rw [List.length_replicate]; exact Nat.le_refl _), List.length_replicate, Nat.sub_self, List.getElem?_replicate, if_pos (by omega)]
theorem wrA' (a n : Nat) (h : a + n ≤ 1000000000) : wrap64 ((a : Int) + (n : Int)) = ((a + n : Nat) : Int) := by rw [Bridge.wr (by omega) (by omega)]; omega
set_option maxHeartbeats 2000000 in
set_option maxRecDepth 100000 in
theorem short_walk (n c : Nat) (h1 : 1 ≤ n) (h2 : n ≤ 400) (hc : c < 256) (w : World) : Calls Try.prog 5 #[.int .i64 (n : Int), .int .u8 (c : Int)] w fun e w' => e = .returned (.bool true) ∧ Below w.heap.size w w' := by
 have HAL := Aside0.mk (fun W => alive22 W)
 have mk : ∀ W : World, (Instr.makeSlice 25 (.int .i64 (n : Int)) (.int .i64 (n : Int))).run Try.prog W = .ok (.slice (some ⟨W.heap.size, 0, none⟩) n n) (W.alloc (.cells (Array.replicate n (Value.int .i64 0)) 3)) := fun W => by have h := make_i n (by omega) W; rw [List.map_replicate, List.toArray_replicate] at h; exact h
 obtain ⟨NN, hNN⟩ : ∃ NN : Nat, NN = 256 := ⟨256, rfl⟩
 have mk2 : ∀ W : World, (Instr.makeSlice 25 (.int .i64 256) (.int .i64 256)).run Try.prog W = .ok (.slice (some ⟨W.heap.size, 0, none⟩) 256 256) (W.alloc (.cells (Array.replicate NN (Value.int .i64 0)) 3)) := fun W => by have h := make_i 256 (by decide) W; rw [List.map_replicate, List.toArray_replicate] at h; rw [hNN]; exact h
 have mk3 := make_b ((n + 7) / 8) (by omega)
 simp only [show (((n + 7) / 8 : Nat) : Int) = ((n : Int) + 7) / 8 by omega] at mk3
 have HL : Aside0 (∀ (W : World) (g cp : Nat), RowI W g (List.replicate n (c : Int)) → n ≤ cp → Calls Try.prog 13 #[.pointer none, .int .i64 1, .slice (some ⟨g, 0, none⟩) n cp] W fun e w' => e = .returned (.tuple #[.string (payC 256 (List.replicate n c)), .int .i64 0]) ∧ Below W.heap.size W w') := ⟨fun W g cp h hcp => by
  have h := lay_any (q := 1) (c := cp) (.inr rfl) (List.replicate n (c : Int)) (DictN.nil W) (by decide) (fun s hs => by cases hs) (h.ints (by rw [List.length_replicate]; omega)) (by rw [List.length_replicate]; exact hcp) (by rw [List.length_replicate]; omega) (by intro e; have := congrArg List.length e; rw [List.length_replicate, List.length_nil] at this; omega) (fun t ht => by
   rw [(List.mem_replicate.1 ht).2]
   exact ⟨by omega, by show (c : Int) < 256 + ((0 : Nat) : Int); omega⟩)
  rw [List.length_replicate] at h
  unfold layR at h
  rw [if_neg (by decide), tok_rep] at h
  exact h⟩
 rw [pay_rep n c hc h1] at HL
 have h6 : TabMath.AllSixt ((List.replicate 256 (0 : Int)).set c 1) := fun x hx => by
  rcases List.mem_or_eq_of_mem_set hx with h | h
  ·rw [(List.mem_replicate.1 h).2]; exact ⟨by decide, by decide⟩
  ·rw [h]; exact ⟨by decide, by decide⟩
 have HTB : Aside0 (∀ (W : World) (g : Nat), RowI W g ((List.replicate 256 (0 : Int)).set c 1) → Calls Try.prog 14 #[.slice (some ⟨g, 0, none⟩) 256 256] W fun e w' => e = .returned (.tuple #[.string (strOfNums (TabMath.enc 0 ((List.replicate 256 (0 : Int)).set c 1))), .bool true]) ∧ Below W.heap.size W w') := ⟨fun W g h => by
  have he := TabB.rtab_ev ((List.replicate 256 (0 : Int)).set c 1)
  unfold TabB.putS at he
  have hl : ((List.replicate 256 (0 : Int)).set c 1).length = 256 := by rw [List.length_set, List.length_replicate]
  rw [if_pos ⟨by omega, h6⟩] at he
  obtain ⟨k, hk⟩ := he.rounds
  have := Leaf.lexiphaneref1_Tab.calls k (some ⟨g, 0, none⟩) 256 _ _ _ W (h.ints (by omega)) (by omega) hk
  rw [hl] at this
  exact this⟩
 have hz1 := strOfNums_size (TabMath.enc 0 ((List.replicate 256 (0 : Int)).set c 1))
 have hz2 : (TabMath.enc 0 ((List.replicate 256 (0 : Int)).set c 1)).length ≤ 256 := by
  have hl : ((List.replicate 256 (0 : Int)).set c 1).length = 256 := by rw [List.length_set, List.length_replicate]
  cases hx : (List.replicate 256 (0 : Int)).set c 1 with
  | nil => exact Nat.zero_le _
  | cons x t =>
   have := (TabMath.enc_sizes t 0 x (by omega)).1
   rw [hx, List.length_cons] at hl
   omega
 have hz3 : (str ((List.replicate ((n + 7) / 8) 0).map UInt8.ofNat)).size ≤ 60 := by rw [← u_size, u_str, List.length_map, List.length_replicate]; omega
 have HSM := Aside0.mk (fun W => str_made W ((n + 7) / 8) (by omega))
 have HNE := Aside0.mk hNN
 clear hNN
 generalize strOfNums (TabMath.enc 0 ((List.replicate 256 (0 : Int)).set c 1)) = HD at *
 generalize str ((List.replicate ((n + 7) / 8) 0).map UInt8.ofNat) = ZZ at *
 have zn : (n : Int) ≤ 400 := by omega
 have zc : (c : Int) < 256 := by omega
 have v1 : decide ((n : Int) < 1) = false := decide_eq_false (by omega)
 have v2 : decide ((400 : Int) < (n : Int)) = false := decide_eq_false (by omega)
 have v3 : decide (400 < n) = false := decide_eq_false (by omega)
 have v4 : decide (n < 1) = false := decide_eq_false (by omega)
 have qc : wrap64 (c : Int) = (c : Int) := Bridge.wrN c (by omega)
 have qc2 : IntKind.i64.wrap (c : Int) = (c : Int) := IntWalk.i64_in _ (by omega)
 have HNN := Aside0.mk (show n ≤ 400 ∧ c < 256 ∧ 1 ≤ n by omega)
 have hu : ¬ 9223372036854775807 < HD.size + ZZ.size := by omega
 clear h1 h2 hc h6 hz1 hz2 hz3
 go_enter Try.func5, Try.ntmps5
 go_wp2_with fail
 refine (HAL.out _).mono ?_
 rintro e w1 ⟨rfl, hb1⟩
 have B1 := Aside0.mk hb1
 clear hb1
 go_wp2_with fail
 have R0 : Aside0 (RowI (w1.alloc (.cells (Array.replicate n (Value.int .i64 0)) 3)) w1.heap.size (fillL n (c : Int) 0)) := ⟨by unfold RowI fillL; rw [List.replicate_zero, List.nil_append, Nat.sub_zero, List.map_replicate, List.toArray_replicate]; exact blk_new _ _⟩
 have HB0 := Aside0.mk (below_alloc (Below.refl w1.heap.size w1) (.cells (Array.replicate n (Value.int .i64 0)) 3))
 go_loopw [27] (fun v27 wr => ∃ j : Nat, v27 = .int .i64 (j : Int) ∧ Aside0 (j ≤ n) ∧ Aside0 (RowI wr w1.heap.size (fillL n (c : Int) j)) ∧ Aside0 (Below w1.heap.size w1 wr)) (fun v27 _ => n - (intOf v27).toNat)
 case atStart => exact ⟨0, rfl, ⟨Nat.zero_le _⟩, R0, HB0⟩
 case round =>
  obtain ⟨j, rfl, HJ, HR, HB⟩ := hrel
  by_cases hjn : j < n
  ·have d1 : decide ((j : Int) < (n : Int)) = true := decide_eq_true (by omega)
   have d2 : decide (j < n) = true := decide_eq_true hjn
   have p1 : (0 : Int) ≤ (j : Int) := by omega
   have p2 : (j : Int) < (n : Int) := by omega
   have j1 := HR.out.get j 0 (fill_get n c hjn)
   have j2 := HR.out.fz j
   have HP := Aside0.mk (HR.out.put j (c : Int))
   rw [fill_set n (c : Int) hjn] at HP
   have HJN := Aside0.mk hjn
   have HPB := Aside0.mk (HB.out.setCell (show w1.heap.size ≤ (⟨w1.heap.size, j, none⟩ : Addr).block from Nat.le_refl _) (.int .i64 (c : Int)))
   clear hjn
   go_wp2_with fail
   go_roundw
   case rel => exact ⟨j + 1, rfl, ⟨HJN.out⟩, HP, HPB⟩
   case measure => have h1 := HJN.out; exact measI _ j h1
  ·have hje : j = n := by have := HJ.out; omega
   subst hje
   have d1 : decide ((j : Int) < (j : Int)) = false := decide_eq_false (by omega)
   have HRI : Aside0 (RowI wr w1.heap.size (List.replicate j (c : Int))) := ⟨by have h := HR.out; unfold fillL at h; rw [Nat.sub_self, List.replicate_zero, List.append_nil] at h; exact h⟩
   clear hjn
   go_wp2_with fail
   refine (HL.out _ _ _ HRI.out (Nat.le_refl _)).mono ?_
   rintro e w2 ⟨rfl, hb2⟩
   have B2 := Aside0.mk (below_step B1.out (below_step HB.out hb2))
   clear hb2
   have hr2 : RowI (w2.alloc (.cells (Array.replicate NN (Value.int .i64 0)) 3)) w2.heap.size (List.replicate NN (0 : Int)) := by unfold RowI; rw [List.map_replicate, List.toArray_replicate]; exact blk_new _ _
   have hcN : (List.replicate NN (0 : Int))[c]? = some 0 := by rw [List.getElem?_replicate, if_pos (by have := HNN.out; have := HNE.out; omega)]
   have k1 := hr2.get c 0 hcN
   have k2 := hr2.fz c
   have HP2 : Aside0 (RowI (w2.alloc (.cells ((Array.replicate NN (Value.int .i64 0)).setIfInBounds c (Value.int .i64 1)) 3)) w2.heap.size ((List.replicate 256 (0 : Int)).set c 1)) := ⟨by
    rw [← HNE.out]
    unfold RowI
    rw [List.map_set, List.map_replicate, ← List.setIfInBounds_toArray, List.toArray_replicate]
    exact blk_new _ _⟩
   have HPB := Aside0.mk (below_alloc (Below.refl w2.heap.size w2) (.cells ((Array.replicate NN (Value.int .i64 0)).setIfInBounds c (Value.int .i64 1)) 3))
   clear hr2 hcN
   go_wp2_with fail
   refine (HTB.out _ _ HP2.out).mono ?_
   rintro e w3 ⟨rfl, hb3⟩
   have B3 := Aside0.mk (below_step B2.out (below_step HPB.out hb3))
   clear hb3
   have hcv := HSM.out w3
   have q7 : wrap64 ((j : Int) + 7) = ((j + 7 : Nat) : Int) := wrA' j 7 (by have := HNN.out; omega)
   have q8 : IntKind.i64.wrap ((j : Int) + 7) = ((j + 7 : Nat) : Int) := (IntWalk.i64_in _ (by omega)).trans (by omega)
   have e9 : ((HD ++ ZZ).toList == (HD ++ ZZ).toList) = true := beq_self_eq_true _
   go_wp2_with fail
   go_ret
   exact ⟨rfl, below_alloc B3.out _⟩
theorem blockShort_law (n c : Int) (w : World) (hn : (Lit.int .i64 n).wf = true) (hc : (Lit.int .u8 c).wf = true) : Calls Try.prog 5 #[.int .i64 n, .int .u8 c] w fun e w' => e = .returned (.bool true) ∧ Below w.heap.size w w' := by
 obtain ⟨c1, c2⟩ := u8_range hc
 obtain ⟨cn, rfl⟩ := Int.eq_ofNat_of_zero_le c1
 have HAL := Aside0.mk (fun W => alive22 W)
 by_cases h1 : 1 ≤ n
 ·by_cases h2 : n ≤ 400
  ·obtain ⟨m, rfl⟩ := Int.eq_ofNat_of_zero_le (show 0 ≤ n by omega)
   exact short_walk m cn (by omega) (by omega) (by omega) w
  ·have v1 : decide (n < 1) = false := decide_eq_false (by omega)
   have v2 : decide (400 < n) = true := decide_eq_true (by omega)
   clear h1 h2 hn hc c1 c2
   go_enter Try.func5, Try.ntmps5
   go_wp2_with fail
   refine (HAL.out _).mono ?_
   rintro e w1 ⟨rfl, hb1⟩
   have B1 := Aside0.mk hb1
   clear hb1
   go_wp2_with fail
   go_ret
   exact ⟨rfl, B1.out⟩
 ·have v1 : decide (n < 1) = true := decide_eq_true (by omega)
  clear h1 hn hc c1 c2
  go_enter Try.func5, Try.ntmps5
  go_wp2_with fail
  refine (HAL.out _).mono ?_
  rintro e w1 ⟨rfl, hb1⟩
  have B1 := Aside0.mk hb1
  clear hb1
  go_wp2_with fail
  go_ret
  exact ⟨rfl, B1.out⟩
end Go.Proofs.Ytepgkimlmoikmaa
