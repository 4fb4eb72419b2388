/- ShX: a part of its proof (contracts of the functions that it reaches, and the plain mathematics behind them). -/
import Derived.Test.YtepgkimlmoikmaaGreatShX51
set_option linter.unusedVariables false
set_option linter.unusedSimpArgs false
set_option linter.unusedVariables false
set_option linter.unusedSimpArgs false
namespace Go.Proofs.YtepgkimlmoikmaaGreat
open Go.RowKit Go.Proofs.YtepgkimlmoikmaaGreat.Spec Go.Proofs.YtepgkimlmoikmaaGreatW.PrintWords Go.Proofs.YtepgkimlmoikmaaGreatW.PrintLast
open Go.Proofs.YtepgkimlmoikmaaGreatW.PrintMore
attribute [local go_sem ↓] Go.wp_at_zero Go.wp_at_succ
attribute [local go_sem] max2_int min2_int max_two min_two
theorem ownO {w w1 : World} {base : Nat} {v : Value} {n : Nat} {os : List (Int × ByteArray)} (h : w.ownsRow base 61 2 v n (opCells os)) : ∃ A c, v = .slice A n c ∧ n ≤ c := by
 rcases h.2 with ⟨rfl, rfl⟩ | ⟨g, cap, cur, rfl, hg, hh, hc, _, _, hx⟩
 ·exact ⟨none, 0, rfl, Nat.le_refl _⟩
 ·exact ⟨_, cap, rfl, hc⟩
theorem ownO_in {w : World} {base : Nat} {A : Option Addr} {c : Nat} {n : Nat} {os : List (Int × ByteArray)} (h : w.ownsRow base 61 2 (.slice A n c) n (opCells os)) (hl : os.length = n) : OpsIn w A os := fun h0 => by
 obtain ⟨g, c2, e, hg, hc, cur, hh, hx⟩ := RowO.of h (by omega)
 injection e with e1 e2 e3
 subst e1
 refine ⟨_, rfl, fun j u hj => ?_⟩
 rw [Lib.add_plain, Nat.zero_add]
 exact (blk_cell hh j).trans (hx j u hj)
theorem manyO_kind (b : ByteArray) : ∀ j, ∀ o ∈ manyO b j, o.1 ≠ 3
 | 0, o, ho => by
  rcases List.mem_cons.1 ho with rfl | ho
  ·exact (by decide : (2 : Int) ≠ 3)
  ·rcases List.mem_cons.1 ho with rfl | ho
   ·exact (by decide : (1 : Int) ≠ 3)
   ·cases ho
 | j + 1, o, ho => by
  rw [manyO_succ] at ho
  rcases List.mem_append.1 ho with ho | ho
  ·exact manyO_kind b j o ho
  ·rcases List.mem_cons.1 ho with rfl | ho
   ·exact (by decide : (2 : Int) ≠ 3)
   ·rcases List.mem_cons.1 ho with rfl | ho
    ·exact (by decide : (1 : Int) ≠ 3)
    ·cases ho
set_option maxHeartbeats 2000000 in
set_option maxRecDepth 100000 in
theorem coderFlushes_walk (A : Option Addr) (c : Nat) (l : List ByteArray) (p q k wd : Nat) (b : ByteArray) (n : Nat) (w : World) (hr : StrsIn w A l) (hc : l.length ≤ c) (h16 : l.length * 16 ≤ 140737488351232) (hs : ∀ s ∈ l, s.size ≤ 140737488351232) (hG : Given l ⟨#[]⟩) (hC : cfgB p q k wd = true) (hf0 : b.size ≤ 500) (hf1 : (1 : Int) ≤ n) (hf2 : n ≤ (10 : Int)) :
  Calls Tryz.prog 6 #[.slice A l.length c, .agg #[.int .i64 (p : Int), .int .i64 (q : Int), .int .i64 (k : Int), .int .i64 (wd : Int)], .string b, .int .i64 (n : Int)] w fun e w' => e = .returned (.bool true) ∧ Below w.heap.size w w' := by
 have HAL := Aside0.mk (fun W => alive24_any W)
 have HRC := Aside0.mk (fun W => rconf_calls p q k wd W)
 have HR := Aside0.mk hr
 have s0 : (w.alloc (.cells #[.int .i64 p, .int .i64 q, .int .i64 k, .int .i64 wd] 24)).cell? ⟨w.heap.size, 0, none⟩ = some (.int .i64 p) := by simp
 have s1 : (w.alloc (.cells #[.int .i64 p, .int .i64 q, .int .i64 k, .int .i64 wd] 24)).cell? ⟨w.heap.size, 1, none⟩ = some (.int .i64 q) := by simp
 have s2 : (w.alloc (.cells #[.int .i64 p, .int .i64 q, .int .i64 k, .int .i64 wd] 24)).cell? ⟨w.heap.size, 2, none⟩ = some (.int .i64 k) := by simp
 have s3 : (w.alloc (.cells #[.int .i64 p, .int .i64 q, .int .i64 k, .int .i64 wd] 24)).cell? ⟨w.heap.size, 3, none⟩ = some (.int .i64 wd) := by simp
 have B0 := Aside0.mk ((Below.refl w.heap.size w).alloc (Nat.le_refl _) (.cells #[.int .i64 p, .int .i64 q, .int .i64 k, .int .i64 wd] 24))
 have HD := Aside0.mk (fun (W : World) (hr : StrsIn W A l) => dict24_yes l W hr hc (by omega) hs hG)
 obtain ⟨hl, hss⟩ := phrases_sizes hG.2.2
 obtain ⟨b1, b2, b3, b4, b5⟩ := cfg_bounds hC
 have HC := Aside0.mk hC
 have zn : (n : Int) ≤ 10 := by omega
 have v0 : decide ((500 : Int) < (b.size : Int)) = false := decide_eq_false (by omega)
 have v1 : decide (500 < b.size) = false := decide_eq_false (by omega)
 have v2 : decide ((n : Int) < 1) = false := decide_eq_false (by omega)
 have v2' : decide (n < 1) = false := decide_eq_false (by omega)
 have v3 : decide ((10 : Int) < (n : Int)) = false := decide_eq_false (by omega)
 have v4 : decide (10 < n) = false := decide_eq_false (by omega)
 obtain ⟨o1, o2, o3⟩ := one_run (k := k) b
 have hm3 : NL (manyO b n) = b.size := by
  obtain ⟨m, hm⟩ : ∃ m, n = m + 1 := ⟨n - 1, by omega⟩
  rw [hm]
  exact (many_run b3.1 b m).2.2
 have HE1 : Aside0 (∀ (W : World) (ad : Addr) (A2 : Option Addr) (c2 : Nat), DictAt W (.pointer (some ad)) l → OpsIn W A2 [(1, b), (2, ⟨#[]⟩)] → 2 ≤ c2 → Calls Tryz.prog 39 #[.pointer (some ad), .agg #[.int .i64 (p : Int), .int .i64 (q : Int), .int .i64 (k : Int), .int .i64 (wd : Int)], .slice A2 2 c2] W fun e w' => e = .returned (.tuple #[.string (streamE l q k (putR l p q wd) [(1, b), (2, ⟨#[]⟩)]), .bool true]) ∧ Below W.heap.size W w') := ⟨fun W ad A2 c2 hd ho hoc => encode24_any hl hss hd hC [(1, b), (2, ⟨#[]⟩)] ho hoc (show 2 ≤ 100000 by decide) (fun o ho => by
  rcases List.mem_cons.1 ho with rfl | ho
  ·exact (by decide : (1 : Int) ≠ 3)
  ·rcases List.mem_cons.1 ho with rfl | ho
   ·exact (by decide : (2 : Int) ≠ 3)
   ·cases ho) (by omega)⟩
 have HE2 : Aside0 (∀ (W : World) (ad : Addr) (A2 : Option Addr) (c2 : Nat), DictAt W (.pointer (some ad)) l → OpsIn W A2 (manyO b n) → 2 + 2 * n ≤ c2 → Calls Tryz.prog 39 #[.pointer (some ad), .agg #[.int .i64 (p : Int), .int .i64 (q : Int), .int .i64 (k : Int), .int .i64 (wd : Int)], .slice A2 (2 + 2 * n) c2] W fun e w' => e = .returned (.tuple #[.string (streamE l q k (putR l p q wd) (manyO b n)), .bool true]) ∧ Below W.heap.size W w') := ⟨fun W ad A2 c2 hd ho hoc => by
  have h := encode24_any hl hss hd hC (manyO b n) ho (by rw [manyO_len]; exact hoc) (by rw [manyO_len]; omega) (manyO_kind b n) (by omega)
  rw [manyO_len] at h
  exact h⟩
 rw [← flushes_same (l := l) (q := q) b3.1 (putR l p q wd) b (show 1 ≤ n by omega)] at HE2
 generalize streamE l q k (putR l p q wd) [(1, b), (2, ⟨#[]⟩)] = X at *
 have HNN := Aside0.mk (show n ≤ 10 by omega)
 clear hl hss b1 b2 b3 b4 b5 hC hf0 hf1 hf2 o1 o2 o3 hm3
 clear hr hc h16 hs hG
 go_enter Tryz.func6, Tryz.ntmps6
 go_wp2_with fail
 refine (HD.out _ (Kd.C_below HR.out B0.out)).mono ?_
 rintro e w1 ⟨ad, rfl, hd, hb1⟩
 have s0 := pw_cell_below hb1 s0
 have s1 := pw_cell_below hb1 s1
 have s2 := pw_cell_below hb1 s2
 have s3 := pw_cell_below hb1 s3
 have B1 := Aside0.mk (below_step B0.out hb1)
 have D1 := Aside0.mk hd
 clear hb1 hd
 go_wp2_with fail
 refine (HRC.out _).mono ?_
 rw [HC.out]
 rintro e w2 ⟨rfl, hb2⟩
 have s0 := pw_cell_below hb2 s0
 have s1 := pw_cell_below hb2 s1
 have s2 := pw_cell_below hb2 s2
 have s3 := pw_cell_below hb2 s3
 have B2 := Aside0.mk (below_step B1.out hb2)
 have D2 := Aside0.mk (D1.out.below hb2)
 clear hb2
 go_wp2_with fail
 refine (HAL.out _).mono ?_
 rintro e w3 ⟨rfl, hb3⟩
 have s0 := pw_cell_below hb3 s0
 have s1 := pw_cell_below hb3 s1
 have s2 := pw_cell_below hb3 s2
 have s3 := pw_cell_below hb3 s3
 have B3 := Aside0.mk (below_step B2.out hb3)
 have D3 := Aside0.mk (D2.out.below hb3)
 clear hb3
 go_wp2_with (first
  | (at_builtin; refine wpList_append_flat w3.heap.size rfl (.tmp 48) (.tmp 52) 59 61 rfl _ 2 24 Tryz.underlying59 info_op rfl (by decide) (by decide) (.slice none 0 0) 0 [] rfl (own_nil _ _ _ _) rfl (opCells [(1, b), (2, ⟨#[]⟩)]) rfl (by decide) ⟨_, rfl, fun j u hj => alloc_cells _ #[.int .i64 1, .string b, .int .i64 2, .string ⟨#[]⟩] _ j u (by rw [← Array.getElem?_toList]; exact hj)⟩ (opCells_one _) (by decide) (below_alloc (Below.refl _ _) _) (Nat.le_of_lt (by simp)) ?_; intro v4 w4 hown4 hb4 hg4; obtain ⟨A4, c4, rfl, hc4⟩ := ownO hown4 (w1 := w3); have HO4 := Aside0.mk hown4; have HB4 := Aside0.mk hb4; have HC4 := Aside0.mk hc4; clear hown4 hb4 hg4 hc4)
  | (at_builtin; refine wpList_append_flat w4.heap.size rfl (.tmp 54) (.tmp 58) 59 61 rfl _ 2 24 Tryz.underlying59 info_op rfl (by decide) (by decide) (.slice none 0 0) 0 [] rfl (own_nil _ _ _ _) rfl (opCells [(2, ⟨#[]⟩), (1, b)]) rfl (by decide) ⟨_, rfl, fun j u hj => alloc_cells _ #[.int .i64 2, .string ⟨#[]⟩, .int .i64 1, .string b] _ j u (by rw [← Array.getElem?_toList]; exact hj)⟩ (opCells_one _) (by decide) (below_alloc (Below.refl _ _) _) (Nat.le_of_lt (by simp)) ?_; intro v5 w5 hown5 hb5 hg5; have HO5 := Aside0.mk hown5; have HB5 := Aside0.mk hb5; clear hown5 hb5 hg5))
 go_loopw [12, 13] (fun v12 v13 wr => ∃ j : Nat, v13 = .int .i64 (j : Int) ∧ Aside0 (j ≤ n) ∧ Aside0 (wr.ownsRow w4.heap.size 61 2 v12 (2 + 2 * j) (opCells (manyO b j))) ∧ Aside0 (Below w4.heap.size w4 wr)) (fun _ v13 _ => n - (intOf v13).toNat)
 case atStart => exact ⟨0, rfl, ⟨Nat.zero_le _⟩, HO5, HB5⟩
 case round =>
  obtain ⟨j, rfl, HJ, HO, HB⟩ := hrel
  obtain ⟨A2, c2, rfl, hc2⟩ := ownO HO.out (w1 := w3)
  by_cases hjn : j < n
  ·have d1 : decide ((j : Int) < (n : Int)) = true := decide_eq_true (by omega)
   have d2 : decide (j < n) = true := decide_eq_true hjn
   have zj : (j : Int) ≤ 10 := by omega
   have HJN := Aside0.mk hjn
   clear hjn hc2
   go_wp2_with (first
    | (at_builtin; refine wpList_append_flat w4.heap.size rfl (.tmp 65) (.tmp 68) 59 61 rfl _ 2 24 Tryz.underlying59 info_op rfl (by decide) (by decide) (.slice A2 (2 + 2 * j) c2) (2 + 2 * j) (opCells (manyO b j)) rfl (HO.out.alloc _) rfl (opCells [(2, ⟨#[]⟩), (1, ⟨#[]⟩)]) rfl (by decide) ⟨_, rfl, fun j u hj => alloc_cells _ #[.int .i64 2, .string ⟨#[]⟩, .int .i64 1, .string ⟨#[]⟩] _ j u (by rw [← Array.getElem?_toList]; exact hj)⟩ (opCells_one _) (by have := HJN.out; have := HNN.out; omega) (below_alloc HB.out _) (by have := HB.out.size; simp; omega) ?_; intro v6 w6 hown6 hb6 hg6; rw [← opCells_app, ← manyO_succ] at hown6; have HO6 := Aside0.mk hown6; have HB6 := Aside0.mk hb6; clear hown6 hb6 hg6))
   go_roundw
   case rel => exact ⟨j + 1, rfl, ⟨HJN.out⟩, HO6, HB6⟩
   case measure =>
    have h1 := HJN.out
    show n - ((j : Int) + 1).toNat < n - (j : Int).toNat
    omega
  ·have hje : j = n := by have := HJ.out; omega
   subst hje
   have d1 : decide ((j : Int) < (j : Int)) = false := decide_eq_false (by omega)
   have HOP := Aside0.mk (ownO_in HO.out (manyO_len b j))
   have HC2 := Aside0.mk hc2
   have HBB := Aside0.mk (below_step HB4.out HB.out)
   have HO1 := Aside0.mk (ownO_in (own_below HO4.out HB.out) rfl)
   have D4 := Aside0.mk (D3.out.below HBB.out)
   have B4 := Aside0.mk (below_step B3.out HBB.out)
   have s0 := pw_cell_below HBB.out s0
   have s1 := pw_cell_below HBB.out s1
   have s2 := pw_cell_below HBB.out s2
   have s3 := pw_cell_below HBB.out s3
   clear hjn hc2
   go_wp2_with fail
   refine (HE1.out _ _ _ _ D4.out HO1.out HC4.out).mono ?_
   rintro e w7 ⟨rfl, hb7⟩
   have s0 := pw_cell_below hb7 s0
   have s1 := pw_cell_below hb7 s1
   have s2 := pw_cell_below hb7 s2
   have s3 := pw_cell_below hb7 s3
   have B7 := Aside0.mk (below_step B4.out hb7)
   have D7 := Aside0.mk (D4.out.below hb7)
   have HOP7 := Aside0.mk (HOP.out.below hb7)
   clear hb7
   go_wp2_with fail
   refine (HE2.out _ _ _ _ D7.out HOP7.out HC2.out).mono ?_
   rintro e w8 ⟨rfl, hb8⟩
   have B8 := Aside0.mk (below_step B7.out hb8)
   clear hb8
   have dx : (X.toList == X.toList) = true := beq_self_eq_true _
   go_wp2_with fail
   go_ret
   exact ⟨rfl, B8.out⟩
set_option maxHeartbeats 2000000 in
set_option maxRecDepth 100000 in
theorem coderFlushes_law (A : Option Addr) (c : Nat) (l : List ByteArray) (p q k wd : Int) (b : ByteArray) (n : Int) (w : World) (hr : StrsIn w A l) (hc : l.length ≤ c) (h16 : l.length * 16 ≤ 140737488351232) (hs : ∀ s ∈ l, s.size ≤ 140737488351232) (hb : b.size ≤ 140737488351232) (hn : (Lit.int .i64 n).wf = true) :
  Calls Tryz.prog 6 #[.slice A l.length c, .agg #[.int .i64 p, .int .i64 q, .int .i64 k, .int .i64 wd], .string b, .int .i64 n] w fun e w' => e = .returned (.bool true) ∧ Below w.heap.size w w' := by
 have HRC := Aside0.mk (fun W => rconf_calls p q k wd W)
 have s0 : (w.alloc (.cells #[.int .i64 p, .int .i64 q, .int .i64 k, .int .i64 wd] 24)).cell? ⟨w.heap.size, 0, none⟩ = some (.int .i64 p) := by simp
 have s1 : (w.alloc (.cells #[.int .i64 p, .int .i64 q, .int .i64 k, .int .i64 wd] 24)).cell? ⟨w.heap.size, 1, none⟩ = some (.int .i64 q) := by simp
 have s2 : (w.alloc (.cells #[.int .i64 p, .int .i64 q, .int .i64 k, .int .i64 wd] 24)).cell? ⟨w.heap.size, 2, none⟩ = some (.int .i64 k) := by simp
 have s3 : (w.alloc (.cells #[.int .i64 p, .int .i64 q, .int .i64 k, .int .i64 wd] 24)).cell? ⟨w.heap.size, 3, none⟩ = some (.int .i64 wd) := by simp
 have B0 := Aside0.mk ((Below.refl w.heap.size w).alloc (Nat.le_refl _) (.cells #[.int .i64 p, .int .i64 q, .int .i64 k, .int .i64 wd] 24))
 by_cases hG : Given l ⟨#[]⟩
 ·by_cases hC : cfgB p q k wd = true
  ·obtain ⟨hp, hq, hk, hwd⟩ : (0 ≤ p) ∧ (0 ≤ q ∧ q ≤ 1) ∧ (1 ≤ k ∧ k ≤ 1024) ∧ 0 ≤ wd := by
    have hC := hC
    unfold cfgB at hC
    rw [decide_eq_true_iff] at hC
    omega
   obtain ⟨pn, rfl⟩ := Int.eq_ofNat_of_zero_le hp
   obtain ⟨qn, rfl⟩ := Int.eq_ofNat_of_zero_le hq.1
   obtain ⟨kn, rfl⟩ := Int.eq_ofNat_of_zero_le (show 0 ≤ k by omega)
   obtain ⟨wn, rfl⟩ := Int.eq_ofNat_of_zero_le hwd
   by_cases hf0 : b.size ≤ 500
   ·skip
    by_cases hf1 : (1 : Int) ≤ n
    ·skip
     by_cases hf2 : n ≤ (10 : Int)
     ·skip
      obtain ⟨m, rfl⟩ := Int.eq_ofNat_of_zero_le (show 0 ≤ n by omega)
      exact coderFlushes_walk A c l pn qn kn wn b m w hr hc h16 hs hG hC hf0 hf1 hf2
     ·have HD := Aside0.mk (fun (W : World) (hr : StrsIn W A l) => dict24_yes l W hr hc (by omega) hs hG)
      have HC := Aside0.mk hC
      have v0 : decide ((500 : Int) < (b.size : Int)) = false := decide_eq_false (by omega)
      have v1 : decide (500 < b.size) = false := decide_eq_false (by omega)
      have v2 : decide (n < 1) = false := decide_eq_false (by omega)
      have v3 : decide (10 < n) = true := decide_eq_true (by omega)
      clear hp hq hk hwd hC hG hs h16 hc
      clear hf0 hf1 hf2
      have HAL := Aside0.mk (fun W => alive24_any W)
      have HR := Aside0.mk hr
      clear hr
      go_enter Tryz.func6, Tryz.ntmps6
      go_wp2_with fail
      refine (HD.out _ (Kd.C_below HR.out B0.out)).mono ?_
      rintro e w1 ⟨ad, rfl, hd, hb1⟩
      have s0 := pw_cell_below hb1 s0
      have s1 := pw_cell_below hb1 s1
      have s2 := pw_cell_below hb1 s2
      have s3 := pw_cell_below hb1 s3
      have B1 := Aside0.mk (below_step B0.out hb1)
      have D1 := Aside0.mk hd
      clear hb1 hd
      go_wp2_with fail
      refine (HRC.out _).mono ?_
      rw [HC.out]
      rintro e w2 ⟨rfl, hb2⟩
      have s0 := pw_cell_below hb2 s0
      have s1 := pw_cell_below hb2 s1
      have s2 := pw_cell_below hb2 s2
      have s3 := pw_cell_below hb2 s3
      have B2 := Aside0.mk (below_step B1.out hb2)
      have D2 := Aside0.mk (D1.out.below hb2)
      clear hb2
      go_wp2_with fail
      refine (HAL.out _).mono ?_
      rintro e w3 ⟨rfl, hb3⟩
      have s0 := pw_cell_below hb3 s0
      have s1 := pw_cell_below hb3 s1
      have s2 := pw_cell_below hb3 s2
      have s3 := pw_cell_below hb3 s3
      have B3 := Aside0.mk (below_step B2.out hb3)
      have D3 := Aside0.mk (D2.out.below hb3)
      clear hb3
      go_wp2_with fail
      go_ret
      exact ⟨rfl, B3.out⟩
    ·have HD := Aside0.mk (fun (W : World) (hr : StrsIn W A l) => dict24_yes l W hr hc (by omega) hs hG)
     have HC := Aside0.mk hC
     have v0 : decide ((500 : Int) < (b.size : Int)) = false := decide_eq_false (by omega)
     have v1 : decide (500 < b.size) = false := decide_eq_false (by omega)
     have v2 : decide (n < 1) = true := decide_eq_true (by omega)
     clear hp hq hk hwd hC hG hs h16 hc
     clear hf0 hf1
     have HAL := Aside0.mk (fun W => alive24_any W)
     have HR := Aside0.mk hr
     clear hr
     go_enter Tryz.func6, Tryz.ntmps6
     go_wp2_with fail
     refine (HD.out _ (Kd.C_below HR.out B0.out)).mono ?_
     rintro e w1 ⟨ad, rfl, hd, hb1⟩
     have s0 := pw_cell_below hb1 s0
     have s1 := pw_cell_below hb1 s1
     have s2 := pw_cell_below hb1 s2
     have s3 := pw_cell_below hb1 s3
     have B1 := Aside0.mk (below_step B0.out hb1)
     have D1 := Aside0.mk hd
     clear hb1 hd
     go_wp2_with fail
     refine (HRC.out _).mono ?_
     rw [HC.out]
     rintro e w2 ⟨rfl, hb2⟩
     have s0 := pw_cell_below hb2 s0
     have s1 := pw_cell_below hb2 s1
     have s2 := pw_cell_below hb2 s2
     have s3 := pw_cell_below hb2 s3
     have B2 := Aside0.mk (below_step B1.out hb2)
     have D2 := Aside0.mk (D1.out.below hb2)
     clear hb2
     go_wp2_with fail
     refine (HAL.out _).mono ?_
     rintro e w3 ⟨rfl, hb3⟩
     have s0 := pw_cell_below hb3 s0
     have s1 := pw_cell_below hb3 s1
     have s2 := pw_cell_below hb3 s2
     have s3 := pw_cell_below hb3 s3
     have B3 := Aside0.mk (below_step B2.out hb3)
     have D3 := Aside0.mk (D2.out.below hb3)
     clear hb3
     go_wp2_with fail
     go_ret
     exact ⟨rfl, B3.out⟩
   ·have HD := Aside0.mk (fun (W : World) (hr : StrsIn W A l) => dict24_yes l W hr hc (by omega) hs hG)
    have HC := Aside0.mk hC
    have v0 : decide ((500 : Int) < (b.size : Int)) = true := decide_eq_true (by omega)
    have v1 : decide (500 < b.size) = true := decide_eq_true (by omega)
    clear hp hq hk hwd hC hG hs h16 hc
    clear hf0
    have HAL := Aside0.mk (fun W => alive24_any W)
    have HR := Aside0.mk hr
    clear hr
    go_enter Tryz.func6, Tryz.ntmps6
    go_wp2_with fail
    refine (HD.out _ (Kd.C_below HR.out B0.out)).mono ?_
    rintro e w1 ⟨ad, rfl, hd, hb1⟩
    have s0 := pw_cell_below hb1 s0
    have s1 := pw_cell_below hb1 s1
    have s2 := pw_cell_below hb1 s2
    have s3 := pw_cell_below hb1 s3
    have B1 := Aside0.mk (below_step B0.out hb1)
    have D1 := Aside0.mk hd
    clear hb1 hd
    go_wp2_with fail
    refine (HRC.out _).mono ?_
    rw [HC.out]
    rintro e w2 ⟨rfl, hb2⟩
    have s0 := pw_cell_below hb2 s0
    have s1 := pw_cell_below hb2 s1
    have s2 := pw_cell_below hb2 s2
    have s3 := pw_cell_below hb2 s3
    have B2 := Aside0.mk (below_step B1.out hb2)
    have D2 := Aside0.mk (D1.out.below hb2)
    clear hb2
    go_wp2_with fail
    refine (HAL.out _).mono ?_
    rintro e w3 ⟨rfl, hb3⟩
    have s0 := pw_cell_below hb3 s0
    have s1 := pw_cell_below hb3 s1
    have s2 := pw_cell_below hb3 s2
    have s3 := pw_cell_below hb3 s3
    have B3 := Aside0.mk (below_step B2.out hb3)
    have D3 := Aside0.mk (D2.out.below hb3)
    clear hb3
    go_wp2_with fail
    go_ret
    exact ⟨rfl, B3.out⟩
  ·have HD := Aside0.mk (fun (W : World) (hr : StrsIn W A l) => dict24_yes l W hr hc (by omega) hs hG)
   have HC := Aside0.mk (Bool.eq_false_iff.2 hC)
   clear hC hG hs h16 hc
   have HAL := Aside0.mk (fun W => alive24_any W)
   have HR := Aside0.mk hr
   clear hr
   go_enter Tryz.func6, Tryz.ntmps6
   go_wp2_with fail
   refine (HD.out _ (Kd.C_below HR.out B0.out)).mono ?_
   rintro e w1 ⟨ad, rfl, hd, hb1⟩
   have s0 := pw_cell_below hb1 s0
   have s1 := pw_cell_below hb1 s1
   have s2 := pw_cell_below hb1 s2
   have s3 := pw_cell_below hb1 s3
   have B1 := Aside0.mk (below_step B0.out hb1)
   have D1 := Aside0.mk hd
   clear hb1 hd
   go_wp2_with fail
   refine (HRC.out _).mono ?_
   rw [HC.out]
   rintro e w2 ⟨rfl, hb2⟩
   have s0 := pw_cell_below hb2 s0
   have s1 := pw_cell_below hb2 s1
   have s2 := pw_cell_below hb2 s2
   have s3 := pw_cell_below hb2 s3
   have B2 := Aside0.mk (below_step B1.out hb2)
   have D2 := Aside0.mk (D1.out.below hb2)
   clear hb2
   go_wp2_with fail
   refine (HAL.out _).mono ?_
   rintro e w3 ⟨rfl, hb3⟩
   have s0 := pw_cell_below hb3 s0
   have s1 := pw_cell_below hb3 s1
   have s2 := pw_cell_below hb3 s2
   have s3 := pw_cell_below hb3 s3
   have B3 := Aside0.mk (below_step B2.out hb3)
   have D3 := Aside0.mk (D2.out.below hb3)
   clear hb3
   go_wp2_with fail
   go_ret
   exact ⟨rfl, B3.out⟩
 ·have HD := Aside0.mk (fun (W : World) (hr : StrsIn W A l) => dict24_no l W hr hc (by omega) hs hG)
  clear hG hs h16 hc
  have HAL := Aside0.mk (fun W => alive24_any W)
  have HR := Aside0.mk hr
  clear hr
  go_enter Tryz.func6, Tryz.ntmps6
  go_wp2_with fail
  refine (HD.out _ (Kd.C_below HR.out B0.out)).mono ?_
  rintro e w1 ⟨rfl, hb1⟩
  have B1 := Aside0.mk (below_step B0.out hb1)
  clear hb1
  go_wp2_with fail
  refine (HAL.out _).mono ?_
  rintro e w3 ⟨rfl, hb3⟩
  have B3 := Aside0.mk (below_step B1.out hb3)
  clear hb3
  go_wp2_with fail
  go_ret
  exact ⟨rfl, B3.out⟩
end Go.Proofs.YtepgkimlmoikmaaGreat
