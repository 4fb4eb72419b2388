/- ShE: a part of its proof (contracts of the functions that it reaches, and the plain mathematics behind them). -/
import Derived.Test.YtdpkgjahcapleaaGreatShE43
import Derived.Test.YtdpkgjahcapleaaGreatShE46
set_option linter.unusedVariables false
set_option linter.unusedSimpArgs false
set_option linter.unusedVariables false
set_option linter.unusedSimpArgs false
namespace Go.Proofs.YtdpkgjahcapleaaGreat
open Go.RowKit Go.Proofs.YtdpkgjahcapleaaGreat.Spec Go.Proofs.YtdpkgjahcapleaaGreatW.PrintWords Go.Proofs.YtdpkgjahcapleaaGreatW.PrintLast
open Go.Proofs.YtdpkgjahcapleaaGreatW.PrintMore
attribute [local go_sem ↓] Go.wp_at_zero Go.wp_at_succ
attribute [local go_sem] max2_int min2_int max_two min_two
theorem ownO {w w1 : World} {base : Nat} {v : Value} {n : Nat} {os : List (Int × ByteArray)} (h : w.ownsRow base 75 2 v n (opCells os)) : ∃ A c, v = .slice A n c ∧ n ≤ c := by
  rcases h.2 with ⟨rfl, rfl⟩ | ⟨g, cap, cur, rfl, hg, hh, hc, _, _, hx⟩
  · exact ⟨none, 0, rfl, Nat.le_refl _⟩
  · exact ⟨_, cap, rfl, hc⟩
theorem ownO_in {w : World} {base : Nat} {A : Option Addr} {c : Nat} {n : Nat} {os : List (Int × ByteArray)} (h : w.ownsRow base 75 2 (.slice A n c) n (opCells os)) (hl : os.length = n) : OpsIn w A os := fun h0 => by
  obtain ⟨g, c2, e, hg, hc, cur, hh, hx⟩ := RowO.of h (by omega)
  injection e with e1 e2 e3
  subst e1
  refine ⟨_, rfl, fun j u hj => ?_⟩
  rw [Lib.add_plain, Nat.zero_add]
  exact (blk_cell hh j).trans (hx j u hj)
set_option maxHeartbeats 2000000 in
set_option maxRecDepth 100000 in
theorem empty_walk (A : Option Addr) (c : Nat) (l : List ByteArray) (p q k wd : Nat) (n : Nat) (w : World) (hr : StrsIn w A l) (hc : l.length ≤ c) (h16 : l.length * 16 ≤ 140737488351232) (hs : ∀ s ∈ l, s.size ≤ 140737488351232) (hG : Given l ⟨#[]⟩) (hC : cfgB p q k wd = true) (hn : n ≤ 20) {T : Nat → Int} (hT : TabAt w T) :
    Calls Tryz.prog 9 #[.slice A l.length c, .agg #[.int .i64 (p : Int), .int .i64 (q : Int), .int .i64 (k : Int), .int .i64 (wd : Int)], .int .i64 (n : Int)] w fun e w' => e = .returned (.bool true) ∧ Below w.heap.size w w' := by
  have HAL := Aside0.mk (fun W => alive24_any W)
  have HRC := Aside0.mk (fun W => rconf_calls p q k wd W)
  have HR := Aside0.mk hr
  have HTA := Aside0.mk hT
  have s0 : (w.alloc (.cells #[.int .i64 p, .int .i64 q, .int .i64 k, .int .i64 wd] 24)).cell? ⟨w.heap.size, 0, none⟩ = some (.int .i64 p) := by simp
  have s1 : (w.alloc (.cells #[.int .i64 p, .int .i64 q, .int .i64 k, .int .i64 wd] 24)).cell? ⟨w.heap.size, 1, none⟩ = some (.int .i64 q) := by simp
  have s2 : (w.alloc (.cells #[.int .i64 p, .int .i64 q, .int .i64 k, .int .i64 wd] 24)).cell? ⟨w.heap.size, 2, none⟩ = some (.int .i64 k) := by simp
  have s3 : (w.alloc (.cells #[.int .i64 p, .int .i64 q, .int .i64 k, .int .i64 wd] 24)).cell? ⟨w.heap.size, 3, none⟩ = some (.int .i64 wd) := by simp
  have B0 := Aside0.mk ((Below.refl w.heap.size w).alloc (Nat.le_refl _) (.cells #[.int .i64 p, .int .i64 q, .int .i64 k, .int .i64 wd] 24))
  have HD := Aside0.mk (fun (W : World) (hr : StrsIn W A l) => dict24_yes l W hr hc (by omega) hs hG)
  obtain ⟨hl, hss⟩ := phrases_sizes hG.2.2
  have hss2 : ∀ s ∈ l, s.size < 1000000 := fun s h => by have := (hss s h).2; omega
  obtain ⟨b1, b2, b3, b4, b5⟩ := cfg_bounds hC
  have HC := Aside0.mk hC
  have HE24 := Aside0.mk (fun (W : World) (ad : Addr) (A2 : Option Addr) (c2 : Nat) (hd : DictAt W (.pointer (some ad)) l) (ho : OpsIn W A2 (opsE n)) (hoc : (opsE n).length ≤ c2) => encode24_run hd hC ho hoc (by rw [opsE_len]; omega) (stepsE (p := p) (wd := wd) hl hss2 b2 b3 n))
  rw [catE_all] at HE24
  have HFD := Aside0.mk (fun (W : World) (ad : Addr) (h : DictAt W (.pointer (some ad)) l) (h3 : TabAt W T) => feed24_any h hl hss (headS q k (Idn l) ++ endS 0) (by rw [ByteArray.size_append, headS_size, endS_size]; omega) (A := none) (cc := 0) [] (Kd.C_nil _ _) (Nat.le_refl _) (by simp) h3)
  have HEN := Aside0.mk (fun (W : World) (ad : Addr) (h : DictAt W (.pointer (some ad)) l) => encode_empty h hl hss2 hC)
  rw [full_empty l q k b2 b3] at HFD
  have hsz : (headS q k (Idn l) ++ endS 0).size = 22 := by rw [ByteArray.size_append, headS_size, endS_size]
  have HFD2 : Aside0 (∀ (W : World) (ad : Addr), DictAt W (.pointer (some ad)) l → TabAt W T → Calls Tryz.prog 31 #[.pointer (some ad), .string (headS q k (Idn l) ++ endS 0), .slice none 0 0] W fun e w' => e = .returned (.tuple #[.string ⟨#[]⟩, .nilIface, .bool true]) ∧ Below W.heap.size W w') := ⟨fun W ad h h3 => HFD.out W ad h h3⟩
  have HLN := Aside0.mk (opsE_len)
  generalize headS q k (Idn l) ++ endS 0 = X at *
  have zn : (n : Int) ≤ 20 := by omega
  have v1 : decide ((n : Int) < 0) = false := decide_eq_false (by omega)
  have v2 : decide ((20 : Int) < (n : Int)) = false := decide_eq_false (by omega)
  have v3 : decide (20 < n) = false := decide_eq_false (by omega)
  have HNN := Aside0.mk hn
  clear hr hc h16 hs hG hC hl hss hss2 b1 b2 b3 b4 b5 hT HFD hn
  go_enter Tryz.func9, Tryz.ntmps9
  go_wp2_with fail
  refine (HD.out _ (Kd.C_below HR.out B0.out)).mono ?_
  rintro e w1 ⟨ad, rfl, hd, hb1⟩
  have s0 := pw_cell_below hb1 s0
  have s1 := pw_cell_below hb1 s1
  have s2 := pw_cell_below hb1 s2
  have s3 := pw_cell_below hb1 s3
  have B1 := Aside0.mk (below_step B0.out hb1)
  have D1 := Aside0.mk hd
  clear hb1 hd
  go_wp2_with fail
  refine (HRC.out _).mono ?_
  rw [HC.out]
  rintro e w2 ⟨rfl, hb2⟩
  have s0 := pw_cell_below hb2 s0
  have s1 := pw_cell_below hb2 s1
  have s2 := pw_cell_below hb2 s2
  have s3 := pw_cell_below hb2 s3
  have B2 := Aside0.mk (below_step B1.out hb2)
  have D2 := Aside0.mk (D1.out.below hb2)
  clear hb2
  go_wp2_with fail
  refine (HAL.out _).mono ?_
  rintro e w3 ⟨rfl, hb3⟩
  have s0 := pw_cell_below hb3 s0
  have s1 := pw_cell_below hb3 s1
  have s2 := pw_cell_below hb3 s2
  have s3 := pw_cell_below hb3 s3
  have B3 := Aside0.mk (below_step B2.out hb3)
  have D3 := Aside0.mk (D2.out.below hb3)
  clear hb3
  go_wp2_with fail
  go_loopw [9, 10] (fun v9 v10 wr => ∃ j : Nat, v10 = .int .i64 (j : Int) ∧ Aside0 (j ≤ n) ∧ Aside0 (wr.ownsRow w3.heap.size 75 2 v9 (2 * j) (opCells (opsE j))) ∧ Aside0 (Below w3.heap.size w3 wr)) (fun _ v10 _ => n - (intOf v10).toNat)
  case atStart => exact ⟨0, rfl, ⟨Nat.zero_le _⟩, ⟨own_nil _ _ _ _⟩, ⟨Below.refl _ _⟩⟩
  case round =>
    obtain ⟨j, rfl, HJ, HO, HB⟩ := hrel
    obtain ⟨A2, c2, rfl, hc2⟩ := ownO HO.out (w1 := w3)
    by_cases hjn : j < n
    · have d1 : decide ((j : Int) < (n : Int)) = true := decide_eq_true (by omega)
      have d2 : decide (j < n) = true := decide_eq_true hjn
      have zj : (j : Int) ≤ 20 := by omega
      have HJN := Aside0.mk hjn
      have HN2 := HNN.out
      clear hjn hc2
      go_wp2_with (first
        | (at_builtin; refine wpList_append_flat w3.heap.size rfl (.tmp 48) (.tmp 51) 73 75 rfl _ 2 24 Tryz.underlying73 info_op rfl (by decide) (by decide) (.slice A2 (2 * j) c2) (2 * j) (opCells (opsE j)) rfl (HO.out.alloc _) rfl (opCells [(2, ⟨#[]⟩), (1, ⟨#[]⟩)]) rfl (by decide) ⟨_, rfl, fun j u hj => alloc_cells _ #[.int .i64 2, .string ⟨#[]⟩, .int .i64 1, .string ⟨#[]⟩] _ j u (by rw [← Array.getElem?_toList]; exact hj)⟩ (opCells_one _) (by have := HJN.out; omega) (below_alloc HB.out _) (by have := HB.out.size; simp; omega) ?_; intro v5 w5 hown5 hb5 hg5; rw [← opCells_app] at hown5; have HO5 := Aside0.mk hown5; have HB5 := Aside0.mk hb5; clear hown5 hb5 hg5))
      go_roundw
      case rel => exact ⟨j + 1, rfl, ⟨HJN.out⟩, HO5, HB5⟩
      case measure =>
        have h1 := HJN.out
        show n - ((j : Int) + 1).toNat < n - (j : Int).toNat
        omega
    · have hje : j = n := by have := HJ.out; omega
      subst hje
      have d1 : decide ((j : Int) < (j : Int)) = false := decide_eq_false (by omega)
      have hop := ownO_in HO.out (HLN.out j)
      have HOP := Aside0.mk hop
      have HC2 := Aside0.mk (show (opsE j).length ≤ c2 by rw [HLN.out]; exact hc2)
      have hx := HE24.out wr
      rw [HLN.out] at hx
      have HX2 := Aside0.mk hx
      have D4 := Aside0.mk (D3.out.below HB.out)
      have B4 := Aside0.mk (below_step B3.out HB.out)
      have s0 := pw_cell_below HB.out s0
      have s1 := pw_cell_below HB.out s1
      have s2 := pw_cell_below HB.out s2
      have s3 := pw_cell_below HB.out s3
      clear hjn hc2 hop hx
      go_wp2_with fail
      refine (HX2.out _ _ _ D4.out HOP.out (by have := HC2.out; rw [HLN.out] at this; exact this)).mono ?_
      rintro e w5 ⟨rfl, hb5⟩
      have s0 := pw_cell_below hb5 s0
      have s1 := pw_cell_below hb5 s1
      have s2 := pw_cell_below hb5 s2
      have s3 := pw_cell_below hb5 s3
      have B5 := Aside0.mk (below_step B4.out hb5)
      have D5 := Aside0.mk (D4.out.below hb5)
      clear hb5
      go_wp2_with fail
      refine (HFD2.out _ _ D5.out (HTA.out.below B5.out)).mono ?_
      rintro e w6 ⟨rfl, hb6⟩
      have s0 := pw_cell_below hb6 s0
      have s1 := pw_cell_below hb6 s1
      have s2 := pw_cell_below hb6 s2
      have s3 := pw_cell_below hb6 s3
      have B6 := Aside0.mk (below_step B5.out hb6)
      have D6 := Aside0.mk (D5.out.below hb6)
      clear hb6
      go_wp2_with fail
      refine (HEN.out _ _ D6.out).mono ?_
      rintro e w7 ⟨rfl, hb7⟩
      have B7 := Aside0.mk (below_step B6.out hb7)
      clear hb7
      have hsz2 : (X.size : Int) = 22 := by omega
      go_wp2_with fail
      go_ret
      exact ⟨rfl, B7.out⟩
set_option maxHeartbeats 2000000 in
set_option maxRecDepth 100000 in
theorem coderEmpty_law (A : Option Addr) (c : Nat) (l : List ByteArray) (p q k wd : Int) (n : Int) (w : World) (hr : StrsIn w A l) (hc : l.length ≤ c) (h16 : l.length * 16 ≤ 140737488351232) (hs : ∀ s ∈ l, s.size ≤ 140737488351232) (hn : (Lit.int .i64 n).wf = true) {T : Nat → Int} (hT : TabAt w T) :
    Calls Tryz.prog 9 #[.slice A l.length c, .agg #[.int .i64 p, .int .i64 q, .int .i64 k, .int .i64 wd], .int .i64 n] w fun e w' => e = .returned (.bool true) ∧ Below w.heap.size w w' := by
  have HRC := Aside0.mk (fun W => rconf_calls p q k wd W)
  have s0 : (w.alloc (.cells #[.int .i64 p, .int .i64 q, .int .i64 k, .int .i64 wd] 24)).cell? ⟨w.heap.size, 0, none⟩ = some (.int .i64 p) := by simp
  have s1 : (w.alloc (.cells #[.int .i64 p, .int .i64 q, .int .i64 k, .int .i64 wd] 24)).cell? ⟨w.heap.size, 1, none⟩ = some (.int .i64 q) := by simp
  have s2 : (w.alloc (.cells #[.int .i64 p, .int .i64 q, .int .i64 k, .int .i64 wd] 24)).cell? ⟨w.heap.size, 2, none⟩ = some (.int .i64 k) := by simp
  have s3 : (w.alloc (.cells #[.int .i64 p, .int .i64 q, .int .i64 k, .int .i64 wd] 24)).cell? ⟨w.heap.size, 3, none⟩ = some (.int .i64 wd) := by simp
  have B0 := Aside0.mk ((Below.refl w.heap.size w).alloc (Nat.le_refl _) (.cells #[.int .i64 p, .int .i64 q, .int .i64 k, .int .i64 wd] 24))
  by_cases hG : Given l ⟨#[]⟩
  · by_cases hC : cfgB p q k wd = true
    · obtain ⟨hp, hq, hk, hwd⟩ : (0 ≤ p) ∧ (0 ≤ q ∧ q ≤ 1) ∧ (1 ≤ k ∧ k ≤ 1024) ∧ 0 ≤ wd := by
        have hC := hC
        unfold cfgB at hC
        rw [decide_eq_true_iff] at hC
        omega
      obtain ⟨pn, rfl⟩ := Int.eq_ofNat_of_zero_le hp
      obtain ⟨qn, rfl⟩ := Int.eq_ofNat_of_zero_le hq.1
      obtain ⟨kn, rfl⟩ := Int.eq_ofNat_of_zero_le (show 0 ≤ k by omega)
      obtain ⟨wn, rfl⟩ := Int.eq_ofNat_of_zero_le hwd
      by_cases h0 : 0 ≤ n
      · by_cases h2 : n ≤ 20
        · obtain ⟨m, rfl⟩ := Int.eq_ofNat_of_zero_le h0
          exact empty_walk A c l pn qn kn wn m w hr hc h16 hs hG hC (by omega) hT
        · have HD := Aside0.mk (fun (W : World) (hr : StrsIn W A l) => dict24_yes l W hr hc (by omega) hs hG)
          have HC := Aside0.mk hC
          have v1 : decide (n < 0) = false := decide_eq_false (by omega)
          have v2 : decide (20 < n) = true := decide_eq_true (by omega)
          clear hp hq hk hwd h0 h2 hC hG hs h16 hc hn hT
          have HAL := Aside0.mk (fun W => alive24_any W)
          have HR := Aside0.mk hr
          clear hr
          go_enter Tryz.func9, Tryz.ntmps9
          go_wp2_with fail
          refine (HD.out _ (Kd.C_below HR.out B0.out)).mono ?_
          rintro e w1 ⟨ad, rfl, hd, hb1⟩
          have s0 := pw_cell_below hb1 s0
          have s1 := pw_cell_below hb1 s1
          have s2 := pw_cell_below hb1 s2
          have s3 := pw_cell_below hb1 s3
          have B1 := Aside0.mk (below_step B0.out hb1)
          have D1 := Aside0.mk hd
          clear hb1 hd
          go_wp2_with fail
          refine (HRC.out _).mono ?_
          rw [HC.out]
          rintro e w2 ⟨rfl, hb2⟩
          have s0 := pw_cell_below hb2 s0
          have s1 := pw_cell_below hb2 s1
          have s2 := pw_cell_below hb2 s2
          have s3 := pw_cell_below hb2 s3
          have B2 := Aside0.mk (below_step B1.out hb2)
          have D2 := Aside0.mk (D1.out.below hb2)
          clear hb2
          go_wp2_with fail
          refine (HAL.out _).mono ?_
          rintro e w3 ⟨rfl, hb3⟩
          have s0 := pw_cell_below hb3 s0
          have s1 := pw_cell_below hb3 s1
          have s2 := pw_cell_below hb3 s2
          have s3 := pw_cell_below hb3 s3
          have B3 := Aside0.mk (below_step B2.out hb3)
          have D3 := Aside0.mk (D2.out.below hb3)
          clear hb3
          go_wp2_with fail
          go_ret
          exact ⟨rfl, B3.out⟩
      · have HD := Aside0.mk (fun (W : World) (hr : StrsIn W A l) => dict24_yes l W hr hc (by omega) hs hG)
        have HC := Aside0.mk hC
        have v1 : decide (n < 0) = true := decide_eq_true (by omega)
        clear hp hq hk hwd h0 hC hG hs h16 hc hn hT
        have HAL := Aside0.mk (fun W => alive24_any W)
        have HR := Aside0.mk hr
        clear hr
        go_enter Tryz.func9, Tryz.ntmps9
        go_wp2_with fail
        refine (HD.out _ (Kd.C_below HR.out B0.out)).mono ?_
        rintro e w1 ⟨ad, rfl, hd, hb1⟩
        have s0 := pw_cell_below hb1 s0
        have s1 := pw_cell_below hb1 s1
        have s2 := pw_cell_below hb1 s2
        have s3 := pw_cell_below hb1 s3
        have B1 := Aside0.mk (below_step B0.out hb1)
        have D1 := Aside0.mk hd
        clear hb1 hd
        go_wp2_with fail
        refine (HRC.out _).mono ?_
        rw [HC.out]
        rintro e w2 ⟨rfl, hb2⟩
        have s0 := pw_cell_below hb2 s0
        have s1 := pw_cell_below hb2 s1
        have s2 := pw_cell_below hb2 s2
        have s3 := pw_cell_below hb2 s3
        have B2 := Aside0.mk (below_step B1.out hb2)
        have D2 := Aside0.mk (D1.out.below hb2)
        clear hb2
        go_wp2_with fail
        refine (HAL.out _).mono ?_
        rintro e w3 ⟨rfl, hb3⟩
        have s0 := pw_cell_below hb3 s0
        have s1 := pw_cell_below hb3 s1
        have s2 := pw_cell_below hb3 s2
        have s3 := pw_cell_below hb3 s3
        have B3 := Aside0.mk (below_step B2.out hb3)
        have D3 := Aside0.mk (D2.out.below hb3)
        clear hb3
        go_wp2_with fail
        go_ret
        exact ⟨rfl, B3.out⟩
    · have HD := Aside0.mk (fun (W : World) (hr : StrsIn W A l) => dict24_yes l W hr hc (by omega) hs hG)
      have HC := Aside0.mk (Bool.eq_false_iff.2 hC)
      clear hC hG hs h16 hc hn hT
      have HAL := Aside0.mk (fun W => alive24_any W)
      have HR := Aside0.mk hr
      clear hr
      go_enter Tryz.func9, Tryz.ntmps9
      go_wp2_with fail
      refine (HD.out _ (Kd.C_below HR.out B0.out)).mono ?_
      rintro e w1 ⟨ad, rfl, hd, hb1⟩
      have s0 := pw_cell_below hb1 s0
      have s1 := pw_cell_below hb1 s1
      have s2 := pw_cell_below hb1 s2
      have s3 := pw_cell_below hb1 s3
      have B1 := Aside0.mk (below_step B0.out hb1)
      have D1 := Aside0.mk hd
      clear hb1 hd
      go_wp2_with fail
      refine (HRC.out _).mono ?_
      rw [HC.out]
      rintro e w2 ⟨rfl, hb2⟩
      have s0 := pw_cell_below hb2 s0
      have s1 := pw_cell_below hb2 s1
      have s2 := pw_cell_below hb2 s2
      have s3 := pw_cell_below hb2 s3
      have B2 := Aside0.mk (below_step B1.out hb2)
      have D2 := Aside0.mk (D1.out.below hb2)
      clear hb2
      go_wp2_with fail
      refine (HAL.out _).mono ?_
      rintro e w3 ⟨rfl, hb3⟩
      have s0 := pw_cell_below hb3 s0
      have s1 := pw_cell_below hb3 s1
      have s2 := pw_cell_below hb3 s2
      have s3 := pw_cell_below hb3 s3
      have B3 := Aside0.mk (below_step B2.out hb3)
      have D3 := Aside0.mk (D2.out.below hb3)
      clear hb3
      go_wp2_with fail
      go_ret
      exact ⟨rfl, B3.out⟩
  · have HD := Aside0.mk (fun (W : World) (hr : StrsIn W A l) => dict24_no l W hr hc (by omega) hs hG)
    clear hG hs h16 hc hn hT
    have HAL := Aside0.mk (fun W => alive24_any W)
    have HR := Aside0.mk hr
    clear hr
    go_enter Tryz.func9, Tryz.ntmps9
    go_wp2_with fail
    refine (HD.out _ (Kd.C_below HR.out B0.out)).mono ?_
    rintro e w1 ⟨rfl, hb1⟩
    have B1 := Aside0.mk (below_step B0.out hb1)
    clear hb1
    go_wp2_with fail
    refine (HAL.out _).mono ?_
    rintro e w3 ⟨rfl, hb3⟩
    have B3 := Aside0.mk (below_step B1.out hb3)
    clear hb3
    go_wp2_with fail
    go_ret
    exact ⟨rfl, B3.out⟩
end Go.Proofs.YtdpkgjahcapleaaGreat
