/- ShY: a part of its proof (contracts of the functions that it reaches, and the plain mathematics behind them). -/
import Derived.Test.YtepgkimlmoikmaaGreatShY41
import Derived.Test.YtepgkimlmoikmaaGreatShY45
set_option linter.unusedVariables false
set_option linter.unusedSimpArgs false
set_option maxHeartbeats 2000000
set_option maxRecDepth 100000
set_option linter.unusedVariables false
set_option linter.unusedSimpArgs false
namespace Go.Proofs.YtepgkimlmoikmaaGreat
open Go.RowKit Go.Proofs.YtepgkimlmoikmaaGreat.Spec Go.Proofs.YtepgkimlmoikmaaGreatW.PrintWords Go.Proofs.YtepgkimlmoikmaaGreatW.PrintLast
open Go.Proofs.YtepgkimlmoikmaaGreatW.PrintMore
attribute [local go_sem ↓] Go.wp_at_zero Go.wp_at_succ
attribute [local go_sem] max2_int min2_int max_two min_two
theorem nil_y {b : ByteArray} (h : ¬ 1 ≤ b.size) : b.toList.isEmpty = true := by
 have : u b = [] := List.length_eq_zero_iff.1 (by rw [u_size]; omega)
 have hb : b = ⟨#[]⟩ := u_inj this
 rw [hb]
 decide +kernel
theorem nil_y2 {b : ByteArray} (h : ¬ 1 ≤ b.size) : b.toList = [] := List.isEmpty_iff.1 (nil_y h)
theorem nil_n2 {b : ByteArray} (h : 1 ≤ b.size) : ¬ b.toList = [] := fun e => by
 have := not_nil h
 rw [e] at this
 cases this
theorem assoc4 (a b c d : ByteArray) : (a ++ (b ++ c)) ++ d = a ++ (b ++ (c ++ d)) := by rw [ba_assoc, ba_assoc]
theorem coderTotals_walk (A : Option Addr) (c : Nat) (l : List ByteArray) (p q k wd : Nat) (b : ByteArray) (z : Int) (more : ByteArray) (w : World) (hr : StrsIn w A l) (hc : l.length ≤ c) (h16 : l.length * 16 ≤ 140737488351232) (hs : ∀ s ∈ l, s.size ≤ 140737488351232) (hG : Given l ⟨#[]⟩) (hC : cfgB p q k wd = true) (hf0 : b.size ≤ 500) (hf1 : z ≠ 0) (hf2 : -100 ≤ z) (hf3 : z ≤ 100000) (hf4 : 1 ≤ more.size) (hf5 : more.size ≤ 60) {T : Nat → Int} (hT : TabAt w T) :
  Calls Tryz.prog 16 #[.slice A l.length c, .agg #[.int .i64 (p : Int), .int .i64 (q : Int), .int .i64 (k : Int), .int .i64 (wd : Int)], .string b, .int .i64 z, .string more] w fun e w' => e = .returned (.bool true) ∧ Below w.heap.size w w' := by
 have HAL := Aside0.mk (fun W => alive24_any W)
 have HRC := Aside0.mk (fun W => rconf_calls p q k wd W)
 have HR := Aside0.mk hr
 have HTA := Aside0.mk hT
 have s0 : (w.alloc (.cells #[.int .i64 p, .int .i64 q, .int .i64 k, .int .i64 wd] 24)).cell? ⟨w.heap.size, 0, none⟩ = some (.int .i64 p) := by simp
 have s1 : (w.alloc (.cells #[.int .i64 p, .int .i64 q, .int .i64 k, .int .i64 wd] 24)).cell? ⟨w.heap.size, 1, none⟩ = some (.int .i64 q) := by simp
 have s2 : (w.alloc (.cells #[.int .i64 p, .int .i64 q, .int .i64 k, .int .i64 wd] 24)).cell? ⟨w.heap.size, 2, none⟩ = some (.int .i64 k) := by simp
 have s3 : (w.alloc (.cells #[.int .i64 p, .int .i64 q, .int .i64 k, .int .i64 wd] 24)).cell? ⟨w.heap.size, 3, none⟩ = some (.int .i64 wd) := by simp
 have B0 := Aside0.mk ((Below.refl w.heap.size w).alloc (Nat.le_refl _) (.cells #[.int .i64 p, .int .i64 q, .int .i64 k, .int .i64 wd] 24))
 have HD := Aside0.mk (fun (W : World) (hr : StrsIn W A l) => dict24_yes l W hr hc (by omega) hs hG)
 obtain ⟨hl, hss⟩ := phrases_sizes hG.2.2
 obtain ⟨b1, b2, b3, b4, b5⟩ := cfg_bounds hC
 have HC := Aside0.mk hC
 have v0 : decide ((500 : Int) < (b.size : Int)) = false := decide_eq_false (by omega)
 have v1 : decide (500 < b.size) = false := decide_eq_false (by omega)
 have v2 : (z == (0 : Int)) = false := beq_eq_false_iff_ne.2 hf1
 have v3 : decide (z < -100) = false := decide_eq_false (by omega)
 have v4 : decide (100000 < z) = false := decide_eq_false (by omega)
 have v5 := not_nil hf4
 have v6 := nil_n2 hf4
 have v7 : decide ((60 : Int) < (more.size : Int)) = false := decide_eq_false (by omega)
 have v8 : decide (60 < more.size) = false := decide_eq_false (by omega)
 have hok := chk_bounds b3.1 b
 have hcat := chk_cat b3.1 b
 have hp := payOk hl hss hC
 have hbz := blksS_small hp _ hok
 have hE := encS_is l q k (putR l p q wd) b
 have hF1 := full_shut b2 b3 hp _ hok (by rw [hcat]; omega) more
 have hF2 := fun (n : Nat) (hn : n < 4294967296) (hne : n ≠ b.size) => full_length b2 b3 hp _ hok hn (by rw [hcat]; exact hne) (by rw [hcat]; omega) ⟨#[]⟩
 rw [hcat] at hbz hF1
 simp only [hcat, ba_append_nil] at hF2
 have hEN := fun (W : World) (ad : Addr) (h : DictAt W (.pointer (some ad)) l) => encode_any h rfl hl hss hC (putOk hl hss hC (eNew p q k wd) ⟨rfl, rfl, rfl, rfl⟩) b (by omega)
 have hhz := headS_size q k (Idn l)
 rw [hE] at hEN
 generalize blksS (putR l p q wd) ((chk k b).1 ++ lastB (chk k b).2) = BB at *
 generalize headS q k (Idn l) = H at *
 have hez := endS_size b.size
 have hEz : (H ++ (BB ++ endS b.size)).size = 22 + BB.size := by rw [ByteArray.size_append, ByteArray.size_append]; omega
 have hPz : (H ++ BB).size = 17 + BB.size := by rw [ByteArray.size_append]; omega
 have hcut : (H ++ (BB ++ endS b.size)).extract 0 (17 + BB.size) = H ++ BB := by
  have := ext_front (H ++ BB) (endS b.size)
  rw [hPz, ba_assoc] at this
  exact this
 rw [← assoc4, if_pos (show 0 < more.size by omega)] at hF1
 have hF2' : ∀ n : Nat, n < 4294967296 → n ≠ b.size → full l (H ++ BB ++ endS n) = ⟨b, 17 + BB.size, 12, false⟩ := fun n h1 h2 => by rw [ba_assoc]; exact hF2 n h1 h2
 have HDC : Aside0 (∀ (W : World) (ad : Addr), DictAt W (.pointer (some ad)) l → Calls Tryz.prog 64 #[.pointer (some ad), .string (H ++ (BB ++ endS b.size) ++ more)] W fun e w' => e = .returned (.tuple #[.string ⟨#[]⟩, errV 13 ((22 + BB.size : Nat) : Int)]) ∧ Below W.heap.size W w') := ⟨fun W ad hd => by
  have h := decode_any hd rfl hl hss (H ++ (BB ++ endS b.size) ++ more) (by rw [ByteArray.size_append]; omega)
  rw [hF1] at h
  rw [show 22 + BB.size = 17 + BB.size + 5 by omega]
  exact h⟩
 have HFD : Aside0 (∀ (W : World) (ad : Addr) (n : Nat), n < 4294967296 → n ≠ b.size → DictAt W (.pointer (some ad)) l → TabAt W T → Calls Tryz.prog 63 #[.pointer (some ad), .string (H ++ BB ++ endS n), .slice none 0 0] W fun e w' => e = .returned (.tuple #[.string b, errV 12 ((17 + BB.size : Nat) : Int), .bool true]) ∧ Below W.heap.size W w') := ⟨fun W ad n h1 h2 hd h3 => by
  have h := feed24_any hd hl hss (H ++ BB ++ endS n) (by rw [ByteArray.size_append, endS_size]; omega) (A := none) (cc := 0) [] (Kd.C_nil _ _) (Nat.le_refl _) (by simp) h3
  rw [hF2' n h1 h2] at h
  exact h⟩
 have HEN := Aside0.mk hEN
 have HCUT := Aside0.mk hcut
 have hmz : ¬ 9223372036854775807 < (H ++ (BB ++ endS b.size)).size + more.size := by omega
 have HBZ := Aside0.mk (And.intro hbz (And.intro hPz hEz))
 generalize hXE : H ++ (BB ++ endS b.size) = X at *
 have HZX : Aside0 ((X.size : Int) = 22 + (BB.size : Int)) := ⟨by omega⟩
 have zX2 : (X.size : Int) ≤ 5022 := by omega
 have zX3 : 22 ≤ (X.size : Int) := by omega
 have d1 : decide ((X.size : Int) < 5) = false := decide_eq_false (by omega)
 have d2 : decide (X.size < 5) = false := decide_eq_false (by omega)
 clear hl hss b1 b2 b3 b4 b5 hC hok hcat hp hE hF1 hF2 hF2' hEN hhz hez hcut hXE hf4 hbz hPz hEz
 clear hr hc h16 hs hG
 go_enter Tryz.func16, Tryz.ntmps16
 go_wp2_with fail
 refine (HD.out _ (Kd.C_below HR.out B0.out)).mono ?_
 rintro e w1 ⟨ad, rfl, hd, hb1⟩
 have s0 := pw_cell_below hb1 s0
 have s1 := pw_cell_below hb1 s1
 have s2 := pw_cell_below hb1 s2
 have s3 := pw_cell_below hb1 s3
 have B1 := Aside0.mk (below_step B0.out hb1)
 have D1 := Aside0.mk hd
 clear hb1 hd
 go_wp2_with fail
 refine (HRC.out _).mono ?_
 rw [HC.out]
 rintro e w2 ⟨rfl, hb2⟩
 have s0 := pw_cell_below hb2 s0
 have s1 := pw_cell_below hb2 s1
 have s2 := pw_cell_below hb2 s2
 have s3 := pw_cell_below hb2 s3
 have B2 := Aside0.mk (below_step B1.out hb2)
 have D2 := Aside0.mk (D1.out.below hb2)
 clear hb2
 go_wp2_with fail
 refine (HAL.out _).mono ?_
 rintro e w3 ⟨rfl, hb3⟩
 have s0 := pw_cell_below hb3 s0
 have s1 := pw_cell_below hb3 s1
 have s2 := pw_cell_below hb3 s2
 have s3 := pw_cell_below hb3 s3
 have B3 := Aside0.mk (below_step B2.out hb3)
 have D3 := Aside0.mk (D2.out.below hb3)
 clear hb3
 go_wp2_with fail
 refine (HEN.out _ _ D3.out).mono ?_
 rintro e w4 ⟨rfl, hb4⟩
 have B4 := Aside0.mk (below_step B3.out hb4)
 have D4 := Aside0.mk (D3.out.below hb4)
 clear hb4
 go_wp2_with fail
 refine (HDC.out _ _ D4.out).mono ?_
 rintro e w5 ⟨rfl, hb5⟩
 have B5 := Aside0.mk (below_step B4.out hb5)
 have D5 := Aside0.mk (D4.out.below hb5)
 clear hb5
 go_wp2_with fail
 refine (told24_any 13 ((22 + BB.size : Nat) : Int) 13 (X.size : Int) _).mono ?_
 rintro e w6 ⟨rfl, hb6⟩
 have ht : toldB 13 ((22 + BB.size : Nat) : Int) 13 (X.size : Int) = true := by
  unfold toldB
  rw [if_neg (by decide), show (((22 + BB.size : Nat) : Int) == (X.size : Int)) = true from beq_iff_eq.2 (by have := HZX.out; omega)]
  rfl
 rw [ht]
 have B6 := Aside0.mk (below_step B5.out hb6)
 have D6 := Aside0.mk (D5.out.below hb6)
 clear hb6 ht
 have qz : wrap64 ((b.size : Int) + z) = (b.size : Int) + z := Bridge.wr (by omega) (by omega)
 have qz2 : IntKind.i64.wrap ((b.size : Int) + z) = (b.size : Int) + z := IntWalk.i64_in _ (by omega)
 by_cases hneg : (b.size : Int) + z < 0
 ·have e1 : decide ((b.size : Int) + z < 0) = true := decide_eq_true hneg
  clear hf0 hf2 hf3
  go_wp2_with fail
  go_ret
  exact ⟨rfl, B6.out⟩
 ·have e1 : decide ((b.size : Int) + z < 0) = false := decide_eq_false hneg
  obtain ⟨n, hn⟩ : ∃ n : Nat, (b.size : Int) + z = (n : Int) := ⟨((b.size : Int) + z).toNat, by omega⟩
  have HNB := Aside0.mk (show n < 4294967296 ∧ n ≠ b.size by omega)
  have HRE := Aside0.mk (fun W => rframe_end n (by omega) W)
  have hez := endS_size n
  rw [hn] at qz qz2 e1
  have HEZ := Aside0.mk hez
  have zE : ((endS n).size : Int) ≤ 5 := by omega
  clear hez
  go_wp2_with fail
  refine (HRE.out _).mono ?_
  rintro e w7 ⟨rfl, hb7⟩
  have B7 := Aside0.mk (below_step B6.out hb7)
  have D7 := Aside0.mk (D6.out.below hb7)
  clear hb7
  have q5 : wrap64 ((X.size : Int) - 5) = (X.size : Int) - 5 := Bridge.wr (by omega) (by omega)
  have q6 : IntKind.i64.wrap ((X.size : Int) - 5) = (X.size : Int) - 5 := IntWalk.i64_in _ (by omega)
  have b1 : (0 : Int) ≤ (X.size : Int) - 5 := by omega
  have b2 : (X.size : Int) - 5 ≤ (X.size : Int) := by omega
  have hx5 : X.extract 0 ((X.size : Int) - 5).toNat = H ++ BB := by rw [show ((X.size : Int) - 5).toNat = 17 + BB.size by have := HZX.out; omega]; exact HCUT.out
  have hu : ¬ 9223372036854775807 < (H ++ BB).size + (endS n).size := by have := HBZ.out.2.1; have := HBZ.out.1; omega
  clear hf0 hf1 hf2 hf3
  go_wp2_with fail
  refine (HFD.out _ _ n HNB.out.1 HNB.out.2 D7.out (HTA.out.below B7.out)).mono ?_
  rintro e w8 ⟨rfl, hb8⟩
  have B8 := Aside0.mk (below_step B7.out hb8)
  have e8 : (b.toList == b.toList) = true := beq_self_eq_true _
  clear hb8
  go_wp2_with fail
  refine (told24_any 12 ((17 + BB.size : Nat) : Int) 12 ((X.size : Int) - 5) _).mono ?_
  rintro e w9 ⟨rfl, hb9⟩
  have ht : toldB 12 ((17 + BB.size : Nat) : Int) 12 ((X.size : Int) - 5) = true := by
   unfold toldB
   rw [if_neg (by decide), show (((17 + BB.size : Nat) : Int) == (X.size : Int) - 5) = true from beq_iff_eq.2 (by have := HZX.out; omega)]
   rfl
  rw [ht]
  have B9 := Aside0.mk (below_step B8.out hb9)
  clear hb9 ht
  go_wp2_with fail
  go_ret
  exact ⟨rfl, B9.out⟩
theorem coderTotals_law (A : Option Addr) (c : Nat) (l : List ByteArray) (p q k wd : Int) (b : ByteArray) (z : Int) (more : ByteArray) (w : World) (hr : StrsIn w A l) (hc : l.length ≤ c) (h16 : l.length * 16 ≤ 140737488351232) (hs : ∀ s ∈ l, s.size ≤ 140737488351232) (hb : b.size ≤ 140737488351232) (hn : (Lit.int .i64 z).wf = true) (hm : more.size ≤ 140737488351232) {T : Nat → Int} (hT : TabAt w T) :
  Calls Tryz.prog 16 #[.slice A l.length c, .agg #[.int .i64 p, .int .i64 q, .int .i64 k, .int .i64 wd], .string b, .int .i64 z, .string more] w fun e w' => e = .returned (.bool true) ∧ Below w.heap.size w w' := by
 have HRC := Aside0.mk (fun W => rconf_calls p q k wd W)
 have s0 : (w.alloc (.cells #[.int .i64 p, .int .i64 q, .int .i64 k, .int .i64 wd] 24)).cell? ⟨w.heap.size, 0, none⟩ = some (.int .i64 p) := by simp
 have s1 : (w.alloc (.cells #[.int .i64 p, .int .i64 q, .int .i64 k, .int .i64 wd] 24)).cell? ⟨w.heap.size, 1, none⟩ = some (.int .i64 q) := by simp
 have s2 : (w.alloc (.cells #[.int .i64 p, .int .i64 q, .int .i64 k, .int .i64 wd] 24)).cell? ⟨w.heap.size, 2, none⟩ = some (.int .i64 k) := by simp
 have s3 : (w.alloc (.cells #[.int .i64 p, .int .i64 q, .int .i64 k, .int .i64 wd] 24)).cell? ⟨w.heap.size, 3, none⟩ = some (.int .i64 wd) := by simp
 have B0 := Aside0.mk ((Below.refl w.heap.size w).alloc (Nat.le_refl _) (.cells #[.int .i64 p, .int .i64 q, .int .i64 k, .int .i64 wd] 24))
 by_cases hG : Given l ⟨#[]⟩
 ·by_cases hC : cfgB p q k wd = true
  ·obtain ⟨hp, hq, hk, hwd⟩ : (0 ≤ p) ∧ (0 ≤ q ∧ q ≤ 1) ∧ (1 ≤ k ∧ k ≤ 1024) ∧ 0 ≤ wd := by
    have hC := hC
    unfold cfgB at hC
    rw [decide_eq_true_iff] at hC
    omega
   obtain ⟨pn, rfl⟩ := Int.eq_ofNat_of_zero_le hp
   obtain ⟨qn, rfl⟩ := Int.eq_ofNat_of_zero_le hq.1
   obtain ⟨kn, rfl⟩ := Int.eq_ofNat_of_zero_le (show 0 ≤ k by omega)
   obtain ⟨wn, rfl⟩ := Int.eq_ofNat_of_zero_le hwd
   by_cases hf0 : b.size ≤ 500
   ·skip
    by_cases hf1 : z ≠ 0
    ·skip
     by_cases hf2 : -100 ≤ z
     ·skip
      by_cases hf3 : z ≤ 100000
      ·skip
       by_cases hf4 : 1 ≤ more.size
       ·skip
        by_cases hf5 : more.size ≤ 60
        ·skip
         exact coderTotals_walk A c l pn qn kn wn b z more w hr hc h16 hs hG hC hf0 hf1 hf2 hf3 hf4 hf5 hT
        ·have HD := Aside0.mk (fun (W : World) (hr : StrsIn W A l) => dict24_yes l W hr hc (by omega) hs hG)
         have HC := Aside0.mk hC
         have v0 : decide ((500 : Int) < (b.size : Int)) = false := decide_eq_false (by omega)
         have v1 : decide (500 < b.size) = false := decide_eq_false (by omega)
         have v2 : (z == (0 : Int)) = false := beq_eq_false_iff_ne.2 (by omega)
         have v3 : decide (z < -100) = false := decide_eq_false (by omega)
         have v4 : decide (100000 < z) = false := decide_eq_false (by omega)
         have v5 : more.toList.isEmpty = false := not_nil (by omega)
         have v6 : ¬ more.toList = [] := nil_n2 (by omega)
         have v7 : decide ((60 : Int) < (more.size : Int)) = true := decide_eq_true (by omega)
         have v8 : decide (60 < more.size) = true := decide_eq_true (by omega)
         clear hp hq hk hwd hC hG hs h16 hc
         clear hf0 hf1 hf2 hf3 hf4 hf5
         have HAL := Aside0.mk (fun W => alive24_any W)
         have HR := Aside0.mk hr
         clear hr
         go_enter Tryz.func16, Tryz.ntmps16
         go_wp2_with fail
         refine (HD.out _ (Kd.C_below HR.out B0.out)).mono ?_
         rintro e w1 ⟨ad, rfl, hd, hb1⟩
         have s0 := pw_cell_below hb1 s0
         have s1 := pw_cell_below hb1 s1
         have s2 := pw_cell_below hb1 s2
         have s3 := pw_cell_below hb1 s3
         have B1 := Aside0.mk (below_step B0.out hb1)
         have D1 := Aside0.mk hd
         clear hb1 hd
         go_wp2_with fail
         refine (HRC.out _).mono ?_
         rw [HC.out]
         rintro e w2 ⟨rfl, hb2⟩
         have s0 := pw_cell_below hb2 s0
         have s1 := pw_cell_below hb2 s1
         have s2 := pw_cell_below hb2 s2
         have s3 := pw_cell_below hb2 s3
         have B2 := Aside0.mk (below_step B1.out hb2)
         have D2 := Aside0.mk (D1.out.below hb2)
         clear hb2
         go_wp2_with fail
         refine (HAL.out _).mono ?_
         rintro e w3 ⟨rfl, hb3⟩
         have s0 := pw_cell_below hb3 s0
         have s1 := pw_cell_below hb3 s1
         have s2 := pw_cell_below hb3 s2
         have s3 := pw_cell_below hb3 s3
         have B3 := Aside0.mk (below_step B2.out hb3)
         have D3 := Aside0.mk (D2.out.below hb3)
         clear hb3
         go_wp2_with fail
         go_ret
         exact ⟨rfl, B3.out⟩
       ·have HD := Aside0.mk (fun (W : World) (hr : StrsIn W A l) => dict24_yes l W hr hc (by omega) hs hG)
        have HC := Aside0.mk hC
        have v0 : decide ((500 : Int) < (b.size : Int)) = false := decide_eq_false (by omega)
        have v1 : decide (500 < b.size) = false := decide_eq_false (by omega)
        have v2 : (z == (0 : Int)) = false := beq_eq_false_iff_ne.2 (by omega)
        have v3 : decide (z < -100) = false := decide_eq_false (by omega)
        have v4 : decide (100000 < z) = false := decide_eq_false (by omega)
        have v5 : more.toList.isEmpty = true := nil_y (by omega)
        have v6 : more.toList = [] := nil_y2 (by omega)
        clear hp hq hk hwd hC hG hs h16 hc
        clear hf0 hf1 hf2 hf3 hf4
        have HAL := Aside0.mk (fun W => alive24_any W)
        have HR := Aside0.mk hr
        clear hr
        go_enter Tryz.func16, Tryz.ntmps16
        go_wp2_with fail
        refine (HD.out _ (Kd.C_below HR.out B0.out)).mono ?_
        rintro e w1 ⟨ad, rfl, hd, hb1⟩
        have s0 := pw_cell_below hb1 s0
        have s1 := pw_cell_below hb1 s1
        have s2 := pw_cell_below hb1 s2
        have s3 := pw_cell_below hb1 s3
        have B1 := Aside0.mk (below_step B0.out hb1)
        have D1 := Aside0.mk hd
        clear hb1 hd
        go_wp2_with fail
        refine (HRC.out _).mono ?_
        rw [HC.out]
        rintro e w2 ⟨rfl, hb2⟩
        have s0 := pw_cell_below hb2 s0
        have s1 := pw_cell_below hb2 s1
        have s2 := pw_cell_below hb2 s2
        have s3 := pw_cell_below hb2 s3
        have B2 := Aside0.mk (below_step B1.out hb2)
        have D2 := Aside0.mk (D1.out.below hb2)
        clear hb2
        go_wp2_with fail
        refine (HAL.out _).mono ?_
        rintro e w3 ⟨rfl, hb3⟩
        have s0 := pw_cell_below hb3 s0
        have s1 := pw_cell_below hb3 s1
        have s2 := pw_cell_below hb3 s2
        have s3 := pw_cell_below hb3 s3
        have B3 := Aside0.mk (below_step B2.out hb3)
        have D3 := Aside0.mk (D2.out.below hb3)
        clear hb3
        go_wp2_with fail
        go_ret
        exact ⟨rfl, B3.out⟩
      ·have HD := Aside0.mk (fun (W : World) (hr : StrsIn W A l) => dict24_yes l W hr hc (by omega) hs hG)
       have HC := Aside0.mk hC
       have v0 : decide ((500 : Int) < (b.size : Int)) = false := decide_eq_false (by omega)
       have v1 : decide (500 < b.size) = false := decide_eq_false (by omega)
       have v2 : (z == (0 : Int)) = false := beq_eq_false_iff_ne.2 (by omega)
       have v3 : decide (z < -100) = false := decide_eq_false (by omega)
       have v4 : decide (100000 < z) = true := decide_eq_true (by omega)
       clear hp hq hk hwd hC hG hs h16 hc
       clear hf0 hf1 hf2 hf3
       have HAL := Aside0.mk (fun W => alive24_any W)
       have HR := Aside0.mk hr
       clear hr
       go_enter Tryz.func16, Tryz.ntmps16
       go_wp2_with fail
       refine (HD.out _ (Kd.C_below HR.out B0.out)).mono ?_
       rintro e w1 ⟨ad, rfl, hd, hb1⟩
       have s0 := pw_cell_below hb1 s0
       have s1 := pw_cell_below hb1 s1
       have s2 := pw_cell_below hb1 s2
       have s3 := pw_cell_below hb1 s3
       have B1 := Aside0.mk (below_step B0.out hb1)
       have D1 := Aside0.mk hd
       clear hb1 hd
       go_wp2_with fail
       refine (HRC.out _).mono ?_
       rw [HC.out]
       rintro e w2 ⟨rfl, hb2⟩
       have s0 := pw_cell_below hb2 s0
       have s1 := pw_cell_below hb2 s1
       have s2 := pw_cell_below hb2 s2
       have s3 := pw_cell_below hb2 s3
       have B2 := Aside0.mk (below_step B1.out hb2)
       have D2 := Aside0.mk (D1.out.below hb2)
       clear hb2
       go_wp2_with fail
       refine (HAL.out _).mono ?_
       rintro e w3 ⟨rfl, hb3⟩
       have s0 := pw_cell_below hb3 s0
       have s1 := pw_cell_below hb3 s1
       have s2 := pw_cell_below hb3 s2
       have s3 := pw_cell_below hb3 s3
       have B3 := Aside0.mk (below_step B2.out hb3)
       have D3 := Aside0.mk (D2.out.below hb3)
       clear hb3
       go_wp2_with fail
       go_ret
       exact ⟨rfl, B3.out⟩
     ·have HD := Aside0.mk (fun (W : World) (hr : StrsIn W A l) => dict24_yes l W hr hc (by omega) hs hG)
      have HC := Aside0.mk hC
      have v0 : decide ((500 : Int) < (b.size : Int)) = false := decide_eq_false (by omega)
      have v1 : decide (500 < b.size) = false := decide_eq_false (by omega)
      have v2 : (z == (0 : Int)) = false := beq_eq_false_iff_ne.2 (by omega)
      have v3 : decide (z < -100) = true := decide_eq_true (by omega)
      clear hp hq hk hwd hC hG hs h16 hc
      clear hf0 hf1 hf2
      have HAL := Aside0.mk (fun W => alive24_any W)
      have HR := Aside0.mk hr
      clear hr
      go_enter Tryz.func16, Tryz.ntmps16
      go_wp2_with fail
      refine (HD.out _ (Kd.C_below HR.out B0.out)).mono ?_
      rintro e w1 ⟨ad, rfl, hd, hb1⟩
      have s0 := pw_cell_below hb1 s0
      have s1 := pw_cell_below hb1 s1
      have s2 := pw_cell_below hb1 s2
      have s3 := pw_cell_below hb1 s3
      have B1 := Aside0.mk (below_step B0.out hb1)
      have D1 := Aside0.mk hd
      clear hb1 hd
      go_wp2_with fail
      refine (HRC.out _).mono ?_
      rw [HC.out]
      rintro e w2 ⟨rfl, hb2⟩
      have s0 := pw_cell_below hb2 s0
      have s1 := pw_cell_below hb2 s1
      have s2 := pw_cell_below hb2 s2
      have s3 := pw_cell_below hb2 s3
      have B2 := Aside0.mk (below_step B1.out hb2)
      have D2 := Aside0.mk (D1.out.below hb2)
      clear hb2
      go_wp2_with fail
      refine (HAL.out _).mono ?_
      rintro e w3 ⟨rfl, hb3⟩
      have s0 := pw_cell_below hb3 s0
      have s1 := pw_cell_below hb3 s1
      have s2 := pw_cell_below hb3 s2
      have s3 := pw_cell_below hb3 s3
      have B3 := Aside0.mk (below_step B2.out hb3)
      have D3 := Aside0.mk (D2.out.below hb3)
      clear hb3
      go_wp2_with fail
      go_ret
      exact ⟨rfl, B3.out⟩
    ·have HD := Aside0.mk (fun (W : World) (hr : StrsIn W A l) => dict24_yes l W hr hc (by omega) hs hG)
     have HC := Aside0.mk hC
     have v0 : decide ((500 : Int) < (b.size : Int)) = false := decide_eq_false (by omega)
     have v1 : decide (500 < b.size) = false := decide_eq_false (by omega)
     have v2 : (z == (0 : Int)) = true := beq_iff_eq.2 (by omega)
     clear hp hq hk hwd hC hG hs h16 hc
     clear hf0 hf1
     have HAL := Aside0.mk (fun W => alive24_any W)
     have HR := Aside0.mk hr
     clear hr
     go_enter Tryz.func16, Tryz.ntmps16
     go_wp2_with fail
     refine (HD.out _ (Kd.C_below HR.out B0.out)).mono ?_
     rintro e w1 ⟨ad, rfl, hd, hb1⟩
     have s0 := pw_cell_below hb1 s0
     have s1 := pw_cell_below hb1 s1
     have s2 := pw_cell_below hb1 s2
     have s3 := pw_cell_below hb1 s3
     have B1 := Aside0.mk (below_step B0.out hb1)
     have D1 := Aside0.mk hd
     clear hb1 hd
     go_wp2_with fail
     refine (HRC.out _).mono ?_
     rw [HC.out]
     rintro e w2 ⟨rfl, hb2⟩
     have s0 := pw_cell_below hb2 s0
     have s1 := pw_cell_below hb2 s1
     have s2 := pw_cell_below hb2 s2
     have s3 := pw_cell_below hb2 s3
     have B2 := Aside0.mk (below_step B1.out hb2)
     have D2 := Aside0.mk (D1.out.below hb2)
     clear hb2
     go_wp2_with fail
     refine (HAL.out _).mono ?_
     rintro e w3 ⟨rfl, hb3⟩
     have s0 := pw_cell_below hb3 s0
     have s1 := pw_cell_below hb3 s1
     have s2 := pw_cell_below hb3 s2
     have s3 := pw_cell_below hb3 s3
     have B3 := Aside0.mk (below_step B2.out hb3)
     have D3 := Aside0.mk (D2.out.below hb3)
     clear hb3
     go_wp2_with fail
     go_ret
     exact ⟨rfl, B3.out⟩
   ·have HD := Aside0.mk (fun (W : World) (hr : StrsIn W A l) => dict24_yes l W hr hc (by omega) hs hG)
    have HC := Aside0.mk hC
    have v0 : decide ((500 : Int) < (b.size : Int)) = true := decide_eq_true (by omega)
    have v1 : decide (500 < b.size) = true := decide_eq_true (by omega)
    clear hp hq hk hwd hC hG hs h16 hc
    clear hf0
    have HAL := Aside0.mk (fun W => alive24_any W)
    have HR := Aside0.mk hr
    clear hr
    go_enter Tryz.func16, Tryz.ntmps16
    go_wp2_with fail
    refine (HD.out _ (Kd.C_below HR.out B0.out)).mono ?_
    rintro e w1 ⟨ad, rfl, hd, hb1⟩
    have s0 := pw_cell_below hb1 s0
    have s1 := pw_cell_below hb1 s1
    have s2 := pw_cell_below hb1 s2
    have s3 := pw_cell_below hb1 s3
    have B1 := Aside0.mk (below_step B0.out hb1)
    have D1 := Aside0.mk hd
    clear hb1 hd
    go_wp2_with fail
    refine (HRC.out _).mono ?_
    rw [HC.out]
    rintro e w2 ⟨rfl, hb2⟩
    have s0 := pw_cell_below hb2 s0
    have s1 := pw_cell_below hb2 s1
    have s2 := pw_cell_below hb2 s2
    have s3 := pw_cell_below hb2 s3
    have B2 := Aside0.mk (below_step B1.out hb2)
    have D2 := Aside0.mk (D1.out.below hb2)
    clear hb2
    go_wp2_with fail
    refine (HAL.out _).mono ?_
    rintro e w3 ⟨rfl, hb3⟩
    have s0 := pw_cell_below hb3 s0
    have s1 := pw_cell_below hb3 s1
    have s2 := pw_cell_below hb3 s2
    have s3 := pw_cell_below hb3 s3
    have B3 := Aside0.mk (below_step B2.out hb3)
    have D3 := Aside0.mk (D2.out.below hb3)
    clear hb3
    go_wp2_with fail
    go_ret
    exact ⟨rfl, B3.out⟩
  ·have HD := Aside0.mk (fun (W : World) (hr : StrsIn W A l) => dict24_yes l W hr hc (by omega) hs hG)
   have HC := Aside0.mk (Bool.eq_false_iff.2 hC)
   clear hC hG hs h16 hc
   have HAL := Aside0.mk (fun W => alive24_any W)
   have HR := Aside0.mk hr
   clear hr
   go_enter Tryz.func16, Tryz.ntmps16
   go_wp2_with fail
   refine (HD.out _ (Kd.C_below HR.out B0.out)).mono ?_
   rintro e w1 ⟨ad, rfl, hd, hb1⟩
   have s0 := pw_cell_below hb1 s0
   have s1 := pw_cell_below hb1 s1
   have s2 := pw_cell_below hb1 s2
   have s3 := pw_cell_below hb1 s3
   have B1 := Aside0.mk (below_step B0.out hb1)
   have D1 := Aside0.mk hd
   clear hb1 hd
   go_wp2_with fail
   refine (HRC.out _).mono ?_
   rw [HC.out]
   rintro e w2 ⟨rfl, hb2⟩
   have s0 := pw_cell_below hb2 s0
   have s1 := pw_cell_below hb2 s1
   have s2 := pw_cell_below hb2 s2
   have s3 := pw_cell_below hb2 s3
   have B2 := Aside0.mk (below_step B1.out hb2)
   have D2 := Aside0.mk (D1.out.below hb2)
   clear hb2
   go_wp2_with fail
   refine (HAL.out _).mono ?_
   rintro e w3 ⟨rfl, hb3⟩
   have s0 := pw_cell_below hb3 s0
   have s1 := pw_cell_below hb3 s1
   have s2 := pw_cell_below hb3 s2
   have s3 := pw_cell_below hb3 s3
   have B3 := Aside0.mk (below_step B2.out hb3)
   have D3 := Aside0.mk (D2.out.below hb3)
   clear hb3
   go_wp2_with fail
   go_ret
   exact ⟨rfl, B3.out⟩
 ·have HD := Aside0.mk (fun (W : World) (hr : StrsIn W A l) => dict24_no l W hr hc (by omega) hs hG)
  clear hG hs h16 hc
  have HAL := Aside0.mk (fun W => alive24_any W)
  have HR := Aside0.mk hr
  clear hr
  go_enter Tryz.func16, Tryz.ntmps16
  go_wp2_with fail
  refine (HD.out _ (Kd.C_below HR.out B0.out)).mono ?_
  rintro e w1 ⟨rfl, hb1⟩
  have B1 := Aside0.mk (below_step B0.out hb1)
  clear hb1
  go_wp2_with fail
  refine (HAL.out _).mono ?_
  rintro e w3 ⟨rfl, hb3⟩
  have B3 := Aside0.mk (below_step B1.out hb3)
  clear hb3
  go_wp2_with fail
  go_ret
  exact ⟨rfl, B3.out⟩
end Go.Proofs.YtepgkimlmoikmaaGreat
