/- DictFirst: for every phrases the law DictFirst (P601) returns true; no condition. -/
import Derived.Test.YtbnoeoghhbhhcaaDictH
set_option linter.unusedVariables false
set_option linter.unusedSimpArgs false
namespace Go.Proofs.Ytbnoeoghhbhhcaa
open Go.RowKit Go.Proofs.Ytbnoeoghhbhhcaa.Spec Go.Proofs.YtbnoeoghhbhhcaaW.PrintWords Go.Proofs.YtbnoeoghhbhhcaaW.PrintLast
open Go.Proofs.YtbnoeoghhbhhcaaW.PrintMore
theorem strs_part {w : World} {A : Option Addr} {l a t : List ByteArray} (h : StrsIn w A l) (e : l = a ++ t) : StrsIn w A a := by
  have h1 := Kd.reads_of_C (enc := Value.string) (d := ByteArray.empty) (h1 := fun _ => rfl) h
  obtain ⟨_, h3, h4⟩ := h1
  have hle : a.length ≤ l.length := by rw [e, List.length_append]; omega
  refine Kd.C_of_reads (enc := Value.string) (d := ByteArray.empty) (h1 := fun _ => rfl) ⟨rfl, by omega, fun hn => ?_⟩
  obtain ⟨ad, hA, hc⟩ := h4 (by omega)
  refine ⟨ad, hA, fun j hj => ?_⟩
  rw [hc j (by omega)]
  congr 2
  rw [e, List.getD_eq_getElem?_getD, List.getD_eq_getElem?_getD, List.getElem?_append_left hj]
theorem method_error (x y : Int) (w : World) : (method 247 33 (.agg #[.int .i64 x, .int .i64 y]) "Error").run Try.prog w = .ok (100, .agg #[.int .i64 x, .int .i64 y]) w := by kernel_rfl
set_option maxHeartbeats 2000000 in
set_option maxRecDepth 100000 in
theorem first_tail (A : Option Addr) (c : Nat) (l : List ByteArray) (w : World) (hr : StrsIn w A l) (hc : l.length ≤ c) (h16 : l.length * 16 ≤ 140737488351232) (hsz : ∀ s ∈ l, s.size ≤ 140737488351232) (hfew : Bridge.few l = true) (h100 : l.length ≤ 100) :
    Calls Try.prog 12 #[.slice A l.length c] w fun e w' => e = .returned (.bool true) ∧ Below w.heap.size w w' := by
  have HF := Aside0.mk (few_calls l hr hc (by omega) hsz)
  rw [hfew] at HF
  have HR := Aside0.mk hr
  have HC := Aside0.mk hc
  have m1 : decide ((100 : Int) < (l.length : Int)) = false := decide_eq_false (by omega)
  clear hr hfew
  by_cases hp : (phrases l).1 = 0
  · go_enter Try.func12, Try.ntmps12
    go_wp2_with fail
    refine HF.out.mono ?_
    rintro e w1 ⟨rfl, hd1⟩
    have H1 := Aside0.mk hd1.below
    clear hd1
    go_wp2_with fail
    refine (alive_any _).mono ?_
    rintro e w2 ⟨rfl, hb2⟩
    have H2 := Aside0.mk (below_step H1.out hb2)
    clear hb2
    go_wp2_with fail
    refine (new_yes l _ (Kd.C_below HR.out H2.out) HC.out hsz hp).mono ?_
    rintro e w3 ⟨ad, rfl, hd, hb3⟩
    have H3 := Aside0.mk (below_step H2.out hb3)
    clear hb3
    go_wp2_with fail
    refine (make_yes l _ (Kd.C_below HR.out H3.out) HC.out hsz hp).mono ?_
    rintro e w4 ⟨ad4, rfl, hd4, hb4⟩
    have H4 := Aside0.mk (below_step H3.out hb4)
    have HD4 := Aside0.mk hd4
    clear hb4 hd hd4
    go_wp2_with fail
    refine (len_any HD4.out (by omega)).mono ?_
    rintro e w5 ⟨rfl, hb5⟩
    go_wp2
    go_ret
    exact ⟨rfl, below_step H4.out hb5⟩
  · have hpp : phrases l = phr 0 [] l := by unfold phrases; rw [if_neg (by omega)]
    obtain ⟨a, s, t, e1, e2, e3, e4⟩ := phr_first l 0 [] (by rw [← hpp]; exact hp)
    have hN := fun W (h : StrsIn W A l) => new_no l W h hc hsz hp
    rw [hpp] at hN
    rw [hpp] at hp
    simp only [List.length_nil, Nat.zero_add] at e2
    rw [e2] at hN
    have hal : a.length < l.length := by rw [e1]; simp only [List.length_append, List.length_cons]; omega
    have hpa : (phrases a).1 = 0 := by unfold phrases; rw [if_neg (by omega)]; exact e3
    have hl2 : (a ++ [s]).length = a.length + 1 := by simp
    have hpb : phrases (a ++ [s]) = phr 0 [] l := by unfold phrases; rw [if_neg (by omega)]; exact e4
    have hA := fun W (h : StrsIn W A l) => new_yes a W (strs_part h e1) (c := c) (by omega) (fun x hx => hsz x (by rw [e1]; exact List.mem_append_left _ hx)) hpa
    have hB := fun W (h : StrsIn W A l) => new_no (a ++ [s]) W (strs_part (t := t) h (by rw [e1]; simp)) (c := c) (by omega) (fun x hx => hsz x (by
      rw [e1]
      rcases List.mem_append.1 hx with hx | hx
      · exact List.mem_append_left _ hx
      · rw [List.mem_singleton] at hx; rw [hx]; exact List.mem_append_right _ (List.mem_cons_self ..))) (by rw [hpb]; exact hp)
    rw [hpb, e2, hl2] at hB
    generalize (phr 0 [] l).1 = cd at *
    have HN := Aside0.mk hN
    have HAA := Aside0.mk hA
    have HBB := Aside0.mk hB
    have HP := Aside0.mk hp
    have hmeth := method_error
    clear hpp e1 e2 e3 e4 hN hA hB hpa hl2 hpb hp
    have p1 : (0 : Int) ≤ (a.length : Int) := by omega
    have p2 : (a.length : Int) ≤ (c : Int) := by omega
    have p3 : decide ((a.length : Int) < 0) = false := decide_eq_false (by omega)
    have p4 : decide ((l.length : Int) ≤ (a.length : Int)) = false := decide_eq_false (by omega)
    have p5 : decide (l.length ≤ a.length) = false := decide_eq_false (by omega)
    have p6 : (a.length : Int) + 1 ≤ (c : Int) := by omega
    go_enter Try.func12, Try.ntmps12
    go_wp2_with fail
    refine HF.out.mono ?_
    rintro e w1 ⟨rfl, hd1⟩
    have H1 := Aside0.mk hd1.below
    clear hd1
    go_wp2_with fail
    refine (alive_any _).mono ?_
    rintro e w2 ⟨rfl, hb2⟩
    have H2 := Aside0.mk (below_step H1.out hb2)
    clear hb2
    go_wp2_with fail
    refine (HN.out _ (Kd.C_below HR.out H2.out)).mono ?_
    rintro e w3 ⟨rfl, hb3⟩
    have H3 := Aside0.mk (below_step H2.out hb3)
    clear hb3
    go_wp2_with fail
    refine (of_some _ _ _).mono ?_
    rintro e w4 ⟨rfl, hb4⟩
    have H4 := Aside0.mk (below_step H3.out hb4)
    clear hb4
    go_wp2_with fail
    refine (HAA.out _ (Kd.C_below HR.out (below_step H4.out (below_alloc (Below.refl _ _) _)))).mono ?_
    rintro e w5 ⟨ad5, rfl, hd5, hb5⟩
    have c0 := pw_cell_below hb5 (a := ⟨w4.heap.size, 0, none⟩) (v := .int .i64 (cd : Int)) (by simp)
    have c1 := pw_cell_below hb5 (a := ⟨w4.heap.size, 1, none⟩) (v := .int .i64 (a.length : Int)) (by simp)
    have H5 := Aside0.mk (below_step H4.out (below_step (below_alloc (Below.refl w4.heap.size w4) _) hb5))
    clear hb5 hd5
    go_wp2_with fail
    refine (HBB.out _ (Kd.C_below HR.out H5.out)).mono ?_
    rintro e w6 ⟨rfl, hb6⟩
    have H6 := Aside0.mk (below_step H5.out hb6)
    clear hb6
    go_wp2_with fail
    refine (error_small _ a.length (by omega) _).mono ?_
    rintro e w7 ⟨rfl, hb7⟩
    have H7 := Aside0.mk (below_step H6.out hb7)
    clear hb7
    go_wp2_with fail
    refine (error_small _ a.length (by omega) _).mono ?_
    rintro e w8 ⟨rfl, hb8⟩
    go_wp2
    go_ret
    exact ⟨rfl, below_step H7.out hb8⟩
set_option maxHeartbeats 1000000 in
set_option maxRecDepth 100000 in
theorem first_law (A : Option Addr) (c : Nat) (l : List ByteArray) (w : World) (hr : StrsIn w A l) (hc : l.length ≤ c) (h16 : l.length * 16 ≤ 140737488351232) (hsz : ∀ s ∈ l, s.size ≤ 140737488351232) :
    Calls Try.prog 12 #[.slice A l.length c] w fun e w' => e = .returned (.bool true) ∧ Below w.heap.size w w' := by
  by_cases hfew : Bridge.few l = true
  · by_cases hm : 100 < l.length
    · have HF := Aside0.mk (few_calls l hr hc (by omega) hsz)
      rw [hfew] at HF
      have m2 : decide ((100 : Int) < (l.length : Int)) = true := decide_eq_true (by omega)
      clear hr hc hfew hm
      go_enter Try.func12, Try.ntmps12
      go_wp2_with (first | (go_at_call 16; refine HF.out.mono ?_; rintro e w1 ⟨rfl, ⟨nd, rfl⟩⟩) | (go_at_call 13; refine (alive_any _).mono ?_; rintro e w2 ⟨rfl, hb2⟩))
      go_ret
      exact ⟨rfl, below_step (pw_below_drewN (Below.refl _ _) _) hb2⟩
    · exact first_tail A c l w hr hc h16 hsz hfew (by omega)
  · have HF := Aside0.mk (few_calls l hr hc (by omega) hsz)
    rw [Bool.eq_false_iff.2 hfew] at HF
    clear hr hc hfew
    go_enter Try.func12, Try.ntmps12
    go_wp2_with (first | (go_at_call 16; refine HF.out.mono ?_; rintro e w1 ⟨rfl, ⟨nd, rfl⟩⟩) | (go_at_call 13; refine (alive_any _).mono ?_; rintro e w2 ⟨rfl, hb2⟩))
    go_ret
    exact ⟨rfl, below_step (pw_below_drewN (Below.refl _ _) _) hb2⟩
end Go.Proofs.Ytbnoeoghhbhhcaa
