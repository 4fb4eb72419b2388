/- DictNames: for every two lists of phrases the law DictNames (P601) returns true; no condition. -/
import Derived.Test.YtbnoeoghhbhhcaaDictD
set_option linter.unusedVariables false
set_option linter.unusedSimpArgs false
namespace Go.Proofs.Ytbnoeoghhbhhcaa
open Go.RowKit Go.Proofs.Ytbnoeoghhbhhcaa.Spec Go.Proofs.YtbnoeoghhbhhcaaW.PrintWords Go.Proofs.YtbnoeoghhbhhcaaW.PrintLast
open Go.Proofs.YtbnoeoghhbhhcaaW.PrintMore
theorem take_next {l m : List ByteArray} {i : Nat} (h1 : i < l.length) (h2 : i < m.length) : l.take (i + 1) = m.take (i + 1) ↔ l.take i = m.take i ∧ l[i] = m[i] := by
  rw [List.take_succ_eq_append_getElem h1, List.take_succ_eq_append_getElem h2]
  constructor
  · intro h
    have := List.append_inj' h rfl
    exact ⟨this.1, by simpa using this.2⟩
  · rintro ⟨a, b⟩
    rw [a, b]
theorem start_same (l m : List ByteArray) : ((l.length : Int) == (m.length : Int)) = decide (l.length = m.length ∧ l.take 0 = m.take 0) := by
  by_cases h : l.length = m.length
  · rw [decide_eq_true ⟨h, rfl⟩, h]; exact beq_self_eq_true _
  · rw [decide_eq_false (fun e => h e.1)]; exact beq_eq_false_iff_ne.2 (by omega)
set_option maxHeartbeats 4000000 in
set_option maxRecDepth 100000 in
theorem names_law (A : Option Addr) (c : Nat) (l : List ByteArray) (A' : Option Addr) (c' : Nat) (m : List ByteArray) (w : World) (hr : StrsIn w A l) (hc : l.length ≤ c) (h16 : l.length * 16 ≤ 140737488351232) (hsz : ∀ s ∈ l, s.size ≤ 140737488351232)
    (hr' : StrsIn w A' m) (hc' : m.length ≤ c') (h16' : m.length * 16 ≤ 140737488351232) (hsz' : ∀ s ∈ m, s.size ≤ 140737488351232) :
    Calls Try.prog 6 #[.slice A l.length c, .slice A' m.length c'] w fun e w' => e = .returned (.bool true) ∧ Below w.heap.size w w' := by
  have HF := Aside0.mk (few_calls l hr hc (by omega) hsz)
  have HF' : ∀ W, Below w.heap.size w W → _ := fun W (hb : Below w.heap.size w W) => few_calls m (Kd.C_below hr' hb) hc' (by omega) hsz'
  have HR := Aside0.mk hr
  have HC := Aside0.mk hc
  have HR' := Aside0.mk hr'
  have HC' := Aside0.mk hc'
  clear hr hc hr' hc'
  by_cases hfew : Bridge.few l = true
  · rw [hfew] at HF
    by_cases hfew' : Bridge.few m = true
    · have HFF := Aside0.mk HF'
      rw [hfew'] at HFF
      clear HF' hfew hfew'
      go_enter Try.func6, Try.ntmps6
      go_wp2_with fail
      refine HF.out.mono ?_
      rintro e w1 ⟨rfl, hd1⟩
      have H1 := Aside0.mk hd1.below
      clear hd1
      go_wp2_with fail
      refine (HFF.out _ H1.out).mono ?_
      rintro e w2 ⟨rfl, hd2⟩
      have H2 := Aside0.mk (below_step H1.out hd2.below)
      clear hd2
      go_wp2_with fail
      refine (alive_any _).mono ?_
      rintro e w3 ⟨rfl, hb3⟩
      have H3 := Aside0.mk (below_step H2.out hb3)
      clear hb3
      go_wp2_with fail
      by_cases hp : (phrases l).1 = 0
      · refine (make_yes l _ (Kd.C_below HR.out H3.out) HC.out hsz hp).mono ?_
        rintro e w4 ⟨ad, rfl, hd, hb4⟩
        have HD := Aside0.mk hd
        have H4 := Aside0.mk (below_step H3.out hb4)
        clear hd hb4
        go_wp2_with fail
        by_cases hq : (phrases m).1 = 0
        · refine (make_yes m _ (Kd.C_below HR'.out H4.out) HC'.out hsz' hq).mono ?_
          rintro e w5 ⟨ad', rfl, hd', hb5⟩
          have HD1 := Aside0.mk (HD.out.below hb5)
          have HD2 := Aside0.mk hd'
          have H5 := Aside0.mk (below_step H4.out hb5)
          have HP := Aside0.mk ((phrases_ok l).1 hp)
          have HQ := Aside0.mk ((phrases_ok m).1 hq)
          clear hd' hb5 hp hq
          go_wp2_with fail
          go_loopw [7, 39] (fun v7 v39 wr => ∃ (i : Nat) (bb : Bool), v7 = .bool bb ∧ v39 = .int .i64 i ∧ i ≤ l.length ∧ Aside0 (bb = decide (l.length = m.length ∧ l.take i = m.take i)) ∧ Aside0 (Below w5.heap.size w5 wr)) (fun _ v39 _ => l.length - (intOf v39).toNat)
          case atStart => exact ⟨0, _, rfl, rfl, by omega, ⟨start_same l m⟩, ⟨Below.refl _ _⟩⟩
          case round =>
            obtain ⟨i, bb, rfl, rfl, hi, HBB, HW⟩ := hrel
            by_cases hlt : i < l.length
            · have p1 : (0 : Int) ≤ (i : Int) := by omega
              have p2 : (i : Int) < (l.length : Int) := by omega
              cases bb with
              | false =>
                go_wp2
                go_quiet (fail)
                go_wp2
                go_roundw
                case rel =>
                  refine ⟨i + 1, false, rfl, by go_num, by omega, ⟨?_⟩, ⟨pw_below_drewN HW.out _⟩⟩
                  have := HBB.out
                  symm
                  rw [decide_eq_false_iff_not]
                  rintro ⟨h1, h2⟩
                  have h3 := (take_next hlt (by omega)).1 h2
                  rw [decide_eq_true ⟨h1, h3.1⟩] at this
                  exact absurd this (by decide)
                case measure => simp [intOf]; omega
              | true =>
                have hb := of_decide_eq_true HBB.out.symm
                obtain ⟨hl, htk⟩ := hb
                have hltm : i < m.length := by omega
                obtain ⟨ad1, hA, hcell⟩ := Kd.at_string (Kd.C_below HR.out (below_step H5.out HW.out)) (i : Int) (by omega) (by omega)
                subst hA
                rw [Bridge.rdOf_get l i hlt, Int.toNat_natCast] at hcell
                obtain ⟨ad2, hA, hcell'⟩ := Kd.at_string (Kd.C_below HR'.out (below_step H5.out HW.out)) (i : Int) (by omega) (by omega)
                subst hA
                rw [Bridge.rdOf_get m i hltm, Int.toNat_natCast] at hcell'
                have p3 : (i : Int) < (m.length : Int) := by omega
                have p4 : decide ((i : Int) < (m.length : Int)) = true := decide_eq_true p3
                have HTK := Aside0.mk (take_next hlt hltm)
                have HT2 := Aside0.mk htk
                have HL := Aside0.mk hl
                clear htk hl HBB
                generalize hx : l[i] = x at *
                generalize hy : m[i] = y at *
                clear hx hy
                by_cases hxy : x = y
                · subst hxy
                  go_wp2
                  go_quiet (fail)
                  go_wp2
                  go_roundw
                  case rel =>
                    refine ⟨i + 1, true, by simp, by go_num, by omega, ⟨?_⟩, ⟨pw_below_drewN HW.out _⟩⟩
                    symm
                    rw [decide_eq_true_iff]
                    exact ⟨HL.out, HTK.out.2 ⟨HT2.out, by simp⟩⟩
                  case measure => simp [intOf]; omega
                · have hb1 : (x.toList == y.toList) = false := beq_eq_false_iff_ne.2 (fun h => hxy (Bridge.str_iff.1 h))
                  have HXY := Aside0.mk hxy
                  clear hxy
                  go_wp2
                  go_quiet (fail)
                  go_wp2
                  go_roundw
                  case rel =>
                    refine ⟨i + 1, false, rfl, by go_num, by omega, ⟨?_⟩, ⟨pw_below_drewN HW.out _⟩⟩
                    symm
                    rw [decide_eq_false_iff_not]
                    rintro ⟨_, h2⟩
                    exact HXY.out (HTK.out.1 h2).2
                  case measure => simp [intOf]; omega
            · have hge : i = l.length := by omega
              subst hge
              have HD1' := Aside0.mk (HD1.out.below HW.out)
              have HD2' := Aside0.mk (HD2.out.below HW.out)
              have hsm : ∀ s ∈ l, s.size < 1000000 := fun s hs => by have := (HP.out.2.1 s hs).2; omega
              have hsm' : ∀ s ∈ m, s.size < 1000000 := fun s hs => by have := (HQ.out.2.1 s hs).2; omega
              have hll := HP.out.1
              have hlm := HQ.out.1
              cases bb with
              | true =>
                have hb := of_decide_eq_true HBB.out.symm
                have hlm2 : l = m := by
                  have := hb.2
                  rw [List.take_of_length_le (Nat.le_refl _), List.take_of_length_le (by omega)] at this
                  exact this
                clear hb
                subst hlm2
                go_wp2_with fail
                refine (bytes_any HD1'.out hll hsm).mono ?_
                rintro e w6 ⟨rfl, hb6⟩
                have HD1a := Aside0.mk (HD1'.out.below hb6)
                have HD2a := Aside0.mk (HD2'.out.below hb6)
                have H6 := Aside0.mk (below_step (below_step H5.out HW.out) hb6)
                clear hb6
                go_wp2_with fail
                refine (bytes_any HD2a.out hll hsm).mono ?_
                rintro e w7 ⟨rfl, hb7⟩
                have HD1b := Aside0.mk (HD1a.out.below hb7)
                have HD2b := Aside0.mk (HD2a.out.below hb7)
                have H7 := Aside0.mk (below_step H6.out hb7)
                clear hb7
                go_wp2_with fail
                refine (id_any HD1b.out hll hsm).mono ?_
                rintro e w8 ⟨rfl, hb8⟩
                have HD2c := Aside0.mk (HD2b.out.below hb8)
                have H8 := Aside0.mk (below_step H7.out hb8)
                clear hb8
                go_wp2_with fail
                refine (id_any HD2c.out hll hsm).mono ?_
                rintro e w9 ⟨rfl, hb9⟩
                go_wp2
                go_ret
                exact ⟨rfl, below_step H8.out hb9⟩
              | false =>
                have hne : l ≠ m := by
                  intro h
                  have := HBB.out
                  subst h
                  rw [decide_eq_true ⟨rfl, rfl⟩] at this
                  exact absurd this (by decide)
                have hb1 : ((str (Spec.bytes l)).toList == (str (Spec.bytes m)).toList) = false := by
                  refine beq_eq_false_iff_ne.2 (fun h => hne ?_)
                  have := Bridge.str_iff.1 h
                  have h2 : Spec.bytes l = Spec.bytes m := by rw [← u_str (Spec.bytes l), this, u_str]
                  exact bytes_inj (fun s hs => by have := hsm s hs; omega) (fun s hs => by have := hsm' s hs; omega) (by omega) (by omega) h2
                clear hne
                go_wp2_with fail
                refine (bytes_any HD1'.out hll hsm).mono ?_
                rintro e w6 ⟨rfl, hb6⟩
                have HD2a := Aside0.mk (HD2'.out.below hb6)
                have H6 := Aside0.mk (below_step (below_step H5.out HW.out) hb6)
                clear hb6
                go_wp2_with fail
                refine (bytes_any HD2a.out hlm hsm').mono ?_
                rintro e w7 ⟨rfl, hb7⟩
                go_wp2
                go_ret
                exact ⟨rfl, below_step H6.out hb7⟩
        · refine (make_no m _ (Kd.C_below HR'.out H4.out) HC'.out hsz' hq).mono ?_
          rintro e w5 ⟨rfl, hb5⟩
          have H5 := Aside0.mk (below_step H4.out hb5)
          clear hb5
          go_wp2
          go_ret
          exact ⟨rfl, H5.out⟩
      · refine (make_no l _ (Kd.C_below HR.out H3.out) HC.out hsz hp).mono ?_
        rintro e w4 ⟨rfl, hb4⟩
        have H4 := Aside0.mk (below_step H3.out hb4)
        clear hb4
        go_wp2_with fail
        by_cases hq : (phrases m).1 = 0
        · refine (make_yes m _ (Kd.C_below HR'.out H4.out) HC'.out hsz' hq).mono ?_
          rintro e w5 ⟨ad', rfl, hd', hb5⟩
          have H5 := Aside0.mk (below_step H4.out hb5)
          clear hb5
          go_wp2
          go_ret
          exact ⟨rfl, H5.out⟩
        · refine (make_no m _ (Kd.C_below HR'.out H4.out) HC'.out hsz' hq).mono ?_
          rintro e w5 ⟨rfl, hb5⟩
          have H5 := Aside0.mk (below_step H4.out hb5)
          clear hb5
          go_wp2
          go_ret
          exact ⟨rfl, H5.out⟩
    · have HFF := Aside0.mk HF'
      rw [Bool.eq_false_iff.2 hfew'] at HFF
      clear HF' hfew hfew'
      go_enter Try.func6, Try.ntmps6
      go_wp2_with fail
      refine HF.out.mono ?_
      rintro e w1 ⟨rfl, hd1⟩
      have H1 := Aside0.mk hd1.below
      clear hd1
      go_wp2_with fail
      refine (HFF.out _ H1.out).mono ?_
      rintro e w2 ⟨rfl, hd2⟩
      have H2 := Aside0.mk (below_step H1.out hd2.below)
      clear hd2
      go_wp2_with fail
      refine (alive_any _).mono ?_
      rintro e w3 ⟨rfl, hb3⟩
      go_wp2
      go_ret
      exact ⟨rfl, below_step H2.out hb3⟩
  · rw [Bool.eq_false_iff.2 hfew] at HF
    clear hfew HF'
    go_enter Try.func6, Try.ntmps6
    go_wp2_with (first | (go_at_call 16; refine HF.out.mono ?_; rintro e w1 ⟨rfl, ⟨nd, rfl⟩⟩) | (go_at_call 13; refine (alive_any _).mono ?_; rintro e w2 ⟨rfl, hb2⟩))
    go_ret
    exact ⟨rfl, below_step (pw_below_drewN (Below.refl _ _) _) hb2⟩
end Go.Proofs.Ytbnoeoghhbhhcaa
