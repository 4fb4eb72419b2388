/- The dictionary that New makes lies in memory of its own. -/
import Derived.Test.YtbnoeoghhbhhcaaDictI
import Derived.Deep.DrawnRows
set_option linter.unusedVariables false
set_option linter.unusedSimpArgs false
namespace Go.Proofs.Ytbnoeoghhbhhcaa
open Go.RowKit Go.Proofs.Ytbnoeoghhbhhcaa.Spec Go.Proofs.YtbnoeoghhbhhcaaW.PrintWords Go.Proofs.YtbnoeoghhbhhcaaW.PrintLast
open Go.Proofs.YtbnoeoghhbhhcaaW.PrintMore
attribute [local go_sem ↓] Go.wp_at_zero Go.wp_at_succ
/-- A dictionary in memory, all of it at or above a block. -/
structure DictFrom (w : World) (base : Nat) (p : Value) (l : List ByteArray) : Prop where mk :: (out : ∃ ad v, p = .pointer (some ad) ∧ base ≤ ad.block ∧ w.cell? ad = some v ∧ StrsAt w base v l)
theorem DictFrom.dict {w : World} {base : Nat} {p : Value} {l : List ByteArray} (h : DictFrom w base p l) : DictAt w p l := by
  obtain ⟨ad, v, h1, _, h2, h3⟩ := h.out
  exact ⟨ad, v, base, h1, h2, h3⟩
theorem DictFrom.grown {w w' : World} {base : Nat} {p : Value} {l : List ByteArray} (h : DictFrom w base p l) {row : Option Nat} (hg : w.grownBy w' row) (hr : ∀ k, row = some k → k < base) : DictFrom w' base p l := by
  obtain ⟨ad, v, h1, hb, h2, h3⟩ := h.out
  refine ⟨ad, v, h1, hb, hg.cell h2 (fun e => ?_), Kd.R_of_own (own_other (Kd.own_of_R h3) hg ?_) (fun _ _ => trivial)⟩
  · have := hr ad.block e.symm
    omega
  · rcases hv : v.ownBlock with _ | b
    · exact .inl rfl
    · refine .inr fun e => ?_
      have h4 := own_base (Kd.own_of_R h3) b hv
      have := hr b e.symm
      omega
theorem DictFrom.below {w w' : World} {base : Nat} {p : Value} {l : List ByteArray} (h : DictFrom w base p l) (hb : Below w.heap.size w w') : DictFrom w' base p l := by
  obtain ⟨ad, v, h1, hb1, h2, h3⟩ := h.out
  exact ⟨ad, v, h1, hb1, pw_cell_below hb h2, Kd.R_below h3 hb⟩
def NewF (w : World) (l : List ByteArray) (e : Ending) (w' : World) : Prop := Below w.heap.size w w' ∧
  (((phrases l).1 = 0 ∧ ∃ p, e = .returned (.tuple #[p, .nilIface]) ∧ DictFrom w' w.heap.size p l) ∨ ((phrases l).1 ≠ 0 ∧ e = .returned (.tuple #[.pointer none, errV (phrases l).1 (phrases l).2])))
set_option maxHeartbeats 1000000 in
set_option maxRecDepth 100000 in
theorem new_callsF {A : Option Addr} {c : Nat} (l : List ByteArray) (w : World) (hr : StrsIn w A l) (hc : l.length ≤ c) (hsz : ∀ s ∈ l, s.size ≤ 140737488351232) : Calls Try.prog 14 #[.slice A l.length c] w (NewF w l) := by
  have HR := Aside0.mk hr
  have HC := Aside0.mk hc
  clear hr hc
  by_cases h100 : 100 < l.length
  · have hb : decide (100 < (l.length : Int)) = true := decide_eq_true (by omega)
    have hp : phrases l = (10, 100) := if_pos h100
    have HP := Aside0.mk hp
    clear hp h100
    go_enter Try.func14, Try.ntmps14
    go_wp2_with (go_at_call 38; refine (fnew_some _ _ (by decide) _).mono ?_; rintro e w' ⟨rfl, rfl⟩)
    go_ret2
    refine ⟨Below.refl _ _, Or.inr ⟨by rw [HP.out]; decide, ?_⟩⟩
    rw [HP.out]; rfl
  · have hb : decide (100 < (l.length : Int)) = false := decide_eq_false (by omega)
    have H100 := Aside0.mk (show l.length ≤ 100 by omega)
    clear h100
    go_enter Try.func14, Try.ntmps14
    go_wp2_with fail
    go_loopw [5, 17] (fun v5 v17 wr => ∃ (seen rest : List ByteArray) (sum : Nat), v5 = .int .i64 sum ∧ v17 = .int .i64 seen.length ∧ Aside0 (l = seen ++ rest) ∧ Aside0 (sum ≤ 1000) ∧ Aside0 (phr sum seen rest = phr 0 [] l) ∧ ∃ v, Making w wr w.heap.size v seen) (fun _ v17 _ => l.length - (intOf v17).toNat)
    case atStart => exact ⟨[], l, 0, rfl, rfl, ⟨rfl⟩, ⟨by omega⟩, ⟨rfl⟩, .slice none 0 0, ⟨by simp, by simp, Kd.R_nil _ _ _ _ _, by simp [Value.ownBlock], by simp, Nat.le_refl _, (Below.refl _ _).alloc (Nat.le_refl _) _⟩⟩
    case round =>
      obtain ⟨seen, rest, sum, rfl, rfl, HL, HS, HPH, v, HM⟩ := hrel
      have HRw := Aside0.mk (Kd.C_below HR.out HM.below)
      have hlen := congrArg List.length HL.out
      rw [List.length_append] at hlen
      have h100 := H100.out
      cases rest with
      | cons x t =>
        have HLEN := Aside0.mk hlen
        rw [List.length_cons] at hlen
        have hi : seen.length < l.length := by omega
        clear hlen
        obtain ⟨ad, rfl, hx⟩ := Kd.at_string HRw.out (seen.length : Int) (by omega) (by omega)
        have hx2 : rdOf ByteArray.empty l (seen.length : Int) = x := by
          rw [Bridge.rdOf_get l _ hi]
          have := HL.out
          simp only [this, List.getElem_append_right (Nat.le_refl _), Nat.sub_self, List.getElem_cons_zero]
        have hxs := hsz x (by rw [HL.out]; simp)
        rw [hx2, Int.toNat_natCast] at hx
        have hph := HPH.out
        clear hx2
        have hb0 : decide ((seen.length : Int) < (l.length : Int)) = true := decide_eq_true (by omega)
        have hs' := HS.out
        have p1 : (0 : Int) ≤ (seen.length : Int) := by omega
        have p2 : (seen.length : Int) < (l.length : Int) := by omega
        by_cases h1 : x.size = 0
        · have hb1 : (x.toList == ([] : List UInt8)) = true := beq_iff_eq.2 (Bridge.empty_iff.2 h1)
          have hph2 : phr sum seen (x :: t) = (5, seen.length) := by rw [phr, if_pos h1]
          have HQ := Aside0.mk (hph2.symm.trans hph)
          clear hph hph2 h1
          have HB := Aside0.mk HM.below
          go_wp2_with (go_at_call 38; refine (fnew_some _ _ (by decide) _).mono ?_; rintro e w' ⟨rfl, rfl⟩)
          go_ret2
          have hp : phrases l = (5, seen.length) := (if_neg (by have := H100.out; omega)).trans HQ.out.symm
          refine ⟨HB.out, Or.inr ⟨by rw [hp]; simp, ?_⟩⟩
          rw [hp]; rfl
        · have hb1 : (x.toList == ([] : List UInt8)) = false := beq_eq_false_iff_ne.2 (fun h => h1 (Bridge.empty_iff.1 h))
          by_cases h2 : 40 < x.size ∨ 1000 < sum + x.size
          · have hph2 : phr sum seen (x :: t) = (10, seen.length) := by rw [phr, if_neg h1, if_pos h2]
            have HQ := Aside0.mk (hph2.symm.trans hph)
            clear hph hph2
            have HB := Aside0.mk HM.below
            by_cases h3 : 40 < x.size
            · have hb2 : decide ((40 : Int) < (x.size : Int)) = true := decide_eq_true (by omega)
              clear h2 h3 h1
              go_wp2_with (go_at_call 38; refine (fnew_some _ _ (by decide) _).mono ?_; rintro e w' ⟨rfl, rfl⟩)
              repeat (go_quiet (fail); try go_wp2_with (go_at_call 38; refine (fnew_some _ _ (by decide) _).mono ?_; rintro e w' ⟨rfl, rfl⟩))
              go_ret2
              have hp : phrases l = (10, seen.length) := (if_neg (by have := H100.out; omega)).trans HQ.out.symm
              refine ⟨HB.out, Or.inr ⟨by rw [hp]; simp, ?_⟩⟩
              rw [hp]; rfl
            · have hb2 : decide ((40 : Int) < (x.size : Int)) = false := decide_eq_false (by omega)
              have hb3 : decide ((1000 : Int) < (sum : Int) + (x.size : Int)) = true := decide_eq_true (by omega)
              clear h2 h3 h1
              go_wp2_with (go_at_call 38; refine (fnew_some _ _ (by decide) _).mono ?_; rintro e w' ⟨rfl, rfl⟩)
              repeat (go_quiet (fail); try go_wp2_with (go_at_call 38; refine (fnew_some _ _ (by decide) _).mono ?_; rintro e w' ⟨rfl, rfl⟩))
              go_ret2
              have hp : phrases l = (10, seen.length) := (if_neg (by have := H100.out; omega)).trans HQ.out.symm
              refine ⟨HB.out, Or.inr ⟨by rw [hp]; simp, ?_⟩⟩
              rw [hp]; rfl
          · have hb2 : decide ((40 : Int) < (x.size : Int)) = false := decide_eq_false (by omega)
            have hb3 : decide ((1000 : Int) < (sum : Int) + (x.size : Int)) = false := decide_eq_false (by omega)
            obtain ⟨hMc, hMf, hMr, hMne, hMlt, hMnew, hMb⟩ := HM
            have HMr := Aside0.mk hMr
            have HMne := Aside0.mk hMne
            have HB := Aside0.mk hMb
            clear hMr hMne hMb
            obtain ⟨A', c', rfl, hcap, hC⟩ := Kd.R_reads HMr.out
            have HC' := Aside0.mk hC
            have HCAP := Aside0.mk hcap
            clear hC hcap
            by_cases h3 : x ∈ seen
            · have hph2 : phr sum seen (x :: t) = (5, seen.length) := by rw [phr, if_neg h1, if_neg h2, if_pos h3]
              have HQ := Aside0.mk (hph2.symm.trans hph)
              have hb4 := Aside0.mk (decide_eq_true h3)
              clear hph hph2 h2 h3 h1
              go_wp2_with (first | (go_at_call 40; refine (contains_calls seen x HC'.out HCAP.out (by have := H100.out; omega)).mono ?_; rw [hb4.out]; rintro e w' ⟨rfl, ⟨nd, rfl⟩⟩) | (go_at_call 38; refine (fnew_some _ _ (by decide) _).mono ?_; rintro e w' ⟨rfl, rfl⟩))
              go_ret2
              have hp : phrases l = (5, seen.length) := (if_neg (by have := H100.out; omega)).trans HQ.out.symm
              refine ⟨pw_below_drewN HB.out _, Or.inr ⟨by rw [hp]; simp, ?_⟩⟩
              rw [hp]; rfl
            · have hb4 := Aside0.mk (decide_eq_false h3)
              have H1 := Aside0.mk h1
              have H2 := Aside0.mk h2
              have H3 := Aside0.mk h3
              have HPH2 := Aside0.mk hph
              clear h1 h2 h3 hph
              go_wp2_with (first | (go_at_call 40; refine (contains_calls seen x HC'.out HCAP.out (by have := H100.out; omega)).mono ?_; rw [hb4.out]; rintro e w' ⟨rfl, ⟨nd, rfl⟩⟩) | (go_at_call 38; refine (fnew_some _ _ (by decide) _).mono ?_; rintro e w' ⟨rfl, rfl⟩))
              have hcapb : (seen.length + 1) * 16 ≤ 140737488355328 := by omega
              go_region_law ((first | (refine call_step1 (f := 41) (N := some 55) (x := .tmp 54) (t := 9) (.string x) rfl rfl rfl rfl Try.func41 nameSClone rfl ?_; refine (sclone_calls x _ (by omega)).mono ?_; rintro e w1 ⟨rfl, hb⟩; refine ⟨_, rfl, ?_⟩; have hbw : Below wr.heap.size wr w1 := ⟨hb.os, hb.tape, hb.output, hb.size, hb.block⟩; clear hb; have HR1 : Aside0 (StrsAt w1 w.heap.size (.slice A' seen.length c') seen) := ⟨Kd.R_below HMr.out hbw⟩; have HB1 : Aside0 (Below w.heap.size w w1) := ⟨below_step HB.out hbw⟩; have HS1 := keepB hbw ⟨hMc, hMf⟩; have hs1 := HS1.1; have hs1a : ∀ o, (w1.alloc o).cell? ⟨w.heap.size, 0, none⟩ = some (.slice A' seen.length c') := (fun o => pw_cell_below ((Below.refl _ _).alloc (Nat.le_refl _) o) HS1.1); clear hbw) | (refine append_str w.heap.size rfl (.tmp 53) (.tmp 56) 23 9 rfl Try.underlying23 Leaf.info9 (.slice A' seen.length c') seen x rfl rfl HR1.out HB1.out HB1.out.size hcapb ?_; intro v1 w2 hrow hbelow hgrow hat; have HS2 := keepG hgrow HMne.out HS1; obtain ⟨A1, c1, rfl, hcap1, _⟩ := Kd.R_reads hrow; have HROW := Aside0.mk hrow; clear hrow; have HAT := Aside0.mk hat; clear hat; have HB2 := Aside0.mk hbelow; clear hbelow; have hs2 := HS2.1; have hs3 := HS2.2; clear HS2 hs1 hs1a)))
              all_goals
                go_wp2
                go_roundw
                case rel =>
                  have hphn : phr (sum + x.size) (seen ++ [x]) t = phr 0 [] l := by
                    rw [← HPH2.out]
                    conv => rhs; rw [phr]
                    rw [if_neg H1.out, if_neg H2.out, if_neg H3.out]
                  have hll : l = (seen ++ [x]) ++ t := by rw [List.append_assoc]; exact HL.out
                  have h2 := H2.out
                  have hlen1 : (seen ++ [x]).length = seen.length + 1 := by simp
                  refine ⟨seen ++ [x], t, sum + x.size, by go_num, by rw [hlen1]; go_num, ⟨hll⟩, ⟨by omega⟩, ⟨hphn⟩, .slice A1 (seen ++ [x]).length c1, ?_⟩
                  rw [hlen1]
                  have hrow := HROW.out
                  rw [hlen1] at hrow
                  have hat := HAT.out
                  rw [hlen1] at hat
                  exact making_step HS1.1 hs2 hs3 hrow hat HMne.out HB2.out hMnew
                case measure => simp [intOf]; omega
      | nil =>
        rw [List.length_nil] at hlen
        have hb0 : decide ((seen.length : Int) < (l.length : Int)) = false := decide_eq_false (by omega)
        have hb0' : decide (seen.length < l.length) = false := decide_eq_false (by omega)
        have hb0n : ¬ seen.length < l.length := by omega
        clear hlen
        go_wp2
        go_ret2
        have hs : l = seen := by rw [HL.out, List.append_nil]
        have hp : phrases l = (0, 0) := (if_neg (by have := H100.out; omega)).trans HPH.out.symm
        refine ⟨HM.below, Or.inl ⟨by rw [hp], _, rfl, ⟨_, _, rfl, HM.new, HM.cell, by rw [hs]; exact HM.row⟩⟩⟩
theorem new_from {A : Option Addr} {c : Nat} (l : List ByteArray) (w : World) (hr : StrsIn w A l) (hc : l.length ≤ c) (hsz : ∀ s ∈ l, s.size ≤ 140737488351232) (h : (phrases l).1 = 0) : Calls Try.prog 14 #[.slice A l.length c] w fun e w' => ∃ ad, e = .returned (.tuple #[.pointer (some ad), .nilIface]) ∧ Aside0 (DictFrom w' w.heap.size (.pointer (some ad)) l) ∧ Below w.heap.size w w' := by
  refine (new_callsF l w hr hc hsz).mono ?_
  rintro e w' ⟨hb, h1 | h1⟩
  · obtain ⟨_, p, rfl, hd⟩ := h1
    obtain ⟨ad, v, rfl, hq⟩ := hd.out
    exact ⟨ad, rfl, ⟨hd⟩, hb⟩
  · exact absurd h h1.1
end Go.Proofs.Ytbnoeoghhbhhcaa
