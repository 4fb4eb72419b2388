/- ShF: a part of its proof (contracts of the functions that it reaches, and the plain mathematics behind them). -/
import Derived.Test.YtdpkgjahcapleaaGreatShF47
set_option linter.unusedVariables false
set_option linter.unusedSimpArgs false
set_option linter.unusedVariables false
set_option linter.unusedSimpArgs false
namespace Go.Proofs.YtdpkgjahcapleaaGreat
open Go.RowKit Go.Proofs.YtdpkgjahcapleaaGreat.Leaf Go.Proofs.YtdpkgjahcapleaaGreatW.PrintWords Go.Proofs.YtdpkgjahcapleaaGreatW.PrintLast
namespace TabB
open TabMath
theorem rget_l1 (b : ByteArray) (size : Int) (x : Int) (at_ : Int) (R : List Int × Int × Int) (d : Nat) : ∀ (m t : Nat) (out : List Int), m = t + d → out.length + d ≤ 1000 → m ≤ 16 →
    Ev (fun k => lexiphaneref1_Untab.l0 k b size (out ++ List.replicate d x) (wrap64 (at_ + 1))) R → Ev (fun k => lexiphaneref1_Untab.l1 k b size out at_ x (m : Int) (t : Int)) R := by
  induction d with
  | zero =>
    intro m t out hm ho hm16 h
    simp only [List.replicate_zero, List.append_nil] at h
    refine Ev.step (fun k => ?_) h
    simp only [lexiphaneref1_Untab.l1]
    rw [if_neg (by omega)]
  | succ d ih =>
    intro m t out hm ho hm16 h
    have := ih m (t + 1) (out ++ [x]) (by omega) (by simp; omega) hm16 (by simpa [List.replicate_succ] using h)
    refine Ev.step (fun k => ?_) this
    simp only [lexiphaneref1_Untab.l1]
    rw [if_pos (by omega), if_pos (by omega), wr (by omega) (by omega)]
    congr 1
set_option maxHeartbeats 1000000 in
theorem rget_l0 (b : ByteArray) (hb : b.size ≤ 140737488351232) (size : Nat) (hs : size ≤ 356) (rest : List Int) : ∀ (i : Nat) (out : List Int), i ≤ b.size → out.length ≤ size → (bl b).drop i = rest →
    Ev (fun k => lexiphaneref1_Untab.l0 k b size out i) (GetR out i (dec (prev (bl b) i) rest (size - out.length))) := by
  induction rest with
  | nil =>
    intro i out hi ho h
    have hlen := len_drop (by rw [bl_length]; exact hi) h
    rw [bl_length] at hlen
    simp only [List.length_nil, Nat.add_zero] at hlen
    refine Ev.step (f := fun _ => some (GetR out i (dec (prev (bl b) i) [] (size - out.length)))) (fun k => ?_) (Ev.now _)
    simp only [lexiphaneref1_Untab.l0]
    by_cases hc : out.length < size
    · obtain ⟨m, hm⟩ : ∃ m, size - out.length = m + 1 := ⟨size - out.length - 1, by omega⟩
      rw [if_pos (by omega), if_pos (by omega), hm, dec_nil]
      rfl
    · have hm : size - out.length = 0 := by omega
      rw [if_neg (by omega), hm, dec_zero]
      unfold GetR
      simp
  | cons c rest ih =>
    intro i out hi ho h
    have hlen := len_drop (by rw [bl_length]; exact hi) h
    rw [bl_length] at hlen
    simp only [List.length_cons] at hlen
    have hc0 : rd (bl b) (i : Int) = c := by
      have := rd_drop (a := []) h
      simpa using this
    have hcb : Byte c := by
      have : c ∈ (bl b).drop i := by rw [h]; exact List.mem_cons_self ..
      exact bl_byte b c (List.mem_of_mem_drop this)
    unfold Byte at hcb
    by_cases hc : out.length < size
    · obtain ⟨m, hm⟩ : ∃ m, size - out.length = m + 1 := ⟨size - out.length - 1, by omega⟩
      have hpb : 0 ≤ prev (bl b) i ∧ prev (bl b) i ≤ 255 := by
        unfold prev
        by_cases h0 : i = 0
        · rw [if_pos h0]; omega
        · rw [if_neg h0, ← bt_bl]; exact bt_range _ _
      have e1 : wrap64 (Int.tdiv (wrap64 c) 16) = c / 16 := by
        rw [wr (x := c) (by omega) (by omega), Int.tdiv_eq_ediv_of_nonneg (by omega), wr (by omega) (by omega)]
      have e2 : wrap64 (Int.tmod (wrap64 c) 16 + 1) = c % 16 + 1 := by
        rw [wr (x := c) (by omega) (by omega), Int.tmod_eq_emod_of_nonneg (by omega), wr (by omega) (by omega)]
      have p1 : ∀ p : Int, 0 ≤ p → p ≤ 255 → wrap64 (Int.tdiv (wrap64 p) 16) = p / 16 := by
        intro p h1 h2
        rw [wr (x := p) (by omega) (by omega), Int.tdiv_eq_ediv_of_nonneg (by omega), wr (by omega) (by omega)]
      have p2 : ∀ p : Int, 0 ≤ p → p ≤ 255 → wrap64 (Int.tmod (wrap64 p) 16 + 1) = p % 16 + 1 := by
        intro p h1 h2
        rw [wr (x := p) (by omega) (by omega), Int.tmod_eq_emod_of_nonneg (by omega), wr (by omega) (by omega)]
      have e3 : wrap64 ((size : Int) - (out.length : Int)) = ((m + 1 : Nat) : Int) := by
        rw [wr (by omega) (by omega)]; omega
      have e5 : (wrap64 ((out.length : Int) + (c % 16 + 1)) > (size : Int)) ↔ ((m + 1 : Nat) : Int) < c % 16 + 1 := by
        rw [wr (by omega) (by omega)]; omega
      have hstep : ∀ k, lexiphaneref1_Untab.l0 (k + 1) b size out i = lexiphaneref1_Untab.j2 k b size out i (c / 16) (c % 16 + 1) (decide ((prev (bl b) i / 16 = c / 16 ∧ prev (bl b) i % 16 < 15) ∨ ((m + 1 : Nat) : Int) < c % 16 + 1)) := by
        intro k
        simp only [lexiphaneref1_Untab.l0]
        rw [if_pos (by omega), if_neg (by omega), if_pos (by omega), if_pos (by omega)]
        simp only [bt_bl, hc0, e1, e2]
        by_cases h5 : ((m + 1 : Nat) : Int) < c % 16 + 1
        · rw [if_pos (e5.2 h5)]; congr 1; symm; rw [decide_eq_true_iff]; exact Or.inr h5
        · rw [if_neg (fun h => h5 (e5.1 h))]
          by_cases h0 : i = 0
          · subst h0
            rw [if_neg (by omega)]
            congr 1
            symm
            rw [decide_eq_false_iff_not]
            unfold prev
            rw [if_pos rfl]
            omega
          · have hp : prev (bl b) i = rd (bl b) ((i : Int) - 1) := by unfold prev; rw [if_neg h0]
            have p3 : Int.tmod (wrap64 (prev (bl b) i)) 16 = prev (bl b) i % 16 := by rw [wr (by omega) (by omega), Int.tmod_eq_emod_of_nonneg (by omega)]
            rw [if_pos (by omega), wr (x := (i : Int) - 1) (by omega) (by omega), if_pos (by omega), if_pos (by omega), ← hp, p1 _ hpb.1 hpb.2, p3]
            by_cases g : prev (bl b) i / 16 = c / 16
            · rw [if_pos g]; congr 1; rw [decide_eq_decide]; omega
            · rw [if_neg g]; congr 1; symm; rw [decide_eq_false_iff_not]; omega
      refine Ev.step hstep ?_
      rw [hm, dec_cons]
      by_cases g : (prev (bl b) i / 16 = c / 16 ∧ prev (bl b) i % 16 < 15) ∨ ((m + 1 : Nat) : Int) < c % 16 + 1
      · rw [if_pos g]
        refine Ev.step (f := fun _ => some (GetR out i (3, [], 0))) (fun k => ?_) (Ev.now _)
        simp only [lexiphaneref1_Untab.j2]
        rw [if_pos (by simpa using g)]
        rfl
      · rw [if_neg g]
        have hstep3 : ∀ k, lexiphaneref1_Untab.j2 (k + 1) b size out i (c / 16) (c % 16 + 1) (decide ((prev (bl b) i / 16 = c / 16 ∧ prev (bl b) i % 16 < 15) ∨ ((m + 1 : Nat) : Int) < c % 16 + 1)) =
            lexiphaneref1_Untab.l1 k b size out i (c / 16) (((c % 16 + 1).toNat : Nat) : Int) ((0 : Nat) : Int) := by
          intro k
          simp only [lexiphaneref1_Untab.j2]
          rw [if_neg (by simpa using g)]
          rw [show (((c % 16 + 1).toNat : Nat) : Int) = c % 16 + 1 by omega]
          rfl
        refine Ev.step hstep3 ?_
        have hpn : prev (bl b) (i + 1) = c := by
          unfold prev
          rw [if_neg (by omega), show (((i + 1 : Nat) : Int) - 1) = (i : Int) by omega]
          exact hc0
        have := ih (i + 1) (out ++ List.replicate (c % 16 + 1).toNat (c / 16)) (by omega) (by simp; omega) (by rw [← List.drop_drop, h]; rfl)
        rw [hpn, show size - (out ++ List.replicate (c % 16 + 1).toNat (c / 16)).length = m + 1 - (c % 16 + 1).toNat by simp; omega] at this
        refine rget_l1 b size (c / 16) i _ (c % 16 + 1).toNat (c % 16 + 1).toNat 0 out (by omega) (by omega) (by omega) ?_
        rw [wr (by omega) (by omega), show ((i : Int) + 1) = ((i + 1 : Nat) : Int) by omega]
        have er : GetR (out ++ List.replicate (c % 16 + 1).toNat (c / 16)) (i + 1) (dec c rest (m + 1 - (c % 16 + 1).toNat)) =
            GetR out i (if (dec c rest (m + 1 - (c % 16 + 1).toNat)).1 = 0 then (0, List.replicate (c % 16 + 1).toNat (c / 16) ++ (dec c rest (m + 1 - (c % 16 + 1).toNat)).2.1, (dec c rest (m + 1 - (c % 16 + 1).toNat)).2.2 + 1) else ((dec c rest (m + 1 - (c % 16 + 1).toNat)).1, [], 0)) := by
          unfold GetR
          by_cases hd : (dec c rest (m + 1 - (c % 16 + 1).toNat)).1 = 0
          · rw [if_pos hd, if_pos hd, if_pos rfl]
            simp only [List.append_assoc, Prod.mk.injEq, true_and, and_true]
            omega
          · rw [if_neg hd, if_neg hd, if_neg hd]
        rw [er] at this
        exact this
    · have hm : size - out.length = 0 := by omega
      refine Ev.step (f := fun _ => some (GetR out i (dec (prev (bl b) i) (c :: rest) (size - out.length)))) (fun k => ?_) (Ev.now _)
      simp only [lexiphaneref1_Untab.l0]
      rw [if_neg (by omega), hm, dec_zero]
      unfold GetR
      simp
theorem rget_ev (b : ByteArray) (hb : b.size ≤ 140737488351232) (size : Int) : Ev (fun k => lexiphaneref1_Untab.f k b size) (getS b size) := by
  unfold getS
  have hstep : ∀ k, lexiphaneref1_Untab.f k b size = lexiphaneref1_Untab.j0 k b size (decide (size < 0 ∨ 356 < size)) := by
    intro k
    unfold lexiphaneref1_Untab.f
    by_cases h : size < 0
    · rw [if_pos h]; congr 1; symm; rw [decide_eq_true_iff]; exact Or.inl h
    · rw [if_neg h]; congr 1; rw [decide_eq_decide]; omega
  refine Ev.congr hstep ?_
  by_cases h : size < 0 ∨ 356 < size
  · rw [if_pos h]
    refine Ev.step (f := fun _ => some ([], 0, 1)) (fun k => ?_) (Ev.now _)
    simp only [lexiphaneref1_Untab.j0]
    rw [if_pos (by simpa using h)]
  · rw [if_neg h]
    have := rget_l0 b hb size.toNat (by omega) (bl b) 0 [] (by omega) (by simp) rfl
    rw [show ((size.toNat : Nat) : Int) = size by omega] at this
    refine Ev.step (fun k => ?_) this
    simp only [lexiphaneref1_Untab.j0]
    rw [if_neg (by simpa using h)]
    rfl
end TabB
end Go.Proofs.YtdpkgjahcapleaaGreat
