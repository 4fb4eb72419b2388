/- The reference's answer on bytes comes to the plain mathematics. -/
import Derived.Test.YtbnoeoghhbhhcaaDictE
set_option linter.unusedVariables false
set_option linter.unusedSimpArgs false
namespace Go.Proofs.Ytbnoeoghhbhhcaa
open Go.RowKit Go.Proofs.Ytbnoeoghhbhhcaa.Spec Go.Proofs.YtbnoeoghhbhhcaaW.PrintWords Go.Proofs.YtbnoeoghhbhhcaaW.PrintLast
open Go.Proofs.YtbnoeoghhbhhcaaW.PrintMore
def loadR (x : List ByteArray × Nat × Nat) : List ByteArray × Int × Int := (x.1, (x.2.1 : Int), (x.2.2 : Int))
theorem rload_l0 (b : ByteArray) (hb : b.size ≤ 1000000) (n k0 : Nat) (hn : n < 4294967296)
    (hsp : split (u b) = if (take n k0 ((u b).drop k0)).2.2 ≠ 0 then ([], (take n k0 ((u b).drop k0)).2.2, (take n k0 ((u b).drop k0)).2.1) else if (take n k0 ((u b).drop k0)).2.1 < b.size then ([], 13, (take n k0 ((u b).drop k0)).2.1) else ((take n k0 ((u b).drop k0)).1, 0, 0))
    (d : Nat) : ∀ (k at_ : Nat) (done : List ByteArray), k + d = n → at_ ≤ b.size → done.length ≤ at_ → Rest b n k0 k at_ done → Ev (fun q => Leaf.lexiphaneref1_Load.l0 q b (n : Int) (at_ : Int) done (k : Int)) (loadR (Spec.load (u b))) := by
  induction d with
  | zero =>
    intro k at_ done hk hat hdl hR
    obtain rfl : k = n := by omega
    have hs := rest_end hR
    rw [hs] at hsp
    simp only at hsp
    rw [if_neg (by simp)] at hsp
    by_cases hq : at_ < b.size
    · rw [if_pos hq] at hsp
      have hl : Spec.load (u b) = ([], 13, at_) := by unfold Spec.load; rw [hsp, if_pos (by simp)]
      rw [hl]
      refine Ev.step (f := fun _ => some _) (fun q => ?_) (Ev.now _)
      simp only [Leaf.lexiphaneref1_Load.l0]
      rw [if_neg (by omega), if_pos (by omega)]
      rfl
    · rw [if_neg hq] at hsp
      have hsm := (split_once (b := u b) (by rw [hsp])).2.2.2
      rw [hsp] at hsm
      have hph := Bridge.phrases_ev done (fun s hs => by have := hsm s hs; omega)
      refine Ev.step (f := fun q => (Leaf.lexiphaneref1_Phrases.f q done).bind fun bt136 => (if bt136.1 = 0 then (some (done, 0, 0)) else (some (([] : List ByteArray), bt136.1, bt136.2)))) (fun q => ?_) ?_
      · simp only [Leaf.lexiphaneref1_Load.l0]
        rw [if_neg (by omega), if_neg (by omega)]
      · refine Ev.bind hph ?_
        by_cases hz : (phrases done).1 = 0
        · have hl : Spec.load (u b) = (done, 0, 0) := by unfold Spec.load; rw [hsp, if_neg (by simp), if_neg (by simp only; omega)]
          rw [hl]
          refine Ev.congr (f := fun _ => some _) (fun q => ?_) (Ev.now _)
          rw [if_pos (by unfold Bridge.phrR; simp only; omega)]
          rfl
        · have hl : Spec.load (u b) = ([], (phrases done).1, (phrases done).2) := by unfold Spec.load; rw [hsp, if_neg (by simp), if_pos (by simp only; omega)]
          rw [hl]
          refine Ev.congr (f := fun _ => some _) (fun q => ?_) (Ev.now _)
          rw [if_neg (by unfold Bridge.phrR; simp only; omega)]
          rfl
  | succ d ih =>
    intro k at_ done hk hat hdl hR
    have hlt : k < n := by omega
    have hxu := u_from b at_
    have hG := Bridge.unnumber_ev (b.extract at_ b.size) (by rw [← u_size, hxu, List.length_drop, u_size]; omega)
    rw [hxu] at hG
    have hstep : ∀ q, Leaf.lexiphaneref1_Load.l0 (q + 1) b (n : Int) (at_ : Int) done (k : Int) = (Leaf.lexiphaneref1_Unnumber.f q (b.extract at_ b.size)).bind fun bt130 => (if bt130.2.2 = 0 then (if bt130.1 > (wrap64 ((b.size : Int) - (wrap64 ((at_ : Int) + bt130.2.1)))) then (some (([] : List ByteArray), 2, wrap64 ((at_ : Int) + bt130.2.1))) else (if 0 ≤ (wrap64 ((at_ : Int) + bt130.2.1)) then (if (wrap64 ((at_ : Int) + bt130.2.1)) ≤ (wrap64 ((wrap64 ((at_ : Int) + bt130.2.1)) + bt130.1)) then (if (wrap64 ((wrap64 ((at_ : Int) + bt130.2.1)) + bt130.1)) ≤ (b.size : Int) then (if done.length < 8796093022208 then (Leaf.lexiphaneref1_Load.l0 q b n (wrap64 ((wrap64 ((at_ : Int) + bt130.2.1)) + bt130.1)) (done ++ [b.extract ((wrap64 ((at_ : Int) + bt130.2.1)) : Int).toNat ((wrap64 ((wrap64 ((at_ : Int) + bt130.2.1)) + bt130.1)) : Int).toNat]) (wrap64 ((k : Int) + 1))) else (none)) else (none)) else (none)) else (none))) else (some (([] : List ByteArray), bt130.2.2, (at_ : Int)))) := by
      intro q
      simp only [Leaf.lexiphaneref1_Load.l0]
      rw [if_pos (by omega), if_pos (by omega), if_pos (by omega), Int.toNat_natCast]
    refine Ev.step hstep ?_
    refine Ev.bind hG ?_
    by_cases he2 : (un 0 0 ((u b).drop at_)).2.2 = 0
    · obtain ⟨q, q1, q2, q3, q4, _, q6⟩ := un_once ((u b).drop at_) 0 0 (by omega) he2
      rw [List.length_drop, u_size] at q4
      simp only [Nat.pow_zero, Nat.mul_one, Nat.zero_add] at q1 q6
      have hll : (((u b).drop at_).drop (un 0 0 ((u b).drop at_)).2.1).length = b.size - at_ - (un 0 0 ((u b).drop at_)).2.1 := by rw [List.length_drop, List.length_drop, u_size]
      have hR1 := rest_long hR hlt he2
      have hR2 := rest_next hR hlt he2
      rw [hll] at hR1 hR2
      unfold Bridge.unR
      rw [he2]
      generalize hj : (un 0 0 ((u b).drop at_)).2.1 = j at *
      generalize hm : (un 0 0 ((u b).drop at_)).1 = m at *
      have hm2 : m < 4294967296 := by omega
      have w1 := Aside0.mk (show wrap64 ((at_ : Int) + (j : Int)) = ((at_ + j : Nat) : Int) by rw [Bridge.wr (by omega) (by omega)]; omega)
      have w2 := Aside0.mk (show wrap64 (((at_ + j : Nat) : Int) + (m : Int)) = ((at_ + j + m : Nat) : Int) by rw [Bridge.wr (by omega) (by omega)]; omega)
      have w3 := Aside0.mk (show wrap64 ((b.size : Int) - ((at_ + j : Nat) : Int)) = (b.size : Int) - ((at_ + j : Nat) : Int) from Bridge.wr (by omega) (by omega))
      simp only [w1.out, w2.out, w3.out, Int.toNat_natCast]
      by_cases hlong : b.size - at_ - j < m
      · have hs := hR1 hlong
        rw [hs] at hsp
        simp only at hsp
        rw [if_pos (by simp)] at hsp
        have hl : Spec.load (u b) = ([], 2, at_ + j) := by unfold Spec.load; rw [hsp, if_pos (by simp)]
        rw [hl]
        refine Ev.congr (f := fun _ => some _) (fun q => ?_) (Ev.now _)
        rw [if_pos (by omega), if_pos (by omega)]
        rfl
      · have := ih (k + 1) (at_ + j + m) _ (by omega) (by omega) (by simp only [List.length_append, List.length_cons, List.length_nil]; omega) (hR2 hlong)
        refine Ev.congr (fun q => ?_) this
        rw [if_pos (by omega), if_neg (by omega), if_pos (by omega), if_pos (by omega), if_pos (by omega), if_pos (by omega), Bridge.wrS k (by omega)]
    · have hs := rest_err hR hlt he2
      rw [hs] at hsp
      simp only at hsp
      rw [if_pos he2] at hsp
      have hl : Spec.load (u b) = ([], (un 0 0 ((u b).drop at_)).2.2, at_) := by unfold Spec.load; rw [hsp, if_pos he2]
      rw [hl]
      refine Ev.congr (f := fun _ => some _) (fun q => ?_) (Ev.now _)
      unfold Bridge.unR
      rw [if_neg (by simp only; omega)]
      rfl
theorem rload_ev (b : ByteArray) (hb : b.size ≤ 1000000) : Ev (fun q => Leaf.lexiphaneref1_Load.f q b) (loadR (Spec.load (u b))) := by
  refine Ev.congr (f := fun k => (Leaf.lexiphaneref1_Unnumber.f k b).bind fun bt127 => (if bt127.2.2 = 0 then (Leaf.lexiphaneref1_Load.l0 k b bt127.1 bt127.2.1 ([] : List ByteArray) 0) else (some (([] : List ByteArray), bt127.2.2, 0)))) (fun q => rfl) ?_
  refine Ev.bind (Bridge.unnumber_ev b (by omega)) ?_
  by_cases he : (un 0 0 (u b)).2.2 = 0
  · obtain ⟨q, q1, q2, q3, q4, _, q6⟩ := un_once (u b) 0 0 (by omega) he
    rw [u_size] at q4
    simp only [Nat.pow_zero, Nat.mul_one, Nat.zero_add] at q1 q6
    have hsp : split (u b) = if (take (un 0 0 (u b)).1 (un 0 0 (u b)).2.1 ((u b).drop (un 0 0 (u b)).2.1)).2.2 ≠ 0 then ([], (take (un 0 0 (u b)).1 (un 0 0 (u b)).2.1 ((u b).drop (un 0 0 (u b)).2.1)).2.2, (take (un 0 0 (u b)).1 (un 0 0 (u b)).2.1 ((u b).drop (un 0 0 (u b)).2.1)).2.1) else if (take (un 0 0 (u b)).1 (un 0 0 (u b)).2.1 ((u b).drop (un 0 0 (u b)).2.1)).2.1 < b.size then ([], 13, (take (un 0 0 (u b)).1 (un 0 0 (u b)).2.1 ((u b).drop (un 0 0 (u b)).2.1)).2.1) else ((take (un 0 0 (u b)).1 (un 0 0 (u b)).2.1 ((u b).drop (un 0 0 (u b)).2.1)).1, 0, 0) := by
      unfold split
      rw [if_neg (by omega), u_size]
    have := rload_l0 b hb _ _ (by omega) hsp (un 0 0 (u b)).1 0 _ [] (by omega) (by omega) (by simp) (rest_start b _ _)
    refine Ev.congr (fun q => ?_) this
    unfold Bridge.unR
    rw [if_pos (by simp only; omega)]
    rfl
  · have hsp : split (u b) = ([], (un 0 0 (u b)).2.2, 0) := by unfold split; rw [if_pos he]
    have hl : Spec.load (u b) = ([], (un 0 0 (u b)).2.2, 0) := by unfold Spec.load; rw [hsp, if_pos he]
    rw [hl]
    refine Ev.congr (f := fun _ => some _) (fun q => ?_) (Ev.now _)
    unfold Bridge.unR
    rw [if_neg (by simp only; omega)]
    rfl
theorem rload_calls (b : ByteArray) (hb : b.size ≤ 1000000) (w : World) : Calls Try.prog 25 #[.string b] w fun e w' => ∃ A c, e = .returned (.tuple #[.slice A (Spec.load (u b)).1.length c, .int .i64 (Spec.load (u b)).2.1, .int .i64 (Spec.load (u b)).2.2]) ∧ Aside0 (StrsAt w' w.heap.size (.slice A (Spec.load (u b)).1.length c) (Spec.load (u b)).1) ∧ Below w.heap.size w w' := by
  obtain ⟨k, hk⟩ := (rload_ev b hb).rounds
  refine (Leaf.lexiphaneref1_Load.calls k b _ _ _ w hk).mono ?_
  rintro e w' ⟨v, rfl, hv, hb⟩
  obtain ⟨A, c, rfl, _, _⟩ := Kd.R_reads hv
  exact ⟨A, c, rfl, ⟨hv⟩, hb⟩
end Go.Proofs.Ytbnoeoghhbhhcaa
