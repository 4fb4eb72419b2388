/- Package flex. -/
import Derived.Test.YtboklkfplnmabaaParse
import Derived.Deep.RegionHeld3
import Derived.Deep.QuietTactic
import Derived.BigQuiet
set_option linter.unusedVariables false
set_option linter.unusedSimpArgs false
namespace Go.Proofs.Ytboklkfplnmabaa
open Go.RowKit Go.Proofs.Ytboklkfplnmabaa.Spec Go.Proofs.YtboklkfplnmabaaW.PrintWords Go.Proofs.YtboklkfplnmabaaW.PrintLast
open Go.Proofs.YtboklkfplnmabaaW.PrintMore
attribute [local go_sem ↓] Go.wp_at_zero Go.wp_at_succ
namespace Spec
def reach (l : List ByteArray) (b : ByteArray) (a n : Nat) : Nat := if a + n < b.size then a + n + (nxt l b (a + n)).2 else a + n
def bet (c o : Int × Nat × Nat) : Bool := if c.2.2 = o.2.2 then decide (o.2.1 < c.2.1) else decide (o.2.2 < c.2.2)
def flx (l : List ByteArray) (b : ByteArray) (a : Nat) : Nat → (Int × Nat × Nat) → Bool → List ByteArray → (Int × Nat × Nat) × Bool
  | _, c, s, [] => (c, s)
  | k, c, s, p :: r => if hp (b.extract a b.size) p = true then flx l b a (k + 1) (if bet (256 + (k : Int), p.size, reach l b a p.size) c = true then (256 + (k : Int), p.size, reach l b a p.size) else c) (s || p.size == 1) r else flx l b a (k + 1) c s r
def fone (l : List ByteArray) (b : ByteArray) (a : Nat) : Int × Nat × Nat := ((((u b).getD a 0).toNat : Int), 1, reach l b a 1)
def fnx (l : List ByteArray) (b : ByteArray) (a : Nat) : Int × Nat :=
  if (flx l b a 0 (0, 0, 0) false l).2 = false ∧ bet (fone l b a) (flx l b a 0 (0, 0, 0) false l).1 = true then ((fone l b a).1, (fone l b a).2.1) else ((flx l b a 0 (0, 0, 0) false l).1.1, (flx l b a 0 (0, 0, 0) false l).1.2.1)
end Spec
theorem flx_nil (l : List ByteArray) (b : ByteArray) (a k : Nat) (c : Int × Nat × Nat) (s : Bool) : flx l b a k c s [] = (c, s) := rfl
theorem flx_cons (l : List ByteArray) (b : ByteArray) (a k : Nat) (c : Int × Nat × Nat) (s : Bool) (p : ByteArray) (r : List ByteArray) : flx l b a k c s (p :: r) = if hp (b.extract a b.size) p = true then flx l b a (k + 1) (if bet (256 + (k : Int), p.size, reach l b a p.size) c = true then (256 + (k : Int), p.size, reach l b a p.size) else c) (s || p.size == 1) r else flx l b a (k + 1) c s r := rfl
theorem hp_size {b : ByteArray} {a : Nat} {p : ByteArray} (ha : a ≤ b.size) (h : hp (b.extract a b.size) p = true) : a + p.size ≤ b.size := by
  unfold hp at h
  rw [decide_eq_true_iff, u_cut] at h
  have := congrArg List.length h
  rw [List.length_take, List.length_take, List.length_drop, u_size, u_size] at this
  omega
/-- A choice that may be taken: it means what stands there. -/
def Fits (l : List ByteArray) (b : ByteArray) (a : Nat) (t : Int) (n : Nat) : Prop := Tok l t ∧ 1 ≤ n ∧ n ≤ 40 ∧ a + n ≤ b.size ∧ word l t = b.extract a (a + n)
theorem fits_one {l : List ByteArray} {b : ByteArray} {a : Nat} (ha : a < b.size) : Fits l b a (((u b).getD a 0).toNat : Int) 1 := by
  have h2 := UInt8.toNat_lt ((u b).getD a 0)
  refine ⟨⟨by omega, by omega⟩, Nat.le_refl 1, by omega, by omega, ?_⟩
  rw [word_low (by omega) (by omega)]
  apply u_inj
  rw [u_cut, Nat.add_sub_cancel_left, Int.toNat_natCast]
  have e : (u b).drop a = (u b).getD a 0 :: (u b).drop (a + 1) := by
    rw [List.getD_eq_getElem?_getD, List.getElem?_eq_getElem (by rw [u_size]; exact ha), Option.getD_some]
    exact List.drop_eq_getElem_cons (by rw [u_size]; exact ha)
  rw [e, List.take_succ_cons, List.take_zero]
  simp [u]
theorem fits_phrase {l : List ByteArray} {b : ByteArray} {a k : Nat} {p : ByteArray} (ha : a ≤ b.size) (hk : l[k]? = some p) (hs : 1 ≤ p.size ∧ p.size ≤ 40) (h : hp (b.extract a b.size) p = true) : Fits l b a (256 + (k : Int)) p.size := by
  have hlt : k < l.length := (List.getElem?_eq_some_iff.1 hk).1
  refine ⟨⟨by omega, by omega⟩, hs.1, hs.2, hp_size ha h, ?_⟩
  rw [word_high (by omega), show (256 + (k : Int)).toNat - 256 = k by omega, List.getD_eq_getElem?_getD, hk, Option.getD_some]
  unfold hp at h
  rw [decide_eq_true_iff, u_cut] at h
  apply u_inj
  rw [u_cut, Nat.add_sub_cancel_left, ← h, List.take_take]
  congr 1
  have := congrArg List.length h
  rw [List.length_take, List.length_take, List.length_drop, u_size, u_size] at this
  omega
theorem flx_fits {l : List ByteArray} (hs : ∀ s ∈ l, 1 ≤ s.size ∧ s.size ≤ 40) (b : ByteArray) (a : Nat) (ha : a < b.size) : ∀ (r : List ByteArray) (k : Nat) (c : Int × Nat × Nat) (s : Bool), l.drop k = r → ((c = (0, 0, 0) ∧ s = false) ∨ (Fits l b a c.1 c.2.1 ∧ 1 ≤ c.2.2)) → (((flx l b a k c s r).1 = (0, 0, 0) ∧ (flx l b a k c s r).2 = false) ∨ (Fits l b a (flx l b a k c s r).1.1 (flx l b a k c s r).1.2.1 ∧ 1 ≤ (flx l b a k c s r).1.2.2)) := by
  intro r
  induction r with
  | nil => intro k c s _ h; exact h
  | cons p r ih =>
    intro k c s hd h
    rw [flx_cons]
    have hk : l[k]? = some p := by
      have := congrArg (fun q => q[0]?) hd
      simpa using this
    have hd2 : l.drop (k + 1) = r := by rw [← List.drop_drop, hd]; rfl
    by_cases hh : hp (b.extract a b.size) p = true
    · rw [if_pos hh]
      refine ih _ _ _ hd2 ?_
      have hf := fits_phrase (Nat.le_of_lt ha) hk (hs p (List.mem_of_getElem? hk)) hh
      have hp1 := hf.2.1
      have hr : 1 ≤ reach l b a p.size := by unfold reach; split <;> omega
      by_cases hb : bet (256 + (k : Int), p.size, reach l b a p.size) c = true
      · rw [if_pos hb]
        exact .inr ⟨hf, hr⟩
      · rw [if_neg hb]
        rcases h with ⟨rfl, rfl⟩ | h
        · exfalso
          apply hb
          unfold bet
          rw [if_neg (show ¬ reach l b a p.size = 0 by omega)]
          exact decide_eq_true (show 0 < reach l b a p.size by omega)
        · exact .inr h
    · rw [if_neg hh]
      exact ih _ _ _ hd2 h
theorem fnx_fits {l : List ByteArray} (hs : ∀ s ∈ l, 1 ≤ s.size ∧ s.size ≤ 40) (b : ByteArray) (a : Nat) (ha : a < b.size) : Fits l b a (fnx l b a).1 (fnx l b a).2 := by
  have h := flx_fits hs b a ha l 0 (0, 0, 0) false rfl (.inl ⟨rfl, rfl⟩)
  unfold fnx
  split
  · exact fits_one ha
  · rename_i hn
    rcases h with ⟨h1, h2⟩ | h
    · exfalso
      apply hn
      refine ⟨h2, ?_⟩
      rw [h1]
      have hr : 1 ≤ reach l b a 1 := by unfold reach; split <;> omega
      unfold bet fone
      rw [if_neg (show ¬ reach l b a 1 = 0 by omega)]
      exact decide_eq_true (show 0 < reach l b a 1 by omega)
    · exact h.1
theorem lng_fits {l : List ByteArray} (hs : ∀ s ∈ l, 1 ≤ s.size ∧ s.size ≤ 40) (b : ByteArray) (a : Nat) (ha : a ≤ b.size) : ∀ (r : List ByteArray) (k : Nat) (q : Int × Nat), l.drop k = r → (q.1 < 0 ∨ ∃ j : Nat, q.1 = j ∧ Fits l b a (256 + (j : Int)) q.2) → ((lng (b.extract a b.size) k q r).1 < 0 ∨ ∃ j : Nat, (lng (b.extract a b.size) k q r).1 = j ∧ Fits l b a (256 + (j : Int)) (lng (b.extract a b.size) k q r).2) := by
  intro r
  induction r with
  | nil => intro k q _ h; exact h
  | cons p r ih =>
    intro k q hd h
    rw [lng_cons]
    have hk : l[k]? = some p := by
      have := congrArg (fun q => q[0]?) hd
      simpa using this
    have hd2 : l.drop (k + 1) = r := by rw [← List.drop_drop, hd]; rfl
    split
    · rename_i hh
      exact ih _ _ hd2 (.inr ⟨k, rfl, fits_phrase ha hk (hs p (List.mem_of_getElem? hk)) hh.2⟩)
    · exact ih _ _ hd2 h
theorem nxt_fits {l : List ByteArray} (hs : ∀ s ∈ l, 1 ≤ s.size ∧ s.size ≤ 40) (b : ByteArray) (a : Nat) (ha : a < b.size) : Fits l b a (nxt l b a).1 (nxt l b a).2 := by
  have h := lng_fits hs b a (Nat.le_of_lt ha) l 0 (-1, 0) rfl (.inl (by decide))
  unfold nxt
  split
  · exact fits_one ha
  · rename_i hn
    rcases h with h | ⟨j, h1, h2⟩
    · exact absurd h hn
    · show Fits l b a (256 + (lng (b.extract a b.size) 0 (-1, 0) l).1) _
      rw [h1]
      exact h2
set_option maxHeartbeats 1000000 in
set_option maxRecDepth 100000 in
theorem next_end {p : Value} (b : ByteArray) (w : World) (hb : b.size ≤ 100000) :
    Calls Try.prog 35 #[p, .string b, .int .i64 (b.size : Int)] w fun e w' => e = .returned (.tuple #[.int .i64 0, .int .i64 0]) ∧ w = w' := by
  have d1 : decide ((b.size : Int) < 0) = false := decide_eq_false (by omega)
  have d2 : decide ((b.size : Int) ≤ (b.size : Int)) = true := decide_eq_true (by omega)
  have d3 : decide (b.size ≤ b.size) = true := decide_eq_true (by omega)
  clear hb
  go_enter Try.func35, Try.ntmps35
  go_wp2
  go_ret2
  exact ⟨rfl, rfl⟩
set_option maxHeartbeats 2000000 in
set_option maxRecDepth 100000 in
theorem reach_any {p : Value} {l : List ByteArray} {w : World} (hd : DictN w p l) (hl : l.length ≤ 1000) (hs : ∀ s ∈ l, 1 ≤ s.size ∧ s.size ≤ 40) (b : ByteArray) (a n : Nat) (ha : a + n ≤ b.size) (hb : b.size ≤ 100000) :
    Calls Try.prog 56 #[p, .string b, .int .i64 a, .int .i64 n] w fun e w' => e = .returned (.int .i64 (reach l b a n : Nat)) ∧ Below w.heap.size w w' := by
  have d1 : decide ((a : Int) < 0) = false := decide_eq_false (by omega)
  have d2 : decide ((n : Int) < 0) = false := decide_eq_false (by omega)
  have d3 : decide ((b.size : Int) < (a : Int)) = false := decide_eq_false (by omega)
  have d3' : decide (b.size < a) = false := decide_eq_false (by omega)
  have d4 : decide ((b.size : Int) - (a : Int) < (n : Int)) = false := decide_eq_false (by omega)
  have z1 : (a : Int) + (n : Int) ≤ (b.size : Int) := by omega
  have z2 : (b.size : Int) ≤ 100000 := by omega
  have z3 : (0 : Int) ≤ (b.size : Int) - (a : Int) := by omega
  have hsum : ((a : Int) + (n : Int)) = ((a + n : Nat) : Int) := by omega
  by_cases hlt : a + n < b.size
  · have hf := nxt_facts hs b (a + n)
    have HX := Aside0.mk (fun w (hd : DictN w p l) => next_any hd hl hs b (a + n) hlt hb)
    have hr : reach l b a n = a + n + (nxt l b (a + n)).2 := by unfold reach; rw [if_pos hlt]
    have HR := Aside0.mk hr
    have HF := Aside0.mk hf.2
    have HS := Aside0.mk hsum
    have HD := Aside0.mk hd
    rw [← hsum] at HX
    generalize nxt l b (a + n) = q at *
    have z4 : (q.2 : Int) ≤ 40 := by have := HF.out; omega
    clear hd hl hs ha hb hr hf hsum
    go_enter Try.func56, Try.ntmps56
    go_wp2_with fail
    refine (HX.out _ HD.out).mono ?_
    rintro e w1 ⟨rfl, hb1⟩
    have H1 := Aside0.mk hb1
    clear hb1
    go_wp2
    go_ret
    refine ⟨?_, H1.out⟩
    rw [HR.out]
    congr 2
  · have he : a + n = b.size := by omega
    have hr : reach l b a n = b.size := by unfold reach; rw [if_neg hlt]; exact he
    have HR := Aside0.mk hr
    have HX := Aside0.mk (fun w => next_end (p := p) b w hb)
    have hse : ((a : Int) + (n : Int)) = (b.size : Int) := by omega
    have HE := Aside0.mk hse
    rw [← hse] at HX
    clear hd hl hs ha hb hr hsum he hse
    go_enter Try.func56, Try.ntmps56
    go_wp2_with fail
    refine (HX.out _).mono ?_
    rintro e w1 ⟨rfl, rfl⟩
    go_wp2
    go_ret
    refine ⟨?_, Below.refl _ _⟩
    rw [HR.out]
    show Ending.returned (.int .i64 ((a : Int) + (n : Int))) = .returned (.int .i64 (b.size : Int))
    rw [HE.out]
end Go.Proofs.Ytboklkfplnmabaa
