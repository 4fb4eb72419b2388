/- ShU: a part of its proof (contracts of the functions that it reaches, and the plain mathematics behind them). -/
import Derived.Test.YtepgkimlmoikmaaGreatShU24
import Derived.BigRegion
import Derived.IntWalk
set_option linter.unusedVariables false
set_option linter.unusedSimpArgs false
set_option maxHeartbeats 2000000
set_option maxRecDepth 100000
set_option linter.unusedVariables false
set_option linter.unusedSimpArgs false
namespace Go.Proofs.YtepgkimlmoikmaaGreat
open Go.RowKit Go.Proofs.YtepgkimlmoikmaaGreat.Spec Go.Proofs.YtepgkimlmoikmaaGreatW.PrintWords Go.Proofs.YtepgkimlmoikmaaGreatW.PrintLast
open Go.Proofs.YtepgkimlmoikmaaGreatW.PrintMore
attribute [local go_sem ↓] Go.wp_at_zero Go.wp_at_succ
abbrev Coin := Int × (Option Addr × Nat × Nat)
def flatC : List Coin → List Value
 | [] => []
 | c :: r => .int .i64 c.1 :: .slice c.2.1 c.2.2.1 c.2.2.2 :: flatC r
def Cn (w : World) (g : Nat) (xs : List Coin) : Prop := ∃ cur : Array Value, w.heap[g]? = some (.cells cur 248 (0, 0)) ∧ xs.length * 2 ≤ cur.size ∧ ∀ i c, xs[i]? = some c → cur[i * 2]? = some (.int .i64 c.1) ∧ cur[i * 2 + 1]? = some (.slice c.2.1 c.2.2.1 c.2.2.2)
theorem Cn.lt {w : World} {g : Nat} {xs : List Coin} (h : Cn w g xs) : g < w.heap.size := by
 obtain ⟨cur, h1, _⟩ := h
 exact blk_lt h1
theorem Cn.get0 {w : World} {g : Nat} {xs : List Coin} (h : Cn w g xs) {i : Nat} {c : Coin} (hc : xs[i]? = some c) : w.cell? ⟨g, i * 2, none⟩ = some (.int .i64 c.1) := by
 obtain ⟨cur, h1, _, h2⟩ := h
 exact (blk_cell h1 (i * 2)).trans (h2 i c hc).1
theorem Cn.get1 {w : World} {g : Nat} {xs : List Coin} (h : Cn w g xs) {i : Nat} {c : Coin} (hc : xs[i]? = some c) : w.cell? ⟨g, i * 2 + 1, none⟩ = some (.slice c.2.1 c.2.2.1 c.2.2.2) := by
 obtain ⟨cur, h1, _, h2⟩ := h
 exact (blk_cell h1 (i * 2 + 1)).trans (h2 i c hc).2
theorem Cn.fz {w : World} {g : Nat} {xs : List Coin} (h : Cn w g xs) (i : Nat) : w.frozen? ⟨g, i, none⟩ = false := by
 obtain ⟨cur, h1, _, _⟩ := h
 exact blk_frozen h1 i
theorem Cn.below {w w1 : World} {g : Nat} {xs : List Coin} (h : Cn w g xs) (hb : Below w.heap.size w w1) : Cn w1 g xs := by
 obtain ⟨cur, h1, h2⟩ := h
 exact ⟨cur, blk_below h1 hb, h2⟩
theorem Cn.drew {w : World} {g : Nat} {xs : List Coin} (h : Cn w g xs) : Cn w.drew g xs := h
theorem Cn.drewN {w : World} {g : Nat} {xs : List Coin} (h : Cn w g xs) (n : Nat) : Cn (w.drewN n) g xs := h
theorem Cn.put {w : World} {g : Nat} {xs : List Coin} (h : Cn w g xs) (i : Nat) (c : Coin) : Cn ((w.setCell ⟨g, i * 2, none⟩ (.int .i64 c.1)).setCell ⟨g, i * 2 + 1, none⟩ (.slice c.2.1 c.2.2.1 c.2.2.2)) g (xs.set i c) := by
 obtain ⟨cur, h1, h2, h3⟩ := h
 refine ⟨_, blk_set (blk_set h1 (i * 2) (.int .i64 c.1)) (i * 2 + 1) (.slice c.2.1 c.2.2.1 c.2.2.2), by rw [List.length_set, Array.size_setIfInBounds, Array.size_setIfInBounds]; exact h2, fun j d hj => ?_⟩
 rw [Array.getElem?_setIfInBounds, Array.getElem?_setIfInBounds, Array.getElem?_setIfInBounds, Array.getElem?_setIfInBounds, Array.size_setIfInBounds]
 rw [List.getElem?_set] at hj
 by_cases he : i = j
 ·subst he
  rw [if_pos rfl] at hj
  by_cases hlt : i < xs.length
  ·rw [if_pos hlt, Option.some.injEq] at hj
   subst hj
   rw [if_neg (by omega), if_pos rfl, if_pos (by omega), if_pos rfl, if_pos (by omega)]
   exact ⟨rfl, rfl⟩
  ·rw [if_neg hlt] at hj
   cases hj
 ·rw [if_neg he] at hj
  rw [if_neg (by omega), if_neg (by omega), if_neg (by omega), if_neg (by omega)]
  exact h3 j d hj
theorem swap_app {α : Type} (P M Q : List α) (x y : α) : ((P ++ x :: (M ++ y :: Q)).set P.length y).set (P.length + 1 + M.length) x = P ++ y :: (M ++ x :: Q) := by
 rw [List.set_append_right _ _ (Nat.le_refl _), Nat.sub_self, List.set_cons_zero, List.set_append_right _ _ (by omega)]
 rw [show P.length + 1 + M.length - P.length = M.length + 1 by omega, List.set_cons_succ, List.set_append_right _ _ (Nat.le_refl _), Nat.sub_self, List.set_cons_zero]
theorem at_mid {α : Type} (P Q : List α) (x : α) : (P ++ x :: Q)[P.length]? = some x := by
 rw [List.getElem?_append_right (Nat.le_refl _), Nat.sub_self, List.getElem?_cons_zero]
theorem Cn.swap {w : World} {g : Nat} {P M Q : List Coin} {x y : Coin} (h : Cn w g (P ++ x :: (M ++ y :: Q))) {I J : Nat} (hi : I = P.length) (hj : J = P.length + 1 + M.length) :
  Cn (((((w.setCell ⟨g, I * 2, none⟩ (.int .i64 y.1)).setCell ⟨g, I * 2 + 1, none⟩ (.slice y.2.1 y.2.2.1 y.2.2.2)).setCell ⟨g, J * 2, none⟩ (.int .i64 x.1)).setCell ⟨g, J * 2 + 1, none⟩ (.slice x.2.1 x.2.2.1 x.2.2.2)).drew) g (P ++ y :: (M ++ x :: Q)) := by
 have := (h.put I y).put J x
 rw [hi, hj, swap_app] at this
 rw [hi, hj]
 exact this.drew
theorem kp_swap {w w1 : World} {g a b c d : Nat} {x y z u : Value} (h : Kp w w1 g none) : Kp w (((((w1.setCell ⟨g, a, none⟩ x).setCell ⟨g, b, none⟩ y).setCell ⟨g, c, none⟩ z).setCell ⟨g, d, none⟩ u).drew) g none := kp_drew ((((h.set_ a x).set_ b y).set_ c z).set_ d u)
theorem swaprange_any {g n cap a b k : Nat} {F : Value} (P A M B Q : List Coin) (ha : a = P.length) (hk : k = A.length) (hkb : k = B.length) (hb : b = P.length + A.length + M.length) (hn : n = P.length + A.length + M.length + B.length + Q.length) (hs : n ≤ 100000) {w : World} (h : Cn w g (P ++ (A ++ (M ++ (B ++ Q))))) :
  Calls Tryz.prog 233 #[.slice (some ⟨g, 0, none⟩) n cap, .int .i64 (a : Int), .int .i64 (b : Int), .int .i64 (k : Int), F] w fun e w' => e = .returned (.tuple #[]) ∧ Cn w' g (P ++ (B ++ (M ++ (A ++ Q)))) ∧ Kp w w' g none := by
 have H := Aside0.mk h
 have HX := Aside0.mk (And.intro ha (And.intro hk (And.intro hkb (And.intro hb (And.intro hn hs)))))
 clear h ha hk hkb hb hn hs
 go_enter Tryz.func233, Tryz.ntmps233
 go_wp2_with fail
 go_loopw [10] (fun v10 wr => ∃ (i : Nat) (A1 A2 B1 B2 : List Coin), v10 = .int .i64 (i : Int) ∧ Aside0 (A = A1 ++ A2 ∧ B = B1 ++ B2 ∧ A1.length = i ∧ B1.length = i) ∧ Aside0 (Cn wr g (P ++ ((B1 ++ A2) ++ (M ++ ((A1 ++ B2) ++ Q))))) ∧ Aside0 (Kp w wr g none)) (fun v10 _ => k - (intOf v10).toNat)
 case atStart => exact ⟨0, [], A, [], B, rfl, ⟨⟨rfl, rfl, rfl, rfl⟩⟩, H, ⟨Kp.refl _ _ _⟩⟩
 case round =>
  obtain ⟨i, A1, A2, B1, B2, rfl, HA, HC, HK⟩ := hrel
  obtain ⟨h1, h2, h3, h4⟩ := HA.out
  obtain ⟨x1, x2, x3, x4, x5, x6⟩ := HX.out
  have e1 := congrArg List.length h1
  have e2 := congrArg List.length h2
  rw [List.length_append] at e1 e2
  cases A2 with
  | nil =>
   rw [List.length_nil] at e1
   have d0 : decide ((i : Int) < (k : Int)) = false := decide_eq_false (by omega)
   have d0' : decide (i < k) = false := decide_eq_false (by omega)
   have hb2 : B2 = [] := List.eq_nil_of_length_eq_zero (by omega)
   have HB2 := Aside0.mk hb2
   clear h1 h2 h3 h4 x1 x2 x3 x4 x5 x6 e1 e2 hb2
   go_wp2
   go_end0
   have hc := HC.out
   obtain ⟨h1, h2, h3, h4⟩ := HA.out
   rw [HB2.out] at h2 hc
   rw [List.append_nil] at h1 h2 hc
   rw [List.append_nil] at hc
   rw [← h1, ← h2] at hc
   exact ⟨rfl, hc, HK.out⟩
  | cons x A2 =>
   cases B2 with
   | nil =>
    rw [List.length_nil] at e2
    rw [List.length_cons] at e1
    exfalso
    omega
   | cons y B2 =>
    rw [List.length_cons] at e1 e2
    have d0 : decide ((i : Int) < (k : Int)) = true := decide_eq_true (by omega)
    have d0' : decide (i < k) = true := decide_eq_true (by omega)
    have HLT := Aside0.mk (show i < k by omega)
    have hl : P ++ ((B1 ++ x :: A2) ++ (M ++ ((A1 ++ y :: B2) ++ Q))) = (P ++ B1) ++ x :: ((A2 ++ (M ++ A1)) ++ y :: (B2 ++ Q)) := by simp
    have hi : a + i = (P ++ B1).length := by rw [List.length_append]; omega
    have hj : b + i = (P ++ B1).length + 1 + (A2 ++ (M ++ A1)).length := by rw [List.length_append, List.length_append, List.length_append]; omega
    have hc := HC.out
    rw [hl] at hc
    have g1 : ((P ++ B1) ++ x :: ((A2 ++ (M ++ A1)) ++ y :: (B2 ++ Q)))[a + i]? = some x := by rw [hi]; exact at_mid _ _ _
    have g2 : ((P ++ B1) ++ x :: ((A2 ++ (M ++ A1)) ++ y :: (B2 ++ Q)))[b + i]? = some y := by
     rw [hj, ← List.singleton_append, ← List.append_assoc, ← List.append_assoc]
     have := at_mid ((P ++ B1) ++ [x] ++ (A2 ++ (M ++ A1))) (B2 ++ Q) y
     rw [List.length_append, List.length_append, List.length_singleton] at this
     exact this
    have c1 := hc.get0 g1
    have c2 := hc.get1 g1
    have c3 := hc.get0 g2
    have c4 := hc.get1 g2
    have f1 := hc.fz ((a + i) * 2)
    have f2 := hc.fz ((a + i) * 2 + 1)
    have f3 := hc.fz ((b + i) * 2)
    have f4 := hc.fz ((b + i) * 2 + 1)
    have HC2 := Aside0.mk hc
    have HIJ := Aside0.mk (And.intro hi hj)
    have hlt : a + i < b + i := by omega
    obtain ⟨I, hI⟩ : ∃ I, I = a + i := ⟨_, rfl⟩
    obtain ⟨J, hJ⟩ : ∃ J, J = b + i := ⟨_, rfl⟩
    rw [← hI] at c1 c2 f1 f2
    rw [← hJ] at c3 c4 f3 f4
    have q1 : ((a : Int) + (i : Int)).toNat = I := by omega
    have q2 : ((b : Int) + (i : Int)).toNat = J := by omega
    have q3 : (0 : Int) ≤ (a : Int) + (i : Int) := by omega
    have q4 : (a : Int) + (i : Int) < (n : Int) := by omega
    have q5 : (0 : Int) ≤ (b : Int) + (i : Int) := by omega
    have q6 : (b : Int) + (i : Int) < (n : Int) := by omega
    have q9 : (i : Int) ≤ 100000 := by omega
    have n1 : I * 2 ≠ J * 2 := by omega
    have n2 : I * 2 ≠ J * 2 + 1 := by omega
    have n3 : I * 2 + 1 ≠ J * 2 := by omega
    have n4 : J * 2 ≠ I * 2 := by omega
    have n5 : J * 2 ≠ I * 2 + 1 := by omega
    have n6 : J * 2 + 1 ≠ I * 2 := by omega
    have q7 : IntKind.i64.wrap ((a : Int) + (i : Int)) = (a : Int) + (i : Int) := IntWalk.i64_in _ (by omega)
    have q8 : IntKind.i64.wrap ((b : Int) + (i : Int)) = (b : Int) + (i : Int) := IntWalk.i64_in _ (by omega)
    have HI := Aside0.mk (And.intro hI hJ)
    clear h1 h2 h3 h4 x1 x2 x3 x4 x5 x6 e1 e2 hl hi hj hc g1 g2 hI hJ hlt
    go_wp2_with fail
    go_region
    clear q1 q2 q3 q4 q5 q6 q7 q8 n1 n2 n3 n4 n5 n6 c1 c2 c3 c4 f1 f2 f3 f4
    go_wp2_with fail
    go_roundw
    case rel =>
     obtain ⟨h1, h2, h3, h4⟩ := HA.out
     have hc := Cn.swap HC2.out (I := I) (J := J) (HI.out.1.trans HIJ.out.1) (HI.out.2.trans HIJ.out.2)
     have hl : (P ++ B1) ++ y :: ((A2 ++ (M ++ A1)) ++ x :: (B2 ++ Q)) = P ++ (((B1 ++ [y]) ++ A2) ++ (M ++ (((A1 ++ [x]) ++ B2) ++ Q))) := by simp
     rw [hl] at hc
     exact ⟨i + 1, A1 ++ [x], A2, B1 ++ [y], B2, stepI i, ⟨⟨by rw [h1]; simp, by rw [h2]; simp, by rw [List.length_append, h3]; rfl, by rw [List.length_append, h4]; rfl⟩⟩, ⟨hc⟩, ⟨kp_swap HK.out⟩⟩
    case measure => have h := HLT.out; exact measI _ _ h
theorem rotate_any {g n cap a m b : Nat} {F : Value} (P A B Q : List Coin) (ha : a = P.length) (hm : m = P.length + A.length) (hb : b = P.length + A.length + B.length) (hn : n = P.length + A.length + B.length + Q.length) (hA : 1 ≤ A.length) (hB : 1 ≤ B.length) (hs : n ≤ 100000) {w : World} (h : Cn w g (P ++ (A ++ (B ++ Q)))) :
  Calls Tryz.prog 232 #[.slice (some ⟨g, 0, none⟩) n cap, .int .i64 (a : Int), .int .i64 (m : Int), .int .i64 (b : Int), F] w fun e w' => e = .returned (.tuple #[]) ∧ Cn w' g (P ++ (B ++ (A ++ Q))) ∧ Kp w w' g none := by
 have H := Aside0.mk h
 have HX := Aside0.mk (And.intro ha (And.intro hm (And.intro hb (And.intro hn (And.intro hA (And.intro hB hs))))))
 have z1 : (a : Int) ≤ (m : Int) := by omega
 have z2 : (m : Int) ≤ (b : Int) := by omega
 have z3 : (b : Int) ≤ 100000 := by omega
 clear h ha hm hb hn hs hA hB
 go_enter Tryz.func232, Tryz.ntmps232
 go_wp2_with fail
 go_loopw [10, 11] (fun v10 v11 wr => ∃ (i j : Nat) (X A1 B1 Y : List Coin), v10 = .int .i64 (i : Int) ∧ v11 = .int .i64 (j : Int) ∧ Aside0 (X.length + i = m ∧ A1.length = i ∧ B1.length = j ∧ X.length + i + j + Y.length = n ∧ 1 ≤ i ∧ 1 ≤ j) ∧ Aside0 (X ++ (B1 ++ (A1 ++ Y)) = P ++ (B ++ (A ++ Q))) ∧ Aside0 (Cn wr g (X ++ (A1 ++ (B1 ++ Y)))) ∧ Aside0 (Kp w wr g none)) (fun v10 v11 _ => (intOf v10).toNat + (intOf v11).toNat)
 case atStart =>
  obtain ⟨x1, x2, x3, x4, x5, x6, x7⟩ := HX.out
  exact ⟨A.length, B.length, P, A, B, Q, congrArg (Value.int .i64) (by omega), congrArg (Value.int .i64) (by omega), ⟨by omega⟩, ⟨rfl⟩, H, ⟨Kp.refl _ _ _⟩⟩
 case round =>
  obtain ⟨i, j, X, A1, B1, Y, rfl, rfl, HI, HE, HC, HK⟩ := hrel
  obtain ⟨i1, i2, i3, i4, i5, i6⟩ := HI.out
  obtain ⟨x1, x2, x3, x4, x5, x6, x7⟩ := HX.out
  have z4 : (i : Int) ≤ (m : Int) := by omega
  have z5 : (m : Int) + (j : Int) ≤ 100000 := by omega
  have z6 : (1 : Int) ≤ (i : Int) := by omega
  have z7 : (1 : Int) ≤ (j : Int) := by omega
  have e1 : (m : Int) - (i : Int) = (X.length : Int) := by omega
  rcases Nat.lt_trichotomy i j with hij | hij | hij
  ·have d1 : ((i : Int) != (j : Int)) = true := bne_iff_ne.2 (by omega)
   have d1' : (i != j) = true := bne_iff_ne.2 (by omega)
   have d2 : decide ((j : Int) < (i : Int)) = false := decide_eq_false (by omega)
   have d2' : decide (j < i) = false := decide_eq_false (by omega)
   have e2 : (m : Int) + (j : Int) - (i : Int) = ((X.length + A1.length + (B1.take (j - i)).length : Nat) : Int) := by rw [List.length_take]; omega
   have hb : B1 = B1.take (j - i) ++ B1.drop (j - i) := (List.take_append_drop _ _).symm
   have l1 : (B1.take (j - i)).length = j - i := by rw [List.length_take]; omega
   have l2 : (B1.drop (j - i)).length = i := by rw [List.length_drop]; omega
   have hc := HC.out
   have he := HE.out
   generalize B1.take (j - i) = T1 at *
   generalize B1.drop (j - i) = T2 at *
   subst hb
   have hc2 : Cn wr g (X ++ (A1 ++ (T1 ++ (T2 ++ Y)))) := by rw [List.append_assoc] at hc; exact hc
   have HSW := Aside0.mk (swaprange_any (cap := cap) (F := F) (n := n) X A1 T1 T2 Y (a := X.length) (b := X.length + A1.length + T1.length) (k := i) rfl (by omega) (by omega) rfl (by omega) x7 hc2)
   rw [← e1, ← e2] at HSW
   have HL := Aside0.mk (And.intro l1 l2)
   have HIJ := Aside0.mk hij
   have HE2 := Aside0.mk he
   have e3 : (j : Int) - (i : Int) = ((j - i : Nat) : Int) := by omega
   have HE3 := Aside0.mk e3
   clear i1 i2 i3 i4 i5 i6 x1 x2 x3 x4 x5 x6 x7 hij e1 e2 l1 l2 hc he hc2 e3
   go_wp2_with fail
   refine HSW.out.mono ?_
   rintro e w2 ⟨rfl, hc2, hk2⟩
   have HC2 := Aside0.mk hc2
   have HK2 := Aside0.mk (HK.out.trans hk2 (.inl rfl))
   clear hc2 hk2
   go_wp2_with fail
   go_roundw
   case rel =>
    obtain ⟨i1, i2, i3, i4, i5, i6⟩ := HI.out
    obtain ⟨l1, l2⟩ := HL.out
    have hij := HIJ.out
    rw [List.length_append] at i3
    refine ⟨i, j - i, X, T2, T1, A1 ++ Y, rfl, congrArg (Value.int .i64) HE3.out, ⟨by rw [List.length_append]; omega⟩, ⟨?_⟩, HC2, HK2⟩
    rw [← HE2.out, List.append_assoc]
   case measure =>
    have hij := HIJ.out
    obtain ⟨i1, i2, i3, i4, i5, i6⟩ := HI.out
    show (i : Int).toNat + ((j : Int) - (i : Int)).toNat < (i : Int).toNat + (j : Int).toNat
    omega
  ·subst hij
   have HSW := Aside0.mk (swaprange_any (cap := cap) (F := F) (n := n) X A1 [] B1 Y (a := X.length) (b := m) (k := i) rfl (by omega) (by omega) (by rw [List.length_nil]; omega) (by rw [List.length_nil]; omega) x7 HC.out)
   rw [← e1] at HSW
   have d1 : ((i : Int) != (i : Int)) = false := by simp
   clear i1 i2 i3 i4 i5 i6 x1 x2 x3 x4 x5 x6 x7 e1
   go_wp2_with fail
   refine HSW.out.mono ?_
   rintro e w2 ⟨rfl, hc2, hk2⟩
   have HC2 := Aside0.mk hc2
   have HK2 := Aside0.mk (HK.out.trans hk2 (.inl rfl))
   clear hc2 hk2
   go_wp2
   go_end0
   have hc := HC2.out
   rw [List.nil_append, HE.out] at hc
   exact ⟨rfl, hc, HK2.out⟩
  ·have d1 : ((i : Int) != (j : Int)) = true := bne_iff_ne.2 (by omega)
   have d1' : (i != j) = true := bne_iff_ne.2 (by omega)
   have d2 : decide ((j : Int) < (i : Int)) = true := decide_eq_true (by omega)
   have d2' : decide (j < i) = true := decide_eq_true (by omega)
   have hb : A1 = A1.take j ++ A1.drop j := (List.take_append_drop _ _).symm
   have l1 : (A1.take j).length = j := by rw [List.length_take]; omega
   have l2 : (A1.drop j).length = i - j := by rw [List.length_drop]; omega
   have hc := HC.out
   have he := HE.out
   generalize A1.take j = T1 at *
   generalize A1.drop j = T2 at *
   subst hb
   have hc2 : Cn wr g (X ++ (T1 ++ (T2 ++ (B1 ++ Y)))) := by rw [List.append_assoc] at hc; exact hc
   have HSW := Aside0.mk (swaprange_any (cap := cap) (F := F) (n := n) X T1 T2 B1 Y (a := X.length) (b := m) (k := j) rfl (by omega) (by omega) (by omega) (by omega) x7 hc2)
   rw [← e1] at HSW
   have HL := Aside0.mk (And.intro l1 l2)
   have HIJ := Aside0.mk hij
   have HE2 := Aside0.mk he
   have e3 : (i : Int) - (j : Int) = ((i - j : Nat) : Int) := by omega
   have HE3 := Aside0.mk e3
   clear i1 i2 i3 i4 i5 i6 x1 x2 x3 x4 x5 x6 x7 hij e1 l1 l2 hc he hc2 e3
   go_wp2_with fail
   refine HSW.out.mono ?_
   rintro e w2 ⟨rfl, hc2, hk2⟩
   have HC2 := Aside0.mk hc2
   have HK2 := Aside0.mk (HK.out.trans hk2 (.inl rfl))
   clear hc2 hk2
   go_wp2_with fail
   go_roundw
   case rel =>
    obtain ⟨i1, i2, i3, i4, i5, i6⟩ := HI.out
    obtain ⟨l1, l2⟩ := HL.out
    have hij := HIJ.out
    rw [List.length_append] at i2
    have hc := HC2.out
    rw [← List.append_assoc] at hc
    refine ⟨i - j, j, X ++ B1, T2, T1, Y, congrArg (Value.int .i64) HE3.out, rfl, ⟨by rw [List.length_append]; omega⟩, ⟨?_⟩, ⟨hc⟩, HK2⟩
    rw [← HE2.out, List.append_assoc, List.append_assoc]
   case measure =>
    have hij := HIJ.out
    obtain ⟨i1, i2, i3, i4, i5, i6⟩ := HI.out
    show ((i : Int) - (j : Int)).toNat + (j : Int).toNat < (i : Int).toNat + (j : Int).toNat
    omega
end Go.Proofs.YtepgkimlmoikmaaGreat
