/- ShU: a part of its proof (contracts of the functions that it reaches, and the plain mathematics behind them). -/
import Derived.Test.YtepgkimlmoikmaaGreatShU25
import Derived.Test.YtepgkimlmoikmaaGreatShU26
set_option linter.unusedVariables false
set_option linter.unusedSimpArgs false
set_option maxHeartbeats 2000000
set_option maxRecDepth 100000
set_option linter.unusedVariables false
set_option linter.unusedSimpArgs false
namespace Go.Proofs.YtepgkimlmoikmaaGreat
open Go.RowKit Go.Proofs.YtepgkimlmoikmaaGreat.Spec Go.Proofs.YtepgkimlmoikmaaGreatW.PrintWords Go.Proofs.YtepgkimlmoikmaaGreatW.PrintLast
open Go.Proofs.YtepgkimlmoikmaaGreatW.PrintMore
attribute [local go_sem ↓] Go.wp_at_zero Go.wp_at_succ
def SmC (xs : List Coin) : Prop := ∀ c ∈ xs, 0 ≤ c.1 ∧ c.1 ≤ 1152921504606846976
structure Cmp (f : FuncId) : Prop where
 eg : ∀ args w, (callFunc f args).run Tryz.prog w = .ok (.enter f args) w
 calls : ∀ (x y : Coin), (0 ≤ x.1 ∧ x.1 ≤ 1152921504606846976) → (0 ≤ y.1 ∧ y.1 ≤ 1152921504606846976) → ∀ w, Calls Tryz.prog f #[.agg #[.int .i64 x.1, .slice x.2.1 x.2.2.1 x.2.2.2], .agg #[.int .i64 y.1, .slice y.2.1 y.2.2.1 y.2.2.2]] w fun e w' => e = .returned (.int .i64 (x.1 - y.1)) ∧ Below w.heap.size w w'
theorem cmp79 : Cmp 194 := by
 refine ⟨fun args w => enters_ Tryz.func194 (by kernel_rfl) rfl args w, fun x y hx hy w => ?_⟩
 obtain ⟨h1, h2⟩ := hx
 obtain ⟨h3, h4⟩ := hy
 go_enter Tryz.func194, Tryz.ntmps194
 go_wp2
 go_ret
 exact ⟨rfl, by repeat (first | exact Below.refl _ _ | apply below_alloc | apply below_drew)⟩
theorem cmp96 : Cmp 219 := by
 refine ⟨fun args w => enters_ Tryz.func219 (by kernel_rfl) rfl args w, fun x y hx hy w => ?_⟩
 obtain ⟨h1, h2⟩ := hx
 obtain ⟨h3, h4⟩ := hy
 go_enter Tryz.func219, Tryz.ntmps219
 go_wp2
 go_ret
 exact ⟨rfl, by repeat (first | exact Below.refl _ _ | apply below_alloc | apply below_drew)⟩
theorem Cn.swapR {w : World} {g : Nat} {P M Q : List Coin} {x y : Coin} (h : Cn w g (P ++ y :: (M ++ x :: Q))) {I J : Nat} (hi : I = P.length) (hj : J = P.length + 1 + M.length) :
  Cn (((((w.setCell ⟨g, J * 2, none⟩ (.int .i64 y.1)).setCell ⟨g, J * 2 + 1, none⟩ (.slice y.2.1 y.2.2.1 y.2.2.2)).setCell ⟨g, I * 2, none⟩ (.int .i64 x.1)).setCell ⟨g, I * 2 + 1, none⟩ (.slice x.2.1 x.2.2.1 x.2.2.2)).drew) g (P ++ x :: (M ++ y :: Q)) := by
 have := (h.put J y).put I x
 rw [List.set_comm _ _ (by omega), hi, hj, swap_app] at this
 rw [hi, hj]
 exact this.drew
theorem insertion_any {f : FuncId} (HCM : Cmp f) {g n cap a b : Nat} (P S Q : List Coin) (ha : a = P.length) (hb : b = P.length + S.length) (hn : n = P.length + S.length + Q.length) (hs : n ≤ 100000) (hsm : SmC S) {w : World} (h : Cn w g (P ++ (S ++ Q))) :
  Calls Tryz.prog 229 #[.slice (some ⟨g, 0, none⟩) n cap, .int .i64 (a : Int), .int .i64 (b : Int), .func (.func f) #[] #[]] w fun e w' => e = .returned (.tuple #[]) ∧ ∃ S', Cn w' g (P ++ (S' ++ Q)) ∧ Srt S' ∧ Ste S S' ∧ S'.length = S.length ∧ Kp w w' g none := by
 have H := Aside0.mk h
 have HX := Aside0.mk (And.intro ha (And.intro hb (And.intro hn (And.intro hs hsm))))
 have eg := HCM.eg
 have HC := Aside0.mk HCM
 have z1 : (a : Int) ≤ 100000 := by omega
 clear h ha hb hn hs hsm HCM
 cases S with
 | nil =>
  obtain ⟨x1, x2, x3, x4, x5⟩ := HX.out
  rw [List.length_nil] at x2
  obtain rfl : b = a := by omega
  have d0 : decide ((b : Int) + 1 < (b : Int)) = false := decide_eq_false (by omega)
  clear x1 x2 x3 x4 x5 eg
  go_enter Tryz.func229, Tryz.ntmps229
  go_wp2_with fail
  go_loopw [8] (fun v8 wr => v8 = .int .i64 ((b : Int) + 1) ∧ wr = w) (fun v8 _ => 0)
  case atStart => exact ⟨rfl, rfl⟩
  case round =>
   obtain ⟨rfl, rfl⟩ := hrel
   go_wp2
   go_end0
   exact ⟨rfl, [], H.out, Srt.nil, Ste.refl _, rfl, Kp.refl _ _ _⟩
 | cons s0 S0 =>
  go_enter Tryz.func229, Tryz.ntmps229
  go_wp2_with fail
  go_loopw [8] (fun v8 wr => ∃ (D R : List Coin), v8 = .int .i64 ((a + D.length : Nat) : Int) ∧ Aside0 (1 ≤ D.length ∧ D.length + R.length = (s0 :: S0).length) ∧ Aside0 (Srt D) ∧ Aside0 (Ste (s0 :: S0) (D ++ R)) ∧ Aside0 (Cn wr g (P ++ ((D ++ R) ++ Q))) ∧ Aside0 (Kp w wr g none)) (fun v8 _ => b - (intOf v8).toNat)
  case atStart => exact ⟨[s0], S0, rfl, ⟨by simp; omega⟩, ⟨Srt.one _⟩, ⟨Ste.refl _⟩, H, ⟨Kp.refl _ _ _⟩⟩
  case round =>
   obtain ⟨D, R, rfl, HL, HS, HT, HCn, HK⟩ := hrel
   obtain ⟨x1, x2, x3, x4, x5⟩ := HX.out
   obtain ⟨l1, l2⟩ := HL.out
   obtain ⟨I0, hI0⟩ : ∃ I0, I0 = a + D.length := ⟨_, rfl⟩
   rw [← hI0]
   cases R with
   | nil =>
    rw [List.length_nil] at l2
    have d0 : decide ((I0 : Int) < (b : Int)) = false := decide_eq_false (by omega)
    have d0' : decide (I0 < b) = false := decide_eq_false (by omega)
    have HLE := Aside0.mk (show D.length = (s0 :: S0).length by omega)
    clear x1 x2 x3 x4 x5 l1 l2 eg hI0
    go_wp2
    go_end0
    have ht := HT.out
    have hc := HCn.out
    rw [List.append_nil] at ht hc
    exact ⟨rfl, D, hc, HS.out, ht, HLE.out, HK.out⟩
   | cons x R =>
    rw [List.length_cons] at l2
    have d0 : decide ((I0 : Int) < (b : Int)) = true := decide_eq_true (by omega)
    have d0' : decide (I0 < b) = true := decide_eq_true (by omega)
    have z2 : (I0 : Int) ≤ 100000 := by omega
    have HI0 := Aside0.mk hI0
    have hxs : 0 ≤ x.1 ∧ x.1 ≤ 1152921504606846976 := x5 x (HT.out.mem (by simp))
    have HXS := Aside0.mk hxs
    clear x1 x2 x3 x4 x5 l1 l2 hI0 hxs
    go_wp2_with fail
    go_loopw [9] (fun v9 wq => ∃ (d1 d2 : List Coin), v9 = .int .i64 ((a + d1.length : Nat) : Int) ∧ Aside0 (d1.length + d2.length = D.length) ∧ Aside0 (Srt (d1 ++ d2)) ∧ Aside0 (∀ y ∈ d2, x.1 < y.1) ∧ Aside0 (Ste (s0 :: S0) ((d1 ++ x :: d2) ++ R)) ∧ Aside0 (Cn wq g (P ++ (((d1 ++ x :: d2) ++ R) ++ Q))) ∧ Aside0 (Kp w wq g none)) (fun v9 _ => (intOf v9).toNat)
    case atStart => exact ⟨D, [], congrArg (Value.int .i64) (by rw [HI0.out]), ⟨rfl⟩, ⟨by rw [List.append_nil]; exact HS.out⟩, ⟨fun y hy => by cases hy⟩, ⟨by rw [List.append_assoc]; exact HT.out⟩, ⟨by have h := HCn.out; rw [show (D ++ [x]) ++ R = D ++ x :: R by simp]; exact h⟩, HK⟩
    case round =>
     obtain ⟨d1, d2, rfl, HL2, HS2, HG2, HT2, HC2, HK2⟩ := hrel
     rcases List.eq_nil_or_concat d1 with rfl | ⟨d1, y, rfl⟩
     ·have e0 : ((a + ([] : List Coin).length : Nat) : Int) = (a : Int) := by rw [List.length_nil]; omega
      rw [e0]
      have d1 : decide ((a : Int) < (a : Int)) = false := decide_eq_false (by omega)
      clear e0
      go_wp2_with fail
      go_quiet (fail)
      go_wp2_with fail
      go_roundw
      case rel =>
       have h1 := HL2.out
       rw [List.length_nil, Nat.zero_add] at h1
       obtain ⟨l1, l2⟩ := HL.out
       rw [List.length_cons] at l2
       have hc := HC2.out
       rw [List.nil_append] at hc
       refine ⟨x :: d2, R, congrArg (Value.int .i64) (by rw [List.length_cons]; have := HI0.out; omega), ⟨by rw [List.length_cons]; omega⟩, ⟨srt_cons.2 ⟨fun y hy => Int.le_of_lt (HG2.out y hy), HS2.out⟩⟩, HT2, ⟨hc.drewN _⟩, ⟨kp_drewN HK2.out _⟩⟩
      case measure =>
       have h := of_decide_eq_true d0'
       show b - ((I0 : Int) + 1).toNat < b - (I0 : Int).toNat
       omega
     ·rw [List.concat_eq_append] at HL2 HS2 HT2 HC2 ⊢
      obtain ⟨J, hJ⟩ : ∃ J, J = a + d1.length + 1 := ⟨_, rfl⟩
      have e0 : ((a + (d1 ++ [y]).length : Nat) : Int) = (J : Int) := by rw [List.length_append, List.length_singleton]; omega
      rw [e0]
      obtain ⟨x1, x2, x3, x4, x5⟩ := HX.out
      obtain ⟨l1, l2⟩ := HL.out
      have l3 := HL2.out
      rw [List.length_cons] at l2
      rw [List.length_append, List.length_singleton] at l3
      have hys : 0 ≤ y.1 ∧ y.1 ≤ 1152921504606846976 := x5 y (HT2.out.mem (by simp))
      have HYS := Aside0.mk hys
      have hxs := HXS.out
      have hl : P ++ ((((d1 ++ [y]) ++ x :: d2) ++ R) ++ Q) = (P ++ d1) ++ y :: ([] ++ x :: (d2 ++ (R ++ Q))) := by simp
      have hc := HC2.out
      rw [hl] at hc
      obtain ⟨I, hI⟩ : ∃ I, I = a + d1.length := ⟨_, rfl⟩
      have hi : I = (P ++ d1).length := by rw [List.length_append]; omega
      have hj : J = (P ++ d1).length + 1 + ([] : List Coin).length := by rw [List.length_append, List.length_nil]; omega
      have g1 : ((P ++ d1) ++ y :: ([] ++ x :: (d2 ++ (R ++ Q))))[I]? = some y := by rw [hi]; exact at_mid _ _ _
      have g2 : ((P ++ d1) ++ y :: ([] ++ x :: (d2 ++ (R ++ Q))))[J]? = some x := by
       have := at_mid ((P ++ d1) ++ [y]) (d2 ++ (R ++ Q)) x
       rw [List.length_append, List.length_singleton, List.append_assoc] at this
       rw [hj]
       exact this
      have k1 := hc.get0 g1
      have k2 := hc.get1 g1
      have k3 := hc.get0 g2
      have k4 := hc.get1 g2
      have HC3 := Aside0.mk hc
      have HIJ := Aside0.mk (And.intro hi hj)
      have dt : decide ((a : Int) < (J : Int)) = true := decide_eq_true (by omega)
      have dt' : decide (a < J) = true := decide_eq_true (by omega)
      have q1 : (0 : Int) ≤ (J : Int) := by omega
      have q2 : (J : Int) < (n : Int) := by omega
      have q3 : (0 : Int) ≤ (J : Int) - 1 := by omega
      have q3' : (1 : Int) ≤ (J : Int) := by omega
      have z9 : (J : Int) ≤ 100000 := by omega
      have q4 : (J : Int) - 1 < (n : Int) := by omega
      have q5 : ((J : Int) - 1).toNat = I := by omega
      have HJI := Aside0.mk (And.intro hJ hI)
      have HCL := Aside0.mk (fun W => HC.out.calls x y hxs hys W)
      have q6 : IntKind.i64.wrap ((J : Int) - 1) = (J : Int) - 1 := IntWalk.i64_in _ (by omega)
      clear x1 x2 x3 x4 x5 l1 l2 l3 hys hxs hl hc hi hj g1 g2 hJ hI e0
      go_wp2_with fail
      go_region_held3 (fun w' => w'.cell? ⟨g, I * 2, none⟩ = some (.int .i64 y.1) ∧ w'.cell? ⟨g, I * 2 + 1, none⟩ = some (.slice y.2.1 y.2.2.1 y.2.2.2) ∧ w'.cell? ⟨g, J * 2, none⟩ = some (.int .i64 x.1) ∧ w'.cell? ⟨g, J * 2 + 1, none⟩ = some (.slice x.2.1 x.2.2.1 x.2.2.2))
       (first | go_keep | exact ⟨pw_cell_below hb4 (by assumption), pw_cell_below hb4 (by assumption), pw_cell_below hb4 (by assumption), pw_cell_below hb4 (by assumption)⟩)
       (first | (refine (HCL.out _).mono ?_; rintro e w4 ⟨rfl, hb4⟩))
      have HC4 : Aside0 (Cn w4 g ((P ++ d1) ++ y :: ([] ++ x :: (d2 ++ (R ++ Q))))) := ⟨Cn.below (Cn.drew HC3.out) hb4⟩
      have HK4 : Aside0 (Kp w w4 g none) := ⟨(kp_drew HK2.out).trans (Kp.of_below hb4 _ _) (.inl rfl)⟩
      clear hb4 k1 k2 k3 k4 q1 q3 q4 q5 q6
      by_cases hxy : x.1 < y.1
      ·have dd : decide (x.1 - y.1 < 0) = true := decide_eq_true (by omega)
       have HXY := Aside0.mk hxy
       have hn5 := HX.out.2.2.2.1
       have c1 := HC4.out.get0 (i := I) (c := y) (by rw [HIJ.out.1]; exact at_mid _ _ _)
       have c2 := HC4.out.get1 (i := I) (c := y) (by rw [HIJ.out.1]; exact at_mid _ _ _)
       have hg2 : ((P ++ d1) ++ y :: ([] ++ x :: (d2 ++ (R ++ Q))))[J]? = some x := by
        have := at_mid ((P ++ d1) ++ [y]) (d2 ++ (R ++ Q)) x
        rw [List.length_append, List.length_singleton, List.append_assoc] at this
        rw [HIJ.out.2]
        exact this
       have c3 := HC4.out.get0 hg2
       have c4 := HC4.out.get1 hg2
       have f1 := HC4.out.fz (I * 2)
       have f2 := HC4.out.fz (I * 2 + 1)
       have f3 := HC4.out.fz (J * 2)
       have f4 := HC4.out.fz (J * 2 + 1)
       obtain ⟨hJ, hI⟩ := HJI.out
       have hnn := of_decide_eq_true d0'
       have q1 : (0 : Int) ≤ (J : Int) := by omega
       have q3 : (0 : Int) ≤ (J : Int) - 1 := by omega
       have q4 : (J : Int) - 1 < (n : Int) := by omega
       have q5 : ((J : Int) - 1).toNat = I := by omega
       have n1 : I * 2 ≠ J * 2 := by omega
       have n2 : I * 2 ≠ J * 2 + 1 := by omega
       have n3 : I * 2 + 1 ≠ J * 2 := by omega
       have n4 : J * 2 ≠ I * 2 := by omega
       have n5 : J * 2 ≠ I * 2 + 1 := by omega
       have n6 : J * 2 + 1 ≠ I * 2 := by omega
       have q6 : IntKind.i64.wrap ((J : Int) - 1) = (J : Int) - 1 := IntWalk.i64_in _ (by omega)
       clear hJ hI hnn hg2 hn5
       go_wp2_with fail
       go_region
       clear q1 q3 q4 q5 q6 n1 n2 n3 n4 n5 n6 c1 c2 c3 c4 f1 f2 f3 f4 hxy
       go_wp2_with fail
       go_roundw
       case rel =>
        have hc := Cn.swapR HC4.out HIJ.out.1 HIJ.out.2
        rw [show (P ++ d1) ++ x :: ([] ++ y :: (d2 ++ (R ++ Q))) = P ++ (((d1 ++ x :: (y :: d2)) ++ R) ++ Q) by simp] at hc
        have h1 := HL2.out
        rw [List.length_append, List.length_singleton] at h1
        refine ⟨d1, y :: d2, congrArg (Value.int .i64) (by have := HJI.out; omega), ⟨by rw [List.length_cons]; omega⟩, ⟨by have h := HS2.out; rw [List.append_assoc] at h; exact h⟩, ⟨fun z hz => ?_⟩, ⟨HT2.out.trans ?_⟩, ⟨hc⟩, ⟨kp_swap HK4.out⟩⟩
        ·rcases List.mem_cons.1 hz with rfl | hz
         ·exact HXY.out
         ·exact HG2.out z hz
        ·have h2 : Ste ([y] ++ [x]) ([x] ++ [y]) := Ste.swap (fun p hp q hq => by rw [List.mem_singleton.1 hp, List.mem_singleton.1 hq]; have := HXY.out; omega)
         have h3 := ((Ste.refl d1).app (h2.app (Ste.refl (d2 ++ R))))
         simpa using h3
       case measure =>
        have h := HJI.out
        show ((J : Int) - 1).toNat < (J : Int).toNat
        omega
      ·have dd : decide (x.1 - y.1 < 0) = false := decide_eq_false (by omega)
       have HXY := Aside0.mk hxy
       go_wp2_with fail
       go_roundw
       case rel =>
        have h1 := HL2.out
        obtain ⟨l1, l2⟩ := HL.out
        rw [List.length_cons] at l2
        have hc := HC4.out
        rw [show (P ++ d1) ++ y :: ([] ++ x :: (d2 ++ (R ++ Q))) = P ++ ((((d1 ++ [y]) ++ x :: d2) ++ R) ++ Q) by simp] at hc
        refine ⟨(d1 ++ [y]) ++ x :: d2, R, congrArg (Value.int .i64) (by rw [List.length_append, List.length_cons]; have := HI0.out; omega), ⟨by rw [List.length_append, List.length_cons]; omega⟩, ⟨?_⟩, HT2, ⟨hc⟩, HK4⟩
        refine srt_put HS2.out (fun z hz => Int.le_of_lt (HG2.out z hz)) (fun z hz => ?_)
        have h2 := srt_last (srt_app.1 HS2.out).1 z hz
        have h3 := HXY.out
        omega
       case measure =>
        have h := of_decide_eq_true d0'
        show b - ((I0 : Int) + 1).toNat < b - (I0 : Int).toNat
        omega
end Go.Proofs.YtepgkimlmoikmaaGreat
set_option linter.unusedVariables false
set_option linter.unusedSimpArgs false
namespace Go.Proofs.YtepgkimlmoikmaaGreat
open Go.RowKit Go.Proofs.YtepgkimlmoikmaaGreat.Spec Go.Proofs.YtepgkimlmoikmaaGreatW.PrintWords Go.Proofs.YtepgkimlmoikmaaGreatW.PrintLast
open Go.Proofs.YtepgkimlmoikmaaGreatW.PrintMore
attribute [local go_sem ↓] Go.wp_at_zero Go.wp_at_succ
theorem srt_get {xs : List Coin} (h : Srt xs) {i j : Nat} {u v : Coin} (hij : i ≤ j) (hu : xs[i]? = some u) (hv : xs[j]? = some v) : u.1 ≤ v.1 := by
 obtain ⟨h1, e1⟩ := List.getElem?_eq_some_iff.1 hu
 obtain ⟨h2, e2⟩ := List.getElem?_eq_some_iff.1 hv
 rcases Nat.lt_or_ge i j with hlt | hge
 ·have := (List.pairwise_iff_getElem.1 h) i j h1 h2 hlt
  rw [e1, e2] at this
  exact this
 ·have : i = j := by omega
  subst this
  rw [← e1, ← e2]
  exact Int.le_refl _
theorem idx_A {P A R : List Coin} {k : Nat} {z : Coin} (h : A[k]? = some z) : (P ++ (A ++ R))[P.length + k]? = some z := by
 obtain ⟨hk, _⟩ := List.getElem?_eq_some_iff.1 h
 rw [List.getElem?_append_right (by omega), Nat.add_sub_cancel_left, List.getElem?_append_left hk, h]
theorem idx_B {P A B R : List Coin} {k : Nat} {z : Coin} (h : B[k]? = some z) : (P ++ (A ++ (B ++ R)))[P.length + A.length + k]? = some z := by
 rw [Nat.add_assoc, List.getElem?_append_right (by omega), Nat.add_sub_cancel_left, List.getElem?_append_right (by omega), Nat.add_sub_cancel_left]
 obtain ⟨hk, _⟩ := List.getElem?_eq_some_iff.1 h
 rw [List.getElem?_append_left hk, h]
theorem cut_less {B : List Coin} {x : Coin} {t : Nat} (hL : ∀ k z, k < t → B[k]? = some z → z.1 < x.1) (hG : ∀ k z, t ≤ k → B[k]? = some z → x.1 ≤ z.1) : (∀ z ∈ B.take t, z.1 < x.1) ∧ (∀ z ∈ B.drop t, x.1 ≤ z.1) := by
 constructor
 ·intro z hz
  obtain ⟨k, hk⟩ := List.getElem?_of_mem hz
  have hk2 := hk
  rw [List.getElem?_take] at hk
  split at hk
  ·rename_i hlt
   exact hL k z hlt hk
  ·cases hk
 ·intro z hz
  obtain ⟨k, hk⟩ := List.getElem?_of_mem hz
  rw [List.getElem?_drop] at hk
  exact hG (t + k) z (by omega) hk
theorem cut_more {B : List Coin} {x : Coin} {t : Nat} (hL : ∀ k z, k < t → B[k]? = some z → z.1 ≤ x.1) (hG : ∀ k z, t ≤ k → B[k]? = some z → x.1 < z.1) : (∀ z ∈ B.take t, z.1 ≤ x.1) ∧ (∀ z ∈ B.drop t, x.1 < z.1) := by
 constructor
 ·intro z hz
  obtain ⟨k, hk⟩ := List.getElem?_of_mem hz
  rw [List.getElem?_take] at hk
  split at hk
  ·rename_i hlt
   exact hL k z hlt hk
  ·cases hk
 ·intro z hz
  obtain ⟨k, hk⟩ := List.getElem?_of_mem hz
  rw [List.getElem?_drop] at hk
  exact hG (t + k) z (by omega) hk
theorem sym_one {f : FuncId} (HCM : Cmp f) {g n cap a m b : Nat} (P B Q : List Coin) (x : Coin) (ha : a = P.length) (hm : m = P.length + 1) (hb : b = P.length + 1 + B.length) (hn : n = P.length + 1 + B.length + Q.length) (hs : n ≤ 100000) (hB : Srt B) (hsm : SmC (x :: B)) {w : World} (h : Cn w g (P ++ ([x] ++ (B ++ Q)))) :
  Calls Tryz.prog 230 #[.slice (some ⟨g, 0, none⟩) n cap, .int .i64 (a : Int), .int .i64 (m : Int), .int .i64 (b : Int), .func (.func f) #[] #[]] w fun e w' => e = .returned (.tuple #[]) ∧ ∃ S', Cn w' g (P ++ (S' ++ Q)) ∧ Srt S' ∧ Ste ([x] ++ B) S' ∧ S'.length = 1 + B.length ∧ Kp w w' g none := by
 have H := Aside0.mk h
 have HX := Aside0.mk (And.intro ha (And.intro hm (And.intro hb (And.intro hn (And.intro hs hsm)))))
 have HSB := Aside0.mk hB
 have eg := HCM.eg
 have HC := Aside0.mk HCM
 have z1 : (a : Int) ≤ 100000 := by omega
 have z2 : (m : Int) ≤ 100000 := by omega
 have z3 : (b : Int) ≤ 100000 := by omega
 have d1 : ((m : Int) - (a : Int) == 1) = true := beq_iff_eq.2 (by omega)
 clear h ha hm hb hn hs hsm HCM hB
 go_enter Tryz.func230, Tryz.ntmps230
 go_wp2_with fail
 go_loopw [10, 11] (fun v10 v11 wr => ∃ (i j : Nat), v10 = .int .i64 (i : Int) ∧ v11 = .int .i64 (j : Int) ∧ Aside0 (m ≤ i ∧ i ≤ j ∧ j ≤ b) ∧ Aside0 (∀ k z, m + k < i → B[k]? = some z → z.1 < x.1) ∧ Aside0 (∀ k z, j ≤ m + k → B[k]? = some z → x.1 ≤ z.1) ∧ Aside0 (Cn wr g (P ++ ([x] ++ (B ++ Q)))) ∧ Aside0 (Kp w wr g none)) (fun v10 v11 _ => (intOf v11).toNat - (intOf v10).toNat)
 case atStart =>
  obtain ⟨x1, x2, x3, x4, x5, x6⟩ := HX.out
  refine ⟨m, b, rfl, rfl, ⟨by omega⟩, ⟨fun k z hk _ => by omega⟩, ⟨fun k z hk hz => ?_⟩, H, ⟨Kp.refl _ _ _⟩⟩
  obtain ⟨hk2, _⟩ := List.getElem?_eq_some_iff.1 hz
  omega
 case round =>
  obtain ⟨i, j, rfl, rfl, HI, HL, HG, HCn, HK⟩ := hrel
  obtain ⟨x1, x2, x3, x4, x5, x6⟩ := HX.out
  obtain ⟨i1, i2, i3⟩ := HI.out
  by_cases hij : i < j
  ·have dt : decide ((i : Int) < (j : Int)) = true := decide_eq_true (by omega)
   have dt' : decide (i < j) = true := decide_eq_true hij
   obtain ⟨t, ht⟩ : ∃ t : Nat, m + t = (i + j) / 2 := ⟨(i + j) / 2 - m, by omega⟩
   obtain ⟨hh, hhe⟩ : ∃ hh : Nat, hh = m + t := ⟨_, rfl⟩
   have htb : t < B.length := by omega
   obtain ⟨y, hy⟩ : ∃ y, B[t]? = some y := ⟨_, List.getElem?_eq_getElem htb⟩
   have hc := HCn.out
   have gU : (P ++ ([x] ++ (B ++ Q)))[hh]? = some y := by
    have := idx_B (P := P) (A := [x]) (R := Q) hy
    rw [List.length_singleton] at this
    rw [hhe, x2]
    exact this
   have gV : (P ++ ([x] ++ (B ++ Q)))[a]? = some x := by
    rw [x1]
    exact at_mid _ _ _
   have HCL := Aside0.mk (fun W => HC.out.calls y x (x6 y (List.mem_cons_of_mem _ (List.mem_of_getElem? hy))) (x6 x (List.mem_cons_self ..)) W)
   have zi : (i : Int) ≤ 100000 := by omega
   have zj : (j : Int) ≤ 100000 := by omega
   have zh : (hh : Int) ≤ 100000 := by omega
   have q1 : (0 : Int) ≤ (hh : Int) := by omega
   have q2 : (hh : Int) < (n : Int) := by omega
   have q3 : (0 : Int) ≤ (a : Int) := by omega
   have q4 : (a : Int) < (n : Int) := by omega
   have qh : ((i : Int) + (j : Int)) / 2 = (hh : Int) := by omega
   have HT := Aside0.mk (And.intro ht (And.intro hhe (And.intro hij hy)))
   clear x1 x2 x3 x4 x5 x6 i1 i2 i3 hij ht hhe htb hy
   have k1 := hc.get0 gU
   have k2 := hc.get1 gU
   have k3 := hc.get0 gV
   have k4 := hc.get1 gV
   have HC3 := Aside0.mk hc
   clear hc gU gV
   go_wp2_with fail
   go_region_held3 (fun w' => w'.cell? ⟨g, hh * 2, none⟩ = some (.int .i64 y.1) ∧ w'.cell? ⟨g, hh * 2 + 1, none⟩ = some (.slice y.2.1 y.2.2.1 y.2.2.2) ∧ w'.cell? ⟨g, a * 2, none⟩ = some (.int .i64 x.1) ∧ w'.cell? ⟨g, a * 2 + 1, none⟩ = some (.slice x.2.1 x.2.2.1 x.2.2.2))
    (first | go_keep | exact ⟨pw_cell_below hb4 (by assumption), pw_cell_below hb4 (by assumption), pw_cell_below hb4 (by assumption), pw_cell_below hb4 (by assumption)⟩)
    (first | (refine (HCL.out _).mono ?_; rintro e w4 ⟨rfl, hb4⟩))
   have HC4 := Aside0.mk (Cn.below (Cn.drew HC3.out) hb4)
   have HK4 : Aside0 (Kp w w4 g none) := ⟨(kp_drew HK.out).trans (Kp.of_below hb4 _ _) (.inl rfl)⟩
   clear hb4 k1 k2 k3 k4
   by_cases hxy : y.1 < x.1
   ·have dd : decide (y.1 - x.1 < 0) = true := decide_eq_true (by omega)
    go_wp2_with fail
    go_roundw
    case rel =>
     obtain ⟨ht, hhe, hij, hy⟩ := HT.out
     obtain ⟨i1, i2, i3⟩ := HI.out
     refine ⟨hh + 1, j, rfl, rfl, ⟨by omega⟩, ⟨fun k z hk hz => ?_⟩, HG, HC4, HK4⟩
     have h1 := srt_get HSB.out (show k ≤ t by omega) hz hy
     omega
    case measure =>
     obtain ⟨ht, hhe, hij, hy⟩ := HT.out
     show (j : Int).toNat - ((hh : Int) + 1).toNat < (j : Int).toNat - (i : Int).toNat
     omega
   ·have dd : decide (y.1 - x.1 < 0) = false := decide_eq_false (by omega)
    go_wp2_with fail
    go_roundw
    case rel =>
     obtain ⟨ht, hhe, hij, hy⟩ := HT.out
     obtain ⟨i1, i2, i3⟩ := HI.out
     refine ⟨i, hh, rfl, rfl, ⟨by omega⟩, HL, ⟨fun k z hk hz => ?_⟩, HC4, HK4⟩
     have h1 := srt_get HSB.out (show t ≤ k by omega) hy hz
     omega
    case measure =>
     obtain ⟨ht, hhe, hij, hy⟩ := HT.out
     show (hh : Int).toNat - (i : Int).toNat < (j : Int).toNat - (i : Int).toNat
     omega
  ·have hie : i = j := by omega
   subst hie
   have dt : decide ((i : Int) < (i : Int)) = false := decide_eq_false (by omega)
   obtain ⟨t, ht⟩ : ∃ t : Nat, i = m + t := ⟨i - m, by omega⟩
   have htb : t ≤ B.length := by omega
   obtain ⟨hcl, hcg⟩ := cut_less (B := B) (x := x) (t := t) (fun k z hk hz => HL.out k z (by omega) hz) (fun k z hk hz => HG.out k z (by omega) hz)
   have hB : B = B.take t ++ B.drop t := (List.take_append_drop _ _).symm
   have hl1 : (B.take t).length = t := by rw [List.length_take]; omega
   have hsb := HSB.out
   have hc := HCn.out
   generalize B.take t = B1 at *
   generalize B.drop t = B2 at *
   have HFIN : Aside0 (Srt (B1 ++ x :: B2) ∧ Ste ([x] ++ B) (B1 ++ x :: B2) ∧ (B1 ++ x :: B2).length = 1 + B.length) := ⟨by
    rw [hB] at hsb
    refine ⟨srt_put hsb hcg (fun z hz => Int.le_of_lt (hcl z hz)), ?_, by rw [hB]; simp; omega⟩
    have h1 : Ste ([x] ++ B1) (B1 ++ [x]) := Ste.swap (fun p hp q hq => by rw [List.mem_singleton.1 hp]; have := hcl q hq; omega)
    have h2 := h1.app (Ste.refl B2)
    rw [hB]
    simpa using h2⟩
   rw [hB] at hc
   have HC1 : Aside0 (Cn wr g (P ++ ([] ++ x :: (B1 ++ (B2 ++ Q))))) := ⟨by simpa using hc⟩
   have HT := Aside0.mk (And.intro ht hl1)
   have HBB := Aside0.mk (congrArg List.length hB)
   have z4 : (i : Int) ≤ 100000 := by omega
   have z5 : (1 : Int) ≤ (i : Int) := by omega
   clear x1 x2 x3 x4 x5 x6 i1 i2 i3 hij ht htb hcl hcg hB hl1 hsb hc HL HG
   go_wp2_with fail
   go_loopw [13] (fun v13 wq => ∃ (C1 C2 : List Coin), v13 = .int .i64 ((a + C1.length : Nat) : Int) ∧ Aside0 (B1 = C1 ++ C2) ∧ Aside0 (Cn wq g (P ++ (C1 ++ x :: (C2 ++ (B2 ++ Q))))) ∧ Aside0 (Kp w wq g none)) (fun v13 _ => i - (intOf v13).toNat)
   case atStart => exact ⟨[], B1, rfl, ⟨rfl⟩, HC1, HK⟩
   case round =>
    obtain ⟨C1, C2, rfl, HB1, HC2, HK2⟩ := hrel
    obtain ⟨I, hI⟩ : ∃ I, I = a + C1.length := ⟨_, rfl⟩
    rw [← hI]
    obtain ⟨x1, x2, x3, x4, x5, x6⟩ := HX.out
    obtain ⟨t1, t2⟩ := HT.out
    have l1 := congrArg List.length HB1.out
    rw [List.length_append] at l1
    have hbl := HBB.out
    rw [List.length_append] at hbl
    cases C2 with
    | nil =>
     rw [List.length_nil] at l1
     have dq : decide ((I : Int) < (i : Int) - 1) = false := decide_eq_false (by omega)
     have u1 : (i : Int) - 1 ≤ (I : Int) := by omega
     clear x1 x2 x3 x4 x5 x6 t1 t2 l1 hbl hI
     go_wp2
     ((try simp only [Exit.inBlock, Exit.then]); refine bodyPost_ret (results_none rfl _ _ _) rfl ?_)
     have h1 := HB1.out
     rw [List.append_nil] at h1
     have hc := HC2.out
     rw [← h1, List.nil_append] at hc
     refine ⟨rfl, B1 ++ x :: B2, by simpa using hc, HFIN.out.1, HFIN.out.2.1, HFIN.out.2.2, HK2.out⟩
    | cons y C2 =>
     rw [List.length_cons] at l1
     have dq : decide ((I : Int) < (i : Int) - 1) = true := decide_eq_true (by omega)
     have u1 : (I : Int) < (i : Int) - 1 := by omega
     have HDQ := Aside0.mk (show I < i - 1 by omega)
     obtain ⟨J, hJ⟩ : ∃ J, J = I + 1 := ⟨_, rfl⟩
     have hc : Cn wr g ((P ++ C1) ++ x :: ([] ++ y :: (C2 ++ (B2 ++ Q)))) := by simpa using HC2.out
     have hi : I = (P ++ C1).length := by rw [List.length_append]; omega
     have hj : J = (P ++ C1).length + 1 + ([] : List Coin).length := by rw [List.length_append, List.length_nil]; omega
     have gU : ((P ++ C1) ++ x :: ([] ++ y :: (C2 ++ (B2 ++ Q))))[I]? = some x := by rw [hi]; exact at_mid _ _ _
     have gV : ((P ++ C1) ++ x :: ([] ++ y :: (C2 ++ (B2 ++ Q))))[J]? = some y := by
      have := at_mid ((P ++ C1) ++ [x]) (C2 ++ (B2 ++ Q)) y
      rw [List.length_append, List.length_singleton, List.append_assoc] at this
      rw [hj]
      exact this
     have c1 := hc.get0 gU
     have c2 := hc.get1 gU
     have c3 := hc.get0 gV
     have c4 := hc.get1 gV
     have f1 := hc.fz (I * 2)
     have f2 := hc.fz (I * 2 + 1)
     have f3 := hc.fz (J * 2)
     have f4 := hc.fz (J * 2 + 1)
     have n1 : I * 2 ≠ J * 2 := by omega
     have n2 : I * 2 ≠ J * 2 + 1 := by omega
     have n3 : I * 2 + 1 ≠ J * 2 := by omega
     have n4 : J * 2 ≠ I * 2 := by omega
     have n5 : J * 2 ≠ I * 2 + 1 := by omega
     have n6 : J * 2 + 1 ≠ I * 2 := by omega
     have HC3 := Aside0.mk hc
     have HIJ := Aside0.mk (And.intro hi (And.intro hj (And.intro hI hJ)))
     have zI : (I : Int) ≤ 100000 := by omega
     have q1 : (0 : Int) ≤ (I : Int) := by omega
     have q2 : (I : Int) < (n : Int) := by omega
     have q3 : (0 : Int) ≤ (I : Int) + 1 := by omega
     have q4 : (I : Int) + 1 < (n : Int) := by omega
     have q5 : ((I : Int) + 1).toNat = J := by omega
     have q6 : IntKind.i64.wrap ((I : Int) + 1) = (I : Int) + 1 := IntWalk.i64_in _ (by omega)
     clear x1 x2 x3 x4 x5 x6 t1 t2 l1 hbl hI hJ hc hi hj gU gV
     go_wp2_with fail
     go_region
     clear q1 q2 q3 q4 q5 q6 n1 n2 n3 n4 n5 n6 c1 c2 c3 c4 f1 f2 f3 f4
     go_wp2_with fail
     go_roundw
     case rel =>
      have hc := Cn.swap HC3.out HIJ.out.1 HIJ.out.2.1
      refine ⟨C1 ++ [y], C2, congrArg (Value.int .i64) (by rw [List.length_append, List.length_singleton]; have := HIJ.out.2.2.1; omega), ⟨by rw [List.append_assoc]; exact HB1.out⟩, ⟨by simpa using hc⟩, ⟨kp_swap HK2.out⟩⟩
     case measure =>
      have h := HDQ.out
      show i - ((I : Int) + 1).toNat < i - (I : Int).toNat
      omega
end Go.Proofs.YtepgkimlmoikmaaGreat
