/- ShU: a part of its proof (contracts of the functions that it reaches, and the plain mathematics behind them). -/
import Derived.Test.YtepgkimlmoikmaaGreatShU29
set_option linter.unusedVariables false
set_option linter.unusedSimpArgs false
set_option maxHeartbeats 2000000
set_option maxRecDepth 100000
set_option linter.unusedVariables false
set_option linter.unusedSimpArgs false
namespace Go.Proofs.YtepgkimlmoikmaaGreat
open Go.RowKit Go.Proofs.YtepgkimlmoikmaaGreat.Spec Go.Proofs.YtepgkimlmoikmaaGreatW.PrintWords Go.Proofs.YtepgkimlmoikmaaGreatW.PrintLast
open Go.Proofs.YtepgkimlmoikmaaGreatW.PrintMore
attribute [local go_sem ↓] Go.wp_at_zero Go.wp_at_succ
theorem sym_any {f : FuncId} (HCM : Cmp f) : ∀ (s : Nat) (A B : List Coin), A.length + B.length ≤ s → 1 ≤ A.length → 1 ≤ B.length → SymOk f A B := by
 intro s
 induction s with
 | zero => intro A B h h1 h2; omega
 | succ s ih =>
  intro A B h h1 h2
  by_cases g1 : A.length = 1
  ·obtain ⟨x, rfl⟩ := List.length_eq_one_iff.1 g1
   intro P Q ha hm hb hn hs hA hB hsm w hw
   refine (sym_one HCM P B Q x ha (by simpa using hm) (by simpa using hb) (by simpa using hn) hs hB hsm hw).mono ?_
   rintro e w' ⟨e1, S', e2, e3, e4, e5, e6⟩
   exact ⟨e1, S', e2, e3, e4, by simpa using e5, e6⟩
  ·by_cases g2 : B.length = 1
   ·obtain ⟨y, rfl⟩ := List.length_eq_one_iff.1 g2
    intro P Q ha hm hb hn hs hA hB hsm w hw
    refine (sym_last HCM P A Q y ha hm (by simpa using hb) (by simpa using hn) hs hA (by omega) (fun z hz => hsm z (by simp only [List.mem_append, List.mem_cons, List.not_mem_nil, or_false] at hz ⊢; exact hz.symm)) hw).mono ?_
    rintro e w' ⟨e1, S', e2, e3, e4, e5, e6⟩
    exact ⟨e1, S', e2, e3, e4, by simpa using e5, e6⟩
   ·exact sym_gen HCM A B (by omega) (by omega) (fun A' B' hlt k1 k2 => ih A' B' (by omega) k1 k2)
def Chk (c : Nat) (xs : List Coin) : Prop := ∀ j, Srt ((xs.drop (j * c)).take c)
theorem chk_nil (c : Nat) : Chk c [] := fun j => by rw [List.drop_nil, List.take_nil]; exact Srt.nil
theorem chk_all {c : Nat} {xs : List Coin} (h : Chk c xs) (hc : xs.length ≤ c) : Srt xs := by
 have := h 0
 rw [Nat.zero_mul, List.drop_zero, List.take_of_length_le hc] at this
 exact this
theorem chk_drop {c : Nat} {xs : List Coin} (h : Chk c xs) (k : Nat) : Chk c (xs.drop (k * c)) := fun j => by
 rw [List.drop_drop, ← Nat.add_mul]
 exact h _
theorem chk_take {c : Nat} {xs : List Coin} (h : Chk c xs) : Srt (xs.take c) := by
 have := h 0
 rw [Nat.zero_mul, List.drop_zero] at this
 exact this
theorem chk_snoc {c k : Nat} {P S : List Coin} (h : Chk c P) (hP : P.length = c * k) (hS : Srt S) (hl : S.length ≤ c) : Chk c (P ++ S) := fun j => by
 rcases Nat.lt_or_ge j k with g | g
 ·have hjk : j * c + c ≤ P.length := by
   rw [hP, Nat.mul_comm c k, ← Nat.succ_mul]
   exact Nat.mul_le_mul_right c g
  rw [List.drop_append_of_le_length (by omega), List.take_append_of_le_length (by rw [List.length_drop]; omega)]
  exact h j
 ·have hjk : P.length ≤ j * c := by rw [hP, Nat.mul_comm c k]; exact Nat.mul_le_mul_right c g
  rw [List.drop_append, List.drop_eq_nil_of_le hjk, List.nil_append]
  rcases Nat.eq_or_lt_of_le g with e | e
  ·rw [show j * c - P.length = 0 by rw [hP, ← e, Nat.mul_comm]; omega, List.drop_zero, List.take_of_length_le hl]
   exact hS
  ·have h2 : k * c + c ≤ j * c := by rw [← Nat.succ_mul]; exact Nat.mul_le_mul_right c e
   rw [Nat.mul_comm c k] at hP
   rw [List.drop_eq_nil_of_le (by omega), List.take_nil]
   exact Srt.nil
theorem ste_smc {xs ys : List Coin} (h : Ste xs ys) (hs : SmC xs) : SmC ys := fun z hz => hs z (h.mem hz)
theorem smc_mid {P S Q : List Coin} (h : SmC (P ++ (S ++ Q))) : SmC S := fun z hz => h z (by simp [hz])
theorem ste_len {xs ys : List Coin} (h : Ste xs ys) : ys.length = xs.length := by
 have h1 := stable_ste xs
 have h2 := stable_ste ys
 have : stable xs = stable ys := srt_unique _ _ (stable_srt _) (stable_srt _) ((h1.symm.trans h).trans h2)
 rw [← stable_len xs, this, stable_len]
set_option maxHeartbeats 4000000 in
theorem stable_any {f : FuncId} (HCM : Cmp f) {g n cap : Nat} (xs : List Coin) (hn : n = xs.length) (hs : n ≤ 100000) (hsm : SmC xs) {w : World} (h : Cn w g xs) :
  Calls Tryz.prog 221 #[.slice (some ⟨g, 0, none⟩) n cap, .int .i64 (n : Int), .func (.func f) #[] #[]] w fun e w' => e = .returned (.tuple #[]) ∧ Cn w' g (stable xs) ∧ Kp w w' g none := by
 have H := Aside0.mk h
 have HX := Aside0.mk (And.intro hn (And.intro hs hsm))
 have HINS := Aside0.mk (fun (W : World) (a b : Nat) (P S Q : List Coin) (ha : a = P.length) (hb : b = P.length + S.length) (hn2 : n = P.length + S.length + Q.length) (hsm2 : SmC S) (hw : Cn W g (P ++ (S ++ Q))) => insertion_any (cap := cap) HCM P S Q ha hb hn2 hs hsm2 hw)
 have HSYM := Aside0.mk (fun (W : World) (a m b : Nat) (P A B Q : List Coin) (h1 : 1 ≤ A.length) (h2 : 1 ≤ B.length) (ha : a = P.length) (hm : m = P.length + A.length) (hb : b = P.length + A.length + B.length) (hn2 : n = P.length + A.length + B.length + Q.length) (hA : Srt A) (hB : Srt B) (hsm2 : SmC (A ++ B)) (hw : Cn W g (P ++ (A ++ (B ++ Q)))) => sym_any HCM (A.length + B.length) A B (Nat.le_refl _) h1 h2 (cap := cap) P Q ha hm hb hn2 hs hA hB hsm2 hw)
 clear h hn hs hsm HCM
 go_enter Tryz.func221, Tryz.ntmps221
 go_wp2_with fail
 go_loopw [7, 8] (fun v7 v8 wr => ∃ (a b : Nat) (P R : List Coin), v7 = .int .i64 (a : Int) ∧ v8 = .int .i64 (b : Int) ∧ Aside0 (a = P.length ∧ b = a + 20 ∧ n = P.length + R.length ∧ ∃ k, a = 20 * k) ∧ Aside0 (Chk 20 P ∧ Ste xs (P ++ R)) ∧ Aside0 (Cn wr g (P ++ R)) ∧ Aside0 (Kp w wr g none)) (fun v7 _ _ => n + 20 - (intOf v7).toNat)
 case atStart => exact ⟨0, 20, [], xs, rfl, rfl, ⟨rfl, rfl, by rw [List.length_nil, Nat.zero_add]; exact HX.out.1, 0, rfl⟩, ⟨chk_nil _, Ste.refl _⟩, H, ⟨Kp.refl _ _ _⟩⟩
 case round =>
  obtain ⟨a, b, P, R, rfl, rfl, HA, HB, HC, HK⟩ := hrel
  obtain ⟨x1, x2, x3⟩ := HX.out
  obtain ⟨a1, a2, a3, k, a4⟩ := HA.out
  obtain ⟨b1, b2⟩ := HB.out
  have z1 : (a : Int) ≤ 100000 := by omega
  have z2 : (b : Int) ≤ 100020 := by omega
  have hsmR : SmC (P ++ R) := ste_smc b2 x3
  by_cases hbn : b ≤ n
  ·have d1 : decide ((b : Int) ≤ (n : Int)) = true := decide_eq_true (by omega)
   have d2 : decide (b ≤ n) = true := decide_eq_true hbn
   have hl : (R.take 20).length = 20 := by rw [List.length_take]; omega
   have hR : R = R.take 20 ++ R.drop 20 := (List.take_append_drop _ _).symm
   have hl2 : (R.drop 20).length = R.length - 20 := List.length_drop ..
   have hc := HC.out
   generalize R.take 20 = S at *
   generalize R.drop 20 = Q at *
   rw [hR] at hc hsmR b2
   have HI := Aside0.mk (HINS.out _ a b P S Q a1 (by omega) (by omega) (smc_mid hsmR) hc)
   have HL := Aside0.mk hl
   have HF : Aside0 (∀ S' : List Coin, Srt S' → Ste S S' → S'.length = S.length → b = (P ++ S').length ∧ n = (P ++ S').length + Q.length ∧ Chk 20 (P ++ S') ∧ Ste xs ((P ++ S') ++ Q)) := ⟨fun S' s1 s2 s3 => by
    refine ⟨by rw [List.length_append]; omega, by rw [List.length_append]; omega, chk_snoc (k := k) b1 (by omega) s1 (by omega), b2.trans ?_⟩
    rw [List.append_assoc]
    exact (Ste.refl P).app (s2.app (Ste.refl Q))⟩
   have HAB := Aside0.mk (And.intro a2 (show ∃ k, b = 20 * k from ⟨k + 1, by omega⟩))
   have HLT : Aside0 (a < n) := ⟨by omega⟩
   clear x1 x2 x3 a1 a2 a3 a4 b1 b2 hbn hl hl2 hR hc hsmR
   go_wp2_with fail
   refine HI.out.mono ?_
   rintro e w1 ⟨rfl, S', s1, s2, s3, s4, s5⟩
   obtain ⟨f1, f2, f3, f4⟩ := HF.out S' s2 s3 s4
   have HF2 := Aside0.mk (And.intro f1 (And.intro f2 (And.intro f3 f4)))
   have HC2 := Aside0.mk s1
   have HK2 := Aside0.mk (Kp.trans HK.out s5 (.inl rfl))
   clear s1 s2 s3 s4 s5 f1 f2 f3 f4
   go_wp2_with fail
   go_roundw
   case rel =>
    obtain ⟨f1, f2, f3, f4⟩ := HF2.out
    refine ⟨b, b + 20, P ++ S', Q, rfl, congrArg (Value.int .i64) (by omega), ⟨f1, rfl, f2, HAB.out.2⟩, ⟨f3, f4⟩, ⟨by have := HC2.out; simpa using this⟩, HK2⟩
   case measure =>
    have h1 := HAB.out.1
    have h2 := HLT.out
    show n + 20 - ((b : Int)).toNat < n + 20 - ((a : Int)).toNat
    omega
  ·have d1 : decide ((b : Int) ≤ (n : Int)) = false := decide_eq_false (by omega)
   have d2 : decide (b ≤ n) = false := decide_eq_false hbn
   have hc := HC.out
   have hR : P ++ R = P ++ (R ++ []) := by rw [List.append_nil]
   rw [hR] at hc hsmR
   have HI := Aside0.mk (HINS.out _ a n P R [] a1 (by omega) (by rw [List.length_nil]; omega) (smc_mid hsmR) hc)
   have HF : Aside0 (∀ S' : List Coin, Srt S' → Ste R S' → S'.length = R.length → Chk 20 (P ++ S') ∧ Ste xs (P ++ S')) := ⟨fun S' s1 s2 s3 => by
    refine ⟨chk_snoc (k := k) b1 (by omega) s1 (by omega), b2.trans ?_⟩
    exact (Ste.refl P).app s2⟩
   clear x1 x2 x3 a1 a2 a3 a4 b1 b2 hbn hR hc hsmR
   go_wp2_with fail
   refine HI.out.mono ?_
   rintro e w1 ⟨rfl, S', s1, s2, s3, s4, s5⟩
   obtain ⟨f1, f2⟩ := HF.out S' s2 s3 s4
   have HF2 := Aside0.mk (And.intro f1 f2)
   rw [List.append_nil] at s1
   have HC2 := Aside0.mk s1
   have HK2 := Aside0.mk (Kp.trans HK.out s5 (.inl rfl))
   clear s1 s2 s3 s4 s5 f1 f2 HA HB HC HI HF HINS
   generalize P ++ S' = Y at *
   go_wp2_with fail
   go_loopw [6] (fun v6 wr => ∃ (c : Nat) (X : List Coin), v6 = .int .i64 (c : Int) ∧ Aside0 (1 ≤ c ∧ c ≤ 200000) ∧ Aside0 (Chk c X ∧ Ste xs X) ∧ Aside0 (Cn wr g X) ∧ Aside0 (Kp w wr g none)) (fun v6 _ => 200000 - (intOf v6).toNat)
   case atStart => exact ⟨20, Y, rfl, ⟨by decide, by decide⟩, HF2, HC2, HK2⟩
   case round =>
    obtain ⟨c, X, rfl, HA, HB, HC, HK⟩ := hrel
    clear HF2 HC2 HK2
    obtain ⟨x1, x2, x3⟩ := HX.out
    obtain ⟨a1, a2⟩ := HA.out
    obtain ⟨b1, b2⟩ := HB.out
    have hXl := ste_len b2
    by_cases hcn : c < n
    ·have d1 : decide ((c : Int) < (n : Int)) = true := decide_eq_true (by omega)
     have d2 : decide (c < n) = true := decide_eq_true hcn
     have z3 : (c : Int) ≤ 100000 := by omega
     have HCN := Aside0.mk (And.intro hcn (And.intro a1 (And.intro x2 x3)))
     have HY : Aside0 (n = X.length) := ⟨by omega⟩
     clear x1 x2 x3 a1 a2 b1 b2 hcn hXl
     go_wp2_with fail
     go_loopw [7, 8] (fun v7 v8 wq => ∃ (a b : Nat) (P R : List Coin), v7 = .int .i64 (a : Int) ∧ v8 = .int .i64 (b : Int) ∧ Aside0 (a = P.length ∧ b = a + 2 * c ∧ n = P.length + R.length ∧ ∃ k, a = 2 * c * k) ∧ Aside0 (Chk (2 * c) P ∧ Chk c R ∧ Ste xs (P ++ R)) ∧ Aside0 (Cn wq g (P ++ R)) ∧ Aside0 (Kp w wq g none)) (fun v7 _ _ => 2 * n - (intOf v7).toNat)
     case atStart => exact ⟨0, 2 * c, [], X, rfl, congrArg (Value.int .i64) (by omega), ⟨rfl, by omega, by rw [List.length_nil, Nat.zero_add]; exact HY.out, 0, rfl⟩, ⟨chk_nil _, HB.out.1, HB.out.2⟩, HC, HK⟩
     case round =>
      obtain ⟨a, b, P, R, rfl, rfl, HA2, HB2, HC2, HK2⟩ := hrel
      obtain ⟨c1, c2, c3, c4⟩ := HCN.out
      obtain ⟨a1, a2, a3, k, a4⟩ := HA2.out
      obtain ⟨b1, b2, b3⟩ := HB2.out
      have z4 : (a : Int) ≤ 100000 := by omega
      have z5 : (b : Int) ≤ 300000 := by omega
      have hsmR : SmC (P ++ R) := ste_smc b3 c4
      obtain ⟨m, hm⟩ : ∃ m : Nat, m = a + c := ⟨_, rfl⟩
      have qm : (a : Int) + (c : Int) = (m : Int) := by omega
      by_cases hbn : b ≤ n
      ·have e1 : decide ((b : Int) ≤ (n : Int)) = true := decide_eq_true (by omega)
       have e2 : decide (b ≤ n) = true := decide_eq_true hbn
       have hl1 : (R.take c).length = c := by rw [List.length_take]; omega
       have hs1 : Srt (R.take c) := chk_take b2
       have b2' := chk_drop b2 1
       rw [Nat.one_mul] at b2'
       have hl2 : ((R.drop c).take c).length = c := by rw [List.length_take, List.length_drop]; omega
       have hs2 : Srt ((R.drop c).take c) := chk_take b2'
       have b2'' := chk_drop b2' 1
       rw [Nat.one_mul] at b2''
       have hl3 : ((R.drop c).drop c).length = R.length - c - c := by rw [List.length_drop, List.length_drop]
       have hR : R = R.take c ++ ((R.drop c).take c ++ (R.drop c).drop c) := by rw [List.take_append_drop, List.take_append_drop]
       have hc := HC2.out
       generalize R.take c = A at *
       generalize (R.drop c).take c = B at *
       generalize (R.drop c).drop c = Q at *
       rw [hR] at hc hsmR b3
       have HI := Aside0.mk (HSYM.out _ a m b P A B Q (by omega) (by omega) a1 (by omega) (by omega) (by omega) hs1 hs2 (fun z hz => hsmR z (by simp only [List.mem_append] at hz ⊢; rcases hz with h | h; exact .inr (.inl h); exact .inr (.inr (.inl h)))) hc)
       have HF : Aside0 (∀ S' : List Coin, Srt S' → Ste (A ++ B) S' → S'.length = A.length + B.length → b = (P ++ S').length ∧ n = (P ++ S').length + Q.length ∧ Chk (2 * c) (P ++ S') ∧ Chk c Q ∧ Ste xs ((P ++ S') ++ Q)) := ⟨fun S' s1 s2 s3 => by
        refine ⟨by rw [List.length_append]; omega, by rw [List.length_append]; omega, chk_snoc (k := k) b1 (by omega) s1 (by omega), b2'', b3.trans ?_⟩
        rw [List.append_assoc]
        refine (Ste.refl P).app ?_
        rw [← List.append_assoc]
        exact s2.app (Ste.refl Q)⟩
       have HAB := Aside0.mk (And.intro a2 (show ∃ k, b = 2 * c * k from ⟨k + 1, by rw [Nat.mul_add, Nat.mul_one]; omega⟩))
       have HLT : Aside0 (a < b ∧ b ≤ n) := ⟨by omega⟩
       clear c1 c2 c3 c4 a1 a2 a3 a4 b1 b2 b2' b2'' b3 hbn hl1 hl2 hl3 hs1 hs2 hR hc hsmR hm
       go_wp2_with fail
       refine HI.out.mono ?_
       rintro e w1 ⟨rfl, S', s1, s2, s3, s4, s5⟩
       obtain ⟨f1, f2, f3, f4, f5⟩ := HF.out S' s2 s3 s4
       have HF2 := Aside0.mk (And.intro f1 (And.intro f2 (And.intro f3 (And.intro f4 f5))))
       have HC3 := Aside0.mk s1
       have HK3 := Aside0.mk (Kp.trans HK2.out s5 (.inl rfl))
       clear s1 s2 s3 s4 s5 f1 f2 f3 f4 f5
       go_wp2_with fail
       go_roundw
       case rel =>
        obtain ⟨f1, f2, f3, f4, f5⟩ := HF2.out
        refine ⟨b, b + 2 * c, P ++ S', Q, rfl, congrArg (Value.int .i64) (by omega), ⟨f1, rfl, f2, HAB.out.2⟩, ⟨f3, f4, f5⟩, ⟨by have := HC3.out; simpa using this⟩, HK3⟩
       case measure =>
        have h2 := HLT.out
        show 2 * n - ((b : Int)).toNat < 2 * n - ((a : Int)).toNat
        omega
      ·have e1 : decide ((b : Int) ≤ (n : Int)) = false := decide_eq_false (by omega)
       have e2 : decide (b ≤ n) = false := decide_eq_false hbn
       by_cases hmn : m < n
       ·have f1 : decide ((m : Int) < (n : Int)) = true := decide_eq_true (by omega)
        have f2 : decide (m < n) = true := decide_eq_true hmn
        have hl1 : (R.take c).length = c := by rw [List.length_take]; omega
        have hs1 : Srt (R.take c) := chk_take b2
        have b2' := chk_drop b2 1
        rw [Nat.one_mul] at b2'
        have hl2 : (R.drop c).length = R.length - c := List.length_drop ..
        have hs2 : Srt (R.drop c) := chk_all b2' (by omega)
        have hR : R = R.take c ++ (R.drop c ++ []) := by rw [List.append_nil, List.take_append_drop]
        have hc := HC2.out
        generalize R.take c = A at *
        generalize R.drop c = B at *
        rw [hR] at hc hsmR b3
        have HI := Aside0.mk (HSYM.out _ a m n P A B [] (by omega) (by omega) a1 (by omega) (by omega) (by rw [List.length_nil]; omega) hs1 hs2 (fun z hz => hsmR z (by simp only [List.mem_append] at hz ⊢; rcases hz with h | h; exact .inr (.inl h); exact .inr (.inr (.inl h)))) hc)
        have HF : Aside0 (∀ S' : List Coin, Srt S' → Ste (A ++ B) S' → S'.length = A.length + B.length → Chk (c * 2) (P ++ S') ∧ Ste xs (P ++ S')) := ⟨fun S' s1 s2 s3 => by
         rw [Nat.mul_comm c 2]
         refine ⟨chk_snoc (k := k) b1 (by omega) s1 (by omega), b3.trans ?_⟩
         refine (Ste.refl P).app ?_
         rw [List.append_nil]
         exact s2⟩
        clear c1 c2 c3 c4 a1 a2 a3 a4 b1 b2 b2' b3 hbn hmn hl1 hl2 hs1 hs2 hR hc hsmR hm
        go_wp2_with fail
        refine HI.out.mono ?_
        rintro e w1 ⟨rfl, S', s1, s2, s3, s4, s5⟩
        obtain ⟨g1, g2⟩ := HF.out S' s2 s3 s4
        rw [List.append_nil] at s1
        have HF2 := Aside0.mk (And.intro g1 g2)
        have HC3 := Aside0.mk s1
        have HK3 := Aside0.mk (Kp.trans HK2.out s5 (.inl rfl))
        clear s1 s2 s3 s4 s5 g1 g2
        go_wp2_with fail
        go_roundw
        case rel =>
         have h1 := HCN.out
         exact ⟨c * 2, P ++ S', congrArg (Value.int .i64) (by omega), ⟨by omega, by omega⟩, HF2, HC3, HK3⟩
        case measure =>
         have h1 := HCN.out
         show 200000 - ((c : Int) * 2).toNat < 200000 - ((c : Int)).toNat
         omega
       ·have f1 : decide ((m : Int) < (n : Int)) = false := decide_eq_false (by omega)
        have f2 : decide (m < n) = false := decide_eq_false hmn
        have HF2 : Aside0 (Chk (c * 2) (P ++ R) ∧ Ste xs (P ++ R)) := ⟨by
         rw [Nat.mul_comm c 2]
         exact ⟨chk_snoc (k := k) b1 (by omega) (chk_all b2 (by omega)) (by omega), b3⟩⟩
        clear c1 c2 c3 c4 a1 a2 a3 a4 b1 b2 b3 hbn hmn hsmR hm
        go_wp2_with fail
        go_roundw
        case rel =>
         have h1 := HCN.out
         exact ⟨c * 2, P ++ R, congrArg (Value.int .i64) (by omega), ⟨by omega, by omega⟩, HF2, HC2, HK2⟩
        case measure =>
         have h1 := HCN.out
         show 200000 - ((c : Int) * 2).toNat < 200000 - ((c : Int)).toNat
         omega
    ·have d1 : decide ((c : Int) < (n : Int)) = false := decide_eq_false (by omega)
     have d2 : decide (c < n) = false := decide_eq_false hcn
     have HE : Aside0 (X = stable xs) := ⟨stable_of (chk_all b1 (by omega)) b2⟩
     clear x1 x2 x3 a1 a2 b1 b2 hcn hXl
     go_wp2_with fail
     go_end0
     exact ⟨rfl, by rw [← HE.out]; exact HC.out, HK.out⟩
theorem sortstable_any {f : FuncId} (HCM : Cmp f) {g n cap : Nat} (xs : List Coin) (hn : n = xs.length) (hs : n ≤ 100000) (hsm : SmC xs) {w : World} (h : Cn w g xs) :
  Calls Tryz.prog 193 #[.slice (some ⟨g, 0, none⟩) n cap, .func (.func f) #[] #[]] w fun e w' => e = .returned (.tuple #[]) ∧ Cn w' g (stable xs) ∧ Kp w w' g none := by
 have HS := Aside0.mk (stable_any (cap := cap) HCM xs hn hs hsm h)
 clear h hn hs hsm HCM
 go_enter Tryz.func193, Tryz.ntmps193
 go_wp2_with fail
 refine HS.out.mono ?_
 rintro e w1 ⟨rfl, h1, h2⟩
 have H1 := Aside0.mk (And.intro h1 h2)
 clear h1 h2
 go_wp2_with fail
 go_end0
 exact ⟨rfl, H1.out.1, H1.out.2⟩
end Go.Proofs.YtepgkimlmoikmaaGreat
