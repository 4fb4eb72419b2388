/- ShU: a part of its proof (contracts of the functions that it reaches, and the plain mathematics behind them). -/
import Derived.Test.YtepgkimlmoikmaaGreatShU28
import Derived.Outline
import Derived.Deep.DeepCutAuto
set_option linter.unusedVariables false
set_option linter.unusedSimpArgs false
set_option maxHeartbeats 2000000
set_option maxRecDepth 100000
set_option linter.unusedVariables false
set_option linter.unusedSimpArgs false
namespace Go.Proofs.YtepgkimlmoikmaaGreat
open Go.RowKit Go.Proofs.YtepgkimlmoikmaaGreat.Spec Go.Proofs.YtepgkimlmoikmaaGreatW.PrintWords Go.Proofs.YtepgkimlmoikmaaGreatW.PrintLast
open Go.Proofs.YtepgkimlmoikmaaGreatW.PrintMore
attribute [local go_sem ↓] Go.wp_at_zero Go.wp_at_succ
def SymOk (f : FuncId) (A B : List Coin) : Prop := ∀ {g n cap a m b : Nat} (P Q : List Coin), a = P.length → m = P.length + A.length → b = P.length + A.length + B.length → n = P.length + A.length + B.length + Q.length → n ≤ 100000 → Srt A → Srt B → SmC (A ++ B) → ∀ {w : World}, Cn w g (P ++ (A ++ (B ++ Q))) →
  Calls Tryz.prog 230 #[.slice (some ⟨g, 0, none⟩) n cap, .int .i64 (a : Int), .int .i64 (m : Int), .int .i64 (b : Int), .func (.func f) #[] #[]] w fun e w' => e = .returned (.tuple #[]) ∧ ∃ S', Cn w' g (P ++ (S' ++ Q)) ∧ Srt S' ∧ Ste (A ++ B) S' ∧ S'.length = A.length + B.length ∧ Kp w w' g none
set_option maxHeartbeats 4000000 in
theorem sym_gen {f : FuncId} (HCM : Cmp f) (A B : List Coin) (hA2 : 2 ≤ A.length) (hB2 : 2 ≤ B.length) (IH : ∀ A' B' : List Coin, A'.length + B'.length < A.length + B.length → 1 ≤ A'.length → 1 ≤ B'.length → SymOk f A' B') : SymOk f A B := by
 intro g n cap a m b P Q ha hm hb hn hs hA hB hsm w h
 have H := Aside0.mk h
 obtain ⟨M, hM⟩ : ∃ M : Nat, M = (a + b) / 2 := ⟨_, rfl⟩
 obtain ⟨N, hN⟩ : ∃ N : Nat, N = M + m := ⟨_, rfl⟩
 obtain ⟨R, hR⟩ : ∃ R : Nat, R = N - 1 := ⟨_, rfl⟩
 obtain ⟨lo, hi, hcase⟩ : ∃ lo hi : Nat, (M < m ∧ lo = N - b ∧ b ≤ N ∧ hi = M) ∨ (m ≤ M ∧ lo = a ∧ hi = m) := by
  by_cases g : M < m
  ·exact ⟨N - b, M, .inl ⟨g, rfl, by omega, rfl⟩⟩
  ·exact ⟨a, m, .inr ⟨by omega, rfl, rfl⟩⟩
 have HX := Aside0.mk (And.intro ha (And.intro hm (And.intro hb (And.intro hn (And.intro hs (And.intro hM (And.intro hN (And.intro hR (And.intro hA2 (And.intro hB2 hsm))))))))))
 have HSA := Aside0.mk hA
 have HSB := Aside0.mk hB
 have HIH := Aside0.mk IH
 have eg := HCM.eg
 have HC := Aside0.mk HCM
 have HCASE := Aside0.mk hcase
 have z1 : (a : Int) ≤ 100000 := by omega
 have z2 : (m : Int) ≤ 100000 := by omega
 have z3 : (b : Int) ≤ 100000 := by omega
 have z4 : (M : Int) ≤ 100000 := by omega
 have z5 : (N : Int) ≤ 200000 := by omega
 have z6 : (1 : Int) ≤ (N : Int) := by omega
 have d1 : ((m : Int) - (a : Int) == 1) = false := beq_eq_false_iff_ne.2 (by omega)
 have d2 : ((b : Int) - (m : Int) == 1) = false := beq_eq_false_iff_ne.2 (by omega)
 have qM : ((a : Int) + (b : Int)) / 2 = (M : Int) := by omega
 have qN : (M : Int) + (m : Int) = (N : Int) := by omega
 have qR : (N : Int) - 1 = (R : Int) := by omega
 clear h hs hsm HCM hA hB IH
 rcases hcase with ⟨k1, k2, k3, k4⟩ | ⟨k1, k2, k3⟩
 ·have d3 : decide ((M : Int) < (m : Int)) = true := decide_eq_true (by omega)
  have d3' : decide (M < m) = true := decide_eq_true k1
  have qL : (N : Int) - (b : Int) = (lo : Int) := by omega
  clear ha hm hb hn hM hN hR hA2 hB2 k1 k2 k3 k4
  go_enter Tryz.func230, Tryz.ntmps230
  go_wp2_with fail
  go_loopw [20, 21] (fun v20 v21 wr => ∃ (i j : Nat), v20 = .int .i64 (i : Int) ∧ v21 = .int .i64 (j : Int) ∧ Aside0 (lo ≤ i ∧ i ≤ j ∧ j ≤ hi) ∧ Aside0 (∀ t z y, a + t < i → A[t]? = some z → B[(M - a) - 1 - t]? = some y → z.1 ≤ y.1) ∧ Aside0 (∀ t z y, j ≤ a + t → t < M - a → A[t]? = some z → B[(M - a) - 1 - t]? = some y → y.1 < z.1) ∧ Aside0 (Cn wr g (P ++ (A ++ (B ++ Q)))) ∧ Aside0 (Kp w wr g none)) (fun v20 v21 _ => (intOf v21).toNat - (intOf v20).toNat)
  case atStart =>
   obtain ⟨x1, x2, x3, x4, x5, x6, x7, x8, x9, x10, x11⟩ := HX.out
   have hcase := HCASE.out
   have hMm := of_decide_eq_true d3'
   refine ⟨lo, M, rfl, rfl, ⟨by omega⟩, ⟨fun t z y ht _ hy => ?_⟩, ⟨fun t z y ht ht2 _ _ => by omega⟩, H, ⟨Kp.refl _ _ _⟩⟩
   obtain ⟨hk2, _⟩ := List.getElem?_eq_some_iff.1 hy
   omega
  case round =>
   obtain ⟨i, j, rfl, rfl, HI, HL, HG, HCn, HK⟩ := hrel
   obtain ⟨x1, x2, x3, x4, x5, x6, x7, x8, x9, x10, x11⟩ := HX.out
   obtain ⟨i1, i2, i3⟩ := HI.out
   have hcase := HCASE.out
   by_cases hij : i < j
   ·have dt : decide ((i : Int) < (j : Int)) = true := decide_eq_true (by omega)
    have dt' : decide (i < j) = true := decide_eq_true hij
    obtain ⟨t, ht⟩ : ∃ t : Nat, a + t = (i + j) / 2 := ⟨(i + j) / 2 - a, by omega⟩
    obtain ⟨hh, hhe⟩ : ∃ hh : Nat, hh = a + t := ⟨_, rfl⟩
    obtain ⟨kk, hkk⟩ : ∃ kk : Nat, kk = P.length + A.length + ((M - a) - 1 - t) := ⟨_, rfl⟩
    have htb : t < A.length := by omega
    have htc : (M - a) - 1 - t < B.length := by omega
    obtain ⟨z, hz⟩ : ∃ z, A[t]? = some z := ⟨_, List.getElem?_eq_getElem htb⟩
    obtain ⟨y, hy⟩ : ∃ y, B[(M - a) - 1 - t]? = some y := ⟨_, List.getElem?_eq_getElem htc⟩
    have hc := HCn.out
    have gU : (P ++ (A ++ (B ++ Q)))[kk]? = some y := by
     rw [hkk]
     exact idx_B hy
    have gV : (P ++ (A ++ (B ++ Q)))[hh]? = some z := by
     rw [hhe, x1]
     exact idx_A hz
    have HCL := Aside0.mk (fun W => HC.out.calls y z (x11 y (List.mem_append_right _ (List.mem_of_getElem? hy))) (x11 z (List.mem_append_left _ (List.mem_of_getElem? hz))) W)
    have zi : (i : Int) ≤ 100000 := by omega
    have zj : (j : Int) ≤ 100000 := by omega
    have zh : (hh : Int) ≤ 100000 := by omega
    have q1 : (0 : Int) ≤ (hh : Int) := by omega
    have q2 : (hh : Int) < (n : Int) := by omega
    have q3 : (0 : Int) ≤ (kk : Int) := by omega
    have q4 : (kk : Int) < (n : Int) := by omega
    have qh : ((i : Int) + (j : Int)) / 2 = (hh : Int) := by omega
    have qk3 : (R : Int) - (hh : Int) = (kk : Int) := by omega
    have qk : IntKind.i64.wrap ((R : Int) - (hh : Int)) = (kk : Int) := (IntWalk.i64_in _ (by omega)).trans qk3
    have qk4 : IntKind.i64.wrap (kk : Int) = (kk : Int) := IntWalk.i64_in _ (by omega)
    have HT := Aside0.mk (And.intro ht (And.intro hhe (And.intro hij (And.intro hz hy))))
    clear x1 x2 x3 x4 x5 x6 x7 x8 x9 x10 x11 i1 i2 i3 hij ht hhe hkk htb htc hz hy hcase
    have k1 := hc.get0 gU
    have k2 := hc.get1 gU
    have k3 := hc.get0 gV
    have k4 := hc.get1 gV
    have HC3 := Aside0.mk hc
    clear hc gU gV
    go_wp2_with fail
    go_region_held3 (fun w' => w'.cell? ⟨g, kk * 2, none⟩ = some (.int .i64 y.1) ∧ w'.cell? ⟨g, kk * 2 + 1, none⟩ = some (.slice y.2.1 y.2.2.1 y.2.2.2) ∧ w'.cell? ⟨g, hh * 2, none⟩ = some (.int .i64 z.1) ∧ w'.cell? ⟨g, hh * 2 + 1, none⟩ = some (.slice z.2.1 z.2.2.1 z.2.2.2))
     (first | go_keep | exact ⟨pw_cell_below hb4 (by assumption), pw_cell_below hb4 (by assumption), pw_cell_below hb4 (by assumption), pw_cell_below hb4 (by assumption)⟩)
     (first | (refine (HCL.out _).mono ?_; rintro e w4 ⟨rfl, hb4⟩))
    have HC4 := Aside0.mk (Cn.below (Cn.drew HC3.out) hb4)
    have HK4 : Aside0 (Kp w w4 g none) := ⟨(kp_drew HK.out).trans (Kp.of_below hb4 _ _) (.inl rfl)⟩
    clear hb4 k1 k2 k3 k4
    by_cases hxy : y.1 < z.1
    ·have dd : decide (y.1 - z.1 < 0) = true := decide_eq_true (by omega)
     go_wp2_with fail
     ·exfalso
      rename_i hq
      rw [dd] at hq
      cases hq
     ·go_roundw
      case rel =>
       obtain ⟨ht, hhe, hij, hz, hy⟩ := HT.out
       obtain ⟨i1, i2, i3⟩ := HI.out
       exact ⟨i, hh, rfl, rfl, ⟨by omega⟩, HL, ⟨fun t2 z2 y2 h1 => sym_dn HSA.out HSB.out hz hy hxy t2 z2 y2 (by omega)⟩, HC4, HK4⟩
      case measure =>
       obtain ⟨ht, hhe, hij, hz, hy⟩ := HT.out
       show (hh : Int).toNat - (i : Int).toNat < (j : Int).toNat - (i : Int).toNat
       omega
    ·have dd : decide (y.1 - z.1 < 0) = false := decide_eq_false (by omega)
     go_wp2_with fail
     ·go_roundw
      case rel =>
       obtain ⟨ht, hhe, hij, hz, hy⟩ := HT.out
       obtain ⟨i1, i2, i3⟩ := HI.out
       exact ⟨hh + 1, j, rfl, rfl, ⟨by omega⟩, ⟨fun t2 z2 y2 h1 => sym_up HSA.out HSB.out hz hy (by omega) t2 z2 y2 (by omega)⟩, HG, HC4, HK4⟩
      case measure =>
       obtain ⟨ht, hhe, hij, hz, hy⟩ := HT.out
       show (j : Int).toNat - ((hh : Int) + 1).toNat < (j : Int).toNat - (i : Int).toNat
       omega
     ·exfalso
      rename_i hq
      rw [dd] at hq
      cases hq
   ·have hie : i = j := by omega
    subst hie
    have dt : decide ((i : Int) < (i : Int)) = false := decide_eq_false (by omega)
    obtain ⟨t, ht⟩ : ∃ t : Nat, i = a + t := ⟨i - a, by omega⟩
    obtain ⟨E, hE⟩ : ∃ E : Nat, E = N - i := ⟨_, rfl⟩
    have hsa := HSA.out
    have hsb := HSB.out
    obtain ⟨h21, h12⟩ := sym_cut (u := M - a) (s := t) hsa hsb (by omega) (by omega) (fun t2 z y h => HL.out t2 z y (by omega)) (fun t2 z y h => HG.out t2 z y (by omega)) (by omega)
    have hA : A = A.take t ++ A.drop t := (List.take_append_drop _ _).symm
    have hB : B = B.take (M - a - t) ++ B.drop (M - a - t) := (List.take_append_drop _ _).symm
    have l1 : (A.take t).length = t := by rw [List.length_take]; omega
    have l2 : (A.drop t).length = A.length - t := List.length_drop ..
    have l3 : (B.take (M - a - t)).length = M - a - t := by rw [List.length_take]; omega
    have l4 : (B.drop (M - a - t)).length = B.length - (M - a - t) := List.length_drop ..
    have hc := HCn.out
    have hsm : SmC (A ++ B) := x11
    generalize A.take t = A1 at *
    generalize A.drop t = A2 at *
    generalize B.take (M - a - t) = B1 at *
    generalize B.drop (M - a - t) = B2 at *
    have la := congrArg List.length hA
    have lb := congrArg List.length hB
    rw [List.length_append] at la lb
    have f1 : i = P.length + A1.length := by omega
    have f2 : m = P.length + A1.length + A2.length := by omega
    have f3 : E = P.length + A1.length + A2.length + B1.length := by omega
    have f4 : M = P.length + A1.length + B1.length := by omega
    have f5 : b = P.length + A1.length + B1.length + A2.length + B2.length := by omega
    have f6 : n = P.length + A1.length + B1.length + A2.length + B2.length + Q.length := by omega
    have hs1 : Srt A1 ∧ Srt A2 := by rw [hA] at hsa; exact ⟨(srt_app.1 hsa).1, (srt_app.1 hsa).2.1⟩
    have hs2 : Srt B1 ∧ Srt B2 := by rw [hB] at hsb; exact ⟨(srt_app.1 hsb).1, (srt_app.1 hsb).2.1⟩
    have hmem : ∀ z, z ∈ A1 ∨ z ∈ A2 ∨ z ∈ B1 ∨ z ∈ B2 → z ∈ A ++ B := by
     intro z hz
     rw [hA, hB]
     simp only [List.mem_append]
     rcases hz with h | h | h | h
     ·exact .inl (.inl h)
     ·exact .inl (.inr h)
     ·exact .inr (.inl h)
     ·exact .inr (.inr h)
    have HROT : Aside0 (1 ≤ A2.length → 1 ≤ B1.length → ∀ W, Cn W g (P ++ (A ++ (B ++ Q))) → Calls Tryz.prog 232 #[.slice (some ⟨g, 0, none⟩) n cap, .int .i64 (i : Int), .int .i64 (m : Int), .int .i64 (E : Int), .func (.func f) #[] #[]] W fun e w' => e = .returned (.tuple #[]) ∧ Cn w' g (P ++ (A1 ++ (B1 ++ (A2 ++ (B2 ++ Q))))) ∧ Kp W w' g none) := ⟨fun g1 g2 W hW => by
     have h0 : Cn W g ((P ++ A1) ++ (A2 ++ (B1 ++ (B2 ++ Q)))) := by rw [hA, hB] at hW; simpa using hW
     refine (rotate_any (P ++ A1) A2 B1 (B2 ++ Q) (by rw [List.length_append]; omega) (by rw [List.length_append]; omega) (by rw [List.length_append]; omega) (by rw [List.length_append, List.length_append]; omega) g1 g2 x5 h0).mono ?_
     rintro e w' ⟨e1, e2, e3⟩
     exact ⟨e1, by simpa using e2, e3⟩⟩
    have HEQ : Aside0 (¬ (1 ≤ A2.length ∧ 1 ≤ B1.length) → P ++ (A ++ (B ++ Q)) = P ++ (A1 ++ (B1 ++ (A2 ++ (B2 ++ Q))))) := ⟨fun hno => by
     rw [hA, hB]
     by_cases g1 : A2.length = 0
     ·rw [List.length_eq_zero_iff.1 g1]; simp
     ·have g2 : B1.length = 0 := by omega
      rw [List.length_eq_zero_iff.1 g2]; simp⟩
    have HREC1 : Aside0 (1 ≤ A1.length → 1 ≤ B1.length → ∀ W, Cn W g (P ++ (A1 ++ (B1 ++ (A2 ++ (B2 ++ Q))))) → Calls Tryz.prog 230 #[.slice (some ⟨g, 0, none⟩) n cap, .int .i64 (a : Int), .int .i64 (i : Int), .int .i64 (M : Int), .func (.func f) #[] #[]] W fun e w' => e = .returned (.tuple #[]) ∧ ∃ S', Cn w' g (P ++ (S' ++ (A2 ++ (B2 ++ Q)))) ∧ Srt S' ∧ Ste (A1 ++ B1) S' ∧ S'.length = A1.length + B1.length ∧ Kp W w' g none) := ⟨fun g1 g2 W hW =>
     HIH.out A1 B1 (by omega) g1 g2 P (A2 ++ (B2 ++ Q)) x1 f1 f4 (by rw [List.length_append, List.length_append]; omega) x5 hs1.1 hs2.1 (fun z hz => hsm z (hmem z (by rcases List.mem_append.1 hz with h | h; exact .inl h; exact .inr (.inr (.inl h))))) hW⟩
    have HS1 : Aside0 (¬ (1 ≤ A1.length ∧ 1 ≤ B1.length) → Srt (A1 ++ B1)) := ⟨fun hno => by
     by_cases g1 : A1.length = 0
     ·rw [List.length_eq_zero_iff.1 g1]; exact hs2.1
     ·have g2 : B1.length = 0 := by omega
      rw [List.length_eq_zero_iff.1 g2, List.append_nil]; exact hs1.1⟩
    have HREC2 : Aside0 (∀ S1 : List Coin, S1.length = A1.length + B1.length → 1 ≤ A2.length → 1 ≤ B2.length → ∀ W, Cn W g (P ++ (S1 ++ (A2 ++ (B2 ++ Q)))) → Calls Tryz.prog 230 #[.slice (some ⟨g, 0, none⟩) n cap, .int .i64 (M : Int), .int .i64 (E : Int), .int .i64 (b : Int), .func (.func f) #[] #[]] W fun e w' => e = .returned (.tuple #[]) ∧ ∃ S', Cn w' g (P ++ (S1 ++ (S' ++ Q))) ∧ Srt S' ∧ Ste (A2 ++ B2) S' ∧ S'.length = A2.length + B2.length ∧ Kp W w' g none) := ⟨fun S1 gl g1 g2 W hW => by
     have h0 : Cn W g ((P ++ S1) ++ (A2 ++ (B2 ++ Q))) := by simpa using hW
     refine (HIH.out A2 B2 (by omega) g1 g2 (P ++ S1) Q (by rw [List.length_append]; omega) (by rw [List.length_append]; omega) (by rw [List.length_append]; omega) (by rw [List.length_append]; omega) x5 hs1.2 hs2.2 (fun z hz => hsm z (hmem z (by rcases List.mem_append.1 hz with h | h; exact .inr (.inl h); exact .inr (.inr (.inr h))))) h0).mono ?_
     rintro e w' ⟨e1, S', e2, e3⟩
     exact ⟨e1, S', by simpa using e2, e3⟩⟩
    have HS2 : Aside0 (¬ (1 ≤ A2.length ∧ 1 ≤ B2.length) → Srt (A2 ++ B2)) := ⟨fun hno => by
     by_cases g1 : A2.length = 0
     ·rw [List.length_eq_zero_iff.1 g1]; exact hs2.2
     ·have g2 : B2.length = 0 := by omega
      rw [List.length_eq_zero_iff.1 g2, List.append_nil]; exact hs1.2⟩
    have HEND : Aside0 (∀ S1 S2 : List Coin, Srt S1 → Srt S2 → Ste (A1 ++ B1) S1 → Ste (A2 ++ B2) S2 → S1.length = A1.length + B1.length → S2.length = A2.length + B2.length → Srt (S1 ++ S2) ∧ Ste (A ++ B) (S1 ++ S2) ∧ (S1 ++ S2).length = A.length + B.length) := ⟨fun S1 S2 a1 a2 a3 a4 a5 a6 => by
     have h := sym_law (A1 := A1) (A2 := A2) (B1 := B1) (B2 := B2) (by rw [← hA]; exact hsa) (by rw [← hB]; exact hsb) h21 h12 a1 a2 a3 a4
     rw [← hA, ← hB] at h
     exact ⟨h.1, h.2, by rw [List.length_append]; omega⟩⟩
    have HF := Aside0.mk (And.intro f1 (And.intro f2 (And.intro f3 (And.intro f4 (And.intro f5 x1)))))
    have HC0 := Aside0.mk hc
    have qE : (N : Int) - (i : Int) = (E : Int) := by omega
    clear x1 x2 x3 x4 x5 x6 x7 x8 x9 x10 x11 i1 i2 i3 hij hcase hsa hsb h21 h12 hA hB l1 l2 l3 l4 hc hsm la lb hs1 hs2 hmem f1 f2 f3 f4 f5 f6 HL HG HSA HSB ht hE HI HCn
    go_upto_region 39 with fail
    go_cut [185] (fun c wx => ∃ r : Bool, c = .bool r ∧ Aside0 (r = true ↔ (i < m ∧ m < E)) ∧ Aside0 (Cn wx g (P ++ (A ++ (B ++ Q)))) ∧ Aside0 (Kp w wx g none))
    case first =>
     as_aux_lemma =>
      obtain ⟨f1, f2, f3, f4, f5, f0⟩ := HF.out
      by_cases r1 : i < m
      ·have ra : decide ((i : Int) < (m : Int)) = true := decide_eq_true (by omega)
       have ran : decide (i < m) = true := decide_eq_true (by omega)
       by_cases r2 : m < E
       ·have rb : decide ((m : Int) < (E : Int)) = true := decide_eq_true (by omega)
        have rbn : decide (m < E) = true := decide_eq_true (by omega)
        clear f1 f2 f3 f4 f5 f0
        have r1 := Aside0.mk r1
        have r2 := Aside0.mk r2
        go_wp2_with fail
        go_meet
        exact ⟨true, rfl, ⟨⟨fun _ => ⟨r1.out, r2.out⟩, fun _ => rfl⟩⟩, HC0, HK⟩
       ·have rb : decide ((m : Int) < (E : Int)) = false := decide_eq_false (by omega)
        have rbn : decide (m < E) = false := decide_eq_false (by omega)
        clear f1 f2 f3 f4 f5 f0
        have r2 := Aside0.mk r2
        go_wp2_with fail
        go_meet
        exact ⟨false, rfl, ⟨⟨fun h => Bool.noConfusion h, fun h => absurd h.2 r2.out⟩⟩, HC0, HK⟩
      ·have ra : decide ((i : Int) < (m : Int)) = false := decide_eq_false (by omega)
       have ran : decide (i < m) = false := decide_eq_false (by omega)
       clear f1 f2 f3 f4 f5 f0
       have r1 := Aside0.mk r1
       go_wp2_with fail
       go_meet
       exact ⟨false, rfl, ⟨⟨fun h => Bool.noConfusion h, fun h => absurd h.1 r1.out⟩⟩, HC0, HK⟩
    case rest =>
     obtain ⟨r, rfl, HRr, HC0, HK⟩ := hcut
     go_upto_if 185 with fail
     go_cut [] (fun wx => Aside0 (Cn wx g (P ++ (A1 ++ (B1 ++ (A2 ++ (B2 ++ Q)))))) ∧ Aside0 (Kp w wx g none))
     case first =>
      as_aux_lemma =>
       obtain ⟨f1, f2, f3, f4, f5, f0⟩ := HF.out
       have hq := HRr.out
       cases r with
       | true =>
        obtain ⟨q1, q2⟩ := hq.1 rfl
        have G1 := Aside0.mk (show 1 ≤ A2.length ∧ 1 ≤ B1.length by omega)
        clear f1 f2 f3 f4 f5 f0 q1 q2 hq
        go_wp2_with fail
        refine (HROT.out G1.out.1 G1.out.2 _ HC0.out).mono ?_
        rintro e w5 ⟨rfl, hc5, hk5⟩
        have HK5 := Aside0.mk (Kp.trans HK.out hk5 (.inl rfl))
        have HC5 := Aside0.mk hc5
        clear hc5 hk5
        go_wp2_with fail
        go_meet
        exact ⟨HC5, HK5⟩
       | false =>
        have q1 : ¬ (i < m ∧ m < E) := fun h => Bool.noConfusion (hq.2 h)
        have G1 := Aside0.mk (show ¬ (1 ≤ A2.length ∧ 1 ≤ B1.length) by omega)
        clear f1 f2 f3 f4 f5 f0 q1 hq
        go_wp2_with fail
        have hc5 := HC0.out
        rw [HEQ.out G1.out] at hc5
        go_meet
        exact ⟨⟨hc5⟩, HK⟩
     case rest =>
      obtain ⟨HC5, HK5⟩ := hcut
      clear HROT HEQ HC0 HK HRr
      go_upto_region 41 with fail
      go_cut [199] (fun c wx => ∃ r : Bool, c = .bool r ∧ Aside0 (r = true ↔ (a < i ∧ i < M)) ∧ Aside0 (Cn wx g (P ++ (A1 ++ (B1 ++ (A2 ++ (B2 ++ Q)))))) ∧ Aside0 (Kp w wx g none))
      case first =>
       as_aux_lemma =>
        obtain ⟨f1, f2, f3, f4, f5, f0⟩ := HF.out
        by_cases s1 : a < i
        ·have sa : decide ((a : Int) < (i : Int)) = true := decide_eq_true (by omega)
         have san : decide (a < i) = true := decide_eq_true (by omega)
         by_cases s2 : i < M
         ·have sb : decide ((i : Int) < (M : Int)) = true := decide_eq_true (by omega)
          have sbn : decide (i < M) = true := decide_eq_true (by omega)
          clear f1 f2 f3 f4 f5 f0
          have s1 := Aside0.mk s1
          have s2 := Aside0.mk s2
          go_wp2_with fail
          go_meet
          exact ⟨true, rfl, ⟨⟨fun _ => ⟨s1.out, s2.out⟩, fun _ => rfl⟩⟩, HC5, HK5⟩
         ·have sb : decide ((i : Int) < (M : Int)) = false := decide_eq_false (by omega)
          have sbn : decide (i < M) = false := decide_eq_false (by omega)
          clear f1 f2 f3 f4 f5 f0
          have s2 := Aside0.mk s2
          go_wp2_with fail
          go_meet
          exact ⟨false, rfl, ⟨⟨fun h => Bool.noConfusion h, fun h => absurd h.2 s2.out⟩⟩, HC5, HK5⟩
        ·have sa : decide ((a : Int) < (i : Int)) = false := decide_eq_false (by omega)
         have san : decide (a < i) = false := decide_eq_false (by omega)
         clear f1 f2 f3 f4 f5 f0
         have s1 := Aside0.mk s1
         go_wp2_with fail
         go_meet
         exact ⟨false, rfl, ⟨⟨fun h => Bool.noConfusion h, fun h => absurd h.1 s1.out⟩⟩, HC5, HK5⟩
      case rest =>
       obtain ⟨s, rfl, HRs, HC5, HK5⟩ := hcut

       go_upto_if 199 with fail
       go_cut [] (fun wx => ∃ S1, Aside0 (Cn wx g (P ++ (S1 ++ (A2 ++ (B2 ++ Q))))) ∧ Aside0 (Srt S1 ∧ Ste (A1 ++ B1) S1 ∧ S1.length = A1.length + B1.length) ∧ Aside0 (Kp w wx g none))
       case first =>
        as_aux_lemma =>
         obtain ⟨f1, f2, f3, f4, f5, f0⟩ := HF.out
         have hq := HRs.out
         cases s with
         | true =>
          obtain ⟨q1, q2⟩ := hq.1 rfl
          have G2 := Aside0.mk (show 1 ≤ A1.length ∧ 1 ≤ B1.length by omega)
          clear f1 f2 f3 f4 f5 f0 q1 q2 hq
          go_wp2_with fail
          refine (HREC1.out G2.out.1 G2.out.2 _ HC5.out).mono ?_
          rintro e w6 ⟨rfl, S1, hc6, hs6, he6, hl6, hk6⟩
          have HK6 := Aside0.mk (Kp.trans HK5.out hk6 (.inl rfl))
          have HC6 := Aside0.mk hc6
          have HS6 := Aside0.mk (And.intro hs6 (And.intro he6 hl6))
          clear hc6 hk6 hs6 he6 hl6
          go_wp2_with fail
          go_meet
          exact ⟨S1, HC6, HS6, HK6⟩
         | false =>
          have q1 : ¬ (a < i ∧ i < M) := fun h => Bool.noConfusion (hq.2 h)
          have G2 := Aside0.mk (show ¬ (1 ≤ A1.length ∧ 1 ≤ B1.length) by omega)
          clear f1 f2 f3 f4 f5 f0 q1 hq
          go_wp2_with fail
          have hc6 := HC5.out
          rw [show P ++ (A1 ++ (B1 ++ (A2 ++ (B2 ++ Q)))) = P ++ ((A1 ++ B1) ++ (A2 ++ (B2 ++ Q))) by simp] at hc6
          go_meet
          exact ⟨A1 ++ B1, ⟨hc6⟩, ⟨HS1.out G2.out, Ste.refl _, List.length_append ..⟩, HK5⟩
       case rest =>
        obtain ⟨S1, HC6, HS6, HK6⟩ := hcut
        clear HRs HC5 HK5 HREC1 HS1
        go_upto_region 43 with fail
        go_cut [213] (fun c wx => ∃ r : Bool, c = .bool r ∧ Aside0 (r = true ↔ (M < E ∧ E < b)) ∧ Aside0 (Cn wx g (P ++ (S1 ++ (A2 ++ (B2 ++ Q))))) ∧ Aside0 (Kp w wx g none))
        case first =>
         as_aux_lemma =>
          obtain ⟨f1, f2, f3, f4, f5, f0⟩ := HF.out
          by_cases u1 : M < E
          ·have ua : decide ((M : Int) < (E : Int)) = true := decide_eq_true (by omega)
           have uan : decide (M < E) = true := decide_eq_true (by omega)
           by_cases u2 : E < b
           ·have ub : decide ((E : Int) < (b : Int)) = true := decide_eq_true (by omega)
            have ubn : decide (E < b) = true := decide_eq_true (by omega)
            clear f1 f2 f3 f4 f5 f0
            have u1 := Aside0.mk u1
            have u2 := Aside0.mk u2
            go_wp2_with fail
            go_meet
            exact ⟨true, rfl, ⟨⟨fun _ => ⟨u1.out, u2.out⟩, fun _ => rfl⟩⟩, HC6, HK6⟩
           ·have ub : decide ((E : Int) < (b : Int)) = false := decide_eq_false (by omega)
            have ubn : decide (E < b) = false := decide_eq_false (by omega)
            clear f1 f2 f3 f4 f5 f0
            have u2 := Aside0.mk u2
            go_wp2_with fail
            go_meet
            exact ⟨false, rfl, ⟨⟨fun h => Bool.noConfusion h, fun h => absurd h.2 u2.out⟩⟩, HC6, HK6⟩
          ·have ua : decide ((M : Int) < (E : Int)) = false := decide_eq_false (by omega)
           have uan : decide (M < E) = false := decide_eq_false (by omega)
           clear f1 f2 f3 f4 f5 f0
           have u1 := Aside0.mk u1
           go_wp2_with fail
           go_meet
           exact ⟨false, rfl, ⟨⟨fun h => Bool.noConfusion h, fun h => absurd h.1 u1.out⟩⟩, HC6, HK6⟩
        case rest =>
         obtain ⟨u, rfl, HRu, HC6, HK6⟩ := hcut

         as_aux_lemma =>
          obtain ⟨f1, f2, f3, f4, f5, f0⟩ := HF.out
          have hq := HRu.out
          cases u with
          | true =>
           obtain ⟨q1, q2⟩ := hq.1 rfl
           have G3 := Aside0.mk (show 1 ≤ A2.length ∧ 1 ≤ B2.length by omega)
           clear f1 f2 f3 f4 f5 f0 q1 q2 hq
           go_wp2_with fail
           refine (HREC2.out S1 HS6.out.2.2 G3.out.1 G3.out.2 _ HC6.out).mono ?_
           rintro e w7 ⟨rfl, S2, hc7, hs7, he7, hl7, hk7⟩
           have HK7 := Aside0.mk (Kp.trans HK6.out hk7 (.inl rfl))
           have HC7 := Aside0.mk hc7
           have HS7 := Aside0.mk (And.intro hs7 (And.intro he7 hl7))
           clear hc7 hk7 hs7 he7 hl7
           go_wp2_with fail
           go_end0
           obtain ⟨n1, n2, n3⟩ := HEND.out S1 S2 HS6.out.1 HS7.out.1 HS6.out.2.1 HS7.out.2.1 HS6.out.2.2 HS7.out.2.2
           exact ⟨rfl, S1 ++ S2, by have h := HC7.out; simpa using h, n1, n2, n3, HK7.out⟩
          | false =>
           have q1 : ¬ (M < E ∧ E < b) := fun h => Bool.noConfusion (hq.2 h)
           have G3 := Aside0.mk (show ¬ (1 ≤ A2.length ∧ 1 ≤ B2.length) by omega)
           clear f1 f2 f3 f4 f5 f0 q1 hq
           go_wp2_with fail
           go_end0
           obtain ⟨n1, n2, n3⟩ := HEND.out S1 (A2 ++ B2) HS6.out.1 (HS2.out G3.out) HS6.out.2.1 (Ste.refl _) HS6.out.2.2 (List.length_append ..)
           exact ⟨rfl, S1 ++ (A2 ++ B2), by have h := HC6.out; simpa using h, n1, n2, n3, HK6.out⟩
 ·have d3 : decide ((M : Int) < (m : Int)) = false := decide_eq_false (by omega)
  have d3' : decide (M < m) = false := decide_eq_false (by omega)
  clear ha hm hb hn hM hN hR hA2 hB2 k1 k2 k3
  go_enter Tryz.func230, Tryz.ntmps230
  go_wp2_with fail
  go_loopw [20, 21] (fun v20 v21 wr => ∃ (i j : Nat), v20 = .int .i64 (i : Int) ∧ v21 = .int .i64 (j : Int) ∧ Aside0 (lo ≤ i ∧ i ≤ j ∧ j ≤ hi) ∧ Aside0 (∀ t z y, a + t < i → A[t]? = some z → B[(M - a) - 1 - t]? = some y → z.1 ≤ y.1) ∧ Aside0 (∀ t z y, j ≤ a + t → t < M - a → A[t]? = some z → B[(M - a) - 1 - t]? = some y → y.1 < z.1) ∧ Aside0 (Cn wr g (P ++ (A ++ (B ++ Q)))) ∧ Aside0 (Kp w wr g none)) (fun v20 v21 _ => (intOf v21).toNat - (intOf v20).toNat)
  case atStart =>
   obtain ⟨x1, x2, x3, x4, x5, x6, x7, x8, x9, x10, x11⟩ := HX.out
   have hcase := HCASE.out
   have hMm := of_decide_eq_false d3'
   refine ⟨a, m, rfl, rfl, ⟨by omega⟩, ⟨fun t z y ht _ hy => by omega⟩, ⟨fun t z y ht ht2 hz _ => ?_⟩, H, ⟨Kp.refl _ _ _⟩⟩
   obtain ⟨hk2, _⟩ := List.getElem?_eq_some_iff.1 hz
   omega
  case round =>
   obtain ⟨i, j, rfl, rfl, HI, HL, HG, HCn, HK⟩ := hrel
   obtain ⟨x1, x2, x3, x4, x5, x6, x7, x8, x9, x10, x11⟩ := HX.out
   obtain ⟨i1, i2, i3⟩ := HI.out
   have hcase := HCASE.out
   by_cases hij : i < j
   ·have dt : decide ((i : Int) < (j : Int)) = true := decide_eq_true (by omega)
    have dt' : decide (i < j) = true := decide_eq_true hij
    obtain ⟨t, ht⟩ : ∃ t : Nat, a + t = (i + j) / 2 := ⟨(i + j) / 2 - a, by omega⟩
    obtain ⟨hh, hhe⟩ : ∃ hh : Nat, hh = a + t := ⟨_, rfl⟩
    obtain ⟨kk, hkk⟩ : ∃ kk : Nat, kk = P.length + A.length + ((M - a) - 1 - t) := ⟨_, rfl⟩
    have htb : t < A.length := by omega
    have htc : (M - a) - 1 - t < B.length := by omega
    obtain ⟨z, hz⟩ : ∃ z, A[t]? = some z := ⟨_, List.getElem?_eq_getElem htb⟩
    obtain ⟨y, hy⟩ : ∃ y, B[(M - a) - 1 - t]? = some y := ⟨_, List.getElem?_eq_getElem htc⟩
    have hc := HCn.out
    have gU : (P ++ (A ++ (B ++ Q)))[kk]? = some y := by
     rw [hkk]
     exact idx_B hy
    have gV : (P ++ (A ++ (B ++ Q)))[hh]? = some z := by
     rw [hhe, x1]
     exact idx_A hz
    have HCL := Aside0.mk (fun W => HC.out.calls y z (x11 y (List.mem_append_right _ (List.mem_of_getElem? hy))) (x11 z (List.mem_append_left _ (List.mem_of_getElem? hz))) W)
    have zi : (i : Int) ≤ 100000 := by omega
    have zj : (j : Int) ≤ 100000 := by omega
    have zh : (hh : Int) ≤ 100000 := by omega
    have q1 : (0 : Int) ≤ (hh : Int) := by omega
    have q2 : (hh : Int) < (n : Int) := by omega
    have q3 : (0 : Int) ≤ (kk : Int) := by omega
    have q4 : (kk : Int) < (n : Int) := by omega
    have qh : ((i : Int) + (j : Int)) / 2 = (hh : Int) := by omega
    have qk3 : (R : Int) - (hh : Int) = (kk : Int) := by omega
    have qk : IntKind.i64.wrap ((R : Int) - (hh : Int)) = (kk : Int) := (IntWalk.i64_in _ (by omega)).trans qk3
    have qk4 : IntKind.i64.wrap (kk : Int) = (kk : Int) := IntWalk.i64_in _ (by omega)
    have HT := Aside0.mk (And.intro ht (And.intro hhe (And.intro hij (And.intro hz hy))))
    clear x1 x2 x3 x4 x5 x6 x7 x8 x9 x10 x11 i1 i2 i3 hij ht hhe hkk htb htc hz hy hcase
    have k1 := hc.get0 gU
    have k2 := hc.get1 gU
    have k3 := hc.get0 gV
    have k4 := hc.get1 gV
    have HC3 := Aside0.mk hc
    clear hc gU gV
    go_wp2_with fail
    go_region_held3 (fun w' => w'.cell? ⟨g, kk * 2, none⟩ = some (.int .i64 y.1) ∧ w'.cell? ⟨g, kk * 2 + 1, none⟩ = some (.slice y.2.1 y.2.2.1 y.2.2.2) ∧ w'.cell? ⟨g, hh * 2, none⟩ = some (.int .i64 z.1) ∧ w'.cell? ⟨g, hh * 2 + 1, none⟩ = some (.slice z.2.1 z.2.2.1 z.2.2.2))
     (first | go_keep | exact ⟨pw_cell_below hb4 (by assumption), pw_cell_below hb4 (by assumption), pw_cell_below hb4 (by assumption), pw_cell_below hb4 (by assumption)⟩)
     (first | (refine (HCL.out _).mono ?_; rintro e w4 ⟨rfl, hb4⟩))
    have HC4 := Aside0.mk (Cn.below (Cn.drew HC3.out) hb4)
    have HK4 : Aside0 (Kp w w4 g none) := ⟨(kp_drew HK.out).trans (Kp.of_below hb4 _ _) (.inl rfl)⟩
    clear hb4 k1 k2 k3 k4
    by_cases hxy : y.1 < z.1
    ·have dd : decide (y.1 - z.1 < 0) = true := decide_eq_true (by omega)
     go_wp2_with fail
     ·exfalso
      rename_i hq
      rw [dd] at hq
      cases hq
     ·go_roundw
      case rel =>
       obtain ⟨ht, hhe, hij, hz, hy⟩ := HT.out
       obtain ⟨i1, i2, i3⟩ := HI.out
       exact ⟨i, hh, rfl, rfl, ⟨by omega⟩, HL, ⟨fun t2 z2 y2 h1 => sym_dn HSA.out HSB.out hz hy hxy t2 z2 y2 (by omega)⟩, HC4, HK4⟩
      case measure =>
       obtain ⟨ht, hhe, hij, hz, hy⟩ := HT.out
       show (hh : Int).toNat - (i : Int).toNat < (j : Int).toNat - (i : Int).toNat
       omega
    ·have dd : decide (y.1 - z.1 < 0) = false := decide_eq_false (by omega)
     go_wp2_with fail
     ·go_roundw
      case rel =>
       obtain ⟨ht, hhe, hij, hz, hy⟩ := HT.out
       obtain ⟨i1, i2, i3⟩ := HI.out
       exact ⟨hh + 1, j, rfl, rfl, ⟨by omega⟩, ⟨fun t2 z2 y2 h1 => sym_up HSA.out HSB.out hz hy (by omega) t2 z2 y2 (by omega)⟩, HG, HC4, HK4⟩
      case measure =>
       obtain ⟨ht, hhe, hij, hz, hy⟩ := HT.out
       show (j : Int).toNat - ((hh : Int) + 1).toNat < (j : Int).toNat - (i : Int).toNat
       omega
     ·exfalso
      rename_i hq
      rw [dd] at hq
      cases hq
   ·have hie : i = j := by omega
    subst hie
    have dt : decide ((i : Int) < (i : Int)) = false := decide_eq_false (by omega)
    obtain ⟨t, ht⟩ : ∃ t : Nat, i = a + t := ⟨i - a, by omega⟩
    obtain ⟨E, hE⟩ : ∃ E : Nat, E = N - i := ⟨_, rfl⟩
    have hsa := HSA.out
    have hsb := HSB.out
    obtain ⟨h21, h12⟩ := sym_cut (u := M - a) (s := t) hsa hsb (by omega) (by omega) (fun t2 z y h => HL.out t2 z y (by omega)) (fun t2 z y h => HG.out t2 z y (by omega)) (by omega)
    have hA : A = A.take t ++ A.drop t := (List.take_append_drop _ _).symm
    have hB : B = B.take (M - a - t) ++ B.drop (M - a - t) := (List.take_append_drop _ _).symm
    have l1 : (A.take t).length = t := by rw [List.length_take]; omega
    have l2 : (A.drop t).length = A.length - t := List.length_drop ..
    have l3 : (B.take (M - a - t)).length = M - a - t := by rw [List.length_take]; omega
    have l4 : (B.drop (M - a - t)).length = B.length - (M - a - t) := List.length_drop ..
    have hc := HCn.out
    have hsm : SmC (A ++ B) := x11
    generalize A.take t = A1 at *
    generalize A.drop t = A2 at *
    generalize B.take (M - a - t) = B1 at *
    generalize B.drop (M - a - t) = B2 at *
    have la := congrArg List.length hA
    have lb := congrArg List.length hB
    rw [List.length_append] at la lb
    have f1 : i = P.length + A1.length := by omega
    have f2 : m = P.length + A1.length + A2.length := by omega
    have f3 : E = P.length + A1.length + A2.length + B1.length := by omega
    have f4 : M = P.length + A1.length + B1.length := by omega
    have f5 : b = P.length + A1.length + B1.length + A2.length + B2.length := by omega
    have f6 : n = P.length + A1.length + B1.length + A2.length + B2.length + Q.length := by omega
    have hs1 : Srt A1 ∧ Srt A2 := by rw [hA] at hsa; exact ⟨(srt_app.1 hsa).1, (srt_app.1 hsa).2.1⟩
    have hs2 : Srt B1 ∧ Srt B2 := by rw [hB] at hsb; exact ⟨(srt_app.1 hsb).1, (srt_app.1 hsb).2.1⟩
    have hmem : ∀ z, z ∈ A1 ∨ z ∈ A2 ∨ z ∈ B1 ∨ z ∈ B2 → z ∈ A ++ B := by
     intro z hz
     rw [hA, hB]
     simp only [List.mem_append]
     rcases hz with h | h | h | h
     ·exact .inl (.inl h)
     ·exact .inl (.inr h)
     ·exact .inr (.inl h)
     ·exact .inr (.inr h)
    have HROT : Aside0 (1 ≤ A2.length → 1 ≤ B1.length → ∀ W, Cn W g (P ++ (A ++ (B ++ Q))) → Calls Tryz.prog 232 #[.slice (some ⟨g, 0, none⟩) n cap, .int .i64 (i : Int), .int .i64 (m : Int), .int .i64 (E : Int), .func (.func f) #[] #[]] W fun e w' => e = .returned (.tuple #[]) ∧ Cn w' g (P ++ (A1 ++ (B1 ++ (A2 ++ (B2 ++ Q))))) ∧ Kp W w' g none) := ⟨fun g1 g2 W hW => by
     have h0 : Cn W g ((P ++ A1) ++ (A2 ++ (B1 ++ (B2 ++ Q)))) := by rw [hA, hB] at hW; simpa using hW
     refine (rotate_any (P ++ A1) A2 B1 (B2 ++ Q) (by rw [List.length_append]; omega) (by rw [List.length_append]; omega) (by rw [List.length_append]; omega) (by rw [List.length_append, List.length_append]; omega) g1 g2 x5 h0).mono ?_
     rintro e w' ⟨e1, e2, e3⟩
     exact ⟨e1, by simpa using e2, e3⟩⟩
    have HEQ : Aside0 (¬ (1 ≤ A2.length ∧ 1 ≤ B1.length) → P ++ (A ++ (B ++ Q)) = P ++ (A1 ++ (B1 ++ (A2 ++ (B2 ++ Q))))) := ⟨fun hno => by
     rw [hA, hB]
     by_cases g1 : A2.length = 0
     ·rw [List.length_eq_zero_iff.1 g1]; simp
     ·have g2 : B1.length = 0 := by omega
      rw [List.length_eq_zero_iff.1 g2]; simp⟩
    have HREC1 : Aside0 (1 ≤ A1.length → 1 ≤ B1.length → ∀ W, Cn W g (P ++ (A1 ++ (B1 ++ (A2 ++ (B2 ++ Q))))) → Calls Tryz.prog 230 #[.slice (some ⟨g, 0, none⟩) n cap, .int .i64 (a : Int), .int .i64 (i : Int), .int .i64 (M : Int), .func (.func f) #[] #[]] W fun e w' => e = .returned (.tuple #[]) ∧ ∃ S', Cn w' g (P ++ (S' ++ (A2 ++ (B2 ++ Q)))) ∧ Srt S' ∧ Ste (A1 ++ B1) S' ∧ S'.length = A1.length + B1.length ∧ Kp W w' g none) := ⟨fun g1 g2 W hW =>
     HIH.out A1 B1 (by omega) g1 g2 P (A2 ++ (B2 ++ Q)) x1 f1 f4 (by rw [List.length_append, List.length_append]; omega) x5 hs1.1 hs2.1 (fun z hz => hsm z (hmem z (by rcases List.mem_append.1 hz with h | h; exact .inl h; exact .inr (.inr (.inl h))))) hW⟩
    have HS1 : Aside0 (¬ (1 ≤ A1.length ∧ 1 ≤ B1.length) → Srt (A1 ++ B1)) := ⟨fun hno => by
     by_cases g1 : A1.length = 0
     ·rw [List.length_eq_zero_iff.1 g1]; exact hs2.1
     ·have g2 : B1.length = 0 := by omega
      rw [List.length_eq_zero_iff.1 g2, List.append_nil]; exact hs1.1⟩
    have HREC2 : Aside0 (∀ S1 : List Coin, S1.length = A1.length + B1.length → 1 ≤ A2.length → 1 ≤ B2.length → ∀ W, Cn W g (P ++ (S1 ++ (A2 ++ (B2 ++ Q)))) → Calls Tryz.prog 230 #[.slice (some ⟨g, 0, none⟩) n cap, .int .i64 (M : Int), .int .i64 (E : Int), .int .i64 (b : Int), .func (.func f) #[] #[]] W fun e w' => e = .returned (.tuple #[]) ∧ ∃ S', Cn w' g (P ++ (S1 ++ (S' ++ Q))) ∧ Srt S' ∧ Ste (A2 ++ B2) S' ∧ S'.length = A2.length + B2.length ∧ Kp W w' g none) := ⟨fun S1 gl g1 g2 W hW => by
     have h0 : Cn W g ((P ++ S1) ++ (A2 ++ (B2 ++ Q))) := by simpa using hW
     refine (HIH.out A2 B2 (by omega) g1 g2 (P ++ S1) Q (by rw [List.length_append]; omega) (by rw [List.length_append]; omega) (by rw [List.length_append]; omega) (by rw [List.length_append]; omega) x5 hs1.2 hs2.2 (fun z hz => hsm z (hmem z (by rcases List.mem_append.1 hz with h | h; exact .inr (.inl h); exact .inr (.inr (.inr h))))) h0).mono ?_
     rintro e w' ⟨e1, S', e2, e3⟩
     exact ⟨e1, S', by simpa using e2, e3⟩⟩
    have HS2 : Aside0 (¬ (1 ≤ A2.length ∧ 1 ≤ B2.length) → Srt (A2 ++ B2)) := ⟨fun hno => by
     by_cases g1 : A2.length = 0
     ·rw [List.length_eq_zero_iff.1 g1]; exact hs2.2
     ·have g2 : B2.length = 0 := by omega
      rw [List.length_eq_zero_iff.1 g2, List.append_nil]; exact hs1.2⟩
    have HEND : Aside0 (∀ S1 S2 : List Coin, Srt S1 → Srt S2 → Ste (A1 ++ B1) S1 → Ste (A2 ++ B2) S2 → S1.length = A1.length + B1.length → S2.length = A2.length + B2.length → Srt (S1 ++ S2) ∧ Ste (A ++ B) (S1 ++ S2) ∧ (S1 ++ S2).length = A.length + B.length) := ⟨fun S1 S2 a1 a2 a3 a4 a5 a6 => by
     have h := sym_law (A1 := A1) (A2 := A2) (B1 := B1) (B2 := B2) (by rw [← hA]; exact hsa) (by rw [← hB]; exact hsb) h21 h12 a1 a2 a3 a4
     rw [← hA, ← hB] at h
     exact ⟨h.1, h.2, by rw [List.length_append]; omega⟩⟩
    have HF := Aside0.mk (And.intro f1 (And.intro f2 (And.intro f3 (And.intro f4 (And.intro f5 x1)))))
    have HC0 := Aside0.mk hc
    have qE : (N : Int) - (i : Int) = (E : Int) := by omega
    clear x1 x2 x3 x4 x5 x6 x7 x8 x9 x10 x11 i1 i2 i3 hij hcase hsa hsb h21 h12 hA hB l1 l2 l3 l4 hc hsm la lb hs1 hs2 hmem f1 f2 f3 f4 f5 f6 HL HG HSA HSB ht hE HI HCn
    go_upto_region 39 with fail
    go_cut [185] (fun c wx => ∃ r : Bool, c = .bool r ∧ Aside0 (r = true ↔ (i < m ∧ m < E)) ∧ Aside0 (Cn wx g (P ++ (A ++ (B ++ Q)))) ∧ Aside0 (Kp w wx g none))
    case first =>
     as_aux_lemma =>
      obtain ⟨f1, f2, f3, f4, f5, f0⟩ := HF.out
      by_cases r1 : i < m
      ·have ra : decide ((i : Int) < (m : Int)) = true := decide_eq_true (by omega)
       have ran : decide (i < m) = true := decide_eq_true (by omega)
       by_cases r2 : m < E
       ·have rb : decide ((m : Int) < (E : Int)) = true := decide_eq_true (by omega)
        have rbn : decide (m < E) = true := decide_eq_true (by omega)
        clear f1 f2 f3 f4 f5 f0
        have r1 := Aside0.mk r1
        have r2 := Aside0.mk r2
        go_wp2_with fail
        go_meet
        exact ⟨true, rfl, ⟨⟨fun _ => ⟨r1.out, r2.out⟩, fun _ => rfl⟩⟩, HC0, HK⟩
       ·have rb : decide ((m : Int) < (E : Int)) = false := decide_eq_false (by omega)
        have rbn : decide (m < E) = false := decide_eq_false (by omega)
        clear f1 f2 f3 f4 f5 f0
        have r2 := Aside0.mk r2
        go_wp2_with fail
        go_meet
        exact ⟨false, rfl, ⟨⟨fun h => Bool.noConfusion h, fun h => absurd h.2 r2.out⟩⟩, HC0, HK⟩
      ·have ra : decide ((i : Int) < (m : Int)) = false := decide_eq_false (by omega)
       have ran : decide (i < m) = false := decide_eq_false (by omega)
       clear f1 f2 f3 f4 f5 f0
       have r1 := Aside0.mk r1
       go_wp2_with fail
       go_meet
       exact ⟨false, rfl, ⟨⟨fun h => Bool.noConfusion h, fun h => absurd h.1 r1.out⟩⟩, HC0, HK⟩
    case rest =>
     obtain ⟨r, rfl, HRr, HC0, HK⟩ := hcut
     go_upto_if 185 with fail
     go_cut [] (fun wx => Aside0 (Cn wx g (P ++ (A1 ++ (B1 ++ (A2 ++ (B2 ++ Q)))))) ∧ Aside0 (Kp w wx g none))
     case first =>
      as_aux_lemma =>
       obtain ⟨f1, f2, f3, f4, f5, f0⟩ := HF.out
       have hq := HRr.out
       cases r with
       | true =>
        obtain ⟨q1, q2⟩ := hq.1 rfl
        have G1 := Aside0.mk (show 1 ≤ A2.length ∧ 1 ≤ B1.length by omega)
        clear f1 f2 f3 f4 f5 f0 q1 q2 hq
        go_wp2_with fail
        refine (HROT.out G1.out.1 G1.out.2 _ HC0.out).mono ?_
        rintro e w5 ⟨rfl, hc5, hk5⟩
        have HK5 := Aside0.mk (Kp.trans HK.out hk5 (.inl rfl))
        have HC5 := Aside0.mk hc5
        clear hc5 hk5
        go_wp2_with fail
        go_meet
        exact ⟨HC5, HK5⟩
       | false =>
        have q1 : ¬ (i < m ∧ m < E) := fun h => Bool.noConfusion (hq.2 h)
        have G1 := Aside0.mk (show ¬ (1 ≤ A2.length ∧ 1 ≤ B1.length) by omega)
        clear f1 f2 f3 f4 f5 f0 q1 hq
        go_wp2_with fail
        have hc5 := HC0.out
        rw [HEQ.out G1.out] at hc5
        go_meet
        exact ⟨⟨hc5⟩, HK⟩
     case rest =>
      obtain ⟨HC5, HK5⟩ := hcut
      clear HROT HEQ HC0 HK HRr
      go_upto_region 41 with fail
      go_cut [199] (fun c wx => ∃ r : Bool, c = .bool r ∧ Aside0 (r = true ↔ (a < i ∧ i < M)) ∧ Aside0 (Cn wx g (P ++ (A1 ++ (B1 ++ (A2 ++ (B2 ++ Q)))))) ∧ Aside0 (Kp w wx g none))
      case first =>
       as_aux_lemma =>
        obtain ⟨f1, f2, f3, f4, f5, f0⟩ := HF.out
        by_cases s1 : a < i
        ·have sa : decide ((a : Int) < (i : Int)) = true := decide_eq_true (by omega)
         have san : decide (a < i) = true := decide_eq_true (by omega)
         by_cases s2 : i < M
         ·have sb : decide ((i : Int) < (M : Int)) = true := decide_eq_true (by omega)
          have sbn : decide (i < M) = true := decide_eq_true (by omega)
          clear f1 f2 f3 f4 f5 f0
          have s1 := Aside0.mk s1
          have s2 := Aside0.mk s2
          go_wp2_with fail
          go_meet
          exact ⟨true, rfl, ⟨⟨fun _ => ⟨s1.out, s2.out⟩, fun _ => rfl⟩⟩, HC5, HK5⟩
         ·have sb : decide ((i : Int) < (M : Int)) = false := decide_eq_false (by omega)
          have sbn : decide (i < M) = false := decide_eq_false (by omega)
          clear f1 f2 f3 f4 f5 f0
          have s2 := Aside0.mk s2
          go_wp2_with fail
          go_meet
          exact ⟨false, rfl, ⟨⟨fun h => Bool.noConfusion h, fun h => absurd h.2 s2.out⟩⟩, HC5, HK5⟩
        ·have sa : decide ((a : Int) < (i : Int)) = false := decide_eq_false (by omega)
         have san : decide (a < i) = false := decide_eq_false (by omega)
         clear f1 f2 f3 f4 f5 f0
         have s1 := Aside0.mk s1
         go_wp2_with fail
         go_meet
         exact ⟨false, rfl, ⟨⟨fun h => Bool.noConfusion h, fun h => absurd h.1 s1.out⟩⟩, HC5, HK5⟩
      case rest =>
       obtain ⟨s, rfl, HRs, HC5, HK5⟩ := hcut

       go_upto_if 199 with fail
       go_cut [] (fun wx => ∃ S1, Aside0 (Cn wx g (P ++ (S1 ++ (A2 ++ (B2 ++ Q))))) ∧ Aside0 (Srt S1 ∧ Ste (A1 ++ B1) S1 ∧ S1.length = A1.length + B1.length) ∧ Aside0 (Kp w wx g none))
       case first =>
        as_aux_lemma =>
         obtain ⟨f1, f2, f3, f4, f5, f0⟩ := HF.out
         have hq := HRs.out
         cases s with
         | true =>
          obtain ⟨q1, q2⟩ := hq.1 rfl
          have G2 := Aside0.mk (show 1 ≤ A1.length ∧ 1 ≤ B1.length by omega)
          clear f1 f2 f3 f4 f5 f0 q1 q2 hq
          go_wp2_with fail
          refine (HREC1.out G2.out.1 G2.out.2 _ HC5.out).mono ?_
          rintro e w6 ⟨rfl, S1, hc6, hs6, he6, hl6, hk6⟩
          have HK6 := Aside0.mk (Kp.trans HK5.out hk6 (.inl rfl))
          have HC6 := Aside0.mk hc6
          have HS6 := Aside0.mk (And.intro hs6 (And.intro he6 hl6))
          clear hc6 hk6 hs6 he6 hl6
          go_wp2_with fail
          go_meet
          exact ⟨S1, HC6, HS6, HK6⟩
         | false =>
          have q1 : ¬ (a < i ∧ i < M) := fun h => Bool.noConfusion (hq.2 h)
          have G2 := Aside0.mk (show ¬ (1 ≤ A1.length ∧ 1 ≤ B1.length) by omega)
          clear f1 f2 f3 f4 f5 f0 q1 hq
          go_wp2_with fail
          have hc6 := HC5.out
          rw [show P ++ (A1 ++ (B1 ++ (A2 ++ (B2 ++ Q)))) = P ++ ((A1 ++ B1) ++ (A2 ++ (B2 ++ Q))) by simp] at hc6
          go_meet
          exact ⟨A1 ++ B1, ⟨hc6⟩, ⟨HS1.out G2.out, Ste.refl _, List.length_append ..⟩, HK5⟩
       case rest =>
        obtain ⟨S1, HC6, HS6, HK6⟩ := hcut
        clear HRs HC5 HK5 HREC1 HS1
        go_upto_region 43 with fail
        go_cut [213] (fun c wx => ∃ r : Bool, c = .bool r ∧ Aside0 (r = true ↔ (M < E ∧ E < b)) ∧ Aside0 (Cn wx g (P ++ (S1 ++ (A2 ++ (B2 ++ Q))))) ∧ Aside0 (Kp w wx g none))
        case first =>
         as_aux_lemma =>
          obtain ⟨f1, f2, f3, f4, f5, f0⟩ := HF.out
          by_cases u1 : M < E
          ·have ua : decide ((M : Int) < (E : Int)) = true := decide_eq_true (by omega)
           have uan : decide (M < E) = true := decide_eq_true (by omega)
           by_cases u2 : E < b
           ·have ub : decide ((E : Int) < (b : Int)) = true := decide_eq_true (by omega)
            have ubn : decide (E < b) = true := decide_eq_true (by omega)
            clear f1 f2 f3 f4 f5 f0
            have u1 := Aside0.mk u1
            have u2 := Aside0.mk u2
            go_wp2_with fail
            go_meet
            exact ⟨true, rfl, ⟨⟨fun _ => ⟨u1.out, u2.out⟩, fun _ => rfl⟩⟩, HC6, HK6⟩
           ·have ub : decide ((E : Int) < (b : Int)) = false := decide_eq_false (by omega)
            have ubn : decide (E < b) = false := decide_eq_false (by omega)
            clear f1 f2 f3 f4 f5 f0
            have u2 := Aside0.mk u2
            go_wp2_with fail
            go_meet
            exact ⟨false, rfl, ⟨⟨fun h => Bool.noConfusion h, fun h => absurd h.2 u2.out⟩⟩, HC6, HK6⟩
          ·have ua : decide ((M : Int) < (E : Int)) = false := decide_eq_false (by omega)
           have uan : decide (M < E) = false := decide_eq_false (by omega)
           clear f1 f2 f3 f4 f5 f0
           have u1 := Aside0.mk u1
           go_wp2_with fail
           go_meet
           exact ⟨false, rfl, ⟨⟨fun h => Bool.noConfusion h, fun h => absurd h.1 u1.out⟩⟩, HC6, HK6⟩
        case rest =>
         obtain ⟨u, rfl, HRu, HC6, HK6⟩ := hcut

         as_aux_lemma =>
          obtain ⟨f1, f2, f3, f4, f5, f0⟩ := HF.out
          have hq := HRu.out
          cases u with
          | true =>
           obtain ⟨q1, q2⟩ := hq.1 rfl
           have G3 := Aside0.mk (show 1 ≤ A2.length ∧ 1 ≤ B2.length by omega)
           clear f1 f2 f3 f4 f5 f0 q1 q2 hq
           go_wp2_with fail
           refine (HREC2.out S1 HS6.out.2.2 G3.out.1 G3.out.2 _ HC6.out).mono ?_
           rintro e w7 ⟨rfl, S2, hc7, hs7, he7, hl7, hk7⟩
           have HK7 := Aside0.mk (Kp.trans HK6.out hk7 (.inl rfl))
           have HC7 := Aside0.mk hc7
           have HS7 := Aside0.mk (And.intro hs7 (And.intro he7 hl7))
           clear hc7 hk7 hs7 he7 hl7
           go_wp2_with fail
           go_end0
           obtain ⟨n1, n2, n3⟩ := HEND.out S1 S2 HS6.out.1 HS7.out.1 HS6.out.2.1 HS7.out.2.1 HS6.out.2.2 HS7.out.2.2
           exact ⟨rfl, S1 ++ S2, by have h := HC7.out; simpa using h, n1, n2, n3, HK7.out⟩
          | false =>
           have q1 : ¬ (M < E ∧ E < b) := fun h => Bool.noConfusion (hq.2 h)
           have G3 := Aside0.mk (show ¬ (1 ≤ A2.length ∧ 1 ≤ B2.length) by omega)
           clear f1 f2 f3 f4 f5 f0 q1 hq
           go_wp2_with fail
           go_end0
           obtain ⟨n1, n2, n3⟩ := HEND.out S1 (A2 ++ B2) HS6.out.1 (HS2.out G3.out) HS6.out.2.1 (Ste.refl _) HS6.out.2.2 (List.length_append ..)
           exact ⟨rfl, S1 ++ (A2 ++ B2), by have h := HC6.out; simpa using h, n1, n2, n3, HK6.out⟩
end Go.Proofs.YtepgkimlmoikmaaGreat
