/- ShU: a part of its proof (contracts of the functions that it reaches, and the plain mathematics behind them). -/
import Derived.Test.YtepgkimlmoikmaaGreatShU27
set_option linter.unusedVariables false
set_option linter.unusedSimpArgs false
set_option maxHeartbeats 2000000
set_option maxRecDepth 100000
set_option linter.unusedVariables false
set_option linter.unusedSimpArgs false
namespace Go.Proofs.YtepgkimlmoikmaaGreat
open Go.RowKit Go.Proofs.YtepgkimlmoikmaaGreat.Spec Go.Proofs.YtepgkimlmoikmaaGreatW.PrintWords Go.Proofs.YtepgkimlmoikmaaGreatW.PrintLast
open Go.Proofs.YtepgkimlmoikmaaGreatW.PrintMore
attribute [local go_sem ↓] Go.wp_at_zero Go.wp_at_succ
theorem idx_last {P A Q : List Coin} {y : Coin} : (P ++ (A ++ ([y] ++ Q)))[P.length + A.length]? = some y := by
 rw [List.getElem?_append_right (by omega), Nat.add_sub_cancel_left, List.getElem?_append_right (by omega), Nat.sub_self]
 rfl
theorem sym_last {f : FuncId} (HCM : Cmp f) {g n cap a m b : Nat} (P A Q : List Coin) (y : Coin) (ha : a = P.length) (hm : m = P.length + A.length) (hb : b = P.length + A.length + 1) (hn : n = P.length + A.length + 1 + Q.length) (hs : n ≤ 100000) (hA : Srt A) (hA2 : 2 ≤ A.length) (hsm : SmC (y :: A)) {w : World} (h : Cn w g (P ++ (A ++ ([y] ++ Q)))) :
  Calls Tryz.prog 230 #[.slice (some ⟨g, 0, none⟩) n cap, .int .i64 (a : Int), .int .i64 (m : Int), .int .i64 (b : Int), .func (.func f) #[] #[]] w fun e w' => e = .returned (.tuple #[]) ∧ ∃ S', Cn w' g (P ++ (S' ++ Q)) ∧ Srt S' ∧ Ste (A ++ [y]) S' ∧ S'.length = A.length + 1 ∧ Kp w w' g none := by
 have H := Aside0.mk h
 have HX := Aside0.mk (And.intro ha (And.intro hm (And.intro hb (And.intro hn (And.intro hs hsm)))))
 have HSA := Aside0.mk hA
 have eg := HCM.eg
 have HC := Aside0.mk HCM
 have z1 : (a : Int) ≤ 100000 := by omega
 have z2 : (m : Int) ≤ 100000 := by omega
 have z3 : (b : Int) ≤ 100000 := by omega
 have d1 : ((m : Int) - (a : Int) == 1) = false := beq_eq_false_iff_ne.2 (by omega)
 have d2 : ((b : Int) - (m : Int) == 1) = true := beq_iff_eq.2 (by omega)
 clear h ha hm hb hn hs hsm HCM hA hA2
 go_enter Tryz.func230, Tryz.ntmps230
 go_wp2_with fail
 go_loopw [14, 15] (fun v14 v15 wr => ∃ (i j : Nat), v14 = .int .i64 (i : Int) ∧ v15 = .int .i64 (j : Int) ∧ Aside0 (a ≤ i ∧ i ≤ j ∧ j ≤ m) ∧ Aside0 (∀ k z, a + k < i → A[k]? = some z → z.1 ≤ y.1) ∧ Aside0 (∀ k z, j ≤ a + k → A[k]? = some z → y.1 < z.1) ∧ Aside0 (Cn wr g (P ++ (A ++ ([y] ++ Q)))) ∧ Aside0 (Kp w wr g none)) (fun v14 v15 _ => (intOf v15).toNat - (intOf v14).toNat)
 case atStart =>
  obtain ⟨x1, x2, x3, x4, x5, x6⟩ := HX.out
  refine ⟨a, m, rfl, rfl, ⟨by omega⟩, ⟨fun k z hk _ => by omega⟩, ⟨fun k z hk hz => ?_⟩, H, ⟨Kp.refl _ _ _⟩⟩
  obtain ⟨hk2, _⟩ := List.getElem?_eq_some_iff.1 hz
  omega
 case round =>
  obtain ⟨i, j, rfl, rfl, HI, HL, HG, HCn, HK⟩ := hrel
  obtain ⟨x1, x2, x3, x4, x5, x6⟩ := HX.out
  obtain ⟨i1, i2, i3⟩ := HI.out
  by_cases hij : i < j
  ·have dt : decide ((i : Int) < (j : Int)) = true := decide_eq_true (by omega)
   have dt' : decide (i < j) = true := decide_eq_true hij
   obtain ⟨t, ht⟩ : ∃ t : Nat, a + t = (i + j) / 2 := ⟨(i + j) / 2 - a, by omega⟩
   obtain ⟨hh, hhe⟩ : ∃ hh : Nat, hh = a + t := ⟨_, rfl⟩
   have htb : t < A.length := by omega
   obtain ⟨z, hz⟩ : ∃ z, A[t]? = some z := ⟨_, List.getElem?_eq_getElem htb⟩
   have hc := HCn.out
   have gU : (P ++ (A ++ ([y] ++ Q)))[m]? = some y := by
    rw [x2]
    exact idx_last
   have gV : (P ++ (A ++ ([y] ++ Q)))[hh]? = some z := by
    rw [hhe, x1]
    exact idx_A hz
   have HCL := Aside0.mk (fun W => HC.out.calls y z (x6 y (List.mem_cons_self ..)) (x6 z (List.mem_cons_of_mem _ (List.mem_of_getElem? hz))) W)
   have zi : (i : Int) ≤ 100000 := by omega
   have zj : (j : Int) ≤ 100000 := by omega
   have zh : (hh : Int) ≤ 100000 := by omega
   have q1 : (0 : Int) ≤ (hh : Int) := by omega
   have q2 : (hh : Int) < (n : Int) := by omega
   have q3 : (0 : Int) ≤ (m : Int) := by omega
   have q4 : (m : Int) < (n : Int) := by omega
   have qh : ((i : Int) + (j : Int)) / 2 = (hh : Int) := by omega
   have HT := Aside0.mk (And.intro ht (And.intro hhe (And.intro hij hz)))
   clear x1 x2 x3 x4 x5 x6 i1 i2 i3 hij ht hhe htb hz
   have k1 := hc.get0 gU
   have k2 := hc.get1 gU
   have k3 := hc.get0 gV
   have k4 := hc.get1 gV
   have HC3 := Aside0.mk hc
   clear hc gU gV
   go_wp2_with fail
   go_region_held3 (fun w' => w'.cell? ⟨g, m * 2, none⟩ = some (.int .i64 y.1) ∧ w'.cell? ⟨g, m * 2 + 1, none⟩ = some (.slice y.2.1 y.2.2.1 y.2.2.2) ∧ w'.cell? ⟨g, hh * 2, none⟩ = some (.int .i64 z.1) ∧ w'.cell? ⟨g, hh * 2 + 1, none⟩ = some (.slice z.2.1 z.2.2.1 z.2.2.2))
    (first | go_keep | exact ⟨pw_cell_below hb4 (by assumption), pw_cell_below hb4 (by assumption), pw_cell_below hb4 (by assumption), pw_cell_below hb4 (by assumption)⟩)
    (first | (refine (HCL.out _).mono ?_; rintro e w4 ⟨rfl, hb4⟩))
   have HC4 := Aside0.mk (Cn.below (Cn.drew HC3.out) hb4)
   have HK4 : Aside0 (Kp w w4 g none) := ⟨(kp_drew HK.out).trans (Kp.of_below hb4 _ _) (.inl rfl)⟩
   clear hb4 k1 k2 k3 k4
   by_cases hxy : y.1 < z.1
   ·have dd : decide (y.1 - z.1 < 0) = true := decide_eq_true (by omega)
    go_wp2_with fail
    ·exfalso
     rename_i hq
     rw [dd] at hq
     cases hq
    ·go_roundw
     case rel =>
      obtain ⟨ht, hhe, hij, hz⟩ := HT.out
      obtain ⟨i1, i2, i3⟩ := HI.out
      refine ⟨i, hh, rfl, rfl, ⟨by omega⟩, HL, ⟨fun k v hk hv => ?_⟩, HC4, HK4⟩
      have h1 := srt_get HSA.out (show t ≤ k by omega) hz hv
      omega
     case measure =>
      obtain ⟨ht, hhe, hij, hz⟩ := HT.out
      show (hh : Int).toNat - (i : Int).toNat < (j : Int).toNat - (i : Int).toNat
      omega
   ·have dd : decide (y.1 - z.1 < 0) = false := decide_eq_false (by omega)
    go_wp2_with fail
    ·go_roundw
     case rel =>
      obtain ⟨ht, hhe, hij, hz⟩ := HT.out
      obtain ⟨i1, i2, i3⟩ := HI.out
      refine ⟨hh + 1, j, rfl, rfl, ⟨by omega⟩, ⟨fun k v hk hv => ?_⟩, HG, HC4, HK4⟩
      have h1 := srt_get HSA.out (show k ≤ t by omega) hv hz
      omega
     case measure =>
      obtain ⟨ht, hhe, hij, hz⟩ := HT.out
      show (j : Int).toNat - ((hh : Int) + 1).toNat < (j : Int).toNat - (i : Int).toNat
      omega
    ·exfalso
     rename_i hq
     rw [dd] at hq
     cases hq
  ·have hie : i = j := by omega
   subst hie
   have dt : decide ((i : Int) < (i : Int)) = false := decide_eq_false (by omega)
   obtain ⟨t, ht⟩ : ∃ t : Nat, i = a + t := ⟨i - a, by omega⟩
   have htb : t ≤ A.length := by omega
   obtain ⟨hcl, hcg⟩ := cut_more (B := A) (x := y) (t := t) (fun k z hk hz => HL.out k z (by omega) hz) (fun k z hk hz => HG.out k z (by omega) hz)
   have hA : A = A.take t ++ A.drop t := (List.take_append_drop _ _).symm
   have hl1 : (A.take t).length = t := by rw [List.length_take]; omega
   have hsa := HSA.out
   have hc := HCn.out
   generalize A.take t = A1 at *
   generalize A.drop t = A2 at *
   have HFIN : Aside0 (Srt (A1 ++ y :: A2) ∧ Ste (A ++ [y]) (A1 ++ y :: A2) ∧ (A1 ++ y :: A2).length = A.length + 1) := ⟨by
    rw [hA] at hsa
    refine ⟨srt_put hsa (fun z hz => Int.le_of_lt (hcg z hz)) hcl, ?_, by rw [hA]; simp; omega⟩
    have h1 : Ste (A2 ++ [y]) ([y] ++ A2) := Ste.swap (fun p hp q hq => by rw [List.mem_singleton.1 hq]; have := hcg p hp; omega)
    have h2 := (Ste.refl A1).app h1
    rw [hA]
    simpa using h2⟩
   rw [hA] at hc
   have HC1 : Aside0 (Cn wr g (P ++ (A1 ++ (A2 ++ y :: ([] ++ Q))))) := ⟨by simpa using hc⟩
   have HT := Aside0.mk (And.intro ht hl1)
   have HAA := Aside0.mk (congrArg List.length hA)
   have z4 : (i : Int) ≤ 100000 := by omega
   have z5 : (0 : Int) ≤ (i : Int) := by omega
   clear x1 x2 x3 x4 x5 x6 i1 i2 i3 hij ht htb hcl hcg hA hl1 hsa hc HL HG
   go_wp2_with fail
   go_loopw [17] (fun v17 wq => ∃ (C1 C2 : List Coin), v17 = .int .i64 ((i + C1.length : Nat) : Int) ∧ Aside0 (A2 = C1 ++ C2) ∧ Aside0 (Cn wq g (P ++ (A1 ++ (C1 ++ y :: (C2 ++ Q))))) ∧ Aside0 (Kp w wq g none)) (fun v17 _ => (intOf v17).toNat)
   case atStart =>
    refine ⟨A2, [], congrArg (Value.int .i64) ?_, ⟨(List.append_nil _).symm⟩, HC1, HK⟩
    obtain ⟨x1, x2, x3, x4, x5, x6⟩ := HX.out
    obtain ⟨t1, t2⟩ := HT.out
    have hal := HAA.out
    rw [List.length_append] at hal
    omega
   case round =>
    obtain ⟨C1, C2, rfl, HA1, HC2, HK2⟩ := hrel
    obtain ⟨J, hJ⟩ : ∃ J, J = i + C1.length := ⟨_, rfl⟩
    rw [← hJ]
    obtain ⟨x1, x2, x3, x4, x5, x6⟩ := HX.out
    obtain ⟨t1, t2⟩ := HT.out
    have l1 := congrArg List.length HA1.out
    rw [List.length_append] at l1
    have hal := HAA.out
    rw [List.length_append] at hal
    rcases List.eq_nil_or_concat C1 with rfl | ⟨D1, z, hD⟩
    ·rw [List.length_nil] at l1 hJ
     have dq : decide ((i : Int) < (J : Int)) = false := decide_eq_false (by omega)
     have dq' : decide (i < J) = false := decide_eq_false (by omega)
     have u1 : (J : Int) ≤ (i : Int) := by omega
     clear x1 x2 x3 x4 x5 x6 t1 t2 l1 hal hJ
     go_wp2
     ((try simp only [Exit.inBlock, Exit.then]); refine bodyPost_ret (results_none rfl _ _ _) rfl ?_)
     have h1 := HA1.out
     rw [List.nil_append] at h1
     have hc := HC2.out
     rw [← h1, List.nil_append] at hc
     refine ⟨rfl, A1 ++ y :: A2, by simpa using hc, HFIN.out.1, HFIN.out.2.1, HFIN.out.2.2, HK2.out⟩
    ·rw [List.concat_eq_append] at hD
     subst hD
     rw [List.length_append, List.length_singleton] at l1 hJ
     have dq : decide ((i : Int) < (J : Int)) = true := decide_eq_true (by omega)
     have dq' : decide (i < J) = true := decide_eq_true (by omega)
     have u1 : (i : Int) < (J : Int) := by omega
     obtain ⟨I, hI⟩ : ∃ I, I = i + D1.length := ⟨_, rfl⟩
     have hc : Cn wr g ((P ++ A1 ++ D1) ++ z :: ([] ++ y :: (C2 ++ Q))) := by simpa using HC2.out
     have hi : I = (P ++ A1 ++ D1).length := by rw [List.length_append, List.length_append]; omega
     have hj : J = (P ++ A1 ++ D1).length + 1 + ([] : List Coin).length := by rw [List.length_append, List.length_append, List.length_nil]; omega
     have gU : ((P ++ A1 ++ D1) ++ z :: ([] ++ y :: (C2 ++ Q)))[I]? = some z := by rw [hi]; exact at_mid _ _ _
     have gV : ((P ++ A1 ++ D1) ++ z :: ([] ++ y :: (C2 ++ Q)))[J]? = some y := by
      have := at_mid ((P ++ A1 ++ D1) ++ [z]) (C2 ++ Q) y
      rw [List.length_append, List.length_singleton, List.append_assoc] at this
      rw [hj]
      exact this
     have c1 := hc.get0 gU
     have c2 := hc.get1 gU
     have c3 := hc.get0 gV
     have c4 := hc.get1 gV
     have f1 := hc.fz (I * 2)
     have f2 := hc.fz (I * 2 + 1)
     have f3 := hc.fz (J * 2)
     have f4 := hc.fz (J * 2 + 1)
     have n1 : I * 2 ≠ J * 2 := by omega
     have n2 : I * 2 ≠ J * 2 + 1 := by omega
     have n3 : I * 2 + 1 ≠ J * 2 := by omega
     have n4 : J * 2 ≠ I * 2 := by omega
     have n5 : J * 2 ≠ I * 2 + 1 := by omega
     have n6 : J * 2 + 1 ≠ I * 2 := by omega
     have HC3 := Aside0.mk hc
     have HIJ := Aside0.mk (And.intro hi (And.intro hj (And.intro hI hJ)))
     have zJ : (J : Int) ≤ 100000 := by omega
     have q1 : (0 : Int) ≤ (J : Int) := by omega
     have q2 : (J : Int) < (n : Int) := by omega
     have q3 : (0 : Int) ≤ (J : Int) - 1 := by omega
     have q3' : (1 : Int) ≤ (J : Int) := by omega
     have q4 : (J : Int) - 1 < (n : Int) := by omega
     have q5 : ((J : Int) - 1).toNat = I := by omega
     have q6 : IntKind.i64.wrap ((J : Int) - 1) = (J : Int) - 1 := IntWalk.i64_in _ (by omega)
     clear x1 x2 x3 x4 x5 x6 t1 t2 l1 hal hI hJ hc hi hj gU gV
     go_wp2_with fail
     go_region
     clear q1 q2 q3 q4 q5 q6 n1 n2 n3 n4 n5 n6 c1 c2 c3 c4 f1 f2 f3 f4
     go_wp2_with fail
     go_roundw
     case rel =>
      have hc := Cn.swapR HC3.out HIJ.out.1 HIJ.out.2.1
      refine ⟨D1, z :: C2, congrArg (Value.int .i64) (by have := HIJ.out.2.2; omega), ⟨by have h := HA1.out; rw [List.append_assoc] at h; exact h⟩, ⟨by simpa using hc⟩, ⟨kp_swap HK2.out⟩⟩
     case measure =>
      have h := q3'
      show ((J : Int) - 1).toNat < (J : Int).toNat
      omega
end Go.Proofs.YtepgkimlmoikmaaGreat
set_option linter.unusedVariables false
set_option linter.unusedSimpArgs false
namespace Go.Proofs.YtepgkimlmoikmaaGreat
open Go.RowKit Go.Proofs.YtepgkimlmoikmaaGreat.Spec Go.Proofs.YtepgkimlmoikmaaGreatW.PrintWords Go.Proofs.YtepgkimlmoikmaaGreatW.PrintLast
open Go.Proofs.YtepgkimlmoikmaaGreatW.PrintMore
theorem sym_law {A1 A2 B1 B2 S1 S2 : List Coin} (hA : Srt (A1 ++ A2)) (hB : Srt (B1 ++ B2)) (h21 : ∀ u ∈ A2, ∀ v ∈ B1, v.1 < u.1) (h12 : ∀ u ∈ A1, ∀ v ∈ B2, u.1 ≤ v.1) (s1 : Srt S1) (s2 : Srt S2) (e1 : Ste (A1 ++ B1) S1) (e2 : Ste (A2 ++ B2) S2) :
  Srt (S1 ++ S2) ∧ Ste ((A1 ++ A2) ++ (B1 ++ B2)) (S1 ++ S2) := by
 obtain ⟨_, _, hAA⟩ := srt_app.1 hA
 obtain ⟨_, _, hBB⟩ := srt_app.1 hB
 refine ⟨srt_app.2 ⟨s1, s2, fun u hu v hv => ?_⟩, ?_⟩
 ·rcases List.mem_append.1 (e1.mem hu) with g1 | g1 <;> rcases List.mem_append.1 (e2.mem hv) with g2 | g2
  ·exact hAA u g1 v g2
  ·exact h12 u g1 v g2
  ·exact Int.le_of_lt (h21 v g2 u g1)
  ·exact hBB u g1 v g2
 ·have h1 : Ste (A2 ++ B1) (B1 ++ A2) := Ste.swap (fun p hp q hq => by have := h21 p hp q hq; omega)
  have h2 := ((Ste.refl A1).app h1).app (Ste.refl B2)
  have h3 := e1.app e2
  have h4 : (A1 ++ A2) ++ (B1 ++ B2) = A1 ++ (A2 ++ B1) ++ B2 := by simp
  have h5 : A1 ++ (B1 ++ A2) ++ B2 = (A1 ++ B1) ++ (A2 ++ B2) := by simp
  rw [h4]
  refine h2.trans ?_
  rw [h5]
  exact h3
theorem sym_cut {A B : List Coin} (hA : Srt A) (hB : Srt B) {s u : Nat} (h2 : s ≤ A.length) (h3 : u - s ≤ B.length)
  (hlow : ∀ t z y, t < s → A[t]? = some z → B[u - 1 - t]? = some y → z.1 ≤ y.1) (hhigh : ∀ t z y, s ≤ t → t < u → A[t]? = some z → B[u - 1 - t]? = some y → y.1 < z.1) (hsu : s ≤ u) :
  (∀ p ∈ A.drop s, ∀ q ∈ B.take (u - s), q.1 < p.1) ∧ (∀ p ∈ A.take s, ∀ q ∈ B.drop (u - s), p.1 ≤ q.1) := by
 constructor
 ·intro p hp q hq
  obtain ⟨k, hk⟩ := List.getElem?_of_mem hp
  obtain ⟨k2, hk2⟩ := List.getElem?_of_mem hq
  rw [List.getElem?_drop] at hk
  rw [List.getElem?_take] at hk2
  split at hk2
  ·rename_i hlt
   obtain ⟨g1, _⟩ := List.getElem?_eq_some_iff.1 hk
   obtain ⟨z0, hz0⟩ : ∃ z0, A[s]? = some z0 := ⟨_, List.getElem?_eq_getElem (show s < A.length by omega)⟩
   obtain ⟨y0, hy0⟩ : ∃ y0, B[u - 1 - s]? = some y0 := ⟨_, List.getElem?_eq_getElem (show u - 1 - s < B.length by omega)⟩
   have a1 := hhigh s z0 y0 (Nat.le_refl _) (by omega) hz0 hy0
   have a2 := srt_get hA (show s ≤ s + k by omega) hz0 hk
   have a3 := srt_get hB (show k2 ≤ u - 1 - s by omega) hk2 hy0
   omega
  ·cases hk2
 ·intro p hp q hq
  obtain ⟨k, hk⟩ := List.getElem?_of_mem hp
  obtain ⟨k2, hk2⟩ := List.getElem?_of_mem hq
  rw [List.getElem?_take] at hk
  rw [List.getElem?_drop] at hk2
  split at hk
  ·rename_i hlt
   obtain ⟨g2, _⟩ := List.getElem?_eq_some_iff.1 hk2
   obtain ⟨z0, hz0⟩ : ∃ z0, A[s - 1]? = some z0 := ⟨_, List.getElem?_eq_getElem (show s - 1 < A.length by omega)⟩
   obtain ⟨y0, hy0⟩ : ∃ y0, B[u - s]? = some y0 := ⟨_, List.getElem?_eq_getElem (show u - s < B.length by omega)⟩
   have a1 := hlow (s - 1) z0 y0 (by omega) hz0 (by rw [show u - 1 - (s - 1) = u - s by omega]; exact hy0)
   have a2 := srt_get hA (show k ≤ s - 1 by omega) hk hz0
   have a3 := srt_get hB (show u - s ≤ u - s + k2 by omega) hy0 hk2
   omega
  ·cases hk
theorem sym_up {A B : List Coin} (hA : Srt A) (hB : Srt B) {t0 u : Nat} {z0 y0 : Coin} (hz : A[t0]? = some z0) (hy : B[u - 1 - t0]? = some y0) (h : z0.1 ≤ y0.1) : ∀ t z y, t < t0 + 1 → A[t]? = some z → B[u - 1 - t]? = some y → z.1 ≤ y.1 := by
 intro t z y ht h1 h2
 have a1 := srt_get hA (show t ≤ t0 by omega) h1 hz
 have a2 := srt_get hB (show u - 1 - t0 ≤ u - 1 - t by omega) hy h2
 omega
theorem sym_dn {A B : List Coin} (hA : Srt A) (hB : Srt B) {t0 u : Nat} {z0 y0 : Coin} (hz : A[t0]? = some z0) (hy : B[u - 1 - t0]? = some y0) (h : y0.1 < z0.1) : ∀ t z y, t0 ≤ t → t < u → A[t]? = some z → B[u - 1 - t]? = some y → y.1 < z.1 := by
 intro t z y ht htu h1 h2
 have a1 := srt_get hA ht hz h1
 have a2 := srt_get hB (show u - 1 - t ≤ u - 1 - t0 by omega) h2 hy
 omega
end Go.Proofs.YtepgkimlmoikmaaGreat
