/- ShE: a part of its proof (contracts of the functions that it reaches, and the plain mathematics behind them). -/
import Derived.Test.YtdpkgjahcapleaaGreatShE37
import Derived.Test.YtdpkgjahcapleaaGreatShE42
set_option linter.unusedVariables false
set_option linter.unusedSimpArgs false
set_option linter.unusedVariables false
set_option linter.unusedSimpArgs false
namespace Go.Proofs.YtdpkgjahcapleaaGreat
open Go.RowKit Go.Proofs.YtdpkgjahcapleaaGreat.Spec Go.Proofs.YtdpkgjahcapleaaGreatW.PrintWords Go.Proofs.YtdpkgjahcapleaaGreatW.PrintLast
open Go.Proofs.YtdpkgjahcapleaaGreatW.PrintMore
attribute [local go_sem ↓] Go.wp_at_zero Go.wp_at_succ
attribute [local go_sem] max2_int min2_int max_two min_two
theorem frame_end (k : Nat) : frameR (endS 0) k = ⟨0, 0, 0, ⟨#[]⟩, 5, 0⟩ := by
  unfold frameR
  rw [if_neg (by decide), if_neg (by decide), if_neg (by decide), if_pos (by decide)]
  rfl
theorem ext_back (a b : ByteArray) : (a ++ b).extract a.size (a ++ b).size = b := by
  apply u_inj
  rw [u_ext, u_app]
  have h1 : (u a).length = a.size := u_size a
  have hz : (a ++ b).size = a.size + b.size := ByteArray.size_append ..
  rw [List.drop_append_of_le_length (by omega), List.drop_of_length_le (by omega), List.nil_append, List.take_of_length_le (by rw [u_size]; omega)]
theorem full_empty (l : List ByteArray) (q k : Nat) (hq : q ≤ 1) (hk : 1 ≤ k ∧ k ≤ 1024) : full l (headS q k (Idn l) ++ endS 0) = ⟨⟨#[]⟩, 22, 0, true⟩ := by
  obtain ⟨i1, i2⟩ := idn_is l
  have hz := headS_size q k (Idn l)
  have hez := endS_size 0
  have hs : (headS q k (Idn l) ++ endS 0).size = 22 := by rw [ByteArray.size_append, hz, hez]
  have hh : headR (headS q k (Idn l) ++ endS 0) = ⟨q, k, Idn l, 0⟩ := by rw [head_app _ _ (by omega), head_read q k (Idn l) hq hk i2]
  have hx : (headS q k (Idn l) ++ endS 0).extract 17 (headS q k (Idn l) ++ endS 0).size = endS 0 := by
    have := ext_back (headS q k (Idn l)) (endS 0)
    rw [hz] at this
    exact this
  rw [full_ok (by omega) (by rw [hh]) (by rw [hh]; exact i1), hh]
  have hf : frameR ((headS q k (Idn l) ++ endS 0).extract 17 (headS q k (Idn l) ++ endS 0).size) k = ⟨0, 0, 0, ⟨#[]⟩, 5, 0⟩ := by rw [hx]; exact frame_end k
  have := scan_end (l := l) (how := (q : Int)) (blk := k) (B := headS q k (Idn l) ++ endS 0) (a := 17) (out := ⟨#[]⟩) (by omega) (by rw [hf]) (by rw [hf]) (by rw [hf]; rfl)
  rw [hf, hs] at this
  exact this
def opsE : Nat → List (Int × ByteArray)
  | 0 => []
  | n + 1 => opsE n ++ [(2, ⟨#[]⟩), (1, ⟨#[]⟩)]
theorem opsE_len : ∀ n, (opsE n).length = 2 * n
  | 0 => rfl
  | n + 1 => by rw [opsE, List.length_append, opsE_len n]; rfl
theorem opsE_get : ∀ (n j : Nat) (o : Int × ByteArray), (opsE n)[j]? = some o → (j % 2 = 0 → o = (2, ⟨#[]⟩)) ∧ (j % 2 = 1 → o = (1, ⟨#[]⟩))
  | 0, j, o, h => by simp [opsE] at h
  | n + 1, j, o, h => by
    rw [opsE] at h
    rcases Nat.lt_or_ge j (opsE n).length with g | g
    · rw [List.getElem?_append_left g] at h
      exact opsE_get n j o h
    · rw [List.getElem?_append_right g] at h
      have hl := opsE_len n
      obtain ⟨i, hi⟩ : ∃ i, i = j - (opsE n).length := ⟨_, rfl⟩
      rw [← hi] at h
      match i, h, hi with
      | 0, h, hi => exact ⟨fun _ => (Option.some.inj h).symm, fun h2 => by omega⟩
      | 1, h, hi => exact ⟨fun h2 => by omega, fun _ => (Option.some.inj h).symm⟩
      | i + 2, h, hi => simp at h
def outE (H E : ByteArray) (m j : Nat) : ByteArray := if j = m then (if m = 0 then H ++ E else ⟨#[]⟩ ++ E) else if j = 0 then H else ⟨#[]⟩
theorem catE (H E : ByteArray) (m : Nat) : ∀ j, j ≤ m → catO (outE H E m) j = if j = 0 then ⟨#[]⟩ else H
  | 0, _ => rfl
  | j + 1, h => by
    rw [catO, catE H E m j (by omega), if_neg (show ¬ j + 1 = 0 by omega)]
    unfold outE
    rw [if_neg (show ¬ j = m by omega)]
    by_cases h0 : j = 0
    · rw [if_pos h0, if_pos h0, ba_nil_append]
    · rw [if_neg h0, if_neg h0, ba_append_nil]
theorem catE_all (H E : ByteArray) (m : Nat) : catO (outE H E m) (m + 1) = H ++ E := by
  rw [catO, catE H E m m (Nat.le_refl _)]
  unfold outE
  rw [if_pos rfl]
  by_cases h0 : m = 0
  · rw [if_pos h0, if_pos h0, ba_nil_append]
  · rw [if_neg h0, if_neg h0, ba_nil_append]
theorem outE_small (H E : ByteArray) (hH : H.size ≤ 17) (hE : E.size ≤ 5) (m j : Nat) (hj : j ≤ m) : (catO (outE H E m) j).size + (outE H E m j).size ≤ 100000000 := by
  have h1 : (catO (outE H E m) j).size ≤ 17 := by
    rw [catE H E m j hj]
    split
    · exact Nat.zero_le _
    · exact hH
  have h2 : (outE H E m j).size ≤ 22 := by
    unfold outE
    split
    · split
      · rw [ByteArray.size_append]; omega
      · rw [ByteArray.size_append]; show 0 + _ ≤ _; omega
    · split
      · omega
      · exact Nat.zero_le _
  omega
theorem stepsE {l : List ByteArray} {ad : Addr} {p q k wd : Nat} (hl : l.length ≤ 100) (hs : ∀ s ∈ l, s.size < 1000000) (hq : q ≤ 1) (hk : 1 ≤ k ∧ k ≤ 1024) (n : Nat) :
    Steps l (.pointer (some ad)) p q k wd (opsE n) (fun j W g => DicF g W (.pointer (some ad)) l ∧ EncAt W g (.pointer (some ad)) (if j = 0 then eNew p q k wd else ⟨p, q, k, wd, ⟨#[]⟩, 0, true, false⟩)) (outE (headS q k (Idn l)) (endS 0) (2 * n)) (2 * n) := by
  have hz := headS_size q k (Idn l)
  have hez := endS_size 0
  have first : ∀ W g, DicF g W (.pointer (some ad)) l → EncAt W g (.pointer (some ad)) (eNew p q k wd) → Calls Tryz.prog 40 #[.pointer (some ⟨g, 0, none⟩)] W fun x w' => x = .returned (.tuple #[.string (headS q k (Idn l)), .nilIface]) ∧ EncAt w' g (.pointer (some ad)) ⟨p, q, k, wd, ⟨#[]⟩, 0, true, false⟩ ∧ Mv g W w' := fun W g hd he => by
    have hb := ebegin_first he hd rfl hl hs rfl rfl hq hk
    dsimp only [eNew] at hb
    exact hb
  have again : ∀ W g, EncAt W g (.pointer (some ad)) ⟨p, q, k, wd, ⟨#[]⟩, 0, true, false⟩ → Calls Tryz.prog 40 #[.pointer (some ⟨g, 0, none⟩)] W fun x w' => x = .returned (.tuple #[.string ⟨#[]⟩, .nilIface]) ∧ EncAt w' g (.pointer (some ad)) ⟨p, q, k, wd, ⟨#[]⟩, 0, true, false⟩ ∧ Mv g W w' := fun W g h => by
    refine (ebegin_again h rfl rfl rfl).mono ?_
    rintro x W' ⟨rfl, rfl⟩
    exact ⟨rfl, h, Mv.refl _ _⟩
  have flushF := fun W g hd he => flush_zero (first W g hd he) rfl
  have flushA := fun W g he => flush_zero (again W g he) rfl
  refine ⟨by rw [opsE_len]; exact Nat.le_refl _, fun j o hj ho => ?_, fun o ho => ?_, fun W g hd he => ⟨hd, he⟩, fun j W W' g hi hb => ⟨hi.1.step (Mv.of hb), hi.2.below hb⟩, ?_, ?_, fun j o hj ho h1 h2 => ?_, ?_, fun j hj => outE_small _ _ (by omega) (by omega) _ _ hj⟩
  · obtain ⟨g1, g2⟩ := opsE_get n j o ho
    rcases (show j % 2 = 0 ∨ j % 2 = 1 by omega) with h | h
    · rw [g1 h]; decide
    · rw [g2 h]; decide
  · obtain ⟨h, _⟩ := List.getElem?_eq_some_iff.1 ho
    rw [opsE_len] at h
    omega
  · intro j b hj ho W g ⟨hd, he⟩
    obtain ⟨g1, g2⟩ := opsE_get n j _ ho
    have hj2 : j % 2 = 1 := by
      rcases (show j % 2 = 0 ∨ j % 2 = 1 by omega) with h | h
      · have := congrArg Prod.fst (g1 h); exact absurd (show (1 : Int) = 2 from this) (by decide)
      · exact h
    have hb : b = ⟨#[]⟩ := congrArg Prod.snd (g2 hj2)
    have hj0 : ¬ j = 0 := by omega
    rw [if_neg hj0] at he
    have ho2 : outE (headS q k (Idn l)) (endS 0) (2 * n) j = ⟨#[]⟩ := by unfold outE; rw [if_neg (by omega), if_neg hj0]
    rw [ho2]
    refine (write_zero (again W g he) hk.1 rfl (Nat.zero_le _) b (by rw [hb]; rfl)).mono ?_
    rintro x w' ⟨h1, h2, h3⟩
    exact ⟨h1, ⟨hd.step h3, by rw [if_neg (by omega)]; exact h2⟩, h3⟩
  · intro j b hj ho W g ⟨hd, he⟩
    by_cases hj0 : j = 0
    · rw [if_pos hj0] at he
      have ho2 : outE (headS q k (Idn l)) (endS 0) (2 * n) j = headS q k (Idn l) := by unfold outE; rw [if_neg (by omega), if_pos hj0]
      rw [ho2]
      refine (flushF W g hd he).mono ?_
      rintro x w' ⟨h1, h2, h3⟩
      exact ⟨h1, ⟨hd.step h3, by rw [if_neg (by omega)]; exact h2⟩, h3⟩
    · rw [if_neg hj0] at he
      have ho2 : outE (headS q k (Idn l)) (endS 0) (2 * n) j = ⟨#[]⟩ := by unfold outE; rw [if_neg (by omega), if_neg hj0]
      rw [ho2]
      refine (flushA W g he).mono ?_
      rintro x w' ⟨h1, h2, h3⟩
      exact ⟨h1, ⟨hd.step h3, by rw [if_neg (by omega)]; exact h2⟩, h3⟩
  · obtain ⟨g1, g2⟩ := opsE_get n j o ho
    rcases (show j % 2 = 0 ∨ j % 2 = 1 by omega) with h | h
    · exact absurd (by rw [g1 h]) h2
    · exact absurd (by rw [g2 h]) h1
  · intro W g ⟨hd, he⟩
    by_cases hm : 2 * n = 0
    · rw [if_pos hm] at he
      have ho2 : outE (headS q k (Idn l)) (endS 0) (2 * n) (2 * n) = headS q k (Idn l) ++ endS 0 := by unfold outE; rw [if_pos rfl, if_pos hm]
      rw [ho2]
      refine (close_any (flushF W g hd he) (Nat.zero_le _) (by omega)).mono ?_
      rintro x w' ⟨h1, h2, h3⟩
      exact ⟨h1, h3⟩
    · rw [if_neg hm] at he
      have ho2 : outE (headS q k (Idn l)) (endS 0) (2 * n) (2 * n) = ⟨#[]⟩ ++ endS 0 := by unfold outE; rw [if_pos rfl, if_neg hm]
      rw [ho2]
      refine (close_any (flushA W g he) (Nat.zero_le _) (by decide)).mono ?_
      rintro x w' ⟨h1, h2, h3⟩
      exact ⟨h1, h3⟩
set_option maxHeartbeats 2000000 in
set_option maxRecDepth 100000 in
theorem encode_empty {w : World} {l : List ByteArray} {p q k wd : Nat} {ad : Addr} (hd : DictAt w (.pointer (some ad)) l) (hl : l.length ≤ 100) (hs : ∀ s ∈ l, s.size < 1000000) (hc : cfgB p q k wd = true) :
    Calls Tryz.prog 26 #[.pointer (some ad), .agg #[.int .i64 (p : Int), .int .i64 (q : Int), .int .i64 (k : Int), .int .i64 (wd : Int)], .string ⟨#[]⟩] w fun e w' => e = .returned (.tuple #[.string (headS q k (Idn l) ++ endS 0), .nilIface]) ∧ Below w.heap.size w w' := by
  have HD := Aside0.mk hd
  obtain ⟨hp2, hq1, hk, hwd⟩ := cfg_bounds hc
  have HNE := Aside0.mk (fun W => newenc_yes (P := .pointer (some ad)) rfl p q k wd hc W)
  have HWR : Aside0 (∀ (W : World) (g : Nat), EncAt W g (.pointer (some ad)) (eNew p q k wd) → DicF g W (.pointer (some ad)) l → Calls Tryz.prog 16 #[.pointer (some ⟨g, 0, none⟩), .string ⟨#[]⟩] W fun x w' => x = .returned (.tuple #[.string (headS q k (Idn l)), .nilIface]) ∧ EncAt w' g (.pointer (some ad)) ⟨p, q, k, wd, ⟨#[]⟩, 0, true, false⟩ ∧ Mv g W w') := ⟨fun W g h hdi => by
    have hb := ebegin_first h hdi rfl hl hs rfl rfl hq1 hk
    dsimp only [eNew] at hb
    exact write_zero hb hk.1 rfl (Nat.zero_le _) ⟨#[]⟩ rfl⟩
  have HCL : Aside0 (∀ (W : World) (g : Nat), EncAt W g (.pointer (some ad)) ⟨p, q, k, wd, ⟨#[]⟩, 0, true, false⟩ → Calls Tryz.prog 18 #[.pointer (some ⟨g, 0, none⟩)] W fun x w' => x = .returned (.tuple #[.string (⟨#[]⟩ ++ endS 0), .nilIface]) ∧ Mv g W w') := ⟨fun W g h => by
    have again : Calls Tryz.prog 40 #[.pointer (some ⟨g, 0, none⟩)] W fun x w' => x = .returned (.tuple #[.string ⟨#[]⟩, .nilIface]) ∧ EncAt w' g (.pointer (some ad)) ⟨p, q, k, wd, ⟨#[]⟩, 0, true, false⟩ ∧ Mv g W w' := by
      refine (ebegin_again h rfl rfl rfl).mono ?_
      rintro x W' ⟨rfl, rfl⟩
      exact ⟨rfl, h, Mv.refl _ _⟩
    refine (close_any (flush_zero again rfl) (Nat.zero_le _) (by decide)).mono ?_
    rintro x w' ⟨h1, h2, h3⟩
    exact ⟨h1, h3⟩⟩
  have hez := endS_size 0
  have hhz := headS_size q k (Idn l)
  have hne : (⟨#[]⟩ : ByteArray) ++ endS 0 = endS 0 := ba_nil_append _
  rw [hne] at HCL
  generalize endS 0 = x3 at *
  have HX : Aside0 (headS q k (Idn l) ++ x3 = headS q k (Idn l) ++ x3) := ⟨rfl⟩
  have u1 : ¬ 9223372036854775807 < (headS q k (Idn l)).size + x3.size := by omega
  clear hd hl hs hc hp2 hq1 hk hwd hez hhz hne
  go_enter Tryz.func26, Tryz.ntmps26
  go_wp2_with fail
  refine (HNE.out _).mono ?_
  rintro x w1 ⟨g, rfl, he1, hb1, hg1⟩
  have HE1 := Aside0.mk he1
  have HB1 := Aside0.mk (below_step ((Below.refl w.heap.size w).alloc (Nat.le_refl _) _) hb1)
  have HG1 := Aside0.mk (show w.heap.size ≤ g by simp at hg1; omega)
  clear he1 hb1 hg1
  go_wp2_with fail
  refine (HWR.out _ g HE1.out (DicF.of HD.out HB1.out HG1.out)).mono ?_
  rintro x w2 ⟨rfl, he2, hm2⟩
  have HE2 := Aside0.mk he2
  have HB2 := Aside0.mk (hm2.low HB1.out HG1.out)
  clear he2 hm2
  go_wp2_with fail
  refine (HCL.out _ g HE2.out).mono ?_
  rintro x w3 ⟨rfl, hm3⟩
  have HB3 := Aside0.mk (hm3.low HB2.out HG1.out)
  clear hm3
  go_wp2_with fail
  go_ret2
  exact ⟨rfl, HB3.out⟩
end Go.Proofs.YtdpkgjahcapleaaGreat
