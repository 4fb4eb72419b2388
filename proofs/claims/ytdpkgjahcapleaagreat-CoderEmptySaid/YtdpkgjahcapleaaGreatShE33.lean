/- ShE: a part of its proof (contracts of the functions that it reaches, and the plain mathematics behind them). -/
import Derived.Test.YtdpkgjahcapleaaGreatShE32
set_option linter.unusedVariables false
set_option linter.unusedSimpArgs false
set_option linter.unusedVariables false
set_option linter.unusedSimpArgs false
namespace Go.Proofs.YtdpkgjahcapleaaGreat
open Go.RowKit Go.Proofs.YtdpkgjahcapleaaGreat.Spec Go.Proofs.YtdpkgjahcapleaaGreatW.PrintWords Go.Proofs.YtdpkgjahcapleaaGreatW.PrintLast
open Go.Proofs.YtdpkgjahcapleaaGreatW.PrintMore
attribute [local go_sem ↓] Go.wp_at_zero Go.wp_at_succ
attribute [local go_sem] max2_int min2_int max_two min_two
namespace Spec
def full (l : List ByteArray) (B : ByteArray) : Sc :=
  if B.size < 17 then ⟨⟨#[]⟩, 0, 0, false⟩
  else if (headR B).e ≠ 0 then ⟨⟨#[]⟩, 0, (headR B).e, false⟩
  else if ((headR B).id : Int) ≠ Idv l then ⟨⟨#[]⟩, 0, 6, false⟩
  else scanF l (headR B).c (headR B).k B 17 ⟨#[]⟩
def dOk (l : List ByteArray) (B : ByteArray) : D :=
  if B.size < 17 then ⟨0, 0, 0, false, false, B, 0, 0, 0, 0⟩
  else ⟨(headR B).c, (headR B).k, (headR B).id, true, (full l B).done, B.extract (full l B).at_ B.size, (full l B).at_, (full l B).out.size, 0, 0⟩
def Rel (l : List ByteArray) (B : ByteArray) (d : D) : Prop := ((full l B).code = 0 → d = dOk l B) ∧ ((full l B).code ≠ 0 → d.ec = (full l B).code ∧ d.ea = (full l B).at_ ∧ d.held = ⟨#[]⟩)
structure Going (l : List ByteArray) (B : ByteArray) (d : D) (out : ByteArray) : Prop where
  ec : d.ec = 0
  ea : d.ea = 0
  le : d.at_ ≤ B.size
  held : d.held = B.extract d.at_ B.size
  told : d.told = out.size
  bound : out.size ≤ 1024 * d.at_
  st : (d.begun = false ∧ d.done = false ∧ d.at_ = 0 ∧ out = ⟨#[]⟩ ∧ d.hc = 0 ∧ d.hk = 0 ∧ d.hid = 0) ∨
    (d.begun = true ∧ 17 ≤ B.size ∧ (headR B).e = 0 ∧ ((headR B).id : Int) = Idv l ∧ d.hc = (headR B).c ∧ d.hk = (headR B).k ∧ d.hid = (headR B).id ∧
      ((d.done = false ∧ full l B = scanF l (headR B).c (headR B).k B d.at_ out) ∨ (d.done = true ∧ full l B = ⟨out, d.at_, if d.at_ < B.size then 13 else 0, true⟩)))
end Spec
theorem head_c (B : ByteArray) : (headR B).c ≤ 1 ∧ (headR B).k ≤ 1024 := by
  unfold headR
  split
  · exact ⟨Nat.zero_le _, Nat.zero_le _⟩
  · split
    · exact ⟨Nat.zero_le _, Nat.zero_le _⟩
    · split
      · exact ⟨Nat.zero_le _, Nat.zero_le _⟩
      · split
        · exact ⟨Nat.zero_le _, Nat.zero_le _⟩
        · rename_i h1 h2 h3
          exact ⟨by show byteAt B 5 ≤ 1; omega, by show ofB (u (B.extract 6 9)) ≤ 1024; omega⟩
theorem head_ne2 {B : ByteArray} (h : 17 ≤ B.size) : (headR B).e ≠ 2 := by
  unfold headR
  rw [if_neg (by omega)]
  split
  · exact show ¬ (3 : Nat) = 2 by decide
  · split
    · exact show ¬ (8 : Nat) = 2 by decide
    · split
      · exact show ¬ (4 : Nat) = 2 by decide
      · exact show ¬ (0 : Nat) = 2 by decide
theorem ext_zero (b : ByteArray) : b.extract 0 b.size = b := by
  apply u_inj
  rw [u_ext, List.drop_zero, List.take_of_length_le (by rw [u_size]; omega)]
theorem ext_ext (b : ByteArray) (i j : Nat) (h : i + j ≤ b.size) : (b.extract i b.size).extract j (b.extract i b.size).size = b.extract (i + j) b.size := by
  apply u_inj
  have h1 : (List.drop i (u b)).take (b.size - i) = List.drop i (u b) := List.take_of_length_le (by rw [List.length_drop, u_size]; omega)
  have h2 : (List.drop (i + j) (u b)).take (b.size - (i + j)) = List.drop (i + j) (u b) := List.take_of_length_le (by rw [List.length_drop, u_size]; omega)
  have h3 : (List.drop (i + j) (u b)).take (b.size - i - j) = List.drop (i + j) (u b) := List.take_of_length_le (by rw [List.length_drop, u_size]; omega)
  rw [u_ext, u_ext, u_ext, ext_sz b i b.size (Nat.le_refl _), h1, h2, List.drop_drop, h3]
theorem grow_bound {out s : ByteArray} {a n : Nat} (h : out.size ≤ 1024 * a) (h1 : s.size ≤ 1024) (h5 : 5 ≤ n) : (out ++ s).size ≤ 1024 * (a + n) := by rw [ByteArray.size_append]; omega
theorem step_held {d : D} {B : ByteArray} {n : Nat} (h : d.held = B.extract d.at_ B.size) (h1 : d.at_ + n ≤ B.size) (h5 : 5 ≤ n) : d.held.extract n d.held.size = B.extract (d.at_ + n) B.size ∧ (d.held.extract n d.held.size).size < d.held.size := by
  constructor
  · rw [h, ext_ext _ _ _ h1]
  · rw [ext_sz _ _ _ (Nat.le_refl _), h, ext_sz _ _ _ (Nat.le_refl _)]; omega
theorem ext_more (b c : ByteArray) (i : Nat) (h : i ≤ b.size) : b.extract i b.size ++ c = (b ++ c).extract i (b ++ c).size := by
  apply u_inj
  have hz : (b ++ c).size = b.size + c.size := ByteArray.size_append ..
  rw [u_app, u_ext, u_ext, u_app, hz, List.drop_append_of_le_length (by rw [u_size]; omega), List.take_of_length_le (by rw [List.length_drop, u_size]; omega), List.take_of_length_le (by rw [List.length_append, List.length_drop, u_size, u_size]; omega)]
section
variable {l : List ByteArray} {B : ByteArray}
theorem full_short (h : B.size < 17) : full l B = ⟨⟨#[]⟩, 0, 0, false⟩ := by unfold full; rw [if_pos h]
theorem full_bad (h : 17 ≤ B.size) (he : (headR B).e ≠ 0) : full l B = ⟨⟨#[]⟩, 0, (headR B).e, false⟩ := by unfold full; rw [if_neg (by omega), if_pos he]
theorem full_id (h : 17 ≤ B.size) (he : (headR B).e = 0) (hi : ((headR B).id : Int) ≠ Idv l) : full l B = ⟨⟨#[]⟩, 0, 6, false⟩ := by unfold full; rw [if_neg (by omega), if_neg (fun n => n he), if_pos hi]
theorem full_ok (h : 17 ≤ B.size) (he : (headR B).e = 0) (hi : ((headR B).id : Int) = Idv l) : full l B = scanF l (headR B).c (headR B).k B 17 ⟨#[]⟩ := by unfold full; rw [if_neg (by omega), if_neg (fun n => n he), if_neg (fun n => n hi)]
theorem rel_err {d : D} (h : Rel l B d) : errV d.ec (d.ea : Int) = errV (full l B).code ((full l B).at_ : Int) := by
  by_cases hc : (full l B).code = 0
  · rw [h.1 hc, hc]
    have : (dOk l B).ec = 0 := by unfold dOk; split <;> rfl
    rw [this]
    rfl
  · obtain ⟨h1, h2, _⟩ := h.2 hc
    rw [h1, h2]
set_option maxHeartbeats 2000000 in
theorem going_next (hl : l.length ≤ 100) (hs : ∀ s ∈ l, 1 ≤ s.size ∧ s.size ≤ 40) {d : D} {out : ByteArray} (h : Going l B d out) :
    ((nextD l d).2.2 = true → Going l B (nextD l d).1 (out ++ (nextD l d).2.1) ∧ (nextD l d).1.held.size < d.held.size ∧ (nextD l d).2.1.size ≤ 1024) ∧
    ((nextD l d).2.2 = false → (nextD l d).2.1 = ⟨#[]⟩ ∧ (full l B).out = out ∧ Rel l B (nextD l d).1) := by
  obtain ⟨hec, hea, hle, hheld, htold, hbd, hst⟩ := h
  rcases hst with ⟨b1, b2, b3, b4, b5, b6, b7⟩ | ⟨b1, b2, b3, b4, b5, b6, b7, b8⟩
  · have hh : d.held = B := by rw [hheld, b3, ext_zero]
    unfold nextD
    rw [if_pos b1]
    unfold beginD
    rw [hh]
    by_cases g1 : (headR B).e = 2
    · have hsz : B.size < 17 := by rcases Nat.lt_or_ge B.size 17 with q | q; exact q; exact absurd g1 (head_ne2 q)
      rw [if_pos g1]
      refine ⟨fun e => Bool.noConfusion e, fun _ => ⟨rfl, by rw [full_short hsz, b4], ?_, ?_⟩⟩
      · intro _
        unfold dOk
        rw [if_pos hsz]
        obtain ⟨x1, x2, x3, x4, x5, x6, x7, x8, x9, x10⟩ := d
        dsimp only at *
        subst b1 b2 b3 b4 b5 b6 b7 hec hea hh
        rw [htold]
        rfl
      · intro e; rw [full_short hsz] at e; exact absurd rfl e
    · have h17 := head_size g1
      rw [if_neg g1]
      by_cases g2 : (headR B).e ≠ 0
      · rw [if_pos g2]
        refine ⟨fun e => Bool.noConfusion e, fun _ => ⟨rfl, by rw [full_bad h17 g2, b4], ?_, ?_⟩⟩
        · intro e
          rw [full_bad h17 g2] at e
          exact absurd (Int.natCast_eq_zero.1 e) g2
        · intro _
          rw [full_bad h17 g2]
          exact ⟨rfl, b3, rfl⟩
      · have g2' := Decidable.not_not.1 g2
        rw [if_neg g2]
        by_cases g3 : ((headR B).id : Int) ≠ Idv l
        · rw [if_pos g3]
          refine ⟨fun e => Bool.noConfusion e, fun _ => ⟨rfl, by rw [full_id h17 g2' g3, b4], ?_, ?_⟩⟩
          · intro e
            rw [full_id h17 g2' g3] at e
            exact absurd e (show ¬ (6 : Int) = 0 by decide)
          · intro _
            rw [full_id h17 g2' g3]
            exact ⟨rfl, b3, rfl⟩
        · have g3' := Decidable.not_not.1 g3
          rw [if_neg g3]
          refine ⟨fun _ => ⟨⟨hec, hea, ?_, ?_, ?_, ?_, .inr ⟨rfl, h17, g2', g3', rfl, rfl, rfl, .inl ⟨b2, ?_⟩⟩⟩, ?_, Nat.zero_le _⟩, fun e => Bool.noConfusion e⟩
          · show d.at_ + 17 ≤ B.size; omega
          · show B.extract 17 B.size = B.extract (d.at_ + 17) B.size; rw [b3]
          · show d.told = (out ++ ⟨#[]⟩).size; rw [ByteArray.size_append, htold]; rfl
          · show (out ++ ⟨#[]⟩).size ≤ 1024 * (d.at_ + 17); rw [ByteArray.size_append]; show out.size + 0 ≤ _; omega
          · show full l B = scanF l (headR B).c (headR B).k B (d.at_ + 17) (out ++ ⟨#[]⟩)
            rw [full_ok h17 g2' g3', b3, b4]
            rfl
          · show (B.extract 17 B.size).size < B.size
            rw [ext_sz B 17 B.size (Nat.le_refl _)]; omega
  · unfold nextD
    rw [if_neg (by rw [b1]; decide)]
    have hsz : d.held.size = B.size - d.at_ := by rw [hheld, ext_all]
    have hdk : ∀ o c, full l B = ⟨out, d.at_, c, o⟩ → d.done = o → c = 0 → d = dOk l B := by
      intro o c e1 e2 e3
      unfold dOk
      rw [if_neg (by omega), e1]
      obtain ⟨x1, x2, x3, x4, x5, x6, x7, x8, x9, x10⟩ := d
      dsimp only at *
      subst b1 b5 b6 b7 hec hea hheld htold e2
      rfl
    by_cases g0 : d.held.size = 0
    · rw [if_pos g0]
      have hat : d.at_ = B.size := by omega
      refine ⟨fun e => Bool.noConfusion e, fun _ => ?_⟩
      rcases b8 with ⟨c1, c2⟩ | ⟨c1, c2⟩
      · have hw : full l B = ⟨out, d.at_, 0, false⟩ := by
          rw [c2]
          refine scan_wait hle ?_
          unfold frameR
          rw [if_pos (by rw [ext_all]; omega)]
          rfl
        exact ⟨rfl, by rw [hw], fun _ => hdk _ _ hw c1 rfl, fun e => absurd (by rw [hw]) e⟩
      · rw [if_neg (by omega)] at c2
        exact ⟨rfl, by rw [c2], fun _ => hdk _ _ c2 c1 rfl, fun e => absurd (by rw [c2]) e⟩
    rw [if_neg g0]
    rcases b8 with ⟨c1, c2⟩ | ⟨c1, c2⟩
    · rw [if_neg (by rw [c1]; decide)]
      have hfr : frameR d.held d.hk = frameR (B.extract d.at_ B.size) (headR B).k := by rw [hheld, b6]
      rw [hfr, b5, htold]
      by_cases g1 : (frameR (B.extract d.at_ B.size) (headR B).k).e = 2
      · rw [if_pos g1]
        have hw := scan_wait (l := l) (how := (headR B).c) (out := out) hle g1
        rw [← c2] at hw
        exact ⟨fun e => Bool.noConfusion e, fun _ => ⟨rfl, by rw [hw], fun _ => hdk _ _ hw c1 rfl, fun e => absurd (by rw [hw]) e⟩⟩
      rw [if_neg g1]
      by_cases g2 : (frameR (B.extract d.at_ B.size) (headR B).k).e ≠ 0
      · rw [if_pos g2]
        have hw := scan_bad (l := l) (how := (headR B).c) (out := out) hle g1 g2
        rw [← c2] at hw
        exact ⟨fun e => Bool.noConfusion e, fun _ => ⟨rfl, by rw [hw], fun e => absurd (by rw [hw] at e; exact Int.natCast_eq_zero.1 e) g2, fun _ => by rw [hw]; exact ⟨rfl, rfl, rfl⟩⟩⟩
      have g2' := Decidable.not_not.1 g2
      rw [if_neg g2]
      obtain ⟨n5, nz, n33, hf⟩ := frame_n _ _ g2'
      rw [ext_all] at nz
      have hms := meant_size hl hs (head_c B).1 out.size _ _ g2'
      by_cases hk : (frameR (B.extract d.at_ B.size) (headR B).k).kind = 0
      · by_cases hr : (frameR (B.extract d.at_ B.size) (headR B).k).raw ≠ out.size % 4294967296
        · have hm : meantD l (headR B).c out.size (frameR (B.extract d.at_ B.size) (headR B).k) = (⟨#[]⟩, 12) := by unfold meantD; rw [if_pos hk, if_pos hr]
          rw [hm, if_pos (show ¬ (12 : Int) = 0 by decide)]
          have hw := scan_length (l := l) (how := (headR B).c) (out := out) hle g2' hk hr
          rw [← c2] at hw
          exact ⟨fun e => Bool.noConfusion e, fun _ => ⟨rfl, by rw [hw], fun e => absurd (by rw [hw] at e; exact e) (show ¬ (12 : Int) = 0 by decide), fun _ => by rw [hw]; exact ⟨rfl, rfl, rfl⟩⟩⟩
        · have hr' := Decidable.not_not.1 hr
          have hm : meantD l (headR B).c out.size (frameR (B.extract d.at_ B.size) (headR B).k) = (⟨#[]⟩, 0) := by unfold meantD; rw [if_pos hk, if_neg hr]
          rw [hm, if_neg (show ¬ ¬ (0 : Int) = 0 by decide)]
          have hw := scan_end (l := l) (how := (headR B).c) (out := out) hle g2' hk hr'
          rw [← c2] at hw
          refine ⟨fun _ => ⟨⟨hec, hea, ?_, ?_, ?_, ?_, .inr ⟨b1, b2, b3, b4, b5, b6, b7, .inr ⟨?_, ?_⟩⟩⟩, ?_, Nat.zero_le _⟩, fun e => Bool.noConfusion e⟩
          · show d.at_ + _ ≤ B.size; omega
          · exact (step_held hheld (by omega) n5).1
          · show d.told + 0 = (out ++ ⟨#[]⟩).size; rw [ByteArray.size_append, htold]; rfl
          · show (out ++ ⟨#[]⟩).size ≤ 1024 * (d.at_ + _); rw [ByteArray.size_append]; show out.size + 0 ≤ _; omega
          · show decide (_ = 0) = true; exact decide_eq_true hk
          · show full l B = ⟨out ++ ⟨#[]⟩, d.at_ + _, _, true⟩
            rw [hw, ba_append_nil]
            rfl
          · exact (step_held hheld (by omega) n5).2
      · obtain ⟨_, hr, hp⟩ := hf.resolve_left (fun q => hk q.1)
        by_cases hg : (getR l (headR B).c (frameR (B.extract d.at_ B.size) (headR B).k).kind (frameR (B.extract d.at_ B.size) (headR B).k).raw (frameR (B.extract d.at_ B.size) (headR B).k).pay).2 = 0
        · by_cases hq : crcR (u (getR l (headR B).c (frameR (B.extract d.at_ B.size) (headR B).k).kind (frameR (B.extract d.at_ B.size) (headR B).k).raw (frameR (B.extract d.at_ B.size) (headR B).k).pay).1) ≠ (frameR (B.extract d.at_ B.size) (headR B).k).sum
          · have hm : (meantD l (headR B).c out.size (frameR (B.extract d.at_ B.size) (headR B).k)).2 = 7 := by unfold meantD; rw [if_neg hk, if_pos hg, if_pos hq]
            rw [hm, if_pos (show ¬ (7 : Int) = 0 by decide)]
            have hw := scan_sum (l := l) (how := (headR B).c) (out := out) hle g2' hk hg hq
            rw [← c2] at hw
            exact ⟨fun e => Bool.noConfusion e, fun _ => ⟨rfl, by rw [hw], fun e => absurd (by rw [hw] at e; exact e) (show ¬ (7 : Int) = 0 by decide), fun _ => by rw [hw]; exact ⟨rfl, rfl, rfl⟩⟩⟩
          · have hq' := Decidable.not_not.1 hq
            have hm : meantD l (headR B).c out.size (frameR (B.extract d.at_ B.size) (headR B).k) = ((getR l (headR B).c (frameR (B.extract d.at_ B.size) (headR B).k).kind (frameR (B.extract d.at_ B.size) (headR B).k).raw (frameR (B.extract d.at_ B.size) (headR B).k).pay).1, 0) := by unfold meantD; rw [if_neg hk, if_pos hg, if_neg hq]
            rw [hm] at hms ⊢
            have hms2 := hms rfl
            rw [if_neg (show ¬ ¬ (0 : Int) = 0 by decide)]
            have hw := scan_more (l := l) (how := (headR B).c) (out := out) hle g2' hk hg hq'
            rw [← c2] at hw
            refine ⟨fun _ => ⟨⟨hec, hea, ?_, ?_, ?_, ?_, .inr ⟨b1, b2, b3, b4, b5, b6, b7, .inl ⟨?_, hw⟩⟩⟩, ?_, hms2⟩, fun e => Bool.noConfusion e⟩
            · show d.at_ + _ ≤ B.size; omega
            · exact (step_held hheld (by omega) n5).1
            · show d.told + _ = (out ++ _).size; rw [ByteArray.size_append, htold]
            · exact grow_bound hbd hms2 n5
            · show decide (_ = 0) = false; exact decide_eq_false hk
            · exact (step_held hheld (by omega) n5).2
        · have hm : meantD l (headR B).c out.size (frameR (B.extract d.at_ B.size) (headR B).k) = getR l (headR B).c (frameR (B.extract d.at_ B.size) (headR B).k).kind (frameR (B.extract d.at_ B.size) (headR B).k).raw (frameR (B.extract d.at_ B.size) (headR B).k).pay := by unfold meantD; rw [if_neg hk, if_neg hg]
          rw [hm, if_pos hg]
          have hw := scan_get (l := l) (how := (headR B).c) (out := out) hle g2' hk hg
          rw [← c2] at hw
          exact ⟨fun e => Bool.noConfusion e, fun _ => ⟨rfl, by rw [hw], fun e => absurd (by rw [hw] at e; exact e) hg, fun _ => by rw [hw]; exact ⟨rfl, rfl, rfl⟩⟩⟩
    · rw [if_pos c1]
      rw [if_pos (by omega)] at c2
      exact ⟨fun e => Bool.noConfusion e, fun _ => ⟨rfl, by rw [c2], fun e => absurd (by rw [c2] at e; exact e) (show ¬ (13 : Int) = 0 by decide), fun _ => by rw [c2]; exact ⟨rfl, rfl, rfl⟩⟩⟩
end
end Go.Proofs.YtdpkgjahcapleaaGreat
