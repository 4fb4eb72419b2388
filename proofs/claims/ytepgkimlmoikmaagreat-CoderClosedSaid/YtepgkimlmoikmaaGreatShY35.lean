/- ShY: a part of its proof (contracts of the functions that it reaches, and the plain mathematics behind them). -/
import Derived.Test.YtepgkimlmoikmaaGreatShY34
set_option linter.unusedVariables false
set_option linter.unusedSimpArgs false
set_option maxHeartbeats 2000000
set_option maxRecDepth 100000
set_option linter.unusedVariables false
set_option linter.unusedSimpArgs false
namespace Go.Proofs.YtepgkimlmoikmaaGreat
open Go.RowKit Go.Proofs.YtepgkimlmoikmaaGreat.Spec Go.Proofs.YtepgkimlmoikmaaGreatW.PrintWords Go.Proofs.YtepgkimlmoikmaaGreatW.PrintLast
open Go.Proofs.YtepgkimlmoikmaaGreatW.PrintMore
attribute [local go_sem ↓] Go.wp_at_zero Go.wp_at_succ
attribute [local go_sem] max2_int min2_int max_two min_two
namespace Spec
def full (l : List ByteArray) (B : ByteArray) : Sc :=
 if B.size < 17 then ⟨⟨#[]⟩, 0, 0, false⟩
 else if (headR B).e ≠ 0 then ⟨⟨#[]⟩, 0, (headR B).e, false⟩
 else if ((headR B).id : Int) ≠ Idv l then ⟨⟨#[]⟩, 0, 6, false⟩
 else scanF l (headR B).c (headR B).k B 17 ⟨#[]⟩
def dOk (l : List ByteArray) (B : ByteArray) : D :=
 if B.size < 17 then ⟨0, 0, 0, false, false, B, 0, 0, 0, 0⟩
 else ⟨(headR B).c, (headR B).k, (headR B).id, true, (full l B).done, B.extract (full l B).at_ B.size, (full l B).at_, (full l B).out.size, 0, 0⟩
def Rel (l : List ByteArray) (B : ByteArray) (d : D) : Prop := ((full l B).code = 0 → d = dOk l B) ∧ ((full l B).code ≠ 0 → d.ec = (full l B).code ∧ d.ea = (full l B).at_ ∧ d.held = ⟨#[]⟩)
structure Going (l : List ByteArray) (B : ByteArray) (d : D) (out : ByteArray) : Prop where
 ec : d.ec = 0
 ea : d.ea = 0
 le : d.at_ ≤ B.size
 held : d.held = B.extract d.at_ B.size
 told : d.told = out.size
 bound : out.size ≤ 1024 * d.at_
 st : (d.begun = false ∧ d.done = false ∧ d.at_ = 0 ∧ out = ⟨#[]⟩ ∧ d.hc = 0 ∧ d.hk = 0 ∧ d.hid = 0) ∨
  (d.begun = true ∧ 17 ≤ B.size ∧ (headR B).e = 0 ∧ ((headR B).id : Int) = Idv l ∧ d.hc = (headR B).c ∧ d.hk = (headR B).k ∧ d.hid = (headR B).id ∧
   ((d.done = false ∧ full l B = scanF l (headR B).c (headR B).k B d.at_ out) ∨ (d.done = true ∧ full l B = ⟨out, d.at_, if d.at_ < B.size then 13 else 0, true⟩)))
end Spec
theorem head_c (B : ByteArray) : (headR B).c ≤ 1 ∧ (headR B).k ≤ 1024 := by
 unfold headR
 split
 ·exact ⟨Nat.zero_le _, Nat.zero_le _⟩
 ·split
  ·exact ⟨Nat.zero_le _, Nat.zero_le _⟩
  ·split
   ·exact ⟨Nat.zero_le _, Nat.zero_le _⟩
   ·split
    ·exact ⟨Nat.zero_le _, Nat.zero_le _⟩
    ·rename_i h1 h2 h3
     exact ⟨by show byteAt B 5 ≤ 1; omega, by show ofB (u (B.extract 6 9)) ≤ 1024; omega⟩
theorem head_ne2 {B : ByteArray} (h : 17 ≤ B.size) : (headR B).e ≠ 2 := by
 unfold headR
 rw [if_neg (by omega)]
 split
 ·exact show ¬ (3 : Nat) = 2 by decide
 ·split
  ·exact show ¬ (8 : Nat) = 2 by decide
  ·split
   ·exact show ¬ (4 : Nat) = 2 by decide
   ·exact show ¬ (0 : Nat) = 2 by decide
theorem ext_zero (b : ByteArray) : b.extract 0 b.size = b := by
 apply u_inj
 rw [u_ext, List.drop_zero, List.take_of_length_le (by rw [u_size]; omega)]
theorem ext_ext (b : ByteArray) (i j : Nat) (h : i + j ≤ b.size) : (b.extract i b.size).extract j (b.extract i b.size).size = b.extract (i + j) b.size := by
 apply u_inj
 have h1 : (List.drop i (u b)).take (b.size - i) = List.drop i (u b) := List.take_of_length_le (by rw [List.length_drop, u_size]; omega)
 have h2 : (List.drop (i + j) (u b)).take (b.size - (i + j)) = List.drop (i + j) (u b) := List.take_of_length_le (by rw [List.length_drop, u_size]; omega)
 have h3 : (List.drop (i + j) (u b)).take (b.size - i - j) = List.drop (i + j) (u b) := List.take_of_length_le (by rw [List.length_drop, u_size]; omega)
 rw [u_ext, u_ext, u_ext, ext_sz b i b.size (Nat.le_refl _), h1, h2, List.drop_drop, h3]
theorem grow_bound {out s : ByteArray} {a n : Nat} (h : out.size ≤ 1024 * a) (h1 : s.size ≤ 1024) (h5 : 5 ≤ n) : (out ++ s).size ≤ 1024 * (a + n) := by rw [ByteArray.size_append]; omega
theorem step_held {d : D} {B : ByteArray} {n : Nat} (h : d.held = B.extract d.at_ B.size) (h1 : d.at_ + n ≤ B.size) (h5 : 5 ≤ n) : d.held.extract n d.held.size = B.extract (d.at_ + n) B.size ∧ (d.held.extract n d.held.size).size < d.held.size := by
 constructor
 ·rw [h, ext_ext _ _ _ h1]
 ·rw [ext_sz _ _ _ (Nat.le_refl _), h, ext_sz _ _ _ (Nat.le_refl _)]; omega
theorem ext_more (b c : ByteArray) (i : Nat) (h : i ≤ b.size) : b.extract i b.size ++ c = (b ++ c).extract i (b ++ c).size := by
 apply u_inj
 have hz : (b ++ c).size = b.size + c.size := ByteArray.size_append ..
 rw [u_app, u_ext, u_ext, u_app, hz, List.drop_append_of_le_length (by rw [u_size]; omega), List.take_of_length_le (by rw [List.length_drop, u_size]; omega), List.take_of_length_le (by rw [List.length_append, List.length_drop, u_size, u_size]; omega)]
section
variable {l : List ByteArray} {B : ByteArray}
theorem full_short (h : B.size < 17) : full l B = ⟨⟨#[]⟩, 0, 0, false⟩ := by unfold full; rw [if_pos h]
theorem full_bad (h : 17 ≤ B.size) (he : (headR B).e ≠ 0) : full l B = ⟨⟨#[]⟩, 0, (headR B).e, false⟩ := by unfold full; rw [if_neg (by omega), if_pos he]
theorem full_id (h : 17 ≤ B.size) (he : (headR B).e = 0) (hi : ((headR B).id : Int) ≠ Idv l) : full l B = ⟨⟨#[]⟩, 0, 6, false⟩ := by unfold full; rw [if_neg (by omega), if_neg (fun n => n he), if_pos hi]
theorem full_ok (h : 17 ≤ B.size) (he : (headR B).e = 0) (hi : ((headR B).id : Int) = Idv l) : full l B = scanF l (headR B).c (headR B).k B 17 ⟨#[]⟩ := by unfold full; rw [if_neg (by omega), if_neg (fun n => n he), if_neg (fun n => n hi)]
theorem rel_err {d : D} (h : Rel l B d) : errV d.ec (d.ea : Int) = errV (full l B).code ((full l B).at_ : Int) := by
 by_cases hc : (full l B).code = 0
 ·rw [h.1 hc, hc]
  have : (dOk l B).ec = 0 := by unfold dOk; split <;> rfl
  rw [this]
  rfl
 ·obtain ⟨h1, h2, _⟩ := h.2 hc
  rw [h1, h2]
theorem going_next (hl : l.length ≤ 100) (hs : ∀ s ∈ l, 1 ≤ s.size ∧ s.size ≤ 40) {d : D} {out : ByteArray} (h : Going l B d out) :
  ((nextD l d).2.2 = true → Going l B (nextD l d).1 (out ++ (nextD l d).2.1) ∧ (nextD l d).1.held.size < d.held.size ∧ (nextD l d).2.1.size ≤ 1024) ∧
  ((nextD l d).2.2 = false → (nextD l d).2.1 = ⟨#[]⟩ ∧ (full l B).out = out ∧ Rel l B (nextD l d).1) := by
 obtain ⟨hec, hea, hle, hheld, htold, hbd, hst⟩ := h
 rcases hst with ⟨b1, b2, b3, b4, b5, b6, b7⟩ | ⟨b1, b2, b3, b4, b5, b6, b7, b8⟩
 ·have hh : d.held = B := by rw [hheld, b3, ext_zero]
  unfold nextD
  rw [if_pos b1]
  unfold beginD
  rw [hh]
  by_cases g1 : (headR B).e = 2
  ·have hsz : B.size < 17 := by rcases Nat.lt_or_ge B.size 17 with q | q; exact q; exact absurd g1 (head_ne2 q)
   rw [if_pos g1]
   refine ⟨fun e => Bool.noConfusion e, fun _ => ⟨rfl, by rw [full_short hsz, b4], ?_, ?_⟩⟩
   ·intro _
    unfold dOk
    rw [if_pos hsz]
    obtain ⟨x1, x2, x3, x4, x5, x6, x7, x8, x9, x10⟩ := d
    dsimp only at *
    subst b1 b2 b3 b4 b5 b6 b7 hec hea hh
    rw [htold]
    rfl
   ·intro e; rw [full_short hsz] at e; exact absurd rfl e
  ·have h17 := head_size g1
   rw [if_neg g1]
   by_cases g2 : (headR B).e ≠ 0
   ·rw [if_pos g2]
    refine ⟨fun e => Bool.noConfusion e, fun _ => ⟨rfl, by rw [full_bad h17 g2, b4], ?_, ?_⟩⟩
    ·intro e
     rw [full_bad h17 g2] at e
     exact absurd (Int.natCast_eq_zero.1 e) g2
    ·intro _
     rw [full_bad h17 g2]
     exact ⟨rfl, b3, rfl⟩
   ·have g2' := Decidable.not_not.1 g2
    rw [if_neg g2]
    by_cases g3 : ((headR B).id : Int) ≠ Idv l
    ·rw [if_pos g3]
     refine ⟨fun e => Bool.noConfusion e, fun _ => ⟨rfl, by rw [full_id h17 g2' g3, b4], ?_, ?_⟩⟩
     ·intro e
      rw [full_id h17 g2' g3] at e
      exact absurd e (show ¬ (6 : Int) = 0 by decide)
     ·intro _
      rw [full_id h17 g2' g3]
      exact ⟨rfl, b3, rfl⟩
    ·have g3' := Decidable.not_not.1 g3
     rw [if_neg g3]
     refine ⟨fun _ => ⟨⟨hec, hea, ?_, ?_, ?_, ?_, .inr ⟨rfl, h17, g2', g3', rfl, rfl, rfl, .inl ⟨b2, ?_⟩⟩⟩, ?_, Nat.zero_le _⟩, fun e => Bool.noConfusion e⟩
     ·show d.at_ + 17 ≤ B.size; omega
     ·show B.extract 17 B.size = B.extract (d.at_ + 17) B.size; rw [b3]
     ·show d.told = (out ++ ⟨#[]⟩).size; rw [ByteArray.size_append, htold]; rfl
     ·show (out ++ ⟨#[]⟩).size ≤ 1024 * (d.at_ + 17); rw [ByteArray.size_append]; show out.size + 0 ≤ _; omega
     ·show full l B = scanF l (headR B).c (headR B).k B (d.at_ + 17) (out ++ ⟨#[]⟩)
      rw [full_ok h17 g2' g3', b3, b4]
      rfl
     ·show (B.extract 17 B.size).size < B.size
      rw [ext_sz B 17 B.size (Nat.le_refl _)]; omega
 ·unfold nextD
  rw [if_neg (by rw [b1]; decide)]
  have hsz : d.held.size = B.size - d.at_ := by rw [hheld, ext_all]
  have hdk : ∀ o c, full l B = ⟨out, d.at_, c, o⟩ → d.done = o → c = 0 → d = dOk l B := by
   intro o c e1 e2 e3
   unfold dOk
   rw [if_neg (by omega), e1]
   obtain ⟨x1, x2, x3, x4, x5, x6, x7, x8, x9, x10⟩ := d
   dsimp only at *
   subst b1 b5 b6 b7 hec hea hheld htold e2
   rfl
  by_cases g0 : d.held.size = 0
  ·rw [if_pos g0]
   have hat : d.at_ = B.size := by omega
   refine ⟨fun e => Bool.noConfusion e, fun _ => ?_⟩
   rcases b8 with ⟨c1, c2⟩ | ⟨c1, c2⟩
   ·have hw : full l B = ⟨out, d.at_, 0, false⟩ := by
     rw [c2]
     refine scan_wait hle ?_
     unfold frameR
     rw [if_pos (by rw [ext_all]; omega)]
     rfl
    exact ⟨rfl, by rw [hw], fun _ => hdk _ _ hw c1 rfl, fun e => absurd (by rw [hw]) e⟩
   ·rw [if_neg (by omega)] at c2
    exact ⟨rfl, by rw [c2], fun _ => hdk _ _ c2 c1 rfl, fun e => absurd (by rw [c2]) e⟩
  rw [if_neg g0]
  rcases b8 with ⟨c1, c2⟩ | ⟨c1, c2⟩
  ·rw [if_neg (by rw [c1]; decide)]
   have hfr : frameR d.held d.hk = frameR (B.extract d.at_ B.size) (headR B).k := by rw [hheld, b6]
   rw [hfr, b5, htold]
   by_cases g1 : (frameR (B.extract d.at_ B.size) (headR B).k).e = 2
   ·rw [if_pos g1]
    have hw := scan_wait (l := l) (how := (headR B).c) (out := out) hle g1
    rw [← c2] at hw
    exact ⟨fun e => Bool.noConfusion e, fun _ => ⟨rfl, by rw [hw], fun _ => hdk _ _ hw c1 rfl, fun e => absurd (by rw [hw]) e⟩⟩
   rw [if_neg g1]
   by_cases g2 : (frameR (B.extract d.at_ B.size) (headR B).k).e ≠ 0
   ·rw [if_pos g2]
    have hw := scan_bad (l := l) (how := (headR B).c) (out := out) hle g1 g2
    rw [← c2] at hw
    exact ⟨fun e => Bool.noConfusion e, fun _ => ⟨rfl, by rw [hw], fun e => absurd (by rw [hw] at e; exact Int.natCast_eq_zero.1 e) g2, fun _ => by rw [hw]; exact ⟨rfl, rfl, rfl⟩⟩⟩
   have g2' := Decidable.not_not.1 g2
   rw [if_neg g2]
   obtain ⟨n5, nz, n33, hf⟩ := frame_n _ _ g2'
   rw [ext_all] at nz
   have hms := meant_size hl hs (head_c B).1 out.size _ _ g2'
   by_cases hk : (frameR (B.extract d.at_ B.size) (headR B).k).kind = 0
   ·by_cases hr : (frameR (B.extract d.at_ B.size) (headR B).k).raw ≠ out.size % 4294967296
    ·have hm : meantD l (headR B).c out.size (frameR (B.extract d.at_ B.size) (headR B).k) = (⟨#[]⟩, 12) := by unfold meantD; rw [if_pos hk, if_pos hr]
     rw [hm, if_pos (show ¬ (12 : Int) = 0 by decide)]
     have hw := scan_length (l := l) (how := (headR B).c) (out := out) hle g2' hk hr
     rw [← c2] at hw
     exact ⟨fun e => Bool.noConfusion e, fun _ => ⟨rfl, by rw [hw], fun e => absurd (by rw [hw] at e; exact e) (show ¬ (12 : Int) = 0 by decide), fun _ => by rw [hw]; exact ⟨rfl, rfl, rfl⟩⟩⟩
    ·have hr' := Decidable.not_not.1 hr
     have hm : meantD l (headR B).c out.size (frameR (B.extract d.at_ B.size) (headR B).k) = (⟨#[]⟩, 0) := by unfold meantD; rw [if_pos hk, if_neg hr]
     rw [hm, if_neg (show ¬ ¬ (0 : Int) = 0 by decide)]
     have hw := scan_end (l := l) (how := (headR B).c) (out := out) hle g2' hk hr'
     rw [← c2] at hw
     refine ⟨fun _ => ⟨⟨hec, hea, ?_, ?_, ?_, ?_, .inr ⟨b1, b2, b3, b4, b5, b6, b7, .inr ⟨?_, ?_⟩⟩⟩, ?_, Nat.zero_le _⟩, fun e => Bool.noConfusion e⟩
     ·show d.at_ + _ ≤ B.size; omega
     ·exact (step_held hheld (by omega) n5).1
     ·show d.told + 0 = (out ++ ⟨#[]⟩).size; rw [ByteArray.size_append, htold]; rfl
     ·show (out ++ ⟨#[]⟩).size ≤ 1024 * (d.at_ + _); rw [ByteArray.size_append]; show out.size + 0 ≤ _; omega
     ·show decide (_ = 0) = true; exact decide_eq_true hk
     ·show full l B = ⟨out ++ ⟨#[]⟩, d.at_ + _, _, true⟩
      rw [hw, ba_append_nil]
      rfl
     ·exact (step_held hheld (by omega) n5).2
   ·obtain ⟨_, hr, hp⟩ := hf.resolve_left (fun q => hk q.1)
    by_cases hg : (getR l (headR B).c (frameR (B.extract d.at_ B.size) (headR B).k).kind (frameR (B.extract d.at_ B.size) (headR B).k).raw (frameR (B.extract d.at_ B.size) (headR B).k).pay).2 = 0
    ·by_cases hq : crcR (u (getR l (headR B).c (frameR (B.extract d.at_ B.size) (headR B).k).kind (frameR (B.extract d.at_ B.size) (headR B).k).raw (frameR (B.extract d.at_ B.size) (headR B).k).pay).1) ≠ (frameR (B.extract d.at_ B.size) (headR B).k).sum
     ·have hm : (meantD l (headR B).c out.size (frameR (B.extract d.at_ B.size) (headR B).k)).2 = 7 := by unfold meantD; rw [if_neg hk, if_pos hg, if_pos hq]
      rw [hm, if_pos (show ¬ (7 : Int) = 0 by decide)]
      have hw := scan_sum (l := l) (how := (headR B).c) (out := out) hle g2' hk hg hq
      rw [← c2] at hw
      exact ⟨fun e => Bool.noConfusion e, fun _ => ⟨rfl, by rw [hw], fun e => absurd (by rw [hw] at e; exact e) (show ¬ (7 : Int) = 0 by decide), fun _ => by rw [hw]; exact ⟨rfl, rfl, rfl⟩⟩⟩
     ·have hq' := Decidable.not_not.1 hq
      have hm : meantD l (headR B).c out.size (frameR (B.extract d.at_ B.size) (headR B).k) = ((getR l (headR B).c (frameR (B.extract d.at_ B.size) (headR B).k).kind (frameR (B.extract d.at_ B.size) (headR B).k).raw (frameR (B.extract d.at_ B.size) (headR B).k).pay).1, 0) := by unfold meantD; rw [if_neg hk, if_pos hg, if_neg hq]
      rw [hm] at hms ⊢
      have hms2 := hms rfl
      rw [if_neg (show ¬ ¬ (0 : Int) = 0 by decide)]
      have hw := scan_more (l := l) (how := (headR B).c) (out := out) hle g2' hk hg hq'
      rw [← c2] at hw
      refine ⟨fun _ => ⟨⟨hec, hea, ?_, ?_, ?_, ?_, .inr ⟨b1, b2, b3, b4, b5, b6, b7, .inl ⟨?_, hw⟩⟩⟩, ?_, hms2⟩, fun e => Bool.noConfusion e⟩
      ·show d.at_ + _ ≤ B.size; omega
      ·exact (step_held hheld (by omega) n5).1
      ·show d.told + _ = (out ++ _).size; rw [ByteArray.size_append, htold]
      ·exact grow_bound hbd hms2 n5
      ·show decide (_ = 0) = false; exact decide_eq_false hk
      ·exact (step_held hheld (by omega) n5).2
    ·have hm : meantD l (headR B).c out.size (frameR (B.extract d.at_ B.size) (headR B).k) = getR l (headR B).c (frameR (B.extract d.at_ B.size) (headR B).k).kind (frameR (B.extract d.at_ B.size) (headR B).k).raw (frameR (B.extract d.at_ B.size) (headR B).k).pay := by unfold meantD; rw [if_neg hk, if_neg hg]
     rw [hm, if_pos hg]
     have hw := scan_get (l := l) (how := (headR B).c) (out := out) hle g2' hk hg
     rw [← c2] at hw
     exact ⟨fun e => Bool.noConfusion e, fun _ => ⟨rfl, by rw [hw], fun e => absurd (by rw [hw] at e; exact e) hg, fun _ => by rw [hw]; exact ⟨rfl, rfl, rfl⟩⟩⟩
  ·rw [if_pos c1]
   rw [if_pos (by omega)] at c2
   exact ⟨fun e => Bool.noConfusion e, fun _ => ⟨rfl, by rw [c2], fun e => absurd (by rw [c2] at e; exact e) (show ¬ (13 : Int) = 0 by decide), fun _ => by rw [c2]; exact ⟨rfl, rfl, rfl⟩⟩⟩
end
end Go.Proofs.YtepgkimlmoikmaaGreat
set_option linter.unusedVariables false
set_option linter.unusedSimpArgs false
namespace Go.Proofs.YtepgkimlmoikmaaGreat
open Go.RowKit Go.Proofs.YtepgkimlmoikmaaGreat.Spec Go.Proofs.YtepgkimlmoikmaaGreatW.PrintWords Go.Proofs.YtepgkimlmoikmaaGreatW.PrintLast
open Go.Proofs.YtepgkimlmoikmaaGreatW.PrintMore
attribute [local go_sem ↓] Go.wp_at_zero Go.wp_at_succ
attribute [local go_sem] max2_int min2_int max_two min_two
theorem going_start {l : List ByteArray} {B : ByteArray} {d : D} (h : Rel l B d) (hc : (full l B).code = 0) (b : ByteArray) (hbd : (full l B).out.size ≤ 1024 * (full l B).at_) : Going l (B ++ b) { d with held := d.held ++ b } (full l B).out := by
 have hd := h.1 hc
 subst hd
 have hz : (B ++ b).size = B.size + b.size := ByteArray.size_append ..
 by_cases h17 : B.size < 17
 ·have e1 : dOk l B = ⟨0, 0, 0, false, false, B, 0, 0, 0, 0⟩ := by unfold dOk; rw [if_pos h17]
  rw [e1, full_short h17]
  exact ⟨rfl, rfl, Nat.zero_le _, (ext_zero _).symm, rfl, Nat.zero_le _, .inl ⟨rfl, rfl, rfl, rfl, rfl, rfl, rfl⟩⟩
 ·have e1 : dOk l B = ⟨(headR B).c, (headR B).k, (headR B).id, true, (full l B).done, B.extract (full l B).at_ B.size, (full l B).at_, (full l B).out.size, 0, 0⟩ := by unfold dOk; rw [if_neg h17]
  have h17' : 17 ≤ B.size := by omega
  have he : (headR B).e = 0 := Decidable.not_not.1 fun n => by rw [full_bad h17' n] at hc; exact n (Int.natCast_eq_zero.1 hc)
  have hi : ((headR B).id : Int) = Idv l := Decidable.not_not.1 fun n => by rw [full_id h17' he n] at hc; exact absurd hc (show ¬ (6 : Int) = 0 by decide)
  have hf := full_ok h17' he hi
  have hh := head_app B b h17'
  have hf2 : full l (B ++ b) = scanF l (headR B).c (headR B).k (B ++ b) 17 ⟨#[]⟩ := by rw [full_ok (by omega) (by rw [hh]; exact he) (by rw [hh]; exact hi), hh]
  obtain ⟨s1, s2, s3, s4, s5⟩ := scan_app l (headR B).c (headR B).k B b B.size 17 ⟨#[]⟩ h17' (by omega)
  rw [← hf] at s1 s2 s3 s4 s5
  rw [← hf2] at s3 s4 s5
  rw [e1]
  refine ⟨rfl, rfl, by show (full l B).at_ ≤ _; omega, ext_more B b _ s1, rfl, hbd, .inr ⟨rfl, by omega, by rw [hh]; exact he, by rw [hh]; exact hi, by rw [hh], by rw [hh], by rw [hh], ?_⟩⟩
  rw [hh]
  cases hdn : (full l B).done with
  | false => exact .inl ⟨rfl, (s4 hc hdn).1⟩
  | true =>
   obtain ⟨t1, t2⟩ := s5 hc hdn
   refine .inr ⟨rfl, ?_⟩
   show full l (B ++ b) = ⟨_, (full l B).at_, if (full l B).at_ < (B ++ b).size then 13 else 0, true⟩
   rw [t2, t1, hz]
   by_cases q : 0 < b.size
   ·rw [if_pos q, if_pos (by omega)]
   ·rw [if_neg q, if_neg (by omega)]
theorem full_err {l : List ByteArray} {B : ByteArray} (h : (full l B).code ≠ 0) (b : ByteArray) : full l (B ++ b) = full l B := by
 have hz : (B ++ b).size = B.size + b.size := ByteArray.size_append ..
 have h17 : 17 ≤ B.size := by
  rcases Nat.lt_or_ge B.size 17 with q | q
  ·rw [full_short q] at h; exact absurd rfl h
  ·exact q
 have hh := head_app B b h17
 by_cases he : (headR B).e = 0
 ·by_cases hi : ((headR B).id : Int) = Idv l
  ·rw [full_ok (B := B ++ b) (by omega) (by rw [hh]; exact he) (by rw [hh]; exact hi), hh, full_ok h17 he hi]
   rw [full_ok h17 he hi] at h
   exact (scan_app l (headR B).c (headR B).k B b B.size 17 ⟨#[]⟩ h17 (by omega)).2.2.1 h
  ·rw [full_id (B := B ++ b) (by omega) (by rw [hh]; exact he) (by rw [hh]; exact hi), full_id h17 he hi]
 ·rw [full_bad (B := B ++ b) (by omega) (by rw [hh]; exact he), full_bad h17 he, hh]
theorem dnext_any {w : World} {g : Nat} {P : Value} {d : D} {l : List ByteArray} (h : DecAt w g P d) (hdi : DicF g w P l) (hl : l.length ≤ 100) (hs : ∀ s ∈ l, 1 ≤ s.size ∧ s.size ≤ 40) {B out : ByteArray} (hB : B.size ≤ 900000) (hg : Going l B d out) :
  Calls Tryz.prog 115 #[.pointer (some ⟨g, 0, none⟩)] w fun e w' => e = .returned (.tuple #[.string (nextD l d).2.1, .bool (nextD l d).2.2]) ∧ DecAt w' g P (nextD l d).1 ∧ Mv g w w' := by
 have hz : d.held.size ≤ 900000 := by rw [hg.held, ext_all]; omega
 have ha : d.at_ ≤ 900000 := Nat.le_trans hg.le hB
 have ht : d.told ≤ 1000000000 := by rw [hg.told]; have := hg.bound; omega
 have hc : d.hc ≤ 1 := by
  rcases hg.st with ⟨_, _, _, _, q, _⟩ | ⟨_, _, _, _, q, _⟩
  ·omega
  ·rw [q]; exact (head_c B).1
 cases hb : d.begun with
 | false => exact next_begin h hdi hl hs (by omega) (by omega) hb
 | true =>
  by_cases hs1 : d.held.size = 0 ∨ d.done = true
  ·exact next_stop l h hb hs1
  ·refine next_frame h hdi hl hs (by omega) (by omega) ht hc hb (fun q => hs1 (.inl q)) ?_
   cases hdn : d.done with
   | false => rfl
   | true => exact absurd (.inr hdn) hs1
def heldOf (g : Nat) (w : World) : Nat := match w.cell? ⟨g, 6, none⟩ with | some (.string s) => s.size | _ => 0
theorem heldOf_is {w : World} {g : Nat} {P : Value} {d : D} (h : DecAt w g P d) : heldOf g w = d.held.size := by unfold heldOf; rw [h.c6]
theorem none_calls {w : World} {g : Nat} {P : Value} {d : D} (h : DecAt w g P d) {ad : Addr} (hP : P = .pointer (some ad)) :
  Calls Tryz.prog 114 #[.pointer (some ⟨g, 0, none⟩)] w fun e w' => e = .returned (.bool false) ∧ w = w' := by
 have c0 := h.c0
 subst hP
 clear h
 go_enter Tryz.func114, Tryz.ntmps114
 go_wp2_with fail
 go_ret
 exact ⟨rfl, rfl⟩
theorem feed_bad {w : World} {g : Nat} {P : Value} {d : D} {l : List ByteArray} {B : ByteArray} (h : DecAt w g P d) {ad : Addr} (hP : P = .pointer (some ad)) (hr : Rel l B d) (hc : (full l B).code ≠ 0) (b : ByteArray) :
  Calls Tryz.prog 43 #[.pointer (some ⟨g, 0, none⟩), .string b] w fun e w' => e = .returned (.tuple #[.string ⟨#[]⟩, errV (full l B).code ((full l B).at_ : Int)]) ∧ DecAt w' g P d ∧ Mv g w w' := by
 obtain ⟨h1, h2, _⟩ := hr.2 hc
 have H := Aside0.mk h
 have HNO := Aside0.mk (none_calls h hP)
 have c9 := h.c9
 rw [h1, h2, errV_some hc] at c9
 have HE := Aside0.mk (errV_some hc ((full l B).at_ : Int))
 rw [HE.out]
 generalize (full l B).code = q1 at *
 generalize (full l B).at_ = q2 at *
 clear h hP hr h1 h2 hc
 go_enter Tryz.func43, Tryz.ntmps43
 go_wp2_with fail
 refine HNO.out.mono ?_
 rintro e w1 ⟨rfl, rfl⟩
 go_wp2_with fail
 go_quiet (fail)
 go_wp2_with fail
 go_ret2
 exact ⟨rfl, H.out, Mv.of (by repeat (first | exact Below.refl _ _ | apply below_alloc | apply below_drew | apply pw_below_drewN))⟩
theorem feed_ok {w : World} {g : Nat} {P : Value} {d : D} {l : List ByteArray} {B : ByteArray} (h : DecAt w g P d) (hdi : DicF g w P l) {ad : Addr} (hP : P = .pointer (some ad)) (hl : l.length ≤ 100) (hs : ∀ s ∈ l, 1 ≤ s.size ∧ s.size ≤ 40) (hr : Rel l B d) (hc : (full l B).code = 0) (hbd : (full l B).out.size ≤ 1024 * (full l B).at_) (b : ByteArray) (hz : (B ++ b).size ≤ 900000) :
  Calls Tryz.prog 43 #[.pointer (some ⟨g, 0, none⟩), .string b] w fun e w' => ∃ o d', e = .returned (.tuple #[.string o, errV (full l (B ++ b)).code ((full l (B ++ b)).at_ : Int)]) ∧ (full l B).out ++ o = (full l (B ++ b)).out ∧ DecAt w' g P d' ∧ Rel l (B ++ b) d' ∧ Mv g w w' := by
 have hg := going_start hr hc b hbd
 have H := Aside0.mk h
 have HNO := Aside0.mk (none_calls h hP)
 have c9 := h.c9
 have c6 := h.c6
 have f6 := h.fz 6
 rw [hr.1 hc] at c9
 have e9 : errV (dOk l B).ec ((dOk l B).ea : Int) = .nilIface := by unfold dOk; split <;> rfl
 rw [e9] at c9
 have HG := Aside0.mk hg
 have HNX := Aside0.mk (fun (W : World) (d2 : D) (o2 : ByteArray) (h : DecAt W g P d2) (hdi : DicF g W P l) (hg : Going l (B ++ b) d2 o2) => dnext_any h hdi hl hs hz hg)
 have HGN := Aside0.mk (fun (d2 : D) (o2 : ByteArray) (hg : Going l (B ++ b) d2 o2) => going_next hl hs hg)
 have HDI := Aside0.mk hdi
 have HZ := Aside0.mk hz
 have hsz : d.held.size + b.size ≤ 900000 := by
  have h1 := congrArg ByteArray.size hg.held
  rw [ByteArray.size_append, ext_all] at h1
  omega
 have u1 : ¬ 9223372036854775807 < d.held.size + b.size := by omega
 clear h hdi hP hl hs hr hc hbd hz hg e9 hsz
 go_enter Tryz.func43, Tryz.ntmps43
 go_wp2_with fail
 refine HNO.out.mono ?_
 rintro e w1 ⟨rfl, rfl⟩
 go_wp2_with fail
 have hd1 : DecAt (w.setCell ⟨g, 6, none⟩ (.string (d.held ++ b))) g P { d with held := d.held ++ b } := blk_put H.out 6 _ rfl
 have HD1 := Aside0.mk hd1
 clear hd1
 go_loopw [6] (fun v6 wr => ∃ (o2 : ByteArray) (d2 : D), v6 = .string o2 ∧ Aside0 (DecAt wr g P d2) ∧ Aside0 (Going l (B ++ b) d2 ((full l B).out ++ o2)) ∧ Aside0 (Mv g w wr)) (fun _ wr => heldOf g wr)
 case atStart => exact ⟨⟨#[]⟩, _, rfl, HD1, ⟨by rw [ba_append_nil]; exact HG.out⟩, ⟨(Mv.refl g w).set_ 6 _⟩⟩
 case round =>
  obtain ⟨o2, d2, rfl, HD2, HG2, HM2⟩ := hrel
  have HX := Aside0.mk (HNX.out _ d2 _ HD2.out (HDI.out.step HM2.out) HG2.out)
  obtain ⟨gn1, gn2⟩ := HGN.out d2 _ HG2.out
  obtain ⟨n1, hn1⟩ : ∃ n1, n1 = (nextD l d2).1 := ⟨_, rfl⟩
  obtain ⟨n2, hn2⟩ : ∃ n2, n2 = (nextD l d2).2.1 := ⟨_, rfl⟩
  obtain ⟨n3, hn3⟩ : ∃ n3, n3 = (nextD l d2).2.2 := ⟨_, rfl⟩
  rw [← hn1, ← hn2, ← hn3] at gn1 gn2 HX
  have hb2 := HG2.out.bound
  have hl2 := HG2.out.le
  have hz := HZ.out
  rw [ByteArray.size_append] at hb2
  cases n3 with
  | true =>
   obtain ⟨g1, g2, g3⟩ := gn1 rfl
   have HG3 := Aside0.mk g1
   have HLT := Aside0.mk g2
   have u2 : ¬ 9223372036854775807 < o2.size + n2.size := by omega
   clear gn1 gn2 hn1 hn2 hn3 hb2 hl2 hz g1 g2 g3
   go_wp2_with fail
   refine HX.out.mono ?_
   rintro e w3 ⟨rfl, hd3, hm3⟩
   have HD3 := Aside0.mk hd3
   have HM3 := Aside0.mk (HM2.out.trans hm3)
   clear hd3 hm3
   go_wp2_with fail
   go_roundw
   case rel => exact ⟨o2 ++ n2, n1, rfl, HD3, ⟨by rw [← ba_assoc]; exact HG3.out⟩, HM3⟩
   case measure =>
    rw [heldOf_is HD3.out, heldOf_is HD2.out]
    exact HLT.out
  | false =>
   obtain ⟨g1, g2, g3⟩ := gn2 rfl
   have HR := Aside0.mk g3
   have HO := Aside0.mk g2
   have HER := Aside0.mk (rel_err g3)
   clear gn1 gn2 hn1 hn2 hn3 hb2 hl2 hz g1 g2 g3
   go_wp2_with fail
   refine HX.out.mono ?_
   rintro e w3 ⟨rfl, hd3, hm3⟩
   have HD3 := Aside0.mk hd3
   have HM3 := Aside0.mk (HM2.out.trans hm3)
   have c9 := hd3.c9
   rw [HER.out] at c9
   obtain ⟨ev, hev⟩ : ∃ ev, ev = errV (full l (B ++ b)).code ((full l (B ++ b)).at_ : Int) := ⟨_, rfl⟩
   rw [← hev] at c9
   have HEV := Aside0.mk hev
   clear hd3 hm3 hev
   go_wp2_with fail
   go_quiet (fail)
   go_wp2_with fail
   go_ret2
   refine ⟨o2, n1, by rw [← HEV.out]; rfl, HO.out.symm, HD3.out.below (by repeat (first | exact Below.refl _ _ | apply below_drew | apply pw_below_drewN)), HR.out, HM3.out.then (by repeat (first | exact Below.refl _ _ | apply below_drew | apply pw_below_drewN))⟩
theorem scan_bound (l : List ByteArray) (hl : l.length ≤ 100) (hs : ∀ s ∈ l, 1 ≤ s.size ∧ s.size ≤ 40) (how : Nat) (hh : how ≤ 1) (blk : Nat) (B : ByteArray) : ∀ (x a : Nat) (out : ByteArray), a ≤ B.size → B.size ≤ a + x → out.size ≤ 1024 * a → (scanF l how blk B a out).out.size ≤ 1024 * (scanF l how blk B a out).at_ := by
 intro x
 induction x using Nat.strongRecOn with
 | ind x ih =>
  intro a out ha hx hb
  by_cases g1 : (frameR (B.extract a B.size) blk).e = 2
  ·rw [scan_wait ha g1]; exact hb
  by_cases g2 : (frameR (B.extract a B.size) blk).e = 0
  ·obtain ⟨n5, nz, _, hf⟩ := frame_n _ _ g2
   rw [ext_all] at nz
   by_cases hk : (frameR (B.extract a B.size) blk).kind = 0
   ·by_cases hr : (frameR (B.extract a B.size) blk).raw = out.size % 4294967296
    ·rw [scan_end ha g2 hk hr]
     show out.size ≤ 1024 * (a + _)
     omega
    ·rw [scan_length ha g2 hk hr]; exact hb
   ·obtain ⟨hk2, hr2, hp2⟩ := hf.resolve_left (fun q => hk q.1)
    by_cases hg : (getR l how (frameR (B.extract a B.size) blk).kind (frameR (B.extract a B.size) blk).raw (frameR (B.extract a B.size) blk).pay).2 = 0
    ·by_cases hq : crcR (u (getR l how (frameR (B.extract a B.size) blk).kind (frameR (B.extract a B.size) blk).raw (frameR (B.extract a B.size) blk).pay).1) = (frameR (B.extract a B.size) blk).sum
     ·rw [scan_more ha g2 hk hg hq]
      obtain ⟨_, z2, _⟩ := getR_ok hl hs how (frameR (B.extract a B.size) blk).kind (frameR (B.extract a B.size) blk).raw (frameR (B.extract a B.size) blk).pay (by omega) (by omega) (by omega)
      have z3 := z2 hg
      exact ih (x - (frameR (B.extract a B.size) blk).n) (by omega) _ _ (by omega) (by omega) (grow_bound hb (by omega) n5)
     ·rw [scan_sum ha g2 hk hg hq]; exact hb
    ·rw [scan_get ha g2 hk hg]; exact hb
  ·rw [scan_bad ha g1 g2]; exact hb
theorem full_bound {l : List ByteArray} (hl : l.length ≤ 100) (hs : ∀ s ∈ l, 1 ≤ s.size ∧ s.size ≤ 40) (B : ByteArray) : (full l B).out.size ≤ 1024 * (full l B).at_ := by
 unfold full
 split
 ·exact Nat.zero_le _
 ·split
  ·exact Nat.zero_le _
  ·split
   ·exact Nat.zero_le _
   ·exact scan_bound l hl hs _ (head_c B).1 _ B B.size 17 _ (by omega) (by omega) (Nat.zero_le _)
theorem feed_any {w : World} {g : Nat} {P : Value} {d : D} {l : List ByteArray} {B : ByteArray} (h : DecAt w g P d) (hdi : DicF g w P l) {ad : Addr} (hP : P = .pointer (some ad)) (hl : l.length ≤ 100) (hs : ∀ s ∈ l, 1 ≤ s.size ∧ s.size ≤ 40) (hr : Rel l B d) (b : ByteArray) (hz : (B ++ b).size ≤ 900000) :
  Calls Tryz.prog 43 #[.pointer (some ⟨g, 0, none⟩), .string b] w fun e w' => ∃ o d', e = .returned (.tuple #[.string o, errV (full l (B ++ b)).code ((full l (B ++ b)).at_ : Int)]) ∧ (full l B).out ++ o = (full l (B ++ b)).out ∧ DecAt w' g P d' ∧ Rel l (B ++ b) d' ∧ Mv g w w' := by
 by_cases hc : (full l B).code = 0
 ·exact feed_ok h hdi hP hl hs hr hc (full_bound hl hs B) b hz
 ·refine (feed_bad h hP hr hc b).mono ?_
  rintro e w' ⟨rfl, hd, hm⟩
  have hf := full_err hc b
  exact ⟨⟨#[]⟩, d, by rw [hf], by rw [hf, ba_append_nil], hd, ⟨fun q => absurd (by rw [← hf]; exact q) hc, fun _ => by rw [hf]; exact hr.2 hc⟩, hm⟩
end Go.Proofs.YtepgkimlmoikmaaGreat
