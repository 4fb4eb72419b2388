/- ShNone: a part of its proof (contracts of the functions that it reaches, and the plain mathematics behind them). -/
import Derived.Test.YtdpkgjahcapleaaGreatShNone28
set_option linter.unusedVariables false
set_option linter.unusedSimpArgs false
set_option linter.unusedVariables false
set_option linter.unusedSimpArgs false
namespace Go.Proofs.YtdpkgjahcapleaaGreat
open Go.RowKit Go.Proofs.YtdpkgjahcapleaaGreat.Spec Go.Proofs.YtdpkgjahcapleaaGreatW.PrintWords Go.Proofs.YtdpkgjahcapleaaGreatW.PrintLast
open Go.Proofs.YtdpkgjahcapleaaGreatW.PrintMore
attribute [local go_sem ↓] Go.wp_at_zero Go.wp_at_succ
attribute [local go_sem] max2_int min2_int max_two min_two
theorem meanM_ok {σ : Type} (tok err : σ → Int) (step : σ → σ) (fin : σ → Bool) {l : List ByteArray} (hs : ∀ s ∈ l, 1 ≤ s.size ∧ s.size ≤ 40) (raw : Nat) (he : ∀ x, err x ≠ 1) : ∀ (f : Nat) (s : ByteArray) (x : σ), s.size ≤ raw → raw ≤ s.size + f →
    (meanM tok err step fin l raw f s x).2 ≠ 1 ∧ ((meanM tok err step fin l raw f s x).2 = 0 → (meanM tok err step fin l raw f s x).1.size = raw) ∧ ((meanM tok err step fin l raw f s x).2 ≠ 0 → (meanM tok err step fin l raw f s x).1 = ⟨#[]⟩) := by
  have hend : ∀ (s : ByteArray) (x : σ), s.size = raw → (if fin x = true then (s, (0 : Int)) else (⟨#[]⟩, 13)).2 ≠ 1 ∧ ((if fin x = true then (s, (0 : Int)) else (⟨#[]⟩, 13)).2 = 0 → (if fin x = true then (s, (0 : Int)) else (⟨#[]⟩, 13)).1.size = raw) ∧ ((if fin x = true then (s, (0 : Int)) else (⟨#[]⟩, 13)).2 ≠ 0 → (if fin x = true then (s, (0 : Int)) else (⟨#[]⟩, 13)).1 = ⟨#[]⟩) := by
    intro s x h
    split
    · exact ⟨show ¬ (0 : Int) = 1 by decide, fun _ => h, fun h => absurd rfl h⟩
    · exact ⟨show ¬ (13 : Int) = 1 by decide, fun h => absurd h (show ¬ (13 : Int) = 0 by decide), fun _ => rfl⟩
  intro f
  induction f with
  | zero =>
    intro s x h1 h2
    rw [meanM]
    exact hend s x (by omega)
  | succ f ih =>
    intro s x h1 h2
    rw [meanM]
    by_cases g1 : raw ≤ s.size
    · rw [if_pos g1]; exact hend s x (by omega)
    · rw [if_neg g1]
      by_cases g2 : err x = 0
      · rw [if_neg (fun n => n g2)]
        by_cases g3 : Tok l (tok x)
        · rw [if_neg (fun n => n g3)]
          by_cases g4 : raw < s.size + (word l (tok x)).size
          · rw [if_pos g4]; exact ⟨show ¬ (12 : Int) = 1 by decide, fun h => absurd h (show ¬ (12 : Int) = 0 by decide), fun _ => rfl⟩
          · rw [if_neg g4]
            have hw := (word_size hs g3).1
            exact ih _ _ (by rw [ByteArray.size_append]; omega) (by rw [ByteArray.size_append]; omega)
        · rw [if_pos g3]; exact ⟨show ¬ (9 : Int) = 1 by decide, fun h => absurd h (show ¬ (9 : Int) = 0 by decide), fun _ => rfl⟩
      · rw [if_pos g2]; exact ⟨he x, fun h => absurd h g2, fun _ => rfl⟩
theorem getR_ok {l : List ByteArray} (hl : l.length ≤ 100) (hs : ∀ s ∈ l, 1 ≤ s.size ∧ s.size ≤ 40) (how kind raw : Int) (pay : ByteArray) (h1 : 0 ≤ how ∧ how ≤ 1) (h2 : kind = 1 ∨ kind = 2) (h3 : 1 ≤ raw ∧ raw ≤ 1024) :
    (getR l how kind raw pay).2 ≠ 1 ∧ ((getR l how kind raw pay).2 = 0 → ((getR l how kind raw pay).1.size : Int) = raw) ∧ ((getR l how kind raw pay).2 ≠ 0 → (getR l how kind raw pay).1 = ⟨#[]⟩) := by
  unfold getR
  rw [if_neg (by omega)]
  obtain ⟨n, rfl⟩ : ∃ n : Nat, raw = n := ⟨raw.toNat, by omega⟩
  rw [Int.toNat_natCast]
  have cast : ∀ r : ByteArray × Int, (r.2 ≠ 1 ∧ (r.2 = 0 → r.1.size = n) ∧ (r.2 ≠ 0 → r.1 = ⟨#[]⟩)) → (r.2 ≠ 1 ∧ (r.2 = 0 → (r.1.size : Int) = (n : Int)) ∧ (r.2 ≠ 0 → r.1 = ⟨#[]⟩)) := fun r ⟨a, b, c⟩ => ⟨a, fun h => by rw [b h], c⟩
  rcases h2 with rfl | rfl
  · rw [if_neg (by decide)]
    by_cases g : (pay.size : Int) = n
    · rw [if_neg (fun k => k g)]; exact ⟨show ¬ (0 : Int) = 1 by decide, fun _ => g, fun h => absurd rfl h⟩
    · rw [if_pos g]; exact ⟨show ¬ (12 : Int) = 1 by decide, fun h => absurd h (show ¬ (12 : Int) = 0 by decide), fun _ => rfl⟩
  · rw [if_pos rfl]
    apply cast
    unfold meantR
    by_cases g : how = 0
    · rw [if_pos g]
      unfold numR
      exact meanM_ok _ _ _ _ hs n (fun s => by rcases un_codes (u s) 0 0 with e | e | e | e <;> rw [e] <;> decide) n _ _ (Nat.zero_le _) (by show n ≤ 0 + n; omega)
    · rw [if_neg g]
      obtain ⟨hc, ho⟩ := TabB.getS_ok pay (256 + l.length) (by omega)
      change (lensOf l pay).2.2 = 0 ∨ (lensOf l pay).2.2 = 2 ∨ (lensOf l pay).2.2 = 3 at hc
      by_cases k : (lensOf l pay).2.2 = 0
      · rw [if_neg (fun n => n k)]
        obtain ⟨_, h6, _⟩ := ho k
        change TabMath.AllSixt (lensOf l pay).1 at h6
        by_cases k2 : cright (lensOf l pay).1 = 0
        · rw [if_neg (fun n => n k2)]
          unfold codR
          exact meanM_ok _ _ _ _ hs n (fun a => by rcases (nextF_ok (lensOf l pay).1 (pay.extract (lensOf l pay).2.1.toNat pay.size) a (8 * (pay.extract (lensOf l pay).2.1.toNat pay.size).size - a) (maxL (lensOf l pay).1).toNat 1).2.1 with e | e | e <;> (unfold nextT; rw [e]; decide)) n _ _ (Nat.zero_le _) (by show n ≤ 0 + n; omega)
        · rw [if_pos k2]
          refine ⟨?_, fun h => absurd h k2, fun _ => rfl⟩
          show ¬ cright (lensOf l pay).1 = 1
          unfold cright
          rw [if_neg]
          · split <;> decide
          · rw [List.any_eq_true]
            rintro ⟨x, hx, hd⟩
            have h7 := h6 x hx
            have h8 := of_decide_eq_true hd
            unfold TabMath.Sixt at h7
            unfold Out15 at h8
            omega
      · rw [if_pos k]
        exact ⟨show ¬ (lensOf l pay).2.2 = 1 by omega, fun h => absurd h k, fun _ => rfl⟩
end Go.Proofs.YtdpkgjahcapleaaGreat
