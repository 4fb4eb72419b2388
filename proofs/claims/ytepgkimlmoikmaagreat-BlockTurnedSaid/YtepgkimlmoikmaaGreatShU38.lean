/- ShU: a part of its proof (contracts of the functions that it reaches, and the plain mathematics behind them). -/
import Derived.Test.YtepgkimlmoikmaaGreatShU46
import Derived.Test.YtepgkimlmoikmaaGreatShU35
set_option linter.unusedVariables false
set_option linter.unusedSimpArgs false
set_option maxHeartbeats 2000000
set_option maxRecDepth 100000
set_option linter.unusedVariables false
set_option linter.unusedSimpArgs false
namespace Go.Proofs.YtepgkimlmoikmaaGreat
open Go.RowKit Go.Proofs.YtepgkimlmoikmaaGreat.Spec Go.Proofs.YtepgkimlmoikmaaGreatW.PrintWords Go.Proofs.YtepgkimlmoikmaaGreatW.PrintLast
open Go.Proofs.YtepgkimlmoikmaaGreatW.PrintMore
attribute [local go_sem ↓] Go.wp_at_zero Go.wp_at_succ
attribute [local go_sem] max2_int min2_int max_two min_two
open Pk
theorem kraftL_app (a b : List Int) : kraftL (a ++ b) = kraftL a + kraftL b := by
 induction a with
 | nil => show kraftL b = 0 + kraftL b; omega
 | cons x r ih => rw [List.cons_append, kraftL, kraftL, ih]; omega
theorem usedL_app (a b : List Int) : usedL (a ++ b) = usedL a + usedL b := by
 induction a with
 | nil => show usedL b = 0 + usedL b; omega
 | cons x r ih => rw [List.cons_append, usedL, usedL, ih]; omega
theorem kraft_map (f : Nat → Nat) : ∀ n, kraftL ((List.range n).map fun s => ((f s : Nat) : Int)) = sumTo (fun s => kterm (f s)) n
 | 0 => rfl
 | n + 1 => by
  rw [List.range_succ, List.map_append, kraftL_app, kraft_map f n, sumTo]
  congr 1
  show (if 1 ≤ ((f n : Nat) : Int) ∧ ((f n : Nat) : Int) ≤ 15 then 2 ^ (15 - (((f n : Nat) : Int)).toNat) else 0) + 0 = kterm (f n)
  unfold kterm
  rw [Int.toNat_natCast, Nat.add_zero]
  by_cases h : 1 ≤ f n ∧ f n ≤ 15
  ·rw [if_pos h, if_pos (by omega)]
  ·rw [if_neg h, if_neg (by omega)]
theorem used_map (f : Nat → Nat) (s : Nat) : ∀ n, (∀ i, i < n → f i = if i = s then 1 else 0) → usedL ((List.range n).map fun s => ((f s : Nat) : Int)) = if s < n then 1 else 0
 | 0, _ => rfl
 | n + 1, h => by
  rw [List.range_succ, List.map_append, usedL_app, used_map f s n fun i hi => h i (by omega)]
  show _ + ((if 0 < ((f n : Nat) : Int) then 1 else 0) + 0) = _
  rw [h n (by omega)]
  by_cases e : n = s
  ·subst e
   rw [if_pos rfl, if_pos (show (0 : Int) < ((1 : Nat) : Int) by decide), if_neg (Nat.lt_irrefl _), if_pos (Nat.lt_succ_self _)]
  ·rw [if_neg e, if_neg (show ¬ (0 : Int) < ((0 : Nat) : Int) by decide)]
   by_cases g : s < n
   ·rw [if_pos g, if_pos (by omega)]
   ·rw [if_neg g, if_neg (by omega)]
theorem kraft_one (f : Nat → Nat) (s : Nat) : ∀ n, (∀ i, i < n → f i = if i = s then 1 else 0) → sumTo (fun s => kterm (f s)) n ≤ if s < n then 16384 else 0
 | 0, _ => by rw [sumTo]; omega
 | n + 1, h => by
  have ih := kraft_one f s n fun i hi => h i (by omega)
  rw [sumTo, h n (by omega)]
  by_cases e : n = s
  ·subst e
   rw [if_neg (by omega)] at ih
   rw [if_pos rfl, if_pos (by omega), show kterm 1 = 16384 from rfl]
   omega
  ·rw [if_neg e, show kterm 0 = 0 from rfl]
   by_cases g : s < n
   ·rw [if_pos g] at ih
    rw [if_pos (by omega)]
    omega
   ·rw [if_neg g] at ih
    rw [if_neg (by omega)]
    omega
theorem pack_one {xs : List PC} (h : xs.length = 1) : packL xs = [] := by
 have := pack_len xs
 rw [h] at this
 exact List.eq_nil_of_length_eq_zero this
theorem lvl_one {first : List PC} (h : first.length = 1) (hs : Srt first) : ∀ k, lvl first k = first
 | 0 => rfl
 | k + 1 => by rw [lvl_mrg hs, lvl_one h hs k, pack_one h, mrg_nil2]
theorem firstL_le (counts : List Int) : (firstL counts).length ≤ counts.length := by
 have h := symsL_len counts
 rw [← h]
 refine Nat.le_trans ?_ (Nat.le_of_eq (List.length_range (n := counts.length)))
 refine List.Nodup.length_le_of_subset (symsL_nodup counts) ?_
 intro s hs
 obtain ⟨c, hc, _⟩ := symsL_mem.1 hs
 exact List.mem_range.2 (List.getElem?_eq_some_iff.1 hc).1
theorem lens_alone (counts : List Int) (h : (firstL counts).length = 1) : ∃ s, s < counts.length ∧ symsL counts = [s] ∧ ∀ i, lenOf 15 counts i = if i = s then 1 else 0 := by
 obtain ⟨z, hz⟩ : ∃ z, firstL counts = [z] := by
  match firstL counts, h with
  | [z], _ => exact ⟨z, rfl⟩
 obtain ⟨k, h1, h2, h3⟩ := firstL_mem (counts := counts) (z := z) (by rw [hz]; exact List.mem_cons_self ..)
 have hsy : symsL counts = [k] := by unfold symsL; rw [hz, List.flatMap_cons, List.flatMap_nil, List.append_nil, h2]
 refine ⟨k, (List.getElem?_eq_some_iff.1 h1).1, hsy, fun i => ?_⟩
 unfold lenOf
 rw [lvl_one h (firstL_srt _), hz]
 have ht : takeN counts = 1 := by unfold takeN; rw [if_pos h]
 rw [ht]
 show cntS i [z] = _
 rw [cntS_cons, cntS_nil, h2, Nat.add_zero, List.count_singleton]
 by_cases e : i = k
 ·subst e; simp
 ·rw [if_neg e]
  have : (k == i) = false := by simpa using fun a => e a.symm
  rw [this]; rfl
theorem lens_right {m : Nat} {ns : List Nat} (hne : ns ≠ []) (hb : ∀ s ∈ ns, s < m) (hm : m ≤ 356) :
  cright (lensL 15 (cntN m ns)) = 0 ∧ kraftL (lensL 15 (cntN m ns)) ≤ 32768 ∧ Coded (lensL 15 (cntN m ns)) ns ∧ (lensL 15 (cntN m ns)).length = m ∧ sgl 0 (cntN m ns) ≠ [] := by
 have hlen : (lensL 15 (cntN m ns)).length = m := by rw [lensL_len, cntN_len]
 have hsy : ∀ s ∈ ns, s ∈ symsL (cntN m ns) := fun s hs => symsL_mem.2 ⟨_, cntN_get ns (hb s hs), by have := List.count_pos_iff.2 hs; omega⟩
 have hfl := firstL_le (cntN m ns)
 rw [cntN_len] at hfl
 obtain ⟨s0, hs0⟩ := List.exists_mem_of_ne_nil ns hne
 have hpos : 0 < (firstL (cntN m ns)).length := by rw [← symsL_len]; exact List.length_pos_of_mem (hsy s0 hs0)
 have hsg : sgl 0 (cntN m ns) ≠ [] := by intro e; rw [firstL_len, e] at hpos; exact absurd hpos (Nat.lt_irrefl _)
 have hkm : kraftL (lensL 15 (cntN m ns)) = sumTo (fun s => kterm (lenOf 15 (cntN m ns) s)) (cntN m ns).length := kraft_map _ _
 by_cases h2 : 2 ≤ (firstL (cntN m ns)).length
 ·obtain ⟨f1, f2, f3⟩ := lens_full (cntN m ns) h2 (by omega)
  have hk : kraftL (lensL 15 (cntN m ns)) = 32768 := hkm.trans f1
  have hall : ∀ i, lenOf 15 (cntN m ns) i ≤ 15 := fun i => by
   by_cases hi : i ∈ symsL (cntN m ns)
   ·exact (f2 i hi).2
   ·rw [f3 i hi]; omega
  refine ⟨?_, by omega, fun s hs => ⟨_, lensL_get 15 (cntN m ns) (by rw [cntN_len]; exact hb s hs), f2 s (hsy s hs)⟩, hlen, hsg⟩
  have hany : ¬ (lensL 15 (cntN m ns)).any (fun x => decide (Out15 x)) = true := by
   intro e
   obtain ⟨x, hx, hx2⟩ := List.any_eq_true.1 e
   obtain ⟨i, _, rfl⟩ := List.mem_map.1 hx
   have := hall i
   have := of_decide_eq_true hx2
   unfold Out15 at this
   omega
  unfold cright
  rw [if_neg hany, if_pos (.inl hk)]
 ·obtain ⟨s, a1, a2, a3⟩ := lens_alone (cntN m ns) (by omega)
  rw [cntN_len] at a1
  have hu : usedL (lensL 15 (cntN m ns)) = 1 := by
   unfold lensL
   rw [used_map _ s _ fun i _ => a3 i, cntN_len, if_pos a1]
  have hks := kraft_one (lenOf 15 (cntN m ns)) s (cntN m ns).length fun i _ => a3 i
  rw [cntN_len, if_pos a1] at hks
  rw [cntN_len] at hkm
  refine ⟨?_, by omega, fun t ht => ⟨1, ?_, by omega, by omega⟩, hlen, hsg⟩
  ·have hany : ¬ (lensL 15 (cntN m ns)).any (fun x => decide (Out15 x)) = true := by
    intro e
    obtain ⟨x, hx, hx2⟩ := List.any_eq_true.1 e
    obtain ⟨i, _, rfl⟩ := List.mem_map.1 hx
    have h15 := of_decide_eq_true hx2
    unfold Out15 at h15
    rw [a3] at h15
    split at h15 <;> omega
   have hin : (1 : Int) ∈ lensL 15 (cntN m ns) := by
    unfold lensL
    refine List.mem_map.2 ⟨s, List.mem_range.2 (by rw [cntN_len]; exact a1), ?_⟩
    rw [a3, if_pos rfl]
    rfl
   unfold cright
   rw [if_neg hany, if_pos (.inr ⟨hu, hin⟩)]
  ·have h1 := hsy t ht
   rw [a2, List.mem_singleton] at h1
   subst h1
   rw [lensL_get 15 _ (by rw [cntN_len]; exact a1), a3, if_pos rfl]
end Go.Proofs.YtepgkimlmoikmaaGreat
set_option linter.unusedVariables false
set_option linter.unusedSimpArgs false
namespace Go.Proofs.YtepgkimlmoikmaaGreat
open Go.RowKit Go.Proofs.YtepgkimlmoikmaaGreat.Spec Go.Proofs.YtepgkimlmoikmaaGreatW.PrintWords Go.Proofs.YtepgkimlmoikmaaGreatW.PrintLast
open Go.Proofs.YtepgkimlmoikmaaGreatW.PrintMore
attribute [local go_sem ↓] Go.wp_at_zero Go.wp_at_succ
attribute [local go_sem] max2_int min2_int max_two min_two
open Pk
namespace Spec
def bytC (L : List Int) (ns : List Nat) : ByteArray := str ((bytesB (codesB L ns)).map UInt8.ofNat)
theorem holdsC (L : List Int) (ns : List Nat) : Holds (bytC L ns) (codesB L ns) := u_str _
theorem bytC_size (L : List Int) (ns : List Nat) : (bytC L ns).size = ((codesB L ns).length + 7) / 8 := (holdsC L ns).size
abbrev lensC (m : Nat) (ns : List Nat) : List Int := lensL 15 (cntN m ns)
def payC (m : Nat) (ns : List Nat) : ByteArray := strOfNums (TabMath.enc 0 (lensC m ns)) ++ bytC (lensC m ns) ns
theorem intN_nat {toks : List Int} (h : ∀ t ∈ toks, 0 ≤ t) : intN (toks.map Int.toNat) = toks := by
 unfold intN
 rw [List.map_map]
 conv => rhs; rw [← List.map_id toks]
 exact List.map_congr_left fun t ht => Int.toNat_of_nonneg (h t ht)
theorem strOfNums_size (xs : List Int) : (strOfNums xs).size = xs.length := by unfold strOfNums; show (List.map _ xs).toArray.size = _; simp
def layR (l : List ByteArray) (q : Int) (toks : List Int) : ByteArray := if q = 0 then str (nums2 toks) else payC (256 + l.length) (toks.map Int.toNat)
theorem tok_nat {l : List ByteArray} {toks : List Int} (ht : ∀ t ∈ toks, Tok l t) : (∀ s ∈ toks.map Int.toNat, s < 256 + l.length) ∧ intN (toks.map Int.toNat) = toks := by
 refine ⟨fun s hs => ?_, intN_nat fun t h => (ht t h).1⟩
 obtain ⟨t, h1, rfl⟩ := List.mem_map.1 hs
 have := ht t h1
 unfold Tok at this
 omega
def putR (l : List ByteArray) (p q : Int) (wd : Nat) (b : ByteArray) : Nat × ByteArray := if (layR l q (toks l p wd b)).size < b.size then (2, layR l q (toks l p wd b)) else (1, b)
theorem putR_small (l : List ByteArray) (p q : Int) (wd : Nat) (b : ByteArray) : ((putR l p q wd b).1 = 1 ∧ (putR l p q wd b).2 = b) ∨ ((putR l p q wd b).1 = 2 ∧ (putR l p q wd b).2.size < b.size) := by
 unfold putR
 split
 ·rename_i h; exact .inr ⟨rfl, h⟩
 ·exact .inl ⟨rfl, rfl⟩
end Spec
end Go.Proofs.YtepgkimlmoikmaaGreat
