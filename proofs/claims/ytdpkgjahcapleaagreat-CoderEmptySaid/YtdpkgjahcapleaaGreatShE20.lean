/- ShE: a part of its proof (contracts of the functions that it reaches, and the plain mathematics behind them). -/
import Derived.Test.YtdpkgjahcapleaaGreatShE19
import Derived.Deep.RegionHeld3
import Derived.Deep.QuietTactic
import Derived.BigQuiet
set_option linter.unusedVariables false
set_option linter.unusedSimpArgs false
set_option linter.unusedVariables false
set_option linter.unusedSimpArgs false
namespace Go.Proofs.YtdpkgjahcapleaaGreat
open Go.RowKit Go.Proofs.YtdpkgjahcapleaaGreat.Spec Go.Proofs.YtdpkgjahcapleaaGreatW.PrintWords Go.Proofs.YtdpkgjahcapleaaGreatW.PrintLast
open Go.Proofs.YtdpkgjahcapleaaGreatW.PrintMore
attribute [local go_sem ↓] Go.wp_at_zero Go.wp_at_succ
namespace Spec
def reach (l : List ByteArray) (b : ByteArray) (a n : Nat) : Nat := if a + n < b.size then a + n + (nxt l b (a + n)).2 else a + n
def bet (c o : Int × Nat × Nat) : Bool := if c.2.2 = o.2.2 then decide (o.2.1 < c.2.1) else decide (o.2.2 < c.2.2)
def flx (l : List ByteArray) (b : ByteArray) (a : Nat) : Nat → (Int × Nat × Nat) → Bool → List ByteArray → (Int × Nat × Nat) × Bool
  | _, c, s, [] => (c, s)
  | k, c, s, p :: r => if hp (b.extract a b.size) p = true then flx l b a (k + 1) (if bet (256 + (k : Int), p.size, reach l b a p.size) c = true then (256 + (k : Int), p.size, reach l b a p.size) else c) (s || p.size == 1) r else flx l b a (k + 1) c s r
def fone (l : List ByteArray) (b : ByteArray) (a : Nat) : Int × Nat × Nat := ((((u b).getD a 0).toNat : Int), 1, reach l b a 1)
def fnx (l : List ByteArray) (b : ByteArray) (a : Nat) : Int × Nat :=
  if (flx l b a 0 (0, 0, 0) false l).2 = false ∧ bet (fone l b a) (flx l b a 0 (0, 0, 0) false l).1 = true then ((fone l b a).1, (fone l b a).2.1) else ((flx l b a 0 (0, 0, 0) false l).1.1, (flx l b a 0 (0, 0, 0) false l).1.2.1)
end Spec
theorem flx_cons (l : List ByteArray) (b : ByteArray) (a k : Nat) (c : Int × Nat × Nat) (s : Bool) (p : ByteArray) (r : List ByteArray) : flx l b a k c s (p :: r) = if hp (b.extract a b.size) p = true then flx l b a (k + 1) (if bet (256 + (k : Int), p.size, reach l b a p.size) c = true then (256 + (k : Int), p.size, reach l b a p.size) else c) (s || p.size == 1) r else flx l b a (k + 1) c s r := rfl
theorem hp_size {b : ByteArray} {a : Nat} {p : ByteArray} (ha : a ≤ b.size) (h : hp (b.extract a b.size) p = true) : a + p.size ≤ b.size := by
  unfold hp at h
  rw [decide_eq_true_iff, u_cut] at h
  have := congrArg List.length h
  rw [List.length_take, List.length_take, List.length_drop, u_size, u_size] at this
  omega
def Fits (l : List ByteArray) (b : ByteArray) (a : Nat) (t : Int) (n : Nat) : Prop := Tok l t ∧ 1 ≤ n ∧ n ≤ 40 ∧ a + n ≤ b.size ∧ word l t = b.extract a (a + n)
theorem fits_one {l : List ByteArray} {b : ByteArray} {a : Nat} (ha : a < b.size) : Fits l b a (((u b).getD a 0).toNat : Int) 1 := by
  have h2 := UInt8.toNat_lt ((u b).getD a 0)
  refine ⟨⟨by omega, by omega⟩, Nat.le_refl 1, by omega, by omega, ?_⟩
  rw [word_low (by omega) (by omega)]
  apply u_inj
  rw [u_cut, Nat.add_sub_cancel_left, Int.toNat_natCast]
  have e : (u b).drop a = (u b).getD a 0 :: (u b).drop (a + 1) := by
    rw [List.getD_eq_getElem?_getD, List.getElem?_eq_getElem (by rw [u_size]; exact ha), Option.getD_some]
    exact List.drop_eq_getElem_cons (by rw [u_size]; exact ha)
  rw [e, List.take_succ_cons, List.take_zero]
  simp [u]
theorem fits_phrase {l : List ByteArray} {b : ByteArray} {a k : Nat} {p : ByteArray} (ha : a ≤ b.size) (hk : l[k]? = some p) (hs : 1 ≤ p.size ∧ p.size ≤ 40) (h : hp (b.extract a b.size) p = true) : Fits l b a (256 + (k : Int)) p.size := by
  have hlt : k < l.length := (List.getElem?_eq_some_iff.1 hk).1
  refine ⟨⟨by omega, by omega⟩, hs.1, hs.2, hp_size ha h, ?_⟩
  rw [word_high (by omega), show (256 + (k : Int)).toNat - 256 = k by omega, List.getD_eq_getElem?_getD, hk, Option.getD_some]
  unfold hp at h
  rw [decide_eq_true_iff, u_cut] at h
  apply u_inj
  rw [u_cut, Nat.add_sub_cancel_left, ← h, List.take_take]
  congr 1
  have := congrArg List.length h
  rw [List.length_take, List.length_take, List.length_drop, u_size, u_size] at this
  omega
theorem flx_fits {l : List ByteArray} (hs : ∀ s ∈ l, 1 ≤ s.size ∧ s.size ≤ 40) (b : ByteArray) (a : Nat) (ha : a < b.size) : ∀ (r : List ByteArray) (k : Nat) (c : Int × Nat × Nat) (s : Bool), l.drop k = r → ((c = (0, 0, 0) ∧ s = false) ∨ (Fits l b a c.1 c.2.1 ∧ 1 ≤ c.2.2)) → (((flx l b a k c s r).1 = (0, 0, 0) ∧ (flx l b a k c s r).2 = false) ∨ (Fits l b a (flx l b a k c s r).1.1 (flx l b a k c s r).1.2.1 ∧ 1 ≤ (flx l b a k c s r).1.2.2)) := by
  intro r
  induction r with
  | nil => intro k c s _ h; exact h
  | cons p r ih =>
    intro k c s hd h
    rw [flx_cons]
    have hk : l[k]? = some p := by
      have := congrArg (fun q => q[0]?) hd
      simpa using this
    have hd2 : l.drop (k + 1) = r := by rw [← List.drop_drop, hd]; rfl
    by_cases hh : hp (b.extract a b.size) p = true
    · rw [if_pos hh]
      refine ih _ _ _ hd2 ?_
      have hf := fits_phrase (Nat.le_of_lt ha) hk (hs p (List.mem_of_getElem? hk)) hh
      have hp1 := hf.2.1
      have hr : 1 ≤ reach l b a p.size := by unfold reach; split <;> omega
      by_cases hb : bet (256 + (k : Int), p.size, reach l b a p.size) c = true
      · rw [if_pos hb]
        exact .inr ⟨hf, hr⟩
      · rw [if_neg hb]
        rcases h with ⟨rfl, rfl⟩ | h
        · exfalso
          apply hb
          unfold bet
          rw [if_neg (show ¬ reach l b a p.size = 0 by omega)]
          exact decide_eq_true (show 0 < reach l b a p.size by omega)
        · exact .inr h
    · rw [if_neg hh]
      exact ih _ _ _ hd2 h
theorem fnx_fits {l : List ByteArray} (hs : ∀ s ∈ l, 1 ≤ s.size ∧ s.size ≤ 40) (b : ByteArray) (a : Nat) (ha : a < b.size) : Fits l b a (fnx l b a).1 (fnx l b a).2 := by
  have h := flx_fits hs b a ha l 0 (0, 0, 0) false rfl (.inl ⟨rfl, rfl⟩)
  unfold fnx
  split
  · exact fits_one ha
  · rename_i hn
    rcases h with ⟨h1, h2⟩ | h
    · exfalso
      apply hn
      refine ⟨h2, ?_⟩
      rw [h1]
      have hr : 1 ≤ reach l b a 1 := by unfold reach; split <;> omega
      unfold bet fone
      rw [if_neg (show ¬ reach l b a 1 = 0 by omega)]
      exact decide_eq_true (show 0 < reach l b a 1 by omega)
    · exact h.1
theorem lng_fits {l : List ByteArray} (hs : ∀ s ∈ l, 1 ≤ s.size ∧ s.size ≤ 40) (b : ByteArray) (a : Nat) (ha : a ≤ b.size) : ∀ (r : List ByteArray) (k : Nat) (q : Int × Nat), l.drop k = r → (q.1 < 0 ∨ ∃ j : Nat, q.1 = j ∧ Fits l b a (256 + (j : Int)) q.2) → ((lng (b.extract a b.size) k q r).1 < 0 ∨ ∃ j : Nat, (lng (b.extract a b.size) k q r).1 = j ∧ Fits l b a (256 + (j : Int)) (lng (b.extract a b.size) k q r).2) := by
  intro r
  induction r with
  | nil => intro k q _ h; exact h
  | cons p r ih =>
    intro k q hd h
    rw [lng_cons]
    have hk : l[k]? = some p := by
      have := congrArg (fun q => q[0]?) hd
      simpa using this
    have hd2 : l.drop (k + 1) = r := by rw [← List.drop_drop, hd]; rfl
    split
    · rename_i hh
      exact ih _ _ hd2 (.inr ⟨k, rfl, fits_phrase ha hk (hs p (List.mem_of_getElem? hk)) hh.2⟩)
    · exact ih _ _ hd2 h
theorem nxt_fits {l : List ByteArray} (hs : ∀ s ∈ l, 1 ≤ s.size ∧ s.size ≤ 40) (b : ByteArray) (a : Nat) (ha : a < b.size) : Fits l b a (nxt l b a).1 (nxt l b a).2 := by
  have h := lng_fits hs b a (Nat.le_of_lt ha) l 0 (-1, 0) rfl (.inl (by decide))
  unfold nxt
  split
  · exact fits_one ha
  · rename_i hn
    rcases h with h | ⟨j, h1, h2⟩
    · exact absurd h hn
    · show Fits l b a (256 + (lng (b.extract a b.size) 0 (-1, 0) l).1) _
      rw [h1]
      exact h2
end Go.Proofs.YtdpkgjahcapleaaGreat
set_option linter.unusedVariables false
set_option linter.unusedSimpArgs false
namespace Go.Proofs.YtdpkgjahcapleaaGreat
open Go.RowKit Go.Proofs.YtdpkgjahcapleaaGreat.Spec Go.Proofs.YtdpkgjahcapleaaGreatW.PrintWords Go.Proofs.YtdpkgjahcapleaaGreatW.PrintLast
open Go.Proofs.YtdpkgjahcapleaaGreatW.PrintMore
attribute [local go_sem ↓] Go.wp_at_zero Go.wp_at_succ
def ChAt (w : World) (g : Nat) (c : Int × Nat × Nat) : Prop := w.heap[g]? = some (.cells #[.int .i64 c.1, .int .i64 (c.2.1 : Int), .int .i64 (c.2.2 : Int)] 170 (0, 0))
theorem ChAt.c0 {w : World} {g : Nat} {c : Int × Nat × Nat} (h : ChAt w g c) : w.cell? ⟨g, 0, none⟩ = some (.int .i64 c.1) := (blk_cell h 0).trans rfl
theorem ChAt.c1 {w : World} {g : Nat} {c : Int × Nat × Nat} (h : ChAt w g c) : w.cell? ⟨g, 1, none⟩ = some (.int .i64 (c.2.1 : Int)) := (blk_cell h 1).trans rfl
theorem ChAt.c2 {w : World} {g : Nat} {c : Int × Nat × Nat} (h : ChAt w g c) : w.cell? ⟨g, 2, none⟩ = some (.int .i64 (c.2.2 : Int)) := (blk_cell h 2).trans rfl
theorem ChAt.fz {w : World} {g : Nat} {c : Int × Nat × Nat} (h : ChAt w g c) (j : Nat) : w.frozen? ⟨g, j, none⟩ = false := blk_frozen h j
theorem ChAt.alloc {w : World} {g : Nat} {c : Int × Nat × Nat} (h : ChAt w g c) (o : Obj) : ChAt (w.alloc o) g c := blk_alloc h o
theorem ChAt.put {w : World} {g : Nat} {c : Int × Nat × Nat} (h : ChAt w g c) (x : Int) (y z : Nat) : ChAt (((w.setCell ⟨g, 0, none⟩ (.int .i64 x)).setCell ⟨g, 1, none⟩ (.int .i64 (y : Int))).setCell ⟨g, 2, none⟩ (.int .i64 (z : Int))) g (x, y, z) := blk_put (blk_put (blk_put h 0 _ rfl) 1 _ rfl) 2 _ rfl
namespace Spec
def fpar (l : List ByteArray) (b : ByteArray) : Nat → Nat → List Int
  | 0, _ => []
  | f + 1, a => if a < b.size then (fnx l b a).1 :: fpar l b f (a + (fnx l b a).2) else []
def tks (nx : Nat → Int × Nat) (n : Nat) : Nat → Nat → List Int
  | 0, _ => []
  | f + 1, a => if a < n then (nx a).1 :: tks nx n f (a + (nx a).2) else []
end Spec
theorem fpar_succ (l : List ByteArray) (b : ByteArray) (f a : Nat) : fpar l b (f + 1) a = if a < b.size then (fnx l b a).1 :: fpar l b f (a + (fnx l b a).2) else [] := rfl
theorem tks_succ (nx : Nat → Int × Nat) (n f a : Nat) : tks nx n (f + 1) a = if a < n then (nx a).1 :: tks nx n f (a + (nx a).2) else [] := rfl
theorem fpar_tks (l : List ByteArray) (b : ByteArray) : ∀ f a, fpar l b f a = tks (fnx l b) b.size f a := by
  intro f
  induction f with
  | zero => intro a; rfl
  | succ f ih => intro a; rw [fpar_succ, tks_succ, ih]
theorem par_tks (l : List ByteArray) (b : ByteArray) : ∀ f a, par l b f a = tks (nxt l b) b.size f a := by
  intro f
  induction f with
  | zero => intro a; rfl
  | succ f ih => intro a; rw [par_succ, tks_succ, ih]
theorem tks_len (nx : Nat → Int × Nat) (n : Nat) : ∀ f a, (tks nx n f a).length ≤ f := by
  intro f
  induction f with
  | zero => intro a; exact Nat.le_refl 0
  | succ f ih =>
    intro a
    rw [tks_succ]
    split
    · have := ih (a + (nx a).2)
      rw [List.length_cons]
      omega
    · exact Nat.zero_le _
theorem tks_tok {l : List ByteArray} {b : ByteArray} {nx : Nat → Int × Nat} (h : ∀ a, a < b.size → Fits l b a (nx a).1 (nx a).2) : ∀ f a, ∀ t ∈ tks nx b.size f a, Tok l t := by
  intro f
  induction f with
  | zero => intro a t ht; cases ht
  | succ f ih =>
    intro a t ht
    rw [tks_succ] at ht
    split at ht
    · rename_i hlt
      rcases List.mem_cons.1 ht with rfl | ht
      · exact (h a hlt).1
      · exact ih _ t ht
    · cases ht
theorem tks_cat {l : List ByteArray} {b : ByteArray} {nx : Nat → Int × Nat} (h : ∀ a, a < b.size → Fits l b a (nx a).1 (nx a).2) : ∀ f a, a ≤ b.size → b.size ≤ a + f → cat l (tks nx b.size f a) = b.extract a b.size := by
  intro f
  induction f with
  | zero =>
    intro a h1 h2
    have : a = b.size := by omega
    subst this
    apply u_inj
    rw [u_cut, Nat.sub_self, List.take_zero]
    rfl
  | succ f ih =>
    intro a h1 h2
    rw [tks_succ]
    split
    · rename_i hlt
      obtain ⟨e1, e2, e3, e4, e5⟩ := h a hlt
      rw [cat, ih _ e4 (by omega), e5]
      apply u_inj
      rw [u_app, u_cut, u_cut, u_cut, Nat.add_sub_cancel_left]
      rw [← List.drop_drop, show b.size - a = (nx a).2 + (b.size - (a + (nx a).2)) by omega, List.take_add]
    · have : a = b.size := by omega
      subst this
      apply u_inj
      rw [u_cut, Nat.sub_self, List.take_zero]
      rfl
theorem extract_all (b : ByteArray) : b.extract 0 b.size = b := by
  apply u_inj
  rw [u_cut, List.drop_zero, Nat.sub_zero, List.take_of_length_le (by rw [u_size]; exact Nat.le_refl _)]
end Go.Proofs.YtdpkgjahcapleaaGreat
