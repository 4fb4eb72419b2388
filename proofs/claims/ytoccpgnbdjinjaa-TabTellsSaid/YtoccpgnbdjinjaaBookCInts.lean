/- The book's functions over its lists (Ints): the marks, and what each function leaves in memory. -/
import Derived.Test.YtoccpgnbdjinjaaBookB
import Derived.Test.YtoccpgnbdjinjaaLeaf3
import Derived.Deep.RegionHeld3
import Derived.Deep.QuietTactic
set_option linter.unusedVariables false
set_option linter.unusedSimpArgs false
namespace Go.Proofs.Ytoccpgnbdjinjaa
open Go.RowKit Go.Proofs.YtoccpgnbdjinjaaW.PrintWords Go.Proofs.YtoccpgnbdjinjaaW.PrintLast Go.Proofs.YtoccpgnbdjinjaaW.PrintMore
attribute [local go_sem ↓] Go.wp_at_zero Go.wp_at_succ
namespace BookInts
def mk (i k : Int) : Int := wrap64 ((wrap64 ((wrap64 ((-1000000) * i)) - k)) - 7)
def marks (i x : Nat) (n : Nat) : List Int := (List.range' x n).map fun k => mk i (k : Nat)
theorem marks_length (i x n : Nat) : (marks i x n).length = n := by simp [marks]
theorem marks_succ (i x n : Nat) : marks i x (n + 1) = mk i x :: marks i (x + 1) n := by simp [marks, List.range'_succ]
theorem marks_append (i x m n : Nat) : marks i x m ++ marks i (x + m) n = marks i x (m + n) := by
  unfold marks
  rw [← List.map_append, List.range'_append_1]
theorem wr {x : Int} (h0 : 0 ≤ x) (h1 : x ≤ 9223372036854775807) : wrap64 x = x := by unfold wrap64; omega
theorem mark_l0 (i x0 n : Nat) (hb : x0 + n ≤ 1000000000) : ∀ (m x : Nat) (acc : List Int), x + m = x0 + n → acc.length + m ≤ 1000000000 → ∀ k, m < k →
    Leaf.lexiphanebook_markInts.l0 k i x0 n acc x = some (acc ++ marks i x m) := by
  intro m
  induction m with
  | zero =>
    intro x acc hx ha k hk
    obtain ⟨k, rfl⟩ : ∃ k', k = k' + 1 := ⟨k - 1, by omega⟩
    rw [Leaf.lexiphanebook_markInts.l0, wr (by omega) (by omega), if_neg (by omega)]
    simp [marks]
  | succ m ih =>
    intro x acc hx ha k hk
    obtain ⟨k, rfl⟩ : ∃ k', k = k' + 1 := ⟨k - 1, by omega⟩
    rw [Leaf.lexiphanebook_markInts.l0, wr (by omega) (by omega), if_pos (by omega)]
    have e : wrap64 ((x : Int) + 1) = ((x + 1 : Nat) : Int) := by rw [wr (by omega) (by omega)]; omega
    have hih := ih (x + 1) (acc ++ [mk i x]) (by omega) (by simp; omega) k (by omega)
    rw [if_pos (by omega), e]
    rw [List.append_assoc, List.singleton_append, ← marks_succ] at hih
    exact hih
theorem mark_f (i x0 n : Nat) (hb : x0 + n ≤ 1000000000) (k : Nat) (hk : n < k) : Leaf.lexiphanebook_markInts.f k i x0 n = some (marks i x0 n) := by
  have := mark_l0 i x0 n hb n x0 [] rfl (by simp; omega) k hk
  rwa [List.nil_append] at this
theorem mark_calls (i x0 n : Nat) (hb : x0 + n ≤ 1000000000) (w : World) : Calls Try.prog 44 #[.int .i64 (i : Int), .int .i64 (x0 : Int), .int .i64 (n : Int)] w fun e w' => ∃ v, e = .returned v ∧ Aside0 (w'.ownsRow w.heap.size 3 1 v n (encs (Value.int .i64) (marks i x0 n))) ∧ Below w.heap.size w w' := by
  refine (Leaf.lexiphanebook_markInts.calls (n + 1) i x0 n _ w (mark_f i x0 n hb (n + 1) (by omega))).mono ?_
  rintro e w' ⟨v, rfl, hR, hb⟩
  have := Kd.own_of_R hR
  rw [marks_length] at this
  exact ⟨v, rfl, ⟨this⟩, hb⟩
theorem same_l0 (l : List Int) (hl : l.length ≤ 1000000000) : ∀ (m j : Nat), j + m = l.length → ∀ k, m < k → Leaf.lexiphanebook_SameInts.l0 k l l j = some true := by
  intro m
  induction m with
  | zero =>
    intro j hj k hk
    obtain ⟨k, rfl⟩ : ∃ k', k = k' + 1 := ⟨k - 1, by omega⟩
    rw [Leaf.lexiphanebook_SameInts.l0, if_neg (by omega)]
  | succ m ih =>
    intro j hj k hk
    obtain ⟨k, rfl⟩ : ∃ k', k = k' + 1 := ⟨k - 1, by omega⟩
    have e : wrap64 ((j : Int) + 1) = ((j + 1 : Nat) : Int) := by rw [wr (by omega) (by omega)]; omega
    rw [Leaf.lexiphanebook_SameInts.l0, if_pos (by omega), if_pos (by omega), if_pos (by omega), if_pos rfl, e]
    exact ih (j + 1) (by omega) k (by omega)
theorem same_f (l : List Int) (hl : l.length ≤ 1000000000) (k : Nat) (hk : l.length < k) : Leaf.lexiphanebook_SameInts.f k l l = some true := by
  unfold Leaf.lexiphanebook_SameInts.f
  rw [if_pos rfl]
  exact same_l0 l hl l.length 0 (by omega) k hk
theorem same_calls {A A' : Option Addr} {c c' : Nat} (l : List Int) {w : World} (hr : (Kd.int .i64).C w A l.length l) (hc : l.length ≤ c) (hr' : (Kd.int .i64).C w A' l.length l) (hc' : l.length ≤ c') (hl : l.length ≤ 1000000000) :
    Calls Try.prog 16 #[.slice A l.length c, .slice A' l.length c'] w fun e w' => e = .returned (.bool true) ∧ Drawn0 w w' :=
  Leaf.lexiphanebook_SameInts.calls (l.length + 1) A c l A' c' l true w hr hc hr' hc' (same_f l hl (l.length + 1) (by omega))
theorem same_quiet {A A' : Option Addr} {c c' : Nat} (l : List Int) {w : World} (hr : (Kd.int .i64).C w A l.length l) (hc : l.length ≤ c) (hr' : (Kd.int .i64).C w A' l.length l) (hc' : l.length ≤ c') (hl : l.length ≤ 1000000000) (n : Nat) :
    Calls Try.prog 16 #[.slice A l.length c, .slice A' l.length c'] (w.drewN n) fun e w' => e = .returned (.bool true) ∧ ∃ m, w' = w.drewN m :=
  Calls.quiet_of ((same_calls l (Kd.C_drewN hr n) hc (Kd.C_drewN hr' n) hc' hl).mono fun e w' h => ⟨h.1, h.2.out⟩)
theorem marked_l0 (L : List (List Int)) (M : Nat) (hM : M ≤ 1000000000) (hL : L.length ≤ 1000000000) (h : ∀ (i : Nat) (l : List Int), L[i]? = some l → l = marks i 0 l.length ∧ l.length ≤ M) : ∀ (m i : Nat), i + m = L.length → ∀ k, m + M < k →
    Leaf.lexiphanebook_markedInts.l0 k L i = some true := by
  intro m
  induction m with
  | zero =>
    intro i hi k hk
    obtain ⟨k, rfl⟩ : ∃ k', k = k' + 1 := ⟨k - 1, by omega⟩
    rw [Leaf.lexiphanebook_markedInts.l0, if_neg (by omega)]
  | succ m ih =>
    intro i hi k hk
    obtain ⟨k, rfl⟩ : ∃ k', k = k' + 1 := ⟨k - 1, by omega⟩
    have e : wrap64 ((i : Int) + 1) = ((i + 1 : Nat) : Int) := by rw [wr (by omega) (by omega)]; omega
    have hlt : i < L.length := by omega
    obtain ⟨h1, h2⟩ := h i L[i] (List.getElem?_eq_getElem hlt)
    have hg : L.getD (i : Int).toNat ([] : List Int) = L[i] := by rw [Int.toNat_natCast, List.getD_eq_getElem?_getD, List.getElem?_eq_getElem hlt]; rfl
    have a1 : Leaf.lexiphanebook_markInts.f k i (0 : Int) ((L.getD (i : Int).toNat ([] : List Int)).length : Int) = some (L.getD (i : Int).toNat ([] : List Int)) := by
      rw [hg]
      have := mark_f i 0 L[i].length (by omega) k (by omega)
      rwa [← h1] at this
    have a2 : Leaf.lexiphanebook_SameInts.f k (L.getD (i : Int).toNat ([] : List Int)) (L.getD (i : Int).toNat ([] : List Int)) = some true := by
      rw [hg]; exact same_f _ (by omega) k (by omega)
    rw [Leaf.lexiphanebook_markedInts.l0, if_pos (by omega), if_pos (by omega)]
    refine (congrArg (fun o => Option.bind o _) a1).trans ?_
    rw [Option.bind_some]
    refine (congrArg (fun o => Option.bind o _) a2).trans ?_
    rw [Option.bind_some, if_pos rfl, e]
    exact ih (i + 1) (by omega) k (by omega)
theorem marked_calls {A : Option Addr} {c : Nat} (L : List (List Int)) (M : Nat) (hM : M ≤ 1000000000) (hL : L.length ≤ 1000000000) (h : ∀ (i : Nat) (l : List Int), L[i]? = some l → l = marks i 0 l.length ∧ l.length ≤ M) {w : World}
    (hr : Kd.C (Kd.slice 3 (Kd.int .i64)) w A L.length L) (hc : L.length ≤ c) : Calls Try.prog 35 #[.slice A L.length c] w fun e w' => e = .returned (.bool true) ∧ Below w.heap.size w w' :=
  Leaf.lexiphanebook_markedInts.calls (L.length + M + 1) A c L true w hr hc (marked_l0 L M hM hL h L.length 0 (by omega) _ (by omega))
end BookInts
end Go.Proofs.Ytoccpgnbdjinjaa
