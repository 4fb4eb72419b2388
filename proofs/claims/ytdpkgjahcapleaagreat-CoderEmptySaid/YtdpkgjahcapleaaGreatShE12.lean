/- ShE: a part of its proof (contracts of the functions that it reaches, and the plain mathematics behind them). -/
import Derived.Test.YtdpkgjahcapleaaGreatShE11
set_option linter.unusedVariables false
set_option linter.unusedSimpArgs false
set_option linter.unusedVariables false
set_option linter.unusedSimpArgs false
namespace Go.Proofs.YtdpkgjahcapleaaGreat.Bridge
open Go.RowKit Go.Proofs.YtdpkgjahcapleaaGreat.Leaf Go.Proofs.YtdpkgjahcapleaaGreat.Spec Go.Proofs.YtdpkgjahcapleaaGreatW.PrintWords Go.Proofs.YtdpkgjahcapleaaGreatW.PrintLast Go.Proofs.YtdpkgjahcapleaaGreatW.PrintMore

def fndI (s : ByteArray) (l : List ByteArray) : Int := match fnd s l with | some k => (k : Int) | none => -1
def fndAt (s : ByteArray) (i : Nat) (t : List ByteArray) : Int := match fnd s t with | some k => ((i + k : Nat) : Int) | none => -1
theorem fndAt_here {s : ByteArray} (i : Nat) (t : List ByteArray) : fndAt s i (s :: t) = (i : Int) := by unfold fndAt fnd; rw [if_pos rfl]; simp
theorem fndAt_next {s x : ByteArray} (h : x ≠ s) (i : Nat) (t : List ByteArray) : fndAt s i (x :: t) = fndAt s (i + 1) t := by
  have e : fnd s (x :: t) = (fnd s t).map (· + 1) := by rw [fnd, if_neg h]
  unfold fndAt
  rw [e]
  cases fnd s t with
  | none => rfl
  | some k => simp only [Option.map_some]; omega
theorem index_l0 (l : List ByteArray) (s : ByteArray) (hl : l.length ≤ 140737488351232) (t : List ByteArray) : ∀ i : Nat, i ≤ l.length → l.drop i = t → Ev (fun k => slices_Index_string_string.l0 k l s (l.length : Int) (i : Int)) (fndAt s i t) := by
  induction t with
  | nil =>
    intro i hi h
    have : l.length = i := by have := congrArg List.length h; rw [List.length_drop] at this; simp at this; omega
    refine Ev.step (f := fun _ => some _) (fun k => ?_) (Ev.now _)
    simp only [slices_Index_string_string.l0]
    rw [if_neg (by omega)]
    rfl
  | cons x t ih =>
    intro i hi h
    obtain ⟨hlt, hx, hd⟩ := drop_cons h
    by_cases e : x = s
    · subst e
      rw [fndAt_here]
      refine Ev.step (f := fun _ => some _) (fun k => ?_) (Ev.now _)
      simp only [slices_Index_string_string.l0]
      rw [if_pos (by omega), if_pos (by omega), if_pos (by omega), rdOf_get l i hlt, hx, if_pos rfl]
    · rw [fndAt_next e]
      refine Ev.step (fun k => ?_) (ih (i + 1) (by omega) hd)
      simp only [slices_Index_string_string.l0]
      rw [if_pos (by omega), if_pos (by omega), if_pos (by omega), rdOf_get l i hlt, hx, if_neg (fun h => e (str_iff.1 h).symm), wrS i (by omega)]
theorem fndAt_zero (s : ByteArray) (l : List ByteArray) : fndAt s 0 l = fndI s l := by
  unfold fndAt fndI
  cases fnd s l with
  | none => rfl
  | some k => simp
theorem index_ev (l : List ByteArray) (s : ByteArray) (hl : l.length ≤ 140737488351232) : Ev (fun k => slices_Index_string_string.f k l s) (fndI s l) := by
  have := index_l0 l s hl l 0 (by omega) rfl
  rw [fndAt_zero] at this
  exact Ev.congr (fun k => rfl) this
theorem fndI_has (s : ByteArray) (l : List ByteArray) : decide (fndI s l ≥ 0) = decide (s ∈ l) := by
  rw [decide_eq_decide]
  unfold fndI
  cases h : fnd s l with
  | none => simp only; exact ⟨fun h => absurd h (by omega), fun h2 => absurd h2 (fnd_none.1 h)⟩
  | some k =>
    simp only
    refine ⟨fun _ => ?_, fun _ => by omega⟩
    obtain ⟨h1, h2⟩ := fnd_some h
    rw [← h2]; exact List.getElem_mem h1
theorem contains_ev (l : List ByteArray) (s : ByteArray) (hl : l.length ≤ 140737488351232) : Ev (fun k => slices_Contains_string_string.f k l s) (decide (s ∈ l)) := by
  refine Ev.congr (f := fun k => (slices_Index_string_string.f k l s).bind fun t102 => (some (decide (t102 ≥ 0)))) (fun k => rfl) ?_
  refine Ev.bind (index_ev l s hl) ?_
  rw [fndI_has]
  exact Ev.now _
theorem find_l0 (l : List ByteArray) (s : ByteArray) (hl : l.length ≤ 140737488351232) (t : List ByteArray) : ∀ i : Nat, i ≤ l.length → l.drop i = t → Ev (fun k => lexiphaneref1_Find.l0 k l s (i : Int)) (fndAt s i t) := by
  induction t with
  | nil =>
    intro i hi h
    have : l.length = i := by have := congrArg List.length h; rw [List.length_drop] at this; simp at this; omega
    refine Ev.step (f := fun _ => some _) (fun k => ?_) (Ev.now _)
    simp only [lexiphaneref1_Find.l0]
    rw [if_neg (by omega)]
    rfl
  | cons x t ih =>
    intro i hi h
    obtain ⟨hlt, hx, hd⟩ := drop_cons h
    by_cases e : x = s
    · subst e
      rw [fndAt_here]
      refine Ev.step (f := fun _ => some _) (fun k => ?_) (Ev.now _)
      simp only [lexiphaneref1_Find.l0]
      rw [if_pos (by omega), if_pos (by omega), rdOf_get l i hlt, hx, if_pos rfl]
    · rw [fndAt_next e]
      refine Ev.step (fun k => ?_) (ih (i + 1) (by omega) hd)
      simp only [lexiphaneref1_Find.l0]
      rw [if_pos (by omega), if_pos (by omega), rdOf_get l i hlt, hx, if_neg (fun h => e (str_iff.1 h)), wrS i (by omega)]
theorem find_ev (l : List ByteArray) (s : ByteArray) (hl : l.length ≤ 140737488351232) : Ev (fun k => lexiphaneref1_Find.f k l s) (fndI s l) := by
  have := find_l0 l s hl l 0 (by omega) rfl
  rw [fndAt_zero] at this
  exact Ev.congr (fun k => rfl) this
def phrR (x : Nat × Nat) : Int × Int := ((x.1 : Int), (x.2 : Int))
theorem phrases_l0 (l : List ByteArray) (hl : l.length ≤ 100) (hsz : ∀ s ∈ l, s.size ≤ 140737488351232) (t : List ByteArray) : ∀ (i sum : Nat), i ≤ l.length → sum ≤ 1000 → l.drop i = t →
    Ev (fun k => lexiphaneref1_Phrases.l0 k l (sum : Int) (i : Int)) (phrR (phr sum (l.take i) t)) := by
  induction t with
  | nil =>
    intro i sum hi hs h
    have : l.length = i := by have := congrArg List.length h; rw [List.length_drop] at this; simp at this; omega
    refine Ev.step (f := fun _ => some _) (fun k => ?_) (Ev.now _)
    simp only [lexiphaneref1_Phrases.l0]
    rw [if_neg (by omega)]
    rfl
  | cons x t ih =>
    intro i sum hi hs h
    obtain ⟨hlt, hx, hd⟩ := drop_cons h
    have hmem : x ∈ l := by rw [← hx]; exact List.getElem_mem hlt
    have hxs := hsz x hmem
    have hti : (l.take i).length = i := by rw [List.length_take]; omega
    unfold phr
    have ew := Aside0.mk (show wrap64 ((sum : Int) + (x.size : Int)) = ((sum + x.size : Nat) : Int) by rw [wr (by omega) (by omega)]; omega)
    by_cases h1 : x.size = 0
    · rw [if_pos h1]
      refine Ev.step (f := fun _ => some _) (fun k => ?_) (Ev.now _)
      simp only [lexiphaneref1_Phrases.l0]
      rw [if_pos (by omega), if_pos (by omega), rdOf_get l i hlt, hx, if_pos (empty_iff.2 h1)]
      unfold phrR
      rw [hti]
      rfl
    · rw [if_neg h1]
      have s1 : ∀ k, lexiphaneref1_Phrases.l0 (k + 1) l (sum : Int) (i : Int) = lexiphaneref1_Phrases.j1 k l ((sum + x.size : Nat) : Int) i (decide (40 < x.size ∨ 1000 < sum + x.size)) := by
        intro k
        simp only [lexiphaneref1_Phrases.l0]
        rw [if_pos (by omega), if_pos (by omega), rdOf_get l i hlt, hx, if_neg (fun h => h1 (empty_iff.1 h)), ew.out]
        by_cases h2 : 40 < x.size
        · rw [if_pos (by omega)]; congr 1; symm; rw [decide_eq_true_iff]; exact Or.inl h2
        · rw [if_neg (by omega)]; congr 1; rw [decide_eq_decide]; omega
      refine Ev.step s1 ?_
      by_cases h2 : 40 < x.size ∨ 1000 < sum + x.size
      · rw [if_pos h2]
        refine Ev.step (f := fun _ => some _) (fun k => ?_) (Ev.now _)
        simp only [lexiphaneref1_Phrases.j1]
        rw [if_pos (by simpa using h2)]
        unfold phrR
        rw [hti]
        rfl
      · rw [if_neg h2]
        have hf := find_ev l x (by omega)
        refine Ev.step (f := fun k => (lexiphaneref1_Find.f k l x).bind fun t131 => (if t131 < (i : Int) then (some (5, (i : Int))) else (lexiphaneref1_Phrases.l0 k l ((sum + x.size : Nat) : Int) (wrap64 ((i : Int) + 1))))) (fun k => ?_) ?_
        · simp only [lexiphaneref1_Phrases.j1]
          rw [if_neg (by simpa using h2), if_pos (by omega), if_pos (by omega), rdOf_get l i hlt, hx]
        · refine Ev.bind hf ?_
          have hsplit : l = l.take i ++ x :: t := by rw [← h, List.take_append_drop]
          by_cases h3 : x ∈ l.take i
          · rw [if_pos h3]
            obtain ⟨q, hq, hlq⟩ := fnd_early (x :: t) h3
            rw [← hsplit] at hq
            have : fndI x l = (q : Int) := by unfold fndI; rw [hq]
            rw [this]
            refine Ev.congr (f := fun _ => some _) (fun k => ?_) (Ev.now _)
            rw [if_pos (by omega)]
            unfold phrR
            rw [hti]
            rfl
          · rw [if_neg h3]
            have hq := fnd_here (b := t) h3
            rw [← hsplit, hti] at hq
            have : fndI x l = (i : Int) := by unfold fndI; rw [hq]
            rw [this]
            have hn := ih (i + 1) (sum + x.size) (by omega) (by omega) hd
            have e : l.take (i + 1) = l.take i ++ [x] := by rw [List.take_succ_eq_append_getElem hlt, hx]
            rw [e] at hn
            refine Ev.congr (fun k => ?_) hn
            rw [if_neg (by omega), wrS i (by omega)]
theorem phrases_ev (l : List ByteArray) (hsz : ∀ s ∈ l, s.size ≤ 140737488351232) : Ev (fun k => lexiphaneref1_Phrases.f k l) (phrR (phrases l)) := by
  unfold phrases
  by_cases h : 100 < l.length
  · rw [if_pos h]
    refine Ev.congr (f := fun _ => some _) (fun k => ?_) (Ev.now _)
    unfold lexiphaneref1_Phrases.f
    rw [if_pos (by omega)]
    rfl
  · rw [if_neg h]
    have := phrases_l0 l (by omega) hsz l 0 0 (by omega) (by omega) rfl
    refine Ev.congr (fun k => ?_) this
    unfold lexiphaneref1_Phrases.f
    rw [if_neg (by omega)]
    rfl
theorem few_l0 (l : List ByteArray) (hl : l.length ≤ 140737488351232) (hsz : ∀ s ∈ l, s.size ≤ 140737488351232) (t : List ByteArray) : ∀ (i : Nat) (sum : Int), i ≤ l.length → l.drop i = t →
    ∃ n, Ev (fun k => lexiphanelaw6_Few.l0 k l sum l (l.length : Int) (i : Int)) (decide (l.length ≤ 110 ∧ n ≤ 1300)) ∧ (l.length ≤ 110 → 0 ≤ sum → sum ≤ i * 140737488351232 → n = sum + total t) := by
  induction t with
  | nil =>
    intro i sum hi h
    have : l.length = i := by have := congrArg List.length h; rw [List.length_drop] at this; simp at this; omega
    refine ⟨sum, ?_, fun _ _ _ => by simp [total]⟩
    refine Ev.step (f := fun _ => some _) (fun k => ?_) (Ev.now _)
    simp only [lexiphanelaw6_Few.l0]
    rw [if_neg (by omega)]
    by_cases h110 : l.length ≤ 110
    · rw [if_pos (by omega)]; congr 1; rw [decide_eq_decide]; omega
    · rw [if_neg (by omega)]; congr 1; symm; rw [decide_eq_false_iff_not]; omega
  | cons x t ih =>
    intro i sum hi h
    obtain ⟨hlt, hx, hd⟩ := drop_cons h
    have hmem : x ∈ l := by rw [← hx]; exact List.getElem_mem hlt
    have hxs := hsz x hmem
    obtain ⟨n, hn, hn2⟩ := ih (i + 1) (wrap64 (sum + (x.size : Int))) (by omega) hd
    refine ⟨n, ?_, fun h110 h0 h1 => ?_⟩
    · refine Ev.step (fun k => ?_) hn
      simp only [lexiphanelaw6_Few.l0]
      rw [if_pos (by omega), if_pos (by omega), if_pos (by omega), rdOf_get l i hlt, hx, wrS i (by omega)]
    · have hw : wrap64 (sum + (x.size : Int)) = sum + (x.size : Int) := wr (by omega) (by omega)
      rw [hw] at hn2
      have := hn2 h110 (by omega) (by omega)
      rw [this]
      simp only [total]
      omega
def few (l : List ByteArray) : Bool := decide (l.length ≤ 110 ∧ total l ≤ 1300)
theorem few_ev (l : List ByteArray) (hl : l.length ≤ 140737488351232) (hsz : ∀ s ∈ l, s.size ≤ 140737488351232) : Ev (fun k => lexiphanelaw6_Few.f k l) (few l) := by
  obtain ⟨n, h1, h2⟩ := few_l0 l hl hsz l 0 0 (by omega) rfl
  have e : few l = decide (l.length ≤ 110 ∧ n ≤ 1300) := by
    unfold few
    rw [decide_eq_decide]
    by_cases h : l.length ≤ 110
    · have := h2 h (by omega) (by omega)
      omega
    · exact ⟨fun e => absurd e.1 h, fun e => absurd e.1 h⟩
  rw [e]
  exact Ev.congr (fun k => rfl) h1
theorem num_len {n : Nat} (h : n < 4294967296) : (num n).length ≤ 5 := by
  by_cases h1 : n < 128
  · rw [num_small h1]; simp
  · rw [num_big h1, List.length_cons]
    by_cases h2 : n / 128 < 128
    · rw [num_small h2]; simp
    · rw [num_big h2, List.length_cons]
      by_cases h3 : n / 128 / 128 < 128
      · rw [num_small h3]; simp
      · rw [num_big h3, List.length_cons]
        by_cases h4 : n / 128 / 128 / 128 < 128
        · rw [num_small h4]; simp
        · rw [num_big h4, List.length_cons, num_small (by omega)]; simp
def fnvStep (h : Int) (c : UInt8) : Int := IntKind.u64.wrap ((Go.bits .xor .u64 h (IntKind.u64.wrap (c.toNat : Int))) * 1099511628211)
def fnv (b : List UInt8) : Int := b.foldl fnvStep 14695981039346656037
end Go.Proofs.YtdpkgjahcapleaaGreat.Bridge
