/- ShU: a part of its proof (contracts of the functions that it reaches, and the plain mathematics behind them). -/
import Derived.Test.YtepgkimlmoikmaaGreatShU2
import Derived.SizedLaws
import Derived.ChangeSlices
import Derived.SliceStrings
set_option linter.unusedVariables false
set_option linter.unusedSimpArgs false
set_option maxHeartbeats 2000000
set_option maxRecDepth 100000
namespace Go.Proofs.YtepgkimlmoikmaaGreat
open Go.ChangeShapes Go.WideShapes Go.RowKit Go.Proofs.YtepgkimlmoikmaaGreatW.PrintWords
theorem weightsAll_strs {H : Type} {P : Program} {e : TypeId} : ∀ {l : List ByteArray} {s : ByteArray}, s ∈ l → s.size ∈ DataW.weightsAll P e (strs (H := H) l)
 | [], s, h => by cases h
 | x :: l, s, h => by
  show s.size ∈ DataW.weightsAll P e (DataW.lit (.string x.data.toList) :: strs l)
  unfold DataW.weightsAll
  rcases List.mem_cons.1 h with rfl | h
  ·refine List.mem_append_left _ ?_
   simp [DataW.weights]
  ·exact List.mem_append_right _ (weightsAll_strs h)
theorem strs_in {H : Type} {enc : TypeId × Value → H} {P : Program} {W : World} {base : Nat} {spare : Nat → Bool} {held : Bool} {t e : TypeId} {a : Option Addr} {len cap : Nat} {d : DataW H} {ps : List MemPlace} {ts : List TypeId} {ds : List (DataW H)} {j : Nat}
  (hsz : (DataW.weightsEach P ts ds).all (· ≤ reachBytes) = true) (ht : ts[j]? = some t) (hd : ds[j]? = some d) (hu : P.underlying t = some (.slice e)) (he : P.underlying e = some .string) (hc : P.cellsOf e = 1) (hB : P.bytesOf e = 16)
  (h : DataW.Trod enc P W base spare held t (.slice a len cap) d ps) : ∃ l : List ByteArray, l.length = len ∧ len ≤ cap ∧ Kd.C Kd.string W a l.length l ∧ l.length * 16 ≤ 140737488351232 ∧ ∀ s ∈ l, s.size ≤ 140737488351232 := by
 obtain ⟨fuel, hf⟩ := h
 rcases open_strings hu he hc hf with ⟨hcs, _⟩ | ⟨x, l, c, ss, hcs, _, hl, hm, hz, hx, hcell, _⟩
 ·simp [Value.cells] at hcs
  obtain ⟨rfl, rfl, rfl⟩ := hcs
  exact ⟨[], rfl, Nat.le_refl _, Kd.C_nil _ _, by simp, fun s hs => by cases hs⟩
 ·simp [Value.cells] at hcs
  obtain ⟨rfl, rfl, rfl⟩ := hcs
  obtain ⟨hx, _⟩ := Prod.mk.inj hx
  subst hx
  have z := sized_slice hsz ht hd hu
  rw [hB] at z
  have hl2 : len ≤ ss.length := by
   rw [hz]
   split
   ·exact hl
   ·exact Nat.le_refl _
  have hlen : (ss.take len).length = len := by rw [List.length_take]; omega
  have h1 : (strs (H := H) (ss.take len)).length + (strs (H := H) (ss.drop len)).length = ss.length := by
   simp [strs]
   omega
  rw [h1] at z
  have z' : ss.length * 16 ≤ 140737488351232 := z
  refine ⟨ss.take len, hlen, hl, ?_, by omega, ?_⟩
  ·refine Kd.C_of_reads (enc := Value.string) (d := ByteArray.empty) (h1 := fun _ => rfl) ⟨rfl, by omega, fun _ => ⟨x, rfl, fun i hi => ?_⟩⟩
   have := hcell i (by omega)
   rw [this]
   congr 2
   rw [hlen] at hi
   simp [List.getD_eq_getElem?_getD, hi]
  ·intro s hs
   have hw : s.size ∈ DataW.weightsEach P ts ds := by
    refine DataW.weights_mem_each ht hd _ ?_
    unfold DataW.weights
    rw [hu]
    exact List.mem_cons_of_mem _ (List.mem_append_left _ (weightsAll_strs hs))
   have h2 : s.size ≤ reachBytes := by simpa using List.all_eq_true.1 hsz _ hw
   exact h2
end Go.Proofs.YtepgkimlmoikmaaGreat
