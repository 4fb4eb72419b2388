/- ShY: a part of its proof (contracts of the functions that it reaches, and the plain mathematics behind them). -/
import Derived.Test.YtepgkimlmoikmaaGreatShY44
import Derived.HandedShaped
set_option linter.unusedVariables false
set_option linter.unusedSimpArgs false
set_option maxHeartbeats 2000000
set_option maxRecDepth 100000
set_option linter.unusedVariables false
set_option linter.unusedSimpArgs false
namespace Go.Proofs.YtepgkimlmoikmaaGreat
open Go.RowKit Go.Proofs.YtepgkimlmoikmaaGreat.Spec Go.Proofs.YtepgkimlmoikmaaGreatW.PrintWords Go.Proofs.YtepgkimlmoikmaaGreatW.PrintLast
open Go.Proofs.YtepgkimlmoikmaaGreatW.PrintMore
attribute [local go_sem ↓] Go.wp_at_zero Go.wp_at_succ
attribute [local go_sem] max2_int min2_int max_two min_two
theorem cells_of_shaped {P : Program} {w : World} {g n : Nat} {t v : TypeId} {zero : Array Value} {k : IntKind} (h : w.ShapedOpen P) (hg : g < P.globals.size)
  (h0 : ((begin P (fun _ _ => 0) default).world.heap[g]?).bind Obj.row? = some (zero, t)) (hz : zero.size = n)
  (hb : P.buildable t = true) (hc : P.cellTypes P.depth t = some (List.replicate n v)) (hu : P.underlying v = some (.int k)) :
  ∃ T : Nat → Int, ∀ i, i < n → w.cell? ⟨g, i, none⟩ = some (.int k (T i)) := by
 have key : ∀ i, i < n → ∃ m, w.cell? ⟨g, i, none⟩ = some (.int k m) := by
  intro i hi
  obtain ⟨cs, hh, hs, hr⟩ := h.1 g zero t hg h0
  obtain ⟨ts, hts, _, hall⟩ := hr hb
  rw [hc] at hts
  cases hts
  have h1 : i < cs.size := by omega
  obtain ⟨x, hx, hok⟩ := hall i cs[i] (by simp [h1])
  have : x = v := by
   rw [List.length_replicate, Nat.mod_eq_of_lt hi, List.getElem?_replicate, if_pos hi] at hx
   exact (Option.some.inj hx).symm
  subst this
  have hcell : w.cell? ⟨g, i, none⟩ = some cs[i] := by simp [World.cell?, hh, h1]
  rw [hcell]
  unfold Cell.ok at hok
  rw [hu] at hok
  cases hv : cs[i] <;> rw [hv] at hok <;> simp at hok
  case int k' n => exact ⟨n, by rw [hok.1]⟩
 refine ⟨fun i => match w.cell? ⟨g, i, none⟩ with | some (.int _ m) => m | _ => 0, fun i hi => ?_⟩
 obtain ⟨m, hm⟩ := key i hi
 dsimp only
 rw [hm]
theorem tab_of_shaped {w : World} (h : w.ShapedOpen Tryz.prog) : ∃ T, TabAt w T :=
 cells_of_shaped (P := Tryz.prog) (g := 0) (n := 20) (t := 300) (v := 86) (zero := Array.replicate 20 (.int .u64 0)) h (of_decide_eq_true (by kernel_rfl)) (by kernel_rfl) rfl (by kernel_rfl) (by kernel_rfl) Tryz.underlying86
end Go.Proofs.YtepgkimlmoikmaaGreat
