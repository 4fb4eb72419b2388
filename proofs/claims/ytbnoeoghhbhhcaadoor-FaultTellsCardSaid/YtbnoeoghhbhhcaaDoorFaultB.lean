/- A fault's words at any place; the call that may panic, under its deferred closure. -/
import Derived.Test.YtbnoeoghhbhhcaaDoorFault
import Derived.Lib.ItoaLen
import Derived.Lib.AppendIntMem
import Derived.Defers
import Derived.Recover
set_option linter.unusedVariables false
set_option linter.unusedSimpArgs false
namespace Go.Proofs.YtbnoeoghhbhhcaaDoor
open Go.RowKit Go.Proofs.YtbnoeoghhbhhcaaDoorW.PrintWords Go.Proofs.YtbnoeoghhbhhcaaDoorW.PrintLast
open Go.Proofs.YtbnoeoghhbhhcaaDoorW.PrintMore
abbrev Tab (w : World) : Prop := Lib.TabIs Tryd.prog w "internal/strconv.uint64pow10" .u64 Lib.pow10Tab
theorem tab_below {w w' : World} (h : Tab w) (hb : Below w.heap.size w w') : Tab w' := by
  unfold Tab Lib.TabIs World.var? at h ⊢
  cases hg : Tryd.prog.globalNamed "internal/strconv.uint64pow10" with
  | none => rw [hg] at h; cases h
  | some g =>
    rw [hg] at h
    simp only [Option.bind_some] at h ⊢
    have hlt : g < w.heap.size := by
      rcases Nat.lt_or_ge g w.heap.size with h' | h'
      · exact h'
      · rw [Array.getElem?_eq_none h'] at h; cases h
    rw [hb.block g hlt]
    exact h
def wordsS (c a : Int) : ByteArray := (nameS c ++ ⟨#[32, 97, 116, 32]⟩) ++ ⟨(Lib.itoa a).toArray⟩
set_option maxHeartbeats 1000000 in
set_option maxRecDepth 100000 in
theorem error_any (c a : Int) (h0 : -9223372036854775808 ≤ a) (h1 : a ≤ 9223372036854775807) (w : World) (ht : Tab w) : Calls Tryd.prog 12 #[.agg #[.int .i64 c, .int .i64 a]] w fun e w' => e = .returned (.string (wordsS c a)) ∧ Below w.heap.size w w' := by
  have hn := nameS_size c
  have hd := Lib.itoa_length_le a h0 h1
  have q3 : ¬ 9223372036854775807 < (nameS c).size + 4 := by omega
  have q8 : ¬ 9223372036854775807 < (nameS c).size + 4 + (Lib.itoa a).length := by omega
  have HT := Aside0.mk ht
  clear ht
  go_enter Tryd.func12, Tryd.ntmps12
  go_wp2_with fail
  have HT1 := Aside0.mk (fun W (hb : Below w.heap.size w W) => tab_below HT.out hb)
  go_region_held3 (fun w' => w'.cell? ⟨w.heap.size, 0, none⟩ = some (.int .i64 c) ∧ w'.cell? ⟨w.heap.size, 1, none⟩ = some (.int .i64 a) ∧ Below w.heap.size w w')
    (refine ⟨?_, ?_, ?_⟩ <;> first | (simp; done) | (simp [*]; done) | exact pw_cell_below hb (by simp) | exact pw_cell_below hb (by simp [*]) | exact below_drew (below_alloc (Below.refl _ _) _) | exact below_step (below_drew (below_alloc (Below.refl _ _) _)) hb | exact below_step (by simp [*]) hb | exact pw_cell_below (Go.Lib.below_grow _ _ (Nat.le_refl _) _ _) (by simp [*]) | exact below_step (by simp [*]) (Go.Lib.below_grow _ _ (Nat.le_refl _) _ _) | assumption)
    (first | (go_at_call 11; refine (name_calls c _).mono ?_; rintro e w1 ⟨rfl, hb⟩; have hbw : Below w.heap.size w w1 := below_step (below_drew (below_alloc (Below.refl _ _) _)) hb) | (go_at_call 16; refine (Tryd.strconv_Itoa a h0 h1 _ (HT1.out _ (by first | assumption | simp [*]))).mono ?_; rintro e w2 ⟨rfl, k2, os2, rfl⟩; have hfin := below_step hbw (Go.Lib.below_grow w1.heap.size w1 (Nat.le_refl _) k2 os2)))
  go_wp2
  go_ret
  exact ⟨rfl, hfin⟩
set_option maxHeartbeats 400000 in
set_option maxRecDepth 100000 in
theorem must_exact (c a : Int) (w : World) : Calls Tryd.prog 15 #[.iface 28 (.agg #[.int .i64 c, .int .i64 a])] w fun e w' => e = .returned (.agg #[.int .i64 c, .int .i64 a]) ∧ w' = w.alloc (.cells #[.int .i64 c, .int .i64 a] 28) := by
  have ta := ta1_yes
  go_enter Tryd.func15, Tryd.ntmps15
  go_wp2
  exact bodyPost_ret (v := .agg #[.int .i64 c, .int .i64 a]) (by simp [results, Tryd.results15, go_sem]) rfl ⟨rfl, rfl⟩
theorem catch_idle (p : Addr) (b : Bool) (w : World) (hc : w.cell? p = some (.bool b)) (hz : w.frozen? p = false) :
    CallsD Tryd.prog 14 #[.pointer (some p)] .returning w fun e u' w' => e = .returned (.tuple #[]) ∧ u' = .returning ∧ w' = w.setCell p (.bool false) := by
  refine callsD_of_wpS Tryd.func14 rfl fun c₀ cs hu => ?_
  apply wpS_region
  simp [wpOpsS, go_sem, recoverD, hu, Tryd.ntmps14, hc, hz, bodyPostS, results, Tryd.results14]
  cases c₀
  simp_all
theorem catch_panicking (p : Addr) (b : Bool) (t : TypeId) (pv : Value) (older : List PanicEntry) (w : World) (hc : w.cell? p = some (.bool b)) (hz : w.frozen? p = false) :
    CallsD Tryd.prog 14 #[.pointer (some p)] (.panicking ({ v := .iface t pv, recovered := false } :: older)) w fun e u' w' => e = .returned (.tuple #[]) ∧ u' = .panicking ({ v := .iface t pv, recovered := true } :: older) ∧ w' = w.setCell p (.bool true) := by
  refine callsD_of_wpS Tryd.func14 rfl fun c₀ cs hu => ?_
  apply wpS_region
  simp [wpOpsS, go_sem, recoverD, hu, Tryd.ntmps14, hc, hz, bodyPostS, results, Tryd.results14]
set_option maxHeartbeats 1000000 in
set_option maxRecDepth 100000 in
theorem try_some (c a : Int) (w : World) : Calls Tryd.prog 8 #[.iface 28 (.agg #[.int .i64 c, .int .i64 a])] w fun e w' => e = .returned (.tuple #[.agg #[.int .i64 c, .int .i64 a], .bool false]) ∧ Below w.heap.size w w' := by
  have hmf : ∀ (fn : Fn) (first cap : Array Value) (w : World), (Instr.makeFunc fn first cap).run Tryd.prog w = .ok (.func fn first cap) w := fun _ _ _ _ => rfl
  go_enter_defers Tryd.func8, Tryd.ntmps8
  go_wp2_with (go_at_call 15; refine (must_exact c a _).mono ?_; rintro e w1 ⟨rfl, rfl⟩)
  refine leaves_cons (f := 14) (args := #[.pointer (some ⟨w.heap.size + 1, 0, none⟩)]) (by simp) (by simp [go_sem]) ?_
  refine (catch_idle ⟨w.heap.size + 1, 0, none⟩ false _ ?_ ?_).mono ?_
  · simp [go_sem]
  · simp [go_sem]
  rintro e u' w'' ⟨rfl, rfl, rfl⟩
  simp [Leaves, settle, results, Tryd.results8, go_sem]
  exact below_alloc (below_alloc (below_alloc (Below.refl _ _) _) _) _
end Go.Proofs.YtbnoeoghhbhhcaaDoor
