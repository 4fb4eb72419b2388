/- Package block's source of numbers. -/
import Derived.Test.YtboklkfplnmabaaGreatOf
set_option linter.unusedVariables false
set_option linter.unusedSimpArgs false
namespace Go.Proofs.YtboklkfplnmabaaGreat
open Go.RowKit Go.Proofs.YtboklkfplnmabaaGreat.Spec Go.Proofs.YtboklkfplnmabaaGreatW.PrintWords Go.Proofs.YtboklkfplnmabaaGreatW.PrintLast
open Go.Proofs.YtboklkfplnmabaaGreatW.PrintMore
attribute [local go_sem ↓] Go.wp_at_zero Go.wp_at_succ
theorem u_cut (b : ByteArray) (i j : Nat) : u (b.extract i j) = ((u b).drop i).take (j - i) := by
  unfold u
  rw [ByteArray.data_extract, Array.toList_extract, List.extract_eq_take_drop]
/-- A source of numbers: what is left of the payload. -/
structure SrcAt (w : World) (g : Nat) (s : ByteArray) : Prop where
  c0 : w.cell? ⟨g, 0, none⟩ = some (.string s)
  c1 : w.cell? ⟨g, 1, none⟩ = some (.pointer none)
  c3 : w.cell? ⟨g, 3, none⟩ = some (.int .i64 0)
  f0 : w.frozen? ⟨g, 0, none⟩ = false
  f3 : w.frozen? ⟨g, 3, none⟩ = false
theorem SrcAt.lt {w : World} {g : Nat} {s : ByteArray} (h : SrcAt w g s) : g < w.heap.size := World.block_lt_of_cell? w _ h.c0
theorem SrcAt.below {w w1 : World} {g : Nat} {s : ByteArray} (h : SrcAt w g s) (hb : Below w.heap.size w w1) : SrcAt w1 g s :=
  ⟨pw_cell_below hb h.c0, pw_cell_below hb h.c1, pw_cell_below hb h.c3, (hb.frozen (p := ⟨g, 0, none⟩) h.lt).trans h.f0, (hb.frozen (p := ⟨g, 3, none⟩) h.lt).trans h.f3⟩
theorem SrcAt.put {w : World} {g : Nat} {s : ByteArray} (h : SrcAt w g s) (s' : ByteArray) : SrcAt ((w.setCell ⟨g, 0, none⟩ (.string s')).setCell ⟨g, 3, none⟩ (.int .i64 0)) g s' := by
  have h30 : (⟨g, 3, none⟩ : Addr) ≠ ⟨g, 0, none⟩ := by simp
  have h31 : (⟨g, 3, none⟩ : Addr) ≠ ⟨g, 1, none⟩ := by simp
  have h01 : (⟨g, 0, none⟩ : Addr) ≠ ⟨g, 1, none⟩ := by simp
  have h03 : (⟨g, 0, none⟩ : Addr) ≠ ⟨g, 3, none⟩ := by simp
  refine ⟨?_, ?_, ?_, ?_, ?_⟩
  · rw [World.cell?_setCell_other _ _ _ _ h30]; exact World.cell?_setCell_same _ _ _ h.c0
  · rw [World.cell?_setCell_other _ _ _ _ h31, World.cell?_setCell_other _ _ _ _ h01]; exact h.c1
  · exact World.cell?_setCell_same _ _ _ ((World.cell?_setCell_other _ _ _ _ h03).trans h.c3)
  · rw [World.frozen?_setCell, World.frozen?_setCell]; exact h.f0
  · rw [World.frozen?_setCell, World.frozen?_setCell]; exact h.f3
set_option maxHeartbeats 1000000 in
set_option maxRecDepth 100000 in
theorem open_zero (p : Value) (s : ByteArray) (w : World) : Calls Tryz.prog 91 #[p, .int .i64 0, .string s] w fun e w' => e = .returned (.tuple #[.pointer (some ⟨w.heap.size, 0, none⟩), .int .i64 0]) ∧ SrcAt w' w.heap.size s ∧ Below w.heap.size w w' := by
  go_enter Tryz.func91, Tryz.ntmps91
  go_wp2
  go_ret2
  have hh : (w.alloc (.cells #[.string s, .pointer none, .pointer none, .int .i64 0] 137)).heap[w.heap.size]? = some (.cells #[.string s, .pointer none, .pointer none, .int .i64 0] 137 (0, 0)) := heap_alloc_new _ _
  exact ⟨rfl, ⟨blk_cell hh 0, blk_cell hh 1, blk_cell hh 3, blk_frozen hh 0, blk_frozen hh 3⟩, (Below.refl _ _).alloc (Nat.le_refl _) _⟩
set_option maxHeartbeats 1000000 in
set_option maxRecDepth 100000 in
theorem over_any {w : World} {g : Nat} {s : ByteArray} (h : SrcAt w g s) : Calls Tryz.prog 94 #[.pointer (some ⟨g, 0, none⟩)] w fun e w' => e = .returned (.bool s.toList.isEmpty) ∧ w = w' := by
  have c0 := h.c0
  have c1 := h.c1
  clear h
  go_enter Tryz.func94, Tryz.ntmps94
  go_wp2
  go_ret
  exact ⟨rfl, rfl⟩
set_option maxHeartbeats 1000000 in
set_option maxRecDepth 100000 in
theorem next_num {w : World} {g n : Nat} {rest : List UInt8} (h : SrcAt w g (str (num n ++ rest))) (hn : n < 4294967296) (hr : rest.length ≤ 100000) : Calls Tryz.prog 92 #[.pointer (some ⟨g, 0, none⟩)] w fun e w' => e = .returned (.int .i64 n) ∧ SrcAt w' g (str rest) ∧ ∀ w0, w0.heap.size ≤ g → Below w0.heap.size w0 w → Below w0.heap.size w0 w' := by
  have H := Aside0.mk h
  have hlen := num_size hn
  have hsz : (str (num n ++ rest)).size = (num n).length + rest.length := by rw [← u_size, u_str, List.length_append]
  have hv := fun w => vget_calls (str (num n ++ rest)) (by omega) w
  rw [u_str, un_num0 hn] at hv
  have HV := Aside0.mk hv
  have HS : Aside0 ((str (num n ++ rest)).extract (num n).length (str (num n ++ rest)).size = str rest) := ⟨by
    apply u_inj
    rw [u_cut, List.take_of_length_le (by rw [List.length_drop, u_size]; omega), u_str, u_str, List.drop_left]⟩
  have HZ := Aside0.mk (show (num n).length ≤ (str (num n ++ rest)).size ∧ (str (num n ++ rest)).size ≤ 100005 by omega)
  generalize str (num n ++ rest) = s at *
  generalize (num n).length = m at *
  have z1 : ¬ s.size < m := by have := HZ.out; omega
  have z2 : m ≤ s.size := by have := HZ.out; omega
  have c0 := h.c0
  have c1 := h.c1
  clear h hv hsz
  go_enter Tryz.func92, Tryz.ntmps92
  go_wp2_with fail
  refine (HV.out _).mono ?_
  rintro e w2 ⟨rfl, hb2⟩
  have HB2 := Aside0.mk (drawn_below hb2)
  have h := H.out.below HB2.out
  have H2 := Aside0.mk h
  have c0 := h.c0
  have c1 := h.c1
  have c3 := h.c3
  have f0 := h.f0
  have f3 := h.f3
  clear h hb2
  go_wp2
  go_ret
  refine ⟨rfl, ?_, fun w0 hg hb => ((below_step hb HB2.out).setCell hg _).setCell hg _⟩
  rw [HS.out]
  exact H2.out.put _
end Go.Proofs.YtboklkfplnmabaaGreat
