/- ShF: a part of its proof (contracts of the functions that it reaches, and the plain mathematics behind them). -/
import Derived.Test.YtdpkgjahcapleaaGreatShF29
set_option linter.unusedVariables false
set_option linter.unusedSimpArgs false
set_option linter.unusedVariables false
set_option linter.unusedSimpArgs false
namespace Go.Proofs.YtdpkgjahcapleaaGreat
open Go.RowKit Go.Proofs.YtdpkgjahcapleaaGreat.Spec Go.Proofs.YtdpkgjahcapleaaGreatW.PrintWords Go.Proofs.YtdpkgjahcapleaaGreatW.PrintLast
open Go.Proofs.YtdpkgjahcapleaaGreatW.PrintMore
attribute [local go_sem ↓] Go.wp_at_zero Go.wp_at_succ
attribute [local go_sem] max2_int min2_int max_two min_two
namespace Spec
def meantD (l : List ByteArray) (how : Nat) (told : Nat) (f : Fr) : ByteArray × Int :=
  if f.kind = 0 then (if f.raw ≠ told % 4294967296 then (⟨#[]⟩, 12) else (⟨#[]⟩, 0))
  else if (getR l how f.kind f.raw f.pay).2 = 0 then (if crcR (u (getR l how f.kind f.raw f.pay).1) ≠ f.sum then ((getR l how f.kind f.raw f.pay).1, 7) else ((getR l how f.kind f.raw f.pay).1, 0))
  else getR l how f.kind f.raw f.pay
end Spec
set_option maxHeartbeats 2000000 in
set_option maxRecDepth 100000 in
theorem meant_end {w : World} {g : Nat} {P : Value} {d : D} (l : List ByteArray) (h : DecAt w g P d) (f : Fr) (hk : f.kind = 0) (hr : f.raw < 4294967296) (ht : d.told ≤ 1000000000) :
    Calls Tryz.prog 76 #[.pointer (some ⟨g, 0, none⟩), .agg #[.int .i64 (f.kind : Int), .int .i64 (f.raw : Int), .int .u32 (f.sum : Int), .string f.pay]] w fun e w' => e = .returned (.tuple #[.string (meantD l d.hc d.told f).1, .int .i64 (meantD l d.hc d.told f).2]) ∧ Below w.heap.size w w' := by
  have H := Aside0.mk h
  have HM : Aside0 (meantD l d.hc d.told f = _) := ⟨by unfold meantD; rw [if_pos hk]⟩
  obtain ⟨kd, r, sm, py, n, er⟩ := f
  have hk2 : kd = 0 := hk
  subst hk2
  have hd := h.below ((Below.refl _ _).alloc (Nat.le_refl _) (.cells #[.int .i64 0, .int .i64 (r : Int), .int .u32 (sm : Int), .string py] 47))
  have c8 := hd.c8
  have q1 : IntKind.i64.wrap (IntKind.u32.wrap (d.told : Int)) = (d.told : Int) := by rw [IntKind.wrap_u32]; exact ((congrArg IntKind.i64.wrap (by omega)).trans (i64_w _)).trans (Bridge.wrN _ (by omega))
  have q2 : IntKind.u32.wrap (d.told : Int) = (d.told : Int) := by rw [IntKind.wrap_u32]; omega
  have q3 : IntKind.i64.wrap (d.told : Int) = (d.told : Int) := (i64_w _).trans (Bridge.wrN _ (by omega))
  have hm := HM.out
  have hmod : d.told % 4294967296 = d.told := Nat.mod_eq_of_lt (by omega)
  rw [hmod] at hm
  by_cases hq : r = d.told
  · rw [if_neg (fun n => n hq)] at hm
    have HMM := Aside0.mk hm
    have d1 : ((r : Int) == (d.told : Int)) = true := beq_iff_eq.2 (by omega)
    have d2 : ((r : Int) != (d.told : Int)) = false := by rw [bne, d1]; rfl
    clear h hk hr ht hm hmod hq hd
    go_enter Tryz.func76, Tryz.ntmps76
    go_wp2_with fail
    go_quiet (fail)
    go_wp2_with fail
    go_ret2
    refine ⟨?_, by repeat (first | exact Below.refl _ _ | apply below_alloc | apply below_drew | apply pw_below_drewN)⟩
    rw [HMM.out]
    rfl
  · rw [if_pos hq] at hm
    have HMM := Aside0.mk hm
    have d1 : ((r : Int) == (d.told : Int)) = false := beq_eq_false_iff_ne.2 (by omega)
    have d2 : ((r : Int) != (d.told : Int)) = true := bne_iff_ne.2 (by omega)
    clear h hk hr ht hm hmod hq hd
    go_enter Tryz.func76, Tryz.ntmps76
    go_wp2_with fail
    go_quiet (fail)
    go_wp2_with fail
    go_ret2
    refine ⟨?_, by repeat (first | exact Below.refl _ _ | apply below_alloc | apply below_drew | apply pw_below_drewN)⟩
    rw [HMM.out]
    rfl
set_option maxHeartbeats 2000000 in
set_option maxRecDepth 100000 in
theorem meant_blk {w : World} {g : Nat} {P : Value} {d : D} {l : List ByteArray} (h : DecAt w g P d) (hdi : DicF g w P l) (hl : l.length ≤ 100) (hs : ∀ s ∈ l, 1 ≤ s.size ∧ s.size ≤ 40) (f : Fr) (hk : f.kind ≠ 0) (hp : f.pay.size ≤ 100000) (hgz : (getR l d.hc f.kind f.raw f.pay).1.size ≤ 1000000) :
    Calls Tryz.prog 76 #[.pointer (some ⟨g, 0, none⟩), .agg #[.int .i64 (f.kind : Int), .int .i64 (f.raw : Int), .int .u32 (f.sum : Int), .string f.pay]] w fun e w' => e = .returned (.tuple #[.string (meantD l d.hc d.told f).1, .int .i64 (meantD l d.hc d.told f).2]) ∧ Below w.heap.size w w' := by
  have H := Aside0.mk h
  have HDI := Aside0.mk hdi
  have HM : Aside0 (meantD l d.hc d.told f = _) := ⟨by unfold meantD; rw [if_neg hk]⟩
  obtain ⟨kd, r, sm, py, n, er⟩ := f
  have HG := Aside0.mk (fun (W : World) (h : DictN W P l) => get_any h (how := d.hc) (kind := kd) (raw := r) (pay := py) hl hs hp)
  have hgz2 : (getR l d.hc kd r py).1.size ≤ 1000000 := hgz
  have HC := Aside0.mk (fun W => crc_calls (getR l d.hc kd r py).1 (by omega) W)
  dsimp only at HM
  obtain ⟨S, E, hSE⟩ : ∃ S E, getR l d.hc kd r py = (S, E) := ⟨_, _, rfl⟩
  rw [hSE] at HG HC HM
  have hk2 : kd ≠ 0 := hk
  have d0 : ((kd : Int) == 0) = false := beq_eq_false_iff_ne.2 (by omega)
  have hd := h.below ((Below.refl _ _).alloc (Nat.le_refl _) (.cells #[.int .i64 (kd : Int), .int .i64 (r : Int), .int .u32 (sm : Int), .string py] 47))
  have s0 := hd.c0
  have s1 := hd.c1
  have s2 : (w.alloc (.cells #[.int .i64 (kd : Int), .int .i64 (r : Int), .int .u32 (sm : Int), .string py] 47)).cell? ⟨w.heap.size, 0, none⟩ = some (.int .i64 (kd : Int)) := by simp
  have s3 : (w.alloc (.cells #[.int .i64 (kd : Int), .int .i64 (r : Int), .int .u32 (sm : Int), .string py] 47)).cell? ⟨w.heap.size, 1, none⟩ = some (.int .i64 (r : Int)) := by simp
  have s4 : (w.alloc (.cells #[.int .i64 (kd : Int), .int .i64 (r : Int), .int .u32 (sm : Int), .string py] 47)).cell? ⟨w.heap.size, 3, none⟩ = some (.string py) := by simp
  have s5 : (w.alloc (.cells #[.int .i64 (kd : Int), .int .i64 (r : Int), .int .u32 (sm : Int), .string py] 47)).cell? ⟨w.heap.size, 2, none⟩ = some (.int .u32 (sm : Int)) := by simp
  clear h hdi hk hk2 hp hgz hgz2 hl hs hSE hd
  go_enter Tryz.func76, Tryz.ntmps76
  go_wp2_with fail
  go_region_held3 (fun w' => w'.cell? ⟨g, 0, none⟩ = some P ∧ w'.cell? ⟨g, 1, none⟩ = some (.int .i64 (d.hc : Int)) ∧ w'.cell? ⟨w.heap.size, 0, none⟩ = some (.int .i64 (kd : Int)) ∧ w'.cell? ⟨w.heap.size, 1, none⟩ = some (.int .i64 (r : Int)) ∧ w'.cell? ⟨w.heap.size, 3, none⟩ = some (.string py))
    (first | exact ⟨s0, s1, s2, s3, s4⟩ | exact ⟨pw_cell_below hb2 s0, pw_cell_below hb2 s1, pw_cell_below hb2 s2, pw_cell_below hb2 s3, pw_cell_below hb2 s4⟩)
    ((go_at_call 90; refine (HG.out _ (DictN.of (HDI.out _ (Mv.of (by repeat (first | exact Below.refl _ _ | apply below_alloc | apply below_drew | apply pw_below_drewN)))))).mono ?_; rintro e w2 ⟨rfl, hb2⟩; have hm2 : Below w.heap.size w w2 := below_step (by repeat (first | exact Below.refl _ _ | apply below_alloc | apply below_drew | apply pw_below_drewN)) hb2))
  have HM2 := Aside0.mk hm2
  have r5 := pw_cell_below hb2 s5
  clear hm2 hb2
  by_cases he : E = 0
  · subst he
    have hm := HM.out
    rw [if_pos rfl] at hm
    by_cases hcq : crcR (u S) = (sm : Int)
    · rw [if_neg (fun n => n hcq)] at hm
      have HMM := Aside0.mk hm
      have d2 : (crcR (u S) != (sm : Int)) = false := by rw [bne, beq_iff_eq.2 hcq]; rfl
      generalize crcR (u S) = cr at *
      clear hm hcq
      go_wp2_with fail
      go_region_held3 (fun w' => w'.cell? ⟨w.heap.size, 2, none⟩ = some (.int .u32 (sm : Int))) (first | exact r5 | exact pw_cell_below hb3 r5)
        ((go_at_call 62; refine (HC.out _).mono ?_; rintro e w3 ⟨rfl, hb3⟩; have hm3 : Below w.heap.size w w3 := below_step (below_drew HM2.out) hb3))
      go_wp2_with fail
      go_ret2
      refine ⟨?_, hm3⟩
      rw [HMM.out]
      rfl
    · rw [if_pos hcq] at hm
      have HMM := Aside0.mk hm
      have d2 : (crcR (u S) != (sm : Int)) = true := bne_iff_ne.2 hcq
      generalize crcR (u S) = cr at *
      clear hm hcq
      go_wp2_with fail
      go_region_held3 (fun w' => w'.cell? ⟨w.heap.size, 2, none⟩ = some (.int .u32 (sm : Int))) (first | exact r5 | exact pw_cell_below hb3 r5)
        ((go_at_call 62; refine (HC.out _).mono ?_; rintro e w3 ⟨rfl, hb3⟩; have hm3 : Below w.heap.size w w3 := below_step (below_drew HM2.out) hb3))
      go_wp2_with fail
      go_ret2
      refine ⟨?_, hm3⟩
      rw [HMM.out]
      rfl
  · have d1 : (E == 0) = false := beq_eq_false_iff_ne.2 he
    have hm := HM.out
    rw [if_neg he] at hm
    have HMM := Aside0.mk hm
    clear hm he
    go_wp2_with fail
    go_quiet (fail)
    go_wp2_with fail
    go_ret2
    refine ⟨?_, by repeat (first | exact HM2.out | apply below_alloc | apply below_drew | apply pw_below_drewN)⟩
    rw [HMM.out]
    rfl
end Go.Proofs.YtdpkgjahcapleaaGreat
