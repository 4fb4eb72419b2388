/- ShF: a part of its proof (contracts of the functions that it reaches, and the plain mathematics behind them). -/
import Derived.Test.YtdpkgjahcapleaaGreatShF29
set_option linter.unusedVariables false
set_option linter.unusedSimpArgs false
set_option linter.unusedVariables false
set_option linter.unusedSimpArgs false
namespace Go.Proofs.YtdpkgjahcapleaaGreat
open Go.RowKit Go.Proofs.YtdpkgjahcapleaaGreat.Spec Go.Proofs.YtdpkgjahcapleaaGreatW.PrintWords Go.Proofs.YtdpkgjahcapleaaGreatW.PrintLast
open Go.Proofs.YtdpkgjahcapleaaGreatW.PrintMore
attribute [local go_sem ↓] Go.wp_at_zero Go.wp_at_succ
attribute [local go_sem] max2_int min2_int max_two min_two
def Idv (l : List ByteArray) : Int := Bridge.fnv (Spec.bytes l)
set_option maxHeartbeats 2000000 in
set_option maxRecDepth 100000 in
theorem begin_wait {w : World} {g : Nat} {P : Value} {d : D} (h : DecAt w g P d) (hz : d.held.size ≤ 1000000000) (he : (headR d.held).e = 2) :
    Calls Tryz.prog 73 #[.pointer (some ⟨g, 0, none⟩)] w fun e w' => e = .returned (.bool false) ∧ DecAt w' g P d ∧ Mv g w w' := by
  have H := Aside0.mk h
  have c6 := h.c6
  have HG := Aside0.mk (fun W => getHead_calls d.held hz W)
  rw [he] at HG
  generalize headR d.held = q at *
  obtain ⟨qc, qk, qi, qe⟩ := q
  clear h he
  go_enter Tryz.func73, Tryz.ntmps73
  go_wp2_with fail
  refine (HG.out _).mono ?_
  rintro e w1 ⟨rfl, hb1⟩
  have HB1 := Aside0.mk hb1
  clear hb1
  go_wp2_with fail
  go_ret
  exact ⟨rfl, H.out.below (below_alloc HB1.out _), Mv.of (below_alloc HB1.out _)⟩
set_option maxHeartbeats 2000000 in
set_option maxRecDepth 100000 in
theorem begin_bad {w : World} {g : Nat} {P : Value} {d : D} (h : DecAt w g P d) (hz : d.held.size ≤ 1000000000) (he : (headR d.held).e ≠ 2) (he0 : (headR d.held).e ≠ 0) :
    Calls Tryz.prog 73 #[.pointer (some ⟨g, 0, none⟩)] w fun e w' => e = .returned (.bool false) ∧ DecAt w' g P { d with held := ⟨#[]⟩, ec := (headR d.held).e, ea := d.at_ } ∧ Mv g w w' := by
  have H := Aside0.mk h
  have c6 := h.c6
  have HG := Aside0.mk (fun W => getHead_calls d.held hz W)
  generalize headR d.held = q at *
  obtain ⟨qc, qk, qi, qe⟩ := q
  have d1 : ((qe : Int) == 2) = false := beq_eq_false_iff_ne.2 (fun e => he (by show qe = 2; omega))
  have d2 : ((qe : Int) == 0) = false := beq_eq_false_iff_ne.2 (fun e => he0 (by show qe = 0; omega))
  have d3 : ((qe : Int) != 0) = true := bne_iff_ne.2 (fun e => he0 (by show qe = 0; omega))
  have HW := Aside0.mk (fun (W : World) (h : DecAt W g P d) => wrong_calls h (qe : Int) (fun e => he0 (by show qe = 0; omega)))
  clear h he he0
  go_enter Tryz.func73, Tryz.ntmps73
  go_wp2_with fail
  refine (HG.out _).mono ?_
  rintro e w1 ⟨rfl, hb1⟩
  have HB1 := Aside0.mk hb1
  clear hb1
  go_wp2_with fail
  go_quiet (fail)
  go_wp2_with fail
  refine (HW.out _ (H.out.below (by repeat (first | exact HB1.out | apply below_alloc | apply below_drew | apply pw_below_drewN)))).mono ?_
  rintro e w2 ⟨rfl, hd2, hm2⟩
  have HD2 := Aside0.mk hd2
  have HM2 := Aside0.mk hm2
  clear hd2 hm2
  go_wp2_with fail
  go_ret
  exact ⟨rfl, HD2.out, (Mv.of (by repeat (first | exact HB1.out | apply below_alloc | apply below_drew | apply pw_below_drewN))).trans HM2.out⟩
set_option maxHeartbeats 2000000 in
set_option maxRecDepth 100000 in
theorem begin_id {w : World} {g : Nat} {P : Value} {d : D} {l : List ByteArray} (h : DecAt w g P d) (hd : DicF g w P l) (hl : l.length ≤ 100) (hs : ∀ s ∈ l, s.size < 1000000) (hz : d.held.size ≤ 1000000000) (he : (headR d.held).e = 0) (hi : ((headR d.held).id : Int) ≠ Idv l) :
    Calls Tryz.prog 73 #[.pointer (some ⟨g, 0, none⟩)] w fun e w' => e = .returned (.bool false) ∧ DecAt w' g P { d with held := ⟨#[]⟩, ec := 6, ea := d.at_ } ∧ Mv g w w' := by
  have H := Aside0.mk h
  have HDI := Aside0.mk hd
  have c6 := h.c6
  have HG := Aside0.mk (fun W => getHead_calls d.held hz W)
  rw [he] at HG
  have HID := Aside0.mk (fun (W : World) (h : DictAt W P l) => id_any h hl hs)
  have hb1 : ((headR d.held).id != Idv l) = true := bne_iff_ne.2 hi
  have hq : Aside0 (∀ W : World, DictAt W P l → Calls Tryz.prog 15 #[P] W fun e w' => e = .returned (.int .u64 (Idv l)) ∧ Below W.heap.size W w') := HID
  generalize Idv l = iv at *
  generalize headR d.held = q at *
  obtain ⟨qc, qk, qi, qe⟩ := q
  have d1 : ((qi : Int) != iv) = true := hb1
  have HW := Aside0.mk (fun (W : World) (h : DecAt W g P d) => wrong_calls h (6 : Int) (by decide))
  have cP := h.c0
  clear h he hi hd hb1 hs HID
  go_enter Tryz.func73, Tryz.ntmps73
  go_wp2_with fail
  refine (HG.out _).mono ?_
  rintro e w1 ⟨rfl, hb1⟩
  have HB1 := Aside0.mk hb1
  have cP1 := pw_cell_below hb1 cP
  clear hb1
  go_wp2_with fail
  have s1 : (w1.alloc (.cells #[.int .i64 (qc : Int), .int .i64 (qk : Int), .int .u64 (qi : Int)] 40)).cell? ⟨w1.heap.size, 2, none⟩ = some (.int .u64 (qi : Int)) := by simp
  have s2 : (w1.alloc (.cells #[.int .i64 (qc : Int), .int .i64 (qk : Int), .int .u64 (qi : Int)] 40)).cell? ⟨g, 0, none⟩ = some P := pw_cell_below ((Below.refl _ _).alloc (Nat.le_refl _) _) cP1
  go_region_held3 (fun w' => w'.cell? ⟨w1.heap.size, 2, none⟩ = some (.int .u64 (qi : Int)) ∧ w'.cell? ⟨g, 0, none⟩ = some P)
    (first | exact ⟨s1, s2⟩ | exact ⟨s3, s4⟩)
    ((go_at_call 15; refine (hq.out _ (HDI.out _ (Mv.of (by repeat (first | exact HB1.out | apply below_alloc | apply below_drew | apply pw_below_drewN))))).mono ?_; rintro e w2 ⟨rfl, hb2⟩; have hm2 : Below w.heap.size w w2 := below_step (by repeat (first | exact HB1.out | apply below_alloc | apply below_drew | apply pw_below_drewN)) hb2; have s3 : w2.cell? ⟨w1.heap.size, 2, none⟩ = some (.int .u64 (qi : Int)) := pw_cell_below hb2 s1; have s4 : w2.cell? ⟨g, 0, none⟩ = some P := pw_cell_below hb2 s2))
  have HM2 := Aside0.mk hm2
  clear hm2 hb2
  go_wp2_with fail
  refine (HW.out _ (H.out.below HM2.out)).mono ?_
  rintro e w3 ⟨rfl, hd3, hm3⟩
  have HD3 := Aside0.mk hd3
  have HM3 := Aside0.mk hm3
  clear hd3 hm3
  go_wp2_with fail
  go_ret
  exact ⟨rfl, HD3.out, (Mv.of HM2.out).trans HM3.out⟩
set_option maxHeartbeats 2000000 in
set_option maxRecDepth 100000 in
theorem begin_ok {w : World} {g : Nat} {P : Value} {d : D} {l : List ByteArray} (h : DecAt w g P d) (hd : DicF g w P l) (hl : l.length ≤ 100) (hs : ∀ s ∈ l, s.size < 1000000) (hz : d.held.size ≤ 1000000000) (he : (headR d.held).e = 0) (hi : ((headR d.held).id : Int) = Idv l) (h17 : 17 ≤ d.held.size) (ha : d.at_ ≤ 100000000) :
    Calls Tryz.prog 73 #[.pointer (some ⟨g, 0, none⟩)] w fun e w' => e = .returned (.bool true) ∧ DecAt w' g P { d with hc := (headR d.held).c, hk := (headR d.held).k, hid := (headR d.held).id, begun := true, held := d.held.extract 17 d.held.size, at_ := d.at_ + 17 } ∧ Mv g w w' := by
  have H := Aside0.mk h
  have HDI := Aside0.mk hd
  have c6 := h.c6
  have HG := Aside0.mk (fun W => getHead_calls d.held hz W)
  rw [he] at HG
  have HID := Aside0.mk (fun (W : World) (h : DictAt W P l) => id_any h hl hs)
  have hb1 : ((headR d.held).id != Idv l) = false := by rw [bne, beq_iff_eq.2 hi]; rfl
  have hq : Aside0 (∀ W : World, DictAt W P l → Calls Tryz.prog 15 #[P] W fun e w' => e = .returned (.int .u64 (Idv l)) ∧ Below W.heap.size W w') := HID
  generalize Idv l = iv at *
  generalize headR d.held = q at *
  obtain ⟨qc, qk, qi, qe⟩ := q
  have d1 : ((qi : Int) != iv) = false := hb1
  have HT := Aside0.mk (fun (W : World) (h : DecAt W g P { d with hc := qc, hk := qk, hid := qi, begun := true }) => take_calls h 17 h17 (by show d.at_ + 17 ≤ _; omega) hz)
  have cP := h.c0
  have f1 := h.fz 1
  have f2 := h.fz 2
  have f3 := h.fz 3
  have f4 := h.fz 4
  have k1 := h.c1
  have k2 := h.c2
  have k3 := h.c3
  have k4 := h.c4
  have HF := Aside0.mk (fun i => h.fz i)
  have HLT := Aside0.mk h.lt
  clear h he hi hd hb1 hs HID h17 ha f1 f2 f3 f4 k1 k2 k3 k4
  go_enter Tryz.func73, Tryz.ntmps73
  go_wp2_with fail
  refine (HG.out _).mono ?_
  rintro e w1 ⟨rfl, hb1⟩
  have HB1 := Aside0.mk hb1
  have cP1 := pw_cell_below hb1 cP
  clear hb1
  go_wp2_with fail
  have s1 : (w1.alloc (.cells #[.int .i64 (qc : Int), .int .i64 (qk : Int), .int .u64 (qi : Int)] 40)).cell? ⟨w1.heap.size, 2, none⟩ = some (.int .u64 (qi : Int)) := by simp
  have s2 : (w1.alloc (.cells #[.int .i64 (qc : Int), .int .i64 (qk : Int), .int .u64 (qi : Int)] 40)).cell? ⟨g, 0, none⟩ = some P := pw_cell_below ((Below.refl _ _).alloc (Nat.le_refl _) _) cP1
  go_region_held3 (fun w' => w'.cell? ⟨w1.heap.size, 2, none⟩ = some (.int .u64 (qi : Int)) ∧ w'.cell? ⟨g, 0, none⟩ = some P)
    (first | exact ⟨s1, s2⟩ | exact ⟨s3, s4⟩)
    ((go_at_call 15; refine (hq.out _ (HDI.out _ (Mv.of (by repeat (first | exact HB1.out | apply below_alloc | apply below_drew | apply pw_below_drewN))))).mono ?_; rintro e w2 ⟨rfl, hb2⟩; have hm2 : Below w.heap.size w w2 := below_step (by repeat (first | exact HB1.out | apply below_alloc | apply below_drew | apply pw_below_drewN)) hb2; have s3 : w2.cell? ⟨w1.heap.size, 2, none⟩ = some (.int .u64 (qi : Int)) := pw_cell_below hb2 s1; have s4 : w2.cell? ⟨g, 0, none⟩ = some P := pw_cell_below hb2 s2))
  have HM2 := Aside0.mk hm2
  have hd2 := H.out.below hm2
  have HD2 := Aside0.mk hd2
  have k1 := hd2.c1
  have k2 := hd2.c2
  have k3 := hd2.c3
  have k4 := hd2.c4
  have f1 := hd2.fz 1
  have f2 := hd2.fz 2
  have f3 := hd2.fz 3
  have f4 := hd2.fz 4
  have e0 := pw_cell_below hb2 (a := ⟨w1.heap.size, 0, none⟩) (v := .int .i64 (qc : Int)) (by simp)
  have e1 := pw_cell_below hb2 (a := ⟨w1.heap.size, 1, none⟩) (v := .int .i64 (qk : Int)) (by simp)
  have e2 := pw_cell_below hb2 (a := ⟨w1.heap.size, 2, none⟩) (v := .int .u64 (qi : Int)) (by simp)
  clear hm2 hb2 hd2
  go_wp2_with fail
  have hd5 : DecAt ((((w2.setCell ⟨g, 1, none⟩ (.int .i64 (qc : Int))).setCell ⟨g, 2, none⟩ (.int .i64 (qk : Int))).setCell ⟨g, 3, none⟩ (.int .u64 (qi : Int))).setCell ⟨g, 4, none⟩ (.bool true)) g P { d with hc := qc, hk := qk, hid := qi, begun := true } := blk_put (blk_put (blk_put (blk_put HD2.out 1 _ rfl) 2 _ rfl) 3 _ rfl) 4 _ rfl
  refine (HT.out _ hd5).mono ?_
  rintro e w6 ⟨rfl, hd6, hm6⟩
  have HD6 := Aside0.mk hd6
  have HM6 := Aside0.mk hm6
  clear hd5 hd6 hm6
  go_wp2_with fail
  go_ret
  exact ⟨rfl, HD6.out, (((((Mv.of HM2.out).set_ 1 _).set_ 2 _).set_ 3 _).set_ 4 _).trans HM6.out⟩
end Go.Proofs.YtdpkgjahcapleaaGreat
