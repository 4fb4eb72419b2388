/- ShV: a part of its proof (contracts of the functions that it reaches, and the plain mathematics behind them). -/
import Derived.Test.YtepgkimlmoikmaaGreatShV38
import Derived.Test.YtepgkimlmoikmaaGreatShV39
import Derived.Deep.DeepCutAuto
set_option linter.unusedVariables false
set_option linter.unusedSimpArgs false
set_option maxHeartbeats 2000000
set_option maxRecDepth 100000
set_option linter.unusedVariables false
set_option linter.unusedSimpArgs false
namespace Go.Proofs.YtepgkimlmoikmaaGreat
open Go.RowKit Go.Proofs.YtepgkimlmoikmaaGreat.Spec Go.Proofs.YtepgkimlmoikmaaGreatW.PrintWords Go.Proofs.YtepgkimlmoikmaaGreatW.PrintLast
open Go.Proofs.YtepgkimlmoikmaaGreatW.PrintMore
attribute [local go_sem ↓] Go.wp_at_zero Go.wp_at_succ
attribute [local go_sem] max2_int min2_int max_two min_two
namespace Spec
def wrongD (d : D) (e : Int) : D := { d with held := ⟨#[]⟩, ec := e, ea := d.at_ }
def beginD (l : List ByteArray) (d : D) : D × Bool :=
 if (headR d.held).e = 2 then (d, false)
 else if (headR d.held).e ≠ 0 then (wrongD d (headR d.held).e, false)
 else if ((headR d.held).id : Int) ≠ Idv l then (wrongD d 6, false)
 else ({ d with hc := (headR d.held).c, hk := (headR d.held).k, hid := (headR d.held).id, begun := true, held := d.held.extract 17 d.held.size, at_ := d.at_ + 17 }, true)
def stepD (d : D) (f : Fr) (s : ByteArray) : D := { d with done := decide (f.kind = 0), told := d.told + s.size, held := d.held.extract f.n d.held.size, at_ := d.at_ + f.n }
def nextD (l : List ByteArray) (d : D) : D × ByteArray × Bool :=
 if d.begun = false then ((beginD l d).1, ⟨#[]⟩, (beginD l d).2)
 else if d.held.size = 0 then (d, ⟨#[]⟩, false)
 else if d.done = true then (wrongD d 13, ⟨#[]⟩, false)
 else if (frameR d.held d.hk).e = 2 then (d, ⟨#[]⟩, false)
 else if (frameR d.held d.hk).e ≠ 0 then (wrongD d (frameR d.held d.hk).e, ⟨#[]⟩, false)
 else if (meantD l d.hc d.told (frameR d.held d.hk)).2 ≠ 0 then (wrongD d (meantD l d.hc d.told (frameR d.held d.hk)).2, ⟨#[]⟩, false)
 else (stepD d (frameR d.held d.hk) (meantD l d.hc d.told (frameR d.held d.hk)).1, (meantD l d.hc d.told (frameR d.held d.hk)).1, true)
end Spec
theorem old_cells {W W1 : World} (hb : Below W.heap.size W W1) : (∀ k i, k < W.heap.size → W1.cell? ⟨k, i, none⟩ = W.cell? ⟨k, i, none⟩) ∧ (∀ k i, k < W.heap.size → W1.frozen? ⟨k, i, none⟩ = W.frozen? ⟨k, i, none⟩) :=
 ⟨fun k i h => hb.cell (p := ⟨k, i, none⟩) h, fun k i h => hb.frozen (p := ⟨k, i, none⟩) h⟩
theorem head_size {b : ByteArray} (h : (headR b).e ≠ 2) : 17 ≤ b.size := by
 unfold headR at h
 by_cases g : b.size < 17
 ·rw [if_pos g] at h; exact absurd rfl h
 ·omega
theorem begin_any {w : World} {g : Nat} {P : Value} {d : D} {l : List ByteArray} (h : DecAt w g P d) (hd : DicF g w P l) (hl : l.length ≤ 100) (hs : ∀ s ∈ l, 1 ≤ s.size ∧ s.size ≤ 40) (hz : d.held.size ≤ 1000000000) (ha : d.at_ ≤ 100000000) :
  Calls Tryz.prog 156 #[.pointer (some ⟨g, 0, none⟩)] w fun e w' => e = .returned (.bool (beginD l d).2) ∧ DecAt w' g P (beginD l d).1 ∧ Mv g w w' := by
 have hs' : ∀ s ∈ l, s.size < 1000000 := fun s hm => by have := (hs s hm).2; omega
 unfold beginD
 by_cases h1 : (headR d.held).e = 2
 ·rw [if_pos h1]; exact begin_wait h hz h1
 rw [if_neg h1]
 by_cases h2 : (headR d.held).e ≠ 0
 ·rw [if_pos h2]; exact begin_bad h hz h1 h2
 rw [if_neg h2]
 by_cases h3 : ((headR d.held).id : Int) ≠ Idv l
 ·rw [if_pos h3]; exact begin_id h hd hl hs' hz (Decidable.not_not.1 h2) h3
 ·rw [if_neg h3]; exact begin_ok h hd hl hs' hz (Decidable.not_not.1 h2) (Decidable.not_not.1 h3) (head_size h1) ha
theorem next_begin {w : World} {g : Nat} {P : Value} {d : D} {l : List ByteArray} (h : DecAt w g P d) (hd : DicF g w P l) (hl : l.length ≤ 100) (hs : ∀ s ∈ l, 1 ≤ s.size ∧ s.size ≤ 40) (hz : d.held.size ≤ 1000000000) (ha : d.at_ ≤ 100000000) (hb : d.begun = false) :
  Calls Tryz.prog 115 #[.pointer (some ⟨g, 0, none⟩)] w fun e w' => e = .returned (.tuple #[.string (nextD l d).2.1, .bool (nextD l d).2.2]) ∧ DecAt w' g P (nextD l d).1 ∧ Mv g w w' := by
 have hn : nextD l d = ((beginD l d).1, ⟨#[]⟩, (beginD l d).2) := by unfold nextD; rw [if_pos hb]
 rw [hn]
 have HB := Aside0.mk (begin_any h hd hl hs hz ha)
 generalize beginD l d = q at *
 obtain ⟨q1, q2⟩ := q
 have c4 := h.c4
 rw [hb] at c4
 clear h hd hl hs hz ha hb hn
 go_enter Tryz.func115, Tryz.ntmps115
 go_wp2_with fail
 refine HB.out.mono ?_
 rintro e w1 ⟨rfl, hd1, hm1⟩
 have HD1 := Aside0.mk hd1
 have HM1 := Aside0.mk hm1
 clear hd1 hm1
 go_wp2_with fail
 go_ret2
 exact ⟨rfl, HD1.out, HM1.out⟩
theorem next_stop {w : World} {g : Nat} {P : Value} {d : D} (l : List ByteArray) (h : DecAt w g P d) (hb : d.begun = true) (hz : d.held.size = 0 ∨ d.done = true) :
  Calls Tryz.prog 115 #[.pointer (some ⟨g, 0, none⟩)] w fun e w' => e = .returned (.tuple #[.string (nextD l d).2.1, .bool (nextD l d).2.2]) ∧ DecAt w' g P (nextD l d).1 ∧ Mv g w w' := by
 have c4 := h.c4
 have c6 := h.c6
 rw [hb] at c4
 by_cases h0 : d.held.size = 0
 ·have hn : nextD l d = (d, ⟨#[]⟩, false) := by unfold nextD; rw [if_neg (by rw [hb]; decide), if_pos h0]
  rw [hn]
  have z2 : d.held.toList = [] := Bridge.empty_iff.2 h0
  have z1 : d.held.toList.isEmpty = true := by rw [z2]; rfl
  have H := Aside0.mk h
  clear h hb hz h0 hn
  go_enter Tryz.func115, Tryz.ntmps115
  go_wp2_with fail
  go_ret2
  exact ⟨rfl, H.out, Mv.refl _ _⟩
 ·have hdn : d.done = true := hz.resolve_left h0
  have hn : nextD l d = (wrongD d 13, ⟨#[]⟩, false) := by unfold nextD; rw [if_neg (by rw [hb]; decide), if_neg h0, if_pos hdn]
  rw [hn]
  have z1 := not_nil2 (b := d.held) (by omega)
  have z2 : ¬ d.held.toList = [] := by intro e; rw [e] at z1; cases z1
  have c5 := h.c5
  rw [hdn] at c5
  have HW := Aside0.mk (wrong_calls h (13 : Int) (by decide))
  clear h hb hz h0 hn hdn
  go_enter Tryz.func115, Tryz.ntmps115
  go_wp2_with fail
  refine HW.out.mono ?_
  rintro e w1 ⟨rfl, hd1, hm1⟩
  have HD1 := Aside0.mk hd1
  have HM1 := Aside0.mk hm1
  clear hd1 hm1
  go_wp2_with fail
  go_ret2
  exact ⟨rfl, HD1.out, HM1.out⟩
theorem meantd_any {w : World} {g : Nat} {P : Value} {d : D} {l : List ByteArray} (h : DecAt w g P d) (hdi : DicF g w P l) (hl : l.length ≤ 100) (hs : ∀ s ∈ l, 1 ≤ s.size ∧ s.size ≤ 40) (b : ByteArray) (blk : Nat) (he : (frameR b blk).e = 0) (hc : d.hc ≤ 1) (ht : d.told ≤ 1000000000) :
  Calls Tryz.prog 159 #[.pointer (some ⟨g, 0, none⟩), .agg #[.int .i64 ((frameR b blk).kind : Int), .int .i64 ((frameR b blk).raw : Int), .int .u32 ((frameR b blk).sum : Int), .string (frameR b blk).pay]] w fun e w' => e = .returned (.tuple #[.string (meantD l d.hc d.told (frameR b blk)).1, .int .i64 (meantD l d.hc d.told (frameR b blk)).2]) ∧ Below w.heap.size w w' := by
 obtain ⟨_, _, _, hf⟩ := frame_n b blk he
 rcases hf with ⟨hk, hr⟩ | ⟨hk, hr, hp⟩
 ·exact meant_end l h _ hk hr ht
 ·refine meant_blk h hdi hl hs _ (by omega) (by omega) ?_
  obtain ⟨_, g2, g3⟩ := getR_ok hl hs d.hc (frameR b blk).kind (frameR b blk).raw (frameR b blk).pay (by omega) (by omega) (by omega)
  by_cases q : (getR l d.hc (frameR b blk).kind (frameR b blk).raw (frameR b blk).pay).2 = 0
  ·have := g2 q; omega
  ·rw [g3 q]; exact Nat.zero_le _
theorem meant_size {l : List ByteArray} (hl : l.length ≤ 100) (hs : ∀ s ∈ l, 1 ≤ s.size ∧ s.size ≤ 40) {how : Nat} (hc : how ≤ 1) (told : Nat) (b : ByteArray) (blk : Nat) (he : (frameR b blk).e = 0) (hm : (meantD l how told (frameR b blk)).2 = 0) : (meantD l how told (frameR b blk)).1.size ≤ 1024 := by
 obtain ⟨_, _, _, hf⟩ := frame_n b blk he
 unfold meantD at hm ⊢
 rcases hf with ⟨hk, hr⟩ | ⟨hk, hr, hp⟩
 ·rw [if_pos hk]
  split <;> exact Nat.zero_le _
 ·rw [if_neg (by omega)] at hm ⊢
  obtain ⟨_, g2, g3⟩ := getR_ok hl hs how (frameR b blk).kind (frameR b blk).raw (frameR b blk).pay (by omega) (by omega) (by omega)
  by_cases q : (getR l how (frameR b blk).kind (frameR b blk).raw (frameR b blk).pay).2 = 0
  ·have := g2 q
   rw [if_pos q]
   split
   ·show (getR l how (frameR b blk).kind (frameR b blk).raw (frameR b blk).pay).1.size ≤ 1024
    omega
   ·show (getR l how (frameR b blk).kind (frameR b blk).raw (frameR b blk).pay).1.size ≤ 1024
    omega
  ·rw [if_neg q] at hm
   exact absurd hm q
theorem next_frame {w : World} {g : Nat} {P : Value} {d : D} {l : List ByteArray} (h : DecAt w g P d) (hdi : DicF g w P l) (hl : l.length ≤ 100) (hs : ∀ s ∈ l, 1 ≤ s.size ∧ s.size ≤ 40) (hz : d.held.size ≤ 1000000000) (ha : d.at_ ≤ 100000000) (ht : d.told ≤ 1000000000) (hc : d.hc ≤ 1) (hb : d.begun = true) (h0 : d.held.size ≠ 0) (hdn : d.done = false) :
    Calls Tryz.prog 115 #[.pointer (some ⟨g, 0, none⟩)] w fun e w' => e = .returned (.tuple #[.string (nextD l d).2.1, .bool (nextD l d).2.2]) ∧ DecAt w' g P (nextD l d).1 ∧ Mv g w w' := by
  have H := Aside0.mk h
  have HDI := Aside0.mk hdi
  have HN : Aside0 (nextD l d = _) := ⟨by unfold nextD; rw [if_neg (by rw [hb]; decide), if_neg h0, if_neg (by rw [hdn]; decide)]⟩
  have HFG := Aside0.mk (fun W => fget_calls d.held hz d.hk W)
  have HME := Aside0.mk (fun (W : World) (h : DecAt W g P d) (hdi : DicF g W P l) (he : (frameR d.held d.hk).e = 0) => meantd_any h hdi hl hs d.held d.hk he hc ht)
  have HMS := Aside0.mk (fun (he : (frameR d.held d.hk).e = 0) => meant_size hl hs hc d.told d.held d.hk he)
  have HFN := Aside0.mk (fun (he : (frameR d.held d.hk).e = 0) => frame_n d.held d.hk he)
  have HTK := Aside0.mk (fun (W : World) (dn : Bool) (td : Nat) (n : Nat) (h : DecAt W g P { d with done := dn, told := td }) (hn : n ≤ d.held.size) (h1 : n ≤ 2000) => take_calls h n hn (by show d.at_ + n ≤ _; omega) hz)
  generalize frameR d.held d.hk = f at *
  unfold frV at HFG
  obtain ⟨kd, r, sm, py, n, er⟩ := f
  dsimp only at HN HFG HME HMS HFN
  have z1 := not_nil2 (b := d.held) (by omega)
  have z2 : ¬ d.held.toList = [] := by intro e; rw [e] at z1; cases z1
  have c2 := h.c2
  have c4 := h.c4
  have c5 := h.c5
  have c6 := h.c6
  rw [hb] at c4
  rw [hdn] at c5
  have HT := Aside0.mk ht
  clear h hdi hl hs hz ha ht hc hb h0 hdn
  go_enter Tryz.func115, Tryz.ntmps115
  go_upto_region 8 with fail
  go_cut [4, 5, 6] (fun v4 v5 v6 wx => ∃ gf, v4 = .pointer (some ⟨gf, 0, none⟩) ∧ v5 = .int .i64 (n : Int) ∧ v6 = .int .i64 (er : Int) ∧ Aside0 (wx.heap[gf]? = some (.cells #[.int .i64 (kd : Int), .int .i64 (r : Int), .int .u32 (sm : Int), .string py] 67 (0, 0))) ∧ Aside0 (Below w.heap.size w wx) ∧ Aside0 (w.heap.size ≤ gf))
  case first =>
    go_region_held3 (fun w' => w'.cell? ⟨g, 6, none⟩ = some (.string d.held) ∧ w'.cell? ⟨g, 2, none⟩ = some (.int .i64 (d.hk : Int)))
      (first | exact ⟨c6, c2⟩ | (refine ⟨pw_cell_below ?_ c6, pw_cell_below ?_ c2⟩ <;> repeat (with_reducible first | exact Below.refl _ _ | exact hm2 | apply below_alloc | apply below_drew | apply pw_below_drewN | refine below_set ?_ (Nat.le_refl _) _ _ | refine below_set ?_ hm2.size _ _)))
      ((go_at_call 158; refine (HFG.out _).mono ?_; rintro e w2 ⟨rfl, hb2⟩; obtain ⟨hcc, hff⟩ := old_cells hb2; have hm2 : Below w.heap.size w w2 := below_step (by repeat (with_reducible first | exact Below.refl _ _ | apply below_alloc | apply below_drew | apply pw_below_drewN)) hb2))
    all_goals
      go_wp2_with fail
      go_meet
      first
        | (with_reducible refine ⟨w2.heap.size, rfl, rfl, rfl, ⟨?_⟩, ⟨?_⟩, ⟨hm2.size⟩⟩
           · exact blk_new _ _
           · exact below_alloc hm2 _)
        | (with_reducible refine ⟨w.heap.size, rfl, rfl, rfl, ⟨blk_put4 (a := .int .i64 0) (b := .int .i64 0) (c := .int .u32 0) (d := .string ⟨#[]⟩) (blk_below ?_ hb2)⟩, ⟨?_⟩, ⟨Nat.le_refl _⟩⟩
           · repeat (with_reducible first | refine blk_drewN ?_ _ | refine blk_drew ?_ | (refine blk_new2 _ _ _ ?_; rfl) | refine blk_alloc ?_ _)
           · repeat (with_reducible first | exact hm2 | refine below_set ?_ (Nat.le_refl _) _ _))
  case rest =>
    obtain ⟨gf, rfl, rfl, rfl, HBF, HBW, HGF⟩ := hcut
    have hd := H.out.below HBW.out
    have HD := Aside0.mk hd
    have HDW := Aside0.mk (HDI.out.step (Mv.of HBW.out))
    clear hd
    have hn := HN.out
    by_cases h2 : er = 2
    · rw [if_pos h2] at hn
      have HNN := Aside0.mk hn
      subst h2
      clear hn
      go_wp2_with fail
      go_ret2
      rw [HNN.out]
      exact ⟨rfl, HD.out, Mv.of HBW.out⟩
    rw [if_neg h2] at hn
    by_cases h0 : er = 0
    · rw [if_neg (fun n => n h0)] at hn
      subst h0
      have HMF := Aside0.mk (HME.out wc HD.out HDW.out rfl)
      have k0 : wc.cell? ⟨gf, 0, none⟩ = some (.int .i64 (kd : Int)) := (blk_cell HBF.out 0).trans rfl
      have k1 : wc.cell? ⟨gf, 1, none⟩ = some (.int .i64 (r : Int)) := (blk_cell HBF.out 1).trans rfl
      have k2 : wc.cell? ⟨gf, 2, none⟩ = some (.int .u32 (sm : Int)) := (blk_cell HBF.out 2).trans rfl
      have k3 : wc.cell? ⟨gf, 3, none⟩ = some (.string py) := (blk_cell HBF.out 3).trans rfl
      have hms := HMS.out rfl
      obtain ⟨n5, nz, n33, _⟩ := HFN.out rfl
      generalize meantD l d.hc d.told ⟨kd, r, sm, py, n, 0⟩ = m at *
      obtain ⟨S, E⟩ := m
      dsimp only at hn hms HMF
      by_cases hE : E = 0
      · rw [if_neg (fun n => n hE)] at hn
        have hms2 := hms hE
        subst hE
        have HNN := Aside0.mk hn
        have HSZ := Aside0.mk (And.intro hms2 (And.intro n5 (And.intro nz n33)))
        clear hn h2 hms hms2 n5 nz n33
        go_wp2_with fail
        refine HMF.out.mono ?_
        rintro e w2 ⟨rfl, hb2⟩
        have hd2 := HD.out.below hb2
        have HD2 := Aside0.mk hd2
        have HB2 := Aside0.mk hb2
        have f5 := hd2.fz 5
        have f8 := hd2.fz 8
        have c85 := hd2.c5
        have c8 := hd2.c8
        have r0 := pw_cell_below hb2 k0
        have t1 : (d.told : Int) ≤ 1000000000 := by have := HT.out; omega
        have t2 : (S.size : Int) ≤ 1024 := by have := HSZ.out.1; omega
        have hne : gf ≠ g := by have := HGF.out; have := H.out.lt; omega
        have hne2 : (⟨g, 5, none⟩ : Addr) ≠ ⟨gf, 0, none⟩ := fun e => hne (by injection e with e1 _ _; exact e1.symm)
        clear hd2 hb2
        by_cases hk : kd = 0
        · subst hk
          go_wp2_with fail
          have hd5 : DecAt ((w2.setCell ⟨g, 5, none⟩ (.bool true)).setCell ⟨g, 8, none⟩ (.int .i64 ((d.told : Int) + (S.size : Int)))) g P { d with done := true, told := d.told + S.size } := blk_put (blk_put HD2.out 5 _ rfl) 8 _ rfl
          refine (HTK.out _ true (d.told + S.size) n hd5 HSZ.out.2.2.1 (by have := HSZ.out.2.2.2; omega)).mono ?_
          rintro e w6 ⟨rfl, hd6, hm6⟩
          have HD6 := Aside0.mk hd6
          have HM6 := Aside0.mk hm6
          clear hd5 hd6 hm6
          go_wp2_with fail
          go_ret2
          rw [HNN.out]
          exact ⟨rfl, HD6.out, ((((Mv.of HBW.out).then HB2.out).set_ 5 _).set_ 8 _).trans HM6.out⟩
        · have dk : ((kd : Int) == 0) = false := beq_eq_false_iff_ne.2 (by omega)
          have HK : Aside0 (decide (kd = 0) = false) := ⟨decide_eq_false hk⟩
          clear hk
          go_wp2_with fail
          have hd5 : DecAt ((w2.setCell ⟨g, 5, none⟩ (.bool false)).setCell ⟨g, 8, none⟩ (.int .i64 ((d.told : Int) + (S.size : Int)))) g P { d with done := false, told := d.told + S.size } := blk_put (blk_put HD2.out 5 _ rfl) 8 _ rfl
          refine (HTK.out _ false (d.told + S.size) n hd5 HSZ.out.2.2.1 (by have := HSZ.out.2.2.2; omega)).mono ?_
          rintro e w6 ⟨rfl, hd6, hm6⟩
          have HD6 := Aside0.mk hd6
          have HM6 := Aside0.mk hm6
          clear hd5 hd6 hm6
          go_wp2_with fail
          go_ret2
          rw [HNN.out]
          unfold stepD
          dsimp only
          rw [HK.out]
          exact ⟨rfl, HD6.out, ((((Mv.of HBW.out).then HB2.out).set_ 5 _).set_ 8 _).trans HM6.out⟩
      · rw [if_pos hE] at hn
        have HNN := Aside0.mk hn
        have d1 : (E == 0) = false := beq_eq_false_iff_ne.2 hE
        have d2 : (E != 0) = true := bne_iff_ne.2 hE
        have HW := Aside0.mk (fun (W : World) (h : DecAt W g P d) => wrong_calls h E hE)
        clear hn h2 hms n5 nz n33 hE
        go_wp2_with fail
        refine HMF.out.mono ?_
        rintro e w2 ⟨rfl, hb2⟩
        have HB2 := Aside0.mk hb2
        clear hb2
        go_wp2_with fail
        refine (HW.out _ (HD.out.below HB2.out)).mono ?_
        rintro e w3 ⟨rfl, hd3, hm3⟩
        have HD3 := Aside0.mk hd3
        have HM3 := Aside0.mk hm3
        clear hd3 hm3
        go_wp2_with fail
        go_ret2
        rw [HNN.out]
        exact ⟨rfl, HD3.out, ((Mv.of HBW.out).then HB2.out).trans HM3.out⟩
    · rw [if_pos h0] at hn
      have HNN := Aside0.mk hn
      have d1 : ((er : Int) == 2) = false := beq_eq_false_iff_ne.2 (by omega)
      have d2 : ((er : Int) == 0) = false := beq_eq_false_iff_ne.2 (by omega)
      have d3 : ((er : Int) != 0) = true := bne_iff_ne.2 (by omega)
      have HW := Aside0.mk (wrong_calls HD.out (er : Int) (by omega))
      clear hn h2 h0
      go_wp2_with fail
      refine HW.out.mono ?_
      rintro e w3 ⟨rfl, hd3, hm3⟩
      have HD3 := Aside0.mk hd3
      have HM3 := Aside0.mk hm3
      clear hd3 hm3
      go_wp2_with fail
      go_ret2
      rw [HNN.out]
      exact ⟨rfl, HD3.out, (Mv.of HBW.out).trans HM3.out⟩
end Go.Proofs.YtepgkimlmoikmaaGreat
