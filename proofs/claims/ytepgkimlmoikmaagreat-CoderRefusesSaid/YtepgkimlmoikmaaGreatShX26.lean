/- ShX: a part of its proof (contracts of the functions that it reaches, and the plain mathematics behind them). -/
import Derived.Test.YtepgkimlmoikmaaGreatShX23
import Derived.Test.YtepgkimlmoikmaaGreatShX28
import Derived.StillTailTactics
import Derived.Test.YtepgkimlmoikmaaGreatShX41
set_option linter.unusedVariables false
set_option linter.unusedSimpArgs false
set_option linter.unusedVariables false
set_option linter.unusedSimpArgs false
namespace Go.Proofs.YtepgkimlmoikmaaGreat
open Go.RowKit Go.Proofs.YtepgkimlmoikmaaGreat.Spec Go.Proofs.YtepgkimlmoikmaaGreatW.PrintWords Go.Proofs.YtepgkimlmoikmaaGreatW.PrintLast
open Go.Proofs.YtepgkimlmoikmaaGreatW.PrintMore
attribute [local go_sem ↓] Go.wp_at_zero Go.wp_at_succ
attribute [local go_sem] max2_int min2_int max_two min_two
theorem frameS_size (kd r sm : Nat) (p : ByteArray) : (frameS kd r sm p).size = 9 + p.size := by
 unfold frameS
 rw [ByteArray.size_append, ByteArray.size_append, ByteArray.size_append, ByteArray.size_append, beS_size, beS_size, beS_size, beS_size]
theorem headS_size (c k id : Nat) : (headS c k id).size = 17 := by
 unfold headS
 rw [ByteArray.size_append, ByteArray.size_append, ByteArray.size_append, ByteArray.size_append, beS_size, beS_size, beS_size, beS_size]
 rfl
theorem endS_size (n : Nat) : (endS n).size = 5 := by
 unfold endS
 rw [ByteArray.size_append, beS_size, beS_size]
theorem blkS_size {P : Value} {l : List ByteArray} {e : En} {pay : ByteArray → Nat × ByteArray} (hp : PutOk P l e pay) (hk : e.k ≤ 1024) (b : ByteArray) (h1 : 1 ≤ b.size) (h2 : b.size ≤ e.k) : (blkS pay b).size ≤ 9 + b.size ∧ 10 ≤ (blkS pay b).size := by
 unfold blkS
 rw [frameS_size]
 have := hp.fits b h1 h2
 unfold fitsR at this
 omega
theorem cut_rest (pay : ByteArray → Nat × ByteArray) (k : Nat) (hk : 1 ≤ k) : ∀ (f : Nat) (h : ByteArray), h.size ≤ f → (cutR pay k f h).2.size < k := by
 intro f
 induction f with
 | zero => intro h hf; show h.size < k; omega
 | succ f ih =>
  intro h hf
  rw [cutR]
  by_cases g : k ≤ h.size
  ·rw [if_pos g]; exact ih _ (by rw [ext_all]; omega)
  ·rw [if_neg g]; show h.size < k; omega
theorem cut_fuel (pay : ByteArray → Nat × ByteArray) (k : Nat) (hk : 1 ≤ k) : ∀ (f f' : Nat) (h : ByteArray), h.size ≤ f → h.size ≤ f' → cutR pay k f h = cutR pay k f' h := by
 intro f
 induction f with
 | zero =>
  intro f' h h1 h2
  cases f' with
  | zero => rfl
  | succ f' => rw [cutR, cutR, if_neg (by omega)]
 | succ f ih =>
  intro f' h h1 h2
  cases f' with
  | zero => rw [cutR, cutR, if_neg (by omega)]
  | succ f' =>
   rw [cutR, cutR]
   by_cases g : k ≤ h.size
   ·rw [if_pos g, if_pos g, ih f' _ (by rw [ext_all]; omega) (by rw [ext_all]; omega)]
   ·rw [if_neg g, if_neg g]
theorem cut_size {P : Value} {l : List ByteArray} {e : En} {pay : ByteArray → Nat × ByteArray} (hp : PutOk P l e pay) (hk1 : 1 ≤ e.k) (hk : e.k ≤ 1024) : ∀ (f : Nat) (h : ByteArray), (cutR pay e.k f h).1.size ≤ 10 * h.size ∧ (cutR pay e.k f h).2.size ≤ h.size := by
 intro f
 induction f with
 | zero => intro h; exact ⟨Nat.zero_le _, Nat.le_refl _⟩
 | succ f ih =>
  intro h
  rw [cutR]
  by_cases g : e.k ≤ h.size
  ·rw [if_pos g]
   have z1 := ext_sz h 0 e.k g
   have z2 := ext_all h e.k
   have h1 := (blkS_size hp hk (h.extract 0 e.k) (by omega) (by omega)).1
   obtain ⟨h2, h3⟩ := ih (h.extract e.k h.size)
   refine ⟨?_, by show (cutR pay e.k f (h.extract e.k h.size)).2.size ≤ h.size; omega⟩
   show (blkS pay (h.extract 0 e.k) ++ (cutR pay e.k f (h.extract e.k h.size)).1).size ≤ 10 * h.size
   rw [ByteArray.size_append]
   omega
  ·rw [if_neg g]; exact ⟨Nat.zero_le _, Nat.le_refl _⟩
def heldE (g : Nat) (w : World) : Nat := match w.cell? ⟨g, 5, none⟩ with | some (.string s) => s.size | _ => 0
theorem heldE_is {w : World} {g : Nat} {P : Value} {d : En} (h : EncAt w g P d) : heldE g w = d.held.size := by unfold heldE; rw [h.c5]
set_option maxHeartbeats 2000000 in
set_option maxRecDepth 100000 in
theorem write_any {w : World} {g : Nat} {P : Value} {e e1 : En} {l : List ByteArray} {pay : ByteArray → Nat × ByteArray} {hd : ByteArray} (hbeg : Calls Tryz.prog 118 #[.pointer (some ⟨g, 0, none⟩)] w fun x w' => x = .returned (.tuple #[.string hd, .nilIface]) ∧ EncAt w' g P e1 ∧ Mv g w w') (hdi : DicF g w P l) (hp : PutOk P l e1 pay) (hk : 1 ≤ e1.k ∧ e1.k ≤ 1024) (b : ByteArray) (hz : e1.held.size + b.size ≤ 1000000) (hw : e1.written + b.size ≤ 1000000) (hh : hd.size ≤ 17) :
  Calls Tryz.prog 53 #[.pointer (some ⟨g, 0, none⟩), .string b] w fun x w' => x = .returned (.tuple #[.string (hd ++ (cutR pay e1.k (e1.held ++ b).size (e1.held ++ b)).1), .nilIface]) ∧ EncAt w' g P { e1 with held := (cutR pay e1.k (e1.held ++ b).size (e1.held ++ b)).2, written := e1.written + b.size } ∧ Mv g w w' := by
 have HBEG := Aside0.mk hbeg
 have HDI := Aside0.mk hdi
 have HK := Aside0.mk hk
 have HZ := Aside0.mk (And.intro hz (And.intro hw hh))
 have HFR := Aside0.mk (fun (W : World) (x : En) (h : EncAt W g P x) (hd : DicF g W P l) (hx : x = { e1 with held := x.held, written := x.written }) (c : ByteArray) (h1 : 1 ≤ c.size) (h2 : c.size ≤ e1.k) => eframe_calls (pay := pay) h hd (by rw [hx]; exact ⟨hp.calls, hp.fits⟩) c h1 (by rw [hx]; exact h2) (by rw [hx]; exact hk.2))
 obtain ⟨R1, hR1⟩ : ∃ R1, R1 = (cutR pay e1.k (e1.held ++ b).size (e1.held ++ b)).1 := ⟨_, rfl⟩
 obtain ⟨R2, hR2⟩ : ∃ R2, R2 = (cutR pay e1.k (e1.held ++ b).size (e1.held ++ b)).2 := ⟨_, rfl⟩
 have hRz : R1.size ≤ 10 * (e1.held.size + b.size) := by rw [hR1, ← ByteArray.size_append]; exact (cut_size hp hk.1 hk.2 _ _).1
 have hRB : ∀ h : ByteArray, h.size = (e1.held ++ b).size → h.size ≤ 1000000 := fun h q => by rw [q, ByteArray.size_append]; exact hz
 rw [← hR1, ← hR2]
 have HRR := Aside0.mk (And.intro hR1 hR2)
 have HRZ := Aside0.mk hRz
 have HBS := Aside0.mk (fun (c : ByteArray) (h1 : 1 ≤ c.size) (h2 : c.size ≤ e1.k) => blkS_size hp hk.2 c h1 h2)
 have u1 : ¬ 9223372036854775807 < e1.held.size + b.size := by omega
 have u2 : (e1.written : Int) + (b.size : Int) ≤ 1000000 := by omega
 have t0 : (hd.size : Int) ≤ 17 := by omega
 clear hbeg hdi hp hk hz hw hh hR1 hR2 hRz hRB
 go_enter Tryz.func53, Tryz.ntmps53
 go_wp2_with fail
 refine HBEG.out.mono ?_
 rintro x w1 ⟨rfl, he1, hm1⟩
 have HM1 := Aside0.mk hm1
 have c5 := he1.c5
 have c6 := he1.c6
 have f5 := he1.fz 5
 have f6 := he1.fz 6
 have HE1 := Aside0.mk he1
 clear he1 hm1
 go_wp2_with fail
 have he2 : EncAt ((w1.setCell ⟨g, 6, none⟩ (.int .i64 ((e1.written : Int) + (b.size : Int)))).setCell ⟨g, 5, none⟩ (.string (e1.held ++ b))) g P { e1 with held := e1.held ++ b, written := e1.written + b.size } := blk_put (blk_put HE1.out 6 _ rfl) 5 _ rfl
 have HE2 := Aside0.mk he2
 clear he2
 go_loopw [6] (fun v6 wr => ∃ (o h : ByteArray), v6 = .string o ∧ Aside0 (EncAt wr g P { e1 with held := h, written := e1.written + b.size }) ∧ Aside0 (h.size ≤ e1.held.size + b.size) ∧ Aside0 (o ++ (cutR pay e1.k h.size h).1 = hd ++ R1 ∧ (cutR pay e1.k h.size h).2 = R2) ∧ Aside0 (Mv g w wr)) (fun _ wr => heldE g wr)
 case atStart => exact ⟨hd, e1.held ++ b, rfl, HE2, ⟨Nat.le_of_eq (ByteArray.size_append ..)⟩, ⟨⟨by rw [HRR.out.1], HRR.out.2.symm⟩⟩, ⟨(HM1.out.set_ 6 _).set_ 5 _⟩⟩
 case round =>
  obtain ⟨o, h, rfl, HE3, HL3, HQ3, HM3⟩ := hrel
  have c5 := HE3.out.c5
  have c3 := HE3.out.c3
  have f5 := HE3.out.fz 5
  obtain ⟨k1, k2⟩ := HK.out
  have hq := HQ3.out
  have hz1 := HZ.out.1
  have hl := HL3.out
  have ho := congrArg ByteArray.size hq.1
  rw [ByteArray.size_append, ByteArray.size_append] at ho
  have hcs := HRZ.out
  have hhd := HZ.out.2.2
  dsimp only at c5 c3
  by_cases hlt : e1.k ≤ h.size
  ·have d1 : decide ((e1.k : Int) ≤ (h.size : Int)) = true := decide_eq_true (by omega)
   have d1' : decide (e1.k ≤ h.size) = true := decide_eq_true hlt
   have z1 := ext_sz h 0 e1.k hlt
   have p1 : (e1.k : Int) ≤ (h.size : Int) := by omega
   have p2 : e1.k ≤ h.size := hlt
   have hbs := (HBS.out (h.extract 0 e1.k) (by omega) (by omega)).1
   have u3 : ¬ 9223372036854775807 < o.size + (blkS pay (h.extract 0 e1.k)).size := by omega
   have HFR3 := Aside0.mk (fun (W : World) (h1 : EncAt W g P { e1 with held := h, written := e1.written + b.size }) (hd : DicF g W P l) => HFR.out W _ h1 hd rfl (h.extract 0 e1.k) (by omega) (by omega))
   have HLT := Aside0.mk (And.intro hlt (And.intro k1 (And.intro hl hq)))
   clear hlt hbs z1 ho hcs hhd hz1 hl hq k1 k2
   go_wp2_with fail
   go_quiet (fail)
   go_wp2_with fail
   go_region_held3 (fun w' => w'.cell? ⟨g, 5, none⟩ = some (.string h) ∧ w'.cell? ⟨g, 3, none⟩ = some (.int .i64 (e1.k : Int)))
    (first | exact ⟨c5, c3⟩ | exact ⟨pw_cell_below h2 c5, pw_cell_below h2 c3⟩)
    ((go_at_call 119; refine (HFR3.out _ (HE3.out.below (by repeat (first | exact Below.refl _ _ | apply below_drew | apply pw_below_drewN))) (HDI.out.step (HM3.out.then (by repeat (first | exact Below.refl _ _ | apply below_drew | apply pw_below_drewN))))).mono ?_; rintro x w2 ⟨rfl, hb2⟩; have h2 : Below wr.heap.size wr w2 := below_step (by repeat (first | exact Below.refl _ _ | apply below_drew | apply pw_below_drewN)) hb2))
   have HB2 := Aside0.mk h2
   have he4 := HE3.out.below h2
   have HE4 := Aside0.mk he4
   have c5' := he4.c5
   have c3' := he4.c3
   have f5' := he4.fz 5
   clear hb2 h2 he4
   go_wp2_with fail
   go_still_tail 13, (by kernel_rfl)
   change wpList _ _ _ _ _ w2.drew
   go_wp2_with fail
   obtain ⟨hlt, k1, hl, hq⟩ := HLT.out
   have he5 : EncAt (w2.setCell ⟨g, 5, none⟩ (.string (h.extract e1.k h.size))).drew g P { e1 with held := h.extract e1.k h.size, written := e1.written + b.size } := blk_drew (blk_put HE4.out 5 _ rfl)
   have hz2 := ext_all h e1.k
   have hr : cutR pay e1.k h.size h = (blkS pay (h.extract 0 e1.k) ++ (cutR pay e1.k (h.extract e1.k h.size).size (h.extract e1.k h.size)).1, (cutR pay e1.k (h.extract e1.k h.size).size (h.extract e1.k h.size)).2) := by
    obtain ⟨f, hf⟩ : ∃ f, h.size = f + 1 := ⟨h.size - 1, by omega⟩
    rw [cut_fuel pay e1.k k1 h.size (f + 1) h (Nat.le_refl _) (by omega), cutR, if_pos hlt, cut_fuel pay e1.k k1 f (h.extract e1.k h.size).size (h.extract e1.k h.size) (by omega) (Nat.le_refl _)]
   rw [hr] at hq
   refine ⟨⟨_, _, rfl, ⟨he5⟩, ⟨by omega⟩, ⟨by rw [ba_assoc]; exact hq⟩, ⟨((HM3.out.then HB2.out).set_ 5 _).drewN 1⟩⟩, ?_⟩
   rw [heldE_is he5, heldE_is HE3.out]
   show (h.extract e1.k h.size).size < h.size
   omega
  ·have d1 : decide ((e1.k : Int) ≤ (h.size : Int)) = false := decide_eq_false (by omega)
   have d1' : decide (e1.k ≤ h.size) = false := decide_eq_false hlt
   have hr : cutR pay e1.k h.size h = (⟨#[]⟩, h) := by
    cases hs : h.size with
    | zero => rfl
    | succ f => rw [cutR, if_neg (by omega)]
   rw [hr] at hq
   have HQ4 := Aside0.mk hq
   clear hlt hr ho hcs hhd hz1 hl hq k1 k2
   go_wp2_with fail
   go_quiet (fail)
   go_wp2_with fail
   go_ret2
   have hq := HQ4.out
   rw [ba_append_nil] at hq
   have he := HE3.out
   rw [hq.2] at he
   exact ⟨by rw [← hq.1]; rfl, he.below (by repeat (first | exact Below.refl _ _ | apply below_drew | apply pw_below_drewN)), HM3.out.then (by repeat (first | exact Below.refl _ _ | apply below_drew | apply pw_below_drewN))⟩
set_option maxHeartbeats 2000000 in
set_option maxRecDepth 100000 in
theorem flush_any {w : World} {g : Nat} {P : Value} {e e1 : En} {l : List ByteArray} {pay : ByteArray → Nat × ByteArray} {hd : ByteArray} (hbeg : Calls Tryz.prog 118 #[.pointer (some ⟨g, 0, none⟩)] w fun x w' => x = .returned (.tuple #[.string hd, .nilIface]) ∧ EncAt w' g P e1 ∧ Mv g w w') (hdi : DicF g w P l) (hp : PutOk P l e1 pay) (hk : 1 ≤ e1.k ∧ e1.k ≤ 1024) (hz : e1.held.size ≤ e1.k) (hh : hd.size ≤ 17) :
  Calls Tryz.prog 54 #[.pointer (some ⟨g, 0, none⟩)] w fun x w' => x = .returned (.tuple #[.string (if e1.held.size = 0 then hd else hd ++ blkS pay e1.held), .nilIface]) ∧ EncAt w' g P { e1 with held := ⟨#[]⟩ } ∧ Mv g w w' := by
 have HBEG := Aside0.mk hbeg
 have HDI := Aside0.mk hdi
 by_cases h0 : e1.held.size = 0
 ·rw [if_pos h0]
  have z2 : e1.held.toList = [] := Bridge.empty_iff.2 h0
  have z1 : e1.held.toList.isEmpty = true := by rw [z2]; rfl
  have he0 : e1.held = ⟨#[]⟩ := u_inj (List.length_eq_zero_iff.1 (by rw [u_size]; exact h0))
  have HEQ : Aside0 (e1 = { e1 with held := ⟨#[]⟩ }) := ⟨by obtain ⟨x1, x2, x3, x4, x5, x6, x7, x8⟩ := e1; have q : x5 = ⟨#[]⟩ := he0; rw [q]⟩
  clear hbeg hdi hp hk hz hh h0 he0
  go_enter Tryz.func54, Tryz.ntmps54
  go_wp2_with fail
  refine HBEG.out.mono ?_
  rintro x w1 ⟨rfl, he1, hm1⟩
  have HM1 := Aside0.mk hm1
  have c5 := he1.c5
  have HE1 := Aside0.mk he1
  clear he1 hm1
  go_wp2_with fail
  go_ret2
  rw [← HEQ.out]
  exact ⟨rfl, HE1.out, HM1.out⟩
 ·rw [if_neg h0]
  have z1 := not_nil2 (b := e1.held) (by omega)
  have z2 : ¬ e1.held.toList = [] := by intro q; rw [q] at z1; cases z1
  have hbs := (blkS_size hp hk.2 e1.held (by omega) hz).1
  have u1 : ¬ 9223372036854775807 < hd.size + (blkS pay e1.held).size := by omega
  have HFR := Aside0.mk (fun (W : World) (h : EncAt W g P e1) (hd : DicF g W P l) => eframe_calls h hd hp e1.held (by omega) hz hk.2)
  clear hbeg hdi hp hk hz hh h0 hbs
  go_enter Tryz.func54, Tryz.ntmps54
  go_wp2_with fail
  refine HBEG.out.mono ?_
  rintro x w1 ⟨rfl, he1, hm1⟩
  have HM1 := Aside0.mk hm1
  have c5 := he1.c5
  have HE1 := Aside0.mk he1
  clear he1 hm1
  go_wp2_with fail
  refine (HFR.out _ HE1.out (HDI.out.step HM1.out)).mono ?_
  rintro x w2 ⟨rfl, hb2⟩
  have HB2 := Aside0.mk hb2
  have he2 := HE1.out.below hb2
  have HE2 := Aside0.mk he2
  have c5' := he2.c5
  have f5' := he2.fz 5
  clear hb2 he2
  go_wp2_with fail
  go_ret2
  exact ⟨rfl, blk_put HE2.out 5 _ rfl, (HM1.out.then HB2.out).set_ 5 _⟩
set_option maxHeartbeats 2000000 in
set_option maxRecDepth 100000 in
theorem close_any {w : World} {g : Nat} {P : Value} {e1 : En} {out : ByteArray} (hfl : Calls Tryz.prog 54 #[.pointer (some ⟨g, 0, none⟩)] w fun x w' => x = .returned (.tuple #[.string out, .nilIface]) ∧ EncAt w' g P e1 ∧ Mv g w w') (hw : e1.written ≤ 1000000000) (ho : out.size ≤ 1000000000) :
  Calls Tryz.prog 55 #[.pointer (some ⟨g, 0, none⟩)] w fun x w' => x = .returned (.tuple #[.string (out ++ endS e1.written), .nilIface]) ∧ EncAt w' g P { e1 with closed := true } ∧ Mv g w w' := by
 have HFL := Aside0.mk hfl
 have q2 : IntKind.u32.wrap (e1.written : Int) = (e1.written : Int) := by rw [IntKind.wrap_u32]; omega
 have q3 : IntKind.i64.wrap (e1.written : Int) = (e1.written : Int) := (i64_w _).trans (Bridge.wrN _ (by omega))
 have HFP := Aside0.mk (fun W => fput_end e1.written (by omega) W)
 have hez := endS_size e1.written
 have HX : Aside0 (endS e1.written = endS e1.written) := ⟨rfl⟩
 have u1 : ¬ 9223372036854775807 < out.size + (endS e1.written).size := by omega
 clear hfl hw ho hez
 go_enter Tryz.func55, Tryz.ntmps55
 go_wp2_with fail
 refine HFL.out.mono ?_
 rintro x w1 ⟨rfl, he1, hm1⟩
 have HM1 := Aside0.mk hm1
 have c6 := he1.c6
 have f8 := he1.fz 8
 have c8 := he1.c8
 have HE1 := Aside0.mk he1
 clear he1 hm1
 go_wp2_with fail
 refine (HFP.out _).mono ?_
 rintro x w2 ⟨rfl, hb2⟩
 have HB2 := Aside0.mk hb2
 clear hb2
 go_wp2_with fail
 go_ret2
 have he3 : EncAt (w1.setCell ⟨g, 8, none⟩ (.bool true)) g P { e1 with closed := true } := blk_put HE1.out 8 _ rfl
 exact ⟨rfl, he3.below HB2.out, (HM1.out.set_ 8 _).then HB2.out⟩
end Go.Proofs.YtepgkimlmoikmaaGreat
set_option linter.unusedVariables false
set_option linter.unusedSimpArgs false
namespace Go.Proofs.YtepgkimlmoikmaaGreat
open Go.RowKit Go.Proofs.YtepgkimlmoikmaaGreat.Spec Go.Proofs.YtepgkimlmoikmaaGreatW.PrintWords Go.Proofs.YtepgkimlmoikmaaGreatW.PrintLast
open Go.Proofs.YtepgkimlmoikmaaGreatW.PrintMore
attribute [local go_sem ↓] Go.wp_at_zero Go.wp_at_succ
attribute [local go_sem] max2_int min2_int max_two min_two
end Go.Proofs.YtepgkimlmoikmaaGreat
