/- ShY: a part of its proof (contracts of the functions that it reaches, and the plain mathematics behind them). -/
import Derived.Test.YtepgkimlmoikmaaGreatShY34
import Derived.Test.YtepgkimlmoikmaaGreatShY19
import Derived.StillTailTactics
import Derived.Test.YtepgkimlmoikmaaGreatShY37
import Derived.Test.YtepgkimlmoikmaaGreatShY38
import Derived.Test.YtepgkimlmoikmaaGreatShY18
set_option linter.unusedVariables false
set_option linter.unusedSimpArgs false
set_option maxHeartbeats 2000000
set_option maxRecDepth 100000
set_option linter.unusedVariables false
set_option linter.unusedSimpArgs false
namespace Go.Proofs.YtepgkimlmoikmaaGreat
open Go.RowKit Go.Proofs.YtepgkimlmoikmaaGreat.Spec Go.Proofs.YtepgkimlmoikmaaGreatW.PrintWords Go.Proofs.YtepgkimlmoikmaaGreatW.PrintLast
open Go.Proofs.YtepgkimlmoikmaaGreatW.PrintMore
attribute [local go_sem ↓] Go.wp_at_zero Go.wp_at_succ
attribute [local go_sem] max2_int min2_int max_two min_two
theorem frameS_size (kd r sm : Nat) (p : ByteArray) : (frameS kd r sm p).size = 9 + p.size := by
 unfold frameS
 rw [ByteArray.size_append, ByteArray.size_append, ByteArray.size_append, ByteArray.size_append, beS_size, beS_size, beS_size, beS_size]
theorem headS_size (c k id : Nat) : (headS c k id).size = 17 := by
 unfold headS
 rw [ByteArray.size_append, ByteArray.size_append, ByteArray.size_append, ByteArray.size_append, beS_size, beS_size, beS_size, beS_size]
 rfl
theorem endS_size (n : Nat) : (endS n).size = 5 := by
 unfold endS
 rw [ByteArray.size_append, beS_size, beS_size]
theorem blkS_size {P : Value} {l : List ByteArray} {e : En} {pay : ByteArray → Nat × ByteArray} (hp : PutOk P l e pay) (hk : e.k ≤ 1024) (b : ByteArray) (h1 : 1 ≤ b.size) (h2 : b.size ≤ e.k) : (blkS pay b).size ≤ 9 + b.size ∧ 10 ≤ (blkS pay b).size := by
 unfold blkS
 rw [frameS_size]
 have := hp.fits b h1 h2
 unfold fitsR at this
 omega
theorem cut_rest (pay : ByteArray → Nat × ByteArray) (k : Nat) (hk : 1 ≤ k) : ∀ (f : Nat) (h : ByteArray), h.size ≤ f → (cutR pay k f h).2.size < k := by
 intro f
 induction f with
 | zero => intro h hf; show h.size < k; omega
 | succ f ih =>
  intro h hf
  rw [cutR]
  by_cases g : k ≤ h.size
  ·rw [if_pos g]; exact ih _ (by rw [ext_all]; omega)
  ·rw [if_neg g]; show h.size < k; omega
theorem cut_fuel (pay : ByteArray → Nat × ByteArray) (k : Nat) (hk : 1 ≤ k) : ∀ (f f' : Nat) (h : ByteArray), h.size ≤ f → h.size ≤ f' → cutR pay k f h = cutR pay k f' h := by
 intro f
 induction f with
 | zero =>
  intro f' h h1 h2
  cases f' with
  | zero => rfl
  | succ f' => rw [cutR, cutR, if_neg (by omega)]
 | succ f ih =>
  intro f' h h1 h2
  cases f' with
  | zero => rw [cutR, cutR, if_neg (by omega)]
  | succ f' =>
   rw [cutR, cutR]
   by_cases g : k ≤ h.size
   ·rw [if_pos g, if_pos g, ih f' _ (by rw [ext_all]; omega) (by rw [ext_all]; omega)]
   ·rw [if_neg g, if_neg g]
theorem cut_size {P : Value} {l : List ByteArray} {e : En} {pay : ByteArray → Nat × ByteArray} (hp : PutOk P l e pay) (hk1 : 1 ≤ e.k) (hk : e.k ≤ 1024) : ∀ (f : Nat) (h : ByteArray), (cutR pay e.k f h).1.size ≤ 10 * h.size ∧ (cutR pay e.k f h).2.size ≤ h.size := by
 intro f
 induction f with
 | zero => intro h; exact ⟨Nat.zero_le _, Nat.le_refl _⟩
 | succ f ih =>
  intro h
  rw [cutR]
  by_cases g : e.k ≤ h.size
  ·rw [if_pos g]
   have z1 := ext_sz h 0 e.k g
   have z2 := ext_all h e.k
   have h1 := (blkS_size hp hk (h.extract 0 e.k) (by omega) (by omega)).1
   obtain ⟨h2, h3⟩ := ih (h.extract e.k h.size)
   refine ⟨?_, by show (cutR pay e.k f (h.extract e.k h.size)).2.size ≤ h.size; omega⟩
   show (blkS pay (h.extract 0 e.k) ++ (cutR pay e.k f (h.extract e.k h.size)).1).size ≤ 10 * h.size
   rw [ByteArray.size_append]
   omega
  ·rw [if_neg g]; exact ⟨Nat.zero_le _, Nat.le_refl _⟩
def heldE (g : Nat) (w : World) : Nat := match w.cell? ⟨g, 5, none⟩ with | some (.string s) => s.size | _ => 0
theorem heldE_is {w : World} {g : Nat} {P : Value} {d : En} (h : EncAt w g P d) : heldE g w = d.held.size := by unfold heldE; rw [h.c5]
theorem write_any {w : World} {g : Nat} {P : Value} {e e1 : En} {l : List ByteArray} {pay : ByteArray → Nat × ByteArray} {hd : ByteArray} (hbeg : Calls Tryz.prog 118 #[.pointer (some ⟨g, 0, none⟩)] w fun x w' => x = .returned (.tuple #[.string hd, .nilIface]) ∧ EncAt w' g P e1 ∧ Mv g w w') (hdi : DicF g w P l) (hp : PutOk P l e1 pay) (hk : 1 ≤ e1.k ∧ e1.k ≤ 1024) (b : ByteArray) (hz : e1.held.size + b.size ≤ 1000000) (hw : e1.written + b.size ≤ 1000000) (hh : hd.size ≤ 17) :
  Calls Tryz.prog 53 #[.pointer (some ⟨g, 0, none⟩), .string b] w fun x w' => x = .returned (.tuple #[.string (hd ++ (cutR pay e1.k (e1.held ++ b).size (e1.held ++ b)).1), .nilIface]) ∧ EncAt w' g P { e1 with held := (cutR pay e1.k (e1.held ++ b).size (e1.held ++ b)).2, written := e1.written + b.size } ∧ Mv g w w' := by
 have HBEG := Aside0.mk hbeg
 have HDI := Aside0.mk hdi
 have HK := Aside0.mk hk
 have HZ := Aside0.mk (And.intro hz (And.intro hw hh))
 have HFR := Aside0.mk (fun (W : World) (x : En) (h : EncAt W g P x) (hd : DicF g W P l) (hx : x = { e1 with held := x.held, written := x.written }) (c : ByteArray) (h1 : 1 ≤ c.size) (h2 : c.size ≤ e1.k) => eframe_calls (pay := pay) h hd (by rw [hx]; exact ⟨hp.calls, hp.fits⟩) c h1 (by rw [hx]; exact h2) (by rw [hx]; exact hk.2))
 obtain ⟨R1, hR1⟩ : ∃ R1, R1 = (cutR pay e1.k (e1.held ++ b).size (e1.held ++ b)).1 := ⟨_, rfl⟩
 obtain ⟨R2, hR2⟩ : ∃ R2, R2 = (cutR pay e1.k (e1.held ++ b).size (e1.held ++ b)).2 := ⟨_, rfl⟩
 have hRz : R1.size ≤ 10 * (e1.held.size + b.size) := by rw [hR1, ← ByteArray.size_append]; exact (cut_size hp hk.1 hk.2 _ _).1
 have hRB : ∀ h : ByteArray, h.size = (e1.held ++ b).size → h.size ≤ 1000000 := fun h q => by rw [q, ByteArray.size_append]; exact hz
 rw [← hR1, ← hR2]
 have HRR := Aside0.mk (And.intro hR1 hR2)
 have HRZ := Aside0.mk hRz
 have HBS := Aside0.mk (fun (c : ByteArray) (h1 : 1 ≤ c.size) (h2 : c.size ≤ e1.k) => blkS_size hp hk.2 c h1 h2)
 have u1 : ¬ 9223372036854775807 < e1.held.size + b.size := by omega
 have u2 : (e1.written : Int) + (b.size : Int) ≤ 1000000 := by omega
 have t0 : (hd.size : Int) ≤ 17 := by omega
 clear hbeg hdi hp hk hz hw hh hR1 hR2 hRz hRB
 go_enter Tryz.func53, Tryz.ntmps53
 go_wp2_with fail
 refine HBEG.out.mono ?_
 rintro x w1 ⟨rfl, he1, hm1⟩
 have HM1 := Aside0.mk hm1
 have c5 := he1.c5
 have c6 := he1.c6
 have f5 := he1.fz 5
 have f6 := he1.fz 6
 have HE1 := Aside0.mk he1
 clear he1 hm1
 go_wp2_with fail
 have he2 : EncAt ((w1.setCell ⟨g, 6, none⟩ (.int .i64 ((e1.written : Int) + (b.size : Int)))).setCell ⟨g, 5, none⟩ (.string (e1.held ++ b))) g P { e1 with held := e1.held ++ b, written := e1.written + b.size } := blk_put (blk_put HE1.out 6 _ rfl) 5 _ rfl
 have HE2 := Aside0.mk he2
 clear he2
 go_loopw [6] (fun v6 wr => ∃ (o h : ByteArray), v6 = .string o ∧ Aside0 (EncAt wr g P { e1 with held := h, written := e1.written + b.size }) ∧ Aside0 (h.size ≤ e1.held.size + b.size) ∧ Aside0 (o ++ (cutR pay e1.k h.size h).1 = hd ++ R1 ∧ (cutR pay e1.k h.size h).2 = R2) ∧ Aside0 (Mv g w wr)) (fun _ wr => heldE g wr)
 case atStart => exact ⟨hd, e1.held ++ b, rfl, HE2, ⟨Nat.le_of_eq (ByteArray.size_append ..)⟩, ⟨⟨by rw [HRR.out.1], HRR.out.2.symm⟩⟩, ⟨(HM1.out.set_ 6 _).set_ 5 _⟩⟩
 case round =>
  obtain ⟨o, h, rfl, HE3, HL3, HQ3, HM3⟩ := hrel
  have c5 := HE3.out.c5
  have c3 := HE3.out.c3
  have f5 := HE3.out.fz 5
  obtain ⟨k1, k2⟩ := HK.out
  have hq := HQ3.out
  have hz1 := HZ.out.1
  have hl := HL3.out
  have ho := congrArg ByteArray.size hq.1
  rw [ByteArray.size_append, ByteArray.size_append] at ho
  have hcs := HRZ.out
  have hhd := HZ.out.2.2
  dsimp only at c5 c3
  by_cases hlt : e1.k ≤ h.size
  ·have d1 : decide ((e1.k : Int) ≤ (h.size : Int)) = true := decide_eq_true (by omega)
   have d1' : decide (e1.k ≤ h.size) = true := decide_eq_true hlt
   have z1 := ext_sz h 0 e1.k hlt
   have p1 : (e1.k : Int) ≤ (h.size : Int) := by omega
   have p2 : e1.k ≤ h.size := hlt
   have hbs := (HBS.out (h.extract 0 e1.k) (by omega) (by omega)).1
   have u3 : ¬ 9223372036854775807 < o.size + (blkS pay (h.extract 0 e1.k)).size := by omega
   have HFR3 := Aside0.mk (fun (W : World) (h1 : EncAt W g P { e1 with held := h, written := e1.written + b.size }) (hd : DicF g W P l) => HFR.out W _ h1 hd rfl (h.extract 0 e1.k) (by omega) (by omega))
   have HLT := Aside0.mk (And.intro hlt (And.intro k1 (And.intro hl hq)))
   clear hlt hbs z1 ho hcs hhd hz1 hl hq k1 k2
   go_wp2_with fail
   go_quiet (fail)
   go_wp2_with fail
   go_region_held3 (fun w' => w'.cell? ⟨g, 5, none⟩ = some (.string h) ∧ w'.cell? ⟨g, 3, none⟩ = some (.int .i64 (e1.k : Int)))
    (first | exact ⟨c5, c3⟩ | exact ⟨pw_cell_below h2 c5, pw_cell_below h2 c3⟩)
    ((go_at_call 119; refine (HFR3.out _ (HE3.out.below (by repeat (first | exact Below.refl _ _ | apply below_drew | apply pw_below_drewN))) (HDI.out.step (HM3.out.then (by repeat (first | exact Below.refl _ _ | apply below_drew | apply pw_below_drewN))))).mono ?_; rintro x w2 ⟨rfl, hb2⟩; have h2 : Below wr.heap.size wr w2 := below_step (by repeat (first | exact Below.refl _ _ | apply below_drew | apply pw_below_drewN)) hb2))
   have HB2 := Aside0.mk h2
   have he4 := HE3.out.below h2
   have HE4 := Aside0.mk he4
   have c5' := he4.c5
   have c3' := he4.c3
   have f5' := he4.fz 5
   clear hb2 h2 he4
   go_wp2_with fail
   go_still_tail 13, (by kernel_rfl)
   change wpList _ _ _ _ _ w2.drew
   go_wp2_with fail
   obtain ⟨hlt, k1, hl, hq⟩ := HLT.out
   have he5 : EncAt (w2.setCell ⟨g, 5, none⟩ (.string (h.extract e1.k h.size))).drew g P { e1 with held := h.extract e1.k h.size, written := e1.written + b.size } := blk_drew (blk_put HE4.out 5 _ rfl)
   have hz2 := ext_all h e1.k
   have hr : cutR pay e1.k h.size h = (blkS pay (h.extract 0 e1.k) ++ (cutR pay e1.k (h.extract e1.k h.size).size (h.extract e1.k h.size)).1, (cutR pay e1.k (h.extract e1.k h.size).size (h.extract e1.k h.size)).2) := by
    obtain ⟨f, hf⟩ : ∃ f, h.size = f + 1 := ⟨h.size - 1, by omega⟩
    rw [cut_fuel pay e1.k k1 h.size (f + 1) h (Nat.le_refl _) (by omega), cutR, if_pos hlt, cut_fuel pay e1.k k1 f (h.extract e1.k h.size).size (h.extract e1.k h.size) (by omega) (Nat.le_refl _)]
   rw [hr] at hq
   refine ⟨⟨_, _, rfl, ⟨he5⟩, ⟨by omega⟩, ⟨by rw [ba_assoc]; exact hq⟩, ⟨((HM3.out.then HB2.out).set_ 5 _).drewN 1⟩⟩, ?_⟩
   rw [heldE_is he5, heldE_is HE3.out]
   show (h.extract e1.k h.size).size < h.size
   omega
  ·have d1 : decide ((e1.k : Int) ≤ (h.size : Int)) = false := decide_eq_false (by omega)
   have d1' : decide (e1.k ≤ h.size) = false := decide_eq_false hlt
   have hr : cutR pay e1.k h.size h = (⟨#[]⟩, h) := by
    cases hs : h.size with
    | zero => rfl
    | succ f => rw [cutR, if_neg (by omega)]
   rw [hr] at hq
   have HQ4 := Aside0.mk hq
   clear hlt hr ho hcs hhd hz1 hl hq k1 k2
   go_wp2_with fail
   go_quiet (fail)
   go_wp2_with fail
   go_ret2
   have hq := HQ4.out
   rw [ba_append_nil] at hq
   have he := HE3.out
   rw [hq.2] at he
   exact ⟨by rw [← hq.1]; rfl, he.below (by repeat (first | exact Below.refl _ _ | apply below_drew | apply pw_below_drewN)), HM3.out.then (by repeat (first | exact Below.refl _ _ | apply below_drew | apply pw_below_drewN))⟩
theorem flush_any {w : World} {g : Nat} {P : Value} {e e1 : En} {l : List ByteArray} {pay : ByteArray → Nat × ByteArray} {hd : ByteArray} (hbeg : Calls Tryz.prog 118 #[.pointer (some ⟨g, 0, none⟩)] w fun x w' => x = .returned (.tuple #[.string hd, .nilIface]) ∧ EncAt w' g P e1 ∧ Mv g w w') (hdi : DicF g w P l) (hp : PutOk P l e1 pay) (hk : 1 ≤ e1.k ∧ e1.k ≤ 1024) (hz : e1.held.size ≤ e1.k) (hh : hd.size ≤ 17) :
  Calls Tryz.prog 54 #[.pointer (some ⟨g, 0, none⟩)] w fun x w' => x = .returned (.tuple #[.string (if e1.held.size = 0 then hd else hd ++ blkS pay e1.held), .nilIface]) ∧ EncAt w' g P { e1 with held := ⟨#[]⟩ } ∧ Mv g w w' := by
 have HBEG := Aside0.mk hbeg
 have HDI := Aside0.mk hdi
 by_cases h0 : e1.held.size = 0
 ·rw [if_pos h0]
  have z2 : e1.held.toList = [] := Bridge.empty_iff.2 h0
  have z1 : e1.held.toList.isEmpty = true := by rw [z2]; rfl
  have he0 : e1.held = ⟨#[]⟩ := u_inj (List.length_eq_zero_iff.1 (by rw [u_size]; exact h0))
  have HEQ : Aside0 (e1 = { e1 with held := ⟨#[]⟩ }) := ⟨by obtain ⟨x1, x2, x3, x4, x5, x6, x7, x8⟩ := e1; have q : x5 = ⟨#[]⟩ := he0; rw [q]⟩
  clear hbeg hdi hp hk hz hh h0 he0
  go_enter Tryz.func54, Tryz.ntmps54
  go_wp2_with fail
  refine HBEG.out.mono ?_
  rintro x w1 ⟨rfl, he1, hm1⟩
  have HM1 := Aside0.mk hm1
  have c5 := he1.c5
  have HE1 := Aside0.mk he1
  clear he1 hm1
  go_wp2_with fail
  go_ret2
  rw [← HEQ.out]
  exact ⟨rfl, HE1.out, HM1.out⟩
 ·rw [if_neg h0]
  have z1 := not_nil2 (b := e1.held) (by omega)
  have z2 : ¬ e1.held.toList = [] := by intro q; rw [q] at z1; cases z1
  have hbs := (blkS_size hp hk.2 e1.held (by omega) hz).1
  have u1 : ¬ 9223372036854775807 < hd.size + (blkS pay e1.held).size := by omega
  have HFR := Aside0.mk (fun (W : World) (h : EncAt W g P e1) (hd : DicF g W P l) => eframe_calls h hd hp e1.held (by omega) hz hk.2)
  clear hbeg hdi hp hk hz hh h0 hbs
  go_enter Tryz.func54, Tryz.ntmps54
  go_wp2_with fail
  refine HBEG.out.mono ?_
  rintro x w1 ⟨rfl, he1, hm1⟩
  have HM1 := Aside0.mk hm1
  have c5 := he1.c5
  have HE1 := Aside0.mk he1
  clear he1 hm1
  go_wp2_with fail
  refine (HFR.out _ HE1.out (HDI.out.step HM1.out)).mono ?_
  rintro x w2 ⟨rfl, hb2⟩
  have HB2 := Aside0.mk hb2
  have he2 := HE1.out.below hb2
  have HE2 := Aside0.mk he2
  have c5' := he2.c5
  have f5' := he2.fz 5
  clear hb2 he2
  go_wp2_with fail
  go_ret2
  exact ⟨rfl, blk_put HE2.out 5 _ rfl, (HM1.out.then HB2.out).set_ 5 _⟩
theorem close_any {w : World} {g : Nat} {P : Value} {e1 : En} {out : ByteArray} (hfl : Calls Tryz.prog 54 #[.pointer (some ⟨g, 0, none⟩)] w fun x w' => x = .returned (.tuple #[.string out, .nilIface]) ∧ EncAt w' g P e1 ∧ Mv g w w') (hw : e1.written ≤ 1000000000) (ho : out.size ≤ 1000000000) :
  Calls Tryz.prog 55 #[.pointer (some ⟨g, 0, none⟩)] w fun x w' => x = .returned (.tuple #[.string (out ++ endS e1.written), .nilIface]) ∧ EncAt w' g P { e1 with closed := true } ∧ Mv g w w' := by
 have HFL := Aside0.mk hfl
 have q2 : IntKind.u32.wrap (e1.written : Int) = (e1.written : Int) := by rw [IntKind.wrap_u32]; omega
 have q3 : IntKind.i64.wrap (e1.written : Int) = (e1.written : Int) := (i64_w _).trans (Bridge.wrN _ (by omega))
 have HFP := Aside0.mk (fun W => fput_end e1.written (by omega) W)
 have hez := endS_size e1.written
 have HX : Aside0 (endS e1.written = endS e1.written) := ⟨rfl⟩
 have u1 : ¬ 9223372036854775807 < out.size + (endS e1.written).size := by omega
 clear hfl hw ho hez
 go_enter Tryz.func55, Tryz.ntmps55
 go_wp2_with fail
 refine HFL.out.mono ?_
 rintro x w1 ⟨rfl, he1, hm1⟩
 have HM1 := Aside0.mk hm1
 have c6 := he1.c6
 have f8 := he1.fz 8
 have c8 := he1.c8
 have HE1 := Aside0.mk he1
 clear he1 hm1
 go_wp2_with fail
 refine (HFP.out _).mono ?_
 rintro x w2 ⟨rfl, hb2⟩
 have HB2 := Aside0.mk hb2
 clear hb2
 go_wp2_with fail
 go_ret2
 have he3 : EncAt (w1.setCell ⟨g, 8, none⟩ (.bool true)) g P { e1 with closed := true } := blk_put HE1.out 8 _ rfl
 exact ⟨rfl, he3.below HB2.out, (HM1.out.set_ 8 _).then HB2.out⟩
end Go.Proofs.YtepgkimlmoikmaaGreat
set_option linter.unusedVariables false
set_option linter.unusedSimpArgs false
namespace Go.Proofs.YtepgkimlmoikmaaGreat
open Go.RowKit Go.Proofs.YtepgkimlmoikmaaGreat.Spec Go.Proofs.YtepgkimlmoikmaaGreatW.PrintWords Go.Proofs.YtepgkimlmoikmaaGreatW.PrintLast
open Go.Proofs.YtepgkimlmoikmaaGreatW.PrintMore
attribute [local go_sem ↓] Go.wp_at_zero Go.wp_at_succ
attribute [local go_sem] max2_int min2_int max_two min_two
theorem rframe_end (n : Nat) (hn : n ≤ 4294967295) (w : World) :
  Calls Tryz.prog 51 #[.agg #[.int .i64 0, .int .i64 (n : Int), .int .u32 0, .string ⟨#[]⟩]] w fun e w' => e = .returned (.tuple #[.string (endS n), .bool true]) ∧ Below w.heap.size w w' := by
 have HB1 : Aside0 (∀ W, Calls Tryz.prog 117 #[.int .u64 0, .int .i64 1] W fun e w' => e = .returned (.string (str (beB 0 1))) ∧ Below W.heap.size W w') := ⟨fun W => rbig_calls 0 (by decide) 1 (by decide) W⟩
 have HB2 : Aside0 (∀ W, Calls Tryz.prog 117 #[.int .u64 (n : Int), .int .i64 4] W fun e w' => e = .returned (.string (str (beB n 4))) ∧ Below W.heap.size W w') := ⟨fun W => rbig_calls n (by omega) 4 (by decide) W⟩
 have q1 : IntKind.u64.wrap (n : Int) = (n : Int) := u64_wrap_nat (by omega)
 have s1 : (w.alloc (.cells #[.int .i64 0, .int .i64 (n : Int), .int .u32 0, .string ⟨#[]⟩] 67)).cell? ⟨w.heap.size, 1, none⟩ = some (.int .i64 (n : Int)) := by simp
 have d1 : decide ((n : Int) < 0) = false := decide_eq_false (by omega)
 have d2 : decide ((4294967295 : Int) < (n : Int)) = false := decide_eq_false (by omega)
 have z1 := beS_size 0 1
 have z2 := beS_size n 4
 have HP : Aside0 (endS n = str (beB 0 1) ++ str (beB n 4)) := ⟨rfl⟩
 generalize str (beB 0 1) = x1 at *
 generalize str (beB n 4) = x2 at *
 have u1 : ¬ 9223372036854775807 < x1.size + x2.size := by omega
 clear hn z1 z2
 go_enter Tryz.func51, Tryz.ntmps51
 go_wp2_with fail
 go_region_held3 (fun w' => w'.cell? ⟨w.heap.size, 1, none⟩ = some (.int .i64 (n : Int)))
  (first | exact s1 | exact pw_cell_below h2 s1)
  ((go_at_call 117; first
   | ((with_reducible refine (HB1.out _).mono ?_); rintro e w2 ⟨rfl, hb2⟩; have h2 := below_step (below_drew (Below.refl (w.alloc (.cells #[.int .i64 0, .int .i64 (n : Int), .int .u32 0, .string ⟨#[]⟩] 67)).heap.size (w.alloc (.cells #[.int .i64 0, .int .i64 (n : Int), .int .u32 0, .string ⟨#[]⟩] 67)))) hb2)
   | ((with_reducible refine (HB2.out _).mono ?_); rintro e w3 ⟨rfl, hb3⟩; have h2 := below_step h2 hb3)))
 go_wp2_with fail
 go_ret2
 exact ⟨by rw [HP.out]; rfl, below_step ((Below.refl w.heap.size w).alloc (Nat.le_refl _) _) h2⟩
theorem flush_closed {w : World} {g : Nat} {P : Value} {e : En} (h : EncAt w g P e) {ad : Addr} (hP : P = .pointer (some ad)) (hc : e.closed = true) :
  Calls Tryz.prog 54 #[.pointer (some ⟨g, 0, none⟩)] w fun x w' => x = .returned (.tuple #[.string ⟨#[]⟩, .iface 152 (.agg #[.int .i64 11, .int .i64 (e.written : Int)])]) ∧ w = w' := by
 have H := Aside0.mk (ebegin_closed h hP hc)
 rw [errV_some (by decide)] at H
 clear h hP hc
 go_enter Tryz.func54, Tryz.ntmps54
 go_wp2_with fail
 refine H.out.mono ?_
 rintro x w1 ⟨rfl, rfl⟩
 go_wp2_with fail
 go_ret2
 exact ⟨rfl, rfl⟩
end Go.Proofs.YtepgkimlmoikmaaGreat
set_option linter.unusedVariables false
set_option linter.unusedSimpArgs false
namespace Go.Proofs.YtepgkimlmoikmaaGreat
open Go.RowKit Go.Proofs.YtepgkimlmoikmaaGreat.Spec Go.Proofs.YtepgkimlmoikmaaGreatW.PrintWords Go.Proofs.YtepgkimlmoikmaaGreatW.PrintLast
open Go.Proofs.YtepgkimlmoikmaaGreatW.PrintMore
attribute [local go_sem ↓] Go.wp_at_zero Go.wp_at_succ
attribute [local go_sem] max2_int min2_int max_two min_two
theorem told24_any (c a code at_ : Int) (w : World) : Calls Tryz.prog 44 #[errV c a, .int .i64 code, .int .i64 at_] w fun e w' => e = .returned (.bool (toldB c a code at_)) ∧ Below w.heap.size w w' := by
 have he := run_eql_fault
 by_cases h0 : code = 0
 ·have h0b : (code == (0 : Int)) = true := beq_iff_eq.2 h0
  by_cases hc : c = 0
  ·have e1 : toldB c a code at_ = true := by unfold toldB; rw [if_pos h0, hc]; rfl
   have e2 : errV c a = .nilIface := if_pos hc
   rw [e1, e2]
   clear e1 e2 hc
   clear h0
   go_enter Tryz.func44, Tryz.ntmps44
   go_wp2
   go_ret
   exact ⟨rfl, Below.refl _ _⟩
  ·have e1 : toldB c a code at_ = false := by unfold toldB; rw [if_pos h0]; exact beq_eq_false_iff_ne.2 hc
   have e2 := errV_some hc a
   rw [e1, e2]
   clear e1 e2 hc
   clear h0
   go_enter Tryz.func44, Tryz.ntmps44
   go_wp2
   go_ret
   exact ⟨rfl, Below.refl _ _⟩
 ·have h0b : (code == (0 : Int)) = false := beq_eq_false_iff_ne.2 h0
  by_cases hc : c = 0
  ·have e1 : toldB c a code at_ = false := by unfold toldB; rw [if_neg h0, hc]; rfl
   have e2 : errV c a = .nilIface := if_pos hc
   rw [e1, e2]
   clear e1 e2 hc
   clear h0
   go_enter Tryz.func44, Tryz.ntmps44
   go_wp2_with (go_at_call 116; refine (of_nil _).mono ?_; rintro e w1 ⟨rfl, hb⟩)
   repeat (go_quiet (fail); try go_wp2)
   go_ret
   exact ⟨rfl, by repeat (first | exact hb | apply below_alloc | apply below_drew | apply pw_below_drewN)⟩
  ·have e1 : toldB c a code at_ = (c == code && a == at_) := by unfold toldB; rw [if_neg h0]; have : (c != 0) = true := bne_iff_ne.2 hc; rw [this]; rfl
   have e2 := errV_some hc a
   rw [e1, e2]
   clear e1 e2 hc
   clear h0
   go_enter Tryz.func44, Tryz.ntmps44
   go_wp2_with (go_at_call 116; refine (of_some c a _).mono ?_; rintro e w1 ⟨rfl, hb⟩)
   repeat (go_quiet (fail); try go_wp2)
   go_ret
   exact ⟨rfl, by repeat (first | exact hb | apply below_alloc | apply below_drew | apply pw_below_drewN)⟩
def eNew (p q k wd : Nat) : En := ⟨p, q, k, wd, ⟨#[]⟩, 0, false, false⟩
theorem cfg_bounds {p q k wd : Nat} (h : cfgB p q k wd = true) : p ≤ 2 ∧ q ≤ 1 ∧ (1 ≤ k ∧ k ≤ 1024) ∧ 1 ≤ wd ∧ wd ≤ 1024 := by
 unfold cfgB at h
 rw [decide_eq_true_iff] at h
 omega
theorem newenc_yes {P : Value} {ad : Addr} (hP : P = .pointer (some ad)) (p q k wd : Nat) (hc : cfgB p q k wd = true) (w : World) :
  Calls Tryz.prog 46 #[P, .agg #[.int .i64 (p : Int), .int .i64 (q : Int), .int .i64 (k : Int), .int .i64 (wd : Int)]] w fun e w' => ∃ g, e = .returned (.tuple #[.pointer (some ⟨g, 0, none⟩), .nilIface]) ∧ EncAt w' g P (eNew p q k wd) ∧ Below w.heap.size w w' ∧ w.heap.size ≤ g := by
 have HRT := Aside0.mk (fun W => right_calls p q k wd W)
 rw [hc] at HRT
 subst hP
 clear hc
 go_enter Tryz.func46, Tryz.ntmps46
 go_wp2_with fail
 refine (HRT.out _).mono ?_
 rintro e w1 ⟨rfl, hb1⟩
 obtain ⟨c0, c1, c2, c3⟩ := cfg_at hb1
 have H1 := Aside0.mk (below_step (below_alloc (Below.refl _ _) _) hb1)
 clear hb1
 go_wp2_with fail
 go_ret2
 exact ⟨_, rfl, blk_new _ _, below_alloc H1.out _, H1.out.size⟩
namespace Spec
def encS (l : List ByteArray) (q k : Nat) (pay : ByteArray → Nat × ByteArray) (b : ByteArray) : ByteArray :=
 headS q k (Idn l) ++ (cutR pay k b.size b).1 ++ ((if (cutR pay k b.size b).2.size = 0 then ⟨#[]⟩ else ⟨#[]⟩ ++ blkS pay (cutR pay k b.size b).2) ++ endS b.size)
end Spec
theorem encode_any {w : World} {P : Value} {l : List ByteArray} {p q k wd : Nat} {pay : ByteArray → Nat × ByteArray} (hd : DictAt w P l) {ad : Addr} (hP : P = .pointer (some ad)) (hl : l.length ≤ 100) (hs : ∀ s ∈ l, 1 ≤ s.size ∧ s.size ≤ 40) (hc : cfgB p q k wd = true) (hp : PutOk P l (eNew p q k wd) pay) (b : ByteArray) (hz : b.size ≤ 100000) :
  Calls Tryz.prog 57 #[P, .agg #[.int .i64 (p : Int), .int .i64 (q : Int), .int .i64 (k : Int), .int .i64 (wd : Int)], .string b] w fun e w' => e = .returned (.tuple #[.string (encS l q k pay b), .nilIface]) ∧ Below w.heap.size w w' := by
 have HD := Aside0.mk hd
 obtain ⟨hp2, hq1, hk, hwd⟩ := cfg_bounds hc
 have hs' : ∀ s ∈ l, s.size < 1000000 := fun s hm => by have := (hs s hm).2; omega
 have HNE := Aside0.mk (fun W => newenc_yes hP p q k wd hc W)
 obtain ⟨E2, hE2⟩ : ∃ E2 : En, E2 = ⟨p, q, k, wd, (cutR pay k b.size b).2, b.size, true, false⟩ := ⟨_, rfl⟩
 have HWR : Aside0 (∀ (W : World) (g : Nat), EncAt W g P (eNew p q k wd) → DicF g W P l → Calls Tryz.prog 53 #[.pointer (some ⟨g, 0, none⟩), .string b] W fun x w' => x = .returned (.tuple #[.string (headS q k (Idn l) ++ (cutR pay k b.size b).1), .nilIface]) ∧ EncAt w' g P E2 ∧ Mv g W w') := ⟨fun W g h hdi => by
  have hw := write_any (e := eNew p q k wd) (ebegin_first h hdi hP hl hs' rfl rfl hq1 hk) hdi (pay := pay) ⟨hp.calls, hp.fits⟩ hk b (by show 0 + b.size ≤ _; omega) (by show 0 + b.size ≤ _; omega) (Nat.le_of_eq (headS_size _ _ _))
  dsimp only [eNew] at hw
  rw [ba_nil_append, Nat.zero_add] at hw
  rw [hE2]
  exact hw⟩
 have hcs := cut_size hp hk.1 hk.2 b.size b
 have hcr : (cutR pay k b.size b).2.size < k := cut_rest pay k hk.1 b.size b (Nat.le_refl _)
 have hcs1 : (cutR pay k b.size b).1.size ≤ 10 * b.size := hcs.1
 obtain ⟨F, hF⟩ : ∃ F, F = (if (cutR pay k b.size b).2.size = 0 then ⟨#[]⟩ else ⟨#[]⟩ ++ blkS pay (cutR pay k b.size b).2) := ⟨_, rfl⟩
 have hFz : F.size ≤ 2000 := by
  rw [hF]
  split
  ·exact Nat.zero_le _
  ·rename_i hne
   rw [ByteArray.size_append]
   have := (blkS_size hp hk.2 (cutR pay k b.size b).2 (Nat.pos_of_ne_zero hne) (Nat.le_of_lt hcr)).1
   show 0 + _ ≤ _
   omega
 have HCL : Aside0 (∀ (W : World) (g : Nat), EncAt W g P E2 → DicF g W P l → Calls Tryz.prog 55 #[.pointer (some ⟨g, 0, none⟩)] W fun x w' => x = .returned (.tuple #[.string (F ++ endS b.size), .nilIface]) ∧ Mv g W w') := ⟨fun W g h hdi => by
  have hf := flush_any (e := E2) (e1 := E2) (pay := pay) (hd := ⟨#[]⟩) (l := l) ((ebegin_again h hP (by rw [hE2]) (by rw [hE2])).mono fun x w' ⟨h1, h2⟩ => ⟨h1, h2 ▸ h, h2 ▸ Mv.refl g W⟩) hdi (by rw [hE2]; exact ⟨hp.calls, hp.fits⟩) (by rw [hE2]; exact hk) (by rw [hE2]; exact Nat.le_of_lt hcr) (Nat.zero_le _)
  rw [show (if E2.held.size = 0 then ⟨#[]⟩ else ⟨#[]⟩ ++ blkS pay E2.held) = F by rw [hF, hE2]] at hf
  have hc := close_any hf (by rw [hE2]; show b.size ≤ _; omega) (by omega)
  rw [show ({ E2 with held := ⟨#[]⟩ } : En).written = b.size by rw [hE2]] at hc
  exact hc.mono fun x w' ⟨h1, _, h3⟩ => ⟨h1, h3⟩⟩
 have hez := endS_size b.size
 have hhz := headS_size q k (Idn l)
 have HX : Aside0 (encS l q k pay b = headS q k (Idn l) ++ (cutR pay k b.size b).1 ++ (F ++ endS b.size)) := ⟨by rw [hF]; rfl⟩
 generalize headS q k (Idn l) = x1 at *
 generalize (cutR pay k b.size b).1 = x2 at *
 generalize endS b.size = x3 at *
 have u1 : ¬ 9223372036854775807 < x1.size + x2.size + (F.size + x3.size) := by omega
 subst hP
 have e0 : (w.alloc (.cells #[.int .i64 (p : Int), .int .i64 (q : Int), .int .i64 (k : Int), .int .i64 (wd : Int)] 24)).cell? ⟨w.heap.size, 0, none⟩ = some (.int .i64 (p : Int)) := by simp
 clear hd hl hs hc hp hz hp2 hq1 hk hwd hs' hE2 hcs hcr hcs1 hF hFz hez hhz
 go_enter Tryz.func57, Tryz.ntmps57
 go_wp2_with fail
 refine (HNE.out _).mono ?_
 rintro x w1 ⟨g, rfl, he1, hb1, hg1⟩
 have HE1 := Aside0.mk he1
 have HB1 := Aside0.mk (below_step ((Below.refl w.heap.size w).alloc (Nat.le_refl _) _) hb1)
 have HG1 := Aside0.mk (show w.heap.size ≤ g by simp at hg1; omega)
 clear he1 hb1 hg1
 go_wp2_with fail
 refine (HWR.out _ g HE1.out (DicF.of HD.out HB1.out HG1.out)).mono ?_
 rintro x w2 ⟨rfl, he2, hm2⟩
 have HE2 := Aside0.mk he2
 have HB2 := Aside0.mk (hm2.low HB1.out HG1.out)
 clear he2 hm2
 go_wp2_with fail
 refine (HCL.out _ g HE2.out (DicF.of HD.out HB2.out HG1.out)).mono ?_
 rintro x w3 ⟨rfl, hm3⟩
 have HB3 := Aside0.mk (hm3.low HB2.out HG1.out)
 clear hm3
 go_wp2_with fail
 go_ret2
 exact ⟨by rw [HX.out]; rfl, HB3.out⟩
end Go.Proofs.YtepgkimlmoikmaaGreat
set_option linter.unusedVariables false
set_option linter.unusedSimpArgs false
namespace Go.Proofs.YtepgkimlmoikmaaGreat
open Go.RowKit Go.Proofs.YtepgkimlmoikmaaGreat.Spec Go.Proofs.YtepgkimlmoikmaaGreatW.PrintWords Go.Proofs.YtepgkimlmoikmaaGreatW.PrintLast
open Go.Proofs.YtepgkimlmoikmaaGreatW.PrintMore
attribute [local go_sem ↓] Go.wp_at_zero Go.wp_at_succ
attribute [local go_sem] max2_int min2_int max_two min_two
namespace Spec
def payN (l : List ByteArray) (b : ByteArray) : Nat × ByteArray := if (nums2 (par l b b.size 0)).length < b.size then (2, str (nums2 (par l b b.size 0))) else (1, b)
def strm : ByteArray := encS abab 0 100 (payN abab) three
end Spec
theorem nums2_pos {x : List Int} (h : x ≠ []) : 1 ≤ (nums2 x).length := by
 cases x with
 | nil => exact absurd rfl h
 | cons t r =>
  rw [nums2, List.length_append]
  have := List.length_pos_iff.2 (num_ne t.toNat)
  omega
theorem putok_small {P : Value} {l : List ByteArray} (hl : l.length ≤ 100) (hs : ∀ s ∈ l, 1 ≤ s.size ∧ s.size ≤ 40) : PutOk P l (eNew 0 0 100 100) (payN l) := by
 have hne : ∀ b : ByteArray, 1 ≤ b.size → b.size ≤ 100 → par l b b.size 0 ≠ [] := fun b h1 h2 => by
  have := (toks_ok (l := l) (by omega) hs 0 (wd := 1) (Nat.le_refl 1) b (by omega)).2.2.2 h1
  rw [toks_zero] at this
  exact this
 refine ⟨fun W b hd h1 h2 => ?_, fun b h1 h2 => ?_⟩
 ·have h2' : b.size ≤ 100 := h2
  refine (put_small (DictN.of hd) (by omega) hs b h1 h2' (hne b h1 h2')).mono ?_
  rintro x w' ⟨rfl, hb⟩
  refine ⟨?_, hb⟩
  unfold payN
  by_cases q : (nums2 (par l b b.size 0)).length < b.size
  ·rw [if_pos q, if_pos q]; rfl
  ·rw [if_neg q, if_neg q]; rfl
 ·have h2' : b.size ≤ 100 := h2
  unfold payN fitsR
  by_cases q : (nums2 (par l b b.size 0)).length < b.size
  ·rw [if_pos q]
   have hz : (str (nums2 (par l b b.size 0))).size = (nums2 (par l b b.size 0)).length := by rw [← u_size, u_str]
   have := nums2_pos (hne b h1 h2')
   exact ⟨⟨h1, by omega⟩, by show 1 ≤ (str (nums2 (par l b b.size 0))).size; omega, .inr ⟨rfl, by show (str (nums2 (par l b b.size 0))).size < b.size; omega⟩⟩
  ·rw [if_neg q]
   exact ⟨⟨h1, by omega⟩, h1, .inl ⟨rfl, rfl⟩⟩
theorem strm_size : strm.size = 35 := by decide +kernel
theorem strm_fin : finC (full abab strm) = 0 := by decide +kernel
theorem strm_out : u (full abab strm).out = u three := by decide +kernel
theorem x_fin : finC (full abab ⟨#[120]⟩) = 2 ∧ (full abab ⟨#[120]⟩).at_ = 0 := by decide +kernel
theorem alive24_any (w : World) : Calls Tryz.prog 38 #[] w fun e w' => e = .returned (.bool true) ∧ Below w.heap.size w w' := by
 have HA : Aside0 (∀ W : World, Calls Tryz.prog 67 #[.slice (some ⟨W.heap.size, 0, none⟩) 1 1] (W.alloc (.cells #[.string ⟨#[97, 98, 97, 98]⟩] 9)) fun e w' => ∃ ad, e = .returned (.pointer (some ad)) ∧ Aside0 (DictAt w' (.pointer (some ad)) abab) ∧ Below W.heap.size W w') := ⟨by
  intro W
  refine (make_yes abab _ (strs_lit W abab (by decide)) (Nat.le_refl _) (fun s hs => by have := (abab_sizes s hs).2; omega) phr_abab).mono ?_
  rintro e w' ⟨ad, rfl, hd, hb⟩
  exact ⟨ad, rfl, ⟨hd⟩, below_step ((Below.refl _ _).alloc (Nat.le_refl _) _) hb⟩⟩
 have HE : Aside0 (∀ (W : World) (ad : Addr), DictAt W (.pointer (some ad)) abab → Calls Tryz.prog 57 #[.pointer (some ad), .agg #[.int .i64 0, .int .i64 0, .int .i64 100, .int .i64 100], .string ⟨#[97, 98, 97, 98, 97, 98]⟩] W fun e w' => e = .returned (.tuple #[.string strm, .nilIface]) ∧ Below W.heap.size W w') := ⟨fun W ad hd => encode_any (p := 0) (q := 0) (k := 100) (wd := 100) hd rfl (by decide) abab_sizes (by decide) (putok_small (by decide) abab_sizes) three (by decide)⟩
 have HD1 : Aside0 (∀ (W : World) (ad : Addr), DictAt W (.pointer (some ad)) abab → Calls Tryz.prog 64 #[.pointer (some ad), .string strm] W fun e w' => e = .returned (.tuple #[.string ⟨#[97, 98, 97, 98, 97, 98]⟩, .nilIface]) ∧ Below W.heap.size W w') := ⟨fun W ad hd => by
  have h := decode_any hd rfl (by decide) abab_sizes strm (by rw [strm_size]; decide)
  rw [strm_fin, if_pos rfl, u_inj strm_out] at h
  exact h⟩
 have HD2 : Aside0 (∀ (W : World) (ad : Addr), DictAt W (.pointer (some ad)) abab → Calls Tryz.prog 64 #[.pointer (some ad), .string ⟨#[120]⟩] W fun e w' => e = .returned (.tuple #[.string ⟨#[]⟩, .iface 152 (.agg #[.int .i64 2, .int .i64 0])]) ∧ Below W.heap.size W w') := ⟨fun W ad hd => by
  have h := decode_any hd rfl (by decide) abab_sizes ⟨#[120]⟩ (by decide)
  rw [x_fin.1, x_fin.2, if_neg (by decide), errV_some (by decide)] at h
  exact h⟩
 have HT : Aside0 (∀ W, Calls Tryz.prog 44 #[.iface 152 (.agg #[.int .i64 2, .int .i64 0]), .int .i64 2, .int .i64 0] W fun e w' => e = .returned (.bool true) ∧ Below W.heap.size W w') := ⟨fun W => by
  have h := told24_any 2 0 2 0 W
  rw [errV_some (by decide)] at h
  exact h⟩
 have hz : ((strm.size : Int) == 35) = true := by rw [strm_size]; rfl
 have hz2 : (strm.size == 35) = true := by rw [strm_size]; rfl
 have hz3 : strm.size = 35 := strm_size
 generalize strm = st at *
 go_enter Tryz.func38, Tryz.ntmps38
 go_wp2_with fail
 refine (HA.out _).mono ?_
 rintro e w1 ⟨ad, rfl, HDA, hb1⟩
 have HB1 := Aside0.mk hb1
 clear hb1
 go_wp2_with fail
 have HDA1 := Aside0.mk (HDA.out.below (below_alloc (Below.refl _ _) (.cells #[.int .i64 0, .int .i64 0, .int .i64 100, .int .i64 100] 24)))
 refine (HE.out _ ad HDA1.out).mono ?_
 rintro e w2 ⟨rfl, hb2⟩
 have HB2 := Aside0.mk (below_step (below_alloc HB1.out _) hb2)
 have HDA2 := Aside0.mk (HDA1.out.below hb2)
 clear hb2
 go_wp2_with fail
 refine (HD1.out _ ad HDA2.out).mono ?_
 rintro e w3 ⟨rfl, hb3⟩
 have HB3 := Aside0.mk (below_step HB2.out hb3)
 have HDA3 := Aside0.mk (HDA2.out.below hb3)
 clear hb3
 go_wp2_with fail
 refine (HD2.out _ ad HDA3.out).mono ?_
 rintro e w4 ⟨rfl, hb4⟩
 have HB4 := Aside0.mk (below_step HB3.out hb4)
 clear hb4
 go_wp2_with fail
 refine (HT.out _).mono ?_
 rintro e w5 ⟨rfl, hb5⟩
 have HB5 := Aside0.mk (below_step HB4.out hb5)
 clear hb5
 go_wp2_with fail
 go_ret
 exact ⟨rfl, HB5.out⟩
end Go.Proofs.YtepgkimlmoikmaaGreat
set_option linter.unusedVariables false
set_option linter.unusedSimpArgs false
namespace Go.Proofs.YtepgkimlmoikmaaGreat
open Go.RowKit Go.Proofs.YtepgkimlmoikmaaGreat.Spec Go.Proofs.YtepgkimlmoikmaaGreatW.PrintWords Go.Proofs.YtepgkimlmoikmaaGreatW.PrintLast
open Go.Proofs.YtepgkimlmoikmaaGreatW.PrintMore
attribute [local go_sem ↓] Go.wp_at_zero Go.wp_at_succ
attribute [local go_sem] max2_int min2_int max_two min_two
theorem dictn_at {w : World} {ad : Addr} {l : List ByteArray} (h : DictN w (.pointer (some ad)) l) : DictAt w (.pointer (some ad)) l := by
 rcases h.out with h | ⟨h, _⟩
 ·exact h
 ·cases h
theorem dict24_yes {A : Option Addr} {c : Nat} (l : List ByteArray) (w : World) (hr : StrsIn w A l) (hc : l.length ≤ c) (hl : l.length ≤ 140737488351232) (hsz : ∀ s ∈ l, s.size ≤ 140737488351232) (h : Given l ⟨#[]⟩) : Calls Tryz.prog 37 #[.slice A l.length c] w fun e w' => ∃ ad, e = .returned (.tuple #[.pointer (some ad), .bool true]) ∧ DictAt w' (.pointer (some ad)) l ∧ Below w.heap.size w w' := by
 have H := Aside0.mk (dict13_yes l ⟨#[]⟩ w hr hc hl hsz h)
 clear hr hc hl hsz h
 go_enter Tryz.func37, Tryz.ntmps37
 go_wp2_with fail
 refine H.out.mono ?_
 rintro e w1 ⟨ad, rfl, hd, hb⟩
 have HD := Aside0.mk (dictn_at hd)
 have HB := Aside0.mk hb
 clear hd hb
 go_wp2_with fail
 go_ret2
 exact ⟨ad, rfl, HD.out, HB.out⟩
theorem dict24_no {A : Option Addr} {c : Nat} (l : List ByteArray) (w : World) (hr : StrsIn w A l) (hc : l.length ≤ c) (hl : l.length ≤ 140737488351232) (hsz : ∀ s ∈ l, s.size ≤ 140737488351232) (h : ¬ Given l ⟨#[]⟩) : Calls Tryz.prog 37 #[.slice A l.length c] w fun e w' => e = .returned (.tuple #[.pointer none, .bool false]) ∧ Below w.heap.size w w' := by
 have H := Aside0.mk (dict13_no l ⟨#[]⟩ w hr hc hl hsz h)
 clear hr hc hl hsz h
 go_enter Tryz.func37, Tryz.ntmps37
 go_wp2_with fail
 refine H.out.mono ?_
 rintro e w1 ⟨rfl, hb⟩
 have HB := Aside0.mk hb
 clear hb
 go_wp2_with fail
 go_ret2
 exact ⟨rfl, HB.out⟩
theorem rconf_calls (p q k wd : Int) (w : World) : Calls Tryz.prog 27 #[.agg #[.int .i64 p, .int .i64 q, .int .i64 k, .int .i64 wd]] w fun e w' => e = .returned (.bool (cfgB p q k wd)) ∧ Below w.heap.size w w' := by
 refine Leaf.lexiphaneref1_ConfigRight.calls p q k wd (cfgB p q k wd) w ?_
 unfold Leaf.lexiphaneref1_ConfigRight.f cfgB
 repeat' split
 all_goals (first | (congr 1; rw [decide_eq_decide]; omega) | (congr 1; symm; rw [decide_eq_false_iff_not]; omega))
theorem head_read (c k id : Nat) (hc : c ≤ 1) (hk : 1 ≤ k ∧ k ≤ 1024) (hid : id < 18446744073709551616) : headR (headS c k id) = ⟨c, k, id, 0⟩ := by
 have hz := headS_size c k id
 have hu : u (headS c k id) = [76, 88, 80, 72] ++ (beB 1 1 ++ (beB c 1 ++ (beB k 3 ++ beB id 8))) := by
  unfold headS
  rw [u_app, u_app, u_app, u_app, u_str, u_str, u_str, u_str]
  simp only [List.append_assoc]
  rfl
 have e1 : beB 1 1 = [1] := by decide
 have e2 : ∃ x, beB c 1 = [x] := by
  match h : beB c 1, beB_len c 1 with
  | [x], _ => exact ⟨x, rfl⟩
 obtain ⟨x, hx⟩ := e2
 have e3 : ∃ a b d, beB k 3 = [a, b, d] := by
  match h : beB k 3, beB_len k 3 with
  | [a, b, d], _ => exact ⟨a, b, d, rfl⟩
 obtain ⟨a, b, d, hy⟩ := e3
 have o2 := ofB_beB c 1
 have o3 := ofB_beB k 3
 have o4 := ofB_beB id 8
 have l4 := beB_len id 8
 rw [hx] at o2
 have o2' : x.toNat = c := by
  have : ofB [x] = x.toNat := by unfold ofB; simp
  rw [this] at o2
  rw [o2]
  exact Nat.mod_eq_of_lt (by omega)
 have m0 : (headS c k id).extract 0 4 = magicS := by
  apply u_inj; rw [u_ext, hu]; rfl
 have m4 : byteAt (headS c k id) 4 = 1 := by unfold byteAt; rw [hu, e1]; rfl
 have m5 : byteAt (headS c k id) 5 = c := by unfold byteAt; rw [hu, e1, hx]; exact o2'
 have m6 : ofB (u ((headS c k id).extract 6 9)) = k := by
  rw [u_ext, hu, e1, hx, hy]
  show ofB [a, b, d] = k
  rw [← hy, o3]
  exact Nat.mod_eq_of_lt (by omega)
 have m9 : ofB (u ((headS c k id).extract 9 17)) = id := by
  rw [u_ext, hu, e1, hx, hy]
  show ofB ((beB id 8).take 8) = id
  rw [List.take_of_length_le (by omega), o4]
  exact Nat.mod_eq_of_lt (by omega)
 unfold headR
 rw [if_neg (by omega), m0, m4, m5, m6, m9, if_neg (by simp), if_neg (by omega), if_neg (by omega)]
end Go.Proofs.YtepgkimlmoikmaaGreat
