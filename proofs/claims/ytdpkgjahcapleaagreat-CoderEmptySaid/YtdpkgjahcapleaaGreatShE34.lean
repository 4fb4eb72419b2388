/- ShE: a part of its proof (contracts of the functions that it reaches, and the plain mathematics behind them). -/
import Derived.Test.YtdpkgjahcapleaaGreatShE33
set_option linter.unusedVariables false
set_option linter.unusedSimpArgs false
set_option linter.unusedVariables false
set_option linter.unusedSimpArgs false
namespace Go.Proofs.YtdpkgjahcapleaaGreat
open Go.RowKit Go.Proofs.YtdpkgjahcapleaaGreat.Spec Go.Proofs.YtdpkgjahcapleaaGreatW.PrintWords Go.Proofs.YtdpkgjahcapleaaGreatW.PrintLast
open Go.Proofs.YtdpkgjahcapleaaGreatW.PrintMore
attribute [local go_sem ↓] Go.wp_at_zero Go.wp_at_succ
attribute [local go_sem] max2_int min2_int max_two min_two
theorem going_start {l : List ByteArray} {B : ByteArray} {d : D} (h : Rel l B d) (hc : (full l B).code = 0) (b : ByteArray) (hbd : (full l B).out.size ≤ 1024 * (full l B).at_) : Going l (B ++ b) { d with held := d.held ++ b } (full l B).out := by
  have hd := h.1 hc
  subst hd
  have hz : (B ++ b).size = B.size + b.size := ByteArray.size_append ..
  by_cases h17 : B.size < 17
  · have e1 : dOk l B = ⟨0, 0, 0, false, false, B, 0, 0, 0, 0⟩ := by unfold dOk; rw [if_pos h17]
    rw [e1, full_short h17]
    exact ⟨rfl, rfl, Nat.zero_le _, (ext_zero _).symm, rfl, Nat.zero_le _, .inl ⟨rfl, rfl, rfl, rfl, rfl, rfl, rfl⟩⟩
  · have e1 : dOk l B = ⟨(headR B).c, (headR B).k, (headR B).id, true, (full l B).done, B.extract (full l B).at_ B.size, (full l B).at_, (full l B).out.size, 0, 0⟩ := by unfold dOk; rw [if_neg h17]
    have h17' : 17 ≤ B.size := by omega
    have he : (headR B).e = 0 := Decidable.not_not.1 fun n => by rw [full_bad h17' n] at hc; exact n (Int.natCast_eq_zero.1 hc)
    have hi : ((headR B).id : Int) = Idv l := Decidable.not_not.1 fun n => by rw [full_id h17' he n] at hc; exact absurd hc (show ¬ (6 : Int) = 0 by decide)
    have hf := full_ok h17' he hi
    have hh := head_app B b h17'
    have hf2 : full l (B ++ b) = scanF l (headR B).c (headR B).k (B ++ b) 17 ⟨#[]⟩ := by rw [full_ok (by omega) (by rw [hh]; exact he) (by rw [hh]; exact hi), hh]
    obtain ⟨s1, s2, s3, s4, s5⟩ := scan_app l (headR B).c (headR B).k B b B.size 17 ⟨#[]⟩ h17' (by omega)
    rw [← hf] at s1 s2 s3 s4 s5
    rw [← hf2] at s3 s4 s5
    rw [e1]
    refine ⟨rfl, rfl, by show (full l B).at_ ≤ _; omega, ext_more B b _ s1, rfl, hbd, .inr ⟨rfl, by omega, by rw [hh]; exact he, by rw [hh]; exact hi, by rw [hh], by rw [hh], by rw [hh], ?_⟩⟩
    rw [hh]
    cases hdn : (full l B).done with
    | false => exact .inl ⟨rfl, (s4 hc hdn).1⟩
    | true =>
      obtain ⟨t1, t2⟩ := s5 hc hdn
      refine .inr ⟨rfl, ?_⟩
      show full l (B ++ b) = ⟨_, (full l B).at_, if (full l B).at_ < (B ++ b).size then 13 else 0, true⟩
      rw [t2, t1, hz]
      by_cases q : 0 < b.size
      · rw [if_pos q, if_pos (by omega)]
      · rw [if_neg q, if_neg (by omega)]
theorem full_err {l : List ByteArray} {B : ByteArray} (h : (full l B).code ≠ 0) (b : ByteArray) : full l (B ++ b) = full l B := by
  have hz : (B ++ b).size = B.size + b.size := ByteArray.size_append ..
  have h17 : 17 ≤ B.size := by
    rcases Nat.lt_or_ge B.size 17 with q | q
    · rw [full_short q] at h; exact absurd rfl h
    · exact q
  have hh := head_app B b h17
  by_cases he : (headR B).e = 0
  · by_cases hi : ((headR B).id : Int) = Idv l
    · rw [full_ok (B := B ++ b) (by omega) (by rw [hh]; exact he) (by rw [hh]; exact hi), hh, full_ok h17 he hi]
      rw [full_ok h17 he hi] at h
      exact (scan_app l (headR B).c (headR B).k B b B.size 17 ⟨#[]⟩ h17 (by omega)).2.2.1 h
    · rw [full_id (B := B ++ b) (by omega) (by rw [hh]; exact he) (by rw [hh]; exact hi), full_id h17 he hi]
  · rw [full_bad (B := B ++ b) (by omega) (by rw [hh]; exact he), full_bad h17 he, hh]
theorem dnext_any {w : World} {g : Nat} {P : Value} {d : D} {l : List ByteArray} (h : DecAt w g P d) (hdi : DicF g w P l) (hl : l.length ≤ 100) (hs : ∀ s ∈ l, 1 ≤ s.size ∧ s.size ≤ 40) {B out : ByteArray} (hB : B.size ≤ 900000) (hg : Going l B d out) :
    Calls Tryz.prog 51 #[.pointer (some ⟨g, 0, none⟩)] w fun e w' => e = .returned (.tuple #[.string (nextD l d).2.1, .bool (nextD l d).2.2]) ∧ DecAt w' g P (nextD l d).1 ∧ Mv g w w' := by
  have hz : d.held.size ≤ 900000 := by rw [hg.held, ext_all]; omega
  have ha : d.at_ ≤ 900000 := Nat.le_trans hg.le hB
  have ht : d.told ≤ 1000000000 := by rw [hg.told]; have := hg.bound; omega
  have hc : d.hc ≤ 1 := by
    rcases hg.st with ⟨_, _, _, _, q, _⟩ | ⟨_, _, _, _, q, _⟩
    · omega
    · rw [q]; exact (head_c B).1
  cases hb : d.begun with
  | false => exact next_begin h hdi hl hs (by omega) (by omega) hb
  | true =>
    by_cases hs1 : d.held.size = 0 ∨ d.done = true
    · exact next_stop l h hb hs1
    · refine next_frame h hdi hl hs (by omega) (by omega) ht hc hb (fun q => hs1 (.inl q)) ?_
      cases hdn : d.done with
      | false => rfl
      | true => exact absurd (.inr hdn) hs1
def heldOf (g : Nat) (w : World) : Nat := match w.cell? ⟨g, 6, none⟩ with | some (.string s) => s.size | _ => 0
theorem heldOf_is {w : World} {g : Nat} {P : Value} {d : D} (h : DecAt w g P d) : heldOf g w = d.held.size := by unfold heldOf; rw [h.c6]
set_option maxHeartbeats 1000000 in
theorem none_calls {w : World} {g : Nat} {P : Value} {d : D} (h : DecAt w g P d) {ad : Addr} (hP : P = .pointer (some ad)) :
    Calls Tryz.prog 50 #[.pointer (some ⟨g, 0, none⟩)] w fun e w' => e = .returned (.bool false) ∧ w = w' := by
  have c0 := h.c0
  subst hP
  clear h
  go_enter Tryz.func50, Tryz.ntmps50
  go_wp2_with fail
  go_ret
  exact ⟨rfl, rfl⟩
set_option maxHeartbeats 2000000 in
set_option maxRecDepth 100000 in
theorem feed_bad {w : World} {g : Nat} {P : Value} {d : D} {l : List ByteArray} {B : ByteArray} (h : DecAt w g P d) {ad : Addr} (hP : P = .pointer (some ad)) (hr : Rel l B d) (hc : (full l B).code ≠ 0) (b : ByteArray) :
    Calls Tryz.prog 23 #[.pointer (some ⟨g, 0, none⟩), .string b] w fun e w' => e = .returned (.tuple #[.string ⟨#[]⟩, errV (full l B).code ((full l B).at_ : Int)]) ∧ DecAt w' g P d ∧ Mv g w w' := by
  obtain ⟨h1, h2, _⟩ := hr.2 hc
  have H := Aside0.mk h
  have HNO := Aside0.mk (none_calls h hP)
  have c9 := h.c9
  rw [h1, h2, errV_some hc] at c9
  have HE := Aside0.mk (errV_some hc ((full l B).at_ : Int))
  rw [HE.out]
  generalize (full l B).code = q1 at *
  generalize (full l B).at_ = q2 at *
  clear h hP hr h1 h2 hc
  go_enter Tryz.func23, Tryz.ntmps23
  go_wp2_with fail
  refine HNO.out.mono ?_
  rintro e w1 ⟨rfl, rfl⟩
  go_wp2_with fail
  go_quiet (fail)
  go_wp2_with fail
  go_ret2
  exact ⟨rfl, H.out, Mv.of (by repeat (first | exact Below.refl _ _ | apply below_alloc | apply below_drew | apply pw_below_drewN))⟩
set_option maxHeartbeats 2000000 in
set_option maxRecDepth 100000 in
theorem feed_ok {w : World} {g : Nat} {P : Value} {d : D} {l : List ByteArray} {B : ByteArray} (h : DecAt w g P d) (hdi : DicF g w P l) {ad : Addr} (hP : P = .pointer (some ad)) (hl : l.length ≤ 100) (hs : ∀ s ∈ l, 1 ≤ s.size ∧ s.size ≤ 40) (hr : Rel l B d) (hc : (full l B).code = 0) (hbd : (full l B).out.size ≤ 1024 * (full l B).at_) (b : ByteArray) (hz : (B ++ b).size ≤ 900000) :
    Calls Tryz.prog 23 #[.pointer (some ⟨g, 0, none⟩), .string b] w fun e w' => ∃ o d', e = .returned (.tuple #[.string o, errV (full l (B ++ b)).code ((full l (B ++ b)).at_ : Int)]) ∧ (full l B).out ++ o = (full l (B ++ b)).out ∧ DecAt w' g P d' ∧ Rel l (B ++ b) d' ∧ Mv g w w' := by
  have hg := going_start hr hc b hbd
  have H := Aside0.mk h
  have HNO := Aside0.mk (none_calls h hP)
  have c9 := h.c9
  have c6 := h.c6
  have f6 := h.fz 6
  rw [hr.1 hc] at c9
  have e9 : errV (dOk l B).ec ((dOk l B).ea : Int) = .nilIface := by unfold dOk; split <;> rfl
  rw [e9] at c9
  have HG := Aside0.mk hg
  have HNX := Aside0.mk (fun (W : World) (d2 : D) (o2 : ByteArray) (h : DecAt W g P d2) (hdi : DicF g W P l) (hg : Going l (B ++ b) d2 o2) => dnext_any h hdi hl hs hz hg)
  have HGN := Aside0.mk (fun (d2 : D) (o2 : ByteArray) (hg : Going l (B ++ b) d2 o2) => going_next hl hs hg)
  have HDI := Aside0.mk hdi
  have HZ := Aside0.mk hz
  have hsz : d.held.size + b.size ≤ 900000 := by
    have h1 := congrArg ByteArray.size hg.held
    rw [ByteArray.size_append, ext_all] at h1
    omega
  have u1 : ¬ 9223372036854775807 < d.held.size + b.size := by omega
  clear h hdi hP hl hs hr hc hbd hz hg e9 hsz
  go_enter Tryz.func23, Tryz.ntmps23
  go_wp2_with fail
  refine HNO.out.mono ?_
  rintro e w1 ⟨rfl, rfl⟩
  go_wp2_with fail
  have hd1 : DecAt (w.setCell ⟨g, 6, none⟩ (.string (d.held ++ b))) g P { d with held := d.held ++ b } := blk_put H.out 6 _ rfl
  have HD1 := Aside0.mk hd1
  clear hd1
  go_loopw [6] (fun v6 wr => ∃ (o2 : ByteArray) (d2 : D), v6 = .string o2 ∧ Aside0 (DecAt wr g P d2) ∧ Aside0 (Going l (B ++ b) d2 ((full l B).out ++ o2)) ∧ Aside0 (Mv g w wr)) (fun _ wr => heldOf g wr)
  case atStart => exact ⟨⟨#[]⟩, _, rfl, HD1, ⟨by rw [ba_append_nil]; exact HG.out⟩, ⟨(Mv.refl g w).set_ 6 _⟩⟩
  case round =>
    obtain ⟨o2, d2, rfl, HD2, HG2, HM2⟩ := hrel
    have HX := Aside0.mk (HNX.out _ d2 _ HD2.out (HDI.out.step HM2.out) HG2.out)
    obtain ⟨gn1, gn2⟩ := HGN.out d2 _ HG2.out
    obtain ⟨n1, hn1⟩ : ∃ n1, n1 = (nextD l d2).1 := ⟨_, rfl⟩
    obtain ⟨n2, hn2⟩ : ∃ n2, n2 = (nextD l d2).2.1 := ⟨_, rfl⟩
    obtain ⟨n3, hn3⟩ : ∃ n3, n3 = (nextD l d2).2.2 := ⟨_, rfl⟩
    rw [← hn1, ← hn2, ← hn3] at gn1 gn2 HX
    have hb2 := HG2.out.bound
    have hl2 := HG2.out.le
    have hz := HZ.out
    rw [ByteArray.size_append] at hb2
    cases n3 with
    | true =>
      obtain ⟨g1, g2, g3⟩ := gn1 rfl
      have HG3 := Aside0.mk g1
      have HLT := Aside0.mk g2
      have u2 : ¬ 9223372036854775807 < o2.size + n2.size := by omega
      clear gn1 gn2 hn1 hn2 hn3 hb2 hl2 hz g1 g2 g3
      go_wp2_with fail
      refine HX.out.mono ?_
      rintro e w3 ⟨rfl, hd3, hm3⟩
      have HD3 := Aside0.mk hd3
      have HM3 := Aside0.mk (HM2.out.trans hm3)
      clear hd3 hm3
      go_wp2_with fail
      go_roundw
      case rel => exact ⟨o2 ++ n2, n1, rfl, HD3, ⟨by rw [← ba_assoc]; exact HG3.out⟩, HM3⟩
      case measure =>
        rw [heldOf_is HD3.out, heldOf_is HD2.out]
        exact HLT.out
    | false =>
      obtain ⟨g1, g2, g3⟩ := gn2 rfl
      have HR := Aside0.mk g3
      have HO := Aside0.mk g2
      have HER := Aside0.mk (rel_err g3)
      clear gn1 gn2 hn1 hn2 hn3 hb2 hl2 hz g1 g2 g3
      go_wp2_with fail
      refine HX.out.mono ?_
      rintro e w3 ⟨rfl, hd3, hm3⟩
      have HD3 := Aside0.mk hd3
      have HM3 := Aside0.mk (HM2.out.trans hm3)
      have c9 := hd3.c9
      rw [HER.out] at c9
      obtain ⟨ev, hev⟩ : ∃ ev, ev = errV (full l (B ++ b)).code ((full l (B ++ b)).at_ : Int) := ⟨_, rfl⟩
      rw [← hev] at c9
      have HEV := Aside0.mk hev
      clear hd3 hm3 hev
      go_wp2_with fail
      go_quiet (fail)
      go_wp2_with fail
      go_ret2
      refine ⟨o2, n1, by rw [← HEV.out]; rfl, HO.out.symm, HD3.out.below (by repeat (first | exact Below.refl _ _ | apply below_drew | apply pw_below_drewN)), HR.out, HM3.out.then (by repeat (first | exact Below.refl _ _ | apply below_drew | apply pw_below_drewN))⟩
theorem scan_bound (l : List ByteArray) (hl : l.length ≤ 100) (hs : ∀ s ∈ l, 1 ≤ s.size ∧ s.size ≤ 40) (how : Nat) (hh : how ≤ 1) (blk : Nat) (B : ByteArray) : ∀ (x a : Nat) (out : ByteArray), a ≤ B.size → B.size ≤ a + x → out.size ≤ 1024 * a → (scanF l how blk B a out).out.size ≤ 1024 * (scanF l how blk B a out).at_ := by
  intro x
  induction x using Nat.strongRecOn with
  | ind x ih =>
    intro a out ha hx hb
    by_cases g1 : (frameR (B.extract a B.size) blk).e = 2
    · rw [scan_wait ha g1]; exact hb
    by_cases g2 : (frameR (B.extract a B.size) blk).e = 0
    · obtain ⟨n5, nz, _, hf⟩ := frame_n _ _ g2
      rw [ext_all] at nz
      by_cases hk : (frameR (B.extract a B.size) blk).kind = 0
      · by_cases hr : (frameR (B.extract a B.size) blk).raw = out.size % 4294967296
        · rw [scan_end ha g2 hk hr]
          show out.size ≤ 1024 * (a + _)
          omega
        · rw [scan_length ha g2 hk hr]; exact hb
      · obtain ⟨hk2, hr2, hp2⟩ := hf.resolve_left (fun q => hk q.1)
        by_cases hg : (getR l how (frameR (B.extract a B.size) blk).kind (frameR (B.extract a B.size) blk).raw (frameR (B.extract a B.size) blk).pay).2 = 0
        · by_cases hq : crcR (u (getR l how (frameR (B.extract a B.size) blk).kind (frameR (B.extract a B.size) blk).raw (frameR (B.extract a B.size) blk).pay).1) = (frameR (B.extract a B.size) blk).sum
          · rw [scan_more ha g2 hk hg hq]
            obtain ⟨_, z2, _⟩ := getR_ok hl hs how (frameR (B.extract a B.size) blk).kind (frameR (B.extract a B.size) blk).raw (frameR (B.extract a B.size) blk).pay (by omega) (by omega) (by omega)
            have z3 := z2 hg
            exact ih (x - (frameR (B.extract a B.size) blk).n) (by omega) _ _ (by omega) (by omega) (grow_bound hb (by omega) n5)
          · rw [scan_sum ha g2 hk hg hq]; exact hb
        · rw [scan_get ha g2 hk hg]; exact hb
    · rw [scan_bad ha g1 g2]; exact hb
theorem full_bound {l : List ByteArray} (hl : l.length ≤ 100) (hs : ∀ s ∈ l, 1 ≤ s.size ∧ s.size ≤ 40) (B : ByteArray) : (full l B).out.size ≤ 1024 * (full l B).at_ := by
  unfold full
  split
  · exact Nat.zero_le _
  · split
    · exact Nat.zero_le _
    · split
      · exact Nat.zero_le _
      · exact scan_bound l hl hs _ (head_c B).1 _ B B.size 17 _ (by omega) (by omega) (Nat.zero_le _)
theorem feed_any {w : World} {g : Nat} {P : Value} {d : D} {l : List ByteArray} {B : ByteArray} (h : DecAt w g P d) (hdi : DicF g w P l) {ad : Addr} (hP : P = .pointer (some ad)) (hl : l.length ≤ 100) (hs : ∀ s ∈ l, 1 ≤ s.size ∧ s.size ≤ 40) (hr : Rel l B d) (b : ByteArray) (hz : (B ++ b).size ≤ 900000) :
    Calls Tryz.prog 23 #[.pointer (some ⟨g, 0, none⟩), .string b] w fun e w' => ∃ o d', e = .returned (.tuple #[.string o, errV (full l (B ++ b)).code ((full l (B ++ b)).at_ : Int)]) ∧ (full l B).out ++ o = (full l (B ++ b)).out ∧ DecAt w' g P d' ∧ Rel l (B ++ b) d' ∧ Mv g w w' := by
  by_cases hc : (full l B).code = 0
  · exact feed_ok h hdi hP hl hs hr hc (full_bound hl hs B) b hz
  · refine (feed_bad h hP hr hc b).mono ?_
    rintro e w' ⟨rfl, hd, hm⟩
    have hf := full_err hc b
    exact ⟨⟨#[]⟩, d, by rw [hf], by rw [hf, ba_append_nil], hd, ⟨fun q => absurd (by rw [← hf]; exact q) hc, fun _ => by rw [hf]; exact hr.2 hc⟩, hm⟩
end Go.Proofs.YtdpkgjahcapleaaGreat
