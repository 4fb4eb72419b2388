/- ShY: a part of its proof (contracts of the functions that it reaches, and the plain mathematics behind them). -/
import Derived.Test.YtepgkimlmoikmaaGreatShY29
import Derived.Test.YtepgkimlmoikmaaGreatShY31
import Derived.Test.YtepgkimlmoikmaaGreatShY40
set_option linter.unusedVariables false
set_option linter.unusedSimpArgs false
set_option maxHeartbeats 2000000
set_option maxRecDepth 100000
set_option linter.unusedVariables false
set_option linter.unusedSimpArgs false
namespace Go.Proofs.YtepgkimlmoikmaaGreat
open Go.RowKit Go.Proofs.YtepgkimlmoikmaaGreat.Spec Go.Proofs.YtepgkimlmoikmaaGreatW.PrintWords Go.Proofs.YtepgkimlmoikmaaGreatW.PrintLast
open Go.Proofs.YtepgkimlmoikmaaGreatW.PrintMore
attribute [local go_sem ↓] Go.wp_at_zero Go.wp_at_succ
attribute [local go_sem] max2_int min2_int max_two min_two
open Pk
theorem strOf_nat (l : List Nat) : strOfNums (intN l) = str (l.map UInt8.ofNat) := by
 unfold strOfNums intN str
 rw [List.map_map]
 rfl
theorem u8V_encs (l : List Nat) : u8V l = (intN l).map (Value.int .u8) := by unfold u8V intN; rw [List.map_map]; rfl
theorem WrAt.below {w w1 : World} {H : Nat} {B : List Nat} (h : WrAt w H B) (hb : Below w.heap.size w w1) : WrAt w1 H B := by
 obtain ⟨v, h1, h2⟩ := h.obj
 exact ⟨h.bits, v, blk_below h1 hb, own_below h2 hb⟩
theorem wbytes_any {H : Nat} {B : List Nat} {w : World} (hw : WrAt w H B) : Calls Tryz.prog 153 #[.pointer (some ⟨H, 0, none⟩)] w fun e w' => e = .returned (.string (str ((bytesB B).map UInt8.ofNat))) ∧ Below w.heap.size w w' := by
 obtain ⟨v, hobj, hown⟩ := hw.obj
 obtain ⟨A, cp, rfl⟩ := own_slice hown
 have k0 : w.cell? ⟨H, 0, none⟩ = some (.slice A ((B.length + 7) / 8) cp) := blk_cell hobj 0
 have hl : (intN (bytesB B)).length = (B.length + 7) / 8 := by rw [intN_len, bytesB_len]
 have hR : (Kd.int .u8).R 5 w (H + 1) (fun _ => True) (.slice A ((B.length + 7) / 8) cp) (intN (bytesB B)) := Kd.R_of_own (by rw [hl]; rw [u8V_encs] at hown; exact hown) (fun _ _ => trivial)
 have hcv := string_of_reads (P := Tryz.prog) (c := cp) Tryz.underlying55 Tryz.underlying5 Tryz.underlying9 (Kd.reads_of_C (enc := Value.int .u8) (d := (0 : Int)) (h1 := fun _ => rfl) (Kd.R_reads' hR).2.2)
 rw [strOf_nat, hl] at hcv
 clear hobj hown hR hl
 go_enter Tryz.func153, Tryz.ntmps153
 go_wp2_with fail
 go_ret
 exact ⟨rfl, Below.refl _ _⟩
theorem cput_any {s m : Nat} {A1 A2 : Option Addr} {c1 c2 : Nat} {L : List Int} (B : List Nat) {wp w : World} (hw : WrAt w wp.heap.size B) (hbp : Below wp.heap.size wp w) (hr1 : IntsIn wp A1 L) (hr2 : IntsIn wp A2 (codesL L)) (hc1 : L.length ≤ c1) (hc2 : L.length ≤ c2) (hL : L.length ≤ 356) (hk : kraftL L ≤ 32768) (hs : L[s]? = some (m : Int)) (h1 : 1 ≤ m) (h2 : m ≤ 15) (hB : B.length ≤ 1000000) :
  Calls Tryz.prog 152 #[.pointer (some ⟨wp.heap.size, 0, none⟩), .slice A1 L.length c1, .slice A2 L.length c2, .int .i64 (s : Int)] w fun e w' => e = .returned (.bool true) ∧ WrAt w' wp.heap.size (B ++ codeB L s) ∧ Below wp.heap.size w w' := by
 obtain ⟨hlt, hel⟩ := List.getElem?_eq_some_iff.1 hs
 have HP := Aside0.mk (fun (W : World) (h : WrAt W wp.heap.size B) => wput_any (c := codN L s) (n := m) B h ⟨h1, h2⟩ (codN_pow hk hs h1 h2) hB)
 have HW := Aside0.mk hw
 have HBP := Aside0.mk hbp
 have hcs : (codesL L)[s]? = some ((codN L s : Nat) : Int) := by rw [codN_cast hs h1 h2]; unfold codesL; rw [List.getElem?_map, List.getElem?_range hlt]; rfl
 have hrd1 : rd L (s : Int) = (m : Int) := by rw [rd_at L s hlt, hel]
 have hrd2 : rd (codesL L) (s : Int) = ((codN L s : Nat) : Int) := by unfold rd; rw [Int.toNat_natCast, List.getD_eq_getElem?_getD, hcs]; rfl
 have p1 : (0 : Int) ≤ (s : Int) := by omega
 have p2 : (s : Int) < (L.length : Int) := by omega
 obtain ⟨a1, rfl, y1⟩ := Kd.at_int hr1 (s : Int) p1 p2
 obtain ⟨a2, rfl, y2⟩ := Kd.at_int hr2 (s : Int) p1 (by rw [codesL_len]; exact p2)
 rw [hrd1, Int.toNat_natCast] at y1
 rw [hrd2, Int.toNat_natCast] at y2
 have x1 := pw_cell_below hbp y1
 have x2 := pw_cell_below hbp y2
 have HY := Aside0.mk (And.intro y1 y2)
 have HE : codeB L s = bitsOf (codN L s) m := by unfold codeB; rw [List.getD_eq_getElem?_getD, hs]; rfl
 rw [HE]
 generalize codN L s = cn at *
 have d0 : decide ((s : Int) < 0) = false := decide_eq_false (by omega)
 have d1 : decide ((L.length : Int) ≤ (s : Int)) = false := decide_eq_false (by omega)
 have d1' : decide (L.length ≤ s) = false := decide_eq_false (by omega)
 have d2 : decide ((m : Int) < 1) = false := decide_eq_false (by omega)
 have d2' : decide (m < 1) = false := decide_eq_false (by omega)
 have d3 : decide ((15 : Int) < (m : Int)) = false := decide_eq_false (by omega)
 have d3' : decide (15 < m) = false := decide_eq_false (by omega)
 clear hw hr1 hr2 hL hk hs hB hlt hel hcs hrd1 hrd2 HE h1 h2 y1 y2 hbp
 go_enter Tryz.func152, Tryz.ntmps152
 go_wp2_with fail
 go_region_held3 (fun w' => w'.cell? (a1.add s) = some (.int .i64 (m : Int)) ∧ w'.cell? (a2.add s) = some (.int .i64 (cn : Int)))
  (first | exact ⟨x1, x2⟩ | exact ⟨pw_cell_below HZ.out.2.2 HY.out.1, pw_cell_below HZ.out.2.2 HY.out.2⟩)
  ((go_at_call 196; refine (HP.out _ (HW.out.below (by repeat (first | exact Below.refl _ _ | apply below_drew | apply pw_below_drewN)))).mono ?_; rintro e w1 ⟨rfl, hw1, hb1⟩; have HZ := Aside0.mk (And.intro hw1 (And.intro hb1 (Below.trans (below_drew1 HBP.out) hb1))); clear hw1 hb1))
 go_wp2_with fail
 go_ret
 exact ⟨rfl, HZ.out.1, (below_drew1 (Below.refl _ _)).trans HZ.out.2.1⟩
theorem tput_calls {A : Option Addr} {c : Nat} (L : List Int) {w : World} (hr : IntsIn w A L) (hc : L.length ≤ c) (hl : L.length ≤ 356) (h6 : TabMath.AllSixt L) : Calls Tryz.prog 151 #[.slice A L.length c] w fun e w' => e = .returned (.tuple #[.string (strOfNums (TabMath.enc 0 L)), .bool true]) ∧ Below w.heap.size w w' := by
 have he := TabB.put_ev L
 unfold TabB.putS at he
 rw [if_pos ⟨hl, h6⟩] at he
 obtain ⟨k, hk⟩ := he.rounds
 exact Leaf.tab_Put.calls k A c L _ _ w hr hc hk
theorem lensC_right {m : Nat} {ns : List Nat} (hne : ns ≠ []) (hb : ∀ s ∈ ns, s < m) (hm : m ≤ 356) :
  cright (lensC m ns) = 0 ∧ kraftL (lensC m ns) ≤ 32768 ∧ Coded (lensC m ns) ns ∧ (lensC m ns).length = m ∧ sgl 0 (cntN m ns) ≠ [] := lens_right hne hb hm
theorem wr_new (w : World) : WrAt (w.alloc (.cells #[.slice none 0 0, .int .i64 0] 208)) w.heap.size [] := by
 refine ⟨fun x hx => (by cases hx), .slice none 0 0, blk_new w _, ?_⟩
 exact ⟨rfl, .inl ⟨rfl, rfl⟩⟩
theorem codes_any {A : Option Addr} {c : Nat} {p : Value} {l : List ByteArray} (toks : List Int) {w : World} (hd : DictN w p l) (hl : l.length ≤ 100) (hr : IntsIn w A toks) (hc : toks.length ≤ c) (hn : toks.length ≤ 2000) (h0 : toks ≠ []) (ht : ∀ t ∈ toks, Tok l t) :
  Calls Tryz.prog 99 #[p, .slice A toks.length c] w fun e w' => e = .returned (.string (payC (256 + l.length) (toks.map Int.toNat))) ∧ Below w.heap.size w w' := by
 obtain ⟨hb, hi⟩ := tok_nat ht
 have hne : toks.map Int.toNat ≠ [] := by simpa using h0
 have hlen : (toks.map Int.toNat).length = toks.length := List.length_map ..
 obtain ⟨g1, g2, g3, g4, g5⟩ := lensC_right hne hb (by omega)
 have h6 : TabMath.AllSixt (lensC (256 + l.length) (toks.map Int.toNat)) := fun x hx => (cright_pos g1).2 x hx
 have hcz := codesB_len g3
 have HZ := Aside0.mk (And.intro hcz.1 hlen)
 have HALL := Aside0.mk (all_calls hd (by omega))
 have HHO := Aside0.mk (fun (W : World) (h : IntsIn W A toks) => hof_any (c2 := c) (m := 256 + l.length) (A := A) (toks.map Int.toNat) (w := W) (by rw [hi]; exact h) (by omega) (by omega) hb (by omega))
 rw [hlen] at HHO
 have HLE := Aside0.mk (fun (W : World) (g c' : Nat) (h : RowN W g (cntN (256 + l.length) (toks.map Int.toNat))) (hc' : 256 + l.length ≤ c') => lensOf_any (A := some ⟨g, 0, none⟩) (c := c') (cntN (256 + l.length) (toks.map Int.toNat)) (h.ints (by rw [cntN_len]; omega)) (by rw [cntN_len]; omega) (by rw [cntN_len]; omega) (fun x hx => by
  obtain ⟨s, _, rfl⟩ := List.mem_map.1 hx
  have := List.count_le_length (a := s) (l := toks.map Int.toNat)
  omega) g5)
 rw [cntN_len] at HLE
 change Aside0 (∀ (W : World) (g c' : Nat), _ → _ → Calls Tryz.prog 149 _ W fun e w' => ∃ g, _ ∧ _ ∧ RowI w' g (lensC (256 + l.length) (toks.map Int.toNat)) ∧ _) at HLE
 have HPAY : Aside0 (payC (256 + l.length) (toks.map Int.toNat) = strOfNums (TabMath.enc 0 (lensC (256 + l.length) (toks.map Int.toNat))) ++ bytC (lensC (256 + l.length) (toks.map Int.toNat)) (toks.map Int.toNat)) := ⟨rfl⟩
 have hz1 := strOfNums_size (TabMath.enc 0 (lensC (256 + l.length) (toks.map Int.toNat)))
 have hz3 := bytC_size (lensC (256 + l.length) (toks.map Int.toNat)) (toks.map Int.toNat)
 have hez : (TabMath.enc 0 (lensC (256 + l.length) (toks.map Int.toNat))).length ≤ 356 := by
  have hl4 : (lensC (256 + l.length) (toks.map Int.toNat)).length ≤ 356 := by rw [g4]; omega
  cases hx : lensC (256 + l.length) (toks.map Int.toNat) with
  | nil => exact Nat.zero_le _
  | cons x t =>
   have := (TabMath.enc_sizes t 0 x (by omega)).1
   rw [hx, List.length_cons] at hl4
   omega
 rw [HPAY.out]
 have HCO := Aside0.mk (fun (W : World) (g c' : Nat) (h : IntsIn W (some ⟨g, 0, none⟩) (lensC (256 + l.length) (toks.map Int.toNat))) => codeof_yes (c := c') (lensC (256 + l.length) (toks.map Int.toNat)) h)
 have HTP := Aside0.mk (fun (W : World) (g c' : Nat) (h : IntsIn W (some ⟨g, 0, none⟩) (lensC (256 + l.length) (toks.map Int.toNat))) (hc' : (lensC (256 + l.length) (toks.map Int.toNat)).length ≤ c') => tput_calls (c := c') (lensC (256 + l.length) (toks.map Int.toNat)) h hc' (by omega) h6)
 have HG := Aside0.mk (And.intro g1 (And.intro g2 (And.intro g3 g4)))
 have HR := Aside0.mk hr
 have HT := Aside0.mk (And.intro hc (And.intro hn (And.intro hi hb)))
 have HBY : Aside0 (∀ (W : World) (H : Nat), WrAt W H (codesB (lensC (256 + l.length) (toks.map Int.toNat)) (toks.map Int.toNat)) → Calls Tryz.prog 153 #[.pointer (some ⟨H, 0, none⟩)] W fun e w' => e = .returned (.string (bytC (lensC (256 + l.length) (toks.map Int.toNat)) (toks.map Int.toNat))) ∧ Below W.heap.size W w') := ⟨fun W H h => wbytes_any h⟩
 rw [← hlen] at hn
 generalize lensC (256 + l.length) (toks.map Int.toNat) = L at *
 have hu : ¬ 9223372036854775807 < (strOfNums (TabMath.enc 0 L)).size + (bytC L (toks.map Int.toNat)).size := by omega
 generalize strOfNums (TabMath.enc 0 L) = O1 at *
 generalize bytC L (toks.map Int.toNat) = O2 at *
 have hL : L.length = 256 + l.length := g4
 have zm : 256 + l.length ≤ 356 := by omega
 rw [hL] at HCO HTP
 clear hd hl hr hc hn h0 ht hb hi hne hlen g1 g2 g3 g4 g5 h6 hcz hz1 hz3 hez HPAY
 generalize 256 + l.length = m at *
 go_enter Tryz.func99, Tryz.ntmps99
 go_wp2_with fail
 refine HALL.out.mono ?_
 rintro e w1 ⟨rfl, hb1⟩
 have B1 := Aside0.mk hb1
 clear hb1
 go_wp2_with fail
 refine (HHO.out _ (Kd.C_below HR.out B1.out)).mono ?_
 rintro e w2 ⟨g1, c1, rfl, hg1, hc1, hrow1, hb2⟩
 have B2 := Aside0.mk (below_step B1.out hb2)
 have R1 := Aside0.mk (And.intro hrow1 hc1)
 clear hg1 hc1 hrow1 hb2
 go_wp2_with fail
 refine (HLE.out _ g1 c1 R1.out.1 R1.out.2).mono ?_
 rintro e w3 ⟨g, rfl, hg, hrow2, hb3⟩
 have B3 := Aside0.mk (below_step B2.out hb3)
 have I3 := Aside0.mk (hrow2.ints (by omega))
 clear hg hrow2 hb3
 go_wp2_with fail
 refine (HCO.out _ g m I3.out (Nat.le_refl _) (by omega) HG.out.1).mono ?_
 rintro e w4 ⟨g2, rfl, hrow3, hg2, hb4⟩
 have B4 := Aside0.mk (below_step B3.out hb4)
 have I4 := Aside0.mk (Kd.C_below I3.out hb4)
 have J4 := Aside0.mk (hrow3.ints (by rw [codesL_len]; omega))
 clear hg2 hrow3 hb4
 go_wp2_with fail
 refine (HTP.out _ g m I4.out (Nat.le_refl _)).mono ?_
 rintro e w5 ⟨rfl, hb5⟩
 have B5 := Aside0.mk (below_step B4.out hb5)
 have I5 := Aside0.mk (Kd.C_below I4.out hb5)
 have J5 := Aside0.mk (Kd.C_below J4.out hb5)
 clear hb5
 have W5 := Aside0.mk (wr_new w5)
 go_wp2_with fail
 go_loopw [40] (fun v40 wx => ∃ j : Nat, v40 = .int .i64 (j : Int) ∧ Aside0 (j ≤ toks.length) ∧ Aside0 (WrAt wx w5.heap.size (codesB L ((toks.map Int.toNat).take j))) ∧ Aside0 (Below w5.heap.size w5 wx)) (fun v40 _ => toks.length - (intOf v40).toNat)
 case atStart => exact ⟨0, rfl, ⟨Nat.zero_le _⟩, W5, ⟨below_alloc (Below.refl _ _) _⟩⟩
 case round =>
  obtain ⟨j, rfl, HJ, HW, HB⟩ := hrel
  have hj := HJ.out
  have zn : toks.length ≤ 2000 := HT.out.2.1
  by_cases hjn : j < toks.length
  ·have e1 : decide ((j : Int) < (toks.length : Int)) = true := decide_eq_true (by omega)
   have e2 : decide (j < toks.length) = true := decide_eq_true hjn
   have p1 : (0 : Int) ≤ (j : Int) := by omega
   have p2 : (j : Int) < (toks.length : Int) := by omega
   obtain ⟨ad, rfl, hcell⟩ := Kd.at_int (Kd.C_below HR.out (below_step B5.out HB.out)) (j : Int) p1 p2
   obtain ⟨t, hget⟩ : ∃ t, toks[j]? = some t := ⟨_, List.getElem?_eq_getElem hjn⟩
   have hrd : rd toks (j : Int) = t := by unfold rd; rw [Int.toNat_natCast, List.getD_eq_getElem?_getD, hget]; rfl
   rw [hrd, Int.toNat_natCast] at hcell
   have hget2 : (toks.map Int.toNat)[j]? = some t.toNat := by rw [List.getElem?_map, hget]; rfl
   have hti : t = (t.toNat : Int) := by
    have h : (intN (toks.map Int.toNat))[j]? = toks[j]? := by rw [HT.out.2.2.1]
    unfold intN at h
    rw [hget, List.getElem?_map, hget2] at h
    exact (Option.some.inj h).symm
   obtain ⟨mm, hm1, hm2, hm3⟩ := HG.out.2.2.1 t.toNat (List.mem_of_getElem? hget2)
   have HTK : Aside0 (codesB L ((toks.map Int.toNat).take (j + 1)) = codesB L ((toks.map Int.toNat).take j) ++ codeB L t.toNat) := ⟨by rw [List.take_add_one, hget2, codesB_app, ← codesB_one]; rfl⟩
   have hcl := (codesB_len (l := L) (ns := (toks.map Int.toNat).take j) fun s hs => HG.out.2.2.1 s (List.mem_of_mem_take hs)).1
   rw [List.length_take] at hcl
   have HCP := Aside0.mk (cput_any (c1 := m) (c2 := m) (codesB L ((toks.map Int.toNat).take j)) HW.out HB.out I5.out J5.out (by omega) (by omega) (by omega) HG.out.2.1 hm1 hm2 hm3 (by omega))
   rw [hti] at hcell
   generalize t.toNat = tn at *
   have HJN := Aside0.mk hjn
   clear hj hjn hrd hget hget2 hti hm1 hm2 hm3 hcl
   rw [hL] at HCP
   go_wp2_with fail
   refine HCP.out.mono ?_
   rintro e w6 ⟨rfl, hw6, hb6⟩
   have W6 := Aside0.mk hw6
   have B6 := Aside0.mk (HB.out.trans hb6)
   clear hw6 hb6
   go_wp2_with fail
   go_roundw
   case rel =>
    have h1 := HJN.out
    exact ⟨j + 1, rfl, ⟨h1⟩, ⟨by rw [HTK.out]; exact W6.out⟩, B6⟩
   case measure => have h1 := HJN.out; exact measI _ j h1
  ·have hje : j = toks.length := by omega
   subst hje
   have e1 : decide ((toks.length : Int) < (toks.length : Int)) = false := decide_eq_false (by omega)
   have e2 : decide (toks.length < toks.length) = false := decide_eq_false (by omega)
   have HFI := HW.out
   rw [List.take_of_length_le (by rw [List.length_map]; exact Nat.le_refl _)] at HFI
   have HF := Aside0.mk HFI
   clear hj hjn HFI
   go_wp2_with fail
   refine (HBY.out _ _ HF.out).mono ?_
   rintro e w7 ⟨rfl, hb7⟩
   have B7 := Aside0.mk (below_step B5.out (below_step HB.out hb7))
   clear hb7
   go_wp2_with fail
   go_ret
   exact ⟨rfl, B7.out⟩
end Go.Proofs.YtepgkimlmoikmaaGreat
set_option linter.unusedVariables false
set_option linter.unusedSimpArgs false
namespace Go.Proofs.YtepgkimlmoikmaaGreat
open Go.RowKit Go.Proofs.YtepgkimlmoikmaaGreat.Spec Go.Proofs.YtepgkimlmoikmaaGreatW.PrintWords Go.Proofs.YtepgkimlmoikmaaGreatW.PrintLast
open Go.Proofs.YtepgkimlmoikmaaGreatW.PrintMore
attribute [local go_sem ↓] Go.wp_at_zero Go.wp_at_succ
attribute [local go_sem] max2_int min2_int max_two min_two
theorem coded_one (w : World) : Calls Tryz.prog 75 #[.int .i64 1] w fun e w' => e = .returned (.bool true) ∧ Below w.heap.size w w' := by
 refine (coded_calls 1 w).mono ?_
 rintro e w' ⟨rfl, h⟩
 exact ⟨rfl, h.below⟩
theorem lay_nums2 {A : Option Addr} {c : Nat} {p : Value} {l : List ByteArray} (toks : List Int) {w : World} (hd : DictN w p l) (hl : l.length ≤ 1000) (hs : ∀ s ∈ l, 1 ≤ s.size ∧ s.size ≤ 40) (hr : IntsIn w A toks) (hc : toks.length ≤ c) (hn : toks.length ≤ 2000) (h0 : toks ≠ []) (ht : ∀ t ∈ toks, Tok l t) :
  Calls Tryz.prog 32 #[p, .int .i64 0, .slice A toks.length c] w fun e w' => e = .returned (.tuple #[.string (str (nums2 toks)), .int .i64 0]) ∧ Below w.heap.size w w' := by
 have HD := Aside0.mk hd
 have HR := Aside0.mk hr
 have HC := Aside0.mk hc
 have HN := Aside0.mk hn
 have HL := Aside0.mk hl
 have HS := Aside0.mk hs
 have HT := Aside0.mk ht
 have hpos : 0 < toks.length := List.length_pos_iff.2 h0
 have e0 : ((toks.length : Int) == (0 : Int)) = false := beq_eq_false_iff_ne.2 (by omega)
 have e0' : (toks.length == 0) = false := beq_eq_false_iff_ne.2 (by omega)
 have e0n : ¬ toks = [] := h0
 clear hd hr hc hn hl hs ht hpos h0
 go_enter Tryz.func32, Tryz.ntmps32
 go_wp2_with (go_at_call 75; refine (coded_zero _).mono ?_; rintro e w1 ⟨rfl, hb1⟩; have H1 := Aside0.mk hb1; clear hb1)
 go_loopw [25] (fun v25 wr => ∃ i : Nat, v25 = .int .i64 i ∧ Aside0 (i ≤ toks.length) ∧ Aside0 (Below w.heap.size w wr)) (fun v25 _ => toks.length - (intOf v25).toNat)
 case atStart => exact ⟨0, rfl, ⟨Nat.zero_le _⟩, H1⟩
 case round =>
  obtain ⟨i, rfl, HI, HB⟩ := hrel
  have hi := HI.out
  have hn := HN.out
  by_cases hlt : i < toks.length
  ·have d0 : decide ((i : Int) < (toks.length : Int)) = true := decide_eq_true (by omega)
   have d0' : decide (i < toks.length) = true := decide_eq_true hlt
   have p1 : (0 : Int) ≤ (i : Int) := by omega
   have p2 : (i : Int) < (toks.length : Int) := by omega
   have HLT := Aside0.mk hlt
   obtain ⟨t, hget⟩ : ∃ t, toks[i]? = some t := ⟨_, List.getElem?_eq_getElem hlt⟩
   obtain ⟨ad2, e2, hcell⟩ := Kd.at_int (Kd.C_below HR.out HB.out) (i : Int) p1 p2
   have hrd : rd toks (i : Int) = t := by unfold rd; rw [Int.toNat_natCast, List.getD_eq_getElem?_getD, hget]; rfl
   rw [hrd, Int.toNat_natCast] at hcell
   subst e2
   have HTK := Aside0.mk (HT.out t (List.mem_of_getElem? hget))
   have HDT := Aside0.mk (decide_eq_true HTK.out)
   have HIN : Aside0 (In64 t) := ⟨by have h := HTK.out; have := HL.out; unfold Tok at h; unfold In64; omega⟩
   clear hi hn hlt hget hrd
   go_wp2_with (go_at_call 98; refine (right_any (HD.out.below HB.out) HS.out t HIN.out).mono ?_; rw [HDT.out]; rintro e w2 ⟨rfl, hb2⟩; have HB2 := Aside0.mk (below_step HB.out hb2); clear hb2)
   go_roundw
   case rel =>
    have h1 := HLT.out
    have h2 := HN.out
    exact ⟨i + 1, by rw [step1 i (by omega)], ⟨by omega⟩, HB2⟩
   case measure => have h1 := HLT.out; have h2 := HN.out; exact meas _ i h1 (by omega)
  ·have d0 : decide ((i : Int) < (toks.length : Int)) = false := decide_eq_false (by omega)
   have d0' : decide (i < toks.length) = false := decide_eq_false hlt
   clear hi hn hlt
   go_wp2
   go_loopw [10, 41] (fun v10 v41 wr => ∃ i : Nat, v41 = .int .i64 i ∧ v10 = .string (str (nums2 (toks.take i))) ∧ Aside0 (i ≤ toks.length) ∧ Aside0 (Below w.heap.size w wr)) (fun _ v41 _ => toks.length - (intOf v41).toNat)
   case atStart => exact ⟨0, rfl, rfl, ⟨Nat.zero_le _⟩, HB⟩
   case round =>
    obtain ⟨i, rfl, rfl, HI2, HB2⟩ := hrel
    have hi := HI2.out
    have hn := HN.out
    by_cases hlt : i < toks.length
    ·have d1 : decide ((i : Int) < (toks.length : Int)) = true := decide_eq_true (by omega)
     have d1' : decide (i < toks.length) = true := decide_eq_true hlt
     have p1 : (0 : Int) ≤ (i : Int) := by omega
     have p2 : (i : Int) < (toks.length : Int) := by omega
     have HLT := Aside0.mk hlt
     obtain ⟨t, hget⟩ : ∃ t, toks[i]? = some t := ⟨_, List.getElem?_eq_getElem hlt⟩
     obtain ⟨ad2, e2, hcell⟩ := Kd.at_int (Kd.C_below HR.out HB2.out) (i : Int) p1 p2
     have hrd : rd toks (i : Int) = t := by unfold rd; rw [Int.toNat_natCast, List.getD_eq_getElem?_getD, hget]; rfl
     rw [hrd, Int.toNat_natCast] at hcell
     subst e2
     have htk := HT.out t (List.mem_of_getElem? hget)
     have hll := HL.out
     unfold Tok at htk
     obtain ⟨m, rfl⟩ : ∃ m : Nat, t = m := ⟨t.toNat, by omega⟩
     have HMB := Aside0.mk (show m < 4294967296 by omega)
     have hz := nums2_size HL.out (toks.take i) (fun q hq => HT.out q (List.mem_of_mem_take hq))
     have hz2 := num_size (n := m) (by omega)
     rw [List.length_take] at hz
     have q1 : ¬ 9223372036854775807 < (str (nums2 (toks.take i))).size + (str (num m)).size := by rw [← u_size, ← u_size, u_str, u_str]; omega
     have HTS := Aside0.mk (show nums2 (toks.take (i + 1)) = nums2 (toks.take i) ++ num m by rw [take_succ hget, nums2_append]; simp [nums2])
     clear hi hn hlt hget hrd htk hll hz hz2
     go_wp2_with (go_at_call 100; refine (vput_nat HMB.out _).mono ?_; rintro e w2 ⟨rfl, hb2⟩; have HB3 := Aside0.mk (below_step HB2.out hb2); clear hb2)
     go_roundw
     case rel =>
      have h1 := HLT.out
      have h2 := HN.out
      exact ⟨i + 1, by rw [step1 i (by omega)], by rw [HTS.out, str_append], ⟨by omega⟩, HB3⟩
     case measure => have h1 := HLT.out; have h2 := HN.out; exact meas _ i h1 (by omega)
    ·have d1 : decide ((i : Int) < (toks.length : Int)) = false := decide_eq_false (by omega)
     have d1' : decide (i < toks.length) = false := decide_eq_false hlt
     have HE := Aside0.mk (show toks.take i = toks from List.take_of_length_le (by omega))
     clear hi hn hlt
     go_wp2
     go_ret2
     rw [HE.out]
     exact ⟨rfl, HB2.out⟩
theorem lay_codes {A : Option Addr} {c : Nat} {p : Value} {l : List ByteArray} (toks : List Int) {w : World} (hd : DictN w p l) (hl : l.length ≤ 100) (hs : ∀ s ∈ l, 1 ≤ s.size ∧ s.size ≤ 40) (hr : IntsIn w A toks) (hc : toks.length ≤ c) (hn : toks.length ≤ 2000) (h0 : toks ≠ []) (ht : ∀ t ∈ toks, Tok l t) :
  Calls Tryz.prog 32 #[p, .int .i64 1, .slice A toks.length c] w fun e w' => e = .returned (.tuple #[.string (payC (256 + l.length) (toks.map Int.toNat)), .int .i64 0]) ∧ Below w.heap.size w w' := by
 have HCD := Aside0.mk (fun (W : World) (h : DictN W p l) (hr : IntsIn W A toks) => codes_any toks h hl hr hc hn h0 ht)
 have HD := Aside0.mk hd
 have HR := Aside0.mk hr
 have HC := Aside0.mk hc
 have HN := Aside0.mk hn
 have HL := Aside0.mk hl
 have HS := Aside0.mk hs
 have HT := Aside0.mk ht
 have hpos : 0 < toks.length := List.length_pos_iff.2 h0
 have e0 : ((toks.length : Int) == (0 : Int)) = false := beq_eq_false_iff_ne.2 (by omega)
 have e0' : (toks.length == 0) = false := beq_eq_false_iff_ne.2 (by omega)
 have e0n : ¬ toks = [] := h0
 clear hd hr hc hn hl hs ht hpos h0
 go_enter Tryz.func32, Tryz.ntmps32
 go_wp2_with (go_at_call 75; refine (coded_one _).mono ?_; rintro e w1 ⟨rfl, hb1⟩; have H1 := Aside0.mk hb1; clear hb1)
 go_loopw [25] (fun v25 wr => ∃ i : Nat, v25 = .int .i64 i ∧ Aside0 (i ≤ toks.length) ∧ Aside0 (Below w.heap.size w wr)) (fun v25 _ => toks.length - (intOf v25).toNat)
 case atStart => exact ⟨0, rfl, ⟨Nat.zero_le _⟩, H1⟩
 case round =>
  obtain ⟨i, rfl, HI, HB⟩ := hrel
  have hi := HI.out
  have hn := HN.out
  by_cases hlt : i < toks.length
  ·have d0 : decide ((i : Int) < (toks.length : Int)) = true := decide_eq_true (by omega)
   have d0' : decide (i < toks.length) = true := decide_eq_true hlt
   have p1 : (0 : Int) ≤ (i : Int) := by omega
   have p2 : (i : Int) < (toks.length : Int) := by omega
   have HLT := Aside0.mk hlt
   obtain ⟨t, hget⟩ : ∃ t, toks[i]? = some t := ⟨_, List.getElem?_eq_getElem hlt⟩
   obtain ⟨ad2, e2, hcell⟩ := Kd.at_int (Kd.C_below HR.out HB.out) (i : Int) p1 p2
   have hrd : rd toks (i : Int) = t := by unfold rd; rw [Int.toNat_natCast, List.getD_eq_getElem?_getD, hget]; rfl
   rw [hrd, Int.toNat_natCast] at hcell
   subst e2
   have HTK := Aside0.mk (HT.out t (List.mem_of_getElem? hget))
   have HDT := Aside0.mk (decide_eq_true HTK.out)
   have HIN : Aside0 (In64 t) := ⟨by have h := HTK.out; have := HL.out; unfold Tok at h; unfold In64; omega⟩
   clear hi hn hlt hget hrd
   go_wp2_with (go_at_call 98; refine (right_any (HD.out.below HB.out) HS.out t HIN.out).mono ?_; rw [HDT.out]; rintro e w2 ⟨rfl, hb2⟩; have HB2 := Aside0.mk (below_step HB.out hb2); clear hb2)
   go_roundw
   case rel =>
    have h1 := HLT.out
    have h2 := HN.out
    exact ⟨i + 1, by rw [step1 i (by omega)], ⟨by omega⟩, HB2⟩
   case measure => have h1 := HLT.out; have h2 := HN.out; exact meas _ i h1 (by omega)
  ·have d0 : decide ((i : Int) < (toks.length : Int)) = false := decide_eq_false (by omega)
   have d0' : decide (i < toks.length) = false := decide_eq_false hlt
   clear hi hn hlt
   go_wp2_with fail
   refine (HCD.out _ (HD.out.below HB.out) (Kd.C_below HR.out HB.out)).mono ?_
   rintro e w2 ⟨rfl, hb2⟩
   have HB2 := Aside0.mk (below_step HB.out hb2)
   clear hb2
   go_wp2_with fail
   go_ret2
   exact ⟨rfl, HB2.out⟩
theorem lay_any {A : Option Addr} {c : Nat} {p : Value} {l : List ByteArray} {q : Int} (hq : q = 0 ∨ q = 1) (toks : List Int) {w : World} (hd : DictN w p l) (hl : l.length ≤ 100) (hs : ∀ s ∈ l, 1 ≤ s.size ∧ s.size ≤ 40) (hr : IntsIn w A toks) (hc : toks.length ≤ c) (hn : toks.length ≤ 2000) (h0 : toks ≠ []) (ht : ∀ t ∈ toks, Tok l t) :
  Calls Tryz.prog 32 #[p, .int .i64 q, .slice A toks.length c] w fun e w' => e = .returned (.tuple #[.string (layR l q toks), .int .i64 0]) ∧ Below w.heap.size w w' := by
 rcases hq with rfl | rfl
 ·exact lay_nums2 toks hd (by omega) hs hr hc hn h0 ht
 ·exact lay_codes toks hd hl hs hr hc hn h0 ht
theorem cfgB_q {p q k wd : Int} (h : cfgB p q k wd = true) : (q = 0 ∨ q = 1) ∧ k ≤ 1024 ∧ 1 ≤ wd.toNat := by unfold cfgB at h; rw [decide_eq_true_iff] at h; omega
theorem put_any {P : Value} {l : List ByteArray} {w : World} (hd : DictN w P l) (hl : l.length ≤ 100) (hs : ∀ s ∈ l, 1 ≤ s.size ∧ s.size ≤ 40) (p q k wd : Int) (hcf : cfgB p q k wd = true) (b : ByteArray) (h1 : 1 ≤ b.size) (hk : (b.size : Int) ≤ k) :
  Calls Tryz.prog 24 #[P, .agg #[.int .i64 p, .int .i64 q, .int .i64 k, .int .i64 wd], .string b] w fun e w' => e = .returned (.tuple #[.int .i64 ((putR l p q wd.toNat b).1 : Int), .string (putR l p q wd.toNat b).2, .int .i64 0]) ∧ Below w.heap.size w w' := by
 obtain ⟨hq, hk2, hw1⟩ := cfgB_q hcf
 have HD := Aside0.mk hd
 have HT := Aside0.mk (fun (W : World) (h : DictN W P l) => tokens_yes h (by omega) hs p q k wd hcf b h1 hk)
 obtain ⟨_, ht, hn, hne⟩ := toks_ok (by omega) hs p hw1 b (by omega)
 have HL := Aside0.mk (fun (W : World) (h : DictN W P l) (A : Option Addr) (c : Nat) (hr : IntsIn W A (toks l p wd.toNat b)) (hc : (toks l p wd.toNat b).length ≤ c) => lay_any hq (toks l p wd.toNat b) h hl hs hr hc (by omega) (hne h1) ht)
 unfold putR
 generalize layR l q (toks l p wd.toNat b) = s at *
 clear hd hl hs h1 hne ht hn hk hcf hw1 hq hk2
 by_cases hq : s.size < b.size
 ·rw [if_pos hq]
  have d1 : decide ((s.size : Int) < (b.size : Int)) = true := decide_eq_true (by omega)
  have d2 : decide (s.size < b.size) = true := decide_eq_true (by omega)
  clear hq
  go_enter Tryz.func24, Tryz.ntmps24
  go_wp2_with fail
  refine (HT.out _ (HD.out.below (below_alloc (Below.refl _ _) _))).mono ?_
  rintro e w2 ⟨A, c, rfl, hc, hC, hb2⟩
  obtain ⟨c0, c1, c2, c3⟩ := cfg_at hb2
  have HC := Aside0.mk hC
  have HCC := Aside0.mk hc
  have H2 := Aside0.mk (below_step (below_alloc (Below.refl _ _) _) hb2)
  clear hc hC hb2
  go_wp2_with fail
  refine (HL.out _ (HD.out.below H2.out) A c HC.out HCC.out).mono ?_
  rintro e w3 ⟨rfl, hb3⟩
  have H3 := Aside0.mk (below_step H2.out hb3)
  clear hb3
  go_wp2
  go_ret3
  exact ⟨rfl, H3.out⟩
 ·rw [if_neg hq]
  have d1 : decide ((s.size : Int) < (b.size : Int)) = false := decide_eq_false (by omega)
  have d2 : decide (s.size < b.size) = false := decide_eq_false (by omega)
  clear hq
  go_enter Tryz.func24, Tryz.ntmps24
  go_wp2_with fail
  refine (HT.out _ (HD.out.below (below_alloc (Below.refl _ _) _))).mono ?_
  rintro e w2 ⟨A, c, rfl, hc, hC, hb2⟩
  obtain ⟨c0, c1, c2, c3⟩ := cfg_at hb2
  have HC := Aside0.mk hC
  have HCC := Aside0.mk hc
  have H2 := Aside0.mk (below_step (below_alloc (Below.refl _ _) _) hb2)
  clear hc hC hb2
  go_wp2_with fail
  refine (HL.out _ (HD.out.below H2.out) A c HC.out HCC.out).mono ?_
  rintro e w3 ⟨rfl, hb3⟩
  have H3 := Aside0.mk (below_step H2.out hb3)
  clear hb3
  go_wp2
  go_ret3
  exact ⟨rfl, H3.out⟩
end Go.Proofs.YtepgkimlmoikmaaGreat
set_option linter.unusedVariables false
set_option linter.unusedSimpArgs false
namespace Go.Proofs.YtepgkimlmoikmaaGreat
open Go.RowKit Go.Proofs.YtepgkimlmoikmaaGreat.Spec Go.Proofs.YtepgkimlmoikmaaGreatW.PrintWords Go.Proofs.YtepgkimlmoikmaaGreatW.PrintLast
open Go.Proofs.YtepgkimlmoikmaaGreatW.PrintMore
attribute [local go_sem ↓] Go.wp_at_zero Go.wp_at_succ
attribute [local go_sem] max2_int min2_int max_two min_two
theorem layR_pos {l : List ByteArray} (hl : l.length ≤ 100) {q : Int} {toks : List Int} (ht : ∀ t ∈ toks, Tok l t) (hne : toks ≠ []) : 1 ≤ (layR l q toks).size := by
 unfold layR
 split
 ·cases toks with
  | nil => exact absurd rfl hne
  | cons t r =>
   show 1 ≤ (str (num t.toNat ++ nums2 r)).size
   rw [← u_size, u_str, List.length_append]
   have := List.length_pos_iff.2 (num_ne t.toNat)
   omega
 ·obtain ⟨hb, hi⟩ := tok_nat ht
  have hne2 : toks.map Int.toNat ≠ [] := by simpa using hne
  obtain ⟨_, _, _, g4, _⟩ := lensC_right hne2 hb (by omega)
  unfold payC
  rw [ByteArray.size_append, strOfNums_size]
  cases hx : lensC (256 + l.length) (toks.map Int.toNat) with
  | nil => rw [hx, List.length_nil] at g4; omega
  | cons x t =>
   have := (TabMath.enc_sizes t 0 x (by omega)).2.1
   omega
theorem putR_fits {l : List ByteArray} (hl : l.length ≤ 100) (hs : ∀ s ∈ l, 1 ≤ s.size ∧ s.size ≤ 40) (p : Int) {q : Int} {wd : Nat} (hw : 1 ≤ wd) {b : ByteArray} (h1 : 1 ≤ b.size) (hb : b.size ≤ 1024) : fitsR (putR l p q wd b).1 b.size (putR l p q wd b).2.size := by
 obtain ⟨t1, t2, t3, t4⟩ := toks_ok (by omega) hs p hw b (by omega)
 have hp := layR_pos hl (q := q) t2 (t4 h1)
 unfold fitsR putR
 split
 ·exact ⟨⟨h1, hb⟩, hp, .inr ⟨rfl, by assumption⟩⟩
 ·exact ⟨⟨h1, hb⟩, h1, .inl ⟨rfl, rfl⟩⟩
theorem payOk {l : List ByteArray} (hl : l.length ≤ 100) (hs : ∀ s ∈ l, 1 ≤ s.size ∧ s.size ≤ 40) {p q k wd : Nat} (hc : cfgB p q k wd = true) : PayOk l q k (putR l p q wd) := by
 obtain ⟨h2, h3, h4, h5, _⟩ := cfg_bounds hc
 exact ⟨fun b h1 hb => putR_fits hl hs _ h5 h1 (by omega), fun b h1 hb => getR_putR hl hs _ (by omega) h5 h1 (by omega)⟩
theorem putOk {P : Value} {l : List ByteArray} (hl : l.length ≤ 100) (hs : ∀ s ∈ l, 1 ≤ s.size ∧ s.size ≤ 40) {p q k wd : Nat} (hc : cfgB p q k wd = true) (e : En) (he : e.p = p ∧ e.q = q ∧ e.k = k ∧ e.wd = wd) : PutOk P l e (putR l p q wd) := by
 obtain ⟨h2, h3, h4, h5, _⟩ := cfg_bounds hc
 obtain ⟨e1, e2, e3, e4⟩ := he
 refine ⟨fun W b hd h1 hb => ?_, fun b h1 hb => putR_fits hl hs _ h5 h1 (by omega)⟩
 rw [e1, e2, e3, e4]
 have h := put_any (DictN.of hd) hl hs p q k wd hc b h1 (by omega)
 rw [Int.toNat_natCast] at h
 exact h
end Go.Proofs.YtepgkimlmoikmaaGreat
set_option linter.unusedVariables false
set_option linter.unusedSimpArgs false
namespace Go.Proofs.YtepgkimlmoikmaaGreat
open Go.RowKit Go.Proofs.YtepgkimlmoikmaaGreat.Spec Go.Proofs.YtepgkimlmoikmaaGreatW.PrintWords Go.Proofs.YtepgkimlmoikmaaGreatW.PrintLast
open Go.Proofs.YtepgkimlmoikmaaGreatW.PrintMore
attribute [local go_sem ↓] Go.wp_at_zero Go.wp_at_succ
attribute [local go_sem] max2_int min2_int max_two min_two
theorem blkS_small {l : List ByteArray} {q k : Nat} {pay : ByteArray → Nat × ByteArray} (hp : PayOk l q k pay) {b : ByteArray} (h1 : 1 ≤ b.size) (h2 : b.size ≤ k) : (blkS pay b).size ≤ 10 * b.size ∧ 10 ≤ (blkS pay b).size := by
 have hf := hp.fits b h1 h2
 have hz : (blkS pay b).size = 9 + (pay b).2.size := frameS_size _ _ _ _
 unfold fitsR at hf
 omega
theorem blksS_small {l : List ByteArray} {q k : Nat} {pay : ByteArray → Nat × ByteArray} (hp : PayOk l q k pay) : ∀ bs : List ByteArray, (∀ b ∈ bs, 1 ≤ b.size ∧ b.size ≤ k) → (blksS pay bs).size ≤ 10 * (catB bs).size
 | [], _ => Nat.le_refl _
 | b :: r, h => by
  have ih := blksS_small hp r fun x hx => h x (List.mem_cons_of_mem _ hx)
  obtain ⟨h1, h2⟩ := h b (List.mem_cons_self ..)
  have hb := (blkS_small hp h1 h2).1
  rw [blksS, catB, ByteArray.size_append, ByteArray.size_append]
  omega
section
variable {l : List ByteArray} {ad : Addr} {p q k wd : Nat} (hl : l.length ≤ 100) (hs : ∀ s ∈ l, 1 ≤ s.size ∧ s.size ≤ 40) (hc : cfgB p q k wd = true)
include hl hs hc
theorem ebegin_any (e : En) (he : e.p = p ∧ e.q = q ∧ e.k = k ∧ e.wd = wd) (hcl : e.closed = false) (W : World) (g : Nat) (hd : DicF g W (.pointer (some ad)) l) (h : EncAt W g (.pointer (some ad)) e) :
  Calls Tryz.prog 118 #[.pointer (some ⟨g, 0, none⟩)] W fun x w' => x = .returned (.tuple #[.string (if e.begun then ⟨#[]⟩ else headS q k (Idn l)), .nilIface]) ∧ EncAt w' g (.pointer (some ad)) { e with begun := true } ∧ Mv g W w' := by
 obtain ⟨h2, h3, h4, h5, _⟩ := cfg_bounds hc
 obtain ⟨rfl, rfl, rfl, rfl⟩ := he
 cases hb : e.begun with
 | false => exact ebegin_first h hd rfl hl (fun s h => by have := (hs s h).2; omega) hb hcl (by omega) (by omega)
 | true =>
  refine (ebegin_again h rfl hb hcl).mono ?_
  rintro x W' ⟨rfl, rfl⟩
  refine ⟨rfl, ?_, Mv.refl _ _⟩
  rw [show ({ e with begun := true } : En) = e by rw [← hb]]
  exact h
theorem write_st (e : En) (he : e.p = p ∧ e.q = q ∧ e.k = k ∧ e.wd = wd) (hcl : e.closed = false) (b : ByteArray) (hz : e.held.size + b.size ≤ 1000000) (hw : e.written + b.size ≤ 1000000) (W : World) (g : Nat) (hd : DicF g W (.pointer (some ad)) l) (h : EncAt W g (.pointer (some ad)) e) :
  Calls Tryz.prog 53 #[.pointer (some ⟨g, 0, none⟩), .string b] W fun x w' => x = .returned (.tuple #[.string ((if e.begun then ⟨#[]⟩ else headS q k (Idn l)) ++ blksS (putR l p q wd) (chk k (e.held ++ b)).1), .nilIface]) ∧ EncAt w' g (.pointer (some ad)) { e with begun := true, held := (chk k (e.held ++ b)).2, written := e.written + b.size } ∧ Mv g W w' := by
 obtain ⟨h2, h3, h4, h5, _⟩ := cfg_bounds hc
 have hbg := ebegin_any hl hs hc e he hcl W g hd h
 obtain ⟨rfl, rfl, rfl, rfl⟩ := he
 have hh : (if e.begun then (⟨#[]⟩ : ByteArray) else headS e.q e.k (Idn l)).size ≤ 17 := by
  split
  ·exact Nat.zero_le _
  ·rw [headS_size]; exact Nat.le_refl _
 have := write_any (e := e) hbg hd (putOk hl hs hc { e with begun := true } ⟨rfl, rfl, rfl, rfl⟩) (by show 1 ≤ e.k ∧ e.k ≤ 1024; omega) b hz hw hh
 rw [cut_chunk] at this
 exact this
theorem flush_st (e : En) (he : e.p = p ∧ e.q = q ∧ e.k = k ∧ e.wd = wd) (hcl : e.closed = false) (hz : e.held.size ≤ k) (W : World) (g : Nat) (hd : DicF g W (.pointer (some ad)) l) (h : EncAt W g (.pointer (some ad)) e) :
  Calls Tryz.prog 54 #[.pointer (some ⟨g, 0, none⟩)] W fun x w' => x = .returned (.tuple #[.string ((if e.begun then ⟨#[]⟩ else headS q k (Idn l)) ++ blksS (putR l p q wd) (lastB e.held)), .nilIface]) ∧ EncAt w' g (.pointer (some ad)) { e with begun := true, held := ⟨#[]⟩ } ∧ Mv g W w' := by
 obtain ⟨h2, h3, h4, h5, _⟩ := cfg_bounds hc
 have hbg := ebegin_any hl hs hc e he hcl W g hd h
 obtain ⟨e1, e2, e3, e4⟩ := he
 have hh : (if e.begun then (⟨#[]⟩ : ByteArray) else headS q k (Idn l)).size ≤ 17 := by
  split
  ·exact Nat.zero_le _
  ·rw [headS_size]; exact Nat.le_refl _
 have := flush_any (e := e) hbg hd (putOk hl hs hc { e with begun := true } ⟨e1, e2, e3, e4⟩) (by show 1 ≤ e.k ∧ e.k ≤ 1024; omega) (by show e.held.size ≤ e.k; omega) hh
 refine this.mono ?_
 rintro x w' ⟨rfl, h1, h2⟩
 refine ⟨?_, h1, h2⟩
 rw [blks_last]
 dsimp only
 split
 ·rw [ba_append_nil]
 ·rfl
theorem close_st (e : En) (he : e.p = p ∧ e.q = q ∧ e.k = k ∧ e.wd = wd) (hcl : e.closed = false) (hz : e.held.size ≤ k) (hw : e.written ≤ 1000000) (W : World) (g : Nat) (hd : DicF g W (.pointer (some ad)) l) (h : EncAt W g (.pointer (some ad)) e) :
  Calls Tryz.prog 55 #[.pointer (some ⟨g, 0, none⟩)] W fun x w' => x = .returned (.tuple #[.string ((if e.begun then ⟨#[]⟩ else headS q k (Idn l)) ++ (blksS (putR l p q wd) (lastB e.held) ++ endS e.written)), .nilIface]) ∧ EncAt w' g (.pointer (some ad)) { e with begun := true, held := ⟨#[]⟩, closed := true } ∧ Mv g W w' := by
 obtain ⟨h2, h3, h4, h5, _⟩ := cfg_bounds hc
 have hfl := flush_st hl hs hc e he hcl hz W g hd h
 have hbs := blksS_small (payOk hl hs hc) (lastB e.held) (by
  unfold lastB
  intro b hb
  split at hb
  ·cases hb
  ·rw [List.mem_singleton] at hb; subst hb; exact ⟨by omega, hz⟩)
 rw [cat_last] at hbs
 have hh : (if e.begun then (⟨#[]⟩ : ByteArray) else headS q k (Idn l)).size ≤ 17 := by
  split
  ·exact Nat.zero_le _
  ·rw [headS_size]; exact Nat.le_refl _
 have := close_any hfl (by show e.written ≤ 1000000000; omega) (by rw [ByteArray.size_append]; omega)
 rw [ba_assoc] at this
 exact this
end
end Go.Proofs.YtepgkimlmoikmaaGreat
set_option linter.unusedVariables false
set_option linter.unusedSimpArgs false
namespace Go.Proofs.YtepgkimlmoikmaaGreat
open Go.RowKit Go.Proofs.YtepgkimlmoikmaaGreat.Spec Go.Proofs.YtepgkimlmoikmaaGreatW.PrintWords Go.Proofs.YtepgkimlmoikmaaGreatW.PrintLast
open Go.Proofs.YtepgkimlmoikmaaGreatW.PrintMore
attribute [local go_sem ↓] Go.wp_at_zero Go.wp_at_succ
attribute [local go_sem] max2_int min2_int max_two min_two
namespace Spec
def HL (k : Nat) (os : List (Int × ByteArray)) : ByteArray := hA k os os.length
end Spec
end Go.Proofs.YtepgkimlmoikmaaGreat
