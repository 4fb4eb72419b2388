/- ShU: a part of its proof (contracts of the functions that it reaches, and the plain mathematics behind them). -/
import Derived.Test.YtepgkimlmoikmaaGreatShU36
import Derived.Test.YtepgkimlmoikmaaGreatShU38
set_option linter.unusedVariables false
set_option linter.unusedSimpArgs false
set_option maxHeartbeats 2000000
set_option maxRecDepth 100000
set_option linter.unusedVariables false
set_option linter.unusedSimpArgs false
namespace Go.Proofs.YtepgkimlmoikmaaGreat
open Go.RowKit Go.Proofs.YtepgkimlmoikmaaGreat.Spec Go.Proofs.YtepgkimlmoikmaaGreatW.PrintWords Go.Proofs.YtepgkimlmoikmaaGreatW.PrintLast
open Go.Proofs.YtepgkimlmoikmaaGreatW.PrintMore
attribute [local go_sem ↓] Go.wp_at_zero Go.wp_at_succ
attribute [local go_sem] max2_int min2_int max_two min_two
open Pk
theorem strOf_nat (l : List Nat) : strOfNums (intN l) = str (l.map UInt8.ofNat) := by
 unfold strOfNums intN str
 rw [List.map_map]
 rfl
theorem u8V_encs (l : List Nat) : u8V l = (intN l).map (Value.int .u8) := by unfold u8V intN; rw [List.map_map]; rfl
theorem WrAt.below {w w1 : World} {H : Nat} {B : List Nat} (h : WrAt w H B) (hb : Below w.heap.size w w1) : WrAt w1 H B := by
 obtain ⟨v, h1, h2⟩ := h.obj
 exact ⟨h.bits, v, blk_below h1 hb, own_below h2 hb⟩
theorem wbytes_any {H : Nat} {B : List Nat} {w : World} (hw : WrAt w H B) : Calls Tryz.prog 153 #[.pointer (some ⟨H, 0, none⟩)] w fun e w' => e = .returned (.string (str ((bytesB B).map UInt8.ofNat))) ∧ Below w.heap.size w w' := by
 obtain ⟨v, hobj, hown⟩ := hw.obj
 obtain ⟨A, cp, rfl⟩ := own_slice hown
 have k0 : w.cell? ⟨H, 0, none⟩ = some (.slice A ((B.length + 7) / 8) cp) := blk_cell hobj 0
 have hl : (intN (bytesB B)).length = (B.length + 7) / 8 := by rw [intN_len, bytesB_len]
 have hR : (Kd.int .u8).R 5 w (H + 1) (fun _ => True) (.slice A ((B.length + 7) / 8) cp) (intN (bytesB B)) := Kd.R_of_own (by rw [hl]; rw [u8V_encs] at hown; exact hown) (fun _ _ => trivial)
 have hcv := string_of_reads (P := Tryz.prog) (c := cp) Tryz.underlying55 Tryz.underlying5 Tryz.underlying9 (Kd.reads_of_C (enc := Value.int .u8) (d := (0 : Int)) (h1 := fun _ => rfl) (Kd.R_reads' hR).2.2)
 rw [strOf_nat, hl] at hcv
 clear hobj hown hR hl
 go_enter Tryz.func153, Tryz.ntmps153
 go_wp2_with fail
 go_ret
 exact ⟨rfl, Below.refl _ _⟩
theorem cput_any {s m : Nat} {A1 A2 : Option Addr} {c1 c2 : Nat} {L : List Int} (B : List Nat) {wp w : World} (hw : WrAt w wp.heap.size B) (hbp : Below wp.heap.size wp w) (hr1 : IntsIn wp A1 L) (hr2 : IntsIn wp A2 (codesL L)) (hc1 : L.length ≤ c1) (hc2 : L.length ≤ c2) (hL : L.length ≤ 356) (hk : kraftL L ≤ 32768) (hs : L[s]? = some (m : Int)) (h1 : 1 ≤ m) (h2 : m ≤ 15) (hB : B.length ≤ 1000000) :
  Calls Tryz.prog 152 #[.pointer (some ⟨wp.heap.size, 0, none⟩), .slice A1 L.length c1, .slice A2 L.length c2, .int .i64 (s : Int)] w fun e w' => e = .returned (.bool true) ∧ WrAt w' wp.heap.size (B ++ codeB L s) ∧ Below wp.heap.size w w' := by
 obtain ⟨hlt, hel⟩ := List.getElem?_eq_some_iff.1 hs
 have HP := Aside0.mk (fun (W : World) (h : WrAt W wp.heap.size B) => wput_any (c := codN L s) (n := m) B h ⟨h1, h2⟩ (codN_pow hk hs h1 h2) hB)
 have HW := Aside0.mk hw
 have HBP := Aside0.mk hbp
 have hcs : (codesL L)[s]? = some ((codN L s : Nat) : Int) := by rw [codN_cast hs h1 h2]; unfold codesL; rw [List.getElem?_map, List.getElem?_range hlt]; rfl
 have hrd1 : rd L (s : Int) = (m : Int) := by rw [rd_at L s hlt, hel]
 have hrd2 : rd (codesL L) (s : Int) = ((codN L s : Nat) : Int) := by unfold rd; rw [Int.toNat_natCast, List.getD_eq_getElem?_getD, hcs]; rfl
 have p1 : (0 : Int) ≤ (s : Int) := by omega
 have p2 : (s : Int) < (L.length : Int) := by omega
 obtain ⟨a1, rfl, y1⟩ := Kd.at_int hr1 (s : Int) p1 p2
 obtain ⟨a2, rfl, y2⟩ := Kd.at_int hr2 (s : Int) p1 (by rw [codesL_len]; exact p2)
 rw [hrd1, Int.toNat_natCast] at y1
 rw [hrd2, Int.toNat_natCast] at y2
 have x1 := pw_cell_below hbp y1
 have x2 := pw_cell_below hbp y2
 have HY := Aside0.mk (And.intro y1 y2)
 have HE : codeB L s = bitsOf (codN L s) m := by unfold codeB; rw [List.getD_eq_getElem?_getD, hs]; rfl
 rw [HE]
 generalize codN L s = cn at *
 have d0 : decide ((s : Int) < 0) = false := decide_eq_false (by omega)
 have d1 : decide ((L.length : Int) ≤ (s : Int)) = false := decide_eq_false (by omega)
 have d1' : decide (L.length ≤ s) = false := decide_eq_false (by omega)
 have d2 : decide ((m : Int) < 1) = false := decide_eq_false (by omega)
 have d2' : decide (m < 1) = false := decide_eq_false (by omega)
 have d3 : decide ((15 : Int) < (m : Int)) = false := decide_eq_false (by omega)
 have d3' : decide (15 < m) = false := decide_eq_false (by omega)
 clear hw hr1 hr2 hL hk hs hB hlt hel hcs hrd1 hrd2 HE h1 h2 y1 y2 hbp
 go_enter Tryz.func152, Tryz.ntmps152
 go_wp2_with fail
 go_region_held3 (fun w' => w'.cell? (a1.add s) = some (.int .i64 (m : Int)) ∧ w'.cell? (a2.add s) = some (.int .i64 (cn : Int)))
  (first | exact ⟨x1, x2⟩ | exact ⟨pw_cell_below HZ.out.2.2 HY.out.1, pw_cell_below HZ.out.2.2 HY.out.2⟩)
  ((go_at_call 196; refine (HP.out _ (HW.out.below (by repeat (first | exact Below.refl _ _ | apply below_drew | apply pw_below_drewN)))).mono ?_; rintro e w1 ⟨rfl, hw1, hb1⟩; have HZ := Aside0.mk (And.intro hw1 (And.intro hb1 (Below.trans (below_drew1 HBP.out) hb1))); clear hw1 hb1))
 go_wp2_with fail
 go_ret
 exact ⟨rfl, HZ.out.1, (below_drew1 (Below.refl _ _)).trans HZ.out.2.1⟩
theorem tput_calls {A : Option Addr} {c : Nat} (L : List Int) {w : World} (hr : IntsIn w A L) (hc : L.length ≤ c) (hl : L.length ≤ 356) (h6 : TabMath.AllSixt L) : Calls Tryz.prog 151 #[.slice A L.length c] w fun e w' => e = .returned (.tuple #[.string (strOfNums (TabMath.enc 0 L)), .bool true]) ∧ Below w.heap.size w w' := by
 have he := TabB.put_ev L
 unfold TabB.putS at he
 rw [if_pos ⟨hl, h6⟩] at he
 obtain ⟨k, hk⟩ := he.rounds
 exact Leaf.tab_Put.calls k A c L _ _ w hr hc hk
theorem lensC_right {m : Nat} {ns : List Nat} (hne : ns ≠ []) (hb : ∀ s ∈ ns, s < m) (hm : m ≤ 356) :
  cright (lensC m ns) = 0 ∧ kraftL (lensC m ns) ≤ 32768 ∧ Coded (lensC m ns) ns ∧ (lensC m ns).length = m ∧ sgl 0 (cntN m ns) ≠ [] := lens_right hne hb hm
theorem wr_new (w : World) : WrAt (w.alloc (.cells #[.slice none 0 0, .int .i64 0] 208)) w.heap.size [] := by
 refine ⟨fun x hx => (by cases hx), .slice none 0 0, blk_new w _, ?_⟩
 exact ⟨rfl, .inl ⟨rfl, rfl⟩⟩
theorem codes_any {A : Option Addr} {c : Nat} {p : Value} {l : List ByteArray} (toks : List Int) {w : World} (hd : DictN w p l) (hl : l.length ≤ 100) (hr : IntsIn w A toks) (hc : toks.length ≤ c) (hn : toks.length ≤ 2000) (h0 : toks ≠ []) (ht : ∀ t ∈ toks, Tok l t) :
  Calls Tryz.prog 99 #[p, .slice A toks.length c] w fun e w' => e = .returned (.string (payC (256 + l.length) (toks.map Int.toNat))) ∧ Below w.heap.size w w' := by
 obtain ⟨hb, hi⟩ := tok_nat ht
 have hne : toks.map Int.toNat ≠ [] := by simpa using h0
 have hlen : (toks.map Int.toNat).length = toks.length := List.length_map ..
 obtain ⟨g1, g2, g3, g4, g5⟩ := lensC_right hne hb (by omega)
 have h6 : TabMath.AllSixt (lensC (256 + l.length) (toks.map Int.toNat)) := fun x hx => (cright_pos g1).2 x hx
 have hcz := codesB_len g3
 have HZ := Aside0.mk (And.intro hcz.1 hlen)
 have HALL := Aside0.mk (all_calls hd (by omega))
 have HHO := Aside0.mk (fun (W : World) (h : IntsIn W A toks) => hof_any (c2 := c) (m := 256 + l.length) (A := A) (toks.map Int.toNat) (w := W) (by rw [hi]; exact h) (by omega) (by omega) hb (by omega))
 rw [hlen] at HHO
 have HLE := Aside0.mk (fun (W : World) (g c' : Nat) (h : RowN W g (cntN (256 + l.length) (toks.map Int.toNat))) (hc' : 256 + l.length ≤ c') => lensOf_any (A := some ⟨g, 0, none⟩) (c := c') (cntN (256 + l.length) (toks.map Int.toNat)) (h.ints (by rw [cntN_len]; omega)) (by rw [cntN_len]; omega) (by rw [cntN_len]; omega) (fun x hx => by
  obtain ⟨s, _, rfl⟩ := List.mem_map.1 hx
  have := List.count_le_length (a := s) (l := toks.map Int.toNat)
  omega) g5)
 rw [cntN_len] at HLE
 change Aside0 (∀ (W : World) (g c' : Nat), _ → _ → Calls Tryz.prog 149 _ W fun e w' => ∃ g, _ ∧ _ ∧ RowI w' g (lensC (256 + l.length) (toks.map Int.toNat)) ∧ _) at HLE
 have HPAY : Aside0 (payC (256 + l.length) (toks.map Int.toNat) = strOfNums (TabMath.enc 0 (lensC (256 + l.length) (toks.map Int.toNat))) ++ bytC (lensC (256 + l.length) (toks.map Int.toNat)) (toks.map Int.toNat)) := ⟨rfl⟩
 have hz1 := strOfNums_size (TabMath.enc 0 (lensC (256 + l.length) (toks.map Int.toNat)))
 have hz3 := bytC_size (lensC (256 + l.length) (toks.map Int.toNat)) (toks.map Int.toNat)
 have hez : (TabMath.enc 0 (lensC (256 + l.length) (toks.map Int.toNat))).length ≤ 356 := by
  have hl4 : (lensC (256 + l.length) (toks.map Int.toNat)).length ≤ 356 := by rw [g4]; omega
  cases hx : lensC (256 + l.length) (toks.map Int.toNat) with
  | nil => exact Nat.zero_le _
  | cons x t =>
   have := (TabMath.enc_sizes t 0 x (by omega)).1
   rw [hx, List.length_cons] at hl4
   omega
 rw [HPAY.out]
 have HCO := Aside0.mk (fun (W : World) (g c' : Nat) (h : IntsIn W (some ⟨g, 0, none⟩) (lensC (256 + l.length) (toks.map Int.toNat))) => codeof_yes (c := c') (lensC (256 + l.length) (toks.map Int.toNat)) h)
 have HTP := Aside0.mk (fun (W : World) (g c' : Nat) (h : IntsIn W (some ⟨g, 0, none⟩) (lensC (256 + l.length) (toks.map Int.toNat))) (hc' : (lensC (256 + l.length) (toks.map Int.toNat)).length ≤ c') => tput_calls (c := c') (lensC (256 + l.length) (toks.map Int.toNat)) h hc' (by omega) h6)
 have HG := Aside0.mk (And.intro g1 (And.intro g2 (And.intro g3 g4)))
 have HR := Aside0.mk hr
 have HT := Aside0.mk (And.intro hc (And.intro hn (And.intro hi hb)))
 have HBY : Aside0 (∀ (W : World) (H : Nat), WrAt W H (codesB (lensC (256 + l.length) (toks.map Int.toNat)) (toks.map Int.toNat)) → Calls Tryz.prog 153 #[.pointer (some ⟨H, 0, none⟩)] W fun e w' => e = .returned (.string (bytC (lensC (256 + l.length) (toks.map Int.toNat)) (toks.map Int.toNat))) ∧ Below W.heap.size W w') := ⟨fun W H h => wbytes_any h⟩
 rw [← hlen] at hn
 generalize lensC (256 + l.length) (toks.map Int.toNat) = L at *
 have hu : ¬ 9223372036854775807 < (strOfNums (TabMath.enc 0 L)).size + (bytC L (toks.map Int.toNat)).size := by omega
 generalize strOfNums (TabMath.enc 0 L) = O1 at *
 generalize bytC L (toks.map Int.toNat) = O2 at *
 have hL : L.length = 256 + l.length := g4
 have zm : 256 + l.length ≤ 356 := by omega
 rw [hL] at HCO HTP
 clear hd hl hr hc hn h0 ht hb hi hne hlen g1 g2 g3 g4 g5 h6 hcz hz1 hz3 hez HPAY
 generalize 256 + l.length = m at *
 go_enter Tryz.func99, Tryz.ntmps99
 go_wp2_with fail
 refine HALL.out.mono ?_
 rintro e w1 ⟨rfl, hb1⟩
 have B1 := Aside0.mk hb1
 clear hb1
 go_wp2_with fail
 refine (HHO.out _ (Kd.C_below HR.out B1.out)).mono ?_
 rintro e w2 ⟨g1, c1, rfl, hg1, hc1, hrow1, hb2⟩
 have B2 := Aside0.mk (below_step B1.out hb2)
 have R1 := Aside0.mk (And.intro hrow1 hc1)
 clear hg1 hc1 hrow1 hb2
 go_wp2_with fail
 refine (HLE.out _ g1 c1 R1.out.1 R1.out.2).mono ?_
 rintro e w3 ⟨g, rfl, hg, hrow2, hb3⟩
 have B3 := Aside0.mk (below_step B2.out hb3)
 have I3 := Aside0.mk (hrow2.ints (by omega))
 clear hg hrow2 hb3
 go_wp2_with fail
 refine (HCO.out _ g m I3.out (Nat.le_refl _) (by omega) HG.out.1).mono ?_
 rintro e w4 ⟨g2, rfl, hrow3, hg2, hb4⟩
 have B4 := Aside0.mk (below_step B3.out hb4)
 have I4 := Aside0.mk (Kd.C_below I3.out hb4)
 have J4 := Aside0.mk (hrow3.ints (by rw [codesL_len]; omega))
 clear hg2 hrow3 hb4
 go_wp2_with fail
 refine (HTP.out _ g m I4.out (Nat.le_refl _)).mono ?_
 rintro e w5 ⟨rfl, hb5⟩
 have B5 := Aside0.mk (below_step B4.out hb5)
 have I5 := Aside0.mk (Kd.C_below I4.out hb5)
 have J5 := Aside0.mk (Kd.C_below J4.out hb5)
 clear hb5
 have W5 := Aside0.mk (wr_new w5)
 go_wp2_with fail
 go_loopw [40] (fun v40 wx => ∃ j : Nat, v40 = .int .i64 (j : Int) ∧ Aside0 (j ≤ toks.length) ∧ Aside0 (WrAt wx w5.heap.size (codesB L ((toks.map Int.toNat).take j))) ∧ Aside0 (Below w5.heap.size w5 wx)) (fun v40 _ => toks.length - (intOf v40).toNat)
 case atStart => exact ⟨0, rfl, ⟨Nat.zero_le _⟩, W5, ⟨below_alloc (Below.refl _ _) _⟩⟩
 case round =>
  obtain ⟨j, rfl, HJ, HW, HB⟩ := hrel
  have hj := HJ.out
  have zn : toks.length ≤ 2000 := HT.out.2.1
  by_cases hjn : j < toks.length
  ·have e1 : decide ((j : Int) < (toks.length : Int)) = true := decide_eq_true (by omega)
   have e2 : decide (j < toks.length) = true := decide_eq_true hjn
   have p1 : (0 : Int) ≤ (j : Int) := by omega
   have p2 : (j : Int) < (toks.length : Int) := by omega
   obtain ⟨ad, rfl, hcell⟩ := Kd.at_int (Kd.C_below HR.out (below_step B5.out HB.out)) (j : Int) p1 p2
   obtain ⟨t, hget⟩ : ∃ t, toks[j]? = some t := ⟨_, List.getElem?_eq_getElem hjn⟩
   have hrd : rd toks (j : Int) = t := by unfold rd; rw [Int.toNat_natCast, List.getD_eq_getElem?_getD, hget]; rfl
   rw [hrd, Int.toNat_natCast] at hcell
   have hget2 : (toks.map Int.toNat)[j]? = some t.toNat := by rw [List.getElem?_map, hget]; rfl
   have hti : t = (t.toNat : Int) := by
    have h : (intN (toks.map Int.toNat))[j]? = toks[j]? := by rw [HT.out.2.2.1]
    unfold intN at h
    rw [hget, List.getElem?_map, hget2] at h
    exact (Option.some.inj h).symm
   obtain ⟨mm, hm1, hm2, hm3⟩ := HG.out.2.2.1 t.toNat (List.mem_of_getElem? hget2)
   have HTK : Aside0 (codesB L ((toks.map Int.toNat).take (j + 1)) = codesB L ((toks.map Int.toNat).take j) ++ codeB L t.toNat) := ⟨by rw [List.take_add_one, hget2, codesB_app, ← codesB_one]; rfl⟩
   have hcl := (codesB_len (l := L) (ns := (toks.map Int.toNat).take j) fun s hs => HG.out.2.2.1 s (List.mem_of_mem_take hs)).1
   rw [List.length_take] at hcl
   have HCP := Aside0.mk (cput_any (c1 := m) (c2 := m) (codesB L ((toks.map Int.toNat).take j)) HW.out HB.out I5.out J5.out (by omega) (by omega) (by omega) HG.out.2.1 hm1 hm2 hm3 (by omega))
   rw [hti] at hcell
   generalize t.toNat = tn at *
   have HJN := Aside0.mk hjn
   clear hj hjn hrd hget hget2 hti hm1 hm2 hm3 hcl
   rw [hL] at HCP
   go_wp2_with fail
   refine HCP.out.mono ?_
   rintro e w6 ⟨rfl, hw6, hb6⟩
   have W6 := Aside0.mk hw6
   have B6 := Aside0.mk (HB.out.trans hb6)
   clear hw6 hb6
   go_wp2_with fail
   go_roundw
   case rel =>
    have h1 := HJN.out
    exact ⟨j + 1, rfl, ⟨h1⟩, ⟨by rw [HTK.out]; exact W6.out⟩, B6⟩
   case measure => have h1 := HJN.out; exact measI _ j h1
  ·have hje : j = toks.length := by omega
   subst hje
   have e1 : decide ((toks.length : Int) < (toks.length : Int)) = false := decide_eq_false (by omega)
   have e2 : decide (toks.length < toks.length) = false := decide_eq_false (by omega)
   have HFI := HW.out
   rw [List.take_of_length_le (by rw [List.length_map]; exact Nat.le_refl _)] at HFI
   have HF := Aside0.mk HFI
   clear hj hjn HFI
   go_wp2_with fail
   refine (HBY.out _ _ HF.out).mono ?_
   rintro e w7 ⟨rfl, hb7⟩
   have B7 := Aside0.mk (below_step B5.out (below_step HB.out hb7))
   clear hb7
   go_wp2_with fail
   go_ret
   exact ⟨rfl, B7.out⟩
end Go.Proofs.YtepgkimlmoikmaaGreat
