/- DictTells: every phrases: whether they may be, and where not; as bytes, and back; each by its id, each id by its phrase; what is handed in stays; lists kept, marked, grown. No condition. -/
import Derived.Test.YtbnoeoghhbhhcaaDictK
set_option linter.unusedVariables false
set_option linter.unusedSimpArgs false
namespace Go.Proofs.Ytbnoeoghhbhhcaa
open Go.RowKit Go.Proofs.Ytbnoeoghhbhhcaa.Spec Go.Proofs.YtbnoeoghhbhhcaaW.PrintWords Go.Proofs.YtbnoeoghhbhhcaaW.PrintLast
open Go.Proofs.YtbnoeoghhbhhcaaW.PrintMore
attribute [local go_sem ↓] Go.wp_at_zero Go.wp_at_succ
namespace Tells
/-- What At, Find, and the document's Find tell. -/
def AtR (k : Int) (l : List ByteArray) (x : ByteArray) (ok : Bool) : Prop := (0 ≤ k ∧ k < l.length ∧ ok = true ∧ x = rdOf ByteArray.empty l k) ∨ (¬ (0 ≤ k ∧ k < l.length) ∧ ok = false ∧ x = ⟨#[]⟩)
theorem at_some {w : World} {p : Value} {l : List ByteArray} (h : DictAt w p l) (k : Int) : Calls Try.prog 21 #[p, .int .i64 k] w fun e w' => ∃ x ok, e = .returned (.tuple #[.string x, .bool ok]) ∧ Aside0 (AtR k l x ok) ∧ w = w' := by
  by_cases hk : 0 ≤ k ∧ k < l.length
  · refine (at_in h k hk.1 hk.2).mono ?_
    rintro e w' ⟨rfl, rfl⟩
    exact ⟨_, _, rfl, ⟨.inl ⟨hk.1, hk.2, rfl, rfl⟩⟩, rfl⟩
  · refine (at_out h k hk).mono ?_
    rintro e w' ⟨rfl, rfl⟩
    exact ⟨_, _, rfl, ⟨.inr ⟨hk, rfl, rfl⟩⟩, rfl⟩
def FindR (s : ByteArray) (l : List ByteArray) (n : Int) (is : Bool) : Prop := (0 ≤ Bridge.fndI s l ∧ is = true ∧ n = Bridge.fndI s l) ∨ (Bridge.fndI s l < 0 ∧ is = false ∧ n = 0)
theorem find_some {w : World} {p : Value} {l : List ByteArray} (h : DictAt w p l) (hl : l.length ≤ 140737488351232) (s : ByteArray) : Calls Try.prog 18 #[p, .string s] w fun e w' => ∃ n is, e = .returned (.tuple #[.int .i64 n, .bool is]) ∧ Aside0 (FindR s l n is) ∧ Below w.heap.size w w' := by
  cases hf : fnd s l with
  | some i =>
    refine (find_is h hl s i hf).mono ?_
    rintro e w' ⟨rfl, hb⟩
    have e1 : Bridge.fndI s l = (i : Int) := by unfold Bridge.fndI; rw [hf]
    exact ⟨_, _, rfl, ⟨.inl ⟨by omega, rfl, e1.symm⟩⟩, hb⟩
  | none =>
    refine (find_not h hl s hf).mono ?_
    rintro e w' ⟨rfl, hb⟩
    have e1 : Bridge.fndI s l = -1 := by unfold Bridge.fndI; rw [hf]
    exact ⟨_, _, rfl, ⟨.inr ⟨by omega, rfl, rfl⟩⟩, hb⟩
theorem ne_new {w w' : World} {base n : Nat} {e e' : TypeId} {vs : List Value} {f : Nat → List Value} {v : Value} {xs : List Value} (K : Book.Kept w base e vs f) (hv : w'.ownsRow w.heap.size e' 1 v n xs) : ∀ (i : Nat) (u : Value), vs[i]? = some u → NeRow u v := by
  intro i u hu b hb hb2
  have h1 := own_lt (K.row i u hu) b hb
  have h2 := own_base hv b hb2
  omega
set_option maxHeartbeats 4000000 in
set_option maxRecDepth 100000 in
theorem yes_law (A : Option Addr) (c : Nat) (l : List ByteArray) (k : Int) (s : ByteArray) (w : World) (hr : StrsIn w A l) (hc : l.length ≤ c) (h16 : l.length * 16 ≤ 140737488351232) (hsz : ∀ s ∈ l, s.size ≤ 140737488351232) (hs : s.size ≤ 100) (hfew : Bridge.few l = true) (hp : (phrases l).1 = 0) :
    Calls Try.prog 9 #[.slice A l.length c, .int .i64 k, .string s] w fun e w' => e = .returned (.bool true) ∧ Below w.heap.size w w' := by
  have HF := Aside0.mk (few_calls l hr hc (by omega) hsz)
  rw [hfew] at HF
  have HR := Aside0.mk hr
  have HC := Aside0.mk hc
  have HZ := Aside0.mk hsz
  have hm := (phrases_ok l).1 hp
  have HM := Aside0.mk hm
  have HL := Aside0.mk hm.1
  have hb : decide ((100 : Int) < (s.size : Int)) = false := decide_eq_false (by omega)
  have HP := Aside0.mk hp
  have HP2 := Aside0.mk (phrases_zero l hp)
  have HT := Aside0.mk (show toldB 0 0 0 0 = true by decide)
  clear hr hc hsz hm hfew hp h16 hs
  go_enter Try.func9, Try.ntmps9
  go_wp2_with fail
  refine HF.out.mono ?_
  rintro e w1 ⟨rfl, hd1⟩
  have H1 := Aside0.mk hd1.below
  clear hd1
  go_wp2_with fail
  refine (alive_any _).mono ?_
  rintro e w2 ⟨rfl, hb2⟩
  have H2 := Aside0.mk (below_step H1.out hb2)
  clear hb2
  go_wp2_with fail
  refine (BookTexts.lent_any l (Kd.C_below HR.out H2.out) HC.out (by have := HL.out; omega)).mono ?_
  rintro e w3 ⟨g, c1, rfl, hle, hb3⟩
  have HLE := Aside0.mk hle
  have H3 := Aside0.mk (below_step H2.out hb3)
  have HG := Aside0.mk (show w.heap.size ≤ g by have := hle.gs.1; have := H2.out.size; omega)
  clear hle hb3
  go_wp2_with fail
  refine (new_from l _ HLE.out.reads.2 HLE.out.reads.1 HZ.out HP.out).mono ?_
  rintro e w4 ⟨ad, rfl, HD, hb4⟩
  have HLE4 := Aside0.mk (HLE.out.below hb4)
  have H4 := Aside0.mk (below_step H3.out hb4)
  have HGS := Aside0.mk HLE.out.gs.2.1
  clear hb4
  go_wp2_with fail
  refine (rphrases_calls l (Kd.C_below HR.out H4.out) HC.out HZ.out).mono ?_
  rw [HP.out, HP2.out]
  rintro e w5 ⟨rfl, hd5⟩
  have HLE5 := Aside0.mk (HLE4.out.below hd5.below)
  have HD5 := Aside0.mk (HD.out.below hd5.below)
  have H5 := Aside0.mk (below_step H4.out hd5.below)
  clear hd5
  go_wp2_with fail
  refine (told_none _).mono ?_
  rintro e w6 ⟨rfl, hb6⟩
  have HLE6 := Aside0.mk (HLE5.out.below hb6)
  have HD6 := Aside0.mk (HD5.out.below hb6)
  have H6 := Aside0.mk (below_step H5.out hb6)
  clear hb6
  go_wp2_with fail
  refine (BookTexts.stays_any l HLE6.out (Kd.C_below HR.out H6.out) HC.out (by have := HL.out; omega)).mono ?_
  rintro e w7 ⟨rfl, hd7⟩
  have HLE7 := Aside0.mk (HLE6.out.below hd7.below)
  have HD7 := Aside0.mk (HD6.out.below hd7.below)
  have H7 := Aside0.mk (below_step H6.out hd7.below)
  clear hd7
  go_wp2_with fail
  have hpre := HLE7.out.pre
  obtain ⟨S, hS⟩ : ∃ S, w3.heap.size = S := ⟨_, rfl⟩
  have hD7 := HD7.out
  have hgs := HGS.out
  rw [hS] at hD7 hgs
  obtain ⟨S2, hS2⟩ : ∃ S2, w2.heap.size = S2 := ⟨_, rfl⟩
  rw [hS2] at hpre
  have HPRE := Aside0.mk hpre
  have HDD := Aside0.mk hD7
  have HGSS := Aside0.mk hgs
  clear hpre hD7 hgs hS hS2
  go_loopw [111] (fun v111 wr => ∃ (i : Nat) (xs : List Value), v111 = .int .i64 i ∧ Aside0 (i ≤ l.length) ∧ Aside0 (wr.ownsRow S2 9 1 (.slice (some ⟨g, 0, none⟩) l.length c1) l.length xs) ∧ Aside0 (xs.length = l.length) ∧ Aside0 (Below w.heap.size w wr) ∧ Aside0 (DictFrom wr S (.pointer (some ad)) l)) (fun v111 _ => l.length - (intOf v111).toNat)
  case atStart => exact ⟨0, _, rfl, ⟨Nat.zero_le _⟩, HPRE, ⟨encs_length l⟩, H7, HDD⟩
  case round =>
    obtain ⟨i, xs, rfl, HI, HX, HXL, HB, HDr⟩ := hrel
    have hi := HI.out
    by_cases hlt : i < l.length
    · have hd0 : decide ((i : Int) < (l.length : Int)) = true := decide_eq_true (by omega)
      have hd0' : decide (i < l.length) = true := decide_eq_true hlt
      have p1 : (0 : Int) ≤ (i : Int) := by omega
      have p2 : (i : Int) < (l.length : Int) := by omega
      have HLT := Aside0.mk hlt
      obtain ⟨y, hy⟩ : ∃ y, xs[i]? = some y := ⟨_, List.getElem?_eq_getElem (by rw [HXL.out]; exact hlt)⟩
      have hcg : wr.cell? ⟨g, i, none⟩ = some y := by
        have := HX.out.cells (g := g) rfl i y hy
        rwa [add_plain] at this
      obtain ⟨cells, hgt⟩ := own_typed HX.out g rfl
      have hfz : wr.frozen? ⟨g, i, none⟩ = false := blk_frozen hgt i
      obtain ⟨o1, o2⟩ := own_put HX.out HXL.out i (.string ⟨#[116, 117, 114, 110, 101, 100]⟩)
      have HO1 := Aside0.mk o1
      have HO2 := Aside0.mk (HDr.out.grown o2 (fun k hk => by injection hk with hk; have := HGSS.out; omega))
      have HO3 := Aside0.mk (HB.out.setCell (p := ⟨g, i, none⟩) HG.out (.string ⟨#[116, 117, 114, 110, 101, 100]⟩))
      clear hi hlt hy hgt o1 o2
      go_wp2
      go_roundw
      case rel =>
        have h1 := HLT.out
        have h2 := HL.out
        exact ⟨i + 1, _, by rw [turned i (by omega)], ⟨by omega⟩, HO1, ⟨by rw [List.length_set]; exact HXL.out⟩, HO3, HO2⟩
      case measure => have h1 := HLT.out; have h2 := HL.out; exact BookTexts.meas _ i h1 (by omega)
    · have hd0 : decide ((i : Int) < (l.length : Int)) = false := decide_eq_false (by omega)
      have hd0' : decide (i < l.length) = false := decide_eq_false hlt
      clear hi hlt
      go_wp2_with fail
      have hl100 := HL.out
      refine (bytes_any HDr.out.dict HL.out (fun s hs => by have := (HM.out.2.1 s hs).2; omega)).mono ?_
      rintro e w8 ⟨rfl, hb8⟩
      have HD8 := Aside0.mk (HDr.out.below hb8)
      have H8 := Aside0.mk (below_step HB.out hb8)
      clear hb8 hl100
      go_wp2_with fail
      refine (at_some HD8.out.dict k).mono ?_
      rintro e w9 ⟨x, ok, rfl, HAT, rfl⟩
      go_wp2_with fail
      refine (find_some HD8.out.dict (by have := HL.out; omega) s).mono ?_
      rintro e w10 ⟨n, is_, rfl, HFI, hb10⟩
      have HD10 := Aside0.mk (HD8.out.below hb10)
      have H10 := Aside0.mk (below_step H8.out hb10)
      clear hb10
      go_wp2_with fail
      refine (rfind_calls l s (Kd.C_below HR.out H10.out) HC.out (by have := HL.out; omega)).mono ?_
      rintro e w11 ⟨rfl, hd11⟩
      have HD11 := Aside0.mk (HD10.out.below hd11.below)
      have H11 := Aside0.mk (below_step H10.out hd11.below)
      clear hd11
      generalize hF : Bridge.fndI s l = F at HFI
      go_upto_region 22 with (fail)
      go_cut [185] (fun v185 wc => v185 = .bool false ∧ wc = w11)
      case first =>
        have hfi := HFI.out
        unfold FindR at hfi
        rw [hF] at hfi
        have hat := HAT.out
        unfold AtR at hat
        clear HFI HAT hF
        rcases hat with ⟨h0, h1, rfl, rfl⟩ | ⟨hn, rfl, rfl⟩
        · obtain ⟨adA, rfl, hcell⟩ := Kd.at_string (Kd.C_below HR.out H11.out) k h0 h1
          have d1 : decide (0 ≤ k) = true := decide_eq_true h0
          have d2 : decide (k < (l.length : Int)) = true := decide_eq_true h1
          rcases hfi with ⟨f0, rfl, rfl⟩ | ⟨f0, rfl, rfl⟩
          · have d3 : decide (0 ≤ n) = true := decide_eq_true f0
            go_wp2
            go_meet
            case rel => exact ⟨rfl, rfl⟩
          · have d3 : decide (0 ≤ F) = false := decide_eq_false (by omega)
            go_wp2
            go_meet
            case rel => exact ⟨rfl, rfl⟩
        · by_cases h0 : 0 ≤ k
          · have d1 : decide (0 ≤ k) = true := decide_eq_true h0
            have d2 : decide (k < (l.length : Int)) = false := decide_eq_false (by omega)
            clear hn
            rcases hfi with ⟨f0, rfl, rfl⟩ | ⟨f0, rfl, rfl⟩
            · have d3 : decide (0 ≤ n) = true := decide_eq_true f0
              go_wp2
              go_meet
              case rel => exact ⟨rfl, rfl⟩
            · have d3 : decide (0 ≤ F) = false := decide_eq_false (by omega)
              go_wp2
              go_meet
              case rel => exact ⟨rfl, rfl⟩
          · have d1 : decide (0 ≤ k) = false := decide_eq_false h0
            clear hn
            rcases hfi with ⟨f0, rfl, rfl⟩ | ⟨f0, rfl, rfl⟩
            · have d3 : decide (0 ≤ n) = true := decide_eq_true f0
              go_wp2
              go_meet
              case rel => exact ⟨rfl, rfl⟩
            · have d3 : decide (0 ≤ F) = false := decide_eq_false (by omega)
              go_wp2
              go_meet
              case rel => exact ⟨rfl, rfl⟩
      case rest =>
        obtain ⟨rfl, rfl⟩ := hcut
        clear hF HFI HAT
        have HBK0 : Aside0 (BookTexts.BookAt (wc.alloc (.cells #[.slice none 0 0, .slice none 0 0, .slice none 0 0, .slice none 0 0, .slice none 0 0, .slice none 0 0, .slice none 0 0, .slice none 0 0, .slice none 0 0, .slice none 0 0] 68)) wc.heap.size wc.heap.size (.slice none 0 0) (.slice none 0 0) [] [] (fun _ => l)) := ⟨BookTexts.BookAt.new wc (Nat.le_refl _)⟩
        have HBW0 := Aside0.mk (below_alloc (Below.refl wc.heap.size wc) (.cells #[.slice none 0 0, .slice none 0 0, .slice none 0 0, .slice none 0 0, .slice none 0 0, .slice none 0 0, .slice none 0 0, .slice none 0 0, .slice none 0 0, .slice none 0 0] 68))
        go_wp2_with fail
        refine (all_any (HD11.out.below HBW0.out).dict (by have := HL.out; omega)).mono ?_
        rintro e w13 ⟨v1, rfl, ho1, hb13⟩
        have HBK1 := Aside0.mk (HBK0.out.below hb13)
        have HBW1 := Aside0.mk (below_step HBW0.out hb13)
        have HO1 := Aside0.mk (own_weaken (Kd.own_of_R ho1) HBW0.out.size)
        clear ho1 hb13
        go_wp2_with fail
        refine (BookTexts.push_any HBK1.out HO1.out (fun i u hu => by simp at hu) HBW1.out HBW1.out.size (by decide) (by have := HL.out; omega)).mono ?_
        rintro e w14 ⟨rfl, t1, t2, wv, hbk, hb14, hs14⟩
        have HBK2 := Aside0.mk hbk
        have HBW2 := Aside0.mk hb14
        clear hbk hb14 hs14
        go_wp2_with fail
        refine (all_any (HD11.out.below HBW2.out).dict (by have := HL.out; omega)).mono ?_
        rintro e w15 ⟨v2, rfl, ho2, hb15⟩
        have HNE := Aside0.mk (ne_new HBK2.out.k1 (Kd.own_of_R ho2))
        have HBK3 := Aside0.mk (HBK2.out.below hb15)
        have HBW3 := Aside0.mk (below_step HBW2.out hb15)
        have HO2 := Aside0.mk (own_weaken (Kd.own_of_R ho2) HBW2.out.size)
        clear ho2 hb15
        go_wp2_with fail
        refine (BookTexts.push_any HBK3.out HO2.out HNE.out HBW3.out HBW3.out.size (by simp) (by have := HL.out; omega)).mono ?_
        rintro e w16 ⟨rfl, t3, t4, wv2, hbk, hb16, hs16⟩
        have HBK4 := Aside0.mk hbk
        have HBW4 := Aside0.mk hb16
        clear hbk hb16 hs16
        go_wp2_with fail
        have HLB := Aside0.mk (load_bytes HM.out)
        refine (load_yes (str (Spec.bytes l)) (by have := bytes_small HM.out; omega) _ (by rw [HLB.out])).mono ?_
        rw [HLB.out]
        rintro e w17 ⟨ad2, rfl, HY, hb17⟩
        have HBK5 := Aside0.mk (HBK4.out.below hb17)
        have HBW5 := Aside0.mk (below_step HBW4.out hb17)
        clear hb17
        go_wp2_with fail
        have HY5 := HY
        refine (rbytes_calls l (Kd.C_below HR.out (below_step H11.out HBW5.out)) HC.out (by have := HL.out; omega) (may_small HM.out.2)).mono ?_
        rintro e w18 ⟨rfl, hb⟩
        have HBK6 := Aside0.mk (HBK5.out.below hb)
        have HBW6 := Aside0.mk (below_step HBW5.out hb)
        have HY6 := Aside0.mk (HY5.out.below hb)
        clear hb
        go_wp2_with fail
        refine (id_any (HD11.out.below HBW6.out).dict HL.out (fun s hs => by have := (HM.out.2.1 s hs).2; omega)).mono ?_
        rintro e w19 ⟨rfl, hb⟩
        have HBK7 := Aside0.mk (HBK6.out.below hb)
        have HBW7 := Aside0.mk (below_step HBW6.out hb)
        have HY7 := Aside0.mk (HY6.out.below hb)
        clear hb
        go_wp2_with fail
        refine (rfnv_calls (str (Spec.bytes l)) (by have := bytes_small HM.out; omega) _).mono ?_
        rw [u_str]
        rintro e w20 ⟨rfl, hd⟩
        have hb := hd.below
        have HBK8 := Aside0.mk (HBK7.out.below hb)
        have HBW8 := Aside0.mk (below_step HBW7.out hb)
        have HY8 := Aside0.mk (HY7.out.below hb)
        clear hb
        go_wp2_with fail
        refine (len_any (HD11.out.below HBW8.out).dict (by have := HL.out; omega)).mono ?_
        rintro e w21 ⟨rfl, hb⟩
        have HBK9 := Aside0.mk (HBK8.out.below hb)
        have HBW9 := Aside0.mk (below_step HBW8.out hb)
        have HY9 := Aside0.mk (HY8.out.below hb)
        clear hb
        go_wp2_with fail
        refine (all_any (HD11.out.below HBW9.out).dict (by have := HL.out; omega)).mono ?_
        rintro e w22 ⟨v5, rfl, ho, hb⟩
        have HBK10 := Aside0.mk (HBK9.out.below hb)
        have HBW10 := Aside0.mk (below_step HBW9.out hb)
        have HY10 := Aside0.mk (HY9.out.below hb)
        obtain ⟨A5, c5, rfl, hc5, hC5⟩ := Kd.R_reads ho
        clear hb
        go_wp2_with fail
        refine (texts_calls l l hC5 hc5 (Kd.C_below HR.out (below_step H11.out HBW10.out)) HC.out (by have := HL.out; omega)).mono ?_
        rw [decide_eq_true (rfl : l = l)]
        rintro e w23 ⟨rfl, hd⟩
        have hb := hd.below
        have HBK11 := Aside0.mk (HBK10.out.below hb)
        have HBW11 := Aside0.mk (below_step HBW10.out hb)
        have HY11 := Aside0.mk (HY10.out.below hb)
        clear hb
        go_wp2_with fail
        refine (all_any HY11.out (by have := HL.out; omega)).mono ?_
        rintro e w24 ⟨v6, rfl, ho6, hb⟩
        have HBK12 := Aside0.mk (HBK11.out.below hb)
        have HBW12 := Aside0.mk (below_step HBW11.out hb)
        have HY12 := Aside0.mk (HY11.out.below hb)
        obtain ⟨A6, c6, rfl, hc6, hC6⟩ := Kd.R_reads ho6
        clear hb
        go_wp2_with fail
        refine (texts_calls l l hC6 hc6 (Kd.C_below HR.out (below_step H11.out HBW12.out)) HC.out (by have := HL.out; omega)).mono ?_
        rw [decide_eq_true (rfl : l = l)]
        rintro e w25 ⟨rfl, hd⟩
        have hb := hd.below
        have HBK13 := Aside0.mk (HBK12.out.below hb)
        have HBW13 := Aside0.mk (below_step HBW12.out hb)
        have HY13 := Aside0.mk (HY12.out.below hb)
        clear hb
        go_wp2_with fail
        refine (id_any HY13.out HL.out (fun s hs => by have := (HM.out.2.1 s hs).2; omega)).mono ?_
        rintro e w26 ⟨rfl, hb⟩
        have HBK14 := Aside0.mk (HBK13.out.below hb)
        have HBW14 := Aside0.mk (below_step HBW13.out hb)
        have HY14 := Aside0.mk (HY13.out.below hb)
        clear hb
        go_wp2_with fail
        refine (id_any (HD11.out.below HBW14.out).dict HL.out (fun s hs => by have := (HM.out.2.1 s hs).2; omega)).mono ?_
        rintro e w27 ⟨rfl, hb⟩
        have HBK15 := Aside0.mk (HBK14.out.below hb)
        have HBW15 := Aside0.mk (below_step HBW14.out hb)
        have HY15 := Aside0.mk (HY14.out.below hb)
        clear hb
        go_wp2_with fail
        refine (BookTexts.apart_any HBK15.out HBW15.out HBW15.out.size (by simp) (fun i hi => ?_)).mono ?_
        · have h2 := HL.out
          simp only [ite_self]
          omega
        rintro e w28 ⟨rfl, hb⟩
        have HFIN := Aside0.mk (below_step H11.out hb)
        clear hb
        go_wp2
        go_ret
        exact ⟨rfl, HFIN.out⟩
end Tells
theorem tells_law (A : Option Addr) (c : Nat) (l : List ByteArray) (k : Int) (s : ByteArray) (w : World) (hr : StrsIn w A l) (hc : l.length ≤ c) (h16 : l.length * 16 ≤ 140737488351232) (hsz : ∀ s ∈ l, s.size ≤ 140737488351232) (hk : (Lit.int .i64 k).wf = true) (hs : s.size ≤ 140737488351232) :
    Calls Try.prog 9 #[.slice A l.length c, .int .i64 k, .string s] w fun e w' => e = .returned (.bool true) ∧ Below w.heap.size w w' := by
  by_cases hf : Bridge.few l = true ∧ s.size ≤ 100
  · by_cases hp : (phrases l).1 = 0
    · exact Tells.yes_law A c l k s w hr hc h16 hsz hf.2 hf.1 hp
    · exact Tells.no_law A c l k s w hr hc h16 hsz hf.2 hf.1 hp
  · exact Tells.few_no A c l k s w hr hc h16 hsz hs hf
end Go.Proofs.Ytbnoeoghhbhhcaa
