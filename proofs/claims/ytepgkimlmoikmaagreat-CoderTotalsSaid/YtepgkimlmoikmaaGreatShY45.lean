/- ShY: a part of its proof (contracts of the functions that it reaches, and the plain mathematics behind them). -/
import Derived.Test.YtepgkimlmoikmaaGreatShY42
import Derived.Test.YtepgkimlmoikmaaGreatShY44
import Derived.Deep.DeepCutAuto
set_option linter.unusedVariables false
set_option linter.unusedSimpArgs false
set_option maxHeartbeats 2000000
set_option maxRecDepth 100000
set_option linter.unusedVariables false
set_option linter.unusedSimpArgs false
namespace Go.Proofs.YtepgkimlmoikmaaGreat
open Go.RowKit Go.Proofs.YtepgkimlmoikmaaGreat.Spec Go.Proofs.YtepgkimlmoikmaaGreatW.PrintWords Go.Proofs.YtepgkimlmoikmaaGreatW.PrintLast
open Go.Proofs.YtepgkimlmoikmaaGreatW.PrintMore
attribute [local go_sem ↓] Go.wp_at_zero Go.wp_at_succ
attribute [local go_sem] max2_int min2_int max_two min_two
namespace Spec
end Spec
theorem TabAt.mv {w w1 : World} {T : Nat → Int} {g : Nat} (h : TabAt w T) (hm : Mv g w w1) (hg : g ≠ 0) : TabAt w1 T := fun i hi => by
 have h1 := h i hi
 rw [← h1]
 have hlt : 0 < w.heap.size := by
  rcases Nat.lt_or_ge 0 w.heap.size with q | q
  ·exact q
  ·exfalso
   have : w.heap[0]? = none := Array.getElem?_eq_none q
   simp [World.cell?, this] at h1
 have h2 := hm.block 0 hlt (fun e => hg e.symm)
 simp only [World.cell?, h2]
theorem scan_held (l : List ByteArray) (how : Int) (blk : Nat) (B : ByteArray) (a : Nat) (out : ByteArray) (ha : a ≤ B.size) (hc : (scanF l how blk B a out).code = 0) : B.size - (scanF l how blk B a out).at_ ≤ 1032 := by
 obtain ⟨h1, h2, h3, h4, h5⟩ := scan_app l how blk B ⟨#[]⟩ B.size a out ha (by omega)
 cases hd : (scanF l how blk B a out).done with
 | false =>
  obtain ⟨_, h6⟩ := h4 hc hd
  have := frame_held _ _ h6
  rw [ext_all] at this
  exact this
 | true =>
  obtain ⟨h6, _⟩ := h5 hc hd
  omega
theorem full_held {l : List ByteArray} {B : ByteArray} (h17 : 17 ≤ B.size) (hc : (full l B).code = 0) : B.size - (full l B).at_ ≤ 1032 := by
 by_cases he : (headR B).e = 0
 ·by_cases hi : ((headR B).id : Int) = Idv l
  ·rw [full_ok h17 he hi] at hc ⊢
   exact scan_held l _ _ B 17 _ h17 hc
  ·rw [full_id h17 he hi] at hc
   exact absurd hc (show ¬ (6 : Int) = 0 by decide)
 ·rw [full_bad h17 he] at hc
  exact absurd (Int.natCast_eq_zero.1 hc) he
theorem rel_held {l : List ByteArray} {B : ByteArray} {d : D} (h : Rel l B d) : d.held.size ≤ 1032 := by
 by_cases hc : (full l B).code = 0
 ·rw [h.1 hc]
  unfold dOk
  by_cases h17 : B.size < 17
  ·rw [if_pos h17]; show B.size ≤ 1032; omega
  ·rw [if_neg h17]
   show (B.extract _ B.size).size ≤ 1032
   rw [ext_all]
   exact full_held (by omega) hc
 ·rw [(h.2 hc).2.2]
  exact Nat.zero_le _
theorem method_err (x y : Int) (w : World) : (method 407 152 (.agg #[.int .i64 x, .int .i64 y]) "Error").run Tryz.prog w = .ok (249, .agg #[.int .i64 x, .int .i64 y]) w := by kernel_rfl
def sizeOfV (v : Value) : Nat := match v with | .string s => s.size | _ => 0
theorem ext_tail (B : ByteArray) (i j : Nat) (h : i ≤ j) : (B.extract i B.size).extract (j - i) (B.extract i B.size).size = B.extract j B.size := by
 apply u_inj
 rw [u_ext, u_ext, u_ext, ext_all]
 have h1 : (List.drop i (u B)).take (B.size - i) = List.drop i (u B) := List.take_of_length_le (by rw [List.length_drop, u_size]; omega)
 rw [h1, List.drop_drop, show i + (j - i) = j by omega, List.take_of_length_le (by rw [List.length_drop, u_size]; omega), List.take_of_length_le (by rw [List.length_drop, u_size]; omega)]
theorem ext_head (B : ByteArray) (i j : Nat) (h : i ≤ j) (hj : j ≤ B.size) : (B.extract i B.size).extract 0 (j - i) = B.extract i j := by
 apply u_inj
 rw [u_ext, u_ext, u_ext]
 have h1 : (List.drop i (u B)).take (B.size - i) = List.drop i (u B) := List.take_of_length_le (by rw [List.length_drop, u_size]; omega)
 rw [h1, List.drop_zero, Nat.sub_zero]
theorem feed24_any {w : World} {ad : Addr} {l : List ByteArray} (hd : DictAt w (.pointer (some ad)) l) (hl : l.length ≤ 100) (hs : ∀ s ∈ l, 1 ≤ s.size ∧ s.size ≤ 40) (B : ByteArray) (hB : B.size ≤ 8000) {A : Option Addr} {cc : Nat} (cs : List Int) (hcs : IntsIn w A cs) (hcc : cs.length ≤ cc) (hcl : cs.length ≤ 100000) {T : Nat → Int} (hT : TabAt w T) :
  Calls Tryz.prog 63 #[.pointer (some ad), .string B, .slice A cs.length cc] w fun e w' => e = .returned (.tuple #[.string (full l B).out, errV (finC (full l B)) ((full l B).at_ : Int), .bool true]) ∧ Below w.heap.size w w' := by
 have HD := Aside0.mk hd
 have HND := Aside0.mk (newdec_calls (P := .pointer (some ad)) rfl w)
 have HFE := Aside0.mk (fun (W : World) (g i j : Nat) (d : D) (h : DecAt W g (.pointer (some ad)) d) (hdi : DicF g W (.pointer (some ad)) l) (hr : Rel l (B.extract 0 i) d) (hij : i ≤ j) (hj : j ≤ B.size) => feed_any h hdi rfl hl hs hr (B.extract i j) (by rw [ext_step B i j hij hj, ext_sz _ _ _ hj]; omega))
 have HER := Aside0.mk (fun (c : Int) (u : Nat) (hu : u ≤ 8000) => error_any T c u (by omega))
 have HTA := Aside0.mk hT
 have HCS := Aside0.mk hcs
 have HB := Aside0.mk (And.intro hB (And.intro hcc hcl))
 have HLS := Aside0.mk (And.intro hl hs)
 have hme := method_err
 clear hd hl hs hB hcs hcc hcl hT
 go_enter Tryz.func63, Tryz.ntmps63
 go_wp2_with fail
 refine HND.out.mono ?_
 rintro e w1 ⟨rfl, hx, hb1⟩
 have X1 := Aside0.mk hx
 have B1 := Aside0.mk hb1
 have F1 := Aside0.mk (DicF.of HD.out hb1 (Nat.le_refl _))
 have G1 : Aside0 (w.heap.size ≠ 0) := ⟨fun e => by
  have h := HTA.out 0 (by decide)
  have h2 : w.heap[0]? = none := Array.getElem?_eq_none (Nat.le_of_eq e)
  simp [World.cell?, h2] at h⟩
 have G2 : Aside0 (w.heap.size ≤ w.heap.size) := ⟨Nat.le_refl _⟩
 have T1 := Aside0.mk (HTA.out.below hb1)
 clear hb1 hx
 generalize hg : w.heap.size = g at X1 F1 G1 G2 ⊢
 have HG : Aside0 (w.heap.size ≤ g) := ⟨Nat.le_of_eq hg⟩
 go_wp2_with fail
 go_loopw [1, 11, 12, 13] (fun v1 v11 v12 v13 wr => ∃ (a i : Nat) (d : D), v1 = .string (B.extract a B.size) ∧ v11 = .string (full l (B.extract 0 a)).out ∧ v12 = errV (full l (B.extract 0 a)).code ((full l (B.extract 0 a)).at_ : Int) ∧ v13 = .int .i64 (i : Int) ∧ Aside0 (a ≤ B.size ∧ i ≤ cs.length + 1 ∧ (a < B.size → i ≤ cs.length)) ∧ Aside0 (DecAt wr g (.pointer (some ad)) d) ∧ Aside0 (Rel l (B.extract 0 a) d) ∧ Aside0 (Mv g w1 wr)) (fun v1 _ _ v13 _ => if sizeOfV v1 = 0 then 0 else cs.length + 1 - (intOf v13).toNat)
 case atStart =>
  refine ⟨0, 0, dNew, by rw [ext_zero], by rw [ext_none, full_short (by decide)], ?_, rfl, ⟨Nat.zero_le _, by omega, fun _ => Nat.zero_le _⟩, X1, ⟨by rw [ext_none]; exact rel_new l⟩, ⟨Mv.refl _ _⟩⟩
  rw [ext_none, full_short (by decide)]
  rfl
 case round =>
  obtain ⟨a, i, d, rfl, rfl, rfl, rfl, HI, HX, HRl, HM⟩ := hrel
  obtain ⟨i1, i2, i3⟩ := HI.out
  obtain ⟨y1, y2, y3⟩ := HB.out
  by_cases ha : a < B.size
  ·obtain ⟨b, hb⟩ : ∃ b, b = B.extract a B.size := ⟨_, rfl⟩
   have hbs : b.size = B.size - a := by rw [hb, ext_all]
   have z1 : b.toList.isEmpty = false := not_nil2 (by omega)
   have HBX := Aside0.mk (And.intro hb hbs)
   have i4 := i3 ha
   have zi : (i : Int) ≤ 100000 := by omega
   have zb : (b.size : Int) ≤ 8000 := by omega
   rw [← hb]
   have HA := Aside0.mk (And.intro ha i4)
   clear hb hbs i1 i2 i3 i4 ha y1 y2 y3 HI
   go_upto_region 10 with fail
   go_cut [39] (fun c wx => ∃ r : Bool, c = .bool r ∧ Aside0 (r = true ↔ i < cs.length) ∧ Aside0 (DecAt wx g (.pointer (some ad)) d) ∧ Aside0 (Mv g w1 wx))
   case first =>
    by_cases hi : i < cs.length
    ·have d1 : decide ((i : Int) < (cs.length : Int)) = true := decide_eq_true (by omega)
     have d2 : decide (i < cs.length) = true := decide_eq_true hi
     have HI := Aside0.mk hi
     clear hi
     go_wp2_with fail
     go_meet
     exact ⟨true, rfl, ⟨⟨fun _ => HI.out, fun _ => rfl⟩⟩, HX, HM⟩
    ·have d1 : decide ((i : Int) < (cs.length : Int)) = false := decide_eq_false (by omega)
     have d2 : decide (i < cs.length) = false := decide_eq_false hi
     have HI := Aside0.mk hi
     clear hi
     go_wp2_with fail
     go_meet
     exact ⟨false, rfl, ⟨⟨fun h => Bool.noConfusion h, fun h => absurd h HI.out⟩⟩, HX, HM⟩
   case rest =>
    obtain ⟨r, rfl, HR, HX, HM⟩ := hcut
    go_upto_if 39 with fail
    go_cut [14] (fun c wx => ∃ N : Nat, c = .int .i64 (N : Int) ∧ Aside0 (N ≤ b.size ∧ (¬ i < cs.length → N = b.size)) ∧ Aside0 (DecAt wx g (.pointer (some ad)) d) ∧ Aside0 (Mv g w1 wx))
    case first =>
     have hq := HR.out
     cases r with
     | true =>
      have hi := hq.1 rfl
      have HB2 := Aside0.mk (HM.out.low B1.out HG.out)
      have p1 : (0 : Int) ≤ (i : Int) := by omega
      have p2 : (i : Int) < (cs.length : Int) := by omega
      obtain ⟨ad2, rfl, hcell⟩ := Kd.at_int (Kd.C_below HCS.out HB2.out) (i : Int) p1 p2
      have hlen : cs.length ≤ cc := HB.out.2.1
      rw [show ((i : Int)).toNat = i by omega] at hcell
      generalize rd cs (i : Int) = q at *
      have HI := Aside0.mk hi
      clear hi hq HR
      have hall : ∃ N : Nat, N ≤ b.size ∧ (q ≤ 0 → N = 0) ∧ (0 < q → q ≤ b.size → (N : Int) = q) ∧ ((b.size : Int) < q → N = b.size) := by
       by_cases c1 : q ≤ 0
       ·exact ⟨0, Nat.zero_le _, fun _ => rfl, fun h => by omega, fun h => by omega⟩
       ·by_cases c2 : q ≤ b.size
        ·exact ⟨q.toNat, by omega, fun h => by omega, fun _ _ => by omega, fun h => by omega⟩
        ·exact ⟨b.size, Nat.le_refl _, fun h => by omega, fun _ h => by omega, fun _ => rfl⟩
      obtain ⟨N, n1, n2, n3, n4⟩ := hall
      have HN : Aside0 (N ≤ b.size ∧ (¬ i < cs.length → N = b.size)) := ⟨n1, fun h => absurd HI.out h⟩
      have HQ := Aside0.mk (And.intro n2 (And.intro n3 n4))
      clear n1 n2 n3 n4
      go_wp2_with fail
      all_goals (
       go_meet
       obtain ⟨n2, n3, n4⟩ := HQ.out
       refine ⟨N, congrArg (Value.int .i64) ?_, HN, HX, HM⟩
       omega)
     | false =>
      have hi : ¬ i < cs.length := fun h => Bool.noConfusion (hq.2 h)
      have HI := Aside0.mk hi
      clear hi hq HR
      go_wp2_with fail
      go_meet
      exact ⟨b.size, rfl, ⟨Nat.le_refl _, fun _ => rfl⟩, HX, HM⟩
    case rest =>
     obtain ⟨N, rfl, HN, HX, HM⟩ := hcut
     obtain ⟨n1, n2⟩ := HN.out
     obtain ⟨hb, hbs⟩ := HBX.out
     obtain ⟨ha, hia⟩ := HA.out
     obtain ⟨J, hJ⟩ : ∃ J, J = a + N := ⟨_, rfl⟩
     have hJB : J ≤ B.size := by omega
     have hNJ : N = J - a := by omega
     have e1 : b.extract 0 N = B.extract a J := by rw [hb, hNJ]; exact ext_head B a J (by omega) hJB
     have e2 : b.extract N b.size = B.extract J B.size := by rw [hb, hNJ]; exact ext_tail B a J (by omega)
     have HF2 := HFE.out _ g a J d HX.out (F1.out.step HM.out) HRl.out (by omega) hJB
     rw [ext_step B a J (by omega) hJB, ← e1] at HF2
     have HF2 := Aside0.mk HF2
     have HE2 := Aside0.mk e2
     have hat1 := full_at l (B.extract 0 J)
     rw [ext_sz B 0 J hJB] at hat1
     have hbd := full_bound HLS.out.1 HLS.out.2 (B.extract 0 J)
     have hferr : (full l (B.extract 0 a)).code ≠ 0 → full l (B.extract 0 J) = full l (B.extract 0 a) := fun h => by
      have := full_err h (B.extract a J)
      rw [ext_step B a J (by omega) hJB] at this
      exact this
     have q1 : (0 : Int) ≤ (N : Int) := by omega
     have q2 : (N : Int) ≤ (b.size : Int) := by omega
     have HNX : Aside0 (J ≤ B.size ∧ i + 1 ≤ cs.length + 1 ∧ (J < B.size → i + 1 ≤ cs.length)) := ⟨⟨hJB, by omega, fun h => by omega⟩⟩
     have HMS : Aside0 (1 ≤ b.size ∧ i ≤ cs.length ∧ b.size - N = (b.extract N b.size).size) := ⟨⟨by omega, hia, by rw [ext_all]⟩⟩
     have HJS : Aside0 ((full l (B.extract 0 J)).at_ ≤ 8000 ∧ (full l (B.extract 0 J)).out.size ≤ 8192000) := ⟨⟨by have := HB.out.1; omega, by have := HB.out.1; omega⟩⟩
     clear n1 n2 hb hbs ha hia hJ hJB hNJ e1 e2 hat1 hbd HX HR HN HBX
     generalize hS2 : full l (B.extract 0 J) = S2 at *
     generalize full l (B.extract 0 a) = S1 at *
     have HSS := Aside0.mk hS2
     clear hS2
     by_cases hc : S1.code = 0
     ·have E0 : errV S1.code (S1.at_ : Int) = .nilIface := if_pos hc
      rw [E0]
      clear E0 hferr
      go_wp2_with fail
      refine HF2.out.mono ?_
      rintro e w5 ⟨o, d2, rfl, ho, hx, hr2, hm⟩
      have us := congrArg ByteArray.size ho
      rw [ByteArray.size_append] at us
      have u1 : ¬ 9223372036854775807 < S1.out.size + o.size := by have := HJS.out.2; omega
      have hh := rel_held hr2
      have HO := Aside0.mk ho
      have HX2 := Aside0.mk hx
      have HR2 := Aside0.mk hr2
      have HM2 := Aside0.mk (HM.out.trans hm)
      have HHC : Aside0 (∀ W, DecAt W g (.pointer (some ad)) d2 → Calls Tryz.prog 61 #[.pointer (some ⟨g, 0, none⟩)] W fun e w' => e = .returned (.int .i64 (d2.held.size : Int)) ∧ W = w') := ⟨fun W h => xheld_calls h⟩
      generalize d2.held.size = hz at *
      have h1 : (hz : Int) ≤ 1032 := by omega
      clear ho hx hr2 hm us hh
      by_cases hc2 : S2.code = 0
      ·have E2 : errV S2.code (S2.at_ : Int) = .nilIface := if_pos hc2
       have HE3 := Aside0.mk E2
       rw [E2]
       clear E2 hc hc2
       go_wp2_with fail
       refine (HHC.out _ HX2.out).mono ?_
       rintro e w6 ⟨rfl, rfl⟩
       go_wp2_with fail
       refine (HHC.out _ HX2.out).mono ?_
       rintro e w6 ⟨rfl, rfl⟩
       go_wp2_with fail
       go_roundw
       case rel =>
        refine ⟨J, i + 1, d2, congrArg Value.string HE2.out, ?_, ?_, congrArg (Value.int .i64) (by omega), HNX, HX2, HR2, HM2⟩
        ·rw [HSS.out]; exact congrArg Value.string HO.out
        ·rw [HSS.out]; exact HE3.out.symm
       case measure =>
        obtain ⟨m1, m2, m3⟩ := HMS.out
        show (if (b.extract N b.size).size = 0 then 0 else cs.length + 1 - ((i : Int) + 1).toNat) < (if b.size = 0 then 0 else cs.length + 1 - ((i : Int)).toNat)
        have m4 : ¬ b.size = 0 := by omega
        rw [if_neg m4]
        split <;> omega
      ·have E2 := errV_some hc2 (S2.at_ : Int)
       have HE3 := Aside0.mk E2
       rw [E2]
       clear E2 hc hc2
       go_wp2_with fail
       refine (HHC.out _ HX2.out).mono ?_
       rintro e w6 ⟨rfl, rfl⟩
       go_wp2_with fail
       refine (HHC.out _ HX2.out).mono ?_
       rintro e w6 ⟨rfl, rfl⟩
       go_wp2_with fail
       go_roundw
       case rel =>
        refine ⟨J, i + 1, d2, congrArg Value.string HE2.out, ?_, ?_, congrArg (Value.int .i64) (by omega), HNX, HX2, HR2, HM2⟩
        ·rw [HSS.out]; exact congrArg Value.string HO.out
        ·rw [HSS.out]; exact HE3.out.symm
       case measure =>
        obtain ⟨m1, m2, m3⟩ := HMS.out
        show (if (b.extract N b.size).size = 0 then 0 else cs.length + 1 - ((i : Int) + 1).toNat) < (if b.size = 0 then 0 else cs.length + 1 - ((i : Int)).toNat)
        have m4 : ¬ b.size = 0 := by omega
        rw [if_neg m4]
        split <;> omega
     ·have hsame := hferr hc
      subst hsame
      have E0 := errV_some hc (S2.at_ : Int)
      have HE3 := Aside0.mk E0
      obtain ⟨sx, hsx, hce⟩ := HER.out S2.code S2.at_ HJS.out.1
      have HCE := Aside0.mk hce
      have HTW : Aside0 (∀ W, Mv g w1 W → TabAt W T) := ⟨fun W h => T1.out.mv h G1.out⟩
      rw [E0]
      rw [E0] at HF2
      clear E0 hferr hc hsx hce
      go_wp2_with fail
      refine HF2.out.mono ?_
      rintro e w5 ⟨o, d2, rfl, ho, hx, hr2, hm⟩
      have us := congrArg ByteArray.size ho
      rw [ByteArray.size_append] at us
      have ho0 : o = ⟨#[]⟩ := u_inj (by rw [List.eq_nil_of_length_eq_zero (show (u o).length = 0 by rw [u_size]; omega)]; rfl)
      subst ho0
      have u1 : ¬ 9223372036854775807 < S2.out.size + (⟨#[]⟩ : ByteArray).size := by have := HJS.out.2; omega
      have hh := rel_held hr2
      have HO := Aside0.mk ho
      have HX2 := Aside0.mk hx
      have HR2 := Aside0.mk hr2
      have HM2 := Aside0.mk (HM.out.trans hm)
      have HHC : Aside0 (∀ W, DecAt W g (.pointer (some ad)) d2 → Calls Tryz.prog 61 #[.pointer (some ⟨g, 0, none⟩)] W fun e w' => e = .returned (.int .i64 (d2.held.size : Int)) ∧ W = w') := ⟨fun W h => xheld_calls h⟩
      generalize d2.held.size = hz at *
      have h1 : (hz : Int) ≤ 1032 := by omega
      clear ho hx hr2 hm us hh
      go_wp2_with fail
      refine (HHC.out _ HX2.out).mono ?_
      rintro e w6 ⟨rfl, rfl⟩
      go_wp2_with fail
      refine (HHC.out _ HX2.out).mono ?_
      rintro e w6 ⟨rfl, rfl⟩
      go_wp2_with fail
      refine (HCE.out _ (HTW.out _ HM2.out)).mono ?_
      rintro e w7 ⟨rfl, hb7⟩
      have HM3 := Aside0.mk (HM2.out.then hb7)
      have HX3 := Aside0.mk (HX2.out.below hb7)
      clear hb7
      go_wp2_with fail
      refine (HCE.out _ (HTW.out _ HM3.out)).mono ?_
      rintro e w8 ⟨rfl, hb8⟩
      have HM4 := Aside0.mk (HM3.out.then hb8)
      have HX4 := Aside0.mk (HX3.out.below hb8)
      clear hb8
      go_wp2_with fail
      go_roundw
      case rel =>
       refine ⟨J, i + 1, d2, congrArg Value.string HE2.out, ?_, ?_, congrArg (Value.int .i64) (by omega), HNX, HX4, HR2, HM4⟩
       ·rw [HSS.out]; exact congrArg Value.string HO.out
       ·rw [HSS.out]; exact HE3.out.symm
      case measure =>
       obtain ⟨m1, m2, m3⟩ := HMS.out
       show (if (b.extract N b.size).size = 0 then 0 else cs.length + 1 - ((i : Int) + 1).toNat) < (if b.size = 0 then 0 else cs.length + 1 - ((i : Int)).toNat)
       have m4 : ¬ b.size = 0 := by omega
       rw [if_neg m4]
       split <;> omega
  ·have hae : a = B.size := by omega
   subst hae
   have hB0 : B.extract B.size B.size = ⟨#[]⟩ := by
    apply u_inj
    rw [u_ext, Nat.sub_self]
    rfl
   have hB1 : B.extract 0 B.size = B := ext_zero B
   rw [hB0, hB1]
   have hrl := HRl.out
   rw [hB1] at hrl
   have HRB := Aside0.mk hrl
   have hfin := full_at l B
   have HFIN := Aside0.mk (fun (W : World) (h : DecAt W g (.pointer (some ad)) d) => finish_any h rfl hrl)
   have HDN : Aside0 (∀ W, DecAt W g (.pointer (some ad)) d → Calls Tryz.prog 59 #[.pointer (some ⟨g, 0, none⟩)] W fun e w' => e = .returned (.bool (decide (finC (full l B) = 0))) ∧ Drawn0 W w') := ⟨fun W h => xdone_calls h hrl⟩
   have HBW : Aside0 (∀ W, Mv g w1 W → Below w.heap.size w W) := ⟨fun W h => h.low B1.out HG.out⟩
   have HTW : Aside0 (∀ W, Mv g w1 W → TabAt W T) := ⟨fun W h => T1.out.mv h G1.out⟩
   have hfz : (full l B).code ≠ 0 → finC (full l B) = (full l B).code := fun h => by unfold finC; rw [if_pos h]
   clear hrl HRl hB0 ha i1 i2 i3 HI
   generalize hSE : full l B = S at *
   have HSE := Aside0.mk hSE
   clear hSE
   by_cases hc : S.code = 0
   ·have E0 : errV S.code (S.at_ : Int) = .nilIface := if_pos hc
    rw [E0]
    by_cases hf : finC S = 0
    ·have E1 : errV (finC S) (S.at_ : Int) = .nilIface := if_pos hf
     have HE1 := Aside0.mk E1
     rw [E1] at HFIN
     rw [decide_eq_true hf] at HDN
     have HDN2 : Aside0 (∀ W, DecAt W g (.pointer (some ad)) d → ∀ n, Calls Tryz.prog 59 #[.pointer (some ⟨g, 0, none⟩)] (W.drewN n) fun e w2 => e = .returned (.bool true) ∧ ∃ m, w2 = W.drewN m) := ⟨fun W h n => by
      refine (HDN.out _ (show DecAt (W.drewN n) g (.pointer (some ad)) d from h)).mono ?_
      rintro e w2 ⟨rfl, ⟨⟨m, rfl⟩⟩⟩
      exact ⟨rfl, n + m, by rw [World.drewN_drewN]⟩⟩
     clear E0 E1 hc hf hfz hfin HDN
     go_wp2_with fail
     refine (HFIN.out _ HX.out).mono ?_
     rintro e w6 ⟨rfl, rfl⟩
     go_wp2_with fail
     go_quiet ((go_at_call 59; exact HDN2.out _ HX.out _))
     go_wp2_with fail
     go_ret3
     exact ⟨by rw [HSE.out, HE1.out]; rfl, by repeat (first | exact HBW.out _ HM.out | apply below_alloc | apply below_drew | apply pw_below_drewN)⟩
    ·have E1 := errV_some hf (S.at_ : Int)
     have HE1 := Aside0.mk E1
     rw [E1] at HFIN
     rw [decide_eq_false hf] at HDN
     have HDN2 : Aside0 (∀ W, DecAt W g (.pointer (some ad)) d → ∀ n, Calls Tryz.prog 59 #[.pointer (some ⟨g, 0, none⟩)] (W.drewN n) fun e w2 => e = .returned (.bool false) ∧ ∃ m, w2 = W.drewN m) := ⟨fun W h n => by
      refine (HDN.out _ (show DecAt (W.drewN n) g (.pointer (some ad)) d from h)).mono ?_
      rintro e w2 ⟨rfl, ⟨⟨m, rfl⟩⟩⟩
      exact ⟨rfl, n + m, by rw [World.drewN_drewN]⟩⟩
     clear E0 E1 hc hf hfz hfin HDN
     go_wp2_with fail
     refine (HFIN.out _ HX.out).mono ?_
     rintro e w6 ⟨rfl, rfl⟩
     go_wp2_with fail
     go_quiet ((go_at_call 59; exact HDN2.out _ HX.out _))
     go_wp2_with fail
     go_ret3
     exact ⟨by rw [HSE.out, HE1.out]; rfl, by repeat (first | exact HBW.out _ HM.out | apply below_alloc | apply below_drew | apply pw_below_drewN)⟩
   ·have hf := hfz hc
    have hf0 : ¬ finC S = 0 := by rw [hf]; exact hc
    have E0 := errV_some hc (S.at_ : Int)
    have HE1 : Aside0 (errV (finC S) (S.at_ : Int) = .iface 152 (.agg #[.int .i64 S.code, .int .i64 (S.at_ : Int)])) := ⟨by rw [hf]; exact E0⟩
    obtain ⟨sx, hsx, hce⟩ := HER.out S.code S.at_ (by omega)
    have HCE := Aside0.mk hce
    rw [E0]
    rw [HE1.out] at HFIN
    rw [decide_eq_false hf0] at HDN
    clear E0 hc hf hf0 hfz hfin hsx hce
    go_wp2_with fail
    refine (HFIN.out _ HX.out).mono ?_
    rintro e w6 ⟨rfl, rfl⟩
    go_wp2_with fail
    go_region_held3 (fun w' => True) (exact trivial)
     ((first
      | (go_at_call 59; refine (HDN.out _ (HX.out.below h2)).mono ?_; rintro e w9 ⟨rfl, hb9⟩; have h2 := below_step h2 hb9.below)
      | (go_at_call 249; refine (HCE.out _ (TabAt.below (HTW.out _ HM.out) h2)).mono ?_; rintro e w8 ⟨rfl, hb8⟩; have h2 := below_step h2 hb8)
      | (go_at_call 249; refine (HCE.out _ (HTW.out _ (HM.out.then (below_drew (Below.refl _ _))))).mono ?_; rintro e w7 ⟨rfl, hb7⟩; have h2 := below_step (below_drew (Below.refl _ _)) hb7)))
    have HF := Aside0.mk h2
    clear h2
    go_wp2_with fail
    go_ret3
    exact ⟨by rw [HSE.out, HE1.out]; rfl, HBW.out _ (HM.out.then HF.out)⟩
end Go.Proofs.YtepgkimlmoikmaaGreat
