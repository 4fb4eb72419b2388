/- ShX: a part of its proof (contracts of the functions that it reaches, and the plain mathematics behind them). -/
import Derived.Test.YtepgkimlmoikmaaGreatShX34
import Derived.Test.YtepgkimlmoikmaaGreatShX26
import Derived.Test.YtepgkimlmoikmaaGreatShX25
import Derived.Deep.DeepCutAuto
import Derived.Test.YtepgkimlmoikmaaGreatShX42
set_option linter.unusedVariables false
set_option linter.unusedSimpArgs false
set_option linter.unusedVariables false
set_option linter.unusedSimpArgs false
namespace Go.Proofs.YtepgkimlmoikmaaGreat
open Go.RowKit Go.Proofs.YtepgkimlmoikmaaGreat.Spec Go.Proofs.YtepgkimlmoikmaaGreatW.PrintWords Go.Proofs.YtepgkimlmoikmaaGreatW.PrintLast
open Go.Proofs.YtepgkimlmoikmaaGreatW.PrintMore
attribute [local go_sem ↓] Go.wp_at_zero Go.wp_at_succ
attribute [local go_sem] max2_int min2_int max_two min_two
def catO (out : Nat → ByteArray) : Nat → ByteArray
 | 0 => ⟨#[]⟩
 | n + 1 => catO out n ++ out n
theorem alloc_cells (w : World) (cs : Array Value) (t : TypeId) (j : Nat) (u : Value) (h : cs[j]? = some u) : (w.alloc (.cells cs t)).cell? ((⟨w.heap.size, 0, none⟩ : Addr).add j) = some u := by
 rw [Lib.add_plain]
 exact (blk_cell (blk_new w _) _).trans (by rw [Nat.zero_add]; exact h)
theorem info_op : (Tryz.prog.info? 61).map (fun i => (i.zero, i.size, i.bytes)) = some (some (.agg #[.int .i64 0, .string ⟨#[]⟩]), 2, 24) := by kernel_rfl
structure Steps (l : List ByteArray) (P : Value) (p q k wd : Nat) (os : List (Int × ByteArray)) (I : Nat → World → Nat → Prop) (out : Nat → ByteArray) (m : Nat) : Prop where
 le : m ≤ os.length
 ahead : ∀ j o, j < m → os[j]? = some o → o.1 ≠ 3
 last : ∀ o, os[m]? = some o → o.1 = 3
 start : ∀ W g, DicF g W P l → EncAt W g P (eNew p q k wd) → I 0 W g
 below : ∀ j W W' g, I j W g → Below W.heap.size W W' → I j W' g
 write : ∀ j b, j < m → os[j]? = some (1, b) → ∀ W g, I j W g → Calls Tryz.prog 53 #[.pointer (some ⟨g, 0, none⟩), .string b] W fun x w' => x = .returned (.tuple #[.string (out j), .nilIface]) ∧ I (j + 1) w' g ∧ Mv g W w'
 flush : ∀ j b, j < m → os[j]? = some (2, b) → ∀ W g, I j W g → Calls Tryz.prog 54 #[.pointer (some ⟨g, 0, none⟩)] W fun x w' => x = .returned (.tuple #[.string (out j), .nilIface]) ∧ I (j + 1) w' g ∧ Mv g W w'
 skip : ∀ j o, j < m → os[j]? = some o → o.1 ≠ 1 → o.1 ≠ 2 → out j = ⟨#[]⟩ ∧ ∀ W g, I j W g → I (j + 1) W g
 close : ∀ W g, I m W g → Calls Tryz.prog 55 #[.pointer (some ⟨g, 0, none⟩)] W fun x w' => x = .returned (.tuple #[.string (out m), .nilIface]) ∧ Mv g W w'
 small : ∀ j, j ≤ m → (catO out j).size + (out j).size ≤ 100000000
theorem RowO.mv {w w1 : World} {h g : Nat} {os : List (Int × ByteArray)} (hr : RowO w h os) (hm : Mv g w w1) (hne : h ≠ g) : RowO w1 h os := by
 obtain ⟨cur, h1, h2⟩ := hr
 exact ⟨cur, hm.blk h1 hne, h2⟩
set_option maxHeartbeats 2000000 in
set_option maxRecDepth 100000 in
theorem encode24_run {w : World} {ad : Addr} {l : List ByteArray} {p q k wd : Nat} {os : List (Int × ByteArray)} {I : Nat → World → Nat → Prop} {out : Nat → ByteArray} {m : Nat} (hd : DictAt w (.pointer (some ad)) l) (hc : cfgB p q k wd = true) {A : Option Addr} {c : Nat} (hos : OpsIn w A os) (hoc : os.length ≤ c) (hol : os.length ≤ 100000) (S : Steps l (.pointer (some ad)) p q k wd os I out m) :
  Calls Tryz.prog 39 #[.pointer (some ad), .agg #[.int .i64 (p : Int), .int .i64 (q : Int), .int .i64 (k : Int), .int .i64 (wd : Int)], .slice A os.length c] w fun e w' => e = .returned (.tuple #[.string (catO out (m + 1)), .bool true]) ∧ Below w.heap.size w w' := by
 have HD := Aside0.mk hd
 have HN := Aside0.mk (fun (W : World) => newenc_yes (P := .pointer (some ad)) rfl p q k wd hc W)
 have HO := Aside0.mk hos
 have HL := Aside0.mk (And.intro hoc hol)
 have HS := Aside0.mk S
 have B0 := Aside0.mk ((Below.refl w.heap.size w).alloc (Nat.le_refl _) (.cells #[.int .i64 p, .int .i64 q, .int .i64 k, .int .i64 wd] 24))
 clear hd hc hos hoc hol S
 go_enter Tryz.func39, Tryz.ntmps39
 go_wp2_with fail
 refine (HN.out _).mono ?_
 rintro e w1 ⟨g, rfl, he, hb1, hg⟩
 have D1 := Aside0.mk (HD.out.below B0.out)
 have F1 := Aside0.mk (DicF.of D1.out hb1 hg)
 have B1 := Aside0.mk (below_step B0.out hb1)
 have I1 := Aside0.mk (HS.out.start w1 g F1.out he)
 have G1 := Aside0.mk (show w.heap.size ≤ g by have := B0.out.size; omega)
 have GL := Aside0.mk he.lt
 have HO1 := Aside0.mk (HO.out.below B1.out)
 clear he hb1 hg HO
 go_upto_region 5 with fail
 go_cut [31, 32, 33] (fun v31 v32 v33 wx => ∃ (h c3 : Nat), v31 = .slice (some ⟨h, 0, none⟩) (os.length + 1) c3 ∧ v32 = .int .i64 ((os.length : Int) + 1) ∧ v33 = .int .i64 0 ∧ Aside0 (os.length + 1 ≤ c3 ∧ w1.heap.size ≤ h ∧ RowO wx h (os ++ [(3, ⟨#[]⟩)])) ∧ Aside0 (Below w1.heap.size w1 wx))
 case first =>
  by_cases hne : os = []
  ·subst hne
   obtain ⟨io, hio, _⟩ := Option.map_eq_some_iff.1 info_op
   clear HO1
   go_wp2_with (first
    | (at_builtin; refine wpList_append_nothing rfl (.const (.slice none 0 0)) (.tmp 27) 59 61 io rfl Tryz.underlying59 hio rfl rfl ?_)
    | (at_builtin; refine wpList_append_flat w1.heap.size rfl (.tmp 28) (.tmp 30) 59 61 rfl _ 2 24 Tryz.underlying59 info_op rfl (by decide) (by decide) (.slice none 0 0) 0 [] rfl (own_nil _ _ _ _) rfl (opCells [(3, ⟨#[]⟩)]) rfl (by decide) ⟨_, rfl, fun j u hj => alloc_cells _ #[.int .i64 3, .string ⟨#[]⟩] _ j u (by rw [← Array.getElem?_toList]; exact hj)⟩ (opCells_one _) (by decide) (below_alloc (Below.refl _ _) _) (Nat.le_of_lt (by simp)) ?_; intro v2 w2 hown2 hb2 hg2; have HOW := Aside0.mk hown2; obtain ⟨h2, c2, rfl, hh2, hc2, hro⟩ := RowO.of hown2 (by decide); have HB2 := Aside0.mk hb2; have HRO := Aside0.mk hro; clear hown2 hb2 hg2 hro))
   go_meet
   exact ⟨_, _, rfl, by rfl, rfl, ⟨hc2, hh2, HRO.out⟩, HB2⟩
  ·have hlen : 0 < os.length := List.length_pos_iff.2 hne
   obtain ⟨ad2, rfl, hcell⟩ := HO1.out hlen
   go_wp2_with (first
    | (at_builtin; refine wpList_append_flat w1.heap.size rfl (.const (.slice none 0 0)) (.tmp 27) 59 61 rfl _ 2 24 Tryz.underlying59 info_op rfl (by decide) (by decide) (.slice none 0 0) 0 [] rfl (own_nil _ _ _ _) rfl (opCells os) (opCells_len os) hlen ⟨_, rfl, hcell⟩ (opCells_one os) (by have := HL.out.2; omega) (Below.refl _ _) (Nat.le_refl _) ?_; intro v2 w2 hown2 hb2 hg2; rw [Nat.zero_add, List.nil_append] at hown2; obtain ⟨h2, c2, rfl, hh2, hc2, hro⟩ := RowO.of hown2 hlen; have HOW := Aside0.mk hown2; have HB2 := Aside0.mk hb2; clear hown2 hb2 hg2 hh2 hc2 hro)
    | (at_builtin; refine wpList_append_flat w1.heap.size rfl (.tmp 28) (.tmp 30) 59 61 rfl _ 2 24 Tryz.underlying59 info_op rfl (by decide) (by decide) (.slice (some ⟨h2, 0, none⟩) os.length c2) os.length (opCells os) rfl (HOW.out.alloc _) rfl (opCells [(3, ⟨#[]⟩)]) rfl (by decide) ⟨_, rfl, fun j u hj => alloc_cells _ #[.int .i64 3, .string ⟨#[]⟩] _ j u (by rw [← Array.getElem?_toList]; exact hj)⟩ (opCells_one _) (by have := HL.out.2; omega) (below_alloc HB2.out _) (by have := HB2.out.size; simp; omega) ?_; intro v3 w3 hown3 hb3 hg3; rw [← opCells_app] at hown3; obtain ⟨h3, c3, rfl, hh3, hc3, hro⟩ := RowO.of hown3 (by omega); have HB3 := Aside0.mk hb3; have HRO := Aside0.mk hro; clear hown3 hb3 hg3 hro))
   go_meet
   exact ⟨_, _, rfl, by rfl, rfl, ⟨hc3, hh3, HRO.out⟩, HB3⟩
 case rest =>
  obtain ⟨h, c3, rfl, rfl, rfl, HR, HB⟩ := hcut
  obtain ⟨r1, r2, r3⟩ := HR.out
  have HRO := Aside0.mk r3
  have HMV := Aside0.mk (show Mv g w1 wc from Mv.of HB.out)
  have HIC := Aside0.mk (HS.out.below 0 w1 wc g I1.out HB.out)
  have HNE := Aside0.mk (show h ≠ g by have := GL.out; omega)
  have hlc := r1
  clear r2 r3 HR I1
  go_wp2_with fail
  go_loopw [10, 33] (fun v10 v33 wr => ∃ j : Nat, v10 = .string (catO out j) ∧ v33 = .int .i64 (j : Int) ∧ Aside0 (j ≤ m) ∧ Aside0 (I j wr g) ∧ Aside0 (RowO wr h (os ++ [(3, ⟨#[]⟩)])) ∧ Aside0 (Mv g w1 wr)) (fun _ v33 _ => m + 1 - (intOf v33).toNat)
  case atStart => exact ⟨0, rfl, rfl, ⟨Nat.zero_le _⟩, HIC, HRO, HMV⟩
  case round =>
   obtain ⟨j, rfl, rfl, HJ, HI, HRO, HMV⟩ := hrel
   have hjm := HJ.out
   have hml := HS.out.le
   have hol := HL.out.2
   have hlt : j < (os ++ [((3 : Int), (⟨#[]⟩ : ByteArray))]).length := by rw [List.length_append, List.length_singleton]; omega
   obtain ⟨⟨kd, bs⟩, ho⟩ : ∃ o, (os ++ [((3 : Int), (⟨#[]⟩ : ByteArray))])[j]? = some o := ⟨_, List.getElem?_eq_getElem hlt⟩
   obtain ⟨k1, k2⟩ := HRO.out.get ho
   dsimp only at k1 k2
   have d1 : decide ((j : Int) < (os.length : Int) + 1) = true := decide_eq_true (by omega)
   have d2 : (j : Int) < (os.length : Int) + 1 := by omega
   have zj : (j : Int) ≤ 100000 := by omega
   have hsm := HS.out.small j hjm
   have u1 : ¬ 9223372036854775807 < (catO out j).size + (out j).size := by omega
   by_cases hjl : j < m
   ·have hoj : os[j]? = some (kd, bs) := by rw [List.getElem?_append_left (by omega)] at ho; exact ho
    have hk3 := HS.out.ahead j _ hjl hoj
    dsimp only at hk3
    have e3 : (kd == (3 : Int)) = false := beq_eq_false_iff_ne.2 hk3
    by_cases hk1 : kd = 1
    ·subst hk1
     have HW := Aside0.mk (HS.out.write j bs hjl hoj)
     have HJL := Aside0.mk hjl
     have HBL := Aside0.mk (fun W => HS.out.below j wr W g HI.out)
     clear hjm hml hol hlt ho hsm hjl hoj hk3 e3
     go_wp2_with fail
     refine (HW.out _ _ (HBL.out _ (below_alloc (Below.refl _ _) _))).mono ?_
     rintro x w2 ⟨rfl, hi, hm⟩
     have hne2 : wr.heap.size ≠ g := by have h1 := GL.out; have h2 := HMV.out.size; omega
     have c0 : w2.cell? ⟨wr.heap.size, 0, none⟩ = some (.int .i64 1) := (blk_cell (hm.blk (blk_new wr _) hne2) 0).trans rfl
     have HM2 := Aside0.mk ((Mv.alloc (Mv.refl g wr) _).trans hm)
     have HI2 := Aside0.mk hi
     clear hi hm hne2
     go_wp2_with fail
     go_roundw
     case rel => exact ⟨j + 1, rfl, rfl, ⟨HJL.out⟩, HI2, ⟨HRO.out.mv HM2.out HNE.out⟩, ⟨HMV.out.trans HM2.out⟩⟩
     case measure =>
      have h1 := HJL.out
      show m + 1 - ((j : Int) + 1).toNat < m + 1 - (j : Int).toNat
      omega
    ·by_cases hk2 : kd = 2
     ·subst hk2
      have HW := Aside0.mk (HS.out.flush j bs hjl hoj)
      have HJL := Aside0.mk hjl
      have HBL := Aside0.mk (fun W => HS.out.below j wr W g HI.out)
      clear hjm hml hol hlt ho hsm hjl hoj hk3 e3 hk1
      go_wp2_with fail
      refine (HW.out _ _ (HBL.out _ (below_alloc (Below.refl _ _) _))).mono ?_
      rintro x w2 ⟨rfl, hi, hm⟩
      have hne2 : wr.heap.size ≠ g := by have h1 := GL.out; have h2 := HMV.out.size; omega
      have c0 : w2.cell? ⟨wr.heap.size, 0, none⟩ = some (.int .i64 2) := (blk_cell (hm.blk (blk_new wr _) hne2) 0).trans rfl
      have HM2 := Aside0.mk ((Mv.alloc (Mv.refl g wr) _).trans hm)
      have HI2 := Aside0.mk hi
      clear hi hm hne2
      go_wp2_with fail
      go_roundw
      case rel => exact ⟨j + 1, rfl, rfl, ⟨HJL.out⟩, HI2, ⟨HRO.out.mv HM2.out HNE.out⟩, ⟨HMV.out.trans HM2.out⟩⟩
      case measure =>
       have h1 := HJL.out
       show m + 1 - ((j : Int) + 1).toNat < m + 1 - (j : Int).toNat
       omega
     ·have e1 : (kd == (1 : Int)) = false := beq_eq_false_iff_ne.2 hk1
      have e2 : (kd == (2 : Int)) = false := beq_eq_false_iff_ne.2 hk2
      obtain ⟨hoe, hst⟩ := HS.out.skip j _ hjl hoj hk1 hk2
      have HJL := Aside0.mk hjl
      have HI2 := Aside0.mk (hst _ _ (HS.out.below j wr (wr.alloc (.cells #[.int .i64 kd, .string bs] 61)) g HI.out (below_alloc (Below.refl _ _) _)))
      have HM2 : Aside0 (Mv g wr (wr.alloc (.cells #[.int .i64 kd, .string bs] 61))) := ⟨Mv.alloc (Mv.refl g wr) _⟩
      have HOE := Aside0.mk hoe
      rw [hoe] at u1
      have hk1' := Aside0.mk hk1
      have hk2' := Aside0.mk hk2
      have hk3' := Aside0.mk hk3
      clear hjm hml hol hlt ho hsm hjl hoj hk3 hk1 hk2 hoe hst
      go_wp2_with fail
      go_roundw
      case rel => exact ⟨j + 1, by rw [catO, HOE.out], rfl, ⟨HJL.out⟩, HI2, ⟨HRO.out.mv HM2.out HNE.out⟩, ⟨HMV.out.trans HM2.out⟩⟩
      case measure =>
       have h1 := HJL.out
       show m + 1 - ((j : Int) + 1).toNat < m + 1 - (j : Int).toNat
       omega
   ·have hjm2 : j = m := by omega
    have hk3 : kd = 3 := by
     by_cases hml2 : m < os.length
     ·rw [List.getElem?_append_left (by omega)] at ho
      exact HS.out.last (kd, bs) (by rw [← hjm2]; exact ho)
     ·have : j = os.length := by omega
      rw [this, List.getElem?_append_right (Nat.le_refl _), Nat.sub_self] at ho
      exact (congrArg Prod.fst (Option.some.inj ho)).symm
    subst hk3
    have HW := Aside0.mk (HS.out.close)
    have HBL := Aside0.mk (fun W => HS.out.below j wr W g HI.out)
    have HJE := Aside0.mk hjm2
    rw [← hjm2] at HW
    clear hjm hml hol hlt ho hsm hjl hjm2
    go_wp2_with fail
    refine (HW.out _ _ (HBL.out _ (below_alloc (Below.refl _ _) _))).mono ?_
    rintro x w2 ⟨rfl, hm⟩
    have hne2 : wr.heap.size ≠ g := by have h1 := GL.out; have h2 := HMV.out.size; omega
    have c0 : w2.cell? ⟨wr.heap.size, 0, none⟩ = some (.int .i64 3) := (blk_cell (hm.blk (blk_new wr _) hne2) 0).trans rfl
    have HM2 := Aside0.mk ((Mv.alloc (Mv.refl g wr) _).trans hm)
    clear hm hne2
    go_wp2_with fail
    go_ret2
    exact ⟨by rw [← HJE.out]; rfl, (HMV.out.trans HM2.out).low B1.out G1.out⟩
end Go.Proofs.YtepgkimlmoikmaaGreat
set_option linter.unusedVariables false
set_option linter.unusedSimpArgs false
namespace Go.Proofs.YtepgkimlmoikmaaGreat
open Go.RowKit Go.Proofs.YtepgkimlmoikmaaGreat.Spec Go.Proofs.YtepgkimlmoikmaaGreatW.PrintWords Go.Proofs.YtepgkimlmoikmaaGreatW.PrintLast
open Go.Proofs.YtepgkimlmoikmaaGreatW.PrintMore
attribute [local go_sem ↓] Go.wp_at_zero Go.wp_at_succ
attribute [local go_sem] max2_int min2_int max_two min_two
theorem ext_back (a b : ByteArray) : (a ++ b).extract a.size (a ++ b).size = b := by
 apply u_inj
 rw [u_ext, u_app]
 have h1 : (u a).length = a.size := u_size a
 have hz : (a ++ b).size = a.size + b.size := ByteArray.size_append ..
 rw [List.drop_append_of_le_length (by omega), List.drop_of_length_le (by omega), List.nil_append, List.take_of_length_le (by rw [u_size]; omega)]
def opsE : Nat → List (Int × ByteArray)
 | 0 => []
 | n + 1 => opsE n ++ [(2, ⟨#[]⟩), (1, ⟨#[]⟩)]
theorem opsE_len : ∀ n, (opsE n).length = 2 * n
 | 0 => rfl
 | n + 1 => by rw [opsE, List.length_append, opsE_len n]; rfl
end Go.Proofs.YtepgkimlmoikmaaGreat
