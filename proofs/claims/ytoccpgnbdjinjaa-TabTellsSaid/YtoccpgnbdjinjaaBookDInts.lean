/- The book's functions over its lists (Ints): what each leaves in memory. -/
import Derived.Test.YtoccpgnbdjinjaaBookCInts
import Derived.Deep.RegionHeld3
import Derived.Deep.DeepMust
import Derived.Deep.QuietTactic
import Derived.BigQuiet
import Derived.BigRegion
set_option linter.unusedVariables false
set_option linter.unusedSimpArgs false
namespace Go.Proofs.Ytoccpgnbdjinjaa
open Go.RowKit Go.Proofs.YtoccpgnbdjinjaaW.PrintWords Go.Proofs.YtoccpgnbdjinjaaW.PrintLast Go.Proofs.YtoccpgnbdjinjaaW.PrintMore
attribute [local go_sem ↓] Go.wp_at_zero Go.wp_at_succ
namespace BookInts
open Book
abbrev BT : TypeId := 38
def cellsOf (ls : Nat → List Int) : Nat → List Value := fun i => encs (Value.int .i64) (ls i)
/-- A book in memory that keeps lists of this kind alone. -/
structure BookAt (w : World) (base B : Nat) (t1 t2 : Value) (vs ws : List Value) (ls : Nat → List Int) : Prop where
  blk : ∃ cs, w.heap[B]? = some (.cells cs BT (0, 0)) ∧ cs.size = 10
  c1 : w.cell? ⟨B, 0, none⟩ = some t1
  c2 : w.cell? ⟨B, 1, none⟩ = some t2
  others : ∀ j, j < 10 → j ≠ 0 → j ≠ 1 → w.cell? ⟨B, j, none⟩ = some (.slice none 0 0)
  hB : base ≤ B
  a1 : w.ownsRow base 22 1 t1 vs.length vs
  a2 : w.ownsRow base 22 1 t2 ws.length ws
  ne : NeRow t1 t2
  k1 : Kept w base 3 vs (cellsOf ls)
  k2 : ∀ (i : Nat) (u : Value), ws[i]? = some u → w.ownsRow base 3 1 u (ls i).length (encs (Value.int .i64) (ls i))
  len : ws.length = vs.length
theorem row_read {w : World} {base : Nat} {u : Value} {l : List Int} (h : w.ownsRow base 3 1 u l.length (encs (Value.int .i64) l)) : ∃ A c, u = .slice A l.length c ∧ l.length ≤ c ∧ (Kd.int .i64).C w A l.length l :=
  Kd.R_reads (Kd.R_of_own (enc := (Value.int .i64)) (h1 := fun _ => rfl) (ok := fun _ => True) h (fun _ _ => trivial))
theorem arr_form {w : World} {base : Nat} {t : Value} {vs : List Value} {e : TypeId} (h : w.ownsRow base e 1 t vs.length vs) (i : Nat) (hi : i < vs.length) : ∃ g c, t = .slice (some ⟨g, 0, none⟩) vs.length c ∧ vs.length ≤ c ∧ w.cell? ⟨g, i, none⟩ = some vs[i] := by
  obtain ⟨g, c, rfl, hg, hc⟩ := h.form (by omega)
  refine ⟨g, c, rfl, own_le h, ?_⟩
  have := h.cells (g := g) rfl i vs[i] (List.getElem?_eq_getElem hi)
  rwa [add_plain] at this
theorem step1 (i : Nat) (h : i ≤ 1000000000) : wrap64 ((i : Int) + 1) = ((i + 1 : Nat) : Int) := by rw [wr (by omega) (by omega)]; omega
theorem meas (n i : Nat) (h : i < n) (hn : i ≤ 1000000000) : n - (intOf (.int .i64 (wrap64 ((i : Int) + 1)))).toNat < n - (intOf (.int .i64 (i : Int))).toNat := by
  rw [step1 i hn]
  show n - (i + 1) < n - i
  omega
set_option maxHeartbeats 2000000 in
set_option maxRecDepth 100000 in
theorem still_any {w : World} {base B : Nat} {t1 t2 : Value} {vs ws : List Value} {ls : Nat → List Int} (h : BookAt w base B t1 t2 vs ws ls) (hn : vs.length ≤ 1000000) (hl : ∀ i, i < vs.length → (ls i).length ≤ 1000000000) :
    Calls Try.prog 20 #[.pointer (some ⟨B, 0, none⟩)] w fun e w' => e = .returned (.bool true) ∧ Drawn0 w w' := by
  have hc1 := h.c1
  have hc2 := h.c2
  obtain ⟨A1, k1, rfl⟩ := own_slice h.a1
  obtain ⟨A2, k2, rfl⟩ := own_slice h.a2
  have H := Aside0.mk h
  have HN := Aside0.mk hn
  have HL := Aside0.mk hl
  clear h hn hl
  go_enter Try.func20, Try.ntmps20
  go_wp2
  go_loopw [3] (fun v3 wr => ∃ (i : Nat), v3 = .int .i64 i ∧ Aside0 (i ≤ vs.length) ∧ Drawn0 w wr) (fun v3 _ => vs.length - (intOf v3).toNat)
  case atStart => exact ⟨0, rfl, ⟨Nat.zero_le _⟩, Drawn0.refl w⟩
  case round =>
    obtain ⟨i, rfl, HI, hd0⟩ := hrel
    have hn := HN.out
    have hi := HI.out
    by_cases hlt : i < vs.length
    · have hb0 : decide ((i : Int) < (vs.length : Int)) = true := decide_eq_true (by omega)
      have hb0' : decide (i < vs.length) = true := decide_eq_true hlt
      have p1 : (0 : Int) ≤ (i : Int) := by omega
      have p2 : (i : Int) < (vs.length : Int) := by omega
      have p3 : (i : Int) < (ws.length : Int) := by have := H.out.len; omega
      obtain ⟨g1, c1, e1, hk1, hx1⟩ := arr_form H.out.a1 i hlt
      obtain ⟨g2, c2, e2, hk2, hx2⟩ := arr_form H.out.a2 i (by have := H.out.len; omega)
      injection e1 with e1 _ e1c
      injection e2 with e2 _ e2c
      subst e1 e2 e1c e2c
      have r1 := H.out.k1.row i _ (List.getElem?_eq_getElem hlt)
      have r2 := H.out.k2 i _ (List.getElem?_eq_getElem (by have := H.out.len; omega))
      have hcl : (cellsOf ls i).length = (ls i).length := encs_length _
      rw [hcl] at r1
      obtain ⟨B1, d1, f1, hd1, C1⟩ := row_read r1
      obtain ⟨B2, d2, f2, hd2, C2⟩ := row_read r2
      rw [f1] at hx1
      rw [f2] at hx2
      have HC1 := Aside0.mk (Kd.C_below C1 hd0.below)
      have HC2 := Aside0.mk (Kd.C_below C2 hd0.below)
      have HDR := Aside0.mk hd0
      have q1 := pw_cell_below hd0.below hx1
      have q2 := pw_cell_below hd0.below hx2
      have q3 := pw_cell_below hd0.below hc1
      have q4 := pw_cell_below hd0.below hc2
      clear hx1 hx2 hd0
      have HD1 := Aside0.mk hd1
      have HD2 := Aside0.mk hd2
      clear r1 r2 f1 f2 C1 C2 hd1 hd2 hcl hi hn
      have HLT := Aside0.mk hlt
      go_wp2_with fail
      go_quiet ((go_at_call 16; exact same_quiet (ls i) HC1.out HD1.out HC2.out HD2.out (HL.out i HLT.out) _))
      all_goals
        go_wp2
        go_roundw
        case rel => have h1 := HLT.out; have h2 := HN.out; exact ⟨i + 1, by rw [step1 i (by omega)], ⟨by omega⟩, Drawn0.step HDR.out _⟩
        case measure => have h1 := HLT.out; have h2 := HN.out; exact meas _ i h1 (by omega)
    · have hb0 : decide ((i : Int) < (vs.length : Int)) = false := decide_eq_false (by omega)
      have hb0' : decide (i < vs.length) = false := decide_eq_false hlt
      have q3 := pw_cell_below hd0.below hc1
      clear hn hi
      go_wp2
      go_ret
      exact ⟨rfl, hd0⟩
/-- .. of which the copies are no longer asked for. -/
structure PutAt (w : World) (base B : Nat) (t1 : Value) (vs : List Value) (ls : Nat → List Int) : Prop where
  blk : ∃ cs, w.heap[B]? = some (.cells cs BT (0, 0)) ∧ cs.size = 10
  c1 : w.cell? ⟨B, 0, none⟩ = some t1
  others : ∀ j, j < 10 → j ≠ 0 → j ≠ 1 → w.cell? ⟨B, j, none⟩ = some (.slice none 0 0)
  hB : base ≤ B
  a1 : w.ownsRow base 22 1 t1 vs.length vs
  k1 : Kept w base 3 vs (cellsOf ls)
section
variable {w w1 : World} {base B : Nat} {t1 t2 : Value} {vs ws : List Value} {ls : Nat → List Int}
theorem BookAt.put (h : BookAt w base B t1 t2 vs ws ls) : PutAt w base B t1 vs ls := ⟨h.blk, h.c1, h.others, h.hB, h.a1, h.k1⟩
theorem PutAt.below (h : PutAt w base B t1 vs ls) (hb : Below w.heap.size w w1) : PutAt w1 base B t1 vs ls := by
  obtain ⟨cs, h1, h2⟩ := h.blk
  exact ⟨⟨cs, blk_below h1 hb, h2⟩, pw_cell_below hb h.c1, fun j a b c => pw_cell_below hb (h.others j a b c), h.hB, pw_own_below h.a1 hb, h.k1.below hb⟩
theorem upd_cells {w : World} {i : Nat} {k : Nat} {x : Int} (h : Kept w base 3 vs (fun j => if j = i then (cellsOf ls i).set k ((Value.int .i64) x) else cellsOf ls j)) : Kept w base 3 vs (cellsOf fun j => if j = i then (ls i).set k x else ls j) := by
  refine h.congr fun j _ => ?_
  unfold cellsOf encs
  by_cases hj : j = i
  · simp only [if_pos hj, List.map_set]
  · simp only [if_neg hj]
theorem PutAt.store (h : PutAt w base B t1 vs ls) {i : Nat} {g n c : Nat} (hi : vs[i]? = some (.slice (some ⟨g, 0, none⟩) n c)) (k : Nat) (x : Int) :
    PutAt (w.setCell ⟨g, k, none⟩ ((Value.int .i64) x)) base B t1 vs (fun j => if j = i then (ls i).set k x else ls j) ∧ base ≤ g := by
  obtain ⟨hk, hg⟩ := h.k1.put hi k ((Value.int .i64) x)
  obtain ⟨cs, h1, h2⟩ := h.blk
  have hrow := h.k1.row i _ hi
  have hne : some B ≠ (Value.slice (some ⟨g, 0, none⟩) n c).ownBlock := own_ne hrow h1 (by decide)
  have hne' : some B ≠ some g := hne
  have hbase := own_base hrow g rfl
  refine ⟨⟨⟨cs, blk_grown h1 hg hne', h2⟩, hg.cell h.c1 hne', fun j a b c => hg.cell (h.others j a b c) hne', h.hB, own_other h.a1 hg ?_, upd_cells hk⟩, hbase⟩
  have := own_type_ne h.a1 hrow (by decide)
  exact this
end
theorem list_eq {l l' : List Int} (hl : l.length = l'.length) (h : ∀ q : Nat, q < l'.length → l[q]? = l'[q]?) : l = l' := by
  apply List.ext_getElem? 
  intro q
  rcases Nat.lt_or_ge q l'.length with hq | hq
  · exact h q hq
  · rw [List.getElem?_eq_none (by omega), List.getElem?_eq_none (by omega)]
set_option maxHeartbeats 2000000 in
set_option maxRecDepth 100000 in
theorem put_any {w0 w : World} {base B : Nat} {t1 : Value} {vs : List Value} {ls : Nat → List Int} (h : PutAt w base B t1 vs ls) (h0 : Below base w0 w) (hb0 : base ≤ w.heap.size) (hn : vs.length ≤ 1000000) (hl : ∀ i, i < vs.length → (ls i).length ≤ 1000000) :
    Calls Try.prog 25 #[.pointer (some ⟨B, 0, none⟩)] w fun e w' => e = .returned (.tuple #[]) ∧ PutAt w' base B t1 vs (fun i => marks i 0 (ls i).length) ∧ Below base w0 w' := by
  obtain ⟨A1, k1, rfl⟩ := own_slice h.a1
  have H := Aside0.mk h
  have H0 := Aside0.mk h0
  have HB0 := Aside0.mk hb0
  have HN := Aside0.mk hn
  have HL := Aside0.mk hl
  clear h hn hl h0 hb0
  go_enter Try.func25, Try.ntmps25
  go_wp2
  go_loopw [2] (fun v2 wr => ∃ (i : Nat) (ls' : Nat → List Int), v2 = .int .i64 i ∧ Aside0 (i ≤ vs.length) ∧ Aside0 (PutAt wr base B (.slice A1 vs.length k1) vs ls') ∧ Aside0 (Below base w0 wr) ∧ Aside0 (base ≤ wr.heap.size) ∧ Aside0 (∀ j, j < vs.length → ls' j = if j < i then marks j 0 (ls j).length else ls j)) (fun v2 _ => vs.length - (intOf v2).toNat)
  case atStart => exact ⟨0, ls, rfl, ⟨Nat.zero_le _⟩, H, H0, HB0, ⟨fun j _ => by rw [if_neg (by omega)]⟩⟩
  case round =>
    obtain ⟨i, ls', rfl, HI, HP, HBW, HBS, HLS⟩ := hrel
    have hc1 := HP.out.c1
    have hi := HI.out
    have hn := HN.out
    by_cases hlt : i < vs.length
    · have hd0 : decide ((i : Int) < (vs.length : Int)) = true := decide_eq_true (by omega)
      have hd0' : decide (i < vs.length) = true := decide_eq_true hlt
      have HLT := Aside0.mk hlt
      have p1 : (0 : Int) ≤ (i : Int) := by omega
      have p2 : (i : Int) < (vs.length : Int) := by omega
      obtain ⟨g1, c1, e1, hk1, hx1⟩ := arr_form HP.out.a1 i hlt
      injection e1 with e1 _ e1c
      subst e1 e1c
      have r1 := HP.out.k1.row i _ (List.getElem?_eq_getElem hlt)
      have hcl : (cellsOf ls' i).length = (ls' i).length := encs_length _
      rw [hcl] at r1
      obtain ⟨B1, d1, f1, hd1, C1⟩ := row_read r1
      rw [f1] at hx1
      have hlen : (ls' i).length = (ls i).length := by rw [HLS.out i hlt, if_neg (by omega)]
      rw [hlen] at hx1
      have HF1 := Aside0.mk ((List.getElem?_eq_getElem hlt).trans (congrArg some (f1.trans (by rw [hlen]))) : vs[i]? = some (.slice B1 (ls i).length d1))
      have HLEN := Aside0.mk hlen
      have HGS := own_lt r1
      rw [f1, hlen] at HGS
      obtain ⟨S, hS⟩ : ∃ S, wr.heap.size = S := ⟨_, rfl⟩
      rw [hS] at HGS
      have HGS1 := Aside0.mk HGS
      have HSS := Aside0.mk hS
      clear r1 hcl hi hn hlen f1 hd1 C1 hlt HGS hS
      go_wp2_with (go_at_call 44; refine (mark_calls i 0 (ls i).length (by have := HL.out i HLT.out; omega) _).mono ?_; rintro e w2 ⟨v, rfl, HM, hb2⟩; obtain ⟨A2, c2, rfl⟩ := own_slice HM.out)
      have HM1 := HM.out
      rw [HSS.out] at HM1
      have HM2 := Aside0.mk HM1
      clear HM HM1
      have HP2 := Aside0.mk (HP.out.below hb2)
      have HBW2 := Aside0.mk (below_then HBW.out HBS.out hb2)
      have HBS2 := Aside0.mk (Nat.le_trans HBS.out hb2.size)
      have HS2 := Aside0.mk hb2.size
      clear hb2 hx1 hc1
      go_loopw [4] (fun v4 w3 => ∃ (k : Nat) (ls2 : Nat → List Int), v4 = .int .i64 k ∧ Aside0 (k ≤ (ls i).length) ∧ Aside0 (PutAt w3 base B (.slice (some ⟨g1, 0, none⟩) vs.length k1) vs ls2) ∧ Aside0 (Below base w0 w3) ∧ Aside0 (base ≤ w3.heap.size) ∧ Aside0 (w3.ownsRow S 3 1 (.slice A2 (ls i).length c2) (ls i).length (encs (Value.int .i64) (marks i 0 (ls i).length))) ∧ Aside0 (∀ j, j < vs.length → j ≠ i → ls2 j = ls' j) ∧ Aside0 ((ls2 i).length = (ls i).length ∧ ∀ q : Nat, q < k → (ls2 i)[q]? = (marks i 0 (ls i).length)[q]?)) (fun v4 _ => (ls i).length - (intOf v4).toNat)
      case atStart => exact ⟨0, ls', rfl, ⟨Nat.zero_le _⟩, HP2, HBW2, HBS2, HM2, ⟨fun j _ _ => rfl⟩, ⟨HLEN.out, fun q hq => by omega⟩⟩
      case round =>
        obtain ⟨k, ls2, rfl, HK, HP3, HBW3, HBS3, HM3, HO3, HQ3⟩ := hrel
        have hk := HK.out
        by_cases hkl : k < (ls i).length
        · have HKL := Aside0.mk hkl
          have hd1 : decide ((k : Int) < ((ls i).length : Int)) = true := decide_eq_true (by omega)
          have hd1' : decide (k < (ls i).length) = true := decide_eq_true hkl
          have b1 : (0 : Int) ≤ (k : Int) := by omega
          have b2 : (k : Int) < ((ls i).length : Int) := by omega
          have r1 := HP3.out.k1.row i _ HF1.out
          have hcl : (cellsOf ls2 i).length = (ls2 i).length := encs_length _
          rw [hcl, HQ3.out.1] at r1
          obtain ⟨g, d1', f1, hg1, hg2⟩ := r1.form (by omega)
          injection f1 with f1 _ f1c
          subst f1 f1c
          obtain ⟨g2, c2', f2, hg3, hg4⟩ := HM3.out.form (by omega)
          injection f2 with f2 _ f2c
          subst f2 f2c
          have hmk : k < (marks i 0 (ls i).length).length := by rw [marks_length]; exact hkl
          obtain ⟨X, hX⟩ : ∃ X, (marks i 0 (ls i).length)[k]? = some X := ⟨_, List.getElem?_eq_getElem hmk⟩
          have hcm : wr.cell? ⟨g2, k, none⟩ = some ((Value.int .i64) X) := by
            have := HM3.out.cells (g := g2) rfl k ((Value.int .i64) X) (by unfold encs; rw [List.getElem?_map, hX]; rfl)
            rwa [add_plain] at this
          have hcc1 := HP3.out.c1
          obtain ⟨g3, c3, e3, _, hcx⟩ := arr_form HP3.out.a1 i HLT.out
          injection e3 with e3 _ e3c
          injection e3 with e3
          injection e3 with e3 _ _
          subst e3 e3c
          have hvi : vs[i]'(HLT.out) = .slice (some ⟨g, 0, none⟩) (ls i).length d1 := Option.some.inj ((List.getElem?_eq_getElem HLT.out).symm.trans HF1.out)
          rw [hvi] at hcx
          have hkc : k < (cellsOf ls2 i).length := by rw [hcl, HQ3.out.1]; exact hkl
          obtain ⟨Y, hY⟩ : ∃ Y, (cellsOf ls2 i)[k]? = some Y := ⟨_, List.getElem?_eq_getElem hkc⟩
          have hcg : wr.cell? ⟨g, k, none⟩ = some Y := by
            have := r1.cells (g := g) rfl k _ hY
            rwa [add_plain] at this
          obtain ⟨cells, hgt⟩ := own_typed r1 g rfl
          have hfz : wr.frozen? ⟨g, k, none⟩ = false := blk_frozen hgt k
          have hst := HP3.out.store HF1.out k X
          have HST := Aside0.mk hst
          have HNE := Aside0.mk (show g ≠ g2 by have := HGS1.out g rfl; omega)
          have HGT := Aside0.mk hgt
          have HX := Aside0.mk hX
          clear r1 hcl hg1 hg2 hg3 hg4 hkc hvi hst hgt hk hkl hX hY hmk
          go_wp2_with fail
          go_region
          go_wp2
          go_roundw
          case rel =>
            have h1 := HKL.out
            have h2 := HL.out i HLT.out
            have hst := HST.out
            have hb1 : ∀ W : World, Below W.heap.size W W.drew := fun W => below_drew (Below.refl _ _)
            refine ⟨k + 1, fun j => if j = i then (ls2 i).set k X else ls2 j, by rw [step1 k (by omega)], ⟨by omega⟩, ⟨hst.1.below (hb1 _)⟩, ⟨below_drew (HBW3.out.setCell (p := ⟨g, k, none⟩) hst.2 ((Value.int .i64) X))⟩, ⟨?_⟩, ⟨pw_own_below (own_setCell HM3.out ?_ _) (hb1 _)⟩, ⟨fun j hj hne => ?_⟩, ⟨?_, fun q hq => ?_⟩⟩
            · have := HBS3.out
              simpa using this
            · intro he
              exact HNE.out (by simpa [Value.ownBlock] using he)
            · simp only [if_neg hne]
              exact HO3.out j hj hne
            · simp only [eq_self, if_true, List.length_set]
              exact HQ3.out.1
            · simp only [eq_self, if_true]
              by_cases hqk : q = k
              · subst hqk
                rw [List.getElem?_set_self (by rw [HQ3.out.1]; exact h1), HX.out]
              · rw [List.getElem?_set_ne (fun e => hqk e.symm)]
                exact HQ3.out.2 q (by omega)
          case measure => have h1 := HKL.out; have h2 := HL.out i HLT.out; exact meas _ k h1 (by omega)
        · have hd1 : decide ((k : Int) < ((ls i).length : Int)) = false := decide_eq_false (by omega)
          have hd1' : decide (k < (ls i).length) = false := decide_eq_false hkl
          have hkn := Aside0.mk (show k = (ls i).length by omega)
          have hcc1 := HP3.out.c1
          clear hk
          go_wp2
          go_roundw
          case rel =>
            have h1 := HLT.out
            have h2 := HN.out
            refine ⟨i + 1, ls2, by rw [step1 i (by omega)], ⟨by omega⟩, HP3, HBW3, HBS3, ⟨fun j hj => ?_⟩⟩
            by_cases hji : j = i
            · subst hji
              rw [if_pos (by omega)]
              exact list_eq (by rw [HQ3.out.1, marks_length]) (fun q hq => HQ3.out.2 q (by rw [marks_length] at hq; rw [hkn.out]; exact hq))
            · rw [HO3.out j hj hji, HLS.out j hj]
              by_cases hlt : j < i
              · rw [if_pos hlt, if_pos (by omega)]
              · rw [if_neg hlt, if_neg (by omega)]
          case measure => have h1 := HLT.out; have h2 := HN.out; exact meas _ i h1 (by omega)
    · have hd0 : decide ((i : Int) < (vs.length : Int)) = false := decide_eq_false (by omega)
      have hd0' : decide (i < vs.length) = false := decide_eq_false hlt
      have HIN := Aside0.mk (show i = vs.length by omega)
      clear hi hn
      go_wp2
      refine bodyPost_end (v := .tuple #[]) (by simp [results, Try.results25, go_sem]) rfl ⟨rfl, ?_, HBW.out⟩
      have hp := HP.out
      refine ⟨hp.blk, hp.c1, hp.others, hp.hB, hp.a1, hp.k1.congr fun j hj => ?_⟩
      unfold cellsOf
      rw [HLS.out j hj, if_pos (by rw [HIN.out]; exact hj)]
end BookInts
end Go.Proofs.Ytoccpgnbdjinjaa
