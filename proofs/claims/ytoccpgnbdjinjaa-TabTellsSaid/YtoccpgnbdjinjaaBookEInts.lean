/- The book's lists (Ints) are grown: what that leaves in memory. -/
import Derived.Test.YtoccpgnbdjinjaaBookDInts
set_option linter.unusedVariables false
set_option linter.unusedSimpArgs false
namespace Go.Proofs.Ytoccpgnbdjinjaa
open Go.RowKit Go.Proofs.YtoccpgnbdjinjaaW.PrintWords Go.Proofs.YtoccpgnbdjinjaaW.PrintLast Go.Proofs.YtoccpgnbdjinjaaW.PrintMore
attribute [local go_sem ↓] Go.wp_at_zero Go.wp_at_succ
namespace BookInts
open Book
theorem infoE : (Try.prog.info? 3).map (fun i => (i.zero, i.size, i.bytes)) = some (some (.int .i64 0), 1, 8) := by kernel_rfl
theorem infoEA : (Try.prog.info? 22).map (fun i => (i.zero, i.size, i.bytes)) = some (some (.slice none 0 0), 1, 24) := by kernel_rfl
section
variable {w w1 : World} {base base' B : Nat} {t1 t2 : Value} {vs ws : List Value} {ls : Nat → List Int}
theorem PutAt.grow (h : PutAt w base B t1 vs ls) {v5 : Value} {n5 : Nat} {xs5 : List Value} (h5 : w.ownsRow base' 3 1 v5 n5 xs5) (hg : w.grownBy w1 v5.ownBlock) (hk : Kept w1 base 3 vs (cellsOf ls)) : PutAt w1 base B t1 vs ls := by
  obtain ⟨cs, h1, h2⟩ := h.blk
  have hne : some B ≠ v5.ownBlock := own_ne h5 h1 (by decide)
  exact ⟨⟨cs, blk_grown h1 hg hne, h2⟩, hg.cell h.c1 hne, fun j a b c => hg.cell (h.others j a b c) hne, h.hB, own_other h.a1 hg (own_type_ne h.a1 h5 (by decide)), hk⟩
/-- .. where a row of rows grows. -/
theorem PutAt.growA (h : PutAt w base B t1 vs ls) {v5 : Value} {n5 : Nat} {xs5 : List Value} (h5 : w.ownsRow base' 22 1 v5 n5 xs5) (hne1 : NeRow v5 t1) (hg : w.grownBy w1 v5.ownBlock) : PutAt w1 base B t1 vs ls := by
  obtain ⟨cs, h1, h2⟩ := h.blk
  have hne : some B ≠ v5.ownBlock := own_ne h5 h1 (by decide)
  exact ⟨⟨cs, blk_grown h1 hg hne, h2⟩, hg.cell h.c1 hne, fun j a b c => hg.cell (h.others j a b c) hne, h.hB, own_other h.a1 hg (ne_other hne1), h.k1.grown hg fun i v hv => own_type_ne (h.k1.row i v hv) h5 (by decide)⟩
end
theorem one_enc (l : List Int) : ∀ u ∈ encs (Value.int .i64) l, u.oneCell' = true := by
  intro u hu
  obtain ⟨x, _, rfl⟩ := List.mem_map.1 hu
  rfl
theorem encs_marks (i m n : Nat) : encs (Value.int .i64) (marks i 0 m) ++ encs (Value.int .i64) (marks i m n) = encs (Value.int .i64) (marks i 0 (m + n)) := by
  rw [← encs_append, ← marks_append, Nat.zero_add]
/-- What has grown so far. -/
structure Outs (w : World) (base i : Nat) (v3 t1 : Value) (vs outs : List Value) (ls : Nat → List Int) : Prop where
  len : outs.length = i
  arr : w.ownsRow base 22 1 v3 outs.length outs
  row : ∀ (j : Nat) (u : Value), outs[j]? = some u → w.ownsRow base 3 1 u ((ls j).length + 72) (encs (Value.int .i64) (marks j 0 ((ls j).length + 72)))
  ne : ∀ (j k : Nat) (u v : Value), outs[j]? = some u → i ≤ k → vs[k]? = some v → NeRow u v
  ne1 : NeRow v3 t1
section
variable {w w1 : World} {base base' B S i : Nat} {v3 t1 t2 v5 vi : Value} {vs ws outs : List Value} {ls : Nat → List Int}
theorem Outs.below (h : Outs w base i v3 t1 vs outs ls) (hb : Below w.heap.size w w1) : Outs w1 base i v3 t1 vs outs ls := ⟨h.len, pw_own_below h.arr hb, fun j u hu => pw_own_below (h.row j u hu) hb, h.ne, h.ne1⟩
theorem Outs.grow (h : Outs w base i v3 t1 vs outs ls) (hi : vs[i]? = some vi) (hS : ∀ (j : Nat) (u : Value), outs[j]? = some u → ∀ b, u.ownBlock = some b → b < S) {n5 : Nat} {xs5 : List Value} (h5 : w.ownsRow base' 3 1 v5 n5 xs5)
    (hat : v5.ownBlock = vi.ownBlock ∨ ∃ b, v5.ownBlock = some b ∧ S ≤ b) (hg : w.grownBy w1 v5.ownBlock) : Outs w1 base i v3 t1 vs outs ls :=
  ⟨h.len, own_other h.arr hg (own_type_ne h.arr h5 (by decide)), fun j u hu => out_grow (h.row j u hu) (h.ne j i u vi hu (Nat.le_refl _) hi) (hS j u hu) hat hg, h.ne, h.ne1⟩
end
theorem Outs.push {w w7 : World} {base S i m : Nat} {v3 t1 v6 v7 vi : Value} {vs outs ts : List Value} {ls : Nat → List Int} {f : Nat → List Value} (h : Outs w base i v3 t1 vs outs ls) (hk : Kept w base 3 vs f) (hvi : vs[i]? = some vi)
    (hS : ∀ (k : Nat) (v : Value), vs[k]? = some v → ∀ b, v.ownBlock = some b → b < S) (ht1 : w.ownsRow base 22 1 t1 m ts) (h6 : w.ownsRow base 3 1 v6 ((ls i).length + 72) (encs (Value.int .i64) (marks i 0 ((ls i).length + 72))))
    (hat : v6.ownBlock = vi.ownBlock ∨ ∃ b, v6.ownBlock = some b ∧ S ≤ b) (hown : w7.ownsRow base 22 1 v7 (outs ++ [v6]).length (outs ++ [v6])) (hg : w.grownBy w7 v3.ownBlock)
    (hat7 : v7.ownBlock = v3.ownBlock ∨ ∃ b, v7.ownBlock = some b ∧ w.heap.size ≤ b) : Outs w7 base (i + 1) v7 t1 vs (outs ++ [v6]) ls := by
  have key : ∀ (j : Nat) (u : Value), (outs ++ [v6])[j]? = some u → (j < i ∧ outs[j]? = some u) ∨ (j = i ∧ u = v6) := by
    intro j u hu
    have hl := h.len
    rcases Nat.lt_or_ge j outs.length with hj | hj
    · exact .inl ⟨by omega, by rwa [List.getElem?_append_left hj] at hu⟩
    · rw [List.getElem?_append_right hj] at hu
      have h2 := (List.getElem?_eq_some_iff.1 hu).1
      have h3 : j = outs.length := by simp at h2; omega
      subst h3
      simp at hu
      exact .inr ⟨hl, hu.symm⟩
  refine ⟨by simp [h.len], hown, fun j u hu => ?_, fun j k u v hu hk2 hv => ?_, ?_⟩
  · rcases key j u hu with ⟨_, hu⟩ | ⟨e1, e2⟩
    · exact own_other (h.row j u hu) hg (own_type_ne (h.row j u hu) h.arr (by decide))
    · rw [e1, e2]
      exact own_other h6 hg (own_type_ne h6 h.arr (by decide))
  · rcases key j u hu with ⟨_, hu⟩ | ⟨e1, e2⟩
    · exact h.ne j k u v hu (by omega) hv
    · rw [e2]
      intro b hb hb2
      rcases hat with hat | ⟨b', hb', hbS⟩
      · rw [hat] at hb
        exact hk.ne i k vi v hvi hv (by omega) b hb hb2
      · rw [hb'] at hb
        injection hb with hb
        have := hS k v hv b hb2
        omega
  · intro b hb hb2
    rcases hat7 with hat7 | ⟨b', hb', hle⟩
    · rw [hat7] at hb
      exact h.ne1 b hb hb2
    · rw [hb'] at hb
      injection hb with hb
      have := own_lt ht1 b hb2
      omega
set_option maxHeartbeats 4000000 in
set_option maxRecDepth 100000 in
theorem grow_any {w0 w : World} {base B : Nat} {t1 : Value} {vs : List Value} {ls : Nat → List Int} (h : PutAt w base B t1 vs ls) (hm : ∀ i, i < vs.length → ls i = marks i 0 (ls i).length) (h0 : Below base w0 w) (hb0 : base ≤ w.heap.size) (hn : vs.length ≤ 1000000) (hl : ∀ i, i < vs.length → (ls i).length ≤ 1000000) :
    Calls Try.prog 30 #[.pointer (some ⟨B, 0, none⟩)] w fun e w' => ∃ v3 outs, e = .returned v3 ∧ PutAt w' base B t1 vs ls ∧ Outs w' base vs.length v3 t1 vs outs ls ∧ Below base w0 w' ∧ base ≤ w'.heap.size := by
  obtain ⟨A1, k1, rfl⟩ := own_slice h.a1
  have H := Aside0.mk h
  have H0 := Aside0.mk h0
  have HB0 := Aside0.mk hb0
  have HN := Aside0.mk hn
  have HL := Aside0.mk hl
  have HMK := Aside0.mk hm
  clear h hn hl h0 hb0 hm
  go_enter Try.func30, Try.ntmps30
  go_wp2
  go_loopw [3, 4] (fun v3 v4 wr => ∃ (i : Nat) (outs : List Value), v4 = .int .i64 i ∧ Aside0 (i ≤ vs.length) ∧ Aside0 (Outs wr base i v3 (.slice A1 vs.length k1) vs outs ls) ∧ Aside0 (PutAt wr base B (.slice A1 vs.length k1) vs ls) ∧ Aside0 (Below base w0 wr) ∧ Aside0 (base ≤ wr.heap.size)) (fun _ v4 _ => vs.length - (intOf v4).toNat)
  case atStart => exact ⟨0, [], rfl, ⟨Nat.zero_le _⟩, ⟨⟨rfl, World.ownsRow_nil _ _ _ _, fun j u hu => by simp at hu, fun j k u v hu => by simp at hu, ne_nil _⟩⟩, H, H0, HB0⟩
  case round =>
    obtain ⟨i, outs, rfl, HI, HO, HP, HBW, HBS⟩ := hrel
    have hc1 := HP.out.c1
    have hi := HI.out
    have hn := HN.out
    by_cases hlt : i < vs.length
    · have hd0 : decide ((i : Int) < (vs.length : Int)) = true := decide_eq_true (by omega)
      have hd0' : decide (i < vs.length) = true := decide_eq_true hlt
      have HLT := Aside0.mk hlt
      have p1 : (0 : Int) ≤ (i : Int) := by omega
      have p2 : (i : Int) < (vs.length : Int) := by omega
      obtain ⟨g1, c1, e1, hk1, hx1⟩ := arr_form HP.out.a1 i hlt
      injection e1 with e1 _ e1c
      subst e1 e1c
      have r1 := HP.out.k1.row i _ (List.getElem?_eq_getElem hlt)
      have hcl : (cellsOf ls i).length = (ls i).length := encs_length _
      rw [hcl] at r1
      obtain ⟨vi, hvi⟩ : ∃ vi, vs[i]? = some vi := ⟨_, List.getElem?_eq_getElem hlt⟩
      have hvi2 : vs[i] = vi := Option.some.inj ((List.getElem?_eq_getElem hlt).symm.trans hvi)
      rw [hvi2] at hx1 r1
      obtain ⟨S, hS⟩ : ∃ S, wr.heap.size = S := ⟨_, rfl⟩
      have HVI := Aside0.mk hvi
      have HR1 := Aside0.mk r1
      have HSV := Aside0.mk (fun (k : Nat) (v : Value) (hv : vs[k]? = some v) b hb => hS ▸ own_lt (HP.out.k1.row k v hv) b hb : ∀ (k : Nat) (v : Value), vs[k]? = some v → ∀ b, v.ownBlock = some b → b < S)
      have HSO := Aside0.mk (fun (k : Nat) (v : Value) (hv : outs[k]? = some v) b hb => hS ▸ own_lt (HO.out.row k v hv) b hb : ∀ (k : Nat) (v : Value), outs[k]? = some v → ∀ b, v.ownBlock = some b → b < S)
      have HSS := Aside0.mk (show S ≤ wr.heap.size by omega)
      clear hcl hi hn r1 hvi hvi2 hlt hS
      go_wp2_with fail
      go_loopw [5, 6] (fun v5 v6 w3 => ∃ (q N : Nat), v6 = .int .i64 q ∧ Aside0 (q ≤ 12 ∧ N = (ls i).length + q) ∧ Aside0 (w3.ownsRow base 3 1 v5 N (encs (Value.int .i64) (marks i 0 N))) ∧ Aside0 (v5.ownBlock = vi.ownBlock ∨ ∃ b, v5.ownBlock = some b ∧ S ≤ b) ∧ Aside0 (Outs w3 base i u3 (.slice (some ⟨g1, 0, none⟩) vs.length k1) vs outs ls) ∧ Aside0 (PutAt w3 base B (.slice (some ⟨g1, 0, none⟩) vs.length k1) vs ls) ∧ Aside0 (Below base w0 w3) ∧ Aside0 (base ≤ w3.heap.size ∧ S ≤ w3.heap.size)) (fun _ v6 _ => 12 - (intOf v6).toNat)
      case atStart => exact ⟨0, (ls i).length, rfl, ⟨by omega, rfl⟩, ⟨by have := HR1.out; unfold cellsOf at this; rwa [HMK.out i HLT.out, marks_length] at this⟩, ⟨.inl rfl⟩, HO, HP, HBW, ⟨HBS.out, HSS.out⟩⟩
      case round =>
        obtain ⟨q, N, rfl, HQ, HROW, HAT, HO2, HP2, HBW2, HBS2⟩ := hrel
        obtain ⟨A5, c5, rfl⟩ := own_slice HROW.out
        have hq := HQ.out
        have hlN := HL.out i HLT.out
        have hby : (N + 1) * 8 ≤ 140737488355328 := by omega
        have HBY := Aside0.mk hby
        have HNB := Aside0.mk (show N + 1 ≤ 1000000000 by omega)
        have HCN := Aside0.mk (show (cellsOf ls i).length ≤ N by unfold cellsOf; rw [encs_length]; omega)
        by_cases hqq : q < 12
        · have hd2 : decide ((q : Int) < 12) = true := decide_eq_true (by omega)
          have HQQ := Aside0.mk hqq
          clear hq hqq hlN hby
          go_wp2_with (first
            | (go_at_call 44; refine (mark_calls i N 1 HNB.out _).mono ?_; rintro e w4 ⟨vm, rfl, HM, hb4⟩; have HROW4 := Aside0.mk (pw_own_below HROW.out hb4); have HO4 := Aside0.mk (HO2.out.below hb4); have HP4 := Aside0.mk (HP2.out.below hb4); have HBW4 := Aside0.mk (below_then HBW2.out HBS2.out.1 hb4); have HBS4 : Aside0 (base ≤ w4.heap.size ∧ S ≤ w4.heap.size) := ⟨⟨Nat.le_trans HBS2.out.1 hb4.size, Nat.le_trans HBS2.out.2 hb4.size⟩⟩; clear hb4)
            | (at_builtin; refine wpList_append_keep rfl (.tmp 27) (.tmp 31) 22 3 rfl (.int .i64 0) 8 Try.underlying22 infoE rfl (by decide) base (.slice A5 N c5) N _ rfl HROW4.out _ vm 1 _ rfl HM.out (one_enc _) (by decide) HBY.out HBS4.out.1 ?_; intro v6 w5 hown hg hat hk; rw [encs_marks] at hown; have HROW5 := Aside0.mk hown; have HAT5 := Aside0.mk (at_step HAT.out HBS4.out.2 hat); have HO5 := Aside0.mk (HO4.out.grow HVI.out HSO.out HROW4.out HAT.out hg); have HP5 := Aside0.mk (HP4.out.grow HROW4.out hg (Kept.grow HP4.out.k1 HVI.out HSV.out HROW4.out HCN.out HAT.out hg hk)); have HBW5 := Aside0.mk (pw_below_grown HBW4.out _ HBS4.out.1 hg (own_base HROW4.out)); have HBS5 : Aside0 (base ≤ w5.heap.size ∧ S ≤ w5.heap.size) := ⟨⟨Nat.le_trans HBS4.out.1 hg.size, Nat.le_trans HBS4.out.2 hg.size⟩⟩; clear hown hg hat hk))
          go_roundw
          case rel =>
            have h1 := HQ.out
            have h2 := HQQ.out
            exact ⟨q + 1, N + 1, by rw [step1 q (by omega)], ⟨by omega⟩, HROW5, HAT5, HO5, HP5, HBW5, HBS5⟩
          case measure => have h2 := HQQ.out; exact meas _ q h2 (by omega)
        · have hd2 : decide ((q : Int) < 12) = false := decide_eq_false (by omega)
          have HNN := Aside0.mk (show N + 60 = (ls i).length + 72 by omega)
          have HBY2 := Aside0.mk (show (N + 60) * 8 ≤ 140737488355328 by omega)
          have HNB2 := Aside0.mk (show N + 60 ≤ 1000000000 by omega)
          have HOL := Aside0.mk (show (outs.length + 1) * 24 ≤ 140737488355328 by have := HO2.out.len; have := HN.out; have := HLT.out; omega)
          clear hq hqq hlN hby
          go_wp2_with (first
            | (go_at_call 44; refine (mark_calls i N 60 HNB2.out _).mono ?_; rintro e w4 ⟨vm, rfl, HM, hb4⟩; have HROW4 := Aside0.mk (pw_own_below HROW.out hb4); have HO4 := Aside0.mk (HO2.out.below hb4); have HP4 := Aside0.mk (HP2.out.below hb4); have HBW4 := Aside0.mk (below_then HBW2.out HBS2.out.1 hb4); have HBS4 : Aside0 (base ≤ w4.heap.size ∧ S ≤ w4.heap.size) := ⟨⟨Nat.le_trans HBS2.out.1 hb4.size, Nat.le_trans HBS2.out.2 hb4.size⟩⟩; clear hb4)
            | (at_builtin; refine wpList_append_keep rfl (.tmp 34) (.tmp 38) 22 3 rfl (.int .i64 0) 8 Try.underlying22 infoE rfl (by decide) base (.slice A5 N c5) N _ rfl HROW4.out _ vm 60 _ rfl HM.out (one_enc _) (by decide) HBY2.out HBS4.out.1 ?_; intro v6 w5 hown hg hat hk; rw [encs_marks, HNN.out] at hown; obtain ⟨A6, c6, rfl⟩ := own_slice hown; have HROW5 := Aside0.mk hown; have HAT5 := Aside0.mk (at_step HAT.out HBS4.out.2 hat); have HO5 := Aside0.mk (HO4.out.grow HVI.out HSO.out HROW4.out HAT.out hg); have HP5 := Aside0.mk (HP4.out.grow HROW4.out hg (Kept.grow HP4.out.k1 HVI.out HSV.out HROW4.out HCN.out HAT.out hg hk)); have HBW5 := Aside0.mk (pw_below_grown HBW4.out _ HBS4.out.1 hg (own_base HROW4.out)); have HBS5 : Aside0 (base ≤ w5.heap.size ∧ S ≤ w5.heap.size) := ⟨⟨Nat.le_trans HBS4.out.1 hg.size, Nat.le_trans HBS4.out.2 hg.size⟩⟩; clear hown hg hat hk)
            | (at_builtin; refine print_append base rfl (.tmp 33) (.tmp 40) 32 22 (.slice none 0 0) 24 rfl Try.underlying32 infoEA rfl (by decide) u3 outs (.slice A6 ((ls i).length + 72) c6) rfl rfl rfl HO5.out.arr HBW5.out HBS5.out.1 HOL.out ?_; intro v7 w7 hown hb7 hg hat; have HO7 := Aside0.mk (Outs.push HO5.out HP5.out.k1 HVI.out HSV.out HP5.out.a1 HROW5.out HAT5.out hown hg hat); have HP7 := Aside0.mk (HP5.out.growA HO5.out.arr HO5.out.ne1 hg); have HBW7 := Aside0.mk hb7; have HBS7 := Aside0.mk (Nat.le_trans HBS5.out.1 hg.size); clear hown hb7 hg hat))
          go_roundw
          case rel =>
            have h1 := HLT.out
            have h2 := HN.out
            exact ⟨i + 1, _, by rw [step1 i (by omega)], ⟨by omega⟩, HO7, HP7, HBW7, HBS7⟩
          case measure => have h1 := HLT.out; have h2 := HN.out; exact meas _ i h1 (by omega)
    · have hd0 : decide ((i : Int) < (vs.length : Int)) = false := decide_eq_false (by omega)
      have hd0' : decide (i < vs.length) = false := decide_eq_false hlt
      have HIN := Aside0.mk (show i = vs.length by omega)
      clear hi hn
      go_wp2
      go_ret
      have ho := HO.out
      rw [HIN.out] at ho
      exact ⟨_, outs, rfl, HP.out, ho, HBW.out, HBS.out⟩
end BookInts
end Go.Proofs.Ytoccpgnbdjinjaa
