/- One more list (Ints) for the book; the book's last question. -/
import Derived.Test.YtoccpgnbdjinjaaBookFInts
import Derived.Deep.RegionLaw
set_option linter.unusedVariables false
set_option linter.unusedSimpArgs false
namespace Go.Proofs.Ytoccpgnbdjinjaa
open Go.RowKit Go.Proofs.YtoccpgnbdjinjaaW.PrintWords Go.Proofs.YtoccpgnbdjinjaaW.PrintLast Go.Proofs.YtoccpgnbdjinjaaW.PrintMore
attribute [local go_sem ↓] Go.wp_at_zero Go.wp_at_succ
namespace BookInts
open Book
theorem wanted_of {oi : Oper} {ops : Array Oper} {a : Act} (hg : oi.guard = none) : Region.wanted oi (yielded ops a.tmps) = true := by simp [Region.wanted, hg]
theorem call_step1 {P : Program} {ops : Array Oper} {Q : Exit → Act → World → Prop} {oi : Oper} {N : Option Tmp} {a : Act} {w : World} {K : Act → World → Prop} {f : FuncId} {fn : Func} {x : Operand} {t : TypeId} (v : Value)
    (hN : oi.dst = N) (hop : oi.op = .call { callee := .value (.func f), args := #[x], argTypes := #[t] }) (hx : a.eval x = v) (hg : oi.guard = none) (hf : P.funcs[f]? = some fn) (hname : (fn.name == "runtime.NumGoroutine") = false) (hb : fn.body.isSome = true)
    (h : Calls P f #[v] w fun e w' => ∃ v, e = .returned v ∧ K (a.put N v) w') : if Region.wanted oi (yielded ops a.tmps) = true then Oper.wp P oi a w K Q else K (a.put N undef) w := goes_ hf hname hb #[v] (wanted_of hg) hN hop (by simp [hx]) h
theorem nameCopy : (Try.f19.name == "runtime.NumGoroutine") = false := by kernel_rfl
section
variable {w w1 : World} {base base' B : Nat} {t1 t2 : Value} {vs ws : List Value} {ls : Nat → List Int}
theorem BookAt.below (h : BookAt w base B t1 t2 vs ws ls) (hb : Below w.heap.size w w1) : BookAt w1 base B t1 t2 vs ws ls := by
  obtain ⟨cs, h1, h2⟩ := h.blk
  exact ⟨⟨cs, blk_below h1 hb, h2⟩, pw_cell_below hb h.c1, pw_cell_below hb h.c2, fun j a b c => pw_cell_below hb (h.others j a b c), h.hB, pw_own_below h.a1 hb, pw_own_below h.a2 hb, h.ne, h.k1.below hb, fun i u hu => pw_own_below (h.k2 i u hu) hb, h.len⟩
/-- A new book. -/
theorem BookAt.new (w : World) (hb : base ≤ w.heap.size) : BookAt (w.alloc (.cells (Array.replicate 10 (.slice none 0 0)) BT)) base w.heap.size (.slice none 0 0) (.slice none 0 0) [] [] ls := by
  have hcell : ∀ j, j < 10 → (w.alloc (.cells (Array.replicate 10 (.slice none 0 0)) BT)).cell? ⟨w.heap.size, j, none⟩ = some (.slice none 0 0) := by
    intro j hj
    rw [blk_cell (blk_new w _)]
    rw [Array.getElem?_replicate, if_pos hj]
  exact ⟨⟨_, blk_new w _, by simp⟩, hcell _ (by decide), hcell _ (by decide), fun j h _ _ => hcell j h, hb, World.ownsRow_nil _ _ _ _, World.ownsRow_nil _ _ _ _, ne_nil _, Kept.none_, fun i u hu => by simp at hu, rfl⟩
end
/-- .. while the two rows of lists are not of one length. -/
structure BookPre (w : World) (base B : Nat) (t1 t2 : Value) (vs ws : List Value) (ls : Nat → List Int) : Prop where
  blk : ∃ cs, w.heap[B]? = some (.cells cs BT (0, 0)) ∧ cs.size = 10
  c1 : w.cell? ⟨B, 0, none⟩ = some t1
  c2 : w.cell? ⟨B, 1, none⟩ = some t2
  others : ∀ j, j < 10 → j ≠ 0 → j ≠ 1 → w.cell? ⟨B, j, none⟩ = some (.slice none 0 0)
  hB : base ≤ B
  a1 : w.ownsRow base 22 1 t1 vs.length vs
  a2 : w.ownsRow base 22 1 t2 ws.length ws
  ne : NeRow t1 t2
  k1 : Kept w base 3 vs (cellsOf ls)
  k2 : ∀ (i : Nat) (u : Value), ws[i]? = some u → w.ownsRow base 3 1 u (ls i).length (encs (Value.int .i64) (ls i))
theorem cell_set {w : World} {B t : Nat} {cs : Array Value} (h : w.heap[B]? = some (.cells cs t (0, 0))) (i j : Nat) (u : Value) (hij : j ≠ i) : (w.setCell ⟨B, i, none⟩ u).cell? ⟨B, j, none⟩ = w.cell? ⟨B, j, none⟩ := by
  rw [blk_cell (blk_set h i u), blk_cell h, Array.getElem?_setIfInBounds_ne (fun e => hij e.symm)]
theorem cell_set_eq {w : World} {B t : Nat} {cs : Array Value} (h : w.heap[B]? = some (.cells cs t (0, 0))) (i : Nat) (u : Value) (hi : i < cs.size) : (w.setCell ⟨B, i, none⟩ u).cell? ⟨B, i, none⟩ = some u := by
  rw [blk_cell (blk_set h i u), Array.getElem?_setIfInBounds_self_of_lt hi]
section
variable {w w1 : World} {base B : Nat} {t1 t2 T : Value} {vs ws vs' : List Value} {ls ls' : Nat → List Int}
theorem BookPre.set1 (h : BookPre w base B t1 t2 vs ws ls) (hg : w.grownBy w1 t1.ownBlock) (hat : T.ownBlock = t1.ownBlock ∨ ∃ b, T.ownBlock = some b ∧ w.heap.size ≤ b) (hown : w1.ownsRow base 22 1 T vs'.length vs')
    (hk : Kept w1 base 3 vs' (cellsOf ls')) (hk2 : ∀ (i : Nat) (u : Value), ws[i]? = some u → w1.ownsRow base 3 1 u (ls' i).length (encs (Value.int .i64) (ls' i))) : BookPre (w1.setCell ⟨B, 0, none⟩ T) base B T t2 vs' ws ls' := by
  obtain ⟨cs, h1, h2⟩ := h.blk
  have hne : some B ≠ t1.ownBlock := own_ne h.a1 h1 (by decide)
  have hb := blk_grown h1 hg hne
  refine ⟨⟨_, blk_set hb _ _, by simpa using h2⟩, cell_set_eq hb _ _ (by omega), ?_, fun j a b c => ?_, h.hB, own_setCell hown (own_ne hown hb (by decide)) _, ?_, ?_, hk.set_ hb (by decide) _ _, fun i u hu => own_setCell (hk2 i u hu) (own_ne (hk2 i u hu) hb (by decide)) _⟩
  · rw [cell_set hb _ _ _ (by decide)]
    exact hg.cell h.c2 hne
  · rw [cell_set hb _ _ _ b]
    exact hg.cell (h.others j a b c) hne
  · have ha := own_other h.a2 hg (ne_other h.ne)
    exact own_setCell ha (own_ne ha hb (by decide)) _
  · intro b hbT hb2
    rcases hat with hat | ⟨b', hb', hle⟩
    · rw [hat] at hbT
      exact h.ne b hbT hb2
    · rw [hb'] at hbT
      injection hbT with hbT
      have := own_lt h.a2 b hb2
      omega
theorem BookPre.set2 (h : BookPre w base B t1 t2 vs ws ls) (hg : w.grownBy w1 t2.ownBlock) (hat : T.ownBlock = t2.ownBlock ∨ ∃ b, T.ownBlock = some b ∧ w.heap.size ≤ b) (hown : w1.ownsRow base 22 1 T vs'.length vs')
    (hk2 : ∀ (i : Nat) (u : Value), vs'[i]? = some u → w1.ownsRow base 3 1 u (ls i).length (encs (Value.int .i64) (ls i))) : BookPre (w1.setCell ⟨B, 1, none⟩ T) base B t1 T vs vs' ls := by
  obtain ⟨cs, h1, h2⟩ := h.blk
  have hne : some B ≠ t2.ownBlock := own_ne h.a2 h1 (by decide)
  have hb := blk_grown h1 hg hne
  have hk := h.k1.grown hg fun i v hv => own_type_ne (h.k1.row i v hv) h.a2 (by decide)
  refine ⟨⟨_, blk_set hb _ _, by simpa using h2⟩, ?_, cell_set_eq hb _ _ (by omega), fun j a b c => ?_, h.hB, ?_, own_setCell hown (own_ne hown hb (by decide)) _, ?_, hk.set_ hb (by decide) _ _, fun i u hu => own_setCell (hk2 i u hu) (own_ne (hk2 i u hu) hb (by decide)) _⟩
  · rw [cell_set hb _ _ _ (by decide)]
    exact hg.cell h.c1 hne
  · rw [cell_set hb _ _ _ c]
    exact hg.cell (h.others j a b c) hne
  · have ha := own_other h.a1 hg (ne_other (ne_symm h.ne))
    exact own_setCell ha (own_ne ha hb (by decide)) _
  · intro b hbT hb2
    rcases hat with hat | ⟨b', hb', hle⟩
    · rw [hat] at hb2
      exact h.ne b hbT hb2
    · rw [hb'] at hb2
      injection hb2 with hb2
      have := own_lt h.a1 b hbT
      omega
theorem BookPre.below (h : BookPre w base B t1 t2 vs ws ls) (hb : Below w.heap.size w w1) : BookPre w1 base B t1 t2 vs ws ls := by
  obtain ⟨cs, h1, h2⟩ := h.blk
  exact ⟨⟨cs, blk_below h1 hb, h2⟩, pw_cell_below hb h.c1, pw_cell_below hb h.c2, fun j a b c => pw_cell_below hb (h.others j a b c), h.hB, pw_own_below h.a1 hb, pw_own_below h.a2 hb, h.ne, h.k1.below hb, fun i u hu => pw_own_below (h.k2 i u hu) hb⟩
theorem BookAt.pre (h : BookAt w base B t1 t2 vs ws ls) : BookPre w base B t1 t2 vs ws ls := ⟨h.blk, h.c1, h.c2, h.others, h.hB, h.a1, h.a2, h.ne, h.k1, h.k2⟩
theorem BookPre.full (h : BookPre w base B t1 t2 vs ws ls) (hl : ws.length = vs.length) : BookAt w base B t1 t2 vs ws ls := ⟨h.blk, h.c1, h.c2, h.others, h.hB, h.a1, h.a2, h.ne, h.k1, h.k2, hl⟩
/-- One list more. -/
theorem cells_push {n : Nat} {l : List Int} (i : Nat) : cellsOf (fun i => if i < n then ls i else l) i = if i < n then cellsOf ls i else encs (Value.int .i64) l := by
  unfold cellsOf
  by_cases h : i < n
  · simp only [if_pos h]
  · simp only [if_neg h]
end
set_option maxHeartbeats 4000000 in
set_option maxRecDepth 100000 in
theorem push_any {w0 w : World} {base B : Nat} {t1 t2 v : Value} {vs ws : List Value} {ls : Nat → List Int} {l : List Int} (h : BookAt w base B t1 t2 vs ws ls) (hv : w.ownsRow base 3 1 v l.length (encs (Value.int .i64) l)) (hne : ∀ (i : Nat) (u : Value), vs[i]? = some u → NeRow u v)
    (h0 : Below base w0 w) (hb0 : base ≤ w.heap.size) (hn : vs.length < 250) (hl : l.length ≤ 1000000) :
    Calls Try.prog 15 #[.pointer (some ⟨B, 0, none⟩), v] w fun e w' => e = .returned (.tuple #[]) ∧ ∃ t1' t2' wv, BookAt w' base B t1' t2' (vs ++ [v]) (ws ++ [wv]) (fun i => if i < vs.length then ls i else l) ∧ Below base w0 w' ∧ base ≤ w'.heap.size ∧ (∀ (base' : Nat) (v : Value) (n : Nat) (xs : List Value), w.ownsRow base' 3 1 v n xs → w'.ownsRow base' 3 1 v n xs) := by
  have hc1 := h.c1
  have hc2 := h.c2
  obtain ⟨cs, hblk, hcs⟩ := h.blk
  have hf1 : w.frozen? ⟨B, 0, none⟩ = false := blk_frozen hblk _
  obtain ⟨A1, k1, rfl⟩ := own_slice h.a1
  obtain ⟨Av, cv, rfl⟩ := own_slice hv
  have H := Aside0.mk h
  have HV := Aside0.mk hv
  have HNE := Aside0.mk hne
  have H0 := Aside0.mk h0
  have HB0 := Aside0.mk hb0
  have HN := Aside0.mk hn
  have HL := Aside0.mk hl
  have HBLK := Aside0.mk hblk
  have hd0 : decide ((vs.length : Int) < 250) = true := decide_eq_true (by omega)
  have HL1 := Aside0.mk (show (vs.length + 1) * 24 ≤ 140737488355328 by omega)
  clear h hv hne h0 hb0 hn hl hblk hcs
  go_enter Try.func15, Try.ntmps15
  go_wp2_with (at_builtin; refine print_append base rfl (.tmp 14) (.tmp 16) 32 22 (.slice none 0 0) 24 rfl Try.underlying32 infoEA rfl (by decide) (.slice A1 vs.length k1) vs (.slice Av l.length cv) rfl rfl rfl H.out.a1 H0.out HB0.out HL1.out ?_; intro v1 w1 hown hb1 hg hat; rw [List.length_append, List.length_singleton] at hown; obtain ⟨A3, k3, rfl⟩ := own_slice hown; have q1 := hg.cell hc1 (own_ne H.out.a1 HBLK.out (by decide)); have q2 := (World.frozen?_of_block (a := ⟨B, 0, none⟩) (hg.block B (blk_lt HBLK.out) (own_ne H.out.a1 HBLK.out (by decide)))).trans hf1; have HOWN := Aside0.mk hown; have HB1 := Aside0.mk hb1; have HG := Aside0.mk hg; have HAT := Aside0.mk hat; clear hown hb1 hg hat)
  have hown := HOWN.out
  have hg := HG.out
  have hp : BookPre (w1.setCell ⟨B, 0, none⟩ (.slice A3 (vs.length + 1) k3)) base B (.slice A3 (vs.length + 1) k3) t2 (vs ++ [.slice Av l.length cv]) ws (fun i => if i < vs.length then ls i else l) := by
    have hv1 := own_other HV.out hg (own_type_ne HV.out H.out.a1 (by decide))
    have hv2 : w1.ownsRow base 3 1 (.slice Av l.length cv) (encs (Value.int .i64) l).length (encs (Value.int .i64) l) := by rw [encs_length]; exact hv1
    have hk := (H.out.k1.grown hg fun i v hv => own_type_ne (H.out.k1.row i v hv) H.out.a1 (by decide)).push hv2 HNE.out
    refine H.out.pre.set1 hg HAT.out (by rw [List.length_append, List.length_singleton]; exact hown) (hk.congr fun i _ => cells_push i) fun i u hu => ?_
    have hi := (List.getElem?_eq_some_iff.1 hu).1
    have hlen := H.out.len
    have := own_other (H.out.k2 i u hu) hg (own_type_ne (H.out.k2 i u hu) H.out.a1 (by decide))
    simp only [if_pos (show i < vs.length by omega)]
    exact this
  have hv3 : (w1.setCell ⟨B, 0, none⟩ (.slice A3 (vs.length + 1) k3)).ownsRow base 3 1 (.slice Av l.length cv) l.length (encs (Value.int .i64) l) := by
    have := hp.k1.row vs.length (.slice Av l.length cv) (by simp)
    rw [cells_push, if_neg (Nat.lt_irrefl _), encs_length] at this
    exact this
  have hbw : Below base w0 (w1.setCell ⟨B, 0, none⟩ (.slice A3 (vs.length + 1) k3)) := HB1.out.setCell (p := ⟨B, 0, none⟩) H.out.hB _
  have hsz : base ≤ (w1.setCell ⟨B, 0, none⟩ (.slice A3 (vs.length + 1) k3)).heap.size := by
    have h1 := hg.size
    have h2 := HB0.out
    simp
    omega
  have HFR : Aside0 (∀ (base' : Nat) (v : Value) (n : Nat) (xs : List Value), w.ownsRow base' 3 1 v n xs → (w1.setCell ⟨B, 0, none⟩ (.slice A3 (vs.length + 1) k3)).ownsRow base' 3 1 v n xs) := ⟨fun base' v n xs h => by
    have h1 := own_other h hg (own_type_ne h H.out.a1 (by decide))
    exact own_setCell h1 (own_ne h1 (blk_grown HBLK.out hg (own_ne H.out.a1 HBLK.out (by decide))) (by decide)) _⟩
  have HLEN := Aside0.mk H.out.len
  clear hg hown q1 q2 hc1 hc2 hf1
  clear HOWN HB1 HG HAT H HV HNE HBLK hd0
  generalize hW1 : w1.setCell ⟨B, 0, none⟩ (.slice A3 (vs.length + 1) k3) = W1 at *
  clear hW1
  obtain ⟨A2, k2, rfl⟩ := own_slice hp.a2
  have hc2 := hp.c2
  obtain ⟨cs2, hblk2, hcs2⟩ := hp.blk
  have hf2 : W1.frozen? ⟨B, 1, none⟩ = false := blk_frozen hblk2 _
  obtain ⟨hvA, hvc, hvC⟩ := Kd.R_reads' (Kd.R_of_own (enc := (Value.int .i64)) (h1 := fun _ => rfl) (ok := fun _ => True) hv3 (fun _ _ => trivial))
  have HVC := Aside0.mk hvC
  have HVCC := Aside0.mk hvc
  have HP := Aside0.mk hp
  have HBW := Aside0.mk hbw
  have HSZ := Aside0.mk hsz
  have HLB := Aside0.mk (show l.length * 8 ≤ 140737488355328 by have := HL.out; omega)
  have HL2 := Aside0.mk (show (ws.length + 1) * 24 ≤ 140737488355328 by have := HL1.out; have := HLEN.out; omega)
  have HBB := Aside0.mk hp.hB
  clear hp hbw hsz hv3 hvA hvc hvC hblk2 hcs2
  go_region_law ((first
    | (refine call_step1 (f := 19) (N := some 26) (x := .tmp 25) (t := 22) (.slice Av l.length cv) rfl rfl rfl rfl Try.func19 nameCopy rfl ?_; refine (copy_any l (Kd.C_drew HVC.out) HVCC.out HLB.out).mono ?_; rintro e w4 ⟨wv, rfl, HCO, hb⟩; obtain ⟨A5, c5, rfl⟩ := own_slice HCO.out; refine ⟨_, rfl, ?_⟩; have hbw : Below W1.heap.size W1 w4 := ⟨hb.os, hb.tape, hb.output, hb.size, hb.block⟩; clear hb; have HP4 := Aside0.mk (HP.out.below hbw); have HBW4 := Aside0.mk (below_then HBW.out HSZ.out hbw); have HSZ4 := Aside0.mk (Nat.le_trans HSZ.out hbw.size); have HS4 := Aside0.mk hbw.size; have HBE4 := Aside0.mk hbw; have hs1 := pw_cell_below hbw hc2; have hs1a : ∀ o, (w4.alloc o).cell? ⟨B, 1, none⟩ = some (.slice A2 ws.length k2) := (fun o => pw_cell_below ((Below.refl _ _).alloc (Nat.le_refl _) o) hs1); clear hbw)
    | (refine step_append_cells (w0 := w0) base (wanted_of rfl) (.tmp 24) (.tmp 27) 32 22 (.slice none 0 0) 1 24 rfl Try.underlying32 infoEA rfl (by decide) (by decide) (.slice A2 ws.length k2) ws.length ws [.slice A5 l.length c5] rfl rfl rfl (by simp [Value.oneCell']) HP4.out.a2 HBW4.out HSZ4.out HL2.out ?_; intro v6 w6 hown hb6 hg hat; obtain ⟨A6, k6, rfl⟩ := own_slice hown; obtain ⟨csx, hbx, hcx⟩ := HP4.out.blk; have hnx : some B ≠ (Value.slice A2 ws.length k2).ownBlock := own_ne HP4.out.a2 hbx (by decide); have hs2 := hg.cell HP4.out.c2 hnx; have hs3 : w6.frozen? ⟨B, 1, none⟩ = false := blk_frozen (blk_grown hbx hg hnx) _; have HOWN6 := Aside0.mk hown; have HB6 := Aside0.mk hb6; have HG6 := Aside0.mk hg; have HAT6 := Aside0.mk hat; clear hown hb6 hg hat hbx hcx hnx hs1 hs1a)))
  all_goals
    go_wp2
    have hlen := HLEN.out
    have hcs2 : (ws ++ [Value.slice A5 l.length c5]).length = (vs ++ [Value.slice Av l.length cv]).length := by simp [hlen]
    have hown6 : w6.ownsRow base 22 1 (.slice A6 (ws.length + 1) k6) (ws ++ [Value.slice A5 l.length c5]).length (ws ++ [Value.slice A5 l.length c5]) := by
      rw [List.length_append, List.length_singleton]
      exact HOWN6.out
    have hfin := (HP4.out.set2 HG6.out HAT6.out hown6 (by
      intro i u hu
      rcases Nat.lt_or_ge i ws.length with hi | hi
      · rw [List.getElem?_append_left hi] at hu
        have h1 := HP4.out.k2 i u hu
        exact own_other h1 HG6.out (own_type_ne h1 HP4.out.a2 (by decide))
      · rw [List.getElem?_append_right hi] at hu
        have h2 := (List.getElem?_eq_some_iff.1 hu).1
        have h3 : i = ws.length := by simp at h2; omega
        subst h3
        simp at hu
        subst hu
        have h1 := own_weaken HCO.out HSZ.out
        simp only [hlen, if_neg (Nat.lt_irrefl _)]
        exact own_other h1 HG6.out (own_type_ne h1 HP4.out.a2 (by decide)))).full hcs2
    refine bodyPost_end (v := .tuple #[]) (by simp [results, Try.results15, go_sem]) rfl ⟨rfl, .slice A3 (vs.length + 1) k3, .slice A6 (ws.length + 1) k6, .slice A5 l.length c5, ?_, ?_, ?_, ?_⟩
    · exact hfin
    · exact HB6.out.setCell (p := ⟨B, 1, none⟩) HBB.out _
    · have h1 := HG6.out.size
      have h2 := HSZ4.out
      simp
      omega
    · intro base' v n xs h
      obtain ⟨csx, hbx, _⟩ := HP4.out.blk
      have h2 := pw_own_below (HFR.out _ _ _ _ h) HBE4.out
      have h3 := own_other h2 HG6.out (own_type_ne h2 HP4.out.a2 (by decide))
      exact own_setCell h3 (own_ne h3 (blk_grown hbx HG6.out (own_ne HP4.out.a2 hbx (by decide))) (by decide)) _
theorem PutAt.base_le {w : World} {base B : Nat} {t1 : Value} {vs : List Value} {ls : Nat → List Int} (h : PutAt w base B t1 vs ls) : base ≤ w.heap.size := by
  obtain ⟨cs, h1, _⟩ := h.blk
  have := blk_lt h1
  have := h.hB
  omega
theorem marked_rows {w : World} {base base2 : Nat} {v : Value} {us : List Value} {g : Nat → List Int} (ho : w.ownsRow base2 22 1 v us.length us) (hr : ∀ (i : Nat) (u : Value), us[i]? = some u → w.ownsRow base 3 1 u (g i).length (encs (Value.int .i64) (g i)))
    (hm : ∀ i, i < us.length → g i = marks i 0 (g i).length ∧ (g i).length ≤ 1000000) (hn : us.length ≤ 1000000) : Calls Try.prog 35 #[v] w fun e w' => e = .returned (.bool true) ∧ Below w.heap.size w w' := by
  have hL : ((List.range us.length).map g).length = us.length := by simp
  have key : ∀ (i : Nat) (l : List Int), ((List.range us.length).map g)[i]? = some l → i < us.length ∧ l = g i := by
    intro i l hl
    have hi := (List.getElem?_eq_some_iff.1 hl).1
    rw [hL] at hi
    rw [List.getElem?_map, List.getElem?_range hi] at hl
    simp at hl
    exact ⟨hi, hl.symm⟩
  obtain ⟨A, c, rfl, hc, hC⟩ := Kept.reads (enc := (Value.int .i64)) (h1 := fun _ => rfl) (f := fun i => encs (Value.int .i64) (g i)) (L := (List.range us.length).map g) (fun i u hu => by have := hr i u hu; rw [encs_length]; exact this) ho hL (fun i l hl => by rw [(key i l hl).2])
  refine (marked_calls ((List.range us.length).map g) 1000000 (by decide) (by rw [hL]; omega) (fun i l hl => ?_) hC hc)
  obtain ⟨hi, rfl⟩ := key i l hl
  exact hm i hi
theorem marked_kept {w : World} {base B : Nat} {t1 : Value} {vs : List Value} {ls : Nat → List Int} (h : PutAt w base B t1 vs ls) (hm : ∀ i, i < vs.length → ls i = marks i 0 (ls i).length) (hn : vs.length ≤ 1000000) (hl : ∀ i, i < vs.length → (ls i).length ≤ 1000000 - 72) :
    Calls Try.prog 35 #[t1] w fun e w' => e = .returned (.bool true) ∧ Below w.heap.size w w' :=
  marked_rows h.a1 (g := ls) (fun i u hu => by have := h.k1.row i u hu; unfold cellsOf at this; rwa [encs_length] at this) (fun i hi => ⟨hm i hi, by have := hl i hi; omega⟩) hn
theorem marked_outs {w : World} {base B : Nat} {t1 v3 : Value} {vs outs : List Value} {ls : Nat → List Int} (_h : PutAt w base B t1 vs ls) (h : Outs w base vs.length v3 t1 vs outs ls) (hn : vs.length ≤ 1000000) (hl : ∀ i, i < vs.length → (ls i).length ≤ 1000000 - 72) :
    Calls Try.prog 35 #[v3] w fun e w' => e = .returned (.bool true) ∧ Below w.heap.size w w' :=
  marked_rows h.arr (g := fun i => marks i 0 ((ls i).length + 72)) (fun i u hu => by have := h.row i u hu; rw [marks_length]; exact this) (fun i hi => ⟨by rw [marks_length], by have := hl i (by have := h.len; omega); rw [marks_length]; omega⟩) (by have := h.len; omega)
set_option maxHeartbeats 8000000 in
set_option maxRecDepth 100000 in
theorem apart_any {w0 w : World} {base B : Nat} {t1 t2 : Value} {vs ws : List Value} {ls : Nat → List Int} (h : BookAt w base B t1 t2 vs ws ls) (h0 : Below base w0 w) (hb0 : base ≤ w.heap.size) (hn : vs.length ≤ 1000) (hl : ∀ i, i < vs.length → (ls i).length ≤ 100000) :
    Calls Try.prog 18 #[.pointer (some ⟨B, 0, none⟩)] w fun e w' => e = .returned (.bool true) ∧ Below base w0 w' := by
  obtain ⟨A1, k1, rfl⟩ := own_slice h.a1
  have H := Aside0.mk h
  have H0 := Aside0.mk h0
  have HB0 := Aside0.mk hb0
  have HN : Aside0 (vs.length ≤ 1000000) := ⟨by omega⟩
  have HL : Aside0 (∀ i, i < vs.length → (ls i).length ≤ 1000000000) := ⟨fun i hi => by have := hl i hi; omega⟩
  have HL2 : Aside0 (∀ i, i < vs.length → (ls i).length ≤ 1000000) := ⟨fun i hi => by have := hl i hi; omega⟩
  have HL3 : Aside0 (∀ i, i < vs.length → ((fun i => marks i 0 (ls i).length) i).length ≤ 1000000 - 72) := ⟨fun i hi => by have := hl i hi; simp only [marks_length]; omega⟩
  have HM2 : Aside0 (∀ i, i < vs.length → (fun i => marks i 0 (ls i).length) i = marks i 0 ((fun i => marks i 0 (ls i).length) i).length) := ⟨fun i hi => by simp only [marks_length]⟩
  clear h h0 hb0 hn hl
  have o2_0 := H.out.others 2 (by decide) (by decide) (by decide)
  have o4_0 := H.out.others 4 (by decide) (by decide) (by decide)
  have o6_0 := H.out.others 6 (by decide) (by decide) (by decide)
  have o8_0 := H.out.others 8 (by decide) (by decide) (by decide)
  go_enter Try.func18, Try.ntmps18
  go_wp2_with (first
    | (go_at_call 21; refine (stillTexts_none _ B (by assumption)).mono ?_; rintro e w' ⟨rfl, rfl⟩)
    | (go_at_call 26; refine (putTexts_none _ B (by assumption)).mono ?_; rintro e w' ⟨rfl, rfl⟩)
    | (go_at_call 31; refine (growTexts_none _ B (by assumption)).mono ?_; rintro e w' ⟨rfl, rfl⟩)
    | (go_at_call 36; refine (markedTexts_none _).mono ?_; rintro e w' ⟨rfl, rfl⟩)
    | (go_at_call 22; refine (stillHits_none _ B (by assumption)).mono ?_; rintro e w' ⟨rfl, rfl⟩)
    | (go_at_call 27; refine (putHits_none _ B (by assumption)).mono ?_; rintro e w' ⟨rfl, rfl⟩)
    | (go_at_call 32; refine (growHits_none _ B (by assumption)).mono ?_; rintro e w' ⟨rfl, rfl⟩)
    | (go_at_call 37; refine (markedHits_none _).mono ?_; rintro e w' ⟨rfl, rfl⟩)
    | (go_at_call 23; refine (stillCosts_none _ B (by assumption)).mono ?_; rintro e w' ⟨rfl, rfl⟩)
    | (go_at_call 28; refine (putCosts_none _ B (by assumption)).mono ?_; rintro e w' ⟨rfl, rfl⟩)
    | (go_at_call 33; refine (growCosts_none _ B (by assumption)).mono ?_; rintro e w' ⟨rfl, rfl⟩)
    | (go_at_call 38; refine (markedCosts_none _).mono ?_; rintro e w' ⟨rfl, rfl⟩)
    | (go_at_call 24; refine (stillBytes_none _ B (by assumption)).mono ?_; rintro e w' ⟨rfl, rfl⟩)
    | (go_at_call 29; refine (putBytes_none _ B (by assumption)).mono ?_; rintro e w' ⟨rfl, rfl⟩)
    | (go_at_call 34; refine (growBytes_none _ B (by assumption)).mono ?_; rintro e w' ⟨rfl, rfl⟩)
    | (go_at_call 39; refine (markedBytes_none _).mono ?_; rintro e w' ⟨rfl, rfl⟩)
    | (go_at_call 20; refine (still_any H.out HN.out HL.out).mono ?_; rintro e w1 ⟨rfl, hd⟩; have H1 := Aside0.mk (H.out.put.below hd.below); have HB1 := Aside0.mk (below_then H0.out HB0.out hd.below); have HS1 := Aside0.mk (Nat.le_trans HB0.out hd.below.size); have o2_1 := H1.out.others 2 (by decide) (by decide) (by decide); have o4_1 := H1.out.others 4 (by decide) (by decide) (by decide); have o6_1 := H1.out.others 6 (by decide) (by decide) (by decide); have o8_1 := H1.out.others 8 (by decide) (by decide) (by decide); clear hd; clear o2_0 o4_0 o6_0 o8_0)
    | (go_at_call 25; refine (put_any H1.out HB1.out HS1.out HN.out HL2.out).mono ?_; rintro e w2 ⟨rfl, hp, hb⟩; have H2 := Aside0.mk hp; have HB2 := Aside0.mk hb; have HS2 := Aside0.mk (PutAt.base_le hp); have o2_2 := H2.out.others 2 (by decide) (by decide) (by decide); have o4_2 := H2.out.others 4 (by decide) (by decide) (by decide); have o6_2 := H2.out.others 6 (by decide) (by decide) (by decide); have o8_2 := H2.out.others 8 (by decide) (by decide) (by decide); clear hp hb; clear o2_1 o4_1 o6_1 o8_1)
    | (go_at_call 30; refine (grow_any H2.out HM2.out HB2.out HS2.out HN.out (fun i hi => Nat.le_trans (HL3.out i hi) (by decide))).mono ?_; rintro e w3 ⟨v3, outs, rfl, hp, ho, hb, hs⟩; obtain ⟨A3, c3, rfl⟩ := own_slice ho.arr; have H3 := Aside0.mk hp; have HO3 := Aside0.mk ho; have HB3 := Aside0.mk hb; have HS3 := Aside0.mk hs; have o2_3 := H3.out.others 2 (by decide) (by decide) (by decide); have o4_3 := H3.out.others 4 (by decide) (by decide) (by decide); have o6_3 := H3.out.others 6 (by decide) (by decide) (by decide); have o8_3 := H3.out.others 8 (by decide) (by decide) (by decide); clear hp ho hb hs; clear o2_2 o4_2 o6_2 o8_2))
  refine (marked_outs H3.out HO3.out HN.out HL3.out).mono ?_
  rintro e w4 ⟨rfl, hb⟩
  have H4 := Aside0.mk (H3.out.below hb)
  have HB4 := Aside0.mk (below_then HB3.out HS3.out hb)
  have HS4 := Aside0.mk (Nat.le_trans HS3.out hb.size)
  have q4 := H4.out.c1
  have o2_4 := H4.out.others 2 (by decide) (by decide) (by decide)
  have o4_4 := H4.out.others 4 (by decide) (by decide) (by decide)
  have o6_4 := H4.out.others 6 (by decide) (by decide) (by decide)
  have o8_4 := H4.out.others 8 (by decide) (by decide) (by decide)
  clear hb
  clear o2_3 o4_3 o6_3 o8_3
  go_wp2_with (first
    | (go_at_call 36; refine (markedTexts_none _).mono ?_; rintro e w' ⟨rfl, rfl⟩)
    | (go_at_call 37; refine (markedHits_none _).mono ?_; rintro e w' ⟨rfl, rfl⟩)
    | (go_at_call 38; refine (markedCosts_none _).mono ?_; rintro e w' ⟨rfl, rfl⟩)
    | (go_at_call 39; refine (markedBytes_none _).mono ?_; rintro e w' ⟨rfl, rfl⟩))
  refine (marked_kept H4.out HM2.out HN.out HL3.out).mono ?_
  rintro e w5 ⟨rfl, hb⟩
  have HB5 := Aside0.mk (below_then HB4.out HS4.out hb)
  have o2_5 := (H4.out.below hb).others 2 (by decide) (by decide) (by decide)
  have o4_5 := (H4.out.below hb).others 4 (by decide) (by decide) (by decide)
  have o6_5 := (H4.out.below hb).others 6 (by decide) (by decide) (by decide)
  have o8_5 := (H4.out.below hb).others 8 (by decide) (by decide) (by decide)
  clear hb
  clear o2_4 o4_4 o6_4 o8_4 q4
  go_wp2_with (first
    | (go_at_call 36; refine (markedTexts_none _).mono ?_; rintro e w' ⟨rfl, rfl⟩)
    | (go_at_call 37; refine (markedHits_none _).mono ?_; rintro e w' ⟨rfl, rfl⟩)
    | (go_at_call 38; refine (markedCosts_none _).mono ?_; rintro e w' ⟨rfl, rfl⟩)
    | (go_at_call 39; refine (markedBytes_none _).mono ?_; rintro e w' ⟨rfl, rfl⟩))
  go_ret
  exact ⟨rfl, HB5.out⟩
end BookInts
end Go.Proofs.Ytoccpgnbdjinjaa
