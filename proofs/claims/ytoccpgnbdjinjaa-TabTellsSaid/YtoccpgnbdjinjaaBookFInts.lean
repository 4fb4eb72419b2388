/- Lists (Ints) copied, lent, looked at; one more list for the book; the book's last question. -/
import Derived.Test.YtoccpgnbdjinjaaBookEInts
set_option linter.unusedVariables false
set_option linter.unusedSimpArgs false
namespace Go.Proofs.Ytoccpgnbdjinjaa
open Go.RowKit Go.Proofs.YtoccpgnbdjinjaaW.PrintWords Go.Proofs.YtoccpgnbdjinjaaW.PrintLast Go.Proofs.YtoccpgnbdjinjaaW.PrintMore
attribute [local go_sem ↓] Go.wp_at_zero Go.wp_at_succ
namespace BookInts
open Book
theorem run_append_none {P : Program} {w : World} (t ty e : TypeId) (i : TypeInfo) (ht : P.underlying t = some (.slice e)) (hi : P.info? e = some i) (A : Option Addr) (c : Nat) :
    (Builtin.append_ #[t, t] ty #[.slice none 0 0, .slice A 0 c]).run P w = .ok (.slice none 0 0) w := by
  cases A <;> simp [Builtin.append_, run_underlying ht, sizeOf, typeInfo, hi, Builtin.lenOf, Builtin.firstCells, loadCells, loadCellsFrom]
/-- append(nil, x...): a row of one's own. -/
theorem wpList_append_all {ops : Array Oper} {o : Oper} {rest : List Oper} {a : Act} {Q : Exit → Act → World → Prop} {W : World} (hg : o.guard = none) (s x : Operand)
    (ho : o.op = .call { callee := .builtin .append, args := #[s, x], argTypes := #[22, 22] })
    (l : List Int) (hs : a.eval s = .slice none 0 0) {A : Option Addr} {c : Nat} (hx : a.eval x = .slice A l.length c) (hr : (Kd.int .i64).C W A l.length l) (hl : l.length * 8 ≤ 140737488355328)
    (h : ∀ v w1, w1.ownsRow W.heap.size 3 1 v l.length (encs (Value.int .i64) l) → Below W.heap.size W w1 → wpList Try.prog ops Q rest (a.put o.dst v) w1) :
    wpList Try.prog ops Q (o :: rest) a W := by
  obtain ⟨i, hi, hii⟩ := Option.map_eq_some_iff.1 infoE
  simp only [Prod.mk.injEq] at hii
  obtain ⟨hz, hsz, hby⟩ := hii
  have h1 := Kd.reads_of_C (enc := (Value.int .i64)) (d := (0 : Int)) (h1 := fun _ => rfl) hr
  refine wpList_plain hg fun K hK => ?_
  unfold Oper.wp execOp
  by_cases hn : l.length = 0
  · have hr0 := run_append_none (P := Try.prog) (w := W) 22 o.type 3 i Try.underlying22 hi A c
    have hx0 : a.eval x = .slice A 0 c := by rw [hx, hn]
    simp only [ho, resolve, invoke, builtin, Sem.run_bind, Sem.run_pure, Result.andThen_ok, List.map_toArray, List.map_cons, List.map_nil, hs, hx0, hr0]
    refine hK _ _ (h _ _ ?_ (Below.refl _ _))
    have : l = [] := List.length_eq_zero_iff.1 hn
    subst this
    exact World.ownsRow_nil _ _ _ _
  · obtain ⟨ad, rfl, hcell⟩ := h1.2.2 (by omega)
    have hnews : ∀ (j : Nat) (u : Value), (encs (Value.int .i64) l)[j]? = some u → W.cell? (ad.add j) = some u := by
      intro j u hj
      unfold encs at hj
      rw [List.getElem?_map] at hj
      cases hl2 : l[j]? with
      | none => rw [hl2] at hj; cases hj
      | some s2 =>
        rw [hl2] at hj
        obtain ⟨hlt, _⟩ := List.getElem?_eq_some_iff.1 hl2
        rw [hcell j hlt, List.getD_eq_getElem?_getD, hl2]
        exact hj
    obtain ⟨v', w', hrun, hown, hgr, _⟩ := run_append_own (P := Try.prog) W W.heap.size 22 o.type 3 i (.int .i64 0) 1 8 Try.underlying22 hi hz hsz hby rfl (by omega) (.slice none 0 0) 0 [] (World.ownsRow_nil _ _ _ _) ad l.length c (encs (Value.int .i64) l) (by rw [encs_length]; omega) hnews (one_enc l) (by simp only [maxLen]; omega) (by simpa using hl) (Nat.le_refl _)
    simp only [ho, resolve, invoke, builtin, Sem.run_bind, Sem.run_pure, Result.andThen_ok, List.map_toArray, List.map_cons, List.map_nil, hs, hx, hrun]
    rw [Nat.zero_add, List.nil_append] at hown
    exact hK _ _ (h v' w' hown ((Below.refl _ _).grown hgr (Nat.le_refl _) (fun k hk => by cases hk)))
set_option maxHeartbeats 1000000 in
set_option maxRecDepth 100000 in
theorem copy_any {A : Option Addr} {c : Nat} (l : List Int) {w : World} (hr : (Kd.int .i64).C w A l.length l) (hc : l.length ≤ c) (hl : l.length * 8 ≤ 140737488355328) :
    Calls Try.prog 19 #[.slice A l.length c] w fun e w' => ∃ v, e = .returned v ∧ Aside0 (w'.ownsRow w.heap.size 3 1 v l.length (encs (Value.int .i64) l)) ∧ Below w.heap.size w w' := by
  have HR := Aside0.mk hr
  have HL := Aside0.mk hl
  clear hr hl hc
  go_enter Try.func19, Try.ntmps19
  go_wp2_with (at_builtin; refine wpList_append_all rfl (.const (.slice none 0 0)) (.tmp 3) rfl l rfl rfl HR.out HL.out ?_; intro v w1 hown hb; have HO := Aside0.mk hown; have HB := Aside0.mk hb; clear hown hb)
  go_ret
  exact ⟨v, rfl, HO, HB.out⟩
def lentMark : Int := (-77 : Int)
/-- A list with room behind it, in which a mark stands. -/
structure Lent (w : World) (base g c : Nat) (l : List Int) : Prop where mk :: (row : w.ownsRow base 3 1 (.slice (some ⟨g, 0, none⟩) (l.length + 1) c) (l.length + 1) (encs (Value.int .i64) (l ++ [lentMark])))
set_option maxHeartbeats 1000000 in
set_option maxRecDepth 100000 in
theorem lent_any {A : Option Addr} {c : Nat} (l : List Int) {w : World} (hr : (Kd.int .i64).C w A l.length l) (hc : l.length ≤ c) (hl : (l.length + 1) * 8 ≤ 140737488355328) :
    Calls Try.prog 10 #[.slice A l.length c] w fun e w' => ∃ g c1, e = .returned (.slice (some ⟨g, 0, none⟩) l.length c1) ∧ Lent w' w.heap.size g c1 l ∧ Below w.heap.size w w' := by
  have HR := Aside0.mk hr
  have HL := Aside0.mk hl
  have HC := Aside0.mk hc
  have HL2 := Aside0.mk (show l.length * 8 ≤ 140737488355328 by omega)
  have p1 : (0 : Int) ≤ (l.length : Int) := by omega
  clear hr hl hc
  go_enter Try.func10, Try.ntmps10
  go_wp2_with (first
    | (go_at_call 19; refine (copy_any l HR.out HC.out HL2.out).mono ?_; rintro e w1 ⟨v, rfl, HV, hb⟩; have HB := Aside0.mk hb; have HBS := Aside0.mk hb.size; clear hb)
    | (at_builtin; refine print_append w.heap.size rfl (.tmp 4) (.tmp 5) 22 3 (.int .i64 0) 8 rfl Try.underlying22 infoE rfl (by decide) v (encs (Value.int .i64) l) ((Value.int .i64) lentMark) rfl rfl rfl (by rw [encs_length]; exact HV.out) HB.out HBS.out (by rw [encs_length]; exact HL.out) ?_; intro v1 w2 hown hb2 hg hat; rw [List.length_append, encs_length] at hown; obtain ⟨g, c1, rfl, hg1, hg2⟩ := hown.form (by simp); have hcap := own_le hown; simp only [List.length_singleton] at hown hcap; have HO := Aside0.mk hown; have HB2 := Aside0.mk hb2; have p2 : (l.length : Int) ≤ (c1 : Int) := (by omega); have p3 : l.length ≤ c1 := (by omega); clear hown hb2 hg hat hg1 hg2 hcap))
  go_ret
  refine ⟨g, c1, rfl, ⟨?_⟩, HB2.out⟩
  have := HO.out
  rwa [show encs (Value.int .i64) l ++ [(Value.int .i64) lentMark] = encs (Value.int .i64) (l ++ [lentMark]) by unfold encs; simp] at this
theorem own_prefix {w : World} {base g n c : Nat} {e : TypeId} {xs : List Value} {y : Value} (h : w.ownsRow base e 1 (.slice (some ⟨g, 0, none⟩) (n + 1) c) (n + 1) (xs ++ [y])) (hx : xs.length = n) : w.ownsRow base e 1 (.slice (some ⟨g, 0, none⟩) n c) n xs := by
  refine ⟨by omega, ?_⟩
  rcases h.2 with ⟨he, _⟩ | ⟨g', cap, cur, he, hb, hg, hn, hm, hs, ht⟩
  · cases he
  injection he with he1 he2 he3
  injection he1 with he1
  injection he1 with he1
  subst he1 he3
  refine .inr ⟨g, c, cur, rfl, hb, hg, by omega, hm, hs, ?_⟩
  have := congrArg (List.take n) ht
  rw [List.take_take] at this
  rw [show n * 1 = min n ((n + 1) * 1) by omega, this, ← hx]
  simp
section
variable {w w1 : World} {base g c : Nat} {l : List Int}
theorem Lent.below (h : Lent w base g c l) (hb : Below w.heap.size w w1) : Lent w1 base g c l := ⟨pw_own_below h.row hb⟩
theorem Lent.pre (h : Lent w base g c l) : w.ownsRow base 3 1 (.slice (some ⟨g, 0, none⟩) l.length c) l.length (encs (Value.int .i64) l) := by
  have := h.row
  rw [encs_append] at this
  exact own_prefix this (encs_length l)
theorem Lent.reads (h : Lent w base g c l) : l.length ≤ c ∧ (Kd.int .i64).C w (some ⟨g, 0, none⟩) l.length l := by
  obtain ⟨A, c', e, hc, hC⟩ := row_read h.pre
  injection e with e1 e2 e3
  subst e1 e3
  exact ⟨hc, hC⟩
theorem Lent.mark (h : Lent w base g c l) : l.length + 1 ≤ c ∧ w.cell? ⟨g, l.length, none⟩ = some ((Value.int .i64) lentMark) := by
  have hr := h.row
  refine ⟨own_le hr, ?_⟩
  have := hr.cells (g := g) rfl l.length ((Value.int .i64) lentMark) (by unfold encs; simp)
  rwa [add_plain] at this
theorem Lent.gs (h : Lent w base g c l) : base ≤ g ∧ g < w.heap.size ∧ ∃ cells, w.heap[g]? = some (.cells cells 3 (0, 0)) := ⟨own_base h.row g rfl, own_lt h.row g rfl, own_typed h.row g rfl⟩
end
set_option maxHeartbeats 1000000 in
set_option maxRecDepth 100000 in
theorem stays_any {w : World} {base g c1 : Nat} {A : Option Addr} {c : Nat} (l : List Int) (h : Lent w base g c1 l) (hr : (Kd.int .i64).C w A l.length l) (hc : l.length ≤ c) (hl : l.length ≤ 1000000) :
    Calls Try.prog 17 #[.slice (some ⟨g, 0, none⟩) l.length c1, .slice A l.length c] w fun e w' => e = .returned (.bool true) ∧ Drawn0 w w' := by
  have HR := Aside0.mk hr
  have HC := Aside0.mk hc
  have HL := Aside0.mk hl
  have HLE := Aside0.mk h
  obtain ⟨hm1, hm2⟩ := h.mark
  have p1 : (0 : Int) ≤ (l.length : Int) := by omega
  have p2 : (l.length : Int) + 1 ≤ (c1 : Int) := by omega
  have p3 : l.length + 1 ≤ c1 := hm1
  have p4 : wrap64 ((l.length : Int) + 1) = (l.length : Int) + 1 := wr (by omega) (by omega)
  have p6 : (0 : Int) ≤ (l.length : Int) + 1 := by omega
  have p7 : (l.length : Int) < (l.length : Int) + 1 := by omega
  have p8 : ((l.length : Int) + 1).toNat = l.length + 1 := by omega
  unfold lentMark at hm2
  clear h hr hc hl
  go_enter Try.func17, Try.ntmps17
  go_wp2_with (go_at_call 16; refine (same_calls l HLE.out.reads.2 HLE.out.reads.1 HR.out HC.out (Nat.le_trans HL.out (by decide))).mono ?_; rintro e w2 ⟨rfl, ⟨m, rfl⟩⟩)
  go_ret
  exact ⟨rfl, ⟨_, rfl⟩⟩
end BookInts
end Go.Proofs.Ytoccpgnbdjinjaa
