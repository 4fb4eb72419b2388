/- ShX: a part of its proof (contracts of the functions that it reaches, and the plain mathematics behind them). -/
import Derived.Test.YtepgkimlmoikmaaShX21
import Derived.Laws.AppendOwn
set_option linter.unusedVariables false
set_option linter.unusedSimpArgs false
set_option linter.unusedVariables false
set_option linter.unusedSimpArgs false
namespace Go.Proofs.Ytepgkimlmoikmaa
open Go.RowKit Go.Proofs.Ytepgkimlmoikmaa.Spec Go.Proofs.YtepgkimlmoikmaaW.PrintWords Go.Proofs.YtepgkimlmoikmaaW.PrintLast
open Go.Proofs.YtepgkimlmoikmaaW.PrintMore
attribute [local go_sem ↓] Go.wp_at_zero Go.wp_at_succ
attribute [local go_sem] max2_int min2_int max_two min_two
set_option maxHeartbeats 2000000 in
set_option maxRecDepth 100000 in
theorem wpList_append_flat {P : Program} {ops : Array Oper} {o : Oper} {rest : List Oper} {a : Act} {Q : Exit → Act → World → Prop} {w0 W : World} (base : Nat) (hgd : o.guard = none) (s x : Operand) (t e : TypeId)
  (ho : o.op = .call { callee := .builtin .append, args := #[s, x], argTypes := #[t, t] }) (z : Value) (size bytes : Nat)
  (ht : P.underlying t = some (.slice e)) (hinfo : (P.info? e).map (fun i => (i.zero, i.size, i.bytes)) = some (some z, size, bytes)) (hz : z.cells.size = size) (hs0 : 0 < size) (hb0 : 0 < bytes)
  (v : Value) (n : Nat) (xs : List Value) (hs : a.eval s = v) (HO : W.ownsRow base e size v n xs)
  {A : Option Addr} {m c : Nat} (hx : a.eval x = .slice A m c) (news : List Value) (hnl : news.length = m * size) (hm : 0 < m) (hnews : ∃ ad, A = some ad ∧ ∀ j u, news[j]? = some u → W.cell? (ad.add j) = some u)
  (h1 : ∀ u ∈ news, u.oneCell' = true) (hl : (n + m) * bytes ≤ 140737488355328) (HB : Below base w0 W) (hbase : base ≤ W.heap.size)
  (h : ∀ v1 w1, w1.ownsRow base e size v1 (n + m) (xs ++ news) → Below base w0 w1 → W.grownBy w1 v.ownBlock → wpList P ops Q rest (a.put o.dst v1) w1) :
  wpList P ops Q (o :: rest) a W := by
 obtain ⟨i, hi, hii⟩ := Option.map_eq_some_iff.1 hinfo
 simp only [Prod.mk.injEq] at hii
 obtain ⟨hz0, hz1, hz2⟩ := hii
 obtain ⟨ad, rfl, hcell⟩ := hnews
 have hle : n + m ≤ 140737488355328 := Nat.le_trans (Nat.le_mul_of_pos_right _ hb0) hl
 refine wpList_append_own W hgd s x t ho base e i z size bytes ht hi hz0 hz1 hz2 hz hs0 v n xs hs HO ad m c news hx hnl hcell h1 (by simp only [maxLen]; omega) hl hbase ?_
 intro v1 w1 hown hg _
 exact h v1 w1 hown (HB.grown hg hbase (own_base HO)) hg
def opCells : List (Int × ByteArray) → List Value
 | [] => []
 | o :: r => .int .i64 o.1 :: .string o.2 :: opCells r
def OpsIn (w : World) (A : Option Addr) (os : List (Int × ByteArray)) : Prop := 0 < os.length → ∃ ad, A = some ad ∧ ∀ j u, (opCells os)[j]? = some u → w.cell? (ad.add j) = some u
theorem OpsIn.below {w w1 : World} {A : Option Addr} {os : List (Int × ByteArray)} (h : OpsIn w A os) (hb : Below w.heap.size w w1) : OpsIn w1 A os := fun h0 => by
 obtain ⟨ad, e, hc⟩ := h h0
 exact ⟨ad, e, fun j u hj => pw_cell_below hb (hc j u hj)⟩
end Go.Proofs.Ytepgkimlmoikmaa
