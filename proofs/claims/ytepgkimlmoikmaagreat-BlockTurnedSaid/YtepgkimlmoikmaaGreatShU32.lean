/- ShU: a part of its proof (contracts of the functions that it reaches, and the plain mathematics behind them). -/
import Derived.Test.YtepgkimlmoikmaaGreatShU24
import Derived.Laws.AppendOwn
set_option linter.unusedVariables false
set_option linter.unusedSimpArgs false
set_option maxHeartbeats 2000000
set_option maxRecDepth 100000
set_option linter.unusedVariables false
set_option linter.unusedSimpArgs false
namespace Go.Proofs.YtepgkimlmoikmaaGreat
open Go.RowKit Go.Proofs.YtepgkimlmoikmaaGreat.Spec Go.Proofs.YtepgkimlmoikmaaGreatW.PrintWords Go.Proofs.YtepgkimlmoikmaaGreatW.PrintLast
open Go.Proofs.YtepgkimlmoikmaaGreatW.PrintMore
attribute [local go_sem ↓] Go.wp_at_zero Go.wp_at_succ
attribute [local go_sem] max2_int min2_int max_two min_two
theorem wpList_append_flat {P : Program} {ops : Array Oper} {o : Oper} {rest : List Oper} {a : Act} {Q : Exit → Act → World → Prop} {w0 W : World} (base : Nat) (hgd : o.guard = none) (s x : Operand) (t e : TypeId)
  (ho : o.op = .call { callee := .builtin .append, args := #[s, x], argTypes := #[t, t] }) (z : Value) (size bytes : Nat)
  (ht : P.underlying t = some (.slice e)) (hinfo : (P.info? e).map (fun i => (i.zero, i.size, i.bytes)) = some (some z, size, bytes)) (hz : z.cells.size = size) (hs0 : 0 < size) (hb0 : 0 < bytes)
  (v : Value) (n : Nat) (xs : List Value) (hs : a.eval s = v) (HO : W.ownsRow base e size v n xs)
  {A : Option Addr} {m c : Nat} (hx : a.eval x = .slice A m c) (news : List Value) (hnl : news.length = m * size) (hm : 0 < m) (hnews : ∃ ad, A = some ad ∧ ∀ j u, news[j]? = some u → W.cell? (ad.add j) = some u)
  (h1 : ∀ u ∈ news, u.oneCell' = true) (hl : (n + m) * bytes ≤ 140737488355328) (HB : Below base w0 W) (hbase : base ≤ W.heap.size)
  (h : ∀ v1 w1, w1.ownsRow base e size v1 (n + m) (xs ++ news) → Below base w0 w1 → W.grownBy w1 v.ownBlock → wpList P ops Q rest (a.put o.dst v1) w1) :
  wpList P ops Q (o :: rest) a W := by
 obtain ⟨i, hi, hii⟩ := Option.map_eq_some_iff.1 hinfo
 simp only [Prod.mk.injEq] at hii
 obtain ⟨hz0, hz1, hz2⟩ := hii
 obtain ⟨ad, rfl, hcell⟩ := hnews
 have hle : n + m ≤ 140737488355328 := Nat.le_trans (Nat.le_mul_of_pos_right _ hb0) hl
 refine wpList_append_own W hgd s x t ho base e i z size bytes ht hi hz0 hz1 hz2 hz hs0 v n xs hs HO ad m c news hx hnl hcell h1 (by simp only [maxLen]; omega) hl hbase ?_
 intro v1 w1 hown hg _
 exact h v1 w1 hown (HB.grown hg hbase (own_base HO)) hg
def opCells : List (Int × ByteArray) → List Value
 | [] => []
 | o :: r => .int .i64 o.1 :: .string o.2 :: opCells r
theorem opCells_get : ∀ (os : List (Int × ByteArray)) (j : Nat) (o : Int × ByteArray), os[j]? = some o → (opCells os)[j * 2]? = some (.int .i64 o.1) ∧ (opCells os)[j * 2 + 1]? = some (.string o.2)
 | [], j, o, h => by simp at h
 | q :: r, 0, o, h => by
  obtain rfl := Option.some.inj h
  exact ⟨rfl, rfl⟩
 | q :: r, j + 1, o, h => by
  have := opCells_get r j o (by simpa using h)
  rw [opCells, show (j + 1) * 2 = j * 2 + 1 + 1 by omega]
  exact this
def OpsIn (w : World) (A : Option Addr) (os : List (Int × ByteArray)) : Prop := 0 < os.length → ∃ ad, A = some ad ∧ ∀ j u, (opCells os)[j]? = some u → w.cell? (ad.add j) = some u
theorem OpsIn.below {w w1 : World} {A : Option Addr} {os : List (Int × ByteArray)} (h : OpsIn w A os) (hb : Below w.heap.size w w1) : OpsIn w1 A os := fun h0 => by
 obtain ⟨ad, e, hc⟩ := h h0
 exact ⟨ad, e, fun j u hj => pw_cell_below hb (hc j u hj)⟩
def RowO (w : World) (h : Nat) (os : List (Int × ByteArray)) : Prop := ∃ cur : Array Value, w.heap[h]? = some (.cells cur 61 (0, 0)) ∧ ∀ (j : Nat) (u : Value), (opCells os)[j]? = some u → cur[j]? = some u
theorem RowO.get {w : World} {h : Nat} {os : List (Int × ByteArray)} (hr : RowO w h os) {j : Nat} {o : Int × ByteArray} (ho : os[j]? = some o) : w.cell? ⟨h, j * 2, none⟩ = some (.int .i64 o.1) ∧ w.cell? ⟨h, j * 2 + 1, none⟩ = some (.string o.2) := by
 obtain ⟨cur, h1, h2⟩ := hr
 obtain ⟨g1, g2⟩ := opCells_get os j o ho
 exact ⟨(blk_cell h1 _).trans (h2 _ _ g1), (blk_cell h1 _).trans (h2 _ _ g2)⟩
theorem RowO.of {w : World} {base : Nat} {v : Value} {n : Nat} {os : List (Int × ByteArray)} (h : w.ownsRow base 61 2 v n (opCells os)) (hn : 0 < n) : ∃ g c, v = .slice (some ⟨g, 0, none⟩) n c ∧ base ≤ g ∧ n ≤ c ∧ RowO w g os := by
 rcases h.2 with ⟨_, h0⟩ | ⟨g, cap, cur, rfl, hg, hh, hc, _, _, hx⟩
 ·exfalso; omega
 ·refine ⟨g, cap, rfl, hg, hc, cur, hh, fun j u hj => ?_⟩
  rw [← hx, List.getElem?_take] at hj
  split at hj
  ·rw [← Array.getElem?_toList]; exact hj
  ·cases hj
end Go.Proofs.YtepgkimlmoikmaaGreat
