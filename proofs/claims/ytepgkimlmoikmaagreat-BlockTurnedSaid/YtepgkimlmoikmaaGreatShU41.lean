/- ShU: a part of its proof (contracts of the functions that it reaches, and the plain mathematics behind them). -/
import Derived.Test.YtepgkimlmoikmaaGreatShU40
import Derived.ChangeSame
set_option linter.unusedVariables false
set_option linter.unusedSimpArgs false
set_option maxHeartbeats 2000000
set_option maxRecDepth 100000
namespace Go.Proofs.YtepgkimlmoikmaaGreat
open Go.ChangeShapes Go.WideShapes Go.RowKit
def Fd (P : Program) (f : Field) (i : Nat) : Prop := f.offset = i ∧ P.cellsOf f.type = 1 ∧ P.underlying f.type = some (.int .i64)
def CfgF (P : Program) (t : TypeId) : Prop := ∃ f0 f1 f2 f3, P.underlying t = some (.struct #[f0, f1, f2, f3]) ∧ P.cellsOf t = 4 ∧ Fd P f0 0 ∧ Fd P f1 1 ∧ Fd P f2 2 ∧ Fd P f3 3
variable {H : Type} {enc : TypeId × Value → H} {P : Program} {w : World} {base : Nat} {spare : Nat → Bool} {held : Bool}
theorem open_cfg {r : Reach} {b0 : Nat} {t : TypeId} {v : Value} {d : DataW H} {ps : List MemPlace} (hF : CfgF P t) (hval : Value.okWide P w r b0 t v) (hd : DataW.Trod enc P w base spare held t v d ps) :
  ∃ a b c e : Int, v = .agg #[.int .i64 a, .int .i64 b, .int .i64 c, .int .i64 e] ∧ d = .agg [.lit (.int .i64 a), .lit (.int .i64 b), .lit (.int .i64 c), .lit (.int .i64 e)] ∧ ps = [] ∧ ((Lit.int .i64 a).wf = true ∧ (Lit.int .i64 b).wf = true ∧ (Lit.int .i64 c).wf = true ∧ (Lit.int .i64 e).wf = true) := by
 obtain ⟨f0, f1, f2, f3, ht, hc, ⟨o0, c0, u0⟩, ⟨o1, c1, u1⟩, ⟨o2, c2, u2⟩, ⟨o3, c3, u3⟩⟩ := hF
 obtain ⟨cs, rfl, hcs⟩ := okWide_struct ht hval
 obtain ⟨fuel, hf⟩ := hd
 obtain ⟨xs, n, _, hx, hl, hlen, hfs⟩ := DataW.trod_struct ht hf
 rw [hc] at hcs
 have hl4 : cs.toList.length = 4 := by simpa using hcs
 obtain ⟨ls⟩ := cs
 match ls, hl4 with
 | [v0, v1, v2, v3], _ =>
  match xs, hlen with
  | [y0, y1, y2, y3], _ =>
   have e0 := hfs 0 f0 rfl
   have e1 := hfs 1 f1 rfl
   have e2 := hfs 2 f2 rfl
   have e3 := hfs 3 f3 rfl
   simp [o0, c0, Value.cells] at e0
   simp [o1, c1, Value.cells] at e1
   simp [o2, c2, Value.cells] at e2
   simp [o3, c3, Value.cells] at e3
   obtain ⟨a, ha, xa, wa⟩ := DataW.trod_int u0 e0
   obtain ⟨b, hb, xb, wb⟩ := DataW.trod_int u1 e1
   obtain ⟨c, hc', xc, wc⟩ := DataW.trod_int u2 e2
   obtain ⟨e, he, xe, we⟩ := DataW.trod_int u3 e3
   simp at ha hb hc' he
   subst ha hb hc' he xa xb xc xe
   simp at hx
   exact ⟨a, b, c, e, rfl, hx.1, hx.2, wa, wb, wc, we⟩
theorem shut_cfg {t : TypeId} {a b c e : Int} (hF : CfgF P t) (hw : (Lit.int .i64 a).wf = true ∧ (Lit.int .i64 b).wf = true ∧ (Lit.int .i64 c).wf = true ∧ (Lit.int .i64 e).wf = true) : DataW.Trod enc P w base spare held t (.agg #[.int .i64 a, .int .i64 b, .int .i64 c, .int .i64 e]) (.agg [.lit (.int .i64 a), .lit (.int .i64 b), .lit (.int .i64 c), .lit (.int .i64 e)]) [] := by
 obtain ⟨f0, f1, f2, f3, ht, hc, ⟨o0, c0, u0⟩, ⟨o1, c1, u1⟩, ⟨o2, c2, u2⟩, ⟨o3, c3, u3⟩⟩ := hF
 refine ⟨2, ?_⟩
 have := trod_struct_mk (enc := enc) (w := w) (base := base) (spare := spare) (held := held) (n := 1) (xs := [(.lit (.int .i64 a), []), (.lit (.int .i64 b), []), (.lit (.int .i64 c), []), (.lit (.int .i64 e), [])]) (cs := [.int .i64 a, .int .i64 b, .int .i64 c, .int .i64 e]) ht (by rw [hc]; rfl)
  (by simp [o0, c0, o1, c1, o2, c2, o3, c3, trod_int_mk 0 u0 hw.1, trod_int_mk 0 u1 hw.2.1, trod_int_mk 0 u2 hw.2.2.1, trod_int_mk 0 u3 hw.2.2.2])
 simpa [Value.cells] using this
end Go.Proofs.YtepgkimlmoikmaaGreat
