/- ShNone: a part of its proof (contracts of the functions that it reaches, and the plain mathematics behind them). -/
import Derived.Test.YtdpkgjahcapleaaGreatShNone37
import Derived.IntWalk
set_option linter.unusedVariables false
set_option linter.unusedSimpArgs false
set_option linter.unusedVariables false
set_option linter.unusedSimpArgs false
namespace Go.Proofs.YtdpkgjahcapleaaGreat
open Go.RowKit Go.Proofs.YtdpkgjahcapleaaGreat.Spec Go.Proofs.YtdpkgjahcapleaaGreatW.PrintWords Go.Proofs.YtdpkgjahcapleaaGreatW.PrintLast
open Go.Proofs.YtdpkgjahcapleaaGreatW.PrintMore
attribute [local go_sem ↓] Go.wp_at_zero Go.wp_at_succ
theorem run_store_complex {P : Program} {w : World} {a : Addr} {m : Mode} (k : FloatKind) (x y : Nat) : (store a (.complex k x y) m).run P w = stored P w a (.complex k x y) m := run_store P w a _ m rfl
attribute [local go_sem] run_store_complex
def RowC (w : World) (g : Nat) (l : List (Nat × Nat)) : Prop := w.heap[g]? = some (.cells (l.map encC).toArray 175 (0, 0))
def flat : List (Int × Nat) → List Value
  | [] => []
  | s :: r => .int .i64 s.1 :: .int .i64 (s.2 : Int) :: flat r
def RowF (w : World) (g : Nat) (l : List (Int × Nat)) : Prop := w.heap[g]? = some (.cells (flat l).toArray 152 (0, 0))
theorem flat_set : ∀ (l : List (Int × Nat)) (i : Nat) (s : Int × Nat), ((flat l).set (i * 2) (.int .i64 s.1)).set (i * 2 + 1) (.int .i64 (s.2 : Int)) = flat (l.set i s) := by
  intro l
  induction l with
  | nil => intro i s; rfl
  | cons x r ih =>
    intro i s
    cases i with
    | zero => rfl
    | succ i =>
      rw [show (i + 1) * 2 = i * 2 + 1 + 1 by omega, List.set_cons_succ]
      show Value.int .i64 x.1 :: Value.int .i64 (x.2 : Int) :: (((flat r).set (i * 2) (.int .i64 s.1)).set (i * 2 + 1) (.int .i64 (s.2 : Int))) = _
      rw [ih i s]
      rfl
theorem RowC.get {w : World} {g : Nat} {l : List (Nat × Nat)} (h : RowC w g l) (i : Nat) (x : Nat × Nat) (hx : l[i]? = some x) : w.cell? ⟨g, i, none⟩ = some (.complex .f64 (fl x.1) (fl x.2)) := by
  refine (blk_cell h i).trans ?_
  rw [List.getElem?_toArray, List.getElem?_map, hx]
  rfl
theorem RowC.fz {w : World} {g : Nat} {l : List (Nat × Nat)} (h : RowC w g l) (i : Nat) : w.frozen? ⟨g, i, none⟩ = false := blk_frozen h i
theorem RowC.put {w : World} {g : Nat} {l : List (Nat × Nat)} (h : RowC w g l) (i : Nat) (x : Nat × Nat) : RowC (w.setCell ⟨g, i, none⟩ (.complex .f64 (fl x.1) (fl x.2))) g (l.set i x) := by
  refine blk_put h i _ ?_
  rw [List.setIfInBounds_toArray, List.map_set]
  rfl
theorem RowF.fz {w : World} {g : Nat} {l : List (Int × Nat)} (h : RowF w g l) (i : Nat) : w.frozen? ⟨g, i, none⟩ = false := blk_frozen h i
theorem RowF.put {w : World} {g : Nat} {l : List (Int × Nat)} (h : RowF w g l) (i : Nat) (x : Int × Nat) : RowF ((w.setCell ⟨g, i * 2, none⟩ (.int .i64 x.1)).setCell ⟨g, i * 2 + 1, none⟩ (.int .i64 (x.2 : Int))) g (l.set i x) := by
  refine blk_put (blk_put h (i * 2) _ rfl) (i * 2 + 1) _ ?_
  rw [List.setIfInBounds_toArray, List.setIfInBounds_toArray, flat_set]
end Go.Proofs.YtdpkgjahcapleaaGreat
set_option linter.unusedVariables false
set_option linter.unusedSimpArgs false
namespace Go.Proofs.YtdpkgjahcapleaaGreat
open Go.RowKit Go.Proofs.YtdpkgjahcapleaaGreat.Spec Go.Proofs.YtdpkgjahcapleaaGreatW.PrintWords Go.Proofs.YtdpkgjahcapleaaGreatW.PrintLast
open Go.Proofs.YtdpkgjahcapleaaGreatW.PrintMore
attribute [local go_sem ↓] Go.wp_at_zero Go.wp_at_succ
attribute [local go_sem] max2_int min2_int max_two min_two
namespace Spec
def bpc (w : Nat) (b : ByteArray) : ByteArray := b.extract 0 (min w b.size)
def brs (w : Nat) (b : ByteArray) : ByteArray := b.extract (min w b.size) b.size
def bwin (l : List ByteArray) (w : Nat) : Nat → ByteArray → List Int
  | 0, _ => []
  | f + 1, b => if b.size = 0 then [] else tks (bnx l (bpc w b)) (bpc w b).size (bpc w b).size 0 ++ bwin l w f (brs w b)
end Spec
theorem ext_size (b : ByteArray) (i j : Nat) (h : j ≤ b.size) : (b.extract i j).size = j - i := by
  rw [← u_size, u_cut, List.length_take, List.length_drop, u_size]
  omega
theorem bpc_size (w : Nat) (b : ByteArray) : (bpc w b).size = min w b.size := by
  unfold bpc
  rw [ext_size _ _ _ (by omega)]
  omega
theorem brs_size (w : Nat) (b : ByteArray) : (brs w b).size = b.size - min w b.size := by
  unfold brs
  rw [ext_size _ _ _ (by omega)]
theorem bwin_succ (l : List ByteArray) (w f : Nat) (b : ByteArray) : bwin l w (f + 1) b = if b.size = 0 then [] else tks (bnx l (bpc w b)) (bpc w b).size (bpc w b).size 0 ++ bwin l w f (brs w b) := rfl
theorem cat_pieces (w : Nat) (b : ByteArray) : bpc w b ++ brs w b = b := by
  apply u_inj
  unfold bpc brs
  rw [u_app, u_cut, u_cut, List.drop_zero, Nat.sub_zero]
  rw [List.take_of_length_le (i := b.size - min w b.size) (by rw [List.length_drop, u_size]; omega), List.take_append_drop]
theorem bwin_cat {l : List ByteArray} (hl : l.length ≤ 1000) (hs : ∀ s ∈ l, 1 ≤ s.size ∧ s.size ≤ 40) (w : Nat) (hw : 1 ≤ w) : ∀ (f : Nat) (b : ByteArray), b.size ≤ f → b.size ≤ 100000 → cat l (bwin l w f b) = b ∧ (∀ t ∈ bwin l w f b, Tok l t) := by
  intro f
  induction f with
  | zero =>
    intro b h _
    refine ⟨?_, fun t ht => by cases ht⟩
    apply u_inj
    have : (u b).length = 0 := by rw [u_size]; omega
    rw [List.length_eq_zero_iff.1 this]
    rfl
  | succ f ih =>
    intro b h hb
    rw [bwin_succ]
    by_cases h0 : b.size = 0
    · rw [if_pos h0]
      refine ⟨?_, fun t ht => by cases ht⟩
      apply u_inj
      have : (u b).length = 0 := by rw [u_size]; omega
      rw [List.length_eq_zero_iff.1 this]
      rfl
    · rw [if_neg h0]
      have hp := bpc_size w b
      have hr := brs_size w b
      obtain ⟨i1, i2⟩ := ih (brs w b) (by omega) (by omega)
      have hf : ∀ a, a < (bpc w b).size → Fits l (bpc w b) a (bnx l (bpc w b) a).1 (bnx l (bpc w b) a).2 := fun a ha => bnx_fits hl hs (bpc w b) (by omega) a ha
      refine ⟨?_, fun t ht => (List.mem_append.1 ht).elim (fun h => tks_tok hf _ _ t h) (i2 t)⟩
      rw [cat_append, i1, tks_cat hf _ _ (Nat.zero_le _) (by omega), extract_all, cat_pieces]
theorem bwin_len (l : List ByteArray) (w : Nat) (hw : 1 ≤ w) : ∀ (f : Nat) (b : ByteArray), (bwin l w f b).length ≤ b.size := by
  intro f
  induction f with
  | zero => intro b; exact Nat.zero_le _
  | succ f ih =>
    intro b
    rw [bwin_succ]
    split
    · exact Nat.zero_le _
    · have hp := bpc_size w b
      have hr := brs_size w b
      have h1 := ih (brs w b)
      have h2 := tks_len (bnx l (bpc w b)) (bpc w b).size (bpc w b).size 0
      rw [List.length_append]
      omega
end Go.Proofs.YtdpkgjahcapleaaGreat
