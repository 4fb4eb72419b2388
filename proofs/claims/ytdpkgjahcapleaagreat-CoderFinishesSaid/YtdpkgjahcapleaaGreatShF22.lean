/- ShF: a part of its proof (contracts of the functions that it reaches, and the plain mathematics behind them). -/
import Derived.Test.YtdpkgjahcapleaaGreatShF4
import Derived.Test.YtdpkgjahcapleaaGreatShF0
import Derived.Test.YtdpkgjahcapleaaGreatShF1
import Derived.Maps.AppendAt
import Derived.WalkKit
set_option linter.unusedVariables false
set_option linter.unusedSimpArgs false
namespace Go.Proofs.YtdpkgjahcapleaaGreatW.PrintMore
open Go.RowKit Go.Proofs.YtdpkgjahcapleaaGreatW.PrintWords
namespace Kd
open Go.Proofs.YtdpkgjahcapleaaGreatW.PrintWords.Kd
end Kd
namespace Kd
open Go.Proofs.YtdpkgjahcapleaaGreatW.PrintWords.Kd
section
variable {α : Type} {d : Kd α} {e base g N : Nat} {ok : Nat → Prop} {W w1 : World} {u v : Value} {xs : List α}
end
end Kd
theorem max2_int (k k' : IntKind) (x y : Int) : Builtin.max2 (.int k x) (.int k' y) = pure (.int k (if x < y then y else x)) := by simp only [Builtin.max2, gt_iff_lt]
theorem min2_int (k k' : IntKind) (x y : Int) : Builtin.min2 (.int k x) (.int k' y) = pure (.int k (if y < x then y else x)) := by simp only [Builtin.min2]
theorem max_two (ats : Array TypeId) (ty : TypeId) (a b : Value) : Builtin.max_ ats ty #[a, b] = (Builtin.max2 a b >>= fun s => pure s) := by simp only [Builtin.max_, List.foldlM_cons, List.foldlM_nil]
theorem min_two (ats : Array TypeId) (ty : TypeId) (a b : Value) : Builtin.min_ ats ty #[a, b] = (Builtin.min2 a b >>= fun s => pure s) := by simp only [Builtin.min_, List.foldlM_cons, List.foldlM_nil]
theorem max_three (ats : Array TypeId) (ty : TypeId) (a b c : Value) : Builtin.max_ ats ty #[a, b, c] = (Builtin.max2 a b >>= fun s => Builtin.max2 s c >>= fun s => pure s) := by simp only [Builtin.max_, List.foldlM_cons, List.foldlM_nil]
theorem min_three (ats : Array TypeId) (ty : TypeId) (a b c : Value) : Builtin.min_ ats ty #[a, b, c] = (Builtin.min2 a b >>= fun s => Builtin.min2 s c >>= fun s => pure s) := by simp only [Builtin.min_, List.foldlM_cons, List.foldlM_nil]
theorem max_four (ats : Array TypeId) (ty : TypeId) (a b c d : Value) : Builtin.max_ ats ty #[a, b, c, d] = (Builtin.max2 a b >>= fun s => Builtin.max2 s c >>= fun s => Builtin.max2 s d >>= fun s => pure s) := by simp only [Builtin.max_, List.foldlM_cons, List.foldlM_nil]
theorem min_four (ats : Array TypeId) (ty : TypeId) (a b c d : Value) : Builtin.min_ ats ty #[a, b, c, d] = (Builtin.min2 a b >>= fun s => Builtin.min2 s c >>= fun s => Builtin.min2 s d >>= fun s => pure s) := by simp only [Builtin.min_, List.foldlM_cons, List.foldlM_nil]
end Go.Proofs.YtdpkgjahcapleaaGreatW.PrintMore
namespace Go.Proofs.YtdpkgjahcapleaaGreatW.PrintWords
open Go.RowKit
section
variable {P : Program} {ops : Array Oper} {rest : List Oper} {o : Oper} {a : Act} {Q : Exit → Act → World → Prop} {W : World}
theorem gate_callee {f : FuncId} {as : Array Operand} {ts : Array TypeId} (_ho : o.op = .call { callee := .value (.func f), args := as, argTypes := ts }) (h : wpList P ops Q (o :: rest) a W) : wpList P ops Q (o :: rest) a W := h
theorem gate_builtin {b : Builtin} {xs : Array Operand} {ts : Array TypeId} (_ho : o.op = .call { callee := .builtin b, args := xs, argTypes := ts }) (h : wpList P ops Q (o :: rest) a W) : wpList P ops Q (o :: rest) a W := h
end
def shl (k : IntKind) (x y : Int) : Int := k.wrap (x * 2 ^ min y.toNat k.bits)
def shr (k : IntKind) (x y : Int) : Int := x / 2 ^ min y.toNat k.bits
theorem shl_small {k : IntKind} {x y j : Int} (h : shl k x y = j) (hy : y ≤ k.bits) : k.wrap (x * 2 ^ y.toNat) = j := by rw [← h]; unfold shl; rw [Nat.min_eq_left (by omega)]
theorem shr_small {k : IntKind} {x y j : Int} (h : shr k x y = j) (hy : y ≤ k.bits) : x / 2 ^ y.toNat = j := by rw [← h]; unfold shr; rw [Nat.min_eq_left (by omega)]
namespace Kd
section
variable {α : Type} {d : Kd α} {e base : Nat} {ok : Nat → Prop} {W w1 : World} {v : Value} {xs : List α}
end
section
variable {α : Type} {d : Kd α} {e base g n cap : Nat} {ok oki okp : Nat → Prop} {W : World} {xs : List α} {i : Int} {c : List Value}
end
section
variable {α : Type} {d : Kd α} {e base b b' g N : Nat} {ok ok1 : Nat → Prop} {W W2 w1 : World} {u v : Value} {xs ys : List α} {S : Nat → Prop}
theorem R_tight2 (hE : d.E = []) (h : d.R e W base ok v xs) : d.R e W base (fun k => some k = v.ownBlock ∧ ok k) v xs := R_mono (R_tight hE h) (fun k hk => ⟨hk, h.1 k hk.symm⟩)
end
end Kd
end Go.Proofs.YtdpkgjahcapleaaGreatW.PrintWords
namespace Go.Proofs.YtdpkgjahcapleaaGreatW.PrintWords
open Go.RowKit
theorem Kept.keepG {w W W2 : World} {S2 : Nat → Prop} {g : Nat} (h : KeepBut w W g none) (k : Kept W W2 S2) (hs : ∀ k, S2 k → k = g ∨ w.heap.size ≤ k) : KeepBut w W2 g none :=
  ⟨Nat.le_trans h.1 k.1, fun i hi hg hr => (k.2 i (Nat.lt_of_lt_of_le hi h.1) (fun h2 => (hs i h2).elim hg (fun h3 => by omega))).trans (h.2 i hi hg hr)⟩
namespace Kd
def V {α : Type} (d : Kd α) (_e : Nat) (W : World) (_base : Nat) (ok : Nat → Prop) (v : Value) (xs : List α) : Prop := ∃ A c, v = .slice A xs.length c ∧ xs.length ≤ c ∧ F d W ok A xs.length xs
section
variable {α β : Type} {d : Kd α} {e base base' n m c g N' lo hi : Nat} {ok ok' S : Nat → Prop} {w W w1 : World} {A : Option Addr} {ad : Addr} {u v v1 : Value} {xs : List α}
theorem V_nil (d : Kd α) (e : Nat) (W : World) (base : Nat) (ok : Nat → Prop) : V d e W base ok (.slice none 0 0) [] := ⟨none, 0, rfl, Nat.le_refl _, F_nil d W ok⟩
end
end Kd
end Go.Proofs.YtdpkgjahcapleaaGreatW.PrintWords
set_option linter.unusedVariables false
set_option linter.unusedSimpArgs false
namespace Go.Proofs.YtdpkgjahcapleaaGreat
open Go.RowKit Go.Proofs.YtdpkgjahcapleaaGreatW.PrintWords Go.Proofs.YtdpkgjahcapleaaGreatW.PrintLast Go.Proofs.YtdpkgjahcapleaaGreatW.PrintMore
namespace Book
section
variable {P : Program} (w : World)
end
structure Kept (w : World) (base : Nat) (e : TypeId) (vs : List Value) (f : Nat → List Value) : Prop where
  row : ∀ (i : Nat) (v : Value), vs[i]? = some v → w.ownsRow base e 1 v (f i).length (f i)
  ne : ∀ (i j : Nat) (v v' : Value), vs[i]? = some v → vs[j]? = some v' → i ≠ j → NeRow v v'
section
variable {w w1 : World} {base : Nat} {e : TypeId} {vs : List Value} {f : Nat → List Value}
theorem Kept.none_ : Kept w base e [] f := ⟨fun i v h => by simp at h, fun i j v v' h => by simp at h⟩
theorem Kept.grown (h : Kept w base e vs f) {row : Option Nat} (hg : w.grownBy w1 row) (hne : ∀ (i : Nat) (v : Value), vs[i]? = some v → v.ownBlock = none ∨ v.ownBlock ≠ row) : Kept w1 base e vs f :=
  ⟨fun i v hv => own_other (h.row i v hv) hg (hne i v hv), h.ne⟩
theorem Kept.below (h : Kept w base e vs f) (hb : Below w.heap.size w w1) : Kept w1 base e vs f := ⟨fun i v hv => pw_own_below (h.row i v hv) hb, h.ne⟩
theorem Kept.set_ (h : Kept w base e vs f) {g : Nat} {t : TypeId} {cells : Array Value} (hb : w.heap[g]? = some (.cells cells t (0, 0))) (ht : e ≠ t) (j : Nat) (u : Value) : Kept (w.setCell ⟨g, j, none⟩ u) base e vs f :=
  ⟨fun i v hv => own_setCell (h.row i v hv) (own_ne (h.row i v hv) hb ht) u, h.ne⟩
theorem Kept.put (h : Kept w base e vs f) {i : Nat} {g n c : Nat} (hi : vs[i]? = some (.slice (some ⟨g, 0, none⟩) n c)) (k : Nat) (u : Value) :
    Kept (w.setCell ⟨g, k, none⟩ u) base e vs (fun j => if j = i then (f i).set k u else f j) ∧ w.grownBy (w.setCell ⟨g, k, none⟩ u) (some g) := by
  have hg : w.grownBy (w.setCell ⟨g, k, none⟩ u) (some g) := ⟨rfl, rfl, rfl, by simp, fun j _ hj => Below.heap_setCell w ⟨g, k, none⟩ u j (fun e => hj (by simp [e]))⟩
  refine ⟨⟨fun j v hv => ?_, h.ne⟩, hg⟩
  by_cases hj : j = i
  · subst hj
    obtain rfl := Option.some.inj (hi.symm.trans hv)
    simp only [eq_self, if_true]
    have ho := h.row j _ hv
    rcases ho.2 with ⟨he, _⟩ | ⟨g', cap, cur, he, hbg, hgg, hnc, hcm, hcs, htake⟩
    · cases he
    injection he with he1 he2 he3
    injection he1 with he1
    injection he1 with he1
    subst he1; subst he2; subst he3
    refine ⟨by simp, .inr ⟨g, c, cur.setIfInBounds k u, by rw [List.length_set], hbg, blk_set hgg k u, by simpa using hnc, hcm, by simpa using hcs, ?_⟩⟩
    rw [Array.toList_setIfInBounds, List.length_set, List.take_set, htake]
  · simp only [if_neg hj]
    refine own_other (h.row j v hv) hg ?_
    have := h.ne j i v _ hv hi hj
    rcases hvb : v.ownBlock with _ | b
    · exact .inl rfl
    · refine .inr fun e => ?_
      injection e with e
      subst e
      exact this b hvb rfl
theorem Kept.congr (h : Kept w base e vs f) {f' : Nat → List Value} (hf : ∀ i, i < vs.length → f' i = f i) : Kept w base e vs f' :=
  ⟨fun i v hv => by rw [hf i (List.getElem?_eq_some_iff.1 hv).1]; exact h.row i v hv, h.ne⟩
theorem Kept.reads {α : Type} {enc : α → Value} {h1 : ∀ x : α, (enc x).oneCell' = true} {L : List (List α)} {ea : TypeId} {base2 : Nat} {v : Value} (h : ∀ (i : Nat) (u : Value), vs[i]? = some u → w.ownsRow base e 1 u (f i).length (f i)) (ho : w.ownsRow base2 ea 1 v vs.length vs)
    (hL : L.length = vs.length) (hf : ∀ (i : Nat) (l : List α), L[i]? = some l → f i = encs enc l) : ∃ A c, v = .slice A L.length c ∧ L.length ≤ c ∧ Kd.C (Kd.slice e (Kd.scalar enc h1)) w A L.length L := by
  have hR : Reps ((Kd.slice e (Kd.scalar enc h1)).K w) 1 L vs := by
    refine ⟨by omega, fun j p hj => ?_⟩
    have hjl := (List.getElem?_eq_some_iff.1 hj).1
    have hjv : j < vs.length := by omega
    have hv : vs[j]? = some vs[j] := List.getElem?_eq_getElem hjv
    have hrow := h j _ hv
    rw [hf j p hj] at hrow
    have hlen : (encs enc p).length = p.length := encs_length p
    rw [hlen] at hrow
    obtain ⟨A, c, he, hc, hC⟩ := Kd.R_reads (Kd.R_of_own (h1 := h1) (ok := fun _ => True) hrow (fun _ _ => trivial))
    refine ⟨A, c, ?_, hc, hC⟩
    rw [Nat.mul_one]
    have : (vs.drop j).take 1 = [vs[j]] := by
      rw [List.drop_eq_getElem_cons hjv]
      rfl
    rw [this, he]
  rw [← hL] at ho
  obtain ⟨A, c, rfl, hrow⟩ := own_reads_row (size := 1) (by simpa using ho) hR rfl
  exact ⟨A, c, rfl, own_le ho, hrow⟩
end
section
variable {w w1 : World} {base S : Nat} {e : TypeId} {vs : List Value} {f : Nat → List Value} {v5 vi : Value} {n5 : Nat} {xs5 : List Value} {i : Nat}
end
end Book
end Go.Proofs.YtdpkgjahcapleaaGreat
