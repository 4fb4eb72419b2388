/- Contracts: a phrase by its number, a number by its phrase. -/
import Derived.Test.YtboklkfplnmabaaGreatDictC
set_option linter.unusedVariables false
set_option linter.unusedSimpArgs false
namespace Go.Proofs.YtboklkfplnmabaaGreat
open Go.RowKit Go.Proofs.YtboklkfplnmabaaGreat.Spec Go.Proofs.YtboklkfplnmabaaGreatW.PrintWords Go.Proofs.YtboklkfplnmabaaGreatW.PrintLast
open Go.Proofs.YtboklkfplnmabaaGreatW.PrintMore
theorem fnd_nodup {l : List ByteArray} (h : l.Nodup) {i : Nat} {x : ByteArray} (hx : l[i]? = some x) : fnd x l = some i := by
  obtain ⟨hi, rfl⟩ := List.getElem?_eq_some_iff.1 hx
  have hs : l = l.take i ++ l[i] :: l.drop (i + 1) := by rw [← List.drop_eq_getElem_cons hi, List.take_append_drop]
  have hn : l[i] ∉ l.take i := by
    rw [hs] at h
    intro hm
    have := (List.nodup_append.1 h).2.2 _ hm _ (List.mem_cons_self ..)
    exact this rfl
  have := fnd_here (b := l.drop (i + 1)) hn
  rw [← hs, List.length_take, Nat.min_eq_left (by omega)] at this
  exact this
theorem at_nat {w : World} {p : Value} {l : List ByteArray} (h : DictAt w p l) (i : Nat) (x : ByteArray) (hx : l[i]? = some x) : Calls Tryz.prog 148 #[p, .int .i64 (i : Int)] w fun e w' => e = .returned (.tuple #[.string x, .bool true]) ∧ w = w' := by
  obtain ⟨hi, _⟩ := List.getElem?_eq_some_iff.1 hx
  have := at_in h (i : Int) (by omega) (by omega)
  rw [Int.toNat_natCast, List.getD_eq_getElem?_getD, hx] at this
  exact this
end Go.Proofs.YtboklkfplnmabaaGreat
