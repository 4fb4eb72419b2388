/- ShX: a part of its proof (contracts of the functions that it reaches, and the plain mathematics behind them). -/
import Derived.Test.YtepgkimlmoikmaaGreatShX45
set_option linter.unusedVariables false
set_option linter.unusedSimpArgs false
set_option linter.unusedVariables false
set_option linter.unusedSimpArgs false
namespace Go.Proofs.YtepgkimlmoikmaaGreat
open Go.RowKit Go.Proofs.YtepgkimlmoikmaaGreat.Spec Go.Proofs.YtepgkimlmoikmaaGreatW.PrintWords Go.Proofs.YtepgkimlmoikmaaGreatW.PrintLast
open Go.Proofs.YtepgkimlmoikmaaGreatW.PrintMore
attribute [local go_sem ↓] Go.wp_at_zero Go.wp_at_succ
attribute [local go_sem] max2_int min2_int max_two min_two
theorem blkS_small {l : List ByteArray} {q k : Nat} {pay : ByteArray → Nat × ByteArray} (hp : PayOk l q k pay) {b : ByteArray} (h1 : 1 ≤ b.size) (h2 : b.size ≤ k) : (blkS pay b).size ≤ 10 * b.size ∧ 10 ≤ (blkS pay b).size := by
 have hf := hp.fits b h1 h2
 have hz : (blkS pay b).size = 9 + (pay b).2.size := frameS_size _ _ _ _
 unfold fitsR at hf
 omega
theorem blksS_small {l : List ByteArray} {q k : Nat} {pay : ByteArray → Nat × ByteArray} (hp : PayOk l q k pay) : ∀ bs : List ByteArray, (∀ b ∈ bs, 1 ≤ b.size ∧ b.size ≤ k) → (blksS pay bs).size ≤ 10 * (catB bs).size
 | [], _ => Nat.le_refl _
 | b :: r, h => by
  have ih := blksS_small hp r fun x hx => h x (List.mem_cons_of_mem _ hx)
  obtain ⟨h1, h2⟩ := h b (List.mem_cons_self ..)
  have hb := (blkS_small hp h1 h2).1
  rw [blksS, catB, ByteArray.size_append, ByteArray.size_append]
  omega
theorem nA_mono (os : List (Int × ByteArray)) (j : Nat) : ∀ d, nA os j ≤ nA os (j + d)
 | 0 => Nat.le_refl _
 | d + 1 => by
  have := nA_mono os j d
  rw [show j + (d + 1) = (j + d) + 1 by omega, nA]
  omega
theorem opA_is {os : List (Int × ByteArray)} {j : Nat} {o : Int × ByteArray} (h : os[j]? = some o) : opA os j = o := by
 unfold opA
 rw [List.getD_eq_getElem?_getD, h]
 rfl
def eA (p q k wd : Nat) (os : List (Int × ByteArray)) (j : Nat) : En := ⟨p, q, k, wd, hA k os j, nA os j, bA os j, false⟩
section
variable {l : List ByteArray} {ad : Addr} {p q k wd : Nat} (hl : l.length ≤ 100) (hs : ∀ s ∈ l, 1 ≤ s.size ∧ s.size ≤ 40) (hc : cfgB p q k wd = true)
include hl hs hc
theorem ebegin_any (e : En) (he : e.p = p ∧ e.q = q ∧ e.k = k ∧ e.wd = wd) (hcl : e.closed = false) (W : World) (g : Nat) (hd : DicF g W (.pointer (some ad)) l) (h : EncAt W g (.pointer (some ad)) e) :
  Calls Tryz.prog 118 #[.pointer (some ⟨g, 0, none⟩)] W fun x w' => x = .returned (.tuple #[.string (if e.begun then ⟨#[]⟩ else headS q k (Idn l)), .nilIface]) ∧ EncAt w' g (.pointer (some ad)) { e with begun := true } ∧ Mv g W w' := by
 obtain ⟨h2, h3, h4, h5, _⟩ := cfg_bounds hc
 obtain ⟨rfl, rfl, rfl, rfl⟩ := he
 cases hb : e.begun with
 | false => exact ebegin_first h hd rfl hl (fun s h => by have := (hs s h).2; omega) hb hcl (by omega) (by omega)
 | true =>
  refine (ebegin_again h rfl hb hcl).mono ?_
  rintro x W' ⟨rfl, rfl⟩
  refine ⟨rfl, ?_, Mv.refl _ _⟩
  rw [show ({ e with begun := true } : En) = e by rw [← hb]]
  exact h
theorem write_st (e : En) (he : e.p = p ∧ e.q = q ∧ e.k = k ∧ e.wd = wd) (hcl : e.closed = false) (b : ByteArray) (hz : e.held.size + b.size ≤ 1000000) (hw : e.written + b.size ≤ 1000000) (W : World) (g : Nat) (hd : DicF g W (.pointer (some ad)) l) (h : EncAt W g (.pointer (some ad)) e) :
  Calls Tryz.prog 53 #[.pointer (some ⟨g, 0, none⟩), .string b] W fun x w' => x = .returned (.tuple #[.string ((if e.begun then ⟨#[]⟩ else headS q k (Idn l)) ++ blksS (putR l p q wd) (chk k (e.held ++ b)).1), .nilIface]) ∧ EncAt w' g (.pointer (some ad)) { e with begun := true, held := (chk k (e.held ++ b)).2, written := e.written + b.size } ∧ Mv g W w' := by
 obtain ⟨h2, h3, h4, h5, _⟩ := cfg_bounds hc
 have hbg := ebegin_any hl hs hc e he hcl W g hd h
 obtain ⟨rfl, rfl, rfl, rfl⟩ := he
 have hh : (if e.begun then (⟨#[]⟩ : ByteArray) else headS e.q e.k (Idn l)).size ≤ 17 := by
  split
  ·exact Nat.zero_le _
  ·rw [headS_size]; exact Nat.le_refl _
 have := write_any (e := e) hbg hd (putOk hl hs hc { e with begun := true } ⟨rfl, rfl, rfl, rfl⟩) (by show 1 ≤ e.k ∧ e.k ≤ 1024; omega) b hz hw hh
 rw [cut_chunk] at this
 exact this
theorem flush_st (e : En) (he : e.p = p ∧ e.q = q ∧ e.k = k ∧ e.wd = wd) (hcl : e.closed = false) (hz : e.held.size ≤ k) (W : World) (g : Nat) (hd : DicF g W (.pointer (some ad)) l) (h : EncAt W g (.pointer (some ad)) e) :
  Calls Tryz.prog 54 #[.pointer (some ⟨g, 0, none⟩)] W fun x w' => x = .returned (.tuple #[.string ((if e.begun then ⟨#[]⟩ else headS q k (Idn l)) ++ blksS (putR l p q wd) (lastB e.held)), .nilIface]) ∧ EncAt w' g (.pointer (some ad)) { e with begun := true, held := ⟨#[]⟩ } ∧ Mv g W w' := by
 obtain ⟨h2, h3, h4, h5, _⟩ := cfg_bounds hc
 have hbg := ebegin_any hl hs hc e he hcl W g hd h
 obtain ⟨e1, e2, e3, e4⟩ := he
 have hh : (if e.begun then (⟨#[]⟩ : ByteArray) else headS q k (Idn l)).size ≤ 17 := by
  split
  ·exact Nat.zero_le _
  ·rw [headS_size]; exact Nat.le_refl _
 have := flush_any (e := e) hbg hd (putOk hl hs hc { e with begun := true } ⟨e1, e2, e3, e4⟩) (by show 1 ≤ e.k ∧ e.k ≤ 1024; omega) (by show e.held.size ≤ e.k; omega) hh
 refine this.mono ?_
 rintro x w' ⟨rfl, h1, h2⟩
 refine ⟨?_, h1, h2⟩
 rw [blks_last]
 dsimp only
 split
 ·rw [ba_append_nil]
 ·rfl
theorem close_st (e : En) (he : e.p = p ∧ e.q = q ∧ e.k = k ∧ e.wd = wd) (hcl : e.closed = false) (hz : e.held.size ≤ k) (hw : e.written ≤ 1000000) (W : World) (g : Nat) (hd : DicF g W (.pointer (some ad)) l) (h : EncAt W g (.pointer (some ad)) e) :
  Calls Tryz.prog 55 #[.pointer (some ⟨g, 0, none⟩)] W fun x w' => x = .returned (.tuple #[.string ((if e.begun then ⟨#[]⟩ else headS q k (Idn l)) ++ (blksS (putR l p q wd) (lastB e.held) ++ endS e.written)), .nilIface]) ∧ EncAt w' g (.pointer (some ad)) { e with begun := true, held := ⟨#[]⟩, closed := true } ∧ Mv g W w' := by
 obtain ⟨h2, h3, h4, h5, _⟩ := cfg_bounds hc
 have hfl := flush_st hl hs hc e he hcl hz W g hd h
 have hbs := blksS_small (payOk hl hs hc) (lastB e.held) (by
  unfold lastB
  intro b hb
  split at hb
  ·cases hb
  ·rw [List.mem_singleton] at hb; subst hb; exact ⟨by omega, hz⟩)
 rw [cat_last] at hbs
 have hh : (if e.begun then (⟨#[]⟩ : ByteArray) else headS q k (Idn l)).size ≤ 17 := by
  split
  ·exact Nat.zero_le _
  ·rw [headS_size]; exact Nat.le_refl _
 have := close_any hfl (by show e.written ≤ 1000000000; omega) (by rw [ByteArray.size_append]; omega)
 rw [ba_assoc] at this
 exact this
theorem stepsA (os : List (Int × ByteArray)) (m : Nat) (hm : m ≤ os.length) (ahead : ∀ j o, j < m → os[j]? = some o → o.1 ≠ 3) (last : ∀ o, os[m]? = some o → o.1 = 3) (hz : nA os m ≤ 100000) :
  Steps l (.pointer (some ad)) p q k wd os (fun j W g => DicF g W (.pointer (some ad)) l ∧ EncAt W g (.pointer (some ad)) (eA p q k wd os j)) (oA k os (putR l p q wd) (headS q k (Idn l)) m) m := by
 obtain ⟨h2, h3, h4, h5, _⟩ := cfg_bounds hc
 have hk1 : 1 ≤ k := h4.1
 have hn : ∀ j, j ≤ m → nA os j ≤ 100000 := fun j hj => by
  have := nA_mono os j (m - j)
  rw [show j + (m - j) = m by omega] at this
  omega
 have hsz : ∀ j, j ≤ m → (hA k os j).size ≤ nA os j := fun j _ => by
  have := (dA_ok hk1 os j).2
  rw [ByteArray.size_append] at this
  omega
 have hp := payOk hl hs hc
 have hdz : ∀ j, j ≤ m → (blksS (putR l p q wd) (dA k os j)).size ≤ 1000000 := fun j hj => by
  obtain ⟨g1, g2⟩ := dA_ok hk1 os j
  have := blksS_small hp _ g1
  have := hn j hj
  rw [ByteArray.size_append] at g2
  omega
 have hhz : (headS q k (Idn l)).size = 17 := headS_size _ _ _
 refine ⟨hm, ahead, last, fun W g hd he => ⟨hd, he⟩, fun j W W' g hi hb => ⟨hi.1.step (Mv.of hb), hi.2.below hb⟩, ?_, ?_, fun j o hj ho h1 h2 => ?_, ?_, fun j hj => ?_⟩
 ·intro j b hj ho W g ⟨hd, he⟩
  have hop := opA_is ho
  have hn1 := hn (j + 1) hj
  have hns : nA os (j + 1) = nA os j + b.size := by rw [nA, hop, if_pos rfl]
  have hh := hsz j (by omega)
  refine (write_st hl hs hc (eA p q k wd os j) ⟨rfl, rfl, rfl, rfl⟩ rfl b (by show (hA k os j).size + _ ≤ _; omega) (by show nA os j + _ ≤ _; omega) W g hd he).mono ?_
  rintro x w' ⟨rfl, h1, h2⟩
  refine ⟨?_, ⟨hd.step h2, ?_⟩, h2⟩
  ·unfold oA
   rw [if_neg (show ¬ j = m by omega), hop, if_pos (show (1 : Int) = 1 ∨ (1 : Int) = 2 from .inl rfl)]
   unfold wA
   rw [hop, if_pos rfl]
   rfl
  ·have : eA p q k wd os (j + 1) = { eA p q k wd os j with begun := true, held := (chk k ((eA p q k wd os j).held ++ b)).2, written := (eA p q k wd os j).written + b.size } := by
    unfold eA
    rw [hns, hA, hop, if_pos rfl, bA, hop, decide_eq_true (show (1 : Int) = 1 ∨ (1 : Int) = 2 from .inl rfl), Bool.or_true]
   rw [this]
   exact h1
 ·intro j b hj ho W g ⟨hd, he⟩
  have hop := opA_is ho
  refine (flush_st hl hs hc (eA p q k wd os j) ⟨rfl, rfl, rfl, rfl⟩ rfl (Nat.le_of_lt (hA_lt hk1 os j)) W g hd he).mono ?_
  rintro x w' ⟨rfl, h1, h2⟩
  refine ⟨?_, ⟨hd.step h2, ?_⟩, h2⟩
  ·unfold oA
   rw [if_neg (show ¬ j = m by omega), hop, if_pos (show (2 : Int) = 1 ∨ (2 : Int) = 2 from .inr rfl)]
   unfold wA
   rw [hop, if_neg (show ¬ (2 : Int) = 1 by decide), if_pos rfl]
   rfl
  ·have : eA p q k wd os (j + 1) = { eA p q k wd os j with begun := true, held := ⟨#[]⟩ } := by
    unfold eA
    rw [nA, hA, bA, hop, if_neg (show ¬ (2 : Int) = 1 by decide), if_neg (show ¬ (2 : Int) = 1 by decide), if_pos rfl, decide_eq_true (show (2 : Int) = 1 ∨ (2 : Int) = 2 from .inr rfl), Bool.or_true]
    rfl
   rw [this]
   exact h1
 ·have hop := opA_is ho
  refine ⟨?_, fun W g ⟨hd, he⟩ => ⟨hd, ?_⟩⟩
  ·unfold oA
   rw [if_neg (show ¬ j = m by omega), hop, if_neg (show ¬ (o.1 = 1 ∨ o.1 = 2) from fun h => h.elim h1 h2)]
  ·have : eA p q k wd os (j + 1) = eA p q k wd os j := by
    unfold eA
    rw [nA, hA, bA, hop, if_neg h1, if_neg h1, if_neg h2, decide_eq_false (show ¬ (o.1 = 1 ∨ o.1 = 2) from fun h => h.elim h1 h2), Bool.or_false]
    rfl
   rw [this]
   exact he
 ·intro W g ⟨hd, he⟩
  refine (close_st hl hs hc (eA p q k wd os m) ⟨rfl, rfl, rfl, rfl⟩ rfl (Nat.le_of_lt (hA_lt hk1 os m)) (by have := hn m (Nat.le_refl _); show nA os m ≤ _; omega) W g hd he).mono ?_
  rintro x w' ⟨rfl, h1, h2⟩
  refine ⟨?_, h2⟩
  unfold oA
  rw [if_pos rfl]
  rfl
 ·rcases Nat.lt_or_ge j m with h | h
  ·have e := cat_oA k os (putR l p q wd) (headS q k (Idn l)) m (j + 1) h
   have e2 : (catO (oA k os (putR l p q wd) (headS q k (Idn l)) m) (j + 1)).size = (catO (oA k os (putR l p q wd) (headS q k (Idn l)) m) j).size + (oA k os (putR l p q wd) (headS q k (Idn l)) m j).size := by rw [catO, ByteArray.size_append]
   rw [← e2, e]
   have := hdz (j + 1) h
   split
   ·rw [ByteArray.size_append]; omega
   ·exact Nat.zero_le _
  ·obtain rfl : j = m := by omega
   have e := cat_all k os (putR l p q wd) (headS q k (Idn l)) j
   have e2 : (catO (oA k os (putR l p q wd) (headS q k (Idn l)) j) (j + 1)).size = (catO (oA k os (putR l p q wd) (headS q k (Idn l)) j) j).size + (oA k os (putR l p q wd) (headS q k (Idn l)) j j).size := by rw [catO, ByteArray.size_append]
   rw [← e2, e, ByteArray.size_append, ByteArray.size_append, endS_size, blksS_app, ByteArray.size_append]
   have := hdz j hj
   have hlast := blksS_small hp (lastB (hA k os j)) (by
    unfold lastB
    intro b hb
    split at hb
    ·cases hb
    ·rw [List.mem_singleton] at hb; subst hb; exact ⟨by omega, Nat.le_of_lt (hA_lt hk1 os j)⟩)
   rw [cat_last] at hlast
   have := hA_lt hk1 os j
   omega
end
end Go.Proofs.YtepgkimlmoikmaaGreat
set_option linter.unusedVariables false
set_option linter.unusedSimpArgs false
namespace Go.Proofs.YtepgkimlmoikmaaGreat
open Go.RowKit Go.Proofs.YtepgkimlmoikmaaGreat.Spec Go.Proofs.YtepgkimlmoikmaaGreatW.PrintWords Go.Proofs.YtepgkimlmoikmaaGreatW.PrintLast
open Go.Proofs.YtepgkimlmoikmaaGreatW.PrintMore
attribute [local go_sem ↓] Go.wp_at_zero Go.wp_at_succ
attribute [local go_sem] max2_int min2_int max_two min_two
theorem opA_left {os r : List (Int × ByteArray)} {j : Nat} (h : j < os.length) : opA (os ++ r) j = opA os j := by
 unfold opA
 rw [List.getD_eq_getElem?_getD, List.getD_eq_getElem?_getD, List.getElem?_append_left h]
theorem opA_here (os : List (Int × ByteArray)) (o : Int × ByteArray) : opA (os ++ [o]) os.length = o := by
 unfold opA
 rw [List.getD_eq_getElem?_getD, List.getElem?_append_right (Nat.le_refl _), Nat.sub_self]
 rfl
theorem pre_A (k : Nat) (os r : List (Int × ByteArray)) : ∀ j, j ≤ os.length → dA k (os ++ r) j = dA k os j ∧ hA k (os ++ r) j = hA k os j ∧ nA (os ++ r) j = nA os j ∧ bA (os ++ r) j = bA os j
 | 0, _ => ⟨rfl, rfl, rfl, rfl⟩
 | j + 1, h => by
  obtain ⟨i1, i2, i3, i4⟩ := pre_A k os r j (by omega)
  have ho := opA_left (r := r) (show j < os.length by omega)
  refine ⟨?_, ?_, ?_, ?_⟩
  ·rw [dA, dA, i1]
   unfold wA
   rw [ho, i2]
  ·rw [hA, hA, ho, i2]
  ·rw [nA, nA, ho, i3]
  ·rw [bA, bA, ho, i4]
namespace Spec
def DL (k : Nat) (os : List (Int × ByteArray)) : List ByteArray := dA k os os.length
def HL (k : Nat) (os : List (Int × ByteArray)) : ByteArray := hA k os os.length
def NL (os : List (Int × ByteArray)) : Nat := nA os os.length
def streamE (l : List ByteArray) (q k : Nat) (pay : ByteArray → Nat × ByteArray) (os : List (Int × ByteArray)) : ByteArray := headS q k (Idn l) ++ (blksS pay (DL k os ++ lastB (HL k os)) ++ endS (NL os))
end Spec
theorem len_snoc (os : List (Int × ByteArray)) (o : Int × ByteArray) : (os ++ [o]).length = os.length + 1 := by rw [List.length_append]; rfl
theorem run_write (k : Nat) (os : List (Int × ByteArray)) (b : ByteArray) : DL k (os ++ [(1, b)]) = DL k os ++ (chk k (HL k os ++ b)).1 ∧ HL k (os ++ [(1, b)]) = (chk k (HL k os ++ b)).2 ∧ NL (os ++ [(1, b)]) = NL os + b.size := by
 obtain ⟨i1, i2, i3, _⟩ := pre_A k os [(1, b)] os.length (Nat.le_refl _)
 have ho := opA_here os (1, b)
 unfold DL HL NL
 rw [len_snoc]
 refine ⟨?_, ?_, ?_⟩
 ·rw [dA, i1]
  unfold wA
  rw [ho, i2, if_pos rfl]
 ·rw [hA, ho, i2, if_pos rfl]
 ·rw [nA, ho, i3, if_pos rfl]
theorem run_flush (k : Nat) (os : List (Int × ByteArray)) (b : ByteArray) : DL k (os ++ [(2, b)]) = DL k os ++ lastB (HL k os) ∧ HL k (os ++ [(2, b)]) = ⟨#[]⟩ ∧ NL (os ++ [(2, b)]) = NL os := by
 obtain ⟨i1, i2, i3, _⟩ := pre_A k os [(2, b)] os.length (Nat.le_refl _)
 have ho := opA_here os (2, b)
 unfold DL HL NL
 rw [len_snoc]
 refine ⟨?_, ?_, ?_⟩
 ·rw [dA, i1]
  unfold wA
  rw [ho, i2, if_neg (show ¬ (2 : Int) = 1 by decide), if_pos rfl]
 ·rw [hA, ho, if_neg (show ¬ (2 : Int) = 1 by decide), if_pos rfl]
 ·rw [nA, ho, i3, if_neg (show ¬ (2 : Int) = 1 by decide), Nat.add_zero]
theorem lastB_nil : lastB ⟨#[]⟩ = [] := rfl
theorem chk_nil2 {k : Nat} (hk : 1 ≤ k) : chk k (⟨#[]⟩ ++ ⟨#[]⟩) = ([], ⟨#[]⟩) := chk_small hk ⟨#[]⟩ hk
theorem encode24_any {w : World} {ad : Addr} {l : List ByteArray} {p q k wd : Nat} (hl : l.length ≤ 100) (hs : ∀ s ∈ l, 1 ≤ s.size ∧ s.size ≤ 40) (hd : DictAt w (.pointer (some ad)) l) (hc : cfgB p q k wd = true) (os : List (Int × ByteArray)) {A : Option Addr} {c : Nat} (hos : OpsIn w A os) (hoc : os.length ≤ c) (hol : os.length ≤ 100000) (h3 : ∀ o ∈ os, o.1 ≠ 3) (hn : NL os ≤ 100000) :
  Calls Tryz.prog 39 #[.pointer (some ad), .agg #[.int .i64 (p : Int), .int .i64 (q : Int), .int .i64 (k : Int), .int .i64 (wd : Int)], .slice A os.length c] w fun e w' => e = .returned (.tuple #[.string (streamE l q k (putR l p q wd) os), .bool true]) ∧ Below w.heap.size w w' := by
 have h := encode24_run hd hc hos hoc hol (stepsA hl hs hc os os.length (Nat.le_refl _) (fun j o _ ho => h3 o (List.mem_of_getElem? ho)) (fun o ho => by
  have := (List.getElem?_eq_some_iff.1 ho).1
  omega) hn)
 rw [cat_all] at h
 exact h
def manyO (b : ByteArray) (j : Nat) : List (Int × ByteArray) := [(2, ⟨#[]⟩), (1, b)] ++ opsE j
theorem manyO_succ (b : ByteArray) (j : Nat) : manyO b (j + 1) = manyO b j ++ [(2, ⟨#[]⟩), (1, ⟨#[]⟩)] := by unfold manyO; rw [opsE, List.append_assoc]
theorem manyO_len (b : ByteArray) (j : Nat) : (manyO b j).length = 2 + 2 * j := by unfold manyO; rw [List.length_append, opsE_len]; rfl
theorem one_run {k : Nat} (b : ByteArray) : DL k [(1, b), (2, ⟨#[]⟩)] = (chk k b).1 ++ lastB (chk k b).2 ∧ HL k [(1, b), (2, ⟨#[]⟩)] = ⟨#[]⟩ ∧ NL [(1, b), (2, ⟨#[]⟩)] = b.size := by
 obtain ⟨w1, w2, w3⟩ := run_write k [] b
 obtain ⟨f1, f2, f3⟩ := run_flush k [(1, b)] ⟨#[]⟩
 rw [show HL k [] = ⟨#[]⟩ from rfl, ba_nil_append] at w1 w2
 rw [show DL k [] = [] from rfl, List.nil_append] at w1
 rw [show NL [] = 0 from rfl, Nat.zero_add] at w3
 change DL k [(1, b)] = _ at w1
 change HL k [(1, b)] = _ at w2
 change NL [(1, b)] = _ at w3
 rw [w1, w2] at f1
 rw [w3] at f3
 exact ⟨f1, f2, f3⟩
theorem many_run {k : Nat} (hk : 1 ≤ k) (b : ByteArray) : ∀ j, DL k (manyO b (j + 1)) = (chk k b).1 ++ lastB (chk k b).2 ∧ HL k (manyO b (j + 1)) = ⟨#[]⟩ ∧ NL (manyO b (j + 1)) = b.size
 | 0 => by
  obtain ⟨a1, a2, a3⟩ := run_flush k [] ⟨#[]⟩
  obtain ⟨w1, w2, w3⟩ := run_write k [(2, ⟨#[]⟩)] b
  obtain ⟨f1, f2, f3⟩ := run_flush k [(2, ⟨#[]⟩), (1, b)] ⟨#[]⟩
  obtain ⟨v1, v2, v3⟩ := run_write k [(2, ⟨#[]⟩), (1, b), (2, ⟨#[]⟩)] ⟨#[]⟩
  rw [show HL k [] = ⟨#[]⟩ from rfl, lastB_nil, show DL k [] = [] from rfl, List.append_nil] at a1
  change DL k [(2, ⟨#[]⟩)] = [] at a1
  change HL k [(2, ⟨#[]⟩)] = ⟨#[]⟩ at a2
  change NL [(2, ⟨#[]⟩)] = 0 at a3
  change DL k [(2, ⟨#[]⟩), (1, b)] = _ at w1
  change HL k [(2, ⟨#[]⟩), (1, b)] = _ at w2
  change NL [(2, ⟨#[]⟩), (1, b)] = _ at w3
  change DL k [(2, ⟨#[]⟩), (1, b), (2, ⟨#[]⟩)] = _ at f1
  change HL k [(2, ⟨#[]⟩), (1, b), (2, ⟨#[]⟩)] = _ at f2
  change NL [(2, ⟨#[]⟩), (1, b), (2, ⟨#[]⟩)] = _ at f3
  rw [a1, a2, ba_nil_append, List.nil_append] at w1
  rw [a2, ba_nil_append] at w2
  rw [a3, Nat.zero_add] at w3
  rw [w1, w2] at f1
  rw [f2, chk_nil2 hk] at v1 v2
  refine ⟨?_, v2, ?_⟩
  ·show DL k ([(2, ⟨#[]⟩), (1, b), (2, ⟨#[]⟩)] ++ [(1, ⟨#[]⟩)]) = _
   rw [v1, f1, List.append_nil]
  ·show NL ([(2, ⟨#[]⟩), (1, b), (2, ⟨#[]⟩)] ++ [(1, ⟨#[]⟩)]) = _
   rw [v3, f3, w3]
   rfl
 | j + 1 => by
  obtain ⟨i1, i2, i3⟩ := many_run hk b j
  obtain ⟨f1, f2, f3⟩ := run_flush k (manyO b (j + 1)) ⟨#[]⟩
  obtain ⟨v1, v2, v3⟩ := run_write k (manyO b (j + 1) ++ [(2, ⟨#[]⟩)]) ⟨#[]⟩
  rw [i2, lastB_nil, List.append_nil, i1] at f1
  rw [f2, chk_nil2 hk] at v1 v2
  have he : manyO b (j + 1 + 1) = manyO b (j + 1) ++ [(2, ⟨#[]⟩)] ++ [(1, ⟨#[]⟩)] := by rw [manyO_succ b (j + 1), List.append_assoc]; rfl
  rw [he]
  refine ⟨by rw [v1, f1, List.append_nil], v2, ?_⟩
  rw [v3, f3, i3]
  rfl
theorem flushes_same {l : List ByteArray} {q k : Nat} (hk : 1 ≤ k) (pay : ByteArray → Nat × ByteArray) (b : ByteArray) {n : Nat} (hn : 1 ≤ n) : streamE l q k pay [(1, b), (2, ⟨#[]⟩)] = streamE l q k pay (manyO b n) := by
 obtain ⟨m, rfl⟩ : ∃ m, n = m + 1 := ⟨n - 1, by omega⟩
 obtain ⟨a1, a2, a3⟩ := one_run (k := k) b
 obtain ⟨b1, b2, b3⟩ := many_run hk b m
 unfold streamE
 rw [a1, a2, a3, b1, b2, b3]
end Go.Proofs.YtepgkimlmoikmaaGreat
