/- ShU: a part of its proof (contracts of the functions that it reaches, and the plain mathematics behind them). -/
import Derived.Test.YtepgkimlmoikmaaGreatShU20
import Derived.Test.YtepgkimlmoikmaaGreatShU21
set_option linter.unusedVariables false
set_option linter.unusedSimpArgs false
set_option maxHeartbeats 2000000
set_option maxRecDepth 100000
set_option linter.unusedVariables false
set_option linter.unusedSimpArgs false
namespace Go.Proofs.YtepgkimlmoikmaaGreat
open Go.RowKit Go.Proofs.YtepgkimlmoikmaaGreat.Spec Go.Proofs.YtepgkimlmoikmaaGreatW.PrintWords Go.Proofs.YtepgkimlmoikmaaGreatW.PrintLast
open Go.Proofs.YtepgkimlmoikmaaGreatW.PrintMore
attribute [local go_sem ↓] Go.wp_at_zero Go.wp_at_succ
namespace Spec
def vl (t : Int) : Nat := (num t.toNat).length
def stps (tail : ByteArray) : Nat → List ByteArray → List (Int × Nat)
 | _, [] => []
 | k, s :: r => if hp tail s = true then (256 + (k : Int), s.size) :: stps tail (k + 1) r else stps tail (k + 1) r
def stp (l : List ByteArray) (b : ByteArray) (a : Nat) : List (Int × Nat) := stps (b.extract a b.size) 0 l ++ [((((u b).getD a 0).toNat : Int), 1)]
abbrev Ent := (Nat × Nat) × (Int × Nat)
def ent0 : Ent := ((0, 0), (0, 0))
def costOf (T : List Ent) (s : Int × Nat) : Nat × Nat := (1 + (T.getD (s.2 - 1) ent0).1.1, 8 * vl s.1 + (T.getD (s.2 - 1) ent0).1.2)
def less (a b : Nat × Nat) : Bool := if a.1 = b.1 then decide (a.2 < b.2) else decide (a.1 < b.1)
def pick (T : List Ent) (e : Ent) (s : Int × Nat) : Ent := if less (costOf T s) e.1 = true ∨ costOf T s = e.1 ∧ e.2.2 < s.2 then (costOf T s, s) else e
def mostE : Ent := ((1099511627776, 1099511627776), (0, 0))
def sel (T : List Ent) (ss : List (Int × Nat)) : Ent := ss.foldl (pick T) mostE
def lstE (l : List ByteArray) (b : ByteArray) : Nat → List Ent
 | 0 => []
 | d + 1 => sel (lstE l b d) (stp l b (b.size - (d + 1))) :: lstE l b d
def bnx (l : List ByteArray) (b : ByteArray) (a : Nat) : Int × Nat := (sel (lstE l b (b.size - (a + 1))) (stp l b a)).2
end Spec
theorem lstE_len (l : List ByteArray) (b : ByteArray) : ∀ d, (lstE l b d).length = d := by
 intro d
 induction d with
 | zero => rfl
 | succ d ih => rw [lstE, List.length_cons, ih]
theorem lstE_at (l : List ByteArray) (b : ByteArray) : ∀ d i, i < d → (lstE l b d)[i]? = some (sel (lstE l b (d - (i + 1))) (stp l b (b.size - (d - i)))) := by
 intro d
 induction d with
 | zero => intro i h; omega
 | succ d ih =>
  intro i h
  cases i with
  | zero => rfl
  | succ i =>
   rw [lstE, List.getElem?_cons_succ, ih i (by omega)]
   rw [show d + 1 - (i + 1 + 1) = d - (i + 1) by omega, show d + 1 - (i + 1) = d - i by omega]
theorem lstE_bnx (l : List ByteArray) (b : ByteArray) (a : Nat) (h : a < b.size) : ((lstE l b b.size)[a]?).map (·.2) = some (bnx l b a) := by
 rw [lstE_at l b b.size a h, Option.map_some, show b.size - (b.size - a) = a by omega]
 rfl
theorem stps_fits {l : List ByteArray} (hs : ∀ s ∈ l, 1 ≤ s.size ∧ s.size ≤ 40) (b : ByteArray) (a : Nat) (ha : a ≤ b.size) : ∀ (r : List ByteArray) (k : Nat), l.drop k = r → ∀ s ∈ stps (b.extract a b.size) k r, Fits l b a s.1 s.2 := by
 intro r
 induction r with
 | nil => intro k _ s h; cases h
 | cons p r ih =>
  intro k hd s h
  have hk : l[k]? = some p := by
   have := congrArg (fun q => q[0]?) hd
   simpa using this
  have hd2 : l.drop (k + 1) = r := by rw [← List.drop_drop, hd]; rfl
  rw [stps] at h
  split at h
  ·rename_i hh
   rcases List.mem_cons.1 h with rfl | h
   ·exact fits_phrase ha hk (hs p (List.mem_of_getElem? hk)) hh
   ·exact ih _ hd2 s h
  ·exact ih _ hd2 s h
theorem stp_fits {l : List ByteArray} (hs : ∀ s ∈ l, 1 ≤ s.size ∧ s.size ≤ 40) (b : ByteArray) (a : Nat) (ha : a < b.size) : ∀ s ∈ stp l b a, Fits l b a s.1 s.2 := by
 intro s h
 rcases List.mem_append.1 h with h | h
 ·exact stps_fits hs b a (Nat.le_of_lt ha) l 0 rfl s h
 ·rw [List.mem_singleton.1 h]
  exact fits_one ha
theorem stp_ne (l : List ByteArray) (b : ByteArray) (a : Nat) : stp l b a ≠ [] := by simp [stp]
theorem fold_mem (T : List Ent) : ∀ (ss : List (Int × Nat)) (e : Ent), ss.foldl (pick T) e = e ∨ ∃ s ∈ ss, ss.foldl (pick T) e = (costOf T s, s) := by
 intro ss
 induction ss with
 | nil => intro e; exact .inl rfl
 | cons s r ih =>
  intro e
  rw [List.foldl_cons]
  rcases ih (pick T e s) with h | ⟨q, hq, h⟩
  ·rw [h]
   unfold pick
   split
   ·exact .inr ⟨s, List.mem_cons_self .., rfl⟩
   ·exact .inl rfl
  ·exact .inr ⟨q, List.mem_cons_of_mem _ hq, h⟩
theorem sel_mem (T : List Ent) (ss : List (Int × Nat)) (hne : ss ≠ []) (h : ∀ s ∈ ss, (costOf T s).1 < 1099511627776) : ∃ s ∈ ss, sel T ss = (costOf T s, s) := by
 cases ss with
 | nil => exact absurd rfl hne
 | cons s r =>
  unfold sel
  rw [List.foldl_cons]
  have h1 := h s (List.mem_cons_self ..)
  have hp : pick T mostE s = (costOf T s, s) := by
   unfold pick
   rw [if_pos]
   left
   unfold less
   have : ¬ (costOf T s).1 = mostE.1.1 := by
    show ¬ (costOf T s).1 = 1099511627776
    omega
   rw [if_neg this]
   exact decide_eq_true h1
  rw [hp]
  rcases fold_mem T r (costOf T s, s) with h2 | ⟨q, hq, h2⟩
  ·exact ⟨s, List.mem_cons_self .., h2⟩
  ·exact ⟨q, List.mem_cons_of_mem _ hq, h2⟩
theorem vl_le {t : Int} (h : t < 4294967296) : vl t ≤ 5 := by
 unfold vl
 exact num_size (by omega)
theorem getD_bound {T : List Ent} {x y : Nat} (h : ∀ e ∈ T, e.1.1 ≤ x ∧ e.1.2 ≤ y) (i : Nat) : (T.getD i ent0).1.1 ≤ x ∧ (T.getD i ent0).1.2 ≤ y := by
 rw [List.getD_eq_getElem?_getD]
 cases hi : T[i]? with
 | none => exact ⟨Nat.zero_le _, Nat.zero_le _⟩
 | some e => exact h e (List.mem_of_getElem? hi)
theorem cost_bound {l : List ByteArray} (hl : l.length ≤ 1000) {b : ByteArray} {a : Nat} {T : List Ent} {x y : Nat} (h : ∀ e ∈ T, e.1.1 ≤ x ∧ e.1.2 ≤ y) {s : Int × Nat} (hf : Fits l b a s.1 s.2) : (costOf T s).1 ≤ x + 1 ∧ (costOf T s).2 ≤ y + 40 := by
 have h1 := getD_bound h (s.2 - 1)
 have h2 := vl_le (t := s.1) (by have := hf.1.2; omega)
 unfold costOf
 exact ⟨by omega, by omega⟩
theorem lstE_bound {l : List ByteArray} (hl : l.length ≤ 1000) (hs : ∀ s ∈ l, 1 ≤ s.size ∧ s.size ≤ 40) (b : ByteArray) (hb : b.size ≤ 100000) : ∀ d, d ≤ b.size → ∀ e ∈ lstE l b d, e.1.1 ≤ d ∧ e.1.2 ≤ 40 * d := by
 intro d
 induction d with
 | zero => intro _ e h; cases h
 | succ d ih =>
  intro hd e h
  rw [lstE] at h
  have ih2 := ih (by omega)
  rcases List.mem_cons.1 h with rfl | h
  ·obtain ⟨s, hm, he⟩ := sel_mem (lstE l b d) (stp l b (b.size - (d + 1))) (stp_ne _ _ _) (fun s hm => by
    have := (cost_bound hl ih2 (stp_fits hs b _ (by omega) s hm)).1
    omega)
   have h3 := cost_bound hl ih2 (stp_fits hs b _ (by omega) s hm)
   rw [he]
   exact ⟨h3.1, by show (costOf _ s).2 ≤ _; omega⟩
  ·have := ih2 e h
   exact ⟨by omega, by omega⟩
theorem bnx_fits {l : List ByteArray} (hl : l.length ≤ 1000) (hs : ∀ s ∈ l, 1 ≤ s.size ∧ s.size ≤ 40) (b : ByteArray) (hb : b.size ≤ 100000) (a : Nat) (ha : a < b.size) : Fits l b a (bnx l b a).1 (bnx l b a).2 := by
 obtain ⟨s, hm, he⟩ := sel_mem (lstE l b (b.size - (a + 1))) (stp l b a) (stp_ne _ _ _) (fun s hm => by
  have := (cost_bound hl (lstE_bound hl hs b hb (b.size - (a + 1)) (by omega)) (stp_fits hs b _ ha s hm)).1
  omega)
 unfold bnx
 rw [he]
 exact stp_fits hs b a ha s hm
def encC (p : Nat × Nat) : Value := .complex .f64 (fl p.1) (fl p.2)
theorem vlen_calls {n : Nat} (h : n < 4294967296) (w : World) : Calls Tryz.prog 209 #[.int .i64 (n : Int)] w fun e w' => e = .returned (.int .i64 (vl (n : Int) : Nat)) ∧ Below w.heap.size w w' := by
 obtain ⟨k, hk⟩ := (Bridge.put_ev (n : Int)).rounds
 refine Leaf.vari_Len.calls k _ _ w ?_
 unfold Leaf.vari_Len.f
 rw [hk, Option.bind_some, Bridge.putS_nat h, str_size]
 rfl
theorem vl_pos (t : Int) : 1 ≤ vl t := by
 unfold vl
 exact List.length_pos_iff.2 (num_ne _)
theorem costof_calls {n : Nat} (h : n < 4294967296) (w : World) : Calls Tryz.prog 175 #[.int .i64 (n : Int)] w fun e w' => e = .returned (.complex .f64 (fl 1) (fl (8 * vl (n : Int)))) ∧ Below w.heap.size w w' := by
 have H := Aside0.mk (fun w => vlen_calls h w)
 have h1 := vl_pos (n : Int)
 have h2 := vl_le (t := (n : Int)) (by omega)
 have hz : ((vl (n : Int) : Int) == 0) = false := beq_eq_false_iff_ne.2 (by omega)
 have hz2 : (vl (n : Int) == 0) = false := beq_eq_false_iff_ne.2 (by omega)
 have HE : Aside0 (Value.complex .f64 4607182418800017408 (floatOfInt .f64 (8 * (vl (n : Int) : Int))) = .complex .f64 (fl 1) (fl (8 * vl (n : Int)))) := ⟨by
  rw [← fl_one, show (8 * (vl (n : Int) : Int)) = ((8 * vl (n : Int) : Nat) : Int) by omega, of_fl]⟩
 have p1 : (vl (n : Int) : Int) ≤ 5 := by omega
 generalize vl (n : Int) = v at *
 clear h h1 h2
 go_enter Tryz.func175, Tryz.ntmps175
 go_wp2_with fail
 refine (H.out _).mono ?_
 rintro e w1 ⟨rfl, hb1⟩
 have H1 := Aside0.mk hb1
 have hs := Tryz.underlying3
 have hd := Tryz.underlying235
 clear hb1
 go_wp2
 go_ret
 refine ⟨?_, H1.out⟩
 show Ending.returned (Value.complex .f64 4607182418800017408 (floatOfInt .f64 (8 * (v : Int)))) = _
 rw [HE.out]
theorem most_calls (w : World) : Calls Tryz.prog 173 #[] w fun e w' => e = .returned (.complex .f64 (fl 1099511627776) (fl 1099511627776)) ∧ w = w' := by
 go_enter Tryz.func173, Tryz.ntmps173
 go_wp2
 go_ret
 refine ⟨?_, rfl⟩
 rw [fl_most]
 rfl
def Sm (p : Nat × Nat) : Prop := p.1 < 9007199254740992 ∧ p.2 < 9007199254740992
theorem less_calls {p q : Nat × Nat} (hp : Sm p) (hq : Sm q) (w : World) : Calls Tryz.prog 176 #[.complex .f64 (fl p.1) (fl p.2), .complex .f64 (fl q.1) (fl q.2)] w fun e w' => e = .returned (.bool (less p q)) ∧ w = w' := by
 have e1 : (FloatKind.f64.format.order (fl p.1) (fl q.1) != some .eq) = decide (p.1 ≠ q.1) := ne_fl hp.1 hq.1
 have e2 : (FloatKind.f64.format.order (fl p.1) (fl q.1) == some .lt) = decide (p.1 < q.1) := lt_fl hp.1 hq.1
 have e3 : (FloatKind.f64.format.order (fl p.2) (fl q.2) == some .lt) = decide (p.2 < q.2) := lt_fl hp.2 hq.2
 have HL : Aside0 (less p q = if p.1 = q.1 then decide (p.2 < q.2) else decide (p.1 < q.1)) := ⟨rfl⟩
 clear hp hq
 by_cases h : p.1 = q.1
 ·have d1 : decide (p.1 ≠ q.1) = false := decide_eq_false (fun n => n h)
  have hl := HL.out
  rw [if_pos h] at hl
  rw [hl]
  rw [d1] at e1
  clear h hl d1 e2
  go_enter Tryz.func176, Tryz.ntmps176
  go_wp2
  go_ret
  exact ⟨rfl, rfl⟩
 ·have d1 : decide (p.1 ≠ q.1) = true := decide_eq_true h
  have hl := HL.out
  rw [if_neg h] at hl
  rw [hl]
  rw [d1] at e1
  clear h hl d1 e3
  go_enter Tryz.func176, Tryz.ntmps176
  go_wp2
  go_ret
  exact ⟨rfl, rfl⟩
end Go.Proofs.YtepgkimlmoikmaaGreat
