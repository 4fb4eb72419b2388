/- DictTells: every phrases: whether they may be, and where not; as bytes, and back; each by its id, each id by its phrase; what is handed in stays; lists kept, marked, grown. No condition. -/
import Derived.Test.YtbnoeoghhbhhcaaDictJ
import Derived.Test.YtbnoeoghhbhhcaaBookGTexts
set_option linter.unusedVariables false
set_option linter.unusedSimpArgs false
namespace Go.Proofs.Ytbnoeoghhbhhcaa
open Go.RowKit Go.Proofs.Ytbnoeoghhbhhcaa.Spec Go.Proofs.YtbnoeoghhbhhcaaW.PrintWords Go.Proofs.YtbnoeoghhbhhcaaW.PrintLast
open Go.Proofs.YtbnoeoghhbhhcaaW.PrintMore
attribute [local go_sem ↓] Go.wp_at_zero Go.wp_at_succ
namespace Tells
theorem body_len2 {l : List ByteArray} (h : ∀ s ∈ l, s.size < 4294967296) : (body l).length ≤ l.length * 5 + total l := by
  induction l with
  | nil => simp [body, total]
  | cons s t ih =>
    have h1 := h s (List.mem_cons_self ..)
    have h2 := ih (fun x hx => h x (List.mem_cons_of_mem _ hx))
    have h3 := Bridge.num_len (n := s.size) h1
    simp only [body, List.length_append, List.length_cons, u_size, total]
    omega
theorem bytes_small {l : List ByteArray} (hm : l.length ≤ 100 ∧ May 0 [] l) : (str (Spec.bytes l)).size ≤ 2000 := by
  rw [← u_size, u_str]
  unfold Spec.bytes
  have h1 := body_len2 (may_small hm.2)
  have h2 := Bridge.num_len (n := l.length) (by omega)
  have h3 := hm.2.2.1
  rw [List.length_append]
  omega
theorem load_bytes {l : List ByteArray} (hm : l.length ≤ 100 ∧ May 0 [] l) : Spec.load (u (str (Spec.bytes l))) = (l, 0, 0) := by
  have hp := (phrases_ok l).2 hm
  rw [u_str]
  unfold Spec.load
  rw [split_bytes (by omega) (may_small hm.2), if_neg (by simp), if_neg (by simpa using hp)]
/-- A row of one's own, one element written. -/
theorem own_put {w : World} {base g n c : Nat} {e : TypeId} {xs : List Value} (h : w.ownsRow base e 1 (.slice (some ⟨g, 0, none⟩) n c) n xs) (hx : xs.length = n) (k : Nat) (v : Value) :
    (w.setCell ⟨g, k, none⟩ v).ownsRow base e 1 (.slice (some ⟨g, 0, none⟩) n c) n (xs.set k v) ∧ w.grownBy (w.setCell ⟨g, k, none⟩ v) (some g) := by
  have K : Book.Kept w base e [.slice (some ⟨g, 0, none⟩) n c] (fun _ => xs) := ⟨fun i u hu => by
    have hi := (List.getElem?_eq_some_iff.1 hu).1
    have : i = 0 := by simp at hi; omega
    subst this
    simp at hu
    subst hu
    rw [hx]; exact h, fun i j u u' hu hu' hij => by
    have hi := (List.getElem?_eq_some_iff.1 hu).1
    have hj := (List.getElem?_eq_some_iff.1 hu').1
    simp at hi hj
    omega⟩
  obtain ⟨k1, k2⟩ := K.put (i := 0) rfl k v
  have := k1.row 0 _ rfl
  simp only [eq_self, if_true, List.length_set] at this
  rw [hx] at this
  exact ⟨this, k2⟩
theorem turned (i : Nat) (h : i ≤ 1000000000) : wrap64 ((i : Int) + 1) = ((i + 1 : Nat) : Int) := BookTexts.step1 i h
set_option maxHeartbeats 4000000 in
set_option maxRecDepth 100000 in
/-- The first half: up to where the lent list has been turned. -/
theorem few_no (A : Option Addr) (c : Nat) (l : List ByteArray) (k : Int) (s : ByteArray) (w : World) (hr : StrsIn w A l) (hc : l.length ≤ c) (h16 : l.length * 16 ≤ 140737488351232) (hsz : ∀ s ∈ l, s.size ≤ 140737488351232) (hs : s.size ≤ 140737488351232) (hfew : ¬ (Bridge.few l = true ∧ s.size ≤ 100)) :
    Calls Try.prog 9 #[.slice A l.length c, .int .i64 k, .string s] w fun e w' => e = .returned (.bool true) ∧ Below w.heap.size w w' := by
  have HF := Aside0.mk (few_calls l hr hc (by omega) hsz)
  by_cases hf : Bridge.few l = true
  · rw [hf] at HF
    have hb : decide ((100 : Int) < (s.size : Int)) = true := decide_eq_true (by have : ¬ s.size ≤ 100 := fun h => hfew ⟨hf, h⟩; omega)
    clear hr hc hfew hf
    go_enter Try.func9, Try.ntmps9
    go_wp2_with (first | (go_at_call 16; refine HF.out.mono ?_; rintro e w1 ⟨rfl, ⟨nd, rfl⟩⟩) | (go_at_call 13; refine (alive_any _).mono ?_; rintro e w2 ⟨rfl, hb2⟩))
    go_ret
    exact ⟨rfl, below_step (pw_below_drewN (Below.refl _ _) _) hb2⟩
  · rw [Bool.eq_false_iff.2 hf] at HF
    clear hr hc hfew hf
    go_enter Try.func9, Try.ntmps9
    go_wp2_with (first | (go_at_call 16; refine HF.out.mono ?_; rintro e w1 ⟨rfl, ⟨nd, rfl⟩⟩) | (go_at_call 13; refine (alive_any _).mono ?_; rintro e w2 ⟨rfl, hb2⟩))
    go_ret
    exact ⟨rfl, below_step (pw_below_drewN (Below.refl _ _) _) hb2⟩
set_option maxHeartbeats 4000000 in
set_option maxRecDepth 100000 in
theorem no_law (A : Option Addr) (c : Nat) (l : List ByteArray) (k : Int) (s : ByteArray) (w : World) (hr : StrsIn w A l) (hc : l.length ≤ c) (h16 : l.length * 16 ≤ 140737488351232) (hsz : ∀ s ∈ l, s.size ≤ 140737488351232) (hs : s.size ≤ 100) (hfew : Bridge.few l = true) (hp : (phrases l).1 ≠ 0) :
    Calls Try.prog 9 #[.slice A l.length c, .int .i64 k, .string s] w fun e w' => e = .returned (.bool true) ∧ Below w.heap.size w w' := by
  have HF := Aside0.mk (few_calls l hr hc (by omega) hsz)
  rw [hfew] at HF
  have hf2 := of_decide_eq_true hfew
  have HR := Aside0.mk hr
  have HC := Aside0.mk hc
  have HZ := Aside0.mk hsz
  have HL := Aside0.mk (show l.length ≤ 110 by omega)
  have hb : decide ((100 : Int) < (s.size : Int)) = false := decide_eq_false (by omega)
  obtain ⟨cd, hcd⟩ : ∃ cd : Nat, (phrases l).1 = cd := ⟨_, rfl⟩
  obtain ⟨at_, hat⟩ : ∃ at_ : Nat, (phrases l).2 = at_ := ⟨_, rfl⟩
  have hp' := hp
  rw [hcd] at hp'
  have HP := Aside0.mk hp
  have HCD := Aside0.mk hcd
  have HAT := Aside0.mk hat
  have hn0 : ((cd : Int) == (0 : Int)) = false := beq_eq_false_iff_ne.2 (by omega)
  have HT := Aside0.mk (show ((cd : Nat) : Int) ≠ 0 by omega)
  clear hr hc hsz hf2 hfew hp hcd hat hp' h16 hs
  go_enter Try.func9, Try.ntmps9
  go_wp2_with fail
  refine HF.out.mono ?_
  rintro e w1 ⟨rfl, hd1⟩
  have H1 := Aside0.mk hd1.below
  clear hd1
  go_wp2_with fail
  refine (alive_any _).mono ?_
  rintro e w2 ⟨rfl, hb2⟩
  have H2 := Aside0.mk (below_step H1.out hb2)
  clear hb2
  go_wp2_with fail
  refine (BookTexts.lent_any l (Kd.C_below HR.out H2.out) HC.out (by have := HL.out; omega)).mono ?_
  rintro e w3 ⟨g, c1, rfl, hle, hb3⟩
  have HLE := Aside0.mk hle
  have H3 := Aside0.mk (below_step H2.out hb3)
  clear hle hb3
  go_wp2_with fail
  refine (new_no l _ HLE.out.reads.2 HLE.out.reads.1 HZ.out HP.out).mono ?_
  rw [HCD.out, HAT.out]
  rintro e w4 ⟨rfl, hb4⟩
  have HLE4 := Aside0.mk (HLE.out.below hb4)
  have H4 := Aside0.mk (below_step H3.out hb4)
  clear hb4
  go_wp2_with fail
  refine (rphrases_calls l (Kd.C_below HR.out H4.out) HC.out HZ.out).mono ?_
  rw [HCD.out, HAT.out]
  rintro e w5 ⟨rfl, hd5⟩
  have HLE5 := Aside0.mk (HLE4.out.below hd5.below)
  have H5 := Aside0.mk (below_step H4.out hd5.below)
  clear hd5
  go_wp2_with fail
  refine (told_some cd at_ HT.out _).mono ?_
  rintro e w6 ⟨rfl, hb6⟩
  have HLE6 := Aside0.mk (HLE5.out.below hb6)
  have H6 := Aside0.mk (below_step H5.out hb6)
  clear hb6
  go_wp2_with fail
  refine (BookTexts.stays_any l HLE6.out (Kd.C_below HR.out H6.out) HC.out (by have := HL.out; omega)).mono ?_
  rintro e w7 ⟨rfl, hd7⟩
  have H7 := Aside0.mk (below_step H6.out hd7.below)
  clear hd7
  go_wp2_with (first
    | (go_at_call 21; refine (at_nil _ _).mono ?_; rintro e w' ⟨rfl, rfl⟩)
    | (go_at_call 18; refine (find_nil _ _).mono ?_; rintro e w' ⟨rfl, rfl⟩)
    | (go_at_call 19; refine (bytes_nil _).mono ?_; rintro e w' ⟨rfl, rfl⟩)
    | (go_at_call 23; refine (id_nil _).mono ?_; rintro e w' ⟨rfl, rfl⟩)
    | (go_at_call 20; refine (len_nil _).mono ?_; rintro e w' ⟨rfl, rfl⟩)
    | (go_at_call 22; refine (all_nil _).mono ?_; rintro e w' ⟨rfl, rfl⟩))
  go_ret
  exact ⟨rfl, H7.out⟩
end Tells
end Go.Proofs.Ytbnoeoghhbhhcaa
