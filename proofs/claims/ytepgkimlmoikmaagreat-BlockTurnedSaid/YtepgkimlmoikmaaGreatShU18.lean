/- ShU: a part of its proof (contracts of the functions that it reaches, and the plain mathematics behind them). -/
import Derived.Test.YtepgkimlmoikmaaGreatShU16
set_option linter.unusedVariables false
set_option linter.unusedSimpArgs false
set_option maxHeartbeats 2000000
set_option maxRecDepth 100000
set_option linter.unusedVariables false
set_option linter.unusedSimpArgs false
namespace Go.Proofs.YtepgkimlmoikmaaGreat
open Go.RowKit Go.Proofs.YtepgkimlmoikmaaGreat.Spec Go.Proofs.YtepgkimlmoikmaaGreatW.PrintWords Go.Proofs.YtepgkimlmoikmaaGreatW.PrintLast
open Go.Proofs.YtepgkimlmoikmaaGreatW.PrintMore
attribute [local go_sem ↓] Go.wp_at_zero Go.wp_at_succ
theorem lit_ints (W : World) (t : Int) : IntsIn (W.alloc (.cells #[.int .i64 t] 3)) (some ⟨W.heap.size, 0, none⟩) [t] := by
 have h := own_lit W W.heap.size 3 .i64 [t] (Nat.le_refl _) (by simp)
 have h2 : (Kd.int .i64).R 3 (W.alloc (.cells #[.int .i64 t] 3)) W.heap.size (fun _ => True) (.slice (some ⟨W.heap.size, 0, none⟩) 1 1) [t] := Kd.R_of_own h (fun _ _ => trivial)
 obtain ⟨A, c, e, _, hC⟩ := Kd.R_reads h2
 injection e with e1
 subst e1
 exact hC
def roomOf (n : Nat) : Value → Nat
 | .string s => n - s.size
 | _ => 0
theorem cat_size {l : List ByteArray} (hs : ∀ s ∈ l, 1 ≤ s.size ∧ s.size ≤ 40) {r : List Int} (h : ∀ t ∈ r, Tok l t) : r.length ≤ (cat l r).size := by
 induction r with
 | nil => exact Nat.le_refl 0
 | cons t r ih =>
  have h1 := (word_size hs (h t (List.mem_cons_self ..))).1
  have h2 := ih fun q hq => h q (List.mem_cons_of_mem _ hq)
  rw [cat, ByteArray.size_append, List.length_cons]
  omega
theorem meant_nums {p : Value} {l : List ByteArray} (toks : List Int) {w : World} (hd : DictN w p l) (hl : l.length ≤ 1000) (hs : ∀ s ∈ l, 1 ≤ s.size ∧ s.size ≤ 40) (ht : ∀ t ∈ toks, Tok l t) (hN : (cat l toks).size ≤ 10000) :
  Calls Tryz.prog 97 #[p, .int .i64 0, .int .i64 ((cat l toks).size : Int), .string (str (nums2 toks))] w fun e w' => e = .returned (.tuple #[.string (cat l toks), .int .i64 0]) ∧ Below w.heap.size w w' := by
 have HD := Aside0.mk hd
 have HL := Aside0.mk hl
 have HS := Aside0.mk hs
 have HT := Aside0.mk ht
 have hlen := cat_size hs ht
 have HC := Aside0.mk (show (cat l toks).size ≤ 10000 ∧ toks.length ≤ 10000 by omega)
 obtain ⟨N, hNe⟩ : ∃ N : Nat, N = (cat l toks).size := ⟨_, rfl⟩
 have HN := Aside0.mk hNe
 rw [← hNe]
 clear hd hl hs ht hN hlen hNe
 go_enter Tryz.func97, Tryz.ntmps97
 go_wp2_with fail
 refine (open_zero _ _ _).mono ?_
 rintro e w1 ⟨rfl, hS1, hb1⟩
 have HS1 := Aside0.mk hS1
 have H1 := Aside0.mk hb1
 clear hS1 hb1
 go_wp2_with fail
 go_loopw [12] (fun v12 wr => ∃ (s : ByteArray) (r : List Int), v12 = .string s ∧ Aside0 (s ++ cat l r = cat l toks) ∧ Aside0 (SrcAt wr w.heap.size (str (nums2 r))) ∧ Aside0 (∀ t ∈ r, Tok l t) ∧ Aside0 (Below w.heap.size w wr)) (fun v12 _ => roomOf N v12)
 case atStart => exact ⟨⟨#[]⟩, toks, rfl, ⟨ba_nil_append _⟩, HS1, HT, H1⟩
 case round =>
  obtain ⟨s, r, rfl, HE, HSR, HTR, HB⟩ := hrel
  have hz : s.size + (cat l r).size = N := by rw [HN.out, ← HE.out, ByteArray.size_append]
  have hrl := cat_size HS.out HTR.out
  have hN := HC.out
  rw [← HN.out] at hN
  cases r with
  | nil =>
   have hz2 : s.size = N := by rw [← hz]; rfl
   have d0 : decide ((s.size : Int) < (N : Int)) = false := decide_eq_false (by omega)
   have d0' : decide (s.size < N) = false := decide_eq_false (by omega)
   have d1 : (str (nums2 [])).toList.isEmpty = true := by decide +kernel
   have HD1 := Aside0.mk d1
   clear hz hrl hN hz2 d1
   go_wp2_with fail
   refine (over_any HSR.out).mono ?_
   rintro e w2 ⟨rfl, rfl⟩
   rw [HD1.out]
   go_wp2
   go_ret2
   have he := HE.out
   rw [cat, ba_append_nil] at he
   rw [he]
   exact ⟨rfl, HB.out⟩
  | cons t r =>
   have htk := HTR.out t (List.mem_cons_self ..)
   have hw := word_size HS.out htk
   rw [cat, ByteArray.size_append] at hz
   have d0 : decide ((s.size : Int) < (N : Int)) = true := decide_eq_true (by omega)
   have d0' : decide (s.size < N) = true := decide_eq_true (by omega)
   have q1 : wrap64 ((N : Int) - (s.size : Int)) = (N : Int) - (s.size : Int) := Bridge.wr (by omega) (by omega)
   have q2 : ¬ 9223372036854775807 < s.size + (word l t).size := by omega
   have hll := HL.out
   obtain ⟨m, rfl⟩ : ∃ m : Nat, t = m := ⟨t.toNat, by unfold Tok at htk; omega⟩
   have hm : m < 4294967296 := by unfold Tok at htk; omega
   have hr2 : (nums2 r).length ≤ 100000 := by
    have h1 := nums2_size HL.out r (fun q hq => HTR.out q (List.mem_cons_of_mem _ hq))
    rw [List.length_cons, cat, ByteArray.size_append] at hrl
    omega
   have hsrc := HSR.out
   rw [show nums2 ((m : Int) :: r) = num m ++ nums2 r from rfl] at hsrc
   have HNX := Aside0.mk (next_num hsrc hm hr2)
   have HOF := Aside0.mk (fun {A2 : Option Addr} {c2 : Nat} {W : World} (hd : DictN W p l) (hr : IntsIn W A2 [(m : Int)]) (hc : 1 ≤ c2) => of_one ((N : Int) - (s.size : Int)) m hd HS.out HL.out hr hc htk (by omega) (by omega))
   have HZ := Aside0.mk (show s.size + (word l m).size ≤ N ∧ 1 ≤ (word l m).size by omega)
   clear hz hrl hN htk hw hll hm hr2 hsrc
   go_wp2_with fail
   refine HNX.out.mono ?_
   rintro e w2 ⟨rfl, hsrc2, hb2⟩
   have HB2 := Aside0.mk (hb2 w (Nat.le_refl _) HB.out)
   have HSR2 := Aside0.mk hsrc2
   have c3 := hsrc2.c3
   clear hb2 hsrc2
   go_wp2_with fail
   refine (HOF.out ((HD.out.below HB2.out).below ((Below.refl _ _).alloc (Nat.le_refl _) _)) (lit_ints _ _) (Nat.le_refl 1)).mono ?_
   rintro e w3 ⟨rfl, hb3⟩
   have HB3 := Aside0.mk (below_step (below_alloc HB2.out _) hb3)
   have HSR3 := Aside0.mk (HSR2.out.below (below_step ((Below.refl _ _).alloc (Nat.le_refl _) _) hb3))
   clear hb3
   go_wp2_with fail
   go_roundw
   case rel =>
    refine ⟨s ++ word l m, r, rfl, ⟨?_⟩, HSR3, ⟨fun q hq => HTR.out q (List.mem_cons_of_mem _ hq)⟩, HB3⟩
    rw [← HE.out, cat, ba_assoc]
   case measure =>
    show N - (s ++ word l m).size < N - s.size
    have := HZ.out
    rw [ByteArray.size_append]
    omega
theorem rawfit (n : Int) (h : 1 ≤ n) (h2 : n ≤ 1024) (w : World) : Calls Tryz.prog 76 #[.int .i64 n] w fun e w' => e = .returned (.bool true) ∧ w = w' := by
 have d0 : decide (n < 1) = false := decide_eq_false (by omega)
 have d1 : decide (1024 < n) = false := decide_eq_false (by omega)
 have d2 : decide (1 ≤ n) = true := decide_eq_true (by omega)
 have d3 : decide (n ≤ 1024) = true := decide_eq_true (by omega)
 go_enter Tryz.func76, Tryz.ntmps76
 go_wp2
 go_ret
 exact ⟨rfl, rfl⟩
theorem get_nums {p : Value} {l : List ByteArray} (toks : List Int) {w : World} (hd : DictN w p l) (hl : l.length ≤ 1000) (hs : ∀ s ∈ l, 1 ≤ s.size ∧ s.size ≤ 40) (ht : ∀ t ∈ toks, Tok l t) (h1 : 1 ≤ (cat l toks).size) (hN : (cat l toks).size ≤ 1024) :
  Calls Tryz.prog 30 #[p, .int .i64 0, .int .i64 2, .int .i64 ((cat l toks).size : Int), .string (str (nums2 toks))] w fun e w' => e = .returned (.tuple #[.string (cat l toks), .int .i64 0]) ∧ Below w.heap.size w w' := by
 have HM := Aside0.mk (fun (W : World) (hd : DictN W p l) => meant_nums toks hd hl hs ht (by omega))
 have HF := Aside0.mk (rawfit ((cat l toks).size : Int) (by omega) (by omega))
 have HD := Aside0.mk hd
 clear hd hl hs ht h1 hN
 go_enter Tryz.func30, Tryz.ntmps30
 go_wp2_with fail
 refine (coded_zero _).mono ?_
 rintro e w1 ⟨rfl, hb1⟩
 have H1 := Aside0.mk hb1
 clear hb1
 go_wp2_with fail
 refine (HF.out _).mono ?_
 rintro e w2 ⟨rfl, rfl⟩
 go_wp2_with fail
 refine (HM.out _ (HD.out.below H1.out)).mono ?_
 rintro e w3 ⟨rfl, hb3⟩
 go_wp2
 go_ret2
 exact ⟨rfl, below_step H1.out hb3⟩
end Go.Proofs.YtepgkimlmoikmaaGreat
set_option linter.unusedVariables false
set_option linter.unusedSimpArgs false
namespace Go.Proofs.YtepgkimlmoikmaaGreat
open Go.RowKit Go.Proofs.YtepgkimlmoikmaaGreat.Spec Go.Proofs.YtepgkimlmoikmaaGreatW.PrintWords Go.Proofs.YtepgkimlmoikmaaGreatW.PrintLast
open Go.Proofs.YtepgkimlmoikmaaGreatW.PrintMore
attribute [local go_sem ↓] Go.wp_at_zero Go.wp_at_succ
namespace Spec
def hp (b s : ByteArray) : Bool := decide ((u b).take s.size = u s)
def lng (tail : ByteArray) : Nat → Int × Nat → List ByteArray → Int × Nat
 | _, b, [] => b
 | k, b, s :: r => if b.2 < s.size ∧ hp tail s = true then lng tail (k + 1) ((k : Int), s.size) r else lng tail (k + 1) b r
end Spec
theorem hp_f (a s : ByteArray) : Leaf.strings_HasPrefix.f a s = some (hp a s) := by
 unfold Leaf.strings_HasPrefix.f Leaf.stringslite_HasPrefix.f hp
 have h1 := u_size a
 have h2 := u_size s
 by_cases h : s.size ≤ a.size
 ·rw [if_pos (by omega), if_pos (by omega), if_pos (by omega), Option.bind_some, Int.toNat_natCast]
  congr 1
  rw [Lib.toList_data, Lib.toList_data]
  show (u (a.extract 0 s.size) == u s) = _
  rw [u_cut, List.drop_zero, Nat.sub_zero]
  rw [Bool.eq_iff_iff, decide_eq_true_iff, beq_iff_eq]
 ·rw [if_neg (by omega), Option.bind_some]
  congr 1
  symm
  rw [decide_eq_false_iff_not]
  intro e
  have := congrArg List.length e
  rw [List.length_take] at this
  omega
theorem hp_calls (a s : ByteArray) (w : World) : Calls Tryz.prog 170 #[.string a, .string s] w fun e w' => e = .returned (.bool (hp a s)) ∧ Below w.heap.size w w' := by
 refine (Leaf.strings_HasPrefix.calls a s _ w (hp_f a s)).mono ?_
 rintro e w' ⟨rfl, hb⟩
 exact ⟨rfl, hb.below⟩
theorem lng_nil (t : ByteArray) (k : Nat) (b : Int × Nat) : lng t k b [] = b := rfl
theorem lng_cons (t : ByteArray) (k : Nat) (b : Int × Nat) (s : ByteArray) (r : List ByteArray) : lng t k b (s :: r) = if b.2 < s.size ∧ hp t s = true then lng t (k + 1) ((k : Int), s.size) r else lng t (k + 1) b r := rfl
theorem longest_any {p : Value} {l : List ByteArray} {w : World} (hd : DictN w p l) (hl : l.length ≤ 1000) (hs : ∀ s ∈ l, 1 ≤ s.size ∧ s.size ≤ 40) (b : ByteArray) (a : Nat) (ha : a < b.size) (hb : b.size ≤ 100000) :
  Calls Tryz.prog 168 #[p, .string b, .int .i64 a] w fun e w' => e = .returned (.tuple #[.int .i64 (lng (b.extract a b.size) 0 (-1, 0) l).1, .int .i64 (lng (b.extract a b.size) 0 (-1, 0) l).2]) ∧ Below w.heap.size w w' := by
 have HA := Aside0.mk (alln_any hd (by omega))
 have HL := Aside0.mk hl
 have HS := Aside0.mk hs
 have d1 : decide ((a : Int) < 0) = false := decide_eq_false (by omega)
 have d2 : decide ((b.size : Int) ≤ (a : Int)) = false := decide_eq_false (by omega)
 have d3 : decide (b.size ≤ a) = false := decide_eq_false (by omega)
 have z1 : ¬ b.size < a := by omega
 have z2 : a ≤ b.size := by omega
 clear hd hl hs ha hb
 go_enter Tryz.func168, Tryz.ntmps168
 go_wp2_with fail
 refine HA.out.mono ?_
 rintro e w1 ⟨v1, rfl, hrow, hb1⟩
 obtain ⟨A, c, rfl, hc, hC⟩ := Kd.R_reads hrow
 have HC := Aside0.mk hC
 have H1 := Aside0.mk hb1
 clear hrow hc hC hb1
 go_wp2_with fail
 go_loopw [8, 9, 23] (fun v8 v9 v23 wr => ∃ (i : Nat) (q : Int × Nat) (r : List ByteArray), v8 = .int .i64 q.1 ∧ v9 = .int .i64 q.2 ∧ v23 = .int .i64 i ∧ Aside0 (i ≤ l.length) ∧ Aside0 (l.drop i = r) ∧ Aside0 (lng (b.extract a b.size) i q r = lng (b.extract a b.size) 0 (-1, 0) l) ∧ Aside0 (Below w1.heap.size w1 wr)) (fun _ _ v23 _ => l.length - (intOf v23).toNat)
 case atStart => exact ⟨0, (-1, 0), l, rfl, rfl, rfl, ⟨Nat.zero_le _⟩, ⟨rfl⟩, ⟨rfl⟩, ⟨by repeat (first | exact Below.refl _ _ | apply below_alloc | apply below_drew)⟩⟩
 case round =>
  obtain ⟨i, ⟨q1, q2⟩, r, rfl, rfl, rfl, HI, HD, HM, HB⟩ := hrel
  have hi := HI.out
  have hn := HL.out
  cases r with
  | nil =>
   have hlen := congrArg List.length HD.out
   rw [List.length_drop, List.length_nil] at hlen
   have d0 : decide ((i : Int) < (l.length : Int)) = false := decide_eq_false (by omega)
   have d0' : decide (i < l.length) = false := decide_eq_false (by omega)
   clear hi hn hlen
   go_wp2
   go_ret2
   have hm := HM.out
   rw [lng_nil] at hm
   rw [← hm]
   exact ⟨rfl, below_step H1.out HB.out⟩
  | cons s r =>
   have hlen := congrArg List.length HD.out
   rw [List.length_drop, List.length_cons] at hlen
   have d0 : decide ((i : Int) < (l.length : Int)) = true := decide_eq_true (by omega)
   have d0' : decide (i < l.length) = true := decide_eq_true (by omega)
   have HLT := Aside0.mk (show i < l.length by omega)
   have p1 : (0 : Int) ≤ (i : Int) := by omega
   have p2 : (i : Int) < (l.length : Int) := by omega
   have hget : l[i]? = some s := by
    have := congrArg (fun q => q[0]?) HD.out
    simpa using this
   obtain ⟨ad2, e2, hcell⟩ := Kd.at_string (Kd.C_below HC.out HB.out) (i : Int) p1 p2
   have hrd : rdOf ByteArray.empty l (i : Int) = s := by unfold rdOf; rw [Int.toNat_natCast, List.getD_eq_getElem?_getD, hget]; rfl
   rw [hrd, Int.toNat_natCast] at hcell
   subst e2
   have hsz := HS.out s (List.mem_of_getElem? hget)
   have hm := HM.out
   rw [lng_cons] at hm
   have HD2 : Aside0 (l.drop (i + 1) = r) := ⟨by rw [← List.drop_drop, HD.out]; rfl⟩
   by_cases hq : q2 < s.size
   ·have d4 : decide ((q2 : Int) < (s.size : Int)) = true := decide_eq_true (by omega)
    have d4' : decide (q2 < s.size) = true := decide_eq_true hq
    cases hh : hp (b.extract a b.size) s with
    | false =>
     rw [if_neg (by rw [hh]; simp)] at hm
     have HMM := Aside0.mk hm
     have HH := Aside0.mk hh
     clear hi hn hlen hget hrd hm hq hh hsz
     go_wp2_with fail
     refine (hp_calls _ _ _).mono ?_
     rw [HH.out]
     rintro e w2 ⟨rfl, hb2⟩
     have HB2 := Aside0.mk (below_step HB.out hb2)
     clear hb2
     go_wp2_with fail
     go_roundw
     case rel =>
      have h1 := HLT.out
      have h2 := HL.out
      exact ⟨i + 1, (q1, q2), r, rfl, rfl, by rw [step1 i (by omega)], ⟨by omega⟩, HD2, HMM, HB2⟩
     case measure => have h1 := HLT.out; have h2 := HL.out; exact meas _ i h1 (by omega)
    | true =>
     rw [if_pos ⟨hq, hh⟩] at hm
     have HMM := Aside0.mk hm
     have HH := Aside0.mk hh
     clear hi hn hlen hget hrd hm hq hh hsz
     go_wp2_with fail
     refine (hp_calls _ _ _).mono ?_
     rw [HH.out]
     rintro e w2 ⟨rfl, hb2⟩
     have HB2 := Aside0.mk (below_step HB.out hb2)
     clear hb2
     go_wp2_with fail
     go_roundw
     case rel =>
      have h1 := HLT.out
      have h2 := HL.out
      exact ⟨i + 1, ((i : Int), s.size), r, rfl, rfl, by rw [step1 i (by omega)], ⟨by omega⟩, HD2, HMM, HB2⟩
     case measure => have h1 := HLT.out; have h2 := HL.out; exact meas _ i h1 (by omega)
   ·have d4 : decide ((q2 : Int) < (s.size : Int)) = false := decide_eq_false (by omega)
    have d4' : decide (q2 < s.size) = false := decide_eq_false hq
    rw [if_neg (fun h => hq h.1)] at hm
    have HMM := Aside0.mk hm
    clear hi hn hlen hget hrd hm hq hsz
    go_wp2_with fail
    go_roundw
    case rel =>
     have h1 := HLT.out
     have h2 := HL.out
     exact ⟨i + 1, (q1, q2), r, rfl, rfl, by rw [step1 i (by omega)], ⟨by omega⟩, HD2, HMM, HB⟩
    case measure => have h1 := HLT.out; have h2 := HL.out; exact meas _ i h1 (by omega)
end Go.Proofs.YtepgkimlmoikmaaGreat
