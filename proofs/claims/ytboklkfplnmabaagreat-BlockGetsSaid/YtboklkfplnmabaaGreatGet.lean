/- Package block: tokens as numbers, read back. -/
import Derived.Test.YtboklkfplnmabaaGreatSrc
set_option linter.unusedVariables false
set_option linter.unusedSimpArgs false
namespace Go.Proofs.YtboklkfplnmabaaGreat
open Go.RowKit Go.Proofs.YtboklkfplnmabaaGreat.Spec Go.Proofs.YtboklkfplnmabaaGreatW.PrintWords Go.Proofs.YtboklkfplnmabaaGreatW.PrintLast
open Go.Proofs.YtboklkfplnmabaaGreatW.PrintMore
attribute [local go_sem ↓] Go.wp_at_zero Go.wp_at_succ
theorem lit_ints (W : World) (t : Int) : IntsIn (W.alloc (.cells #[.int .i64 t] 3)) (some ⟨W.heap.size, 0, none⟩) [t] := by
  have h := own_lit W W.heap.size 3 .i64 [t] (Nat.le_refl _) (by simp)
  have h2 : (Kd.int .i64).R 3 (W.alloc (.cells #[.int .i64 t] 3)) W.heap.size (fun _ => True) (.slice (some ⟨W.heap.size, 0, none⟩) 1 1) [t] := Kd.R_of_own h (fun _ _ => trivial)
  obtain ⟨A, c, e, _, hC⟩ := Kd.R_reads h2
  injection e with e1
  subst e1
  exact hC
def roomOf (n : Nat) : Value → Nat
  | .string s => n - s.size
  | _ => 0
theorem cat_size {l : List ByteArray} (hs : ∀ s ∈ l, 1 ≤ s.size ∧ s.size ≤ 40) {r : List Int} (h : ∀ t ∈ r, Tok l t) : r.length ≤ (cat l r).size := by
  induction r with
  | nil => exact Nat.le_refl 0
  | cons t r ih =>
    have h1 := (word_size hs (h t (List.mem_cons_self ..))).1
    have h2 := ih fun q hq => h q (List.mem_cons_of_mem _ hq)
    rw [cat, ByteArray.size_append, List.length_cons]
    omega
set_option maxHeartbeats 2000000 in
set_option maxRecDepth 100000 in
theorem meant_nums {p : Value} {l : List ByteArray} (toks : List Int) {w : World} (hd : DictN w p l) (hl : l.length ≤ 1000) (hs : ∀ s ∈ l, 1 ≤ s.size ∧ s.size ≤ 40) (ht : ∀ t ∈ toks, Tok l t) (hN : (cat l toks).size ≤ 10000) :
    Calls Tryz.prog 57 #[p, .int .i64 0, .int .i64 ((cat l toks).size : Int), .string (str (nums2 toks))] w fun e w' => e = .returned (.tuple #[.string (cat l toks), .int .i64 0]) ∧ Below w.heap.size w w' := by
  have HD := Aside0.mk hd
  have HL := Aside0.mk hl
  have HS := Aside0.mk hs
  have HT := Aside0.mk ht
  have hlen := cat_size hs ht
  have HC := Aside0.mk (show (cat l toks).size ≤ 10000 ∧ toks.length ≤ 10000 by omega)
  obtain ⟨N, hNe⟩ : ∃ N : Nat, N = (cat l toks).size := ⟨_, rfl⟩
  have HN := Aside0.mk hNe
  rw [← hNe]
  clear hd hl hs ht hN hlen hNe
  go_enter Tryz.func57, Tryz.ntmps57
  go_wp2_with fail
  refine (open_zero _ _ _).mono ?_
  rintro e w1 ⟨rfl, hS1, hb1⟩
  have HS1 := Aside0.mk hS1
  have H1 := Aside0.mk hb1
  clear hS1 hb1
  go_wp2_with fail
  go_loopw [12] (fun v12 wr => ∃ (s : ByteArray) (r : List Int), v12 = .string s ∧ Aside0 (s ++ cat l r = cat l toks) ∧ Aside0 (SrcAt wr w.heap.size (str (nums2 r))) ∧ Aside0 (∀ t ∈ r, Tok l t) ∧ Aside0 (Below w.heap.size w wr)) (fun v12 _ => roomOf N v12)
  case atStart => exact ⟨⟨#[]⟩, toks, rfl, ⟨ba_nil_append _⟩, HS1, HT, H1⟩
  case round =>
    obtain ⟨s, r, rfl, HE, HSR, HTR, HB⟩ := hrel
    have hz : s.size + (cat l r).size = N := by rw [HN.out, ← HE.out, ByteArray.size_append]
    have hrl := cat_size HS.out HTR.out
    have hN := HC.out
    rw [← HN.out] at hN
    cases r with
    | nil =>
      have hz2 : s.size = N := by rw [← hz]; rfl
      have d0 : decide ((s.size : Int) < (N : Int)) = false := decide_eq_false (by omega)
      have d0' : decide (s.size < N) = false := decide_eq_false (by omega)
      have d1 : (str (nums2 [])).toList.isEmpty = true := by decide +kernel
      have HD1 := Aside0.mk d1
      clear hz hrl hN hz2 d1
      go_wp2_with fail
      refine (over_any HSR.out).mono ?_
      rintro e w2 ⟨rfl, rfl⟩
      rw [HD1.out]
      go_wp2
      go_ret2
      have he := HE.out
      rw [cat, ba_append_nil] at he
      rw [he]
      exact ⟨rfl, HB.out⟩
    | cons t r =>
      have htk := HTR.out t (List.mem_cons_self ..)
      have hw := word_size HS.out htk
      rw [cat, ByteArray.size_append] at hz
      have d0 : decide ((s.size : Int) < (N : Int)) = true := decide_eq_true (by omega)
      have d0' : decide (s.size < N) = true := decide_eq_true (by omega)
      have q1 : wrap64 ((N : Int) - (s.size : Int)) = (N : Int) - (s.size : Int) := Bridge.wr (by omega) (by omega)
      have q2 : ¬ 9223372036854775807 < s.size + (word l t).size := by omega
      have hll := HL.out
      obtain ⟨m, rfl⟩ : ∃ m : Nat, t = m := ⟨t.toNat, by unfold Tok at htk; omega⟩
      have hm : m < 4294967296 := by unfold Tok at htk; omega
      have hr2 : (nums2 r).length ≤ 100000 := by
        have h1 := nums2_size HL.out r (fun q hq => HTR.out q (List.mem_cons_of_mem _ hq))
        rw [List.length_cons, cat, ByteArray.size_append] at hrl
        omega
      have hsrc := HSR.out
      rw [show nums2 ((m : Int) :: r) = num m ++ nums2 r from rfl] at hsrc
      have HNX := Aside0.mk (next_num hsrc hm hr2)
      have HOF := Aside0.mk (fun {A2 : Option Addr} {c2 : Nat} {W : World} (hd : DictN W p l) (hr : IntsIn W A2 [(m : Int)]) (hc : 1 ≤ c2) => of_one ((N : Int) - (s.size : Int)) m hd HS.out HL.out hr hc htk (by omega) (by omega))
      have HZ := Aside0.mk (show s.size + (word l m).size ≤ N ∧ 1 ≤ (word l m).size by omega)
      clear hz hrl hN htk hw hll hm hr2 hsrc
      go_wp2_with fail
      refine HNX.out.mono ?_
      rintro e w2 ⟨rfl, hsrc2, hb2⟩
      have HB2 := Aside0.mk (hb2 w (Nat.le_refl _) HB.out)
      have HSR2 := Aside0.mk hsrc2
      have c3 := hsrc2.c3
      clear hb2 hsrc2
      go_wp2_with fail
      refine (HOF.out ((HD.out.below HB2.out).below ((Below.refl _ _).alloc (Nat.le_refl _) _)) (lit_ints _ _) (Nat.le_refl 1)).mono ?_
      rintro e w3 ⟨rfl, hb3⟩
      have HB3 := Aside0.mk (below_step (below_alloc HB2.out _) hb3)
      have HSR3 := Aside0.mk (HSR2.out.below (below_step ((Below.refl _ _).alloc (Nat.le_refl _) _) hb3))
      clear hb3
      go_wp2_with fail
      go_roundw
      case rel =>
        refine ⟨s ++ word l m, r, rfl, ⟨?_⟩, HSR3, ⟨fun q hq => HTR.out q (List.mem_cons_of_mem _ hq)⟩, HB3⟩
        rw [← HE.out, cat, ba_assoc]
      case measure =>
        show N - (s ++ word l m).size < N - s.size
        have := HZ.out
        rw [ByteArray.size_append]
        omega
set_option maxHeartbeats 2000000 in
set_option maxRecDepth 100000 in
theorem rawfit (n : Int) (h : 1 ≤ n) (h2 : n ≤ 1024) (w : World) : Calls Tryz.prog 36 #[.int .i64 n] w fun e w' => e = .returned (.bool true) ∧ w = w' := by
  have d0 : decide (n < 1) = false := decide_eq_false (by omega)
  have d1 : decide (1024 < n) = false := decide_eq_false (by omega)
  have d2 : decide (1 ≤ n) = true := decide_eq_true (by omega)
  have d3 : decide (n ≤ 1024) = true := decide_eq_true (by omega)
  go_enter Tryz.func36, Tryz.ntmps36
  go_wp2
  go_ret
  exact ⟨rfl, rfl⟩
set_option maxHeartbeats 2000000 in
set_option maxRecDepth 100000 in
theorem get_nums {p : Value} {l : List ByteArray} (toks : List Int) {w : World} (hd : DictN w p l) (hl : l.length ≤ 1000) (hs : ∀ s ∈ l, 1 ≤ s.size ∧ s.size ≤ 40) (ht : ∀ t ∈ toks, Tok l t) (h1 : 1 ≤ (cat l toks).size) (hN : (cat l toks).size ≤ 1024) :
    Calls Tryz.prog 18 #[p, .int .i64 0, .int .i64 2, .int .i64 ((cat l toks).size : Int), .string (str (nums2 toks))] w fun e w' => e = .returned (.tuple #[.string (cat l toks), .int .i64 0]) ∧ Below w.heap.size w w' := by
  have HM := Aside0.mk (fun (W : World) (hd : DictN W p l) => meant_nums toks hd hl hs ht (by omega))
  have HF := Aside0.mk (rawfit ((cat l toks).size : Int) (by omega) (by omega))
  have HD := Aside0.mk hd
  clear hd hl hs ht h1 hN
  go_enter Tryz.func18, Tryz.ntmps18
  go_wp2_with fail
  refine (coded_zero _).mono ?_
  rintro e w1 ⟨rfl, hb1⟩
  have H1 := Aside0.mk hb1
  clear hb1
  go_wp2_with fail
  refine (HF.out _).mono ?_
  rintro e w2 ⟨rfl, rfl⟩
  go_wp2_with fail
  refine (HM.out _ (HD.out.below H1.out)).mono ?_
  rintro e w3 ⟨rfl, hb3⟩
  go_wp2
  go_ret2
  exact ⟨rfl, below_step H1.out hb3⟩
end Go.Proofs.YtboklkfplnmabaaGreat
