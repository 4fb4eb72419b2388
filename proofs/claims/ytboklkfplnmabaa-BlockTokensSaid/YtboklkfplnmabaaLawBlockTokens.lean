/- For every list of phrases, all bytes and every window: by each way of parsing the tokens mean the block, and are those of that way's own package. -/
import Derived.Test.YtboklkfplnmabaaTokens
set_option linter.unusedVariables false
set_option linter.unusedSimpArgs false
namespace Go.Proofs.Ytboklkfplnmabaa
open Go.RowKit Go.Proofs.Ytboklkfplnmabaa.Spec Go.Proofs.YtboklkfplnmabaaW.PrintWords Go.Proofs.YtboklkfplnmabaaW.PrintLast
open Go.Proofs.YtboklkfplnmabaaW.PrintMore
attribute [local go_sem ↓] Go.wp_at_zero Go.wp_at_succ
theorem meanR_of {l : List ByteArray} {mo : Int} (h0 : 0 ≤ mo) : ∀ (toks : List Int) (s : ByteArray), (∀ t ∈ toks, Tok l t) → ((s ++ cat l toks).size : Int) ≤ mo → meanR l mo s toks = (s ++ cat l toks, 0) := by
  intro toks
  induction toks with
  | nil => intro s _ _; rw [meanR_nil, cat, ba_append_nil]
  | cons t r ih =>
    intro s ht hs
    rw [meanR_cons, if_neg (fun n => n (ht t (List.mem_cons_self ..)))]
    rw [cat] at hs ⊢
    have h1 : (s ++ (word l t ++ cat l r)).size = s.size + ((word l t).size + (cat l r).size) := by rw [ByteArray.size_append, ByteArray.size_append]
    rw [if_neg (by omega), ih (s ++ word l t) (fun q hq => ht q (List.mem_cons_of_mem _ hq)) (by rw [ba_assoc]; exact hs), ba_assoc]
theorem tok_in64 {l : List ByteArray} (hl : l.length ≤ 1000) {t : Int} (h : Tok l t) : In64 t := by
  unfold Tok at h
  unfold In64
  omega
set_option maxHeartbeats 1000000 in
set_option maxRecDepth 100000 in
theorem says_yes {A A2 : Option Addr} {c c2 : Nat} {l : List ByteArray} {ts : List Int} {b : ByteArray} {w : World} (hr : StrsIn w A l) (hc : l.length ≤ c) (hr2 : IntsIn w A2 ts) (hc2 : ts.length ≤ c2) (hl : l.length ≤ 1000) (hs : ∀ s ∈ l, 1 ≤ s.size ∧ s.size ≤ 40) (hn : ts.length ≤ 1000) (ht : ∀ t ∈ ts, Tok l t) (hb : cat l ts = b) (hbs : b.size ≤ 100000) :
    Calls Try.prog 23 #[.slice A l.length c, .slice A2 ts.length c2, .string b] w fun e w' => e = .returned (.bool true) ∧ Below w.heap.size w w' := by
  have HM := Aside0.mk (rmean_calls l ts b.size (by omega) hr hc hr2 hc2 hl hs hn (fun t h => tok_in64 hl (ht t h)))
  have hm := meanR_of (l := l) (mo := (b.size : Int)) (by omega) ts ⟨#[]⟩ ht (by rw [ba_nil_append, hb]; omega)
  rw [ba_nil_append, hb] at hm
  rw [hm] at HM
  clear hr hc hr2 hc2 hl hs hn ht hb hbs hm
  go_enter Try.func23, Try.ntmps23
  go_wp2_with fail
  refine HM.out.mono ?_
  rintro e w1 ⟨rfl, hb1⟩
  have H1 := Aside0.mk hb1
  clear hb1
  go_wp2
  go_ret
  exact ⟨rfl, H1.out⟩
set_option maxHeartbeats 2000000 in
set_option maxRecDepth 100000 in
theorem tokens_given {A : Option Addr} {c : Nat} (l : List ByteArray) (b : ByteArray) (wd : Nat) (w : World) (hr : StrsIn w A l) (hc : l.length ≤ c) (hl : l.length ≤ 140737488351232) (hsz : ∀ s ∈ l, s.size ≤ 140737488351232) (h : Given l b) (hb : 1 ≤ b.size) (hw1 : 1 ≤ wd) (hw2 : wd ≤ 1024) :
    Calls Try.prog 7 #[.slice A l.length c, .string b, .int .i64 (wd : Int)] w fun e w' => e = .returned (.bool true) ∧ Below w.heap.size w w' := by
  have H := Aside0.mk (dict13_yes l b w hr hc hl hsz h)
  obtain ⟨hl2, hs2⟩ := phrases_sizes h.2.2
  have hbs := h.2.1
  have z1 := not_nil hb
  have z2 : ¬ b.toList = [] := by intro e; rw [e] at z1; cases z1
  have d1 : decide ((wd : Int) < 1) = false := decide_eq_false (by omega)
  have d1' : decide (wd < 1) = false := decide_eq_false (by omega)
  have d2 : decide ((1024 : Int) < (wd : Int)) = false := decide_eq_false (by omega)
  have d2' : decide (1024 < wd) = false := decide_eq_false (by omega)
  have HTK := Aside0.mk (fun (W : World) (P : Value) (hd : DictN W P l) (p : Int) (hp : cfgB p 0 1024 (wd : Int) = true) => tokens_yes hd (by omega) hs2 p 0 1024 (wd : Int) hp b hb (by omega))
  have HP0 := Aside0.mk (fun (W : World) (P : Value) (h : DictN W P l) => parse_any h (by omega) hs2 b (by omega))
  have HP1 := Aside0.mk (fun (W : World) (P : Value) (h : DictN W P l) => fparse_any h (by omega) hs2 b (by omega))
  have HP2 := Aside0.mk (fun (W : World) (P : Value) (h : DictN W P l) => bparse_any h (by omega) hs2 b (by omega) wd hw1 hw2)
  have HOK := Aside0.mk (fun p => toks_ok (l := l) (by omega) hs2 p hw1 b (by omega))
  have HSY := Aside0.mk (fun (W : World) (p : Int) (A2 : Option Addr) (c2 : Nat) (h1 : StrsIn W A l) (h2 : IntsIn W A2 (toks l p wd b)) (h3 : (toks l p wd b).length ≤ c2) => says_yes (b := b) h1 hc h2 h3 (by omega) hs2 (by have := (toks_ok (l := l) (by omega) hs2 p hw1 b (by omega)).2.2.1; omega) (toks_ok (l := l) (by omega) hs2 p hw1 b (by omega)).2.1 (toks_ok (l := l) (by omega) hs2 p hw1 b (by omega)).1 (by omega))
  have HCF : Aside0 (∀ p : Int, 0 ≤ p → p ≤ 2 → cfgB p 0 1024 (wd : Int) = true) := ⟨fun p h0 h2 => by unfold cfgB; rw [decide_eq_true_iff]; omega⟩
  have HLN : Aside0 (∀ p, (toks l p wd b).length ≤ 1000) := ⟨fun p => by have := (toks_ok (l := l) (by omega) hs2 p hw1 b (by omega)).2.2.1; omega⟩
  have HR := Aside0.mk hr
  clear hr hc hl hsz h hb hw1 hw2 hl2 hs2 hbs
  go_enter Try.func7, Try.ntmps7
  go_wp2_with fail
  refine H.out.mono ?_
  rintro e w1 ⟨ad, rfl, hd, hb1⟩
  have HD := Aside0.mk hd
  have H1 := Aside0.mk hb1
  clear hb1 hd
  go_wp2_with fail
  refine (alive22 _).mono ?_
  rintro e w2 ⟨rfl, hb2⟩
  have HD2 := Aside0.mk (HD.out.below hb2)
  have H2 := Aside0.mk (below_step H1.out hb2)
  clear hb2
  go_wp2_with fail
  go_loopw [9] (fun v9 wr => ∃ (i : Nat), v9 = .int .i64 (i : Int) ∧ Aside0 (i ≤ 3) ∧ Aside0 (DictN wr (.pointer (some ad)) l) ∧ Aside0 (Below w.heap.size w wr)) (fun v9 _ => 3 - (intOf v9).toNat)
  case atStart => exact ⟨0, rfl, ⟨by omega⟩, HD2, H2⟩
  case round =>
    obtain ⟨i, rfl, HI, HDr, HB⟩ := hrel
    have hi4 : i = 3 ∨ i = 0 ∨ i = 1 ∨ i = 2 := by have := HI.out; omega
    rcases hi4 with rfl | rfl | rfl | rfl
    · go_wp2
      go_ret
      exact ⟨rfl, HB.out⟩
    · go_wp2_with fail
      refine (HTK.out _ _ HDr.out _ (HCF.out _ (by decide) (by decide))).mono ?_
      rintro e w3 ⟨A3, c3, rfl, hc3, hC3, hb3⟩
      have HC3 := Aside0.mk hC3
      have HCC3 := Aside0.mk hc3
      have HD3 := Aside0.mk (HDr.out.below hb3)
      have H3 := Aside0.mk (below_step HB.out hb3)
      clear hc3 hC3 hb3
      go_wp2_with fail
      refine (HP0.out _ _ HD3.out).mono ?_
      rintro e w4 ⟨A4, c4, rfl, hc4, hC4, hb4⟩
      have HC4 := Aside0.mk hC4
      have HCC4 := Aside0.mk hc4
      have HD4 := Aside0.mk (HD3.out.below hb4)
      have H4 := Aside0.mk (below_step H3.out hb4)
      have HC3 := Aside0.mk (Kd.C_below HC3.out hb4)
      clear hc4 hC4 hb4
      go_wp2_with fail
      refine (HP1.out _ _ HD4.out).mono ?_
      rintro e w5 ⟨A5, c5, rfl, hc5, hC5, hb5⟩
      have HC5 := Aside0.mk hC5
      have HCC5 := Aside0.mk hc5
      have HD5 := Aside0.mk (HD4.out.below hb5)
      have H5 := Aside0.mk (below_step H4.out hb5)
      have HC3 := Aside0.mk (Kd.C_below HC3.out hb5)
      have HC4 := Aside0.mk (Kd.C_below HC4.out hb5)
      clear hc5 hC5 hb5
      go_wp2_with fail
      refine (HP2.out _ _ HD5.out).mono ?_
      rintro e w6 ⟨A6, c6, rfl, hc6, hC6, hb6⟩
      have HC6 := Aside0.mk hC6
      have HCC6 := Aside0.mk hc6
      have HD6 := Aside0.mk (HD5.out.below hb6)
      have H6 := Aside0.mk (below_step H5.out hb6)
      have HC3 := Aside0.mk (Kd.C_below HC3.out hb6)
      have HC4 := Aside0.mk (Kd.C_below HC4.out hb6)
      have HC5 := Aside0.mk (Kd.C_below HC5.out hb6)
      clear hc6 hC6 hb6
      go_wp2_with fail
      refine (ints_calls (toks l 0 wd b) (par l b b.size 0) (Kd.C_alloc HC3.out _) HCC3.out (Kd.C_alloc HC4.out _) HCC4.out (by have := HLN.out 0; omega)).mono ?_
      rw [decide_eq_true (toks_zero l wd b)]
      rintro e w7 ⟨rfl, hb7⟩
      have HD7 := Aside0.mk ((HD6.out.below (below_alloc (Below.refl _ _) _)).below hb7.below)
      have H7 := Aside0.mk (below_step (below_alloc H6.out _) hb7.below)
      have HC3 := Aside0.mk (Kd.C_below (Kd.C_alloc HC3.out _) hb7.below)
      clear hb7
      go_wp2_with fail
      refine (HSY.out _ 0 _ _ (Kd.C_below HR.out H7.out) HC3.out HCC3.out).mono ?_
      rintro e w8 ⟨rfl, hb8⟩
      have HD8 := Aside0.mk (HD7.out.below hb8)
      have H8 := Aside0.mk (below_step H7.out hb8)
      clear hb8
      go_wp2_with fail
      go_roundw
      case rel => exact ⟨0 + 1, rfl, ⟨by omega⟩, HD8, H8⟩
      case measure => decide
    · go_wp2_with fail
      refine (HTK.out _ _ HDr.out _ (HCF.out _ (by decide) (by decide))).mono ?_
      rintro e w3 ⟨A3, c3, rfl, hc3, hC3, hb3⟩
      have HC3 := Aside0.mk hC3
      have HCC3 := Aside0.mk hc3
      have HD3 := Aside0.mk (HDr.out.below hb3)
      have H3 := Aside0.mk (below_step HB.out hb3)
      clear hc3 hC3 hb3
      go_wp2_with fail
      refine (HP0.out _ _ HD3.out).mono ?_
      rintro e w4 ⟨A4, c4, rfl, hc4, hC4, hb4⟩
      have HC4 := Aside0.mk hC4
      have HCC4 := Aside0.mk hc4
      have HD4 := Aside0.mk (HD3.out.below hb4)
      have H4 := Aside0.mk (below_step H3.out hb4)
      have HC3 := Aside0.mk (Kd.C_below HC3.out hb4)
      clear hc4 hC4 hb4
      go_wp2_with fail
      refine (HP1.out _ _ HD4.out).mono ?_
      rintro e w5 ⟨A5, c5, rfl, hc5, hC5, hb5⟩
      have HC5 := Aside0.mk hC5
      have HCC5 := Aside0.mk hc5
      have HD5 := Aside0.mk (HD4.out.below hb5)
      have H5 := Aside0.mk (below_step H4.out hb5)
      have HC3 := Aside0.mk (Kd.C_below HC3.out hb5)
      have HC4 := Aside0.mk (Kd.C_below HC4.out hb5)
      clear hc5 hC5 hb5
      go_wp2_with fail
      refine (HP2.out _ _ HD5.out).mono ?_
      rintro e w6 ⟨A6, c6, rfl, hc6, hC6, hb6⟩
      have HC6 := Aside0.mk hC6
      have HCC6 := Aside0.mk hc6
      have HD6 := Aside0.mk (HD5.out.below hb6)
      have H6 := Aside0.mk (below_step H5.out hb6)
      have HC3 := Aside0.mk (Kd.C_below HC3.out hb6)
      have HC4 := Aside0.mk (Kd.C_below HC4.out hb6)
      have HC5 := Aside0.mk (Kd.C_below HC5.out hb6)
      clear hc6 hC6 hb6
      go_wp2_with fail
      refine (ints_calls (toks l 1 wd b) (fpar l b b.size 0) (Kd.C_alloc HC3.out _) HCC3.out (Kd.C_alloc HC5.out _) HCC5.out (by have := HLN.out 1; omega)).mono ?_
      rw [decide_eq_true (toks_one l wd b)]
      rintro e w7 ⟨rfl, hb7⟩
      have HD7 := Aside0.mk ((HD6.out.below (below_alloc (Below.refl _ _) _)).below hb7.below)
      have H7 := Aside0.mk (below_step (below_alloc H6.out _) hb7.below)
      have HC3 := Aside0.mk (Kd.C_below (Kd.C_alloc HC3.out _) hb7.below)
      clear hb7
      go_wp2_with fail
      refine (HSY.out _ 1 _ _ (Kd.C_below HR.out H7.out) HC3.out HCC3.out).mono ?_
      rintro e w8 ⟨rfl, hb8⟩
      have HD8 := Aside0.mk (HD7.out.below hb8)
      have H8 := Aside0.mk (below_step H7.out hb8)
      clear hb8
      go_wp2_with fail
      go_roundw
      case rel => exact ⟨1 + 1, rfl, ⟨by omega⟩, HD8, H8⟩
      case measure => decide
    · go_wp2_with fail
      refine (HTK.out _ _ HDr.out _ (HCF.out _ (by decide) (by decide))).mono ?_
      rintro e w3 ⟨A3, c3, rfl, hc3, hC3, hb3⟩
      have HC3 := Aside0.mk hC3
      have HCC3 := Aside0.mk hc3
      have HD3 := Aside0.mk (HDr.out.below hb3)
      have H3 := Aside0.mk (below_step HB.out hb3)
      clear hc3 hC3 hb3
      go_wp2_with fail
      refine (HP0.out _ _ HD3.out).mono ?_
      rintro e w4 ⟨A4, c4, rfl, hc4, hC4, hb4⟩
      have HC4 := Aside0.mk hC4
      have HCC4 := Aside0.mk hc4
      have HD4 := Aside0.mk (HD3.out.below hb4)
      have H4 := Aside0.mk (below_step H3.out hb4)
      have HC3 := Aside0.mk (Kd.C_below HC3.out hb4)
      clear hc4 hC4 hb4
      go_wp2_with fail
      refine (HP1.out _ _ HD4.out).mono ?_
      rintro e w5 ⟨A5, c5, rfl, hc5, hC5, hb5⟩
      have HC5 := Aside0.mk hC5
      have HCC5 := Aside0.mk hc5
      have HD5 := Aside0.mk (HD4.out.below hb5)
      have H5 := Aside0.mk (below_step H4.out hb5)
      have HC3 := Aside0.mk (Kd.C_below HC3.out hb5)
      have HC4 := Aside0.mk (Kd.C_below HC4.out hb5)
      clear hc5 hC5 hb5
      go_wp2_with fail
      refine (HP2.out _ _ HD5.out).mono ?_
      rintro e w6 ⟨A6, c6, rfl, hc6, hC6, hb6⟩
      have HC6 := Aside0.mk hC6
      have HCC6 := Aside0.mk hc6
      have HD6 := Aside0.mk (HD5.out.below hb6)
      have H6 := Aside0.mk (below_step H5.out hb6)
      have HC3 := Aside0.mk (Kd.C_below HC3.out hb6)
      have HC4 := Aside0.mk (Kd.C_below HC4.out hb6)
      have HC5 := Aside0.mk (Kd.C_below HC5.out hb6)
      clear hc6 hC6 hb6
      go_wp2_with fail
      refine (ints_calls (toks l 2 wd b) (bwin l wd b.size b) (Kd.C_alloc HC3.out _) HCC3.out (Kd.C_alloc HC6.out _) HCC6.out (by have := HLN.out 2; omega)).mono ?_
      rw [decide_eq_true (toks_two l wd b)]
      rintro e w7 ⟨rfl, hb7⟩
      have HD7 := Aside0.mk ((HD6.out.below (below_alloc (Below.refl _ _) _)).below hb7.below)
      have H7 := Aside0.mk (below_step (below_alloc H6.out _) hb7.below)
      have HC3 := Aside0.mk (Kd.C_below (Kd.C_alloc HC3.out _) hb7.below)
      clear hb7
      go_wp2_with fail
      refine (HSY.out _ 2 _ _ (Kd.C_below HR.out H7.out) HC3.out HCC3.out).mono ?_
      rintro e w8 ⟨rfl, hb8⟩
      have HD8 := Aside0.mk (HD7.out.below hb8)
      have H8 := Aside0.mk (below_step H7.out hb8)
      clear hb8
      go_wp2_with fail
      go_roundw
      case rel => exact ⟨2 + 1, rfl, ⟨by omega⟩, HD8, H8⟩
      case measure => decide
set_option maxHeartbeats 2000000 in
set_option maxRecDepth 100000 in
theorem tokens_not {A : Option Addr} {c : Nat} (l : List ByteArray) (b : ByteArray) (wd : Int) (w : World) (hr : StrsIn w A l) (hc : l.length ≤ c) (hl : l.length ≤ 140737488351232) (hsz : ∀ s ∈ l, s.size ≤ 140737488351232) (h : ¬ Given l b) :
    Calls Try.prog 7 #[.slice A l.length c, .string b, .int .i64 wd] w fun e w' => e = .returned (.bool true) ∧ Below w.heap.size w w' := by
  have H := Aside0.mk (dict13_no l b w hr hc hl hsz h)
  clear hr hc hl hsz h
  go_enter Try.func7, Try.ntmps7
  go_wp2_with fail
  refine H.out.mono ?_
  rintro e w1 ⟨rfl, hb1⟩
  have H1 := Aside0.mk hb1
  clear hb1
  go_wp2_with fail
  refine (alive22 _).mono ?_
  rintro e w2 ⟨rfl, hb2⟩
  have H2 := Aside0.mk (below_step H1.out hb2)
  clear hb2
  go_wp2
  go_ret
  exact ⟨rfl, H2.out⟩
set_option maxHeartbeats 2000000 in
set_option maxRecDepth 100000 in
theorem tokens_off {A : Option Addr} {c : Nat} (l : List ByteArray) (b : ByteArray) (wd : Int) (w : World) (hr : StrsIn w A l) (hc : l.length ≤ c) (hl : l.length ≤ 140737488351232) (hsz : ∀ s ∈ l, s.size ≤ 140737488351232) (h : Given l b) (hn : ¬ (1 ≤ b.size ∧ 1 ≤ wd ∧ wd ≤ 1024)) :
    Calls Try.prog 7 #[.slice A l.length c, .string b, .int .i64 wd] w fun e w' => e = .returned (.bool true) ∧ Below w.heap.size w w' := by
  have H := Aside0.mk (dict13_yes l b w hr hc hl hsz h)
  clear hr hc hl hsz h
  by_cases h0 : b.size = 0
  · have z2 : b.toList = [] := Bridge.empty_iff.2 h0
    have z1 : b.toList.isEmpty = true := by rw [z2]; rfl
    clear hn h0
    go_enter Try.func7, Try.ntmps7
    go_wp2_with fail
    refine H.out.mono ?_
    rintro e w1 ⟨ad, rfl, hd, hb1⟩
    have H1 := Aside0.mk hb1
    clear hb1 hd
    go_wp2_with fail
    refine (alive22 _).mono ?_
    rintro e w2 ⟨rfl, hb2⟩
    have H2 := Aside0.mk (below_step H1.out hb2)
    clear hb2
    go_wp2
    go_ret
    exact ⟨rfl, H2.out⟩
  · have z1 := not_nil (b := b) (by omega)
    have z2 : ¬ b.toList = [] := by intro e; rw [e] at z1; cases z1
    by_cases h1 : wd < 1
    · have d1 : decide (wd < 1) = true := decide_eq_true h1
      clear hn h0 h1
      go_enter Try.func7, Try.ntmps7
      go_wp2_with fail
      refine H.out.mono ?_
      rintro e w1 ⟨ad, rfl, hd, hb1⟩
      have H1 := Aside0.mk hb1
      clear hb1 hd
      go_wp2_with fail
      refine (alive22 _).mono ?_
      rintro e w2 ⟨rfl, hb2⟩
      have H2 := Aside0.mk (below_step H1.out hb2)
      clear hb2
      go_wp2
      go_ret
      exact ⟨rfl, H2.out⟩
    · have d1 : decide (wd < 1) = false := decide_eq_false h1
      have d2 : decide (1024 < wd) = true := decide_eq_true (Int.not_le.1 (fun hk => hn ⟨by omega, by omega, hk⟩))
      clear hn h0 h1
      go_enter Try.func7, Try.ntmps7
      go_wp2_with fail
      refine H.out.mono ?_
      rintro e w1 ⟨ad, rfl, hd, hb1⟩
      have H1 := Aside0.mk hb1
      clear hb1 hd
      go_wp2_with fail
      refine (alive22 _).mono ?_
      rintro e w2 ⟨rfl, hb2⟩
      have H2 := Aside0.mk (below_step H1.out hb2)
      clear hb2
      go_wp2
      go_ret
      exact ⟨rfl, H2.out⟩
theorem blockTokens_law (A : Option Addr) (c : Nat) (l : List ByteArray) (b : ByteArray) (wd : Int) (w : World) (hr : StrsIn w A l) (hc : l.length ≤ c) (hl16 : l.length * 16 ≤ 140737488351232) (hsz : ∀ s ∈ l, s.size ≤ 140737488351232) (_hb : b.size ≤ 140737488351232) (_hwd : (Lit.int .i64 wd).wf = true) :
    Calls Try.prog 7 #[.slice A l.length c, .string b, .int .i64 wd] w fun e w' => e = .returned (.bool true) ∧ Below w.heap.size w w' := by
  by_cases h : Given l b
  · by_cases hn : 1 ≤ b.size ∧ 1 ≤ wd ∧ wd ≤ 1024
    · obtain ⟨n, rfl⟩ : ∃ n : Nat, wd = n := ⟨wd.toNat, by omega⟩
      exact tokens_given l b n w hr hc (by omega) hsz h hn.1 (by omega) (by omega)
    · exact tokens_off l b wd w hr hc (by omega) hsz h hn
  · exact tokens_not l b wd w hr hc (by omega) hsz h
end Go.Proofs.Ytboklkfplnmabaa
