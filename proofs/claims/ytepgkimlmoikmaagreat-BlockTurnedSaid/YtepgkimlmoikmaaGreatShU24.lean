/- ShU: a part of its proof (contracts of the functions that it reaches, and the plain mathematics behind them). -/
import Derived.Test.YtepgkimlmoikmaaGreatShU23
import Derived.Test.YtepgkimlmoikmaaGreatShU45
set_option linter.unusedVariables false
set_option linter.unusedSimpArgs false
set_option maxHeartbeats 2000000
set_option maxRecDepth 100000
set_option linter.unusedVariables false
set_option linter.unusedSimpArgs false
namespace Go.Proofs.YtepgkimlmoikmaaGreat
open Go.RowKit Go.Proofs.YtepgkimlmoikmaaGreat.Spec Go.Proofs.YtepgkimlmoikmaaGreatW.PrintWords Go.Proofs.YtepgkimlmoikmaaGreatW.PrintLast
open Go.Proofs.YtepgkimlmoikmaaGreatW.PrintMore
attribute [local go_sem ↓] Go.wp_at_zero Go.wp_at_succ
attribute [local go_sem] max2_int min2_int max_two min_two
namespace Spec
def bpc (w : Nat) (b : ByteArray) : ByteArray := b.extract 0 (min w b.size)
def brs (w : Nat) (b : ByteArray) : ByteArray := b.extract (min w b.size) b.size
def bwin (l : List ByteArray) (w : Nat) : Nat → ByteArray → List Int
 | 0, _ => []
 | f + 1, b => if b.size = 0 then [] else tks (bnx l (bpc w b)) (bpc w b).size (bpc w b).size 0 ++ bwin l w f (brs w b)
end Spec
theorem ext_size (b : ByteArray) (i j : Nat) (h : j ≤ b.size) : (b.extract i j).size = j - i := by
 rw [← u_size, u_cut, List.length_take, List.length_drop, u_size]
 omega
theorem bpc_size (w : Nat) (b : ByteArray) : (bpc w b).size = min w b.size := by
 unfold bpc
 rw [ext_size _ _ _ (by omega)]
 omega
theorem brs_size (w : Nat) (b : ByteArray) : (brs w b).size = b.size - min w b.size := by
 unfold brs
 rw [ext_size _ _ _ (by omega)]
theorem bwin_succ (l : List ByteArray) (w f : Nat) (b : ByteArray) : bwin l w (f + 1) b = if b.size = 0 then [] else tks (bnx l (bpc w b)) (bpc w b).size (bpc w b).size 0 ++ bwin l w f (brs w b) := rfl
theorem cat_pieces (w : Nat) (b : ByteArray) : bpc w b ++ brs w b = b := by
 apply u_inj
 unfold bpc brs
 rw [u_app, u_cut, u_cut, List.drop_zero, Nat.sub_zero]
 rw [List.take_of_length_le (i := b.size - min w b.size) (by rw [List.length_drop, u_size]; omega), List.take_append_drop]
theorem bwin_cat {l : List ByteArray} (hl : l.length ≤ 1000) (hs : ∀ s ∈ l, 1 ≤ s.size ∧ s.size ≤ 40) (w : Nat) (hw : 1 ≤ w) : ∀ (f : Nat) (b : ByteArray), b.size ≤ f → b.size ≤ 100000 → cat l (bwin l w f b) = b ∧ (∀ t ∈ bwin l w f b, Tok l t) := by
 intro f
 induction f with
 | zero =>
  intro b h _
  refine ⟨?_, fun t ht => by cases ht⟩
  apply u_inj
  have : (u b).length = 0 := by rw [u_size]; omega
  rw [List.length_eq_zero_iff.1 this]
  rfl
 | succ f ih =>
  intro b h hb
  rw [bwin_succ]
  by_cases h0 : b.size = 0
  ·rw [if_pos h0]
   refine ⟨?_, fun t ht => by cases ht⟩
   apply u_inj
   have : (u b).length = 0 := by rw [u_size]; omega
   rw [List.length_eq_zero_iff.1 this]
   rfl
  ·rw [if_neg h0]
   have hp := bpc_size w b
   have hr := brs_size w b
   obtain ⟨i1, i2⟩ := ih (brs w b) (by omega) (by omega)
   have hf : ∀ a, a < (bpc w b).size → Fits l (bpc w b) a (bnx l (bpc w b) a).1 (bnx l (bpc w b) a).2 := fun a ha => bnx_fits hl hs (bpc w b) (by omega) a ha
   refine ⟨?_, fun t ht => (List.mem_append.1 ht).elim (fun h => tks_tok hf _ _ t h) (i2 t)⟩
   rw [cat_append, i1, tks_cat hf _ _ (Nat.zero_le _) (by omega), extract_all, cat_pieces]
theorem bwin_len (l : List ByteArray) (w : Nat) (hw : 1 ≤ w) : ∀ (f : Nat) (b : ByteArray), (bwin l w f b).length ≤ b.size := by
 intro f
 induction f with
 | zero => intro b; exact Nat.zero_le _
 | succ f ih =>
  intro b
  rw [bwin_succ]
  split
  ·exact Nat.zero_le _
  ·have hp := bpc_size w b
   have hr := brs_size w b
   have h1 := ih (brs w b)
   have h2 := tks_len (bnx l (bpc w b)) (bpc w b).size (bpc w b).size 0
   rw [List.length_append]
   omega
def leftOf : Value → Nat
 | .string s => s.size
 | _ => 0
theorem bparse_any {p : Value} {l : List ByteArray} {w : World} (hd : DictN w p l) (hl : l.length ≤ 1000) (hs : ∀ s ∈ l, 1 ≤ s.size ∧ s.size ≤ 40) (b : ByteArray) (hb : b.size ≤ 1024) (wd : Nat) (hw1 : 1 ≤ wd) (hw2 : wd ≤ 1024) :
  Calls Tryz.prog 70 #[p, .string b, .int .i64 (wd : Int)] w fun e w' => ∃ A c, e = .returned (.slice A (bwin l wd b.size b).length c) ∧ (bwin l wd b.size b).length ≤ c ∧ IntsIn w' A (bwin l wd b.size b) ∧ Below w.heap.size w w' := by
 have HD := Aside0.mk hd
 have HLS := Aside0.mk (fun (W : World) (h : DictN W p l) (x : ByteArray) (h1 : 1 ≤ x.size) (h2 : x.size ≤ 10000) => least_any h hl hs x h1 h2)
 have HBF := Aside0.mk (fun (x : ByteArray) (hx : x.size ≤ 100000) (a : Nat) (ha : a < x.size) => bnx_fits hl hs x hx a ha)
 have HB := Aside0.mk hb
 have HW := Aside0.mk (And.intro hw1 hw2)
 have d1 : decide ((wd : Int) < 1) = false := decide_eq_false (by omega)
 have d1' : decide (wd < 1) = false := decide_eq_false (by omega)
 have d2 : decide ((1024 : Int) < (wd : Int)) = false := decide_eq_false (by omega)
 have d2' : decide (1024 < wd) = false := decide_eq_false (by omega)
 have d3 : decide ((1024 : Int) < (b.size : Int)) = false := decide_eq_false (by omega)
 have d3' : decide (1024 < b.size) = false := decide_eq_false (by omega)
 clear hd hl hs hb hw1 hw2
 go_enter Tryz.func70, Tryz.ntmps70
 go_wp2_with fail
 go_loopw [1, 7] (fun v1 v7 wr => ∃ (rb : ByteArray) (f : Nat) (xs : List Int) (A7 : Option Addr) (c7 : Nat), v1 = .string rb ∧ v7 = .slice A7 xs.length c7 ∧ Aside0 ((Kd.int .i64).R 3 wr w.heap.size (fun _ => True) v7 xs) ∧ Aside0 (rb.size ≤ f ∧ xs.length + rb.size ≤ b.size) ∧ Aside0 (xs ++ bwin l wd f rb = bwin l wd b.size b) ∧ Aside0 (Below w.heap.size w wr)) (fun v1 _ _ => leftOf v1)
 case atStart => exact ⟨b, b.size, [], none, 0, rfl, rfl, ⟨Kd.R_of_own (own_nil _ _ _ _) (fun _ _ => trivial)⟩, ⟨by omega, by show 0 + b.size ≤ b.size; omega⟩, ⟨rfl⟩, ⟨by repeat (first | exact Below.refl _ _ | apply below_alloc | apply below_drew)⟩⟩
 case round =>
  obtain ⟨rb, f, xs, A7, c7, rfl, rfl, HR, HI, HE, HBW⟩ := hrel
  by_cases h0 : rb.size = 0
  ·have hte : rb.toList = [] := Bridge.empty_iff.2 h0
   have hte2 : rb.toList.isEmpty = true := by rw [hte]; rfl
   have he := HE.out
   have hw0 : bwin l wd f rb = [] := by
    cases f with
    | zero => rfl
    | succ f => rw [bwin_succ, if_pos h0]
   rw [hw0, List.append_nil] at he
   have HE2 := Aside0.mk he
   clear he hw0 h0 hte
   go_wp2
   go_ret
   obtain ⟨A', c', e', hc', hC'⟩ := Kd.R_reads HR.out
   rw [HE2.out] at e' hc' hC' ⊢
   exact ⟨A', c', congrArg Ending.returned e', hc', hC', HBW.out⟩
  ·have hte2 : rb.toList.isEmpty = false := by
    rw [Bool.eq_false_iff]
    intro h
    exact h0 (Bridge.empty_iff.1 (List.isEmpty_iff.1 h))
   have HM : Aside0 (min (wd : Int) (rb.size : Int) = ((bpc wd rb).size : Int) ∧ (bpc wd rb).size ≤ rb.size ∧ 1 ≤ (bpc wd rb).size ∧ (bpc wd rb).size = min wd rb.size) := ⟨by
    have h1 := bpc_size wd rb
    have h2 := HW.out
    omega⟩
   have HRS : Aside0 (rb.extract (bpc wd rb).size rb.size = brs wd rb ∧ (brs wd rb).size = rb.size - (bpc wd rb).size) := ⟨by
    refine ⟨?_, by rw [brs_size, ← HM.out.2.2.2]⟩
    rw [HM.out.2.2.2]
    rfl⟩
   have HTT := Aside0.mk (fun a (h : a < (bpc wd rb).size) => HBF.out (bpc wd rb) (by have := HM.out.2.1; have := HI.out; have := HB.out; omega) a h)
   obtain ⟨f, rfl⟩ : ∃ f', f = f' + 1 := ⟨f - 1, by have := HI.out; omega⟩
   have he := HE.out
   rw [bwin_succ, if_neg h0] at he
   have HE2 := Aside0.mk he
   clear h0 he
   go_upto_region 5 with (fail)
   go_cut [8] (fun v8 wc => v8 = .string (bpc wd rb) ∧ wc = wr)
   case first =>
    by_cases hm : wd ≤ rb.size
    ·have e1 : decide ((wd : Int) ≤ (rb.size : Int)) = true := decide_eq_true (by omega)
     have e2 : bpc wd rb = rb.extract 0 wd := by unfold bpc; rw [Nat.min_eq_left hm]
     have E2 := Aside0.mk e2
     clear e2
     go_wp2_with fail
     all_goals go_meet
     all_goals exact ⟨by rw [E2.out], rfl⟩
    ·have e2 : bpc wd rb = rb := by unfold bpc; rw [Nat.min_eq_right (by omega)]; exact extract_all rb
     have E2 := Aside0.mk e2
     clear e2
     go_wp2_with fail
     all_goals go_meet
     all_goals exact ⟨by rw [E2.out], rfl⟩
   case rest =>
    obtain ⟨rfl, rfl⟩ := hcut
    generalize bpc wd rb = P at *
    generalize brs wd rb = Q at *
    have z1 : ¬ rb.size < P.size := by have := HM.out.2.1; omega
    have z2 : P.size ≤ rb.size := HM.out.2.1
    have HPS := Aside0.mk (show P.size ≤ 1024 by have := HI.out; have := HB.out; omega)
    go_wp2_with fail
    refine (HLS.out _ (HD.out.below HBW.out) P HM.out.2.2.1 (by have := HPS.out; omega)).mono ?_
    rintro e w2 ⟨g1, g2, rfl, hF, hb2⟩
    have HF := Aside0.mk hF
    have HB2 := Aside0.mk (below_step HBW.out hb2)
    have HR2 := Aside0.mk (Kd.R_below HR.out hb2)
    have hgl := blk_lt hF
    clear hF hb2
    go_wp2_with fail
    go_loopw [7, 11] (fun v7 v11 wq => ∃ (a f2 : Nat) (ys : List Int) (A : Option Addr) (c : Nat), v7 = .slice A ys.length c ∧ v11 = .int .i64 (a : Int) ∧ Aside0 ((Kd.int .i64).R 3 wq w.heap.size (fun _ => True) v7 ys) ∧ Aside0 (a ≤ P.size ∧ P.size ≤ a + f2 ∧ ys.length + f2 ≤ xs.length + P.size) ∧ Aside0 (ys ++ tks (bnx l P) P.size f2 a = xs ++ tks (bnx l P) P.size P.size 0) ∧ Aside0 (RowF wq g2 ((lstE l P P.size).map (·.2))) ∧ Aside0 (Below w.heap.size w wq)) (fun _ v11 _ => P.size - (intOf v11).toNat)
    case atStart => exact ⟨0, P.size, xs, A7, c7, rfl, rfl, HR2, ⟨by omega, by omega, by omega⟩, ⟨rfl⟩, HF, HB2⟩
    case round =>
     obtain ⟨a, f2, ys, A, c, rfl, rfl, HRy, HIy, HEy, HFy, HBy⟩ := hrel
     by_cases hlt : a < P.size
     ·have d4 : decide ((a : Int) < (P.size : Int)) = true := decide_eq_true (by omega)
      have d4' : decide (a < P.size) = true := decide_eq_true hlt
      have p1 : (0 : Int) ≤ (a : Int) := by omega
      have p2 : (a : Int) < (P.size : Int) := by omega
      have hget : ((lstE l P P.size).map (·.2))[a]? = some (bnx l P a) := by
       rw [List.getElem?_map]
       exact lstE_bnx l P a hlt
      have k0 := HFy.out.get0 a _ hget
      have k1 := HFy.out.get1 a _ hget
      obtain ⟨hf1, hf2, hf3, hf4, hf5⟩ := HTT.out a hlt
      obtain ⟨f2, rfl⟩ : ∃ k, f2 = k + 1 := ⟨f2 - 1, by have := HIy.out; omega⟩
      have he := HEy.out
      rw [tks_succ, if_pos hlt] at he
      have HE3 := Aside0.mk he
      have HFT := Aside0.mk (And.intro hf2 hf4)
      have hxl : (ys.length + 1) * 8 ≤ 140737488355328 := by have := HIy.out; have := HI.out; have := HB.out; omega
      have hne := Kd.R_ne HRy.out HFy.out (by decide)
      have HNE := Aside0.mk hne
      have z5 : ((bnx l P a).2 : Int) ≤ 40 := by omega
      have z6 : (a : Int) ≤ 1024 := by have := HPS.out; omega
      have HK1 := Aside0.mk (fun (W : World) (h : RowF W g2 ((lstE l P P.size).map (·.2))) => h.get1 a _ hget)
      clear hlt he hf1 hf2 hf3 hf4 hf5 hget hne k1
      go_wp2_with (at_builtin; refine append_intL w.heap.size rfl (.tmp 52) (.tmp 58) 29 3 rfl Tryz.underlying29 Leaf.info3 (.slice A ys.length c) ys (bnx l P a).1 rfl rfl HRy.out HBy.out HBy.out.size hxl ?_; intro v1 w3 hrow hbelow hgrow hat; obtain ⟨A1, c1, rfl⟩ := Kd.R_slice hrow; have HROW := Aside0.mk hrow; have HB3 := Aside0.mk hbelow; have HF3 : Aside0 (RowF w3 g2 ((lstE l P P.size).map (·.2))) := ⟨blk_grown HFy.out hgrow HNE.out⟩; have k1 := HK1.out _ HF3.out; clear hrow hbelow hgrow hat)
      go_roundw
      case rel =>
       have hl2 : (ys ++ [(bnx l P a).1]).length = ys.length + 1 := by rw [List.length_append, List.length_singleton]
       have h1 := HFT.out
       have h2 := HIy.out
       refine ⟨a + (bnx l P a).2, f2, ys ++ [(bnx l P a).1], A1, c1, by rw [hl2], rfl, by have h := HROW.out; rw [hl2] at h; exact ⟨h⟩, ⟨by omega, by omega, by rw [hl2]; omega⟩, ⟨by rw [List.append_assoc]; exact HE3.out⟩, HF3, HB3⟩
      case measure =>
       have h1 := HFT.out
       show P.size - ((a : Int) + ((bnx l P a).2 : Int)).toNat < P.size - (a : Int).toNat
       omega
     ·have d4 : decide ((a : Int) < (P.size : Int)) = false := decide_eq_false (by omega)
      have d4' : decide (a < P.size) = false := decide_eq_false hlt
      have he := HEy.out
      have h0 : tks (bnx l P) P.size f2 a = [] := by
       cases f2 with
       | zero => rfl
       | succ k => rw [tks_succ, if_neg hlt]
      rw [h0, List.append_nil] at he
      have HE3 := Aside0.mk he
      clear hlt he h0
      go_wp2_with fail
      go_roundw
      case rel =>
       have h1 := HI.out
       have h2 := HIy.out
       have h3 := HM.out.2.2.1
       have h4 := HRS.out.2
       refine ⟨Q, f, ys, A, c, by rw [HRS.out.1], rfl, HRy, ⟨by omega, ?_⟩, ⟨by rw [HE3.out, List.append_assoc]; exact HE2.out⟩, HBy⟩
       have h5 := congrArg List.length HE3.out
       have h6 := tks_len (bnx l P) P.size P.size 0
       rw [List.length_append] at h5
       omega
      case measure =>
       show (rb.extract P.size rb.size).size < rb.size
       rw [HRS.out.1, HRS.out.2]
       have h3 := HM.out.2.2.1
       have h4 := HM.out.2.1
       omega
end Go.Proofs.YtepgkimlmoikmaaGreat
set_option linter.unusedVariables false
set_option linter.unusedSimpArgs false
namespace Go.Proofs.YtepgkimlmoikmaaGreat
open Go.RowKit Go.Proofs.YtepgkimlmoikmaaGreat.Spec Go.Proofs.YtepgkimlmoikmaaGreatW.PrintWords Go.Proofs.YtepgkimlmoikmaaGreatW.PrintLast
open Go.Proofs.YtepgkimlmoikmaaGreatW.PrintMore
attribute [local go_sem ↓] Go.wp_at_zero Go.wp_at_succ
namespace Spec
def toks (l : List ByteArray) (p : Int) (wd : Nat) (b : ByteArray) : List Int := if p = 0 then par l b b.size 0 else if p = 1 then fpar l b b.size 0 else bwin l wd b.size b
def cfgB (p q k w : Int) : Bool := decide (0 ≤ p ∧ p ≤ 2 ∧ 0 ≤ q ∧ q ≤ 1 ∧ 1 ≤ k ∧ k ≤ 1024 ∧ 1 ≤ w ∧ w ≤ 1024)
end Spec
theorem toks_zero (l : List ByteArray) (wd : Nat) (b : ByteArray) : toks l 0 wd b = par l b b.size 0 := by unfold toks; rw [if_pos rfl]
theorem toks_one (l : List ByteArray) (wd : Nat) (b : ByteArray) : toks l 1 wd b = fpar l b b.size 0 := by unfold toks; rw [if_neg (by decide), if_pos rfl]
theorem toks_two (l : List ByteArray) (wd : Nat) (b : ByteArray) : toks l 2 wd b = bwin l wd b.size b := by unfold toks; rw [if_neg (by decide), if_neg (by decide)]
theorem toks_ok {l : List ByteArray} (hl : l.length ≤ 1000) (hs : ∀ s ∈ l, 1 ≤ s.size ∧ s.size ≤ 40) (p : Int) {wd : Nat} (hw : 1 ≤ wd) (b : ByteArray) (hb : b.size ≤ 100000) : cat l (toks l p wd b) = b ∧ (∀ t ∈ toks l p wd b, Tok l t) ∧ (toks l p wd b).length ≤ b.size ∧ (1 ≤ b.size → toks l p wd b ≠ []) := by
 have hne : cat l (toks l p wd b) = b → 1 ≤ b.size → toks l p wd b ≠ [] := by
  intro h h1 e
  rw [e] at h
  have := congrArg ByteArray.size h
  have h0 : (cat l []).size = 0 := rfl
  omega
 unfold toks at hne ⊢
 split
 ·rename_i hp
  rw [if_pos hp] at hne
  have hf : ∀ a, a < b.size → Fits l b a (nxt l b a).1 (nxt l b a).2 := fun a ha => nxt_fits hs b a ha
  have h1 : cat l (par l b b.size 0) = b := by rw [par_tks, tks_cat hf _ _ (Nat.zero_le _) (by omega), extract_all]
  exact ⟨h1, par_tok hs b _ _, par_len l b _ _, hne h1⟩
 ·rename_i hp
  split
  ·rename_i hq
   rw [if_neg hp, if_pos hq] at hne
   have hf : ∀ a, a < b.size → Fits l b a (fnx l b a).1 (fnx l b a).2 := fun a ha => fnx_fits hs b a ha
   have h1 : cat l (fpar l b b.size 0) = b := by rw [fpar_tks, tks_cat hf _ _ (Nat.zero_le _) (by omega), extract_all]
   exact ⟨h1, by rw [fpar_tks]; exact tks_tok hf _ _, by rw [fpar_tks]; exact tks_len _ _ _ _, hne h1⟩
  ·rename_i hq
   rw [if_neg hp, if_neg hq] at hne
   have h := bwin_cat hl hs wd hw b.size b (Nat.le_refl _) hb
   exact ⟨h.1, h.2, bwin_len l wd hw _ _, hne h.1⟩
theorem right_calls (p q k wd : Int) (w : World) : Calls Tryz.prog 26 #[.agg #[.int .i64 p, .int .i64 q, .int .i64 k, .int .i64 wd]] w fun e w' => e = .returned (.bool (cfgB p q k wd)) ∧ Below w.heap.size w w' := by
 refine Leaf.block_Right.calls p q k wd _ w ?_
 have hcod : ∀ x : Int, Leaf.block_coded.f x = some (decide (0 ≤ x ∧ x ≤ 1)) := by
  intro x
  unfold Leaf.block_coded.f
  split
  ·rename_i h; subst h; rfl
  ·congr 1
   rw [Bool.eq_iff_iff, beq_iff_eq, decide_eq_true_iff]
   omega
 have hsiz : ∀ x : Int, Leaf.block_size.f x = some (decide (1 ≤ x ∧ x ≤ 1024)) := by
  intro x
  unfold Leaf.block_size.f
  split
  ·congr 1
   rw [decide_eq_decide]
   omega
  ·congr 1
   symm
   rw [decide_eq_false_iff_not]
   omega
 unfold Leaf.block_Right.f
 rw [hcod, hsiz, hsiz]
 simp only [Option.bind_some]
 unfold cfgB
 by_cases h1 : p ≥ 0
 ·rw [if_pos h1]
  by_cases h2 : p ≤ 2
  ·rw [if_pos h2]
   by_cases h3 : 0 ≤ q ∧ q ≤ 1
   ·rw [if_pos (decide_eq_true h3)]
    by_cases h4 : 1 ≤ k ∧ k ≤ 1024
    ·rw [if_pos (decide_eq_true h4)]
     congr 1
     rw [decide_eq_decide]
     omega
    ·rw [if_neg (by rw [decide_eq_true_iff]; exact h4)]
     congr 1
     symm
     rw [decide_eq_false_iff_not]
     omega
   ·rw [if_neg (by rw [decide_eq_true_iff]; exact h3)]
    congr 1
    symm
    rw [decide_eq_false_iff_not]
    omega
  ·rw [if_neg h2]
   congr 1
   symm
   rw [decide_eq_false_iff_not]
   omega
 ·rw [if_neg h1]
  congr 1
  symm
  rw [decide_eq_false_iff_not]
  omega
theorem cfg_at {w w1 : World} {a b c d : Value} (hb : Below (w.alloc (.cells #[a, b, c, d] 24)).heap.size (w.alloc (.cells #[a, b, c, d] 24)) w1) :
  w1.cell? ⟨w.heap.size, 0, none⟩ = some a ∧ w1.cell? ⟨w.heap.size, 1, none⟩ = some b ∧ w1.cell? ⟨w.heap.size, 2, none⟩ = some c ∧ w1.cell? ⟨w.heap.size, 3, none⟩ = some d := by
 have hh : (w.alloc (.cells #[a, b, c, d] 24)).heap[w.heap.size]? = some (.cells #[a, b, c, d] 24 (0, 0)) := heap_alloc_new _ _
 exact ⟨pw_cell_below hb (blk_cell hh 0), pw_cell_below hb (blk_cell hh 1), pw_cell_below hb (blk_cell hh 2), pw_cell_below hb (blk_cell hh 3)⟩
theorem tokens_yes {P : Value} {l : List ByteArray} {w : World} (hd : DictN w P l) (hl : l.length ≤ 1000) (hs : ∀ s ∈ l, 1 ≤ s.size ∧ s.size ≤ 40) (p q k wd : Int) (hcf : cfgB p q k wd = true) (b : ByteArray) (h1 : 1 ≤ b.size) (hb : (b.size : Int) ≤ k) :
  Calls Tryz.prog 21 #[P, .agg #[.int .i64 p, .int .i64 q, .int .i64 k, .int .i64 wd], .string b] w fun e w' => ∃ A c, e = .returned (.tuple #[.slice A (toks l p wd.toNat b).length c, .int .i64 0]) ∧ (toks l p wd.toNat b).length ≤ c ∧ IntsIn w' A (toks l p wd.toNat b) ∧ Below w.heap.size w w' := by
 have hcb := hcf
 unfold cfgB at hcb
 rw [decide_eq_true_iff] at hcb
 have HD := Aside0.mk hd
 have HRT := Aside0.mk (fun W => right_calls p q k wd W)
 rw [hcf] at HRT
 have z1 := not_nil h1
 have z2 : ¬ b.toList = [] := by intro e; rw [e] at z1; cases z1
 have d1 : decide (k < (b.size : Int)) = false := decide_eq_false (by omega)
 have hp3 : p = 0 ∨ p = 1 ∨ p = 2 := by omega
 obtain ⟨wn, hwn⟩ : ∃ n : Nat, wd = n := ⟨wd.toNat, by omega⟩
 subst hwn
 rw [Int.toNat_natCast]
 have HP0 := Aside0.mk (fun (W : World) (h : DictN W P l) => parse_any h hl hs b (by omega))
 have HP1 := Aside0.mk (fun (W : World) (h : DictN W P l) => fparse_any h hl hs b (by omega))
 have HP2 := Aside0.mk (fun (W : World) (h : DictN W P l) => bparse_any h hl hs b (by omega) wn (by omega) (by omega))
 clear hd hl hs h1 hb hcf hcb
 rcases hp3 with rfl | rfl | rfl
 ·rw [toks_zero]
  go_enter Tryz.func21, Tryz.ntmps21
  go_wp2_with fail
  refine (HRT.out _).mono ?_
  rintro e w1 ⟨rfl, hb1⟩
  obtain ⟨c0, c1, c2, c3⟩ := cfg_at hb1
  have H1 := Aside0.mk (below_step (below_alloc (Below.refl _ _) _) hb1)
  clear hb1
  go_wp2_with fail
  refine (HP0.out _ (HD.out.below H1.out)).mono ?_
  rintro e w2 ⟨A, c, rfl, hc, hC, hb2⟩
  have HC := Aside0.mk hC
  have HCC := Aside0.mk hc
  have H2 := Aside0.mk (below_step H1.out hb2)
  clear hc hC hb2
  go_wp2
  go_ret2
  exact ⟨A, c, rfl, HCC.out, HC.out, H2.out⟩
 ·rw [toks_one]
  go_enter Tryz.func21, Tryz.ntmps21
  go_wp2_with fail
  refine (HRT.out _).mono ?_
  rintro e w1 ⟨rfl, hb1⟩
  obtain ⟨c0, c1, c2, c3⟩ := cfg_at hb1
  have H1 := Aside0.mk (below_step (below_alloc (Below.refl _ _) _) hb1)
  clear hb1
  go_wp2_with fail
  refine (HP1.out _ (HD.out.below H1.out)).mono ?_
  rintro e w2 ⟨A, c, rfl, hc, hC, hb2⟩
  have HC := Aside0.mk hC
  have HCC := Aside0.mk hc
  have H2 := Aside0.mk (below_step H1.out hb2)
  clear hc hC hb2
  go_wp2
  go_ret2
  exact ⟨A, c, rfl, HCC.out, HC.out, H2.out⟩
 ·rw [toks_two]
  go_enter Tryz.func21, Tryz.ntmps21
  go_wp2_with fail
  refine (HRT.out _).mono ?_
  rintro e w1 ⟨rfl, hb1⟩
  obtain ⟨c0, c1, c2, c3⟩ := cfg_at hb1
  have H1 := Aside0.mk (below_step (below_alloc (Below.refl _ _) _) hb1)
  clear hb1
  go_wp2_with fail
  refine (HP2.out _ (HD.out.below H1.out)).mono ?_
  rintro e w2 ⟨A, c, rfl, hc, hC, hb2⟩
  have HC := Aside0.mk hC
  have HCC := Aside0.mk hc
  have H2 := Aside0.mk (below_step H1.out hb2)
  clear hc hC hb2
  go_wp2
  go_ret2
  exact ⟨A, c, rfl, HCC.out, HC.out, H2.out⟩
end Go.Proofs.YtepgkimlmoikmaaGreat
set_option linter.unusedVariables false
namespace Go.Proofs.YtepgkimlmoikmaaGreat
open Go.RowKit Go.Proofs.YtepgkimlmoikmaaGreat.Spec Go.Proofs.YtepgkimlmoikmaaGreatW.PrintWords Go.Proofs.YtepgkimlmoikmaaGreatW.PrintLast
structure Kp (w w' : World) (g : Nat) (row : Option Nat) : Prop where
 os : w'.os = w.os
 tape : w'.tape = w.tape
 output : w'.output = w.output
 size : w.heap.size ≤ w'.heap.size
 block : ∀ k, k < w.heap.size → k ≠ g → w'.heap[k]? = w.heap[k]?
section
variable {g : Nat} {row row1 : Option Nat} {w w1 w2 w0 : World}
theorem Kp.refl (w : World) (g : Nat) (row : Option Nat) : Kp w w g row := ⟨rfl, rfl, rfl, Nat.le_refl _, fun _ _ _ => rfl⟩
theorem Kp.trans (h : Kp w w1 g row) (k : Kp w1 w2 g row1) (hr : row1 = row ∨ False) : Kp w w2 g row := ⟨k.os.trans h.os, k.tape.trans h.tape, k.output.trans h.output, Nat.le_trans h.size k.size, fun i hi hg => (k.block i (Nat.lt_of_lt_of_le hi h.size) hg).trans (h.block i hi hg)⟩
theorem Kp.of_below (h : Below w.heap.size w w1) (g : Nat) (row : Option Nat) : Kp w w1 g row := ⟨h.os, h.tape, h.output, h.size, fun k hk _ => h.block k hk⟩
theorem Kp.then (h : Kp w w1 g row) (k : Below w1.heap.size w1 w2) : Kp w w2 g row := h.trans (Kp.of_below k g row) (.inl rfl)
theorem Kp.set_ (h : Kp w w1 g row) (i : Nat) (v : Value) : Kp w (w1.setCell ⟨g, i, none⟩ v) g row := ⟨h.os, h.tape, h.output, by simpa using h.size, fun k hk hg => (Below.heap_setCell w1 ⟨g, i, none⟩ v k hg).trans (h.block k hk hg)⟩
theorem kp_drew (h : Kp w w1 g row) : Kp w w1.drew g row := ⟨h.os, h.tape, h.output, h.size, h.block⟩
theorem Kp.drewN (h : Kp w w1 g row) (n : Nat) : Kp w (w1.drewN n) g row := ⟨h.os, h.tape, h.output, h.size, h.block⟩
theorem kp_drewN (h : Kp w w1 g row) (n : Nat) : Kp w (w1.drewN n) g row := ⟨h.os, h.tape, h.output, h.size, h.block⟩
theorem Kp.low (h : Kp w w1 g row) (hb : Below w0.heap.size w0 w) (hg : w0.heap.size ≤ g) : Below w0.heap.size w0 w1 := ⟨h.os.trans hb.os, h.tape.trans hb.tape, h.output.trans hb.output, Nat.le_trans hb.size h.size, fun k hk => (h.block k (Nat.lt_of_lt_of_le hk hb.size) (by omega)).trans (hb.block k hk)⟩
theorem Kp.blk {g' : Nat} {o : Obj} (h : Kp w w1 g row) (hb : w.heap[g']? = some o) (hg : g' ≠ g) : w1.heap[g']? = some o := (h.block g' (blk_lt hb) hg).trans hb
end
end Go.Proofs.YtepgkimlmoikmaaGreat
