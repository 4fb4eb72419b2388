/- Package best: the tokens. -/
import Derived.Test.YtboklkfplnmabaaBestB
set_option linter.unusedVariables false
set_option linter.unusedSimpArgs false
namespace Go.Proofs.Ytboklkfplnmabaa
open Go.RowKit Go.Proofs.Ytboklkfplnmabaa.Spec Go.Proofs.YtboklkfplnmabaaW.PrintWords Go.Proofs.YtboklkfplnmabaaW.PrintLast
open Go.Proofs.YtboklkfplnmabaaW.PrintMore
attribute [local go_sem ↓] Go.wp_at_zero Go.wp_at_succ
attribute [local go_sem] max2_int min2_int max_two min_two
namespace Spec
def bpc (w : Nat) (b : ByteArray) : ByteArray := b.extract 0 (min w b.size)
def brs (w : Nat) (b : ByteArray) : ByteArray := b.extract (min w b.size) b.size
def bwin (l : List ByteArray) (w : Nat) : Nat → ByteArray → List Int
  | 0, _ => []
  | f + 1, b => if b.size = 0 then [] else tks (bnx l (bpc w b)) (bpc w b).size (bpc w b).size 0 ++ bwin l w f (brs w b)
end Spec
theorem ext_size (b : ByteArray) (i j : Nat) (h : j ≤ b.size) : (b.extract i j).size = j - i := by
  rw [← u_size, u_cut, List.length_take, List.length_drop, u_size]
  omega
theorem bpc_size (w : Nat) (b : ByteArray) : (bpc w b).size = min w b.size := by
  unfold bpc
  rw [ext_size _ _ _ (by omega)]
  omega
theorem brs_size (w : Nat) (b : ByteArray) : (brs w b).size = b.size - min w b.size := by
  unfold brs
  rw [ext_size _ _ _ (by omega)]
theorem bwin_succ (l : List ByteArray) (w f : Nat) (b : ByteArray) : bwin l w (f + 1) b = if b.size = 0 then [] else tks (bnx l (bpc w b)) (bpc w b).size (bpc w b).size 0 ++ bwin l w f (brs w b) := rfl
theorem cat_pieces (w : Nat) (b : ByteArray) : bpc w b ++ brs w b = b := by
  apply u_inj
  unfold bpc brs
  rw [u_app, u_cut, u_cut, List.drop_zero, Nat.sub_zero]
  rw [List.take_of_length_le (i := b.size - min w b.size) (by rw [List.length_drop, u_size]; omega), List.take_append_drop]
theorem bwin_cat {l : List ByteArray} (hl : l.length ≤ 1000) (hs : ∀ s ∈ l, 1 ≤ s.size ∧ s.size ≤ 40) (w : Nat) (hw : 1 ≤ w) : ∀ (f : Nat) (b : ByteArray), b.size ≤ f → b.size ≤ 100000 → cat l (bwin l w f b) = b ∧ (∀ t ∈ bwin l w f b, Tok l t) := by
  intro f
  induction f with
  | zero =>
    intro b h _
    refine ⟨?_, fun t ht => by cases ht⟩
    apply u_inj
    have : (u b).length = 0 := by rw [u_size]; omega
    rw [List.length_eq_zero_iff.1 this]
    rfl
  | succ f ih =>
    intro b h hb
    rw [bwin_succ]
    by_cases h0 : b.size = 0
    · rw [if_pos h0]
      refine ⟨?_, fun t ht => by cases ht⟩
      apply u_inj
      have : (u b).length = 0 := by rw [u_size]; omega
      rw [List.length_eq_zero_iff.1 this]
      rfl
    · rw [if_neg h0]
      have hp := bpc_size w b
      have hr := brs_size w b
      obtain ⟨i1, i2⟩ := ih (brs w b) (by omega) (by omega)
      have hf : ∀ a, a < (bpc w b).size → Fits l (bpc w b) a (bnx l (bpc w b) a).1 (bnx l (bpc w b) a).2 := fun a ha => bnx_fits hl hs (bpc w b) (by omega) a ha
      refine ⟨?_, fun t ht => (List.mem_append.1 ht).elim (fun h => tks_tok hf _ _ t h) (i2 t)⟩
      rw [cat_append, i1, tks_cat hf _ _ (Nat.zero_le _) (by omega), extract_all, cat_pieces]
theorem bwin_len (l : List ByteArray) (w : Nat) (hw : 1 ≤ w) : ∀ (f : Nat) (b : ByteArray), (bwin l w f b).length ≤ b.size := by
  intro f
  induction f with
  | zero => intro b; exact Nat.zero_le _
  | succ f ih =>
    intro b
    rw [bwin_succ]
    split
    · exact Nat.zero_le _
    · have hp := bpc_size w b
      have hr := brs_size w b
      have h1 := ih (brs w b)
      have h2 := tks_len (bnx l (bpc w b)) (bpc w b).size (bpc w b).size 0
      rw [List.length_append]
      omega
def leftOf : Value → Nat
  | .string s => s.size
  | _ => 0
set_option maxHeartbeats 2000000 in
set_option maxRecDepth 100000 in
theorem bparse_any {p : Value} {l : List ByteArray} {w : World} (hd : DictN w p l) (hl : l.length ≤ 1000) (hs : ∀ s ∈ l, 1 ≤ s.size ∧ s.size ≤ 40) (b : ByteArray) (hb : b.size ≤ 1024) (wd : Nat) (hw1 : 1 ≤ wd) (hw2 : wd ≤ 1024) :
    Calls Try.prog 21 #[p, .string b, .int .i64 (wd : Int)] w fun e w' => ∃ A c, e = .returned (.slice A (bwin l wd b.size b).length c) ∧ (bwin l wd b.size b).length ≤ c ∧ IntsIn w' A (bwin l wd b.size b) ∧ Below w.heap.size w w' := by
  have HD := Aside0.mk hd
  have HLS := Aside0.mk (fun (W : World) (h : DictN W p l) (x : ByteArray) (h1 : 1 ≤ x.size) (h2 : x.size ≤ 10000) => least_any h hl hs x h1 h2)
  have HBF := Aside0.mk (fun (x : ByteArray) (hx : x.size ≤ 100000) (a : Nat) (ha : a < x.size) => bnx_fits hl hs x hx a ha)
  have HB := Aside0.mk hb
  have HW := Aside0.mk (And.intro hw1 hw2)
  have d1 : decide ((wd : Int) < 1) = false := decide_eq_false (by omega)
  have d1' : decide (wd < 1) = false := decide_eq_false (by omega)
  have d2 : decide ((1024 : Int) < (wd : Int)) = false := decide_eq_false (by omega)
  have d2' : decide (1024 < wd) = false := decide_eq_false (by omega)
  have d3 : decide ((1024 : Int) < (b.size : Int)) = false := decide_eq_false (by omega)
  have d3' : decide (1024 < b.size) = false := decide_eq_false (by omega)
  clear hd hl hs hb hw1 hw2
  go_enter Try.func21, Try.ntmps21
  go_wp2_with fail
  go_loopw [1, 7] (fun v1 v7 wr => ∃ (rb : ByteArray) (f : Nat) (xs : List Int) (A7 : Option Addr) (c7 : Nat), v1 = .string rb ∧ v7 = .slice A7 xs.length c7 ∧ Aside0 ((Kd.int .i64).R 3 wr w.heap.size (fun _ => True) v7 xs) ∧ Aside0 (rb.size ≤ f ∧ xs.length + rb.size ≤ b.size) ∧ Aside0 (xs ++ bwin l wd f rb = bwin l wd b.size b) ∧ Aside0 (Below w.heap.size w wr)) (fun v1 _ _ => leftOf v1)
  case atStart => exact ⟨b, b.size, [], none, 0, rfl, rfl, ⟨Kd.R_of_own (own_nil _ _ _ _) (fun _ _ => trivial)⟩, ⟨by omega, by show 0 + b.size ≤ b.size; omega⟩, ⟨rfl⟩, ⟨by repeat (first | exact Below.refl _ _ | apply below_alloc | apply below_drew)⟩⟩
  case round =>
    obtain ⟨rb, f, xs, A7, c7, rfl, rfl, HR, HI, HE, HBW⟩ := hrel
    by_cases h0 : rb.size = 0
    · have hte : rb.toList = [] := Bridge.empty_iff.2 h0
      have hte2 : rb.toList.isEmpty = true := by rw [hte]; rfl
      have he := HE.out
      have hw0 : bwin l wd f rb = [] := by
        cases f with
        | zero => rfl
        | succ f => rw [bwin_succ, if_pos h0]
      rw [hw0, List.append_nil] at he
      have HE2 := Aside0.mk he
      clear he hw0 h0 hte
      go_wp2
      go_ret
      obtain ⟨A', c', e', hc', hC'⟩ := Kd.R_reads HR.out
      rw [HE2.out] at e' hc' hC' ⊢
      exact ⟨A', c', congrArg Ending.returned e', hc', hC', HBW.out⟩
    · have hte2 : rb.toList.isEmpty = false := by
        rw [Bool.eq_false_iff]
        intro h
        exact h0 (Bridge.empty_iff.1 (List.isEmpty_iff.1 h))
      have HM : Aside0 (min (wd : Int) (rb.size : Int) = ((bpc wd rb).size : Int) ∧ (bpc wd rb).size ≤ rb.size ∧ 1 ≤ (bpc wd rb).size ∧ (bpc wd rb).size = min wd rb.size) := ⟨by
        have h1 := bpc_size wd rb
        have h2 := HW.out
        omega⟩
      have HRS : Aside0 (rb.extract (bpc wd rb).size rb.size = brs wd rb ∧ (brs wd rb).size = rb.size - (bpc wd rb).size) := ⟨by
        refine ⟨?_, by rw [brs_size, ← HM.out.2.2.2]⟩
        rw [HM.out.2.2.2]
        rfl⟩
      have HTT := Aside0.mk (fun a (h : a < (bpc wd rb).size) => HBF.out (bpc wd rb) (by have := HM.out.2.1; have := HI.out; have := HB.out; omega) a h)
      obtain ⟨f, rfl⟩ : ∃ f', f = f' + 1 := ⟨f - 1, by have := HI.out; omega⟩
      have he := HE.out
      rw [bwin_succ, if_neg h0] at he
      have HE2 := Aside0.mk he
      clear h0 he
      go_upto_region 5 with (fail)
      go_cut [8] (fun v8 wc => v8 = .string (bpc wd rb) ∧ wc = wr)
      case first =>
        by_cases hm : wd ≤ rb.size
        · have e1 : decide ((wd : Int) ≤ (rb.size : Int)) = true := decide_eq_true (by omega)
          have e2 : bpc wd rb = rb.extract 0 wd := by unfold bpc; rw [Nat.min_eq_left hm]
          have E2 := Aside0.mk e2
          clear e2
          go_wp2_with fail
          all_goals go_meet
          all_goals exact ⟨by rw [E2.out], rfl⟩
        · have e2 : bpc wd rb = rb := by unfold bpc; rw [Nat.min_eq_right (by omega)]; exact extract_all rb
          have E2 := Aside0.mk e2
          clear e2
          go_wp2_with fail
          all_goals go_meet
          all_goals exact ⟨by rw [E2.out], rfl⟩
      case rest =>
        obtain ⟨rfl, rfl⟩ := hcut
        generalize bpc wd rb = P at *
        generalize brs wd rb = Q at *
        have z1 : ¬ rb.size < P.size := by have := HM.out.2.1; omega
        have z2 : P.size ≤ rb.size := HM.out.2.1
        have HPS := Aside0.mk (show P.size ≤ 1024 by have := HI.out; have := HB.out; omega)
        go_wp2_with fail
        refine (HLS.out _ (HD.out.below HBW.out) P HM.out.2.2.1 (by have := HPS.out; omega)).mono ?_
        rintro e w2 ⟨g1, g2, rfl, hF, hb2⟩
        have HF := Aside0.mk hF
        have HB2 := Aside0.mk (below_step HBW.out hb2)
        have HR2 := Aside0.mk (Kd.R_below HR.out hb2)
        have hgl := blk_lt hF
        clear hF hb2
        go_wp2_with fail
        go_loopw [7, 11] (fun v7 v11 wq => ∃ (a f2 : Nat) (ys : List Int) (A : Option Addr) (c : Nat), v7 = .slice A ys.length c ∧ v11 = .int .i64 (a : Int) ∧ Aside0 ((Kd.int .i64).R 3 wq w.heap.size (fun _ => True) v7 ys) ∧ Aside0 (a ≤ P.size ∧ P.size ≤ a + f2 ∧ ys.length + f2 ≤ xs.length + P.size) ∧ Aside0 (ys ++ tks (bnx l P) P.size f2 a = xs ++ tks (bnx l P) P.size P.size 0) ∧ Aside0 (RowF wq g2 ((lstE l P P.size).map (·.2))) ∧ Aside0 (Below w.heap.size w wq)) (fun _ v11 _ => P.size - (intOf v11).toNat)
        case atStart => exact ⟨0, P.size, xs, A7, c7, rfl, rfl, HR2, ⟨by omega, by omega, by omega⟩, ⟨rfl⟩, HF, HB2⟩
        case round =>
          obtain ⟨a, f2, ys, A, c, rfl, rfl, HRy, HIy, HEy, HFy, HBy⟩ := hrel
          by_cases hlt : a < P.size
          · have d4 : decide ((a : Int) < (P.size : Int)) = true := decide_eq_true (by omega)
            have d4' : decide (a < P.size) = true := decide_eq_true hlt
            have p1 : (0 : Int) ≤ (a : Int) := by omega
            have p2 : (a : Int) < (P.size : Int) := by omega
            have hget : ((lstE l P P.size).map (·.2))[a]? = some (bnx l P a) := by
              rw [List.getElem?_map]
              exact lstE_bnx l P a hlt
            have k0 := HFy.out.get0 a _ hget
            have k1 := HFy.out.get1 a _ hget
            obtain ⟨hf1, hf2, hf3, hf4, hf5⟩ := HTT.out a hlt
            obtain ⟨f2, rfl⟩ : ∃ k, f2 = k + 1 := ⟨f2 - 1, by have := HIy.out; omega⟩
            have he := HEy.out
            rw [tks_succ, if_pos hlt] at he
            have HE3 := Aside0.mk he
            have HFT := Aside0.mk (And.intro hf2 hf4)
            have hxl : (ys.length + 1) * 8 ≤ 140737488355328 := by have := HIy.out; have := HI.out; have := HB.out; omega
            have hne := Kd.R_ne HRy.out HFy.out (by decide)
            have HNE := Aside0.mk hne
            have z5 : ((bnx l P a).2 : Int) ≤ 40 := by omega
            have z6 : (a : Int) ≤ 1024 := by have := HPS.out; omega
            have HK1 := Aside0.mk (fun (W : World) (h : RowF W g2 ((lstE l P P.size).map (·.2))) => h.get1 a _ hget)
            clear hlt he hf1 hf2 hf3 hf4 hf5 hget hne k1
            go_wp2_with (at_builtin; refine append_intL w.heap.size rfl (.tmp 52) (.tmp 58) 28 3 rfl Try.underlying28 Leaf.info3 (.slice A ys.length c) ys (bnx l P a).1 rfl rfl HRy.out HBy.out HBy.out.size hxl ?_; intro v1 w3 hrow hbelow hgrow hat; obtain ⟨A1, c1, rfl⟩ := Kd.R_slice hrow; have HROW := Aside0.mk hrow; have HB3 := Aside0.mk hbelow; have HF3 : Aside0 (RowF w3 g2 ((lstE l P P.size).map (·.2))) := ⟨blk_grown HFy.out hgrow HNE.out⟩; have k1 := HK1.out _ HF3.out; clear hrow hbelow hgrow hat)
            go_roundw
            case rel =>
              have hl2 : (ys ++ [(bnx l P a).1]).length = ys.length + 1 := by rw [List.length_append, List.length_singleton]
              have h1 := HFT.out
              have h2 := HIy.out
              refine ⟨a + (bnx l P a).2, f2, ys ++ [(bnx l P a).1], A1, c1, by rw [hl2], rfl, by have h := HROW.out; rw [hl2] at h; exact ⟨h⟩, ⟨by omega, by omega, by rw [hl2]; omega⟩, ⟨by rw [List.append_assoc]; exact HE3.out⟩, HF3, HB3⟩
            case measure =>
              have h1 := HFT.out
              show P.size - ((a : Int) + ((bnx l P a).2 : Int)).toNat < P.size - (a : Int).toNat
              omega
          · have d4 : decide ((a : Int) < (P.size : Int)) = false := decide_eq_false (by omega)
            have d4' : decide (a < P.size) = false := decide_eq_false hlt
            have he := HEy.out
            have h0 : tks (bnx l P) P.size f2 a = [] := by
              cases f2 with
              | zero => rfl
              | succ k => rw [tks_succ, if_neg hlt]
            rw [h0, List.append_nil] at he
            have HE3 := Aside0.mk he
            clear hlt he h0
            go_wp2_with fail
            go_roundw
            case rel =>
              have h1 := HI.out
              have h2 := HIy.out
              have h3 := HM.out.2.2.1
              have h4 := HRS.out.2
              refine ⟨Q, f, ys, A, c, by rw [HRS.out.1], rfl, HRy, ⟨by omega, ?_⟩, ⟨by rw [HE3.out, List.append_assoc]; exact HE2.out⟩, HBy⟩
              have h5 := congrArg List.length HE3.out
              have h6 := tks_len (bnx l P) P.size P.size 0
              rw [List.length_append] at h5
              omega
            case measure =>
              show (rb.extract P.size rb.size).size < rb.size
              rw [HRS.out.1, HRS.out.2]
              have h3 := HM.out.2.2.1
              have h4 := HM.out.2.1
              omega
end Go.Proofs.Ytboklkfplnmabaa
