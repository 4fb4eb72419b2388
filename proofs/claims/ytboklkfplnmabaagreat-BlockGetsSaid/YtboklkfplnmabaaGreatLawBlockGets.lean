/- For every dictionary, way, kind, length and payload: block.Get tells what the document's own answer tells. -/
import Derived.Test.YtboklkfplnmabaaGreatRefGet
import Derived.Test.YtboklkfplnmabaaGreatAlive
import Derived.Test.YtboklkfplnmabaaGreatDict13
set_option linter.unusedVariables false
set_option linter.unusedSimpArgs false
namespace Go.Proofs.YtboklkfplnmabaaGreat
open Go.RowKit Go.Proofs.YtboklkfplnmabaaGreat.Spec Go.Proofs.YtboklkfplnmabaaGreatW.PrintWords Go.Proofs.YtboklkfplnmabaaGreatW.PrintLast
open Go.Proofs.YtboklkfplnmabaaGreatW.PrintMore
attribute [local go_sem ↓] Go.wp_at_zero Go.wp_at_succ
theorem meanM_ok {σ : Type} (tok err : σ → Int) (step : σ → σ) (fin : σ → Bool) {l : List ByteArray} (hs : ∀ s ∈ l, 1 ≤ s.size ∧ s.size ≤ 40) (raw : Nat) (he : ∀ x, err x ≠ 1) : ∀ (f : Nat) (s : ByteArray) (x : σ), s.size ≤ raw → raw ≤ s.size + f →
    (meanM tok err step fin l raw f s x).2 ≠ 1 ∧ ((meanM tok err step fin l raw f s x).2 = 0 → (meanM tok err step fin l raw f s x).1.size = raw) ∧ ((meanM tok err step fin l raw f s x).2 ≠ 0 → (meanM tok err step fin l raw f s x).1 = ⟨#[]⟩) := by
  have hend : ∀ (s : ByteArray) (x : σ), s.size = raw → (if fin x = true then (s, (0 : Int)) else (⟨#[]⟩, 13)).2 ≠ 1 ∧ ((if fin x = true then (s, (0 : Int)) else (⟨#[]⟩, 13)).2 = 0 → (if fin x = true then (s, (0 : Int)) else (⟨#[]⟩, 13)).1.size = raw) ∧ ((if fin x = true then (s, (0 : Int)) else (⟨#[]⟩, 13)).2 ≠ 0 → (if fin x = true then (s, (0 : Int)) else (⟨#[]⟩, 13)).1 = ⟨#[]⟩) := by
    intro s x h
    split
    · exact ⟨show ¬ (0 : Int) = 1 by decide, fun _ => h, fun h => absurd rfl h⟩
    · exact ⟨show ¬ (13 : Int) = 1 by decide, fun h => absurd h (show ¬ (13 : Int) = 0 by decide), fun _ => rfl⟩
  intro f
  induction f with
  | zero =>
    intro s x h1 h2
    rw [meanM]
    exact hend s x (by omega)
  | succ f ih =>
    intro s x h1 h2
    rw [meanM]
    by_cases g1 : raw ≤ s.size
    · rw [if_pos g1]; exact hend s x (by omega)
    · rw [if_neg g1]
      by_cases g2 : err x = 0
      · rw [if_neg (fun n => n g2)]
        by_cases g3 : Tok l (tok x)
        · rw [if_neg (fun n => n g3)]
          by_cases g4 : raw < s.size + (word l (tok x)).size
          · rw [if_pos g4]; exact ⟨show ¬ (12 : Int) = 1 by decide, fun h => absurd h (show ¬ (12 : Int) = 0 by decide), fun _ => rfl⟩
          · rw [if_neg g4]
            have hw := (word_size hs g3).1
            exact ih _ _ (by rw [ByteArray.size_append]; omega) (by rw [ByteArray.size_append]; omega)
        · rw [if_pos g3]; exact ⟨show ¬ (9 : Int) = 1 by decide, fun h => absurd h (show ¬ (9 : Int) = 0 by decide), fun _ => rfl⟩
      · rw [if_pos g2]; exact ⟨he x, fun h => absurd h g2, fun _ => rfl⟩
theorem getR_ok {l : List ByteArray} (hl : l.length ≤ 100) (hs : ∀ s ∈ l, 1 ≤ s.size ∧ s.size ≤ 40) (how kind raw : Int) (pay : ByteArray) (h1 : 0 ≤ how ∧ how ≤ 1) (h2 : kind = 1 ∨ kind = 2) (h3 : 1 ≤ raw ∧ raw ≤ 1024) :
    (getR l how kind raw pay).2 ≠ 1 ∧ ((getR l how kind raw pay).2 = 0 → ((getR l how kind raw pay).1.size : Int) = raw) ∧ ((getR l how kind raw pay).2 ≠ 0 → (getR l how kind raw pay).1 = ⟨#[]⟩) := by
  unfold getR
  rw [if_neg (by omega)]
  obtain ⟨n, rfl⟩ : ∃ n : Nat, raw = n := ⟨raw.toNat, by omega⟩
  rw [Int.toNat_natCast]
  have cast : ∀ r : ByteArray × Int, (r.2 ≠ 1 ∧ (r.2 = 0 → r.1.size = n) ∧ (r.2 ≠ 0 → r.1 = ⟨#[]⟩)) → (r.2 ≠ 1 ∧ (r.2 = 0 → (r.1.size : Int) = (n : Int)) ∧ (r.2 ≠ 0 → r.1 = ⟨#[]⟩)) := fun r ⟨a, b, c⟩ => ⟨a, fun h => by rw [b h], c⟩
  rcases h2 with rfl | rfl
  · rw [if_neg (by decide)]
    by_cases g : (pay.size : Int) = n
    · rw [if_neg (fun k => k g)]; exact ⟨show ¬ (0 : Int) = 1 by decide, fun _ => g, fun h => absurd rfl h⟩
    · rw [if_pos g]; exact ⟨show ¬ (12 : Int) = 1 by decide, fun h => absurd h (show ¬ (12 : Int) = 0 by decide), fun _ => rfl⟩
  · rw [if_pos rfl]
    apply cast
    unfold meantR
    by_cases g : how = 0
    · rw [if_pos g]
      unfold numR
      exact meanM_ok _ _ _ _ hs n (fun s => by rcases un_codes (u s) 0 0 with e | e | e | e <;> rw [e] <;> decide) n _ _ (Nat.zero_le _) (by show n ≤ 0 + n; omega)
    · rw [if_neg g]
      obtain ⟨hc, ho⟩ := TabB.getS_ok pay (256 + l.length) (by omega)
      change (lensOf l pay).2.2 = 0 ∨ (lensOf l pay).2.2 = 2 ∨ (lensOf l pay).2.2 = 3 at hc
      by_cases k : (lensOf l pay).2.2 = 0
      · rw [if_neg (fun n => n k)]
        obtain ⟨_, h6, _⟩ := ho k
        change TabMath.AllSixt (lensOf l pay).1 at h6
        by_cases k2 : cright (lensOf l pay).1 = 0
        · rw [if_neg (fun n => n k2)]
          unfold codR
          exact meanM_ok _ _ _ _ hs n (fun a => by rcases (nextF_ok (lensOf l pay).1 (pay.extract (lensOf l pay).2.1.toNat pay.size) a (8 * (pay.extract (lensOf l pay).2.1.toNat pay.size).size - a) (maxL (lensOf l pay).1).toNat 1).2.1 with e | e | e <;> (unfold nextT; rw [e]; decide)) n _ _ (Nat.zero_le _) (by show n ≤ 0 + n; omega)
        · rw [if_pos k2]
          refine ⟨?_, fun h => absurd h k2, fun _ => rfl⟩
          show ¬ cright (lensOf l pay).1 = 1
          unfold cright
          rw [if_neg]
          · split <;> decide
          · rw [List.any_eq_true]
            rintro ⟨x, hx, hd⟩
            have h7 := h6 x hx
            have h8 := of_decide_eq_true hd
            unfold TabMath.Sixt at h7
            unfold Out15 at h8
            omega
      · rw [if_pos k]
        exact ⟨show ¬ (lensOf l pay).2.2 = 1 by omega, fun h => absurd h k, fun _ => rfl⟩
theorem getR_raw {l : List ByteArray} (hl : l.length ≤ 100) (hs : ∀ s ∈ l, 1 ≤ s.size ∧ s.size ≤ 40) (how kind raw : Int) (pay : ByteArray) (h : (getR l how kind raw pay).2 = 0) : ((getR l how kind raw pay).1.size : Int) = raw := by
  by_cases g : (0 ≤ how ∧ how ≤ 1) ∧ (kind = 1 ∨ kind = 2) ∧ (1 ≤ raw ∧ raw ≤ 1024)
  · exact (getR_ok hl hs how kind raw pay g.1 g.2.1 g.2.2).2.1 h
  · have e : getR l how kind raw pay = (⟨#[]⟩, 1) := by unfold getR; rw [if_pos (by omega)]
    rw [e] at h
    exact absurd h (show ¬ (1 : Int) = 0 by decide)
set_option maxHeartbeats 4000000 in
set_option maxRecDepth 100000 in
theorem gets_yes {A : Option Addr} {c : Nat} (l : List ByteArray) (how kind raw : Int) (p : ByteArray) (w : World) (hr : StrsIn w A l) (hc : l.length ≤ c) (hl : l.length ≤ 140737488351232) (hsz : ∀ s ∈ l, s.size ≤ 140737488351232) (h : Given l ⟨#[]⟩) (hp : p.size ≤ 600) :
    Calls Tryz.prog 5 #[.slice A l.length c, .int .i64 how, .int .i64 kind, .int .i64 raw, .string p] w fun e w' => e = .returned (.bool true) ∧ Below w.heap.size w w' := by
  have H := Aside0.mk (dict13_yes l ⟨#[]⟩ w hr hc hl hsz h)
  obtain ⟨hl2, hs2⟩ := phrases_sizes h.2.2
  have HG := Aside0.mk (fun (W : World) (P : Value) (hd : DictN W P l) => get_any hd (how := how) (kind := kind) (raw := raw) (pay := p) hl2 hs2 (by omega))
  have HF := Aside0.mk (fun (W : World) (hb : Below w.heap.size w W) => RefG.rget_calls l hl2 hs2 how kind raw p (by omega) (Kd.C_below hr hb) hc)
  have hraw := getR_raw hl2 hs2 how kind raw p
  have d1 : decide ((600 : Int) < (p.size : Int)) = false := decide_eq_false (by omega)
  have d1' : decide (600 < p.size) = false := decide_eq_false (by omega)
  obtain ⟨S, E, hSE⟩ : ∃ S E, getR l how kind raw p = (S, E) := ⟨_, _, rfl⟩
  rw [hSE] at hraw HG HF
  clear hr hc hl hsz h hp hl2 hs2 hSE
  by_cases he : E = 0
  · have hz : ((S.size : Int) == raw) = true := beq_iff_eq.2 (hraw he)
    have hz' : (S.size : Int) = raw := hraw he
    subst he
    clear hraw
    go_enter Tryz.func5, Tryz.ntmps5
    go_wp2_with fail
    refine H.out.mono ?_
    rintro e w1 ⟨ad, rfl, hd, hb1⟩
    have HD := Aside0.mk hd
    have H1 := Aside0.mk hb1
    clear hb1 hd
    go_wp2_with fail
    refine (alive22 _).mono ?_
    rintro e w2 ⟨rfl, hb2⟩
    have HD2 := Aside0.mk (HD.out.below hb2)
    have H2 := Aside0.mk (below_step H1.out hb2)
    clear hb2
    go_wp2_with fail
    refine (HG.out _ _ HD2.out).mono ?_
    rintro e w3 ⟨rfl, hb3⟩
    have H3 := Aside0.mk (below_step H2.out hb3)
    clear hb3
    go_wp2_with fail
    refine (HF.out _ H3.out).mono ?_
    rintro e w4 ⟨rfl, hb4⟩
    have H4 := Aside0.mk (below_step H3.out hb4)
    clear hb4
    go_wp2
    go_ret
    exact ⟨rfl, H4.out⟩
  · have n2 : (E == 0) = false := beq_eq_false_iff_ne.2 he
    have n2' : ¬ E = 0 := he
    have N3 : Aside0 ((E != 0) = true) := ⟨by rw [bne, n2]; rfl⟩
    clear hraw he
    go_enter Tryz.func5, Tryz.ntmps5
    go_wp2_with fail
    refine H.out.mono ?_
    rintro e w1 ⟨ad, rfl, hd, hb1⟩
    have HD := Aside0.mk hd
    have H1 := Aside0.mk hb1
    clear hb1 hd
    go_wp2_with fail
    refine (alive22 _).mono ?_
    rintro e w2 ⟨rfl, hb2⟩
    have HD2 := Aside0.mk (HD.out.below hb2)
    have H2 := Aside0.mk (below_step H1.out hb2)
    clear hb2
    go_wp2_with fail
    refine (HG.out _ _ HD2.out).mono ?_
    rintro e w3 ⟨rfl, hb3⟩
    have H3 := Aside0.mk (below_step H2.out hb3)
    clear hb3
    go_wp2_with fail
    refine (HF.out _ H3.out).mono ?_
    rintro e w4 ⟨rfl, hb4⟩
    have H4 := Aside0.mk (below_step H3.out hb4)
    clear hb4
    go_wp2
    go_ret
    exact ⟨rfl, H4.out⟩
set_option maxHeartbeats 1000000 in
set_option maxRecDepth 100000 in
theorem gets_long {A : Option Addr} {c : Nat} (l : List ByteArray) (how kind raw : Int) (p : ByteArray) (w : World) (hr : StrsIn w A l) (hc : l.length ≤ c) (hl : l.length ≤ 140737488351232) (hsz : ∀ s ∈ l, s.size ≤ 140737488351232) (h : Given l ⟨#[]⟩) (hp : ¬ p.size ≤ 600) :
    Calls Tryz.prog 5 #[.slice A l.length c, .int .i64 how, .int .i64 kind, .int .i64 raw, .string p] w fun e w' => e = .returned (.bool true) ∧ Below w.heap.size w w' := by
  have H := Aside0.mk (dict13_yes l ⟨#[]⟩ w hr hc hl hsz h)
  have d1 : decide ((600 : Int) < (p.size : Int)) = true := decide_eq_true (by omega)
  have d1' : decide (600 < p.size) = true := decide_eq_true (by omega)
  clear hr hc hl hsz h hp
  go_enter Tryz.func5, Tryz.ntmps5
  go_wp2_with fail
  refine H.out.mono ?_
  rintro e w1 ⟨ad, rfl, hd, hb1⟩
  have H1 := Aside0.mk hb1
  clear hb1 hd
  go_wp2_with fail
  refine (alive22 _).mono ?_
  rintro e w2 ⟨rfl, hb2⟩
  have H2 := Aside0.mk (below_step H1.out hb2)
  clear hb2
  go_wp2
  go_ret
  exact ⟨rfl, H2.out⟩
set_option maxHeartbeats 1000000 in
set_option maxRecDepth 100000 in
theorem gets_no {A : Option Addr} {c : Nat} (l : List ByteArray) (how kind raw : Int) (p : ByteArray) (w : World) (hr : StrsIn w A l) (hc : l.length ≤ c) (hl : l.length ≤ 140737488351232) (hsz : ∀ s ∈ l, s.size ≤ 140737488351232) (h : ¬ Given l ⟨#[]⟩) :
    Calls Tryz.prog 5 #[.slice A l.length c, .int .i64 how, .int .i64 kind, .int .i64 raw, .string p] w fun e w' => e = .returned (.bool true) ∧ Below w.heap.size w w' := by
  have H := Aside0.mk (dict13_no l ⟨#[]⟩ w hr hc hl hsz h)
  clear hr hc hl hsz h
  go_enter Tryz.func5, Tryz.ntmps5
  go_wp2_with fail
  refine H.out.mono ?_
  rintro e w1 ⟨rfl, hb1⟩
  have H1 := Aside0.mk hb1
  clear hb1
  go_wp2_with fail
  refine (alive22 _).mono ?_
  rintro e w2 ⟨rfl, hb2⟩
  have H2 := Aside0.mk (below_step H1.out hb2)
  clear hb2
  go_wp2
  go_ret
  exact ⟨rfl, H2.out⟩
theorem blockGets_law (A : Option Addr) (c : Nat) (l : List ByteArray) (how kind raw : Int) (p : ByteArray) (w : World) (hr : StrsIn w A l) (hc : l.length ≤ c) (hl16 : l.length * 16 ≤ 140737488351232) (hsz : ∀ s ∈ l, s.size ≤ 140737488351232) (_h1 : (Lit.int .i64 how).wf = true) (_h2 : (Lit.int .i64 kind).wf = true) (_h3 : (Lit.int .i64 raw).wf = true) (_hp : p.size ≤ 140737488351232) :
    Calls Tryz.prog 5 #[.slice A l.length c, .int .i64 how, .int .i64 kind, .int .i64 raw, .string p] w fun e w' => e = .returned (.bool true) ∧ Below w.heap.size w w' := by
  by_cases h : Given l ⟨#[]⟩
  · by_cases hp : p.size ≤ 600
    · exact gets_yes l how kind raw p w hr hc (by omega) hsz h hp
    · exact gets_long l how kind raw p w hr hc (by omega) hsz h hp
  · exact gets_no l how kind raw p w hr hc (by omega) hsz h
end Go.Proofs.YtboklkfplnmabaaGreat
