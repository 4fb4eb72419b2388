/- For every way, kind, length and payload: what may not be is refused ahead of all, and what is told is just as long as was said, or nothing. -/
import Derived.Test.YtboklkfplnmabaaDecC
import Derived.Test.YtboklkfplnmabaaAlive
set_option linter.unusedVariables false
set_option linter.unusedSimpArgs false
namespace Go.Proofs.Ytboklkfplnmabaa
open Go.RowKit Go.Proofs.Ytboklkfplnmabaa.Spec Go.Proofs.YtboklkfplnmabaaW.PrintWords Go.Proofs.YtboklkfplnmabaaW.PrintLast
open Go.Proofs.YtboklkfplnmabaaW.PrintMore
attribute [local go_sem ↓] Go.wp_at_zero Go.wp_at_succ
theorem meanM_ok {σ : Type} (tok err : σ → Int) (step : σ → σ) (fin : σ → Bool) {l : List ByteArray} (hs : ∀ s ∈ l, 1 ≤ s.size ∧ s.size ≤ 40) (raw : Nat) (he : ∀ x, err x ≠ 1) : ∀ (f : Nat) (s : ByteArray) (x : σ), s.size ≤ raw → raw ≤ s.size + f →
    (meanM tok err step fin l raw f s x).2 ≠ 1 ∧ ((meanM tok err step fin l raw f s x).2 = 0 → (meanM tok err step fin l raw f s x).1.size = raw) ∧ ((meanM tok err step fin l raw f s x).2 ≠ 0 → (meanM tok err step fin l raw f s x).1 = ⟨#[]⟩) := by
  have hend : ∀ (s : ByteArray) (x : σ), s.size = raw → (if fin x = true then (s, (0 : Int)) else (⟨#[]⟩, 13)).2 ≠ 1 ∧ ((if fin x = true then (s, (0 : Int)) else (⟨#[]⟩, 13)).2 = 0 → (if fin x = true then (s, (0 : Int)) else (⟨#[]⟩, 13)).1.size = raw) ∧ ((if fin x = true then (s, (0 : Int)) else (⟨#[]⟩, 13)).2 ≠ 0 → (if fin x = true then (s, (0 : Int)) else (⟨#[]⟩, 13)).1 = ⟨#[]⟩) := by
    intro s x h
    split
    · exact ⟨show ¬ (0 : Int) = 1 by decide, fun _ => h, fun h => absurd rfl h⟩
    · exact ⟨show ¬ (13 : Int) = 1 by decide, fun h => absurd h (show ¬ (13 : Int) = 0 by decide), fun _ => rfl⟩
  intro f
  induction f with
  | zero =>
    intro s x h1 h2
    rw [meanM]
    exact hend s x (by omega)
  | succ f ih =>
    intro s x h1 h2
    rw [meanM]
    by_cases g1 : raw ≤ s.size
    · rw [if_pos g1]; exact hend s x (by omega)
    · rw [if_neg g1]
      by_cases g2 : err x = 0
      · rw [if_neg (fun n => n g2)]
        by_cases g3 : Tok l (tok x)
        · rw [if_neg (fun n => n g3)]
          by_cases g4 : raw < s.size + (word l (tok x)).size
          · rw [if_pos g4]; exact ⟨show ¬ (12 : Int) = 1 by decide, fun h => absurd h (show ¬ (12 : Int) = 0 by decide), fun _ => rfl⟩
          · rw [if_neg g4]
            have hw := (word_size hs g3).1
            exact ih _ _ (by rw [ByteArray.size_append]; omega) (by rw [ByteArray.size_append]; omega)
        · rw [if_pos g3]; exact ⟨show ¬ (9 : Int) = 1 by decide, fun h => absurd h (show ¬ (9 : Int) = 0 by decide), fun _ => rfl⟩
      · rw [if_pos g2]; exact ⟨he x, fun h => absurd h g2, fun _ => rfl⟩
theorem getR_ok {l : List ByteArray} (hl : l.length ≤ 100) (hs : ∀ s ∈ l, 1 ≤ s.size ∧ s.size ≤ 40) (how kind raw : Int) (pay : ByteArray) (h1 : 0 ≤ how ∧ how ≤ 1) (h2 : kind = 1 ∨ kind = 2) (h3 : 1 ≤ raw ∧ raw ≤ 1024) :
    (getR l how kind raw pay).2 ≠ 1 ∧ ((getR l how kind raw pay).2 = 0 → ((getR l how kind raw pay).1.size : Int) = raw) ∧ ((getR l how kind raw pay).2 ≠ 0 → (getR l how kind raw pay).1 = ⟨#[]⟩) := by
  unfold getR
  rw [if_neg (by omega)]
  obtain ⟨n, rfl⟩ : ∃ n : Nat, raw = n := ⟨raw.toNat, by omega⟩
  rw [Int.toNat_natCast]
  have cast : ∀ r : ByteArray × Int, (r.2 ≠ 1 ∧ (r.2 = 0 → r.1.size = n) ∧ (r.2 ≠ 0 → r.1 = ⟨#[]⟩)) → (r.2 ≠ 1 ∧ (r.2 = 0 → (r.1.size : Int) = (n : Int)) ∧ (r.2 ≠ 0 → r.1 = ⟨#[]⟩)) := fun r ⟨a, b, c⟩ => ⟨a, fun h => by rw [b h], c⟩
  rcases h2 with rfl | rfl
  · rw [if_neg (by decide)]
    by_cases g : (pay.size : Int) = n
    · rw [if_neg (fun k => k g)]; exact ⟨show ¬ (0 : Int) = 1 by decide, fun _ => g, fun h => absurd rfl h⟩
    · rw [if_pos g]; exact ⟨show ¬ (12 : Int) = 1 by decide, fun h => absurd h (show ¬ (12 : Int) = 0 by decide), fun _ => rfl⟩
  · rw [if_pos rfl]
    apply cast
    unfold meantR
    by_cases g : how = 0
    · rw [if_pos g]
      unfold numR
      exact meanM_ok _ _ _ _ hs n (fun s => by rcases un_codes (u s) 0 0 with e | e | e | e <;> rw [e] <;> decide) n _ _ (Nat.zero_le _) (by show n ≤ 0 + n; omega)
    · rw [if_neg g]
      obtain ⟨hc, ho⟩ := TabB.getS_ok pay (256 + l.length) (by omega)
      change (lensOf l pay).2.2 = 0 ∨ (lensOf l pay).2.2 = 2 ∨ (lensOf l pay).2.2 = 3 at hc
      by_cases k : (lensOf l pay).2.2 = 0
      · rw [if_neg (fun n => n k)]
        obtain ⟨_, h6, _⟩ := ho k
        change TabMath.AllSixt (lensOf l pay).1 at h6
        by_cases k2 : cright (lensOf l pay).1 = 0
        · rw [if_neg (fun n => n k2)]
          unfold codR
          exact meanM_ok _ _ _ _ hs n (fun a => by rcases (nextF_ok (lensOf l pay).1 (pay.extract (lensOf l pay).2.1.toNat pay.size) a (8 * (pay.extract (lensOf l pay).2.1.toNat pay.size).size - a) (maxL (lensOf l pay).1).toNat 1).2.1 with e | e | e <;> (unfold nextT; rw [e]; decide)) n _ _ (Nat.zero_le _) (by show n ≤ 0 + n; omega)
        · rw [if_pos k2]
          refine ⟨?_, fun h => absurd h k2, fun _ => rfl⟩
          show ¬ cright (lensOf l pay).1 = 1
          unfold cright
          rw [if_neg]
          · split <;> decide
          · rw [List.any_eq_true]
            rintro ⟨x, hx, hd⟩
            have h7 := h6 x hx
            have h8 := of_decide_eq_true hd
            unfold TabMath.Sixt at h7
            unfold Out15 at h8
            omega
      · rw [if_pos k]
        exact ⟨show ¬ (lensOf l pay).2.2 = 1 by omega, fun h => absurd h k, fun _ => rfl⟩
set_option maxHeartbeats 4000000 in
set_option maxRecDepth 100000 in
theorem kinds_good (code kind raw : Int) (p : ByteArray) (w : World) (hp : p.size ≤ 300) (h1 : 0 ≤ code ∧ code ≤ 1) (h2 : kind = 1 ∨ kind = 2) (h3 : 1 ≤ raw ∧ raw ≤ 1024) :
    Calls Try.prog 5 #[.int .i64 code, .int .i64 kind, .int .i64 raw, .string p] w fun e w' => e = .returned (.bool true) ∧ Below w.heap.size w w' := by
  obtain ⟨g1, g2, g3⟩ := getR_ok (l := []) (Nat.zero_le _) (fun s hs => by cases hs) code kind raw p h1 h2 h3
  have HG := Aside0.mk (fun (W : World) => get_any (DictN.nil W) (how := code) (kind := kind) (raw := raw) (pay := p) (Nat.zero_le _) (fun s hs => by cases hs) (by omega))
  have d1 : decide ((300 : Int) < (p.size : Int)) = false := decide_eq_false (by omega)
  have d1' : decide (300 < p.size) = false := decide_eq_false (by omega)
  have d2 : decide (raw < 1) = false := decide_eq_false (by omega)
  have d3 : decide ((1024 : Int) < raw) = false := decide_eq_false (by omega)
  obtain ⟨S, E, hSE⟩ : ∃ S E, getR [] code kind raw p = (S, E) := ⟨_, _, rfl⟩
  rw [hSE] at g1 g2 g3 HG
  have n1 : (E == 1) = false := beq_eq_false_iff_ne.2 g1
  have n1' : ¬ E = 1 := g1
  have hc2 : code = 0 ∨ code = 1 := by omega
  clear hp h1 h3 hSE
  by_cases he : E = 0
  · have hz : ((S.size : Int) == raw) = true := beq_iff_eq.2 (g2 he)
    have hz' : (S.size : Int) = raw := g2 he
    subst he
    clear g1 g2 g3 n1 n1'
    rcases hc2 with rfl | rfl <;> rcases h2 with rfl | rfl
    all_goals
      go_enter Try.func5, Try.ntmps5
      go_wp2_with fail
      refine (alive22 _).mono ?_
      rintro e w1 ⟨rfl, hb1⟩
      have H1 := Aside0.mk hb1
      clear hb1
      go_wp2_with fail
      refine (HG.out _).mono ?_
      rintro e w2 ⟨rfl, hb2⟩
      have H2 := Aside0.mk (below_step H1.out hb2)
      clear hb2
      go_wp2
      go_ret
      exact ⟨rfl, H2.out⟩
  · have hS : S = ⟨#[]⟩ := g3 he
    subst hS
    have n2 : (E == 0) = false := beq_eq_false_iff_ne.2 he
    have n2' : ¬ E = 0 := he
    have N3 : Aside0 ((E != 1) = true) := ⟨by rw [bne, n1]; rfl⟩
    clear g1 g2 g3 he
    rcases hc2 with rfl | rfl <;> rcases h2 with rfl | rfl
    all_goals
      go_enter Try.func5, Try.ntmps5
      go_wp2_with fail
      refine (alive22 _).mono ?_
      rintro e w1 ⟨rfl, hb1⟩
      have H1 := Aside0.mk hb1
      clear hb1
      go_wp2_with fail
      refine (HG.out _).mono ?_
      rintro e w2 ⟨rfl, hb2⟩
      have H2 := Aside0.mk (below_step H1.out hb2)
      clear hb2
      go_wp2
      go_ret
      refine ⟨?_, H2.out⟩
      show Ending.returned (.bool (E != 1)) = _
      rw [N3.out]
set_option maxHeartbeats 4000000 in
set_option maxRecDepth 100000 in
theorem kinds_bad (code kind raw : Int) (p : ByteArray) (w : World) (hp : p.size ≤ 300) (h : ¬ ((0 ≤ code ∧ code ≤ 1) ∧ (kind = 1 ∨ kind = 2) ∧ (1 ≤ raw ∧ raw ≤ 1024))) :
    Calls Try.prog 5 #[.int .i64 code, .int .i64 kind, .int .i64 raw, .string p] w fun e w' => e = .returned (.bool true) ∧ Below w.heap.size w w' := by
  have HG := Aside0.mk (fun (W : World) => get_any (DictN.nil W) (how := code) (kind := kind) (raw := raw) (pay := p) (Nat.zero_le _) (fun s hs => by cases hs) (by omega))
  have hg : getR [] code kind raw p = (⟨#[]⟩, 1) := by unfold getR; rw [if_pos (by omega)]
  rw [hg] at HG
  have d1 : decide ((300 : Int) < (p.size : Int)) = false := decide_eq_false (by omega)
  have d1' : decide (300 < p.size) = false := decide_eq_false (by omega)
  clear hg hp
  by_cases h1 : code = 0 ∨ code = 1
  · by_cases h2 : kind = 1 ∨ kind = 2
    · by_cases h3 : 1 ≤ raw
      · have d2 : decide (raw < 1) = false := decide_eq_false (by omega)
        have d3 : decide ((1024 : Int) < raw) = true := decide_eq_true (by omega)
        clear h h3
        rcases h1 with rfl | rfl <;> rcases h2 with rfl | rfl
        all_goals
          go_enter Try.func5, Try.ntmps5
          go_wp2_with fail
          refine (alive22 _).mono ?_
          rintro e w1 ⟨rfl, hb1⟩
          have H1 := Aside0.mk hb1
          clear hb1
          go_wp2_with fail
          refine (HG.out _).mono ?_
          rintro e w2 ⟨rfl, hb2⟩
          have H2 := Aside0.mk (below_step H1.out hb2)
          clear hb2
          go_wp2
          go_ret
          exact ⟨rfl, H2.out⟩
      · have d2 : decide (raw < 1) = true := decide_eq_true (by omega)
        clear h h3
        rcases h1 with rfl | rfl <;> rcases h2 with rfl | rfl
        all_goals
          go_enter Try.func5, Try.ntmps5
          go_wp2_with fail
          refine (alive22 _).mono ?_
          rintro e w1 ⟨rfl, hb1⟩
          have H1 := Aside0.mk hb1
          clear hb1
          go_wp2_with fail
          refine (HG.out _).mono ?_
          rintro e w2 ⟨rfl, hb2⟩
          have H2 := Aside0.mk (below_step H1.out hb2)
          clear hb2
          go_wp2
          go_ret
          exact ⟨rfl, H2.out⟩
    · have k1 : (kind == 1) = false := beq_eq_false_iff_ne.2 (by omega)
      have k2 : (kind == 2) = false := beq_eq_false_iff_ne.2 (by omega)
      have k3 : ¬ kind = 1 := by omega
      have k4 : ¬ kind = 2 := by omega
      clear h h2
      rcases h1 with rfl | rfl
      all_goals
        go_enter Try.func5, Try.ntmps5
        go_wp2_with fail
        refine (alive22 _).mono ?_
        rintro e w1 ⟨rfl, hb1⟩
        have H1 := Aside0.mk hb1
        clear hb1
        go_wp2_with fail
        refine (HG.out _).mono ?_
        rintro e w2 ⟨rfl, hb2⟩
        have H2 := Aside0.mk (below_step H1.out hb2)
        clear hb2
        go_wp2
        go_ret
        exact ⟨rfl, H2.out⟩
  · have k1 : (code == 0) = false := beq_eq_false_iff_ne.2 (by omega)
    have k2 : (code == 1) = false := beq_eq_false_iff_ne.2 (by omega)
    have k3 : ¬ code = 0 := by omega
    have k4 : ¬ code = 1 := by omega
    clear h h1
    go_enter Try.func5, Try.ntmps5
    go_wp2_with fail
    refine (alive22 _).mono ?_
    rintro e w1 ⟨rfl, hb1⟩
    have H1 := Aside0.mk hb1
    clear hb1
    go_wp2_with fail
    refine (HG.out _).mono ?_
    rintro e w2 ⟨rfl, hb2⟩
    have H2 := Aside0.mk (below_step H1.out hb2)
    clear hb2
    go_wp2
    go_ret
    exact ⟨rfl, H2.out⟩
set_option maxHeartbeats 1000000 in
set_option maxRecDepth 100000 in
theorem blockKinds_law (code kind raw : Int) (p : ByteArray) (w : World) (_h1 : (Lit.int .i64 code).wf = true) (_h2 : (Lit.int .i64 kind).wf = true) (_h3 : (Lit.int .i64 raw).wf = true) (_hp : p.size ≤ 140737488351232) :
    Calls Try.prog 5 #[.int .i64 code, .int .i64 kind, .int .i64 raw, .string p] w fun e w' => e = .returned (.bool true) ∧ Below w.heap.size w w' := by
  by_cases hp : p.size ≤ 300
  · by_cases h : (0 ≤ code ∧ code ≤ 1) ∧ (kind = 1 ∨ kind = 2) ∧ (1 ≤ raw ∧ raw ≤ 1024)
    · exact kinds_good code kind raw p w hp h.1 h.2.1 h.2.2
    · exact kinds_bad code kind raw p w hp h
  · have d1 : decide ((300 : Int) < (p.size : Int)) = true := decide_eq_true (by omega)
    have d1' : decide (300 < p.size) = true := decide_eq_true (by omega)
    clear hp
    go_enter Try.func5, Try.ntmps5
    go_wp2_with fail
    refine (alive22 _).mono ?_
    rintro e w1 ⟨rfl, hb1⟩
    have H1 := Aside0.mk hb1
    clear hb1
    go_wp2_with fail
    go_ret
    exact ⟨rfl, H1.out⟩
end Go.Proofs.Ytboklkfplnmabaa
