/- Contracts: the phrases of bytes, the dictionary of bytes. -/
import Derived.Test.YtbnoeoghhbhhcaaDictD
set_option linter.unusedVariables false
set_option linter.unusedSimpArgs false
namespace Go.Proofs.Ytbnoeoghhbhhcaa
open Go.RowKit Go.Proofs.Ytbnoeoghhbhhcaa.Spec Go.Proofs.YtbnoeoghhbhhcaaW.PrintWords Go.Proofs.YtbnoeoghhbhhcaaW.PrintLast
open Go.Proofs.YtbnoeoghhbhhcaaW.PrintMore
theorem u_extract (b : ByteArray) (i j : Nat) : u (b.extract i j) = ((u b).drop i).take (j - i) := by
  unfold u
  rw [ByteArray.data_extract, Array.toList_extract, List.extract_eq_take_drop]
theorem u_from (b : ByteArray) (i : Nat) : u (b.extract i b.size) = (u b).drop i := by
  rw [u_extract, List.take_of_length_le (by rw [List.length_drop, u_size]; omega)]
def PhrR (w : World) (b : ByteArray) (e : Ending) (w' : World) : Prop := Below w.heap.size w w' ∧
  (((split (u b)).2.1 = 0 ∧ ∃ v, e = .returned (.tuple #[v, .nilIface]) ∧ StrsAt w' w.heap.size v (split (u b)).1) ∨
   ((split (u b)).2.1 ≠ 0 ∧ e = .returned (.tuple #[.slice none 0 0, .iface 33 (.agg #[.int .i64 (split (u b)).2.1, .int .i64 (split (u b)).2.2])])))
def Rest (b : ByteArray) (n k0 k at_ : Nat) (done : List ByteArray) : Prop :=
  take n k0 ((u b).drop k0) = if (take (n - k) at_ ((u b).drop at_)).2.2 = 0 then (done ++ (take (n - k) at_ ((u b).drop at_)).1, (take (n - k) at_ ((u b).drop at_)).2.1, 0) else take (n - k) at_ ((u b).drop at_)
theorem rest_start (b : ByteArray) (n k0 : Nat) : Rest b n k0 0 k0 [] := by
  unfold Rest
  rw [Nat.sub_zero]
  split
  · rename_i h; rw [List.nil_append]; rw [← h]
  · rfl
theorem rest_err {b : ByteArray} {n k0 k at_ : Nat} {done : List ByteArray} (h : Rest b n k0 k at_ done) (hk : k < n) (he : (un 0 0 ((u b).drop at_)).2.2 ≠ 0) : take n k0 ((u b).drop k0) = ([], at_, (un 0 0 ((u b).drop at_)).2.2) := by
  unfold Rest at h
  obtain ⟨j, hj⟩ : ∃ j, n - k = j + 1 := ⟨n - k - 1, by omega⟩
  have e : take (n - k) at_ ((u b).drop at_) = ([], at_, (un 0 0 ((u b).drop at_)).2.2) := by rw [hj, take_succ, if_pos he]
  rw [e, if_neg he] at h
  exact h
theorem rest_long {b : ByteArray} {n k0 k at_ : Nat} {done : List ByteArray} (h : Rest b n k0 k at_ done) (hk : k < n) (he : (un 0 0 ((u b).drop at_)).2.2 = 0) (hl : (((u b).drop at_).drop (un 0 0 ((u b).drop at_)).2.1).length < (un 0 0 ((u b).drop at_)).1) :
    take n k0 ((u b).drop k0) = ([], at_ + (un 0 0 ((u b).drop at_)).2.1, 2) := by
  unfold Rest at h
  obtain ⟨j, hj⟩ : ∃ j, n - k = j + 1 := ⟨n - k - 1, by omega⟩
  have e : take (n - k) at_ ((u b).drop at_) = ([], at_ + (un 0 0 ((u b).drop at_)).2.1, 2) := by rw [hj, take_succ, if_neg (show ¬ (un 0 0 ((u b).drop at_)).2.2 ≠ 0 by omega), if_pos hl]
  rw [e, if_neg (by simp)] at h
  exact h
theorem rest_next {b : ByteArray} {n k0 k at_ : Nat} {done : List ByteArray} (h : Rest b n k0 k at_ done) (hk : k < n) (he : (un 0 0 ((u b).drop at_)).2.2 = 0) (hl : ¬ (((u b).drop at_).drop (un 0 0 ((u b).drop at_)).2.1).length < (un 0 0 ((u b).drop at_)).1) :
    Rest b n k0 (k + 1) (at_ + (un 0 0 ((u b).drop at_)).2.1 + (un 0 0 ((u b).drop at_)).1) (done ++ [b.extract (at_ + (un 0 0 ((u b).drop at_)).2.1) (at_ + (un 0 0 ((u b).drop at_)).2.1 + (un 0 0 ((u b).drop at_)).1)]) := by
  unfold Rest at h ⊢
  obtain ⟨j, hj⟩ : ∃ j, n - k = j + 1 := ⟨n - k - 1, by omega⟩
  have hj2 : n - (k + 1) = j := by omega
  have e := take_succ j at_ ((u b).drop at_)
  rw [if_neg (show ¬ (un 0 0 ((u b).drop at_)).2.2 ≠ 0 by omega), if_neg hl] at e
  rw [hj] at h
  rw [hj2]
  generalize (un 0 0 ((u b).drop at_)).2.1 = q at *
  generalize (un 0 0 ((u b).drop at_)).1 = m at *
  have e1 : ((u b).drop at_).drop q = (u b).drop (at_ + q) := by rw [List.drop_drop]
  have e2 : ((u b).drop (at_ + q)).drop m = (u b).drop (at_ + q + m) := by rw [List.drop_drop]
  have e3 : str (((u b).drop (at_ + q)).take m) = b.extract (at_ + q) (at_ + q + m) := by
    apply u_inj
    rw [u_str, u_extract, Nat.add_sub_cancel_left]
  rw [e1, e2, e3] at e
  by_cases hz : (take j (at_ + q + m) ((u b).drop (at_ + q + m))).2.2 = 0
  · rw [if_pos hz] at e ⊢
    rw [e, if_pos rfl] at h
    rw [h, List.append_assoc]; rfl
  · rw [if_neg hz] at e ⊢
    rw [e, if_neg hz] at h
    exact h
theorem rest_end {b : ByteArray} {n k0 at_ : Nat} {done : List ByteArray} (h : Rest b n k0 n at_ done) : take n k0 ((u b).drop k0) = (done, at_, 0) := by
  unfold Rest at h
  rw [Nat.sub_self, take_zero, if_pos rfl, List.append_nil] at h
  exact h
theorem append_strL {P : Program} {ops : Array Oper} {o : Oper} {rest : List Oper} {a : Act} {Q : Exit → Act → World → Prop} {w0 W : World} (base : Nat) (hg : o.guard = none) (s x : Operand) (t e : TypeId)
    (ho : o.op = .call { callee := .builtin .append, args := #[s, x], argTypes := #[t, t] })
    (ht : P.underlying t = some (.slice e)) (hinfo : (P.info? e).map (fun i => (i.zero, i.size, i.bytes)) = some (some (.string ⟨#[]⟩), 1, 16))
    (v : Value) (xs : List ByteArray) (p : ByteArray) (hs : a.eval s = v) (hx : a.eval x = .slice (some ⟨W.heap.size, 0, none⟩) 1 1)
    (HO : Kd.R Kd.string e W base (fun _ => True) v xs) (HB : Below base w0 W) (hbase : base ≤ W.heap.size) (hl : (xs.length + 1) * 16 ≤ 140737488355328)
    (h : ∀ v1 w1, Kd.R Kd.string e w1 base (fun _ => True) v1 (xs ++ [p]) → Below base w0 w1 → W.grownBy w1 v.ownBlock → (v1.ownBlock = v.ownBlock ∨ ∃ b, v1.ownBlock = some b ∧ W.heap.size ≤ b) → wpList P ops Q rest (a.put o.dst v1) w1) :
    wpList P ops Q (o :: rest) a (W.alloc (.cells #[.string p] e)) :=
  Kd.R_append Kd.string base hg s x t e _ 16 ho ht hinfo rfl (by decide) (by decide) v xs p [.string p] (fun _ => True) (fun _ => False) hs hx rfl (fun _ h => h.elim) (fun _ _ => trivial) HO HB hbase hl h
set_option maxHeartbeats 2000000 in
set_option maxRecDepth 100000 in
theorem phr_calls (b : ByteArray) (hb : b.size ≤ 1000000) (w : World) : Calls Try.prog 46 #[.string b] w (PhrR w b) := by
  have hgb : b.size ≤ 140737488351232 := by omega
  by_cases he : (un 0 0 (u b)).2.2 = 0
  · obtain ⟨n, hn⟩ : ∃ n, (un 0 0 (u b)).1 = n := ⟨_, rfl⟩
    obtain ⟨k0, hk⟩ : ∃ n, (un 0 0 (u b)).2.1 = n := ⟨_, rfl⟩
    obtain ⟨q, q1, q2, q3, q4, _, q6⟩ := un_once (u b) 0 0 (by omega) he
    rw [hk, u_size] at q4
    rw [hn] at q1
    simp only [Nat.pow_zero, Nat.mul_one, Nat.zero_add] at q1 q6
    have hk0 : k0 ≤ b.size := by omega
    have hn2 : n < 4294967296 := by omega
    clear q1 q2 q3 q4 q6
    have HG := Aside0.mk (vget_calls b hgb w)
    rw [hn, hk, he] at HG
    have hsp : split (u b) = if (take n k0 ((u b).drop k0)).2.2 ≠ 0 then ([], (take n k0 ((u b).drop k0)).2.2, (take n k0 ((u b).drop k0)).2.1) else if (take n k0 ((u b).drop k0)).2.1 < b.size then ([], 13, (take n k0 ((u b).drop k0)).2.1) else ((take n k0 ((u b).drop k0)).1, 0, 0) := by
      unfold split
      rw [if_neg (by omega), hn, hk, u_size]
    have HSP := Aside0.mk hsp
    clear hsp he hn hk
    go_enter Try.func46, Try.ntmps46
    go_wp2_with fail
    refine HG.out.mono ?_
    rintro e w1 ⟨rfl, hd⟩
    have H1 := Aside0.mk hd.below
    clear hd HG
    go_wp2_with fail
    go_loopw [5, 7, 22] (fun v5 v7 v22 wr => ∃ (k at_ : Nat) (done : List ByteArray), v5 = .int .i64 at_ ∧ v22 = .int .i64 k ∧ k ≤ n ∧ at_ ≤ b.size ∧ done.length ≤ at_ ∧ Aside0 (Rest b n k0 k at_ done) ∧ Aside0 (StrsAt wr w.heap.size v7 done) ∧ Aside0 (Below w.heap.size w wr)) (fun _ _ v22 _ => n - (intOf v22).toNat)
    case atStart => exact ⟨0, k0, [], rfl, rfl, by omega, hk0, by simp, ⟨rest_start b n k0⟩, ⟨Kd.R_nil _ _ _ _ _⟩, H1⟩
    case round =>
      obtain ⟨k, at_, done, rfl, rfl, hkn, hat, hdl, HRest, HV, HB⟩ := hrel
      obtain ⟨A7, c7, rfl, _, _⟩ := Kd.R_reads HV.out
      by_cases hlt : k < n
      · have hxu := u_from b at_
        have p1 : (0 : Int) ≤ (at_ : Int) := by omega
        have p2 : (at_ : Int) ≤ (b.size : Int) := by omega
        have hG := vget_calls (b.extract at_ b.size) (by rw [← u_size, hxu, List.length_drop, u_size]; omega) wr
        rw [hxu] at hG
        by_cases he2 : (un 0 0 ((u b).drop at_)).2.2 = 0
        · obtain ⟨q, q1, q2, q3, q4, _, q6⟩ := un_once ((u b).drop at_) 0 0 (by omega) he2
          rw [List.length_drop, u_size] at q4
          simp only [Nat.pow_zero, Nat.mul_one, Nat.zero_add] at q1 q6
          have hll : (((u b).drop at_).drop (un 0 0 ((u b).drop at_)).2.1).length = b.size - at_ - (un 0 0 ((u b).drop at_)).2.1 := by rw [List.length_drop, List.length_drop, u_size]
          have hR1 := rest_long HRest.out hlt he2
          have hR2 := rest_next HRest.out hlt he2
          rw [hll] at hR1 hR2
          rw [he2] at hG
          generalize hj : (un 0 0 ((u b).drop at_)).2.1 = j at *
          generalize hm : (un 0 0 ((u b).drop at_)).1 = m at *
          have hm2 : m < 4294967296 := by omega
          have HG2 := Aside0.mk hG
          have HR1 := Aside0.mk hR1
          have HR2 := Aside0.mk hR2
          have hjb : at_ + j ≤ b.size := by omega
          clear q1 q2 q4 q6 hll hR1 hR2 hG hxu he2 hj hm
          go_wp2_with fail
          refine HG2.out.mono ?_
          rintro e w2 ⟨rfl, hd2⟩
          have H2 := Aside0.mk (below_step HB.out hd2.below)
          have HV2 := Aside0.mk (Kd.R_below HV.out hd2.below)
          clear hd2 HG2
          by_cases hlong : b.size - at_ - j < m
          · have hlb : decide ((b.size : Int) - ((at_ : Int) + (j : Int)) < (m : Int)) = true := decide_eq_true (by omega)
            have HS := Aside0.mk (HR1.out hlong)
            go_wp2_with (go_at_call 38; refine (fnew_some _ _ (by decide) _).mono ?_; rintro e w' ⟨rfl, rfl⟩)
            go_ret2
            have hsp : split (u b) = ([], 2, at_ + j) := by rw [HSP.out, HS.out]; simp only; rw [if_pos (by simp)]
            exact ⟨H2.out, Or.inr ⟨by rw [hsp]; simp, by rw [hsp]; simp⟩⟩
          · have hlb : decide ((b.size : Int) - ((at_ : Int) + (j : Int)) < (m : Int)) = false := decide_eq_false (by omega)
            have HS := Aside0.mk (HR2.out hlong)
            have s1 : (0 : Int) ≤ (at_ : Int) + (j : Int) := by omega
            have s2 : (at_ : Int) + (j : Int) ≤ (at_ : Int) + (j : Int) + (m : Int) := by omega
            have s3 : (at_ : Int) + (j : Int) + (m : Int) ≤ (b.size : Int) := by omega
            have hcapb : (done.length + 1) * 16 ≤ 140737488355328 := by omega
            go_wp2_with (at_builtin; refine append_strL w.heap.size rfl (.tmp 48) (.tmp 55) 23 9 rfl Try.underlying23 Leaf.info9 (.slice A7 done.length c7) done (b.extract (at_ + j) (at_ + j + m)) rfl rfl HV2.out H2.out H2.out.size hcapb ?_; intro v1 w3 hrow hbelow hgrow hat2; obtain ⟨A1, c1, rfl, _, _⟩ := Kd.R_reads hrow; have HROW := Aside0.mk hrow; have HB3 := Aside0.mk hbelow; clear hrow hbelow hgrow hat2)
            go_roundw
            case rel =>
              have hl1 : (done ++ [b.extract (at_ + j) (at_ + j + m)]).length = done.length + 1 := by simp
              refine ⟨k + 1, at_ + j + m, done ++ [b.extract (at_ + j) (at_ + j + m)], by go_num, by go_num, by omega, by omega, by rw [hl1]; omega, HS, ⟨?_⟩, HB3⟩
              have := HROW.out
              rw [hl1] at this
              exact this
            case measure => simp [intOf]; omega
        · have hs := rest_err HRest.out hlt he2
          have HS := Aside0.mk hs
          have HE := Aside0.mk he2
          generalize hcd : (un 0 0 ((u b).drop at_)).2.2 = cd at *
          have hcb : ((cd : Int) != (0 : Int)) = true := by rw [bne_iff_ne]; have := HE.out; omega
          have HG2 := Aside0.mk hG
          clear hxu hG he2 hs hcd
          go_wp2_with fail
          refine HG2.out.mono ?_
          rintro e w2 ⟨rfl, hd2⟩
          have H2 := Aside0.mk (below_step HB.out hd2.below)
          clear hd2
          go_wp2_with (go_at_call 38; refine (fnew_some _ _ (by have := HE.out; omega) _).mono ?_; rintro e w' ⟨rfl, rfl⟩)
          go_ret2
          have hsp : split (u b) = ([], cd, at_) := by rw [HSP.out, HS.out]; simp only; rw [if_pos HE.out]
          exact ⟨H2.out, Or.inr ⟨by rw [hsp]; exact HE.out, by rw [hsp]; rfl⟩⟩
      · have hkk : k = n := by omega
        subst hkk
        have hs := rest_end HRest.out
        have HS := Aside0.mk hs
        clear hs
        by_cases hq : at_ < b.size
        · have hqb : decide ((at_ : Int) < (b.size : Int)) = true := decide_eq_true (by omega)
          go_wp2_with (go_at_call 38; refine (fnew_some _ _ (by decide) _).mono ?_; rintro e w' ⟨rfl, rfl⟩)
          go_ret2
          have hsp : split (u b) = ([], 13, at_) := by rw [HSP.out, HS.out]; simp only; rw [if_neg (by simp), if_pos hq]
          exact ⟨HB.out, Or.inr ⟨by rw [hsp]; simp, by rw [hsp]; rfl⟩⟩
        · have hqb : decide ((at_ : Int) < (b.size : Int)) = false := decide_eq_false (by omega)
          go_wp2
          go_ret2
          have hsp : split (u b) = (done, 0, 0) := by rw [HSP.out, HS.out]; simp only; rw [if_neg (by simp), if_neg hq]
          exact ⟨HB.out, Or.inl ⟨by rw [hsp], _, rfl, by rw [hsp]; exact HV.out⟩⟩
  · have HG := Aside0.mk (vget_calls b hgb w)
    have hsp : split (u b) = ([], (un 0 0 (u b)).2.2, 0) := by unfold split; rw [if_pos he]
    have HSP := Aside0.mk hsp
    clear hsp
    have he' : (((un 0 0 (u b)).2.2 : Int) != (0 : Int)) = true := by rw [bne_iff_ne]; omega
    generalize hcode : (un 0 0 (u b)).2.2 = cd at *
    have HE := Aside0.mk he
    clear he hcode
    go_enter Try.func46, Try.ntmps46
    go_wp2_with (first | (go_at_call 74; refine HG.out.mono ?_; rintro e w1 ⟨rfl, ⟨nd, rfl⟩⟩) | (go_at_call 38; refine (fnew_some _ _ (by have := HE.out; omega) _).mono ?_; rintro e w' ⟨rfl, rfl⟩))
    go_ret2
    refine ⟨pw_below_drewN (Below.refl _ _) _, Or.inr ⟨by rw [HSP.out]; exact HE.out, by rw [HSP.out]; rfl⟩⟩

theorem phr_yes (b : ByteArray) (hb : b.size ≤ 1000000) (w : World) (h : (split (u b)).2.1 = 0) : Calls Try.prog 46 #[.string b] w fun e w' => ∃ A c, e = .returned (.tuple #[.slice A (split (u b)).1.length c, .nilIface]) ∧ Aside0 (StrsAt w' w.heap.size (.slice A (split (u b)).1.length c) (split (u b)).1) ∧ Below w.heap.size w w' := by
  refine (phr_calls b hb w).mono ?_
  rintro e w' ⟨hbl, h1 | h1⟩
  · obtain ⟨_, v, rfl, hv⟩ := h1
    obtain ⟨A, c, rfl, _, _⟩ := Kd.R_reads hv
    exact ⟨A, c, rfl, ⟨hv⟩, hbl⟩
  · exact absurd h h1.1
theorem phr_no (b : ByteArray) (hb : b.size ≤ 1000000) (w : World) (h : (split (u b)).2.1 ≠ 0) : Calls Try.prog 46 #[.string b] w fun e w' => e = .returned (.tuple #[.slice none 0 0, .iface 33 (.agg #[.int .i64 (split (u b)).2.1, .int .i64 (split (u b)).2.2])]) ∧ Below w.heap.size w w' := by
  refine (phr_calls b hb w).mono ?_
  rintro e w' ⟨hbl, h1 | h1⟩
  · exact absurd h1.1 h
  · exact ⟨h1.2, hbl⟩
set_option maxHeartbeats 1000000 in
theorem load_yes (b : ByteArray) (hb : b.size ≤ 1000000) (w : World) (h : (Spec.load (u b)).2.1 = 0) : Calls Try.prog 24 #[.string b] w fun e w' => ∃ ad, e = .returned (.tuple #[.pointer (some ad), .nilIface]) ∧ Aside0 (DictAt w' (.pointer (some ad)) (Spec.load (u b)).1) ∧ Below w.heap.size w w' := by
  have h1 : (split (u b)).2.1 = 0 := by
    unfold Spec.load at h
    by_cases h1 : (split (u b)).2.1 = 0
    · exact h1
    · rw [if_pos h1] at h; exact absurd h h1
  have h2 : (phrases (split (u b)).1).1 = 0 := by
    unfold Spec.load at h
    rw [if_neg (by omega)] at h
    by_cases h2 : (phrases (split (u b)).1).1 = 0
    · exact h2
    · rw [if_pos h2] at h; exact absurd h h2
  have h3 : Spec.load (u b) = split (u b) := by unfold Spec.load; rw [if_neg (by omega), if_neg (by omega)]
  have h4 := (split_once h1).2.2.2
  have HP := Aside0.mk (phr_yes b hb w h1)
  rw [h3]
  have H2 := Aside0.mk h2
  have H4 := Aside0.mk h4
  generalize (split (u b)).1 = l at *
  clear h h1 h2 h3 h4
  go_enter Try.func24, Try.ntmps24
  go_wp2_with fail
  refine HP.out.mono ?_
  rintro e w1 ⟨A, c, rfl, HV, hb1⟩
  have H1 := Aside0.mk hb1
  clear hb1 HP
  go_wp2_with fail
  refine (new_yes l _ (Kd.R_reads' HV.out).2.2 (Kd.R_reads' HV.out).2.1 (fun s hs => by have := H4.out s hs; omega) H2.out).mono ?_
  rintro e w2 ⟨ad, rfl, hd, hb2⟩
  have HD := Aside0.mk hd
  clear hd
  go_wp2
  go_ret2
  exact ⟨ad, rfl, HD, below_step H1.out hb2⟩
set_option maxHeartbeats 1000000 in
theorem load_no (b : ByteArray) (hb : b.size ≤ 1000000) (w : World) (h : (Spec.load (u b)).2.1 ≠ 0) : Calls Try.prog 24 #[.string b] w fun e w' => e = .returned (.tuple #[.pointer none, .iface 33 (.agg #[.int .i64 (Spec.load (u b)).2.1, .int .i64 (Spec.load (u b)).2.2])]) ∧ Below w.heap.size w w' := by
  by_cases h1 : (split (u b)).2.1 = 0
  · have h2 : (phrases (split (u b)).1).1 ≠ 0 := by
      intro h2
      unfold Spec.load at h
      rw [if_neg (by omega), if_neg (by omega)] at h
      exact h h1
    have h3 : Spec.load (u b) = ([], (phrases (split (u b)).1).1, (phrases (split (u b)).1).2) := by unfold Spec.load; rw [if_neg (by omega), if_pos h2]
    have h4 := (split_once h1).2.2.2
    have HP := Aside0.mk (phr_yes b hb w h1)
    rw [h3]
    have H2 := Aside0.mk h2
    have H4 := Aside0.mk h4
    generalize (split (u b)).1 = l at *
    clear h h1 h2 h3 h4
    go_enter Try.func24, Try.ntmps24
    go_wp2_with fail
    refine HP.out.mono ?_
    rintro e w1 ⟨A, c, rfl, HV, hb1⟩
    have H1 := Aside0.mk hb1
    clear hb1 HP
    go_wp2_with fail
    refine (new_no l _ (Kd.R_reads' HV.out).2.2 (Kd.R_reads' HV.out).2.1 (fun s hs => by have := H4.out s hs; omega) H2.out).mono ?_
    rintro e w2 ⟨rfl, hb2⟩
    go_wp2
    go_ret2
    exact ⟨rfl, below_step H1.out hb2⟩
  · have h3 : Spec.load (u b) = split (u b) := by unfold Spec.load; rw [if_pos h1]
    have HP := Aside0.mk (phr_no b hb w h1)
    rw [h3]
    clear h h1 h3
    go_enter Try.func24, Try.ntmps24
    go_wp2_with (go_at_call 46; refine HP.out.mono ?_; rintro e w1 ⟨rfl, hb1⟩)
    go_ret2
    exact ⟨rfl, hb1⟩
end Go.Proofs.Ytbnoeoghhbhhcaa
