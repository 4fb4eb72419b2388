/- DictBounds: as many phrases, as long ones, as many bytes as may be, and no more. -/
import Derived.Test.YtbnoeoghhbhhcaaDictH
import Derived.Deep.RegionHeld3
import Derived.Deep.Cut
import Derived.Deep.DeepMust
set_option linter.unusedVariables false
set_option linter.unusedSimpArgs false
namespace Go.Proofs.Ytbnoeoghhbhhcaa
open Go.RowKit Go.Proofs.Ytbnoeoghhbhhcaa.Spec Go.Proofs.YtbnoeoghhbhhcaaW.PrintWords Go.Proofs.YtbnoeoghhbhhcaaW.PrintLast
open Go.Proofs.YtbnoeoghhbhhcaaW.PrintMore
/-! ### many phrases of one size, each of its own -/
def row (k size : Nat) : List Int := ((List.replicate size (0 : Int)).set 0 (k : Int)).set 1 0
def ph (size k : Nat) : ByteArray := strOfNums (row k size)
def bl (size n : Nat) : List ByteArray := (List.range n).map (ph size)
theorem row_len (k size : Nat) : (row k size).length = size := by unfold row; simp
theorem ph_size (size k : Nat) : (ph size k).size = size := by
  unfold ph
  have := row_len k size
  simp [strOfNums, ByteArray.size, this]
theorem bl_len (size n : Nat) : (bl size n).length = n := by unfold bl; simp
theorem bl_succ (size n : Nat) : bl size (n + 1) = bl size n ++ [ph size n] := by unfold bl; rw [List.range_succ, List.map_append]; rfl
theorem ph_inj {size k j : Nat} (h2 : 2 ≤ size) (hk : k < 256) (hj : j < 256) (h : ph size k = ph size j) : k = j := by
  obtain ⟨m, rfl⟩ : ∃ m, size = m + 2 := ⟨size - 2, by omega⟩
  unfold ph row at h
  simp [List.replicate_succ, strOfNums] at h
  have := congrArg UInt8.toNat h
  rw [toNat_of hk, toNat_of hj] at this
  exact this
theorem bl_not {size n : Nat} (h2 : 2 ≤ size) (hn : n < 256) : ph size n ∉ bl size n := by
  intro h
  obtain ⟨j, hj, e⟩ := List.mem_map.1 h
  have := List.mem_range.1 hj
  have := ph_inj h2 (by omega) hn e
  omega
theorem bl_small {size n : Nat} : ∀ s ∈ bl size n, s.size = size := by
  intro s hs
  obtain ⟨j, _, rfl⟩ := List.mem_map.1 hs
  exact ph_size size j
theorem phr_bl {size : Nat} (h2 : 2 ≤ size) (h40 : size ≤ 40) : ∀ (m s : Nat), s + m ≤ 200 → s * size ≤ 1000 →
    phr (s * size) (bl size s) ((List.range' s m).map (ph size)) = if (s + m) * size ≤ 1000 then (0, 0) else (10, 1000 / size)
  | 0, s, _, h => by rw [Nat.add_zero, if_pos h]; rfl
  | m + 1, s, hs, h => by
    rw [List.range'_succ, List.map_cons, phr, ph_size, bl_len, if_neg (by omega)]
    have e1 : s * size + size = (s + 1) * size := by rw [Nat.add_mul]; omega
    have e2 : (s + (m + 1)) * size = (s + 1) * size + m * size := by rw [← Nat.add_mul]; congr 1; omega
    by_cases h3 : 1000 < s * size + size
    · rw [if_pos (Or.inr h3), if_neg (by omega)]
      have : 1000 / size = s := Nat.div_eq_of_lt_le h (by rw [← e1]; omega)
      rw [this]
    · rw [if_neg (by omega), if_neg (bl_not h2 (by omega)), e1, ← bl_succ, phr_bl h2 h40 m (s + 1) (by omega) (by omega)]
      rw [show s + 1 + m = s + (m + 1) from by omega]
def bres (n size : Nat) : Nat × Nat := if 100 < n then (10, 100) else if n = 0 then (0, 0) else if 40 < size then (10, 0) else if n * size ≤ 1000 then (0, 0) else (10, 1000 / size)
theorem phrases_bl {n size : Nat} (h2 : 2 ≤ size) (hn : n ≤ 110) : phrases (bl size n) = bres n size := by
  unfold phrases bres
  rw [bl_len]
  by_cases h : 100 < n
  · rw [if_pos h, if_pos h]
  · rw [if_neg h, if_neg h]
    by_cases h0 : n = 0
    · subst h0; rw [if_pos rfl]; rfl
    · rw [if_neg h0]
      by_cases h4 : 40 < size
      · rw [if_pos h4]
        obtain ⟨m, rfl⟩ : ∃ m, n = m + 1 := ⟨n - 1, by omega⟩
        unfold bl
        rw [List.range_succ_eq_map, List.map_cons, phr, ph_size, if_neg (by omega), if_pos (Or.inl h4)]
        rfl
      · rw [if_neg h4]
        have := phr_bl h2 (by omega) n 0 (by omega) (by omega)
        rw [Nat.zero_mul, Nat.zero_add, ← List.range_eq_range'] at this
        exact this
theorem own_addr {w : World} {base n : Nat} {e : TypeId} {size : Nat} {v : Value} {xs : List Value} (h : w.ownsRow base e size v n xs) (hn : 0 < n) : ∃ g c, v = .slice (some ⟨g, 0, none⟩) n c ∧ base ≤ g ∧ n ≤ c := by
  obtain ⟨_, h | ⟨g, cap, cur, e1, e2, _, e3, _⟩⟩ := h
  · exact absurd h.2 (by omega)
  · exact ⟨g, cap, e1, e2, e3⟩
set_option maxHeartbeats 2000000 in
set_option maxRecDepth 100000 in
theorem bounds_tail (n size : Nat) (more : Bool) (w : World) (hn : n ≤ 110) (h2 : 2 ≤ size) (h45 : size ≤ 45) :
    Calls Try.prog 3 #[.int .i64 (n : Int), .int .i64 (size : Int), .bool more] w fun e w' => e = .returned (.bool true) ∧ Below w.heap.size w w' := by
  have m1 : decide ((n : Int) < 0) = false := decide_eq_false (by omega)
  have m2 : decide ((110 : Int) < (n : Int)) = false := decide_eq_false (by omega)
  have m3 : decide ((size : Int) < 2) = false := decide_eq_false (by omega)
  have m4 : decide ((45 : Int) < (size : Int)) = false := decide_eq_false (by omega)
  have m5 : ¬ ((n : Int) < 0) := by omega
  have m6 : ¬ (110 < n) := by omega
  have m7 : ¬ (size < 2) := by omega
  have m8 : ¬ (45 < size) := by omega
  go_enter Try.func3, Try.ntmps3
  go_wp2_with fail
  refine (alive_any _).mono ?_
  rintro e w1 ⟨rfl, hb1⟩
  have H1 := Aside0.mk hb1
  clear hb1
  clear m1 m2 m3 m4 m5 m6 m7 m8
  go_wp2_with fail
  go_loopw [7, 8, 9] (fun v7 v8 v9 wr => ∃ k : Nat, v8 = .int .i64 k ∧ k ≤ n ∧ Aside0 (StrsAt wr w.heap.size v7 (bl size k)) ∧ Aside0 (Below w.heap.size w wr)) (fun _ v8 _ _ => n - (intOf v8).toNat)
  case atStart => exact ⟨0, rfl, by omega, ⟨Kd.R_nil _ _ _ _ _⟩, H1⟩
  case round =>
    obtain ⟨k, rfl, hkn, HV, HB⟩ := hrel
    obtain ⟨A7, c7, rfl, _, _⟩ := Kd.R_reads HV.out
    by_cases hlt : k < n
    · have t1 : decide ((k : Int) < (n : Int)) = true := decide_eq_true (by omega)
      have k1 : (k : Int) % 256 = (k : Int) := by omega
      have k2 : (k : Int) / 256 = 0 := by omega
      have hcapb : ((bl size k).length + 1) * 16 ≤ 140737488355328 := by rw [bl_len]; omega
      go_upto_region 9 with (at_make; go_must (
          refine Kd.R_make (Kd.int .u8) wr.heap.size 5 rfl (N := 41) rfl 24 (.tmp 40) (.tmp 40) rfl (size : Int) rfl rfl Try.underlying24 (.int .u8 0) 1 Leaf.info5 rfl (by decide) (by decide) 0 (ok := fun _ => True) (okp := fun _ => True) rfl (fun _ hk => hk) trivial (by omega) (by omega) (Below.refl _ _) (Nat.le_refl _) ?_
          intro v1 w2 ho hb hg_ hnew_
          clear hg_ hnew_
          rw [Int.toNat_natCast] at ho
          have hown := Kd.own_of_R ho
          rw [List.length_replicate] at hown
          obtain ⟨g, cg, rfl, hgl, hgc⟩ := own_addr hown (by omega)
          clear hown
          have HB2 := Aside0.mk hb
          clear hb
          obtain ⟨c0, f0⟩ := Kd.R_celln (0 : Int) ho 0 (by omega) (by omega)
          have hp := (Kd.R_putg ho 0 (k : Int)).1
          obtain ⟨c1, f1⟩ := Kd.R_celln (0 : Int) hp 1 (by omega) (by omega)
          have hp2 := (Kd.R_putg hp 1 (0 : Int)).1
          rw [show Int.toNat 0 = 0 from rfl] at c0 f0 c1 f1 hp2
          rw [show Int.toNat 1 = 1 from rfl] at c1 f1 hp2
          have HP2 := Aside0.mk hp2
          have HGL := Aside0.mk hgl
          have HGC := Aside0.mk hgc
          clear ho hp hp2 hgl hgc
          have hW := (HB2.out.setCell (p := ⟨g, 0, none⟩) HGL.out (.int .u8 (k : Int))).setCell (p := ⟨g, 1, none⟩) HGL.out (.int .u8 0)
          have HV2 := Aside0.mk (Kd.R_below HV.out hW)
          have HB3 := Aside0.mk (below_step HB.out hW)
          have hcv := string_of_reads (P := Try.prog) (c := cg) Try.underlying24 Try.underlying5 Try.underlying9 (Kd.reads_of_C (enc := Value.int .u8) (d := (0 : Int)) (h1 := fun _ => rfl) (Kd.R_reads' HP2.out).2.2)
          rw [show (((List.replicate size (0 : Int)).set 0 (k : Int)).set 1 0).length = size from row_len k size] at hcv
          clear hW
          have s0 : (0 : Int) < (size : Int) := by omega
          have s1 : (1 : Int) < (size : Int) := by omega
          have s2 : 1 < size := by omega
          have s3 : 0 < size := by omega))
      generalize (w2.setCell ⟨g, 0, none⟩ (.int .u8 (k : Int))).setCell ⟨g, 1, none⟩ (.int .u8 0) = W3 at *
      go_wp2_with (at_builtin; refine append_strL w.heap.size rfl (.tmp 51) (.tmp 54) 23 9 rfl Try.underlying23 Leaf.info9 (.slice A7 (bl size k).length c7) (bl size k) (ph size k) rfl rfl HV2.out HB3.out HB3.out.size hcapb ?_; intro v1 w3 hrow hbelow hgrow hat2; obtain ⟨A1, c1', rfl, _, _⟩ := Kd.R_reads hrow; have HROW := Aside0.mk hrow; have HB4 := Aside0.mk hbelow; clear hrow hbelow hgrow hat2)
      go_roundw
      case rel =>
        have hl1 : (bl size k ++ [ph size k]).length = (bl size k).length + 1 := by simp
        refine ⟨k + 1, by go_num, by omega, ⟨?_⟩, HB4⟩
        have := HROW.out
        rw [hl1] at this
        rw [bl_succ]
        exact this
      case measure => simp [intOf]; omega
    · obtain rfl : k = n := by omega
      have t1 : decide ((k : Int) < (k : Int)) = false := decide_eq_false (by omega)
      have hlen := bl_len size k
      have HC := Aside0.mk (Kd.R_reads' HV.out).2.2
      obtain ⟨_, hcap, _⟩ := Kd.R_reads' HV.out
      have HCAP := Aside0.mk hcap
      have HPB := Aside0.mk (phrases_bl (n := k) h2 hn)
      have HSM := Aside0.mk (fun x (hx : x ∈ bl size k) => (by have := bl_small x hx; omega : x.size ≤ 140737488351232))
      have hy := fun h => new_yes (bl size k) wr HC.out HCAP.out HSM.out h
      have hno := fun h => new_no (bl size k) wr HC.out HCAP.out HSM.out h
      rw [HPB.out] at hy hno
      rw [hlen] at hy hno ⊢
      have HY := Aside0.mk hy
      have HNO := Aside0.mk hno
      clear hy hno hcap hlen
      have he := run_eql_fault
      have z1 : ((k : Int) == 0) = decide (k = 0) := by by_cases h : k = 0 <;> simp [h]
      have p0 : (k : Int) * (size : Int) = ((k * size : Nat) : Int) := by rw [Int.natCast_mul]
      have p1 : k * size ≤ 110 * 45 := Nat.mul_le_mul (by omega) (by omega)
      have q0 : Int.tdiv 1000 (size : Int) = ((1000 / size : Nat) : Int) := by rfl
      have q1 : ((size : Int) == 0) = false := beq_eq_false_iff_ne.2 (by omega)
      by_cases c1 : 100 < k
      · have e1 : bres k size = (10, 100) := if_pos c1
        rw [e1] at HNO
        have t2 : decide ((k : Int) ≤ 100) = false := decide_eq_false (by omega)
        have t3 : decide ((100 : Int) < (k : Int)) = true := decide_eq_true (by omega)
        clear HY e1 p0 p1
        go_wp2_with fail
        refine (HNO.out (by first | decide | trivial)).mono ?_
        rintro e w2 ⟨rfl, hb2⟩
        have H2 := Aside0.mk (below_step HB.out hb2)
        clear hb2
        go_wp2_with fail
        refine (of_some 10 100 _).mono ?_
        rintro e w3 ⟨rfl, hb3⟩
        have H3 := Aside0.mk (below_step H2.out hb3)
        clear hb3
        go_wp2
        go_ret
        exact ⟨rfl, below_alloc H3.out _⟩
      · have t2 : decide ((k : Int) ≤ 100) = true := decide_eq_true (by omega)
        have t3 : decide ((100 : Int) < (k : Int)) = false := decide_eq_false (by omega)
        have t4 : (k : Int) ≤ 100 := by omega
        by_cases c2 : k = 0
        · have e1 : bres k size = (0, 0) := by unfold bres; rw [if_neg c1, if_pos c2]
          rw [e1] at HY
          clear HNO e1 p0 p1 z1 t1 t2 t3 t4
          subst c2
          clear hn c1 hkn
          go_wp2_with fail
          refine (HY.out (by first | rfl | trivial)).mono ?_
          rintro e w2 ⟨ad, rfl, hd, hb2⟩
          have H2 := Aside0.mk (below_step HB.out hb2)
          clear hb2 hd
          go_wp2
          go_ret
          exact ⟨rfl, H2.out⟩
        · have z2 : ((k : Int) == 0) = false := beq_eq_false_iff_ne.2 (by omega)
          have z3 : ¬ (k : Int) = 0 := by omega
          by_cases c3 : 40 < size
          · have e1 : bres k size = (10, 0) := by unfold bres; rw [if_neg c1, if_neg c2, if_pos c3]
            rw [e1] at HNO
            have t5 : decide ((size : Int) ≤ 40) = false := decide_eq_false (by omega)
            have t6 : decide ((40 : Int) < (size : Int)) = true := decide_eq_true (by omega)
            clear HY e1 p0 p1
            go_wp2_with fail
            refine (HNO.out (by first | decide | trivial)).mono ?_
            rintro e w2 ⟨rfl, hb2⟩
            have H2 := Aside0.mk (below_step HB.out hb2)
            clear hb2
            go_wp2_with fail
            refine (of_some 10 0 _).mono ?_
            rintro e w3 ⟨rfl, hb3⟩
            have H3 := Aside0.mk (below_step H2.out hb3)
            clear hb3
            go_wp2
            go_ret
            exact ⟨rfl, below_alloc H3.out _⟩
          · have t5 : decide ((size : Int) ≤ 40) = true := decide_eq_true (by omega)
            have t6 : decide ((40 : Int) < (size : Int)) = false := decide_eq_false (by omega)
            have t7 : (size : Int) ≤ 40 := by omega
            generalize hp : k * size = p at *
            by_cases c4 : p ≤ 1000
            · have e1 : bres k size = (0, 0) := by unfold bres; rw [if_neg c1, if_neg c2, if_neg c3, hp, if_pos c4]
              rw [e1] at HY
              have t8 : decide ((p : Int) ≤ 1000) = true := decide_eq_true (by omega)
              clear HNO e1 hp
              go_wp2_with fail
              refine (HY.out (by first | rfl | trivial)).mono ?_
              rintro e w2 ⟨ad, rfl, hd, hb2⟩
              have H2 := Aside0.mk (below_step HB.out hb2)
              clear hb2 hd
              go_wp2
              go_ret
              exact ⟨rfl, H2.out⟩
            · have e1 : bres k size = (10, 1000 / size) := by unfold bres; rw [if_neg c1, if_neg c2, if_neg c3, hp, if_neg c4]
              rw [e1] at HNO
              have t8 : decide ((p : Int) ≤ 1000) = false := decide_eq_false (by omega)
              have hq : 1000 / size ≤ 100 := by
                have h11 : 10 ≤ size := by
                  rcases Nat.lt_or_ge size 10 with h | h
                  · have : k * size ≤ 100 * 9 := Nat.mul_le_mul (by omega) (by omega)
                    omega
                  · exact h
                exact Nat.le_trans (Nat.div_le_div_left h11 (by decide)) (by decide)
              generalize hdq : 1000 / size = q at *
              have t9 : min (100 : Int) (q : Int) = (q : Int) := by omega
              clear HY e1 hp
              go_wp2_with fail
              refine (HNO.out (by first | decide | trivial)).mono ?_
              rintro e w2 ⟨rfl, hb2⟩
              have H2 := Aside0.mk (below_step HB.out hb2)
              clear hb2
              go_wp2_with fail
              refine (of_some 10 (q : Int) _).mono ?_
              rintro e w3 ⟨rfl, hb3⟩
              have H3 := Aside0.mk (below_step H2.out hb3)
              clear hb3
              go_wp2
              go_ret
              exact ⟨rfl, below_alloc H3.out _⟩
theorem bounds_law (n size : Int) (more : Bool) (w : World) (hn : (Lit.int .i64 n).wf = true) (hs : (Lit.int .i64 size).wf = true) :
    Calls Try.prog 3 #[.int .i64 n, .int .i64 size, .bool more] w fun e w' => e = .returned (.bool true) ∧ Below w.heap.size w w' := by
  clear hn hs
  by_cases h1 : n < 0
  · have b1 : decide (n < 0) = true := decide_eq_true h1
    go_enter Try.func3, Try.ntmps3
    go_wp2_with (go_at_call 13; refine (alive_any _).mono ?_; rintro e w2 ⟨rfl, hb2⟩)
    go_ret
    exact ⟨rfl, hb2⟩
  · have b1 : decide (n < 0) = false := decide_eq_false h1
    by_cases h2 : 110 < n
    · have b2 : decide (110 < n) = true := decide_eq_true h2
      clear h1
      go_enter Try.func3, Try.ntmps3
      go_wp2_with (go_at_call 13; refine (alive_any _).mono ?_; rintro e w2 ⟨rfl, hb2⟩)
      go_ret
      exact ⟨rfl, hb2⟩
    · have b2 : decide (110 < n) = false := decide_eq_false h2
      by_cases h3 : size < 2
      · have b3 : decide (size < 2) = true := decide_eq_true h3
        have g1 : 0 ≤ n := by omega
        have g2 : n ≤ 110 := by omega
        clear h1 h2
        go_enter Try.func3, Try.ntmps3
        go_wp2_with (go_at_call 13; refine (alive_any _).mono ?_; rintro e w2 ⟨rfl, hb2⟩)
        go_ret
        exact ⟨rfl, hb2⟩
      · have b3 : decide (size < 2) = false := decide_eq_false h3
        by_cases h4 : 45 < size
        · have b4 : decide (45 < size) = true := decide_eq_true h4
          have g1 : 0 ≤ n := by omega
          have g2 : n ≤ 110 := by omega
          have g3 : 2 ≤ size := by omega
          clear h1 h2 h3
          go_enter Try.func3, Try.ntmps3
          go_wp2_with (go_at_call 13; refine (alive_any _).mono ?_; rintro e w2 ⟨rfl, hb2⟩)
          go_ret
          exact ⟨rfl, hb2⟩
        · obtain ⟨a, rfl⟩ := Int.eq_ofNat_of_zero_le (show 0 ≤ n by omega)
          obtain ⟨b, rfl⟩ := Int.eq_ofNat_of_zero_le (show 0 ≤ size by omega)
          exact bounds_tail a b more w (by omega) (by omega) (by omega)
end Go.Proofs.Ytbnoeoghhbhhcaa
