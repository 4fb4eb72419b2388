/- FaultSame: faults of the same code at the same place are the same fault. -/
import Derived.Test.YtbnoeoghhbhhcaaDictI
import Derived.Deep.RegionHeld3
set_option linter.unusedVariables false
set_option linter.unusedSimpArgs false
namespace Go.Proofs.Ytbnoeoghhbhhcaa
open Go.RowKit Go.Proofs.Ytbnoeoghhbhhcaa.Spec Go.Proofs.YtbnoeoghhbhhcaaW.PrintWords Go.Proofs.YtbnoeoghhbhhcaaW.PrintLast
open Go.Proofs.YtbnoeoghhbhhcaaW.PrintMore
set_option maxHeartbeats 400000 in
set_option maxRecDepth 100000 in
theorem must_exact (c a : Int) (w : World) : Calls Try.prog 39 #[.iface 33 (.agg #[.int .i64 c, .int .i64 a])] w fun e w' => e = .returned (.agg #[.int .i64 c, .int .i64 a]) ∧ w' = w.alloc (.cells #[.int .i64 c, .int .i64 a] 33) := by
  have ta := ta1_yes
  go_enter Try.func39, Try.ntmps39
  go_wp2
  exact bodyPost_ret (v := .agg #[.int .i64 c, .int .i64 a]) (by simp [results, Try.results39, go_sem]) rfl ⟨rfl, rfl⟩
set_option maxHeartbeats 2000000 in
set_option maxRecDepth 100000 in
theorem same_core (a b x y : Int) (w : World) (ha : a ≠ 0) (hb : b ≠ 0) (hd : (a = b ∧ x = y) ∨ (a = b ∧ x ≠ y) ∨ a ≠ b) : Calls Try.prog 11 #[.int .i64 a, .int .i64 b, .int .i64 x, .int .i64 y] w fun e w' => e = .returned (.bool true) ∧ Below w.heap.size w w' := by
  have he := run_eql_fault
  have ha0 : (a == (0 : Int)) = false := beq_eq_false_iff_ne.2 ha
  have hb0 : (b == (0 : Int)) = false := beq_eq_false_iff_ne.2 hb
  have HA := Aside0.mk ha
  have HB := Aside0.mk hb
  clear ha hb
  rcases hd with ⟨rfl, rfl⟩ | ⟨rfl, hxy⟩ | hab
  case inl =>
    go_enter Try.func11, Try.ntmps11
    go_wp2_with fail
    refine (alive_one _).mono ?_
    rintro e w1 ⟨rfl, hb1⟩
    have H1 := Aside0.mk hb1
    clear hb1
    go_wp2_with fail
    refine (fnew_some a x HA.out _).mono ?_
    rintro e w2 ⟨rfl, rfl⟩
    go_wp2_with fail
    refine (of_some a x _).mono ?_
    rintro e w3 ⟨rfl, hb3⟩
    have H3 := Aside0.mk (below_step H1.out hb3)
    clear hb3
    go_wp2_with fail
    refine (fnew_some a x HA.out _).mono ?_
    rintro e w4 ⟨rfl, rfl⟩
    go_wp2_with fail
    refine (of_some a x _).mono ?_
    rintro e w5 ⟨rfl, hb5⟩
    have c0 := pw_cell_below hb5 (a := ⟨w3.heap.size, 0, none⟩) (v := .int .i64 a) (by simp)
    have c1 := pw_cell_below hb5 (a := ⟨w3.heap.size, 1, none⟩) (v := .int .i64 x) (by simp)
    have d0 := pw_cell_below (below_alloc (Below.refl w5.heap.size w5) (.cells #[.int .i64 a, .int .i64 x] 33)) c0
    have d1 := pw_cell_below (below_alloc (Below.refl w5.heap.size w5) (.cells #[.int .i64 a, .int .i64 x] 33)) c1
    have H5 := Aside0.mk (below_step (below_alloc H3.out _) hb5)
    clear hb5
    go_wp2_with fail
    go_region_held3 (fun w' => w'.cell? ⟨w3.heap.size, 0, none⟩ = some (.int .i64 a) ∧ w'.cell? ⟨w3.heap.size, 1, none⟩ = some (.int .i64 x) ∧ w'.cell? ⟨w5.heap.size, 0, none⟩ = some (.int .i64 a) ∧ w'.cell? ⟨w5.heap.size, 1, none⟩ = some (.int .i64 x))
      (first | go_keep | exact ⟨pw_cell_below hb (by simp [d0, d1]), pw_cell_below hb (by simp [d0, d1]), pw_cell_below hb (by simp [d0, d1]), pw_cell_below hb (by simp [d0, d1])⟩ | exact ⟨pw_cell_below hb (by assumption), pw_cell_below hb (by assumption), pw_cell_below hb (by assumption), pw_cell_below hb (by assumption)⟩)
      (first | (go_at_call 38; refine (fnew_some a x HA.out _).mono ?_; rintro e wa ⟨rfl, rfl⟩) | (go_at_call 39; refine (must_some a x _).mono ?_; rintro e wb ⟨rfl, hb⟩))
    go_wp2
    go_ret
    exact ⟨rfl, below_step (by repeat (first | exact H5.out | apply below_alloc | apply below_drew | apply pw_below_drewN)) hb⟩
  case inr.inl =>
    have hxy1 : (x == y) = false := beq_eq_false_iff_ne.2 hxy
    clear hxy
    go_enter Try.func11, Try.ntmps11
    go_wp2_with fail
    refine (alive_one _).mono ?_
    rintro e w1 ⟨rfl, hb1⟩
    have H1 := Aside0.mk hb1
    clear hb1
    go_wp2_with fail
    refine (fnew_some a x HA.out _).mono ?_
    rintro e w2 ⟨rfl, rfl⟩
    go_wp2_with fail
    refine (of_some a x _).mono ?_
    rintro e w3 ⟨rfl, hb3⟩
    have H3 := Aside0.mk (below_step H1.out hb3)
    clear hb3
    go_wp2_with fail
    refine (fnew_some a y HA.out _).mono ?_
    rintro e w4 ⟨rfl, rfl⟩
    go_wp2_with fail
    refine (of_some a y _).mono ?_
    rintro e w5 ⟨rfl, hb5⟩
    have c0 := pw_cell_below hb5 (a := ⟨w3.heap.size, 0, none⟩) (v := .int .i64 a) (by simp)
    have c1 := pw_cell_below hb5 (a := ⟨w3.heap.size, 1, none⟩) (v := .int .i64 x) (by simp)
    have d0 := pw_cell_below (below_alloc (Below.refl w5.heap.size w5) (.cells #[.int .i64 a, .int .i64 y] 33)) c0
    have d1 := pw_cell_below (below_alloc (Below.refl w5.heap.size w5) (.cells #[.int .i64 a, .int .i64 y] 33)) c1
    have H5 := Aside0.mk (below_step (below_alloc H3.out _) hb5)
    clear hb5
    go_wp2_with fail
    go_region_held3 (fun w' => w'.cell? ⟨w3.heap.size, 0, none⟩ = some (.int .i64 a) ∧ w'.cell? ⟨w3.heap.size, 1, none⟩ = some (.int .i64 x) ∧ w'.cell? ⟨w5.heap.size, 0, none⟩ = some (.int .i64 a) ∧ w'.cell? ⟨w5.heap.size, 1, none⟩ = some (.int .i64 y))
      (first | go_keep | exact ⟨pw_cell_below hb (by simp [d0, d1]), pw_cell_below hb (by simp [d0, d1]), pw_cell_below hb (by simp [d0, d1]), pw_cell_below hb (by simp [d0, d1])⟩ | exact ⟨pw_cell_below hb (by assumption), pw_cell_below hb (by assumption), pw_cell_below hb (by assumption), pw_cell_below hb (by assumption)⟩)
      (first | (go_at_call 38; refine (fnew_some a x HA.out _).mono ?_; rintro e wa ⟨rfl, rfl⟩) | (go_at_call 39; refine (must_some a x _).mono ?_; rintro e wb ⟨rfl, hb⟩))
    go_wp2
    go_ret
    exact ⟨rfl, below_step (by repeat (first | exact H5.out | apply below_alloc | apply below_drew | apply pw_below_drewN)) hb⟩
  case inr.inr =>
    have hab1 : (a == b) = false := beq_eq_false_iff_ne.2 hab
    clear hab
    go_enter Try.func11, Try.ntmps11
    go_wp2_with fail
    refine (alive_one _).mono ?_
    rintro e w1 ⟨rfl, hb1⟩
    have H1 := Aside0.mk hb1
    clear hb1
    go_wp2_with fail
    refine (fnew_some a x HA.out _).mono ?_
    rintro e w2 ⟨rfl, rfl⟩
    go_wp2_with fail
    refine (of_some a x _).mono ?_
    rintro e w3 ⟨rfl, hb3⟩
    have H3 := Aside0.mk (below_step H1.out hb3)
    clear hb3
    go_wp2_with fail
    refine (fnew_some b y HB.out _).mono ?_
    rintro e w4 ⟨rfl, rfl⟩
    go_wp2_with fail
    refine (of_some b y _).mono ?_
    rintro e w5 ⟨rfl, hb5⟩
    have c0 := pw_cell_below hb5 (a := ⟨w3.heap.size, 0, none⟩) (v := .int .i64 a) (by simp)
    have c1 := pw_cell_below hb5 (a := ⟨w3.heap.size, 1, none⟩) (v := .int .i64 x) (by simp)
    have d0 := pw_cell_below (below_alloc (Below.refl w5.heap.size w5) (.cells #[.int .i64 b, .int .i64 y] 33)) c0
    have d1 := pw_cell_below (below_alloc (Below.refl w5.heap.size w5) (.cells #[.int .i64 b, .int .i64 y] 33)) c1
    have H5 := Aside0.mk (below_step (below_alloc H3.out _) hb5)
    clear hb5
    go_wp2_with fail
    refine wp_region_held_drew (S := (fun w' => w'.cell? ⟨w3.heap.size, 0, none⟩ = some (.int .i64 a) ∧ w'.cell? ⟨w3.heap.size, 1, none⟩ = some (.int .i64 x) ∧ w'.cell? ⟨w5.heap.size, 0, none⟩ = some (.int .i64 b) ∧ w'.cell? ⟨w5.heap.size, 1, none⟩ = some (.int .i64 y))) (by kernel_rfl) (by go_keep) (fun hHeld => ?_)
    refine wpAnyH_take (i := 0) (v := ?_) rfl (by kernel_rfl) (by kernel_rfl) (by kernel_rfl) (fun _ _ _ h => h) (Or.inl ⟨by rfl, ?_⟩) (by assumption) ?_
    rotate_left
    · intro w' hSw
      (try dsimp only at hSw)
      go_simp
      all_goals (try with_reducible rfl)
    (try simp only [Act.put, List.setIfInBounds_toArray, List.set_cons_zero, List.set_cons_succ, List.getElem_toArray, List.getElem_cons_succ, List.getElem_cons_zero])
    refine wpAnyH_take (i := 1) (v := ?_) rfl (by kernel_rfl) (by kernel_rfl) (by kernel_rfl) (fun _ _ _ h => h) (Or.inl ⟨by rfl, ?_⟩) (by assumption) ?_
    rotate_left
    · intro w' hSw
      (try dsimp only at hSw)
      go_simp
      all_goals (try with_reducible rfl)
    (try simp only [Act.put, List.setIfInBounds_toArray, List.set_cons_zero, List.set_cons_succ, List.getElem_toArray, List.getElem_cons_succ, List.getElem_cons_zero])
    refine wpAnyH_take (i := 2) (v := ?_) rfl (by kernel_rfl) (by kernel_rfl) (by kernel_rfl) (fun _ _ _ h => h) (Or.inl ⟨by rfl, ?_⟩) (by assumption) ?_
    rotate_left
    · intro w' hSw
      (try dsimp only at hSw)
      go_simp
      all_goals (try with_reducible rfl)
    (try simp only [Act.put, List.setIfInBounds_toArray, List.set_cons_zero, List.set_cons_succ, List.getElem_toArray, List.getElem_cons_succ, List.getElem_cons_zero])
    refine wpAnyH_take (i := 3) (v := ?_) rfl (by kernel_rfl) (by kernel_rfl) (by kernel_rfl) (fun _ _ _ h => h) (Or.inl ⟨by rfl, ?_⟩) (by assumption) ?_
    rotate_left
    · intro w' hSw
      (try dsimp only at hSw)
      go_simp
      all_goals (try with_reducible rfl)
    (try simp only [Act.put, List.setIfInBounds_toArray, List.set_cons_zero, List.set_cons_succ, List.getElem_toArray, List.getElem_cons_succ, List.getElem_cons_zero])
    refine wpAnyH_take (i := 4) (v := ?_) rfl (by kernel_rfl) (by kernel_rfl) (by kernel_rfl) (fun _ _ _ h => h) (Or.inl ⟨by rfl, ?_⟩) (by assumption) ?_
    rotate_left
    · intro w' hSw
      (try dsimp only at hSw)
      go_simp
      all_goals (try with_reducible rfl)
    (try simp only [Act.put, List.setIfInBounds_toArray, List.set_cons_zero, List.set_cons_succ, List.getElem_toArray, List.getElem_cons_succ, List.getElem_cons_zero])
    refine wpAnyH_take (i := 5) (v := ?_) rfl (by kernel_rfl) (by kernel_rfl) (by kernel_rfl) (fun _ _ _ h => h) (Or.inl ⟨by rfl, ?_⟩) (by assumption) ?_
    rotate_left
    · intro w' hSw
      (try dsimp only at hSw)
      go_simp
      all_goals (try with_reducible rfl)
    (try simp only [Act.put, List.setIfInBounds_toArray, List.set_cons_zero, List.set_cons_succ, List.getElem_toArray, List.getElem_cons_succ, List.getElem_cons_zero])
    refine wpAnyH_take (i := 6) (v := ?_) rfl (by kernel_rfl) (by kernel_rfl) (by kernel_rfl) (fun _ _ _ h => h) (Or.inl ⟨by rfl, ?_⟩) (by assumption) ?_
    rotate_left
    · intro w' hSw
      (try dsimp only at hSw)
      go_simp
      all_goals (try with_reducible rfl)
    (try simp only [Act.put, List.setIfInBounds_toArray, List.set_cons_zero, List.set_cons_succ, List.getElem_toArray, List.getElem_cons_succ, List.getElem_cons_zero])
    refine wpAnyH_take (i := 7) (v := ?_) rfl (by kernel_rfl) (by kernel_rfl) (by kernel_rfl) (fun _ _ _ h => h) (Or.inl ⟨by rfl, ?_⟩) (by assumption) ?_
    rotate_left
    · intro w' hSw
      (try dsimp only at hSw)
      go_simp
      all_goals (try with_reducible rfl)
    (try simp only [Act.put, List.setIfInBounds_toArray, List.set_cons_zero, List.set_cons_succ, List.getElem_toArray, List.getElem_cons_succ, List.getElem_cons_zero])
    refine wpAnyH_take (i := 8) (v := ?_) rfl (by kernel_rfl) (by kernel_rfl) (by kernel_rfl) (fun _ _ _ h => h) (Or.inl ⟨by rfl, ?_⟩) (by assumption) ?_
    rotate_left
    · intro w' hSw
      (try dsimp only at hSw)
      go_simp
      all_goals (try with_reducible rfl)
    (try simp only [Act.put, List.setIfInBounds_toArray, List.set_cons_zero, List.set_cons_succ, List.getElem_toArray, List.getElem_cons_succ, List.getElem_cons_zero])
    refine wpAnyH_take (i := 9) (v := ?_) rfl (by kernel_rfl) (by kernel_rfl) (by kernel_rfl) (fun _ _ _ h => h) (Or.inl ⟨by rfl, ?_⟩) (by assumption) ?_
    rotate_left
    · intro w' hSw
      (try dsimp only at hSw)
      go_simp
      all_goals (try with_reducible rfl)
    (try simp only [Act.put, List.setIfInBounds_toArray, List.set_cons_zero, List.set_cons_succ, List.getElem_toArray, List.getElem_cons_succ, List.getElem_cons_zero])
    refine wpAnyH_take (i := 10) (v := ?_) rfl (by kernel_rfl) (by kernel_rfl) (by kernel_rfl) (fun _ _ _ h => h) (Or.inl ⟨by rfl, ?_⟩) (by assumption) ?_
    rotate_left
    · intro w' hSw
      (try dsimp only at hSw)
      go_simp
      all_goals (try with_reducible rfl)
    (try simp only [Act.put, List.setIfInBounds_toArray, List.set_cons_zero, List.set_cons_succ, List.getElem_toArray, List.getElem_cons_succ, List.getElem_cons_zero])
    refine wpAnyH_take (i := 11) (v := ?_) rfl (by kernel_rfl) (by kernel_rfl) (by kernel_rfl) (fun _ _ _ h => h) (Or.inl ⟨by rfl, ?_⟩) (by assumption) ?_
    rotate_left
    · intro w' hSw
      (try dsimp only at hSw)
      go_simp
      all_goals (try with_reducible rfl)
    (try simp only [Act.put, List.setIfInBounds_toArray, List.set_cons_zero, List.set_cons_succ, List.getElem_toArray, List.getElem_cons_succ, List.getElem_cons_zero])
    refine wpAnyH_take (i := 12) (v := undef) rfl (by kernel_rfl) (by kernel_rfl) (by kernel_rfl) (fun _ _ _ h => h) (Or.inr ⟨by rfl, rfl⟩) (by assumption) ?_
    (try simp only [Act.put, List.setIfInBounds_toArray, List.set_cons_zero, List.set_cons_succ, List.getElem_toArray, List.getElem_cons_succ, List.getElem_cons_zero])
    refine wpAnyH_take (i := 13) (v := undef) rfl (by kernel_rfl) (by kernel_rfl) (by kernel_rfl) (fun _ _ _ h => h) (Or.inr ⟨by rfl, rfl⟩) (by assumption) ?_
    (try simp only [Act.put, List.setIfInBounds_toArray, List.set_cons_zero, List.set_cons_succ, List.getElem_toArray, List.getElem_cons_succ, List.getElem_cons_zero])
    refine wpAnyH_take (i := 14) (v := undef) rfl (by kernel_rfl) (by kernel_rfl) (by kernel_rfl) (fun _ _ _ h => h) (Or.inr ⟨by rfl, rfl⟩) (by assumption) ?_
    (try simp only [Act.put, List.setIfInBounds_toArray, List.set_cons_zero, List.set_cons_succ, List.getElem_toArray, List.getElem_cons_succ, List.getElem_cons_zero])
    refine wpAnyH_take (i := 15) (v := ?_) rfl (by kernel_rfl) (by kernel_rfl) (by kernel_rfl) (fun _ _ _ h => h) (Or.inl ⟨by rfl, ?_⟩) (by assumption) ?_
    rotate_left
    · intro w' hSw
      (try dsimp only at hSw)
      go_simp
      all_goals (try with_reducible rfl)
    (try simp only [Act.put, List.setIfInBounds_toArray, List.set_cons_zero, List.set_cons_succ, List.getElem_toArray, List.getElem_cons_succ, List.getElem_cons_zero])
    refine wpAnyH_take (i := 16) (v := ?_) rfl (by kernel_rfl) (by kernel_rfl) (by kernel_rfl) (fun _ _ _ h => h) (Or.inl ⟨by rfl, ?_⟩) (by assumption) ?_
    rotate_left
    · intro w' hSw
      (try dsimp only at hSw)
      go_simp
      all_goals (try with_reducible rfl)
    (try simp only [Act.put, List.setIfInBounds_toArray, List.set_cons_zero, List.set_cons_succ, List.getElem_toArray, List.getElem_cons_succ, List.getElem_cons_zero])
    refine wpAnyH_take (i := 17) (v := ?_) rfl (by kernel_rfl) (by kernel_rfl) (by kernel_rfl) (fun _ _ _ h => h) (Or.inl ⟨by rfl, ?_⟩) (by assumption) ?_
    rotate_left
    · intro w' hSw
      (try dsimp only at hSw)
      go_simp
      all_goals (try with_reducible rfl)
    (try simp only [Act.put, List.setIfInBounds_toArray, List.set_cons_zero, List.set_cons_succ, List.getElem_toArray, List.getElem_cons_succ, List.getElem_cons_zero])
    refine wpAnyH_take (i := 18) (v := ?_) rfl (by kernel_rfl) (by kernel_rfl) (by kernel_rfl) (fun _ _ _ h => h) (Or.inl ⟨by rfl, ?_⟩) (by assumption) ?_
    rotate_left
    · intro w' hSw
      (try dsimp only at hSw)
      go_simp
      all_goals (try with_reducible rfl)
    (try simp only [Act.put, List.setIfInBounds_toArray, List.set_cons_zero, List.set_cons_succ, List.getElem_toArray, List.getElem_cons_succ, List.getElem_cons_zero])
    refine wpAnyH_take (i := 19) (v := ?_) rfl (by kernel_rfl) (by kernel_rfl) (by kernel_rfl) (fun _ _ _ h => h) (Or.inl ⟨by rfl, ?_⟩) (by assumption) ?_
    rotate_left
    · intro w' hSw
      (try dsimp only at hSw)
      go_simp
      all_goals (try with_reducible rfl)
    (try simp only [Act.put, List.setIfInBounds_toArray, List.set_cons_zero, List.set_cons_succ, List.getElem_toArray, List.getElem_cons_succ, List.getElem_cons_zero])
    refine wpAnyH_take (i := 20) (v := ?_) rfl (by kernel_rfl) (by kernel_rfl) (by kernel_rfl) (fun _ _ _ h => h) (Or.inl ⟨by rfl, ?_⟩) (by assumption) ?_
    rotate_left
    · intro w' hSw
      (try dsimp only at hSw)
      go_simp
      all_goals (try with_reducible rfl)
    (try simp only [Act.put, List.setIfInBounds_toArray, List.set_cons_zero, List.set_cons_succ, List.getElem_toArray, List.getElem_cons_succ, List.getElem_cons_zero])
    refine wpAnyH_take (i := 23) (v := ?_) rfl (by kernel_rfl) (by kernel_rfl) (by kernel_rfl) (fun _ _ _ h => h) (Or.inl ⟨by rfl, ?_⟩) (by assumption) ?_
    rotate_left
    · intro w' hSw
      (try dsimp only at hSw)
      go_simp
      all_goals (try with_reducible rfl)
    (try simp only [Act.put, List.setIfInBounds_toArray, List.set_cons_zero, List.set_cons_succ, List.getElem_toArray, List.getElem_cons_succ, List.getElem_cons_zero])
    refine wpAnyH_ready (rs := [21]) (by kernel_rfl) (by simp) ?_
    refine AllReadyH.cons (i := 21) rfl (fun K hK => ?_) AllReadyH.nil
    rw [if_pos (by rfl)]
    go_wp2_with (first | (go_at_call 38; refine (fnew_some a x HA.out _).mono ?_; rintro e wa ⟨rfl, rfl⟩))
    refine hK.out _ _ ?_ (fun hHeld => ?_)
    · assumption
    clear hK K
    (try simp only [Act.put, List.setIfInBounds_toArray, List.set_cons_zero, List.set_cons_succ, List.getElem_toArray, List.getElem_cons_succ, List.getElem_cons_zero])
    refine wpAnyH_ready (rs := [22]) (by kernel_rfl) (by simp) ?_
    refine AllReadyH.cons (i := 22) rfl (fun K hK => ?_) AllReadyH.nil
    rw [if_pos (by rfl)]
    go_wp2_with (first | (go_at_call 39; refine (must_exact a x _).mono ?_; rintro e wb ⟨rfl, rfl⟩))
    refine hK.out _ _ ?_ (fun hHeld => ?_)
    · go_keep
    clear hK K
    (try simp only [Act.put, List.setIfInBounds_toArray, List.set_cons_zero, List.set_cons_succ, List.getElem_toArray, List.getElem_cons_succ, List.getElem_cons_zero])
    refine wpAnyH_take (i := 24) (v := ?_) rfl (by kernel_rfl) (by kernel_rfl) (by kernel_rfl) (fun _ _ _ h => h) (Or.inl ⟨by rfl, ?_⟩) (by assumption) ?_
    rotate_left
    · intro w' hSw
      (try dsimp only at hSw)
      go_simp
      all_goals (try with_reducible rfl)
    (try simp only [Act.put, List.setIfInBounds_toArray, List.set_cons_zero, List.set_cons_succ, List.getElem_toArray, List.getElem_cons_succ, List.getElem_cons_zero])
    refine wpAnyH_take (i := 25) (v := ?_) rfl (by kernel_rfl) (by kernel_rfl) (by kernel_rfl) (fun _ _ _ h => h) (Or.inl ⟨by rfl, ?_⟩) (by assumption) ?_
    rotate_left
    · intro w' hSw
      (try dsimp only at hSw)
      go_simp
      all_goals (try with_reducible rfl)
    (try simp only [Act.put, List.setIfInBounds_toArray, List.set_cons_zero, List.set_cons_succ, List.getElem_toArray, List.getElem_cons_succ, List.getElem_cons_zero])
    refine wpAnyH_take (i := 26) (v := ?_) rfl (by kernel_rfl) (by kernel_rfl) (by kernel_rfl) (fun _ _ _ h => h) (Or.inl ⟨by rfl, ?_⟩) (by assumption) ?_
    rotate_left
    · intro w' hSw
      (try dsimp only at hSw)
      go_simp
      all_goals (try with_reducible rfl)
    (try simp only [Act.put, List.setIfInBounds_toArray, List.set_cons_zero, List.set_cons_succ, List.getElem_toArray, List.getElem_cons_succ, List.getElem_cons_zero])
    refine wpAnyH_take (i := 27) (v := ?_) rfl (by kernel_rfl) (by kernel_rfl) (by kernel_rfl) (fun _ _ _ h => h) (Or.inl ⟨by rfl, ?_⟩) (by assumption) ?_
    rotate_left
    · intro w' hSw
      (try dsimp only at hSw)
      go_simp
      all_goals (try with_reducible rfl)
    (try simp only [Act.put, List.setIfInBounds_toArray, List.set_cons_zero, List.set_cons_succ, List.getElem_toArray, List.getElem_cons_succ, List.getElem_cons_zero])
    refine wpAnyH_take (i := 28) (v := ?_) rfl (by kernel_rfl) (by kernel_rfl) (by kernel_rfl) (fun _ _ _ h => h) (Or.inl ⟨by rfl, ?_⟩) (by assumption) ?_
    rotate_left
    · intro w' hSw
      (try dsimp only at hSw)
      go_simp
      all_goals (try with_reducible rfl)
    (try simp only [Act.put, List.setIfInBounds_toArray, List.set_cons_zero, List.set_cons_succ, List.getElem_toArray, List.getElem_cons_succ, List.getElem_cons_zero])
    refine wpAnyH_take (i := 29) (v := ?_) rfl (by kernel_rfl) (by kernel_rfl) (by kernel_rfl) (fun _ _ _ h => h) (Or.inl ⟨by rfl, ?_⟩) (by assumption) ?_
    rotate_left
    · intro w' hSw
      (try dsimp only at hSw)
      go_simp
      all_goals (try with_reducible rfl)
    (try simp only [Act.put, List.setIfInBounds_toArray, List.set_cons_zero, List.set_cons_succ, List.getElem_toArray, List.getElem_cons_succ, List.getElem_cons_zero])
    refine wpAnyH_take (i := 30) (v := ?_) rfl (by kernel_rfl) (by kernel_rfl) (by kernel_rfl) (fun _ _ _ h => h) (Or.inl ⟨by rfl, ?_⟩) (by assumption) ?_
    rotate_left
    · intro w' hSw
      (try dsimp only at hSw)
      go_simp
      all_goals (try with_reducible rfl)
    (try simp only [Act.put, List.setIfInBounds_toArray, List.set_cons_zero, List.set_cons_succ, List.getElem_toArray, List.getElem_cons_succ, List.getElem_cons_zero])
    refine wpAnyH_take (i := 31) (v := ?_) rfl (by kernel_rfl) (by kernel_rfl) (by kernel_rfl) (fun _ _ _ h => h) (Or.inl ⟨by rfl, ?_⟩) (by assumption) ?_
    rotate_left
    · intro w' hSw
      (try dsimp only at hSw)
      go_simp
      all_goals (try with_reducible rfl)
    (try simp only [Act.put, List.setIfInBounds_toArray, List.set_cons_zero, List.set_cons_succ, List.getElem_toArray, List.getElem_cons_succ, List.getElem_cons_zero])
    refine wpAnyH_take (i := 32) (v := ?_) rfl (by kernel_rfl) (by kernel_rfl) (by kernel_rfl) (fun _ _ _ h => h) (Or.inl ⟨by rfl, ?_⟩) (by assumption) ?_
    rotate_left
    · intro w' hSw
      (try dsimp only at hSw)
      go_simp
      all_goals (try with_reducible rfl)
    (try simp only [Act.put, List.setIfInBounds_toArray, List.set_cons_zero, List.set_cons_succ, List.getElem_toArray, List.getElem_cons_succ, List.getElem_cons_zero])
    refine wpAnyH_take (i := 33) (v := ?_) rfl (by kernel_rfl) (by kernel_rfl) (by kernel_rfl) (fun _ _ _ h => h) (Or.inl ⟨by rfl, ?_⟩) (by assumption) ?_
    rotate_left
    · intro w' hSw
      (try dsimp only at hSw)
      go_simp
      all_goals (try with_reducible rfl)
    (try simp only [Act.put, List.setIfInBounds_toArray, List.set_cons_zero, List.set_cons_succ, List.getElem_toArray, List.getElem_cons_succ, List.getElem_cons_zero])
    refine wpAnyH_take (i := 34) (v := ?_) rfl (by kernel_rfl) (by kernel_rfl) (by kernel_rfl) (fun _ _ _ h => h) (Or.inl ⟨by rfl, ?_⟩) (by assumption) ?_
    rotate_left
    · intro w' hSw
      (try dsimp only at hSw)
      go_simp
      all_goals (try with_reducible rfl)
    (try simp only [Act.put, List.setIfInBounds_toArray, List.set_cons_zero, List.set_cons_succ, List.getElem_toArray, List.getElem_cons_succ, List.getElem_cons_zero])
    refine wpAnyH_take (i := 35) (v := ?_) rfl (by kernel_rfl) (by kernel_rfl) (by kernel_rfl) (fun _ _ _ h => h) (Or.inl ⟨by rfl, ?_⟩) (by assumption) ?_
    rotate_left
    · intro w' hSw
      (try dsimp only at hSw)
      go_simp
      all_goals (try with_reducible rfl)
    (try simp only [Act.put, List.setIfInBounds_toArray, List.set_cons_zero, List.set_cons_succ, List.getElem_toArray, List.getElem_cons_succ, List.getElem_cons_zero])
    refine wpAnyH_take (i := 36) (v := ?_) rfl (by kernel_rfl) (by kernel_rfl) (by kernel_rfl) (fun _ _ _ h => h) (Or.inl ⟨by rfl, ?_⟩) (by assumption) ?_
    rotate_left
    · intro w' hSw
      (try dsimp only at hSw)
      go_simp
      all_goals (try with_reducible rfl)
    (try simp only [Act.put, List.setIfInBounds_toArray, List.set_cons_zero, List.set_cons_succ, List.getElem_toArray, List.getElem_cons_succ, List.getElem_cons_zero])
    refine wpAnyH_take (i := 37) (v := ?_) rfl (by kernel_rfl) (by kernel_rfl) (by kernel_rfl) (fun _ _ _ h => h) (Or.inl ⟨by rfl, ?_⟩) (by assumption) ?_
    rotate_left
    · intro w' hSw
      (try dsimp only at hSw)
      go_simp
      all_goals (try with_reducible rfl)
    (try simp only [Act.put, List.setIfInBounds_toArray, List.set_cons_zero, List.set_cons_succ, List.getElem_toArray, List.getElem_cons_succ, List.getElem_cons_zero])
    refine wpAnyH_take (i := 38) (v := ?_) rfl (by kernel_rfl) (by kernel_rfl) (by kernel_rfl) (fun _ _ _ h => h) (Or.inl ⟨by rfl, ?_⟩) (by assumption) ?_
    rotate_left
    · intro w' hSw
      (try dsimp only at hSw)
      go_simp
      all_goals (try with_reducible rfl)
    (try simp only [Act.put, List.setIfInBounds_toArray, List.set_cons_zero, List.set_cons_succ, List.getElem_toArray, List.getElem_cons_succ, List.getElem_cons_zero])
    refine wpAnyH_done (by kernel_rfl) ?_ _
    go_wp2
    go_ret
    exact ⟨rfl, by repeat (first | exact H5.out | apply below_alloc | apply below_drew | apply pw_below_drewN)⟩
set_option maxHeartbeats 1000000 in
set_option maxRecDepth 100000 in
theorem same_law (a b x y : Int) (w : World) (hwa : (Lit.int .i64 a).wf = true) (hwb : (Lit.int .i64 b).wf = true) (hwx : (Lit.int .i64 x).wf = true) (hwy : (Lit.int .i64 y).wf = true) : Calls Try.prog 11 #[.int .i64 a, .int .i64 b, .int .i64 x, .int .i64 y] w fun e w' => e = .returned (.bool true) ∧ Below w.heap.size w w' := by
  clear hwa hwb hwx hwy
  by_cases ha : a = 0
  · subst ha
    go_enter Try.func11, Try.ntmps11
    go_wp2_with fail
    refine (alive_one _).mono ?_
    rintro e w1 ⟨rfl, hb1⟩
    go_wp2
    go_ret
    exact ⟨rfl, hb1⟩
  · by_cases hb : b = 0
    · subst hb
      have ha0 : (a == (0 : Int)) = false := beq_eq_false_iff_ne.2 ha
      clear ha
      go_enter Try.func11, Try.ntmps11
      go_wp2_with fail
      refine (alive_one _).mono ?_
      rintro e w1 ⟨rfl, hb1⟩
      go_wp2
      go_ret
      exact ⟨rfl, hb1⟩
    · refine same_core a b x y w ha hb ?_
      by_cases h : a = b
      · by_cases h' : x = y
        · exact Or.inl ⟨h, h'⟩
        · exact Or.inr (Or.inl ⟨h, h'⟩)
      · exact Or.inr (Or.inr h)
end Go.Proofs.Ytbnoeoghhbhhcaa
