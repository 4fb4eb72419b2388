/- The law BlockJoins. -/
import Derived.Test.YtoenlkoofpnagaaDict13
set_option linter.unusedVariables false
set_option linter.unusedSimpArgs false
namespace Go.Proofs.Ytoenlkoofpnagaa
open Go.RowKit Go.Proofs.Ytoenlkoofpnagaa.Spec Go.Proofs.YtoenlkoofpnagaaW.PrintWords Go.Proofs.YtoenlkoofpnagaaW.PrintLast
open Go.Proofs.YtoenlkoofpnagaaW.PrintMore
attribute [local go_sem ↓] Go.wp_at_zero Go.wp_at_succ
theorem one_ints (l : List Int) : ∀ u ∈ encs (Value.int .i64) l, u.oneCell' = true := by
  intro u hu
  obtain ⟨x, _, rfl⟩ := List.mem_map.1 hu
  rfl
/-- append(v, l...), v a row of one's own, l an argument's row, not empty. -/
theorem wpList_append_ints {ops : Array Oper} {o : Oper} {rest : List Oper} {a : Act} {Q : Exit → Act → World → Prop} {w0 W : World} (base : Nat) (hg : o.guard = none) (s x : Operand)
    (ho : o.op = .call { callee := .builtin .append, args := #[s, x], argTypes := #[23, 23] })
    (v : Value) (xs l : List Int) (hs : a.eval s = v) {A : Option Addr} {c : Nat} (hx : a.eval x = .slice A l.length c) (HO : W.ownsRow base 3 1 v xs.length (encs (Value.int .i64) xs)) (hr : (Kd.int .i64).C W A l.length l) (hne : l ≠ []) (hl : (xs.length + l.length) * 8 ≤ 140737488355328)
    (HB : Below base w0 W) (hbase : base ≤ W.heap.size)
    (h : ∀ v1 w1, w1.ownsRow base 3 1 v1 (xs ++ l).length (encs (Value.int .i64) (xs ++ l)) → Below base w0 w1 → wpList Try.prog ops Q rest (a.put o.dst v1) w1) :
    wpList Try.prog ops Q (o :: rest) a W := by
  obtain ⟨i, hi, hii⟩ := Option.map_eq_some_iff.1 Leaf.info3
  simp only [Prod.mk.injEq] at hii
  obtain ⟨hz, hsz, hby⟩ := hii
  have h1 := Kd.reads_of_C (enc := (Value.int .i64)) (d := (0 : Int)) (h1 := fun _ => rfl) hr
  have hpos : 0 < l.length := List.length_pos_iff.2 hne
  refine wpList_plain hg fun K hK => ?_
  unfold Oper.wp execOp
  obtain ⟨ad, rfl, hcell⟩ := h1.2.2 hpos
  have hnews : ∀ (j : Nat) (u : Value), (encs (Value.int .i64) l)[j]? = some u → W.cell? (ad.add j) = some u := by
    intro j u hj
    unfold encs at hj
    rw [List.getElem?_map] at hj
    cases hl2 : l[j]? with
    | none => rw [hl2] at hj; cases hj
    | some s2 =>
      rw [hl2] at hj
      obtain ⟨hlt, _⟩ := List.getElem?_eq_some_iff.1 hl2
      rw [hcell j hlt, List.getD_eq_getElem?_getD, hl2]
      exact hj
  obtain ⟨v', w', hrun, hown, hgr, _⟩ := run_append_own (P := Try.prog) W base 23 o.type 3 i (.int .i64 0) 1 8 Try.underlying23 hi hz hsz hby rfl (by omega) v xs.length (encs (Value.int .i64) xs) HO ad l.length c (encs (Value.int .i64) l) (by rw [encs_length]; omega) hnews (one_ints l) (by simp only [maxLen]; omega) hl hbase
  simp only [ho, resolve, invoke, builtin, Sem.run_bind, Sem.run_pure, Result.andThen_ok, List.map_toArray, List.map_cons, List.map_nil, hs, hx, hrun]
  refine hK _ _ (h v' w' ?_ (HB.grown hgr hbase (own_base HO)))
  have e1 : (xs ++ l).length = xs.length + l.length := List.length_append
  have e2 : encs (Value.int .i64) (xs ++ l) = encs (Value.int .i64) xs ++ encs (Value.int .i64) l := List.map_append
  rw [e1, e2]
  exact hown
set_option maxHeartbeats 2000000 in
set_option maxRecDepth 100000 in
theorem joins_not {A A1 A2 : Option Addr} {c c1 c2 : Nat} (l : List ByteArray) (ta tb : List Int) (w : World) (hr : StrsIn w A l) (hc : l.length ≤ c) (hl : l.length ≤ 140737488351232) (hsz : ∀ s ∈ l, s.size ≤ 140737488351232) (hra : IntsIn w A1 ta) (hca : ta.length ≤ c1) (hrb : IntsIn w A2 tb) (hcb : tb.length ≤ c2) (hla : ta.length ≤ 140737488355328) (hlb : tb.length ≤ 140737488355328) (h : ¬ Given l ⟨#[]⟩) : Calls Try.prog 3 #[.slice A l.length c, .slice A1 ta.length c1, .slice A2 tb.length c2] w fun e w' => e = .returned (.bool true) ∧ Below w.heap.size w w' := by
  have H := Aside0.mk (dict13_no l ⟨#[]⟩ w hr hc hl hsz h)
  clear hr hc hl hsz hra hca hrb hcb hla hlb h
  go_enter Try.func3, Try.ntmps3
  go_wp2_with fail
  refine H.out.mono ?_
  rintro e w1 ⟨rfl, hb1⟩
  have H1 := Aside0.mk hb1
  clear hb1
  go_wp2_with fail
  refine (alive22 _).mono ?_
  rintro e w2 ⟨rfl, hb2⟩
  have H2 := Aside0.mk (below_step H1.out hb2)
  clear hb2
  go_wp2
  go_ret
  exact ⟨rfl, H2.out⟩
set_option maxHeartbeats 2000000 in
set_option maxRecDepth 100000 in
theorem joins_long {A A1 A2 : Option Addr} {c c1 c2 : Nat} (l : List ByteArray) (ta tb : List Int) (w : World) (hr : StrsIn w A l) (hc : l.length ≤ c) (hl : l.length ≤ 140737488351232) (hsz : ∀ s ∈ l, s.size ≤ 140737488351232) (hra : IntsIn w A1 ta) (hca : ta.length ≤ c1) (hrb : IntsIn w A2 tb) (hcb : tb.length ≤ c2) (hla : ta.length ≤ 140737488355328) (hlb : tb.length ≤ 140737488355328) (h : Given l ⟨#[]⟩) (hn : 200 < ta.length + tb.length) : Calls Try.prog 3 #[.slice A l.length c, .slice A1 ta.length c1, .slice A2 tb.length c2] w fun e w' => e = .returned (.bool true) ∧ Below w.heap.size w w' := by
  have H := Aside0.mk (dict13_yes l ⟨#[]⟩ w hr hc hl hsz h)
  have q1 : wrap64 ((ta.length : Int) + (tb.length : Int)) = (ta.length : Int) + (tb.length : Int) := Bridge.wr (by omega) (by omega)
  have d1 : decide ((200 : Int) < (ta.length : Int) + (tb.length : Int)) = true := decide_eq_true (by omega)
  clear hr hc hl hsz hra hca hrb hcb hla hlb h hn
  go_enter Try.func3, Try.ntmps3
  go_wp2_with fail
  refine H.out.mono ?_
  rintro e w1 ⟨ad, rfl, hd, hb1⟩
  have H1 := Aside0.mk hb1
  clear hb1 hd
  go_wp2_with fail
  refine (alive22 _).mono ?_
  rintro e w2 ⟨rfl, hb2⟩
  have H2 := Aside0.mk (below_step H1.out hb2)
  clear hb2
  go_wp2
  go_ret
  exact ⟨rfl, H2.out⟩
set_option maxHeartbeats 4000000 in
set_option maxRecDepth 100000 in
theorem joins_short {A A1 A2 : Option Addr} {c c1 c2 : Nat} (l : List ByteArray) (ta tb : List Int) (w : World) (hr : StrsIn w A l) (hc : l.length ≤ c) (hl : l.length ≤ 140737488351232) (hsz : ∀ s ∈ l, s.size ≤ 140737488351232) (hra : IntsIn w A1 ta) (hca : ta.length ≤ c1) (hrb : IntsIn w A2 tb) (hcb : tb.length ≤ c2) (hla : ta.length ≤ 140737488355328) (hlb : tb.length ≤ 140737488355328) (hta : ∀ t ∈ ta, In64 t) (htb : ∀ t ∈ tb, In64 t) (h : Given l ⟨#[]⟩) (hn : ta.length + tb.length ≤ 200) : Calls Try.prog 3 #[.slice A l.length c, .slice A1 ta.length c1, .slice A2 tb.length c2] w fun e w' => e = .returned (.bool true) ∧ Below w.heap.size w w' := by
  have H := Aside0.mk (dict13_yes l ⟨#[]⟩ w hr hc hl hsz h)
  obtain ⟨hl2, hs2⟩ := phrases_sizes h.2.2
  have q1 : wrap64 ((ta.length : Int) + (tb.length : Int)) = (ta.length : Int) + (tb.length : Int) := Bridge.wr (by omega) (by omega)
  have d1 : decide ((200 : Int) < (ta.length : Int) + (tb.length : Int)) = false := decide_eq_false (by omega)
  have HMA := Aside0.mk (fun (W : World) (hr : StrsIn W A l) (hr2 : IntsIn W A1 ta) => rmean_calls l ta hr hc hr2 hca (by omega) hs2 (by omega) hta)
  have HMB := Aside0.mk (fun (W : World) (hr : StrsIn W A l) (hr2 : IntsIn W A2 tb) => rmean_calls l tb hr hc hr2 hcb (by omega) hs2 (by omega) htb)
  have HR := Aside0.mk hr
  have HRA := Aside0.mk hra
  have HRB := Aside0.mk hrb
  have HX := Aside0.mk (show l.length ≤ 100 ∧ ta.length + tb.length ≤ 200 ∧ ta.length ≤ c1 ∧ tb.length ≤ c2 from ⟨hl2, hn, hca, hcb⟩)
  have HS := Aside0.mk hs2
  have HMRA := Aside0.mk (fun x => meanR_ok l 500 (by decide) ta ⟨#[]⟩ x (by decide))
  have HMRB := Aside0.mk (fun x => meanR_ok l 500 (by decide) tb ⟨#[]⟩ x (by decide))
  obtain ⟨xa, ea, hxa⟩ : ∃ x e, meanR l 500 ⟨#[]⟩ ta = (x, e) := ⟨_, _, rfl⟩
  obtain ⟨xb, eb, hxb⟩ : ∃ x e, meanR l 500 ⟨#[]⟩ tb = (x, e) := ⟨_, _, rfl⟩
  rw [hxa] at HMA HMRA
  rw [hxb] at HMB HMRB
  clear hr hc hl hsz hra hca hrb hcb hla hlb h hn hta htb hl2 hs2 hxa hxb
  by_cases hea : ea = 0
  · subst hea
    by_cases heb : eb = 0
    · subst heb
      by_cases hta : ta = []
      · subst hta
        have x2 := HX.out.2.1
        rw [List.length_nil, Nat.zero_add] at x2
        have r1 : wrap64 (tb.length : Int) = (tb.length : Int) := Bridge.wr (by omega) (by omega)
        have r2 : decide ((200 : Int) < (tb.length : Int)) = false := decide_eq_false (by omega)
        clear q1 d1 x2
        go_enter Try.func3, Try.ntmps3
        go_wp2_with fail
        refine H.out.mono ?_
        rintro e w1 ⟨ad, rfl, hd, hb1⟩
        have HD := Aside0.mk hd
        have H1 := Aside0.mk hb1
        clear hb1 hd
        go_wp2_with fail
        refine (alive22 _).mono ?_
        rintro e w2 ⟨rfl, hb2⟩
        have HD2 := Aside0.mk (HD.out.below hb2)
        have H2 := Aside0.mk (below_step H1.out hb2)
        clear hb2
        go_wp2_with fail
        refine (HMA.out _ (Kd.C_below HR.out H2.out) (Kd.C_below HRA.out H2.out)).mono ?_
        rintro e w3 ⟨rfl, hb3⟩
        have HD3 := Aside0.mk (HD2.out.below hb3)
        have H3 := Aside0.mk (below_step H2.out hb3)
        clear hb3
        go_wp2_with fail
        refine (HMB.out _ (Kd.C_below HR.out H3.out) (Kd.C_below HRB.out H3.out)).mono ?_
        rintro e w4 ⟨rfl, hb4⟩
        have HD4 := Aside0.mk (HD3.out.below hb4)
        have H4 := Aside0.mk (below_step H3.out hb4)
        clear hb4
        go_wp2
        go_ret
        exact ⟨rfl, H4.out⟩
      · by_cases htb : tb = []
        · subst htb
          have x2 := HX.out.2.1
          rw [List.length_nil, Nat.add_zero] at x2
          have r1 : wrap64 (ta.length : Int) = (ta.length : Int) := Bridge.wr (by omega) (by omega)
          have r2 : decide ((200 : Int) < (ta.length : Int)) = false := decide_eq_false (by omega)
          clear q1 d1 x2
          have e1 : ((ta.length : Int) == 0) = false := beq_eq_false_iff_ne.2 (by have := List.length_pos_iff.2 hta; omega)
          have e2 : (ta.length == 0) = false := beq_eq_false_iff_ne.2 (by have := List.length_pos_iff.2 hta; omega)
          go_enter Try.func3, Try.ntmps3
          go_wp2_with fail
          refine H.out.mono ?_
          rintro e w1 ⟨ad, rfl, hd, hb1⟩
          have HD := Aside0.mk hd
          have H1 := Aside0.mk hb1
          clear hb1 hd
          go_wp2_with fail
          refine (alive22 _).mono ?_
          rintro e w2 ⟨rfl, hb2⟩
          have HD2 := Aside0.mk (HD.out.below hb2)
          have H2 := Aside0.mk (below_step H1.out hb2)
          clear hb2
          go_wp2_with fail
          refine (HMA.out _ (Kd.C_below HR.out H2.out) (Kd.C_below HRA.out H2.out)).mono ?_
          rintro e w3 ⟨rfl, hb3⟩
          have HD3 := Aside0.mk (HD2.out.below hb3)
          have H3 := Aside0.mk (below_step H2.out hb3)
          clear hb3
          go_wp2_with fail
          refine (HMB.out _ (Kd.C_below HR.out H3.out) (Kd.C_below HRB.out H3.out)).mono ?_
          rintro e w4 ⟨rfl, hb4⟩
          have HD4 := Aside0.mk (HD3.out.below hb4)
          have H4 := Aside0.mk (below_step H3.out hb4)
          clear hb4
          go_wp2
          go_ret
          exact ⟨rfl, H4.out⟩
        · have e1 : ((ta.length : Int) == 0) = false := beq_eq_false_iff_ne.2 (by have := List.length_pos_iff.2 hta; omega)
          have e2 : (ta.length == 0) = false := beq_eq_false_iff_ne.2 (by have := List.length_pos_iff.2 hta; omega)
          have g1 : ((tb.length : Int) == 0) = false := beq_eq_false_iff_ne.2 (by have := List.length_pos_iff.2 htb; omega)
          have g2 : (tb.length == 0) = false := beq_eq_false_iff_ne.2 (by have := List.length_pos_iff.2 htb; omega)
          obtain ⟨ka, hca, hza⟩ := HMRA.out xa rfl
          obtain ⟨kb, hcb, hzb⟩ := HMRB.out xb rfl
          rw [ba_nil_append] at hca hcb
          obtain ⟨x1, x2, x3, x4⟩ := HX.out
          have hcat : cat l (ta ++ tb) = xa ++ xb := by rw [cat_append, ← hca, ← hcb]
          have hall : ∀ t ∈ ta ++ tb, Tok l t := fun t ht => (List.mem_append.1 ht).elim (ka t) (kb t)
          have hsize : (cat l (ta ++ tb)).size = xa.size + xb.size := by rw [hcat, ByteArray.size_append]
          have hpos1 := cat_size HS.out ka
          have hpos2 := List.length_pos_iff.2 hta
          rw [← hca] at hpos1
          have hnum : str (nums2 (ta ++ tb)) = str (nums2 ta) ++ str (nums2 tb) := by rw [nums2_append, str_append]
          have HLA := Aside0.mk (fun (W : World) (p : Value) (h : DictAt W p l) (hr : IntsIn W A1 ta) => lay_nums ta h (by omega) HS.out hr x3 (by omega) hta ka)
          have HLB := Aside0.mk (fun (W : World) (p : Value) (h : DictAt W p l) (hr : IntsIn W A2 tb) => lay_nums tb h (by omega) HS.out hr x4 (by omega) htb kb)
          have HG := Aside0.mk (fun (W : World) (p : Value) (h : DictAt W p l) => get_nums (ta ++ tb) h (by omega) HS.out hall (by rw [hsize]; omega) (by rw [hsize]; omega))
          have HLJ := Aside0.mk (fun (W : World) (p : Value) (A9 : Option Addr) (c9 : Nat) (h : DictAt W p l) (hr : IntsIn W A9 (ta ++ tb)) (hc : (ta ++ tb).length ≤ c9) => lay_nums (ta ++ tb) h (by omega) HS.out hr hc (by rw [List.length_append]; omega) (fun e => hta (List.append_eq_nil_iff.1 e).1) hall)
          rw [hcat, hnum, ByteArray.size_append] at HG
          rw [hnum] at HLJ
          have q2 : wrap64 ((xa.size : Int) + (xb.size : Int)) = ((xa.size + xb.size : Nat) : Int) := by rw [Bridge.wr (by omega) (by omega)]; omega
          have hna := nums2_size (l := l) (by omega) ta ka
          have hnb := nums2_size (l := l) (by omega) tb kb
          have q3 : ¬ 9223372036854775807 < (str (nums2 ta)).size + (str (nums2 tb)).size := by rw [← u_size, ← u_size, u_str, u_str]; omega
          have q4 : ¬ 9223372036854775807 < xa.size + xb.size := by omega
          generalize str (nums2 ta) = sa at *
          generalize str (nums2 tb) = sb at *
          have HTA := Aside0.mk hta
          have HTB := Aside0.mk htb
          have m1 : (ta.length + 0) * 8 ≤ 140737488355328 := by omega
          have m2 : (0 + ta.length) * 8 ≤ 140737488355328 := by omega
          have m3 : (ta.length + tb.length) * 8 ≤ 140737488355328 := by omega
          have M := Aside0.mk (And.intro m2 m3)
          clear ka kb hca hcb hza hzb x1 x2 x3 x4 hcat hall hsize hpos1 hpos2 hnum hna hnb hta htb m1 m2 m3
          go_enter Try.func3, Try.ntmps3
          go_wp2_with fail
          refine H.out.mono ?_
          rintro e w1 ⟨ad, rfl, hd, hb1⟩
          have HD := Aside0.mk hd
          have H1 := Aside0.mk hb1
          clear hb1 hd
          go_wp2_with fail
          refine (alive22 _).mono ?_
          rintro e w2 ⟨rfl, hb2⟩
          have HD2 := Aside0.mk (HD.out.below hb2)
          have H2 := Aside0.mk (below_step H1.out hb2)
          clear hb2
          go_wp2_with fail
          refine (HMA.out _ (Kd.C_below HR.out H2.out) (Kd.C_below HRA.out H2.out)).mono ?_
          rintro e w3 ⟨rfl, hb3⟩
          have HD3 := Aside0.mk (HD2.out.below hb3)
          have H3 := Aside0.mk (below_step H2.out hb3)
          clear hb3
          go_wp2_with fail
          refine (HMB.out _ (Kd.C_below HR.out H3.out) (Kd.C_below HRB.out H3.out)).mono ?_
          rintro e w4 ⟨rfl, hb4⟩
          have HD4 := Aside0.mk (HD3.out.below hb4)
          have H4 := Aside0.mk (below_step H3.out hb4)
          clear hb4
          go_wp2_with fail
          refine (HLA.out _ _ HD4.out (Kd.C_below HRA.out H4.out)).mono ?_
          rintro e w5 ⟨rfl, hb5⟩
          have HD5 := Aside0.mk (HD4.out.below hb5)
          have H5 := Aside0.mk (below_step H4.out hb5)
          clear hb5
          go_wp2_with fail
          refine (HLB.out _ _ HD5.out (Kd.C_below HRB.out H5.out)).mono ?_
          rintro e w6 ⟨rfl, hb6⟩
          have HD6 := Aside0.mk (HD5.out.below hb6)
          have H6 := Aside0.mk (below_step H5.out hb6)
          clear hb6
          go_wp2_with fail
          refine (HG.out _ _ HD6.out).mono ?_
          rintro e w7 ⟨rfl, hb7⟩
          have HD7 := Aside0.mk (HD6.out.below hb7)
          have H7 := Aside0.mk (below_step H6.out hb7)
          have HRA7 := Aside0.mk (Kd.C_below HRA.out H7.out)
          have HRB7 := Aside0.mk (Kd.C_below HRB.out H7.out)
          clear hb7
          go_wp2_with (first
            | (at_builtin; refine wpList_append_ints w7.heap.size rfl (.const (.slice none 0 0)) (.tmp 98) rfl (.slice none 0 0) [] ta rfl rfl (own_nil _ _ _ _) HRA7.out HTA.out M.out.1 (Below.refl _ _) (Nat.le_refl _) ?_; intro v8 w8 hown8 hb8; obtain ⟨A8, c8, rfl⟩ := own_slice hown8; have HO8 := Aside0.mk hown8; have HB8 := Aside0.mk hb8; clear hown8 hb8)
            | (at_builtin; refine wpList_append_ints w7.heap.size rfl (.tmp 99) (.tmp 100) rfl (.slice A8 ([] ++ ta).length c8) ta tb rfl rfl HO8.out (Kd.C_below HRB7.out HB8.out) HTB.out M.out.2 HB8.out HB8.out.size ?_; intro v9 w9 hown9 hb9; obtain ⟨A9, c9, rfl⟩ := own_slice hown9; have HO9 := Aside0.mk hown9; have HB9 := Aside0.mk hb9; clear hown9 hb9))
          obtain ⟨_, hc9, hC9⟩ := Kd.R_reads' (Kd.R_of_own (h1 := fun _ => rfl) (ok := fun _ => True) HO9.out (fun _ _ => trivial))
          have hcall := HLJ.out w9 (.pointer (some ad)) A9 c9 (HD7.out.below HB9.out) hC9 hc9
          rw [List.length_append] at hcall
          refine hcall.mono ?_
          rintro e w10 ⟨rfl, hb10⟩
          have H10 := Aside0.mk (below_step H7.out (below_step HB9.out hb10))
          clear hb10 hcall hc9 hC9
          go_wp2
          go_ret
          exact ⟨rfl, H10.out⟩
    · have f1 : (eb == 0) = false := beq_eq_false_iff_ne.2 heb
      have f2 : decide (eb = 0) = false := decide_eq_false heb
      go_enter Try.func3, Try.ntmps3
      go_wp2_with fail
      refine H.out.mono ?_
      rintro e w1 ⟨ad, rfl, hd, hb1⟩
      have HD := Aside0.mk hd
      have H1 := Aside0.mk hb1
      clear hb1 hd
      go_wp2_with fail
      refine (alive22 _).mono ?_
      rintro e w2 ⟨rfl, hb2⟩
      have HD2 := Aside0.mk (HD.out.below hb2)
      have H2 := Aside0.mk (below_step H1.out hb2)
      clear hb2
      go_wp2_with fail
      refine (HMA.out _ (Kd.C_below HR.out H2.out) (Kd.C_below HRA.out H2.out)).mono ?_
      rintro e w3 ⟨rfl, hb3⟩
      have HD3 := Aside0.mk (HD2.out.below hb3)
      have H3 := Aside0.mk (below_step H2.out hb3)
      clear hb3
      go_wp2_with fail
      refine (HMB.out _ (Kd.C_below HR.out H3.out) (Kd.C_below HRB.out H3.out)).mono ?_
      rintro e w4 ⟨rfl, hb4⟩
      have HD4 := Aside0.mk (HD3.out.below hb4)
      have H4 := Aside0.mk (below_step H3.out hb4)
      clear hb4
      go_wp2
      go_ret
      exact ⟨rfl, H4.out⟩
  · have f1 : (ea == 0) = false := beq_eq_false_iff_ne.2 hea
    have f2 : decide (ea = 0) = false := decide_eq_false hea
    go_enter Try.func3, Try.ntmps3
    go_wp2_with fail
    refine H.out.mono ?_
    rintro e w1 ⟨ad, rfl, hd, hb1⟩
    have HD := Aside0.mk hd
    have H1 := Aside0.mk hb1
    clear hb1 hd
    go_wp2_with fail
    refine (alive22 _).mono ?_
    rintro e w2 ⟨rfl, hb2⟩
    have HD2 := Aside0.mk (HD.out.below hb2)
    have H2 := Aside0.mk (below_step H1.out hb2)
    clear hb2
    go_wp2_with fail
    refine (HMA.out _ (Kd.C_below HR.out H2.out) (Kd.C_below HRA.out H2.out)).mono ?_
    rintro e w3 ⟨rfl, hb3⟩
    have HD3 := Aside0.mk (HD2.out.below hb3)
    have H3 := Aside0.mk (below_step H2.out hb3)
    clear hb3
    go_wp2_with fail
    refine (HMB.out _ (Kd.C_below HR.out H3.out) (Kd.C_below HRB.out H3.out)).mono ?_
    rintro e w4 ⟨rfl, hb4⟩
    have HD4 := Aside0.mk (HD3.out.below hb4)
    have H4 := Aside0.mk (below_step H3.out hb4)
    clear hb4
    go_wp2
    go_ret
    exact ⟨rfl, H4.out⟩
theorem blockJoins_law (A : Option Addr) (c : Nat) (l : List ByteArray) (A1 : Option Addr) (c1 : Nat) (ta : List Int) (A2 : Option Addr) (c2 : Nat) (tb : List Int) (w : World) (hr : StrsIn w A l) (hc : l.length ≤ c) (hl16 : l.length * 16 ≤ 140737488351232) (hsz : ∀ s ∈ l, s.size ≤ 140737488351232) (hra : IntsIn w A1 ta) (hca : ta.length ≤ c1) (hla : ta.length ≤ 140737488355328) (hta : ∀ t ∈ ta, In64 t) (hrb : IntsIn w A2 tb) (hcb : tb.length ≤ c2) (hlb : tb.length ≤ 140737488355328) (htb : ∀ t ∈ tb, In64 t) :
    Calls Try.prog 3 #[.slice A l.length c, .slice A1 ta.length c1, .slice A2 tb.length c2] w fun e w' => e = .returned (.bool true) ∧ Below w.heap.size w w' := by
  by_cases h : Given l ⟨#[]⟩
  · by_cases hn : ta.length + tb.length ≤ 200
    · exact joins_short l ta tb w hr hc (by omega) hsz hra hca hrb hcb hla hlb hta htb h hn
    · exact joins_long l ta tb w hr hc (by omega) hsz hra hca hrb hcb hla hlb h (by omega)
  · exact joins_not l ta tb w hr hc (by omega) hsz hra hca hrb hcb hla hlb h
end Go.Proofs.Ytoenlkoofpnagaa
