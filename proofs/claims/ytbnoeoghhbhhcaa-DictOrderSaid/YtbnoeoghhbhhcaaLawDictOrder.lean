/- DictOrder: in another order phrases have other ids, and the dictionary another name. -/
import Derived.Test.YtbnoeoghhbhhcaaDictH
import Derived.Deep.RegionHeld3
set_option linter.unusedVariables false
set_option linter.unusedSimpArgs false
namespace Go.Proofs.Ytbnoeoghhbhhcaa
open Go.RowKit Go.Proofs.Ytbnoeoghhbhhcaa.Spec Go.Proofs.YtbnoeoghhbhhcaaW.PrintWords Go.Proofs.YtbnoeoghhbhhcaaW.PrintLast
open Go.Proofs.YtbnoeoghhbhhcaaW.PrintMore
/-! ### two phrases change places -/
def swp (l : List ByteArray) (i k : Nat) : List ByteArray := (l.set i (rdOf ByteArray.empty l (k : Int))).set k (rdOf ByteArray.empty l (i : Int))
theorem rd_nat {l : List ByteArray} {i : Nat} (h : i < l.length) : rdOf ByteArray.empty l (i : Int) = l[i] := by
  unfold rdOf
  rw [Int.toNat_natCast, List.getD_eq_getElem?_getD, List.getElem?_eq_getElem h]
  rfl
theorem swp_perm {l : List ByteArray} {i k : Nat} (hi : i < l.length) (hk : k < l.length) : (swp l i k).Perm l := by
  unfold swp
  rw [rd_nat hi, rd_nat hk]
  exact List.set_set_perm hi hk
theorem total_perm {a b : List ByteArray} (h : a.Perm b) : total a = total b := by
  induction h with
  | nil => rfl
  | cons x _ ih => simp only [total]; omega
  | swap x y l => simp only [total]; omega
  | trans _ _ h1 h2 => omega
theorem body_perm {a b : List ByteArray} (h : a.Perm b) : (body a).length = (body b).length := by
  induction h with
  | nil => rfl
  | cons x _ ih => simp only [body, List.length_append]; omega
  | swap x y l => simp only [body, List.length_append]; omega
  | trans _ _ h1 h2 => omega
theorem bytes_perm {a b : List ByteArray} (h : a.Perm b) : (Spec.bytes a).length = (Spec.bytes b).length := by
  unfold Spec.bytes
  have h1 := h.length_eq
  have h2 := body_perm h
  first
    | (rw [List.length_append, List.length_append, h1, h2])
    | (split <;> split <;> simp_all)
theorem may_perm {a b : List ByteArray} (h : a.Perm b) (hm : May 0 [] b) : May 0 [] a :=
  ⟨fun s hs => hm.1 s (h.mem_iff.1 hs), by rw [total_perm h]; exact hm.2.1, h.nodup_iff.2 hm.2.2.1, fun s _ => by simp⟩
theorem phr_swp {l : List ByteArray} {i k : Nat} (hi : i < l.length) (hk : k < l.length) (h : (phrases l).1 = 0) : (phrases (swp l i k)).1 = 0 := by
  have hp := swp_perm hi hk
  obtain ⟨h1, h2⟩ := (phrases_ok l).1 h
  exact (phrases_ok _).2 ⟨by rw [hp.length_eq]; exact h1, may_perm hp h2⟩
theorem swp_len {l : List ByteArray} {i k : Nat} : (swp l i k).length = l.length := by
  unfold swp; rw [List.length_set, List.length_set]
theorem swp_at {l : List ByteArray} {i k : Nat} (hi : i < l.length) (hk : k < l.length) : (swp l i k)[k]? = some (rdOf ByteArray.empty l (i : Int)) := by
  unfold swp
  rw [List.getElem?_set_self (by rw [List.length_set]; exact hk)]
theorem swp_same {l : List ByteArray} {i : Nat} (hi : i < l.length) : swp l i i = l := by
  unfold swp
  rw [rd_nat hi, List.set_set, List.set_getElem_self]
theorem swp_ne {l : List ByteArray} {i k : Nat} (hi : i < l.length) (hk : k < l.length) (hn : l.Nodup) (h : swp l i k = l) : i = k := by
  have h1 := swp_at hi hk
  rw [h, rd_nat hi, List.getElem?_eq_getElem hk] at h1
  injection h1 with h1
  exact ((List.getElem_inj hn).1 h1).symm
theorem swp_bytes {l : List ByteArray} {i k : Nat} (hi : i < l.length) (hk : k < l.length) (h : (phrases l).1 = 0) : (str (Spec.bytes (swp l i k)) = str (Spec.bytes l)) ↔ i = k := by
  obtain ⟨h1, h2⟩ := (phrases_ok l).1 h
  constructor
  · intro he
    have he : Spec.bytes (swp l i k) = Spec.bytes l := by
      have := congrArg u he
      rwa [u_str, u_str] at this
    refine swp_ne hi hk h2.2.2.1 (bytes_inj ?_ (may_small h2) (by rw [swp_len]; omega) (by omega) he)
    exact may_small (may_perm (swp_perm hi hk) h2)
  · rintro rfl
    rw [swp_same hi]
theorem own_addr {w : World} {base n : Nat} {e : TypeId} {size : Nat} {v : Value} {xs : List Value} (h : w.ownsRow base e size v n xs) (hn : 0 < n) : ∃ g c, v = .slice (some ⟨g, 0, none⟩) n c ∧ base ≤ g ∧ n ≤ c := by
  obtain ⟨_, h | ⟨g, cap, cur, e1, e2, _, e3, _⟩⟩ := h
  · exact absurd h.2 (by omega)
  · exact ⟨g, cap, e1, e2, e3⟩
theorem append_allL {P : Program} {ops : Array Oper} {o : Oper} {rest : List Oper} {a : Act} {Q : Exit → Act → World → Prop} {W : World} (hg : o.guard = none) (s x : Operand) (t e : TypeId)
    (ho : o.op = .call { callee := .builtin .append, args := #[s, x], argTypes := #[t, t] })
    (ht : P.underlying t = some (.slice e)) (hinfo : (P.info? e).map (fun i => (i.zero, i.size, i.bytes)) = some (some (.string ⟨#[]⟩), 1, 16))
    (l : List ByteArray) (hs : a.eval s = .slice none 0 0) {A : Option Addr} {c : Nat} (hx : a.eval x = .slice A l.length c) (hr : StrsIn W A l) (hne : 0 < l.length) (hl : l.length * 16 ≤ 140737488355328)
    (h : ∀ g c1 w1, Kd.R Kd.string e w1 W.heap.size (fun _ => True) (.slice (some ⟨g, 0, none⟩) l.length c1) l → l.length ≤ c1 → W.heap.size ≤ g → Below W.heap.size W w1 → wpList P ops Q rest (a.put o.dst (.slice (some ⟨g, 0, none⟩) l.length c1)) w1) :
    wpList P ops Q (o :: rest) a W := by
  obtain ⟨i, hi, hii⟩ := Option.map_eq_some_iff.1 hinfo
  simp only [Prod.mk.injEq] at hii
  obtain ⟨hz, hsz, hby⟩ := hii
  have h1 := Kd.reads_of_C (enc := Value.string) (d := ByteArray.empty) (h1 := fun _ => rfl) hr
  obtain ⟨ad, rfl, hcell⟩ := h1.2.2 hne
  refine wpList_append_grows W hg s x t ho e i (.string ⟨#[]⟩) 1 16 ht hi hz hsz hby rfl (by omega) none 0 0 [] hs (fun _ => ⟨rfl, rfl⟩) rfl (fun b hb => by cases hb) ad l.length c (l.map Value.string) hx (by simp) ?_ ?_ (by omega) (by have : maxLen = 9223372036854775807 := rfl; omega) (by omega) ?_
  · intro j u hj
    rw [List.getElem?_map] at hj
    cases hl2 : l[j]? with
    | none => rw [hl2] at hj; cases hj
    | some s2 =>
      rw [hl2] at hj
      obtain ⟨hlt, _⟩ := List.getElem?_eq_some_iff.1 hl2
      rw [hcell j hlt, List.getD_eq_getElem?_getD, hl2]
      exact hj
  · intro u hu
    obtain ⟨s2, _, rfl⟩ := List.mem_map.1 hu
    rfl
  · intro v' w' hown hgr
    rw [Nat.zero_add, List.nil_append] at hown
    obtain ⟨g, c1, rfl, hgl, hc1⟩ := own_addr hown hne
    refine h g c1 w' (Kd.R_of_own (h1 := fun _ => rfl) (enc := Value.string) ?_ (fun _ _ => trivial)) hc1 hgl ((Below.refl _ _).grown hgr (Nat.le_refl _) (fun k hk => by cases hk))
    exact hown
theorem turn_it (k : Int) (n : Nat) (h : 0 < n) (hn : n < 4611686018427387904) : ∃ j : Nat, Int.tmod (wrap64 (Int.tmod k (n : Int) + (n : Int))) (n : Int) = (j : Int) ∧ j < n := by
  have h1 := Int.tmod_lt_of_pos k (b := (n : Int)) (by omega)
  have h2 : -(n : Int) < Int.tmod k (n : Int) := by
    have := Int.tmod_lt_of_pos (-k) (b := (n : Int)) (by omega)
    rw [Int.neg_tmod] at this
    omega
  rw [Bridge.wr (by omega) (by omega)]
  have h3 := Int.tmod_nonneg (a := Int.tmod k (n : Int) + (n : Int)) (n : Int) (by omega)
  have h4 := Int.tmod_lt_of_pos (Int.tmod k (n : Int) + (n : Int)) (b := (n : Int)) (by omega)
  exact ⟨(Int.tmod (Int.tmod k (n : Int) + (n : Int)) (n : Int)).toNat, by omega, by omega⟩
set_option maxHeartbeats 2000000 in
set_option maxRecDepth 100000 in
theorem order_tail (A : Option Addr) (c : Nat) (l : List ByteArray) (i k : Int) (w : World) (hr : StrsIn w A l) (hc : l.length ≤ c) (h16 : l.length * 16 ≤ 140737488351232) (hsz : ∀ s ∈ l, s.size ≤ 140737488351232) (hfew : Bridge.few l = true) (h2 : 2 ≤ l.length) :
    Calls Try.prog 4 #[.slice A l.length c, .int .i64 i, .int .i64 k] w fun e w' => e = .returned (.bool true) ∧ Below w.heap.size w w' := by
  obtain ⟨adA, rfl, _⟩ := Kd.at_string hr 0 (by omega) (by omega)
  have HF := Aside0.mk (few_calls l hr hc (by omega) hsz)
  rw [hfew] at HF
  have HR := Aside0.mk hr
  have HC := Aside0.mk hc
  have HZ := Aside0.mk hsz
  have H16 := Aside0.mk h16
  have H2 := Aside0.mk h2
  have m1 : decide ((l.length : Int) < 2) = false := decide_eq_false (by omega)
  have m2 : decide (l.length < 2) = false := decide_eq_false (by omega)
  have m3 : ¬ (l.length < 2) := by omega
  by_cases hp : (phrases l).1 = 0
  · obtain ⟨i', hi', hil⟩ := turn_it i l.length (by omega) (by omega)
    obtain ⟨k', hk', hkl⟩ := turn_it k l.length (by omega) (by omega)
    have n2 : ((l.length : Int) == 0) = false := beq_eq_false_iff_ne.2 (by omega)
    have n3 : ¬ (l.length : Int) = 0 := by omega
    have HI := Aside0.mk hi'
    have HK := Aside0.mk hk'
    have HIL := Aside0.mk hil
    have HKL := Aside0.mk hkl
    have HP := Aside0.mk hp
    clear hr hfew hsz h16 h2 hi' hk' hil hkl hp hc
    go_enter Try.func4, Try.ntmps4
    go_wp2_with fail
    refine HF.out.mono ?_
    rintro e w1 ⟨rfl, hd1⟩
    have H1 := Aside0.mk hd1.below
    clear hd1
    go_wp2_with fail
    refine (alive_any _).mono ?_
    rintro e w2 ⟨rfl, hb2⟩
    have HH2 := Aside0.mk (below_step H1.out hb2)
    clear hb2
    go_wp2_with fail
    refine (make_yes l _ (Kd.C_below HR.out HH2.out) HC.out HZ.out HP.out).mono ?_
    rintro e w3 ⟨ad, rfl, hd, hb3⟩
    have HD3 := Aside0.mk hd
    have H3 := Aside0.mk (below_step HH2.out hb3)
    clear hb3 hd
    have hi' := HI.out
    have hk' := HK.out
    go_wp2_with fail
    go_quiet (fail)
    clear hi' hk' n2 n3
    have hb4 : Below w.heap.size w (w3.drewN nq) := pw_below_drewN H3.out nq
    have hd4 : DictAt (w3.drewN nq) (.pointer (some ad)) l := HD3.out.below (pw_below_drewN (Below.refl _ _) nq)
    generalize w3.drewN nq = w4 at *
    have H4 := Aside0.mk hb4
    have HD4 := Aside0.mk hd4
    clear hb4 hd4
    go_wp2_with (at_builtin; refine append_allL rfl (.const (.slice none 0 0)) (.tmp 49) 23 9 rfl Try.underlying23 Leaf.info9 l rfl rfl (Kd.C_below HR.out H4.out) (by have := H2.out; omega) (by have := H16.out; omega) ?_; intro g c1 w5 hrow hc1 hg hb5; have HROW := Aside0.mk hrow; have HC1 := Aside0.mk hc1; have HB5 := Aside0.mk hb5; have H5 := Aside0.mk (below_step H4.out hb5); have HD5 := Aside0.mk (HD4.out.below hb5); have HG := Aside0.mk hg; clear hrow hc1 hg hb5)
    have hil := HIL.out
    have hkl := HKL.out
    obtain ⟨ci, fi⟩ := Kd.R_cell ByteArray.empty HROW.out (i' : Int) (by omega) (by omega)
    obtain ⟨ck, fk⟩ := Kd.R_cell ByteArray.empty HROW.out (k' : Int) (by omega) (by omega)
    rw [Int.toNat_natCast] at ci fi ck fk
    have hput := (Kd.R_putg HROW.out (i' : Int) (rdOf ByteArray.empty l (k' : Int))).1
    obtain ⟨cj, fj⟩ := Kd.R_celln ByteArray.empty hput (k' : Int) (by omega) (by omega)
    have hput2 := (Kd.R_putg hput (k' : Int) (rdOf ByteArray.empty l (i' : Int))).1
    rw [Int.toNat_natCast] at cj fj
    rw [Int.toNat_natCast] at cj fj hput2
    rw [Int.toNat_natCast] at hput2
    have HPUT := Aside0.mk hput2
    clear hput hput2
    have b1 : (0 : Int) ≤ (i' : Int) := by omega
    have b2 : (i' : Int) < (l.length : Int) := by omega
    have b3 : (0 : Int) ≤ (k' : Int) := by omega
    have b4 : (k' : Int) < (l.length : Int) := by omega
    go_region
    have hgw : w.heap.size ≤ g := by have := HG.out; have := H4.out.size; omega
    have H6 := Aside0.mk (below_drew ((H5.out.setCell (p := ⟨g, i', none⟩) hgw (.string (rdOf ByteArray.empty l (k' : Int)))).setCell (p := ⟨g, k', none⟩) hgw (.string (rdOf ByteArray.empty l (i' : Int)))))
    have HD6 := Aside0.mk (HD4.out.below (below_drew ((HB5.out.setCell (p := ⟨g, i', none⟩) HG.out (.string (rdOf ByteArray.empty l (k' : Int)))).setCell (p := ⟨g, k', none⟩) HG.out (.string (rdOf ByteArray.empty l (i' : Int))))))
    have HX := Aside0.mk (Kd.R_reads' (Kd.R_drewN HPUT.out 1)).2.2
    have HSW := Aside0.mk (phr_swp hil hkl HP.out)
    have HCC := Aside0.mk (phrases_ok l |>.1 HP.out)
    have hmk := fun W (h : StrsIn W (some ⟨g, 0, none⟩) (swp l i' k')) => make_yes (swp l i' k') W h (c := c1) (by rw [swp_len]; exact HC1.out) (fun x hx => HZ.out x ((swp_perm hil hkl).mem_iff.1 hx)) HSW.out
    rw [swp_len] at hmk
    have HMK := Aside0.mk hmk
    clear hmk ci fi ck fk cj fj hgw
    go_wp2_with fail
    refine (HMK.out _ HX.out).mono ?_
    rintro e w7 ⟨ad7, rfl, hd7, hb7⟩
    have H7 := Aside0.mk (below_step H6.out hb7)
    have HDL7 := Aside0.mk (HD6.out.below hb7)
    have HDX7 := Aside0.mk hd7
    clear hb7 hd7
    obtain ⟨adB, eB, cA⟩ := Kd.at_string (Kd.C_below HR.out H7.out) (i' : Int) (by omega) (by omega)
    injection eB with eB
    subst eB
    rw [Int.toNat_natCast] at cA
    have hcw : (l.length : Int) ≤ (c : Int) := by have := HC.out; omega
    have hsl : (swp l i' k').length = l.length := swp_len
    have HFX := Aside0.mk (fnd_nodup (may_perm (swp_perm hil hkl) HCC.out.2).2.2.1 (swp_at hil hkl))
    have HSB := Aside0.mk (swp_bytes hil hkl HP.out)
    have HSP := Aside0.mk (bytes_perm (swp_perm hil hkl))
    have HSZ := Aside0.mk (fun x (hx : x ∈ swp l i' k') => (may_small (may_perm (swp_perm hil hkl) HCC.out.2) x hx))
    have HM40 := Aside0.mk (may_perm (swp_perm hil hkl) HCC.out.2).1
    have HL100 := Aside0.mk HCC.out.1
    go_wp2_with fail
    refine (find_is HDX7.out (by rw [swp_len]; have := HL100.out; omega) _ k' HFX.out).mono ?_
    rintro e w8 ⟨rfl, hb8⟩
    have H8 := Aside0.mk (below_step H7.out hb8)
    have HDL8 := Aside0.mk (HDL7.out.below hb8)
    have HDX8 := Aside0.mk (HDX7.out.below hb8)
    clear hb8
    go_wp2_with fail
    refine (bytes_any HDX8.out (by rw [swp_len]; exact HL100.out) (fun x hx => by have := (HM40.out x hx).2; omega)).mono ?_
    rintro e w9 ⟨rfl, hb9⟩
    have H9 := Aside0.mk (below_step H8.out hb9)
    have HDL9 := Aside0.mk (HDL8.out.below hb9)
    have HDX9 := Aside0.mk (HDX8.out.below hb9)
    clear hb9
    go_wp2_with fail
    refine (bytes_any HDL9.out HL100.out (fun x hx => by have := (HCC.out.2.1 x hx).2; omega)).mono ?_
    rintro e w10 ⟨rfl, hb10⟩
    have H10 := Aside0.mk (below_step H9.out hb10)
    have HDL10 := Aside0.mk (HDL9.out.below hb10)
    have HDX10 := Aside0.mk (HDX9.out.below hb10)
    clear hb10
    have hq1 := HSB.out
    have hq2 : (str (Spec.bytes (swp l i' k'))).size = (str (Spec.bytes l)).size := by rw [str_size, str_size]; exact HSP.out
    have hq3 : ((str (Spec.bytes (swp l i' k'))).toList == (str (Spec.bytes l)).toList) = ((i' : Int) == (k' : Int)) := by
      by_cases h : i' = k'
      · rw [hq1.2 h, h]; simp
      · rw [beq_eq_false_iff_ne.2 (fun hh => h (hq1.1 (Bridge.str_iff.1 hh))), beq_eq_false_iff_ne.2 (by omega)]
    have hq4 : (str (Spec.bytes (swp l i' k'))).toList = (str (Spec.bytes l)).toList ↔ i' = k' := by rw [Bridge.str_iff]; exact hq1
    have HBX := Aside0.mk (fun W (h : DictAt W (.pointer (some ad7)) (swp l i' k')) => bytes_any h (by rw [swp_len]; exact HL100.out) (fun x hx => by have := (HM40.out x hx).2; omega))
    have HBL := Aside0.mk (fun W (h : DictAt W (.pointer (some ad)) l) => bytes_any h HL100.out (fun x hx => by have := (HCC.out.2.1 x hx).2; omega))
    have HLX := Aside0.mk (fun W (h : DictAt W (.pointer (some ad7)) (swp l i' k')) => len_any h (by rw [swp_len]; have := HL100.out; omega))
    rw [swp_len] at HLX
    clear hq1
    generalize str (Spec.bytes (swp l i' k')) = B1 at *
    generalize str (Spec.bytes l) = B2 at *
    go_wp2_with fail
    refine (HLX.out _ HDX10.out).mono ?_
    rintro e w11 ⟨rfl, hb11⟩
    have H11 := Aside0.mk (below_step H10.out hb11)
    have HDL11 := Aside0.mk (HDL10.out.below hb11)
    have HDX11 := Aside0.mk (HDX10.out.below hb11)
    clear hb11
    go_wp2_with fail
    refine (len_any HDL11.out (by have := HL100.out; omega)).mono ?_
    rintro e w12 ⟨rfl, hb12⟩
    have H12 := Aside0.mk (below_step H11.out hb12)
    have HDL12 := Aside0.mk (HDL11.out.below hb12)
    have HDX12 := Aside0.mk (HDX11.out.below hb12)
    clear hb12
    go_wp2_with fail
    refine (HBX.out _ HDX12.out).mono ?_
    rintro e w13 ⟨rfl, hb13⟩
    have H13 := Aside0.mk (below_step H12.out hb13)
    have HDL13 := Aside0.mk (HDL12.out.below hb13)
    clear hb13
    go_wp2_with fail
    refine (HBL.out _ HDL13.out).mono ?_
    rintro e w14 ⟨rfl, hb14⟩
    have H14 := Aside0.mk (below_step H13.out hb14)
    clear hb14
    go_wp2
    go_ret
    exact ⟨rfl, H14.out⟩
  · clear hr hfew hsz h16 h2 hc
    go_enter Try.func4, Try.ntmps4
    go_wp2_with fail
    refine HF.out.mono ?_
    rintro e w1 ⟨rfl, hd1⟩
    have H1 := Aside0.mk hd1.below
    clear hd1
    go_wp2_with fail
    refine (alive_any _).mono ?_
    rintro e w2 ⟨rfl, hb2⟩
    have HH2 := Aside0.mk (below_step H1.out hb2)
    clear hb2
    go_wp2_with fail
    refine (make_no l _ (Kd.C_below HR.out HH2.out) HC.out HZ.out hp).mono ?_
    rintro e w3 ⟨rfl, hb3⟩
    go_wp2
    go_ret
    exact ⟨rfl, below_step HH2.out hb3⟩
theorem order_law (A : Option Addr) (c : Nat) (l : List ByteArray) (i k : Int) (w : World) (hr : StrsIn w A l) (hc : l.length ≤ c) (h16 : l.length * 16 ≤ 140737488351232) (hsz : ∀ s ∈ l, s.size ≤ 140737488351232) (hi : (Lit.int .i64 i).wf = true) (hk : (Lit.int .i64 k).wf = true) :
    Calls Try.prog 4 #[.slice A l.length c, .int .i64 i, .int .i64 k] w fun e w' => e = .returned (.bool true) ∧ Below w.heap.size w w' := by
  by_cases hfew : Bridge.few l = true
  · by_cases h2 : 2 ≤ l.length
    · exact order_tail A c l i k w hr hc h16 hsz hfew h2
    · have HF := Aside0.mk (few_calls l hr hc (by omega) hsz)
      rw [hfew] at HF
      have m1 : decide ((l.length : Int) < 2) = true := decide_eq_true (by omega)
      have m2 : decide (l.length < 2) = true := decide_eq_true (by omega)
      have m3 : l.length < 2 := by omega
      clear hr hc hfew h2
      go_enter Try.func4, Try.ntmps4
      go_wp2_with (first | (go_at_call 16; refine HF.out.mono ?_; rintro e w1 ⟨rfl, ⟨nd, rfl⟩⟩) | (go_at_call 13; refine (alive_any _).mono ?_; rintro e w2 ⟨rfl, hb2⟩))
      go_ret
      exact ⟨rfl, below_step (pw_below_drewN (Below.refl _ _) _) hb2⟩
  · have HF := Aside0.mk (few_calls l hr hc (by omega) hsz)
    rw [Bool.eq_false_iff.2 hfew] at HF
    clear hr hc hfew
    go_enter Try.func4, Try.ntmps4
    go_wp2_with (first | (go_at_call 16; refine HF.out.mono ?_; rintro e w1 ⟨rfl, ⟨nd, rfl⟩⟩) | (go_at_call 13; refine (alive_any _).mono ?_; rintro e w2 ⟨rfl, hb2⟩))
    go_ret
    exact ⟨rfl, below_step (pw_below_drewN (Below.refl _ _) _) hb2⟩
end Go.Proofs.Ytbnoeoghhbhhcaa
