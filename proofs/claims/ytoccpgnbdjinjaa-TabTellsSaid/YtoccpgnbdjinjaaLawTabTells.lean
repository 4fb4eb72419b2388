/- TabTells: every lengths as bytes, and back; every bytes; what is handed in stays; lists kept, marked, grown. No condition. -/
import Derived.Test.YtoccpgnbdjinjaaTabB
import Derived.Test.YtoccpgnbdjinjaaBookGInts
set_option linter.unusedVariables false
set_option linter.unusedSimpArgs false
namespace Go.Proofs.Ytoccpgnbdjinjaa
open Go.RowKit Go.Proofs.YtoccpgnbdjinjaaW.PrintWords Go.Proofs.YtoccpgnbdjinjaaW.PrintLast Go.Proofs.YtoccpgnbdjinjaaW.PrintMore
attribute [local go_sem ↓] Go.wp_at_zero Go.wp_at_succ
namespace Tells
open TabMath
abbrev IntsIn (w : World) (A : Option Addr) (l : List Int) : Prop := (Kd.int .i64).C w A l.length l
theorem put_calls {A : Option Addr} {c : Nat} (l : List Int) {w : World} (hr : IntsIn w A l) (hc : l.length ≤ c) : Calls Try.prog 11 #[.slice A l.length c] w fun e w' => e = .returned (.tuple #[.string (TabB.putS l).1, .bool (TabB.putS l).2]) ∧ Below w.heap.size w w' := by
  obtain ⟨k, hk⟩ := (TabB.put_ev l).rounds
  exact Leaf.tab_Put.calls k A c l _ _ w hr hc hk
theorem rtab_calls {A : Option Addr} {c : Nat} (l : List Int) {w : World} (hr : IntsIn w A l) (hc : l.length ≤ c) : Calls Try.prog 12 #[.slice A l.length c] w fun e w' => e = .returned (.tuple #[.string (TabB.putS l).1, .bool (TabB.putS l).2]) ∧ Below w.heap.size w w' := by
  obtain ⟨k, hk⟩ := (TabB.rtab_ev l).rounds
  exact Leaf.lexiphaneref1_Tab.calls k A c l _ _ w hr hc hk
theorem get_calls (b : ByteArray) (hb : b.size ≤ 140737488351232) (size : Int) (w : World) : Calls Try.prog 13 #[.string b, .int .i64 size] w fun e w' => ∃ v, e = .returned (.tuple #[v, .int .i64 (TabB.getS b size).2.1, .int .i64 (TabB.getS b size).2.2]) ∧ Aside0 (w'.ownsRow w.heap.size 3 1 v (TabB.getS b size).1.length (encs (Value.int .i64) (TabB.getS b size).1)) ∧ Below w.heap.size w w' := by
  obtain ⟨k, hk⟩ := (TabB.get_ev b hb size).rounds
  refine (Leaf.tab_Get.calls k b size _ _ _ w hk).mono ?_
  rintro e w' ⟨v, rfl, hR, hb⟩
  exact ⟨v, rfl, ⟨Kd.own_of_R hR⟩, hb⟩
theorem untab_calls (b : ByteArray) (hb : b.size ≤ 140737488351232) (size : Int) (w : World) : Calls Try.prog 14 #[.string b, .int .i64 size] w fun e w' => ∃ v, e = .returned (.tuple #[v, .int .i64 (TabB.getS b size).2.1, .int .i64 (TabB.getS b size).2.2]) ∧ Aside0 (w'.ownsRow w.heap.size 3 1 v (TabB.getS b size).1.length (encs (Value.int .i64) (TabB.getS b size).1)) ∧ Below w.heap.size w w' := by
  obtain ⟨k, hk⟩ := (TabB.rget_ev b hb size).rounds
  refine (Leaf.lexiphaneref1_Untab.calls k b size _ _ _ w hk).mono ?_
  rintro e w' ⟨v, rfl, hR, hb⟩
  exact ⟨v, rfl, ⟨Kd.own_of_R hR⟩, hb⟩
theorem alive_calls (w : World) : Calls Try.prog 9 #[] w fun e w' => e = .returned (.bool true) ∧ Below w.heap.size w w' := by
  obtain ⟨k, hk⟩ := TabB.alive_ev.rounds
  exact Leaf.lexiphanelaw20_alive.calls k true w hk
theorem str_size (xs : List Int) : (strOfNums xs).size = xs.length := by simp [strOfNums, ByteArray.size]
theorem bl_append (a b : ByteArray) : TabB.bl (a ++ b) = TabB.bl a ++ TabB.bl b := by
  unfold TabB.bl
  rw [← List.map_append]
  congr 1
theorem enc_short (l : List Int) : (enc 0 l).length ≤ l.length := by
  cases l with
  | nil => simp [enc]
  | cons x t => have := (enc_sizes t 0 x (by omega)).1; simpa using this
theorem get_put {l : List Int} (h : l.length ≤ 356) (ha : AllSixt l) (b : ByteArray) : TabB.getS (strOfNums (enc 0 l) ++ b) (l.length : Int) = (l, ((strOfNums (enc 0 l)).size : Int), 0) := by
  unfold TabB.getS
  rw [if_neg (by omega), bl_append, TabB.bl_strOfNums (enc_byte ha), Int.toNat_natCast, dec_enc0 ha]
  unfold TabB.GetR
  rw [if_pos rfl, str_size]
  simp
theorem get_len (b : ByteArray) (size : Int) : (TabB.getS b size).1.length ≤ 356 := by
  unfold TabB.getS
  by_cases h : size < 0 ∨ 356 < size
  · rw [if_pos h]; simp
  · rw [if_neg h]
    unfold TabB.GetR
    by_cases hd : (dec 15 (TabB.bl b) size.toNat).1 = 0
    · rw [if_pos hd]
      have := (dec_once (TabB.bl b) 15 size.toNat (TabB.bl_byte b) hd).2.1
      simp only [List.nil_append]
      omega
    · rw [if_neg hd]; simp
theorem put_form (l : List Int) : ((TabB.putS l).2 = false) ∨ (l.length ≤ 356 ∧ AllSixt l ∧ TabB.putS l = (strOfNums (enc 0 l), true)) := by
  unfold TabB.putS
  by_cases h : l.length ≤ 356 ∧ AllSixt l
  · rw [if_pos h]; exact .inr ⟨h.1, h.2, rfl⟩
  · rw [if_neg h]; exact .inl rfl
theorem ne_new {w w' : World} {base n : Nat} {e e' : TypeId} {vs : List Value} {f : Nat → List Value} {v : Value} {xs : List Value} (K : Book.Kept w base e vs f) (hv : w'.ownsRow w.heap.size e' 1 v n xs) : ∀ (i : Nat) (u : Value), vs[i]? = some u → NeRow u v := by
  intro i u hu b hb hb2
  have h1 := own_lt (K.row i u hu) b hb
  have h2 := own_base hv b hb2
  omega
set_option maxHeartbeats 4000000 in
set_option maxRecDepth 100000 in
theorem big_law (A : Option Addr) (c : Nat) (l : List Int) (b : ByteArray) (size : Int) (w : World) (h : 400 < l.length ∨ 400 < b.size) :
    Calls Try.prog 3 #[.slice A l.length c, .string b, .int .i64 size] w fun e w' => e = .returned (.bool true) ∧ Below w.heap.size w w' := by
  by_cases h1 : 400 < l.length
  · have d1 : decide ((400 : Int) < (l.length : Int)) = true := decide_eq_true (by omega)
    clear h h1
    go_enter Try.func3, Try.ntmps3
    go_wp2_with (go_at_call 9; refine (alive_calls _).mono ?_; rintro e w2 ⟨rfl, hb2⟩)
    go_ret
    exact ⟨rfl, hb2⟩
  · have d1 : decide ((400 : Int) < (l.length : Int)) = false := decide_eq_false (by omega)
    have d2 : decide ((400 : Int) < (b.size : Int)) = true := decide_eq_true (by omega)
    clear h h1
    go_enter Try.func3, Try.ntmps3
    go_wp2_with (go_at_call 9; refine (alive_calls _).mono ?_; rintro e w2 ⟨rfl, hb2⟩)
    go_ret
    exact ⟨rfl, hb2⟩
set_option maxHeartbeats 4000000 in
set_option maxRecDepth 100000 in
theorem small_law (A : Option Addr) (c : Nat) (l : List Int) (b : ByteArray) (size : Int) (w : World) (hr : IntsIn w A l) (hc : l.length ≤ c) (hl : l.length ≤ 400) (hb : b.size ≤ 400) :
    Calls Try.prog 3 #[.slice A l.length c, .string b, .int .i64 size] w fun e w' => e = .returned (.bool true) ∧ Below w.heap.size w w' := by
  have d1 : decide ((400 : Int) < (l.length : Int)) = false := decide_eq_false (by omega)
  have d2 : decide ((400 : Int) < (b.size : Int)) = false := decide_eq_false (by omega)
  have HR := Aside0.mk hr
  have HC := Aside0.mk hc
  have HL := Aside0.mk hl
  have HB := Aside0.mk hb
  clear hr hc hl hb
  go_enter Try.func3, Try.ntmps3
  go_wp2_with fail
  refine (alive_calls _).mono ?_
  rintro e w1 ⟨rfl, hb1⟩
  have H1 := Aside0.mk hb1
  clear hb1
  go_wp2_with fail
  refine (BookInts.lent_any l (Kd.C_below HR.out H1.out) HC.out (by have := HL.out; omega)).mono ?_
  rintro e w2 ⟨g, c1, rfl, hle, hb2⟩
  have HLE2 := Aside0.mk hle
  have H2 := Aside0.mk (below_step H1.out hb2)
  clear hle hb2
  go_wp2_with fail
  refine (put_calls l HLE2.out.reads.2 HLE2.out.reads.1).mono ?_
  generalize hP : TabB.putS l = P
  rintro e w3 ⟨rfl, hb3⟩
  have HLE3 := Aside0.mk (HLE2.out.below hb3)
  have H3 := Aside0.mk (below_step H2.out hb3)
  have HPP := Aside0.mk hP
  clear hb3 hP
  go_wp2_with fail
  refine (rtab_calls l (Kd.C_below HR.out H3.out) HC.out).mono ?_
  rw [HPP.out]
  rintro e w4 ⟨rfl, hb4⟩
  have HLE4 := Aside0.mk (HLE3.out.below hb4)
  have H4 := Aside0.mk (below_step H3.out hb4)
  clear hb4
  go_wp2_with fail
  have HGL := Aside0.mk (get_len b size)
  refine (get_calls b (by have := HB.out; omega) size _).mono ?_
  generalize hG : TabB.getS b size = G at HGL
  rintro e w5 ⟨v1, rfl, HV1, hb5⟩
  obtain ⟨A5, c5, rfl⟩ := own_slice HV1.out
  have HLE5 := Aside0.mk (HLE4.out.below hb5)
  have H5 := Aside0.mk (below_step H4.out hb5)
  have HW5 := Aside0.mk hb5
  have HGG := Aside0.mk hG
  clear hb5 hG
  go_wp2_with fail
  refine (untab_calls b (by have := HB.out; omega) size _).mono ?_
  rw [HGG.out]
  rintro e w6 ⟨v2, rfl, HV2, hb6⟩
  obtain ⟨A6, c6, rfl⟩ := own_slice HV2.out
  have HLE6 := Aside0.mk (HLE5.out.below hb6)
  have H6 := Aside0.mk (below_step H5.out hb6)
  have HW6 := Aside0.mk (below_then HW5.out HW5.out.size hb6)
  have HV1b := Aside0.mk (pw_own_below HV1.out hb6)
  have HZ6 := Aside0.mk (Nat.le_trans HW5.out.size hb6.size)
  clear hb6
  go_wp2_with fail
  obtain ⟨b0, hb0⟩ : ∃ b0, w4.heap.size = b0 := ⟨_, rfl⟩
  have hw6 := HW6.out
  have hz6 := HZ6.out
  have hv1 := HV1b.out
  rw [hb0] at hw6 hz6 hv1
  have HBK0 : Aside0 (BookInts.BookAt (w6.alloc (.cells #[.slice none 0 0, .slice none 0 0, .slice none 0 0, .slice none 0 0, .slice none 0 0, .slice none 0 0, .slice none 0 0, .slice none 0 0, .slice none 0 0, .slice none 0 0] 38)) b0 w6.heap.size (.slice none 0 0) (.slice none 0 0) [] [] (fun _ => l)) := ⟨BookInts.BookAt.new w6 hz6⟩
  have hal := below_alloc (Below.refl w6.heap.size w6) (.cells #[.slice none 0 0, .slice none 0 0, .slice none 0 0, .slice none 0 0, .slice none 0 0, .slice none 0 0, .slice none 0 0, .slice none 0 0, .slice none 0 0, .slice none 0 0] 38)
  have HBW0 := Aside0.mk (below_then hw6 hz6 hal)
  have HZ7 := Aside0.mk (Nat.le_trans hz6 hal.size)
  have HVA := Aside0.mk (pw_own_below hv1 hal)
  have HVB := Aside0.mk (pw_own_below HV2.out hal)
  have HLE7 := Aside0.mk (HLE6.out.below hal)
  have HB0 := Aside0.mk hb0
  have HGL2 := Aside0.mk (show G.1.length ≤ 1000000 by have := HGL.out; omega)
  have HSTEP : Aside0 (∀ W, Below b0 w4 W → Below w.heap.size w W) := ⟨fun W h => below_step H4.out (by rw [hb0]; exact h)⟩
  clear hw6 hz6 hv1 hal hb0
  refine (BookInts.push_any HBK0.out HVA.out (fun i u hu => by simp at hu) HBW0.out HZ7.out (by decide) HGL2.out).mono ?_
  rintro e w8 ⟨rfl, t1, t2, wv, hbk, hbw, hsz, hfr⟩
  have HBK1 := Aside0.mk hbk
  have HBW1 := Aside0.mk hbw
  have HZ8 := Aside0.mk hsz
  have HVA8 := Aside0.mk (hfr _ _ _ _ HVA.out)
  have HVB8 := Aside0.mk (hfr _ _ _ _ HVB.out)
  have HLE8 : Aside0 (BookInts.Lent w8 w1.heap.size g c1 l) := ⟨⟨hfr _ _ _ _ HLE7.out.row⟩⟩
  clear hbk hbw hsz hfr
  obtain ⟨A7, c7, e7, hc7, hC7⟩ := BookInts.row_read HVA8.out
  injection e7 with e7a e7b e7c
  subst e7a e7c
  obtain ⟨A9, c9, e9, hc9, hC9⟩ := BookInts.row_read HVB8.out
  injection e9 with e9a e9b e9c
  subst e9a e9c
  have HC7 := Aside0.mk hC7
  have HC9 := Aside0.mk hC9
  have HCC7 := Aside0.mk hc7
  have HCC9 := Aside0.mk hc9
  clear hC7 hC9 hc7 hc9 e7b e9b
  go_wp2_with fail
  refine (BookInts.same_calls G.1 HC7.out HCC7.out HC9.out HCC9.out (by have := HGL2.out; omega)).mono ?_
  rintro e w9 ⟨rfl, hd9⟩
  have HBK2 := Aside0.mk (HBK1.out.below hd9.below)
  have HBW2 := Aside0.mk (below_then HBW1.out HZ8.out hd9.below)
  have HZ9 := Aside0.mk (Nat.le_trans HZ8.out hd9.below.size)
  have HLE9 := Aside0.mk (HLE8.out.below hd9.below)
  clear hd9
  go_wp2_with fail
  refine (BookInts.stays_any l HLE9.out (Kd.C_below HR.out (HSTEP.out _ HBW2.out)) HC.out (by have := HL.out; omega)).mono ?_
  rintro e w10 ⟨rfl, hd10⟩
  have HBK3 := Aside0.mk (HBK2.out.below hd10.below)
  have HBW3 := Aside0.mk (below_then HBW2.out HZ9.out hd10.below)
  have HZ10 := Aside0.mk (Nat.le_trans HZ9.out hd10.below.size)
  clear hd10
  rcases put_form l with hpf | ⟨hp1, hp2, hp3⟩
  · rw [HPP.out] at hpf
    go_wp2_with fail
    refine (BookInts.apart_any HBK3.out HBW3.out HZ10.out (by simp) (fun i hi => ?_)).mono ?_
    · have h2 := HGL.out
      have h3 := HL.out
      split <;> omega
    rintro e w11 ⟨rfl, hb11⟩
    go_wp2
    go_ret
    exact ⟨rfl, HSTEP.out _ hb11⟩
  · have hgp := get_put hp1 hp2 b
    have hss : (strOfNums (enc 0 l)).size ≤ 400 := by rw [str_size]; have := enc_short l; have := HL.out; omega
    rw [HPP.out] at hp3
    generalize strOfNums (enc 0 l) = sb at hgp hss hp3
    subst hp3
    have q1 : ¬ 9223372036854775807 < sb.size + b.size := by have := HB.out; omega
    have HGP := Aside0.mk hgp
    have HSS := Aside0.mk hss
    clear hgp hss hp1 hp2
    go_wp2_with fail
    refine (get_calls (sb ++ b) (by rw [ByteArray.size_append]; have := HB.out; have := HSS.out; omega) l.length _).mono ?_
    rw [HGP.out]
    rintro e w11 ⟨v3, rfl, HV3, hb11⟩
    have HNE := Aside0.mk (ne_new HBK3.out.k1 HV3.out)
    obtain ⟨A8, c8, rfl⟩ := own_slice HV3.out
    have HBK4 := Aside0.mk (HBK3.out.below hb11)
    have HBW4 := Aside0.mk (below_then HBW3.out HZ10.out hb11)
    have HVC := Aside0.mk (own_weaken HV3.out HZ10.out)
    have HZ11 := Aside0.mk (Nat.le_trans HZ10.out hb11.size)
    clear hb11
    go_wp2_with fail
    refine (BookInts.push_any HBK4.out HVC.out HNE.out HBW4.out HZ11.out (by simp) (by have := HL.out; omega)).mono ?_
    rintro e w12 ⟨rfl, t3, t4, wv2, hbk, hbw, hsz, hfr⟩
    have HBK5 := Aside0.mk hbk
    have HBW5 := Aside0.mk hbw
    have HZ12 := Aside0.mk hsz
    have HVC12 := Aside0.mk (hfr _ _ _ _ HVC.out)
    clear hbk hbw hsz hfr
    obtain ⟨A10, c10, e10, hc10, hC10⟩ := BookInts.row_read HVC12.out
    injection e10 with e10a e10b e10c
    subst e10a e10c
    have HC10 := Aside0.mk hC10
    have HCC10 := Aside0.mk hc10
    clear hC10 hc10 e10b
    go_wp2_with fail
    refine (BookInts.same_calls l HC10.out HCC10.out (Kd.C_below HR.out (HSTEP.out _ HBW5.out)) HC.out (by have := HL.out; omega)).mono ?_
    rintro e w13 ⟨rfl, hd13⟩
    have HBK6 := Aside0.mk (HBK5.out.below hd13.below)
    have HBW6 := Aside0.mk (below_then HBW5.out HZ12.out hd13.below)
    have HZ13 := Aside0.mk (Nat.le_trans HZ12.out hd13.below.size)
    clear hd13
    go_wp2_with fail
    refine (BookInts.apart_any HBK6.out HBW6.out HZ13.out (by simp) (fun i hi => ?_)).mono ?_
    · have h2 := HGL.out
      have h3 := HL.out
      split
      · split <;> omega
      · omega
    rintro e w14 ⟨rfl, hb14⟩
    go_wp2
    go_ret
    exact ⟨rfl, HSTEP.out _ hb14⟩
end Tells
theorem tabTells_law (A : Option Addr) (c : Nat) (l : List Int) (b : ByteArray) (size : Int) (w : World) (hr : (Kd.int .i64).C w A l.length l) (hc : l.length ≤ c) :
    Calls Try.prog 3 #[.slice A l.length c, .string b, .int .i64 size] w fun e w' => e = .returned (.bool true) ∧ Below w.heap.size w w' := by
  by_cases h : 400 < l.length ∨ 400 < b.size
  · exact Tells.big_law A c l b size w h
  · exact Tells.small_law A c l b size w hr hc (by omega) (by omega)
end Go.Proofs.Ytoccpgnbdjinjaa
