/- ShR: a part of its proof (contracts of the functions that it reaches, and the plain mathematics behind them). -/
import Derived.Test.YtdpkgjahcapleaaGreatShR45
set_option linter.unusedVariables false
set_option linter.unusedSimpArgs false
set_option linter.unusedVariables false
set_option linter.unusedSimpArgs false
namespace Go.Proofs.YtdpkgjahcapleaaGreat
open Go.RowKit Go.Proofs.YtdpkgjahcapleaaGreat.Spec Go.Proofs.YtdpkgjahcapleaaGreatW.PrintWords Go.Proofs.YtdpkgjahcapleaaGreatW.PrintLast
open Go.Proofs.YtdpkgjahcapleaaGreatW.PrintMore
attribute [local go_sem ↓] Go.wp_at_zero Go.wp_at_succ
attribute [local go_sem] max2_int min2_int max_two min_two
set_option maxHeartbeats 2000000 in
set_option maxRecDepth 100000 in
theorem reads_walk (A : Option Addr) (c : Nat) (l : List ByteArray) (B : ByteArray) (A2 : Option Addr) (c2 : Nat) (cs : List Int) (w : World) (hr : StrsIn w A l) (hc : l.length ≤ c) (h16 : l.length * 16 ≤ 140737488351232) (hs : ∀ s ∈ l, s.size ≤ 140737488351232) (hG : Given l ⟨#[]⟩) (hB : B.size ≤ 3000) (hcs : IntsIn w A2 cs) (hcc : cs.length ≤ c2) (hcl : cs.length ≤ 200) {T : Nat → Int} (hT : TabAt w T) :
    Calls Tryz.prog 7 #[.slice A l.length c, .string B, .slice A2 cs.length c2] w fun e w' => e = .returned (.bool true) ∧ Below w.heap.size w w' := by
  have HAL := Aside0.mk (fun W => alive24_any W)
  have HR := Aside0.mk hr
  have HD := Aside0.mk (fun (W : World) (hr : StrsIn W A l) => dict24_yes l W hr hc (by omega) hs hG)
  obtain ⟨hl, hss⟩ := phrases_sizes hG.2.2
  have HRD := Aside0.mk (fun (W : World) (hr : StrsIn W A l) => rdecode_calls l hl hss B (by omega) hr hc)
  have HFD := Aside0.mk (fun (W : World) (ad : Addr) (h : DictAt W (.pointer (some ad)) l) (h2 : IntsIn W A2 cs) (h3 : TabAt W T) => feed24_any h hl hss B (by omega) cs h2 hcc (by omega) h3)
  have HDE := Aside0.mk (fun (W : World) (ad : Addr) (h : DictAt W (.pointer (some ad)) l) => decode_any h rfl hl hss B (by omega))
  have HTL := Aside0.mk (fun W => told24_any (finC (full l B)) ((full l B).at_ : Int) (finC (full l B)) (rAt (full l B) : Nat) W)
  rw [told_self] at HTL
  have HCS := Aside0.mk hcs
  have HTA := Aside0.mk hT
  have v1 : decide ((3000 : Int) < (B.size : Int)) = false := decide_eq_false (by omega)
  have v2 : decide (3000 < B.size) = false := decide_eq_false (by omega)
  have v3 : decide ((200 : Int) < (cs.length : Int)) = false := decide_eq_false (by omega)
  have v4 : decide (200 < cs.length) = false := decide_eq_false (by omega)
  generalize full l B = S at *
  obtain ⟨out, at_, code, dn⟩ := S
  generalize rAt ⟨out, at_, code, dn⟩ = ra at *
  generalize finC ⟨out, at_, code, dn⟩ = fc at *
  dsimp only at *
  clear hr hc h16 hs hG hB hl hss hcs hcc hcl hT
  by_cases hf : fc = 0
  · subst hf
    have hi : (if (0 : Int) = 0 then out else (⟨#[]⟩ : ByteArray)) = out := if_pos rfl
    rw [hi] at HDE
    clear hi
    go_enter Tryz.func7, Tryz.ntmps7
    go_wp2_with fail
    refine (HD.out _ HR.out).mono ?_
    rintro e w1 ⟨ad, rfl, hd, hb1⟩
    have B1 := Aside0.mk hb1
    have D1 := Aside0.mk hd
    clear hb1 hd
    go_wp2_with fail
    refine (HAL.out _).mono ?_
    rintro e w3 ⟨rfl, hb3⟩
    have B3 := Aside0.mk (below_step B1.out hb3)
    have D3 := Aside0.mk (D1.out.below hb3)
    clear hb3
    go_wp2_with fail
    refine (HFD.out _ _ D3.out (Kd.C_below HCS.out B3.out) (HTA.out.below B3.out)).mono ?_
    rintro e w4 ⟨rfl, hb4⟩
    have B4 := Aside0.mk (below_step B3.out hb4)
    have D4 := Aside0.mk (D3.out.below hb4)
    clear hb4
    go_wp2_with fail
    refine (HRD.out _ (Kd.C_below HR.out B4.out)).mono ?_
    rintro e w5 ⟨rfl, hb5⟩
    have B5 := Aside0.mk (below_step B4.out hb5)
    have D5 := Aside0.mk (D4.out.below hb5)
    clear hb5
    go_wp2_with fail
    refine (HDE.out _ _ D5.out).mono ?_
    rintro e w6 ⟨rfl, hb6⟩
    have B6 := Aside0.mk (below_step B5.out hb6)
    clear hb6
    go_wp2_with fail
    refine (HTL.out _).mono ?_
    rintro e w7 ⟨rfl, hb7⟩
    have B7 := Aside0.mk (below_step B6.out hb7)
    clear hb7
    go_wp2_with fail
    refine (HTL.out _).mono ?_
    rintro e w8 ⟨rfl, hb8⟩
    have B8 := Aside0.mk (below_step B7.out hb8)
    clear hb8
    go_wp2_with fail
    go_ret
    exact ⟨rfl, B8.out⟩
  · rw [if_neg hf] at HDE
    have hf1 : (fc == (0 : Int)) = false := beq_eq_false_iff_ne.2 hf
    have hf2 : (fc != (0 : Int)) = true := bne_iff_ne.2 hf
    clear hf
    go_enter Tryz.func7, Tryz.ntmps7
    go_wp2_with fail
    refine (HD.out _ HR.out).mono ?_
    rintro e w1 ⟨ad, rfl, hd, hb1⟩
    have B1 := Aside0.mk hb1
    have D1 := Aside0.mk hd
    clear hb1 hd
    go_wp2_with fail
    refine (HAL.out _).mono ?_
    rintro e w3 ⟨rfl, hb3⟩
    have B3 := Aside0.mk (below_step B1.out hb3)
    have D3 := Aside0.mk (D1.out.below hb3)
    clear hb3
    go_wp2_with fail
    refine (HFD.out _ _ D3.out (Kd.C_below HCS.out B3.out) (HTA.out.below B3.out)).mono ?_
    rintro e w4 ⟨rfl, hb4⟩
    have B4 := Aside0.mk (below_step B3.out hb4)
    have D4 := Aside0.mk (D3.out.below hb4)
    clear hb4
    go_wp2_with fail
    refine (HRD.out _ (Kd.C_below HR.out B4.out)).mono ?_
    rintro e w5 ⟨rfl, hb5⟩
    have B5 := Aside0.mk (below_step B4.out hb5)
    have D5 := Aside0.mk (D4.out.below hb5)
    clear hb5
    go_wp2_with fail
    refine (HDE.out _ _ D5.out).mono ?_
    rintro e w6 ⟨rfl, hb6⟩
    have B6 := Aside0.mk (below_step B5.out hb6)
    clear hb6
    go_wp2_with fail
    refine (HTL.out _).mono ?_
    rintro e w7 ⟨rfl, hb7⟩
    have B7 := Aside0.mk (below_step B6.out hb7)
    clear hb7
    go_wp2_with fail
    refine (HTL.out _).mono ?_
    rintro e w8 ⟨rfl, hb8⟩
    have B8 := Aside0.mk (below_step B7.out hb8)
    clear hb8
    go_wp2_with fail
    go_ret
    exact ⟨rfl, B8.out⟩
set_option maxHeartbeats 2000000 in
set_option maxRecDepth 100000 in
theorem coderReads_law (A : Option Addr) (c : Nat) (l : List ByteArray) (B : ByteArray) (A2 : Option Addr) (c2 : Nat) (cs : List Int) (w : World) (hr : StrsIn w A l) (hc : l.length ≤ c) (h16 : l.length * 16 ≤ 140737488351232) (hs : ∀ s ∈ l, s.size ≤ 140737488351232) (hB : B.size ≤ 140737488351232) (hcs : IntsIn w A2 cs) (hcc : cs.length ≤ c2) (hcl : cs.length ≤ 140737488355328) (hcz : ∀ t ∈ cs, In64 t) {T : Nat → Int} (hT : TabAt w T) :
    Calls Tryz.prog 7 #[.slice A l.length c, .string B, .slice A2 cs.length c2] w fun e w' => e = .returned (.bool true) ∧ Below w.heap.size w w' := by
  have HAL := Aside0.mk (fun W => alive24_any W)
  have HR := Aside0.mk hr
  by_cases hG : Given l ⟨#[]⟩
  · have HD := Aside0.mk (fun (W : World) (hr : StrsIn W A l) => dict24_yes l W hr hc (by omega) hs hG)
    by_cases h1 : B.size ≤ 3000
    · by_cases h2 : cs.length ≤ 200
      · exact reads_walk A c l B A2 c2 cs w hr hc h16 hs hG h1 hcs hcc h2 hT
      · skip
        have v1 : decide ((3000 : Int) < (B.size : Int)) = false := decide_eq_false (by omega)
        have v2 : decide (3000 < B.size) = false := decide_eq_false (by omega)
        have v3 : decide ((200 : Int) < (cs.length : Int)) = true := decide_eq_true (by omega)
        have v4 : decide (200 < cs.length) = true := decide_eq_true (by omega)
        clear hr hc h16 hs hG hB h1 h2 hcs hcc hcl hcz hT
        go_enter Tryz.func7, Tryz.ntmps7
        go_wp2_with fail
        refine (HD.out _ HR.out).mono ?_
        rintro e w1 ⟨ad, rfl, hd, hb1⟩
        have B1 := Aside0.mk hb1
        clear hb1 hd
        go_wp2_with fail
        refine (HAL.out _).mono ?_
        rintro e w3 ⟨rfl, hb3⟩
        have B3 := Aside0.mk (below_step B1.out hb3)
        clear hb3
        go_wp2_with fail
        go_ret
        exact ⟨rfl, B3.out⟩
    · skip
      have v1 : decide ((3000 : Int) < (B.size : Int)) = true := decide_eq_true (by omega)
      have v2 : decide (3000 < B.size) = true := decide_eq_true (by omega)
      clear hr hc h16 hs hG hB h1 hcs hcc hcl hcz hT
      go_enter Tryz.func7, Tryz.ntmps7
      go_wp2_with fail
      refine (HD.out _ HR.out).mono ?_
      rintro e w1 ⟨ad, rfl, hd, hb1⟩
      have B1 := Aside0.mk hb1
      clear hb1 hd
      go_wp2_with fail
      refine (HAL.out _).mono ?_
      rintro e w3 ⟨rfl, hb3⟩
      have B3 := Aside0.mk (below_step B1.out hb3)
      clear hb3
      go_wp2_with fail
      go_ret
      exact ⟨rfl, B3.out⟩
  · have HD := Aside0.mk (fun (W : World) (hr : StrsIn W A l) => dict24_no l W hr hc (by omega) hs hG)
    clear hr hc h16 hs hG hB hcs hcc hcl hcz hT
    go_enter Tryz.func7, Tryz.ntmps7
    go_wp2_with fail
    refine (HD.out _ HR.out).mono ?_
    rintro e w1 ⟨rfl, hb1⟩
    have B1 := Aside0.mk hb1
    clear hb1
    go_wp2_with fail
    refine (HAL.out _).mono ?_
    rintro e w3 ⟨rfl, hb3⟩
    have B3 := Aside0.mk (below_step B1.out hb3)
    clear hb3
    go_wp2_with fail
    go_ret
    exact ⟨rfl, B3.out⟩
end Go.Proofs.YtdpkgjahcapleaaGreat
