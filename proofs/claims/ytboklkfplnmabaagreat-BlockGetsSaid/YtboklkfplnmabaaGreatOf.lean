/- mean.Of of one token. -/
import Derived.Test.YtboklkfplnmabaaGreatLay
set_option linter.unusedVariables false
set_option linter.unusedSimpArgs false
namespace Go.Proofs.YtboklkfplnmabaaGreat
open Go.RowKit Go.Proofs.YtboklkfplnmabaaGreat.Spec Go.Proofs.YtboklkfplnmabaaGreatW.PrintWords Go.Proofs.YtboklkfplnmabaaGreatW.PrintLast
open Go.Proofs.YtboklkfplnmabaaGreatW.PrintMore
attribute [local go_sem ↓] Go.wp_at_zero Go.wp_at_succ
attribute [local go_sem] max2_int min2_int max_two min_two
set_option maxHeartbeats 2000000 in
set_option maxRecDepth 100000 in
theorem of_one {A2 : Option Addr} {c2 : Nat} {p : Value} {l : List ByteArray} (most t : Int) {w : World} (hd : DictN w p l) (hs : ∀ s ∈ l, 1 ≤ s.size ∧ s.size ≤ 40) (hl : l.length ≤ 1000) (hr : IntsIn w A2 [t]) (hc : 1 ≤ c2) (ht : Tok l t) (hm : ((word l t).size : Int) ≤ most) (hM : most ≤ 100000) :
    Calls Tryz.prog 93 #[p, .int .i64 most, .slice A2 1 c2] w fun e w' => e = .returned (.tuple #[.string (word l t), .int .i64 0]) ∧ Below w.heap.size w w' := by
  have HD := Aside0.mk hd
  have HR := Aside0.mk hr
  have hw := word_size hs ht
  have HIN : Aside0 (In64 t) := ⟨by unfold Tok at ht; unfold In64; omega⟩
  have HZ := Aside0.mk (show 1 ≤ (word l t).size ∧ (word l t).size ≤ 40 ∧ ((word l t).size : Int) ≤ most ∧ most ≤ 100000 from ⟨hw.1, hw.2, hm, hM⟩)
  have HE : Aside0 ((word l t).toList = [] → False) := ⟨by intro h; rw [Lib.toList_data] at h; have h2 := congrArg List.length h; have h3 : (word l t).data.toList.length = (word l t).size := u_size (word l t); have h4 := hw.1; rw [h3] at h2; rw [List.length_nil] at h2; omega⟩
  have HX : Aside0 (strOfNums (bytesOf (word l t)) = word l t) := ⟨by
    apply u_inj
    show ((bytesOf (word l t)).map fun n => UInt8.ofNat n.toNat) = (word l t).data.toList
    unfold bytesOf
    rw [List.map_map]
    exact (List.map_congr_left fun b _ => by simp).trans (List.map_id _)⟩
  clear hd hs hl hr ht hm hM hw
  go_enter Tryz.func93, Tryz.ntmps93
  go_wp2_with fail
  go_loopw [8, 14] (fun v8 v14 wr => Aside0 (Below w.heap.size w wr) ∧ ((v14 = .int .i64 0 ∧ v8 = .slice none 0 0) ∨ (v14 = .int .i64 1 ∧ ∃ A c, v8 = .slice A (bytesOf (word l t)).length c ∧ Aside0 (wr.ownsRow w.heap.size 5 1 v8 (bytesOf (word l t)).length (nums .u8 (bytesOf (word l t))))))) (fun _ v14 _ => 1 - (intOf v14).toNat)
  case atStart => exact ⟨⟨by repeat (first | exact Below.refl _ _ | apply below_alloc | apply below_drew)⟩, .inl ⟨rfl, rfl⟩⟩
  case round =>
    obtain ⟨HB, ⟨rfl, rfl⟩ | ⟨rfl, A, c, rfl, HO⟩⟩ := hrel
    · obtain ⟨ad2, e2, hcell⟩ := Kd.at_int (Kd.C_below HR.out HB.out) 0 (by decide) (show (0 : Int) < 1 by decide)
      have hrd : rd [t] (0 : Int) = t := rfl
      rw [hrd] at hcell
      have hcell' : wr.cell? ad2 = some (.int .i64 t) := hcell
      clear hcell
      subst e2
      have hz := HZ.out
      have n1 : ¬ (word l t).toList = [] := fun h => HE.out h
      have n2 : (word l t).toList.isEmpty = false := by rw [Bool.eq_false_iff]; intro h; exact n1 (List.isEmpty_iff.1 h)
      have n3 : ¬ most < 0 := by omega
      have n4 : decide (most < ((word l t).size : Int)) = false := decide_eq_false (by omega)
      have n5 : ¬ most < ((word l t).size : Int) := by omega
      have n6 : wrap64 most = most := Bridge.wr (by omega) (by omega)
      clear hz
      go_wp2_with fail
      refine (text_any (HD.out.below HB.out) t HIN.out.1 HIN.out.2).mono ?_
      rintro e w2 ⟨rfl, hb2⟩
      have HB2 := Aside0.mk (below_step HB.out hb2)
      clear hb2
      have hz := HZ.out
      go_wp2_with (at_builtin; refine print_append_str w.heap.size rfl (.tmp 33) (.tmp 34) 57 9 5 rfl Tryz.underlying57 Tryz.underlying9 Leaf.info5 (.slice none 0 0) [] (word l t) rfl rfl (own_nil _ _ _ _) HB2.out HB2.out.size (show 0 + (word l t).size ≤ 140737488355328 by omega) ?_; intro v1 w3 hrow hbelow hgrow; obtain ⟨A1, c1, rfl⟩ := own_slice hrow; have HROW := Aside0.mk hrow; have HB3 := Aside0.mk hbelow; clear hrow hbelow hgrow)
      go_roundw
      case rel => exact ⟨HB3, .inr ⟨rfl, A1, c1, rfl, HROW⟩⟩
      case measure => exact (by decide)
    · have hcv := own_string (P := Tryz.prog) (src := 57) (dst := 9) (e := 5) Tryz.underlying57 Tryz.underlying5 Tryz.underlying9 HO.out
      rw [HX.out] at hcv
      go_wp2
      go_ret2
      exact ⟨rfl, HB.out⟩
end Go.Proofs.YtboklkfplnmabaaGreat
