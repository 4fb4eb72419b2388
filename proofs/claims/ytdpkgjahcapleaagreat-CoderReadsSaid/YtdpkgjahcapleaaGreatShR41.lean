/- ShR: a part of its proof (contracts of the functions that it reaches, and the plain mathematics behind them). -/
import Derived.Test.YtdpkgjahcapleaaGreatShR37
import Derived.Test.YtdpkgjahcapleaaGreatShR38
import Derived.Test.YtdpkgjahcapleaaGreatShR40
import Derived.Test.YtdpkgjahcapleaaGreatShR35
set_option linter.unusedVariables false
set_option linter.unusedSimpArgs false
set_option linter.unusedVariables false
set_option linter.unusedSimpArgs false
namespace Go.Proofs.YtdpkgjahcapleaaGreat
open Go.RowKit Go.Proofs.YtdpkgjahcapleaaGreat.Spec Go.Proofs.YtdpkgjahcapleaaGreatW.PrintWords Go.Proofs.YtdpkgjahcapleaaGreatW.PrintLast
open Go.Proofs.YtdpkgjahcapleaaGreatW.PrintMore
attribute [local go_sem ↓] Go.wp_at_zero Go.wp_at_succ
attribute [local go_sem] max2_int min2_int max_two min_two
def rAt (S : Sc) : Nat := if finC S = 0 then 0 else S.at_
theorem and32 (n : Nat) (hn : n < 4294967296) : Go.bits .and .i64 (n : Int) 4294967295 = (n : Int) := by
  have e1 : BitVec.ofInt 64 (n : Int) = BitVec.ofNat 64 n := by rw [BitVec.ofInt_natCast]
  have e2 : BitVec.ofInt 64 (4294967295 : Int) = BitVec.ofNat 64 4294967295 := by decide
  have e4 : ((BitVec.ofNat 64 n) &&& (BitVec.ofNat 64 4294967295)).toNat = n := by
    rw [BitVec.toNat_and, BitVec.toNat_ofNat, BitVec.toNat_ofNat, Nat.mod_eq_of_lt (by omega), Nat.mod_eq_of_lt (by decide)]
    exact (Nat.and_two_pow_sub_one_eq_mod n 32).trans (Nat.mod_eq_of_lt hn)
  unfold Go.bits
  show IntKind.i64.wrap (((BitVec.ofInt 64 (n : Int)) &&& (BitVec.ofInt 64 (4294967295 : Int))).toNat : Int) = _
  rw [e1, e2, e4]
  exact (i64_w _).trans (Bridge.wrN _ (by omega))
set_option maxHeartbeats 2000000 in
set_option maxRecDepth 100000 in
theorem rdecode_head {A : Option Addr} {c : Nat} (l : List ByteArray) (B : ByteArray) (hB : B.size ≤ 900000) {w : World} (he : (headR B).e ≠ 0) :
    Calls Tryz.prog 21 #[.slice A l.length c, .string B] w fun e w' => e = .returned (.tuple #[.string (full l B).out, .int .i64 (finC (full l B)), .int .i64 (rAt (full l B) : Nat)]) ∧ Below w.heap.size w w' := by
  have HU := Aside0.mk (fun W => unhead_calls B (by omega) W)
  have hf : (full l B).out = ⟨#[]⟩ ∧ finC (full l B) = ((headR B).e : Int) ∧ rAt (full l B) = 0 := by
    by_cases h : B.size < 17
    · rw [full_short h, head_short h]
      exact ⟨rfl, rfl, rfl⟩
    · rw [full_bad (by omega) he]
      refine ⟨rfl, ?_, ?_⟩
      · unfold finC; exact if_pos (by show ((headR B).e : Int) ≠ 0; omega)
      · unfold rAt; split <;> rfl
  rw [hf.1, hf.2.1, hf.2.2]
  clear hf hB
  have d1 : (((headR B).e : Int) != 0) = true := bne_iff_ne.2 (by omega)
  have d2 : (((headR B).e : Int) == 0) = false := beq_eq_false_iff_ne.2 (by omega)
  generalize headR B = H at *
  clear he
  go_enter Tryz.func21, Tryz.ntmps21
  go_wp2_with fail
  refine (HU.out _).mono ?_
  rintro e w1 ⟨rfl, hb1⟩
  have B1 := Aside0.mk hb1
  clear hb1
  go_wp2_with fail
  exact bodyPost_ret (v := .tuple #[.string ⟨#[]⟩, .int .i64 (H.e : Int), .int .i64 ((0 : Nat) : Int)]) (by simp [results, Tryz.results21, go_sem]) rfl ⟨rfl, by repeat (with_reducible first | exact B1.out | apply below_alloc | apply below_drew | apply pw_below_drewN | refine below_set ?_ B1.out.size _ _)⟩
set_option maxHeartbeats 2000000 in
set_option maxRecDepth 100000 in
theorem rdecode_id {A : Option Addr} {c : Nat} (l : List ByteArray) (hl : l.length ≤ 100) (hs : ∀ s ∈ l, 1 ≤ s.size ∧ s.size ≤ 40) (B : ByteArray) (hB : B.size ≤ 900000) {w : World} (hr : StrsIn w A l) (hc : l.length ≤ c) (he : (headR B).e = 0) :
    Calls Tryz.prog 21 #[.slice A l.length c, .string B] w fun e w' => e = .returned (.tuple #[.string (full l B).out, .int .i64 (finC (full l B)), .int .i64 (rAt (full l B) : Nat)]) ∧ Below w.heap.size w w' := by
  have HU := Aside0.mk (fun W => unhead_calls B (by omega) W)
  have HRB := Aside0.mk (fun (W : World) (hr : StrsIn W A l) => rbytes_calls l hr hc (by omega) (fun s h => by have := (hs s h).2; omega))
  have hbl := body_len (l := l) (fun s h => by have := (hs s h).2; omega)
  have hn := Bridge.num_len (n := l.length) (by omega)
  have hsz : (str (Spec.bytes l)).size ≤ 140737488351232 := by rw [str_size]; unfold Spec.bytes; rw [List.length_append]; omega
  have HRF := Aside0.mk (fun W => rfnv_calls (str (Spec.bytes l)) hsz W)
  rw [u_str] at HRF
  clear hbl hn hsz
  have h17 := head_size (b := B) (by rw [he]; decide)
  have HR := Aside0.mk hr
  have HC := Aside0.mk hc
  have HL := Aside0.mk hl
  have HS := Aside0.mk hs
  by_cases hi : ((headR B).id : Int) = Idv l
  · have hfull := full_ok h17 he hi
    have HK := Aside0.mk (head_c B)
    have HBB := Aside0.mk hB
    have HUF := Aside0.mk (fun (W : World) (a : Nat) => unframe_calls (B.extract a B.size) (by rw [ext_all]; omega) (headR B).k (head_c B).2 W)
    have HG := Aside0.mk (fun (W : World) (hr : StrsIn W A l) (kd rw : Int) (pay : ByteArray) (hp : pay.size ≤ 100000) => RefG.rget_calls l hl hs (headR B).c kd rw pay hp hr hc)
    rw [hfull]
    clear hfull
    obtain ⟨S, hS⟩ : ∃ S, scanF l (headR B).c (headR B).k B 17 ⟨#[]⟩ = S := ⟨_, rfl⟩
    rw [hS]
    have H17 := Aside0.mk h17
    have HS0 := Aside0.mk hS
    clear hS
    have d3 : (((headR B).id : Int) != Bridge.fnv (Spec.bytes l)) = false := by rw [hi]; exact bne_self_eq_false _
    have d4 : (((headR B).id : Int) == Bridge.fnv (Spec.bytes l)) = true := beq_iff_eq.2 hi
    rw [he] at HU
    generalize Bridge.fnv (Spec.bytes l) = F at *
    generalize str (Spec.bytes l) = bs at *
    generalize (headR B).id = id at *
    generalize (headR B).c = hcd at *
    generalize (headR B).k = hk at *
    clear hB he hi hr hc hl hs h17
    go_enter Tryz.func21, Tryz.ntmps21
    go_wp2_with fail
    refine (HU.out _).mono ?_
    rintro e w1 ⟨rfl, hb1⟩
    have B1 := Aside0.mk hb1
    have W2 := Aside0.mk (show Below w.heap.size w (w1.alloc (.cells #[.int .i64 (hcd : Int), .int .i64 (hk : Int), .int .u64 (id : Int)] 40)) from below_alloc B1.out _)
    have s0 : (w1.alloc (.cells #[.int .i64 (hcd : Int), .int .i64 (hk : Int), .int .u64 (id : Int)] 40)).cell? ⟨w1.heap.size, 0, none⟩ = some (.int .i64 (hcd : Int)) := by simp
    have s1 : (w1.alloc (.cells #[.int .i64 (hcd : Int), .int .i64 (hk : Int), .int .u64 (id : Int)] 40)).cell? ⟨w1.heap.size, 1, none⟩ = some (.int .i64 (hk : Int)) := by simp
    have s2 : (w1.alloc (.cells #[.int .i64 (hcd : Int), .int .i64 (hk : Int), .int .u64 (id : Int)] 40)).cell? ⟨w1.heap.size, 2, none⟩ = some (.int .u64 (id : Int)) := by simp
    clear hb1
    go_wp2_with fail
    go_region_held3 (fun w' => w'.cell? ⟨w1.heap.size, 2, none⟩ = some (.int .u64 (id : Int)))
      (first | exact s2 | exact pw_cell_below h2 s2)
      ((first
        | (go_at_call 46; refine (HRB.out _ (Kd.C_below HR.out (below_drew W2.out))).mono ?_; rintro x w2 ⟨rfl, hb2⟩; have h2 := below_step (below_drew (Below.refl (w1.alloc (.cells #[.int .i64 (hcd : Int), .int .i64 (hk : Int), .int .u64 (id : Int)] 40)).heap.size (w1.alloc (.cells #[.int .i64 (hcd : Int), .int .i64 (hk : Int), .int .u64 (id : Int)] 40)))) hb2)
        | (go_at_call 45; refine (HRF.out _).mono ?_; rintro x w3 ⟨rfl, hb3⟩; have h2 := below_step h2 hb3.below)))
    have HH := Aside0.mk (blk_below (blk_new w1 (.cells #[.int .i64 (hcd : Int), .int .i64 (hk : Int), .int .u64 (id : Int)] 40 (0, 0))) h2)
    have HW3 := Aside0.mk (below_step W2.out h2)
    clear h2 hb2 hb3 s0 s1 s2
    go_wp2_with fail
    go_loopw [9, 10] (fun v9 v10 wr => ∃ (out : ByteArray) (a : Nat), v9 = .string out ∧ v10 = .int .i64 (a : Int) ∧ Aside0 (a ≤ B.size ∧ out.size ≤ 1024 * a ∧ scanF l hcd hk B a out = S) ∧ Aside0 (wr.heap[w1.heap.size]? = some (.cells #[.int .i64 (hcd : Int), .int .i64 (hk : Int), .int .u64 (id : Int)] 40 (0, 0))) ∧ Aside0 (Below w.heap.size w wr)) (fun _ v10 _ => B.size - (intOf v10).toNat)
    case atStart => exact ⟨_, 17, rfl, rfl, ⟨H17.out, Nat.zero_le _, HS0.out⟩, HH, HW3⟩
    case round =>
      obtain ⟨out, a, rfl, rfl, HA, HHR, HBR⟩ := hrel
      have c1 : wr.cell? ⟨w1.heap.size, 1, none⟩ = some (.int .i64 (hk : Int)) := (blk_cell HHR.out 1).trans rfl
      have p1 : (a : Int) ≤ (B.size : Int) := by have := HA.out.1; omega
      have p2 : a ≤ B.size := HA.out.1
      have HUA := Aside0.mk (fun W => HUF.out W a)
      obtain ⟨F, hF⟩ : ∃ F, frameR (B.extract a B.size) hk = F := ⟨_, rfl⟩
      rw [hF] at HUA
      have HFE := Aside0.mk hF
      clear hF
      obtain ⟨kd, r, sm, py, n, er⟩ := F
      unfold frV at HUA
      dsimp only at HUA
      go_upto_region 7 with fail
      go_cut [11, 12, 13] (fun v11 v12 v13 wx => ∃ gf, v11 = .pointer (some ⟨gf, 0, none⟩) ∧ v12 = .int .i64 (n : Int) ∧ v13 = .int .i64 (er : Int) ∧ Aside0 (wx.heap[gf]? = some (.cells #[.int .i64 (kd : Int), .int .i64 (r : Int), .int .u32 (sm : Int), .string py] 47 (0, 0))) ∧ Aside0 (Below wr.heap.size wr wx))
      case first =>
        go_region_held3 (fun w' => w'.cell? ⟨w1.heap.size, 1, none⟩ = some (.int .i64 (hk : Int)))
          (first | exact c1 | (refine pw_cell_below ?_ c1; repeat (with_reducible first | exact Below.refl _ _ | exact hm2 | apply below_alloc | apply below_drew | apply pw_below_drewN | refine below_set ?_ (Nat.le_refl _) _ _ | refine below_set ?_ hm2.size _ _)))
          ((go_at_call 47; refine (HUA.out _).mono ?_; rintro e w2 ⟨rfl, hb2⟩; obtain ⟨hcc, hff⟩ := old_cells hb2; have hm2 : Below wr.heap.size wr w2 := below_step (by repeat (with_reducible first | exact Below.refl _ _ | apply below_alloc | apply below_drew | apply pw_below_drewN)) hb2))
        all_goals
          go_wp2_with fail
          go_meet
          first
            | (with_reducible refine ⟨w2.heap.size, rfl, rfl, rfl, ⟨?_⟩, ⟨?_⟩⟩
               · exact blk_new _ _
               · exact below_alloc hm2 _)
            | (with_reducible refine ⟨wr.heap.size, rfl, rfl, rfl, ⟨blk_put4 (a := .int .i64 0) (b := .int .i64 0) (c := .int .u32 0) (d := .string ⟨#[]⟩) (blk_below ?_ hb2)⟩, ⟨?_⟩⟩
               · repeat (with_reducible first | refine blk_drewN ?_ _ | refine blk_drew ?_ | (refine blk_new2 _ _ _ ?_; rfl) | refine blk_alloc ?_ _)
               · repeat (with_reducible first | exact hm2 | refine below_set ?_ (Nat.le_refl _) _ _))
      case rest =>
        obtain ⟨gf, rfl, rfl, rfl, HBF, HBW⟩ := hcut
        have BW := Aside0.mk (below_step HBR.out HBW.out)
        have HHC := Aside0.mk (blk_below HHR.out HBW.out)
        have h0c : wc.cell? ⟨w1.heap.size, 0, none⟩ = some (.int .i64 (hcd : Int)) := (blk_cell HHC.out 0).trans rfl
        have k0 : wc.cell? ⟨gf, 0, none⟩ = some (.int .i64 (kd : Int)) := (blk_cell HBF.out 0).trans rfl
        have k1 : wc.cell? ⟨gf, 1, none⟩ = some (.int .i64 (r : Int)) := (blk_cell HBF.out 1).trans rfl
        have k2 : wc.cell? ⟨gf, 2, none⟩ = some (.int .u32 (sm : Int)) := (blk_cell HBF.out 2).trans rfl
        have k3 : wc.cell? ⟨gf, 3, none⟩ = some (.string py) := (blk_cell HBF.out 3).trans rfl
        obtain ⟨ha1, ha2, ha3⟩ := HA.out
        have hfe := HFE.out
        have hbb := HBB.out
        clear c1 HUA HUF
        by_cases h0 : er = 0
        · subst h0
          obtain ⟨n5, nz, n33, hkk⟩ := frame_n (B.extract a B.size) hk (by rw [hfe])
          rw [hfe] at n5 nz n33 hkk
          rw [ext_all] at nz
          dsimp only at n5 nz n33 hkk
          by_cases hk0 : kd = 0
          · subst hk0
            have hand := and32 out.size (by omega)
            by_cases hq : r = out.size
            · have hend := scan_end (l := l) (how := hcd) (out := out) ha1 (by rw [hfe]) (by rw [hfe]) (by rw [hfe]; show r = _; omega)
              rw [hfe, ha3] at hend
              dsimp only at hend
              have d1 : ((r : Int) == (out.size : Int)) = true := beq_iff_eq.2 (by omega)
              have d2 : ((r : Int) != (out.size : Int)) = false := by rw [bne, d1]; rfl
              have t1 : (a : Int) ≤ 900000 := by omega
              have t2 : (n : Int) ≤ 1033 := by omega
              by_cases hlt : a + n < B.size
              · rw [if_pos hlt] at hend
                have d3 : decide ((a : Int) + (n : Int) < (B.size : Int)) = true := decide_eq_true (by omega)
                have d4 : decide (a + n < B.size) = true := decide_eq_true hlt
                have HE := Aside0.mk hend
                clear ha1 ha2 ha3 hfe hbb n5 nz n33 hkk hq hend hlt p1 p2
                go_wp2_with fail
                exact bodyPost_ret (v := .tuple #[.string out, .int .i64 13, .int .i64 ((a : Int) + (n : Int))]) (by simp [results, Tryz.results21, go_sem]) rfl ⟨by rw [HE.out]; show _ = Ending.returned (.tuple #[.string out, .int .i64 13, .int .i64 ((a + n : Nat) : Int)]); rw [Int.natCast_add], BW.out⟩
              · rw [if_neg hlt] at hend
                have d3 : decide ((a : Int) + (n : Int) < (B.size : Int)) = false := decide_eq_false (by omega)
                have d4 : decide (a + n < B.size) = false := decide_eq_false hlt
                have HE := Aside0.mk hend
                clear ha1 ha2 ha3 hfe hbb n5 nz n33 hkk hq hend hlt p1 p2
                go_wp2_with fail
                exact bodyPost_ret (v := .tuple #[.string out, .int .i64 0, .int .i64 0]) (by simp [results, Tryz.results21, go_sem]) rfl ⟨by rw [HE.out]; rfl, BW.out⟩
            · have hend := scan_length (l := l) (how := hcd) (out := out) ha1 (by rw [hfe]) (by rw [hfe]) (by rw [hfe]; show r ≠ _; omega)
              rw [ha3] at hend
              have HE := Aside0.mk hend
              have d1 : ((r : Int) == (out.size : Int)) = false := beq_eq_false_iff_ne.2 (by omega)
              have d2 : ((r : Int) != (out.size : Int)) = true := bne_iff_ne.2 (by omega)
              clear ha1 ha2 ha3 hfe hbb n5 nz n33 hkk hq hend p1 p2
              go_wp2_with fail
              exact bodyPost_ret (v := .tuple #[.string out, .int .i64 12, .int .i64 (a : Int)]) (by simp [results, Tryz.results21, go_sem]) rfl ⟨by rw [HE.out]; rfl, BW.out⟩
          · obtain ⟨hkd, hrw, hpy⟩ : (1 ≤ kd ∧ kd ≤ 2) ∧ (1 ≤ r ∧ r ≤ 1024) ∧ py.size ≤ 1024 := by
              rcases hkk with h | h
              · exact absurd h.1 hk0
              · exact h
            have HGA := Aside0.mk (fun (W : World) (hr : StrsIn W A l) => HG.out W hr kd r py (by omega))
            obtain ⟨_, g2, _⟩ := getR_ok HL.out HS.out hcd kd r py (by have := HK.out.1; omega) (by omega) (by omega)
            obtain ⟨G, hG⟩ : ∃ G, getR l hcd kd r py = G := ⟨_, rfl⟩
            rw [hG] at HGA g2
            obtain ⟨s, ec⟩ := G
            dsimp only at HGA g2
            have e1 : ((kd : Int) == 0) = false := beq_eq_false_iff_ne.2 (by omega)
            have e2 : ((kd : Int) != 0) = true := bne_iff_ne.2 (by omega)
            by_cases hec : ec = 0
            · subst hec
              have hsz := g2 rfl
              have HCR := Aside0.mk (fun W => rcrc_calls s (by omega) W)
              by_cases hcs : crcR (u s) = (sm : Int)
              · have hend := scan_more (l := l) (how := hcd) (out := out) ha1 (by rw [hfe]) (by rw [hfe]; exact hk0) (by rw [hfe]; dsimp only; rw [hG]) (by rw [hfe]; dsimp only; rw [hG]; exact hcs)
                rw [hfe, ha3] at hend
                dsimp only at hend
                rw [hG] at hend
                dsimp only at hend
                rw [hcs] at HCR
                have HE := Aside0.mk (And.intro hend.symm (And.intro (show a + n ≤ B.size by omega) (And.intro (show (out ++ s).size ≤ 1024 * (a + n) by rw [ByteArray.size_append]; omega) (show 5 ≤ n by omega))))
                have t1 : (a : Int) ≤ 900000 := by omega
                have t2 : (n : Int) ≤ 1033 := by omega
                have u1 : ¬ 9223372036854775807 < out.size + s.size := by omega
                have d1 : ((sm : Int) == (sm : Int)) = true := beq_iff_eq.2 rfl
                have d2 : ((sm : Int) != (sm : Int)) = false := by rw [bne, d1]; rfl
                clear ha1 ha2 ha3 hfe hbb n5 nz n33 hkk hk0 hend hkd hrw hpy g2 hG hcs hsz p1 p2
                go_wp2_with fail
                refine (HGA.out _ (Kd.C_below HR.out BW.out)).mono ?_
                rintro e w4 ⟨rfl, hb4⟩
                have r2 := pw_cell_below hb4 k2
                have B4 := Aside0.mk (below_step BW.out hb4)
                have H4 := Aside0.mk (blk_below HHC.out hb4)
                clear hb4
                go_wp2_with fail
                go_region_held3 (fun w' => w'.cell? ⟨gf, 2, none⟩ = some (.int .u32 (sm : Int)))
                  (first | exact r2)
                  ((go_at_call 49; refine (HCR.out _).mono ?_; rintro e w5 ⟨rfl, rfl⟩))
                go_wp2_with fail
                refine ⟨⟨_, _, rfl, congrArg (Value.int .i64) (Int.natCast_add a n).symm, ⟨HE.out.2.1, HE.out.2.2.1, HE.out.1⟩, ⟨?_⟩, ⟨?_⟩⟩, ?_⟩
                · repeat (with_reducible first | exact H4.out | refine blk_drewN ?_ _ | refine blk_drew ?_)
                · repeat (with_reducible first | exact B4.out | apply below_drew | apply pw_below_drewN)
                · have h5 := HE.out.2.2.2
                  have h6 := HE.out.2.1
                  show B.size - ((a : Int) + (n : Int)).toNat < B.size - (a : Int).toNat
                  omega
              · have hend := scan_sum (l := l) (how := hcd) (out := out) ha1 (by rw [hfe]) (by rw [hfe]; exact hk0) (by rw [hfe]; dsimp only; rw [hG]) (by rw [hfe]; dsimp only; rw [hG]; exact hcs)
                rw [ha3] at hend
                have HE := Aside0.mk hend
                have d1 : (crcR (u s) == (sm : Int)) = false := beq_eq_false_iff_ne.2 hcs
                have d2 : (crcR (u s) != (sm : Int)) = true := bne_iff_ne.2 hcs
                generalize crcR (u s) = cr at *
                clear ha1 ha2 ha3 hfe hbb n5 nz n33 hkk hk0 hend hkd hrw hpy g2 hG hcs hsz p1 p2
                go_wp2_with fail
                refine (HGA.out _ (Kd.C_below HR.out BW.out)).mono ?_
                rintro e w4 ⟨rfl, hb4⟩
                have r2 := pw_cell_below hb4 k2
                have B4 := Aside0.mk (below_step BW.out hb4)
                clear hb4
                go_wp2_with fail
                go_region_held3 (fun w' => w'.cell? ⟨gf, 2, none⟩ = some (.int .u32 (sm : Int)))
                  (first | exact r2)
                  ((go_at_call 49; refine (HCR.out _).mono ?_; rintro e w5 ⟨rfl, rfl⟩))
                go_wp2_with fail
                exact bodyPost_ret (v := .tuple #[.string out, .int .i64 7, .int .i64 (a : Int)]) (by simp [results, Tryz.results21, go_sem]) rfl ⟨by rw [HE.out]; rfl, by repeat (with_reducible first | exact B4.out | apply below_drew | apply pw_below_drewN)⟩
            · have hend := scan_get (l := l) (how := hcd) (out := out) ha1 (by rw [hfe]) (by rw [hfe]; exact hk0) (by rw [hfe]; dsimp only; rw [hG]; exact hec)
              rw [hfe, ha3] at hend
              dsimp only at hend
              rw [hG] at hend
              have hf : finC ⟨out, a, ec, false⟩ = ec := if_pos hec
              have hE : S.out = out ∧ finC S = ec ∧ rAt S = a := by rw [hend]; exact ⟨rfl, hf, if_neg (by rw [hf]; exact hec)⟩
              have HE := Aside0.mk hE
              have d1 : (ec == (0 : Int)) = false := beq_eq_false_iff_ne.2 hec
              have d2 : (ec != (0 : Int)) = true := bne_iff_ne.2 hec
              clear ha1 ha2 ha3 hfe hbb n5 nz n33 hkk hk0 hend hkd hrw hpy g2 hG hec hf hE p1 p2
              go_wp2_with fail
              refine (HGA.out _ (Kd.C_below HR.out BW.out)).mono ?_
              rintro e w4 ⟨rfl, hb4⟩
              have B4 := Aside0.mk (below_step BW.out hb4)
              clear hb4
              go_wp2_with fail
              exact bodyPost_ret (v := .tuple #[.string out, .int .i64 ec, .int .i64 (a : Int)]) (by simp [results, Tryz.results21, go_sem]) rfl ⟨by rw [HE.out.1, HE.out.2.1, HE.out.2.2], B4.out⟩
        · have hend : S.out = out ∧ finC S = (er : Int) ∧ rAt S = a := by
            by_cases h2 : er = 2
            · have h := scan_wait (l := l) (how := hcd) (out := out) ha1 (by rw [hfe]; exact h2)
              rw [ha3] at h
              rw [h, h2]
              exact ⟨rfl, rfl, rfl⟩
            · have h := scan_bad (l := l) (how := hcd) (out := out) ha1 (by rw [hfe]; exact h2) (by rw [hfe]; exact h0)
              rw [ha3, hfe] at h
              rw [h]
              have hne : ((er : Nat) : Int) ≠ 0 := by omega
              have hf : finC ⟨out, a, (er : Int), false⟩ = (er : Int) := if_pos hne
              exact ⟨rfl, hf, if_neg (by rw [hf]; exact hne)⟩
          have HE := Aside0.mk hend
          have d1 : ((er : Int) == 0) = false := beq_eq_false_iff_ne.2 (by omega)
          have d2 : ((er : Int) != 0) = true := bne_iff_ne.2 (by omega)
          clear ha1 ha2 ha3 hfe hbb hend h0 p1 p2
          go_wp2_with fail
          exact bodyPost_ret (v := .tuple #[.string out, .int .i64 (er : Int), .int .i64 (a : Int)]) (by simp [results, Tryz.results21, go_sem]) rfl ⟨by rw [HE.out.1, HE.out.2.1, HE.out.2.2], BW.out⟩
  · have hf : (full l B).out = ⟨#[]⟩ ∧ finC (full l B) = 6 ∧ rAt (full l B) = 0 := by
      rw [full_id h17 he hi]
      exact ⟨rfl, rfl, rfl⟩
    rw [hf.1, hf.2.1, hf.2.2]
    have d3 : (((headR B).id : Int) != Bridge.fnv (Spec.bytes l)) = true := bne_iff_ne.2 hi
    have d4 : (((headR B).id : Int) == Bridge.fnv (Spec.bytes l)) = false := beq_eq_false_iff_ne.2 hi
    rw [he] at HU
    generalize Bridge.fnv (Spec.bytes l) = F at *
    generalize str (Spec.bytes l) = bs at *
    generalize (headR B).id = id at *
    generalize (headR B).c = hcd at *
    generalize (headR B).k = hk at *
    clear hf hB he hi hr hc hl hs h17
    go_enter Tryz.func21, Tryz.ntmps21
    go_wp2_with fail
    refine (HU.out _).mono ?_
    rintro e w1 ⟨rfl, hb1⟩
    have B1 := Aside0.mk hb1
    have W2 := Aside0.mk (show Below w.heap.size w (w1.alloc (.cells #[.int .i64 (hcd : Int), .int .i64 (hk : Int), .int .u64 (id : Int)] 40)) from below_alloc B1.out _)
    have s0 : (w1.alloc (.cells #[.int .i64 (hcd : Int), .int .i64 (hk : Int), .int .u64 (id : Int)] 40)).cell? ⟨w1.heap.size, 0, none⟩ = some (.int .i64 (hcd : Int)) := by simp
    have s1 : (w1.alloc (.cells #[.int .i64 (hcd : Int), .int .i64 (hk : Int), .int .u64 (id : Int)] 40)).cell? ⟨w1.heap.size, 1, none⟩ = some (.int .i64 (hk : Int)) := by simp
    have s2 : (w1.alloc (.cells #[.int .i64 (hcd : Int), .int .i64 (hk : Int), .int .u64 (id : Int)] 40)).cell? ⟨w1.heap.size, 2, none⟩ = some (.int .u64 (id : Int)) := by simp
    clear hb1
    go_wp2_with fail
    go_region_held3 (fun w' => w'.cell? ⟨w1.heap.size, 2, none⟩ = some (.int .u64 (id : Int)))
      (first | exact s2 | exact pw_cell_below h2 s2)
      ((first
        | (go_at_call 46; refine (HRB.out _ (Kd.C_below HR.out (below_drew W2.out))).mono ?_; rintro x w2 ⟨rfl, hb2⟩; have h2 := below_step (below_drew (Below.refl (w1.alloc (.cells #[.int .i64 (hcd : Int), .int .i64 (hk : Int), .int .u64 (id : Int)] 40)).heap.size (w1.alloc (.cells #[.int .i64 (hcd : Int), .int .i64 (hk : Int), .int .u64 (id : Int)] 40)))) hb2)
        | (go_at_call 45; refine (HRF.out _).mono ?_; rintro x w3 ⟨rfl, hb3⟩; have h2 := below_step h2 hb3.below)))
    go_wp2_with fail
    exact bodyPost_ret (v := .tuple #[.string ⟨#[]⟩, .int .i64 6, .int .i64 ((0 : Nat) : Int)]) (by simp [results, Tryz.results21, go_sem]) rfl ⟨rfl, below_step W2.out h2⟩
theorem rdecode_calls {A : Option Addr} {c : Nat} (l : List ByteArray) (hl : l.length ≤ 100) (hs : ∀ s ∈ l, 1 ≤ s.size ∧ s.size ≤ 40) (B : ByteArray) (hB : B.size ≤ 900000) {w : World} (hr : StrsIn w A l) (hc : l.length ≤ c) :
    Calls Tryz.prog 21 #[.slice A l.length c, .string B] w fun e w' => e = .returned (.tuple #[.string (full l B).out, .int .i64 (finC (full l B)), .int .i64 (rAt (full l B) : Nat)]) ∧ Below w.heap.size w w' := by
  by_cases he : (headR B).e = 0
  · exact rdecode_id l hl hs B hB hr hc he
  · exact rdecode_head l B hB he
end Go.Proofs.YtdpkgjahcapleaaGreat
