/- ShU: a part of its proof (contracts of the functions that it reaches, and the plain mathematics behind them). -/
import Derived.Test.YtepgkimlmoikmaaGreatShU19
set_option linter.unusedVariables false
set_option linter.unusedSimpArgs false
set_option maxHeartbeats 2000000
set_option maxRecDepth 100000
set_option linter.unusedVariables false
set_option linter.unusedSimpArgs false
namespace Go.Proofs.YtepgkimlmoikmaaGreat
open Go.RowKit Go.Proofs.YtepgkimlmoikmaaGreat.Spec Go.Proofs.YtepgkimlmoikmaaGreatW.PrintWords Go.Proofs.YtepgkimlmoikmaaGreatW.PrintLast
open Go.Proofs.YtepgkimlmoikmaaGreatW.PrintMore
attribute [local go_sem ↓] Go.wp_at_zero Go.wp_at_succ
def ChAt (w : World) (g : Nat) (c : Int × Nat × Nat) : Prop := w.heap[g]? = some (.cells #[.int .i64 c.1, .int .i64 (c.2.1 : Int), .int .i64 (c.2.2 : Int)] 225 (0, 0))
theorem ChAt.c0 {w : World} {g : Nat} {c : Int × Nat × Nat} (h : ChAt w g c) : w.cell? ⟨g, 0, none⟩ = some (.int .i64 c.1) := (blk_cell h 0).trans rfl
theorem ChAt.c1 {w : World} {g : Nat} {c : Int × Nat × Nat} (h : ChAt w g c) : w.cell? ⟨g, 1, none⟩ = some (.int .i64 (c.2.1 : Int)) := (blk_cell h 1).trans rfl
theorem ChAt.c2 {w : World} {g : Nat} {c : Int × Nat × Nat} (h : ChAt w g c) : w.cell? ⟨g, 2, none⟩ = some (.int .i64 (c.2.2 : Int)) := (blk_cell h 2).trans rfl
theorem ChAt.fz {w : World} {g : Nat} {c : Int × Nat × Nat} (h : ChAt w g c) (j : Nat) : w.frozen? ⟨g, j, none⟩ = false := blk_frozen h j
theorem ChAt.alloc {w : World} {g : Nat} {c : Int × Nat × Nat} (h : ChAt w g c) (o : Obj) : ChAt (w.alloc o) g c := blk_alloc h o
theorem ChAt.put {w : World} {g : Nat} {c : Int × Nat × Nat} (h : ChAt w g c) (x : Int) (y z : Nat) : ChAt (((w.setCell ⟨g, 0, none⟩ (.int .i64 x)).setCell ⟨g, 1, none⟩ (.int .i64 (y : Int))).setCell ⟨g, 2, none⟩ (.int .i64 (z : Int))) g (x, y, z) := blk_put (blk_put (blk_put h 0 _ rfl) 1 _ rfl) 2 _ rfl
theorem better_calls (c o : Int × Nat × Nat) (w : World) : Calls Tryz.prog 172 #[.agg #[.int .i64 c.1, .int .i64 (c.2.1 : Int), .int .i64 (c.2.2 : Int)], .agg #[.int .i64 o.1, .int .i64 (o.2.1 : Int), .int .i64 (o.2.2 : Int)]] w fun e w' => e = .returned (.bool (bet c o)) ∧ Below w.heap.size w w' := by
 refine Leaf.flex_choice_better.calls _ _ _ _ _ _ _ w ?_
 unfold Leaf.flex_choice_better.f bet
 by_cases h : c.2.2 = o.2.2
 ·rw [if_pos (by omega), if_pos h]
  congr 1
  rw [decide_eq_decide]
  omega
 ·rw [if_neg (by omega), if_neg h]
  congr 1
  rw [decide_eq_decide]
  omega
theorem stepI (i : Nat) : Value.int .i64 ((i : Int) + 1) = .int .i64 ((i + 1 : Nat) : Int) := rfl
theorem measI (n i : Nat) (h : i < n) : n - (intOf (.int .i64 ((i : Int) + 1))).toNat < n - (intOf (.int .i64 (i : Int))).toNat := by
 show n - ((i : Int) + 1).toNat < n - (i : Int).toNat
 omega
theorem bcell {W w1 : World} (hb : Below W.heap.size W w1) : (∀ b o, b < W.heap.size → w1.cell? ⟨b, o, none⟩ = W.cell? ⟨b, o, none⟩) ∧ (∀ b o, b < W.heap.size → w1.frozen? ⟨b, o, none⟩ = W.frozen? ⟨b, o, none⟩) :=
 ⟨fun b o h => hb.cell (p := ⟨b, o, none⟩) h, fun b o h => hb.frozen (p := ⟨b, o, none⟩) h⟩
def Rl (l : List ByteArray) (b : ByteArray) (a : Nat) (w : World) (q : Int × Nat × Nat) (v : Value) (wc : World) : Prop := ∃ g, v = .pointer (some ⟨g, 0, none⟩) ∧ Aside0 (ChAt wc g (fone l b a)) ∧ Aside0 (ChAt wc w.heap.size q) ∧ Aside0 (Below w.heap.size w wc)
theorem one_byte {b : ByteArray} {a : Nat} (ha : a < b.size) : (Value.int .i64 (IntKind.i64.wrap ((b[a]'ha).toNat : Int))) = .int .i64 (((u b).getD a 0).toNat : Int) := by rw [i64_w, byte_at]
theorem rl_a {l : List ByteArray} {b : ByteArray} {a : Nat} (ha : a < b.size) {w wr w3 : World} {q : Int × Nat × Nat} (HQ : ChAt wr w.heap.size q) (HB : Below w.heap.size w wr) (hb3 : Below wr.drew.heap.size wr.drew w3) :
  Rl l b a w q (.pointer (some ⟨w3.heap.size, 0, none⟩)) (w3.alloc (.cells #[.int .i64 (IntKind.i64.wrap ((b[a]'ha).toNat : Int)), .int .i64 1, .int .i64 (reach l b a 1 : Nat)] 225)) := by
 rw [one_byte ha]
 exact ⟨w3.heap.size, rfl, ⟨heap_alloc_new w3 _⟩, ⟨ChAt.alloc (blk_below (w := wr.drew) HQ hb3) _⟩, ⟨below_alloc (below_step (below_drew HB) hb3) _⟩⟩
theorem rl_b {l : List ByteArray} {b : ByteArray} {a : Nat} (ha : a < b.size) {w wr w3 : World} {q : Int × Nat × Nat} (HQ : ChAt wr w.heap.size q) (HB : Below w.heap.size w wr) (hb3 : Below (wr.alloc (.cells #[.int .i64 0, .int .i64 0, .int .i64 0] 225)).drew.heap.size (wr.alloc (.cells #[.int .i64 0, .int .i64 0, .int .i64 0] 225)).drew w3) :
  Rl l b a w q (.pointer (some ⟨wr.heap.size, 0, none⟩)) (((w3.setCell ⟨wr.heap.size, 0, none⟩ (.int .i64 (IntKind.i64.wrap ((b[a]'ha).toNat : Int)))).setCell ⟨wr.heap.size, 1, none⟩ (.int .i64 1)).setCell ⟨wr.heap.size, 2, none⟩ (.int .i64 (reach l b a 1 : Nat))) := by
 rw [one_byte ha]
 have h1 : ChAt w3 wr.heap.size (0, 0, 0) := blk_below (w := (wr.alloc (.cells #[.int .i64 0, .int .i64 0, .int .i64 0] 225)).drew) (heap_alloc_new wr _) hb3
 have h2 : ChAt w3 w.heap.size q := blk_below (w := (wr.alloc (.cells #[.int .i64 0, .int .i64 0, .int .i64 0] 225)).drew) (blk_alloc HQ _) hb3
 have hne : w.heap.size ≠ wr.heap.size := Nat.ne_of_lt (blk_lt HQ)
 have hle := HB.size
 exact ⟨wr.heap.size, rfl, ⟨h1.put _ _ _⟩, ⟨blk_far (blk_far (blk_far h2 hne _) hne _) hne _⟩, ⟨(((below_step (below_drew (below_alloc HB _)) hb3).setCell hle _).setCell hle _).setCell hle _⟩⟩
theorem fnext_any {p : Value} {l : List ByteArray} {w : World} (hd : DictN w p l) (hl : l.length ≤ 1000) (hs : ∀ s ∈ l, 1 ≤ s.size ∧ s.size ≤ 40) (b : ByteArray) (a : Nat) (ha : a < b.size) (hb : b.size ≤ 100000) :
  Calls Tryz.prog 125 #[p, .string b, .int .i64 a] w fun e w' => e = .returned (.tuple #[.int .i64 (fnx l b a).1, .int .i64 (fnx l b a).2]) ∧ Below w.heap.size w w' := by
 have HA := Aside0.mk (fun (W : World) (hd : DictN W p l) => alln_any hd (by omega))
 have HRC := Aside0.mk (fun (W : World) (hd : DictN W p l) (n : Nat) (h : a + n ≤ b.size) => reach_any hd hl hs b a n h hb)
 have HL := Aside0.mk hl
 have HS := Aside0.mk hs
 have HD := Aside0.mk hd
 have HAB := Aside0.mk (And.intro ha hb)
 have d1 : decide ((a : Int) < 0) = false := decide_eq_false (by omega)
 have d2 : decide ((b.size : Int) ≤ (a : Int)) = false := decide_eq_false (by omega)
 have d3 : decide (b.size ≤ a) = false := decide_eq_false (by omega)
 have z1 : ¬ b.size < a := by omega
 have z2 : a ≤ b.size := by omega
 clear hd hl hs ha hb
 go_enter Tryz.func125, Tryz.ntmps125
 go_wp2_with fail
 refine (HA.out _ (HD.out.below ((Below.refl _ _).alloc (Nat.le_refl _) _))).mono ?_
 rintro e w1 ⟨v1, rfl, hrow, hb1⟩
 obtain ⟨A, c, rfl, hc, hC⟩ := Kd.R_reads hrow
 have HC := Aside0.mk hC
 have HFAR := Aside0.mk (Kd.far_own (g := w.heap.size) hrow (fun e => by have h1 := Kd.R_base hrow _ e.symm; rw [World.size_alloc] at h1; omega))
 have HG := Aside0.mk (show ChAt w1 w.heap.size (0, 0, 0) from blk_below (heap_alloc_new w _) hb1)
 have H1 := Aside0.mk (below_step ((Below.refl _ _).alloc (Nat.le_refl _) _) hb1)
 clear hrow hc hC hb1
 go_wp2_with fail
 go_loopw [9, 25] (fun v9 v25 wr => ∃ (i : Nat) (q : Int × Nat × Nat) (sg : Bool) (r : List ByteArray), v9 = .bool sg ∧ v25 = .int .i64 i ∧ Aside0 (i ≤ l.length) ∧ Aside0 (l.drop i = r) ∧ Aside0 (flx l b a i q sg r = flx l b a 0 (0, 0, 0) false l) ∧ Aside0 (ChAt wr w.heap.size q) ∧ Aside0 (KeepBut w1 wr w.heap.size none) ∧ Aside0 (Below w.heap.size w wr)) (fun _ v25 _ => l.length - (intOf v25).toNat)
 case atStart => exact ⟨0, (0, 0, 0), false, l, rfl, rfl, ⟨Nat.zero_le _⟩, ⟨rfl⟩, ⟨rfl⟩, HG, ⟨KeepBut.refl _ _ _⟩, H1⟩
 case round =>
  obtain ⟨i, q, sg, r, rfl, rfl, HI, HDR, HM, HQ, HK, HB⟩ := hrel
  have hi := HI.out
  have hn := HL.out
  cases r with
  | nil =>
   have hlen := congrArg List.length HDR.out
   rw [List.length_drop, List.length_nil] at hlen
   have d0 : decide ((i : Int) < (l.length : Int)) = false := decide_eq_false (by omega)
   have d0' : decide (i < l.length) = false := decide_eq_false (by omega)
   have ha := HAB.out.1
   have HRR := Aside0.mk (fun (W : World) (h : DictN W p l) => HRC.out W h 1 (by omega))
   have hm := HM.out
   rw [flx_nil] at hm
   have HMM := Aside0.mk hm
   have HBY := Aside0.mk (byte_at b a ha)
   have z3 : (0 : Int) ≤ (a : Int) := by omega
   have z4 : (a : Int) < (b.size : Int) := by omega
   clear hi hn hlen hm
   go_wp2_with fail
   go_cut [13] (fun v13 wc => Rl l b a w q v13 wc)
   case first =>
    go_region_with (first | (go_at_call 171; refine (HRR.out _ (HD.out.below (by repeat (first | exact HB.out | apply below_alloc | apply below_drew)))).mono ?_; rintro e w3 ⟨rfl, hb3⟩; obtain ⟨kc, kf⟩ := bcell hb3))
    all_goals go_wp2_with fail
    all_goals go_meet
    all_goals first | with_reducible exact rl_a HAB.out.1 HQ.out HB.out hb3 | exact rl_b HAB.out.1 HQ.out HB.out hb3
   case rest =>
    obtain ⟨g, rfl, HN, HQ, HB⟩ := hcut
    have k0 := HN.out.c0
    have k1 := HN.out.c1
    have k2 := HN.out.c2
    have f0 := HQ.out.c0
    have f1 := HQ.out.c1
    have f2 := HQ.out.c2
    have z0 := HQ.out.fz 0
    have z1 := HQ.out.fz 1
    have z2 := HQ.out.fz 2
    have HBT := Aside0.mk (fun (W : World) => better_calls (fone l b a) q W)
    have hfn : fnx l b a = if sg = false ∧ bet (fone l b a) q = true then ((fone l b a).1, (fone l b a).2.1) else (q.1, q.2.1) := by
     unfold fnx
     rw [← HMM.out]
    cases sg with
    | true =>
     rw [if_neg (by simp)] at hfn
     have HFN := Aside0.mk hfn
     clear hfn k0 k1 k2
     go_wp2
     go_quiet (fail)
     go_wp2
     go_ret2
     rw [HFN.out]
     exact ⟨rfl, pw_below_drewN HB.out _⟩
    | false =>
     cases hbt : bet (fone l b a) q with
     | false =>
      rw [hbt, if_neg (by simp)] at hfn
      have HFN := Aside0.mk hfn
      rw [hbt] at HBT
      clear hfn hbt
      go_wp2_with fail
      refine (HBT.out _).mono ?_
      rintro e w4 ⟨rfl, hb4⟩
      have hq4 : ChAt w4 w.heap.size q := blk_below HQ.out hb4
      have HB4 := Aside0.mk (below_step HB.out hb4)
      clear k0 k1 k2 f0 f1 f2 z0 z1 z2 hb4
      have f0 := hq4.c0
      have f1 := hq4.c1
      clear hq4
      go_wp2
      go_quiet (fail)
      go_wp2
      go_ret2
      rw [HFN.out]
      exact ⟨rfl, pw_below_drewN HB4.out _⟩
     | true =>
      rw [hbt, if_pos ⟨rfl, rfl⟩] at hfn
      have HFN := Aside0.mk hfn
      rw [hbt] at HBT
      clear hfn hbt
      go_wp2_with fail
      refine (HBT.out _).mono ?_
      rintro e w4 ⟨rfl, hb4⟩
      have hq4 : ChAt w4 w.heap.size q := blk_below HQ.out hb4
      have hn4 : ChAt w4 g (fone l b a) := blk_below HN.out hb4
      have HB4 := Aside0.mk (below_step HB.out hb4)
      clear k0 k1 k2 f0 f1 f2 z0 z1 z2 hb4
      have f0 := hq4.c0
      have f1 := hq4.c1
      have f2 := hq4.c2
      have z0 := hq4.fz 0
      have z1 := hq4.fz 1
      have z2 := hq4.fz 2
      have k0 := hn4.c0
      have k1 := hn4.c1
      have k2 := hn4.c2
      have p0 := (hq4.put (fone l b a).1 (fone l b a).2.1 (fone l b a).2.2).c0
      have p1 := (hq4.put (fone l b a).1 (fone l b a).2.1 (fone l b a).2.2).c1
      clear hq4 hn4
      go_wp2_with fail
      go_quiet (fail)
      go_wp2
      go_ret2
      rw [HFN.out]
      exact ⟨rfl, pw_below_drewN ((((HB4.out).setCell (Nat.le_refl _) _).setCell (Nat.le_refl _) _).setCell (Nat.le_refl _) _) _⟩
  | cons s r =>
   have hlen := congrArg List.length HDR.out
   rw [List.length_drop, List.length_cons] at hlen
   have d0 : decide ((i : Int) < (l.length : Int)) = true := decide_eq_true (by omega)
   have d0' : decide (i < l.length) = true := decide_eq_true (by omega)
   have HLT := Aside0.mk (show i < l.length by omega)
   have p1 : (0 : Int) ≤ (i : Int) := by omega
   have p2 : (i : Int) < (l.length : Int) := by omega
   have p3 : (i : Int) ≤ 1000 := by omega
   have hget : l[i]? = some s := by
    have := congrArg (fun q => q[0]?) HDR.out
    simpa using this
   obtain ⟨ad2, e2, hcell⟩ := Kd.at_string (Kd.C_keep ByteArray.empty HC.out HK.out HFAR.out) (i : Int) p1 p2
   have hrd : rdOf ByteArray.empty l (i : Int) = s := by unfold rdOf; rw [Int.toNat_natCast, List.getD_eq_getElem?_getD, hget]; rfl
   rw [hrd, Int.toNat_natCast] at hcell
   subst e2
   have hsz := HS.out s (List.mem_of_getElem? hget)
   have hm := HM.out
   rw [flx_cons] at hm
   have HD2 : Aside0 (l.drop (i + 1) = r) := ⟨by rw [← List.drop_drop, HDR.out]; rfl⟩
   cases hh : hp (b.extract a b.size) s with
   | false =>
    rw [if_neg (by rw [hh]; simp)] at hm
    have HMM := Aside0.mk hm
    have HH := Aside0.mk hh
    clear hi hn hlen hget hrd hm hh hsz
    go_wp2_with fail
    refine (hp_calls _ _ _).mono ?_
    rw [HH.out]
    rintro e w2 ⟨rfl, hb2⟩
    have HQ2 : Aside0 (ChAt w2 w.heap.size q) := ⟨blk_below HQ.out hb2⟩
    have HB2 := Aside0.mk (below_step HB.out hb2)
    have HK2 := Aside0.mk (HK.out.trans (KeepBut.of_below hb2 _ _) (.inl rfl))
    have HDA2 := Aside0.mk (HD.out.below HB2.out)
    clear hb2
    go_wp2_with fail
    go_roundw
    case rel =>
     have h1 := HLT.out
     have h2 := HL.out
     exact ⟨i + 1, q, sg, r, rfl, stepI i, ⟨by omega⟩, HD2, HMM, HQ2, HK2, HB2⟩
    case measure => have h1 := HLT.out; have h2 := HL.out; exact measI _ i h1
   | true =>
    rw [if_pos hh] at hm
    have hps := hp_size (Nat.le_of_lt HAB.out.1) hh
    have HMM := Aside0.mk hm
    have HH := Aside0.mk hh
    have HSZ := Aside0.mk hsz
    have HRR := Aside0.mk (fun (W : World) (h : DictN W p l) => HRC.out W h s.size hps)
    have z5 : (256 : Int) + (i : Int) ≤ 2000 := by omega
    clear hi hn hlen hget hrd hm hh hsz hps
    go_wp2_with fail
    refine (hp_calls _ _ _).mono ?_
    rw [HH.out]
    rintro e w2 ⟨rfl, hb2⟩
    have HQ2 : Aside0 (ChAt w2 w.heap.size q) := ⟨blk_below HQ.out hb2⟩
    have HB2 := Aside0.mk (below_step HB.out hb2)
    have HK2 := Aside0.mk (HK.out.trans (KeepBut.of_below hb2 _ _) (.inl rfl))
    have HDA2 := Aside0.mk (HD.out.below HB2.out)
    clear hb2
    obtain ⟨sg2, h9, h9e⟩ : ∃ sg2, (sg = true ∧ sg2 = true ∨ sg = false ∧ s.size = 1 ∧ sg2 = true ∨ sg = false ∧ s.size ≠ 1 ∧ sg2 = false) ∧ sg2 = (sg || s.size == 1) := by
     cases sg
     ·by_cases h1 : s.size = 1
      ·exact ⟨true, .inr (.inl ⟨rfl, h1, rfl⟩), by rw [h1]; rfl⟩
      ·exact ⟨false, .inr (.inr ⟨rfl, h1, rfl⟩), by rw [Bool.false_or]; exact (beq_eq_false_iff_ne.2 h1).symm⟩
     ·exact ⟨true, .inl ⟨rfl, rfl⟩, rfl⟩
    have hmm := HMM.out
    rw [← h9e] at hmm
    have HMM2 := Aside0.mk hmm
    clear hmm h9e HMM
    have HBT := Aside0.mk (fun (W : World) => better_calls (256 + (i : Int), s.size, reach l b a s.size) q W)
    cases hbt : bet (256 + (i : Int), s.size, reach l b a s.size) q with
    | false =>
     have hmm := HMM2.out
     rw [if_neg (by rw [hbt]; simp)] at hmm
     have HM3 := Aside0.mk hmm
     rw [hbt] at HBT
     clear hmm hbt HMM2
     rcases h9 with ⟨rfl, rfl⟩ | ⟨rfl, h1, rfl⟩ | ⟨rfl, h1, rfl⟩
     ·clear HM
      go_wp2_with fail
      refine (HRR.out _ HDA2.out).mono ?_
      rintro e w3 ⟨rfl, hb3⟩
      have HB3 := Aside0.mk (below_alloc (below_step HB2.out hb3) (.cells #[.int .i64 (256 + (i : Int)), .int .i64 (s.size : Int), .int .i64 (reach l b a s.size : Int)] 225))
      have HK3 := Aside0.mk (keep_alloc (HK2.out.trans (KeepBut.of_below hb3 _ _) (.inl rfl)) (.cells #[.int .i64 (256 + (i : Int)), .int .i64 (s.size : Int), .int .i64 (reach l b a s.size : Int)] 225))
      have hq3 : ChAt w3 w.heap.size q := blk_below HQ2.out hb3
      have HQ3 := Aside0.mk hq3
      have k0 := fun o => (hq3.alloc o).c0
      have k1 := fun o => (hq3.alloc o).c1
      have k2 := fun o => (hq3.alloc o).c2
      clear hb3 hq3
      go_wp2_with fail
      clear k0 k1 k2
      refine (HBT.out _).mono ?_
      rintro e w4 ⟨rfl, hb4⟩
      have HB4 := Aside0.mk (below_step HB3.out hb4)
      have HK4 := Aside0.mk (HK3.out.trans (KeepBut.of_below hb4 _ _) (.inl rfl))
      have hq4 : ChAt w4 w.heap.size q := blk_below (HQ3.out.alloc _) hb4
      have HQ4 := Aside0.mk hq4
      have hn4 : ChAt w4 w3.heap.size (256 + (i : Int), s.size, reach l b a s.size) := blk_below (heap_alloc_new w3 _) hb4
      have k0 := hn4.c0
      have k1 := hn4.c1
      have k2 := hn4.c2
      have f0 := hq4.c0
      have f1 := hq4.c1
      have f2 := hq4.c2
      have z0 := hq4.fz 0
      have z1 := hq4.fz 1
      have z2 := hq4.fz 2
      clear hb4 hq4 hn4
      go_wp2_with fail
      clear k0 k1 k2 f0 f1 f2 z0 z1 z2
      go_roundw
      case rel => exact ⟨i + 1, q, _, r, rfl, stepI i, ⟨by have h1 := HLT.out; omega⟩, HD2, HM3, HQ4, HK4, HB4⟩
      case measure => have h1 := HLT.out; exact measI _ i h1
     ·have g1 : ((s.size : Int) == 1) = true := beq_iff_eq.2 (by omega)
      have g2 : (s.size == 1) = true := beq_iff_eq.2 (by omega)
      clear h1
      go_wp2_with fail
      refine (HRR.out _ HDA2.out).mono ?_
      rintro e w3 ⟨rfl, hb3⟩
      have HB3 := Aside0.mk (below_alloc (below_step HB2.out hb3) (.cells #[.int .i64 (256 + (i : Int)), .int .i64 (s.size : Int), .int .i64 (reach l b a s.size : Int)] 225))
      have HK3 := Aside0.mk (keep_alloc (HK2.out.trans (KeepBut.of_below hb3 _ _) (.inl rfl)) (.cells #[.int .i64 (256 + (i : Int)), .int .i64 (s.size : Int), .int .i64 (reach l b a s.size : Int)] 225))
      have hq3 : ChAt w3 w.heap.size q := blk_below HQ2.out hb3
      have HQ3 := Aside0.mk hq3
      have k0 := fun o => (hq3.alloc o).c0
      have k1 := fun o => (hq3.alloc o).c1
      have k2 := fun o => (hq3.alloc o).c2
      clear hb3 hq3
      go_wp2_with fail
      clear k0 k1 k2
      refine (HBT.out _).mono ?_
      rintro e w4 ⟨rfl, hb4⟩
      have HB4 := Aside0.mk (below_step HB3.out hb4)
      have HK4 := Aside0.mk (HK3.out.trans (KeepBut.of_below hb4 _ _) (.inl rfl))
      have hq4 : ChAt w4 w.heap.size q := blk_below (HQ3.out.alloc _) hb4
      have HQ4 := Aside0.mk hq4
      have hn4 : ChAt w4 w3.heap.size (256 + (i : Int), s.size, reach l b a s.size) := blk_below (heap_alloc_new w3 _) hb4
      have k0 := hn4.c0
      have k1 := hn4.c1
      have k2 := hn4.c2
      have f0 := hq4.c0
      have f1 := hq4.c1
      have f2 := hq4.c2
      have z0 := hq4.fz 0
      have z1 := hq4.fz 1
      have z2 := hq4.fz 2
      clear hb4 hq4 hn4
      go_wp2_with fail
      clear k0 k1 k2 f0 f1 f2 z0 z1 z2
      go_roundw
      case rel => exact ⟨i + 1, q, _, r, rfl, stepI i, ⟨by have h1 := HLT.out; omega⟩, HD2, HM3, HQ4, HK4, HB4⟩
      case measure => have h1 := HLT.out; exact measI _ i h1
     ·have g1 : ((s.size : Int) == 1) = false := beq_eq_false_iff_ne.2 (by omega)
      have g2 : (s.size == 1) = false := beq_eq_false_iff_ne.2 (by omega)
      clear h1
      go_wp2_with fail
      refine (HRR.out _ HDA2.out).mono ?_
      rintro e w3 ⟨rfl, hb3⟩
      have HB3 := Aside0.mk (below_alloc (below_step HB2.out hb3) (.cells #[.int .i64 (256 + (i : Int)), .int .i64 (s.size : Int), .int .i64 (reach l b a s.size : Int)] 225))
      have HK3 := Aside0.mk (keep_alloc (HK2.out.trans (KeepBut.of_below hb3 _ _) (.inl rfl)) (.cells #[.int .i64 (256 + (i : Int)), .int .i64 (s.size : Int), .int .i64 (reach l b a s.size : Int)] 225))
      have hq3 : ChAt w3 w.heap.size q := blk_below HQ2.out hb3
      have HQ3 := Aside0.mk hq3
      have k0 := fun o => (hq3.alloc o).c0
      have k1 := fun o => (hq3.alloc o).c1
      have k2 := fun o => (hq3.alloc o).c2
      clear hb3 hq3
      go_wp2_with fail
      clear k0 k1 k2
      refine (HBT.out _).mono ?_
      rintro e w4 ⟨rfl, hb4⟩
      have HB4 := Aside0.mk (below_step HB3.out hb4)
      have HK4 := Aside0.mk (HK3.out.trans (KeepBut.of_below hb4 _ _) (.inl rfl))
      have hq4 : ChAt w4 w.heap.size q := blk_below (HQ3.out.alloc _) hb4
      have HQ4 := Aside0.mk hq4
      have hn4 : ChAt w4 w3.heap.size (256 + (i : Int), s.size, reach l b a s.size) := blk_below (heap_alloc_new w3 _) hb4
      have k0 := hn4.c0
      have k1 := hn4.c1
      have k2 := hn4.c2
      have f0 := hq4.c0
      have f1 := hq4.c1
      have f2 := hq4.c2
      have z0 := hq4.fz 0
      have z1 := hq4.fz 1
      have z2 := hq4.fz 2
      clear hb4 hq4 hn4
      go_wp2_with fail
      clear k0 k1 k2 f0 f1 f2 z0 z1 z2
      go_roundw
      case rel => exact ⟨i + 1, q, _, r, rfl, stepI i, ⟨by have h1 := HLT.out; omega⟩, HD2, HM3, HQ4, HK4, HB4⟩
      case measure => have h1 := HLT.out; exact measI _ i h1
    | true =>
     have hmm := HMM2.out
     rw [if_pos hbt] at hmm
     have HM3 := Aside0.mk hmm
     rw [hbt] at HBT
     clear hmm hbt HMM2
     rcases h9 with ⟨rfl, rfl⟩ | ⟨rfl, h1, rfl⟩ | ⟨rfl, h1, rfl⟩
     ·clear HM
      go_wp2_with fail
      refine (HRR.out _ HDA2.out).mono ?_
      rintro e w3 ⟨rfl, hb3⟩
      have HB3 := Aside0.mk (below_alloc (below_step HB2.out hb3) (.cells #[.int .i64 (256 + (i : Int)), .int .i64 (s.size : Int), .int .i64 (reach l b a s.size : Int)] 225))
      have HK3 := Aside0.mk (keep_alloc (HK2.out.trans (KeepBut.of_below hb3 _ _) (.inl rfl)) (.cells #[.int .i64 (256 + (i : Int)), .int .i64 (s.size : Int), .int .i64 (reach l b a s.size : Int)] 225))
      have hq3 : ChAt w3 w.heap.size q := blk_below HQ2.out hb3
      have HQ3 := Aside0.mk hq3
      have k0 := fun o => (hq3.alloc o).c0
      have k1 := fun o => (hq3.alloc o).c1
      have k2 := fun o => (hq3.alloc o).c2
      clear hb3 hq3
      go_wp2_with fail
      clear k0 k1 k2
      refine (HBT.out _).mono ?_
      rintro e w4 ⟨rfl, hb4⟩
      have HB4 := Aside0.mk (below_step HB3.out hb4)
      have HK4 := Aside0.mk (HK3.out.trans (KeepBut.of_below hb4 _ _) (.inl rfl))
      have hq4 : ChAt w4 w.heap.size q := blk_below (HQ3.out.alloc _) hb4
      have HQ4 := Aside0.mk hq4
      have hn4 : ChAt w4 w3.heap.size (256 + (i : Int), s.size, reach l b a s.size) := blk_below (heap_alloc_new w3 _) hb4
      have k0 := hn4.c0
      have k1 := hn4.c1
      have k2 := hn4.c2
      have f0 := hq4.c0
      have f1 := hq4.c1
      have f2 := hq4.c2
      have z0 := hq4.fz 0
      have z1 := hq4.fz 1
      have z2 := hq4.fz 2
      clear hb4 hq4 hn4
      go_wp2_with fail
      clear k0 k1 k2 f0 f1 f2 z0 z1 z2
      go_roundw
      case rel => exact ⟨i + 1, (256 + (i : Int), s.size, reach l b a s.size), _, r, rfl, stepI i, ⟨by have h1 := HLT.out; omega⟩, HD2, HM3, ⟨HQ4.out.put _ _ _⟩, ⟨((HK4.out.set_ 0 _).set_ 1 _).set_ 2 _⟩, ⟨((HB4.out.setCell (Nat.le_refl _) _).setCell (Nat.le_refl _) _).setCell (Nat.le_refl _) _⟩⟩
      case measure => have h1 := HLT.out; exact measI _ i h1
     ·have g1 : ((s.size : Int) == 1) = true := beq_iff_eq.2 (by omega)
      have g2 : (s.size == 1) = true := beq_iff_eq.2 (by omega)
      clear h1
      go_wp2_with fail
      refine (HRR.out _ HDA2.out).mono ?_
      rintro e w3 ⟨rfl, hb3⟩
      have HB3 := Aside0.mk (below_alloc (below_step HB2.out hb3) (.cells #[.int .i64 (256 + (i : Int)), .int .i64 (s.size : Int), .int .i64 (reach l b a s.size : Int)] 225))
      have HK3 := Aside0.mk (keep_alloc (HK2.out.trans (KeepBut.of_below hb3 _ _) (.inl rfl)) (.cells #[.int .i64 (256 + (i : Int)), .int .i64 (s.size : Int), .int .i64 (reach l b a s.size : Int)] 225))
      have hq3 : ChAt w3 w.heap.size q := blk_below HQ2.out hb3
      have HQ3 := Aside0.mk hq3
      have k0 := fun o => (hq3.alloc o).c0
      have k1 := fun o => (hq3.alloc o).c1
      have k2 := fun o => (hq3.alloc o).c2
      clear hb3 hq3
      go_wp2_with fail
      clear k0 k1 k2
      refine (HBT.out _).mono ?_
      rintro e w4 ⟨rfl, hb4⟩
      have HB4 := Aside0.mk (below_step HB3.out hb4)
      have HK4 := Aside0.mk (HK3.out.trans (KeepBut.of_below hb4 _ _) (.inl rfl))
      have hq4 : ChAt w4 w.heap.size q := blk_below (HQ3.out.alloc _) hb4
      have HQ4 := Aside0.mk hq4
      have hn4 : ChAt w4 w3.heap.size (256 + (i : Int), s.size, reach l b a s.size) := blk_below (heap_alloc_new w3 _) hb4
      have k0 := hn4.c0
      have k1 := hn4.c1
      have k2 := hn4.c2
      have f0 := hq4.c0
      have f1 := hq4.c1
      have f2 := hq4.c2
      have z0 := hq4.fz 0
      have z1 := hq4.fz 1
      have z2 := hq4.fz 2
      clear hb4 hq4 hn4
      go_wp2_with fail
      clear k0 k1 k2 f0 f1 f2 z0 z1 z2
      go_roundw
      case rel => exact ⟨i + 1, (256 + (i : Int), s.size, reach l b a s.size), _, r, rfl, stepI i, ⟨by have h1 := HLT.out; omega⟩, HD2, HM3, ⟨HQ4.out.put _ _ _⟩, ⟨((HK4.out.set_ 0 _).set_ 1 _).set_ 2 _⟩, ⟨((HB4.out.setCell (Nat.le_refl _) _).setCell (Nat.le_refl _) _).setCell (Nat.le_refl _) _⟩⟩
      case measure => have h1 := HLT.out; exact measI _ i h1
     ·have g1 : ((s.size : Int) == 1) = false := beq_eq_false_iff_ne.2 (by omega)
      have g2 : (s.size == 1) = false := beq_eq_false_iff_ne.2 (by omega)
      clear h1
      go_wp2_with fail
      refine (HRR.out _ HDA2.out).mono ?_
      rintro e w3 ⟨rfl, hb3⟩
      have HB3 := Aside0.mk (below_alloc (below_step HB2.out hb3) (.cells #[.int .i64 (256 + (i : Int)), .int .i64 (s.size : Int), .int .i64 (reach l b a s.size : Int)] 225))
      have HK3 := Aside0.mk (keep_alloc (HK2.out.trans (KeepBut.of_below hb3 _ _) (.inl rfl)) (.cells #[.int .i64 (256 + (i : Int)), .int .i64 (s.size : Int), .int .i64 (reach l b a s.size : Int)] 225))
      have hq3 : ChAt w3 w.heap.size q := blk_below HQ2.out hb3
      have HQ3 := Aside0.mk hq3
      have k0 := fun o => (hq3.alloc o).c0
      have k1 := fun o => (hq3.alloc o).c1
      have k2 := fun o => (hq3.alloc o).c2
      clear hb3 hq3
      go_wp2_with fail
      clear k0 k1 k2
      refine (HBT.out _).mono ?_
      rintro e w4 ⟨rfl, hb4⟩
      have HB4 := Aside0.mk (below_step HB3.out hb4)
      have HK4 := Aside0.mk (HK3.out.trans (KeepBut.of_below hb4 _ _) (.inl rfl))
      have hq4 : ChAt w4 w.heap.size q := blk_below (HQ3.out.alloc _) hb4
      have HQ4 := Aside0.mk hq4
      have hn4 : ChAt w4 w3.heap.size (256 + (i : Int), s.size, reach l b a s.size) := blk_below (heap_alloc_new w3 _) hb4
      have k0 := hn4.c0
      have k1 := hn4.c1
      have k2 := hn4.c2
      have f0 := hq4.c0
      have f1 := hq4.c1
      have f2 := hq4.c2
      have z0 := hq4.fz 0
      have z1 := hq4.fz 1
      have z2 := hq4.fz 2
      clear hb4 hq4 hn4
      go_wp2_with fail
      clear k0 k1 k2 f0 f1 f2 z0 z1 z2
      go_roundw
      case rel => exact ⟨i + 1, (256 + (i : Int), s.size, reach l b a s.size), _, r, rfl, stepI i, ⟨by have h1 := HLT.out; omega⟩, HD2, HM3, ⟨HQ4.out.put _ _ _⟩, ⟨((HK4.out.set_ 0 _).set_ 1 _).set_ 2 _⟩, ⟨((HB4.out.setCell (Nat.le_refl _) _).setCell (Nat.le_refl _) _).setCell (Nat.le_refl _) _⟩⟩
      case measure => have h1 := HLT.out; exact measI _ i h1
namespace Spec
def fpar (l : List ByteArray) (b : ByteArray) : Nat → Nat → List Int
 | 0, _ => []
 | f + 1, a => if a < b.size then (fnx l b a).1 :: fpar l b f (a + (fnx l b a).2) else []
def tks (nx : Nat → Int × Nat) (n : Nat) : Nat → Nat → List Int
 | 0, _ => []
 | f + 1, a => if a < n then (nx a).1 :: tks nx n f (a + (nx a).2) else []
end Spec
theorem fpar_succ (l : List ByteArray) (b : ByteArray) (f a : Nat) : fpar l b (f + 1) a = if a < b.size then (fnx l b a).1 :: fpar l b f (a + (fnx l b a).2) else [] := rfl
theorem tks_succ (nx : Nat → Int × Nat) (n f a : Nat) : tks nx n (f + 1) a = if a < n then (nx a).1 :: tks nx n f (a + (nx a).2) else [] := rfl
theorem fpar_tks (l : List ByteArray) (b : ByteArray) : ∀ f a, fpar l b f a = tks (fnx l b) b.size f a := by
 intro f
 induction f with
 | zero => intro a; rfl
 | succ f ih => intro a; rw [fpar_succ, tks_succ, ih]
theorem par_tks (l : List ByteArray) (b : ByteArray) : ∀ f a, par l b f a = tks (nxt l b) b.size f a := by
 intro f
 induction f with
 | zero => intro a; rfl
 | succ f ih => intro a; rw [par_succ, tks_succ, ih]
theorem tks_len (nx : Nat → Int × Nat) (n : Nat) : ∀ f a, (tks nx n f a).length ≤ f := by
 intro f
 induction f with
 | zero => intro a; exact Nat.le_refl 0
 | succ f ih =>
  intro a
  rw [tks_succ]
  split
  ·have := ih (a + (nx a).2)
   rw [List.length_cons]
   omega
  ·exact Nat.zero_le _
theorem tks_tok {l : List ByteArray} {b : ByteArray} {nx : Nat → Int × Nat} (h : ∀ a, a < b.size → Fits l b a (nx a).1 (nx a).2) : ∀ f a, ∀ t ∈ tks nx b.size f a, Tok l t := by
 intro f
 induction f with
 | zero => intro a t ht; cases ht
 | succ f ih =>
  intro a t ht
  rw [tks_succ] at ht
  split at ht
  ·rename_i hlt
   rcases List.mem_cons.1 ht with rfl | ht
   ·exact (h a hlt).1
   ·exact ih _ t ht
  ·cases ht
theorem tks_cat {l : List ByteArray} {b : ByteArray} {nx : Nat → Int × Nat} (h : ∀ a, a < b.size → Fits l b a (nx a).1 (nx a).2) : ∀ f a, a ≤ b.size → b.size ≤ a + f → cat l (tks nx b.size f a) = b.extract a b.size := by
 intro f
 induction f with
 | zero =>
  intro a h1 h2
  have : a = b.size := by omega
  subst this
  apply u_inj
  rw [u_cut, Nat.sub_self, List.take_zero]
  rfl
 | succ f ih =>
  intro a h1 h2
  rw [tks_succ]
  split
  ·rename_i hlt
   obtain ⟨e1, e2, e3, e4, e5⟩ := h a hlt
   rw [cat, ih _ e4 (by omega), e5]
   apply u_inj
   rw [u_app, u_cut, u_cut, u_cut, Nat.add_sub_cancel_left]
   rw [← List.drop_drop, show b.size - a = (nx a).2 + (b.size - (a + (nx a).2)) by omega, List.take_add]
  ·have : a = b.size := by omega
   subst this
   apply u_inj
   rw [u_cut, Nat.sub_self, List.take_zero]
   rfl
theorem extract_all (b : ByteArray) : b.extract 0 b.size = b := by
 apply u_inj
 rw [u_cut, List.drop_zero, Nat.sub_zero, List.take_of_length_le (by rw [u_size]; exact Nat.le_refl _)]
theorem fparse_any {p : Value} {l : List ByteArray} {w : World} (hd : DictN w p l) (hl : l.length ≤ 1000) (hs : ∀ s ∈ l, 1 ≤ s.size ∧ s.size ≤ 40) (b : ByteArray) (hb : b.size ≤ 1024) :
  Calls Tryz.prog 69 #[p, .string b] w fun e w' => ∃ A c, e = .returned (.slice A (fpar l b b.size 0).length c) ∧ (fpar l b b.size 0).length ≤ c ∧ IntsIn w' A (fpar l b b.size 0) ∧ Below w.heap.size w w' := by
 have HD := Aside0.mk hd
 have HNX := Aside0.mk (fun (W : World) (h : DictN W p l) (a : Nat) (ha : a < b.size) => fnext_any h hl hs b a ha (by omega))
 have HNF := Aside0.mk (fun (a : Nat) (ha : a < b.size) => fnx_fits hs b a ha)
 have HB := Aside0.mk hb
 have d1 : decide ((1024 : Int) < (b.size : Int)) = false := decide_eq_false (by omega)
 have d1' : decide (1024 < b.size) = false := decide_eq_false (by omega)
 clear hd hl hs hb
 go_enter Tryz.func69, Tryz.ntmps69
 go_wp2_with fail
 go_loopw [5, 6] (fun v5 v6 wr => ∃ (a f : Nat) (xs : List Int) (A5 : Option Addr) (c5 : Nat), v5 = .slice A5 xs.length c5 ∧ v6 = .int .i64 a ∧ Aside0 ((Kd.int .i64).R 3 wr w.heap.size (fun _ => True) v5 xs) ∧ Aside0 (b.size ≤ a + f ∧ a ≤ b.size + 40 ∧ xs.length + f ≤ b.size) ∧ Aside0 (xs ++ fpar l b f a = fpar l b b.size 0) ∧ Aside0 (Below w.heap.size w wr)) (fun _ v6 _ => placeOf b.size v6)
 case atStart => exact ⟨0, b.size, [], none, 0, rfl, rfl, ⟨Kd.R_of_own (own_nil _ _ _ _) (fun _ _ => trivial)⟩, ⟨by omega, by omega, by show 0 + b.size ≤ b.size; omega⟩, ⟨rfl⟩, ⟨by repeat (first | exact Below.refl _ _ | apply below_alloc | apply below_drew)⟩⟩
 case round =>
  obtain ⟨a, f, xs, A5, c5, rfl, rfl, HR, HI, HE, HW⟩ := hrel
  have hi := HI.out
  have hbb := HB.out
  by_cases hlt : a < b.size
  ·have d2 : decide ((a : Int) < (b.size : Int)) = true := decide_eq_true (by omega)
   have d2' : decide (a < b.size) = true := decide_eq_true hlt
   obtain ⟨f, rfl⟩ : ∃ f', f = f' + 1 := ⟨f - 1, by omega⟩
   have he := HE.out
   rw [fpar_succ, if_pos hlt] at he
   have HE2 := Aside0.mk he
   have HLT := Aside0.mk hlt
   have hxl : (xs.length + 1) * 8 ≤ 140737488355328 := by omega
   clear hi hbb hlt he
   go_wp2_with fail
   refine (HNX.out _ (HD.out.below HW.out) a HLT.out).mono ?_
   rintro e w2 ⟨rfl, hb2⟩
   have HB2 := Aside0.mk (below_step HW.out hb2)
   have HR2 := Aside0.mk (Kd.R_below HR.out hb2)
   clear hb2
   go_wp2_with (at_builtin; refine append_intL w.heap.size rfl (.tmp 23) (.tmp 25) 29 3 rfl Tryz.underlying29 Leaf.info3 (.slice A5 xs.length c5) xs (fnx l b a).1 rfl rfl HR2.out HB2.out HB2.out.size hxl ?_; intro v1 w3 hrow hbelow hgrow hat; obtain ⟨A1, c1, rfl⟩ := Kd.R_slice hrow; have HROW := Aside0.mk hrow; have HB3 := Aside0.mk hbelow; clear hrow hbelow hgrow hat)
   go_roundw
   case rel =>
    have h1 := HI.out
    have h4 := HLT.out
    have h2 := (HNF.out a h4).2
    have h3 := HB.out
    have hl2 : (xs ++ [(fnx l b a).1]).length = xs.length + 1 := by rw [List.length_append, List.length_singleton]
    refine ⟨a + (fnx l b a).2, f, xs ++ [(fnx l b a).1], A1, c1, by rw [hl2], ?_, by have h := HROW.out; rw [hl2] at h; exact ⟨h⟩, ⟨by omega, by omega, by rw [List.length_append, List.length_singleton]; omega⟩, ⟨by rw [List.append_assoc]; exact HE2.out⟩, HB3⟩
    rw [Bridge.wr (by omega) (by omega)]
    congr 1
   case measure =>
    have h4 := HLT.out
    have h2 := (HNF.out a h4).2
    have h3 := HB.out
    rw [Bridge.wr (by omega) (by omega)]
    show b.size + 100 - ((a : Int) + ((fnx l b a).2 : Int)).toNat < b.size + 100 - a
    omega
  ·have d2 : decide ((a : Int) < (b.size : Int)) = false := decide_eq_false (by omega)
   have d2' : decide (a < b.size) = false := decide_eq_false hlt
   have he := HE.out
   have hp0 : fpar l b f a = [] := by
    cases f with
    | zero => rfl
    | succ f => rw [fpar_succ, if_neg hlt]
   rw [hp0, List.append_nil] at he
   have HE2 := Aside0.mk he
   clear hi hbb hlt he hp0
   go_wp2
   go_ret
   obtain ⟨A', c', e', hc', hC'⟩ := Kd.R_reads HR.out
   rw [HE2.out] at e' hc' hC' ⊢
   exact ⟨A', c', congrArg Ending.returned e', hc', hC', HW.out⟩
end Go.Proofs.YtepgkimlmoikmaaGreat
