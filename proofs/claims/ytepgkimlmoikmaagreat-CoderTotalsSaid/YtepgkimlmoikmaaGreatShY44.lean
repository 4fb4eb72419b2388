/- ShY: a part of its proof (contracts of the functions that it reaches, and the plain mathematics behind them). -/
import Derived.Test.YtepgkimlmoikmaaGreatShY43
import Derived.Lib.ItoaWalk
import Derived.BigRegion
import Derived.BigGuard
import Derived.BigCall
set_option linter.unusedVariables false
set_option linter.unusedSimpArgs false
set_option maxHeartbeats 2000000
set_option maxRecDepth 100000
set_option linter.unusedVariables false
set_option linter.unusedSimpArgs false
namespace Go.Proofs.YtepgkimlmoikmaaGreat
open Go.RowKit Go.Proofs.YtepgkimlmoikmaaGreat.Spec Go.Proofs.YtepgkimlmoikmaaGreatW.PrintWords Go.Proofs.YtepgkimlmoikmaaGreatW.PrintLast
open Go.Proofs.YtepgkimlmoikmaaGreatW.PrintMore
attribute [local go_sem ↓] Go.wp_at_zero Go.wp_at_succ
attribute [local go_sem] max2_int min2_int max_two min_two
theorem mv_drew {w w1 : World} {g : Nat} (h : Mv g w w1) : Mv g w w1.drew := ⟨h.os, h.tape, h.output, h.size, h.block⟩
def TabAt (w : World) (T : Nat → Int) : Prop := ∀ i, i < 20 → w.cell? ⟨0, i, none⟩ = some (.int .u64 (T i))
theorem TabAt.below {w w1 : World} {T : Nat → Int} (h : TabAt w T) (hb : Below w.heap.size w w1) : TabAt w1 T := fun i hi => pw_cell_below hb (h i hi)
def ndT (T : Nat → Int) (u : Nat) : Nat := Lib.l10 (Lib.bitLen u) + (if T (Lib.l10 (Lib.bitLen u)) ≤ (u : Int) then 1 else 0)
theorem numDigits_any (u : Nat) (h2 : u < 18446744073709551616) {w : World} {T : Nat → Int} (ht : TabAt w T) :
  Calls Tryz.prog 255 #[.int .u64 (u : Int)] w fun e w' => e = .returned (.int .i64 (ndT T u : Nat)) ∧ w' = w := by
 have hL : Lib.bitLen u ≤ 64 := Lib.bitLen_le u 64 (Nat.le_refl _) h2
 have hto : ((u : Int)).toNat = u := by omega
 have h20 : Lib.l10 (Lib.bitLen u) < 20 := by unfold Lib.l10; omega
 have hcell := ht _ h20
 have HN : Aside0 (ndT T u = Lib.l10 (Lib.bitLen u) + (if T (Lib.l10 (Lib.bitLen u)) ≤ (u : Int) then 1 else 0)) := ⟨rfl⟩
 generalize ndT T u = nd at *
 generalize hq : Lib.l10 (Lib.bitLen u) = q at *
 generalize T q = t at *
 clear ht
 go_enter Tryz.func255, Tryz.ntmps255
 go_wp2_with (first
  | (go_at_call 259; refine (Tryz.bits_Len64 _ _ (by omega) (by omega)).mono ?_; rintro e w' ⟨rfl, rfl⟩)
  | (go_at_call 258; refine (Tryz.internal_strconv_log10Pow2 _ (by first | exact hL | (rw [hto]; exact hL)) _).mono ?_; rintro e w' ⟨rfl, rfl⟩)
  | (go_at_call 260; refine (Tryz.internal_strconv_bool2_int _ _).mono ?_; rintro e w' ⟨rfl, rfl⟩))
 all_goals go_ret
 all_goals (
  refine ⟨?_, rfl⟩
  by_cases hq : t ≤ (u : Int)
  ·rw [HN.out, if_pos hq]
   first | (exfalso; omega) | exact congrArg (fun z => Ending.returned (Value.int .i64 z)) (by omega)
  ·rw [HN.out, if_neg hq]
   first | (exfalso; omega) | exact congrArg (fun z => Ending.returned (Value.int .i64 z)) (by omega))
def RowB (w : World) (g : Nat) (t : TypeId) (bs : List Int) : Prop := ∃ cur : Array Value, w.heap[g]? = some (.cells cur t (0, 0)) ∧ cur.size = 24 ∧ ∀ i b, bs[i]? = some b → cur[1 + i]? = some (.int .u8 b)
theorem idxS (z : Int) (i : Nat) (hz : z = (i : Int)) (hi : i < 200) (w : World) : (Instr.index 9 (.string Lib.smalls) (.int .u32 z)).run Tryz.prog w = .ok (.int .u8 ((Lib.sm i).toNat : Int)) w := Lib.idx_smalls 9 Tryz.underlying9 .u32 z i hz hi w
theorem fb10_two (u : Nat) (hu : u ≤ 8191) (g cap : Nat) {w : World} {cur : Array Value} {t : TypeId} (h : w.heap[g]? = some (.cells cur t (0, 0))) (hs : cur.size = 24) :
  Calls Tryz.prog 256 #[.slice (some ⟨g, 1, none⟩) 2 cap, .int .u64 (u : Int)] w fun e w' => e = .returned (.tuple #[]) ∧ RowB w' g t [((Lib.sm (u % 100 * 2)).toNat : Int), ((Lib.sm (u % 100 * 2 + 1)).toNat : Int)] ∧ Mv g w w' := by
 have f1 := blk_frozen h 1
 have f2 := blk_frozen h 2
 have hc1 := blk_cell h 1
 have hc2 := blk_cell h 2
 obtain ⟨y1, hy1⟩ : ∃ y, cur[1]? = some y := ⟨_, Array.getElem?_eq_getElem (by omega)⟩
 obtain ⟨y2, hy2⟩ : ∃ y, cur[2]? = some y := ⟨_, Array.getElem?_eq_getElem (by omega)⟩
 rw [hy1] at hc1
 rw [hy2] at hc2
 have H := Aside0.mk (And.intro h hs)
 have x1 := idxS ((u : Int) % 100 * 2) (u % 100 * 2) (by omega) (by omega)
 have x2 := idxS ((u : Int) % 100 * 2 + 1) (u % 100 * 2 + 1) (by omega) (by omega)
 have hu1 : (u : Int) ≤ 8191 := by omega
 generalize Lib.sm (u % 100 * 2) = b1 at *
 generalize Lib.sm (u % 100 * 2 + 1) = b2 at *
 clear h hs hy1 hy2
 go_enter Tryz.func256, Tryz.ntmps256
 go_name_bytes SM hSM
 have eSM : SM = Lib.smalls := by rw [← hSM]; decide +kernel
 subst eSM
 clear hSM
 go_wp2
 go_loopw [1, 4] (fun vu vn wr => vu = .int .u64 (u : Int) ∧ vn = .int .i64 2 ∧ wr = w) (fun _ _ _ => 0)
 case atStart => exact ⟨rfl, rfl, rfl⟩
 case round =>
  obtain ⟨rfl, rfl, rfl⟩ := hrel
  go_wp2
  go_big_region
  go_wp2
  go_end0
  refine ⟨rfl, ⟨_, blk_set (blk_set H.out.1 2 _) 1 _, by simp [H.out.2], fun i b hb => ?_⟩, mv_drew (((Mv.refl _ _).set_ _ _).set_ _ _)⟩
  have hz := H.out.2
  match i, hb with
  | 0, hb => obtain rfl := Option.some.inj hb; simp [hz]
  | 1, hb => obtain rfl := Option.some.inj hb; simp [hz]
  | i + 2, hb => simp at hb
theorem fb10_three (u : Nat) (hu : u ≤ 8191) (g cap : Nat) {w : World} {cur : Array Value} {t : TypeId} (h : w.heap[g]? = some (.cells cur t (0, 0))) (hs : cur.size = 24) :
  Calls Tryz.prog 256 #[.slice (some ⟨g, 1, none⟩) 3 cap, .int .u64 (u : Int)] w fun e w' => e = .returned (.tuple #[]) ∧ RowB w' g t [48 + ((u / 100 : Nat) : Int), ((Lib.sm (u % 100 * 2)).toNat : Int), ((Lib.sm (u % 100 * 2 + 1)).toNat : Int)] ∧ Mv g w w' := by
 have f1 := blk_frozen h 1
 have f2 := blk_frozen h 2
 have f3 := blk_frozen h 3
 have hc1 := blk_cell h 1
 have hc2 := blk_cell h 2
 have hc3 := blk_cell h 3
 obtain ⟨y1, hy1⟩ : ∃ y, cur[1]? = some y := ⟨_, Array.getElem?_eq_getElem (by omega)⟩
 obtain ⟨y2, hy2⟩ : ∃ y, cur[2]? = some y := ⟨_, Array.getElem?_eq_getElem (by omega)⟩
 obtain ⟨y3, hy3⟩ : ∃ y, cur[3]? = some y := ⟨_, Array.getElem?_eq_getElem (by omega)⟩
 rw [hy1] at hc1
 rw [hy2] at hc2
 rw [hy3] at hc3
 have H := Aside0.mk (And.intro h hs)
 have x1 := idxS ((u : Int) % 100 * 2) (u % 100 * 2) (by omega) (by omega)
 have x2 := idxS ((u : Int) % 100 * 2 + 1) (u % 100 * 2 + 1) (by omega) (by omega)
 have hu1 : (u : Int) ≤ 8191 := by omega
 generalize Lib.sm (u % 100 * 2) = b1 at *
 generalize Lib.sm (u % 100 * 2 + 1) = b2 at *
 clear h hs hy1 hy2 hy3
 go_enter Tryz.func256, Tryz.ntmps256
 go_name_bytes SM hSM
 have eSM : SM = Lib.smalls := by rw [← hSM]; decide +kernel
 subst eSM
 clear hSM
 go_wp2
 go_loopw [1, 4] (fun vu vn wr => vu = .int .u64 (u : Int) ∧ vn = .int .i64 3 ∧ wr = w) (fun _ _ _ => 0)
 case atStart => exact ⟨rfl, rfl, rfl⟩
 case round =>
  obtain ⟨rfl, rfl, rfl⟩ := hrel
  go_wp2
  go_big_region
  go_wp2
  go_end0
  refine ⟨rfl, ⟨_, blk_set (blk_drew (blk_set (blk_set H.out.1 3 _) 2 _)) 1 _, by simp [H.out.2], fun i b hb => ?_⟩, (mv_drew (((Mv.refl _ _).set_ _ _).set_ _ _)).set_ _ _⟩
  have hz := H.out.2
  match i, hb with
  | 0, hb => obtain rfl := Option.some.inj hb; simp [hz]; try omega
  | 1, hb => obtain rfl := Option.some.inj hb; simp [hz]
  | 2, hb => obtain rfl := Option.some.inj hb; simp [hz]
  | i + 3, hb => simp at hb
theorem fb10_four (u : Nat) (hu : u ≤ 8191) (g cap : Nat) {w : World} {cur : Array Value} {t : TypeId} (h : w.heap[g]? = some (.cells cur t (0, 0))) (hs : cur.size = 24) :
  Calls Tryz.prog 256 #[.slice (some ⟨g, 1, none⟩) 4 cap, .int .u64 (u : Int)] w fun e w' => e = .returned (.tuple #[]) ∧ RowB w' g t [((Lib.sm (u / 100 * 2)).toNat : Int), ((Lib.sm (u / 100 * 2 + 1)).toNat : Int), ((Lib.sm (u % 100 * 2)).toNat : Int), ((Lib.sm (u % 100 * 2 + 1)).toNat : Int)] ∧ Mv g w w' := by
 have f1 := blk_frozen h 1
 have f2 := blk_frozen h 2
 have f3 := blk_frozen h 3
 have f4 := blk_frozen h 4
 have hc1 := blk_cell h 1
 have hc2 := blk_cell h 2
 have hc3 := blk_cell h 3
 have hc4 := blk_cell h 4
 obtain ⟨y1, hy1⟩ : ∃ y, cur[1]? = some y := ⟨_, Array.getElem?_eq_getElem (by omega)⟩
 obtain ⟨y2, hy2⟩ : ∃ y, cur[2]? = some y := ⟨_, Array.getElem?_eq_getElem (by omega)⟩
 obtain ⟨y3, hy3⟩ : ∃ y, cur[3]? = some y := ⟨_, Array.getElem?_eq_getElem (by omega)⟩
 obtain ⟨y4, hy4⟩ : ∃ y, cur[4]? = some y := ⟨_, Array.getElem?_eq_getElem (by omega)⟩
 rw [hy1] at hc1
 rw [hy2] at hc2
 rw [hy3] at hc3
 rw [hy4] at hc4
 have H := Aside0.mk (And.intro h hs)
 have x1 := idxS ((u : Int) % 10000 / 100 * 2) (u / 100 * 2) (by omega) (by omega)
 have x2 := idxS ((u : Int) % 10000 / 100 * 2 + 1) (u / 100 * 2 + 1) (by omega) (by omega)
 have x3 := idxS ((u : Int) % 100 * 2) (u % 100 * 2) (by omega) (by omega)
 have x4 := idxS ((u : Int) % 100 * 2 + 1) (u % 100 * 2 + 1) (by omega) (by omega)
 have hu1 : (u : Int) ≤ 8191 := by omega
 generalize Lib.sm (u / 100 * 2) = b1 at *
 generalize Lib.sm (u / 100 * 2 + 1) = b2 at *
 generalize Lib.sm (u % 100 * 2) = b3 at *
 generalize Lib.sm (u % 100 * 2 + 1) = b4 at *
 clear h hs hy1 hy2 hy3 hy4
 go_enter Tryz.func256, Tryz.ntmps256
 go_name_bytes SM hSM
 have eSM : SM = Lib.smalls := by rw [← hSM]; decide +kernel
 subst eSM
 clear hSM
 go_wp2
 go_loopw [1, 4] (fun vu vn wr => vu = .int .u64 (u : Int) ∧ vn = .int .i64 4 ∧ wr = w) (fun _ _ _ => 0)
 case atStart => exact ⟨rfl, rfl, rfl⟩
 case round =>
  obtain ⟨rfl, rfl, rfl⟩ := hrel
  go_wp2
  go_big_region
  go_wp2
  go_big_region
  go_wp2
  go_end0
  refine ⟨rfl, ⟨_, blk_set (blk_set (blk_drew (blk_set (blk_set H.out.1 4 _) 3 _)) 2 _) 1 _, by simp [H.out.2], fun i b hb => ?_⟩, mv_drew (((mv_drew (((Mv.refl _ _).set_ _ _).set_ _ _)).set_ _ _).set_ _ _)⟩
  have hz := H.out.2
  match i, hb with
  | 0, hb => obtain rfl := Option.some.inj hb; simp [hz]
  | 1, hb => obtain rfl := Option.some.inj hb; simp [hz]
  | 2, hb => obtain rfl := Option.some.inj hb; simp [hz]
  | 3, hb => obtain rfl := Option.some.inj hb; simp [hz]
  | i + 4, hb => simp at hb
theorem fb10_any (nd u : Nat) (h1 : 2 ≤ nd) (h2 : nd ≤ 4) (hu : u ≤ 8191) : ∃ bs : List Int, bs.length = nd ∧ ∀ (g cap : Nat) (w : World) (cur : Array Value) (t : TypeId), w.heap[g]? = some (.cells cur t (0, 0)) → cur.size = 24 →
  Calls Tryz.prog 256 #[.slice (some ⟨g, 1, none⟩) nd cap, .int .u64 (u : Int)] w fun e w' => e = .returned (.tuple #[]) ∧ RowB w' g t bs ∧ Mv g w w' := by
 rcases (show nd = 2 ∨ nd = 3 ∨ nd = 4 by omega) with rfl | rfl | rfl
 ·exact ⟨_, rfl, fun g cap w cur t h hs => fb10_two u hu g cap h hs⟩
 ·exact ⟨_, rfl, fun g cap w cur t h hs => fb10_three u hu g cap h hs⟩
 ·exact ⟨_, rfl, fun g cap w cur t h hs => fb10_four u hu g cap h hs⟩
theorem l10_tab : ∀ a, a < 128 → ∀ b, b < 64 → 100 ≤ 64 * a + b → 2 ≤ Lib.l10 (Lib.bitLen (64 * a + b)) ∧ Lib.l10 (Lib.bitLen (64 * a + b)) ≤ 3 := by decide +kernel
theorem l10_small (u : Nat) (hu : u < 8192) (h1 : 100 ≤ u) : 2 ≤ Lib.l10 (Lib.bitLen u) ∧ Lib.l10 (Lib.bitLen u) ≤ 3 := by
 have h := l10_tab (u / 64) (by omega) (u % 64) (by omega) (by omega)
 rw [show 64 * (u / 64) + u % 64 = u by omega] at h
 exact h
theorem nd_small (T : Nat → Int) {u : Nat} (h1 : 100 ≤ u) (hu : u ≤ 8191) : 2 ≤ ndT T u ∧ ndT T u ≤ 4 := by
 have := l10_small u (by omega) h1
 unfold ndT
 split <;> omega
theorem fmtInt_any (T : Nat → Int) (u : Nat) (h1 : 100 ≤ u) (hu : u ≤ 8191) : ∃ s : ByteArray, s.size ≤ 20 ∧ ∀ w, TabAt w T →
  Calls Tryz.prog 253 #[.int .i64 (u : Int), .int .i64 10] w fun e w' => e = .returned (.string s) ∧ Below w.heap.size w w' := by
 obtain ⟨n1, n2⟩ := nd_small T h1 hu
 obtain ⟨bs, hbl, hfb⟩ := fb10_any (ndT T u) u n1 n2 hu
 refine ⟨strOfNums bs, by unfold strOfNums; show (List.toArray _).size ≤ 20; simp; omega, fun w ht => ?_⟩
 have HND := Aside0.mk (fun (W : World) (h : TabAt W T) => numDigits_any u (by omega) h)
 have HT := Aside0.mk ht
 have HFB := Aside0.mk hfb
 have HBL := Aside0.mk hbl
 generalize ndT T u = nd at *
 have hal : (Tryz.prog).arrayLen 294 = 24 := by simp [Program.arrayLen, Tryz.underlying294]
 have hsl1 : ∀ W, (Instr.sliceAt 294 (.pointer (some ⟨w.heap.size, 0, none⟩)) (some (.int .i64 1)) (some (.int .i64 (1 + (nd : Int)))) none).run Tryz.prog W = .ok (.slice (some ⟨w.heap.size, 1, none⟩) nd 23) W := fun W => by
  rw [run_sliceAt_array_lh W 294 ⟨w.heap.size, 0, none⟩ (by simp [Program.arrayLen, Program.elem, Tryz.underlying294]) .i64 .i64 1 (1 + (nd : Int)) (by omega) (by omega) (by rw [hal]; omega)]
  go_simp
  omega
 have d1 : decide ((0 : Int) ≤ (u : Int)) = true := decide_eq_true (by omega)
 have d2 : decide ((u : Int) < 100) = false := decide_eq_false (by omega)
 have d3 : decide ((u : Int) < 0) = false := decide_eq_false (by omega)
 have hu1 : (u : Int) ≤ 8191 := by omega
 have nb : (nd : Int) ≤ 4 := by omega
 clear ht hfb hbl hal h1 n1
 go_enter Tryz.func253, Tryz.ntmps253
 go_wp2_with fail
 refine (HND.out _ (HT.out.below ((Below.refl _ _).alloc (Nat.le_refl _) _))).mono ?_
 rintro e w1 ⟨rfl, rfl⟩
 go_wp2_with fail
 refine (HFB.out _ _ _ _ _ (blk_new _ _) (by rfl)).mono ?_
 rintro e w2 ⟨rfl, hrow, hk⟩
 have HR := Aside0.mk hrow
 have HK := Aside0.mk hk
 have hcv := string_of_reads (P := Tryz.prog) (w := w2) (A := some ⟨w.heap.size, 1, none⟩) (n := nd) (c := 23) (xs := bs) Tryz.underlying55 Tryz.underlying5 Tryz.underlying9 (by
  obtain ⟨cur, r1, r2, r3⟩ := hrow
  refine ⟨HBL.out, by omega, fun _ => ⟨_, rfl, fun j hj => ?_⟩⟩
  have hb := HBL.out
  have hj2 : j < bs.length := by omega
  rw [Lib.add_plain]
  refine (blk_cell r1 (1 + j)).trans ((r3 j bs[j] (List.getElem?_eq_getElem hj2)).trans ?_)
  rw [List.getD_eq_getElem?_getD, List.getElem?_eq_getElem hj2]
  rfl)
 clear hrow hk
 go_wp2_with fail
 go_ret
 exact ⟨rfl, HK.out.low ((Below.refl _ _).alloc (Nat.le_refl _) _) (Nat.le_refl _)⟩
theorem digits_small : ∀ a, a < 100 → (Lib.decDigits a).length ≤ 20 := by decide +kernel
theorem itoa_any (T : Nat → Int) (u : Nat) (hu : u ≤ 8191) : ∃ s : ByteArray, s.size ≤ 20 ∧ ∀ w, TabAt w T →
  Calls Tryz.prog 251 #[.int .i64 (u : Int)] w fun e w' => e = .returned (.string s) ∧ Below w.heap.size w w' := by
 by_cases h1 : u < 100
 ·refine ⟨⟨(Lib.decDigits u).toArray⟩, digits_small u h1, fun w _ => ((Tryz.strconv_Itoa_small u h1 w).mono ?_)⟩
  rintro e w' ⟨rfl, rfl⟩
  exact ⟨rfl, Below.refl _ _⟩
 ·obtain ⟨s, hs, hc⟩ := fmtInt_any T u (by omega) hu
  refine ⟨s, hs, fun w ht => ?_⟩
  have HC := Aside0.mk (hc w ht)
  have HI : Aside0 (Calls Tryz.prog 252 #[.int .i64 (u : Int)] w fun e w' => e = .returned (.string s) ∧ Below w.heap.size w w') := ⟨by
   clear hc h1
   go_enter Tryz.func252, Tryz.ntmps252
   go_wp2_with fail
   refine HC.out.mono ?_
   rintro e w1 ⟨rfl, hb⟩
   go_wp2_with fail
   go_ret
   exact ⟨rfl, hb⟩⟩
  clear hc h1
  go_enter Tryz.func251, Tryz.ntmps251
  go_wp2_with fail
  refine HI.out.mono ?_
  rintro e w1 ⟨rfl, hb⟩
  go_wp2_with fail
  go_ret
  exact ⟨rfl, hb⟩
theorem error_any (T : Nat → Int) (c : Int) (u : Nat) (hu : u ≤ 8191) : ∃ s : ByteArray, s.size ≤ 40 ∧ ∀ w, TabAt w T →
  Calls Tryz.prog 249 #[.agg #[.int .i64 c, .int .i64 (u : Int)]] w fun e w' => e = .returned (.string s) ∧ Below w.heap.size w w' := by
 obtain ⟨s, hs, hc⟩ := itoa_any T u hu
 have hn := nameS_size c
 refine ⟨(nameS c ++ ⟨#[32, 97, 116, 32]⟩) ++ s, ?_, fun w ht => ?_⟩
 ·rw [ByteArray.size_append, ByteArray.size_append]
  have : (⟨#[32, 97, 116, 32]⟩ : ByteArray).size = 4 := rfl
  omega
 have HC := Aside0.mk hc
 have HT := Aside0.mk ht
 have q3 : ¬ 9223372036854775807 < (nameS c).size + 4 := by omega
 have q8 : ¬ 9223372036854775807 < (nameS c).size + 4 + s.size := by omega
 have s0 : (w.alloc (.cells #[.int .i64 c, .int .i64 (u : Int)] 152)).cell? ⟨w.heap.size, 0, none⟩ = some (.int .i64 c) := by simp
 have s1 : (w.alloc (.cells #[.int .i64 c, .int .i64 (u : Int)] 152)).cell? ⟨w.heap.size, 1, none⟩ = some (.int .i64 (u : Int)) := by simp
 have B0 := Aside0.mk ((Below.refl w.heap.size w).alloc (Nat.le_refl _) (.cells #[.int .i64 c, .int .i64 (u : Int)] 152))
 clear hs hc ht
 go_enter Tryz.func249, Tryz.ntmps249
 go_wp2_with fail
 go_region_held3 (fun w' => w'.cell? ⟨w.heap.size, 0, none⟩ = some (.int .i64 c) ∧ w'.cell? ⟨w.heap.size, 1, none⟩ = some (.int .i64 (u : Int)))
  (first | exact ⟨s0, s1⟩ | exact ⟨pw_cell_below h2 s0, pw_cell_below h2 s1⟩)
  ((first
   | (go_at_call 250; refine (name_calls c _).mono ?_; rintro e w1 ⟨rfl, hb⟩; have h2 := below_step (below_drew (Below.refl (w.alloc (.cells #[.int .i64 c, .int .i64 (u : Int)] 152)).heap.size (w.alloc (.cells #[.int .i64 c, .int .i64 (u : Int)] 152)))) hb)
   | (go_at_call 251; refine (HC.out _ ((HT.out.below B0.out).below h2)).mono ?_; rintro e w2 ⟨rfl, hb⟩; have h2 := below_step h2 hb)))
 go_wp2
 go_ret
 exact ⟨rfl, below_step B0.out h2⟩
end Go.Proofs.YtepgkimlmoikmaaGreat
