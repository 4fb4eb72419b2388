/- ShU: a part of its proof (contracts of the functions that it reaches, and the plain mathematics behind them). -/
import Derived.Test.YtepgkimlmoikmaaGreatShU17
import Derived.Test.YtepgkimlmoikmaaGreatShU35
import Derived.StillTailTactics
set_option linter.unusedVariables false
set_option linter.unusedSimpArgs false
set_option maxHeartbeats 2000000
set_option maxRecDepth 100000
set_option linter.unusedVariables false
set_option linter.unusedSimpArgs false
namespace Go.Proofs.YtepgkimlmoikmaaGreat
open Go.RowKit Go.Proofs.YtepgkimlmoikmaaGreat.Spec Go.Proofs.YtepgkimlmoikmaaGreatW.PrintWords Go.Proofs.YtepgkimlmoikmaaGreatW.PrintLast
open Go.Proofs.YtepgkimlmoikmaaGreatW.PrintMore
attribute [local go_sem ↓] Go.wp_at_zero Go.wp_at_succ
attribute [local go_sem] max2_int min2_int max_two min_two
def u8V (l : List Nat) : List Value := l.map fun (x : Nat) => Value.int .u8 (x : Int)
theorem u8V_len (l : List Nat) : (u8V l).length = l.length * 1 := by unfold u8V; simp
structure WrAt (w : World) (H : Nat) (B : List Nat) : Prop where
 bits : Bits B
 obj : ∃ v, w.heap[H]? = some (.cells #[v, .int .i64 (B.length : Int)] 208 (0, 0)) ∧ w.ownsRow (H + 1) 5 1 v ((B.length + 7) / 8) (u8V (bytesB B))
structure WrMid (w : World) (H : Nat) (C : List Nat) : Prop where
 bits : Bits C
 obj : ∃ v, w.heap[H]? = some (.cells #[v, .int .i64 (C.length : Int)] 208 (0, 0)) ∧ w.ownsRow (H + 1) 5 1 v (C.length / 8 + 1) (u8V (if C.length % 8 = 0 then bytesB C ++ [0] else bytesB C))
theorem u8V_one (l : List Nat) : ∀ u ∈ u8V l, u.oneCell' = true := by
 intro u hu
 obtain ⟨x, _, rfl⟩ := List.mem_map.1 hu
 rfl
theorem lit_one (w : World) (v : Value) (e : TypeId) : ∀ (j : Nat) (u : Value), [v][j]? = some u → (w.alloc (.cells #[v] e)).cell? ((⟨w.heap.size, 0, none⟩ : Addr).add j) = some u := by
 intro j u hj
 match j, hj with
 | 0, hj =>
  obtain rfl := Option.some.inj hj
  exact blk_cell (blk_new w _) 0
 | j + 1, hj => simp at hj
def midB (C : List Nat) : List Nat := if C.length % 8 = 0 then bytesB C ++ [0] else bytesB C
theorem midB_get (C : List Nat) : (midB C)[C.length / 8]? = some (byteB C (C.length / 8)) := by
 unfold midB
 split
 ·rw [List.getElem?_append_right (by rw [bytesB_len]; omega), bytesB_len, show C.length / 8 - (C.length + 7) / 8 = 0 by omega, byteB_off (by omega)]
  rfl
 ·exact bytesB_get C (by omega)
theorem WrMid.cells {w : World} {H : Nat} {C : List Nat} (h : WrMid w H C) : ∃ (g cp : Nat) (cur : Array Value), w.heap[H]? = some (.cells #[.slice (some ⟨g, 0, none⟩) (C.length / 8 + 1) cp, .int .i64 (C.length : Int)] 208 (0, 0)) ∧ H + 1 ≤ g ∧ C.length / 8 + 1 ≤ cp ∧ cp ≤ maxLen ∧ w.heap[g]? = some (.cells cur 5 (0, 0)) ∧ cur.size = cp * 1 ∧ cur.toList.take ((C.length / 8 + 1) * 1) = u8V (midB C) ∧ w.cell? ⟨g, C.length / 8, none⟩ = some (.int .u8 ((byteB C (C.length / 8) : Nat) : Int)) := by
 obtain ⟨v, ho, hown⟩ := h.obj
 rcases hown.2 with ⟨_, h0⟩ | ⟨g, cp, cur, rfl, hg, hh, hc, hm, hs, hx⟩
 ·exfalso; omega
 ·refine ⟨g, cp, cur, ho, hg, hc, hm, hh, hs, hx, ?_⟩
  have hj : (u8V (midB C))[C.length / 8]? = some (.int .u8 ((byteB C (C.length / 8) : Nat) : Int)) := by unfold u8V; rw [List.getElem?_map, midB_get]; rfl
  have hx2 : cur.toList.take ((C.length / 8 + 1) * 1) = u8V (midB C) := hx
  rw [← hx2, List.getElem?_take] at hj
  split at hj
  ·rw [Array.getElem?_toList] at hj
   exact (blk_cell hh _).trans hj
  ·cases hj
theorem own_ge {w : World} {base : Nat} {e : TypeId} {size n : Nat} {v : Value} {xs : List Value} (h : w.ownsRow base e size v n xs) : ∀ k, v.ownBlock = some k → base ≤ k := by
 intro k hk
 rcases h.2 with ⟨rfl, _⟩ | ⟨g, cap, cur, rfl, hg, _⟩
 ·cases hk
 ·injection hk with hk
  subst hk
  exact hg
theorem bits_or8 (x y : Nat) (hx : x < 256) (hy : y < 256) : Go.bits .or .u8 (x : Int) (y : Int) = ((x ||| y : Nat) : Int) := by
 have e1 : BitVec.ofInt 8 (x : Int) = BitVec.ofNat 8 x := by rw [BitVec.ofInt_natCast]
 have e2 : BitVec.ofInt 8 (y : Int) = BitVec.ofNat 8 y := by rw [BitVec.ofInt_natCast]
 have e4 : ((BitVec.ofNat 8 x) ||| (BitVec.ofNat 8 y)).toNat = x ||| y := by
  rw [BitVec.toNat_or, BitVec.toNat_ofNat, BitVec.toNat_ofNat, Nat.mod_eq_of_lt (by omega), Nat.mod_eq_of_lt (by omega)]
 have h := Nat.or_lt_two_pow (n := 8) hx hy
 unfold Go.bits
 show IntKind.u8.wrap (((BitVec.ofInt 8 (x : Int)) ||| (BitVec.ofInt 8 (y : Int))).toNat : Int) = _
 rw [e1, e2, e4, IntKind.wrap_u8]
 omega
theorem bit_lay (x c k e : Nat) (hx : x < 256) (hc : c < 4294967296) (he : e ≤ 7) : Go.bits .or .u8 (x : Int) (Go.bits .and .i64 ((c : Int) / 2 ^ k) 1 % 256 * 2 ^ e % 256) = ((x ||| c / 2 ^ k % 2 * 2 ^ e : Nat) : Int) := by
 have h1 : (c : Int) / 2 ^ k = ((c / 2 ^ k : Nat) : Int) := by simp
 have h2 : c / 2 ^ k ≤ c := Nat.div_le_self _ _
 have h3 : (2 : Nat) ^ e ≤ 2 ^ 7 := Nat.pow_le_pow_right (by decide) he
 have h4 : c / 2 ^ k % 2 * 2 ^ e ≤ 1 * 2 ^ 7 := Nat.mul_le_mul (by omega) h3
 have h5 : ((c / 2 ^ k % 2 : Nat) : Int) % 256 = ((c / 2 ^ k % 2 : Nat) : Int) := by omega
 have h6 : ((c / 2 ^ k % 2 : Nat) : Int) * 2 ^ e = ((c / 2 ^ k % 2 * 2 ^ e : Nat) : Int) := by simp
 rw [h1, bits_and1 _ (by omega), h5, h6]
 have h7 : ((c / 2 ^ k % 2 * 2 ^ e : Nat) : Int) % 256 = ((c / 2 ^ k % 2 * 2 ^ e : Nat) : Int) := by
  generalize c / 2 ^ k % 2 * 2 ^ e = z at *
  omega
 rw [h7]
 exact bits_or8 x _ hx (by omega)
theorem wr_next {w : World} {H g t : Nat} {C : List Nat} {cp : Nat} {cur : Array Value} (hb : Bits C) (ht : t ≤ 1) (h1 : w.heap[H]? = some (.cells #[.slice (some ⟨g, 0, none⟩) (C.length / 8 + 1) cp, .int .i64 ((C.length : Int) + 1)] 208 (0, 0))) (hg : H + 1 ≤ g) (hc : C.length / 8 + 1 ≤ cp) (hm : cp ≤ maxLen)
  (h2 : w.heap[g]? = some (.cells (cur.setIfInBounds (C.length / 8) (.int .u8 ((byteB C (C.length / 8) ||| t * 2 ^ (7 - C.length % 8) : Nat) : Int))) 5 (0, 0))) (hs : cur.size = cp * 1) (hx : cur.toList.take ((C.length / 8 + 1) * 1) = u8V (midB C)) : WrAt w H (C ++ [t]) := by
 have hl : (C ++ [t]).length = C.length + 1 := by rw [List.length_append]; rfl
 have hl8 : ((C ++ [t]).length + 7) / 8 = C.length / 8 + 1 := by rw [hl]; omega
 refine ⟨bits_app hb (fun x hx => by rw [List.mem_singleton] at hx; omega), _, by rw [hl]; exact h1, ?_⟩
 rw [hl8]
 refine ⟨by rw [u8V_len, bytesB_len, hl8], .inr ⟨g, cp, _, rfl, hg, h2, hc, hm, by rw [Array.size_setIfInBounds]; exact hs, ?_⟩⟩
 rw [Array.toList_setIfInBounds, List.take_set, hx, bytesB_snoc C t ht]
 unfold u8V
 rw [List.map_set]
 rfl
theorem wput_any {H c n : Nat} (B : List Nat) {w : World} (hw : WrAt w H B) (hn : 1 ≤ n ∧ n ≤ 15) (hc : c < 2 ^ n) (hl : B.length ≤ 1000000) :
  Calls Tryz.prog 196 #[.pointer (some ⟨H, 0, none⟩), .int .i64 (c : Int), .int .i64 (n : Int)] w fun e w' => e = .returned (.bool true) ∧ WrAt w' H (B ++ bitsOf c n) ∧ Below H w w' := by
 have HW := Aside0.mk hw
 have HX := Aside0.mk (And.intro hn (And.intro hc hl))
 have h15 : 2 ^ n ≤ 2 ^ 15 := Nat.pow_le_pow_right (by decide) hn.2
 have zn : (n : Int) ≤ 15 := by omega
 have zn1 : 1 ≤ (n : Int) := by omega
 have zc : (c : Int) ≤ 32768 := by omega
 have d0 : decide ((n : Int) < 0) = false := decide_eq_false (by omega)
 have d1 : decide ((32 : Int) < (n : Int)) = false := decide_eq_false (by omega)
 have d1' : decide (32 < n) = false := decide_eq_false (by omega)
 have d2 : decide ((c : Int) < 0) = false := decide_eq_false (by omega)
 have hp : (2 : Int) ^ n = ((2 ^ n : Nat) : Int) := by simp
 have hp2 : (c : Int) < (2 : Int) ^ n := by rw [hp]; omega
 have hp3 : (2 : Int) ^ n ≤ 32768 := by rw [hp]; omega
 have hwr : wrap64 ((2 : Int) ^ n) = (2 : Int) ^ n := Bridge.wr (by rw [hp]; omega) (by omega)
 have d3 : decide (wrap64 ((2 : Int) ^ n) ≤ (c : Int)) = false := decide_eq_false (by rw [hwr]; omega)
 have d4 : ¬ (wrap64 ((2 : Int) ^ n) ≤ (c : Int)) := by rw [hwr]; omega
 clear hw hn hc hl h15 hp hp2 hp3 hwr
 go_enter Tryz.func196, Tryz.ntmps196
 go_wp2_with fail
 clear d0 d1 d1' d2 d3 d4
 go_loopw [7] (fun v7 wx => ∃ j : Nat, v7 = .int .i64 ((n : Int) - 1 - (j : Int)) ∧ Aside0 (j ≤ n) ∧ Aside0 (WrAt wx H (B ++ (bitsOf c n).take j)) ∧ Aside0 (Below H w wx)) (fun v7 _ => (intOf v7 + 1).toNat)
 case atStart => exact ⟨0, by rw [Int.natCast_zero, Int.sub_zero], ⟨Nat.zero_le _⟩, ⟨by rw [List.take_zero, List.append_nil]; exact HW.out⟩, ⟨Below.refl _ _⟩⟩
 case round =>
  obtain ⟨j, rfl, HJ, HWX, HB⟩ := hrel
  have hj := HJ.out
  by_cases hjn : j < n
  ·have HT : Aside0 (B ++ (bitsOf c n).take (j + 1) = (B ++ (bitsOf c n).take j) ++ [c / 2 ^ (n - 1 - j) % 2]) := ⟨by rw [List.take_add_one, bitsOf_get c hjn, List.append_assoc]; rfl⟩
   have hL : (B ++ (bitsOf c n).take j).length ≤ 1000100 := by rw [List.length_append, List.length_take]; have := HX.out.2.2; have := HX.out.1.2; omega
   generalize B ++ (bitsOf c n).take j = C at *
   obtain ⟨v, hobj, hown⟩ := HWX.out.obj
   obtain ⟨A, cp, rfl⟩ := own_slice hown
   have HOW := Aside0.mk hown
   have k0 : wr.cell? ⟨H, 0, none⟩ = _ := blk_cell hobj 0
   have k1 : wr.cell? ⟨H, 1, none⟩ = _ := blk_cell hobj 1
   have kz := fun i => blk_frozen hobj i
   have e1 : decide ((0 : Int) ≤ (n : Int) - 1 - (j : Int)) = true := decide_eq_true (by omega)
   have hjj : (j : Int) < (n : Int) := by omega
   have zL : (C.length : Int) ≤ 1000100 := by omega
   have HOB := Aside0.mk hobj
   have HJN := Aside0.mk hjn
   clear hobj hown hL hj hjn
   have zLn : C.length ≤ 1000100 := by omega
   go_upto_if 39 with fail
   go_cut [46] (fun _ wx => WrMid wx H C ∧ Below H w wx)
   case first =>
    by_cases h8 : C.length % 8 = 0
    ·have f1 : ((C.length : Int) % 8 == 0) = true := beq_iff_eq.2 (by omega)
     have f2 : (C.length : Int) % 8 = 0 := by omega
     have H8 := Aside0.mk h8
     clear h8
     go_wp2_with (first
      | (at_builtin; refine wpList_append_flat (w0 := wr) (H + 1) rfl (.tmp 44) (.tmp 45) 55 5 rfl (.int .u8 0) 1 1 Tryz.underlying55 Leaf.info5 rfl (by decide) (by decide) (.slice A ((C.length + 7) / 8) cp) ((C.length + 7) / 8) (u8V (bytesB C)) rfl (own_below HOW.out (below_alloc (Below.refl _ _) _)) rfl [.int .u8 0] rfl (by decide) ⟨_, rfl, lit_one _ _ _⟩ (u8V_one [0]) (by omega) ((Below.refl _ _).alloc (show H + 1 ≤ wr.heap.size from blk_lt HOB.out) _) (by simp; exact Nat.le_of_lt (blk_lt HOB.out)) ?_; intro v1 w1 hown1 hb1 hg1; obtain ⟨A1, c1, rfl⟩ := own_slice hown1; have HO1 := Aside0.mk hown1; have HB1 := Aside0.mk hb1; have hob1 := (hb1.block H (Nat.lt_succ_self H)).trans HOB.out; have HOB1 := Aside0.mk hob1; have kz1 := blk_frozen hob1 0; have kc1 : w1.cell? ⟨H, 0, none⟩ = some (Value.slice A ((C.length + 7) / 8) cp) := blk_cell hob1 0; clear hown1 hb1 hg1 hob1))
     go_meet
     refine ⟨⟨HWX.out.bits, _, blk_set HOB1.out 0 _, ?_⟩, ?_⟩
     ·rw [if_pos H8.out]
      have h := HO1.out
      have e8 : C.length / 8 = (C.length + 7) / 8 := by have := H8.out; omega
      rw [e8]
      rw [show u8V (bytesB C ++ [0]) = u8V (bytesB C) ++ [Value.int .u8 0] by unfold u8V; rw [List.map_append]; rfl]
      refine own_move h fun k hk => Below.heap_setCell w1 ⟨H, 0, none⟩ _ k ?_
      have := own_ge h k hk
      show k ≠ H
      omega
     ·exact (HB.out.trans (HB1.out.mono (Nat.le_succ H))).setCell (Nat.le_refl H) _
    ·have f1 : ((C.length : Int) % 8 == 0) = false := beq_eq_false_iff_ne.2 (by omega)
     have f2 : ¬ ((C.length : Int) % 8 = 0) := by omega
     have H8 := Aside0.mk h8
     clear h8
     go_wp2_with fail
     go_meet
     refine ⟨⟨HWX.out.bits, _, HOB.out, ?_⟩, HB.out⟩
     rw [if_neg H8.out]
     have h := HOW.out
     have e8 : C.length / 8 + 1 = (C.length + 7) / 8 := by have := H8.out; omega
     rw [e8]
     exact h
   case rest =>
    obtain ⟨HM, HBy⟩ := hcut
    have HMB := Aside0.mk HM.bits
    obtain ⟨g, cp2, cur2, ho2, hg2, hc2, hm2, hh2, hs2, hx2, hb2⟩ := HM.cells
    have HC2 := Aside0.mk (And.intro ho2 (And.intro hg2 (And.intro hc2 (And.intro hm2 (And.intro hh2 (And.intro hs2 hx2))))))
    have g0 : wc.cell? ⟨H, 0, none⟩ = some (.slice (some ⟨g, 0, none⟩) (C.length / 8 + 1) cp2) := blk_cell ho2 0
    have g1 : wc.cell? ⟨H, 1, none⟩ = some (.int .i64 (C.length : Int)) := blk_cell ho2 1
    have gz := blk_frozen ho2 1
    have gz2 := blk_frozen hh2 (C.length / 8)
    have hbs := byteB_small HM.bits (C.length / 8)
    clear HM k0 k1 kz ho2 hg2 hc2 hm2 hh2 hs2 hx2
    go_wp2_with fail
    have zy : C.length ≤ 1000100 := zLn
    go_region
    have HBL := Aside0.mk (bit_lay (byteB C (C.length / 8)) c (n - 1 - j) (7 - C.length % 8) hbs (by have h1 := HX.out.2.1; have h2 : 2 ^ n ≤ 2 ^ 15 := Nat.pow_le_pow_right (by decide) HX.out.1.2; omega) (by omega))
    rw [HBL.out]
    obtain ⟨ho2, hg2, hc2, hm2, hh2, hs2, hx2⟩ := HC2.out
    have hq1 : (wc.setCell ⟨g, C.length / 8, none⟩ (.int .u8 ((byteB C (C.length / 8) ||| c / 2 ^ (n - 1 - j) % 2 * 2 ^ (7 - C.length % 8) : Nat) : Int))).drew.heap[H]? = some (.cells #[.slice (some ⟨g, 0, none⟩) (C.length / 8 + 1) cp2, .int .i64 (C.length : Int)] 208 (0, 0)) := (Below.heap_setCell wc ⟨g, C.length / 8, none⟩ _ H (show H ≠ g by omega)).trans ho2
    have hq2 := blk_set hh2 (C.length / 8) (.int .u8 ((byteB C (C.length / 8) ||| c / 2 ^ (n - 1 - j) % 2 * 2 ^ (7 - C.length % 8) : Nat) : Int))
    have HQ2 := Aside0.mk (show (wc.setCell ⟨g, C.length / 8, none⟩ (.int .u8 ((byteB C (C.length / 8) ||| c / 2 ^ (n - 1 - j) % 2 * 2 ^ (7 - C.length % 8) : Nat) : Int))).drew.heap[g]? = _ from hq2)
    have HQ1 := Aside0.mk hq1
    have HQB := Aside0.mk (show Below H w (wc.setCell ⟨g, C.length / 8, none⟩ (.int .u8 ((byteB C (C.length / 8) ||| c / 2 ^ (n - 1 - j) % 2 * 2 ^ (7 - C.length % 8) : Nat) : Int))).drew from below_drew1 (HBy.setCell (show H ≤ g by omega) _))
    clear hq2 ho2 hg2 hc2 hm2 hh2 hs2 hx2 HBL g0 g1 gz gz2 hbs hb2
    generalize (wc.setCell ⟨g, C.length / 8, none⟩ (.int .u8 ((byteB C (C.length / 8) ||| c / 2 ^ (n - 1 - j) % 2 * 2 ^ (7 - C.length % 8) : Nat) : Int))).drew = w3 at *
    have g1 : w3.cell? ⟨H, 1, none⟩ = some (.int .i64 (C.length : Int)) := blk_cell hq1 1
    have gz := blk_frozen hq1 1
    have qs : IntKind.i64.wrap ((C.length : Int) + 1) = (C.length : Int) + 1 := IntWalk.i64_in _ (by omega)
    clear hq1
    go_wp2_with fail
    go_roundw
    case rel =>
     have hj2 := HJN.out
     refine ⟨j + 1, ?_, ⟨hj2⟩, ⟨?_⟩, ⟨HQB.out.setCell (Nat.le_refl H) _⟩⟩
     ·congr 1
      omega
     ·rw [HT.out]
      obtain ⟨ho2, hg2, hc2, hm2, hh2, hs2, hx2⟩ := HC2.out
      exact wr_next HMB.out (by omega) (blk_set HQ1.out 1 _) hg2 hc2 hm2 ((Below.heap_setCell w3 ⟨H, 1, none⟩ _ g (show g ≠ H by omega)).trans HQ2.out) hs2 hx2
    case measure =>
     show ((n : Int) - 1 - (j : Int) - 1 + 1).toNat < ((n : Int) - 1 - (j : Int) + 1).toNat
     omega
  ·have hje : j = n := by have := HJ.out; omega
   subst hje
   have e1 : decide ((0 : Int) ≤ (j : Int) - 1 - (j : Int)) = false := decide_eq_false (by omega)
   have e2 : ¬ (0 : Int) ≤ (j : Int) - 1 - (j : Int) := by omega
   have HFI := HWX.out
   rw [List.take_of_length_le (Nat.le_of_eq (bitsOf_len c j))] at HFI
   have HF := Aside0.mk HFI
   clear hj hjn HFI
   go_wp2_with fail
   go_ret
   exact ⟨rfl, HF.out, HB.out⟩
end Go.Proofs.YtepgkimlmoikmaaGreat
