/- ShY: a part of its proof (contracts of the functions that it reaches, and the plain mathematics behind them). -/
import Derived.Test.YtepgkimlmoikmaaGreatShY39
import Derived.Test.YtepgkimlmoikmaaGreatShY31
set_option linter.unusedVariables false
set_option linter.unusedSimpArgs false
set_option maxHeartbeats 2000000
set_option maxRecDepth 100000
set_option linter.unusedVariables false
set_option linter.unusedSimpArgs false
namespace Go.Proofs.YtepgkimlmoikmaaGreat
open Go.RowKit Go.Proofs.YtepgkimlmoikmaaGreat.Spec Go.Proofs.YtepgkimlmoikmaaGreatW.PrintWords Go.Proofs.YtepgkimlmoikmaaGreatW.PrintLast
open Go.Proofs.YtepgkimlmoikmaaGreatW.PrintMore
attribute [local go_sem ↓] Go.wp_at_zero Go.wp_at_succ
attribute [local go_sem] max2_int min2_int max_two min_two
theorem ofB_be {v n : Nat} (h : v < 256 ^ n) : ofB (beB v n) = v := by rw [ofB_beB, Nat.mod_eq_of_lt h]
theorem be_one {v : Nat} (h : v < 256) : ∃ x : UInt8, beB v 1 = [x] ∧ x.toNat = v := by
 obtain ⟨x, hx⟩ : ∃ x, beB v 1 = [x] := by
  match h : beB v 1, beB_len v 1 with
  | [x], _ => exact ⟨x, rfl⟩
 refine ⟨x, hx, ?_⟩
 have o := ofB_be (v := v) (n := 1) h
 rw [hx] at o
 rw [← o]
 unfold ofB
 simp
theorem drop_take_mid (a b c : List UInt8) (i j : Nat) (hi : i = a.length) (hj : j = a.length + b.length) : ((a ++ (b ++ c)).drop i).take (j - i) = b := by
 subst hi hj
 rw [List.drop_left, Nat.add_sub_cancel_left, List.take_left]
theorem frame_blk {kd r sm : Nat} {p : ByteArray} (c : ByteArray) {blk : Nat} (hf : fitsR kd r p.size) (hr : r ≤ blk) (hs : sm < 4294967296) : frameR (frameS kd r sm p ++ c) blk = ⟨kd, r, sm, p, 9 + p.size, 0⟩ := by
 have hf0 := hf
 unfold fitsR at hf
 obtain ⟨⟨f1, f2⟩, f3, f4⟩ := hf
 have hk : kd = 1 ∨ kd = 2 := by omega
 obtain ⟨x, hx, hxn⟩ := be_one (v := kd) (by omega)
 have hz : (frameS kd r sm p ++ c).size = 9 + p.size + c.size := by rw [ByteArray.size_append, frameS_size]
 have hu : u (frameS kd r sm p ++ c) = [x] ++ (beB r 2 ++ (beB p.size 2 ++ (beB sm 4 ++ (u p ++ u c)))) := by
  unfold frameS
  rw [u_app, u_app, u_app, u_app, u_app, u_str, u_str, u_str, u_str, hx]
  simp only [List.append_assoc]
 have l2 := beB_len r 2
 have l3 := beB_len p.size 2
 have l4 := beB_len sm 4
 have m0 : byteAt (frameS kd r sm p ++ c) 0 = kd := by unfold byteAt; rw [hu]; exact hxn
 have m1 : ofB (u ((frameS kd r sm p ++ c).extract 1 3)) = r := by
  rw [u_ext, hu, drop_take_mid [x] (beB r 2) _ 1 3 rfl (by rw [l2]; rfl), ofB_be (by omega)]
 have m3 : ofB (u ((frameS kd r sm p ++ c).extract 3 5)) = p.size := by
  rw [u_ext, hu, ← List.append_assoc, drop_take_mid ([x] ++ beB r 2) (beB p.size 2) _ 3 5 (by rw [List.length_append, l2]; rfl) (by rw [List.length_append, l2, l3]; rfl), ofB_be (by omega)]
 have m5 : ofB (u ((frameS kd r sm p ++ c).extract 5 9)) = sm := by
  rw [u_ext, hu, ← List.append_assoc, ← List.append_assoc, drop_take_mid ([x] ++ beB r 2 ++ beB p.size 2) (beB sm 4) _ 5 9 (by rw [List.length_append, List.length_append, l2, l3]; rfl) (by rw [List.length_append, List.length_append, l2, l3, l4]; rfl), ofB_be (by omega)]
 have m9 : (frameS kd r sm p ++ c).extract 9 (9 + p.size) = p := by
  apply u_inj
  rw [u_ext, hu, ← List.append_assoc, ← List.append_assoc, ← List.append_assoc, drop_take_mid ([x] ++ beB r 2 ++ beB p.size 2 ++ beB sm 4) (u p) _ 9 (9 + p.size) (by rw [List.length_append, List.length_append, List.length_append, l2, l3, l4]; rfl) (by rw [List.length_append, List.length_append, List.length_append, l2, l3, l4, u_size]; rfl)]
 unfold frameR
 rw [m0, m1, m3, m5, m9, if_neg (by omega), if_neg (by omega), if_neg (by omega), if_neg (by omega), if_neg (by rintro (h | h); omega; exact h hf0), if_neg (by omega)]
theorem frame_endn {n : Nat} (c : ByteArray) (blk : Nat) (hn : n < 4294967296) : frameR (endS n ++ c) blk = ⟨0, n, 0, ⟨#[]⟩, 5, 0⟩ := by
 have hz : (endS n ++ c).size = 5 + c.size := by rw [ByteArray.size_append, endS_size]
 have hu : u (endS n ++ c) = [0] ++ (beB n 4 ++ u c) := by
  unfold endS
  rw [u_app, u_app, u_str, u_str, show beB 0 1 = [0] by decide]
  simp only [List.append_assoc]
 have m0 : byteAt (endS n ++ c) 0 = 0 := by unfold byteAt; rw [hu]; rfl
 have m1 : ofB (u ((endS n ++ c).extract 1 5)) = n := by
  rw [u_ext, hu, drop_take_mid [0] (beB n 4) _ 1 5 rfl (by rw [beB_len]; rfl), ofB_be (by omega)]
 unfold frameR
 rw [m0, m1, if_neg (by omega), if_neg (by omega), if_neg (by omega), if_pos rfl]
namespace Spec
def blksS (pay : ByteArray → Nat × ByteArray) : List ByteArray → ByteArray
 | [] => ⟨#[]⟩
 | b :: r => blkS pay b ++ blksS pay r
def catB : List ByteArray → ByteArray
 | [] => ⟨#[]⟩
 | b :: r => b ++ catB r
structure PayOk (l : List ByteArray) (q k : Nat) (pay : ByteArray → Nat × ByteArray) : Prop where
 fits : ∀ b : ByteArray, 1 ≤ b.size → b.size ≤ k → fitsR (pay b).1 b.size (pay b).2.size
 back : ∀ b : ByteArray, 1 ≤ b.size → b.size ≤ k → getR l q (pay b).1 b.size (pay b).2 = (b, 0)
end Spec
theorem blksS_app (pay : ByteArray → Nat × ByteArray) : ∀ xs ys, blksS pay (xs ++ ys) = blksS pay xs ++ blksS pay ys
 | [], ys => (ba_nil_append _).symm
 | x :: xs, ys => by rw [List.cons_append, blksS, blksS, blksS_app pay xs ys, ba_assoc]
theorem catB_app : ∀ xs ys, catB (xs ++ ys) = catB xs ++ catB ys
 | [], ys => (ba_nil_append _).symm
 | x :: xs, ys => by rw [List.cons_append, catB, catB, catB_app xs ys, ba_assoc]
theorem ext_back2 (a b c : ByteArray) : (a ++ (b ++ c)).extract (a.size + b.size) (a ++ (b ++ c)).size = c := by
 have h := ext_back (a ++ b) c
 rw [ByteArray.size_append, ba_assoc] at h
 exact h
theorem scan_blocks {l : List ByteArray} {q k : Nat} {pay : ByteArray → Nat × ByteArray} (hp : PayOk l q k pay) (c : ByteArray) : ∀ (bs : List ByteArray) (a out : ByteArray), (∀ b ∈ bs, 1 ≤ b.size ∧ b.size ≤ k) →
  scanF l q k (a ++ (blksS pay bs ++ c)) a.size out = scanF l q k (a ++ (blksS pay bs ++ c)) (a.size + (blksS pay bs).size) (out ++ catB bs)
 | [], a, out, _ => by
  rw [show blksS pay [] = ⟨#[]⟩ from rfl, show catB [] = ⟨#[]⟩ from rfl, ba_append_nil]
  rfl
 | b :: r, a, out, h => by
  obtain ⟨h1, h2⟩ := h b (List.mem_cons_self ..)
  have hcr := crc_range (u b)
  have hfr := frame_blk (kd := (pay b).1) (r := b.size) (sm := (crcR (u b)).toNat) (p := (pay b).2) (blksS pay r ++ c) (blk := k) (hp.fits b h1 h2) h2 (by omega)
  have hbk := hp.back b h1 h2
  have hB : a ++ (blksS pay (b :: r) ++ c) = a ++ (blkS pay b ++ (blksS pay r ++ c)) := by rw [blksS, ba_assoc]
  have hx : (a ++ (blksS pay (b :: r) ++ c)).extract a.size (a ++ (blksS pay (b :: r) ++ c)).size = frameS (pay b).1 b.size (crcR (u b)).toNat (pay b).2 ++ (blksS pay r ++ c) := by rw [hB, ext_back]; rfl
  have hle : a.size ≤ (a ++ (blksS pay (b :: r) ++ c)).size := by rw [ByteArray.size_append]; omega
  have hkd : (pay b).1 ≠ 0 := by have := hp.fits b h1 h2; unfold fitsR at this; omega
  have hm := scan_more (l := l) (how := (q : Int)) (blk := k) (B := a ++ (blksS pay (b :: r) ++ c)) (a := a.size) (out := out) hle (by rw [hx, hfr]) (by rw [hx, hfr]; exact hkd) (by rw [hx, hfr]; show (getR l q (pay b).1 b.size (pay b).2).2 = 0; rw [hbk]) (by
   rw [hx, hfr]
   show crcR (u (getR l q (pay b).1 b.size (pay b).2).1) = _
   rw [hbk]
   show crcR (u b) = (((crcR (u b)).toNat : Nat) : Int)
   omega)
  rw [hx, hfr] at hm
  rw [hm]
  show scanF l q k _ (a.size + (9 + (pay b).2.size)) (out ++ (getR l q (pay b).1 b.size (pay b).2).1) = _
  rw [hbk]
  have hbz : (blkS pay b).size = 9 + (pay b).2.size := frameS_size _ _ _ _
  have hi := scan_blocks hp c r (a ++ blkS pay b) (out ++ b) fun z hz => h z (List.mem_cons_of_mem _ hz)
  rw [ByteArray.size_append, hbz, ba_assoc, ← hB] at hi
  rw [hi, blksS, ByteArray.size_append, hbz, catB, ba_assoc out b, Nat.add_assoc]
theorem full_blocks {l : List ByteArray} {q k : Nat} {pay : ByteArray → Nat × ByteArray} (hq : q ≤ 1) (hk : 1 ≤ k ∧ k ≤ 1024) (hp : PayOk l q k pay) (bs : List ByteArray) (h : ∀ b ∈ bs, 1 ≤ b.size ∧ b.size ≤ k) (c : ByteArray) :
  full l (headS q k (Idn l) ++ (blksS pay bs ++ c)) = scanF l q k (headS q k (Idn l) ++ (blksS pay bs ++ c)) (17 + (blksS pay bs).size) (catB bs) := by
 obtain ⟨i1, i2⟩ := idn_is l
 have hz := headS_size q k (Idn l)
 have hs : 17 ≤ (headS q k (Idn l) ++ (blksS pay bs ++ c)).size := by rw [ByteArray.size_append, hz]; omega
 have hh : headR (headS q k (Idn l) ++ (blksS pay bs ++ c)) = ⟨q, k, Idn l, 0⟩ := by rw [head_app _ _ (by omega), head_read q k (Idn l) hq hk i2]
 rw [full_ok hs (by rw [hh]) (by rw [hh]; exact i1), hh]
 have := scan_blocks hp c bs (headS q k (Idn l)) ⟨#[]⟩ h
 rw [hz, ba_nil_append] at this
 exact this
theorem stream_at (H X c : ByteArray) (n : Nat) (h : n = H.size + X.size) : (H ++ (X ++ c)).extract n (H ++ (X ++ c)).size = c := by subst h; exact ext_back2 H X c
theorem full_shut {l : List ByteArray} {q k : Nat} {pay : ByteArray → Nat × ByteArray} (hq : q ≤ 1) (hk : 1 ≤ k ∧ k ≤ 1024) (hp : PayOk l q k pay) (bs : List ByteArray) (h : ∀ b ∈ bs, 1 ≤ b.size ∧ b.size ≤ k) (hn : (catB bs).size < 4294967296) (c : ByteArray) :
  full l (headS q k (Idn l) ++ (blksS pay bs ++ (endS (catB bs).size ++ c))) = ⟨catB bs, 17 + (blksS pay bs).size + 5, if 0 < c.size then 13 else 0, true⟩ := by
 have hf := full_blocks hq hk hp bs h (endS (catB bs).size ++ c)
 have hx := stream_at (headS q k (Idn l)) (blksS pay bs) (endS (catB bs).size ++ c) (17 + (blksS pay bs).size) (by rw [headS_size])
 have hz : (headS q k (Idn l) ++ (blksS pay bs ++ (endS (catB bs).size ++ c))).size = 17 + (blksS pay bs).size + 5 + c.size := by
  rw [ByteArray.size_append, ByteArray.size_append, ByteArray.size_append, headS_size, endS_size]; omega
 have hfr := frame_endn c k hn
 have he := scan_end (l := l) (how := (q : Int)) (blk := k) (B := headS q k (Idn l) ++ (blksS pay bs ++ (endS (catB bs).size ++ c))) (a := 17 + (blksS pay bs).size) (out := catB bs) (by omega) (by rw [hx, hfr]) (by rw [hx, hfr]) (by rw [hx, hfr]; exact (Nat.mod_eq_of_lt hn).symm)
 rw [hx, hfr] at he
 rw [hf, he]
 show Sc.mk _ _ (if 17 + (blksS pay bs).size + 5 < (headS q k (Idn l) ++ (blksS pay bs ++ (endS (catB bs).size ++ c))).size then 13 else 0) _ = _
 rw [hz]
 congr 1
 by_cases g : 0 < c.size
 ·rw [if_pos g, if_pos (by omega)]
 ·rw [if_neg g, if_neg (by omega)]
theorem full_length {l : List ByteArray} {q k : Nat} {pay : ByteArray → Nat × ByteArray} (hq : q ≤ 1) (hk : 1 ≤ k ∧ k ≤ 1024) (hp : PayOk l q k pay) (bs : List ByteArray) (h : ∀ b ∈ bs, 1 ≤ b.size ∧ b.size ≤ k) {n : Nat} (hn : n < 4294967296) (hne : n ≠ (catB bs).size) (hc : (catB bs).size < 4294967296) (c : ByteArray) :
  full l (headS q k (Idn l) ++ (blksS pay bs ++ (endS n ++ c))) = ⟨catB bs, 17 + (blksS pay bs).size, 12, false⟩ := by
 have hf := full_blocks hq hk hp bs h (endS n ++ c)
 have hx := stream_at (headS q k (Idn l)) (blksS pay bs) (endS n ++ c) (17 + (blksS pay bs).size) (by rw [headS_size])
 have hz : (headS q k (Idn l) ++ (blksS pay bs ++ (endS n ++ c))).size = 17 + (blksS pay bs).size + 5 + c.size := by
  rw [ByteArray.size_append, ByteArray.size_append, ByteArray.size_append, headS_size, endS_size]; omega
 have hfr := frame_endn c k hn
 rw [hf]
 exact scan_length (l := l) (how := (q : Int)) (blk := k) (B := headS q k (Idn l) ++ (blksS pay bs ++ (endS n ++ c))) (a := 17 + (blksS pay bs).size) (out := catB bs) (by omega) (by rw [hx, hfr]) (by rw [hx, hfr]) (by rw [hx, hfr]; rw [Nat.mod_eq_of_lt hc]; exact hne)
end Go.Proofs.YtepgkimlmoikmaaGreat
set_option linter.unusedVariables false
set_option linter.unusedSimpArgs false
namespace Go.Proofs.YtepgkimlmoikmaaGreat
open Go.RowKit Go.Proofs.YtepgkimlmoikmaaGreat.Spec Go.Proofs.YtepgkimlmoikmaaGreatW.PrintWords Go.Proofs.YtepgkimlmoikmaaGreatW.PrintLast
open Go.Proofs.YtepgkimlmoikmaaGreatW.PrintMore
attribute [local go_sem ↓] Go.wp_at_zero Go.wp_at_succ
attribute [local go_sem] max2_int min2_int max_two min_two
namespace Spec
def chunk (k : Nat) : Nat → ByteArray → List ByteArray × ByteArray
 | 0, h => ([], h)
 | f + 1, h => if k ≤ h.size then (h.extract 0 k :: (chunk k f (h.extract k h.size)).1, (chunk k f (h.extract k h.size)).2) else ([], h)
abbrev chk (k : Nat) (h : ByteArray) : List ByteArray × ByteArray := chunk k h.size h
def lastB (h : ByteArray) : List ByteArray := if h.size = 0 then [] else [h]
end Spec
theorem cut_chunk (pay : ByteArray → Nat × ByteArray) (k : Nat) : ∀ (f : Nat) (h : ByteArray), cutR pay k f h = (blksS pay (chunk k f h).1, (chunk k f h).2)
 | 0, h => rfl
 | f + 1, h => by
  rw [cutR, chunk]
  by_cases g : k ≤ h.size
  ·rw [if_pos g, if_pos g, cut_chunk pay k f]
   rfl
  ·rw [if_neg g, if_neg g]
   rfl
theorem ext_split (h : ByteArray) (k : Nat) (hk : k ≤ h.size) : h.extract 0 k ++ h.extract k h.size = h := by
 apply u_inj
 rw [u_app, u_ext, u_ext, List.drop_zero, Nat.sub_zero, List.take_of_length_le (l := (u h).drop k) (by rw [List.length_drop, u_size]; omega)]
 exact List.take_append_drop k (u h)
theorem chunk_ok {k : Nat} (hk : 1 ≤ k) : ∀ (f : Nat) (h : ByteArray), h.size ≤ f → (∀ b ∈ (chunk k f h).1, b.size = k) ∧ (chunk k f h).2.size < k ∧ catB (chunk k f h).1 ++ (chunk k f h).2 = h
 | 0, h, hf => ⟨fun _ hb => (by cases hb), by show h.size < k; omega, ba_nil_append h⟩
 | f + 1, h, hf => by
  rw [chunk]
  by_cases g : k ≤ h.size
  ·rw [if_pos g]
   have hz : (h.extract k h.size).size = h.size - k := ext_sz h k h.size (Nat.le_refl _)
   obtain ⟨a, b, c⟩ := chunk_ok hk f (h.extract k h.size) (by omega)
   refine ⟨fun x hx => ?_, b, ?_⟩
   ·rcases List.mem_cons.1 hx with e | e
    ·subst e; rw [ext_sz h 0 k g, Nat.sub_zero]
    ·exact a x e
   ·show (h.extract 0 k ++ catB (chunk k f (h.extract k h.size)).1) ++ (chunk k f (h.extract k h.size)).2 = h
    rw [ba_assoc, c, ext_split h k g]
  ·rw [if_neg g]
   exact ⟨fun _ hb => (by cases hb), by show h.size < k; omega, ba_nil_append h⟩
theorem ext_front (a b : ByteArray) : (a ++ b).extract 0 a.size = a := by
 apply u_inj
 rw [u_ext, u_app, List.drop_zero, Nat.sub_zero, ← u_size, List.take_left]
theorem chk_bounds {k : Nat} (hk : 1 ≤ k) (h : ByteArray) : ∀ b ∈ (chk k h).1 ++ lastB (chk k h).2, 1 ≤ b.size ∧ b.size ≤ k := by
 obtain ⟨a1, a2, a3⟩ := chunk_ok hk h.size h (Nat.le_refl _)
 intro b hb
 rcases List.mem_append.1 hb with g | g
 ·have := a1 b g; omega
 ·unfold lastB at g
  split at g
  ·cases g
  ·rw [List.mem_singleton] at g; subst g; exact ⟨by omega, Nat.le_of_lt a2⟩
theorem cat_last (h : ByteArray) : catB (lastB h) = h := by
 unfold lastB
 split
 ·rename_i h0
  apply u_inj
  rw [List.length_eq_zero_iff.1 (show (u h).length = 0 by rw [u_size]; exact h0)]
  rfl
 ·exact ba_append_nil h
theorem chk_cat {k : Nat} (hk : 1 ≤ k) (h : ByteArray) : catB ((chk k h).1 ++ lastB (chk k h).2) = h := by
 rw [catB_app, cat_last]
 exact (chunk_ok hk h.size h (Nat.le_refl _)).2.2
theorem blks_one (pay : ByteArray → Nat × ByteArray) (b : ByteArray) : blksS pay [b] = blkS pay b := ba_append_nil _
theorem blks_last (pay : ByteArray → Nat × ByteArray) (h : ByteArray) : blksS pay (lastB h) = if h.size = 0 then ⟨#[]⟩ else blkS pay h := by
 unfold lastB
 split
 ·rfl
 ·exact blks_one pay h
theorem encS_is (l : List ByteArray) (q k : Nat) (pay : ByteArray → Nat × ByteArray) (b : ByteArray) : encS l q k pay b = headS q k (Idn l) ++ (blksS pay ((chk k b).1 ++ lastB (chk k b).2) ++ endS b.size) := by
 unfold encS
 rw [cut_chunk, blksS_app, blks_last, ba_nil_append, ba_assoc, ba_assoc]
namespace Spec
section
variable (k : Nat) (os : List (Int × ByteArray))
def opA (j : Nat) : Int × ByteArray := os.getD j (0, ⟨#[]⟩)
def hA : Nat → ByteArray
 | 0 => ⟨#[]⟩
 | j + 1 => if (opA os j).1 = 1 then (chk k (hA j ++ (opA os j).2)).2 else if (opA os j).1 = 2 then ⟨#[]⟩ else hA j
def wA (j : Nat) : List ByteArray := if (opA os j).1 = 1 then (chk k (hA k os j ++ (opA os j).2)).1 else if (opA os j).1 = 2 then lastB (hA k os j) else []
end
end Spec
end Go.Proofs.YtepgkimlmoikmaaGreat
