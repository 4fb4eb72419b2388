/- ShV: a part of its proof (contracts of the functions that it reaches, and the plain mathematics behind them). -/
import Derived.Test.YtepgkimlmoikmaaGreatShV12
set_option linter.unusedVariables false
set_option linter.unusedSimpArgs false
set_option maxHeartbeats 2000000
set_option maxRecDepth 100000
set_option linter.unusedVariables false
set_option linter.unusedSimpArgs false
namespace Go.Proofs.YtepgkimlmoikmaaGreat
open Go.RowKit Go.Proofs.YtepgkimlmoikmaaGreat.Spec Go.Proofs.YtepgkimlmoikmaaGreatW.PrintWords Go.Proofs.YtepgkimlmoikmaaGreatW.PrintLast
open Go.Proofs.YtepgkimlmoikmaaGreatW.PrintMore
attribute [local go_sem] max2_int min2_int max_two min_two
theorem drawn_below {w w' : World} (h : Drawn0 w w') : Below w.heap.size w w' := h.below
theorem body_len {l : List ByteArray} (h : ∀ s ∈ l, s.size < 1000000) : (body l).length ≤ l.length * 1000005 := by
 induction l with
 | nil => simp [body]
 | cons s t ih =>
  have h1 := h s (List.mem_cons_self ..)
  have h2 := ih (fun x hx => h x (List.mem_cons_of_mem _ hx))
  have h3 := Bridge.num_len (n := s.size) (by omega)
  simp only [body, List.length_append, List.length_cons, u_size]
  omega
theorem bytes_any {w : World} {p : Value} {l : List ByteArray} (h : DictAt w p l) (hl : l.length ≤ 100) (hsz : ∀ s ∈ l, s.size < 1000000) : Calls Tryz.prog 202 #[p] w fun e w' => e = .returned (.string (str (Spec.bytes l))) ∧ Below w.heap.size w w' := by
 obtain ⟨ad, v, base, rfl, hc, hr⟩ := h.out
 have HR := Aside0.mk hr
 have HDA := Aside0.mk h
 clear hr h
 obtain ⟨A, c, rfl, hcap, hC⟩ := Kd.R_reads HR.out
 have HC := Aside0.mk hC
 clear hC hcap
 go_enter Tryz.func202, Tryz.ntmps202
 go_wp2_with (go_at_call 100; refine (vput_nat (n := l.length) (by omega) _).mono ?_; rintro e w1 ⟨rfl, hb⟩; have hc1 := pw_cell_below hb hc)
 have HB := Aside0.mk hb
 clear hb
 go_loopw [3, 25] (fun v3 v25 wr => ∃ (seen rest : List ByteArray), v3 = .string (str (num l.length ++ body seen)) ∧ v25 = .int .i64 seen.length ∧ Aside0 (l = seen ++ rest) ∧ Aside0 (Below w.heap.size w wr)) (fun _ v25 _ => l.length - (intOf v25).toNat)
 case atStart => exact ⟨[], l, by simp [body], rfl, ⟨rfl⟩, HB⟩
 case round =>
  obtain ⟨seen, rest, rfl, rfl, HL, HBw⟩ := hrel
  have hlen := congrArg List.length HL.out
  rw [List.length_append] at hlen
  cases rest with
  | cons x t =>
   rw [List.length_cons] at hlen
   have hi : seen.length < l.length := by omega
   clear hlen
   have hCw := Kd.C_below HC.out HBw.out
   obtain ⟨ad2, rfl, hx⟩ := Kd.at_string hCw (seen.length : Int) (by omega) (by omega)
   have hx2 : rdOf ByteArray.empty l (seen.length : Int) = x := by
    rw [Bridge.rdOf_get l _ hi]
    have := HL.out
    simp only [this, List.getElem_append_right (Nat.le_refl _), Nat.sub_self, List.getElem_cons_zero]
   rw [hx2, Int.toNat_natCast] at hx
   have hxs := hsz x (by rw [HL.out]; simp)
   clear hx2 hCw
   have p1 : (0 : Int) ≤ (seen.length : Int) := by omega
   have p2 : (seen.length : Int) < (l.length : Int) := by omega
   have hbl := body_len (l := seen) (fun s hs => hsz s (by rw [HL.out]; exact List.mem_append_left _ hs))
   have hn1 := Bridge.num_len (n := x.size) (by omega)
   have hn2 := Bridge.num_len (n := l.length) (by omega)
   have q1 : ¬ 9223372036854775807 < (str (num x.size)).size + x.size := by rw [str_size]; omega
   have q2 : ¬ 9223372036854775807 < (str (num l.length ++ body seen)).size + ((str (num x.size)).size + x.size) := by rw [str_size, str_size, List.length_append]; omega
   clear hbl hn1 hn2
   go_wp2_with (go_at_call 100; refine (vput_nat (n := x.size) (by omega) _).mono ?_; rintro e w2 ⟨rfl, hb⟩)
   go_roundw
   case rel =>
    refine ⟨seen ++ [x], t, ?_, by simp, ⟨by rw [List.append_assoc]; exact HL.out⟩, ⟨below_step HBw.out hb⟩⟩
    congr 1
    apply u_inj
    simp only [u_app, u_str, body_append, body, List.append_nil, List.append_assoc]
   case measure => simp [intOf]; omega
  | nil =>
   rw [List.length_nil] at hlen
   have hb0' : ¬ seen.length < l.length := by omega
   clear hlen
   go_wp2
   go_ret
   have hs : l = seen := by rw [HL.out, List.append_nil]
   exact ⟨by rw [hs]; rfl, HBw.out⟩
theorem u64_wrap_nat {n : Nat} (h : n < 18446744073709551616) : IntKind.u64.wrap (n : Int) = n := by
 have : (n : Int) % 18446744073709551616 = n := by omega
 simp [IntKind.wrap, IntKind.bits, IntKind.signed, this]
theorem xor_u64 (x y : Int) : Go.bits .xor .u64 x y = (((BitVec.ofInt 64 x) ^^^ (BitVec.ofInt 64 y)).toNat : Int) := by
 unfold Go.bits
 exact u64_wrap_nat (BitVec.isLt _)
theorem bits_xor_zero (f : Int) (h0 : 0 ≤ f) (h : f < 18446744073709551616) : Go.bits .xor .u64 0 f = f := by
 obtain ⟨n, rfl⟩ : ∃ n : Nat, f = n := ⟨f.toNat, by omega⟩
 rw [xor_u64, BitVec.ofInt_natCast]
 simp
 omega
theorem bits_xor_back (v f : Int) (h0 : 0 ≤ v) (h : v < 18446744073709551616) : Go.bits .xor .u64 (Go.bits .xor .u64 v f) f = v := by
 obtain ⟨n, rfl⟩ : ∃ n : Nat, v = n := ⟨v.toNat, by omega⟩
 rw [xor_u64 _ f, xor_u64 _ f, BitVec.ofInt_natCast, BitVec.ofInt_natCast]
 have e : BitVec.ofNat 64 ((BitVec.ofNat 64 n ^^^ BitVec.ofInt 64 f).toNat) = BitVec.ofNat 64 n ^^^ BitVec.ofInt 64 f := by rw [BitVec.ofNat_toNat]; exact BitVec.setWidth_eq _
 rw [e, BitVec.xor_assoc, BitVec.xor_self, BitVec.xor_zero]
 simp
 omega
theorem fnv_range (b : List UInt8) : ∀ h, 0 ≤ h → h < 18446744073709551616 → 0 ≤ b.foldl Bridge.fnvStep h ∧ b.foldl Bridge.fnvStep h < 18446744073709551616 := by
 induction b with
 | nil => intro h h0 h1; exact ⟨h0, h1⟩
 | cons c t ih =>
  intro h _ _
  refine ih _ ?_ ?_
  ·unfold Bridge.fnvStep; simp [IntKind.wrap, IntKind.bits, IntKind.signed]; omega
  ·unfold Bridge.fnvStep; simp [IntKind.wrap, IntKind.bits, IntKind.signed]; omega
theorem hash_add (b : ByteArray) (hb : b.size ≤ 140737488351232) (B : Nat) (c : Int) (w : World) (hc : w.cell? ⟨B, 0, none⟩ = some (.int .u64 c)) (hf : w.frozen? ⟨B, 0, none⟩ = false) :
  Calls Tryz.prog 225 #[.pointer (some ⟨B, 0, none⟩), .string b] w fun e w' => e = .returned (.tuple #[]) ∧ w' = w.setCell ⟨B, 0, none⟩ (.int .u64 (Go.bits .xor .u64 ((u b).foldl Bridge.fnvStep (Go.bits .xor .u64 c 14695981039346656037)) 14695981039346656037)) := by
 go_enter Tryz.func225, Tryz.ntmps225
 go_wp2
 go_loop [4, 15] (fun v4 v15 => ∃ (i : Nat), i ≤ b.size ∧ v15 = .int .i64 i ∧ v4 = .int .u64 (((u b).take i).foldl Bridge.fnvStep (Go.bits .xor .u64 c 14695981039346656037))) (fun _ v15 => b.size - (intOf v15).toNat)
 case atStart => exact ⟨0, by omega, rfl, by simp⟩
 case round =>
  obtain ⟨i, hi, rfl, rfl⟩ := hrel
  by_cases hlt : i < b.size
  ·have hx : i < (u b).length := by rw [u_size]; exact hlt
   have ht : (u b).take (i + 1) = (u b).take i ++ [(u b)[i]] := List.take_succ_eq_append_getElem hx
   have HT := Aside0.mk ht
   clear ht
   have hbt := Bridge.bt_u b i hx
   have p1 : (0 : Int) ≤ (i : Int) := by omega
   have p2 : (i : Int) < (b.size : Int) := by omega
   obtain ⟨h, hh⟩ : ∃ h, h = List.foldl Bridge.fnvStep (Go.bits .xor .u64 c 14695981039346656037) ((u b).take i) := ⟨_, rfl⟩
   rw [← hh]
   have HH := Aside0.mk hh
   clear hh hbt
   go_wp2
   go_round
   case rel =>
    refine ⟨i + 1, by omega, by go_num, ?_⟩
    rw [HT.out, List.foldl_append, ← HH.out]
    rfl
   case measure => simp [intOf]; omega
  ·have : i = b.size := by omega
   subst this
   go_wp2
   go_end0
   exact ⟨rfl, by rw [List.take_of_length_le (by rw [u_size]; omega)]⟩
theorem hash_now (B : Nat) (c : Int) (w : World) (hc : w.cell? ⟨B, 0, none⟩ = some (.int .u64 c)) : Calls Tryz.prog 226 #[.pointer (some ⟨B, 0, none⟩)] w fun e w' => e = .returned (.int .u64 (Go.bits .xor .u64 c 14695981039346656037)) ∧ w' = w := by
 go_enter Tryz.func226, Tryz.ntmps226
 go_wp2
 go_ret
 exact ⟨rfl, rfl⟩
theorem fnv_eq (b : List UInt8) : Go.bits .xor .u64 (Go.bits .xor .u64 (b.foldl Bridge.fnvStep (Go.bits .xor .u64 0 14695981039346656037)) 14695981039346656037) 14695981039346656037 = Bridge.fnv b := by
 rw [bits_xor_zero _ (by decide) (by decide)]
 have := fnv_range b 14695981039346656037 (by decide) (by decide)
 exact bits_xor_back _ _ this.1 this.2
theorem fnvOf_any (b : ByteArray) (hb : b.size ≤ 140737488351232) (w : World) : Calls Tryz.prog 201 #[.string b] w fun e w' => e = .returned (.int .u64 (Bridge.fnv (u b))) ∧ Below w.heap.size w w' := by
 have HE := Aside0.mk (fnv_eq (u b))
 go_enter Tryz.func201, Tryz.ntmps201
 go_wp2_with fail
 refine (hash_add b hb _ 0 _ ?_ ?_).mono ?_
 ·simp
 ·simp
 rintro e w' ⟨rfl, rfl⟩
 go_wp2_with fail
 refine (hash_now _ (Go.bits .xor .u64 ((u b).foldl Bridge.fnvStep (Go.bits .xor .u64 0 14695981039346656037)) 14695981039346656037) _ (by simp)).mono ?_
 rintro e w' ⟨rfl, rfl⟩
 go_wp2
 go_ret
 exact ⟨by first | exact congrArg (fun x => Ending.returned (.int .u64 x)) HE.out | rw [HE.out], (Below.refl _ _).alloc (Nat.le_refl _) _⟩
theorem id_any {w : World} {p : Value} {l : List ByteArray} (h : DictAt w p l) (hl : l.length ≤ 100) (hsz : ∀ s ∈ l, s.size < 1000000) : Calls Tryz.prog 162 #[p] w fun e w' => e = .returned (.int .u64 (Bridge.fnv (Spec.bytes l))) ∧ Below w.heap.size w w' := by
 have hbl := body_len hsz
 have hn := Bridge.num_len (n := l.length) (by omega)
 have hs : (str (Spec.bytes l)).size ≤ 140737488351232 := by rw [str_size]; unfold Spec.bytes; rw [List.length_append]; omega
 clear hbl hn
 have H := Aside0.mk h
 obtain ⟨ad, v, base, rfl, hc, hr⟩ := h.out
 clear hc hr h
 go_enter Tryz.func162, Tryz.ntmps162
 go_wp2_with (first | (go_at_call 202; refine (bytes_any H.out hl hsz).mono ?_; rintro e w1 ⟨rfl, hb1⟩) | (go_at_call 201; refine (fnvOf_any _ hs _).mono ?_; rintro e w2 ⟨rfl, hb2⟩))
 go_ret
 exact ⟨by first | rfl | rw [u_str], below_step hb1 hb2⟩
end Go.Proofs.YtepgkimlmoikmaaGreat
set_option linter.unusedVariables false
set_option linter.unusedSimpArgs false
namespace Go.Proofs.YtepgkimlmoikmaaGreat
open Go.RowKit Go.Proofs.YtepgkimlmoikmaaGreat.Spec Go.Proofs.YtepgkimlmoikmaaGreatW.PrintWords Go.Proofs.YtepgkimlmoikmaaGreatW.PrintLast
open Go.Proofs.YtepgkimlmoikmaaGreatW.PrintMore
theorem eqFault (d : Nat) (w : World) (x0 y0 : Int) (x1 y1 : Int) :
  (Op.equalIn (d + 2) 152 (.agg #[.int .i64 x0, .int .i64 x1]) (.agg #[.int .i64 y0, .int .i64 y1])).run Tryz.prog w = .ok (x0 == y0 && (x1 == y1)) w := by
 refine eqA_of Tryz.underlying152 (by kernel_rfl) ?_
 refine eqf_cons (by rfl) (by go_simp; rfl) (by go_simp; rfl) (by go_simp) ?_
 exact eqf_last (by rfl) (by go_simp; rfl) (by go_simp; rfl) (by go_simp)
theorem run_eql_fault (x0 y0 x1 y1 : Int) (w : World) : (binOp .eql 152 (.agg #[.int .i64 x0, .int .i64 x1]) (.agg #[.int .i64 y0, .int .i64 y1])).run Tryz.prog w = .ok (.bool (x0 == y0 && (x1 == y1))) w := by
 simp only [binOp]
 simp [Op.equal, Op.maxDepth, eqFault 9998]
def toldB (c a code at_ : Int) : Bool := if code = 0 then c == 0 else (c != 0) && (c == code && a == at_)
theorem new_yes {A : Option Addr} {c : Nat} (l : List ByteArray) (w : World) (hr : StrsIn w A l) (hc : l.length ≤ c) (hsz : ∀ s ∈ l, s.size ≤ 140737488351232) (h : (phrases l).1 = 0) : Calls Tryz.prog 123 #[.slice A l.length c] w fun e w' => ∃ ad, e = .returned (.tuple #[.pointer (some ad), .nilIface]) ∧ DictAt w' (.pointer (some ad)) l ∧ Below w.heap.size w w' := by
 refine (new_calls l w hr hc hsz).mono ?_
 rintro e w' ⟨hb, h1 | h1⟩
 ·obtain ⟨_, p, rfl, hd⟩ := h1
  obtain ⟨ad, v, base, rfl, hq⟩ := hd.out
  exact ⟨ad, rfl, hd, hb⟩
 ·exact absurd h h1.1
theorem make_yes {A : Option Addr} {c : Nat} (l : List ByteArray) (w : World) (hr : StrsIn w A l) (hc : l.length ≤ c) (hsz : ∀ s ∈ l, s.size ≤ 140737488351232) (h : (phrases l).1 = 0) : Calls Tryz.prog 67 #[.slice A l.length c] w fun e w' => ∃ ad, e = .returned (.pointer (some ad)) ∧ DictAt w' (.pointer (some ad)) l ∧ Below w.heap.size w w' := by
 have HC := Aside0.mk hc
 have HR := Aside0.mk hr
 have H := Aside0.mk h
 clear hr h hc
 go_enter Tryz.func67, Tryz.ntmps67
 go_wp2_with (go_at_call 123; refine (new_yes l _ HR.out HC.out hsz H.out).mono ?_; rintro e w' ⟨ad, rfl, hd, hb⟩)
 go_ret
 exact ⟨ad, rfl, hd, hb⟩
theorem strs_lit (w : World) (l : List ByteArray) (hm : l.length ≤ 1000) : StrsIn (w.alloc (.cells (l.map Value.string).toArray 9)) (some ⟨w.heap.size, 0, none⟩) l :=
 (Kd.R_reads' (Kd.R_of_own (h1 := fun _ => rfl) (ok := fun _ => True) (own_lit_of (enc := Value.string) w 0 9 l (Nat.zero_le _) (by omega)) (fun _ _ => trivial))).2.2
def la : List ByteArray := [⟨#[97, 98]⟩, ⟨#[99]⟩]
def lb : List ByteArray := [⟨#[97]⟩, ⟨#[97]⟩]
end Go.Proofs.YtepgkimlmoikmaaGreat
set_option linter.unusedVariables false
set_option linter.unusedSimpArgs false
namespace Go.Proofs.YtepgkimlmoikmaaGreat
open Go.RowKit Go.Proofs.YtepgkimlmoikmaaGreat.Spec Go.Proofs.YtepgkimlmoikmaaGreatW.PrintWords Go.Proofs.YtepgkimlmoikmaaGreatW.PrintLast
attribute [local go_sem ↓] Go.wp_at_zero Go.wp_at_succ
namespace Spec
def word (l : List ByteArray) (t : Int) : ByteArray := if t < 0 then ⟨#[]⟩ else if t < 256 then ⟨#[UInt8.ofNat t.toNat]⟩ else l.getD (t.toNat - 256) ⟨#[]⟩
def Tok (l : List ByteArray) (t : Int) : Prop := 0 ≤ t ∧ t < 256 + (l.length : Int)
instance (l : List ByteArray) (t : Int) : Decidable (Tok l t) := by unfold Tok; infer_instance
theorem word_low {l : List ByteArray} {t : Int} (h0 : 0 ≤ t) (h : t < 256) : word l t = ⟨#[UInt8.ofNat t.toNat]⟩ := by unfold word; rw [if_neg (by omega), if_pos h]
theorem word_neg {l : List ByteArray} {t : Int} (h : t < 0) : word l t = ⟨#[]⟩ := by unfold word; rw [if_pos h]
theorem word_high {l : List ByteArray} {t : Int} (h : ¬ t < 256) : word l t = l.getD (t.toNat - 256) ⟨#[]⟩ := by unfold word; rw [if_neg (by omega), if_neg h]
theorem word_out {l : List ByteArray} {t : Int} (h : ¬ Tok l t) : word l t = ⟨#[]⟩ := by
 unfold Tok at h
 by_cases h0 : t < 0
 ·exact word_neg h0
 ·rw [word_high (by omega), List.getD_eq_getElem?_getD, List.getElem?_eq_none (by omega)]; rfl
theorem word_size {l : List ByteArray} (hl : ∀ s ∈ l, 1 ≤ s.size ∧ s.size ≤ 40) {t : Int} (h : Tok l t) : 1 ≤ (word l t).size ∧ (word l t).size ≤ 40 := by
 unfold Tok at h
 by_cases h1 : t < 256
 ·rw [word_low h.1 h1]; exact ⟨Nat.le_refl 1, by show 1 ≤ 40; omega⟩
 ·rw [word_high h1, List.getD_eq_getElem?_getD, List.getElem?_eq_getElem (by omega)]
  exact hl _ (List.getElem_mem _)
def cat (l : List ByteArray) : List Int → ByteArray
 | [] => ⟨#[]⟩
 | t :: r => word l t ++ cat l r
theorem ba_append_nil (a : ByteArray) : a ++ (⟨#[]⟩ : ByteArray) = a := by apply u_inj; simp [u]
theorem ba_nil_append (a : ByteArray) : (⟨#[]⟩ : ByteArray) ++ a = a := by apply u_inj; simp [u]
theorem ba_assoc (a b c : ByteArray) : a ++ b ++ c = a ++ (b ++ c) := by apply u_inj; simp [u]
theorem cat_append (l : List ByteArray) (a b : List Int) : cat l (a ++ b) = cat l a ++ cat l b := by
 induction a with
 | nil => rw [List.nil_append, cat, ba_nil_append]
 | cons t r ih => rw [List.cons_append, cat, cat, ih, ba_assoc]
def nums2 : List Int → List UInt8
 | [] => []
 | t :: r => num t.toNat ++ nums2 r
theorem nums2_append (a b : List Int) : nums2 (a ++ b) = nums2 a ++ nums2 b := by
 induction a with
 | nil => rfl
 | cons t r ih => rw [List.cons_append, nums2, nums2, ih, List.append_assoc]
end Spec
namespace Bridge
open Leaf
end Bridge
theorem textd_any {w : World} {p : Value} {l : List ByteArray} (h : DictAt w p l) (t : Int) (h0 : -9223372036854775808 ≤ t) (h1 : t ≤ 9223372036854775807) : Calls Tryz.prog 185 #[p, .int .i64 t] w fun e w' => e = .returned (.string (word l t)) ∧ Below w.heap.size w w' := by
 have H := Aside0.mk h
 obtain ⟨ad, v, base, rfl, _, _⟩ := h.out
 clear h
 by_cases hneg : t < 0
 ·have d1 : decide (t < 0) = true := decide_eq_true hneg
  have HW := Aside0.mk (word_neg (l := l) hneg)
  clear hneg
  go_enter Tryz.func185, Tryz.ntmps185
  go_wp2
  go_ret
  rw [HW.out]
  exact ⟨rfl, Below.refl _ _⟩
 ·have d1 : decide (t < 0) = false := decide_eq_false hneg
  by_cases hlow : t < 256
  ·have d2 : decide (t < 256) = true := decide_eq_true hlow
   have HW := Aside0.mk (word_low (l := l) (by omega) hlow)
   have HT := Aside0.mk (show 0 ≤ t ∧ t < 256 by omega)
   have hw8 : IntKind.u8.wrap t = t := by rw [IntKind.wrap_u8]; omega
   have hcv := own_string (P := Tryz.prog) (src := 55) (dst := 9) (e := 5) Tryz.underlying55 Tryz.underlying5 Tryz.underlying9 (own_lit w w.heap.size 5 .u8 [t] (Nat.le_refl _) (by simp))
   simp only [nums, List.map_cons, List.map_nil, List.length_cons, List.length_nil, Nat.zero_add] at hcv
   clear hneg hlow
   go_enter Tryz.func185, Tryz.ntmps185
   go_wp2
   go_ret
   rw [HW.out]
   exact ⟨rfl, (Below.refl _ _).alloc (Nat.le_refl _) _⟩
  ·have d2 : decide (t < 256) = false := decide_eq_false hlow
   have HW := Aside0.mk (word_high (l := l) hlow)
   have HT := Aside0.mk (show 256 ≤ t by omega)
   have hw : wrap64 (t - 256) = t - 256 := Bridge.wr (by omega) (by omega)
   clear hneg hlow
   by_cases hin : t - 256 < l.length
   ·have HIN := Aside0.mk hin
    clear hin
    go_enter Tryz.func185, Tryz.ntmps185
    go_wp2_with fail
    refine (at_in H.out (t - 256) (by have := HT.out; omega) HIN.out).mono ?_
    rintro e w' ⟨rfl, rfl⟩
    go_wp2
    go_ret
    rw [HW.out, show t.toNat - 256 = (t - 256).toNat by have := HT.out; omega]
    exact ⟨rfl, Below.refl _ _⟩
   ·have HIN := Aside0.mk (show (l.length : Int) ≤ t - 256 by omega)
    clear hin
    go_enter Tryz.func185, Tryz.ntmps185
    go_wp2_with fail
    refine (at_out H.out (t - 256) (fun hh => by have := HIN.out; omega)).mono ?_
    rintro e w' ⟨rfl, rfl⟩
    go_wp2
    go_ret
    rw [HW.out, List.getD_eq_getElem?_getD, List.getElem?_eq_none (by have := HT.out; have := HIN.out; omega)]
    exact ⟨rfl, Below.refl _ _⟩
structure DictN (w : World) (p : Value) (l : List ByteArray) : Prop where mk :: (out : DictAt w p l ∨ p = .pointer none ∧ l = [])
theorem DictN.below {w w' : World} {p : Value} {l : List ByteArray} (h : DictN w p l) (hb : Below w.heap.size w w') : DictN w' p l := ⟨h.out.imp (fun h => h.below hb) id⟩
theorem DictN.of {w : World} {p : Value} {l : List ByteArray} (h : DictAt w p l) : DictN w p l := ⟨.inl h⟩
theorem DictN.nil (w : World) : DictN w (.pointer none) [] := ⟨.inr ⟨rfl, rfl⟩⟩
theorem alln_any {w : World} {p : Value} {l : List ByteArray} (h : DictN w p l) (hl : l.length * 16 ≤ 140737488355328) : Calls Tryz.prog 169 #[p] w fun e w' => ∃ v', e = .returned v' ∧ StrsAt w' w.heap.size v' l ∧ Below w.heap.size w w' := by
 rcases h.out with h | ⟨rfl, rfl⟩
 ·exact all_any h hl
 ·refine (all_nil w).mono ?_
  rintro e w' ⟨rfl, rfl⟩
  exact ⟨_, rfl, Kd.R_nil _ _ _ _ _, Below.refl _ _⟩
theorem textn_nil {w : World} (t : Int) (h0 : -9223372036854775808 ≤ t) (h1 : t ≤ 9223372036854775807) : Calls Tryz.prog 185 #[.pointer none, .int .i64 t] w fun e w' => e = .returned (.string (word [] t)) ∧ Below w.heap.size w w' := by
 by_cases hneg : t < 0
 ·have d1 : decide (t < 0) = true := decide_eq_true hneg
  have HW := Aside0.mk (word_neg (l := []) hneg)
  clear hneg
  go_enter Tryz.func185, Tryz.ntmps185
  go_wp2
  go_ret
  rw [HW.out]
  exact ⟨rfl, Below.refl _ _⟩
 ·have d1 : decide (t < 0) = false := decide_eq_false hneg
  by_cases hlow : t < 256
  ·have d2 : decide (t < 256) = true := decide_eq_true hlow
   have HW := Aside0.mk (word_low (l := []) (by omega) hlow)
   have HT := Aside0.mk (show 0 ≤ t ∧ t < 256 by omega)
   have hw8 : IntKind.u8.wrap t = t := by rw [IntKind.wrap_u8]; omega
   have hcv := own_string (P := Tryz.prog) (src := 55) (dst := 9) (e := 5) Tryz.underlying55 Tryz.underlying5 Tryz.underlying9 (own_lit w w.heap.size 5 .u8 [t] (Nat.le_refl _) (by simp))
   simp only [nums, List.map_cons, List.map_nil, List.length_cons, List.length_nil, Nat.zero_add] at hcv
   clear hneg hlow
   go_enter Tryz.func185, Tryz.ntmps185
   go_wp2
   go_ret
   rw [HW.out]
   exact ⟨rfl, (Below.refl _ _).alloc (Nat.le_refl _) _⟩
  ·have d2 : decide (t < 256) = false := decide_eq_false hlow
   have HW := Aside0.mk (show word [] t = ⟨#[]⟩ by rw [word_high (l := []) hlow]; rfl)
   have hw : wrap64 (t - 256) = t - 256 := Bridge.wr (by omega) (by omega)
   clear hneg hlow
   go_enter Tryz.func185, Tryz.ntmps185
   go_wp2_with fail
   refine (at_nil _ _).mono ?_
   rintro e w' ⟨rfl, rfl⟩
   go_wp2
   go_ret
   rw [HW.out]
   exact ⟨rfl, Below.refl _ _⟩
theorem text_any {w : World} {p : Value} {l : List ByteArray} (h : DictN w p l) (t : Int) (h0 : -9223372036854775808 ≤ t) (h1 : t ≤ 9223372036854775807) : Calls Tryz.prog 185 #[p, .int .i64 t] w fun e w' => e = .returned (.string (word l t)) ∧ Below w.heap.size w w' := by
 rcases h.out with h | ⟨rfl, rfl⟩
 ·exact textd_any h t h0 h1
 ·exact textn_nil t h0 h1
end Go.Proofs.YtepgkimlmoikmaaGreat
set_option linter.unusedVariables false
set_option linter.unusedSimpArgs false
namespace Go.Proofs.YtepgkimlmoikmaaGreat
open Go.RowKit Go.Proofs.YtepgkimlmoikmaaGreat.Spec Go.Proofs.YtepgkimlmoikmaaGreatW.PrintWords Go.Proofs.YtepgkimlmoikmaaGreatW.PrintLast
open Go.Proofs.YtepgkimlmoikmaaGreatW.PrintMore
attribute [local go_sem ↓] Go.wp_at_zero Go.wp_at_succ
attribute [local go_sem] max2_int min2_int max_two min_two
namespace Spec
def crcBit (v : Int) : Int := if Go.bits .and .u32 v 1 = 1 then Go.bits .xor .u32 (v / 2) 3988292384 else v / 2
def crcBits (v : Int) : Nat → Int
 | 0 => v
 | n + 1 => crcBit (crcBits v n)
def crcStep (v : Int) (c : UInt8) : Int := crcBits (Go.bits .xor .u32 v (IntKind.u32.wrap (c.toNat : Int))) 8
def crcR (l : List UInt8) : Int := Go.bits .xor .u32 IntKind.u32.max (l.foldl crcStep 4294967295)
end Spec
theorem crc_init : Go.bits .xor .u32 IntKind.u32.max 0 = 4294967295 := by decide +kernel
theorem crc_add (b : ByteArray) (hb : b.size ≤ 140737488351232) (B : Nat) (w : World) (hc : w.cell? ⟨B, 0, none⟩ = some (.int .u32 0)) (hf : w.frozen? ⟨B, 0, none⟩ = false) :
  Calls Tryz.prog 203 #[.pointer (some ⟨B, 0, none⟩), .string b] w fun e w' => e = .returned (.tuple #[]) ∧ w' = w.setCell ⟨B, 0, none⟩ (.int .u32 (crcR (u b))) := by
 have HI := Aside0.mk crc_init
 go_enter Tryz.func203, Tryz.ntmps203
 go_wp2_with fail
 go_loop [4, 5, 6, 16] (fun v4 v5 v6 v16 => ∃ (i : Nat), i ≤ b.size ∧ v16 = .int .i64 i ∧ v4 = .int .u32 (((u b).take i).foldl crcStep 4294967295)) (fun _ _ _ v16 => b.size - (intOf v16).toNat)
 case atStart => exact ⟨0, Nat.zero_le _, rfl, by rw [HI.out]; rfl⟩
 case round =>
  obtain ⟨i, hi, rfl, rfl⟩ := hrel
  by_cases hlt : i < b.size
  ·have hx : i < (u b).length := by rw [u_size]; exact hlt
   have ht : (u b).take (i + 1) = (u b).take i ++ [(u b)[i]] := List.take_succ_eq_append_getElem hx
   have HT := Aside0.mk ht
   clear ht
   have p1 : (0 : Int) ≤ (i : Int) := by omega
   have p2 : (i : Int) < (b.size : Int) := by omega
   obtain ⟨h, hh⟩ : ∃ h, h = List.foldl crcStep 4294967295 ((u b).take i) := ⟨_, rfl⟩
   rw [← hh]
   have HH := Aside0.mk hh
   clear hh
   go_wp2_with fail
   go_loop [4, 6, 25] (fun v4 v6 v25 => ∃ (n : Nat), n ≤ 8 ∧ v25 = .int .i64 n ∧ v4 = .int .u32 (crcBits (Go.bits .xor .u32 h (IntKind.u32.wrap ((u b)[i].toNat : Int))) n)) (fun _ _ v25 => 8 - (intOf v25).toNat)
   case atStart => exact ⟨0, Nat.zero_le _, rfl, rfl⟩
   case round =>
    obtain ⟨n, hn, rfl, rfl⟩ := hrel
    obtain ⟨v, hv⟩ : ∃ v, v = crcBits (Go.bits .xor .u32 h (IntKind.u32.wrap ((u b)[i].toNat : Int))) n := ⟨_, rfl⟩
    rw [← hv]
    have HV := Aside0.mk hv
    clear hv
    by_cases h8 : n < 8
    ·by_cases hb1 : Go.bits .and .u32 v 1 = 1
     ·have hb2 : (Go.bits .and .u32 v 1 == 1) = true := beq_iff_eq.2 hb1
      go_wp2
      go_round
      case rel =>
       refine ⟨n + 1, by omega, by go_num, ?_⟩
       rw [crcBits, ← HV.out]
       unfold crcBit
       rw [if_pos hb1]
      case measure => simp [intOf]; omega
     ·have hb2 : (Go.bits .and .u32 v 1 == 1) = false := beq_eq_false_iff_ne.2 hb1
      go_wp2
      go_round
      case rel =>
       refine ⟨n + 1, by omega, by go_num, ?_⟩
       rw [crcBits, ← HV.out]
       unfold crcBit
       rw [if_neg hb1]
      case measure => simp [intOf]; omega
    ·have : n = 8 := by omega
     subst this
     go_wp2
     go_round
     case rel =>
      refine ⟨i + 1, by omega, by go_num, ?_⟩
      rw [HT.out, List.foldl_append, ← HH.out, HV.out]
      rfl
     case measure => simp [intOf]; omega
  ·have : i = b.size := by omega
   subst this
   go_wp2
   go_end0
   exact ⟨rfl, by rw [List.take_of_length_le (by rw [u_size]; omega)]; rfl⟩
theorem crc_now (B : Nat) (c : Int) (w : World) (hc : w.cell? ⟨B, 0, none⟩ = some (.int .u32 c)) : Calls Tryz.prog 204 #[.pointer (some ⟨B, 0, none⟩)] w fun e w' => e = .returned (.int .u32 c) ∧ w' = w := by
 go_enter Tryz.func204, Tryz.ntmps204
 go_wp2
 go_ret
 exact ⟨rfl, rfl⟩
theorem crc_calls (b : ByteArray) (hb : b.size ≤ 140737488351232) (w : World) : Calls Tryz.prog 163 #[.string b] w fun e w' => e = .returned (.int .u32 (crcR (u b))) ∧ Below w.heap.size w w' := by
 go_enter Tryz.func163, Tryz.ntmps163
 go_wp2_with fail
 refine (crc_add b hb _ _ ?_ ?_).mono ?_
 ·simp
 ·simp
 rintro e w' ⟨rfl, rfl⟩
 go_wp2_with fail
 refine (crc_now _ (crcR (u b)) _ (by simp)).mono ?_
 rintro e w' ⟨rfl, rfl⟩
 go_wp2
 go_ret
 exact ⟨rfl, (Below.refl _ _).alloc (Nat.le_refl _) _⟩
theorem u32_range (x : Int) : 0 ≤ IntKind.u32.wrap x ∧ IntKind.u32.wrap x < 4294967296 := by
 simp [IntKind.wrap, IntKind.bits, IntKind.signed]; omega
theorem crc_range (l : List UInt8) : 0 ≤ crcR l ∧ crcR l < 4294967296 := by
 unfold crcR Go.bits
 exact u32_range _
end Go.Proofs.YtepgkimlmoikmaaGreat
