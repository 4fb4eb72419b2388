/- ShY: a part of its proof (contracts of the functions that it reaches, and the plain mathematics behind them). -/
import Derived.Test.YtepgkimlmoikmaaGreatShY12
import Derived.Test.YtepgkimlmoikmaaGreatShY13
set_option linter.unusedVariables false
set_option linter.unusedSimpArgs false
set_option maxHeartbeats 2000000
set_option maxRecDepth 100000
set_option linter.unusedVariables false
set_option linter.unusedSimpArgs false
namespace Go.Proofs.YtepgkimlmoikmaaGreat
open Go.RowKit Go.Proofs.YtepgkimlmoikmaaGreat.Spec Go.Proofs.YtepgkimlmoikmaaGreatW.PrintWords Go.Proofs.YtepgkimlmoikmaaGreatW.PrintLast
open Go.Proofs.YtepgkimlmoikmaaGreatW.PrintMore
attribute [local go_sem] max2_int min2_int max_two min_two
theorem drawn_below {w w' : World} (h : Drawn0 w w') : Below w.heap.size w w' := h.below
theorem body_len {l : List ByteArray} (h : ∀ s ∈ l, s.size < 1000000) : (body l).length ≤ l.length * 1000005 := by
 induction l with
 | nil => simp [body]
 | cons s t ih =>
  have h1 := h s (List.mem_cons_self ..)
  have h2 := ih (fun x hx => h x (List.mem_cons_of_mem _ hx))
  have h3 := Bridge.num_len (n := s.size) (by omega)
  simp only [body, List.length_append, List.length_cons, u_size]
  omega
theorem bytes_any {w : World} {p : Value} {l : List ByteArray} (h : DictAt w p l) (hl : l.length ≤ 100) (hsz : ∀ s ∈ l, s.size < 1000000) : Calls Tryz.prog 202 #[p] w fun e w' => e = .returned (.string (str (Spec.bytes l))) ∧ Below w.heap.size w w' := by
 obtain ⟨ad, v, base, rfl, hc, hr⟩ := h.out
 have HR := Aside0.mk hr
 have HDA := Aside0.mk h
 clear hr h
 obtain ⟨A, c, rfl, hcap, hC⟩ := Kd.R_reads HR.out
 have HC := Aside0.mk hC
 clear hC hcap
 go_enter Tryz.func202, Tryz.ntmps202
 go_wp2_with (go_at_call 100; refine (vput_nat (n := l.length) (by omega) _).mono ?_; rintro e w1 ⟨rfl, hb⟩; have hc1 := pw_cell_below hb hc)
 have HB := Aside0.mk hb
 clear hb
 go_loopw [3, 25] (fun v3 v25 wr => ∃ (seen rest : List ByteArray), v3 = .string (str (num l.length ++ body seen)) ∧ v25 = .int .i64 seen.length ∧ Aside0 (l = seen ++ rest) ∧ Aside0 (Below w.heap.size w wr)) (fun _ v25 _ => l.length - (intOf v25).toNat)
 case atStart => exact ⟨[], l, by simp [body], rfl, ⟨rfl⟩, HB⟩
 case round =>
  obtain ⟨seen, rest, rfl, rfl, HL, HBw⟩ := hrel
  have hlen := congrArg List.length HL.out
  rw [List.length_append] at hlen
  cases rest with
  | cons x t =>
   rw [List.length_cons] at hlen
   have hi : seen.length < l.length := by omega
   clear hlen
   have hCw := Kd.C_below HC.out HBw.out
   obtain ⟨ad2, rfl, hx⟩ := Kd.at_string hCw (seen.length : Int) (by omega) (by omega)
   have hx2 : rdOf ByteArray.empty l (seen.length : Int) = x := by
    rw [Bridge.rdOf_get l _ hi]
    have := HL.out
    simp only [this, List.getElem_append_right (Nat.le_refl _), Nat.sub_self, List.getElem_cons_zero]
   rw [hx2, Int.toNat_natCast] at hx
   have hxs := hsz x (by rw [HL.out]; simp)
   clear hx2 hCw
   have p1 : (0 : Int) ≤ (seen.length : Int) := by omega
   have p2 : (seen.length : Int) < (l.length : Int) := by omega
   have hbl := body_len (l := seen) (fun s hs => hsz s (by rw [HL.out]; exact List.mem_append_left _ hs))
   have hn1 := Bridge.num_len (n := x.size) (by omega)
   have hn2 := Bridge.num_len (n := l.length) (by omega)
   have q1 : ¬ 9223372036854775807 < (str (num x.size)).size + x.size := by rw [str_size]; omega
   have q2 : ¬ 9223372036854775807 < (str (num l.length ++ body seen)).size + ((str (num x.size)).size + x.size) := by rw [str_size, str_size, List.length_append]; omega
   clear hbl hn1 hn2
   go_wp2_with (go_at_call 100; refine (vput_nat (n := x.size) (by omega) _).mono ?_; rintro e w2 ⟨rfl, hb⟩)
   go_roundw
   case rel =>
    refine ⟨seen ++ [x], t, ?_, by simp, ⟨by rw [List.append_assoc]; exact HL.out⟩, ⟨below_step HBw.out hb⟩⟩
    congr 1
    apply u_inj
    simp only [u_app, u_str, body_append, body, List.append_nil, List.append_assoc]
   case measure => simp [intOf]; omega
  | nil =>
   rw [List.length_nil] at hlen
   have hb0' : ¬ seen.length < l.length := by omega
   clear hlen
   go_wp2
   go_ret
   have hs : l = seen := by rw [HL.out, List.append_nil]
   exact ⟨by rw [hs]; rfl, HBw.out⟩
theorem u64_wrap_nat {n : Nat} (h : n < 18446744073709551616) : IntKind.u64.wrap (n : Int) = n := by
 have : (n : Int) % 18446744073709551616 = n := by omega
 simp [IntKind.wrap, IntKind.bits, IntKind.signed, this]
theorem xor_u64 (x y : Int) : Go.bits .xor .u64 x y = (((BitVec.ofInt 64 x) ^^^ (BitVec.ofInt 64 y)).toNat : Int) := by
 unfold Go.bits
 exact u64_wrap_nat (BitVec.isLt _)
theorem bits_xor_zero (f : Int) (h0 : 0 ≤ f) (h : f < 18446744073709551616) : Go.bits .xor .u64 0 f = f := by
 obtain ⟨n, rfl⟩ : ∃ n : Nat, f = n := ⟨f.toNat, by omega⟩
 rw [xor_u64, BitVec.ofInt_natCast]
 simp
 omega
theorem bits_xor_back (v f : Int) (h0 : 0 ≤ v) (h : v < 18446744073709551616) : Go.bits .xor .u64 (Go.bits .xor .u64 v f) f = v := by
 obtain ⟨n, rfl⟩ : ∃ n : Nat, v = n := ⟨v.toNat, by omega⟩
 rw [xor_u64 _ f, xor_u64 _ f, BitVec.ofInt_natCast, BitVec.ofInt_natCast]
 have e : BitVec.ofNat 64 ((BitVec.ofNat 64 n ^^^ BitVec.ofInt 64 f).toNat) = BitVec.ofNat 64 n ^^^ BitVec.ofInt 64 f := by rw [BitVec.ofNat_toNat]; exact BitVec.setWidth_eq _
 rw [e, BitVec.xor_assoc, BitVec.xor_self, BitVec.xor_zero]
 simp
 omega
theorem fnv_range (b : List UInt8) : ∀ h, 0 ≤ h → h < 18446744073709551616 → 0 ≤ b.foldl Bridge.fnvStep h ∧ b.foldl Bridge.fnvStep h < 18446744073709551616 := by
 induction b with
 | nil => intro h h0 h1; exact ⟨h0, h1⟩
 | cons c t ih =>
  intro h _ _
  refine ih _ ?_ ?_
  ·unfold Bridge.fnvStep; simp [IntKind.wrap, IntKind.bits, IntKind.signed]; omega
  ·unfold Bridge.fnvStep; simp [IntKind.wrap, IntKind.bits, IntKind.signed]; omega
theorem hash_add (b : ByteArray) (hb : b.size ≤ 140737488351232) (B : Nat) (c : Int) (w : World) (hc : w.cell? ⟨B, 0, none⟩ = some (.int .u64 c)) (hf : w.frozen? ⟨B, 0, none⟩ = false) :
  Calls Tryz.prog 225 #[.pointer (some ⟨B, 0, none⟩), .string b] w fun e w' => e = .returned (.tuple #[]) ∧ w' = w.setCell ⟨B, 0, none⟩ (.int .u64 (Go.bits .xor .u64 ((u b).foldl Bridge.fnvStep (Go.bits .xor .u64 c 14695981039346656037)) 14695981039346656037)) := by
 go_enter Tryz.func225, Tryz.ntmps225
 go_wp2
 go_loop [4, 15] (fun v4 v15 => ∃ (i : Nat), i ≤ b.size ∧ v15 = .int .i64 i ∧ v4 = .int .u64 (((u b).take i).foldl Bridge.fnvStep (Go.bits .xor .u64 c 14695981039346656037))) (fun _ v15 => b.size - (intOf v15).toNat)
 case atStart => exact ⟨0, by omega, rfl, by simp⟩
 case round =>
  obtain ⟨i, hi, rfl, rfl⟩ := hrel
  by_cases hlt : i < b.size
  ·have hx : i < (u b).length := by rw [u_size]; exact hlt
   have ht : (u b).take (i + 1) = (u b).take i ++ [(u b)[i]] := List.take_succ_eq_append_getElem hx
   have HT := Aside0.mk ht
   clear ht
   have hbt := Bridge.bt_u b i hx
   have p1 : (0 : Int) ≤ (i : Int) := by omega
   have p2 : (i : Int) < (b.size : Int) := by omega
   obtain ⟨h, hh⟩ : ∃ h, h = List.foldl Bridge.fnvStep (Go.bits .xor .u64 c 14695981039346656037) ((u b).take i) := ⟨_, rfl⟩
   rw [← hh]
   have HH := Aside0.mk hh
   clear hh hbt
   go_wp2
   go_round
   case rel =>
    refine ⟨i + 1, by omega, by go_num, ?_⟩
    rw [HT.out, List.foldl_append, ← HH.out]
    rfl
   case measure => simp [intOf]; omega
  ·have : i = b.size := by omega
   subst this
   go_wp2
   go_end0
   exact ⟨rfl, by rw [List.take_of_length_le (by rw [u_size]; omega)]⟩
theorem hash_now (B : Nat) (c : Int) (w : World) (hc : w.cell? ⟨B, 0, none⟩ = some (.int .u64 c)) : Calls Tryz.prog 226 #[.pointer (some ⟨B, 0, none⟩)] w fun e w' => e = .returned (.int .u64 (Go.bits .xor .u64 c 14695981039346656037)) ∧ w' = w := by
 go_enter Tryz.func226, Tryz.ntmps226
 go_wp2
 go_ret
 exact ⟨rfl, rfl⟩
theorem fnv_eq (b : List UInt8) : Go.bits .xor .u64 (Go.bits .xor .u64 (b.foldl Bridge.fnvStep (Go.bits .xor .u64 0 14695981039346656037)) 14695981039346656037) 14695981039346656037 = Bridge.fnv b := by
 rw [bits_xor_zero _ (by decide) (by decide)]
 have := fnv_range b 14695981039346656037 (by decide) (by decide)
 exact bits_xor_back _ _ this.1 this.2
theorem fnvOf_any (b : ByteArray) (hb : b.size ≤ 140737488351232) (w : World) : Calls Tryz.prog 201 #[.string b] w fun e w' => e = .returned (.int .u64 (Bridge.fnv (u b))) ∧ Below w.heap.size w w' := by
 have HE := Aside0.mk (fnv_eq (u b))
 go_enter Tryz.func201, Tryz.ntmps201
 go_wp2_with fail
 refine (hash_add b hb _ 0 _ ?_ ?_).mono ?_
 ·simp
 ·simp
 rintro e w' ⟨rfl, rfl⟩
 go_wp2_with fail
 refine (hash_now _ (Go.bits .xor .u64 ((u b).foldl Bridge.fnvStep (Go.bits .xor .u64 0 14695981039346656037)) 14695981039346656037) _ (by simp)).mono ?_
 rintro e w' ⟨rfl, rfl⟩
 go_wp2
 go_ret
 exact ⟨by first | exact congrArg (fun x => Ending.returned (.int .u64 x)) HE.out | rw [HE.out], (Below.refl _ _).alloc (Nat.le_refl _) _⟩
theorem id_any {w : World} {p : Value} {l : List ByteArray} (h : DictAt w p l) (hl : l.length ≤ 100) (hsz : ∀ s ∈ l, s.size < 1000000) : Calls Tryz.prog 162 #[p] w fun e w' => e = .returned (.int .u64 (Bridge.fnv (Spec.bytes l))) ∧ Below w.heap.size w w' := by
 have hbl := body_len hsz
 have hn := Bridge.num_len (n := l.length) (by omega)
 have hs : (str (Spec.bytes l)).size ≤ 140737488351232 := by rw [str_size]; unfold Spec.bytes; rw [List.length_append]; omega
 clear hbl hn
 have H := Aside0.mk h
 obtain ⟨ad, v, base, rfl, hc, hr⟩ := h.out
 clear hc hr h
 go_enter Tryz.func162, Tryz.ntmps162
 go_wp2_with (first | (go_at_call 202; refine (bytes_any H.out hl hsz).mono ?_; rintro e w1 ⟨rfl, hb1⟩) | (go_at_call 201; refine (fnvOf_any _ hs _).mono ?_; rintro e w2 ⟨rfl, hb2⟩))
 go_ret
 exact ⟨by first | rfl | rw [u_str], below_step hb1 hb2⟩
end Go.Proofs.YtepgkimlmoikmaaGreat
set_option linter.unusedVariables false
set_option linter.unusedSimpArgs false
namespace Go.Proofs.YtepgkimlmoikmaaGreat
open Go.RowKit Go.Proofs.YtepgkimlmoikmaaGreat.Spec Go.Proofs.YtepgkimlmoikmaaGreatW.PrintWords Go.Proofs.YtepgkimlmoikmaaGreatW.PrintLast
open Go.Proofs.YtepgkimlmoikmaaGreatW.PrintMore
theorem eqFault (d : Nat) (w : World) (x0 y0 : Int) (x1 y1 : Int) :
  (Op.equalIn (d + 2) 152 (.agg #[.int .i64 x0, .int .i64 x1]) (.agg #[.int .i64 y0, .int .i64 y1])).run Tryz.prog w = .ok (x0 == y0 && (x1 == y1)) w := by
 refine eqA_of Tryz.underlying152 (by kernel_rfl) ?_
 refine eqf_cons (by rfl) (by go_simp; rfl) (by go_simp; rfl) (by go_simp) ?_
 exact eqf_last (by rfl) (by go_simp; rfl) (by go_simp; rfl) (by go_simp)
theorem run_eql_fault (x0 y0 x1 y1 : Int) (w : World) : (binOp .eql 152 (.agg #[.int .i64 x0, .int .i64 x1]) (.agg #[.int .i64 y0, .int .i64 y1])).run Tryz.prog w = .ok (.bool (x0 == y0 && (x1 == y1))) w := by
 simp only [binOp]
 simp [Op.equal, Op.maxDepth, eqFault 9998]
def toldB (c a code at_ : Int) : Bool := if code = 0 then c == 0 else (c != 0) && (c == code && a == at_)
theorem new_yes {A : Option Addr} {c : Nat} (l : List ByteArray) (w : World) (hr : StrsIn w A l) (hc : l.length ≤ c) (hsz : ∀ s ∈ l, s.size ≤ 140737488351232) (h : (phrases l).1 = 0) : Calls Tryz.prog 123 #[.slice A l.length c] w fun e w' => ∃ ad, e = .returned (.tuple #[.pointer (some ad), .nilIface]) ∧ DictAt w' (.pointer (some ad)) l ∧ Below w.heap.size w w' := by
 refine (new_calls l w hr hc hsz).mono ?_
 rintro e w' ⟨hb, h1 | h1⟩
 ·obtain ⟨_, p, rfl, hd⟩ := h1
  obtain ⟨ad, v, base, rfl, hq⟩ := hd.out
  exact ⟨ad, rfl, hd, hb⟩
 ·exact absurd h h1.1
theorem make_yes {A : Option Addr} {c : Nat} (l : List ByteArray) (w : World) (hr : StrsIn w A l) (hc : l.length ≤ c) (hsz : ∀ s ∈ l, s.size ≤ 140737488351232) (h : (phrases l).1 = 0) : Calls Tryz.prog 67 #[.slice A l.length c] w fun e w' => ∃ ad, e = .returned (.pointer (some ad)) ∧ DictAt w' (.pointer (some ad)) l ∧ Below w.heap.size w w' := by
 have HC := Aside0.mk hc
 have HR := Aside0.mk hr
 have H := Aside0.mk h
 clear hr h hc
 go_enter Tryz.func67, Tryz.ntmps67
 go_wp2_with (go_at_call 123; refine (new_yes l _ HR.out HC.out hsz H.out).mono ?_; rintro e w' ⟨ad, rfl, hd, hb⟩)
 go_ret
 exact ⟨ad, rfl, hd, hb⟩
theorem strs_lit (w : World) (l : List ByteArray) (hm : l.length ≤ 1000) : StrsIn (w.alloc (.cells (l.map Value.string).toArray 9)) (some ⟨w.heap.size, 0, none⟩) l :=
 (Kd.R_reads' (Kd.R_of_own (h1 := fun _ => rfl) (ok := fun _ => True) (own_lit_of (enc := Value.string) w 0 9 l (Nat.zero_le _) (by omega)) (fun _ _ => trivial))).2.2
def la : List ByteArray := [⟨#[97, 98]⟩, ⟨#[99]⟩]
def lb : List ByteArray := [⟨#[97]⟩, ⟨#[97]⟩]
end Go.Proofs.YtepgkimlmoikmaaGreat
set_option linter.unusedVariables false
set_option linter.unusedSimpArgs false
namespace Go.Proofs.YtepgkimlmoikmaaGreat
open Go.RowKit Go.Proofs.YtepgkimlmoikmaaGreat.Spec Go.Proofs.YtepgkimlmoikmaaGreatW.PrintWords Go.Proofs.YtepgkimlmoikmaaGreatW.PrintLast
attribute [local go_sem ↓] Go.wp_at_zero Go.wp_at_succ
namespace Spec
def word (l : List ByteArray) (t : Int) : ByteArray := if t < 0 then ⟨#[]⟩ else if t < 256 then ⟨#[UInt8.ofNat t.toNat]⟩ else l.getD (t.toNat - 256) ⟨#[]⟩
def Tok (l : List ByteArray) (t : Int) : Prop := 0 ≤ t ∧ t < 256 + (l.length : Int)
instance (l : List ByteArray) (t : Int) : Decidable (Tok l t) := by unfold Tok; infer_instance
theorem word_low {l : List ByteArray} {t : Int} (h0 : 0 ≤ t) (h : t < 256) : word l t = ⟨#[UInt8.ofNat t.toNat]⟩ := by unfold word; rw [if_neg (by omega), if_pos h]
theorem word_neg {l : List ByteArray} {t : Int} (h : t < 0) : word l t = ⟨#[]⟩ := by unfold word; rw [if_pos h]
theorem word_high {l : List ByteArray} {t : Int} (h : ¬ t < 256) : word l t = l.getD (t.toNat - 256) ⟨#[]⟩ := by unfold word; rw [if_neg (by omega), if_neg h]
theorem word_out {l : List ByteArray} {t : Int} (h : ¬ Tok l t) : word l t = ⟨#[]⟩ := by
 unfold Tok at h
 by_cases h0 : t < 0
 ·exact word_neg h0
 ·rw [word_high (by omega), List.getD_eq_getElem?_getD, List.getElem?_eq_none (by omega)]; rfl
theorem word_size {l : List ByteArray} (hl : ∀ s ∈ l, 1 ≤ s.size ∧ s.size ≤ 40) {t : Int} (h : Tok l t) : 1 ≤ (word l t).size ∧ (word l t).size ≤ 40 := by
 unfold Tok at h
 by_cases h1 : t < 256
 ·rw [word_low h.1 h1]; exact ⟨Nat.le_refl 1, by show 1 ≤ 40; omega⟩
 ·rw [word_high h1, List.getD_eq_getElem?_getD, List.getElem?_eq_getElem (by omega)]
  exact hl _ (List.getElem_mem _)
def cat (l : List ByteArray) : List Int → ByteArray
 | [] => ⟨#[]⟩
 | t :: r => word l t ++ cat l r
theorem ba_append_nil (a : ByteArray) : a ++ (⟨#[]⟩ : ByteArray) = a := by apply u_inj; simp [u]
theorem ba_nil_append (a : ByteArray) : (⟨#[]⟩ : ByteArray) ++ a = a := by apply u_inj; simp [u]
theorem ba_assoc (a b c : ByteArray) : a ++ b ++ c = a ++ (b ++ c) := by apply u_inj; simp [u]
theorem cat_append (l : List ByteArray) (a b : List Int) : cat l (a ++ b) = cat l a ++ cat l b := by
 induction a with
 | nil => rw [List.nil_append, cat, ba_nil_append]
 | cons t r ih => rw [List.cons_append, cat, cat, ih, ba_assoc]
def nums2 : List Int → List UInt8
 | [] => []
 | t :: r => num t.toNat ++ nums2 r
theorem nums2_append (a b : List Int) : nums2 (a ++ b) = nums2 a ++ nums2 b := by
 induction a with
 | nil => rfl
 | cons t r ih => rw [List.cons_append, nums2, nums2, ih, List.append_assoc]
end Spec
namespace Bridge
open Leaf
end Bridge
theorem textd_any {w : World} {p : Value} {l : List ByteArray} (h : DictAt w p l) (t : Int) (h0 : -9223372036854775808 ≤ t) (h1 : t ≤ 9223372036854775807) : Calls Tryz.prog 185 #[p, .int .i64 t] w fun e w' => e = .returned (.string (word l t)) ∧ Below w.heap.size w w' := by
 have H := Aside0.mk h
 obtain ⟨ad, v, base, rfl, _, _⟩ := h.out
 clear h
 by_cases hneg : t < 0
 ·have d1 : decide (t < 0) = true := decide_eq_true hneg
  have HW := Aside0.mk (word_neg (l := l) hneg)
  clear hneg
  go_enter Tryz.func185, Tryz.ntmps185
  go_wp2
  go_ret
  rw [HW.out]
  exact ⟨rfl, Below.refl _ _⟩
 ·have d1 : decide (t < 0) = false := decide_eq_false hneg
  by_cases hlow : t < 256
  ·have d2 : decide (t < 256) = true := decide_eq_true hlow
   have HW := Aside0.mk (word_low (l := l) (by omega) hlow)
   have HT := Aside0.mk (show 0 ≤ t ∧ t < 256 by omega)
   have hw8 : IntKind.u8.wrap t = t := by rw [IntKind.wrap_u8]; omega
   have hcv := own_string (P := Tryz.prog) (src := 55) (dst := 9) (e := 5) Tryz.underlying55 Tryz.underlying5 Tryz.underlying9 (own_lit w w.heap.size 5 .u8 [t] (Nat.le_refl _) (by simp))
   simp only [nums, List.map_cons, List.map_nil, List.length_cons, List.length_nil, Nat.zero_add] at hcv
   clear hneg hlow
   go_enter Tryz.func185, Tryz.ntmps185
   go_wp2
   go_ret
   rw [HW.out]
   exact ⟨rfl, (Below.refl _ _).alloc (Nat.le_refl _) _⟩
  ·have d2 : decide (t < 256) = false := decide_eq_false hlow
   have HW := Aside0.mk (word_high (l := l) hlow)
   have HT := Aside0.mk (show 256 ≤ t by omega)
   have hw : wrap64 (t - 256) = t - 256 := Bridge.wr (by omega) (by omega)
   clear hneg hlow
   by_cases hin : t - 256 < l.length
   ·have HIN := Aside0.mk hin
    clear hin
    go_enter Tryz.func185, Tryz.ntmps185
    go_wp2_with fail
    refine (at_in H.out (t - 256) (by have := HT.out; omega) HIN.out).mono ?_
    rintro e w' ⟨rfl, rfl⟩
    go_wp2
    go_ret
    rw [HW.out, show t.toNat - 256 = (t - 256).toNat by have := HT.out; omega]
    exact ⟨rfl, Below.refl _ _⟩
   ·have HIN := Aside0.mk (show (l.length : Int) ≤ t - 256 by omega)
    clear hin
    go_enter Tryz.func185, Tryz.ntmps185
    go_wp2_with fail
    refine (at_out H.out (t - 256) (fun hh => by have := HIN.out; omega)).mono ?_
    rintro e w' ⟨rfl, rfl⟩
    go_wp2
    go_ret
    rw [HW.out, List.getD_eq_getElem?_getD, List.getElem?_eq_none (by have := HT.out; have := HIN.out; omega)]
    exact ⟨rfl, Below.refl _ _⟩
structure DictN (w : World) (p : Value) (l : List ByteArray) : Prop where mk :: (out : DictAt w p l ∨ p = .pointer none ∧ l = [])
theorem DictN.below {w w' : World} {p : Value} {l : List ByteArray} (h : DictN w p l) (hb : Below w.heap.size w w') : DictN w' p l := ⟨h.out.imp (fun h => h.below hb) id⟩
theorem DictN.of {w : World} {p : Value} {l : List ByteArray} (h : DictAt w p l) : DictN w p l := ⟨.inl h⟩
theorem DictN.nil (w : World) : DictN w (.pointer none) [] := ⟨.inr ⟨rfl, rfl⟩⟩
theorem alln_any {w : World} {p : Value} {l : List ByteArray} (h : DictN w p l) (hl : l.length * 16 ≤ 140737488355328) : Calls Tryz.prog 169 #[p] w fun e w' => ∃ v', e = .returned v' ∧ StrsAt w' w.heap.size v' l ∧ Below w.heap.size w w' := by
 rcases h.out with h | ⟨rfl, rfl⟩
 ·exact all_any h hl
 ·refine (all_nil w).mono ?_
  rintro e w' ⟨rfl, rfl⟩
  exact ⟨_, rfl, Kd.R_nil _ _ _ _ _, Below.refl _ _⟩
theorem textn_nil {w : World} (t : Int) (h0 : -9223372036854775808 ≤ t) (h1 : t ≤ 9223372036854775807) : Calls Tryz.prog 185 #[.pointer none, .int .i64 t] w fun e w' => e = .returned (.string (word [] t)) ∧ Below w.heap.size w w' := by
 by_cases hneg : t < 0
 ·have d1 : decide (t < 0) = true := decide_eq_true hneg
  have HW := Aside0.mk (word_neg (l := []) hneg)
  clear hneg
  go_enter Tryz.func185, Tryz.ntmps185
  go_wp2
  go_ret
  rw [HW.out]
  exact ⟨rfl, Below.refl _ _⟩
 ·have d1 : decide (t < 0) = false := decide_eq_false hneg
  by_cases hlow : t < 256
  ·have d2 : decide (t < 256) = true := decide_eq_true hlow
   have HW := Aside0.mk (word_low (l := []) (by omega) hlow)
   have HT := Aside0.mk (show 0 ≤ t ∧ t < 256 by omega)
   have hw8 : IntKind.u8.wrap t = t := by rw [IntKind.wrap_u8]; omega
   have hcv := own_string (P := Tryz.prog) (src := 55) (dst := 9) (e := 5) Tryz.underlying55 Tryz.underlying5 Tryz.underlying9 (own_lit w w.heap.size 5 .u8 [t] (Nat.le_refl _) (by simp))
   simp only [nums, List.map_cons, List.map_nil, List.length_cons, List.length_nil, Nat.zero_add] at hcv
   clear hneg hlow
   go_enter Tryz.func185, Tryz.ntmps185
   go_wp2
   go_ret
   rw [HW.out]
   exact ⟨rfl, (Below.refl _ _).alloc (Nat.le_refl _) _⟩
  ·have d2 : decide (t < 256) = false := decide_eq_false hlow
   have HW := Aside0.mk (show word [] t = ⟨#[]⟩ by rw [word_high (l := []) hlow]; rfl)
   have hw : wrap64 (t - 256) = t - 256 := Bridge.wr (by omega) (by omega)
   clear hneg hlow
   go_enter Tryz.func185, Tryz.ntmps185
   go_wp2_with fail
   refine (at_nil _ _).mono ?_
   rintro e w' ⟨rfl, rfl⟩
   go_wp2
   go_ret
   rw [HW.out]
   exact ⟨rfl, Below.refl _ _⟩
theorem text_any {w : World} {p : Value} {l : List ByteArray} (h : DictN w p l) (t : Int) (h0 : -9223372036854775808 ≤ t) (h1 : t ≤ 9223372036854775807) : Calls Tryz.prog 185 #[p, .int .i64 t] w fun e w' => e = .returned (.string (word l t)) ∧ Below w.heap.size w w' := by
 rcases h.out with h | ⟨rfl, rfl⟩
 ·exact textd_any h t h0 h1
 ·exact textn_nil t h0 h1
end Go.Proofs.YtepgkimlmoikmaaGreat
set_option linter.unusedVariables false
set_option linter.unusedSimpArgs false
namespace Go.Proofs.YtepgkimlmoikmaaGreat
open Go.RowKit Go.Proofs.YtepgkimlmoikmaaGreat.Spec Go.Proofs.YtepgkimlmoikmaaGreatW.PrintWords Go.Proofs.YtepgkimlmoikmaaGreatW.PrintLast
open Go.Proofs.YtepgkimlmoikmaaGreatW.PrintMore
attribute [local go_sem ↓] Go.wp_at_zero Go.wp_at_succ
attribute [local go_sem] max2_int min2_int max_two min_two
abbrev IntsIn (w : World) (A : Option Addr) (l : List Int) : Prop := (Kd.int .i64).C w A l.length l
def In64 (t : Int) : Prop := -9223372036854775808 ≤ t ∧ t ≤ 9223372036854775807
theorem step1 (i : Nat) (h : i ≤ 1000000000) : wrap64 ((i : Int) + 1) = ((i + 1 : Nat) : Int) := by rw [Bridge.wr (by omega) (by omega)]; omega
theorem meas (n i : Nat) (h : i < n) (hn : i ≤ 1000000000) : n - (intOf (.int .i64 (wrap64 ((i : Int) + 1)))).toNat < n - (intOf (.int .i64 (i : Int))).toNat := by
 rw [step1 i hn]
 show n - (i + 1) < n - i
 omega
theorem right_any {w : World} {p : Value} {l : List ByteArray} (h : DictN w p l) (hl : ∀ s ∈ l, 1 ≤ s.size ∧ s.size ≤ 40) (t : Int) (ht : In64 t) : Calls Tryz.prog 98 #[p, .int .i64 t] w fun e w' => e = .returned (.bool (decide (Tok l t))) ∧ Below w.heap.size w w' := by
 have H := Aside0.mk h
 have HT := Aside0.mk ht
 have hd : decide (0 < ((word l t).size : Int)) = decide (Tok l t) := by
  rw [decide_eq_decide]
  by_cases g : Tok l t
  ·have := (word_size hl g).1
   exact ⟨fun _ => g, fun _ => by omega⟩
  ·rw [word_out g]; exact ⟨fun h => absurd h (by decide), fun h => absurd h g⟩
 have HD := Aside0.mk (show decide (0 < (word l t).size) = decide (Tok l t) by rw [← hd, decide_eq_decide]; omega)
 clear h ht
 have hlen : Calls Tryz.prog 146 #[p, .int .i64 t] w fun e w' => e = .returned (.int .i64 ((word l t).size : Int)) ∧ Below w.heap.size w w' := by
  clear hd
  go_enter Tryz.func146, Tryz.ntmps146
  go_wp2_with (go_at_call 185; refine (text_any H.out t HT.out.1 HT.out.2).mono ?_; rintro e w' ⟨rfl, hb⟩)
  go_ret
  exact ⟨rfl, hb⟩
 have HLEN := Aside0.mk hlen
 clear hlen
 go_enter Tryz.func98, Tryz.ntmps98
 go_wp2_with (go_at_call 146; refine HLEN.out.mono ?_; rintro e w' ⟨rfl, hb⟩)
 go_ret
 rw [← HD.out]
 exact ⟨rfl, hb⟩
theorem coded_zero (w : World) : Calls Tryz.prog 75 #[.int .i64 0] w fun e w' => e = .returned (.bool true) ∧ Below w.heap.size w w' := by
 go_enter Tryz.func75, Tryz.ntmps75
 go_wp2
 go_ret
 exact ⟨rfl, Below.refl _ _⟩
theorem num_size {n : Nat} (h : n < 4294967296) : (num n).length ≤ 5 := Bridge.num_len h
theorem nums2_size {l : List ByteArray} (hl : l.length ≤ 1000) (toks : List Int) (h : ∀ t ∈ toks, Tok l t) : (nums2 toks).length ≤ 5 * toks.length := by
 induction toks with
 | nil => exact Nat.le_refl 0
 | cons t r ih =>
  have h1 := h t (List.mem_cons_self ..)
  have h2 := ih fun q hq => h q (List.mem_cons_of_mem _ hq)
  unfold Tok at h1
  have h3 := num_size (n := t.toNat) (by omega)
  rw [nums2, List.length_append, List.length_cons]
  omega
theorem str_append (a b : List UInt8) : str a ++ str b = str (a ++ b) := by apply u_inj; rw [u_str]; simp [u, str]
theorem take_succ {l : List Int} {i : Nat} {t : Int} (h : l[i]? = some t) : l.take (i + 1) = l.take i ++ [t] := by rw [List.take_add_one, h]; rfl
theorem lay_nums {A : Option Addr} {c : Nat} {p : Value} {l : List ByteArray} (toks : List Int) {w : World} (hd : DictN w p l) (hl : l.length ≤ 1000) (hs : ∀ s ∈ l, 1 ≤ s.size ∧ s.size ≤ 40) (hr : IntsIn w A toks) (hc : toks.length ≤ c) (hn : toks.length ≤ 1000) (h0 : toks ≠ []) (ht : ∀ t ∈ toks, Tok l t) :
  Calls Tryz.prog 32 #[p, .int .i64 0, .slice A toks.length c] w fun e w' => e = .returned (.tuple #[.string (str (nums2 toks)), .int .i64 0]) ∧ Below w.heap.size w w' := by
 have HD := Aside0.mk hd
 have HR := Aside0.mk hr
 have HC := Aside0.mk hc
 have HN := Aside0.mk hn
 have HL := Aside0.mk hl
 have HS := Aside0.mk hs
 have HT := Aside0.mk ht
 have hpos : 0 < toks.length := List.length_pos_iff.2 h0
 have e0 : ((toks.length : Int) == (0 : Int)) = false := beq_eq_false_iff_ne.2 (by omega)
 have e0' : (toks.length == 0) = false := beq_eq_false_iff_ne.2 (by omega)
 have e0n : ¬ toks = [] := h0
 clear hd hr hc hn hl hs ht hpos h0
 go_enter Tryz.func32, Tryz.ntmps32
 go_wp2_with (go_at_call 75; refine (coded_zero _).mono ?_; rintro e w1 ⟨rfl, hb1⟩; have H1 := Aside0.mk hb1; clear hb1)
 go_loopw [25] (fun v25 wr => ∃ i : Nat, v25 = .int .i64 i ∧ Aside0 (i ≤ toks.length) ∧ Aside0 (Below w.heap.size w wr)) (fun v25 _ => toks.length - (intOf v25).toNat)
 case atStart => exact ⟨0, rfl, ⟨Nat.zero_le _⟩, H1⟩
 case round =>
  obtain ⟨i, rfl, HI, HB⟩ := hrel
  have hi := HI.out
  have hn := HN.out
  by_cases hlt : i < toks.length
  ·have d0 : decide ((i : Int) < (toks.length : Int)) = true := decide_eq_true (by omega)
   have d0' : decide (i < toks.length) = true := decide_eq_true hlt
   have p1 : (0 : Int) ≤ (i : Int) := by omega
   have p2 : (i : Int) < (toks.length : Int) := by omega
   have HLT := Aside0.mk hlt
   obtain ⟨t, hget⟩ : ∃ t, toks[i]? = some t := ⟨_, List.getElem?_eq_getElem hlt⟩
   obtain ⟨ad2, e2, hcell⟩ := Kd.at_int (Kd.C_below HR.out HB.out) (i : Int) p1 p2
   have hrd : rd toks (i : Int) = t := by unfold rd; rw [Int.toNat_natCast, List.getD_eq_getElem?_getD, hget]; rfl
   rw [hrd, Int.toNat_natCast] at hcell
   subst e2
   have HTK := Aside0.mk (HT.out t (List.mem_of_getElem? hget))
   have HDT := Aside0.mk (decide_eq_true HTK.out)
   have HIN : Aside0 (In64 t) := ⟨by have h := HTK.out; have := HL.out; unfold Tok at h; unfold In64; omega⟩
   clear hi hn hlt hget hrd
   go_wp2_with (go_at_call 98; refine (right_any (HD.out.below HB.out) HS.out t HIN.out).mono ?_; rw [HDT.out]; rintro e w2 ⟨rfl, hb2⟩; have HB2 := Aside0.mk (below_step HB.out hb2); clear hb2)
   go_roundw
   case rel =>
    have h1 := HLT.out
    have h2 := HN.out
    exact ⟨i + 1, by rw [step1 i (by omega)], ⟨by omega⟩, HB2⟩
   case measure => have h1 := HLT.out; have h2 := HN.out; exact meas _ i h1 (by omega)
  ·have d0 : decide ((i : Int) < (toks.length : Int)) = false := decide_eq_false (by omega)
   have d0' : decide (i < toks.length) = false := decide_eq_false hlt
   clear hi hn hlt
   go_wp2
   go_loopw [10, 41] (fun v10 v41 wr => ∃ i : Nat, v41 = .int .i64 i ∧ v10 = .string (str (nums2 (toks.take i))) ∧ Aside0 (i ≤ toks.length) ∧ Aside0 (Below w.heap.size w wr)) (fun _ v41 _ => toks.length - (intOf v41).toNat)
   case atStart => exact ⟨0, rfl, rfl, ⟨Nat.zero_le _⟩, HB⟩
   case round =>
    obtain ⟨i, rfl, rfl, HI2, HB2⟩ := hrel
    have hi := HI2.out
    have hn := HN.out
    by_cases hlt : i < toks.length
    ·have d1 : decide ((i : Int) < (toks.length : Int)) = true := decide_eq_true (by omega)
     have d1' : decide (i < toks.length) = true := decide_eq_true hlt
     have p1 : (0 : Int) ≤ (i : Int) := by omega
     have p2 : (i : Int) < (toks.length : Int) := by omega
     have HLT := Aside0.mk hlt
     obtain ⟨t, hget⟩ : ∃ t, toks[i]? = some t := ⟨_, List.getElem?_eq_getElem hlt⟩
     obtain ⟨ad2, e2, hcell⟩ := Kd.at_int (Kd.C_below HR.out HB2.out) (i : Int) p1 p2
     have hrd : rd toks (i : Int) = t := by unfold rd; rw [Int.toNat_natCast, List.getD_eq_getElem?_getD, hget]; rfl
     rw [hrd, Int.toNat_natCast] at hcell
     subst e2
     have htk := HT.out t (List.mem_of_getElem? hget)
     have hll := HL.out
     unfold Tok at htk
     obtain ⟨m, rfl⟩ : ∃ m : Nat, t = m := ⟨t.toNat, by omega⟩
     have HMB := Aside0.mk (show m < 4294967296 by omega)
     have hz := nums2_size HL.out (toks.take i) (fun q hq => HT.out q (List.mem_of_mem_take hq))
     have hz2 := num_size (n := m) (by omega)
     rw [List.length_take] at hz
     have q1 : ¬ 9223372036854775807 < (str (nums2 (toks.take i))).size + (str (num m)).size := by rw [← u_size, ← u_size, u_str, u_str]; omega
     have HTS := Aside0.mk (show nums2 (toks.take (i + 1)) = nums2 (toks.take i) ++ num m by rw [take_succ hget, nums2_append]; simp [nums2])
     clear hi hn hlt hget hrd htk hll hz hz2
     go_wp2_with (go_at_call 100; refine (vput_nat HMB.out _).mono ?_; rintro e w2 ⟨rfl, hb2⟩; have HB3 := Aside0.mk (below_step HB2.out hb2); clear hb2)
     go_roundw
     case rel =>
      have h1 := HLT.out
      have h2 := HN.out
      exact ⟨i + 1, by rw [step1 i (by omega)], by rw [HTS.out, str_append], ⟨by omega⟩, HB3⟩
     case measure => have h1 := HLT.out; have h2 := HN.out; exact meas _ i h1 (by omega)
    ·have d1 : decide ((i : Int) < (toks.length : Int)) = false := decide_eq_false (by omega)
     have d1' : decide (i < toks.length) = false := decide_eq_false hlt
     have HE := Aside0.mk (show toks.take i = toks from List.take_of_length_le (by omega))
     clear hi hn hlt
     go_wp2
     go_ret2
     rw [HE.out]
     exact ⟨rfl, HB2.out⟩
end Go.Proofs.YtepgkimlmoikmaaGreat
set_option linter.unusedVariables false
set_option linter.unusedSimpArgs false
namespace Go.Proofs.YtepgkimlmoikmaaGreat
open Go.RowKit Go.Proofs.YtepgkimlmoikmaaGreat.Spec Go.Proofs.YtepgkimlmoikmaaGreatW.PrintWords Go.Proofs.YtepgkimlmoikmaaGreatW.PrintLast
open Go.Proofs.YtepgkimlmoikmaaGreatW.PrintMore
attribute [local go_sem ↓] Go.wp_at_zero Go.wp_at_succ
attribute [local go_sem] max2_int min2_int max_two min_two
theorem of_one {A2 : Option Addr} {c2 : Nat} {p : Value} {l : List ByteArray} (most t : Int) {w : World} (hd : DictN w p l) (hs : ∀ s ∈ l, 1 ≤ s.size ∧ s.size ≤ 40) (hl : l.length ≤ 1000) (hr : IntsIn w A2 [t]) (hc : 1 ≤ c2) (ht : Tok l t) (hm : ((word l t).size : Int) ≤ most) (hM : most ≤ 100000) :
  Calls Tryz.prog 144 #[p, .int .i64 most, .slice A2 1 c2] w fun e w' => e = .returned (.tuple #[.string (word l t), .int .i64 0]) ∧ Below w.heap.size w w' := by
 have HD := Aside0.mk hd
 have HR := Aside0.mk hr
 have hw := word_size hs ht
 have HIN : Aside0 (In64 t) := ⟨by unfold Tok at ht; unfold In64; omega⟩
 have HZ := Aside0.mk (show 1 ≤ (word l t).size ∧ (word l t).size ≤ 40 ∧ ((word l t).size : Int) ≤ most ∧ most ≤ 100000 from ⟨hw.1, hw.2, hm, hM⟩)
 have HE : Aside0 ((word l t).toList = [] → False) := ⟨by intro h; rw [Lib.toList_data] at h; have h2 := congrArg List.length h; have h3 : (word l t).data.toList.length = (word l t).size := u_size (word l t); have h4 := hw.1; rw [h3] at h2; rw [List.length_nil] at h2; omega⟩
 have HX : Aside0 (strOfNums (bytesOf (word l t)) = word l t) := ⟨by
  apply u_inj
  show ((bytesOf (word l t)).map fun n => UInt8.ofNat n.toNat) = (word l t).data.toList
  unfold bytesOf
  rw [List.map_map]
  exact (List.map_congr_left fun b _ => by simp).trans (List.map_id _)⟩
 clear hd hs hl hr ht hm hM hw
 go_enter Tryz.func144, Tryz.ntmps144
 go_wp2_with fail
 go_loopw [8, 14] (fun v8 v14 wr => Aside0 (Below w.heap.size w wr) ∧ ((v14 = .int .i64 0 ∧ v8 = .slice none 0 0) ∨ (v14 = .int .i64 1 ∧ ∃ A c, v8 = .slice A (bytesOf (word l t)).length c ∧ Aside0 (wr.ownsRow w.heap.size 5 1 v8 (bytesOf (word l t)).length (nums .u8 (bytesOf (word l t))))))) (fun _ v14 _ => 1 - (intOf v14).toNat)
 case atStart => exact ⟨⟨by repeat (first | exact Below.refl _ _ | apply below_alloc | apply below_drew)⟩, .inl ⟨rfl, rfl⟩⟩
 case round =>
  obtain ⟨HB, ⟨rfl, rfl⟩ | ⟨rfl, A, c, rfl, HO⟩⟩ := hrel
  ·obtain ⟨ad2, e2, hcell⟩ := Kd.at_int (Kd.C_below HR.out HB.out) 0 (by decide) (show (0 : Int) < 1 by decide)
   have hrd : rd [t] (0 : Int) = t := rfl
   rw [hrd] at hcell
   have hcell' : wr.cell? ad2 = some (.int .i64 t) := hcell
   clear hcell
   subst e2
   have hz := HZ.out
   have n1 : ¬ (word l t).toList = [] := fun h => HE.out h
   have n2 : (word l t).toList.isEmpty = false := by rw [Bool.eq_false_iff]; intro h; exact n1 (List.isEmpty_iff.1 h)
   have n3 : ¬ most < 0 := by omega
   have n4 : decide (most < ((word l t).size : Int)) = false := decide_eq_false (by omega)
   have n5 : ¬ most < ((word l t).size : Int) := by omega
   have n6 : wrap64 most = most := Bridge.wr (by omega) (by omega)
   clear hz
   go_wp2_with fail
   refine (text_any (HD.out.below HB.out) t HIN.out.1 HIN.out.2).mono ?_
   rintro e w2 ⟨rfl, hb2⟩
   have HB2 := Aside0.mk (below_step HB.out hb2)
   clear hb2
   have hz := HZ.out
   go_wp2_with (at_builtin; refine print_append_str w.heap.size rfl (.tmp 33) (.tmp 34) 55 9 5 rfl Tryz.underlying55 Tryz.underlying9 Leaf.info5 (.slice none 0 0) [] (word l t) rfl rfl (own_nil _ _ _ _) HB2.out HB2.out.size (show 0 + (word l t).size ≤ 140737488355328 by omega) ?_; intro v1 w3 hrow hbelow hgrow; obtain ⟨A1, c1, rfl⟩ := own_slice hrow; have HROW := Aside0.mk hrow; have HB3 := Aside0.mk hbelow; clear hrow hbelow hgrow)
   go_roundw
   case rel => exact ⟨HB3, .inr ⟨rfl, A1, c1, rfl, HROW⟩⟩
   case measure => exact (by decide)
  ·have hcv := own_string (P := Tryz.prog) (src := 55) (dst := 9) (e := 5) Tryz.underlying55 Tryz.underlying5 Tryz.underlying9 HO.out
   rw [HX.out] at hcv
   go_wp2
   go_ret2
   exact ⟨rfl, HB.out⟩
end Go.Proofs.YtepgkimlmoikmaaGreat
set_option linter.unusedVariables false
set_option linter.unusedSimpArgs false
namespace Go.Proofs.YtepgkimlmoikmaaGreat
open Go.RowKit Go.Proofs.YtepgkimlmoikmaaGreat.Spec Go.Proofs.YtepgkimlmoikmaaGreatW.PrintWords Go.Proofs.YtepgkimlmoikmaaGreatW.PrintLast
open Go.Proofs.YtepgkimlmoikmaaGreatW.PrintMore
attribute [local go_sem ↓] Go.wp_at_zero Go.wp_at_succ
theorem u_cut (b : ByteArray) (i j : Nat) : u (b.extract i j) = ((u b).drop i).take (j - i) := by
 unfold u
 rw [ByteArray.data_extract, Array.toList_extract, List.extract_eq_take_drop]
structure SrcAt (w : World) (g : Nat) (s : ByteArray) : Prop where
 c0 : w.cell? ⟨g, 0, none⟩ = some (.string s)
 c1 : w.cell? ⟨g, 1, none⟩ = some (.pointer none)
 c3 : w.cell? ⟨g, 3, none⟩ = some (.int .i64 0)
 f0 : w.frozen? ⟨g, 0, none⟩ = false
 f3 : w.frozen? ⟨g, 3, none⟩ = false
theorem SrcAt.lt {w : World} {g : Nat} {s : ByteArray} (h : SrcAt w g s) : g < w.heap.size := World.block_lt_of_cell? w _ h.c0
theorem SrcAt.below {w w1 : World} {g : Nat} {s : ByteArray} (h : SrcAt w g s) (hb : Below w.heap.size w w1) : SrcAt w1 g s :=
 ⟨pw_cell_below hb h.c0, pw_cell_below hb h.c1, pw_cell_below hb h.c3, (hb.frozen (p := ⟨g, 0, none⟩) h.lt).trans h.f0, (hb.frozen (p := ⟨g, 3, none⟩) h.lt).trans h.f3⟩
theorem SrcAt.put {w : World} {g : Nat} {s : ByteArray} (h : SrcAt w g s) (s' : ByteArray) : SrcAt ((w.setCell ⟨g, 0, none⟩ (.string s')).setCell ⟨g, 3, none⟩ (.int .i64 0)) g s' := by
 have h30 : (⟨g, 3, none⟩ : Addr) ≠ ⟨g, 0, none⟩ := by simp
 have h31 : (⟨g, 3, none⟩ : Addr) ≠ ⟨g, 1, none⟩ := by simp
 have h01 : (⟨g, 0, none⟩ : Addr) ≠ ⟨g, 1, none⟩ := by simp
 have h03 : (⟨g, 0, none⟩ : Addr) ≠ ⟨g, 3, none⟩ := by simp
 refine ⟨?_, ?_, ?_, ?_, ?_⟩
 ·rw [World.cell?_setCell_other _ _ _ _ h30]; exact World.cell?_setCell_same _ _ _ h.c0
 ·rw [World.cell?_setCell_other _ _ _ _ h31, World.cell?_setCell_other _ _ _ _ h01]; exact h.c1
 ·exact World.cell?_setCell_same _ _ _ ((World.cell?_setCell_other _ _ _ _ h03).trans h.c3)
 ·rw [World.frozen?_setCell, World.frozen?_setCell]; exact h.f0
 ·rw [World.frozen?_setCell, World.frozen?_setCell]; exact h.f3
theorem open_zero (p : Value) (s : ByteArray) (w : World) : Calls Tryz.prog 142 #[p, .int .i64 0, .string s] w fun e w' => e = .returned (.tuple #[.pointer (some ⟨w.heap.size, 0, none⟩), .int .i64 0]) ∧ SrcAt w' w.heap.size s ∧ Below w.heap.size w w' := by
 go_enter Tryz.func142, Tryz.ntmps142
 go_wp2
 go_ret2
 have hh : (w.alloc (.cells #[.string s, .pointer none, .pointer none, .int .i64 0] 201)).heap[w.heap.size]? = some (.cells #[.string s, .pointer none, .pointer none, .int .i64 0] 201 (0, 0)) := heap_alloc_new _ _
 exact ⟨rfl, ⟨blk_cell hh 0, blk_cell hh 1, blk_cell hh 3, blk_frozen hh 0, blk_frozen hh 3⟩, (Below.refl _ _).alloc (Nat.le_refl _) _⟩
theorem over_any {w : World} {g : Nat} {s : ByteArray} (h : SrcAt w g s) : Calls Tryz.prog 145 #[.pointer (some ⟨g, 0, none⟩)] w fun e w' => e = .returned (.bool s.toList.isEmpty) ∧ w = w' := by
 have c0 := h.c0
 have c1 := h.c1
 clear h
 go_enter Tryz.func145, Tryz.ntmps145
 go_wp2
 go_ret
 exact ⟨rfl, rfl⟩
end Go.Proofs.YtepgkimlmoikmaaGreat
set_option linter.unusedVariables false
set_option linter.unusedSimpArgs false
namespace Go.Proofs.YtepgkimlmoikmaaGreat
open Go.RowKit Go.Proofs.YtepgkimlmoikmaaGreat.Spec Go.Proofs.YtepgkimlmoikmaaGreatW.PrintWords Go.Proofs.YtepgkimlmoikmaaGreatW.PrintLast
open Go.Proofs.YtepgkimlmoikmaaGreatW.PrintMore
attribute [local go_sem ↓] Go.wp_at_zero Go.wp_at_succ
theorem lit_ints (W : World) (t : Int) : IntsIn (W.alloc (.cells #[.int .i64 t] 3)) (some ⟨W.heap.size, 0, none⟩) [t] := by
 have h := own_lit W W.heap.size 3 .i64 [t] (Nat.le_refl _) (by simp)
 have h2 : (Kd.int .i64).R 3 (W.alloc (.cells #[.int .i64 t] 3)) W.heap.size (fun _ => True) (.slice (some ⟨W.heap.size, 0, none⟩) 1 1) [t] := Kd.R_of_own h (fun _ _ => trivial)
 obtain ⟨A, c, e, _, hC⟩ := Kd.R_reads h2
 injection e with e1
 subst e1
 exact hC
def roomOf (n : Nat) : Value → Nat
 | .string s => n - s.size
 | _ => 0
theorem cat_size {l : List ByteArray} (hs : ∀ s ∈ l, 1 ≤ s.size ∧ s.size ≤ 40) {r : List Int} (h : ∀ t ∈ r, Tok l t) : r.length ≤ (cat l r).size := by
 induction r with
 | nil => exact Nat.le_refl 0
 | cons t r ih =>
  have h1 := (word_size hs (h t (List.mem_cons_self ..))).1
  have h2 := ih fun q hq => h q (List.mem_cons_of_mem _ hq)
  rw [cat, ByteArray.size_append, List.length_cons]
  omega
end Go.Proofs.YtepgkimlmoikmaaGreat
set_option linter.unusedVariables false
set_option linter.unusedSimpArgs false
namespace Go.Proofs.YtepgkimlmoikmaaGreat
open Go.RowKit Go.Proofs.YtepgkimlmoikmaaGreat.Spec Go.Proofs.YtepgkimlmoikmaaGreatW.PrintWords Go.Proofs.YtepgkimlmoikmaaGreatW.PrintLast
open Go.Proofs.YtepgkimlmoikmaaGreatW.PrintMore
attribute [local go_sem ↓] Go.wp_at_zero Go.wp_at_succ
namespace Spec
def hp (b s : ByteArray) : Bool := decide ((u b).take s.size = u s)
def lng (tail : ByteArray) : Nat → Int × Nat → List ByteArray → Int × Nat
 | _, b, [] => b
 | k, b, s :: r => if b.2 < s.size ∧ hp tail s = true then lng tail (k + 1) ((k : Int), s.size) r else lng tail (k + 1) b r
end Spec
theorem hp_f (a s : ByteArray) : Leaf.strings_HasPrefix.f a s = some (hp a s) := by
 unfold Leaf.strings_HasPrefix.f Leaf.stringslite_HasPrefix.f hp
 have h1 := u_size a
 have h2 := u_size s
 by_cases h : s.size ≤ a.size
 ·rw [if_pos (by omega), if_pos (by omega), if_pos (by omega), Option.bind_some, Int.toNat_natCast]
  congr 1
  rw [Lib.toList_data, Lib.toList_data]
  show (u (a.extract 0 s.size) == u s) = _
  rw [u_cut, List.drop_zero, Nat.sub_zero]
  rw [Bool.eq_iff_iff, decide_eq_true_iff, beq_iff_eq]
 ·rw [if_neg (by omega), Option.bind_some]
  congr 1
  symm
  rw [decide_eq_false_iff_not]
  intro e
  have := congrArg List.length e
  rw [List.length_take] at this
  omega
theorem hp_calls (a s : ByteArray) (w : World) : Calls Tryz.prog 170 #[.string a, .string s] w fun e w' => e = .returned (.bool (hp a s)) ∧ Below w.heap.size w w' := by
 refine (Leaf.strings_HasPrefix.calls a s _ w (hp_f a s)).mono ?_
 rintro e w' ⟨rfl, hb⟩
 exact ⟨rfl, hb.below⟩
theorem lng_nil (t : ByteArray) (k : Nat) (b : Int × Nat) : lng t k b [] = b := rfl
theorem lng_cons (t : ByteArray) (k : Nat) (b : Int × Nat) (s : ByteArray) (r : List ByteArray) : lng t k b (s :: r) = if b.2 < s.size ∧ hp t s = true then lng t (k + 1) ((k : Int), s.size) r else lng t (k + 1) b r := rfl
theorem longest_any {p : Value} {l : List ByteArray} {w : World} (hd : DictN w p l) (hl : l.length ≤ 1000) (hs : ∀ s ∈ l, 1 ≤ s.size ∧ s.size ≤ 40) (b : ByteArray) (a : Nat) (ha : a < b.size) (hb : b.size ≤ 100000) :
  Calls Tryz.prog 168 #[p, .string b, .int .i64 a] w fun e w' => e = .returned (.tuple #[.int .i64 (lng (b.extract a b.size) 0 (-1, 0) l).1, .int .i64 (lng (b.extract a b.size) 0 (-1, 0) l).2]) ∧ Below w.heap.size w w' := by
 have HA := Aside0.mk (alln_any hd (by omega))
 have HL := Aside0.mk hl
 have HS := Aside0.mk hs
 have d1 : decide ((a : Int) < 0) = false := decide_eq_false (by omega)
 have d2 : decide ((b.size : Int) ≤ (a : Int)) = false := decide_eq_false (by omega)
 have d3 : decide (b.size ≤ a) = false := decide_eq_false (by omega)
 have z1 : ¬ b.size < a := by omega
 have z2 : a ≤ b.size := by omega
 clear hd hl hs ha hb
 go_enter Tryz.func168, Tryz.ntmps168
 go_wp2_with fail
 refine HA.out.mono ?_
 rintro e w1 ⟨v1, rfl, hrow, hb1⟩
 obtain ⟨A, c, rfl, hc, hC⟩ := Kd.R_reads hrow
 have HC := Aside0.mk hC
 have H1 := Aside0.mk hb1
 clear hrow hc hC hb1
 go_wp2_with fail
 go_loopw [8, 9, 23] (fun v8 v9 v23 wr => ∃ (i : Nat) (q : Int × Nat) (r : List ByteArray), v8 = .int .i64 q.1 ∧ v9 = .int .i64 q.2 ∧ v23 = .int .i64 i ∧ Aside0 (i ≤ l.length) ∧ Aside0 (l.drop i = r) ∧ Aside0 (lng (b.extract a b.size) i q r = lng (b.extract a b.size) 0 (-1, 0) l) ∧ Aside0 (Below w1.heap.size w1 wr)) (fun _ _ v23 _ => l.length - (intOf v23).toNat)
 case atStart => exact ⟨0, (-1, 0), l, rfl, rfl, rfl, ⟨Nat.zero_le _⟩, ⟨rfl⟩, ⟨rfl⟩, ⟨by repeat (first | exact Below.refl _ _ | apply below_alloc | apply below_drew)⟩⟩
 case round =>
  obtain ⟨i, ⟨q1, q2⟩, r, rfl, rfl, rfl, HI, HD, HM, HB⟩ := hrel
  have hi := HI.out
  have hn := HL.out
  cases r with
  | nil =>
   have hlen := congrArg List.length HD.out
   rw [List.length_drop, List.length_nil] at hlen
   have d0 : decide ((i : Int) < (l.length : Int)) = false := decide_eq_false (by omega)
   have d0' : decide (i < l.length) = false := decide_eq_false (by omega)
   clear hi hn hlen
   go_wp2
   go_ret2
   have hm := HM.out
   rw [lng_nil] at hm
   rw [← hm]
   exact ⟨rfl, below_step H1.out HB.out⟩
  | cons s r =>
   have hlen := congrArg List.length HD.out
   rw [List.length_drop, List.length_cons] at hlen
   have d0 : decide ((i : Int) < (l.length : Int)) = true := decide_eq_true (by omega)
   have d0' : decide (i < l.length) = true := decide_eq_true (by omega)
   have HLT := Aside0.mk (show i < l.length by omega)
   have p1 : (0 : Int) ≤ (i : Int) := by omega
   have p2 : (i : Int) < (l.length : Int) := by omega
   have hget : l[i]? = some s := by
    have := congrArg (fun q => q[0]?) HD.out
    simpa using this
   obtain ⟨ad2, e2, hcell⟩ := Kd.at_string (Kd.C_below HC.out HB.out) (i : Int) p1 p2
   have hrd : rdOf ByteArray.empty l (i : Int) = s := by unfold rdOf; rw [Int.toNat_natCast, List.getD_eq_getElem?_getD, hget]; rfl
   rw [hrd, Int.toNat_natCast] at hcell
   subst e2
   have hsz := HS.out s (List.mem_of_getElem? hget)
   have hm := HM.out
   rw [lng_cons] at hm
   have HD2 : Aside0 (l.drop (i + 1) = r) := ⟨by rw [← List.drop_drop, HD.out]; rfl⟩
   by_cases hq : q2 < s.size
   ·have d4 : decide ((q2 : Int) < (s.size : Int)) = true := decide_eq_true (by omega)
    have d4' : decide (q2 < s.size) = true := decide_eq_true hq
    cases hh : hp (b.extract a b.size) s with
    | false =>
     rw [if_neg (by rw [hh]; simp)] at hm
     have HMM := Aside0.mk hm
     have HH := Aside0.mk hh
     clear hi hn hlen hget hrd hm hq hh hsz
     go_wp2_with fail
     refine (hp_calls _ _ _).mono ?_
     rw [HH.out]
     rintro e w2 ⟨rfl, hb2⟩
     have HB2 := Aside0.mk (below_step HB.out hb2)
     clear hb2
     go_wp2_with fail
     go_roundw
     case rel =>
      have h1 := HLT.out
      have h2 := HL.out
      exact ⟨i + 1, (q1, q2), r, rfl, rfl, by rw [step1 i (by omega)], ⟨by omega⟩, HD2, HMM, HB2⟩
     case measure => have h1 := HLT.out; have h2 := HL.out; exact meas _ i h1 (by omega)
    | true =>
     rw [if_pos ⟨hq, hh⟩] at hm
     have HMM := Aside0.mk hm
     have HH := Aside0.mk hh
     clear hi hn hlen hget hrd hm hq hh hsz
     go_wp2_with fail
     refine (hp_calls _ _ _).mono ?_
     rw [HH.out]
     rintro e w2 ⟨rfl, hb2⟩
     have HB2 := Aside0.mk (below_step HB.out hb2)
     clear hb2
     go_wp2_with fail
     go_roundw
     case rel =>
      have h1 := HLT.out
      have h2 := HL.out
      exact ⟨i + 1, ((i : Int), s.size), r, rfl, rfl, by rw [step1 i (by omega)], ⟨by omega⟩, HD2, HMM, HB2⟩
     case measure => have h1 := HLT.out; have h2 := HL.out; exact meas _ i h1 (by omega)
   ·have d4 : decide ((q2 : Int) < (s.size : Int)) = false := decide_eq_false (by omega)
    have d4' : decide (q2 < s.size) = false := decide_eq_false hq
    rw [if_neg (fun h => hq h.1)] at hm
    have HMM := Aside0.mk hm
    clear hi hn hlen hget hrd hm hq hsz
    go_wp2_with fail
    go_roundw
    case rel =>
     have h1 := HLT.out
     have h2 := HL.out
     exact ⟨i + 1, (q1, q2), r, rfl, rfl, by rw [step1 i (by omega)], ⟨by omega⟩, HD2, HMM, HB⟩
    case measure => have h1 := HLT.out; have h2 := HL.out; exact meas _ i h1 (by omega)
end Go.Proofs.YtepgkimlmoikmaaGreat
set_option linter.unusedVariables false
set_option linter.unusedSimpArgs false
namespace Go.Proofs.YtepgkimlmoikmaaGreat
open Go.RowKit Go.Proofs.YtepgkimlmoikmaaGreat.Spec Go.Proofs.YtepgkimlmoikmaaGreatW.PrintWords Go.Proofs.YtepgkimlmoikmaaGreatW.PrintLast
open Go.Proofs.YtepgkimlmoikmaaGreatW.PrintMore
attribute [local go_sem ↓] Go.wp_at_zero Go.wp_at_succ
attribute [local go_sem] max2_int min2_int max_two min_two
namespace Spec
def crcBit (v : Int) : Int := if Go.bits .and .u32 v 1 = 1 then Go.bits .xor .u32 (v / 2) 3988292384 else v / 2
def crcBits (v : Int) : Nat → Int
 | 0 => v
 | n + 1 => crcBit (crcBits v n)
def crcStep (v : Int) (c : UInt8) : Int := crcBits (Go.bits .xor .u32 v (IntKind.u32.wrap (c.toNat : Int))) 8
def crcR (l : List UInt8) : Int := Go.bits .xor .u32 IntKind.u32.max (l.foldl crcStep 4294967295)
end Spec
theorem crc_init : Go.bits .xor .u32 IntKind.u32.max 0 = 4294967295 := by decide +kernel
theorem crc_add (b : ByteArray) (hb : b.size ≤ 140737488351232) (B : Nat) (w : World) (hc : w.cell? ⟨B, 0, none⟩ = some (.int .u32 0)) (hf : w.frozen? ⟨B, 0, none⟩ = false) :
  Calls Tryz.prog 203 #[.pointer (some ⟨B, 0, none⟩), .string b] w fun e w' => e = .returned (.tuple #[]) ∧ w' = w.setCell ⟨B, 0, none⟩ (.int .u32 (crcR (u b))) := by
 have HI := Aside0.mk crc_init
 go_enter Tryz.func203, Tryz.ntmps203
 go_wp2_with fail
 go_loop [4, 5, 6, 16] (fun v4 v5 v6 v16 => ∃ (i : Nat), i ≤ b.size ∧ v16 = .int .i64 i ∧ v4 = .int .u32 (((u b).take i).foldl crcStep 4294967295)) (fun _ _ _ v16 => b.size - (intOf v16).toNat)
 case atStart => exact ⟨0, Nat.zero_le _, rfl, by rw [HI.out]; rfl⟩
 case round =>
  obtain ⟨i, hi, rfl, rfl⟩ := hrel
  by_cases hlt : i < b.size
  ·have hx : i < (u b).length := by rw [u_size]; exact hlt
   have ht : (u b).take (i + 1) = (u b).take i ++ [(u b)[i]] := List.take_succ_eq_append_getElem hx
   have HT := Aside0.mk ht
   clear ht
   have p1 : (0 : Int) ≤ (i : Int) := by omega
   have p2 : (i : Int) < (b.size : Int) := by omega
   obtain ⟨h, hh⟩ : ∃ h, h = List.foldl crcStep 4294967295 ((u b).take i) := ⟨_, rfl⟩
   rw [← hh]
   have HH := Aside0.mk hh
   clear hh
   go_wp2_with fail
   go_loop [4, 6, 25] (fun v4 v6 v25 => ∃ (n : Nat), n ≤ 8 ∧ v25 = .int .i64 n ∧ v4 = .int .u32 (crcBits (Go.bits .xor .u32 h (IntKind.u32.wrap ((u b)[i].toNat : Int))) n)) (fun _ _ v25 => 8 - (intOf v25).toNat)
   case atStart => exact ⟨0, Nat.zero_le _, rfl, rfl⟩
   case round =>
    obtain ⟨n, hn, rfl, rfl⟩ := hrel
    obtain ⟨v, hv⟩ : ∃ v, v = crcBits (Go.bits .xor .u32 h (IntKind.u32.wrap ((u b)[i].toNat : Int))) n := ⟨_, rfl⟩
    rw [← hv]
    have HV := Aside0.mk hv
    clear hv
    by_cases h8 : n < 8
    ·by_cases hb1 : Go.bits .and .u32 v 1 = 1
     ·have hb2 : (Go.bits .and .u32 v 1 == 1) = true := beq_iff_eq.2 hb1
      go_wp2
      go_round
      case rel =>
       refine ⟨n + 1, by omega, by go_num, ?_⟩
       rw [crcBits, ← HV.out]
       unfold crcBit
       rw [if_pos hb1]
      case measure => simp [intOf]; omega
     ·have hb2 : (Go.bits .and .u32 v 1 == 1) = false := beq_eq_false_iff_ne.2 hb1
      go_wp2
      go_round
      case rel =>
       refine ⟨n + 1, by omega, by go_num, ?_⟩
       rw [crcBits, ← HV.out]
       unfold crcBit
       rw [if_neg hb1]
      case measure => simp [intOf]; omega
    ·have : n = 8 := by omega
     subst this
     go_wp2
     go_round
     case rel =>
      refine ⟨i + 1, by omega, by go_num, ?_⟩
      rw [HT.out, List.foldl_append, ← HH.out, HV.out]
      rfl
     case measure => simp [intOf]; omega
  ·have : i = b.size := by omega
   subst this
   go_wp2
   go_end0
   exact ⟨rfl, by rw [List.take_of_length_le (by rw [u_size]; omega)]; rfl⟩
theorem crc_now (B : Nat) (c : Int) (w : World) (hc : w.cell? ⟨B, 0, none⟩ = some (.int .u32 c)) : Calls Tryz.prog 204 #[.pointer (some ⟨B, 0, none⟩)] w fun e w' => e = .returned (.int .u32 c) ∧ w' = w := by
 go_enter Tryz.func204, Tryz.ntmps204
 go_wp2
 go_ret
 exact ⟨rfl, rfl⟩
theorem crc_calls (b : ByteArray) (hb : b.size ≤ 140737488351232) (w : World) : Calls Tryz.prog 163 #[.string b] w fun e w' => e = .returned (.int .u32 (crcR (u b))) ∧ Below w.heap.size w w' := by
 go_enter Tryz.func163, Tryz.ntmps163
 go_wp2_with fail
 refine (crc_add b hb _ _ ?_ ?_).mono ?_
 ·simp
 ·simp
 rintro e w' ⟨rfl, rfl⟩
 go_wp2_with fail
 refine (crc_now _ (crcR (u b)) _ (by simp)).mono ?_
 rintro e w' ⟨rfl, rfl⟩
 go_wp2
 go_ret
 exact ⟨rfl, (Below.refl _ _).alloc (Nat.le_refl _) _⟩
theorem u32_range (x : Int) : 0 ≤ IntKind.u32.wrap x ∧ IntKind.u32.wrap x < 4294967296 := by
 simp [IntKind.wrap, IntKind.bits, IntKind.signed]; omega
theorem crc_range (l : List UInt8) : 0 ≤ crcR l ∧ crcR l < 4294967296 := by
 unfold crcR Go.bits
 exact u32_range _
end Go.Proofs.YtepgkimlmoikmaaGreat
