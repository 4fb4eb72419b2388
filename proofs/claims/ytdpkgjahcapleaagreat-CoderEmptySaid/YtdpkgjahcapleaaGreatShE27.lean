/- ShE: a part of its proof (contracts of the functions that it reaches, and the plain mathematics behind them). -/
import Derived.Test.YtdpkgjahcapleaaGreatShE15
set_option linter.unusedVariables false
set_option linter.unusedSimpArgs false
set_option linter.unusedVariables false
set_option linter.unusedSimpArgs false
namespace Go.Proofs.YtdpkgjahcapleaaGreat
open Go.RowKit Go.Proofs.YtdpkgjahcapleaaGreat.Spec Go.Proofs.YtdpkgjahcapleaaGreatW.PrintWords Go.Proofs.YtdpkgjahcapleaaGreatW.PrintLast
open Go.Proofs.YtdpkgjahcapleaaGreatW.PrintMore
attribute [local go_sem] max2_int min2_int max_two min_two
theorem drawn_below {w w' : World} (h : Drawn0 w w') : Below w.heap.size w w' := h.below
theorem body_len {l : List ByteArray} (h : ∀ s ∈ l, s.size < 1000000) : (body l).length ≤ l.length * 1000005 := by
  induction l with
  | nil => simp [body]
  | cons s t ih =>
    have h1 := h s (List.mem_cons_self ..)
    have h2 := ih (fun x hx => h x (List.mem_cons_of_mem _ hx))
    have h3 := Bridge.num_len (n := s.size) (by omega)
    simp only [body, List.length_append, List.length_cons, u_size]
    omega
set_option maxHeartbeats 1000000 in
theorem bytes_any {w : World} {p : Value} {l : List ByteArray} (h : DictAt w p l) (hl : l.length ≤ 100) (hsz : ∀ s ∈ l, s.size < 1000000) : Calls Tryz.prog 39 #[p] w fun e w' => e = .returned (.string (str (Spec.bytes l))) ∧ Below w.heap.size w w' := by
  obtain ⟨ad, v, base, rfl, hc, hr⟩ := h.out
  have HR := Aside0.mk hr
  have HDA := Aside0.mk h
  clear hr h
  obtain ⟨A, c, rfl, hcap, hC⟩ := Kd.R_reads HR.out
  have HC := Aside0.mk hC
  clear hC hcap
  go_enter Tryz.func39, Tryz.ntmps39
  go_wp2_with (go_at_call 59; refine (vput_nat (n := l.length) (by omega) _).mono ?_; rintro e w1 ⟨rfl, hb⟩; have hc1 := pw_cell_below hb hc)
  have HB := Aside0.mk hb
  clear hb
  go_loopw [3, 25] (fun v3 v25 wr => ∃ (seen rest : List ByteArray), v3 = .string (str (num l.length ++ body seen)) ∧ v25 = .int .i64 seen.length ∧ Aside0 (l = seen ++ rest) ∧ Aside0 (Below w.heap.size w wr)) (fun _ v25 _ => l.length - (intOf v25).toNat)
  case atStart => exact ⟨[], l, by simp [body], rfl, ⟨rfl⟩, HB⟩
  case round =>
    obtain ⟨seen, rest, rfl, rfl, HL, HBw⟩ := hrel
    have hlen := congrArg List.length HL.out
    rw [List.length_append] at hlen
    cases rest with
    | cons x t =>
      rw [List.length_cons] at hlen
      have hi : seen.length < l.length := by omega
      clear hlen
      have hCw := Kd.C_below HC.out HBw.out
      obtain ⟨ad2, rfl, hx⟩ := Kd.at_string hCw (seen.length : Int) (by omega) (by omega)
      have hx2 : rdOf ByteArray.empty l (seen.length : Int) = x := by
        rw [Bridge.rdOf_get l _ hi]
        have := HL.out
        simp only [this, List.getElem_append_right (Nat.le_refl _), Nat.sub_self, List.getElem_cons_zero]
      rw [hx2, Int.toNat_natCast] at hx
      have hxs := hsz x (by rw [HL.out]; simp)
      clear hx2 hCw
      have p1 : (0 : Int) ≤ (seen.length : Int) := by omega
      have p2 : (seen.length : Int) < (l.length : Int) := by omega
      have hbl := body_len (l := seen) (fun s hs => hsz s (by rw [HL.out]; exact List.mem_append_left _ hs))
      have hn1 := Bridge.num_len (n := x.size) (by omega)
      have hn2 := Bridge.num_len (n := l.length) (by omega)
      have q1 : ¬ 9223372036854775807 < (str (num x.size)).size + x.size := by rw [str_size]; omega
      have q2 : ¬ 9223372036854775807 < (str (num l.length ++ body seen)).size + ((str (num x.size)).size + x.size) := by rw [str_size, str_size, List.length_append]; omega
      clear hbl hn1 hn2
      go_wp2_with (go_at_call 59; refine (vput_nat (n := x.size) (by omega) _).mono ?_; rintro e w2 ⟨rfl, hb⟩)
      go_roundw
      case rel =>
        refine ⟨seen ++ [x], t, ?_, by simp, ⟨by rw [List.append_assoc]; exact HL.out⟩, ⟨below_step HBw.out hb⟩⟩
        congr 1
        apply u_inj
        simp only [u_app, u_str, body_append, body, List.append_nil, List.append_assoc]
      case measure => simp [intOf]; omega
    | nil =>
      rw [List.length_nil] at hlen
      have hb0' : ¬ seen.length < l.length := by omega
      clear hlen
      go_wp2
      go_ret
      have hs : l = seen := by rw [HL.out, List.append_nil]
      exact ⟨by rw [hs]; rfl, HBw.out⟩
theorem u64_wrap_nat {n : Nat} (h : n < 18446744073709551616) : IntKind.u64.wrap (n : Int) = n := by
  have : (n : Int) % 18446744073709551616 = n := by omega
  simp [IntKind.wrap, IntKind.bits, IntKind.signed, this]
theorem xor_u64 (x y : Int) : Go.bits .xor .u64 x y = (((BitVec.ofInt 64 x) ^^^ (BitVec.ofInt 64 y)).toNat : Int) := by
  unfold Go.bits
  exact u64_wrap_nat (BitVec.isLt _)
theorem bits_xor_zero (f : Int) (h0 : 0 ≤ f) (h : f < 18446744073709551616) : Go.bits .xor .u64 0 f = f := by
  obtain ⟨n, rfl⟩ : ∃ n : Nat, f = n := ⟨f.toNat, by omega⟩
  rw [xor_u64, BitVec.ofInt_natCast]
  simp
  omega
theorem bits_xor_back (v f : Int) (h0 : 0 ≤ v) (h : v < 18446744073709551616) : Go.bits .xor .u64 (Go.bits .xor .u64 v f) f = v := by
  obtain ⟨n, rfl⟩ : ∃ n : Nat, v = n := ⟨v.toNat, by omega⟩
  rw [xor_u64 _ f, xor_u64 _ f, BitVec.ofInt_natCast, BitVec.ofInt_natCast]
  have e : BitVec.ofNat 64 ((BitVec.ofNat 64 n ^^^ BitVec.ofInt 64 f).toNat) = BitVec.ofNat 64 n ^^^ BitVec.ofInt 64 f := by rw [BitVec.ofNat_toNat]; exact BitVec.setWidth_eq _
  rw [e, BitVec.xor_assoc, BitVec.xor_self, BitVec.xor_zero]
  simp
  omega
theorem fnv_range (b : List UInt8) : ∀ h, 0 ≤ h → h < 18446744073709551616 → 0 ≤ b.foldl Bridge.fnvStep h ∧ b.foldl Bridge.fnvStep h < 18446744073709551616 := by
  induction b with
  | nil => intro h h0 h1; exact ⟨h0, h1⟩
  | cons c t ih =>
    intro h _ _
    refine ih _ ?_ ?_
    · unfold Bridge.fnvStep; simp [IntKind.wrap, IntKind.bits, IntKind.signed]; omega
    · unfold Bridge.fnvStep; simp [IntKind.wrap, IntKind.bits, IntKind.signed]; omega
set_option maxHeartbeats 1000000 in
theorem hash_add (b : ByteArray) (hb : b.size ≤ 140737488351232) (B : Nat) (c : Int) (w : World) (hc : w.cell? ⟨B, 0, none⟩ = some (.int .u64 c)) (hf : w.frozen? ⟨B, 0, none⟩ = false) :
    Calls Tryz.prog 57 #[.pointer (some ⟨B, 0, none⟩), .string b] w fun e w' => e = .returned (.tuple #[]) ∧ w' = w.setCell ⟨B, 0, none⟩ (.int .u64 (Go.bits .xor .u64 ((u b).foldl Bridge.fnvStep (Go.bits .xor .u64 c 14695981039346656037)) 14695981039346656037)) := by
  go_enter Tryz.func57, Tryz.ntmps57
  go_wp2
  go_loop [4, 15] (fun v4 v15 => ∃ (i : Nat), i ≤ b.size ∧ v15 = .int .i64 i ∧ v4 = .int .u64 (((u b).take i).foldl Bridge.fnvStep (Go.bits .xor .u64 c 14695981039346656037))) (fun _ v15 => b.size - (intOf v15).toNat)
  case atStart => exact ⟨0, by omega, rfl, by simp⟩
  case round =>
    obtain ⟨i, hi, rfl, rfl⟩ := hrel
    by_cases hlt : i < b.size
    · have hx : i < (u b).length := by rw [u_size]; exact hlt
      have ht : (u b).take (i + 1) = (u b).take i ++ [(u b)[i]] := List.take_succ_eq_append_getElem hx
      have HT := Aside0.mk ht
      clear ht
      have hbt := Bridge.bt_u b i hx
      have p1 : (0 : Int) ≤ (i : Int) := by omega
      have p2 : (i : Int) < (b.size : Int) := by omega
      obtain ⟨h, hh⟩ : ∃ h, h = List.foldl Bridge.fnvStep (Go.bits .xor .u64 c 14695981039346656037) ((u b).take i) := ⟨_, rfl⟩
      rw [← hh]
      have HH := Aside0.mk hh
      clear hh hbt
      go_wp2
      go_round
      case rel =>
        refine ⟨i + 1, by omega, by go_num, ?_⟩
        rw [HT.out, List.foldl_append, ← HH.out]
        rfl
      case measure => simp [intOf]; omega
    · have : i = b.size := by omega
      subst this
      go_wp2
      go_end0
      exact ⟨rfl, by rw [List.take_of_length_le (by rw [u_size]; omega)]⟩
set_option maxHeartbeats 400000 in
theorem hash_now (B : Nat) (c : Int) (w : World) (hc : w.cell? ⟨B, 0, none⟩ = some (.int .u64 c)) : Calls Tryz.prog 58 #[.pointer (some ⟨B, 0, none⟩)] w fun e w' => e = .returned (.int .u64 (Go.bits .xor .u64 c 14695981039346656037)) ∧ w' = w := by
  go_enter Tryz.func58, Tryz.ntmps58
  go_wp2
  go_ret
  exact ⟨rfl, rfl⟩
theorem fnv_eq (b : List UInt8) : Go.bits .xor .u64 (Go.bits .xor .u64 (b.foldl Bridge.fnvStep (Go.bits .xor .u64 0 14695981039346656037)) 14695981039346656037) 14695981039346656037 = Bridge.fnv b := by
  rw [bits_xor_zero _ (by decide) (by decide)]
  have := fnv_range b 14695981039346656037 (by decide) (by decide)
  exact bits_xor_back _ _ this.1 this.2
set_option maxHeartbeats 400000 in
theorem fnvOf_any (b : ByteArray) (hb : b.size ≤ 140737488351232) (w : World) : Calls Tryz.prog 38 #[.string b] w fun e w' => e = .returned (.int .u64 (Bridge.fnv (u b))) ∧ Below w.heap.size w w' := by
  have HE := Aside0.mk (fnv_eq (u b))
  go_enter Tryz.func38, Tryz.ntmps38
  go_wp2_with fail
  refine (hash_add b hb _ 0 _ ?_ ?_).mono ?_
  · simp
  · simp
  rintro e w' ⟨rfl, rfl⟩
  go_wp2_with fail
  refine (hash_now _ (Go.bits .xor .u64 ((u b).foldl Bridge.fnvStep (Go.bits .xor .u64 0 14695981039346656037)) 14695981039346656037) _ (by simp)).mono ?_
  rintro e w' ⟨rfl, rfl⟩
  go_wp2
  go_ret
  exact ⟨by first | exact congrArg (fun x => Ending.returned (.int .u64 x)) HE.out | rw [HE.out], (Below.refl _ _).alloc (Nat.le_refl _) _⟩
set_option maxHeartbeats 400000 in
theorem id_any {w : World} {p : Value} {l : List ByteArray} (h : DictAt w p l) (hl : l.length ≤ 100) (hsz : ∀ s ∈ l, s.size < 1000000) : Calls Tryz.prog 15 #[p] w fun e w' => e = .returned (.int .u64 (Bridge.fnv (Spec.bytes l))) ∧ Below w.heap.size w w' := by
  have hbl := body_len hsz
  have hn := Bridge.num_len (n := l.length) (by omega)
  have hs : (str (Spec.bytes l)).size ≤ 140737488351232 := by rw [str_size]; unfold Spec.bytes; rw [List.length_append]; omega
  clear hbl hn
  have H := Aside0.mk h
  obtain ⟨ad, v, base, rfl, hc, hr⟩ := h.out
  clear hc hr h
  go_enter Tryz.func15, Tryz.ntmps15
  go_wp2_with (first | (go_at_call 39; refine (bytes_any H.out hl hsz).mono ?_; rintro e w1 ⟨rfl, hb1⟩) | (go_at_call 38; refine (fnvOf_any _ hs _).mono ?_; rintro e w2 ⟨rfl, hb2⟩))
  go_ret
  exact ⟨by first | rfl | rw [u_str], below_step hb1 hb2⟩
end Go.Proofs.YtdpkgjahcapleaaGreat
set_option linter.unusedVariables false
set_option linter.unusedSimpArgs false
namespace Go.Proofs.YtdpkgjahcapleaaGreat
open Go.RowKit Go.Proofs.YtdpkgjahcapleaaGreat.Spec Go.Proofs.YtdpkgjahcapleaaGreatW.PrintWords Go.Proofs.YtdpkgjahcapleaaGreatW.PrintLast
open Go.Proofs.YtdpkgjahcapleaaGreatW.PrintMore
theorem eqFault (d : Nat) (w : World) (x0 y0 : Int) (x1 y1 : Int) :
    (Op.equalIn (d + 2) 63 (.agg #[.int .i64 x0, .int .i64 x1]) (.agg #[.int .i64 y0, .int .i64 y1])).run Tryz.prog w = .ok (x0 == y0 && (x1 == y1)) w := by
  refine eqA_of Tryz.underlying63 (by kernel_rfl) ?_
  refine eqf_cons (by rfl) (by go_simp; rfl) (by go_simp; rfl) (by go_simp) ?_
  exact eqf_last (by rfl) (by go_simp; rfl) (by go_simp; rfl) (by go_simp)
theorem run_eql_fault (x0 y0 x1 y1 : Int) (w : World) : (binOp .eql 63 (.agg #[.int .i64 x0, .int .i64 x1]) (.agg #[.int .i64 y0, .int .i64 y1])).run Tryz.prog w = .ok (.bool (x0 == y0 && (x1 == y1))) w := by
  simp only [binOp]
  simp [Op.equal, Op.maxDepth, eqFault 9998]
def toldB (c a code at_ : Int) : Bool := if code = 0 then c == 0 else (c != 0) && (c == code && a == at_)
theorem new_yes {A : Option Addr} {c : Nat} (l : List ByteArray) (w : World) (hr : StrsIn w A l) (hc : l.length ≤ c) (hsz : ∀ s ∈ l, s.size ≤ 140737488351232) (h : (phrases l).1 = 0) : Calls Tryz.prog 54 #[.slice A l.length c] w fun e w' => ∃ ad, e = .returned (.tuple #[.pointer (some ad), .nilIface]) ∧ DictAt w' (.pointer (some ad)) l ∧ Below w.heap.size w w' := by
  refine (new_calls l w hr hc hsz).mono ?_
  rintro e w' ⟨hb, h1 | h1⟩
  · obtain ⟨_, p, rfl, hd⟩ := h1
    obtain ⟨ad, v, base, rfl, hq⟩ := hd.out
    exact ⟨ad, rfl, hd, hb⟩
  · exact absurd h h1.1
set_option maxHeartbeats 400000 in
theorem make_yes {A : Option Addr} {c : Nat} (l : List ByteArray) (w : World) (hr : StrsIn w A l) (hc : l.length ≤ c) (hsz : ∀ s ∈ l, s.size ≤ 140737488351232) (h : (phrases l).1 = 0) : Calls Tryz.prog 34 #[.slice A l.length c] w fun e w' => ∃ ad, e = .returned (.pointer (some ad)) ∧ DictAt w' (.pointer (some ad)) l ∧ Below w.heap.size w w' := by
  have HC := Aside0.mk hc
  have HR := Aside0.mk hr
  have H := Aside0.mk h
  clear hr h hc
  go_enter Tryz.func34, Tryz.ntmps34
  go_wp2_with (go_at_call 54; refine (new_yes l _ HR.out HC.out hsz H.out).mono ?_; rintro e w' ⟨ad, rfl, hd, hb⟩)
  go_ret
  exact ⟨ad, rfl, hd, hb⟩
theorem strs_lit (w : World) (l : List ByteArray) (hm : l.length ≤ 1000) : StrsIn (w.alloc (.cells (l.map Value.string).toArray 9)) (some ⟨w.heap.size, 0, none⟩) l :=
  (Kd.R_reads' (Kd.R_of_own (h1 := fun _ => rfl) (ok := fun _ => True) (own_lit_of (enc := Value.string) w 0 9 l (Nat.zero_le _) (by omega)) (fun _ _ => trivial))).2.2
end Go.Proofs.YtdpkgjahcapleaaGreat
set_option linter.unusedVariables false
set_option linter.unusedSimpArgs false
namespace Go.Proofs.YtdpkgjahcapleaaGreat
open Go.RowKit Go.Proofs.YtdpkgjahcapleaaGreat.Spec Go.Proofs.YtdpkgjahcapleaaGreatW.PrintWords Go.Proofs.YtdpkgjahcapleaaGreatW.PrintLast
open Go.Proofs.YtdpkgjahcapleaaGreatW.PrintMore
attribute [local go_sem ↓] Go.wp_at_zero Go.wp_at_succ
attribute [local go_sem] max2_int min2_int max_two min_two
namespace Spec
def crcBit (v : Int) : Int := if Go.bits .and .u32 v 1 = 1 then Go.bits .xor .u32 (v / 2) 3988292384 else v / 2
def crcBits (v : Int) : Nat → Int
  | 0 => v
  | n + 1 => crcBit (crcBits v n)
def crcStep (v : Int) (c : UInt8) : Int := crcBits (Go.bits .xor .u32 v (IntKind.u32.wrap (c.toNat : Int))) 8
def crcR (l : List UInt8) : Int := Go.bits .xor .u32 IntKind.u32.max (l.foldl crcStep 4294967295)
end Spec
theorem crc_init : Go.bits .xor .u32 IntKind.u32.max 0 = 4294967295 := by decide +kernel
set_option maxHeartbeats 2000000 in
theorem crc_add (b : ByteArray) (hb : b.size ≤ 140737488351232) (B : Nat) (w : World) (hc : w.cell? ⟨B, 0, none⟩ = some (.int .u32 0)) (hf : w.frozen? ⟨B, 0, none⟩ = false) :
    Calls Tryz.prog 84 #[.pointer (some ⟨B, 0, none⟩), .string b] w fun e w' => e = .returned (.tuple #[]) ∧ w' = w.setCell ⟨B, 0, none⟩ (.int .u32 (crcR (u b))) := by
  have HI := Aside0.mk crc_init
  go_enter Tryz.func84, Tryz.ntmps84
  go_wp2_with fail
  go_loop [4, 5, 6, 16] (fun v4 v5 v6 v16 => ∃ (i : Nat), i ≤ b.size ∧ v16 = .int .i64 i ∧ v4 = .int .u32 (((u b).take i).foldl crcStep 4294967295)) (fun _ _ _ v16 => b.size - (intOf v16).toNat)
  case atStart => exact ⟨0, Nat.zero_le _, rfl, by rw [HI.out]; rfl⟩
  case round =>
    obtain ⟨i, hi, rfl, rfl⟩ := hrel
    by_cases hlt : i < b.size
    · have hx : i < (u b).length := by rw [u_size]; exact hlt
      have ht : (u b).take (i + 1) = (u b).take i ++ [(u b)[i]] := List.take_succ_eq_append_getElem hx
      have HT := Aside0.mk ht
      clear ht
      have p1 : (0 : Int) ≤ (i : Int) := by omega
      have p2 : (i : Int) < (b.size : Int) := by omega
      obtain ⟨h, hh⟩ : ∃ h, h = List.foldl crcStep 4294967295 ((u b).take i) := ⟨_, rfl⟩
      rw [← hh]
      have HH := Aside0.mk hh
      clear hh
      go_wp2_with fail
      go_loop [4, 6, 25] (fun v4 v6 v25 => ∃ (n : Nat), n ≤ 8 ∧ v25 = .int .i64 n ∧ v4 = .int .u32 (crcBits (Go.bits .xor .u32 h (IntKind.u32.wrap ((u b)[i].toNat : Int))) n)) (fun _ _ v25 => 8 - (intOf v25).toNat)
      case atStart => exact ⟨0, Nat.zero_le _, rfl, rfl⟩
      case round =>
        obtain ⟨n, hn, rfl, rfl⟩ := hrel
        obtain ⟨v, hv⟩ : ∃ v, v = crcBits (Go.bits .xor .u32 h (IntKind.u32.wrap ((u b)[i].toNat : Int))) n := ⟨_, rfl⟩
        rw [← hv]
        have HV := Aside0.mk hv
        clear hv
        by_cases h8 : n < 8
        · by_cases hb1 : Go.bits .and .u32 v 1 = 1
          · have hb2 : (Go.bits .and .u32 v 1 == 1) = true := beq_iff_eq.2 hb1
            go_wp2
            go_round
            case rel =>
              refine ⟨n + 1, by omega, by go_num, ?_⟩
              rw [crcBits, ← HV.out]
              unfold crcBit
              rw [if_pos hb1]
            case measure => simp [intOf]; omega
          · have hb2 : (Go.bits .and .u32 v 1 == 1) = false := beq_eq_false_iff_ne.2 hb1
            go_wp2
            go_round
            case rel =>
              refine ⟨n + 1, by omega, by go_num, ?_⟩
              rw [crcBits, ← HV.out]
              unfold crcBit
              rw [if_neg hb1]
            case measure => simp [intOf]; omega
        · have : n = 8 := by omega
          subst this
          go_wp2
          go_round
          case rel =>
            refine ⟨i + 1, by omega, by go_num, ?_⟩
            rw [HT.out, List.foldl_append, ← HH.out, HV.out]
            rfl
          case measure => simp [intOf]; omega
    · have : i = b.size := by omega
      subst this
      go_wp2
      go_end0
      exact ⟨rfl, by rw [List.take_of_length_le (by rw [u_size]; omega)]; rfl⟩
set_option maxHeartbeats 400000 in
theorem crc_now (B : Nat) (c : Int) (w : World) (hc : w.cell? ⟨B, 0, none⟩ = some (.int .u32 c)) : Calls Tryz.prog 85 #[.pointer (some ⟨B, 0, none⟩)] w fun e w' => e = .returned (.int .u32 c) ∧ w' = w := by
  go_enter Tryz.func85, Tryz.ntmps85
  go_wp2
  go_ret
  exact ⟨rfl, rfl⟩
set_option maxHeartbeats 400000 in
theorem crc_calls (b : ByteArray) (hb : b.size ≤ 140737488351232) (w : World) : Calls Tryz.prog 62 #[.string b] w fun e w' => e = .returned (.int .u32 (crcR (u b))) ∧ Below w.heap.size w w' := by
  go_enter Tryz.func62, Tryz.ntmps62
  go_wp2_with fail
  refine (crc_add b hb _ _ ?_ ?_).mono ?_
  · simp
  · simp
  rintro e w' ⟨rfl, rfl⟩
  go_wp2_with fail
  refine (crc_now _ (crcR (u b)) _ (by simp)).mono ?_
  rintro e w' ⟨rfl, rfl⟩
  go_wp2
  go_ret
  exact ⟨rfl, (Below.refl _ _).alloc (Nat.le_refl _) _⟩
theorem u32_range (x : Int) : 0 ≤ IntKind.u32.wrap x ∧ IntKind.u32.wrap x < 4294967296 := by
  simp [IntKind.wrap, IntKind.bits, IntKind.signed]; omega
theorem crc_range (l : List UInt8) : 0 ≤ crcR l ∧ crcR l < 4294967296 := by
  unfold crcR Go.bits
  exact u32_range _
end Go.Proofs.YtdpkgjahcapleaaGreat
