/- ShU: a part of its proof (contracts of the functions that it reaches, and the plain mathematics behind them). -/
import Derived.Test.YtepgkimlmoikmaaGreatShU10
import Derived.Test.YtepgkimlmoikmaaGreatShU11
set_option linter.unusedVariables false
set_option linter.unusedSimpArgs false
set_option maxHeartbeats 2000000
set_option maxRecDepth 100000
set_option linter.unusedVariables false
set_option linter.unusedSimpArgs false
namespace Go.Proofs.YtepgkimlmoikmaaGreat.Bridge
open Go.RowKit Go.Proofs.YtepgkimlmoikmaaGreat.Leaf Go.Proofs.YtepgkimlmoikmaaGreat.Spec Go.Proofs.YtepgkimlmoikmaaGreatW.PrintWords Go.Proofs.YtepgkimlmoikmaaGreatW.PrintLast Go.Proofs.YtepgkimlmoikmaaGreatW.PrintMore

theorem wr {x : Int} (h : -9223372036854775808 ≤ x) (h2 : x < 9223372036854775808) : wrap64 x = x := by unfold wrap64; omega
theorem wrN (n : Nat) (h : n < 9223372036854775808) : wrap64 (n : Int) = n := wr (by omega) (by omega)
theorem wrS (n : Nat) (h : n < 9223372036854775807) : wrap64 ((n : Int) + 1) = ((n + 1 : Nat) : Int) := by rw [wr (by omega) (by omega)]; omega
theorem toList_u (s : ByteArray) : s.toList = u s := by rw [Go.ByteArray.toList_eq]; rfl
theorem str_iff {a b : ByteArray} : a.toList = b.toList ↔ a = b := by rw [toList_u, toList_u]; exact ⟨u_inj, fun h => by rw [h]⟩
theorem empty_iff {a : ByteArray} : a.toList = ([] : List UInt8) ↔ a.size = 0 := by rw [toList_u, ← u_size]; exact List.length_eq_zero_iff.symm
theorem bt_u (b : ByteArray) (i : Nat) (h : i < (u b).length) : bt b (i : Int) = (((u b)[i]).toNat : Int) := by
 unfold bt
 rw [dif_pos (by rw [u_size] at h; simpa using h)]
 rfl
theorem rdOf_get (l : List ByteArray) (i : Nat) (h : i < l.length) : rdOf ByteArray.empty l (i : Int) = l[i] := by
 unfold rdOf
 simp [List.getD_eq_getElem?_getD, List.getElem?_eq_getElem h]
theorem drop_cons {α : Type} {l : List α} {i : Nat} {x : α} {t : List α} (h : l.drop i = x :: t) : ∃ hi : i < l.length, l[i] = x ∧ l.drop (i + 1) = t := by
 have hi : i < l.length := by
  by_cases e : i < l.length
  ·exact e
  ·rw [List.drop_of_length_le (by omega)] at h; cases h
 rw [List.drop_eq_getElem_cons hi] at h
 injection h with h1 h2
 exact ⟨hi, h1, h2⟩
def strR (out : List Int) (n : Nat) : ByteArray := str (out.map (fun x => UInt8.ofNat x.toNat) ++ num n)
theorem strOfNums_str (l : List Int) : strOfNums l = str (l.map fun x => UInt8.ofNat x.toNat) := rfl
theorem ofNat_int (x : Int) (n : Nat) (h : x.toNat % 256 = n % 256) : UInt8.ofNat x.toNat = UInt8.ofNat n := by
 apply UInt8.toNat_inj.1
 rw [UInt8.toNat_ofNat', UInt8.toNat_ofNat']
 exact h
theorem put_l0 (n : Nat) : ∀ (out : List Int), n < 4294967296 → out.length + n < 140737488355328 → Ev (fun k => vari_Put.l0 k (n : Int) out) (strR out n, true) := by
 induction n using Nat.strongRecOn with
 | ind n ih =>
  intro out hn ho
  by_cases h : n < 128
  ·refine Ev.step (f := fun _ => some _) (fun k => ?_) (Ev.now _)
   simp only [vari_Put.l0]
   rw [if_neg (by omega), if_pos (by omega), strOfNums_str]
   unfold strR
   rw [num_small h, List.map_append]
   simp only [List.map_cons, List.map_nil]
   rw [ofNat_int _ n (by omega)]
  ·have := ih (n / 128) (by omega) (out ++ [(wrap64 ((Int.tmod (n : Int) 128) + 128)) % 256]) (by omega) (by simp only [List.length_append, List.length_cons, List.length_nil]; omega)
   have e : strR (out ++ [(wrap64 ((Int.tmod (n : Int) 128) + 128)) % 256]) (n / 128) = strR out n := by
    have ew : (wrap64 ((Int.tmod (n : Int) 128) + 128)) % 256 = ((128 + n % 128 : Nat) : Int) := by
     rw [Int.tmod_eq_emod_of_nonneg (by omega), wr (by omega) (by omega)]; omega
    unfold strR
    rw [num_big h, List.map_append, ew]
    simp only [List.map_cons, List.map_nil, Int.toNat_natCast, List.append_assoc, List.cons_append, List.nil_append]
   rw [e] at this
   refine Ev.step (fun k => ?_) this
   simp only [vari_Put.l0]
   rw [if_pos (by omega), if_pos (by omega)]
   rfl
def putS (n : Int) : ByteArray × Bool := if n < 0 ∨ 4294967295 < n then (⟨#[]⟩, false) else (str (num n.toNat), true)
theorem putS_nat {n : Nat} (h : n < 4294967296) : putS (n : Int) = (str (num n), true) := by unfold putS; rw [if_neg (by omega), Int.toNat_natCast]
theorem put_ev (n : Int) : Ev (fun k => vari_Put.f k n) (putS n) := by
 unfold putS
 refine Ev.congr (f := fun k => vari_Put.j0 k n (decide (n < 0 ∨ 4294967295 < n))) (fun k => ?_) ?_
 ·unfold vari_Put.f
  by_cases h : n < 0
  ·rw [if_pos h]; congr 1; symm; rw [decide_eq_true_iff]; exact Or.inl h
  ·rw [if_neg h]; congr 1; rw [decide_eq_decide]; omega
 ·by_cases h : n < 0 ∨ 4294967295 < n
  ·rw [if_pos h]
   refine Ev.step (f := fun _ => some _) (fun k => ?_) (Ev.now _)
   simp only [vari_Put.j0]
   rw [if_pos (by simpa using h)]
  ·rw [if_neg h]
   have := put_l0 n.toNat [] (by omega) (by simp only [List.length_nil]; omega)
   rw [show ((n.toNat : Nat) : Int) = n by omega] at this
   refine Ev.step (fun k => ?_) this
   simp only [vari_Put.j0]
   rw [if_neg (by simpa using h)]
def unR (x : Nat × Nat × Nat) : Int × Int × Int := ((x.1 : Int), (x.2.1 : Int), (x.2.2 : Int))
theorem pow7 (i : Nat) : (128 : Nat) ^ i = 2 ^ (7 * i) := by rw [Nat.pow_mul]
theorem or_add (a c m : Nat) (hm : m ≤ 60) (ha : a < 2 ^ m) (hc : c < 128) (hb : c * 2 ^ m < 2 ^ 62) : Go.bits .or .i64 (a : Int) ((c * 2 ^ m : Nat) : Int) = ((a + c * 2 ^ m : Nat) : Int) := by
 have h1 : a < 2 ^ 62 := Nat.lt_of_lt_of_le ha (Nat.pow_le_pow_right (by omega) (by omega))
 have e1 : BitVec.ofInt 64 (a : Int) = BitVec.ofNat 64 a := by simp
 have e2 : BitVec.ofInt 64 ((c * 2 ^ m : Nat) : Int) = BitVec.ofNat 64 (c * 2 ^ m) := by rw [BitVec.ofInt_natCast]
 have h62 : (2 : Nat) ^ 62 = 4611686018427387904 := by decide
 have e3 : a ||| c * 2 ^ m = a + c * 2 ^ m := by
  rw [Nat.or_comm, Nat.mul_comm, Nat.add_comm]
  exact (Nat.two_pow_add_eq_or_of_lt ha c).symm
 have e4 : ((BitVec.ofNat 64 a) ||| (BitVec.ofNat 64 (c * 2 ^ m))).toNat = a + c * 2 ^ m := by
  rw [BitVec.toNat_or, BitVec.toNat_ofNat, BitVec.toNat_ofNat, Nat.mod_eq_of_lt (by omega), Nat.mod_eq_of_lt (by omega)]
  exact e3
 unfold Go.bits
 show IntKind.i64.wrap (((BitVec.ofInt 64 (a : Int)) ||| (BitVec.ofInt 64 ((c * 2 ^ m : Nat) : Int))).toNat : Int) = _
 rw [e1, e2, e4]
 exact (i64_w _).trans (wrN _ (by omega))
theorem get_l0 (b : ByteArray) (hb : b.size ≤ 140737488351232) (t : List UInt8) : ∀ (i acc : Nat), i ≤ 4 → acc < 128 ^ i → i ≤ b.size → (u b).drop i = t → Ev (fun k => vari_Get.l0 k b (acc : Int) (i : Int)) (unR (un i acc t)) := by
 induction t with
 | nil =>
  intro i acc hi ha hib h
  have : b.size = i := by have := congrArg List.length h; rw [List.length_drop, u_size] at this; simp at this; omega
  refine Ev.step (f := fun _ => some _) (fun k => ?_) (Ev.now _)
  simp only [vari_Get.l0]
  rw [if_pos (by omega)]
  rfl
 | cons c t ih =>
  intro i acc hi ha hib h
  obtain ⟨hlt, hc, hd⟩ := drop_cons h
  have hbt : bt b (i : Int) = (c.toNat : Int) := by rw [bt_u b i hlt, hc]
  rw [u_size] at hlt
  have hcl := c.toNat_lt
  rw [un_cons]
  have s1 : ∀ k, vari_Get.l0 (k + 1) b (acc : Int) (i : Int) = vari_Get.j1 k b acc i (decide (i = 4 ∧ 15 < c.toNat)) := by
   intro k
   simp only [vari_Get.l0]
   rw [if_neg (by omega), hbt]
   by_cases e : i = 4
   ·rw [if_pos (by omega), if_pos (by omega), if_pos (by omega)]; congr 1; rw [decide_eq_decide]; omega
   ·rw [if_neg (by omega)]; congr 1; symm; rw [decide_eq_false_iff_not]; omega
  refine Ev.step s1 ?_
  by_cases h1 : i = 4 ∧ 15 < c.toNat
  ·rw [if_pos h1]
   refine Ev.step (f := fun _ => some _) (fun k => ?_) (Ev.now _)
   simp only [vari_Get.j1]
   rw [if_pos (by simpa using h1)]
   rfl
  ·rw [if_neg h1]
   have s2 : ∀ k, vari_Get.j1 (k + 1) b acc i (decide (i = 4 ∧ 15 < c.toNat)) = vari_Get.j2 k b acc i (decide (0 < i ∧ c.toNat = 0)) := by
    intro k
    simp only [vari_Get.j1]
    rw [if_neg (by simpa using h1), hbt]
    by_cases e : 0 < i
    ·rw [if_pos (by omega), if_pos (by omega), if_pos (by omega)]
     congr 1
     by_cases e0 : c.toNat = 0
     ·rw [e0, decide_eq_true (show 0 < i ∧ 0 = 0 from ⟨e, rfl⟩)]; rfl
     ·rw [decide_eq_false (show ¬ (0 < i ∧ c.toNat = 0) from fun h => e0 h.2)]
      exact beq_eq_false_iff_ne.2 (by omega)
    ·rw [if_neg (by omega)]; congr 1; symm; rw [decide_eq_false_iff_not]; omega
   refine Ev.step s2 ?_
   by_cases h2 : 0 < i ∧ c.toNat = 0
   ·rw [if_pos h2]
    refine Ev.step (f := fun _ => some _) (fun k => ?_) (Ev.now _)
    simp only [vari_Get.j2]
    rw [if_pos (by simpa using h2)]
    rfl
   ·rw [if_neg h2]
    have hp : (128 : Nat) ^ i = 2 ^ (7 * i) := pow7 i
    have hle : (2 : Nat) ^ (7 * i) ≤ 2 ^ 28 := Nat.pow_le_pow_right (by omega) (by omega)
    have h28 : (2 : Nat) ^ 28 = 268435456 := by decide
    have hmul : c.toNat % 128 * 2 ^ (7 * i) ≤ 127 * 2 ^ 28 := Nat.mul_le_mul (by omega) hle
    have e7 := Aside0.mk (show wrap64 (7 * (i : Int)) = ((7 * i : Nat) : Int) by rw [wr (by omega) (by omega)]; omega)
    have em := Aside0.mk (show wrap64 (Int.tmod (c.toNat : Int) 128) = ((c.toNat % 128 : Nat) : Int) by
     rw [Int.tmod_eq_emod_of_nonneg (by omega), wr (by omega) (by omega)]; omega)
    have esh := Aside0.mk (show shl .i64 ((c.toNat % 128 : Nat) : Int) ((7 * i : Nat) : Int) = ((c.toNat % 128 * 2 ^ (7 * i) : Nat) : Int) by
     unfold shl
     rw [Int.toNat_natCast, Nat.min_eq_left (show 7 * i ≤ IntKind.i64.bits by show 7 * i ≤ 64; omega)]
     have : ((c.toNat % 128 : Nat) : Int) * 2 ^ (7 * i) = ((c.toNat % 128 * 2 ^ (7 * i) : Nat) : Int) := by
      rw [Int.natCast_mul, Int.natCast_pow]; rfl
     rw [this]
     exact (i64_w _).trans (wrN _ (by omega)))
    have h62 : (2 : Nat) ^ 62 = 4611686018427387904 := by decide
    have eor0 := or_add acc (c.toNat % 128) (7 * i) (by omega) (by rw [← hp]; exact ha) (by omega) (by omega)
    rw [← hp] at eor0
    have eor := Aside0.mk eor0
    clear eor0
    have hacc : acc + c.toNat % 128 * 128 ^ i < 128 ^ (i + 1) := by
     rw [Nat.pow_succ, Nat.mul_comm (128 ^ i) 128]
     have : c.toNat % 128 * 128 ^ i ≤ 127 * 128 ^ i := Nat.mul_le_mul_right _ (by omega)
     omega
    by_cases h3 : c.toNat < 128
    ·rw [if_pos h3]
     refine Ev.step (f := fun _ => some _) (fun k => ?_) (Ev.now _)
     simp only [vari_Get.j2]
     rw [if_neg (by simpa using h2), hbt, if_pos (by omega), if_pos (by omega), e7.out, if_pos (by omega), if_pos (by omega), em.out, esh.out, ← hp, eor.out, wrS _ (by omega), Nat.mod_eq_of_lt h3]
     rfl
    ·rw [if_neg h3]
     have := ih (i + 1) (acc + c.toNat % 128 * 128 ^ i) (by omega) hacc (by omega) hd
     refine Ev.step (fun k => ?_) this
     simp only [vari_Get.j2]
     rw [if_neg (by simpa using h2), hbt, if_pos (by omega), if_pos (by omega), e7.out, if_pos (by omega), if_neg (by omega), em.out, esh.out, ← hp, eor.out, wrS _ (by omega)]
theorem get_ev (b : ByteArray) (hb : b.size ≤ 140737488351232) : Ev (fun k => vari_Get.f k b) (unR (un 0 0 (u b))) :=
 Ev.congr (fun k => rfl) (get_l0 b hb (u b) 0 0 (by omega) (by decide) (by omega) rfl)
theorem unnumber_l0 (b : ByteArray) (hb : b.size ≤ 140737488351232) (t : List UInt8) : ∀ (i acc : Nat), i ≤ 4 → acc < 128 ^ i → i ≤ b.size → (u b).drop i = t → Ev (fun k => lexiphaneref1_Unnumber.l0 k b (acc : Int) ((128 ^ i : Nat) : Int) (i : Int)) (unR (un i acc t)) := by
 induction t with
 | nil =>
  intro i acc hi ha hib h
  have : b.size = i := by have := congrArg List.length h; rw [List.length_drop, u_size] at this; simp at this; omega
  refine Ev.step (f := fun _ => some _) (fun k => ?_) (Ev.now _)
  simp only [lexiphaneref1_Unnumber.l0]
  rw [if_pos (by omega)]
  rfl
 | cons c t ih =>
  intro i acc hi ha hib h
  obtain ⟨hlt, hc, hd⟩ := drop_cons h
  have hcl := c.toNat_lt
  have hbt := Aside0.mk (show wrap64 (bt b (i : Int)) = (c.toNat : Int) by rw [bt_u b i hlt, hc, wrN _ (by omega)])
  rw [u_size] at hlt
  rw [un_cons]
  have s1 : ∀ k, lexiphaneref1_Unnumber.l0 (k + 1) b (acc : Int) ((128 ^ i : Nat) : Int) (i : Int) = lexiphaneref1_Unnumber.j1 k b acc ((128 ^ i : Nat) : Int) i (c.toNat : Int) (decide (i = 4 ∧ 15 < c.toNat)) := by
   intro k
   simp only [lexiphaneref1_Unnumber.l0]
   rw [if_neg (by omega), hbt.out, if_pos (by omega), if_pos (by omega)]
   by_cases e : i = 4
   ·rw [if_pos (by omega)]; congr 1; rw [decide_eq_decide]; omega
   ·rw [if_neg (by omega)]; congr 1; symm; rw [decide_eq_false_iff_not]; omega
  refine Ev.step s1 ?_
  by_cases h1 : i = 4 ∧ 15 < c.toNat
  ·rw [if_pos h1]
   refine Ev.step (f := fun _ => some _) (fun k => ?_) (Ev.now _)
   simp only [lexiphaneref1_Unnumber.j1]
   rw [if_pos (by simpa using h1)]
   rfl
  ·rw [if_neg h1]
   have hp : (128 : Nat) ^ i = 2 ^ (7 * i) := pow7 i
   have hle : (2 : Nat) ^ (7 * i) ≤ 2 ^ 28 := Nat.pow_le_pow_right (by omega) (by omega)
   have h28 : (2 : Nat) ^ 28 = 268435456 := by decide
   have hmul : c.toNat % 128 * 2 ^ (7 * i) ≤ 127 * 2 ^ 28 := Nat.mul_le_mul (by omega) hle
   rw [← hp] at hle hmul
   have hacc : acc + c.toNat % 128 * 128 ^ i < 128 ^ (i + 1) := by
    rw [Nat.pow_succ, Nat.mul_comm (128 ^ i) 128]
    have : c.toNat % 128 * 128 ^ i ≤ 127 * 128 ^ i := Nat.mul_le_mul_right _ (by omega)
    omega
   have hps : (128 : Nat) ^ (i + 1) = 128 ^ i * 128 := Nat.pow_succ ..
   have em := Aside0.mk (show wrap64 ((acc : Int) + wrap64 ((Int.tmod (c.toNat : Int) 128) * ((128 ^ i : Nat) : Int))) = ((acc + c.toNat % 128 * 128 ^ i : Nat) : Int) by
    rw [Int.tmod_eq_emod_of_nonneg (by omega)]
    have e1 : ((c.toNat : Int) % 128) * ((128 ^ i : Nat) : Int) = ((c.toNat % 128 * 128 ^ i : Nat) : Int) := by rw [Int.natCast_mul]; rfl
    rw [e1, wrN _ (by omega)]
    have e2 : (acc : Int) + ((c.toNat % 128 * 128 ^ i : Nat) : Int) = ((acc + c.toNat % 128 * 128 ^ i : Nat) : Int) := by omega
    rw [e2]
    exact wrN _ (by omega))
   by_cases h3 : c.toNat < 128
   ·by_cases h2 : 0 < i ∧ c.toNat = 0
    ·rw [if_pos h2]
     refine Ev.step (f := fun _ => some _) (fun k => ?_) (Ev.now _)
     simp only [lexiphaneref1_Unnumber.j1]
     rw [if_neg (by simpa using h1), if_pos (by omega), if_pos (by omega), if_pos (by omega)]
     rfl
    ·rw [if_neg h2, if_pos h3]
     refine Ev.step (f := fun _ => some _) (fun k => ?_) (Ev.now _)
     simp only [lexiphaneref1_Unnumber.j1]
     rw [if_neg (by simpa using h1), if_pos (by omega), em.out, wrS _ (by omega), Nat.mod_eq_of_lt h3]
     by_cases e0 : c.toNat = 0
     ·rw [if_pos (by omega), if_neg (by omega)]; rfl
     ·rw [if_neg (by omega)]; rfl
   ·rw [if_neg (by omega), if_neg h3]
    have := ih (i + 1) (acc + c.toNat % 128 * 128 ^ i) (by omega) hacc (by omega) hd
    refine Ev.step (fun k => ?_) this
    simp only [lexiphaneref1_Unnumber.j1]
    rw [if_neg (by simpa using h1), if_neg (by omega), em.out, wrS _ (by omega)]
    have eu : wrap64 (((128 ^ i : Nat) : Int) * 128) = ((128 ^ (i + 1) : Nat) : Int) := by
     rw [hps, Int.natCast_mul]
     exact wr (by omega) (by omega)
    rw [eu]
theorem unnumber_ev (b : ByteArray) (hb : b.size ≤ 140737488351232) : Ev (fun k => lexiphaneref1_Unnumber.f k b) (unR (un 0 0 (u b))) :=
 Ev.congr (fun k => rfl) (unnumber_l0 b hb (u b) 0 0 (by omega) (by decide) (by omega) rfl)
end Go.Proofs.YtepgkimlmoikmaaGreat.Bridge
set_option linter.unusedVariables false
set_option linter.unusedSimpArgs false
namespace Go.Proofs.YtepgkimlmoikmaaGreat.Bridge
open Go.RowKit Go.Proofs.YtepgkimlmoikmaaGreat.Leaf Go.Proofs.YtepgkimlmoikmaaGreat.Spec Go.Proofs.YtepgkimlmoikmaaGreatW.PrintWords Go.Proofs.YtepgkimlmoikmaaGreatW.PrintLast Go.Proofs.YtepgkimlmoikmaaGreatW.PrintMore

def fndI (s : ByteArray) (l : List ByteArray) : Int := match fnd s l with | some k => (k : Int) | none => -1
def fndAt (s : ByteArray) (i : Nat) (t : List ByteArray) : Int := match fnd s t with | some k => ((i + k : Nat) : Int) | none => -1
theorem fndAt_here {s : ByteArray} (i : Nat) (t : List ByteArray) : fndAt s i (s :: t) = (i : Int) := by unfold fndAt fnd; rw [if_pos rfl]; simp
theorem fndAt_next {s x : ByteArray} (h : x ≠ s) (i : Nat) (t : List ByteArray) : fndAt s i (x :: t) = fndAt s (i + 1) t := by
 have e : fnd s (x :: t) = (fnd s t).map (· + 1) := by rw [fnd, if_neg h]
 unfold fndAt
 rw [e]
 cases fnd s t with
 | none => rfl
 | some k => simp only [Option.map_some]; omega
theorem index_l0 (l : List ByteArray) (s : ByteArray) (hl : l.length ≤ 140737488351232) (t : List ByteArray) : ∀ i : Nat, i ≤ l.length → l.drop i = t → Ev (fun k => slices_Index_string_string.l0 k l s (l.length : Int) (i : Int)) (fndAt s i t) := by
 induction t with
 | nil =>
  intro i hi h
  have : l.length = i := by have := congrArg List.length h; rw [List.length_drop] at this; simp at this; omega
  refine Ev.step (f := fun _ => some _) (fun k => ?_) (Ev.now _)
  simp only [slices_Index_string_string.l0]
  rw [if_neg (by omega)]
  rfl
 | cons x t ih =>
  intro i hi h
  obtain ⟨hlt, hx, hd⟩ := drop_cons h
  by_cases e : x = s
  ·subst e
   rw [fndAt_here]
   refine Ev.step (f := fun _ => some _) (fun k => ?_) (Ev.now _)
   simp only [slices_Index_string_string.l0]
   rw [if_pos (by omega), if_pos (by omega), if_pos (by omega), rdOf_get l i hlt, hx, if_pos rfl]
  ·rw [fndAt_next e]
   refine Ev.step (fun k => ?_) (ih (i + 1) (by omega) hd)
   simp only [slices_Index_string_string.l0]
   rw [if_pos (by omega), if_pos (by omega), if_pos (by omega), rdOf_get l i hlt, hx, if_neg (fun h => e (str_iff.1 h).symm), wrS i (by omega)]
theorem fndAt_zero (s : ByteArray) (l : List ByteArray) : fndAt s 0 l = fndI s l := by
 unfold fndAt fndI
 cases fnd s l with
 | none => rfl
 | some k => simp
theorem index_ev (l : List ByteArray) (s : ByteArray) (hl : l.length ≤ 140737488351232) : Ev (fun k => slices_Index_string_string.f k l s) (fndI s l) := by
 have := index_l0 l s hl l 0 (by omega) rfl
 rw [fndAt_zero] at this
 exact Ev.congr (fun k => rfl) this
theorem fndI_has (s : ByteArray) (l : List ByteArray) : decide (fndI s l ≥ 0) = decide (s ∈ l) := by
 rw [decide_eq_decide]
 unfold fndI
 cases h : fnd s l with
 | none => simp only; exact ⟨fun h => absurd h (by omega), fun h2 => absurd h2 (fnd_none.1 h)⟩
 | some k =>
  simp only
  refine ⟨fun _ => ?_, fun _ => by omega⟩
  obtain ⟨h1, h2⟩ := fnd_some h
  rw [← h2]; exact List.getElem_mem h1
theorem contains_ev (l : List ByteArray) (s : ByteArray) (hl : l.length ≤ 140737488351232) : Ev (fun k => slices_Contains_string_string.f k l s) (decide (s ∈ l)) := by
 refine Ev.congr (f := fun k => (slices_Index_string_string.f k l s).bind fun t102 => (some (decide (t102 ≥ 0)))) (fun k => rfl) ?_
 refine Ev.bind (index_ev l s hl) ?_
 rw [fndI_has]
 exact Ev.now _
theorem find_l0 (l : List ByteArray) (s : ByteArray) (hl : l.length ≤ 140737488351232) (t : List ByteArray) : ∀ i : Nat, i ≤ l.length → l.drop i = t → Ev (fun k => lexiphaneref1_Find.l0 k l s (i : Int)) (fndAt s i t) := by
 induction t with
 | nil =>
  intro i hi h
  have : l.length = i := by have := congrArg List.length h; rw [List.length_drop] at this; simp at this; omega
  refine Ev.step (f := fun _ => some _) (fun k => ?_) (Ev.now _)
  simp only [lexiphaneref1_Find.l0]
  rw [if_neg (by omega)]
  rfl
 | cons x t ih =>
  intro i hi h
  obtain ⟨hlt, hx, hd⟩ := drop_cons h
  by_cases e : x = s
  ·subst e
   rw [fndAt_here]
   refine Ev.step (f := fun _ => some _) (fun k => ?_) (Ev.now _)
   simp only [lexiphaneref1_Find.l0]
   rw [if_pos (by omega), if_pos (by omega), rdOf_get l i hlt, hx, if_pos rfl]
  ·rw [fndAt_next e]
   refine Ev.step (fun k => ?_) (ih (i + 1) (by omega) hd)
   simp only [lexiphaneref1_Find.l0]
   rw [if_pos (by omega), if_pos (by omega), rdOf_get l i hlt, hx, if_neg (fun h => e (str_iff.1 h)), wrS i (by omega)]
theorem find_ev (l : List ByteArray) (s : ByteArray) (hl : l.length ≤ 140737488351232) : Ev (fun k => lexiphaneref1_Find.f k l s) (fndI s l) := by
 have := find_l0 l s hl l 0 (by omega) rfl
 rw [fndAt_zero] at this
 exact Ev.congr (fun k => rfl) this
def phrR (x : Nat × Nat) : Int × Int := ((x.1 : Int), (x.2 : Int))
theorem phrases_l0 (l : List ByteArray) (hl : l.length ≤ 100) (hsz : ∀ s ∈ l, s.size ≤ 140737488351232) (t : List ByteArray) : ∀ (i sum : Nat), i ≤ l.length → sum ≤ 1000 → l.drop i = t →
  Ev (fun k => lexiphaneref1_Phrases.l0 k l (sum : Int) (i : Int)) (phrR (phr sum (l.take i) t)) := by
 induction t with
 | nil =>
  intro i sum hi hs h
  have : l.length = i := by have := congrArg List.length h; rw [List.length_drop] at this; simp at this; omega
  refine Ev.step (f := fun _ => some _) (fun k => ?_) (Ev.now _)
  simp only [lexiphaneref1_Phrases.l0]
  rw [if_neg (by omega)]
  rfl
 | cons x t ih =>
  intro i sum hi hs h
  obtain ⟨hlt, hx, hd⟩ := drop_cons h
  have hmem : x ∈ l := by rw [← hx]; exact List.getElem_mem hlt
  have hxs := hsz x hmem
  have hti : (l.take i).length = i := by rw [List.length_take]; omega
  unfold phr
  have ew := Aside0.mk (show wrap64 ((sum : Int) + (x.size : Int)) = ((sum + x.size : Nat) : Int) by rw [wr (by omega) (by omega)]; omega)
  by_cases h1 : x.size = 0
  ·rw [if_pos h1]
   refine Ev.step (f := fun _ => some _) (fun k => ?_) (Ev.now _)
   simp only [lexiphaneref1_Phrases.l0]
   rw [if_pos (by omega), if_pos (by omega), rdOf_get l i hlt, hx, if_pos (empty_iff.2 h1)]
   unfold phrR
   rw [hti]
   rfl
  ·rw [if_neg h1]
   have s1 : ∀ k, lexiphaneref1_Phrases.l0 (k + 1) l (sum : Int) (i : Int) = lexiphaneref1_Phrases.j1 k l ((sum + x.size : Nat) : Int) i (decide (40 < x.size ∨ 1000 < sum + x.size)) := by
    intro k
    simp only [lexiphaneref1_Phrases.l0]
    rw [if_pos (by omega), if_pos (by omega), rdOf_get l i hlt, hx, if_neg (fun h => h1 (empty_iff.1 h)), ew.out]
    by_cases h2 : 40 < x.size
    ·rw [if_pos (by omega)]; congr 1; symm; rw [decide_eq_true_iff]; exact Or.inl h2
    ·rw [if_neg (by omega)]; congr 1; rw [decide_eq_decide]; omega
   refine Ev.step s1 ?_
   by_cases h2 : 40 < x.size ∨ 1000 < sum + x.size
   ·rw [if_pos h2]
    refine Ev.step (f := fun _ => some _) (fun k => ?_) (Ev.now _)
    simp only [lexiphaneref1_Phrases.j1]
    rw [if_pos (by simpa using h2)]
    unfold phrR
    rw [hti]
    rfl
   ·rw [if_neg h2]
    have hf := find_ev l x (by omega)
    refine Ev.step (f := fun k => (lexiphaneref1_Find.f k l x).bind fun t131 => (if t131 < (i : Int) then (some (5, (i : Int))) else (lexiphaneref1_Phrases.l0 k l ((sum + x.size : Nat) : Int) (wrap64 ((i : Int) + 1))))) (fun k => ?_) ?_
    ·simp only [lexiphaneref1_Phrases.j1]
     rw [if_neg (by simpa using h2), if_pos (by omega), if_pos (by omega), rdOf_get l i hlt, hx]
    ·refine Ev.bind hf ?_
     have hsplit : l = l.take i ++ x :: t := by rw [← h, List.take_append_drop]
     by_cases h3 : x ∈ l.take i
     ·rw [if_pos h3]
      obtain ⟨q, hq, hlq⟩ := fnd_early (x :: t) h3
      rw [← hsplit] at hq
      have : fndI x l = (q : Int) := by unfold fndI; rw [hq]
      rw [this]
      refine Ev.congr (f := fun _ => some _) (fun k => ?_) (Ev.now _)
      rw [if_pos (by omega)]
      unfold phrR
      rw [hti]
      rfl
     ·rw [if_neg h3]
      have hq := fnd_here (b := t) h3
      rw [← hsplit, hti] at hq
      have : fndI x l = (i : Int) := by unfold fndI; rw [hq]
      rw [this]
      have hn := ih (i + 1) (sum + x.size) (by omega) (by omega) hd
      have e : l.take (i + 1) = l.take i ++ [x] := by rw [List.take_succ_eq_append_getElem hlt, hx]
      rw [e] at hn
      refine Ev.congr (fun k => ?_) hn
      rw [if_neg (by omega), wrS i (by omega)]
theorem phrases_ev (l : List ByteArray) (hsz : ∀ s ∈ l, s.size ≤ 140737488351232) : Ev (fun k => lexiphaneref1_Phrases.f k l) (phrR (phrases l)) := by
 unfold phrases
 by_cases h : 100 < l.length
 ·rw [if_pos h]
  refine Ev.congr (f := fun _ => some _) (fun k => ?_) (Ev.now _)
  unfold lexiphaneref1_Phrases.f
  rw [if_pos (by omega)]
  rfl
 ·rw [if_neg h]
  have := phrases_l0 l (by omega) hsz l 0 0 (by omega) (by omega) rfl
  refine Ev.congr (fun k => ?_) this
  unfold lexiphaneref1_Phrases.f
  rw [if_neg (by omega)]
  rfl
theorem few_l0 (l : List ByteArray) (hl : l.length ≤ 140737488351232) (hsz : ∀ s ∈ l, s.size ≤ 140737488351232) (t : List ByteArray) : ∀ (i : Nat) (sum : Int), i ≤ l.length → l.drop i = t →
  ∃ n, Ev (fun k => lexiphanelaw6_Few.l0 k l sum l (l.length : Int) (i : Int)) (decide (l.length ≤ 110 ∧ n ≤ 1300)) ∧ (l.length ≤ 110 → 0 ≤ sum → sum ≤ i * 140737488351232 → n = sum + total t) := by
 induction t with
 | nil =>
  intro i sum hi h
  have : l.length = i := by have := congrArg List.length h; rw [List.length_drop] at this; simp at this; omega
  refine ⟨sum, ?_, fun _ _ _ => by simp [total]⟩
  refine Ev.step (f := fun _ => some _) (fun k => ?_) (Ev.now _)
  simp only [lexiphanelaw6_Few.l0]
  rw [if_neg (by omega)]
  by_cases h110 : l.length ≤ 110
  ·rw [if_pos (by omega)]; congr 1; rw [decide_eq_decide]; omega
  ·rw [if_neg (by omega)]; congr 1; symm; rw [decide_eq_false_iff_not]; omega
 | cons x t ih =>
  intro i sum hi h
  obtain ⟨hlt, hx, hd⟩ := drop_cons h
  have hmem : x ∈ l := by rw [← hx]; exact List.getElem_mem hlt
  have hxs := hsz x hmem
  obtain ⟨n, hn, hn2⟩ := ih (i + 1) (wrap64 (sum + (x.size : Int))) (by omega) hd
  refine ⟨n, ?_, fun h110 h0 h1 => ?_⟩
  ·refine Ev.step (fun k => ?_) hn
   simp only [lexiphanelaw6_Few.l0]
   rw [if_pos (by omega), if_pos (by omega), if_pos (by omega), rdOf_get l i hlt, hx, wrS i (by omega)]
  ·have hw : wrap64 (sum + (x.size : Int)) = sum + (x.size : Int) := wr (by omega) (by omega)
   rw [hw] at hn2
   have := hn2 h110 (by omega) (by omega)
   rw [this]
   simp only [total]
   omega
def few (l : List ByteArray) : Bool := decide (l.length ≤ 110 ∧ total l ≤ 1300)
theorem few_ev (l : List ByteArray) (hl : l.length ≤ 140737488351232) (hsz : ∀ s ∈ l, s.size ≤ 140737488351232) : Ev (fun k => lexiphanelaw6_Few.f k l) (few l) := by
 obtain ⟨n, h1, h2⟩ := few_l0 l hl hsz l 0 0 (by omega) rfl
 have e : few l = decide (l.length ≤ 110 ∧ n ≤ 1300) := by
  unfold few
  rw [decide_eq_decide]
  by_cases h : l.length ≤ 110
  ·have := h2 h (by omega) (by omega)
   omega
  ·exact ⟨fun e => absurd e.1 h, fun e => absurd e.1 h⟩
 rw [e]
 exact Ev.congr (fun k => rfl) h1
theorem num_len {n : Nat} (h : n < 4294967296) : (num n).length ≤ 5 := by
 by_cases h1 : n < 128
 ·rw [num_small h1]; simp
 ·rw [num_big h1, List.length_cons]
  by_cases h2 : n / 128 < 128
  ·rw [num_small h2]; simp
  ·rw [num_big h2, List.length_cons]
   by_cases h3 : n / 128 / 128 < 128
   ·rw [num_small h3]; simp
   ·rw [num_big h3, List.length_cons]
    by_cases h4 : n / 128 / 128 / 128 < 128
    ·rw [num_small h4]; simp
    ·rw [num_big h4, List.length_cons, num_small (by omega)]; simp
end Go.Proofs.YtepgkimlmoikmaaGreat.Bridge
