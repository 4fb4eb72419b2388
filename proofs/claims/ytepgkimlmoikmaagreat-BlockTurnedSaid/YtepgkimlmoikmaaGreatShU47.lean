/- ShU: a part of its proof (contracts of the functions that it reaches, and the plain mathematics behind them). -/
import Derived.Test.YtepgkimlmoikmaaGreatShU46
import Derived.Test.YtepgkimlmoikmaaGreatShU45
set_option linter.unusedVariables false
set_option linter.unusedSimpArgs false
set_option maxHeartbeats 2000000
set_option maxRecDepth 100000
set_option linter.unusedVariables false
set_option linter.unusedSimpArgs false
namespace Go.Proofs.YtepgkimlmoikmaaGreat
open Go.RowKit Go.Proofs.YtepgkimlmoikmaaGreat.Spec Go.Proofs.YtepgkimlmoikmaaGreatW.PrintWords Go.Proofs.YtepgkimlmoikmaaGreatW.PrintLast
open Go.Proofs.YtepgkimlmoikmaaGreatW.PrintMore
namespace RefG
theorem rkraft_l0 (l : List Int) (hl : l.length ≤ 1000000) (d : Nat) : ∀ (i acc : Nat), i + d = l.length → acc ≤ 32768 * i → Ev (fun k => Leaf.lexiphaneref1_Kraft.l0 k l (acc : Int) (i : Int)) (((acc + kraftL (l.drop i) : Nat) : Int)) := by
 induction d with
 | zero =>
  intro i acc hi ha
  refine Ev.step (f := fun _ => some _) (fun k => ?_) (Ev.now _)
  simp only [Leaf.lexiphaneref1_Kraft.l0]
  rw [if_neg (by omega), List.drop_of_length_le (by omega)]
  rfl
 | succ d ih =>
  intro i acc hi ha
  have hlt : i < l.length := by omega
  rw [List.drop_eq_getElem_cons hlt, kraftL]
  by_cases h1 : l[i] ≥ 1
  ·by_cases h2 : l[i] ≤ 15
   ·rw [if_pos ⟨h1, h2⟩, ← Nat.add_assoc]
    have hp : 2 ^ (15 - l[i].toNat) ≤ 2 ^ 15 := Nat.pow_le_pow_right (by omega) (by omega)
    have e0 : wrap64 (15 - l[i]) = ((15 - l[i].toNat : Nat) : Int) := by rw [Bridge.wr (by omega) (by omega)]; omega
    have e1 : IntKind.u64.wrap ((15 - l[i].toNat : Nat) : Int) = ((15 - l[i].toNat : Nat) : Int) := by rw [IntKind.wrap_u64]; omega
    have e2 : shl .i64 1 ((15 - l[i].toNat : Nat) : Int) = ((2 ^ (15 - l[i].toNat) : Nat) : Int) := by
     unfold shl
     rw [Int.toNat_natCast, Nat.min_eq_left (by show 15 - l[i].toNat ≤ 64; omega), i64_w, Int.one_mul]
     have h := Bridge.wrN (2 ^ (15 - l[i].toNat)) (by omega)
     rw [Int.natCast_pow] at h ⊢
     exact h
    refine Ev.step (fun k => ?_) (ih (i + 1) (acc + 2 ^ (15 - l[i].toNat)) (by omega) (by omega))
    simp only [Leaf.lexiphaneref1_Kraft.l0]
    rw [if_pos (by omega), if_pos (by omega), rd_at l i hlt, if_pos h1, if_pos h2, e0, e1, if_pos (by omega), e2, Bridge.wrS i (by omega), ← Int.natCast_add, Bridge.wrN _ (by omega)]
   ·rw [if_neg (fun h => h2 h.2), Nat.zero_add]
    refine Ev.step (fun k => ?_) (ih (i + 1) acc (by omega) (by omega))
    simp only [Leaf.lexiphaneref1_Kraft.l0]
    rw [if_pos (by omega), if_pos (by omega), rd_at l i hlt, if_pos h1, if_neg h2, Bridge.wrS i (by omega)]
  ·rw [if_neg (fun h => h1 h.1), Nat.zero_add]
   refine Ev.step (fun k => ?_) (ih (i + 1) acc (by omega) (by omega))
   simp only [Leaf.lexiphaneref1_Kraft.l0]
   rw [if_pos (by omega), if_pos (by omega), rd_at l i hlt, if_neg h1, Bridge.wrS i (by omega)]
theorem rkraft_ev (l : List Int) (hl : l.length ≤ 1000000) : Ev (fun k => Leaf.lexiphaneref1_Kraft.f k l) ((kraftL l : Nat) : Int) := by
 have h := rkraft_l0 l hl l.length 0 0 (by omega) (Nat.le_refl 0)
 rw [List.drop_zero, Nat.zero_add] at h
 exact h
def lastp (o : Int) : List Int → Int
 | [] => o
 | x :: r => lastp (if 0 < x then x else o) r
theorem lastp_one : ∀ (l : List Int) (o : Int), usedL l = 0 → lastp o l = o := by
 intro l
 induction l with
 | nil => intro o _; rfl
 | cons x r ih =>
  intro o h
  rw [usedL] at h
  by_cases h0 : 0 < x
  ·rw [if_pos h0] at h; omega
  ·rw [if_neg h0] at h
   rw [lastp, if_neg h0]
   exact ih o (by omega)
theorem used_mem : ∀ (l : List Int), usedL l = 0 → ∀ x ∈ l, ¬ 0 < x := by
 intro l
 induction l with
 | nil => intro _ x hx; cases hx
 | cons y r ih =>
  intro h x hx
  rw [usedL] at h
  by_cases h0 : 0 < y
  ·rw [if_pos h0] at h; omega
  ·rw [if_neg h0] at h
   rcases List.mem_cons.1 hx with e | e
   ·rw [e]; exact h0
   ·exact ih (by omega) x e
theorem lastp_mem : ∀ (l : List Int) (o : Int), usedL l = 1 → (lastp o l = 1 ↔ (1 : Int) ∈ l) := by
 intro l
 induction l with
 | nil => intro o h; cases h
 | cons x r ih =>
  intro o h
  rw [usedL] at h
  rw [lastp]
  by_cases h0 : 0 < x
  ·rw [if_pos h0] at h ⊢
   rw [lastp_one r x (by omega)]
   constructor
   ·intro e; rw [e]; exact List.mem_cons_self ..
   ·intro e
    rcases List.mem_cons.1 e with g | g
    ·exact g.symm
    ·exact absurd (show (0 : Int) < 1 by decide) (used_mem r (by omega) 1 g)
  ·rw [if_neg h0] at h ⊢
   rw [ih o (by omega)]
   constructor
   ·intro e; exact List.mem_cons_of_mem _ e
   ·intro e
    rcases List.mem_cons.1 e with g | g
    ·omega
    ·exact g
def rightR (l : List Int) (u : Nat) (o : Int) : Int := if kraftL l = 32768 then 0 else if (u : Int) = 1 then (if o = 1 then 0 else 8) else 8
theorem rright_l0 (l : List Int) (hl : l.length ≤ 100000) (hs : ∀ x ∈ l, 0 ≤ x ∧ x ≤ 15) (d : Nat) : ∀ (i u : Nat) (o : Int), i + d = l.length → u ≤ i → Ev (fun k => Leaf.lexiphaneref1_Right.l0 k l (u : Int) o (i : Int)) (rightR l (u + usedL (l.drop i)) (lastp o (l.drop i))) := by
 induction d with
 | zero =>
  intro i u o hi hu
  rw [List.drop_of_length_le (by omega)]
  refine Ev.step (f := fun k => (Leaf.lexiphaneref1_Kraft.f k l).bind fun t => (if t = 32768 then (some 0) else (if (u : Int) = 1 then (if o = 1 then (some 0) else (some 8)) else (some 8)))) (fun k => ?_) ?_
  ·simp only [Leaf.lexiphaneref1_Right.l0]
   rw [if_neg (by omega)]
  ·refine Ev.bind (rkraft_ev l (by omega)) ?_
   refine Ev.congr (f := fun _ => some _) (fun k => ?_) (Ev.now _)
   show _ = some (rightR l (u + 0) o)
   rw [Nat.add_zero]
   unfold rightR
   by_cases h : kraftL l = 32768
   ·rw [if_pos (by omega), if_pos h]
   ·rw [if_neg (by omega), if_neg h]
    split
    ·split <;> rfl
    ·rfl
 | succ d ih =>
  intro i u o hi hu
  have hlt : i < l.length := by omega
  have hx := hs l[i] (List.getElem_mem hlt)
  rw [List.drop_eq_getElem_cons hlt, usedL, lastp]
  refine Ev.step (f := fun k => Leaf.lexiphaneref1_Right.j1 k l (u : Int) o (i : Int) false) (fun k => ?_) ?_
  ·simp only [Leaf.lexiphaneref1_Right.l0]
   rw [if_pos (by omega), if_pos (by omega), rd_at l i hlt, if_neg (by omega), decide_eq_false (show ¬ l[i] > 15 by omega)]
  ·by_cases h : 0 < l[i]
   ·rw [if_pos h, if_pos h, ← Nat.add_assoc]
    refine Ev.step (fun k => ?_) (ih (i + 1) (u + 1) l[i] (by omega) (by omega))
    simp only [Leaf.lexiphaneref1_Right.j1]
    rw [if_neg (by decide), if_pos (by omega), if_pos (by omega), rd_at l i hlt, if_pos h, Bridge.wrS i (by omega), Bridge.wrS u (by omega)]
   ·rw [if_neg h, if_neg h, Nat.zero_add]
    refine Ev.step (fun k => ?_) (ih (i + 1) u o (by omega) (by omega))
    simp only [Leaf.lexiphaneref1_Right.j1]
    rw [if_neg (by decide), if_pos (by omega), if_pos (by omega), rd_at l i hlt, if_neg h, Bridge.wrS i (by omega)]
theorem rright_ev (l : List Int) (hl : l.length ≤ 100000) (hs : ∀ x ∈ l, 0 ≤ x ∧ x ≤ 15) : Ev (fun k => Leaf.lexiphaneref1_Right.f k l) (cright l) := by
 have h := rright_l0 l hl hs l.length 0 0 0 (by omega) (Nat.le_refl 0)
 rw [List.drop_zero, Nat.zero_add] at h
 have e : rightR l (usedL l) (lastp 0 l) = cright l := by
  have hany : ¬ l.any (fun x => decide (Out15 x)) = true := by
   rw [List.any_eq_true]
   rintro ⟨x, hx, hd⟩
   have h7 := hs x hx
   have h8 := of_decide_eq_true hd
   unfold Out15 at h8
   omega
  unfold rightR cright
  rw [if_neg hany]
  by_cases h1 : kraftL l = 32768
  ·rw [if_pos h1, if_pos (.inl h1)]
  ·rw [if_neg h1]
   by_cases h2 : usedL l = 1
   ·rw [if_pos (by omega)]
    by_cases h3 : (1 : Int) ∈ l
    ·rw [if_pos ((lastp_mem l 0 h2).2 h3), if_pos (.inr ⟨h2, h3⟩)]
    ·rw [if_neg (fun g => h3 ((lastp_mem l 0 h2).1 g)), if_neg]
     rintro (g | ⟨_, g⟩)
     ·exact h1 g
     ·exact h3 g
   ·rw [if_neg (by omega), if_neg]
    rintro (g | ⟨g, _⟩)
    ·exact h1 g
    ·exact h2 g
 rw [e] at h
 exact h
theorem rcodes_l1 (l : List Int) (hl : l.length ≤ 2000) (n : Nat) (h1 : 1 ≤ n) (h15 : n ≤ 15) (R : List Int × Int)
  (H : Ev (fun k => Leaf.lexiphaneref1_Codes.l0 k l (outL l (n + 1) 0) ((preC l n : Nat) : Int) ((n + 1 : Nat) : Int)) R) (d : Nat) : ∀ s : Nat, s + d = l.length →
  Ev (fun k => Leaf.lexiphaneref1_Codes.l1 k l (outL l n s) ((2 * preC l (n - 1) + cnt (l.take s) (n : Int) : Nat) : Int) (n : Int) (s : Int)) R := by
 induction d with
 | zero =>
  intro s hs
  refine Ev.step (fun k => ?_) H
  simp only [Leaf.lexiphaneref1_Codes.l1]
  have hse : s = l.length := by omega
  have hp : preC l n = 2 * preC l (n - 1) + cnt l (n : Int) := by
   obtain ⟨m, rfl⟩ : ∃ m, n = m + 1 := ⟨n - 1, by omega⟩
   rw [preC, Nat.add_sub_cancel]
  rw [if_neg (by omega), hse, List.take_length, ← hp, outL_next l n h1, Bridge.wrS n (by omega)]
 | succ d ih =>
  intro s hs
  have hlt : s < l.length := by omega
  have hct := cnt_take l (n : Int) s hlt
  have hnx := next_le l n s hl h15
  have hi := ih (s + 1) (by omega)
  by_cases hx : l[s] = (n : Int)
  ·rw [if_pos hx] at hct
   rw [hct, ← Nat.add_assoc, outL_set l n s hlt (by rw [getD_at l s hlt, hx]), cod_at l s n hlt h1 h15 hx] at hi
   refine Ev.step (fun k => ?_) hi
   simp only [Leaf.lexiphaneref1_Codes.l1]
   rw [if_pos (by omega), if_pos (by omega), rd_at l s hlt, if_pos hx, if_pos (by rw [outL_len]; omega), Int.toNat_natCast, Bridge.wrS s (by omega), Bridge.wrS _ (by omega)]
  ·rw [if_neg hx, Nat.add_zero] at hct
   rw [hct, outL_skip l n s (by rw [getD_at l s hlt]; exact hx)] at hi
   refine Ev.step (fun k => ?_) hi
   simp only [Leaf.lexiphaneref1_Codes.l1]
   rw [if_pos (by omega), if_pos (by omega), rd_at l s hlt, if_neg hx, Bridge.wrS s (by omega)]
   rfl
theorem rcodes_l0 (l : List Int) (hl : l.length ≤ 2000) (m : Nat) : ∀ n : Nat, n + m = 16 → 1 ≤ n → Ev (fun k => Leaf.lexiphaneref1_Codes.l0 k l (outL l n 0) ((preC l (n - 1) : Nat) : Int) (n : Int)) (codesL l, 0) := by
 induction m with
 | zero =>
  intro n hn h1
  obtain rfl : n = 16 := by omega
  refine Ev.step (f := fun _ => some _) (fun k => ?_) (Ev.now _)
  simp only [Leaf.lexiphaneref1_Codes.l0]
  rw [if_neg (by omega), outL_all]
 | succ m ih =>
  intro n hn h1
  have hi := ih (n + 1) (by omega) (by omega)
  rw [Nat.add_sub_cancel] at hi
  have h2 := rcodes_l1 l hl n h1 (by omega) _ hi l.length 0 (by omega)
  have hnx := next_le l n 0 hl (by omega)
  have hcz : cnt (l.take 0) (n : Int) = 0 := rfl
  rw [hcz, Nat.add_zero] at h2 hnx
  refine Ev.step (fun k => ?_) h2
  simp only [Leaf.lexiphaneref1_Codes.l0]
  rw [if_pos (by omega), show ((preC l (n - 1) : Nat) : Int) * 2 = ((2 * preC l (n - 1) : Nat) : Int) by omega, Bridge.wrN _ (by omega)]
  rfl
theorem rcodes_ev (l : List Int) (hl : l.length ≤ 2000) (hs : ∀ x ∈ l, 0 ≤ x ∧ x ≤ 15) : Ev (fun k => Leaf.lexiphaneref1_Codes.f k l) (if cright l = 0 then (codesL l, 0) else ([], cright l)) := by
 refine Ev.congr (fun k => rfl) (Ev.bind (f := fun k t206 => (if t206 = 0 then (if 0 ≤ (l.length : Int) then (if ((l.length : Int) : Int).toNat ≤ 35184372088832 then (Leaf.lexiphaneref1_Codes.l0 k l (List.replicate ((l.length : Int) : Int).toNat 0) 0 1) else (none)) else (none)) else (some (([] : List Int), t206)))) (rright_ev l (by omega) hs) ?_)
 by_cases h : cright l = 0
 ·rw [if_pos h]
  have h1 := rcodes_l0 l hl 15 1 (by omega) (Nat.le_refl 1)
  rw [outL_one] at h1
  refine Ev.congr (fun k => ?_) h1
  rw [if_pos h, if_pos (by omega), if_pos (by omega), Int.toNat_natCast]
  rfl
 ·rw [if_neg h]
  refine Ev.congr (f := fun _ => some _) (fun k => ?_) (Ev.now _)
  rw [if_neg h]
theorem lz : ∀ (l : List Int), (∀ x ∈ l, ¬ 0 < x) → usedL l = 0 := by
 intro l
 induction l with
 | nil => intro _; rfl
 | cons x r ih =>
  intro h
  rw [usedL, if_neg (h x (List.mem_cons_self ..)), ih (fun y hy => h y (List.mem_cons_of_mem _ hy))]
def bitsL (b : ByteArray) (n : Nat) : List Int := (List.range n).map (fun i : Nat => (bitAt b i : Int))
theorem bitsL_len (b : ByteArray) (n : Nat) : (bitsL b n).length = n := by unfold bitsL; rw [List.length_map, List.length_range]
theorem bitsL_at (b : ByteArray) (n i : Nat) (h : i < n) : rd (bitsL b n) (i : Int) = (bitAt b i : Int) := by
 unfold rd bitsL
 rw [Int.toNat_natCast, List.getD_eq_getElem?_getD, List.getElem?_map, List.getElem?_range h]
 rfl
theorem bitsL_succ (b : ByteArray) (n : Nat) : bitsL b (n + 1) = bitsL b n ++ [(bitAt b n : Int)] := by
 unfold bitsL
 rw [List.range_succ, List.map_append]
 rfl
theorem bit_val (b : ByteArray) (i j : Nat) (hi : i < b.size) (hj : j ≤ 7) : Go.bits .and .i64 (shr .i64 (wrap64 (bt b (i : Int))) (IntKind.u64.wrap (j : Int))) 1 = (bitAt b (8 * i + (7 - j)) : Int) := by
 have hl : i < (u b).length := by rw [u_size]; exact hi
 have h8 := (u b)[i].toNat_lt
 have e1 : wrap64 (bt b (i : Int)) = ((u b)[i].toNat : Int) := by rw [Bridge.bt_u b i hl, Bridge.wrN _ (by omega)]
 have e2 : IntKind.u64.wrap (j : Int) = (j : Int) := by rw [IntKind.wrap_u64]; omega
 have hd : (u b)[i].toNat / 2 ^ j ≤ (u b)[i].toNat := Nat.div_le_self _ _
 have e3 : shr .i64 ((u b)[i].toNat : Int) (j : Int) = (((u b)[i].toNat / 2 ^ j : Nat) : Int) := by
  unfold shr
  rw [Int.toNat_natCast, Nat.min_eq_left (by show j ≤ 64; omega), Int.natCast_ediv, Int.natCast_pow]
  rfl
 rw [e1, e2, e3, bits_and1 _ (by omega)]
 unfold bitAt
 have g1 : (8 * i + (7 - j)) / 8 = i := by omega
 have g2 : 7 - (8 * i + (7 - j)) % 8 = j := by omega
 rw [g1, g2, List.getD_eq_getElem?_getD, List.getElem?_eq_getElem hl]
 rfl
theorem rbits_l1 (b : ByteArray) (hb : b.size ≤ 100000) (i : Nat) (hi : i < b.size) (R : List Int) (H : Ev (fun k => Leaf.lexiphaneref1_bitsOf.l0 k b (bitsL b (8 * (i + 1))) ((i + 1 : Nat) : Int)) R) :
  ∀ j : Nat, j ≤ 8 → Ev (fun k => Leaf.lexiphaneref1_bitsOf.l1 k b (bitsL b (8 * i + (8 - j))) (i : Int) ((j : Int) - 1)) R := by
 intro j
 induction j with
 | zero =>
  intro _
  refine Ev.step (fun k => ?_) H
  simp only [Leaf.lexiphaneref1_bitsOf.l1]
  rw [if_neg (by omega), Bridge.wrS i (by omega), show 8 * i + (8 - 0) = 8 * (i + 1) by omega]
 | succ j ih =>
  intro hj
  have h := ih (by omega)
  rw [show 8 * i + (8 - j) = 8 * i + (7 - j) + 1 by omega, bitsL_succ, ← bit_val b i j hi (by omega)] at h
  refine Ev.step (fun k => ?_) h
  simp only [Leaf.lexiphaneref1_bitsOf.l1]
  have e0 : ((j + 1 : Nat) : Int) - 1 = (j : Int) := by omega
  have e2 : IntKind.u64.wrap (j : Int) = (j : Int) := by rw [IntKind.wrap_u64]; omega
  have e3 : wrap64 ((j : Int) - 1) = (j : Int) - 1 := Bridge.wr (by omega) (by omega)
  rw [e0, if_pos (by omega), if_pos (by omega), if_pos (by omega), e2, if_pos (by omega), if_pos (by rw [bitsL_len]; omega), e3, show 8 * i + (8 - (j + 1)) = 8 * i + (7 - j) by omega]
theorem rbits_l0 (b : ByteArray) (hb : b.size ≤ 100000) (d : Nat) : ∀ i : Nat, i + d = b.size → Ev (fun k => Leaf.lexiphaneref1_bitsOf.l0 k b (bitsL b (8 * i)) (i : Int)) (bitsL b (8 * b.size)) := by
 induction d with
 | zero =>
  intro i hi
  refine Ev.step (f := fun _ => some _) (fun k => ?_) (Ev.now _)
  simp only [Leaf.lexiphaneref1_bitsOf.l0]
  rw [if_neg (by omega), show i = b.size by omega]
 | succ d ih =>
  intro i hi
  have h := rbits_l1 b hb i (by omega) _ (ih (i + 1) (by omega)) 8 (Nat.le_refl 8)
  refine Ev.step (fun k => ?_) h
  simp only [Leaf.lexiphaneref1_bitsOf.l0]
  rw [if_pos (by omega)]
  rfl
theorem rbits_ev (b : ByteArray) (hb : b.size ≤ 100000) : Ev (fun k => Leaf.lexiphaneref1_bitsOf.f k b) (bitsL b (8 * b.size)) :=
 Ev.congr (fun k => rfl) (rbits_l0 b hb b.size 0 (by omega))
def res (r : Int × Int × Nat) : Int × Int × Int := (r.1, (r.2.2 : Int), r.2.1)
theorem rdc (L : List Int) (i : Nat) (h : i < L.length) : rd (codesL L) (i : Int) = cod L i := by
 unfold rd codesL
 rw [Int.toNat_natCast, List.getD_eq_getElem?_getD, List.getElem?_map, List.getElem?_range h]
 rfl
theorem rnext_l1 (L : List Int) (hL : L.length ≤ 2000) (bs : List Int) (a v n : Nat) (R : Int × Int × Int)
  (Hhit : ∀ i, i < L.length → L.getD i 0 = (n : Int) → cod L i = (v : Int) → R = ((i : Int), (n : Int), 0))
  (Hmore : (∃ j, j < L.length ∧ (n : Int) < L.getD j 0) → (∀ i, i < L.length → ¬ (L.getD i 0 = (n : Int) ∧ cod L i = (v : Int))) → Ev (fun k => Leaf.lexiphaneref1_Next.l0 k L (codesL L) bs (a : Int) (v : Int) (wrap64 ((n : Int) + 1))) R)
  (Hend : ¬ (∃ j, j < L.length ∧ (n : Int) < L.getD j 0) → (∀ i, i < L.length → ¬ (L.getD i 0 = (n : Int) ∧ cod L i = (v : Int))) → R = (0, 0, 8)) (d : Nat) :
  ∀ (i : Nat) (more : Bool), i + d = L.length → (∀ j, j < i → ¬ (L.getD j 0 = (n : Int) ∧ cod L j = (v : Int))) → (more = true ↔ ∃ j, j < i ∧ (n : Int) < L.getD j 0) →
  Ev (fun k => Leaf.lexiphaneref1_Next.l1 k L (codesL L) bs (a : Int) (v : Int) (n : Int) more (i : Int)) R := by
 induction d with
 | zero =>
  intro i more hi hno hm
  have hie : i = L.length := by omega
  rw [hie] at hno hm
  cases more with
  | true =>
   refine Ev.step (fun k => ?_) (Hmore (hm.1 rfl) hno)
   simp only [Leaf.lexiphaneref1_Next.l1]
   rw [if_neg (by omega), if_pos trivial]
  | false =>
   have hR := Hend (fun g => absurd (hm.2 g) (by decide)) hno
   subst hR
   refine Ev.step (f := fun _ => some _) (fun k => ?_) (Ev.now _)
   simp only [Leaf.lexiphaneref1_Next.l1]
   rw [if_neg (by omega), if_neg (by decide)]
 | succ d ih =>
  intro i more hi hno hm
  have hlt : i < L.length := by omega
  have hg := getD_at L i hlt
  by_cases hx : L[i] = (n : Int)
  ·by_cases hc : cod L i = (v : Int)
   ·have hR := Hhit i hlt (by rw [hg, hx]) hc
    subst hR
    refine Ev.step (f := fun _ => some _) (fun k => ?_) (Ev.now _)
    simp only [Leaf.lexiphaneref1_Next.l1]
    rw [if_pos (by omega), if_pos (by omega), rd_at L i hlt, if_pos hx, if_pos (by rw [codesL_len]; omega), rdc L i hlt, if_pos hc]
   ·have hno2 : ∀ j, j < i + 1 → ¬ (L.getD j 0 = (n : Int) ∧ cod L j = (v : Int)) := by
     intro j hj
     by_cases e : j = i
     ·subst e; exact fun g => hc g.2
     ·exact hno j (by omega)
    cases more with
    | true =>
     refine Ev.step (fun k => ?_) (ih (i + 1) true (by omega) hno2 ⟨fun _ => by obtain ⟨j, h1, h2⟩ := hm.1 rfl; exact ⟨j, by omega, h2⟩, fun _ => rfl⟩)
     simp only [Leaf.lexiphaneref1_Next.l1]
     rw [if_pos (by omega), if_pos (by omega), rd_at L i hlt, if_pos hx, if_pos (by rw [codesL_len]; omega), rdc L i hlt, if_neg hc, if_pos trivial, Bridge.wrS i (by omega)]
    | false =>
     refine Ev.step (fun k => ?_) (ih (i + 1) (decide (L[i] > (n : Int))) (by omega) hno2 ⟨fun h => ⟨i, by omega, by rw [hg]; exact of_decide_eq_true h⟩, fun ⟨j, h1, h2⟩ => by
      by_cases e : j = i
      ·subst e; rw [hg] at h2; exact decide_eq_true h2
      ·exact absurd (hm.2 ⟨j, by omega, h2⟩) (by decide)⟩)
     simp only [Leaf.lexiphaneref1_Next.l1]
     rw [if_pos (by omega), if_pos (by omega), rd_at L i hlt, if_pos hx, if_pos (by rw [codesL_len]; omega), rdc L i hlt, if_neg hc, if_neg (by decide), Bridge.wrS i (by omega)]
  ·have hno2 : ∀ j, j < i + 1 → ¬ (L.getD j 0 = (n : Int) ∧ cod L j = (v : Int)) := by
    intro j hj
    by_cases e : j = i
    ·subst e; exact fun g => hx (by rw [← hg]; exact g.1)
    ·exact hno j (by omega)
   cases more with
   | true =>
    refine Ev.step (fun k => ?_) (ih (i + 1) true (by omega) hno2 ⟨fun _ => by obtain ⟨j, h1, h2⟩ := hm.1 rfl; exact ⟨j, by omega, h2⟩, fun _ => rfl⟩)
    simp only [Leaf.lexiphaneref1_Next.l1]
    rw [if_pos (by omega), if_pos (by omega), rd_at L i hlt, if_neg hx, if_pos trivial, Bridge.wrS i (by omega)]
   | false =>
    refine Ev.step (fun k => ?_) (ih (i + 1) (decide (L[i] > (n : Int))) (by omega) hno2 ⟨fun h => ⟨i, by omega, by rw [hg]; exact of_decide_eq_true h⟩, fun ⟨j, h1, h2⟩ => by
     by_cases e : j = i
     ·subst e; rw [hg] at h2; exact decide_eq_true h2
     ·exact absurd (hm.2 ⟨j, by omega, h2⟩) (by decide)⟩)
    simp only [Leaf.lexiphaneref1_Next.l1]
    rw [if_pos (by omega), if_pos (by omega), rd_at L i hlt, if_neg hx, if_neg (by decide), Bridge.wrS i (by omega)]
theorem more_iff {L : List Int} {M : Nat} (hp : 0 < L.length) (hM : maxL L = (M : Int)) (n : Nat) : (∃ j, j < L.length ∧ (n : Int) < L.getD j 0) ↔ n < M := by
 constructor
 ·rintro ⟨j, hj, h⟩
  have h1 := maxL_ge L L[j] (List.getElem_mem hj)
  rw [getD_at L j hj] at h
  omega
 ·intro h
  obtain ⟨j, hj, e⟩ := List.getElem_of_mem (maxL_mem L hp)
  exact ⟨j, hj, by rw [getD_at L j hj, e]; omega⟩
theorem rnext_l0 (L : List Int) (hL : L.length ≤ 2000) (hp : 0 < L.length) (M : Nat) (hM : maxL L = (M : Int)) (h15 : M ≤ 15) (b : ByteArray) (hb : b.size ≤ 100000) (a : Nat) (ha : a ≤ 8 * b.size) (f : Nat) : ∀ n : Nat, n + f = M → 1 ≤ n →
  Ev (fun k => Leaf.lexiphaneref1_Next.l0 k L (codesL L) (bitsL b (8 * b.size)) (a : Int) ((peekV b a (n - 1) : Nat) : Int) (n : Int)) (res (nextF L b a (8 * b.size - a) (f + 1) n)) := by
 induction f with
 | zero =>
  intro n hn h1
  rw [nextF]
  by_cases hl : 8 * b.size - a < n
  ·rw [if_pos hl]
   refine Ev.step (f := fun _ => some _) (fun k => ?_) (Ev.now _)
   simp only [Leaf.lexiphaneref1_Next.l0]
   rw [if_pos (by omega), ← Int.natCast_add, Bridge.wrN _ (by omega), if_pos (by rw [bitsL_len]; omega)]
   rfl
  ·rw [if_neg hl]
   have hv := peekV_lt b a (n - 1)
   have h2 : 2 ^ (n - 1) ≤ 2 ^ 14 := Nat.pow_le_pow_right (by omega) (by omega)
   have hpe : peekV b a n = 2 * peekV b a (n - 1) + bitAt b (a + (n - 1)) := by obtain ⟨m, rfl⟩ : ∃ m, n = m + 1 := ⟨n - 1, by omega⟩; rw [peekV, Nat.add_sub_cancel]
   have hbt := bitAt_lt b (a + (n - 1))
   refine Ev.step (f := fun k => Leaf.lexiphaneref1_Next.l1 k L (codesL L) (bitsL b (8 * b.size)) (a : Int) ((peekV b a n : Nat) : Int) (n : Int) false 0) (fun k => ?_) ?_
   ·simp only [Leaf.lexiphaneref1_Next.l0]
    have e1 : ((a + n : Nat) : Int) - 1 = ((a + (n - 1) : Nat) : Int) := by omega
    have e2 : ((peekV b a (n - 1) : Nat) : Int) * 2 = ((2 * peekV b a (n - 1) : Nat) : Int) := by omega
    rw [if_pos (by omega), ← Int.natCast_add, Bridge.wrN (a + n) (by omega), if_neg (by rw [bitsL_len]; omega), e1, Bridge.wrN (a + (n - 1)) (by omega), if_pos (by omega), if_pos (by rw [bitsL_len]; omega), bitsL_at b _ _ (by omega), e2, Bridge.wrN (2 * peekV b a (n - 1)) (by omega), ← Int.natCast_add, Bridge.wrN _ (by omega), hpe]
   ·refine rnext_l1 L hL _ a _ n _ (fun i hi g1 g2 => ?_) (fun g _ => ?_) (fun _ g2 => ?_) L.length 0 false (by omega) (fun j hj => absurd hj (Nat.not_lt_zero j)) ⟨fun h => absurd h (by decide), fun ⟨j, h, _⟩ => absurd h (Nat.not_lt_zero j)⟩
    ·obtain ⟨k1, k2, k3⟩ := hit_yes L n i ⟨h1, by omega⟩ hi g1
     rw [g2] at k1 k2 k3
     rw [if_pos ⟨k1, k2⟩, k3]
     rfl
    ·exact absurd ((more_iff hp hM n).1 g) (by omega)
    ·rw [if_neg (hit_no L n _ ⟨h1, by omega⟩ g2)]
     rfl
 | succ f ih =>
  intro n hn h1
  rw [nextF]
  by_cases hl : 8 * b.size - a < n
  ·rw [if_pos hl]
   refine Ev.step (f := fun _ => some _) (fun k => ?_) (Ev.now _)
   simp only [Leaf.lexiphaneref1_Next.l0]
   rw [if_pos (by omega), ← Int.natCast_add, Bridge.wrN _ (by omega), if_pos (by rw [bitsL_len]; omega)]
   rfl
  ·rw [if_neg hl]
   have hv := peekV_lt b a (n - 1)
   have h2 : 2 ^ (n - 1) ≤ 2 ^ 14 := Nat.pow_le_pow_right (by omega) (by omega)
   have hpe : peekV b a n = 2 * peekV b a (n - 1) + bitAt b (a + (n - 1)) := by obtain ⟨m, rfl⟩ : ∃ m, n = m + 1 := ⟨n - 1, by omega⟩; rw [peekV, Nat.add_sub_cancel]
   have hbt := bitAt_lt b (a + (n - 1))
   have hih := ih (n + 1) (by omega) (by omega)
   rw [Nat.add_sub_cancel] at hih
   refine Ev.step (f := fun k => Leaf.lexiphaneref1_Next.l1 k L (codesL L) (bitsL b (8 * b.size)) (a : Int) ((peekV b a n : Nat) : Int) (n : Int) false 0) (fun k => ?_) ?_
   ·simp only [Leaf.lexiphaneref1_Next.l0]
    have e1 : ((a + n : Nat) : Int) - 1 = ((a + (n - 1) : Nat) : Int) := by omega
    have e2 : ((peekV b a (n - 1) : Nat) : Int) * 2 = ((2 * peekV b a (n - 1) : Nat) : Int) := by omega
    rw [if_pos (by omega), ← Int.natCast_add, Bridge.wrN (a + n) (by omega), if_neg (by rw [bitsL_len]; omega), e1, Bridge.wrN (a + (n - 1)) (by omega), if_pos (by omega), if_pos (by rw [bitsL_len]; omega), bitsL_at b _ _ (by omega), e2, Bridge.wrN (2 * peekV b a (n - 1)) (by omega), ← Int.natCast_add, Bridge.wrN _ (by omega), hpe]
   ·refine rnext_l1 L hL _ a _ n _ (fun i hi g1 g2 => ?_) (fun _ g2 => ?_) (fun g _ => ?_) L.length 0 false (by omega) (fun j hj => absurd hj (Nat.not_lt_zero j)) ⟨fun h => absurd h (by decide), fun ⟨j, h, _⟩ => absurd h (Nat.not_lt_zero j)⟩
    ·obtain ⟨k1, k2, k3⟩ := hit_yes L n i ⟨h1, by omega⟩ hi g1
     rw [g2] at k1 k2 k3
     rw [if_pos ⟨k1, k2⟩, k3]
     rfl
    ·rw [if_neg (hit_no L n _ ⟨h1, by omega⟩ g2), Bridge.wrS n (by omega)]
     exact hih
    ·exact absurd ((more_iff hp hM n).2 (by omega)) g
theorem rnext_ev (L : List Int) (hL : L.length ≤ 2000) (h0 : cright L = 0) (b : ByteArray) (hb : b.size ≤ 100000) (a : Nat) (ha : a ≤ 8 * b.size) :
  Ev (fun k => Leaf.lexiphaneref1_Next.f k L (codesL L) (bitsL b (8 * b.size)) (a : Int)) (res (nextT L b a)) := by
 obtain ⟨hpos, h15⟩ := cright_pos h0
 have hmx := h15 _ (maxL_mem L hpos)
 obtain ⟨M, hM⟩ : ∃ M : Nat, maxL L = (M : Int) := ⟨(maxL L).toNat, by omega⟩
 have hM1 : 1 ≤ M := by
  rcases Nat.eq_zero_or_pos M with g | g
  ·exact absurd (lz L (fun x hx => by have h1 := maxL_ge L x hx; have h2 := h15 x hx; omega)) (used_pos h0)
  ·exact g
 have h := rnext_l0 L hL hpos M hM (by omega) b hb a ha (M - 1) 1 (by omega) (Nat.le_refl 1)
 unfold nextT
 rw [hM, Int.toNat_natCast, show M = M - 1 + 1 by omega]
 exact Ev.congr (fun k => rfl) h
theorem ev_numbers (l : List ByteArray) (hl : l.length ≤ 1000) (hs : ∀ s ∈ l, 1 ≤ s.size ∧ s.size ≤ 40) (raw : Nat) (hraw : raw ≤ 10000) (f : Nat) : ∀ (s pay : ByteArray), s.size ≤ raw → raw ≤ s.size + f → pay.size ≤ 100000 →
  Ev (fun k => Leaf.lexiphaneref1_numbers.l0 k l (raw : Int) pay s) (meanM (fun s : ByteArray => ((un 0 0 (u s)).1 : Nat)) (fun s => ((un 0 0 (u s)).2.2 : Nat)) (fun s => s.extract (un 0 0 (u s)).2.1 s.size) (fun s => s.toList.isEmpty) l raw f s pay) := by
 have hend : ∀ (s pay : ByteArray), s.size = raw → Ev (fun k => Leaf.lexiphaneref1_numbers.l0 k l (raw : Int) pay s) (if pay.toList.isEmpty = true then (s, 0) else (⟨#[]⟩, 13)) := by
  intro s pay h
  refine Ev.step (f := fun _ => some _) (fun k => ?_) (Ev.now _)
  simp only [Leaf.lexiphaneref1_numbers.l0]
  rw [if_neg (by omega)]
  by_cases g : pay.toList = []
  ·rw [if_pos g, if_pos (by rw [g]; rfl)]
  ·rw [if_neg g, if_neg (fun e => g (List.isEmpty_iff.1 e))]
 induction f with
 | zero =>
  intro s pay h1 h2 h3
  rw [meanM]
  exact hend s pay (by omega)
 | succ f ih =>
  intro s pay h1 h2 h3
  rw [meanM]
  by_cases g1 : raw ≤ s.size
  ·rw [if_pos g1]; exact hend s pay (by omega)
  ·rw [if_neg g1]
   have hf := un_fit (u pay)
   rw [u_size] at hf
   refine Ev.step (f := fun k => (Leaf.lexiphaneref1_Unnumber.f k pay).bind fun bt216 => (if bt216.2.2 = 0 then (if 0 ≤ bt216.2.1 then (if bt216.2.1 ≤ (pay.size : Int) then ((Leaf.lexiphaneref1_Means.f k l bt216.1).bind fun bt219 => (if bt219.2 = true then (if (wrap64 ((s.size : Int) + (bt219.1.size : Int))) > (raw : Int) then (some ((⟨#[]⟩ : ByteArray), 12)) else (if s.size + bt219.1.size ≤ 9223372036854775807 then (Leaf.lexiphaneref1_numbers.l0 k l (raw : Int) (pay.extract (bt216.2.1 : Int).toNat pay.size) (s ++ bt219.1)) else (none))) else (some ((⟨#[]⟩ : ByteArray), 9)))) else (none)) else (none)) else (some ((⟨#[]⟩ : ByteArray), bt216.2.2)))) (fun k => ?_) ?_
   ·simp only [Leaf.lexiphaneref1_numbers.l0]
    rw [if_pos (by omega)]
   ·refine Ev.bind (Bridge.unnumber_ev pay (by omega)) ?_
    have hin := un_in64 (u pay)
    unfold Bridge.unR
    generalize (un 0 0 (u pay)).2.1 = m at hf ih ⊢
    generalize (un 0 0 (u pay)).2.2 = z at ih ⊢
    generalize (un 0 0 (u pay)).1 = t at hin ih ⊢
    by_cases g2 : ((z : Nat) : Int) = 0
    ·rw [if_neg (fun n => n g2)]
     refine Ev.congr (f := fun k => (Leaf.lexiphaneref1_Means.f k l (t : Int)).bind fun bt219 => (if bt219.2 = true then (if (wrap64 ((s.size : Int) + (bt219.1.size : Int))) > (raw : Int) then (some ((⟨#[]⟩ : ByteArray), 12)) else (if s.size + bt219.1.size ≤ 9223372036854775807 then (Leaf.lexiphaneref1_numbers.l0 k l (raw : Int) (pay.extract m pay.size) (s ++ bt219.1)) else (none))) else (some ((⟨#[]⟩ : ByteArray), 9)))) (fun k => ?_) ?_
     ·dsimp only
      rw [if_pos g2, if_pos (by omega), if_pos (by omega)]
      rfl
     ·refine Ev.bind (Bridge.means_ev l hl (t : Int) hin.1 hin.2) ?_
      by_cases g3 : Tok l (t : Int)
      ·have hw := word_size hs g3
       rw [if_neg (fun n => n g3)]
       obtain ⟨W, hW⟩ : ∃ W, W = word l (t : Int) := ⟨_, rfl⟩
       rw [← hW] at hw ⊢
       have e5 : wrap64 ((s.size : Int) + (W.size : Int)) = ((s.size + W.size : Nat) : Int) := by rw [Bridge.wr (by omega) (by omega)]; omega
       have hdt := decide_eq_true g3
       generalize decide (Tok l (t : Int)) = q at hdt ⊢
       subst hdt
       by_cases g4 : raw < s.size + W.size
       ·rw [if_pos g4]
        refine Ev.congr (f := fun _ => some _) (fun k => ?_) (Ev.now _)
        dsimp only
        rw [if_pos rfl, e5, if_pos (by omega)]
       ·rw [if_neg g4]
        refine Ev.congr (fun k => ?_) (ih (s ++ W) (pay.extract m pay.size) (by rw [ByteArray.size_append]; omega) (by rw [ByteArray.size_append]; omega) (by rw [ByteArray.size_extract]; omega))
        dsimp only
        rw [if_pos rfl, e5, if_neg (by omega), if_pos (by omega)]
      ·rw [if_pos g3]
       refine Ev.congr (f := fun _ => some _) (fun k => ?_) (Ev.now _)
       show (if decide (Tok l (t : Int)) = true then _ else _) = _
       rw [if_neg (by rw [decide_eq_true_iff]; exact g3)]
    ·rw [if_pos g2]
     refine Ev.congr (f := fun _ => some _) (fun k => ?_) (Ev.now _)
     show (if ((z : Nat) : Int) = 0 then _ else _) = _
     rw [if_neg g2]
theorem peekV_step (b : ByteArray) (a d : Nat) : peekV b a (d + 1) = 0 ↔ bitAt b a = 0 ∧ peekV b (a + 1) d = 0 := by
 rw [peekV_zero, peekV_zero]
 constructor
 ·intro h
  exact ⟨h 0 (by omega), fun i hi => by have := h (i + 1) (by omega); rw [show a + (i + 1) = a + 1 + i by omega] at this; exact this⟩
 ·rintro ⟨h1, h2⟩ i hi
  cases i with
  | zero => exact h1
  | succ i => have := h2 i (by omega); rw [show a + (i + 1) = a + 1 + i by omega]; exact this
theorem rget_l1 (b : ByteArray) (hb : b.size ≤ 100000) (s : ByteArray) (d : Nat) : ∀ a : Nat, a + d = 8 * b.size → Ev (fun k => Leaf.lexiphaneref1_Get.l1 k (bitsL b (8 * b.size)) s (a : Int)) (if peekV b a d = 0 then (s, 0) else (⟨#[]⟩, 13)) := by
 induction d with
 | zero =>
  intro a ha
  refine Ev.step (f := fun _ => some _) (fun k => ?_) (Ev.now _)
  simp only [Leaf.lexiphaneref1_Get.l1]
  rw [if_neg (by rw [bitsL_len]; omega)]
  rfl
 | succ d ih =>
  intro a ha
  have hi := ih (a + 1) (by omega)
  by_cases h : bitAt b a = 0
  ·have e : (if peekV b a (d + 1) = 0 then (s, (0 : Int)) else (⟨#[]⟩, 13)) = (if peekV b (a + 1) d = 0 then (s, 0) else (⟨#[]⟩, 13)) := by
    by_cases g : peekV b (a + 1) d = 0
    ·rw [if_pos g, if_pos ((peekV_step b a d).2 ⟨h, g⟩)]
    ·rw [if_neg g, if_neg (fun k => g ((peekV_step b a d).1 k).2)]
   rw [e]
   refine Ev.step (fun k => ?_) hi
   simp only [Leaf.lexiphaneref1_Get.l1]
   rw [if_pos (by rw [bitsL_len]; omega), if_pos (by omega), bitsL_at b _ _ (by omega), if_pos (by omega), Bridge.wrS a (by omega)]
  ·rw [if_neg (fun k => h ((peekV_step b a d).1 k).1)]
   refine Ev.step (f := fun _ => some _) (fun k => ?_) (Ev.now _)
   simp only [Leaf.lexiphaneref1_Get.l1]
   rw [if_pos (by rw [bitsL_len]; omega), if_pos (by omega), bitsL_at b _ _ (by omega), if_neg (by omega)]
theorem rget_l0 (l : List ByteArray) (hl : l.length ≤ 1000) (hs : ∀ s ∈ l, 1 ≤ s.size ∧ s.size ≤ 40) (raw : Nat) (hraw : raw ≤ 10000) (L : List Int) (hL : L.length = 256 + l.length) (h0 : cright L = 0) (b : ByteArray) (hb : b.size ≤ 100000) (f : Nat) : ∀ (s : ByteArray) (a : Nat), s.size ≤ raw → raw ≤ s.size + f → a ≤ 8 * b.size →
  Ev (fun k => Leaf.lexiphaneref1_Get.l0 k l (raw : Int) L (codesL L) (bitsL b (8 * b.size)) s (a : Int)) (meanM (fun a : Nat => (nextT L b a).1) (fun a => (nextT L b a).2.1) (fun a => a + (nextT L b a).2.2) (fun a => decide (8 * b.size - a < 8 ∧ peekV b a (8 * b.size - a) = 0)) l raw f s a) := by
 have hend : ∀ (s : ByteArray) (a : Nat), s.size = raw → a ≤ 8 * b.size → Ev (fun k => Leaf.lexiphaneref1_Get.l0 k l (raw : Int) L (codesL L) (bitsL b (8 * b.size)) s (a : Int)) (if decide (8 * b.size - a < 8 ∧ peekV b a (8 * b.size - a) = 0) = true then (s, 0) else (⟨#[]⟩, 13)) := by
  intro s a h ha
  by_cases g : 8 * b.size - a < 8
  ·have e : (if decide (8 * b.size - a < 8 ∧ peekV b a (8 * b.size - a) = 0) = true then (s, (0 : Int)) else (⟨#[]⟩, 13)) = (if peekV b a (8 * b.size - a) = 0 then (s, 0) else (⟨#[]⟩, 13)) := by
    by_cases g2 : peekV b a (8 * b.size - a) = 0
    ·rw [if_pos g2, if_pos (decide_eq_true ⟨g, g2⟩)]
    ·rw [if_neg g2, if_neg (by rw [decide_eq_true_iff]; exact fun k => g2 k.2)]
   rw [e]
   refine Ev.step (fun k => ?_) (rget_l1 b hb s (8 * b.size - a) a (by omega))
   simp only [Leaf.lexiphaneref1_Get.l0]
   rw [if_neg (by omega), bitsL_len, Bridge.wr (by omega) (by omega), if_neg (by omega)]
  ·rw [if_neg (by rw [decide_eq_true_iff]; exact fun k => g k.1)]
   refine Ev.step (f := fun _ => some _) (fun k => ?_) (Ev.now _)
   simp only [Leaf.lexiphaneref1_Get.l0]
   rw [if_neg (by omega), bitsL_len, Bridge.wr (by omega) (by omega), if_pos (by omega)]
 induction f with
 | zero =>
  intro s a h1 h2 h3
  rw [meanM]
  exact hend s a (by omega) h3
 | succ f ih =>
  intro s a h1 h2 h3
  rw [meanM]
  by_cases g1 : raw ≤ s.size
  ·rw [if_pos g1]; exact hend s a (by omega) h3
  ·rw [if_neg g1]
   have hok := nextF_ok L b a (8 * b.size - a) (maxL L).toNat 1
   change ((nextT L b a).2.1 = 0 → 0 ≤ (nextT L b a).1 ∧ (nextT L b a).1 < (L.length : Int) ∧ 1 ≤ (nextT L b a).2.2 ∧ (nextT L b a).2.2 ≤ 8 * b.size - a) ∧ _ ∧ _ at hok
   refine Ev.step (f := fun k => (Leaf.lexiphaneref1_Next.f k L (codesL L) (bitsL b (8 * b.size)) (a : Int)).bind fun bt246 => (if bt246.2.2 = 0 then ((Leaf.lexiphaneref1_Means.f k l bt246.1).bind fun bt249 => (if (wrap64 ((s.size : Int) + (bt249.1.size : Int))) > (raw : Int) then (some ((⟨#[]⟩ : ByteArray), 12)) else (if s.size + bt249.1.size ≤ 9223372036854775807 then (Leaf.lexiphaneref1_Get.l0 k l (raw : Int) L (codesL L) (bitsL b (8 * b.size)) (s ++ bt249.1) (wrap64 ((a : Int) + bt246.2.1))) else (none)))) else (some ((⟨#[]⟩ : ByteArray), bt246.2.2)))) (fun k => ?_) ?_
   ·simp only [Leaf.lexiphaneref1_Get.l0]
    rw [if_pos (by omega)]
   ·refine Ev.bind (rnext_ev L (by omega) h0 b hb a h3) ?_
    unfold res
    generalize (nextT L b a).1 = t at hok ⊢
    generalize (nextT L b a).2.1 = z at hok ⊢
    generalize (nextT L b a).2.2 = m at hok ⊢
    by_cases g2 : z = 0
    ·obtain ⟨t0, t1, _, t3⟩ := hok.1 g2
     have g3 : Tok l t := by unfold Tok; omega
     have hw := word_size hs g3
     rw [if_neg (fun n => n g2), if_neg (fun n => n g3)]
     refine Ev.congr (f := fun k => (Leaf.lexiphaneref1_Means.f k l t).bind fun bt249 => (if (wrap64 ((s.size : Int) + (bt249.1.size : Int))) > (raw : Int) then (some ((⟨#[]⟩ : ByteArray), 12)) else (if s.size + bt249.1.size ≤ 9223372036854775807 then (Leaf.lexiphaneref1_Get.l0 k l (raw : Int) L (codesL L) (bitsL b (8 * b.size)) (s ++ bt249.1) (wrap64 ((a : Int) + (m : Int)))) else (none)))) (fun k => ?_) ?_
     ·show (if z = 0 then _ else _) = _
      rw [if_pos g2]
     ·refine Ev.bind (Bridge.means_ev l hl t (by omega) (by omega)) ?_
      by_cases g4 : raw < s.size + (word l t).size
      ·rw [if_pos g4]
       refine Ev.congr (f := fun _ => some _) (fun k => ?_) (Ev.now _)
       dsimp only
       rw [← Int.natCast_add, Bridge.wrN _ (by omega), if_pos (by omega)]
      ·rw [if_neg g4]
       refine Ev.congr (fun k => ?_) (ih (s ++ word l t) (a + m) (by rw [ByteArray.size_append]; omega) (by rw [ByteArray.size_append]; omega) (by omega))
       dsimp only
       rw [← Int.natCast_add, Bridge.wrN _ (by omega), if_neg (by omega), if_pos (by omega), ← Int.natCast_add, Bridge.wrN _ (by omega)]
    ·rw [if_pos g2]
     refine Ev.congr (f := fun _ => some _) (fun k => ?_) (Ev.now _)
     show (if z = 0 then _ else _) = _
     rw [if_neg g2]
theorem get_bad (l : List ByteArray) (how kind raw : Int) (pay : ByteArray) : Ev (fun k => Leaf.lexiphaneref1_Get.j0 k l how kind raw pay true) (⟨#[]⟩, 1) := by
 refine Ev.step (f := fun _ => some _) (fun k => ?_) (Ev.now _)
 simp only [Leaf.lexiphaneref1_Get.j0]
 rw [if_pos trivial]
theorem get_good (l : List ByteArray) (hl : l.length ≤ 100) (hs : ∀ s ∈ l, 1 ≤ s.size ∧ s.size ≤ 40) (how kind : Int) (raw : Nat) (pay : ByteArray) (hp : pay.size ≤ 100000) (h1 : 0 ≤ how ∧ how ≤ 1) (h2 : kind = 1 ∨ kind = 2) (h3 : raw ≤ 1024) :
  Ev (fun k => Leaf.lexiphaneref1_Get.j0 k l how kind (raw : Int) pay false) (if kind = 2 then meantR l how raw pay else if (pay.size : Int) ≠ (raw : Int) then (⟨#[]⟩, 12) else (pay, 0)) := by
 rcases h2 with rfl | rfl
 ·rw [if_neg (by decide)]
  by_cases g : (pay.size : Int) = (raw : Int)
  ·rw [if_neg (fun n => n g)]
   refine Ev.step (f := fun _ => some _) (fun k => ?_) (Ev.now _)
   simp only [Leaf.lexiphaneref1_Get.j0]
   rw [if_neg (by decide), if_pos trivial, if_pos g]
  ·rw [if_pos g]
   refine Ev.step (f := fun _ => some _) (fun k => ?_) (Ev.now _)
   simp only [Leaf.lexiphaneref1_Get.j0]
   rw [if_neg (by decide), if_pos trivial, if_neg g]
 ·rw [if_pos rfl]
  unfold meantR
  by_cases g : how = 0
  ·rw [if_pos g]
   unfold numR
   refine Ev.step (f := fun k => (Leaf.lexiphaneref1_numbers.f k l (raw : Int) pay).bind fun bt232 => (some (bt232.1, bt232.2))) (fun k => ?_) ?_
   ·simp only [Leaf.lexiphaneref1_Get.j0]
    rw [if_neg (by decide), if_neg (by decide), if_pos g]
   ·refine Ev.bind (ev_numbers l (by omega) hs raw (by omega) raw ⟨#[]⟩ pay (Nat.zero_le _) (by show raw ≤ 0 + raw; omega) hp) (Ev.now _)
  ·rw [if_neg g]
   have hw : wrap64 (256 + (l.length : Int)) = ((256 + l.length : Nat) : Int) := by rw [Bridge.wr (by omega) (by omega)]; omega
   refine Ev.step (f := fun k => (Leaf.lexiphaneref1_Untab.f k pay ((256 + l.length : Nat) : Int)).bind fun bt234 => (if bt234.2.2 = 0 then ((Leaf.lexiphaneref1_Codes.f k bt234.1).bind fun bt239 => (if bt239.2 = 0 then (if 0 ≤ bt234.2.1 then (if bt234.2.1 ≤ (pay.size : Int) then ((Leaf.lexiphaneref1_bitsOf.f k (pay.extract (bt234.2.1 : Int).toNat pay.size)).bind fun t243 => (Leaf.lexiphaneref1_Get.l0 k l (raw : Int) bt234.1 bt239.1 t243 (⟨#[]⟩ : ByteArray) 0)) else (none)) else (none)) else (some ((⟨#[]⟩ : ByteArray), bt239.2)))) else (some ((⟨#[]⟩ : ByteArray), bt234.2.2)))) (fun k => ?_) ?_
   ·simp only [Leaf.lexiphaneref1_Get.j0]
    rw [if_neg (by decide), if_neg (by decide), if_neg g, hw]
   ·refine Ev.bind (TabB.rget_ev pay (by omega) ((256 + l.length : Nat) : Int)) ?_
    obtain ⟨hc, ho⟩ := TabB.getS_ok pay (256 + l.length) (by omega)
    change ((lensOf l pay).2.2 = 0 → (lensOf l pay).1.length = 256 + l.length ∧ TabMath.AllSixt (lensOf l pay).1 ∧ ∃ k : Nat, (lensOf l pay).2.1 = (k : Int) ∧ k ≤ pay.size) at ho
    change Ev (fun n => if (lensOf l pay).2.2 = 0 then ((Leaf.lexiphaneref1_Codes.f n (lensOf l pay).1).bind fun bt239 => (if bt239.2 = 0 then (if 0 ≤ (lensOf l pay).2.1 then (if (lensOf l pay).2.1 ≤ (pay.size : Int) then ((Leaf.lexiphaneref1_bitsOf.f n (pay.extract ((lensOf l pay).2.1 : Int).toNat pay.size)).bind fun t243 => (Leaf.lexiphaneref1_Get.l0 n l (raw : Int) (lensOf l pay).1 bt239.1 t243 (⟨#[]⟩ : ByteArray) 0)) else (none)) else (none)) else (some ((⟨#[]⟩ : ByteArray), bt239.2)))) else (some ((⟨#[]⟩ : ByteArray), (lensOf l pay).2.2))) _
    generalize lensOf l pay = T at ho ⊢
    by_cases k1 : T.2.2 = 0
    ·obtain ⟨e1, e2, k, e3, e4⟩ := ho k1
     rw [if_neg (fun n => n k1)]
     have hsx : ∀ x ∈ T.1, 0 ≤ x ∧ x ≤ 15 := fun x hx => e2 x hx
     refine Ev.congr (f := fun n => (Leaf.lexiphaneref1_Codes.f n T.1).bind fun bt239 => (if bt239.2 = 0 then (if 0 ≤ T.2.1 then (if T.2.1 ≤ (pay.size : Int) then ((Leaf.lexiphaneref1_bitsOf.f n (pay.extract (T.2.1 : Int).toNat pay.size)).bind fun t243 => (Leaf.lexiphaneref1_Get.l0 n l (raw : Int) T.1 bt239.1 t243 (⟨#[]⟩ : ByteArray) 0)) else (none)) else (none)) else (some ((⟨#[]⟩ : ByteArray), bt239.2)))) (fun n => if_pos k1) ?_
     have hco := rcodes_ev T.1 (by omega) hsx
     by_cases k2 : cright T.1 = 0
     ·rw [if_pos k2] at hco
      rw [if_neg (fun n => n k2)]
      unfold codR
      have hsz : (pay.extract T.2.1.toNat pay.size).size ≤ 100000 := by rw [ByteArray.size_extract]; omega
      refine Ev.bind hco ?_
      refine Ev.congr (f := fun n => (Leaf.lexiphaneref1_bitsOf.f n (pay.extract T.2.1.toNat pay.size)).bind fun t243 => (Leaf.lexiphaneref1_Get.l0 n l (raw : Int) T.1 (codesL T.1) t243 (⟨#[]⟩ : ByteArray) 0)) (fun n => ?_) ?_
      ·dsimp only
       rw [if_pos rfl, if_pos (by omega), if_pos (by omega)]
      ·refine Ev.bind (rbits_ev _ hsz) ?_
       exact rget_l0 l (by omega) hs raw (by omega) T.1 e1 k2 _ hsz raw ⟨#[]⟩ 0 (Nat.zero_le _) (by show raw ≤ 0 + raw; omega) (Nat.zero_le _)
     ·rw [if_neg k2] at hco
      rw [if_pos k2]
      refine Ev.bind hco ?_
      refine Ev.congr (f := fun _ => some _) (fun n => ?_) (Ev.now _)
      dsimp only
      rw [if_neg k2]
    ·rw [if_pos k1]
     exact Ev.congr (f := fun _ => some _) (fun n => if_neg k1) (Ev.now _)
theorem get_ev (l : List ByteArray) (hl : l.length ≤ 100) (hs : ∀ s ∈ l, 1 ≤ s.size ∧ s.size ≤ 40) (how kind raw : Int) (pay : ByteArray) (hp : pay.size ≤ 100000) : Ev (fun k => Leaf.lexiphaneref1_Get.f k l how kind raw pay) (getR l how kind raw pay) := by
 unfold getR
 by_cases h1 : 0 ≤ how ∧ how ≤ 1
 ·by_cases h2 : kind = 1 ∨ kind = 2
  ·by_cases h3 : 1 ≤ raw ∧ raw ≤ 1024
   ·rw [if_neg (by omega)]
    obtain ⟨n, rfl⟩ : ∃ n : Nat, raw = n := ⟨raw.toNat, by omega⟩
    rw [Int.toNat_natCast]
    refine Ev.congr (fun k => ?_) (get_good l hl hs how kind n pay hp h1 h2 (by omega))
    unfold Leaf.lexiphaneref1_Get.f
    rw [if_neg (by omega), if_neg (by omega)]
    rcases h2 with rfl | rfl
    ·rw [if_pos rfl, if_neg (by omega), decide_eq_false (by omega)]
    ·rw [if_neg (by decide), if_pos rfl, if_neg (by omega), decide_eq_false (by omega)]
   ·rw [if_pos (.inr (.inr h3))]
    refine Ev.congr (fun k => ?_) (get_bad l how kind raw pay)
    unfold Leaf.lexiphaneref1_Get.f
    rw [if_neg (by omega), if_neg (by omega)]
    by_cases h4 : raw < 1
    ·rcases h2 with rfl | rfl
     ·rw [if_pos rfl, if_pos h4]
     ·rw [if_neg (by decide), if_pos rfl, if_pos h4]
    ·rcases h2 with rfl | rfl
     ·rw [if_pos rfl, if_neg h4, decide_eq_true (by omega)]
     ·rw [if_neg (by decide), if_pos rfl, if_neg h4, decide_eq_true (by omega)]
  ·rw [if_pos (.inr (.inl h2))]
   refine Ev.congr (fun k => ?_) (get_bad l how kind raw pay)
   unfold Leaf.lexiphaneref1_Get.f
   rw [if_neg (by omega), if_neg (by omega), if_neg (fun e => h2 (.inl e)), if_neg (fun e => h2 (.inr e))]
 ·rw [if_pos (.inl h1)]
  refine Ev.congr (fun k => ?_) (get_bad l how kind raw pay)
  unfold Leaf.lexiphaneref1_Get.f
  by_cases h4 : how < 0
  ·rw [if_pos h4]
  ·rw [if_neg h4, if_pos (by omega)]
theorem rget_calls {A : Option Addr} {c : Nat} (l : List ByteArray) (hl : l.length ≤ 100) (hs : ∀ s ∈ l, 1 ≤ s.size ∧ s.size ≤ 40) (how kind raw : Int) (pay : ByteArray) (hp : pay.size ≤ 100000) {w : World} (hr : StrsIn w A l) (hc : l.length ≤ c) :
  Calls Tryz.prog 36 #[.slice A l.length c, .int .i64 how, .int .i64 kind, .int .i64 raw, .string pay] w fun e w' => e = .returned (.tuple #[.string (getR l how kind raw pay).1, .int .i64 (getR l how kind raw pay).2]) ∧ Below w.heap.size w w' := by
 obtain ⟨k, hk⟩ := (get_ev l hl hs how kind raw pay hp).rounds
 exact Leaf.lexiphaneref1_Get.calls k A c l how kind raw pay _ _ w hr hc hk
end RefG
end Go.Proofs.YtepgkimlmoikmaaGreat
set_option linter.unusedVariables false
set_option linter.unusedSimpArgs false
namespace Go.Proofs.YtepgkimlmoikmaaGreat
open Go.RowKit Go.Proofs.YtepgkimlmoikmaaGreat.Spec Go.Proofs.YtepgkimlmoikmaaGreatW.PrintWords Go.Proofs.YtepgkimlmoikmaaGreatW.PrintLast
open Go.Proofs.YtepgkimlmoikmaaGreatW.PrintMore
attribute [local go_sem ↓] Go.wp_at_zero Go.wp_at_succ
attribute [local go_sem] max2_int min2_int max_two min_two
end Go.Proofs.YtepgkimlmoikmaaGreat
