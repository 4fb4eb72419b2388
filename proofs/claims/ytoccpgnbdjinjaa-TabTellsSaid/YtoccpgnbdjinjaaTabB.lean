/- What tab's functions and the document's own compute of lengths and bytes: both the same. -/
import Derived.Test.YtoccpgnbdjinjaaLeaf3
import Derived.Test.YtoccpgnbdjinjaaTabMath
set_option linter.unusedVariables false
set_option linter.unusedSimpArgs false
namespace Go.Proofs.Ytoccpgnbdjinjaa
open Go.RowKit Go.Proofs.Ytoccpgnbdjinjaa.Leaf Go.Proofs.YtoccpgnbdjinjaaW.PrintWords Go.Proofs.YtoccpgnbdjinjaaW.PrintLast
namespace TabB
open TabMath

theorem wr {x : Int} (h : -9223372036854775808 ≤ x) (h2 : x < 9223372036854775808) : wrap64 x = x := by unfold wrap64; omega

/-! ### lists and bytes -/
def bl (b : ByteArray) : List Int := b.data.toList.map fun c => (c.toNat : Int)
theorem bl_length (b : ByteArray) : (bl b).length = b.size := by simp [bl]
theorem bl_byte (b : ByteArray) : ∀ c ∈ bl b, Byte c := by
  intro c hc
  obtain ⟨u, _, rfl⟩ := List.mem_map.1 hc
  have := u.toNat_lt
  exact ⟨by omega, by omega⟩
theorem bt_bl (b : ByteArray) (i : Int) : bt b i = rd (bl b) i := by
  unfold bt rd bl
  by_cases h : i.toNat < b.size
  · rw [dif_pos h, List.getD_eq_getElem?_getD, List.getElem?_map, List.getElem?_eq_getElem (by simpa using h)]
    rfl
  · rw [dif_neg h, List.getD_eq_getElem?_getD, List.getElem?_map, List.getElem?_eq_none (by simpa using h)]
    rfl
theorem bl_strOfNums {l : List Int} (h : ∀ c ∈ l, Byte c) : bl (strOfNums l) = l := by
  unfold bl strOfNums
  simp only [List.map_map]
  conv => rhs; rw [← List.map_id l]
  apply List.map_congr_left
  intro c hc
  have := h c hc
  unfold Byte at this
  simp only [Function.comp, id, UInt8.toNat_ofNat']
  omega
theorem bl_extract (b : ByteArray) (j : Nat) : bl (b.extract 0 j) = (bl b).take j := by
  unfold bl
  rw [← List.map_take]
  simp [ByteArray.data_extract]
theorem bl_inj {a b : ByteArray} (h : bl a = bl b) : a.toList = b.toList := by
  have h2 : a.data.toList = b.data.toList := by
    unfold bl at h
    exact (List.map_inj_right (fun x y hxy => by
      have : x.toNat = y.toNat := by omega
      exact UInt8.toNat_inj.1 this)).1 h
  rw [Go.ByteArray.toList_eq, Go.ByteArray.toList_eq, h2]
theorem rd_drop {l : List Int} {i : Nat} {a : List Int} {y : Int} {r : List Int} (h : l.drop i = a ++ y :: r) : rd l ((i : Int) + (a.length : Int)) = y := by
  unfold rd
  have e : ((i : Int) + (a.length : Int)).toNat = i + a.length := by omega
  rw [e, List.getD_eq_getElem?_getD, ← List.getElem?_drop, h]
  simp
theorem len_drop {l : List Int} {i : Nat} {a : List Int} (hi : i ≤ l.length) (h : l.drop i = a) : l.length = i + a.length := by
  have := congrArg List.length h
  simp at this
  omega

/-! ### Put -/
def PutR (out : List Int) (n : Nat) (x : Int) (rest : List Int) : ByteArray × Bool :=
  if AllSixt rest then (strOfNums (out ++ enc n (x :: rest)), true) else (⟨#[]⟩, false)
theorem put_l1 (l : List Int) (hl : l.length ≤ 356) (rest : List Int) : ∀ (i n : Nat) (x : Int) (out : List Int), Sixt x → n + 1 ≤ 16 → i ≤ l.length → out.length ≤ i →
    l.drop i = List.replicate (n + 1) x ++ rest → Ev (fun k => tab_Put.l1 k l out i ((n + 1 : Nat) : Int)) (PutR out n x rest) := by
  induction rest with
  | nil =>
    intro i n x out hx hn hi ho h
    have hlen := len_drop hi h
    simp only [List.append_nil, List.length_replicate] at hlen
    have hx0 : rd l (i : Int) = x := by
      rw [List.replicate_succ, List.cons_append] at h
      have := rd_drop (a := []) h
      simpa using this
    unfold Sixt at hx
    have e1 : wrap64 ((i : Int) + ((n + 1 : Nat) : Int)) = (i : Int) + ((n + 1 : Nat) : Int) := wr (by omega) (by omega)
    have e2 : (wrap64 ((wrap64 ((wrap64 ((rd l (i : Int)) * 16)) + ((n + 1 : Nat) : Int))) - 1)) % 256 = 16 * x + (n : Int) := by
      rw [hx0, wr (x := x * 16) (by omega) (by omega), wr (x := x * 16 + ((n + 1 : Nat) : Int)) (by omega) (by omega), wr (by omega) (by omega)]
      omega
    have last : Ev (fun k => tab_Put.l0 k l (out ++ [16 * x + (n : Int)]) ((i : Int) + ((n + 1 : Nat) : Int))) (PutR out n x []) := by
      refine Ev.step (f := fun _ => some (PutR out n x [])) (fun k => ?_) (Ev.now _)
      simp only [tab_Put.l0]
      rw [if_neg (by omega)]
      unfold PutR
      rw [if_pos allSixt_nil, enc_one]
    refine Ev.step (fun k => ?_) last
    simp only [tab_Put.l1]
    rw [e2, e1]
    by_cases hc : ((n + 1 : Nat) : Int) < 16
    · rw [if_pos hc, if_neg (by omega), if_pos (by omega), if_pos (by omega), if_pos (by omega)]
    · rw [if_neg hc, if_pos (by omega), if_pos (by omega), if_pos (by omega)]
  | cons y rest ih =>
    intro i n x out hx hn hi ho h
    have hlen := len_drop hi h
    simp only [List.length_append, List.length_replicate, List.length_cons] at hlen
    have hx0 : rd l (i : Int) = x := by
      rw [List.replicate_succ, List.cons_append] at h
      have := rd_drop (a := []) h
      simpa using this
    have hy0 : rd l ((i : Int) + ((n + 1 : Nat) : Int)) = y := by
      have := rd_drop h
      simpa using this
    have hx' := hx
    unfold Sixt at hx'
    have e1 : wrap64 ((i : Int) + ((n + 1 : Nat) : Int)) = (i : Int) + ((n + 1 : Nat) : Int) := wr (by omega) (by omega)
    have e2 : (wrap64 ((wrap64 ((wrap64 (x * 16)) + ((n + 1 : Nat) : Int))) - 1)) % 256 = 16 * x + (n : Int) := by
      rw [wr (x := x * 16) (by omega) (by omega), wr (x := x * 16 + ((n + 1 : Nat) : Int)) (by omega) (by omega), wr (by omega) (by omega)]
      omega
    by_cases hc : n = 15 ∨ y ≠ x
    · -- the run ends here
      have next : Ev (fun k => tab_Put.l0 k l (out ++ [16 * x + (n : Int)]) ((i : Int) + ((n + 1 : Nat) : Int))) (PutR out n x (y :: rest)) := by
        have ed : l.drop (i + (n + 1)) = y :: rest := by
          rw [← List.drop_drop, h, List.drop_append, List.drop_of_length_le (by simp)]
          simp
        have ei : ((i : Int) + ((n + 1 : Nat) : Int)) = ((i + (n + 1) : Nat) : Int) := by omega
        have hstep : ∀ k, tab_Put.l0 (k + 1) l (out ++ [16 * x + (n : Int)]) ((i : Int) + ((n + 1 : Nat) : Int)) = tab_Put.j1 k l (out ++ [16 * x + (n : Int)]) ((i : Int) + ((n + 1 : Nat) : Int)) (decide (¬ Sixt y)) := by
          intro k
          simp only [tab_Put.l0]
          rw [if_pos (by omega), if_pos (by omega), hy0]
          unfold Sixt
          by_cases g : y < 0
          · rw [if_pos g]; congr 1; symm; rw [decide_eq_true_iff]; omega
          · rw [if_neg g]; congr 1; rw [decide_eq_decide]; omega
        refine Ev.step hstep ?_
        by_cases g : Sixt y
        · have := ih (i + (n + 1)) 0 y (out ++ [16 * x + (n : Int)]) g (by omega) (by omega) (by simp; omega) (by rw [ed]; rfl)
          have er : PutR (out ++ [16 * x + (n : Int)]) 0 y rest = PutR out n x (y :: rest) := by
            unfold PutR
            by_cases gr : AllSixt rest
            · rw [if_pos gr, if_pos (allSixt_cons.2 ⟨g, gr⟩), enc_cut hc]; simp
            · rw [if_neg gr, if_neg (fun e => gr (allSixt_cons.1 e).2)]
          rw [er] at this
          refine Ev.step (fun k => ?_) this
          simp only [tab_Put.j1]
          rw [if_neg (by simp [g]), ei]
          rfl
        · refine Ev.step (f := fun _ => some (PutR out n x (y :: rest))) (fun k => ?_) (Ev.now _)
          simp only [tab_Put.j1]
          rw [if_pos (by simp [g])]
          unfold PutR
          rw [if_neg (fun e => g (allSixt_cons.1 e).1)]
      refine Ev.step (fun k => ?_) next
      simp only [tab_Put.l1]
      rw [e1, hx0, hy0, e2]
      by_cases hc' : ((n + 1 : Nat) : Int) < 16
      · have hyx : ¬ y = x := by omega
        rw [if_pos hc', if_pos (by omega), if_pos (by omega), if_pos (by omega), if_pos (by omega), if_neg hyx, if_pos (by omega)]
      · rw [if_neg hc', if_pos (by omega), if_pos (by omega), if_pos (by omega)]
    · obtain ⟨h1, h2⟩ : n ≠ 15 ∧ y = x := by
        refine ⟨fun e => hc (Or.inl e), ?_⟩
        by_cases e : y = x
        · exact e
        · exact absurd (Or.inr e) hc
      subst h2
      have := ih i (n + 1) y out hx (by omega) hi ho (by rw [h, List.replicate_succ' (n := n + 1)]; simp)
      have er : PutR out (n + 1) y rest = PutR out n y (y :: rest) := by
        unfold PutR
        by_cases gr : AllSixt rest
        · rw [if_pos gr, if_pos (allSixt_cons.2 ⟨hx, gr⟩), enc_go h1]
        · rw [if_neg gr, if_neg (fun e => gr (allSixt_cons.1 e).2)]
      rw [er] at this
      refine Ev.step (fun k => ?_) this
      simp only [tab_Put.l1]
      rw [e1, hx0, hy0]
      rw [if_pos (by omega), if_pos (by omega), if_pos (by omega), if_pos (by omega), if_pos (by omega), if_pos rfl, wr (by omega) (by omega)]
      congr 1

def putS (l : List Int) : ByteArray × Bool := if l.length ≤ 356 ∧ AllSixt l then (strOfNums (enc 0 l), true) else (⟨#[]⟩, false)
theorem put_ev (l : List Int) : Ev (fun k => tab_Put.f k l) (putS l) := by
  unfold putS
  by_cases hl : l.length ≤ 356
  · cases l with
    | nil =>
      rw [if_pos ⟨hl, allSixt_nil⟩]
      refine Ev.step (f := fun _ => some (strOfNums [], true)) (fun k => ?_) (Ev.now _)
      unfold tab_Put.f
      rw [if_neg (by simp)]
      simp only [tab_Put.l0]
      rw [if_neg (by simp)]
    | cons y rest =>
      have hstep : ∀ k, tab_Put.f (k + 1) (y :: rest) = tab_Put.j1 k (y :: rest) [] 0 (decide (¬ Sixt y)) := by
        intro k
        unfold tab_Put.f
        rw [if_neg (by omega)]
        simp only [tab_Put.l0]
        rw [if_pos (by simp only [List.length_cons]; omega), if_pos (by omega)]
        rw [show rd (y :: rest) 0 = y from rfl]
        unfold Sixt
        by_cases g : y < 0
        · rw [if_pos g]; congr 1; symm; rw [decide_eq_true_iff]; omega
        · rw [if_neg g]; congr 1; rw [decide_eq_decide]; omega
      refine Ev.step hstep ?_
      by_cases g : Sixt y
      · have := put_l1 (y :: rest) hl rest 0 0 y [] g (by omega) (by omega) (by simp) rfl
        have er : PutR [] 0 y rest = if (y :: rest).length ≤ 356 ∧ AllSixt (y :: rest) then (strOfNums (enc 0 (y :: rest)), true) else (⟨#[]⟩, false) := by
          unfold PutR
          by_cases gr : AllSixt rest
          · rw [if_pos gr, if_pos ⟨hl, allSixt_cons.2 ⟨g, gr⟩⟩]; simp
          · rw [if_neg gr, if_neg (fun e => gr (allSixt_cons.1 e.2).2)]
        rw [er] at this
        refine Ev.step (fun k => ?_) this
        simp only [tab_Put.j1]
        rw [if_neg (by simp [g])]
        rfl
      · refine Ev.step (f := fun _ => some (⟨#[]⟩, false)) (fun k => ?_) ?_
        · simp only [tab_Put.j1]
          rw [if_pos (by simp [g])]
        · rw [if_neg (fun e => g (allSixt_cons.1 e.2).1)]; exact Ev.now _
  · rw [if_neg (fun e => hl e.1)]
    refine Ev.congr (f := fun _ => some (⟨#[]⟩, false)) (fun k => ?_) (Ev.now _)
    unfold tab_Put.f
    rw [if_pos (by omega)]

/-! ### Get -/
theorem get_l1 (b : ByteArray) (size : Int) (x : Int) (at_ : Int) (R : List Int × Int × Int) (d : Nat) : ∀ (m t : Nat) (out : List Int), m = t + d → out.length + d ≤ 1000 → m ≤ 16 →
    Ev (fun k => tab_Get.l0 k b size (out ++ List.replicate d x) (wrap64 (at_ + 1))) R → Ev (fun k => tab_Get.l1 k b size out at_ x (m : Int) (t : Int)) R := by
  induction d with
  | zero =>
    intro m t out hm ho hm16 h
    simp only [List.replicate_zero, List.append_nil] at h
    refine Ev.step (fun k => ?_) h
    simp only [tab_Get.l1]
    rw [if_neg (by omega)]
  | succ d ih =>
    intro m t out hm ho hm16 h
    have := ih m (t + 1) (out ++ [x]) (by omega) (by simp; omega) hm16 (by simpa [List.replicate_succ] using h)
    refine Ev.step (fun k => ?_) this
    simp only [tab_Get.l1]
    rw [if_pos (by omega), if_pos (by omega), wr (by omega) (by omega)]
    congr 1

def GetR (out : List Int) (at_ : Nat) (d : Int × List Int × Nat) : List Int × Int × Int := if d.1 = 0 then (out ++ d.2.1, ((at_ + d.2.2 : Nat) : Int), 0) else ([], 0, d.1)
def prev (l : List Int) (i : Nat) : Int := if i = 0 then 15 else rd l ((i : Int) - 1)
theorem get_l0 (b : ByteArray) (hb : b.size ≤ 140737488351232) (size : Nat) (hs : size ≤ 356) (rest : List Int) : ∀ (i : Nat) (out : List Int), i ≤ b.size → out.length ≤ size → (bl b).drop i = rest →
    Ev (fun k => tab_Get.l0 k b size out i) (GetR out i (dec (prev (bl b) i) rest (size - out.length))) := by
  induction rest with
  | nil =>
    intro i out hi ho h
    have hlen := len_drop (by rw [bl_length]; exact hi) h
    rw [bl_length] at hlen
    simp only [List.length_nil, Nat.add_zero] at hlen
    refine Ev.step (f := fun _ => some (GetR out i (dec (prev (bl b) i) [] (size - out.length)))) (fun k => ?_) (Ev.now _)
    simp only [tab_Get.l0]
    by_cases hc : out.length < size
    · obtain ⟨m, hm⟩ : ∃ m, size - out.length = m + 1 := ⟨size - out.length - 1, by omega⟩
      rw [if_pos (by omega), if_pos (by omega), hm, dec_nil]
      rfl
    · have hm : size - out.length = 0 := by omega
      rw [if_neg (by omega), hm, dec_zero]
      unfold GetR
      simp
  | cons c rest ih =>
    intro i out hi ho h
    have hlen := len_drop (by rw [bl_length]; exact hi) h
    rw [bl_length] at hlen
    simp only [List.length_cons] at hlen
    have hc0 : rd (bl b) (i : Int) = c := by
      have := rd_drop (a := []) h
      simpa using this
    have hcb : Byte c := by
      have : c ∈ (bl b).drop i := by rw [h]; exact List.mem_cons_self ..
      exact bl_byte b c (List.mem_of_mem_drop this)
    unfold Byte at hcb
    by_cases hc : out.length < size
    · obtain ⟨m, hm⟩ : ∃ m, size - out.length = m + 1 := ⟨size - out.length - 1, by omega⟩
      have hpb : 0 ≤ prev (bl b) i ∧ prev (bl b) i ≤ 255 := by
        unfold prev
        by_cases h0 : i = 0
        · rw [if_pos h0]; omega
        · rw [if_neg h0, ← bt_bl]; exact bt_range _ _
      have e1 : wrap64 (Int.tdiv (wrap64 c) 16) = c / 16 := by
        rw [wr (x := c) (by omega) (by omega), Int.tdiv_eq_ediv_of_nonneg (by omega), wr (by omega) (by omega)]
      have e2 : wrap64 (Int.tmod (wrap64 c) 16 + 1) = c % 16 + 1 := by
        rw [wr (x := c) (by omega) (by omega), Int.tmod_eq_emod_of_nonneg (by omega), wr (by omega) (by omega)]
      have p1 : ∀ p : Int, 0 ≤ p → p ≤ 255 → wrap64 (Int.tdiv (wrap64 p) 16) = p / 16 := by
        intro p h1 h2
        rw [wr (x := p) (by omega) (by omega), Int.tdiv_eq_ediv_of_nonneg (by omega), wr (by omega) (by omega)]
      have p2 : ∀ p : Int, 0 ≤ p → p ≤ 255 → wrap64 (Int.tmod (wrap64 p) 16 + 1) = p % 16 + 1 := by
        intro p h1 h2
        rw [wr (x := p) (by omega) (by omega), Int.tmod_eq_emod_of_nonneg (by omega), wr (by omega) (by omega)]
      have e3 : wrap64 ((size : Int) - (out.length : Int)) = ((m + 1 : Nat) : Int) := by
        rw [wr (by omega) (by omega)]; omega
      -- up to j2
      have hstep : ∀ k, tab_Get.l0 (k + 1) b size out i = tab_Get.j2 k b size out i (c / 16) (c % 16 + 1) (decide (prev (bl b) i / 16 = c / 16 ∧ prev (bl b) i % 16 < 15)) := by
        intro k
        simp only [tab_Get.l0]
        rw [if_pos (by omega), if_neg (by omega), if_pos (by omega), if_pos (by omega)]
        simp only [bt_bl, hc0, e1, e2]
        by_cases h0 : i = 0
        · subst h0
          rw [if_neg (by omega)]
          congr 1
          symm
          rw [decide_eq_false_iff_not]
          unfold prev
          rw [if_pos rfl]
          omega
        · have hp : prev (bl b) i = rd (bl b) ((i : Int) - 1) := by unfold prev; rw [if_neg h0]
          rw [if_pos (by omega), wr (x := (i : Int) - 1) (by omega) (by omega), if_pos (by omega), if_pos (by omega), ← hp, p1 _ hpb.1 hpb.2, p2 _ hpb.1 hpb.2]
          by_cases g : prev (bl b) i / 16 = c / 16
          · rw [if_pos g]; congr 1; rw [decide_eq_decide]; omega
          · rw [if_neg g]; congr 1; symm; rw [decide_eq_false_iff_not]; omega
      refine Ev.step hstep ?_
      have hstep2 : ∀ k, tab_Get.j2 (k + 1) b size out i (c / 16) (c % 16 + 1) (decide (prev (bl b) i / 16 = c / 16 ∧ prev (bl b) i % 16 < 15)) =
          tab_Get.j3 k b size out i (c / 16) (c % 16 + 1) (decide ((prev (bl b) i / 16 = c / 16 ∧ prev (bl b) i % 16 < 15) ∨ ((m + 1 : Nat) : Int) < c % 16 + 1)) := by
        intro k
        simp only [tab_Get.j2, e3]
        by_cases g : prev (bl b) i / 16 = c / 16 ∧ prev (bl b) i % 16 < 15
        · rw [if_pos (by simpa using g)]; congr 1; symm; rw [decide_eq_true_iff]; exact Or.inl g
        · rw [if_neg (by simpa using g)]; congr 1; rw [decide_eq_decide]; omega
      refine Ev.step hstep2 ?_
      rw [hm, dec_cons]
      by_cases g : (prev (bl b) i / 16 = c / 16 ∧ prev (bl b) i % 16 < 15) ∨ ((m + 1 : Nat) : Int) < c % 16 + 1
      · rw [if_pos g]
        refine Ev.step (f := fun _ => some (GetR out i (3, [], 0))) (fun k => ?_) (Ev.now _)
        simp only [tab_Get.j3]
        rw [if_pos (by simpa using g)]
        rfl
      · rw [if_neg g]
        have hstep3 : ∀ k, tab_Get.j3 (k + 1) b size out i (c / 16) (c % 16 + 1) (decide ((prev (bl b) i / 16 = c / 16 ∧ prev (bl b) i % 16 < 15) ∨ ((m + 1 : Nat) : Int) < c % 16 + 1)) =
            tab_Get.l1 k b size out i (c / 16) (((c % 16 + 1).toNat : Nat) : Int) ((0 : Nat) : Int) := by
          intro k
          simp only [tab_Get.j3]
          rw [if_neg (by simpa using g)]
          rw [show (((c % 16 + 1).toNat : Nat) : Int) = c % 16 + 1 by omega]
          rfl
        refine Ev.step hstep3 ?_
        have hpn : prev (bl b) (i + 1) = c := by
          unfold prev
          rw [if_neg (by omega), show (((i + 1 : Nat) : Int) - 1) = (i : Int) by omega]
          exact hc0
        have := ih (i + 1) (out ++ List.replicate (c % 16 + 1).toNat (c / 16)) (by omega) (by simp; omega) (by rw [← List.drop_drop, h]; rfl)
        rw [hpn, show size - (out ++ List.replicate (c % 16 + 1).toNat (c / 16)).length = m + 1 - (c % 16 + 1).toNat by simp; omega] at this
        refine get_l1 b size (c / 16) i _ (c % 16 + 1).toNat (c % 16 + 1).toNat 0 out (by omega) (by omega) (by omega) ?_
        rw [wr (by omega) (by omega), show ((i : Int) + 1) = ((i + 1 : Nat) : Int) by omega]
        have er : GetR (out ++ List.replicate (c % 16 + 1).toNat (c / 16)) (i + 1) (dec c rest (m + 1 - (c % 16 + 1).toNat)) =
            GetR out i (if (dec c rest (m + 1 - (c % 16 + 1).toNat)).1 = 0 then (0, List.replicate (c % 16 + 1).toNat (c / 16) ++ (dec c rest (m + 1 - (c % 16 + 1).toNat)).2.1, (dec c rest (m + 1 - (c % 16 + 1).toNat)).2.2 + 1) else ((dec c rest (m + 1 - (c % 16 + 1).toNat)).1, [], 0)) := by
          unfold GetR
          by_cases hd : (dec c rest (m + 1 - (c % 16 + 1).toNat)).1 = 0
          · rw [if_pos hd, if_pos hd, if_pos rfl]
            simp only [List.append_assoc, Prod.mk.injEq, true_and, and_true]
            omega
          · rw [if_neg hd, if_neg hd, if_neg hd]
        rw [er] at this
        exact this
    · have hm : size - out.length = 0 := by omega
      refine Ev.step (f := fun _ => some (GetR out i (dec (prev (bl b) i) (c :: rest) (size - out.length)))) (fun k => ?_) (Ev.now _)
      simp only [tab_Get.l0]
      rw [if_neg (by omega), hm, dec_zero]
      unfold GetR
      simp
def getS (b : ByteArray) (size : Int) : List Int × Int × Int := if size < 0 ∨ 356 < size then ([], 0, 1) else GetR [] 0 (dec 15 (bl b) size.toNat)
theorem get_ev (b : ByteArray) (hb : b.size ≤ 140737488351232) (size : Int) : Ev (fun k => tab_Get.f k b size) (getS b size) := by
  unfold getS
  have hstep : ∀ k, tab_Get.f k b size = tab_Get.j0 k b size (decide (size < 0 ∨ 356 < size)) := by
    intro k
    unfold tab_Get.f
    by_cases h : size < 0
    · rw [if_pos h]; congr 1; symm; rw [decide_eq_true_iff]; exact Or.inl h
    · rw [if_neg h]; congr 1; rw [decide_eq_decide]; omega
  refine Ev.congr hstep ?_
  by_cases h : size < 0 ∨ 356 < size
  · rw [if_pos h]
    refine Ev.step (f := fun _ => some ([], 0, 1)) (fun k => ?_) (Ev.now _)
    simp only [tab_Get.j0]
    rw [if_pos (by simpa using h)]
  · rw [if_neg h]
    have := get_l0 b hb size.toNat (by omega) (bl b) 0 [] (by omega) (by simp) rfl
    rw [show ((size.toNat : Nat) : Int) = size by omega] at this
    refine Ev.step (fun k => ?_) this
    simp only [tab_Get.j0]
    rw [if_neg (by simpa using h)]
    rfl

/-! ### SameInts -/
theorem same_l0 (a b : List Int) (hl : a.length = b.length) (hm : a.length ≤ 140737488351232) (d : Nat) : ∀ i : Nat, i + d = a.length → Ev (fun k => lexiphanebook_SameInts.l0 k a b i) (decide (a.drop i = b.drop i)) := by
  induction d with
  | zero =>
    intro i hi
    refine Ev.step (f := fun _ => some _) (fun k => ?_) (Ev.now _)
    simp only [lexiphanebook_SameInts.l0]
    rw [if_neg (by omega), List.drop_of_length_le (by omega), List.drop_of_length_le (by omega)]
    rfl
  | succ d ih =>
    intro i hi
    have hia : i < a.length := by omega
    have hib : i < b.length := by omega
    have ra : rd a (i : Int) = a[i] := by unfold rd; simp [List.getD_eq_getElem?_getD, List.getElem?_eq_getElem hia]
    have rb : rd b (i : Int) = b[i] := by unfold rd; simp [List.getD_eq_getElem?_getD, List.getElem?_eq_getElem hib]
    have da := List.drop_eq_getElem_cons hia
    have db := List.drop_eq_getElem_cons hib
    rw [da, db]
    by_cases h : a[i] = b[i]
    · have := ih (i + 1) (by omega)
      have e : decide (a[i] :: a.drop (i + 1) = b[i] :: b.drop (i + 1)) = decide (a.drop (i + 1) = b.drop (i + 1)) := by rw [decide_eq_decide]; exact ⟨fun e => by injection e, fun e => by rw [h, e]⟩
      rw [e]
      refine Ev.step (fun k => ?_) this
      simp only [lexiphanebook_SameInts.l0]
      rw [if_pos (by omega), if_pos (by omega), if_pos (by omega), ra, rb, if_pos h, wr (by omega) (by omega)]
      rfl
    · have e : decide (a[i] :: a.drop (i + 1) = b[i] :: b.drop (i + 1)) = false := by rw [decide_eq_false_iff_not]; intro e; injection e with e1; exact h e1
      rw [e]
      refine Ev.step (f := fun _ => some _) (fun k => ?_) (Ev.now _)
      simp only [lexiphanebook_SameInts.l0]
      rw [if_pos (by omega), if_pos (by omega), if_pos (by omega), ra, rb, if_neg h]
theorem same_ev (a b : List Int) (hm : a.length ≤ 140737488351232) : Ev (fun k => lexiphanebook_SameInts.f k a b) (decide (a = b)) := by
  by_cases hl : a.length = b.length
  · have := same_l0 a b hl hm a.length 0 (by omega)
    simp only [List.drop_zero] at this
    refine Ev.congr (fun k => ?_) this
    unfold lexiphanebook_SameInts.f
    rw [if_pos (by omega)]
    rfl
  · have e : decide (a = b) = false := by rw [decide_eq_false_iff_not]; intro e; exact hl (by rw [e])
    rw [e]
    refine Ev.congr (f := fun _ => some _) (fun k => ?_) (Ev.now _)
    unfold lexiphanebook_SameInts.f
    rw [if_neg (by omega)]

/-! ### alive -/
theorem alive_ev : Ev (fun k => lexiphanelaw20_alive.f k) true := by
  refine Ev.of lexiphanelaw20_alive.mono (k := 100) ?_
  decide +kernel

/-! ### the document's own -/
def TR (out : List Int) (n : Nat) (s : List Int) : ByteArray × Bool := if AllSixt s then (strOfNums (out ++ enc n s), true) else (⟨#[]⟩, false)
theorem enc_nil (n : Nat) : enc n [] = [] := rfl
set_option maxHeartbeats 1000000 in
theorem rtab_l0 (l : List Int) (hl : l.length ≤ 356) (s : List Int) : ∀ (i n : Nat) (out : List Int), n ≤ 15 → i ≤ l.length → out.length ≤ i → l.drop i = s →
    Ev (fun k => lexiphaneref1_Tab.l0 k l out (n : Int) (i : Int)) (TR out n s) := by
  induction s with
  | nil =>
    intro i n out hn hi ho h
    have hlen := len_drop hi h
    simp only [List.length_nil, Nat.add_zero] at hlen
    refine Ev.step (f := fun _ => some (TR out n [])) (fun k => ?_) (Ev.now _)
    simp only [lexiphaneref1_Tab.l0]
    rw [if_neg (by omega)]
    unfold TR
    rw [if_pos allSixt_nil, enc_nil, List.append_nil]
  | cons x rest ih =>
    intro i n out hn hi ho h
    have hlen := len_drop hi h
    simp only [List.length_cons] at hlen
    have hx0 : rd l (i : Int) = x := by
      have := rd_drop (a := []) h
      simpa using this
    have hd : l.drop (i + 1) = rest := by rw [← List.drop_drop, h]; rfl
    have hstep : ∀ k, lexiphaneref1_Tab.l0 (k + 1) l out n i = lexiphaneref1_Tab.j1 k l out n i (decide (¬ Sixt x)) := by
      intro k
      simp only [lexiphaneref1_Tab.l0]
      rw [if_pos (by omega), if_pos (by omega), hx0]
      unfold Sixt
      by_cases g : x < 0
      · rw [if_pos g]; congr 1; symm; rw [decide_eq_true_iff]; omega
      · rw [if_neg g]; congr 1; rw [decide_eq_decide]; omega
    refine Ev.step hstep ?_
    by_cases g : Sixt x
    · have hx := g
      unfold Sixt at hx
      have a0 : (0 : Int) ≤ (i : Int) := by omega
      have a1 : (i : Int) < (l.length : Int) := by omega
      have a2 : out.length < 140737488355328 := by omega
      have a5 : (0 : Int) ≤ ((i + 1 : Nat) : Int) := by omega
      have b1 : n + 1 ≤ 15 ∨ n = 15 := by omega
      have b2 : i + 1 ≤ l.length := by omega
      have b3 : (out ++ [16 * x + (n : Int)]).length ≤ i + 1 := by simp; omega
      have b4 : out.length ≤ i + 1 := by omega
      have b5 : rest.length ≠ 0 → ((i + 1 : Nat) : Int) < (l.length : Int) ∧ ¬ (i : Int) = (l.length : Int) - 1 := fun h => ⟨by omega, by omega⟩
      have b6 : rest.length = 0 → (i : Int) = (l.length : Int) - 1 := fun h => by omega
      have b7 : n ≠ 15 → ¬ ((n + 1 : Nat) : Int) = 16 := fun h => by omega
      have b8 : n = 15 → ((n + 1 : Nat) : Int) = 16 := fun h => by omega
      have e1 : wrap64 ((i : Int) + 1) = ((i + 1 : Nat) : Int) := by rw [wr (by omega) (by omega)]; omega
      have e2 : (wrap64 ((wrap64 ((wrap64 (16 * x)) + (wrap64 ((n : Int) + 1)))) - 1)) % 256 = 16 * x + (n : Int) := by
        rw [wr (x := 16 * x) (by omega) (by omega), wr (x := (n : Int) + 1) (by omega) (by omega), wr (x := 16 * x + ((n : Int) + 1)) (by omega) (by omega), wr (by omega) (by omega)]
        omega
      have e3 : wrap64 ((n : Int) + 1) = ((n + 1 : Nat) : Int) := by rw [wr (by omega) (by omega)]; omega
      have e4 : wrap64 ((l.length : Int) - 1) = (l.length : Int) - 1 := wr (by omega) (by omega)
      have cut : (∀ y t, rest = y :: t → n = 15 ∨ y ≠ x) → Ev (fun k => lexiphaneref1_Tab.l0 k l (out ++ [16 * x + (n : Int)]) 0 ((i + 1 : Nat) : Int)) (TR out n (x :: rest)) := by
        intro hc
        have := ih (i + 1) 0 (out ++ [16 * x + (n : Int)]) (Nat.zero_le _) b2 b3 hd
        have er : TR (out ++ [16 * x + (n : Int)]) 0 rest = TR out n (x :: rest) := by
          unfold TR
          by_cases gr : AllSixt rest
          · rw [if_pos gr, if_pos (allSixt_cons.2 ⟨g, gr⟩)]
            cases rest with
            | nil => rw [enc_nil, enc_one, List.append_nil]
            | cons y t => rw [enc_cut (hc y t rfl)]; simp
          · rw [if_neg gr, if_neg (fun e => gr (allSixt_cons.1 e).2)]
        rw [er] at this
        exact this
      by_cases h16 : n = 15
      · refine Ev.step (fun k => ?_) (cut fun _ _ _ => Or.inl h16)
        simp only [lexiphaneref1_Tab.j1]
        rw [if_neg (by simp [g]), hx0, e2, e1, e3, if_pos (b8 h16), if_pos a0, if_pos a1, if_pos a2]
      · cases rest with
        | nil =>
          refine Ev.step (fun k => ?_) (cut fun _ _ h => by cases h)
          simp only [lexiphaneref1_Tab.j1]
          rw [if_neg (by simp [g]), hx0, e2, e1, e3, e4, if_neg (b7 h16), if_pos (b6 rfl), if_pos a0, if_pos a1, if_pos a2]
        | cons y t =>
          obtain ⟨a6, a4⟩ := b5 (by simp)
          have hy0 : rd l ((i + 1 : Nat) : Int) = y := by
            have := rd_drop (a := []) hd
            simpa using this
          by_cases hyx : y = x
          · subst hyx
            have := ih (i + 1) (n + 1) out (b1.resolve_right h16) b2 b4 hd
            have er : TR out (n + 1) (y :: t) = TR out n (y :: y :: t) := by
              unfold TR
              by_cases gr : AllSixt (y :: t)
              · rw [if_pos gr, if_pos (allSixt_cons.2 ⟨g, gr⟩), enc_go h16]
              · rw [if_neg gr, if_neg (fun e => gr (allSixt_cons.1 e).2)]
            rw [er] at this
            refine Ev.step (fun k => ?_) this
            simp only [lexiphaneref1_Tab.j1]
            rw [if_neg (by simp [g]), hx0, e1, e3, e4, hy0, if_neg (b7 h16), if_neg a4, if_pos a5, if_pos a6, if_pos a0, if_pos a1, if_pos rfl]
          · refine Ev.step (fun k => ?_) (cut fun y' t' h => by injection h with h _; exact Or.inr (h ▸ hyx))
            simp only [lexiphaneref1_Tab.j1]
            rw [if_neg (by simp [g]), hx0, e2, e1, e3, e4, hy0, if_neg (b7 h16), if_neg a4, if_pos a5, if_pos a6, if_pos a0, if_pos a1, if_neg hyx, if_pos a2]
    · refine Ev.step (f := fun _ => some (TR out n (x :: rest))) (fun k => ?_) (Ev.now _)
      simp only [lexiphaneref1_Tab.j1]
      rw [if_pos (by simp [g])]
      unfold TR
      rw [if_neg (fun e => g (allSixt_cons.1 e).1)]
theorem rtab_ev (l : List Int) : Ev (fun k => lexiphaneref1_Tab.f k l) (putS l) := by
  unfold putS
  by_cases hl : l.length ≤ 356
  · have := rtab_l0 l hl l 0 0 [] (by omega) (by omega) (by simp) rfl
    have er : TR [] 0 l = if l.length ≤ 356 ∧ AllSixt l then (strOfNums (enc 0 l), true) else (⟨#[]⟩, false) := by
      unfold TR
      by_cases g : AllSixt l
      · rw [if_pos g, if_pos ⟨hl, g⟩, List.nil_append]
      · rw [if_neg g, if_neg (fun e => g e.2)]
    rw [er] at this
    refine Ev.congr (fun k => ?_) this
    unfold lexiphaneref1_Tab.f
    rw [if_neg (by omega)]
    rfl
  · rw [if_neg (fun e => hl e.1)]
    refine Ev.congr (f := fun _ => some (⟨#[]⟩, false)) (fun k => ?_) (Ev.now _)
    unfold lexiphaneref1_Tab.f
    rw [if_pos (by omega)]
theorem rget_l1 (b : ByteArray) (size : Int) (x : Int) (at_ : Int) (R : List Int × Int × Int) (d : Nat) : ∀ (m t : Nat) (out : List Int), m = t + d → out.length + d ≤ 1000 → m ≤ 16 →
    Ev (fun k => lexiphaneref1_Untab.l0 k b size (out ++ List.replicate d x) (wrap64 (at_ + 1))) R → Ev (fun k => lexiphaneref1_Untab.l1 k b size out at_ x (m : Int) (t : Int)) R := by
  induction d with
  | zero =>
    intro m t out hm ho hm16 h
    simp only [List.replicate_zero, List.append_nil] at h
    refine Ev.step (fun k => ?_) h
    simp only [lexiphaneref1_Untab.l1]
    rw [if_neg (by omega)]
  | succ d ih =>
    intro m t out hm ho hm16 h
    have := ih m (t + 1) (out ++ [x]) (by omega) (by simp; omega) hm16 (by simpa [List.replicate_succ] using h)
    refine Ev.step (fun k => ?_) this
    simp only [lexiphaneref1_Untab.l1]
    rw [if_pos (by omega), if_pos (by omega), wr (by omega) (by omega)]
    congr 1

set_option maxHeartbeats 1000000 in
theorem rget_l0 (b : ByteArray) (hb : b.size ≤ 140737488351232) (size : Nat) (hs : size ≤ 356) (rest : List Int) : ∀ (i : Nat) (out : List Int), i ≤ b.size → out.length ≤ size → (bl b).drop i = rest →
    Ev (fun k => lexiphaneref1_Untab.l0 k b size out i) (GetR out i (dec (prev (bl b) i) rest (size - out.length))) := by
  induction rest with
  | nil =>
    intro i out hi ho h
    have hlen := len_drop (by rw [bl_length]; exact hi) h
    rw [bl_length] at hlen
    simp only [List.length_nil, Nat.add_zero] at hlen
    refine Ev.step (f := fun _ => some (GetR out i (dec (prev (bl b) i) [] (size - out.length)))) (fun k => ?_) (Ev.now _)
    simp only [lexiphaneref1_Untab.l0]
    by_cases hc : out.length < size
    · obtain ⟨m, hm⟩ : ∃ m, size - out.length = m + 1 := ⟨size - out.length - 1, by omega⟩
      rw [if_pos (by omega), if_pos (by omega), hm, dec_nil]
      rfl
    · have hm : size - out.length = 0 := by omega
      rw [if_neg (by omega), hm, dec_zero]
      unfold GetR
      simp
  | cons c rest ih =>
    intro i out hi ho h
    have hlen := len_drop (by rw [bl_length]; exact hi) h
    rw [bl_length] at hlen
    simp only [List.length_cons] at hlen
    have hc0 : rd (bl b) (i : Int) = c := by
      have := rd_drop (a := []) h
      simpa using this
    have hcb : Byte c := by
      have : c ∈ (bl b).drop i := by rw [h]; exact List.mem_cons_self ..
      exact bl_byte b c (List.mem_of_mem_drop this)
    unfold Byte at hcb
    by_cases hc : out.length < size
    · obtain ⟨m, hm⟩ : ∃ m, size - out.length = m + 1 := ⟨size - out.length - 1, by omega⟩
      have hpb : 0 ≤ prev (bl b) i ∧ prev (bl b) i ≤ 255 := by
        unfold prev
        by_cases h0 : i = 0
        · rw [if_pos h0]; omega
        · rw [if_neg h0, ← bt_bl]; exact bt_range _ _
      have e1 : wrap64 (Int.tdiv (wrap64 c) 16) = c / 16 := by
        rw [wr (x := c) (by omega) (by omega), Int.tdiv_eq_ediv_of_nonneg (by omega), wr (by omega) (by omega)]
      have e2 : wrap64 (Int.tmod (wrap64 c) 16 + 1) = c % 16 + 1 := by
        rw [wr (x := c) (by omega) (by omega), Int.tmod_eq_emod_of_nonneg (by omega), wr (by omega) (by omega)]
      have p1 : ∀ p : Int, 0 ≤ p → p ≤ 255 → wrap64 (Int.tdiv (wrap64 p) 16) = p / 16 := by
        intro p h1 h2
        rw [wr (x := p) (by omega) (by omega), Int.tdiv_eq_ediv_of_nonneg (by omega), wr (by omega) (by omega)]
      have p2 : ∀ p : Int, 0 ≤ p → p ≤ 255 → wrap64 (Int.tmod (wrap64 p) 16 + 1) = p % 16 + 1 := by
        intro p h1 h2
        rw [wr (x := p) (by omega) (by omega), Int.tmod_eq_emod_of_nonneg (by omega), wr (by omega) (by omega)]
      have e3 : wrap64 ((size : Int) - (out.length : Int)) = ((m + 1 : Nat) : Int) := by
        rw [wr (by omega) (by omega)]; omega
      have e5 : (wrap64 ((out.length : Int) + (c % 16 + 1)) > (size : Int)) ↔ ((m + 1 : Nat) : Int) < c % 16 + 1 := by
        rw [wr (by omega) (by omega)]; omega
      have hstep : ∀ k, lexiphaneref1_Untab.l0 (k + 1) b size out i = lexiphaneref1_Untab.j2 k b size out i (c / 16) (c % 16 + 1) (decide ((prev (bl b) i / 16 = c / 16 ∧ prev (bl b) i % 16 < 15) ∨ ((m + 1 : Nat) : Int) < c % 16 + 1)) := by
        intro k
        simp only [lexiphaneref1_Untab.l0]
        rw [if_pos (by omega), if_neg (by omega), if_pos (by omega), if_pos (by omega)]
        simp only [bt_bl, hc0, e1, e2]
        by_cases h5 : ((m + 1 : Nat) : Int) < c % 16 + 1
        · rw [if_pos (e5.2 h5)]; congr 1; symm; rw [decide_eq_true_iff]; exact Or.inr h5
        · rw [if_neg (fun h => h5 (e5.1 h))]
          by_cases h0 : i = 0
          · subst h0
            rw [if_neg (by omega)]
            congr 1
            symm
            rw [decide_eq_false_iff_not]
            unfold prev
            rw [if_pos rfl]
            omega
          · have hp : prev (bl b) i = rd (bl b) ((i : Int) - 1) := by unfold prev; rw [if_neg h0]
            have p3 : Int.tmod (wrap64 (prev (bl b) i)) 16 = prev (bl b) i % 16 := by rw [wr (by omega) (by omega), Int.tmod_eq_emod_of_nonneg (by omega)]
            rw [if_pos (by omega), wr (x := (i : Int) - 1) (by omega) (by omega), if_pos (by omega), if_pos (by omega), ← hp, p1 _ hpb.1 hpb.2, p3]
            by_cases g : prev (bl b) i / 16 = c / 16
            · rw [if_pos g]; congr 1; rw [decide_eq_decide]; omega
            · rw [if_neg g]; congr 1; symm; rw [decide_eq_false_iff_not]; omega
      refine Ev.step hstep ?_
      rw [hm, dec_cons]
      by_cases g : (prev (bl b) i / 16 = c / 16 ∧ prev (bl b) i % 16 < 15) ∨ ((m + 1 : Nat) : Int) < c % 16 + 1
      · rw [if_pos g]
        refine Ev.step (f := fun _ => some (GetR out i (3, [], 0))) (fun k => ?_) (Ev.now _)
        simp only [lexiphaneref1_Untab.j2]
        rw [if_pos (by simpa using g)]
        rfl
      · rw [if_neg g]
        have hstep3 : ∀ k, lexiphaneref1_Untab.j2 (k + 1) b size out i (c / 16) (c % 16 + 1) (decide ((prev (bl b) i / 16 = c / 16 ∧ prev (bl b) i % 16 < 15) ∨ ((m + 1 : Nat) : Int) < c % 16 + 1)) =
            lexiphaneref1_Untab.l1 k b size out i (c / 16) (((c % 16 + 1).toNat : Nat) : Int) ((0 : Nat) : Int) := by
          intro k
          simp only [lexiphaneref1_Untab.j2]
          rw [if_neg (by simpa using g)]
          rw [show (((c % 16 + 1).toNat : Nat) : Int) = c % 16 + 1 by omega]
          rfl
        refine Ev.step hstep3 ?_
        have hpn : prev (bl b) (i + 1) = c := by
          unfold prev
          rw [if_neg (by omega), show (((i + 1 : Nat) : Int) - 1) = (i : Int) by omega]
          exact hc0
        have := ih (i + 1) (out ++ List.replicate (c % 16 + 1).toNat (c / 16)) (by omega) (by simp; omega) (by rw [← List.drop_drop, h]; rfl)
        rw [hpn, show size - (out ++ List.replicate (c % 16 + 1).toNat (c / 16)).length = m + 1 - (c % 16 + 1).toNat by simp; omega] at this
        refine rget_l1 b size (c / 16) i _ (c % 16 + 1).toNat (c % 16 + 1).toNat 0 out (by omega) (by omega) (by omega) ?_
        rw [wr (by omega) (by omega), show ((i : Int) + 1) = ((i + 1 : Nat) : Int) by omega]
        have er : GetR (out ++ List.replicate (c % 16 + 1).toNat (c / 16)) (i + 1) (dec c rest (m + 1 - (c % 16 + 1).toNat)) =
            GetR out i (if (dec c rest (m + 1 - (c % 16 + 1).toNat)).1 = 0 then (0, List.replicate (c % 16 + 1).toNat (c / 16) ++ (dec c rest (m + 1 - (c % 16 + 1).toNat)).2.1, (dec c rest (m + 1 - (c % 16 + 1).toNat)).2.2 + 1) else ((dec c rest (m + 1 - (c % 16 + 1).toNat)).1, [], 0)) := by
          unfold GetR
          by_cases hd : (dec c rest (m + 1 - (c % 16 + 1).toNat)).1 = 0
          · rw [if_pos hd, if_pos hd, if_pos rfl]
            simp only [List.append_assoc, Prod.mk.injEq, true_and, and_true]
            omega
          · rw [if_neg hd, if_neg hd, if_neg hd]
        rw [er] at this
        exact this
    · have hm : size - out.length = 0 := by omega
      refine Ev.step (f := fun _ => some (GetR out i (dec (prev (bl b) i) (c :: rest) (size - out.length)))) (fun k => ?_) (Ev.now _)
      simp only [lexiphaneref1_Untab.l0]
      rw [if_neg (by omega), hm, dec_zero]
      unfold GetR
      simp
theorem rget_ev (b : ByteArray) (hb : b.size ≤ 140737488351232) (size : Int) : Ev (fun k => lexiphaneref1_Untab.f k b size) (getS b size) := by
  unfold getS
  have hstep : ∀ k, lexiphaneref1_Untab.f k b size = lexiphaneref1_Untab.j0 k b size (decide (size < 0 ∨ 356 < size)) := by
    intro k
    unfold lexiphaneref1_Untab.f
    by_cases h : size < 0
    · rw [if_pos h]; congr 1; symm; rw [decide_eq_true_iff]; exact Or.inl h
    · rw [if_neg h]; congr 1; rw [decide_eq_decide]; omega
  refine Ev.congr hstep ?_
  by_cases h : size < 0 ∨ 356 < size
  · rw [if_pos h]
    refine Ev.step (f := fun _ => some ([], 0, 1)) (fun k => ?_) (Ev.now _)
    simp only [lexiphaneref1_Untab.j0]
    rw [if_pos (by simpa using h)]
  · rw [if_neg h]
    have := rget_l0 b hb size.toNat (by omega) (bl b) 0 [] (by omega) (by simp) rfl
    rw [show ((size.toNat : Nat) : Int) = size by omega] at this
    refine Ev.step (fun k => ?_) this
    simp only [lexiphaneref1_Untab.j0]
    rw [if_neg (by simpa using h)]
    rfl

end TabB
end Go.Proofs.Ytoccpgnbdjinjaa
