/- Rows that are kept side by side in memory, none in another's: read, written, grown. No function of the program in sight. -/
import Derived.Test.YtboklkfplnmabaaGreatWMore
import Derived.Maps.AppendAt
import Derived.WalkKit
set_option linter.unusedVariables false
set_option linter.unusedSimpArgs false
namespace Go.Proofs.YtboklkfplnmabaaGreat
open Go.RowKit Go.Proofs.YtboklkfplnmabaaGreatW.PrintWords Go.Proofs.YtboklkfplnmabaaGreatW.PrintLast Go.Proofs.YtboklkfplnmabaaGreatW.PrintMore
namespace Book
section
variable {P : Program} (w : World)
/-- append onto a row of one's own: what was there reads as before, by the old slice too. -/
theorem run_append_keep (base : Nat) (t ty e : TypeId) (i : TypeInfo) (z : Value) (size bytes : Nat) (ht : P.underlying t = some (.slice e)) (hi : P.info? e = some i) (hz : i.zero = some z)
    (hsize : i.size = size) (hby : i.bytes = bytes) (hzs : z.cells.size = size) (hsz : 0 < size)
    (v : Value) (n : Nat) (xs : List Value) (hown : w.ownsRow base e size v n xs)
    (a : Addr) (m c : Nat) (news : List Value) (hl : news.length = m * size) (hnews : ∀ j u, news[j]? = some u → w.cell? (a.add j) = some u) (h1 : ∀ u ∈ news, u.oneCell' = true)
    (h63 : n + m ≤ maxLen) (hbytes : (n + m) * bytes ≤ 140737488355328) (hbase : base ≤ w.heap.size) :
    ∃ v' w', (Builtin.append_ #[t, t] ty #[v, .slice (some a) m c]).run P w = .ok v' w' ∧ w'.ownsRow base e size v' (n + m) (xs ++ news) ∧ w.grownBy w' v.ownBlock ∧
      (v'.ownBlock = v.ownBlock ∨ v'.ownBlock = some w.heap.size) ∧ w'.ownsRow base e size v n xs := by
  subst hsize
  subst hby
  have hsmall : n + m ≤ 9223372036854775807 := by simp only [maxLen] at h63; omega
  have hlen : (xs ++ news).length = (n + m) * i.size := by rw [List.length_append, hown.1, hl, Nat.add_mul]
  have grown : ∀ (old : Nat), old < n + m → ∀ (row : Option Nat),
      (w.drew.alloc (.cells (xs.toArray ++ news.toArray ++ Builtin.zeroCells z.cells (grownCap w (n + m) old e - (n + m))) e)).ownsRow base e i.size
        (.slice (some ⟨w.heap.size, 0, none⟩) (n + m) (grownCap w (n + m) old e)) (n + m) (xs ++ news) ∧
      w.grownBy (w.drew.alloc (.cells (xs.toArray ++ news.toArray ++ Builtin.zeroCells z.cells (grownCap w (n + m) old e - (n + m))) e)) row := by
    intro old ho row
    have hge := grownCap_ge w (n + m) old e
    have hcm : grownCap w (n + m) old e ≤ maxLen := grownCap_le_maxLen w (n + m) old e h63
    refine ⟨⟨hlen, .inr ⟨w.heap.size, _, _, rfl, hbase, heap_alloc_new w.drew _, hge, hcm, ?_, ?_⟩⟩, ⟨rfl, rfl, rfl, by simp, fun k hk _ => Below.heap_alloc w.drew _ k hk⟩⟩
    · simp only [Array.size_append, List.size_toArray, size_zeroCells, hzs, hown.1, hl, ← Nat.add_mul]
      congr 1
      omega
    · simp only [Array.toList_append, List.append_assoc]
      rw [← List.append_assoc, ← hlen]
      exact List.take_left
  have hkeep : ∀ o : Obj, (w.drew.alloc o).ownsRow base e i.size v n xs := fun o => World.ownsRow.alloc (w := w.drew) hown o
  rcases hown.2 with ⟨rfl, rfl⟩ | ⟨g, cap, cur, rfl, hbg, hg, hnc, hcm, hcs, htake⟩
  · have hx : xs = [] := List.eq_nil_of_length_eq_zero (by simpa using hown.1)
    subst hx
    by_cases hm : m = 0
    · subst hm
      have hn : news = [] := List.eq_nil_of_length_eq_zero (by simpa using hl)
      subst hn
      refine ⟨.slice none 0 0, w, ?_, World.ownsRow_nil w base e i.size, ⟨rfl, rfl, rfl, Nat.le_refl _, fun _ _ _ => rfl⟩, .inl rfl, World.ownsRow_nil w base e i.size⟩
      simp [Builtin.append_, run_underlying ht, sizeOf, typeInfo, hi, Builtin.lenOf, Builtin.firstCells, loadCells, loadCellsFrom]
    · have hr := run_append_nil (P := P) w t ty e i z ht hi hz a m c news hl hnews (by omega) (by omega) (by have hb := hbytes; simp only [Nat.zero_add] at hb; omega)
      have hgr := grown 0 (by omega) (Value.ownBlock (.slice none 0 0))
      simp only [Nat.zero_add, List.nil_append, Array.empty_append] at hgr ⊢
      exact ⟨_, _, hr, hgr.1, hgr.2, .inr rfl, World.ownsRow_nil _ base e i.size⟩
  · by_cases hroom : n + m ≤ cap
    · have hfit : n * i.size + news.length ≤ cur.size := by rw [hl, hcs, ← Nat.add_mul]; exact Nat.mul_le_mul_right _ hroom
      have hr := run_append_room (P := P) w t ty e i ht hi g n cap cur hg a m c news hl hnews h1 hroom hfit
      have hsize2 : (cur.toList.take (n * i.size) ++ news ++ cur.toList.drop (n * i.size + news.length)).toArray.size = cap * i.size := by
        simp only [List.size_toArray, List.length_append, List.length_take, List.length_drop, Array.length_toList]
        omega
      refine ⟨_, _, hr, ⟨hlen, .inr ⟨g, cap, _, rfl, hbg, setRow_heap w g cur _ e _ hg, hroom, hcm, hsize2, ?_⟩⟩, ⟨rfl, rfl, rfl, by simp, fun k _ hk => setRow_other w g k _ (fun e => hk (by simp [Value.ownBlock, e]))⟩, .inl rfl,
        ⟨hown.1, .inr ⟨g, cap, _, rfl, hbg, setRow_heap w g cur _ e _ hg, hnc, hcm, hsize2, ?_⟩⟩⟩
      · rw [htake, ← hlen]
        exact List.take_left
      · rw [htake, ← hown.1, List.append_assoc]
        exact List.take_left
    · have holds : ∀ j u, xs[j]? = some u → w.cell? ((⟨g, 0, none⟩ : Addr).add j) = some u := hown.cells (g := g) rfl
      have hr := run_append_grow (P := P) w t ty e i z ht hi hz ⟨g, 0, none⟩ n cap xs hown.1 holds a m c news hl hnews (by omega) (by omega) (growslice_fits (by omega) hbytes)
      have hgr := grown cap (by omega) (Value.ownBlock (.slice (some ⟨g, 0, none⟩) n cap))
      exact ⟨_, _, hr, hgr.1, hgr.2, .inr rfl, hkeep _⟩
end
/-- The shorter slice over the same array reads on, where the longer one does. -/
theorem own_shorter {w w' : World} {base base' : Nat} {e : TypeId} {v0 v : Value} {n0 n : Nat} {xs0 xs : List Value} (h0 : w.ownsRow base e 1 v0 n0 xs0) (h : w.ownsRow base' e 1 v n xs) (hb : v.ownBlock = v0.ownBlock) (hn : n0 ≤ n)
    (h' : w'.ownsRow base' e 1 v n xs) : w'.ownsRow base e 1 v0 n0 xs0 := by
  refine ⟨h0.1, ?_⟩
  rcases h0.2 with h0' | ⟨g, cap, cur, rfl, hbg, hg, hnc, hcm, hcs, htake⟩
  · exact .inl h0'
  rcases h.2 with ⟨rfl, _⟩ | ⟨g2, cap2, cur2, rfl, hbg2, hg2, hnc2, hcm2, hcs2, htake2⟩
  · simp [Value.ownBlock] at hb
  have hgg : g2 = g := by simpa [Value.ownBlock] using hb
  subst hgg
  rw [hg] at hg2
  injection hg2 with hg2
  injection hg2 with hcur _ _
  subst hcur
  rcases h'.2 with ⟨he, _⟩ | ⟨g3, cap3, cur3, he, hbg3, hg3, hnc3, hcm3, hcs3, htake3⟩
  · cases he
  injection he with he1 he2 he3
  injection he1 with he1
  injection he1 with he1
  subst he1
  subst he3
  refine .inr ⟨g2, cap, cur3, rfl, hbg, hg3, hnc, hcm, by omega, ?_⟩
  have := congrArg (List.take n0) (htake2.trans htake3.symm)
  rw [List.take_take, List.take_take] at this
  simp only [Nat.mul_one, Nat.min_eq_left hn] at this htake ⊢
  rw [← this, htake]
/-- Rows that are kept, none in another's memory. -/
structure Kept (w : World) (base : Nat) (e : TypeId) (vs : List Value) (f : Nat → List Value) : Prop where
  row : ∀ (i : Nat) (v : Value), vs[i]? = some v → w.ownsRow base e 1 v (f i).length (f i)
  ne : ∀ (i j : Nat) (v v' : Value), vs[i]? = some v → vs[j]? = some v' → i ≠ j → NeRow v v'
section
variable {w w1 : World} {base : Nat} {e : TypeId} {vs : List Value} {f : Nat → List Value}
theorem Kept.none_ : Kept w base e [] f := ⟨fun i v h => by simp at h, fun i j v v' h => by simp at h⟩
theorem Kept.grown (h : Kept w base e vs f) {row : Option Nat} (hg : w.grownBy w1 row) (hne : ∀ (i : Nat) (v : Value), vs[i]? = some v → v.ownBlock = none ∨ v.ownBlock ≠ row) : Kept w1 base e vs f :=
  ⟨fun i v hv => own_other (h.row i v hv) hg (hne i v hv), h.ne⟩
theorem Kept.below (h : Kept w base e vs f) (hb : Below w.heap.size w w1) : Kept w1 base e vs f := ⟨fun i v hv => pw_own_below (h.row i v hv) hb, h.ne⟩
theorem Kept.set_ (h : Kept w base e vs f) {g : Nat} {t : TypeId} {cells : Array Value} (hb : w.heap[g]? = some (.cells cells t (0, 0))) (ht : e ≠ t) (j : Nat) (u : Value) : Kept (w.setCell ⟨g, j, none⟩ u) base e vs f :=
  ⟨fun i v hv => own_setCell (h.row i v hv) (own_ne (h.row i v hv) hb ht) u, h.ne⟩
theorem Kept.push (h : Kept w base e vs f) {v : Value} {xs : List Value} (hv : w.ownsRow base e 1 v xs.length xs) (hne : ∀ (i : Nat) (v' : Value), vs[i]? = some v' → NeRow v' v) : Kept w base e (vs ++ [v]) (fun i => if i < vs.length then f i else xs) := by
  have key : ∀ i u, (vs ++ [v])[i]? = some u → (i < vs.length ∧ vs[i]? = some u) ∨ (i = vs.length ∧ u = v) := by
    intro i u hu
    rcases Nat.lt_or_ge i vs.length with hi | hi
    · exact .inl ⟨hi, by rwa [List.getElem?_append_left hi] at hu⟩
    · rw [List.getElem?_append_right hi] at hu
      have h2 := (List.getElem?_eq_some_iff.1 hu).1
      have h3 : i = vs.length := by simp at h2; omega
      subst h3
      simp at hu
      exact .inr ⟨rfl, hu.symm⟩
  refine ⟨fun i u hu => ?_, fun i j u u' hu hu' hij => ?_⟩
  · rcases key i u hu with ⟨hi, hu⟩ | ⟨rfl, rfl⟩
    · simp only [if_pos hi]; exact h.row i u hu
    · simp only [if_neg (Nat.lt_irrefl _)]; exact hv
  · rcases key i u hu with ⟨hi, k1⟩ | ⟨hi, e1⟩
    · rcases key j u' hu' with ⟨hj, k2⟩ | ⟨hj, e2⟩
      · exact h.ne i j u u' k1 k2 hij
      · rw [e2]; exact hne i u k1
    · rcases key j u' hu' with ⟨hj, k2⟩ | ⟨hj, e2⟩
      · rw [e1]; exact ne_symm (hne j u' k2)
      · exact absurd (hi.trans hj.symm) hij
/-- One element of one row is written. -/
theorem Kept.put (h : Kept w base e vs f) {i : Nat} {g n c : Nat} (hi : vs[i]? = some (.slice (some ⟨g, 0, none⟩) n c)) (k : Nat) (u : Value) :
    Kept (w.setCell ⟨g, k, none⟩ u) base e vs (fun j => if j = i then (f i).set k u else f j) ∧ w.grownBy (w.setCell ⟨g, k, none⟩ u) (some g) := by
  have hg : w.grownBy (w.setCell ⟨g, k, none⟩ u) (some g) := ⟨rfl, rfl, rfl, by simp, fun j _ hj => Below.heap_setCell w ⟨g, k, none⟩ u j (fun e => hj (by simp [e]))⟩
  refine ⟨⟨fun j v hv => ?_, h.ne⟩, hg⟩
  by_cases hj : j = i
  · subst hj
    obtain rfl := Option.some.inj (hi.symm.trans hv)
    simp only [eq_self, if_true]
    have ho := h.row j _ hv
    rcases ho.2 with ⟨he, _⟩ | ⟨g', cap, cur, he, hbg, hgg, hnc, hcm, hcs, htake⟩
    · cases he
    injection he with he1 he2 he3
    injection he1 with he1
    injection he1 with he1
    subst he1; subst he2; subst he3
    refine ⟨by simp, .inr ⟨g, c, cur.setIfInBounds k u, by rw [List.length_set], hbg, blk_set hgg k u, by simpa using hnc, hcm, by simpa using hcs, ?_⟩⟩
    rw [Array.toList_setIfInBounds, List.length_set, List.take_set, htake]
  · simp only [if_neg hj]
    refine own_other (h.row j v hv) hg ?_
    have := h.ne j i v _ hv hi hj
    rcases hvb : v.ownBlock with _ | b
    · exact .inl rfl
    · refine .inr fun e => ?_
      injection e with e
      subst e
      exact this b hvb rfl
theorem Kept.congr (h : Kept w base e vs f) {f' : Nat → List Value} (hf : ∀ i, i < vs.length → f' i = f i) : Kept w base e vs f' :=
  ⟨fun i v hv => by rw [hf i (List.getElem?_eq_some_iff.1 hv).1]; exact h.row i v hv, h.ne⟩
/-- The rows read, as a row of rows. -/
theorem Kept.reads {α : Type} {enc : α → Value} {h1 : ∀ x : α, (enc x).oneCell' = true} {L : List (List α)} {ea : TypeId} {base2 : Nat} {v : Value} (h : ∀ (i : Nat) (u : Value), vs[i]? = some u → w.ownsRow base e 1 u (f i).length (f i)) (ho : w.ownsRow base2 ea 1 v vs.length vs)
    (hL : L.length = vs.length) (hf : ∀ (i : Nat) (l : List α), L[i]? = some l → f i = encs enc l) : ∃ A c, v = .slice A L.length c ∧ L.length ≤ c ∧ Kd.C (Kd.slice e (Kd.scalar enc h1)) w A L.length L := by
  have hR : Reps ((Kd.slice e (Kd.scalar enc h1)).K w) 1 L vs := by
    refine ⟨by omega, fun j p hj => ?_⟩
    have hjl := (List.getElem?_eq_some_iff.1 hj).1
    have hjv : j < vs.length := by omega
    have hv : vs[j]? = some vs[j] := List.getElem?_eq_getElem hjv
    have hrow := h j _ hv
    rw [hf j p hj] at hrow
    have hlen : (encs enc p).length = p.length := encs_length p
    rw [hlen] at hrow
    obtain ⟨A, c, he, hc, hC⟩ := Kd.R_reads (Kd.R_of_own (h1 := h1) (ok := fun _ => True) hrow (fun _ _ => trivial))
    refine ⟨A, c, ?_, hc, hC⟩
    rw [Nat.mul_one]
    have : (vs.drop j).take 1 = [vs[j]] := by
      rw [List.drop_eq_getElem_cons hjv]
      rfl
    rw [this, he]
  rw [← hL] at ho
  obtain ⟨A, c, rfl, hrow⟩ := own_reads_row (size := 1) (by simpa using ho) hR rfl
  exact ⟨A, c, rfl, own_le ho, hrow⟩
end
/-- THE OPERATION, for the walk: the appended elements are a row of one's own. -/
theorem wpList_append_keep {P : Program} {w : World} {ops : Array Oper} {rest : List Oper} {o : Oper} {a : Act} {Q : Exit → Act → World → Prop} (hgd : o.guard = none) (s x : Operand) (t e : TypeId)
    (ho : o.op = .call { callee := .builtin .append, args := #[s, x], argTypes := #[t, t] }) (z : Value) (bytes : Nat) (ht : P.underlying t = some (.slice e))
    (hinfo : (P.info? e).map (fun i => (i.zero, i.size, i.bytes)) = some (some z, 1, bytes)) (hz : z.cells.size = 1) (hb0 : 0 < bytes)
    (base : Nat) (v : Value) (n : Nat) (xs : List Value) (hs : a.eval s = v) (hown : w.ownsRow base e 1 v n xs)
    (base2 : Nat) (vx : Value) (m : Nat) (ys : List Value) (hx : a.eval x = vx) (hy : w.ownsRow base2 e 1 vx m ys) (h1 : ∀ u ∈ ys, u.oneCell' = true) (hm : 0 < m)
    (hbytes : (n + m) * bytes ≤ 140737488355328) (hbase : base ≤ w.heap.size)
    (h : ∀ v' w', w'.ownsRow base e 1 v' (n + m) (xs ++ ys) → w.grownBy w' v.ownBlock → (v'.ownBlock = v.ownBlock ∨ v'.ownBlock = some w.heap.size) → w'.ownsRow base e 1 v n xs → wpList P ops Q rest (a.put o.dst v') w') : wpList P ops Q (o :: rest) a w := by
  obtain ⟨i, hi, hii⟩ := Option.map_eq_some_iff.1 hinfo
  simp only [Prod.mk.injEq] at hii
  obtain ⟨hz0, hz1, hz2⟩ := hii
  obtain ⟨g, c, rfl, hg1, hg2⟩ := hy.form hm
  have hle : n + m ≤ 140737488355328 := Nat.le_trans (Nat.le_mul_of_pos_right _ hb0) hbytes
  refine wpList_plain hgd fun K hK => ?_
  obtain ⟨v', w', hr, h2, h3, h4, h5⟩ := run_append_keep (P := P) w base t o.type e i z 1 bytes ht hi hz0 hz1 hz2 hz (by omega) v n xs hown ⟨g, 0, none⟩ m c ys (by have := hy.1; omega) (hy.cells (g := g) rfl) h1 (by simp only [maxLen]; omega) hbytes hbase
  unfold Oper.wp execOp
  simp only [ho, resolve, invoke, builtin, Sem.run_bind, Sem.run_pure, Result.andThen_ok, List.map_toArray, List.map_cons, List.map_nil, hs, hx, hr]
  exact hK _ _ (h v' w' h2 h3 h4 h5)
section
variable {w w1 : World} {base S : Nat} {e : TypeId} {vs : List Value} {f : Nat → List Value} {v5 vi : Value} {n5 : Nat} {xs5 : List Value} {i : Nat}
/-- What grows is a row that began as the i-th: the kept rows read on. -/
theorem Kept.grow (K : Kept w base e vs f) (hi : vs[i]? = some vi) (hS : ∀ (k : Nat) (v : Value), vs[k]? = some v → ∀ b, v.ownBlock = some b → b < S) (h5 : w.ownsRow base e 1 v5 n5 xs5) (hn : (f i).length ≤ n5)
    (hat : v5.ownBlock = vi.ownBlock ∨ ∃ b, v5.ownBlock = some b ∧ S ≤ b) (hg : w.grownBy w1 v5.ownBlock) (hk : w1.ownsRow base e 1 v5 n5 xs5) : Kept w1 base e vs f := by
  refine ⟨fun k v hv => ?_, K.ne⟩
  rcases hat with hat | ⟨b, hb, hbS⟩
  · by_cases hki : k = i
    · subst hki
      obtain rfl := Option.some.inj (hi.symm.trans hv)
      exact own_shorter (K.row k _ hv) h5 hat hn hk
    · refine own_other (K.row k v hv) hg ?_
      rw [hat]
      exact ne_other (ne_symm (K.ne k i v vi hv hi hki))
  · refine own_other (K.row k v hv) hg ?_
    rcases hvb : v.ownBlock with _ | b'
    · exact .inl rfl
    · refine .inr fun he => ?_
      rw [hb] at he
      injection he with he
      have := hS k v hv b' hvb
      omega
theorem out_grow {u : Value} {m : Nat} {ys : List Value} (h : w.ownsRow base e 1 u m ys) (hne : NeRow u vi) (hu : ∀ b, u.ownBlock = some b → b < S) (hat : v5.ownBlock = vi.ownBlock ∨ ∃ b, v5.ownBlock = some b ∧ S ≤ b) (hg : w.grownBy w1 v5.ownBlock) : w1.ownsRow base e 1 u m ys := by
  refine own_other h hg ?_
  rcases hvb : u.ownBlock with _ | b'
  · exact .inl rfl
  · refine .inr fun he => ?_
    rcases hat with hat | ⟨b, hb, hbS⟩
    · rw [hat] at he
      exact hne b' hvb he.symm
    · rw [hb] at he
      injection he with he
      have := hu b' hvb
      omega
theorem at_step {v6 : Value} {W : World} (hat : v5.ownBlock = vi.ownBlock ∨ ∃ b, v5.ownBlock = some b ∧ S ≤ b) (hSW : S ≤ W.heap.size) (h : v6.ownBlock = v5.ownBlock ∨ v6.ownBlock = some W.heap.size) : v6.ownBlock = vi.ownBlock ∨ ∃ b, v6.ownBlock = some b ∧ S ≤ b := by
  rcases h with h | h
  · rw [h]; exact hat
  · exact .inr ⟨_, h, hSW⟩
end
end Book
end Go.Proofs.YtboklkfplnmabaaGreat
