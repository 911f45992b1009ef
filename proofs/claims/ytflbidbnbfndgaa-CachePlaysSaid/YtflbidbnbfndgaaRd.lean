/- Slices that are only read: their elements lie in cells, whatever block these are in. No program in it. -/
import Derived.Test.YtflbidbnbfndgaaAppend
namespace Go.Proofs.Ytflbidbnbfndgaa
open Go Go.RowKit

/-- A slice that can be read: nil, or its elements in cells. -/
def SlRd (w : World) (k : Nat) (v : Value) (n : Nat) (xs : List Value) : Prop :=
  xs.length = n * k ∧ (v = .slice none 0 0 ∧ n = 0 ∨ ∃ b off c, v = .slice (some ⟨b, off, none⟩) n c ∧ n ≤ c ∧ c ≤ maxLen ∧ b < w.heap.size ∧ ∀ j u, xs[j]? = some u → w.cell? ⟨b, off + j, none⟩ = some u)

section
variable {w w' : World} {e : TypeId} {k : Nat} {v : Value} {n : Nat} {xs : List Value}

theorem SlAt.rd (h : SlAt w e k v n xs) : SlRd w k v n xs := by
  refine ⟨h.1, ?_⟩
  rcases h.2 with h0 | ⟨b, off, c, arr, rfl, hg, hnc, hm, hs, hx⟩
  · exact .inl h0
  · refine .inr ⟨b, off, c, rfl, hnc, hm, (Array.getElem?_eq_some_iff.1 hg).1, fun j u hu => ?_⟩
    rw [cell_of_row w b (off + j) arr e (0, 0) hg]
    exact hx j u hu
theorem SlRd.nil (w : World) (k : Nat) : SlRd w k (.slice none 0 0) 0 [] := ⟨by simp, .inl ⟨rfl, rfl⟩⟩
theorem SlRd.lt (h : SlRd w k v n xs) : ∀ b, v.ownBlock = some b → b < w.heap.size := by
  intro b hb
  rcases h.2 with ⟨rfl, _⟩ | ⟨g, off, c, rfl, _, _, hg, _⟩
  · simp [Value.ownBlock] at hb
  · simp [Value.ownBlock] at hb
    subst hb
    exact hg
theorem SlRd.below (h : SlRd w k v n xs) (hb : Below w.heap.size w w') : SlRd w' k v n xs := by
  refine ⟨h.1, ?_⟩
  rcases h.2 with h0 | ⟨b, off, c, rfl, hnc, hm, hg, hx⟩
  · exact .inl h0
  · exact .inr ⟨b, off, c, rfl, hnc, hm, Nat.lt_of_lt_of_le hg hb.size, fun j u hu => (hb.cell (p := ⟨b, off + j, none⟩) hg).trans (hx j u hu)⟩
theorem SlRd.form (h : SlRd w k v n xs) : ∃ a c, v = .slice a n c ∧ n ≤ c ∧ c ≤ maxLen := by
  rcases h.2 with ⟨rfl, rfl⟩ | ⟨g, off, c, rfl, hnc, hm, _⟩
  · exact ⟨none, 0, rfl, Nat.le_refl _, by unfold maxLen; omega⟩
  · exact ⟨_, c, rfl, hnc, hm⟩
theorem SlRd.cells (h : SlRd w k v n xs) (hp : 0 < xs.length) : ∃ b off c, v = .slice (some ⟨b, off, none⟩) n c ∧ n ≤ c ∧ b < w.heap.size ∧ ∀ j u, xs[j]? = some u → w.cell? ⟨b, off + j, none⟩ = some u := by
  obtain ⟨hl, h2⟩ := h
  rcases h2 with ⟨rfl, rfl⟩ | ⟨g, off, c, rfl, hnc, _, hg, hx⟩
  · simp at hl; simp [hl] at hp
  · exact ⟨g, off, c, rfl, hnc, hg, hx⟩
theorem SlRd.take {a : Option Addr} {n c : Nat} {xs : List Value} (h : SlRd w k (.slice a n c) n xs) (m : Nat) (hm : m ≤ n) : SlRd w k (.slice a m c) m (xs.take (m * k)) := by
  refine ⟨by rw [List.length_take, h.1, Nat.min_eq_left (Nat.mul_le_mul_right _ hm)], ?_⟩
  rcases h.2 with ⟨e1, e2⟩ | ⟨b, off, c', e1, hnc, hcm, hg, hx⟩
  · cases e1
    exact .inl ⟨by have : m = 0 := by omega
                   rw [this], by omega⟩
  · cases e1
    refine .inr ⟨b, off, c, rfl, by omega, hcm, hg, fun j u hu => ?_⟩
    have hj := (List.getElem?_eq_some_iff.1 hu).1
    rw [List.getElem?_take_of_lt (by simp at hj; omega)] at hu
    exact hx j u hu
/-- 'xs[m:]', its value written out. -/
theorem SlRd.cut {b off n c : Nat} {xs : List Value} (h : SlRd w k (.slice (some ⟨b, off, none⟩) n c) n xs) (m : Nat) (hm : m ≤ n) {A : Addr} (hA : (if c = m then (some ⟨b, off, none⟩ : Option Addr) else some ⟨b, off + m * k, none⟩) = some A) :
    SlRd w k (.slice (some A) (n - m) (c - m)) (n - m) (xs.drop (m * k)) := by
  refine ⟨by rw [List.length_drop, h.1, Nat.sub_mul], ?_⟩
  rcases h.2 with ⟨e1, e2⟩ | ⟨b', off', c', e1, hnc', hcm, hg, hx⟩
  · cases e1
  · cases e1
    by_cases hcmq : c = m
    · rw [if_pos hcmq] at hA
      cases hA
      subst hcmq
      refine .inr ⟨b, off, c - c, rfl, by omega, by simp [maxLen], hg, fun j u hu => ?_⟩
      have : xs.drop (c * k) = [] := List.drop_eq_nil_of_le (by rw [h.1]; exact Nat.mul_le_mul_right _ (by omega))
      rw [this] at hu
      simp at hu
    · rw [if_neg hcmq] at hA
      cases hA
      refine .inr ⟨b, off + m * k, c - m, rfl, by omega, by simp only [maxLen] at hcm ⊢; omega, hg, fun j u hu => ?_⟩
      rw [List.getElem?_drop] at hu
      have := hx _ _ hu
      rw [Nat.add_assoc]
      exact this
end

section
variable {P : Program} {w : World} {e : TypeId} {size : Nat}

theorem run_append_rd (t ty : TypeId) (i : TypeInfo) (z : Value) (bytes : Nat) (ht : P.underlying t = some (.slice e)) (hi : P.info? e = some i) (hz : i.zero = some z)
    (hsize : i.size = size) (hby : i.bytes = bytes) (hzs : z.cells.size = size) (v : Value) (n : Nat) (xs : List Value) (hown : SlAt w e size v n xs)
    (sv : Value) (m : Nat) (news : List Value) (hsrc : SlRd w size sv m news) (h1 : ∀ u ∈ news, u.oneCell' = true) (h63 : n + m ≤ maxLen) (hbytes : (n + m) * bytes ≤ 140737488355328) :
    ∃ v' w', (Builtin.append_ #[t, t] ty #[v, sv]).run P w = .ok v' w' ∧ SlAt w' e size v' (n + m) (xs ++ news) ∧ w.grownBy w' v.ownBlock ∧ (v'.ownBlock = v.ownBlock ∨ v'.ownBlock = some w.heap.size) := by
  rcases hsrc.2 with ⟨rfl, rfl⟩ | ⟨b, off, c, rfl, _, _, _, hx⟩
  · exact run_append_slsl t ty i z bytes ht hi hz hsize hby hzs v n xs hown _ 0 news ⟨hsrc.1, .inl ⟨rfl, rfl⟩⟩ h1 h63 hbytes
  · exact run_append_sl w t ty e i z size bytes ht hi hz hsize hby hzs v n xs hown ⟨b, off, none⟩ m c news hsrc.1 (fun j u hu => by rw [add_plain]; exact hx j u hu) h1 h63 hbytes

/-- append of a slice that is only read, as one step of a region that draws. -/
theorem step_append_rd {ops : Array Oper} {o : Oper} {a : Act} {K : Act → World → Prop} {Q : Exit → Act → World → Prop} {E : Prop}
    (hg : o.guard = none) (s x : Operand) (t : TypeId) (hop : o.op = Op.call { callee := Callee.builtin Builtin.append, args := #[s, x], argTypes := #[t, t] })
    (i : TypeInfo) (z : Value) (bytes : Nat) (ht : P.underlying t = some (.slice e)) (hi : P.info? e = some i) (hz : i.zero = some z)
    (hsize : i.size = size) (hby : i.bytes = bytes) (hzs : z.cells.size = size) (v : Value) (n : Nat) (xs : List Value) (hs : a.eval s = v) (hown : SlAt w e size v n xs)
    (sv : Value) (m : Nat) (news : List Value) (hx : a.eval x = sv) (hsrc : SlRd w size sv m news) (h1 : ∀ u ∈ news, u.oneCell' = true) (h63 : n + m ≤ maxLen) (hbytes : (n + m) * bytes ≤ 140737488355328)
    (hK : ∀ v' w', SlAt w' e size v' (n + m) (xs ++ news) → w.grownBy w' v.ownBlock → (v'.ownBlock = v.ownBlock ∨ v'.ownBlock = some w.heap.size) → K (a.put o.dst v') w') : if Region.wanted o (yielded ops a.tmps) = true then Oper.wp P o a w K Q else E := by
  have hw : Region.wanted o (yielded ops a.tmps) = true := by simp [Region.wanted, hg]
  obtain ⟨v', w', hr, h2, h3, h4⟩ := run_append_rd (P := P) t o.type i z bytes ht hi hz hsize hby hzs v n xs hown sv m news hsrc h1 h63 hbytes
  rw [if_pos hw]
  unfold Oper.wp
  simp [execOp, hop, resolve, invoke, builtin, hs, hx, hr, Result.andThen]
  exact hK v' w' h2 h3 h4

/-- .. in a plain region. -/
theorem wpList_append_rd {ops : Array Oper} {rest : List Oper} {o : Oper} {a : Act} {Q : Exit → Act → World → Prop} (hgd : o.guard = none) (s x : Operand) (t : TypeId)
    (ho : o.op = .call { callee := .builtin .append, args := #[s, x], argTypes := #[t, t] })
    (i : TypeInfo) (z : Value) (bytes : Nat) (ht : P.underlying t = some (.slice e)) (hi : P.info? e = some i) (hz : i.zero = some z)
    (hsize : i.size = size) (hby : i.bytes = bytes) (hzs : z.cells.size = size) (v : Value) (n : Nat) (xs : List Value) (hs : a.eval s = v) (hown : SlAt w e size v n xs)
    (sv : Value) (m : Nat) (news : List Value) (hx : a.eval x = sv) (hsrc : SlRd w size sv m news) (h1 : ∀ u ∈ news, u.oneCell' = true) (h63 : n + m ≤ maxLen) (hbytes : (n + m) * bytes ≤ 140737488355328)
    (h : ∀ v' w', SlAt w' e size v' (n + m) (xs ++ news) → w.grownBy w' v.ownBlock → (v'.ownBlock = v.ownBlock ∨ v'.ownBlock = some w.heap.size) → wpList P ops Q rest (a.put o.dst v') w') : wpList P ops Q (o :: rest) a w := by
  have hw : Region.wanted o (yielded ops a.tmps) = true := by simp [Region.wanted, hgd]
  obtain ⟨v', w', hr, h2, h3, h4⟩ := run_append_rd (P := P) t o.type i z bytes ht hi hz hsize hby hzs v n xs hown sv m news hsrc h1 h63 hbytes
  unfold wpList
  rw [if_pos hw]
  refine .inl ?_
  unfold Oper.wp execOp
  simp only [ho, resolve, invoke, builtin, Sem.run_bind, Sem.run_pure, Result.andThen_ok, List.map_toArray, List.map_cons, List.map_nil, hs, hx, hr]
  exact h v' w' h2 h3 h4

/-- A slice that may be appended to: in new blocks, or empty and without room. -/
def SlNew (B : Nat) (w : World) (e : TypeId) (k : Nat) (v : Value) (n : Nat) (xs : List Value) : Prop :=
  (SlAt w e k v n xs ∧ ∀ b, v.ownBlock = some b → B ≤ b) ∨ (n = 0 ∧ xs = [] ∧ ∃ A, v = .slice (some A) 0 0)
theorem SlNew.below {B : Nat} {w w' : World} {k n : Nat} {v : Value} {xs : List Value} (h : SlNew B w e k v n xs) (hb : Below w.heap.size w w') : SlNew B w' e k v n xs := by
  rcases h with ⟨h1, h2⟩ | h
  · exact .inl ⟨h1.below hb, h2⟩
  · exact .inr h
theorem SlNew.low {B B' : Nat} {w : World} {k n : Nat} {v : Value} {xs : List Value} (h : SlNew B w e k v n xs) (hb : B' ≤ B) : SlNew B' w e k v n xs := by
  rcases h with ⟨h1, h2⟩ | h
  · exact .inl ⟨h1, fun b e => Nat.le_trans hb (h2 b e)⟩
  · exact .inr h
theorem run_append_new {B : Nat} (hB : B ≤ w.heap.size) (t ty : TypeId) (i : TypeInfo) (z : Value) (bytes : Nat) (ht : P.underlying t = some (.slice e)) (hi : P.info? e = some i) (hz : i.zero = some z)
    (hsize : i.size = size) (hby : i.bytes = bytes) (hzs : z.cells.size = size) (v : Value) (n : Nat) (xs : List Value) (hown : SlNew B w e size v n xs)
    (sv : Value) (m : Nat) (news : List Value) (hsrc : SlRd w size sv m news) (hm0 : 0 < m) (h1 : ∀ u ∈ news, u.oneCell' = true) (h63 : n + m ≤ maxLen) (hbytes : (n + m) * bytes ≤ 140737488355328) :
    ∃ v' w', (Builtin.append_ #[t, t] ty #[v, sv]).run P w = .ok v' w' ∧ SlAt w' e size v' (n + m) (xs ++ news) ∧ Below B w w' ∧ ∀ b, v'.ownBlock = some b → B ≤ b := by
  rcases hown with ⟨ho, hb⟩ | ⟨rfl, rfl, A, rfl⟩
  · obtain ⟨v', w', hr, h2, h3, h4⟩ := run_append_rd (P := P) t ty i z bytes ht hi hz hsize hby hzs v n xs ho sv m news hsrc h1 h63 hbytes
    refine ⟨v', w', hr, h2, (Below.refl B w).grown h3 hB hb, fun b hbb => ?_⟩
    rcases h4 with e | e
    · exact hb b (e.symm.trans hbb)
    · rw [e] at hbb; cases hbb; exact hB
  · subst hsize
    subst hby
    rcases hsrc.2 with ⟨_, e2⟩ | ⟨b, off, c, rfl, _, _, _, hx⟩
    · omega
    · have hr := run_append_grow (P := P) w t ty e i z ht hi hz A 0 0 [] (by simp) (fun j u hu => by simp at hu) ⟨b, off, none⟩ m c news hsrc.1 (fun j u hu => by rw [add_plain]; exact hx j u hu) (by omega) (by simp only [maxLen] at h63; omega) (growslice_fits (by omega) hbytes)
      have hge := grownCap_ge w (0 + m) 0 e
      have hcm : grownCap w (0 + m) 0 e ≤ maxLen := grownCap_le_maxLen w (0 + m) 0 e h63
      refine ⟨_, _, hr, ⟨?_, .inr ⟨w.heap.size, 0, _, _, rfl, heap_alloc_new w.drew _, hge, hcm, ?_, ?_⟩⟩, ⟨rfl, rfl, rfl, by simp, fun k hk => Below.heap_alloc w.drew _ k (show k < w.drew.heap.size from Nat.lt_of_lt_of_le hk hB)⟩, ?_⟩
      · simp [hsrc.1]
      · have hl := hsrc.1
        simp only [Array.size_append, List.size_toArray, size_zeroCells, hzs, Nat.zero_add, List.length_nil, hl] at hge ⊢
        rw [← Nat.add_mul, show m + (grownCap w m 0 e - m) = grownCap w m 0 e by omega]
        exact Nat.le_refl _
      · intro j u hu
        have hj := (List.getElem?_eq_some_iff.1 hu).1
        simp at hu hj
        rw [Nat.zero_add, Array.getElem?_append_left (by simp; omega)]
        simpa using hu
      · intro b' hb'
        simp [Value.ownBlock] at hb'
        omega

/-- append to such a slice, as one step of a region that draws. -/
theorem step_append_new {B : Nat} {ops : Array Oper} {o : Oper} {a : Act} {K : Act → World → Prop} {Q : Exit → Act → World → Prop} {E : Prop} (hB : B ≤ w.heap.size)
    (hg : o.guard = none) (s x : Operand) (t : TypeId) (hop : o.op = Op.call { callee := Callee.builtin Builtin.append, args := #[s, x], argTypes := #[t, t] })
    (i : TypeInfo) (z : Value) (bytes : Nat) (ht : P.underlying t = some (.slice e)) (hi : P.info? e = some i) (hz : i.zero = some z)
    (hsize : i.size = size) (hby : i.bytes = bytes) (hzs : z.cells.size = size) (v : Value) (n : Nat) (xs : List Value) (hs : a.eval s = v) (hown : SlNew B w e size v n xs)
    (sv : Value) (m : Nat) (news : List Value) (hx : a.eval x = sv) (hsrc : SlRd w size sv m news) (hm0 : 0 < m) (h1 : ∀ u ∈ news, u.oneCell' = true) (h63 : n + m ≤ maxLen) (hbytes : (n + m) * bytes ≤ 140737488355328)
    (hK : ∀ v' w', SlAt w' e size v' (n + m) (xs ++ news) → Below B w w' → (∀ b, v'.ownBlock = some b → B ≤ b) → K (a.put o.dst v') w') : if Region.wanted o (yielded ops a.tmps) = true then Oper.wp P o a w K Q else E := by
  have hw : Region.wanted o (yielded ops a.tmps) = true := by simp [Region.wanted, hg]
  obtain ⟨v', w', hr, h2, h3, h4⟩ := run_append_new (P := P) hB t o.type i z bytes ht hi hz hsize hby hzs v n xs hown sv m news hsrc hm0 h1 h63 hbytes
  rw [if_pos hw]
  unfold Oper.wp
  simp [execOp, hop, resolve, invoke, builtin, hs, hx, hr, Result.andThen]
  exact hK v' w' h2 h3 h4
end
end Go.Proofs.Ytflbidbnbfndgaa
