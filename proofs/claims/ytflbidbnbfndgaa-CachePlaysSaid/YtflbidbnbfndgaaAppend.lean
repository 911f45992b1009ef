/- append of any slice (a nil one too) to any slice, as a step of a region that draws; parts of slices. No program in it. -/
import Derived.Test.YtflbidbnbfndgaaHeap
import Derived.Deep.RegionLaw
namespace Go.Proofs.Ytflbidbnbfndgaa
open Go Go.RowKit

section
variable {P : Program} {w : World} {e : TypeId} {size : Nat}

theorem SlAt.take {a : Option Addr} {n c : Nat} {xs : List Value} (h : SlAt w e size (.slice a n c) n xs) (k : Nat) (hk : k ≤ n) : SlAt w e size (.slice a k c) k (xs.take (k * size)) := by
  refine ⟨by rw [List.length_take, h.1, Nat.min_eq_left (Nat.mul_le_mul_right _ hk)], ?_⟩
  rcases h.2 with ⟨e1, e2⟩ | ⟨b, off, c', arr, e1, hg, hnc, hcm, hsz, hx⟩
  · cases e1
    exact .inl ⟨by have : k = 0 := by omega
                   rw [this], by omega⟩
  · cases e1
    refine .inr ⟨b, off, c, arr, rfl, hg, by omega, hcm, hsz, fun j u hu => ?_⟩
    have hj := (List.getElem?_eq_some_iff.1 hu).1
    rw [List.getElem?_take_of_lt (by simp at hj; omega)] at hu
    exact hx j u hu

/-- 'xs[m:]', its value written out. -/
theorem SlAt.cut {b off n c : Nat} {xs : List Value} (h : SlAt w e size (.slice (some ⟨b, off, none⟩) n c) n xs) (m : Nat) (hm : m ≤ n) {A : Addr} (hA : (if c = m then (some ⟨b, off, none⟩ : Option Addr) else some ⟨b, off + m * size, none⟩) = some A) :
    SlAt w e size (.slice (some A) (n - m) (c - m)) (n - m) (xs.drop (m * size)) := by
  refine ⟨by rw [List.length_drop, h.1, Nat.sub_mul], ?_⟩
  rcases h.2 with ⟨e1, e2⟩ | ⟨b', off', c', arr, e1, hg, hnc', hcm, hsz, hx⟩
  · cases e1
  · cases e1
    have hmul : m * size + (c - m) * size = c * size := by rw [← Nat.add_mul]; congr 1; omega
    by_cases hcmq : c = m
    · rw [if_pos hcmq] at hA
      cases hA
      subst hcmq
      refine .inr ⟨b, off, c - c, arr, rfl, hg, by omega, by simp [maxLen], by rw [Nat.sub_self, Nat.zero_mul]; omega, fun j u hu => ?_⟩
      have : xs.drop (c * size) = [] := List.drop_eq_nil_of_le (by rw [h.1]; exact Nat.mul_le_mul_right _ (by omega))
      rw [this] at hu
      simp at hu
    · rw [if_neg hcmq] at hA
      cases hA
      refine .inr ⟨b, off + m * size, c - m, arr, rfl, hg, by omega, by simp only [maxLen] at hcm ⊢; omega, by omega, fun j u hu => ?_⟩
      rw [List.getElem?_drop] at hu
      have := hx _ _ hu
      rw [Nat.add_assoc]
      exact this

/-- An empty slice in a block of its own. -/
theorem SlAt.lit0 (w : World) (e : TypeId) (size : Nat) : SlAt (w.alloc (.cells #[] e)) e size (.slice (some ⟨w.heap.size, 0, none⟩) 0 0) 0 [] :=
  ⟨by simp, .inr ⟨w.heap.size, 0, 0, #[], rfl, heap_alloc_new w _, Nat.le_refl _, by simp [maxLen], by simp, fun j u hu => by simp at hu⟩⟩

theorem run_append_slsl (t ty : TypeId) (i : TypeInfo) (z : Value) (bytes : Nat) (ht : P.underlying t = some (.slice e)) (hi : P.info? e = some i) (hz : i.zero = some z)
    (hsize : i.size = size) (hby : i.bytes = bytes) (hzs : z.cells.size = size) (v : Value) (n : Nat) (xs : List Value) (hown : SlAt w e size v n xs)
    (sv : Value) (m : Nat) (news : List Value) (hsrc : SlAt w e size sv m news) (h1 : ∀ u ∈ news, u.oneCell' = true) (h63 : n + m ≤ maxLen) (hbytes : (n + m) * bytes ≤ 140737488355328) :
    ∃ v' w', (Builtin.append_ #[t, t] ty #[v, sv]).run P w = .ok v' w' ∧ SlAt w' e size v' (n + m) (xs ++ news) ∧ w.grownBy w' v.ownBlock ∧ (v'.ownBlock = v.ownBlock ∨ v'.ownBlock = some w.heap.size) := by
  rcases hsrc.2 with ⟨rfl, rfl⟩ | ⟨b, off, c, arr, rfl, hg, _, _, hsz, hx⟩
  · have hn : news = [] := List.eq_nil_of_length_eq_zero (by simpa using hsrc.1)
    subst hn
    obtain ⟨a, c, rfl, hc, _⟩ := hown.form
    refine ⟨.slice a n c, w, ?_, by simpa using hown, grownBy_refl _ _, .inl rfl⟩
    cases a <;> simp [Builtin.append_, run_underlying ht, sizeOf, typeInfo, hi, Builtin.lenOf, Builtin.firstCells, loadCells, storeCells, hc]
  · exact run_append_sl w t ty e i z size bytes ht hi hz hsize hby hzs v n xs hown ⟨b, off, none⟩ m c news hsrc.1 (fun j u hu => by rw [add_plain, cell_of_row w b (off + j) arr e (0, 0) hg]; exact hx j u hu) h1 h63 hbytes

theorem step_append_sl {ops : Array Oper} {o : Oper} {a : Act} {K : Act → World → Prop} {Q : Exit → Act → World → Prop} {E : Prop}
    (hgd : o.guard = none) (s x : Operand) (t : TypeId) (ho : o.op = Op.call { callee := Callee.builtin Builtin.append, args := #[s, x], argTypes := #[t, t] })
    (i : TypeInfo) (z : Value) (bytes : Nat) (ht : P.underlying t = some (.slice e)) (hi : P.info? e = some i) (hz : i.zero = some z)
    (hsize : i.size = size) (hby : i.bytes = bytes) (hzs : z.cells.size = size) (v : Value) (n : Nat) (xs : List Value) (hs : a.eval s = v) (hown : SlAt w e size v n xs)
    (sv : Value) (m : Nat) (news : List Value) (hx : a.eval x = sv) (hsrc : SlAt w e size sv m news) (h1 : ∀ u ∈ news, u.oneCell' = true) (h63 : n + m ≤ maxLen) (hbytes : (n + m) * bytes ≤ 140737488355328)
    (h : ∀ v' w', SlAt w' e size v' (n + m) (xs ++ news) → w.grownBy w' v.ownBlock → (v'.ownBlock = v.ownBlock ∨ v'.ownBlock = some w.heap.size) → K (a.put o.dst v') w') :
    if Region.wanted o (yielded ops a.tmps) = true then Oper.wp P o a w K Q else E := by
  have hw : Region.wanted o (yielded ops a.tmps) = true := by simp [Region.wanted, hgd]
  rw [if_pos hw]
  obtain ⟨v', w', hr, h2, h3, h4⟩ := run_append_slsl (P := P) t o.type i z bytes ht hi hz hsize hby hzs v n xs hown sv m news hsrc h1 h63 hbytes
  unfold Oper.wp
  simp [execOp, ho, resolve, invoke, builtin, hs, hx, hr, Result.andThen]
  exact h v' w' h2 h3 h4
end
end Go.Proofs.Ytflbidbnbfndgaa
