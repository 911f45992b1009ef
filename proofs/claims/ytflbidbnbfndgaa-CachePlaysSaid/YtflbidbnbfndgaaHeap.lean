/- Slices that lie anywhere in a block of cells: reading, growing by append, cutting; what stays as it was. No program in it. -/
import Derived.WalkKit
import Derived.Lib.Hide
import Derived.Deep.QuietTactic
namespace Go.Proofs.Ytflbidbnbfndgaa
open Go Go.RowKit

/-- A slice's elements, as cells: nil, or somewhere in a block of cells that may be written. -/
def SlAt (w : World) (e : TypeId) (k : Nat) (v : Value) (n : Nat) (xs : List Value) : Prop :=
  xs.length = n * k ∧ (v = .slice none 0 0 ∧ n = 0 ∨ ∃ b off c arr, v = .slice (some ⟨b, off, none⟩) n c ∧ w.heap[b]? = some (.cells arr e (0, 0)) ∧ n ≤ c ∧ c ≤ maxLen ∧ off + c * k ≤ arr.size ∧
    ∀ j u, xs[j]? = some u → arr[off + j]? = some u)

theorem add_plain (b off j : Nat) : (⟨b, off, none⟩ : Addr).add j = ⟨b, off + j, none⟩ := by unfold Addr.add; split <;> simp_all

section
variable {w w' : World} {e : TypeId} {k : Nat} {v : Value} {n : Nat} {xs : List Value}

theorem SlAt.nil (w : World) (e : TypeId) (k : Nat) : SlAt w e k (.slice none 0 0) 0 [] := ⟨by simp, .inl ⟨rfl, rfl⟩⟩

theorem SlAt.lt (h : SlAt w e k v n xs) : ∀ b, v.ownBlock = some b → b < w.heap.size := by
  intro b hb
  rcases h.2 with ⟨rfl, _⟩ | ⟨g, off, c, arr, rfl, hg, _⟩
  · simp [Value.ownBlock] at hb
  · simp [Value.ownBlock] at hb
    subst hb
    exact (Array.getElem?_eq_some_iff.1 hg).1

theorem SlAt.keep (h : SlAt w e k v n xs) (hb : ∀ b, v.ownBlock = some b → w'.heap[b]? = w.heap[b]?) : SlAt w' e k v n xs := by
  refine ⟨h.1, ?_⟩
  rcases h.2 with h0 | ⟨g, off, c, arr, rfl, hg, rest⟩
  · exact .inl h0
  · exact .inr ⟨g, off, c, arr, rfl, (hb g rfl).trans hg, rest⟩

theorem SlAt.below (h : SlAt w e k v n xs) (hb : Below w.heap.size w w') : SlAt w' e k v n xs := h.keep fun b e => hb.block b (h.lt b e)
theorem SlAt.grown (h : SlAt w e k v n xs) {row : Option Nat} (hg : w.grownBy w' row) (hne : v.ownBlock = none ∨ v.ownBlock ≠ row) : SlAt w' e k v n xs :=
  h.keep fun b e => hg.block b (h.lt b e) (by rcases hne with h0 | h0; · rw [h0] at e; cases e
                                              · rw [← e]; exact h0)

/-- The cells of the elements. -/
theorem SlAt.cells (h : SlAt w e k v n xs) (hp : 0 < xs.length) : ∃ b off c, v = .slice (some ⟨b, off, none⟩) n c ∧ n ≤ c ∧ b < w.heap.size ∧ ∀ j u, xs[j]? = some u → w.cell? ⟨b, off + j, none⟩ = some u ∧ w.frozen? ⟨b, off + j, none⟩ = false := by
  obtain ⟨hl, h2⟩ := h
  rcases h2 with ⟨rfl, rfl⟩ | ⟨g, off, c, arr, rfl, hg, hnc, _, _, hx⟩
  · simp at hl; simp [hl] at hp
  · refine ⟨g, off, c, rfl, hnc, (Array.getElem?_eq_some_iff.1 hg).1, fun j u hu => ⟨?_, by simp [World.frozen?, hg]⟩⟩
    rw [cell_of_row w g (off + j) arr e (0, 0) hg]
    exact hx j u hu

theorem SlAt.form (h : SlAt w e k v n xs) : ∃ a c, v = .slice a n c ∧ n ≤ c ∧ c ≤ maxLen := by
  rcases h.2 with ⟨rfl, rfl⟩ | ⟨g, off, c, arr, rfl, _, hnc, hm, _⟩
  · exact ⟨none, 0, rfl, Nat.le_refl _, by unfold maxLen; omega⟩
  · exact ⟨_, c, rfl, hnc, hm⟩

theorem grownBy_refl (w : World) (row : Option Nat) : w.grownBy w row := ⟨rfl, rfl, rfl, Nat.le_refl _, fun _ _ _ => rfl⟩
theorem grownBy_trans {a b c : World} {row : Option Nat} (h : a.grownBy b row) (k : b.grownBy c row) : a.grownBy c row :=
  ⟨k.os.trans h.os, k.tape.trans h.tape, k.output.trans h.output, Nat.le_trans h.size k.size, fun i hi hne => (k.block i (Nat.lt_of_lt_of_le hi h.size) hne).trans (h.block i hi hne)⟩
theorem grownBy_of_below {a b : World} (h : Below a.heap.size a b) (row : Option Nat) : a.grownBy b row := ⟨h.os, h.tape, h.output, h.size, fun i hi _ => h.block i hi⟩
theorem below_of_grown {a b : World} (h : a.grownBy b none) : Below a.heap.size a b := ⟨h.os, h.tape, h.output, h.size, fun i hi => h.block i hi (by simp)⟩
theorem below_drewN' {B : Nat} {a w : World} (h : Below B a w) (n : Nat) : Below B a (w.drewN n) := ⟨h.os, h.tape, h.output, h.size, h.block⟩
end

section
variable {P : Program} (w : World)

theorem run_append_sl (t ty e : TypeId) (i : TypeInfo) (z : Value) (size bytes : Nat) (ht : P.underlying t = some (.slice e)) (hi : P.info? e = some i) (hz : i.zero = some z)
    (hsize : i.size = size) (hby : i.bytes = bytes) (hzs : z.cells.size = size) (v : Value) (n : Nat) (xs : List Value) (hown : SlAt w e size v n xs)
    (a : Addr) (m c : Nat) (news : List Value) (hl : news.length = m * size) (hnews : ∀ j u, news[j]? = some u → w.cell? (a.add j) = some u) (h1 : ∀ u ∈ news, u.oneCell' = true)
    (h63 : n + m ≤ maxLen) (hbytes : (n + m) * bytes ≤ 140737488355328) :
    ∃ v' w', (Builtin.append_ #[t, t] ty #[v, .slice (some a) m c]).run P w = .ok v' w' ∧ SlAt w' e size v' (n + m) (xs ++ news) ∧ w.grownBy w' v.ownBlock ∧ (v'.ownBlock = v.ownBlock ∨ v'.ownBlock = some w.heap.size) := by
  subst hsize
  subst hby
  have hsmall : n + m ≤ 9223372036854775807 := by simp only [maxLen] at h63; omega
  have hlen : (xs ++ news).length = (n + m) * i.size := by rw [List.length_append, hown.1, hl, Nat.add_mul]
  have grown : ∀ (old : Nat), old < n + m → ∀ (row : Option Nat),
      SlAt (w.drew.alloc (.cells (xs.toArray ++ news.toArray ++ Builtin.zeroCells z.cells (grownCap w (n + m) old e - (n + m))) e)) e i.size
        (.slice (some ⟨w.heap.size, 0, none⟩) (n + m) (grownCap w (n + m) old e)) (n + m) (xs ++ news) ∧
      w.grownBy (w.drew.alloc (.cells (xs.toArray ++ news.toArray ++ Builtin.zeroCells z.cells (grownCap w (n + m) old e - (n + m))) e)) row := by
    intro old ho row
    have hge := grownCap_ge w (n + m) old e
    have hcm : grownCap w (n + m) old e ≤ maxLen := grownCap_le_maxLen w (n + m) old e h63
    refine ⟨⟨hlen, .inr ⟨w.heap.size, 0, _, _, rfl, heap_alloc_new w.drew _, hge, hcm, ?_, ?_⟩⟩, ⟨rfl, rfl, rfl, by simp, fun k hk _ => Below.heap_alloc w.drew _ k hk⟩⟩
    · simp only [Array.size_append, List.size_toArray, size_zeroCells, hzs, hown.1, hl, ← Nat.add_mul, Nat.zero_add]
      rw [show n + m + (grownCap w (n + m) old e - (n + m)) = grownCap w (n + m) old e by omega]
      exact Nat.le_refl _
    · intro j u hu
      have hj := (List.getElem?_eq_some_iff.1 hu).1
      rw [Nat.zero_add, Array.getElem?_append_left (by simp at hj ⊢; exact hj)]
      have e1 : xs.toArray ++ news.toArray = (xs ++ news).toArray := by simp
      rw [e1, List.getElem?_toArray]
      exact hu
  rcases hown.2 with ⟨rfl, rfl⟩ | ⟨g, off, cap, cur, rfl, hg, hnc, hcm, hcs, htake⟩
  · have hx : xs = [] := List.eq_nil_of_length_eq_zero (by simpa using hown.1)
    subst hx
    by_cases hm : m = 0
    · subst hm
      have hn : news = [] := List.eq_nil_of_length_eq_zero (by simpa using hl)
      subst hn
      refine ⟨.slice none 0 0, w, ?_, SlAt.nil w e i.size, grownBy_refl _ _, .inl rfl⟩
      simp [Builtin.append_, run_underlying ht, sizeOf, typeInfo, hi, Builtin.lenOf, Builtin.firstCells, loadCells, loadCellsFrom]
    · have hr := run_append_nil (P := P) w t ty e i z ht hi hz a m c news hl hnews (by omega) (by omega) (by have hb := hbytes; simp only [Nat.zero_add] at hb; omega)
      have hgr := grown 0 (by omega) (Value.ownBlock (.slice none 0 0))
      simp only [Nat.zero_add, List.nil_append, Array.empty_append] at hgr ⊢
      exact ⟨_, _, hr, hgr.1, hgr.2, .inr rfl⟩
  · by_cases hroom : n + m ≤ cap
    · have hmul : (n + m) * i.size ≤ cap * i.size := Nat.mul_le_mul_right _ hroom
      have hfit : off + n * i.size + 0 + news.length ≤ cur.size := by rw [hl]; rw [Nat.add_mul] at hmul; omega
      have hf := run_firstCells_some (P := P) w i.size m a m c news hl hnews
      have hst := run_storeCells_at P g (off + n * i.size) e news 0 cur w hg hfit h1
      simp only [Nat.add_zero] at hst hfit
      refine ⟨.slice (some ⟨g, off, none⟩) (n + m) cap, w.setRow g (cur.toList.take (off + n * i.size) ++ news ++ cur.toList.drop (off + n * i.size + news.length)).toArray, ?_, ⟨hlen, .inr ⟨g, off, cap, _, rfl, setRow_heap w g cur _ e _ hg, hroom, hcm, ?_, ?_⟩⟩, ⟨rfl, rfl, rfl, by simp, fun k _ hk => setRow_other w g k _ (fun e => hk (by simp [Value.ownBlock, e]))⟩, .inl rfl⟩
      · simp [Builtin.append_, run_underlying ht, sizeOf, typeInfo, hi, Builtin.lenOf, hroom, hf, add_plain, hst]
      · simp only [List.size_toArray, List.length_append, List.length_take, List.length_drop, Array.length_toList]
        omega
      · intro j u hu
        have hj := (List.getElem?_eq_some_iff.1 hu).1
        rw [hlen] at hj
        have hxl := hown.1
        have htl : (cur.toList.take (off + n * i.size)).length = off + n * i.size := by simp; omega
        rw [List.getElem?_toArray]
        by_cases hjn : j < n * i.size
        · rw [List.getElem?_append_left (by omega)] at hu
          rw [List.append_assoc, List.getElem?_append_left (by rw [htl]; omega), List.getElem?_take_of_lt (by omega)]
          simpa using htake j u hu
        · rw [List.getElem?_append_right (by omega)] at hu
          rw [List.append_assoc, List.getElem?_append_right (by rw [htl]; omega), htl, show off + j - (off + n * i.size) = j - xs.length by omega, List.getElem?_append_left (by have := (List.getElem?_eq_some_iff.1 hu).1; exact this)]
          exact hu
    · have holds : ∀ j u, xs[j]? = some u → w.cell? ((⟨g, off, none⟩ : Addr).add j) = some u := fun j u hu => by
        rw [add_plain, cell_of_row w g (off + j) cur e (0, 0) hg]; exact htake j u hu
      have hr := run_append_grow (P := P) w t ty e i z ht hi hz ⟨g, off, none⟩ n cap xs hown.1 holds a m c news hl hnews (by omega) (by omega) (growslice_fits (by omega) hbytes)
      have hgr := grown cap (by omega) (Value.ownBlock (.slice (some ⟨g, off, none⟩) n cap))
      exact ⟨_, _, hr, hgr.1, hgr.2, .inr rfl⟩

theorem wp_append_sl {o : Oper} {a : Act} {K : Act → World → Prop} {Q : Exit → Act → World → Prop} (s x : Operand) (t : TypeId)
    (ho : o.op = .call { callee := .builtin .append, args := #[s, x], argTypes := #[t, t] })
    (e : TypeId) (i : TypeInfo) (z : Value) (size bytes : Nat) (ht : P.underlying t = some (.slice e)) (hi : P.info? e = some i) (hz : i.zero = some z)
    (hsize : i.size = size) (hby : i.bytes = bytes) (hzs : z.cells.size = size)
    (v : Value) (n : Nat) (xs : List Value) (hs : a.eval s = v) (hown : SlAt w e size v n xs)
    (ad : Addr) (m c : Nat) (news : List Value) (hx : a.eval x = .slice (some ad) m c) (hl : news.length = m * size) (hnews : ∀ j u, news[j]? = some u → w.cell? (ad.add j) = some u) (h1 : ∀ u ∈ news, u.oneCell' = true)
    (h63 : n + m ≤ maxLen) (hbytes : (n + m) * bytes ≤ 140737488355328)
    (h : ∀ v' w', SlAt w' e size v' (n + m) (xs ++ news) → w.grownBy w' v.ownBlock → (v'.ownBlock = v.ownBlock ∨ v'.ownBlock = some w.heap.size) → K (a.put o.dst v') w') : o.wp P a w K Q := by
  obtain ⟨v', w', hr, h2, h3, h4⟩ := run_append_sl (P := P) w t o.type e i z size bytes ht hi hz hsize hby hzs v n xs hown ad m c news hl hnews h1 h63 hbytes
  unfold Oper.wp execOp
  simp only [ho, resolve, invoke, builtin, Sem.run_bind, Sem.run_pure, Result.andThen_ok, List.map_toArray, List.map_cons, List.map_nil, hs, hx, hr]
  exact h v' w' h2 h3 h4

theorem wpList_append_sl {ops : Array Oper} {rest : List Oper} {o : Oper} {a : Act} {Q : Exit → Act → World → Prop} (hgd : o.guard = none) (s x : Operand) (t : TypeId)
    (ho : o.op = .call { callee := .builtin .append, args := #[s, x], argTypes := #[t, t] })
    (e : TypeId) (i : TypeInfo) (z : Value) (size bytes : Nat) (ht : P.underlying t = some (.slice e)) (hi : P.info? e = some i) (hz : i.zero = some z)
    (hsize : i.size = size) (hby : i.bytes = bytes) (hzs : z.cells.size = size)
    (v : Value) (n : Nat) (xs : List Value) (hs : a.eval s = v) (hown : SlAt w e size v n xs)
    (ad : Addr) (m c : Nat) (news : List Value) (hx : a.eval x = .slice (some ad) m c) (hl : news.length = m * size) (hnews : ∀ j u, news[j]? = some u → w.cell? (ad.add j) = some u) (h1 : ∀ u ∈ news, u.oneCell' = true)
    (h63 : n + m ≤ maxLen) (hbytes : (n + m) * bytes ≤ 140737488355328)
    (h : ∀ v' w', SlAt w' e size v' (n + m) (xs ++ news) → w.grownBy w' v.ownBlock → (v'.ownBlock = v.ownBlock ∨ v'.ownBlock = some w.heap.size) → wpList P ops Q rest (a.put o.dst v') w') : wpList P ops Q (o :: rest) a w :=
  wpList_plain hgd fun _ hK => wp_append_sl w s x t ho e i z size bytes ht hi hz hsize hby hzs v n xs hs hown ad m c news hx hl hnews h1 h63 hbytes fun v' w' h2 h3 h4 => hK _ _ (h v' w' h2 h3 h4)
end

theorem cells_new (w : World) (e : TypeId) (xs : List Value) : ∀ j u, xs[j]? = some u → (w.alloc (.cells xs.toArray e)).cell? ((⟨w.heap.size, 0, none⟩ : Addr).add j) = some u := fun j u hu => by
  rw [add_plain, cell_of_row _ w.heap.size (0 + j) xs.toArray e (0, 0) (heap_alloc_new w _), Nat.zero_add]
  simpa using hu

/-- 'xs[m:]'. -/
theorem SlAt.drop {w : World} {e : TypeId} {sz : Nat} {a : Option Addr} {n c : Nat} {xs : List Value} (h : SlAt w e sz (.slice a n c) n xs) (m : Nat) (hm : m ≤ n) :
    ∃ a', SlAt w e sz (.slice a' (n - m) (c - m)) (n - m) (xs.drop (m * sz)) ∧ (Value.slice a' (n - m) (c - m)).ownBlock = (Value.slice a n c).ownBlock ∧
      ∀ (P : Program) (t : TypeId) (i : TypeInfo), P.underlying t = some (.slice e) → P.info? e = some i → i.size = sz → ∀ w1, (Instr.slice t (.slice a n c) (some (.int .i64 m)) none none).run P w1 = .ok (.slice a' (n - m) (c - m)) w1 := by
  have hnc : n ≤ c := by obtain ⟨_, _, e1, h1, _⟩ := h.form; cases e1; exact h1
  have run : ∀ (P : Program) (t : TypeId) (i : TypeInfo), P.underlying t = some (.slice e) → P.info? e = some i → i.size = sz → ∀ w1, (Instr.slice t (.slice a n c) (some (.int .i64 m)) none none).run P w1 = .ok (.slice (if c = m then a else a.map (·.add (m * sz))) (n - m) (c - m)) w1 := by
    intro P t i ht hi hsz w1
    have hb : (Instr.sliceBound (.int .i64 (m : Int)) n .sliceB).run P w1 = .ok m w1 := by
      rw [run_sliceBound (P := P) (w := w1) .i64 (m : Int) n .sliceB (by omega) (by omega)]; simp
    simp [Instr.slice, run_underlying ht, Instr.sliceBounds, hb, sizeOf, typeInfo, hi, hsz]
  refine ⟨_, ⟨?_, ?_⟩, ?_, run⟩
  · rw [List.length_drop, h.1, Nat.sub_mul]
  · rcases h.2 with ⟨e1, e2⟩ | ⟨b, off, c', arr, e1, hg, hnc', hcm, hsz, hx⟩
    · cases e1
      have : m = 0 := by omega
      subst this
      left
      simp
    · cases e1
      have hmul : m * sz + (c - m) * sz = c * sz := by rw [← Nat.add_mul]; congr 1; omega
      by_cases hcmq : c = m
      · subst hcmq
        rw [if_pos rfl]
        refine .inr ⟨b, off, c - c, arr, rfl, hg, by omega, by simp [maxLen], by simp; have : c * sz ≤ arr.size := by omega
                                                                                 omega, fun j u hu => ?_⟩
        have : xs.drop (c * sz) = [] := List.drop_eq_nil_of_le (by rw [h.1]; exact Nat.mul_le_mul_right _ (by omega))
        rw [this] at hu
        simp at hu
      · rw [if_neg hcmq]
        refine .inr ⟨b, off + m * sz, c - m, arr, by simp [add_plain], hg, by omega, by simp only [maxLen] at hcm ⊢; omega, by omega, fun j u hu => ?_⟩
        rw [List.getElem?_drop] at hu
        have := hx _ _ hu
        rw [Nat.add_assoc]
        exact this
  · split <;> cases a <;> simp [Value.ownBlock]
    unfold Addr.add; split <;> rfl
end Go.Proofs.Ytflbidbnbfndgaa
