/- Arguments that are flat structs of whole numbers and bools, or slices of those: what a reading of them says of the value and of the cells. No program in it. -/
import Derived.ProofKit
import Derived.WalkKit
import Derived.Deep.Slices
namespace Go.Proofs.Ytflbidbnbfndgaa.Open
open Go Go.ChangeShapes Go.WideShapes Go.RowKit Go.Deep

/-- A leaf of a flat struct: a whole number of a kind, or a bool. -/
abbrev Leaf := Option IntKind

def LeafOk : Leaf → Value → Prop
  | some k, v => ∃ n, v = .int k n ∧ (Lit.int k n).wf = true
  | none, v => ∃ b, v = .bool b

def AllOk : List Leaf → List Value → Prop
  | [], [] => True
  | l :: ls, v :: vs => LeafOk l v ∧ AllOk ls vs
  | _, _ => False

theorem AllOk.append : ∀ {a b : List Leaf} {x y : List Value}, AllOk a x → AllOk b y → AllOk (a ++ b) (x ++ y)
  | [], _, [], _, _, h => h
  | [], _, _ :: _, _, h, _ => h.elim
  | _ :: _, _, [], _, h, _ => h.elim
  | _ :: _, _, _ :: _, _, ⟨h, t⟩, k => ⟨h, AllOk.append t k⟩

theorem AllOk.length : ∀ {a : List Leaf} {x : List Value}, AllOk a x → a.length = x.length
  | [], [], _ => rfl
  | [], _ :: _, h => h.elim
  | _ :: _, [], h => h.elim
  | _ :: _, _ :: _, h => congrArg (· + 1) (AllOk.length h.2)

def fieldsLeaves (P : Program) (g : TypeId → Option (List Leaf)) : List Field → Nat → Option (List Leaf)
  | [], _ => some []
  | f :: fs, off =>
    if f.offset = off then
      match g f.type with
      | some l => if l.length = P.cellsOf f.type then (fieldsLeaves P g fs (off + l.length)).map (l ++ ·) else none
      | none => none
    else none

def leavesOf (P : Program) : Nat → TypeId → Option (List Leaf)
  | 0, _ => none
  | n + 1, t =>
    match P.underlying t with
    | some .bool => some [none]
    | some (.int k) => some [some k]
    | some (.struct fs) =>
      match fieldsLeaves P (leavesOf P n) fs.toList 0 with
      | some l => if l.length = P.cellsOf t then some l else none
      | none => none
    | _ => none

section
variable {H : Type} {enc : TypeId × Value → H} {P : Program} {w : World} {base : Nat} {spare : Nat → Bool} {held : Bool}

theorem fields_ok {g : TypeId → Option (List Leaf)} {n : Nat} {cs : List Value}
    (hg : ∀ t l cs x, g t = some l → DataW.trod enc P w base spare held n t cs = some x → AllOk l cs) :
    ∀ (fs : List Field) (off : Nat) (l : List Leaf), fieldsLeaves P g fs off = some l → (∀ f ∈ fs, ∃ x, DataW.trod enc P w base spare held n f.type ((cs.drop f.offset).take (P.cellsOf f.type)) = some x) →
      AllOk l ((cs.drop off).take l.length)
  | [], _, l, h, _ => by simp [fieldsLeaves] at h; subst h; simp [AllOk]
  | f :: fs, off, l, h, ht => by
    unfold fieldsLeaves at h
    split at h
    · rename_i ho
      split at h
      · rename_i l1 hl1
        split at h
        · rename_i hlen
          obtain ⟨l2, h2, rfl⟩ := Option.map_eq_some_iff.1 h
          obtain ⟨x, hx⟩ := ht f (by simp)
          have a1 := hg _ _ _ _ hl1 hx
          have a2 := fields_ok hg fs _ l2 h2 (fun f' hf' => ht f' (by simp [hf']))
          rw [ho, ← hlen] at a1
          have e : (cs.drop off).take (l1 ++ l2).length = (cs.drop off).take l1.length ++ (cs.drop (off + l1.length)).take l2.length := by
            rw [List.length_append, List.take_add, List.drop_drop]
          rw [e]
          exact a1.append a2
        · cases h
      · cases h
    · cases h

theorem leaves_ok : ∀ (m n : Nat) (t : TypeId) (l : List Leaf) (cs : List Value) (x : DataW H × List MemPlace), leavesOf P m t = some l → DataW.trod enc P w base spare held n t cs = some x → AllOk l cs
  | 0, _, _, _, _, _, h, _ => by simp [leavesOf] at h
  | m + 1, n, t, l, cs, x, h, hx => by
    unfold leavesOf at h
    split at h
    · rename_i hu
      obtain ⟨b, rfl, _⟩ := DataW.trod_bool hu hx
      cases h
      exact ⟨⟨b, rfl⟩, trivial⟩
    · rename_i k hu
      obtain ⟨v, rfl, _, hw⟩ := DataW.trod_int hu hx
      cases h
      exact ⟨⟨v, rfl, hw⟩, trivial⟩
    · rename_i fs hu
      split at h
      · rename_i l' hl'
        split at h
        · rename_i hlen
          cases h
          obtain ⟨xs, n', rfl, _, hcs, hsz, hf⟩ := DataW.trod_struct hu hx
          have := fields_ok (enc := enc) (w := w) (base := base) (spare := spare) (held := held) (n := n') (cs := cs) (fun t l cs x h1 h2 => leaves_ok m n' t l cs x h1 h2) fs.toList 0 l hl' (fun f hfm => by
            obtain ⟨i, hi, rfl⟩ := List.getElem_of_mem hfm
            have e := hf i (fs.toList[i]) (by simp)
            rw [e, List.getElem?_eq_getElem (by simpa [hsz] using hi)]
            exact ⟨_, rfl⟩)
          rw [List.drop_zero, List.take_of_length_le (by omega)] at this
          exact this
        · cases h
      · cases h
    · cases h

/-- A struct by value. -/
theorem agg_open {r : Reach} {b0 : Nat} {t : TypeId} {fs : Array Field} {v : Value} {d : DataW H} {p : List MemPlace} {l : List Leaf} (hs : P.underlying t = some (.struct fs)) (hl : leavesOf P 10 t = some l)
    (hv : Value.okWide P w r b0 t v) (h : DataW.Trod enc P w base spare held t v d p) : ∃ cs, v = .agg cs.toArray ∧ AllOk l cs := by
  obtain ⟨cs, rfl, _⟩ := okWide_struct hs hv
  obtain ⟨fuel, hf⟩ := h
  exact ⟨cs.toList, by simp, leaves_ok 10 fuel t l _ _ hl (by simpa [Value.cells] using hf)⟩

/-- What a slice of flat structs reads as: its elements, one after the other, as cells in memory. -/
def RowsAt {α : Type} (w : World) (enc : α → List Value) (k : Nat) (a : Option Addr) (len cap : Nat) (z : List α) : Prop :=
  z.length = len ∧ len ≤ cap ∧ cap ≤ maxLen ∧ ∀ i, i < len → ∃ b off, a = some ⟨b, off, none⟩ ∧ b < w.heap.size ∧ ∀ x, z[i]? = some x → ∀ j v, (enc x)[j]? = some v → w.cell? ⟨b, off + (i * k + j), none⟩ = some v

theorem rows_open {α : Type} [Inhabited α] {encα : α → List Value} {k : Nat} {t e : TypeId} {a : Option Addr} {len cap : Nat} {d : DataW H} {p : List MemPlace} {l : List Leaf} (P2 : α → Prop)
    (ht : P.underlying t = some (.slice e)) (hl : leavesOf P 10 e = some l) (hk : P.cellsOf e = k) (hk0 : 0 < k) (dec : ∀ cs, AllOk l cs → ∃ x, cs = encα x ∧ P2 x)
    (h : DataW.Trod enc P w base spare held t (.slice a len cap) d p) : ∃ z, RowsAt w encα k a len cap z ∧ ∀ x ∈ z, P2 x := by
  obtain ⟨fuel, hf⟩ := h
  rcases open_slice ht hf with ⟨hcs, _⟩ | ⟨x, l', c', m, n, D, Pl, hcs, _, hle, hmx, hm, _, hx⟩
  · simp [Value.cells] at hcs
    obtain ⟨rfl, rfl, rfl⟩ := hcs
    exact ⟨[], ⟨rfl, Nat.le_refl _, by unfold maxLen; omega, fun i hi => by omega⟩, by simp⟩
  · simp [Value.cells] at hcs
    obtain ⟨rfl, rfl, rfl⟩ := hcs
    have hlm : len ≤ m := by rw [hm]; split <;> omega
    have key : ∀ i, i < len → ∃ y, P2 y ∧ (encα y).length = k ∧ ∀ j, j < k → w.cell? ((x.add (i * k)).add j) = (encα y)[j]? := fun i hi => by
      obtain ⟨cs', h1, h2⟩ := hx i (by omega)
      obtain ⟨y, rfl, hp⟩ := dec cs' (leaves_ok 10 n e l cs' _ hl h2)
      rw [hk] at h1
      obtain ⟨_, hlen, hc⟩ := World.cells?_some h1
      exact ⟨y, hp, hlen, hc⟩
    obtain ⟨f, hf⟩ := choose_lt key
    refine ⟨(List.range len).map f, ⟨by simp, hle, hmx, fun i hi => ?_⟩, fun y hy => ?_⟩
    · obtain ⟨hp, hlen, hc⟩ := hf i hi
      obtain ⟨_, hlen0, hc0'⟩ := hf 0 (by omega)
      have hc0 := hc0' 0 hk0
      rw [List.getElem?_eq_getElem (by omega), Nat.zero_mul] at hc0
      have e0 : (x.add 0).add 0 = x := by simp [Addr.add]
      rw [e0] at hc0
      have hsp : x.spot = none := by
        unfold World.cell? at hc0
        split at hc0
        · split at hc0
          · cases hc0
          · rename_i hs; simpa using hs
        · cases hc0
      have hb : x.block < w.heap.size := World.block_lt_of_cell? w _ hc0
      obtain ⟨b, off, sp⟩ := x
      obtain rfl : sp = none := hsp
      have ea : ∀ i, (⟨b, off, none⟩ : Addr).add i = ⟨b, off + i, none⟩ := fun i => by unfold Addr.add; split <;> simp_all
      have ea2 : ∀ i j, ((⟨b, off, none⟩ : Addr).add i).add j = ⟨b, off + i + j, none⟩ := fun i j => by rw [ea]; unfold Addr.add; split <;> simp_all
      refine ⟨b, off, rfl, hb, fun y hy j v hv => ?_⟩
      simp [hi] at hy
      subst hy
      have hj : j < k := by have := (List.getElem?_eq_some_iff.1 hv).1; omega
      have := hc j hj
      rw [ea2, hv, Nat.add_assoc] at this
      exact this
    · obtain ⟨i, hi, rfl⟩ := List.mem_map.1 hy
      exact (hf i (List.mem_range.1 hi)).1
end
end Go.Proofs.Ytflbidbnbfndgaa.Open
