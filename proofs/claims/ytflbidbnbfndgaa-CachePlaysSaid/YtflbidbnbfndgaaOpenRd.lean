/- A slice of flat structs among a law's arguments, as one that can be read. No program in it. -/
import Derived.Test.YtflbidbnbfndgaaOpen
import Derived.Test.YtflbidbnbfndgaaRd
namespace Go.Proofs.Ytflbidbnbfndgaa.Open
open Go Go.ChangeShapes Go.WideShapes Go.RowKit Go.Deep

theorem okWide_addr {P : Program} {w : World} {r : Reach} {base : Nat} {t e : TypeId} {x : Addr} {len cap : Nat} (ht : P.underlying t = some (.slice e)) (h : Value.okWide P w r base t (.slice (some x) len cap)) : x.spot = none ∧ x.block < w.heap.size := by
  simp only [Value.okWide, ht, Cell.okWide, Cell.ok] at h
  obtain ⟨_, _, _, hs, row, cells, hsh, _⟩ := h
  refine ⟨hs, ?_⟩
  unfold World.shape? at hsh
  by_cases hb : x.block < w.heap.size
  · exact hb
  · rw [Array.getElem?_eq_none (by omega)] at hsh
    simp at hsh

theorem flat_get {α : Type} {enc : α → List Value} {k : Nat} (hk : ∀ x, (enc x).length = k) (hk0 : 0 < k) {z : List α} {j : Nat} {u : Value} (h : (z.flatMap enc)[j]? = some u) : ∃ x, z[j / k]? = some x ∧ (enc x)[j % k]? = some u := by
  induction z generalizing j with
  | nil => simp at h
  | cons y z ih =>
    rw [List.flatMap_cons] at h
    by_cases hj : j < k
    · rw [List.getElem?_append_left (by rw [hk]; exact hj)] at h
      exact ⟨y, by simp [Nat.div_eq_of_lt hj], by rw [Nat.mod_eq_of_lt hj]; exact h⟩
    · rw [List.getElem?_append_right (by rw [hk]; omega), hk] at h
      obtain ⟨x, h1, h2⟩ := ih h
      have e : j / k = (j - k) / k + 1 := by rw [Nat.div_eq_sub_div hk0 (by omega)]
      have e2 : j % k = (j - k) % k := by rw [Nat.mod_eq_sub_mod (by omega)]
      exact ⟨x, by rw [e]; simpa using h1, by rw [e2]; exact h2⟩

theorem rd_open {H : Type} {enc : TypeId × Value → H} {P : Program} {w : World} {base : Nat} {spare : Nat → Bool} {held : Bool} {α : Type} [Inhabited α] {encα : α → List Value} {k : Nat} {t e : TypeId} {a : Option Addr} {len cap : Nat} {d : DataW H} {p : List MemPlace} {l : List Leaf} {r : Reach} {b0 : Nat} (P2 : α → Prop)
    (ht : P.underlying t = some (.slice e)) (hl : leavesOf P 10 e = some l) (hk : P.cellsOf e = k) (hk0 : 0 < k) (hek : ∀ x, (encα x).length = k) (dec : ∀ cs, AllOk l cs → ∃ x, cs = encα x ∧ P2 x)
    (hv : Value.okWide P w r b0 t (.slice a len cap)) (h : DataW.Trod enc P w base spare held t (.slice a len cap) d p) : ∃ z : List α, z.length = len ∧ SlRd w k (.slice a len cap) len (z.flatMap encα) ∧ ∀ x ∈ z, P2 x := by
  obtain ⟨z, ⟨h1, h2, h3, h4⟩, h5⟩ := rows_open (encα := encα) (k := k) P2 ht hl hk hk0 dec h
  refine ⟨z, h1, ⟨?_, ?_⟩, h5⟩
  · rw [← h1]
    clear h1 h4 h5
    induction z with
    | nil => simp
    | cons x z ih => rw [List.flatMap_cons, List.length_append, ih, hek, List.length_cons]; rw [Nat.add_mul]; omega
  · cases a with
    | none =>
      left
      simp only [Value.okWide, ht, Cell.okWide] at hv
      cases len <;> cases cap <;> simp_all [Cell.ok]
    | some x =>
      right
      obtain ⟨b, off, sp⟩ := x
      obtain ⟨hs, hb⟩ := okWide_addr ht hv
      obtain rfl : sp = none := hs
      refine ⟨b, off, cap, rfl, h2, h3, hb, fun j u hu => ?_⟩
      obtain ⟨y, hy1, hy2⟩ := flat_get hek hk0 hu
      have hi : j / k < len := by rw [← h1]; exact (List.getElem?_eq_some_iff.1 hy1).1
      obtain ⟨b', off', e, _, hc⟩ := h4 (j / k) hi
      cases e
      have := hc y hy1 (j % k) u hy2
      rw [show j / k * k + j % k = j by rw [Nat.mul_comm]; exact Nat.div_add_mod j k] at this
      exact this
end Go.Proofs.Ytflbidbnbfndgaa.Open
