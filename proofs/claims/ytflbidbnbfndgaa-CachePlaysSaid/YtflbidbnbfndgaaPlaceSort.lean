/- slices.SortFunc at places, by back.Compare: what it makes of a slice. Over the shelf's contract. -/
import Derived.Test.YtflbidbnbfndgaaPlaceCalls
import Derived.Test.YtflbidbnbfndgaaPlaceOrd
import Derived.Shelf.SlSortCmp.InsertionK
namespace Go.Proofs.Ytflbidbnbfndgaa
open Go Go.RowKit

theorem size_putCells {α : Type} [Inhabited α] (enc : α → Value) (off : Nat) (d : Array α) (c : Array Value) : (Sort.putCells enc off d c).size = c.size := by simp [Sort.putCells]

theorem flat_pl (l : List (Int × Int)) : Sort.flatK encP 2 l.toArray = (pl l).toArray := by
  refine Sort.ext_get! (by rw [Sort.size_flatK]; simp [pl_length]) fun t ht => ?_
  have ht' : t < l.length * 2 := by simpa using ht
  rw [Sort.get_flatK _ _ _ t (by simpa using ht')]
  have hq : t / 2 < l.length := by omega
  obtain ⟨h1, h2⟩ := pl_get l (t / 2) hq
  have e0 : (l.toArray)[t / 2]! = l[t / 2] := by rw [getElem!_pos _ _ (by simpa using hq)]; simp
  rw [e0, getElem!_pos (pl l).toArray t (by simp [pl_length]; omega)]
  rcases Nat.mod_two_eq_zero_or_one t with h | h
  · have et : t = t / 2 * 2 := by omega
    have h1' : (pl l)[t]? = some (.int .i64 l[t / 2].1) := by rw [← h1, ← et]
    rw [h]
    simp only [List.getElem_toArray]
    rw [(List.getElem?_eq_some_iff.1 h1').2]
    rfl
  · have et : t = t / 2 * 2 + 1 := by omega
    have h2' : (pl l)[t]? = some (.int .i64 l[t / 2].2) := by rw [← h2, ← et]
    rw [h]
    simp only [List.getElem_toArray]
    rw [(List.getElem?_eq_some_iff.1 h2').2]
    rfl

/-- The world behind the sort. -/
theorem sort_world {w : World} {b off c : Nat} {l l' : List (Int × Int)} (h : PlAt w (.slice (some ⟨b, off, none⟩) l.length c) l) (hl : l'.length = l.length) (n : Nat) (os : Array Obj) :
    PlAt (sortWorldK encP 2 w b off n l'.toArray os) (.slice (some ⟨b, off, none⟩) l.length c) l' ∧ Touch [b] w (sortWorldK encP 2 w b off n l'.toArray os) := by
  obtain ⟨arr, hg, hnc, hm, hfit, hx⟩ : ∃ arr, w.heap[b]? = some (.cells arr 40 (0, 0)) ∧ l.length ≤ c ∧ c ≤ maxLen ∧ off + c * 2 ≤ arr.size ∧ ∀ j u, (pl l)[j]? = some u → arr[off + j]? = some u := by
    rcases h.2 with ⟨e, _⟩ | ⟨b', off', c', arr, e, rest⟩
    · cases e
    · cases e; exact ⟨arr, rest⟩
  have hb : b < w.heap.size := (Array.getElem?_eq_some_iff.1 hg).1
  obtain ⟨F, hF⟩ : ∃ F, F = (pl l').toArray := ⟨_, rfl⟩
  have hFs : F.size = l.length * 2 := by rw [hF]; simp [pl_length, hl]
  have hheap : (sortWorldK encP 2 w b off n l'.toArray os).heap = w.heap.modify b (Sort.onCells (Sort.putCells id off F)) ++ os := by
    unfold sortWorldK Sort.putRowK
    rw [flat_pl, ← hF]
    rfl
  have hbk : (sortWorldK encP 2 w b off n l'.toArray os).heap[b]? = some (.cells (Sort.putCells id off F arr) 40 (0, 0)) := by
    rw [hheap, Array.getElem?_append_left (by simpa using hb), Array.getElem?_modify, if_pos rfl, hg]
    rfl
  constructor
  · show SlAt _ _ _ _ _ _
    rw [hl]
    refine ⟨by rw [pl_length, hl], .inr ⟨b, off, c, _, rfl, hbk, hnc, hm, by rw [size_putCells]; exact hfit, fun j u hu => ?_⟩⟩
    have hj := (List.getElem?_eq_some_iff.1 hu).1
    rw [pl_length, hl] at hj
    have hja : off + j < arr.size := by have := Nat.mul_le_mul_right 2 hnc; omega
    simp only [Sort.putCells, Array.getElem?_mapIdx, Array.getElem?_eq_getElem hja, Option.map_some]
    rw [if_pos ⟨by omega, by rw [hFs]; omega⟩, show off + j - off = j by omega, getElem!_pos F j (by rw [hFs]; exact hj)]
    have : F[j]? = some u := by rw [hF]; simpa using hu
    rw [Array.getElem?_eq_getElem (by rw [hFs]; exact hj)] at this
    simpa using this
  · refine ⟨rfl, rfl, rfl, by rw [hheap]; simp, fun k hk hne => ?_⟩
    rw [hheap, Array.getElem?_append_left (by simpa using hk), Array.getElem?_modify, if_neg (fun e => hne (by simp [e]))]
end Go.Proofs.Ytflbidbnbfndgaa
