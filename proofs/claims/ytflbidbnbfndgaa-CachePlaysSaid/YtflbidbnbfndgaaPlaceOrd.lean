/- Places in order: less, sorted lists, one more, one out. No program in it. -/
import Derived.WalkKit
namespace Go.Proofs.Ytflbidbnbfndgaa
open Go Go.RowKit

/-- By the first, then by the second. -/
def ltP (x y : Int × Int) : Prop := x.1 < y.1 ∨ x.1 = y.1 ∧ x.2 < y.2
instance (x y : Int × Int) : Decidable (ltP x y) := inferInstanceAs (Decidable (_ ∨ _))
theorem ltP.irrefl (x : Int × Int) : ¬ ltP x x := by unfold ltP; omega
theorem ltP.trans {x y z : Int × Int} (h : ltP x y) (k : ltP y z) : ltP x z := by unfold ltP at *; omega
theorem ltP.asymm {x y : Int × Int} (h : ltP x y) : ¬ ltP y x := by unfold ltP at *; omega
theorem ltP.tri (x y : Int × Int) : ltP x y ∨ x = y ∨ ltP y x := by
  obtain ⟨a, b⟩ := x
  obtain ⟨c, d⟩ := y
  simp only [ltP, Prod.mk.injEq]
  omega

/-- Sorted, each once. -/
def SortedP (l : List (Int × Int)) : Prop := l.Pairwise ltP
theorem SortedP.nodup {l : List (Int × Int)} (h : SortedP l) : l.Nodup := List.Pairwise.imp (S := fun a b => a ≠ b) (R := ltP) (fun {a b} hab e => by subst e; exact ltP.irrefl _ hab) h
theorem sortedP_unique {a b : List (Int × Int)} (ha : SortedP a) (hb : SortedP b) (hp : a.Perm b) : a = b :=
  hp.eq_of_pairwise (fun _ _ _ _ h1 h2 => absurd h2 h1.asymm) ha hb

/-- One more, where it belongs. -/
def insP (p : Int × Int) : List (Int × Int) → List (Int × Int)
  | [] => [p]
  | x :: l => if ltP x p then x :: insP p l else p :: x :: l
theorem insP_perm (p : Int × Int) (l : List (Int × Int)) : (insP p l).Perm (p :: l) := by
  induction l with
  | nil => exact List.Perm.refl _
  | cons x l ih =>
    simp only [insP]
    split
    · exact (List.Perm.cons x ih).trans (List.Perm.swap p x l)
    · exact List.Perm.refl _
theorem insP_sorted {p : Int × Int} {l : List (Int × Int)} (h : SortedP l) (hn : p ∉ l) : SortedP (insP p l) := by
  induction l with
  | nil => exact List.pairwise_singleton _ _
  | cons x l ih =>
    obtain ⟨h1, h2⟩ := List.pairwise_cons.1 h
    simp only [insP]
    split
    · rename_i hx
      refine List.pairwise_cons.2 ⟨fun y hy => ?_, ih h2 (fun hm => hn (List.mem_cons_of_mem _ hm))⟩
      rcases List.mem_cons.1 ((insP_perm p l).mem_iff.1 hy) with rfl | hy'
      · exact hx
      · exact h1 y hy'
    · rename_i hx
      have hpx : ltP p x := by
        rcases ltP.tri p x with h | h | h
        · exact h
        · exact absurd (h ▸ List.mem_cons_self) hn
        · exact absurd h hx
      refine List.pairwise_cons.2 ⟨fun y hy => ?_, h⟩
      rcases List.mem_cons.1 hy with rfl | hy'
      · exact hpx
      · exact hpx.trans (h1 y hy')

/-- A place into a list, once. -/
def putP (l : List (Int × Int)) (p : Int × Int) : List (Int × Int) := if p ∈ l then l else insP p l
theorem putP_sorted {l : List (Int × Int)} (h : SortedP l) (p : Int × Int) : SortedP (putP l p) := by
  unfold putP
  split
  · exact h
  · exact insP_sorted h ‹_›
theorem mem_putP {l : List (Int × Int)} {p q : Int × Int} : q ∈ putP l p ↔ q = p ∨ q ∈ l := by
  unfold putP
  split
  · constructor
    · exact .inr
    · rintro (rfl | h)
      · assumption
      · exact h
  · rw [(insP_perm p l).mem_iff, List.mem_cons]
theorem putP_length (l : List (Int × Int)) (p : Int × Int) : (putP l p).length ≤ l.length + 1 := by
  unfold putP
  split
  · omega
  · rw [(insP_perm p l).length_eq]; simp

/-- What a sort makes of a list with one more at its end. -/
theorem sort_add {l l' : List (Int × Int)} {p : Int × Int} (h : SortedP l) (hn : p ∉ l) (hp : l'.Perm (l ++ [p])) (hs : l'.Pairwise (fun x y => ¬ ltP y x)) : l' = putP l p := by
  have hpp : l'.Perm (insP p l) := hp.trans ((List.perm_append_singleton p l).trans (insP_perm p l).symm)
  have hsi := insP_sorted h hn
  unfold putP
  rw [if_neg hn]
  refine sortedP_unique ?_ hsi hpp
  have hnd : l'.Nodup := hpp.nodup_iff.2 hsi.nodup
  exact (hs.and hnd).imp fun {a b} ⟨h1, h2⟩ => by
    rcases ltP.tri a b with h | h | h
    · exact h
    · exact absurd h h2
    · exact absurd h h1

/-- The reference's 'Put': ahead of the first that is not less. -/
theorem putP_ref {l : List (Int × Int)} (h : SortedP l) (p : Int × Int) (k : Nat) (hk : k ≤ l.length) (hlo : ∀ j (hj : j < k), ltP (l[j]'(by omega)) p) (hhi : ∀ hj : k < l.length, ¬ ltP l[k] p) :
    (∀ hj : k < l.length, l[k] = p → putP l p = l) ∧ ((∀ hj : k < l.length, l[k] ≠ p) → putP l p = l.take k ++ [p] ++ l.drop k) := by
  constructor
  · intro hj e
    unfold putP
    rw [if_pos (e ▸ List.getElem_mem hj)]
  · intro hne
    have hn : p ∉ l := by
      intro hm
      obtain ⟨j, hj, e⟩ := List.getElem_of_mem hm
      by_cases h1 : j < k
      · exact ltP.irrefl p (by simpa [e] using hlo j h1)
      · by_cases h2 : j = k
        · subst h2; exact hne hj e
        · have := List.pairwise_iff_getElem.1 h k j (by omega) hj (by omega)
          rw [e] at this
          exact hhi (by omega) this
    unfold putP
    rw [if_neg hn]
    clear hne hn
    induction l generalizing k with
    | nil => simp [insP]
    | cons x l ih =>
      cases k with
      | zero =>
        have := hhi (by simp)
        simp only [List.getElem_cons_zero] at this
        simp [insP, this]
      | succ k =>
        have h0 := hlo 0 (by omega)
        simp only [List.getElem_cons_zero] at h0
        simp only [insP, if_pos h0, List.take_succ_cons, List.drop_succ_cons, List.cons_append]
        congr 1
        exact ih (List.pairwise_cons.1 h).2 k (by simpa using hk) (fun j hj => by simpa using hlo (j + 1) (by omega)) (fun hj => by have := hhi (by simpa using hj); rwa [List.getElem_cons_succ] at this)

/-- One out: where it stands first. -/
theorem erase_at (l : List (Int × Int)) (p : Int × Int) : l.eraseIdx (l.idxOf p) = l.erase p := by
  rw [List.erase_eq_eraseIdx_of_idxOf rfl]
theorem erase_sorted {l : List (Int × Int)} (h : SortedP l) (p : Int × Int) : SortedP (l.erase p) := List.Pairwise.sublist List.erase_sublist h
end Go.Proofs.Ytflbidbnbfndgaa
