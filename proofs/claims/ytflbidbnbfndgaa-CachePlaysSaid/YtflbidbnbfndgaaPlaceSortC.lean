/- slices.SortFunc at places, by back.Compare. -/
import Derived.Test.YtflbidbnbfndgaaPlaceSort
import Derived.Test.YtflbidbnbfndgaaShelfSort
import Derived.Shelf.SlSortCmp.WholeK
namespace Go.Proofs.Ytflbidbnbfndgaa
open Go Go.RowKit

theorem ltOf_cmpP (x y : Int × Int) : ltOf cmpP x y = decide (ltP x y) := by
  unfold ltOf cmpP orI cmpI
  congr 1
  obtain ⟨a, b⟩ := x
  obtain ⟨c, d⟩ := y
  simp only [ltP, eq_iff_iff]
  split <;> (repeat' split at *) <;> omega

theorem swoP : Sort.SWO (ltOf cmpP) where
  irrefl x := by rw [ltOf_cmpP]; simpa using ltP.irrefl x
  trans x y z h1 h2 := by rw [ltOf_cmpP] at *; simp only [decide_eq_true_eq] at *; exact h1.trans h2
  ntrans x y z h1 h2 := by
    rw [ltOf_cmpP] at *
    simp only [decide_eq_false_iff_not] at *
    unfold ltP at *
    omega

theorem Sort_walk (w : World) (b off c : Nat) (l : List (Int × Int)) (h : PlAt w (.slice (some ⟨b, off, none⟩) l.length c) l) (hl : l.length ≤ 1000000) :
    Calls Try.prog 47 #[.slice (some ⟨b, off, none⟩) l.length c, .func (.func 48) #[] #[]] w fun e w' =>
      e = .returned (.tuple #[]) ∧ ∃ l', l'.Perm l ∧ l'.Pairwise (fun x y => ¬ ltP y x) ∧ PlAt w' (.slice (some ⟨b, off, none⟩) l.length c) l' ∧ Touch [b] w w' := by
  have eg : ∀ args w, (callFunc 48 args).run Try.prog w = .ok (.enter 48 args) w := enters_of Try.func48 (by kernel_rfl) rfl
  have hH : Sort.HoldsK encP 2 w b off l.toArray := by
    unfold Sort.HoldsK
    rw [flat_pl]
    intro j hj
    have hj' : j < l.length * 2 := by simpa [pl_length] using hj
    obtain ⟨g, off', c', e, _, _, hx⟩ := SlAt.cells h (by rw [pl_length]; omega)
    cases e
    refine hx j _ ?_
    rw [getElem!_pos ((pl l).toArray) j hj]
    simp
  have hb : b < w.heap.size := SlAt.lt h b rfl
  have := AnyQ.slices_SortFunc laysSort 2 (fun w => by kernel_rfl) (fun w => by kernel_rfl) encP encP_len encP_one cmpP swoP 48 #[] b off c l.toArray w eg (fun m os dk _ x y => Compare_walk _ x y) hH hb (by simp; omega)
  simp only [List.size_toArray] at this
  refine this.mono ?_
  rintro e w' ⟨rfl, d', n, os, hp, hs, rfl⟩
  obtain ⟨hp1, _, hp3⟩ := hp
  have hsz : d'.toList.length = l.length := by simpa using hp1
  have ed : d' = d'.toList.toArray := by simp
  have hw := sort_world h hsz n os
  rw [← ed] at hw
  refine ⟨rfl, d'.toList, ?_, ?_, hw.1, hw.2⟩
  · have e1 : d'.extract 0 l.length = d' := by rw [← hsz]; simp
    have e2 : l.toArray.extract 0 l.length = l.toArray := by simp
    rw [e1, e2] at hp3
    simpa using hp3
  · refine List.pairwise_iff_getElem.2 fun i j hi hj hij => ?_
    have := hs i j (Nat.zero_le _) hij (by rw [← hsz]; exact hj)
    rw [ltOf_cmpP, getElem!_pos d' j (by simpa using hj), getElem!_pos d' i (by simpa using hi)] at this
    simpa using this
end Go.Proofs.Ytflbidbnbfndgaa
