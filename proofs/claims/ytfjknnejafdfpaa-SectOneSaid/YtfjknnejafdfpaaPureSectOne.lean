/- SectOne answers true for all three bytes; no conditions. -/
import Derived.Test.YtfjknnejafdfpaaPSectOnex1
import Derived.OpenShut
namespace Go.Proofs.Ytfjknnejafdfpaa.Pure
open Go Go.RowKit Go.Proofs.Ytfjknnejafdfpaa.PSectOne Go.Proofs.YtfjknnejafdfpaaW.PrintWords Go.Proofs.YtfjknnejafdfpaaW.PrintLast

theorem mod_cases (a : Int) (n : Nat) (h0 : 0 ≤ a) (hn : 0 < n) (hn2 : n ≤ 6) : 0 ≤ wrap64 (Int.tmod a n) ∧ wrap64 (Int.tmod a n) < n := by
  have e : Int.tmod a n = a % n := Int.tmod_eq_emod_of_nonneg h0
  have l := Int.emod_nonneg a (b := (n : Int)) (by omega)
  have u := Int.emod_lt_of_pos a (b := (n : Int)) (by omega)
  rw [e]
  unfold wrap64
  omega

theorem SectOne : headlandlaw09_SectOne.Pure := by
  intro a0 a1 a2 w0 w1 w2
  have b0 := bounds_u8 w0
  have b1 := bounds_u8 w1
  have b2 := bounds_u8 w2
  have h0 := mod_cases a0 4 b0.1 (by omega) (by omega)
  have h1 := mod_cases a1 6 b1.1 (by omega) (by omega)
  have h2 := mod_cases a2 5 b2.1 (by omega) (by omega)
  clear w0 w1 w2 b0 b1 b2
  refine ⟨12, ?_⟩
  unfold headlandlaw09_SectOne.f
  change 0 ≤ wrap64 (Int.tmod a0 4) ∧ wrap64 (Int.tmod a0 4) < 4 at h0
  change 0 ≤ wrap64 (Int.tmod a1 6) ∧ wrap64 (Int.tmod a1 6) < 6 at h1
  change 0 ≤ wrap64 (Int.tmod a2 5) ∧ wrap64 (Int.tmod a2 5) < 5 at h2
  generalize wrap64 (Int.tmod a0 4) = x at *
  generalize wrap64 (Int.tmod a1 6) = y at *
  generalize wrap64 (Int.tmod a2 5) = z at *
  have hx : x = 0 ∨ x = 1 ∨ x = 2 ∨ x = 3 := by omega
  have hy : y = 0 ∨ y = 1 ∨ y = 2 ∨ y = 3 ∨ y = 4 ∨ y = 5 := by omega
  have hz : z = 0 ∨ z = 1 ∨ z = 2 ∨ z = 3 ∨ z = 4 := by omega
  clear h0 h1 h2
  rcases hx with rfl | rfl | rfl | rfl <;> rcases hy with rfl | rfl | rfl | rfl | rfl | rfl <;> rcases hz with rfl | rfl | rfl | rfl | rfl <;> decide +kernel

end Go.Proofs.Ytfjknnejafdfpaa.Pure
