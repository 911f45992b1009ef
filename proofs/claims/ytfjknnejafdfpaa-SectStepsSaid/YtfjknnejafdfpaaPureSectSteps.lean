/- SectSteps answers true for every state, step and zone; no conditions. -/
import Derived.Test.YtfjknnejafdfpaaPSectStepsx3
namespace Go.Proofs.Ytfjknnejafdfpaa.Pure
open Go.RowKit Go.Proofs.Ytfjknnejafdfpaa.PSectSteps Go.Proofs.YtfjknnejafdfpaaW.PrintWords Go.Proofs.YtfjknnejafdfpaaW.PrintLast

theorem SectSteps : headlandlaw09_SectSteps.Pure := by
  intro a0 a1 a2 w0 w1 w2
  clear w0 w1 w2
  have hA : headlandlaw09_answers.f 30 = some true := by decide +kernel
  refine ⟨30, ?_⟩
  unfold headlandlaw09_SectSteps.f
  rw [hA]
  suffices h : ∃ r, sect_Next.f 30 a0 a1 a2 = some r ∧ headlandref08_Next.f 30 a0 a1 a2 = some r by
    obtain ⟨r, h1, h2⟩ := h
    rw [h1, h2]
    simp
  clear hA
  by_cases ha : a0 < 0
  · exact ⟨(0, 1), by simp [sect_Next.f, sect_Next.j0, ha], by simp [headlandref08_Next.f, headlandref08_Next.j0, ha]⟩
  by_cases hb : a0 > 3
  · exact ⟨(0, 1), by simp [sect_Next.f, sect_Next.j0, hb], by simp [headlandref08_Next.f, headlandref08_Next.j0, hb]⟩
  have hs : a0 = 0 ∨ a0 = 1 ∨ a0 = 2 ∨ a0 = 3 := by omega
  clear ha hb
  have hstep : a1 = 1 ∨ a1 = 2 ∨ a1 = 3 ∨ a1 = 4 ∨ (a1 ≠ 1 ∧ a1 ≠ 2 ∧ a1 ≠ 3 ∧ a1 ≠ 4) := by omega
  have hz : a2 = 2 ∨ a2 = 3 ∨ (a2 ≠ 2 ∧ a2 ≠ 3) := by omega
  rcases hs with rfl | rfl | rfl | rfl <;> rcases hstep with rfl | rfl | rfl | rfl | ⟨h1, h2, h3, h4⟩ <;> rcases hz with rfl | rfl | ⟨z1, z2⟩ <;>
    simp [*, sect_Next.f, sect_Next.j0, sect_next.f, sect_online.f, sect_from.f, headlandref08_Next.f, headlandref08_Next.j0, headlandref08_Next.j1, headlandref08_Next.j2, headlandref08_Next.j3, headlandref08_Next.j4, headlandref08_Next.j5, headlandref08_Next.j6, headlandref08_Next.j7, headlandref08_Next.j8]

end Go.Proofs.Ytfjknnejafdfpaa.Pure
