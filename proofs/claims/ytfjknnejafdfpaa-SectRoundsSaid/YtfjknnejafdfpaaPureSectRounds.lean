/- SectRounds answers true for both values of its argument; no conditions. -/
import Derived.Test.YtfjknnejafdfpaaPSectRoundsx1
namespace Go.Proofs.Ytfjknnejafdfpaa.Pure
open Go.RowKit Go.Proofs.Ytfjknnejafdfpaa.PSectRounds Go.Proofs.YtfjknnejafdfpaaW.PrintWords Go.Proofs.YtfjknnejafdfpaaW.PrintLast

theorem SectRounds : headlandlaw09_SectRounds.Pure := by
  intro a0
  cases a0 <;> exact ⟨12, by decide +kernel⟩

end Go.Proofs.Ytfjknnejafdfpaa.Pure
