/- The signal laws' function 'answers' returns true; nothing that was there has changed. -/
import Derived.Test.YtfjknnejafdfpaaQueue
import Derived.Lib.Hide
namespace Go.Proofs.Ytfjknnejafdfpaa
open Go Go.RowKit Go.Conc

set_option maxHeartbeats 400000 in
theorem sigAnswers (w : World) : Calls Try.prog 11 #[] w fun e w' => e = .returned (.bool true) ∧ Below w.heap.size w w' := by
  go_enter Try.func11, Try.ntmps11
  go_wp2_with fail
  refine (New_at _ 2).mono ?_
  rintro e w1 ⟨rfl, b1, q1⟩
  have HB1 := Lib.hid b1
  clear b1
  go_wp2_with fail
  refine (Put_room _ (w.heap.size + 1) w.heap.size _ [] (1, 5) q1 (by decide)).mono ?_
  rintro e w2 ⟨rfl, g2, q2⟩
  go_wp2_with fail
  refine (Len_at _ _ _ _ _ q2).mono ?_
  rintro e w2' ⟨rfl, rfl⟩
  go_wp2_with fail
  refine (Take_some _ _ _ _ [] (1, 5) q2).mono ?_
  rintro e w3 ⟨rfl, g3, q3⟩
  unfold sigV
  go_wp2_with fail
  refine (Len_at _ _ _ _ _ (q3.below ((Below.refl _ _).alloc (Nat.le_refl _) _))).mono ?_
  rintro e w4 ⟨rfl, rfl⟩
  go_wp2_with fail
  go_ret
  refine ⟨rfl, ?_⟩
  have s1 := HB1.out.size
  have s2 := g2.size
  have s3 := g3.size
  exact ((HB1.out.grown g2 s1 (fun k hk => by cases hk; exact Nat.le_refl _)).grown g3 (by omega) (fun k hk => by cases hk; exact Nat.le_refl _)).alloc (by omega) _
end Go.Proofs.Ytfjknnejafdfpaa
