/- SectFrames answers true for every frame and section number; no conditions. -/
import Derived.Test.YtfjknnejafdfpaaProg
import Derived.WalkKit
namespace Go.Proofs.Ytfjknnejafdfpaa
open Go Go.RowKit

set_option maxRecDepth 100000 in
set_option maxHeartbeats 1000000 in
theorem frames_fnsn (f s : Int) (w : World) (h0 : f < 0) (h1 : s < 0) :
    Calls Try.prog 10 #[.int .i64 f, .int .i64 s] w fun e w' => e = .returned (.bool true) ∧ Below w.heap.size w w' := by
  go_enter Try.func10, Try.ntmps10
  go_wp2
  all_goals go_ret
  all_goals refine ⟨?_, Below.refl _ _⟩
  all_goals (first | rfl | (simp; done) | (simp; omega))

set_option maxRecDepth 100000 in
set_option maxHeartbeats 1000000 in
theorem frames_fnsb (f s : Int) (w : World) (h0 : f < 0) (h1 : 32 ≤ s) :
    Calls Try.prog 10 #[.int .i64 f, .int .i64 s] w fun e w' => e = .returned (.bool true) ∧ Below w.heap.size w w' := by
  go_enter Try.func10, Try.ntmps10
  go_wp2
  all_goals go_ret
  all_goals refine ⟨?_, Below.refl _ _⟩
  all_goals (first | rfl | (simp; done) | (simp; omega))

set_option maxRecDepth 100000 in
set_option maxHeartbeats 1000000 in
theorem frames_fnsi (f s : Int) (w : World) (h0 : f < 0) (h1 : 0 ≤ s) (h2 : s < 32) :
    Calls Try.prog 10 #[.int .i64 f, .int .i64 s] w fun e w' => e = .returned (.bool true) ∧ Below w.heap.size w w' := by
  go_enter Try.func10, Try.ntmps10
  go_wp2
  all_goals go_ret
  all_goals refine ⟨?_, Below.refl _ _⟩
  all_goals (first | rfl | (simp; done) | (simp; omega))

set_option maxRecDepth 100000 in
set_option maxHeartbeats 1000000 in
theorem frames_fbsn (f s : Int) (w : World) (h0 : 1024 ≤ f) (h1 : s < 0) :
    Calls Try.prog 10 #[.int .i64 f, .int .i64 s] w fun e w' => e = .returned (.bool true) ∧ Below w.heap.size w w' := by
  go_enter Try.func10, Try.ntmps10
  go_wp2
  all_goals go_ret
  all_goals refine ⟨?_, Below.refl _ _⟩
  all_goals (first | rfl | (simp; done) | (simp; omega))

set_option maxRecDepth 100000 in
set_option maxHeartbeats 1000000 in
theorem frames_fbsb (f s : Int) (w : World) (h0 : 1024 ≤ f) (h1 : 32 ≤ s) :
    Calls Try.prog 10 #[.int .i64 f, .int .i64 s] w fun e w' => e = .returned (.bool true) ∧ Below w.heap.size w w' := by
  go_enter Try.func10, Try.ntmps10
  go_wp2
  all_goals go_ret
  all_goals refine ⟨?_, Below.refl _ _⟩
  all_goals (first | rfl | (simp; done) | (simp; omega))

set_option maxRecDepth 100000 in
set_option maxHeartbeats 1000000 in
theorem frames_fbsi (f s : Int) (w : World) (h0 : 1024 ≤ f) (h1 : 0 ≤ s) (h2 : s < 32) :
    Calls Try.prog 10 #[.int .i64 f, .int .i64 s] w fun e w' => e = .returned (.bool true) ∧ Below w.heap.size w w' := by
  go_enter Try.func10, Try.ntmps10
  go_wp2
  all_goals go_ret
  all_goals refine ⟨?_, Below.refl _ _⟩
  all_goals (first | rfl | (simp; done) | (simp; omega))

set_option maxRecDepth 100000 in
set_option maxHeartbeats 1000000 in
theorem frames_fisn (f s : Int) (w : World) (h0 : 0 ≤ f) (h1 : f < 1024) (h2 : s < 0) :
    Calls Try.prog 10 #[.int .i64 f, .int .i64 s] w fun e w' => e = .returned (.bool true) ∧ Below w.heap.size w w' := by
  go_enter Try.func10, Try.ntmps10
  go_wp2
  all_goals go_ret
  all_goals refine ⟨?_, Below.refl _ _⟩
  all_goals (first | rfl | (simp; done) | (simp; omega))

set_option maxRecDepth 100000 in
set_option maxHeartbeats 1000000 in
theorem frames_fisb (f s : Int) (w : World) (h0 : 0 ≤ f) (h1 : f < 1024) (h2 : 32 ≤ s) :
    Calls Try.prog 10 #[.int .i64 f, .int .i64 s] w fun e w' => e = .returned (.bool true) ∧ Below w.heap.size w w' := by
  go_enter Try.func10, Try.ntmps10
  go_wp2
  all_goals go_ret
  all_goals refine ⟨?_, Below.refl _ _⟩
  all_goals (first | rfl | (simp; done) | (simp; omega))

set_option maxRecDepth 100000 in
set_option maxHeartbeats 1000000 in
theorem frames_fisieq (f s : Int) (w : World) (h0 : 0 ≤ f) (h1 : f < 1024) (h2 : 0 ≤ s) (h3 : s < 32) (h4 : f / 32 = s) :
    Calls Try.prog 10 #[.int .i64 f, .int .i64 s] w fun e w' => e = .returned (.bool true) ∧ Below w.heap.size w w' := by
  go_enter Try.func10, Try.ntmps10
  go_wp2
  all_goals go_ret
  all_goals refine ⟨?_, Below.refl _ _⟩
  all_goals (first | rfl | (simp; done) | (simp; omega))

set_option maxRecDepth 100000 in
set_option maxHeartbeats 1000000 in
theorem frames_fisilt (f s : Int) (w : World) (h0 : 0 ≤ f) (h1 : f < 1024) (h2 : 0 ≤ s) (h3 : s < 32) (h4 : f / 32 < s) :
    Calls Try.prog 10 #[.int .i64 f, .int .i64 s] w fun e w' => e = .returned (.bool true) ∧ Below w.heap.size w w' := by
  go_enter Try.func10, Try.ntmps10
  go_wp2
  all_goals go_ret
  all_goals refine ⟨?_, Below.refl _ _⟩
  all_goals (first | rfl | (simp; done) | (simp; omega))

set_option maxRecDepth 100000 in
set_option maxHeartbeats 1000000 in
theorem frames_fisigt (f s : Int) (w : World) (h0 : 0 ≤ f) (h1 : f < 1024) (h2 : 0 ≤ s) (h3 : s < 32) (h4 : s < f / 32) :
    Calls Try.prog 10 #[.int .i64 f, .int .i64 s] w fun e w' => e = .returned (.bool true) ∧ Below w.heap.size w w' := by
  go_enter Try.func10, Try.ntmps10
  go_wp2
  all_goals go_ret
  all_goals refine ⟨?_, Below.refl _ _⟩
  all_goals (simp; rw [beq_eq_false_iff_ne.2 (by omega), decide_eq_false (by omega)])

theorem frames_walk (f s : Int) (w : World) :
    Calls Try.prog 10 #[.int .i64 f, .int .i64 s] w fun e w' => e = .returned (.bool true) ∧ Below w.heap.size w w' := by
  by_cases a : f < 0
  · by_cases b : s < 0
    · exact frames_fnsn f s w a b
    by_cases c : s < 32
    · exact frames_fnsi f s w a (by omega) c
    · exact frames_fnsb f s w a (by omega)
  by_cases a' : f < 1024
  · by_cases b : s < 0
    · exact frames_fisn f s w (by omega) a' b
    by_cases c : s < 32
    · by_cases d : f / 32 = s
      · exact frames_fisieq f s w (by omega) a' (by omega) c d
      by_cases e : f / 32 < s
      · exact frames_fisilt f s w (by omega) a' (by omega) c e
      · exact frames_fisigt f s w (by omega) a' (by omega) c (by omega)
    · exact frames_fisb f s w (by omega) a' (by omega)
  · by_cases b : s < 0
    · exact frames_fbsn f s w (by omega) b
    by_cases c : s < 32
    · exact frames_fbsi f s w (by omega) (by omega) c
    · exact frames_fbsb f s w (by omega) (by omega)

end Go.Proofs.Ytfjknnejafdfpaa
