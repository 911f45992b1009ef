/- The cache's New, its functions on no cache, and the laws' answers: true. -/
import Derived.Test.YtflbidbnbfndgaaCache
namespace Go.Proofs.Ytflbidbnbfndgaa
open Go Go.RowKit

theorem New_cache (w : World) : Calls Try.prog 16 #[] w fun e w' => e = .returned (.pointer (some ⟨w.heap.size + 2, 0, none⟩)) ∧ Below w.heap.size w w' ∧ CacheAt w' (w.heap.size + 2) w.heap.size (w.heap.size + 1) [] [] := by
  have hmm := @run_makeMap Try.prog
  go_enter Try.func16, Try.ntmps16
  go_wp2_with fail
  go_ret
  have m1 := MapAt.made (κ := Int × Int) (ν := Int × Bool) w encPair encWhere
  have m2 := MapAt.made (κ := Int) (ν := Int × Int) (w.alloc (.map #[] 0)) encInt encPair
  rw [World.size_alloc] at m2
  have b3 := (Below.refl ((w.alloc (.map #[] 0)).alloc (.map #[] 0)).heap.size _).alloc (Nat.le_refl _) (.cells #[.map (some w.heap.size), .map (some (w.heap.size + 1))] 81)
  have hb := heap_alloc_new ((w.alloc (.map #[] 0)).alloc (.map #[] 0)) (.cells #[.map (some w.heap.size), .map (some (w.heap.size + 1))] 81)
  rw [World.size_alloc, World.size_alloc] at hb
  refine ⟨rfl, (((Below.refl _ _).alloc (Nat.le_refl _) _).alloc (by simp) _).alloc (by simp; omega) _, ?_, ?_, ?_, ?_, by omega⟩
  · rw [cell_of_row _ _ 0 _ _ _ hb]; rfl
  · rw [cell_of_row _ _ 1 _ _ _ hb]; rfl
  · exact (m1.below ((Below.refl _ _).alloc (Nat.le_refl _) _)).below b3
  · exact m2.below b3

section
variable (w : World) (k : Int × Int)
theorem Frame_nil : Calls Try.prog 20 #[.pointer none, .agg #[.int .i64 k.1, .int .i64 k.2]] w fun e w' => e = .returned (.tuple #[.int .i64 0, .bool false]) ∧ Below w.heap.size w w' := by
  go_enter Try.func20, Try.ntmps20
  go_wp2_with fail
  refine (there_nil _ k).mono ?_
  rintro e w1 ⟨rfl, hb⟩
  have HB := Lib.hid (((Below.refl _ w).alloc (Nat.le_refl _) _).trans (hb.mono (by simp)))
  clear hb
  unfold encWhere
  go_wp2_with fail
  go_ret2
  exact ⟨rfl, HB.out.alloc HB.out.size _⟩
theorem Dirty_nil : Calls Try.prog 23 #[.pointer none, .agg #[.int .i64 k.1, .int .i64 k.2]] w fun e w' => e = .returned (.bool false) ∧ Below w.heap.size w w' := by
  go_enter Try.func23, Try.ntmps23
  go_wp2_with fail
  refine (there_nil _ k).mono ?_
  rintro e w1 ⟨rfl, hb⟩
  have HB := Lib.hid (((Below.refl _ w).alloc (Nat.le_refl _) _).trans (hb.mono (by simp)))
  clear hb
  unfold encWhere
  go_wp2_with fail
  go_ret
  exact ⟨rfl, HB.out.alloc HB.out.size _⟩
theorem Mark_nil (d : Bool) : Calls Try.prog 18 #[.pointer none, .agg #[.int .i64 k.1, .int .i64 k.2], .bool d] w fun e w' => e = .returned (.bool false) ∧ Below w.heap.size w w' := by
  go_enter Try.func18, Try.ntmps18
  go_wp2_with fail
  refine (there_nil _ k).mono ?_
  rintro e w1 ⟨rfl, hb⟩
  have HB := Lib.hid (((Below.refl _ w).alloc (Nat.le_refl _) _).trans (hb.mono (by simp)))
  clear hb
  unfold encWhere
  go_wp2_with fail
  go_ret
  exact ⟨rfl, HB.out.alloc HB.out.size _⟩
theorem Drop_nil : Calls Try.prog 19 #[.pointer none, .agg #[.int .i64 k.1, .int .i64 k.2]] w fun e w' => e = .returned (.bool false) ∧ Below w.heap.size w w' := by
  go_enter Try.func19, Try.ntmps19
  go_wp2_with fail
  refine (there_nil _ k).mono ?_
  rintro e w1 ⟨rfl, hb⟩
  have HB := Lib.hid (((Below.refl _ w).alloc (Nat.le_refl _) _).trans (hb.mono (by simp)))
  clear hb
  unfold encWhere
  go_wp2_with fail
  go_ret
  exact ⟨rfl, HB.out.alloc HB.out.size _⟩
theorem Put_nil (f : Int) : Calls Try.prog 17 #[.pointer none, .agg #[.int .i64 k.1, .int .i64 k.2], .int .i64 f] w fun e w' => e = .returned (.bool false) ∧ Below w.heap.size w w' := by
  go_enter Try.func17, Try.ntmps17
  go_wp2_with fail
  refine (there_nil _ k).mono ?_
  rintro e w1 ⟨rfl, hb⟩
  have HB := Lib.hid (((Below.refl _ w).alloc (Nat.le_refl _) _).trans (hb.mono (by simp)))
  clear hb
  unfold encWhere
  go_wp2_with fail
  go_ret
  exact ⟨rfl, HB.out.alloc HB.out.size _⟩
theorem Of_nil (f : Int) : Calls Try.prog 21 #[.pointer none, .int .i64 f] w fun e w' => e = .returned (.tuple #[encPair (0, 0), .bool false]) ∧ Below w.heap.size w w' := by
  unfold encPair
  go_enter Try.func21, Try.ntmps21
  go_wp2_with fail
  exact bodyPost_ret (v := .tuple #[.agg #[.int .i64 0, .int .i64 0], .bool false]) (by simp [results, Try.results21, go_sem]) rfl ⟨rfl, (Below.refl _ _).alloc (Nat.le_refl _) _⟩
end
end Go.Proofs.Ytflbidbnbfndgaa
