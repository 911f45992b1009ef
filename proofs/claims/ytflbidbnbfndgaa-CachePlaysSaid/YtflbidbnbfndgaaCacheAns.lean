/- The cache laws' function 'answers' returns true; nothing that was there has changed. -/
import Derived.Test.YtflbidbnbfndgaaCacheNew
namespace Go.Proofs.Ytflbidbnbfndgaa
open Go Go.RowKit

set_option maxHeartbeats 800000 in
set_option maxRecDepth 100000 in
theorem cacheAnswers (w : World) : Calls Try.prog 22 #[] w fun e w' => e = .returned (.bool true) ∧ Below w.heap.size w w' := by
  go_enter Try.func22, Try.ntmps22
  go_wp2_with fail
  refine (New_cache _).mono ?_
  rintro e w1 ⟨rfl, b1, C1⟩
  have HB := Lib.hid b1
  have hs1 : w.heap.size + 3 ≤ w1.heap.size := by have := C1.ps; omega
  clear b1
  go_wp2_with fail
  have hW1 : Below w1.heap.size w1 (w1.alloc (.cells #[.int .i64 1, .int .i64 2] 23)) := (Below.refl _ _).alloc (Nat.le_refl _) _
  have k0 : (w1.alloc (.cells #[.int .i64 1, .int .i64 2] 23)).cell? ⟨w1.heap.size, 0, none⟩ = some (.int .i64 1) := by go_simp
  have k1 : (w1.alloc (.cells #[.int .i64 1, .int .i64 2] 23)).cell? ⟨w1.heap.size, 1, none⟩ = some (.int .i64 2) := by go_simp
  generalize w1.alloc (.cells #[.int .i64 1, .int .i64 2] 23) = W at hW1 k0 k1 ⊢
  refine (Put_new _ _ _ _ _ _ (C1.below hW1) (1, 2) 5 rfl rfl).mono ?_
  rintro e w2 ⟨rfl, t2, C2⟩
  have k20 := t2.cell k0 (by simp; omega)
  have k21 := t2.cell k1 (by simp; omega)
  have HB2 := Lib.hid (Touch.from (HB.out.trans (hW1.mono (by omega))) t2 (Nat.le_trans HB.out.size hW1.size) (by simp))
  clear t2 hW1 k0 k1 HB C1
  go_wp2_with fail
  refine (Frame_walk _ _ _ _ _ _ C2 (1, 2)).mono ?_
  rintro e w3 ⟨rfl, b3⟩
  have C3 := C2.below b3
  have k30 := (b3.cell (World.block_lt_of_cell? _ _ k20)).trans k20
  have k31 := (b3.cell (World.block_lt_of_cell? _ _ k21)).trans k21
  have HB3 := Lib.hid (HB2.out.trans (b3.mono HB2.out.size))
  clear b3 HB2 C2 k20 k21
  change CacheAt w3 (w.heap.size + 2) w.heap.size (w.heap.size + 1) [((1, 2), (5, false))] [(5, (1, 2))] at C3
  have e1 : (getL (updL ([] : CList) (1, 2) (5, false)) (1, 2)).getD (0, false) = (5, false) := by decide
  have e2 : (getL (updL ([] : CList) (1, 2) (5, false)) (1, 2)).isSome = true := by decide
  rw [e1, e2]
  clear e1 e2
  go_wp2_with fail
  refine (Mark_walk _ _ _ _ _ _ C3 (1, 2) true).mono ?_
  rintro e w4 ⟨rfl, t4, C4⟩
  have k40 := t4.cell k30 (by simp; omega)
  have k41 := t4.cell k31 (by simp; omega)
  have HB4 := Lib.hid (Touch.from HB3.out t4 HB3.out.size (by simp))
  clear t4 HB3 C3 k30 k31
  change CacheAt w4 (w.heap.size + 2) w.heap.size (w.heap.size + 1) [((1, 2), (5, true))] [(5, (1, 2))] at C4
  have e1 : (getL ([((1, 2), (5, false))] : CList) (1, 2)).isSome = true := by decide
  rw [e1]
  clear e1
  go_wp2_with fail
  refine (Dirty_walk _ _ _ _ _ _ C4 (1, 2)).mono ?_
  rintro e w5 ⟨rfl, b5⟩
  have C5 := C4.below b5
  have k50 := (b5.cell (World.block_lt_of_cell? _ _ k40)).trans k40
  have k51 := (b5.cell (World.block_lt_of_cell? _ _ k41)).trans k41
  have HB5 := Lib.hid (HB4.out.trans (b5.mono HB4.out.size))
  clear b5 HB4 C4 k40 k41
  have e1 : ((getL ([((1, 2), (5, true))] : CList) (1, 2)).getD (0, false)).2 = true := by decide
  rw [e1]
  clear e1
  go_wp2_with fail
  refine (Drop_walk _ _ _ _ _ _ C5 (1, 2)).mono ?_
  rintro e w6 ⟨rfl, t6, C6⟩
  have k60 := t6.cell k50 (by simp; omega)
  have k61 := t6.cell k51 (by simp; omega)
  have HB6 := Lib.hid (Touch.from HB5.out t6 HB5.out.size (by simp))
  clear t6 HB5 C5 k50 k51
  change CacheAt w6 (w.heap.size + 2) w.heap.size (w.heap.size + 1) [] [] at C6
  have e1 : (getL ([((1, 2), (5, true))] : CList) (1, 2)).isSome = true := by decide
  rw [e1]
  clear e1
  go_wp2_with fail
  refine (Dirty_walk _ _ _ _ _ _ C6 (1, 2)).mono ?_
  rintro e w7 ⟨rfl, b7⟩
  have HB7 := Lib.hid (HB6.out.trans (b7.mono HB6.out.size))
  clear b7 HB6 C6 k60 k61
  have e1 : ((getL ([] : CList) (1, 2)).getD (0, false)).2 = false := by decide
  rw [e1]
  clear e1
  go_wp2_with fail
  go_ret
  exact ⟨rfl, HB7.out⟩
end Go.Proofs.Ytflbidbnbfndgaa
