/- SwapNone: what is none. -/
import Derived.Test.YtflbidbnbfndgaaSwapAns
namespace Go.Proofs.Ytflbidbnbfndgaa
open Go Go.RowKit

theorem Take_nil (w : World) : Calls Try.prog 32 #[.pointer none] w fun e w' => e = .returned (.tuple #[.int .i64 0, .bool false]) ∧ w' = w := by
  go_enter Try.func32, Try.ntmps32
  go_wp2_with fail
  exact bodyPost_ret (v := .tuple #[.int .i64 0, .bool false]) (by simp [results, Try.results32, go_sem]) rfl ⟨rfl, rfl⟩
theorem Hold_nil (w : World) (n : Int) (x : Int × Int) : Calls Try.prog 33 #[.pointer none, .int .i64 n, .agg #[.int .i64 x.1, .int .i64 x.2]] w fun e w' => e = .returned (.bool false) ∧ Below w.heap.size w w' := by
  go_enter Try.func33, Try.ntmps33
  go_wp2_with fail
  refine (there_nil' _ n).mono ?_
  rintro e w1 ⟨rfl, rfl⟩
  go_wp2_with fail
  go_ret
  exact ⟨rfl, (Below.refl _ _).alloc (Nat.le_refl _) _⟩
theorem Release_nil (w : World) (n : Int) (x : Int × Int) : Calls Try.prog 36 #[.pointer none, .int .i64 n, .agg #[.int .i64 x.1, .int .i64 x.2]] w fun e w' => e = .returned (.bool false) ∧ Below w.heap.size w w' := by
  go_enter Try.func36, Try.ntmps36
  go_wp2_with fail
  refine (there_nil' _ n).mono ?_
  rintro e w1 ⟨rfl, rfl⟩
  go_wp2_with fail
  go_ret
  exact ⟨rfl, (Below.refl _ _).alloc (Nat.le_refl _) _⟩
theorem Of_nil' (w : World) (n : Int) : Calls Try.prog 40 #[.pointer none, .int .i64 n] w fun e w' => e = .returned (.slice none 0 0) ∧ w' = w := by
  go_enter Try.func40, Try.ntmps40
  go_wp2_with fail
  refine (there_nil' _ n).mono ?_
  rintro e w1 ⟨rfl, rfl⟩
  go_wp2_with fail
  go_ret
  exact ⟨rfl, rfl⟩
theorem Slots_nil (w : World) (n : Int) : Calls Try.prog 42 #[.pointer none, .int .i64 n] w fun e w' => e = .returned (.slice none 0 0) ∧ Below w.heap.size w w' := by
  go_enter Try.func42, Try.ntmps42
  go_wp2_with fail
  go_ret
  exact ⟨rfl, (Below.refl _ _).alloc (Nat.le_refl _) _⟩
theorem Used_nil (w : World) : Calls Try.prog 35 #[.pointer none] w fun e w' => e = .returned (.int .i64 0) ∧ w' = w := by
  go_enter Try.func35, Try.ntmps35
  go_wp2_with fail
  go_loopw [3, 4, 5] (fun n _ i wr => ∃ k : Nat, k ≤ 32 ∧ i = .int .i64 k ∧ n = .int .i64 0 ∧ wr = w) (fun _ _ i _ => 32 - (intOf i).toNat)
  case atStart => exact ⟨0, by omega, rfl, rfl, rfl⟩
  case round =>
    obtain ⟨k, hk, rfl, rfl, rfl⟩ := hrel
    by_cases hlt : k < 32
    · have h1 : (k : Int) < 32 := by omega
      go_wp2_with fail
      refine (Of_nil' _ _).mono ?_
      rintro e w2 ⟨rfl, rfl⟩
      go_wp2_with fail
      go_roundw
      case rel => exact ⟨k + 1, by omega, by go_num, rfl, trivial⟩
      case measure => simp [intOf]; omega
    · obtain rfl : k = 32 := by omega
      go_wp2_with fail
      go_ret
      exact ⟨rfl, rfl⟩

theorem none_walk (n : Int) (x : Int × Int) (w : World) : Calls Try.prog 11 #[.int .i64 n, .agg #[.int .i64 x.1, .int .i64 x.2]] w fun e w' => e = .returned (.bool true) ∧ Below w.heap.size w w' := by
  obtain ⟨x1, x2⟩ := x
  go_enter Try.func11, Try.ntmps11
  go_wp2_with fail
  have q0 : (w.alloc (.cells #[.int .i64 x1, .int .i64 x2] 40)).cell? ⟨w.heap.size, 0, none⟩ = some (.int .i64 x1) := by go_simp
  have q1 : (w.alloc (.cells #[.int .i64 x1, .int .i64 x2] 40)).cell? ⟨w.heap.size, 1, none⟩ = some (.int .i64 x2) := by go_simp
  have HB0 := Lib.hid ((Below.refl w.heap.size w).alloc (Nat.le_refl _) (.cells #[.int .i64 x1, .int .i64 x2] 40))
  generalize w.alloc (.cells #[.int .i64 x1, .int .i64 x2] 40) = W at *
  refine (Take_nil _).mono ?_
  rintro e w1 ⟨rfl, rfl⟩
  go_wp2_with fail
  refine (swapAnswers _).mono ?_
  rintro e w2 ⟨rfl, b2⟩
  have q0 := (b2.cell (World.block_lt_of_cell? _ _ q0)).trans q0
  have q1 := (b2.cell (World.block_lt_of_cell? _ _ q1)).trans q1
  have HB2 := Lib.hid (HB0.out.trans (b2.mono HB0.out.size))
  clear b2 HB0
  go_wp2_with fail
  refine (Hold_nil _ n (x1, x2)).mono ?_
  rintro e w3 ⟨rfl, b3⟩
  have q0 := (b3.cell (World.block_lt_of_cell? _ _ q0)).trans q0
  have q1 := (b3.cell (World.block_lt_of_cell? _ _ q1)).trans q1
  have HB3 := Lib.hid (HB2.out.trans (b3.mono HB2.out.size))
  clear b3 HB2
  go_wp2_with fail
  refine (Release_nil _ n (x1, x2)).mono ?_
  rintro e w4 ⟨rfl, b4⟩
  have q0 := (b4.cell (World.block_lt_of_cell? _ _ q0)).trans q0
  have q1 := (b4.cell (World.block_lt_of_cell? _ _ q1)).trans q1
  have HB4 := Lib.hid (HB3.out.trans (b4.mono HB3.out.size))
  clear b4 HB3
  go_wp2_with fail
  refine (Of_nil' _ n).mono ?_
  rintro e w5 ⟨rfl, rfl⟩
  go_wp2_with fail
  refine (Slots_nil _ x1).mono ?_
  rintro e w6 ⟨rfl, b6⟩
  have q0 := (b6.cell (World.block_lt_of_cell? _ _ q0)).trans q0
  have q1 := (b6.cell (World.block_lt_of_cell? _ _ q1)).trans q1
  have HB6 := Lib.hid (HB4.out.trans (b6.mono HB4.out.size))
  clear b6 HB4
  go_wp2_with fail
  refine (Used_nil _).mono ?_
  rintro e w7 ⟨rfl, rfl⟩
  go_wp2_with fail
  go_ret
  exact ⟨rfl, HB6.out⟩

theorem swapNone_row (n : Int) (x1 x2 : Int) (w : World) (_ : (Lit.int .i64 n).wf = true) (_ : (Lit.int .i64 x1).wf = true) (_ : (Lit.int .i64 x2).wf = true) :
    Calls Try.prog 11 #[.int .i64 n, .agg [.int .i64 x1, .int .i64 x2].toArray] w fun e w' => e = .returned (.bool true) ∧ Below w.heap.size w w' := none_walk n (x1, x2) w
end Go.Proofs.Ytflbidbnbfndgaa
