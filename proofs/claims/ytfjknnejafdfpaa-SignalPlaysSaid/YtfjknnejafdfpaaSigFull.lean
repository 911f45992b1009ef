/- SignalFull answers true for every byte and every signal; no conditions. -/
import Derived.Test.YtfjknnejafdfpaaSigAns
import Derived.OpenShut
namespace Go.Proofs.Ytfjknnejafdfpaa
open Go Go.RowKit Go.Conc

theorem Cut_cap (n : Int) (w : World) : Calls Try.prog 13 #[.int .i64 n, .int .i64 0, .int .i64 16] w fun e w' => e = .returned (.int .i64 (capOf n : Nat)) ∧ w' = w := by
  by_cases h1 : n < 0
  · have e : (capOf n : Int) = 0 := by unfold capOf; omega
    rw [e]
    go_enter Try.func13, Try.ntmps13
    go_wp2
    go_ret
    exact ⟨rfl, rfl⟩
  by_cases h2 : 16 < n
  · have e : (capOf n : Int) = 16 := by unfold capOf; omega
    rw [e]
    go_enter Try.func13, Try.ntmps13
    go_wp2
    go_ret
    exact ⟨rfl, rfl⟩
  · have e : (capOf n : Int) = n := by unfold capOf; omega
    rw [e]
    clear e
    go_enter Try.func13, Try.ntmps13
    go_wp2
    go_ret
    exact ⟨rfl, rfl⟩

theorem capOf_le (n : Int) : capOf n ≤ 16 := by unfold capOf; omega

set_option maxHeartbeats 800000 in
set_option maxRecDepth 100000 in
theorem full_walk (n : Int) (hn0 : 0 ≤ n) (hn1 : n ≤ 255) (x y : Int) (w : World) :
    Calls Try.prog 4 #[.int .u8 n, sigV (x, y)] w fun e w' => e = .returned (.bool true) ∧ Below w.heap.size w w' := by
  obtain ⟨m, rfl⟩ := Int.eq_ofNat_of_zero_le hn0
  have hc16 := capOf_le ((m : Int) % 20)
  obtain ⟨cap, hcap⟩ : ∃ cap, cap = capOf ((m : Int) % 20) := ⟨_, rfl⟩
  have HCAP := Lib.hid hcap
  unfold sigV
  go_enter Try.func4, Try.ntmps4
  go_wp2_with fail
  refine (New_at _ _).mono ?_
  rintro e w1 ⟨rfl, b1, q1⟩
  have hcell0 : w1.cell? ⟨w.heap.size, 0, none⟩ = some (.int .i64 x) := (b1.cell (p := ⟨w.heap.size, 0, none⟩) (by simp)).trans (by go_simp)
  have hcell1 : w1.cell? ⟨w.heap.size, 1, none⟩ = some (.int .i64 y) := (b1.cell (p := ⟨w.heap.size, 1, none⟩) (by simp)).trans (by go_simp)
  replace b1 : Below w.heap.size w w1 := ((Below.refl _ w).alloc (Nat.le_refl _) _).trans (b1.mono (by simp))
  simp only [World.size_alloc] at q1 ⊢
  rw [← hcap] at q1 hc16
  have HB := Lib.hid b1
  clear b1 hcap
  go_wp2_with fail
  go_loopw [7, 8] (fun k i wr => ∃ j : Nat, j ≤ 25 ∧ i = .int .i64 j ∧ k = .int .i64 (min j cap : Nat) ∧ Below w.heap.size w wr ∧ QAt wr (w.heap.size + 1 + 1) (w.heap.size + 1) cap (List.replicate (min j cap) (x, y)) ∧ wr.cell? ⟨w.heap.size, 0, none⟩ = some (.int .i64 x) ∧ wr.cell? ⟨w.heap.size, 1, none⟩ = some (.int .i64 y)) (fun _ i _ => 25 - (intOf i).toNat)
  case atStart => exact ⟨0, by omega, rfl, by simp, HB.out, by simpa using q1, hcell0, hcell1⟩
  case round =>
    clear HB hcell0 hcell1 q1
    obtain ⟨j, hj, rfl, rfl, hb, hq, k0, k1⟩ := hrel
    have HB := Lib.hid hb
    clear hb
    by_cases hlt : j < 25
    · by_cases hr : j < cap
      · go_wp2_with fail
        refine (Put_room _ _ _ _ _ (x, y) hq (by simp; omega)).mono ?_
        rintro e w2 ⟨rfl, g2, q2⟩
        go_wp2_with fail
        go_roundw
        case rel =>
          have e1 : min (j + 1) cap = j + 1 := by omega
          have e2 : min j cap = j := by omega
          rw [e2] at q2 ⊢
          refine ⟨j + 1, by omega, by go_num, by rw [e1]; go_num, HB.out.grown g2 HB.out.size (fun k hk => by cases hk; omega), ?_, ?_, ?_⟩
          · rw [e1, List.replicate_succ']; exact q2
          · exact (World.cell?_of_block (w := wr) (g2.block w.heap.size (World.block_lt_of_cell? wr _ k0) (by simp))).trans k0
          · exact (World.cell?_of_block (w := wr) (g2.block w.heap.size (World.block_lt_of_cell? wr _ k0) (by simp))).trans k1
        case measure => simp [intOf]; omega
      · go_wp2_with fail
        refine (Put_full _ _ _ _ _ (x, y) hq (by simp; omega)).mono ?_
        rintro e w2 ⟨rfl, b2, q2⟩
        have HB2 := Lib.hid b2
        clear b2
        go_wp2_with fail
        go_roundw
        case rel =>
          have e1 : min (j + 1) cap = cap := by omega
          have e2 : min j cap = cap := by omega
          rw [e2] at q2 ⊢
          refine ⟨j + 1, by omega, by go_num, by rw [e1], HB.out.trans (HB2.out.mono HB.out.size), ?_, ?_, ?_⟩
          · rw [e1]; exact q2
          · exact (HB2.out.cell (World.block_lt_of_cell? wr _ k0)).trans k0
          · exact (HB2.out.cell (World.block_lt_of_cell? wr _ k1)).trans k1
        case measure => simp [intOf]; omega
    · obtain rfl : j = 25 := by omega
      have e2 : min 25 cap = cap := by omega
      rw [e2] at hq ⊢
      clear e2
      go_wp2_with fail
      refine (take_nil _).mono ?_
      rintro e w3 ⟨rfl, b3⟩
      have q3 := hq.below b3
      have c0 := (b3.cell (World.block_lt_of_cell? wr _ k0)).trans k0
      have c1 := (b3.cell (World.block_lt_of_cell? wr _ k1)).trans k1
      have HB3 := Lib.hid (HB.out.trans (b3.mono HB.out.size))
      clear hq b3 k0 k1 HB
      unfold sigV
      go_wp2_with fail
      refine (sigAnswers _).mono ?_
      rintro e w4 ⟨rfl, b4⟩
      have q4 := (q3.below ((Below.refl _ _).alloc (Nat.le_refl _) _)).below b4
      have n3 : w.heap.size < w3.heap.size := World.block_lt_of_cell? w3 _ c0
      have d0 : w4.cell? ⟨w.heap.size, 0, none⟩ = some (.int .i64 x) := (b4.cell (p := ⟨w.heap.size, 0, none⟩) (by simp; omega)).trans (((Below.refl _ _).alloc (Nat.le_refl _) _ |>.cell n3).trans c0)
      have d1 : w4.cell? ⟨w.heap.size, 1, none⟩ = some (.int .i64 y) := (b4.cell (p := ⟨w.heap.size, 1, none⟩) (by simp; omega)).trans (((Below.refl _ _).alloc (Nat.le_refl _) _ |>.cell n3).trans c1)
      have z0 : w4.cell? ⟨w3.heap.size, 0, none⟩ = some (.int .i64 0) := (b4.cell (p := ⟨w3.heap.size, 0, none⟩) (by simp)).trans (by go_simp)
      have z1 : w4.cell? ⟨w3.heap.size, 1, none⟩ = some (.int .i64 0) := (b4.cell (p := ⟨w3.heap.size, 1, none⟩) (by simp)).trans (by go_simp)
      have n4 : w3.heap.size + 1 ≤ w4.heap.size := by have := b4.size; simpa using this
      have HB4 := Lib.hid ((HB3.out.alloc HB3.out.size _).trans (b4.mono (by simp; omega)))
      clear b4 HB3 c0 c1 q3
      go_wp2_with fail
      refine (Cut_cap _ _).mono ?_
      rintro e w5 ⟨rfl, rfl⟩
      rw [← HCAP.out]
      go_wp2_with fail
      refine (Len_at _ _ _ _ _ q4).mono ?_
      rintro e w5' ⟨rfl, rfl⟩
      simp only [List.length_replicate]
      go_wp2_with fail
      refine (put_nil _ x y).mono ?_
      rintro e w6 ⟨rfl, b6⟩
      have y0 := (b6.cell (World.block_lt_of_cell? _ _ z0)).trans z0
      have y1 := (b6.cell (World.block_lt_of_cell? _ _ z1)).trans z1
      have HB6 := Lib.hid (HB4.out.trans (b6.mono HB4.out.size))
      clear b6 z0 z1 d0 d1 HB4
      go_wp2_with fail
      refine (len_nil _).mono ?_
      rintro e w7 ⟨rfl, rfl⟩
      go_wp2_with fail
      go_ret
      exact ⟨rfl, HB6.out⟩

theorem full_row (n x y : Int) (w : World) (hn : (Lit.int .u8 n).wf = true) (_ : (Lit.int .i64 x).wf = true) (_ : (Lit.int .i64 y).wf = true) :
    Calls Try.prog 4 #[.int .u8 n, .agg [.int .i64 x, .int .i64 y].toArray] w fun e w' => e = .returned (.bool true) ∧ Below w.heap.size w w' :=
  full_walk n (bounds_u8 hn).1 (bounds_u8 hn).2 x y w
end Go.Proofs.Ytfjknnejafdfpaa
