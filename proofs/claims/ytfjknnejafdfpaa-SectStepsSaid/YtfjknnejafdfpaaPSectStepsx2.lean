-- PRINTED BY print.sh 35421559b90ae4d0a3588c463048766b98c2df88dd9212a6774a882060cdf62d: not written by this session
import Derived.Test.YtfjknnejafdfpaaPSectStepsx0
namespace Go.Proofs.Ytfjknnejafdfpaa.PSectSteps
open Go.RowKit Go.Proofs.YtfjknnejafdfpaaW.PrintWords Go.Proofs.YtfjknnejafdfpaaW.PrintLast Go.Proofs.YtfjknnejafdfpaaW.PrintMore
attribute [local go_sem] max2_int min2_int max_two min_two max_three min_three max_four min_four   -- for this text's walks alone
set_option linter.unusedVariables false
set_option linter.unusedSimpArgs false

/-! ### headlandref08_Next: function 18 -/
mutual
def headlandref08_Next.j0 : Nat → Int → Int → Int → Bool → Option (Int × Int)
  | 0, _, _, _, _ => none
  | k + 1, x0, x1, x2, x8 => if x8 = true then (some (0, 1)) else (if x1 = 1 then (headlandref08_Next.j1 k x0 x1 x2 (x0 == 0)) else (headlandref08_Next.j1 k x0 x1 x2 false))
def headlandref08_Next.j1 : Nat → Int → Int → Int → Bool → Option (Int × Int)
  | 0, _, _, _, _ => none
  | k + 1, x0, x1, x2, x15 => if x15 = true then (some (1, 0)) else (if x1 = 1 then (some (0, 3)) else (if x1 = 2 then (if x2 = 2 then (headlandref08_Next.j2 k x0 x1 x2 false) else (headlandref08_Next.j2 k x0 x1 x2 (x2 != 3))) else (headlandref08_Next.j2 k x0 x1 x2 false)))
def headlandref08_Next.j2 : Nat → Int → Int → Int → Bool → Option (Int × Int)
  | 0, _, _, _, _ => none
  | k + 1, x0, x1, x2, x25 => if x25 = true then (some (0, 1)) else (if x1 = 2 then (headlandref08_Next.j3 k x0 x1 x2 (x0 == 0)) else (headlandref08_Next.j3 k x0 x1 x2 false))
def headlandref08_Next.j3 : Nat → Int → Int → Int → Bool → Option (Int × Int)
  | 0, _, _, _, _ => none
  | k + 1, x0, x1, x2, x36 => if x36 = true then (some (0, 2)) else (if x1 = 2 then (headlandref08_Next.j4 k x0 x1 x2 (x0 == 1)) else (headlandref08_Next.j4 k x0 x1 x2 false))
def headlandref08_Next.j4 : Nat → Int → Int → Int → Bool → Option (Int × Int)
  | 0, _, _, _, _ => none
  | k + 1, x0, x1, x2, x43 => if x43 = true then (some (x2, 0)) else (if x1 = 2 then (some (0, 3)) else (if x1 = 3 then (headlandref08_Next.j5 k x0 x1 (decide (x0 < 2))) else (headlandref08_Next.j5 k x0 x1 false)))
def headlandref08_Next.j5 : Nat → Int → Int → Bool → Option (Int × Int)
  | 0, _, _, _ => none
  | k + 1, x0, x1, x54 => if x54 = true then (some (0, 2)) else (if x1 = 3 then (headlandref08_Next.j6 k x0 x1 (x0 == 2)) else (headlandref08_Next.j6 k x0 x1 false))
def headlandref08_Next.j6 : Nat → Int → Int → Bool → Option (Int × Int)
  | 0, _, _, _ => none
  | k + 1, x0, x1, x61 => if x61 = true then (some (0, 5)) else (if x1 = 3 then (some (1, 0)) else (if x1 = 4 then (headlandref08_Next.j7 k x0 x1 (x0 == 0)) else (headlandref08_Next.j7 k x0 x1 false)))
def headlandref08_Next.j7 : Nat → Int → Int → Bool → Option (Int × Int)
  | 0, _, _, _ => none
  | k + 1, x0, x1, x71 => if x71 = true then (some (0, 2)) else (if x1 = 4 then (headlandref08_Next.j8 k x1 (x0 == 1)) else (headlandref08_Next.j8 k x1 false))
def headlandref08_Next.j8 : Nat → Int → Bool → Option (Int × Int)
  | 0, _, _ => none
  | k + 1, x1, x78 => if x78 = true then (some (0, 0)) else (if x1 = 4 then (some (0, 5)) else (some (0, 1)))
end
def headlandref08_Next.f (k : Nat) (a0 : Int) (a1 : Int) (a2 : Int) : Option (Int × Int) := if a0 < 0 then (headlandref08_Next.j0 k a0 a1 a2 true) else (headlandref08_Next.j0 k a0 a1 a2 (decide (a0 > 3)))
theorem headlandref08_Next.mono_l : ∀ k, (∀ y0 y1 y2 y3, LeO (headlandref08_Next.j0 k y0 y1 y2 y3) (headlandref08_Next.j0 (k + 1) y0 y1 y2 y3)) ∧ (∀ y0 y1 y2 y3, LeO (headlandref08_Next.j1 k y0 y1 y2 y3) (headlandref08_Next.j1 (k + 1) y0 y1 y2 y3)) ∧ (∀ y0 y1 y2 y3, LeO (headlandref08_Next.j2 k y0 y1 y2 y3) (headlandref08_Next.j2 (k + 1) y0 y1 y2 y3)) ∧ (∀ y0 y1 y2 y3, LeO (headlandref08_Next.j3 k y0 y1 y2 y3) (headlandref08_Next.j3 (k + 1) y0 y1 y2 y3)) ∧ (∀ y0 y1 y2 y3, LeO (headlandref08_Next.j4 k y0 y1 y2 y3) (headlandref08_Next.j4 (k + 1) y0 y1 y2 y3)) ∧ (∀ y0 y1 y2, LeO (headlandref08_Next.j5 k y0 y1 y2) (headlandref08_Next.j5 (k + 1) y0 y1 y2)) ∧ (∀ y0 y1 y2, LeO (headlandref08_Next.j6 k y0 y1 y2) (headlandref08_Next.j6 (k + 1) y0 y1 y2)) ∧ (∀ y0 y1 y2, LeO (headlandref08_Next.j7 k y0 y1 y2) (headlandref08_Next.j7 (k + 1) y0 y1 y2)) ∧ (∀ y0 y1, LeO (headlandref08_Next.j8 k y0 y1) (headlandref08_Next.j8 (k + 1) y0 y1))
  | 0 => ⟨fun _ _ _ _ r h => by simp [headlandref08_Next.j0] at h, fun _ _ _ _ r h => by simp [headlandref08_Next.j1] at h, fun _ _ _ _ r h => by simp [headlandref08_Next.j2] at h, fun _ _ _ _ r h => by simp [headlandref08_Next.j3] at h, fun _ _ _ _ r h => by simp [headlandref08_Next.j4] at h, fun _ _ _ r h => by simp [headlandref08_Next.j5] at h, fun _ _ _ r h => by simp [headlandref08_Next.j6] at h, fun _ _ _ r h => by simp [headlandref08_Next.j7] at h, fun _ _ r h => by simp [headlandref08_Next.j8] at h⟩
  | k + 1 => by
    obtain ⟨ih0, ih1, ih2, ih3, ih4, ih5, ih6, ih7, ih8⟩ := headlandref08_Next.mono_l k
    refine ⟨?_, ?_, ?_, ?_, ?_, ?_, ?_, ?_, ?_⟩
    · intro y0 y1 y2 y3
      unfold headlandref08_Next.j0
      repeat' first
      | (with_reducible exact ih0 _ _ _ _)
      | (with_reducible exact ih1 _ _ _ _)
      | (with_reducible exact ih2 _ _ _ _)
      | (with_reducible exact ih3 _ _ _ _)
      | (with_reducible exact ih4 _ _ _ _)
      | (with_reducible exact ih5 _ _ _)
      | (with_reducible exact ih6 _ _ _)
      | (with_reducible exact ih7 _ _ _)
      | (with_reducible exact ih8 _ _)
      | (with_reducible exact LeO.refl _)
      | (with_reducible exact LeO.none _)
      | (with_reducible refine LeO.ite ?_ ?_)
      | (with_reducible refine LeO.bind ?_ (fun _ => ?_))
      | exact ih0 _ _ _ _
      | exact ih1 _ _ _ _
      | exact ih2 _ _ _ _
      | exact ih3 _ _ _ _
      | exact ih4 _ _ _ _
      | exact ih5 _ _ _
      | exact ih6 _ _ _
      | exact ih7 _ _ _
      | exact ih8 _ _
      | exact LeO.none _
      | refine LeO.ite ?_ ?_
      | refine LeO.bind ?_ (fun _ => ?_)
    · intro y0 y1 y2 y3
      unfold headlandref08_Next.j1
      repeat' first
      | (with_reducible exact ih0 _ _ _ _)
      | (with_reducible exact ih1 _ _ _ _)
      | (with_reducible exact ih2 _ _ _ _)
      | (with_reducible exact ih3 _ _ _ _)
      | (with_reducible exact ih4 _ _ _ _)
      | (with_reducible exact ih5 _ _ _)
      | (with_reducible exact ih6 _ _ _)
      | (with_reducible exact ih7 _ _ _)
      | (with_reducible exact ih8 _ _)
      | (with_reducible exact LeO.refl _)
      | (with_reducible exact LeO.none _)
      | (with_reducible refine LeO.ite ?_ ?_)
      | (with_reducible refine LeO.bind ?_ (fun _ => ?_))
      | exact ih0 _ _ _ _
      | exact ih1 _ _ _ _
      | exact ih2 _ _ _ _
      | exact ih3 _ _ _ _
      | exact ih4 _ _ _ _
      | exact ih5 _ _ _
      | exact ih6 _ _ _
      | exact ih7 _ _ _
      | exact ih8 _ _
      | exact LeO.none _
      | refine LeO.ite ?_ ?_
      | refine LeO.bind ?_ (fun _ => ?_)
    · intro y0 y1 y2 y3
      unfold headlandref08_Next.j2
      repeat' first
      | (with_reducible exact ih0 _ _ _ _)
      | (with_reducible exact ih1 _ _ _ _)
      | (with_reducible exact ih2 _ _ _ _)
      | (with_reducible exact ih3 _ _ _ _)
      | (with_reducible exact ih4 _ _ _ _)
      | (with_reducible exact ih5 _ _ _)
      | (with_reducible exact ih6 _ _ _)
      | (with_reducible exact ih7 _ _ _)
      | (with_reducible exact ih8 _ _)
      | (with_reducible exact LeO.refl _)
      | (with_reducible exact LeO.none _)
      | (with_reducible refine LeO.ite ?_ ?_)
      | (with_reducible refine LeO.bind ?_ (fun _ => ?_))
      | exact ih0 _ _ _ _
      | exact ih1 _ _ _ _
      | exact ih2 _ _ _ _
      | exact ih3 _ _ _ _
      | exact ih4 _ _ _ _
      | exact ih5 _ _ _
      | exact ih6 _ _ _
      | exact ih7 _ _ _
      | exact ih8 _ _
      | exact LeO.none _
      | refine LeO.ite ?_ ?_
      | refine LeO.bind ?_ (fun _ => ?_)
    · intro y0 y1 y2 y3
      unfold headlandref08_Next.j3
      repeat' first
      | (with_reducible exact ih0 _ _ _ _)
      | (with_reducible exact ih1 _ _ _ _)
      | (with_reducible exact ih2 _ _ _ _)
      | (with_reducible exact ih3 _ _ _ _)
      | (with_reducible exact ih4 _ _ _ _)
      | (with_reducible exact ih5 _ _ _)
      | (with_reducible exact ih6 _ _ _)
      | (with_reducible exact ih7 _ _ _)
      | (with_reducible exact ih8 _ _)
      | (with_reducible exact LeO.refl _)
      | (with_reducible exact LeO.none _)
      | (with_reducible refine LeO.ite ?_ ?_)
      | (with_reducible refine LeO.bind ?_ (fun _ => ?_))
      | exact ih0 _ _ _ _
      | exact ih1 _ _ _ _
      | exact ih2 _ _ _ _
      | exact ih3 _ _ _ _
      | exact ih4 _ _ _ _
      | exact ih5 _ _ _
      | exact ih6 _ _ _
      | exact ih7 _ _ _
      | exact ih8 _ _
      | exact LeO.none _
      | refine LeO.ite ?_ ?_
      | refine LeO.bind ?_ (fun _ => ?_)
    · intro y0 y1 y2 y3
      unfold headlandref08_Next.j4
      repeat' first
      | (with_reducible exact ih0 _ _ _ _)
      | (with_reducible exact ih1 _ _ _ _)
      | (with_reducible exact ih2 _ _ _ _)
      | (with_reducible exact ih3 _ _ _ _)
      | (with_reducible exact ih4 _ _ _ _)
      | (with_reducible exact ih5 _ _ _)
      | (with_reducible exact ih6 _ _ _)
      | (with_reducible exact ih7 _ _ _)
      | (with_reducible exact ih8 _ _)
      | (with_reducible exact LeO.refl _)
      | (with_reducible exact LeO.none _)
      | (with_reducible refine LeO.ite ?_ ?_)
      | (with_reducible refine LeO.bind ?_ (fun _ => ?_))
      | exact ih0 _ _ _ _
      | exact ih1 _ _ _ _
      | exact ih2 _ _ _ _
      | exact ih3 _ _ _ _
      | exact ih4 _ _ _ _
      | exact ih5 _ _ _
      | exact ih6 _ _ _
      | exact ih7 _ _ _
      | exact ih8 _ _
      | exact LeO.none _
      | refine LeO.ite ?_ ?_
      | refine LeO.bind ?_ (fun _ => ?_)
    · intro y0 y1 y2
      unfold headlandref08_Next.j5
      repeat' first
      | (with_reducible exact ih0 _ _ _ _)
      | (with_reducible exact ih1 _ _ _ _)
      | (with_reducible exact ih2 _ _ _ _)
      | (with_reducible exact ih3 _ _ _ _)
      | (with_reducible exact ih4 _ _ _ _)
      | (with_reducible exact ih5 _ _ _)
      | (with_reducible exact ih6 _ _ _)
      | (with_reducible exact ih7 _ _ _)
      | (with_reducible exact ih8 _ _)
      | (with_reducible exact LeO.refl _)
      | (with_reducible exact LeO.none _)
      | (with_reducible refine LeO.ite ?_ ?_)
      | (with_reducible refine LeO.bind ?_ (fun _ => ?_))
      | exact ih0 _ _ _ _
      | exact ih1 _ _ _ _
      | exact ih2 _ _ _ _
      | exact ih3 _ _ _ _
      | exact ih4 _ _ _ _
      | exact ih5 _ _ _
      | exact ih6 _ _ _
      | exact ih7 _ _ _
      | exact ih8 _ _
      | exact LeO.none _
      | refine LeO.ite ?_ ?_
      | refine LeO.bind ?_ (fun _ => ?_)
    · intro y0 y1 y2
      unfold headlandref08_Next.j6
      repeat' first
      | (with_reducible exact ih0 _ _ _ _)
      | (with_reducible exact ih1 _ _ _ _)
      | (with_reducible exact ih2 _ _ _ _)
      | (with_reducible exact ih3 _ _ _ _)
      | (with_reducible exact ih4 _ _ _ _)
      | (with_reducible exact ih5 _ _ _)
      | (with_reducible exact ih6 _ _ _)
      | (with_reducible exact ih7 _ _ _)
      | (with_reducible exact ih8 _ _)
      | (with_reducible exact LeO.refl _)
      | (with_reducible exact LeO.none _)
      | (with_reducible refine LeO.ite ?_ ?_)
      | (with_reducible refine LeO.bind ?_ (fun _ => ?_))
      | exact ih0 _ _ _ _
      | exact ih1 _ _ _ _
      | exact ih2 _ _ _ _
      | exact ih3 _ _ _ _
      | exact ih4 _ _ _ _
      | exact ih5 _ _ _
      | exact ih6 _ _ _
      | exact ih7 _ _ _
      | exact ih8 _ _
      | exact LeO.none _
      | refine LeO.ite ?_ ?_
      | refine LeO.bind ?_ (fun _ => ?_)
    · intro y0 y1 y2
      unfold headlandref08_Next.j7
      repeat' first
      | (with_reducible exact ih0 _ _ _ _)
      | (with_reducible exact ih1 _ _ _ _)
      | (with_reducible exact ih2 _ _ _ _)
      | (with_reducible exact ih3 _ _ _ _)
      | (with_reducible exact ih4 _ _ _ _)
      | (with_reducible exact ih5 _ _ _)
      | (with_reducible exact ih6 _ _ _)
      | (with_reducible exact ih7 _ _ _)
      | (with_reducible exact ih8 _ _)
      | (with_reducible exact LeO.refl _)
      | (with_reducible exact LeO.none _)
      | (with_reducible refine LeO.ite ?_ ?_)
      | (with_reducible refine LeO.bind ?_ (fun _ => ?_))
      | exact ih0 _ _ _ _
      | exact ih1 _ _ _ _
      | exact ih2 _ _ _ _
      | exact ih3 _ _ _ _
      | exact ih4 _ _ _ _
      | exact ih5 _ _ _
      | exact ih6 _ _ _
      | exact ih7 _ _ _
      | exact ih8 _ _
      | exact LeO.none _
      | refine LeO.ite ?_ ?_
      | refine LeO.bind ?_ (fun _ => ?_)
    · intro y0 y1
      unfold headlandref08_Next.j8
      repeat' first
      | (with_reducible exact ih0 _ _ _ _)
      | (with_reducible exact ih1 _ _ _ _)
      | (with_reducible exact ih2 _ _ _ _)
      | (with_reducible exact ih3 _ _ _ _)
      | (with_reducible exact ih4 _ _ _ _)
      | (with_reducible exact ih5 _ _ _)
      | (with_reducible exact ih6 _ _ _)
      | (with_reducible exact ih7 _ _ _)
      | (with_reducible exact ih8 _ _)
      | (with_reducible exact LeO.refl _)
      | (with_reducible exact LeO.none _)
      | (with_reducible refine LeO.ite ?_ ?_)
      | (with_reducible refine LeO.bind ?_ (fun _ => ?_))
      | exact ih0 _ _ _ _
      | exact ih1 _ _ _ _
      | exact ih2 _ _ _ _
      | exact ih3 _ _ _ _
      | exact ih4 _ _ _ _
      | exact ih5 _ _ _
      | exact ih6 _ _ _
      | exact ih7 _ _ _
      | exact ih8 _ _
      | exact LeO.none _
      | refine LeO.ite ?_ ?_
      | refine LeO.bind ?_ (fun _ => ?_)
theorem headlandref08_Next.mono : ∀ a0 a1 a2 k, LeO (headlandref08_Next.f k a0 a1 a2) (headlandref08_Next.f (k + 1) a0 a1 a2) := by
  intro a0 a1 a2 k
  obtain ⟨ih0, ih1, ih2, ih3, ih4, ih5, ih6, ih7, ih8⟩ := headlandref08_Next.mono_l k
  unfold headlandref08_Next.f
  repeat' first
      | (with_reducible exact ih0 _ _ _ _)
      | (with_reducible exact ih1 _ _ _ _)
      | (with_reducible exact ih2 _ _ _ _)
      | (with_reducible exact ih3 _ _ _ _)
      | (with_reducible exact ih4 _ _ _ _)
      | (with_reducible exact ih5 _ _ _)
      | (with_reducible exact ih6 _ _ _)
      | (with_reducible exact ih7 _ _ _)
      | (with_reducible exact ih8 _ _)
      | (with_reducible exact LeO.refl _)
      | (with_reducible exact LeO.none _)
      | (with_reducible refine LeO.ite ?_ ?_)
      | (with_reducible refine LeO.bind ?_ (fun _ => ?_))
      | exact ih0 _ _ _ _
      | exact ih1 _ _ _ _
      | exact ih2 _ _ _ _
      | exact ih3 _ _ _ _
      | exact ih4 _ _ _ _
      | exact ih5 _ _ _
      | exact ih6 _ _ _
      | exact ih7 _ _ _
      | exact ih8 _ _
      | exact LeO.none _
      | refine LeO.ite ?_ ?_
      | refine LeO.bind ?_ (fun _ => ?_)
set_option maxHeartbeats 8000000 in
set_option maxRecDepth 100000 in
theorem headlandref08_Next.calls (k : Nat) (a0 : Int) (a1 : Int) (a2 : Int) (r1 : Int) (r2 : Int) (w : World) (h : headlandref08_Next.f k a0 a1 a2 = some (r1, r2)) :
    Calls Try.prog 18 #[.int .i64 a0, .int .i64 a1, .int .i64 a2] w fun e w' => e = .returned (.tuple #[.int .i64 r1, .int .i64 r2]) ∧ Drawn0 w w' := by
  have H : (if a0 < 0 then (headlandref08_Next.j0 k a0 a1 a2 true) else (headlandref08_Next.j0 k a0 a1 a2 (decide (a0 > 3)))) = some (r1, r2) := h
  clear h
  have HC4 := Aside0.mk H
  clear H
  go_enter Try.func18, Try.ntmps18
  go_upto_region 1 with (fail)
  go_cut [8] (fun v8 wc => ∃ (kq : Nat) (x8_3 : Bool), v8 = .bool x8_3 ∧ Aside0 (headlandref08_Next.j0 kq a0 a1 a2 x8_3 = some (r1, r2)) ∧ Aside0 (kq ≤ k) ∧ Drawn0 w wc)
  case first =>
    have H := HC4.out
    clear HC4
    by_cases c5 : a0 < 0
    · rw [if_pos c5] at H
      have c5b0 : decide (a0 < 0) = true := decide_eq_true c5
      clear c5
      (first | rw [c5b0] | (simp only [i64_w, i32_w]; rw [c5b0]) | skip)
      have H' := Aside0.mk H
      clear H
      go_wp2
      go_meet
      case rel => exact ⟨_, (true), (by first | rfl | (simp; done) | (simp [*]; done)), H', ⟨by first | omega | exact Nat.le_refl _⟩, by repeat (first | exact Drawn0.refl _ | apply Drawn0.step)⟩
    · rw [if_neg c5] at H
      have c5b0 : decide (a0 < 0) = false := decide_eq_false c5
      clear c5
      (first | rw [c5b0] | (simp only [i64_w, i32_w]; rw [c5b0]) | skip)
      have H' := Aside0.mk H
      clear H
      go_wp2
      go_meet
      case rel => exact ⟨_, (decide (a0 > 3)), (by first | rfl | (simp; done) | (simp [*]; done)), H', ⟨by first | omega | exact Nat.le_refl _⟩, by repeat (first | exact Drawn0.refl _ | apply Drawn0.step)⟩
  case rest =>
    clear HC4
    try clear c1
    try clear p2
    try clear c5
    try clear c5b0
    obtain ⟨kq, x8_3, rfl, HA, HJ3, ⟨mc3, rfl⟩⟩ := hcut
    cases kq with
    | zero => exact absurd HA.out (by simp [headlandref08_Next.j0])
    | succ kj3 =>
      have H := HA.out
      clear HA
      simp only [headlandref08_Next.j0] at H
      by_cases c6 : x8_3 = true
      · subst c6
        have H1 : (some (0, 1)) = some (r1, r2) := by rw [if_pos rfl] at H; exact H
        clear H
        have H := H1
        clear H1
        simp only [Option.some.injEq, Prod.mk.injEq] at H
        obtain ⟨rfl, rfl⟩ := H
        go_wp2
        go_ret2
        exact ⟨by first | rfl | (simp; done) | (simp [*]; done), by repeat (first | exact Drawn0.refl _ | apply Drawn0.step)⟩
      · replace c6 := Bool.eq_false_iff.mpr c6
        subst c6
        have H1 : (if a1 = 1 then (headlandref08_Next.j1 kj3 a0 a1 a2 (a0 == 0)) else (headlandref08_Next.j1 kj3 a0 a1 a2 false)) = some (r1, r2) := by rw [if_neg (show ¬ (false = true) by decide)] at H; exact H
        clear H
        have H := H1
        clear H1
        have HC7 := Aside0.mk H
        clear H
        go_upto_region 3 with (fail)
        go_cut [15] (fun v15 wc => ∃ (kq : Nat) (x15_6 : Bool), v15 = .bool x15_6 ∧ Aside0 (headlandref08_Next.j1 kq a0 a1 a2 x15_6 = some (r1, r2)) ∧ Aside0 (kq ≤ kj3) ∧ Drawn0 w wc)
        case first =>
          have H := HC7.out
          clear HC7
          by_cases c8 : a1 = 1
          · rw [if_pos c8] at H
            have c8b0 : (a1 == 1) = true := beq_iff_eq.mpr c8
            have c8b1 : (a1 != 1) = false := bne_eq_false_iff_eq.mpr c8
            clear c8
            (first | rw [c8b0] | (simp only [i64_w, i32_w]; rw [c8b0]) | skip)
            have H' := Aside0.mk H
            clear H
            go_wp2
            go_meet
            case rel => exact ⟨_, ((a0 == 0)), (by first | rfl | (simp; done) | (simp [*]; done)), H', ⟨by have := HJ3.out; first | omega | exact Nat.le_refl _⟩, by repeat (first | exact Drawn0.refl _ | apply Drawn0.step)⟩
          · rw [if_neg c8] at H
            have c8b0 : (a1 == 1) = false := beq_eq_false_iff_ne.mpr c8
            have c8b1 : (a1 != 1) = true := bne_iff_ne.mpr c8
            (first | rw [c8b0] | (simp only [i64_w, i32_w]; rw [c8b0]) | skip)
            have H' := Aside0.mk H
            clear H
            go_wp2
            go_meet
            case rel => exact ⟨_, (false), (by first | rfl | (simp; done) | (simp [*]; done)), H', ⟨by have := HJ3.out; first | omega | exact Nat.le_refl _⟩, by repeat (first | exact Drawn0.refl _ | apply Drawn0.step)⟩
        case rest =>
          clear HC7
          try clear c1
          try clear p2
          try clear c3
          try clear c5
          try clear c5b0
          try clear c6
          try clear c8
          try clear c8b0
          try clear c8b1
          try clear p2
          obtain ⟨kq, x15_6, rfl, HA, HJ6, ⟨mc6, rfl⟩⟩ := hcut
          cases kq with
          | zero => exact absurd HA.out (by simp [headlandref08_Next.j1])
          | succ kj6 =>
            have H := HA.out
            clear HA
            simp only [headlandref08_Next.j1] at H
            by_cases c9 : x15_6 = true
            · subst c9
              have H1 : (some (1, 0)) = some (r1, r2) := by rw [if_pos rfl] at H; exact H
              clear H
              have H := H1
              clear H1
              simp only [Option.some.injEq, Prod.mk.injEq] at H
              obtain ⟨rfl, rfl⟩ := H
              go_wp2
              go_ret2
              exact ⟨by first | rfl | (simp; done) | (simp [*]; done), by repeat (first | exact Drawn0.refl _ | apply Drawn0.step)⟩
            · replace c9 := Bool.eq_false_iff.mpr c9
              subst c9
              have H1 : (if a1 = 1 then (some (0, 3)) else (if a1 = 2 then (if a2 = 2 then (headlandref08_Next.j2 kj6 a0 a1 a2 false) else (headlandref08_Next.j2 kj6 a0 a1 a2 (a2 != 3))) else (headlandref08_Next.j2 kj6 a0 a1 a2 false))) = some (r1, r2) := by rw [if_neg (show ¬ (false = true) by decide)] at H; exact H
              clear H
              have H := H1
              clear H1
              by_cases c10 : a1 = 1
              · rw [if_pos c10] at H
                have c10b0 : (a1 == 1) = true := beq_iff_eq.mpr c10
                have c10b1 : (a1 != 1) = false := bne_eq_false_iff_eq.mpr c10
                clear c10
                simp only [Option.some.injEq, Prod.mk.injEq] at H
                obtain ⟨rfl, rfl⟩ := H
                go_wp2
                go_ret2
                exact ⟨by first | rfl | (simp; done) | (simp [*]; done), by repeat (first | exact Drawn0.refl _ | apply Drawn0.step)⟩
              · rw [if_neg c10] at H
                have c10b0 : (a1 == 1) = false := beq_eq_false_iff_ne.mpr c10
                have c10b1 : (a1 != 1) = true := bne_iff_ne.mpr c10
                have HC11 := Aside0.mk H
                clear H
                go_upto_region 7 with (fail)
                go_cut [25] (fun v25 wc => ∃ (kq : Nat) (x25_10 : Bool), v25 = .bool x25_10 ∧ Aside0 (headlandref08_Next.j2 kq a0 a1 a2 x25_10 = some (r1, r2)) ∧ Aside0 (kq ≤ kj6) ∧ Drawn0 w wc)
                case first =>
                  have H := HC11.out
                  clear HC11
                  by_cases c12 : a1 = 2
                  · rw [if_pos c12] at H
                    have c12b0 : (a1 == 2) = true := beq_iff_eq.mpr c12
                    have c12b1 : (a1 != 2) = false := bne_eq_false_iff_eq.mpr c12
                    clear c12
                    (first | rw [c12b0] | (simp only [i64_w, i32_w]; rw [c12b0]) | skip)
                    by_cases c13 : a2 = 2
                    · rw [if_pos c13] at H
                      have c13b0 : (a2 == 2) = true := beq_iff_eq.mpr c13
                      have c13b1 : (a2 != 2) = false := bne_eq_false_iff_eq.mpr c13
                      clear c13
                      have H' := Aside0.mk H
                      clear H
                      go_wp2
                      go_meet
                      case rel => exact ⟨_, (false), (by first | rfl | (simp; done) | (simp [*]; done)), H', ⟨by have := HJ3.out; have := HJ6.out; first | omega | exact Nat.le_refl _⟩, by repeat (first | exact Drawn0.refl _ | apply Drawn0.step)⟩
                    · rw [if_neg c13] at H
                      have c13b0 : (a2 == 2) = false := beq_eq_false_iff_ne.mpr c13
                      have c13b1 : (a2 != 2) = true := bne_iff_ne.mpr c13
                      have H' := Aside0.mk H
                      clear H
                      go_wp2
                      go_meet
                      case rel => exact ⟨_, ((a2 != 3)), (by first | rfl | (simp; done) | (simp [*]; done)), H', ⟨by have := HJ3.out; have := HJ6.out; first | omega | exact Nat.le_refl _⟩, by repeat (first | exact Drawn0.refl _ | apply Drawn0.step)⟩
                  · rw [if_neg c12] at H
                    have c12b0 : (a1 == 2) = false := beq_eq_false_iff_ne.mpr c12
                    have c12b1 : (a1 != 2) = true := bne_iff_ne.mpr c12
                    (first | rw [c12b0] | (simp only [i64_w, i32_w]; rw [c12b0]) | skip)
                    have H' := Aside0.mk H
                    clear H
                    go_wp2
                    go_meet
                    case rel => exact ⟨_, (false), (by first | rfl | (simp; done) | (simp [*]; done)), H', ⟨by have := HJ3.out; have := HJ6.out; first | omega | exact Nat.le_refl _⟩, by repeat (first | exact Drawn0.refl _ | apply Drawn0.step)⟩
                case rest =>
                  clear HC11
                  try clear c1
                  try clear p2
                  try clear c3
                  try clear c5
                  try clear c5b0
                  try clear c6
                  try clear c8
                  try clear c8b0
                  try clear c8b1
                  try clear c9
                  try clear c10
                  try clear c10b0
                  try clear c10b1
                  try clear c12
                  try clear c12b0
                  try clear c12b1
                  try clear c13
                  try clear c13b0
                  try clear c13b1
                  try clear p2
                  obtain ⟨kq, x25_10, rfl, HA, HJ10, ⟨mc10, rfl⟩⟩ := hcut
                  cases kq with
                  | zero => exact absurd HA.out (by simp [headlandref08_Next.j2])
                  | succ kj10 =>
                    have H := HA.out
                    clear HA
                    simp only [headlandref08_Next.j2] at H
                    by_cases c14 : x25_10 = true
                    · subst c14
                      have H1 : (some (0, 1)) = some (r1, r2) := by rw [if_pos rfl] at H; exact H
                      clear H
                      have H := H1
                      clear H1
                      simp only [Option.some.injEq, Prod.mk.injEq] at H
                      obtain ⟨rfl, rfl⟩ := H
                      go_wp2
                      go_ret2
                      exact ⟨by first | rfl | (simp; done) | (simp [*]; done), by repeat (first | exact Drawn0.refl _ | apply Drawn0.step)⟩
                    · replace c14 := Bool.eq_false_iff.mpr c14
                      subst c14
                      have H1 : (if a1 = 2 then (headlandref08_Next.j3 kj10 a0 a1 a2 (a0 == 0)) else (headlandref08_Next.j3 kj10 a0 a1 a2 false)) = some (r1, r2) := by rw [if_neg (show ¬ (false = true) by decide)] at H; exact H
                      clear H
                      have H := H1
                      clear H1
                      have HC15 := Aside0.mk H
                      clear H
                      go_upto_region 9 with (fail)
                      go_cut [36] (fun v36 wc => ∃ (kq : Nat) (x36_14 : Bool), v36 = .bool x36_14 ∧ Aside0 (headlandref08_Next.j3 kq a0 a1 a2 x36_14 = some (r1, r2)) ∧ Aside0 (kq ≤ kj10) ∧ Drawn0 w wc)
                      case first =>
                        have H := HC15.out
                        clear HC15
                        by_cases c16 : a1 = 2
                        · rw [if_pos c16] at H
                          have c16b0 : (a1 == 2) = true := beq_iff_eq.mpr c16
                          have c16b1 : (a1 != 2) = false := bne_eq_false_iff_eq.mpr c16
                          clear c16
                          (first | rw [c16b0] | (simp only [i64_w, i32_w]; rw [c16b0]) | skip)
                          have H' := Aside0.mk H
                          clear H
                          go_wp2
                          go_meet
                          case rel => exact ⟨_, ((a0 == 0)), (by first | rfl | (simp; done) | (simp [*]; done)), H', ⟨by have := HJ3.out; have := HJ6.out; have := HJ10.out; first | omega | exact Nat.le_refl _⟩, by repeat (first | exact Drawn0.refl _ | apply Drawn0.step)⟩
                        · rw [if_neg c16] at H
                          have c16b0 : (a1 == 2) = false := beq_eq_false_iff_ne.mpr c16
                          have c16b1 : (a1 != 2) = true := bne_iff_ne.mpr c16
                          (first | rw [c16b0] | (simp only [i64_w, i32_w]; rw [c16b0]) | skip)
                          have H' := Aside0.mk H
                          clear H
                          go_wp2
                          go_meet
                          case rel => exact ⟨_, (false), (by first | rfl | (simp; done) | (simp [*]; done)), H', ⟨by have := HJ3.out; have := HJ6.out; have := HJ10.out; first | omega | exact Nat.le_refl _⟩, by repeat (first | exact Drawn0.refl _ | apply Drawn0.step)⟩
                      case rest =>
                        clear HC15
                        try clear c1
                        try clear p2
                        try clear c3
                        try clear c5
                        try clear c5b0
                        try clear c6
                        try clear c8
                        try clear c8b0
                        try clear c8b1
                        try clear c9
                        try clear c10
                        try clear c10b0
                        try clear c10b1
                        try clear c12
                        try clear c12b0
                        try clear c12b1
                        try clear c13
                        try clear c13b0
                        try clear c13b1
                        try clear c14
                        try clear c16
                        try clear c16b0
                        try clear c16b1
                        try clear p2
                        obtain ⟨kq, x36_14, rfl, HA, HJ14, ⟨mc14, rfl⟩⟩ := hcut
                        cases kq with
                        | zero => exact absurd HA.out (by simp [headlandref08_Next.j3])
                        | succ kj14 =>
                          have H := HA.out
                          clear HA
                          simp only [headlandref08_Next.j3] at H
                          by_cases c17 : x36_14 = true
                          · subst c17
                            have H1 : (some (0, 2)) = some (r1, r2) := by rw [if_pos rfl] at H; exact H
                            clear H
                            have H := H1
                            clear H1
                            simp only [Option.some.injEq, Prod.mk.injEq] at H
                            obtain ⟨rfl, rfl⟩ := H
                            go_wp2
                            go_ret2
                            exact ⟨by first | rfl | (simp; done) | (simp [*]; done), by repeat (first | exact Drawn0.refl _ | apply Drawn0.step)⟩
                          · replace c17 := Bool.eq_false_iff.mpr c17
                            subst c17
                            have H1 : (if a1 = 2 then (headlandref08_Next.j4 kj14 a0 a1 a2 (a0 == 1)) else (headlandref08_Next.j4 kj14 a0 a1 a2 false)) = some (r1, r2) := by rw [if_neg (show ¬ (false = true) by decide)] at H; exact H
                            clear H
                            have H := H1
                            clear H1
                            have HC18 := Aside0.mk H
                            clear H
                            go_upto_region 11 with (fail)
                            go_cut [43] (fun v43 wc => ∃ (kq : Nat) (x43_17 : Bool), v43 = .bool x43_17 ∧ Aside0 (headlandref08_Next.j4 kq a0 a1 a2 x43_17 = some (r1, r2)) ∧ Aside0 (kq ≤ kj14) ∧ Drawn0 w wc)
                            case first =>
                              have H := HC18.out
                              clear HC18
                              by_cases c19 : a1 = 2
                              · rw [if_pos c19] at H
                                have c19b0 : (a1 == 2) = true := beq_iff_eq.mpr c19
                                have c19b1 : (a1 != 2) = false := bne_eq_false_iff_eq.mpr c19
                                clear c19
                                (first | rw [c19b0] | (simp only [i64_w, i32_w]; rw [c19b0]) | skip)
                                have H' := Aside0.mk H
                                clear H
                                go_wp2
                                go_meet
                                case rel => exact ⟨_, ((a0 == 1)), (by first | rfl | (simp; done) | (simp [*]; done)), H', ⟨by have := HJ3.out; have := HJ6.out; have := HJ10.out; have := HJ14.out; first | omega | exact Nat.le_refl _⟩, by repeat (first | exact Drawn0.refl _ | apply Drawn0.step)⟩
                              · rw [if_neg c19] at H
                                have c19b0 : (a1 == 2) = false := beq_eq_false_iff_ne.mpr c19
                                have c19b1 : (a1 != 2) = true := bne_iff_ne.mpr c19
                                (first | rw [c19b0] | (simp only [i64_w, i32_w]; rw [c19b0]) | skip)
                                have H' := Aside0.mk H
                                clear H
                                go_wp2
                                go_meet
                                case rel => exact ⟨_, (false), (by first | rfl | (simp; done) | (simp [*]; done)), H', ⟨by have := HJ3.out; have := HJ6.out; have := HJ10.out; have := HJ14.out; first | omega | exact Nat.le_refl _⟩, by repeat (first | exact Drawn0.refl _ | apply Drawn0.step)⟩
                            case rest =>
                              clear HC18
                              try clear c1
                              try clear p2
                              try clear c3
                              try clear c5
                              try clear c5b0
                              try clear c6
                              try clear c8
                              try clear c8b0
                              try clear c8b1
                              try clear c9
                              try clear c10
                              try clear c10b0
                              try clear c10b1
                              try clear c12
                              try clear c12b0
                              try clear c12b1
                              try clear c13
                              try clear c13b0
                              try clear c13b1
                              try clear c14
                              try clear c16
                              try clear c16b0
                              try clear c16b1
                              try clear c17
                              try clear c18
                              try clear c19
                              try clear c19b0
                              try clear c19b1
                              try clear p2
                              obtain ⟨kq, x43_17, rfl, HA, HJ17, ⟨mc17, rfl⟩⟩ := hcut
                              cases kq with
                              | zero => exact absurd HA.out (by simp [headlandref08_Next.j4])
                              | succ kj17 =>
                                have H := HA.out
                                clear HA
                                simp only [headlandref08_Next.j4] at H
                                by_cases c20 : x43_17 = true
                                · subst c20
                                  have H1 : (some (a2, 0)) = some (r1, r2) := by rw [if_pos rfl] at H; exact H
                                  clear H
                                  have H := H1
                                  clear H1
                                  simp only [Option.some.injEq, Prod.mk.injEq] at H
                                  obtain ⟨rfl, rfl⟩ := H
                                  go_wp2
                                  go_ret2
                                  exact ⟨by first | rfl | (simp; done) | (simp [*]; done), by repeat (first | exact Drawn0.refl _ | apply Drawn0.step)⟩
                                · replace c20 := Bool.eq_false_iff.mpr c20
                                  subst c20
                                  have H1 : (if a1 = 2 then (some (0, 3)) else (if a1 = 3 then (headlandref08_Next.j5 kj17 a0 a1 (decide (a0 < 2))) else (headlandref08_Next.j5 kj17 a0 a1 false))) = some (r1, r2) := by rw [if_neg (show ¬ (false = true) by decide)] at H; exact H
                                  clear H
                                  have H := H1
                                  clear H1
                                  by_cases c21 : a1 = 2
                                  · rw [if_pos c21] at H
                                    have c21b0 : (a1 == 2) = true := beq_iff_eq.mpr c21
                                    have c21b1 : (a1 != 2) = false := bne_eq_false_iff_eq.mpr c21
                                    clear c21
                                    simp only [Option.some.injEq, Prod.mk.injEq] at H
                                    obtain ⟨rfl, rfl⟩ := H
                                    go_wp2
                                    go_ret2
                                    exact ⟨by first | rfl | (simp; done) | (simp [*]; done), by repeat (first | exact Drawn0.refl _ | apply Drawn0.step)⟩
                                  · rw [if_neg c21] at H
                                    have c21b0 : (a1 == 2) = false := beq_eq_false_iff_ne.mpr c21
                                    have c21b1 : (a1 != 2) = true := bne_iff_ne.mpr c21
                                    have HC22 := Aside0.mk H
                                    clear H
                                    go_upto_region 15 with (fail)
                                    go_cut [54] (fun v54 wc => ∃ (kq : Nat) (x54_21 : Bool), v54 = .bool x54_21 ∧ Aside0 (headlandref08_Next.j5 kq a0 a1 x54_21 = some (r1, r2)) ∧ Aside0 (kq ≤ kj17) ∧ Drawn0 w wc)
                                    case first =>
                                      have H := HC22.out
                                      clear HC22
                                      by_cases c23 : a1 = 3
                                      · rw [if_pos c23] at H
                                        have c23b0 : (a1 == 3) = true := beq_iff_eq.mpr c23
                                        have c23b1 : (a1 != 3) = false := bne_eq_false_iff_eq.mpr c23
                                        clear c23
                                        (first | rw [c23b0] | (simp only [i64_w, i32_w]; rw [c23b0]) | skip)
                                        have H' := Aside0.mk H
                                        clear H
                                        go_wp2
                                        go_meet
                                        case rel => exact ⟨_, (decide (a0 < 2)), (by first | rfl | (simp; done) | (simp [*]; done)), H', ⟨by have := HJ3.out; have := HJ6.out; have := HJ10.out; have := HJ14.out; have := HJ17.out; first | omega | exact Nat.le_refl _⟩, by repeat (first | exact Drawn0.refl _ | apply Drawn0.step)⟩
                                      · rw [if_neg c23] at H
                                        have c23b0 : (a1 == 3) = false := beq_eq_false_iff_ne.mpr c23
                                        have c23b1 : (a1 != 3) = true := bne_iff_ne.mpr c23
                                        (first | rw [c23b0] | (simp only [i64_w, i32_w]; rw [c23b0]) | skip)
                                        have H' := Aside0.mk H
                                        clear H
                                        go_wp2
                                        go_meet
                                        case rel => exact ⟨_, (false), (by first | rfl | (simp; done) | (simp [*]; done)), H', ⟨by have := HJ3.out; have := HJ6.out; have := HJ10.out; have := HJ14.out; have := HJ17.out; first | omega | exact Nat.le_refl _⟩, by repeat (first | exact Drawn0.refl _ | apply Drawn0.step)⟩
                                    case rest =>
                                      clear HC22
                                      try clear c1
                                      try clear c2
                                      try clear p2
                                      try clear c3
                                      try clear c5
                                      try clear c5b0
                                      try clear c6
                                      try clear c8
                                      try clear c8b0
                                      try clear c8b1
                                      try clear c9
                                      try clear c10
                                      try clear c10b0
                                      try clear c10b1
                                      try clear c12
                                      try clear c12b0
                                      try clear c12b1
                                      try clear c13
                                      try clear c13b0
                                      try clear c13b1
                                      try clear c14
                                      try clear c16
                                      try clear c16b0
                                      try clear c16b1
                                      try clear c17
                                      try clear c18
                                      try clear c19
                                      try clear c19b0
                                      try clear c19b1
                                      try clear c20
                                      try clear c21
                                      try clear c21b0
                                      try clear c21b1
                                      try clear c23
                                      try clear c23b0
                                      try clear c23b1
                                      try clear p2
                                      obtain ⟨kq, x54_21, rfl, HA, HJ21, ⟨mc21, rfl⟩⟩ := hcut
                                      cases kq with
                                      | zero => exact absurd HA.out (by simp [headlandref08_Next.j5])
                                      | succ kj21 =>
                                        have H := HA.out
                                        clear HA
                                        simp only [headlandref08_Next.j5] at H
                                        by_cases c24 : x54_21 = true
                                        · subst c24
                                          have H1 : (some (0, 2)) = some (r1, r2) := by rw [if_pos rfl] at H; exact H
                                          clear H
                                          have H := H1
                                          clear H1
                                          simp only [Option.some.injEq, Prod.mk.injEq] at H
                                          obtain ⟨rfl, rfl⟩ := H
                                          go_wp2
                                          go_ret2
                                          exact ⟨by first | rfl | (simp; done) | (simp [*]; done), by repeat (first | exact Drawn0.refl _ | apply Drawn0.step)⟩
                                        · replace c24 := Bool.eq_false_iff.mpr c24
                                          subst c24
                                          have H1 : (if a1 = 3 then (headlandref08_Next.j6 kj21 a0 a1 (a0 == 2)) else (headlandref08_Next.j6 kj21 a0 a1 false)) = some (r1, r2) := by rw [if_neg (show ¬ (false = true) by decide)] at H; exact H
                                          clear H
                                          have H := H1
                                          clear H1
                                          have HC25 := Aside0.mk H
                                          clear H
                                          go_upto_region 17 with (fail)
                                          go_cut [61] (fun v61 wc => ∃ (kq : Nat) (x61_24 : Bool), v61 = .bool x61_24 ∧ Aside0 (headlandref08_Next.j6 kq a0 a1 x61_24 = some (r1, r2)) ∧ Aside0 (kq ≤ kj21) ∧ Drawn0 w wc)
                                          case first =>
                                            have H := HC25.out
                                            clear HC25
                                            by_cases c26 : a1 = 3
                                            · rw [if_pos c26] at H
                                              have c26b0 : (a1 == 3) = true := beq_iff_eq.mpr c26
                                              have c26b1 : (a1 != 3) = false := bne_eq_false_iff_eq.mpr c26
                                              clear c26
                                              (first | rw [c26b0] | (simp only [i64_w, i32_w]; rw [c26b0]) | skip)
                                              have H' := Aside0.mk H
                                              clear H
                                              go_wp2
                                              go_meet
                                              case rel => exact ⟨_, ((a0 == 2)), (by first | rfl | (simp; done) | (simp [*]; done)), H', ⟨by have := HJ3.out; have := HJ6.out; have := HJ10.out; have := HJ14.out; have := HJ17.out; have := HJ21.out; first | omega | exact Nat.le_refl _⟩, by repeat (first | exact Drawn0.refl _ | apply Drawn0.step)⟩
                                            · rw [if_neg c26] at H
                                              have c26b0 : (a1 == 3) = false := beq_eq_false_iff_ne.mpr c26
                                              have c26b1 : (a1 != 3) = true := bne_iff_ne.mpr c26
                                              (first | rw [c26b0] | (simp only [i64_w, i32_w]; rw [c26b0]) | skip)
                                              have H' := Aside0.mk H
                                              clear H
                                              go_wp2
                                              go_meet
                                              case rel => exact ⟨_, (false), (by first | rfl | (simp; done) | (simp [*]; done)), H', ⟨by have := HJ3.out; have := HJ6.out; have := HJ10.out; have := HJ14.out; have := HJ17.out; have := HJ21.out; first | omega | exact Nat.le_refl _⟩, by repeat (first | exact Drawn0.refl _ | apply Drawn0.step)⟩
                                          case rest =>
                                            clear HC25
                                            try clear c1
                                            try clear c2
                                            try clear p2
                                            try clear c3
                                            try clear c5
                                            try clear c5b0
                                            try clear c6
                                            try clear c8
                                            try clear c8b0
                                            try clear c8b1
                                            try clear c9
                                            try clear c10
                                            try clear c10b0
                                            try clear c10b1
                                            try clear c12
                                            try clear c12b0
                                            try clear c12b1
                                            try clear c13
                                            try clear c13b0
                                            try clear c13b1
                                            try clear c14
                                            try clear c16
                                            try clear c16b0
                                            try clear c16b1
                                            try clear c17
                                            try clear c18
                                            try clear c19
                                            try clear c19b0
                                            try clear c19b1
                                            try clear c20
                                            try clear c21
                                            try clear c21b0
                                            try clear c21b1
                                            try clear c23
                                            try clear c23b0
                                            try clear c23b1
                                            try clear c24
                                            try clear c26
                                            try clear c26b0
                                            try clear c26b1
                                            try clear p2
                                            obtain ⟨kq, x61_24, rfl, HA, HJ24, ⟨mc24, rfl⟩⟩ := hcut
                                            cases kq with
                                            | zero => exact absurd HA.out (by simp [headlandref08_Next.j6])
                                            | succ kj24 =>
                                              have H := HA.out
                                              clear HA
                                              simp only [headlandref08_Next.j6] at H
                                              by_cases c27 : x61_24 = true
                                              · subst c27
                                                have H1 : (some (0, 5)) = some (r1, r2) := by rw [if_pos rfl] at H; exact H
                                                clear H
                                                have H := H1
                                                clear H1
                                                simp only [Option.some.injEq, Prod.mk.injEq] at H
                                                obtain ⟨rfl, rfl⟩ := H
                                                go_wp2
                                                go_ret2
                                                exact ⟨by first | rfl | (simp; done) | (simp [*]; done), by repeat (first | exact Drawn0.refl _ | apply Drawn0.step)⟩
                                              · replace c27 := Bool.eq_false_iff.mpr c27
                                                subst c27
                                                have H1 : (if a1 = 3 then (some (1, 0)) else (if a1 = 4 then (headlandref08_Next.j7 kj24 a0 a1 (a0 == 0)) else (headlandref08_Next.j7 kj24 a0 a1 false))) = some (r1, r2) := by rw [if_neg (show ¬ (false = true) by decide)] at H; exact H
                                                clear H
                                                have H := H1
                                                clear H1
                                                by_cases c28 : a1 = 3
                                                · rw [if_pos c28] at H
                                                  have c28b0 : (a1 == 3) = true := beq_iff_eq.mpr c28
                                                  have c28b1 : (a1 != 3) = false := bne_eq_false_iff_eq.mpr c28
                                                  clear c28
                                                  simp only [Option.some.injEq, Prod.mk.injEq] at H
                                                  obtain ⟨rfl, rfl⟩ := H
                                                  go_wp2
                                                  go_ret2
                                                  exact ⟨by first | rfl | (simp; done) | (simp [*]; done), by repeat (first | exact Drawn0.refl _ | apply Drawn0.step)⟩
                                                · rw [if_neg c28] at H
                                                  have c28b0 : (a1 == 3) = false := beq_eq_false_iff_ne.mpr c28
                                                  have c28b1 : (a1 != 3) = true := bne_iff_ne.mpr c28
                                                  have HC29 := Aside0.mk H
                                                  clear H
                                                  go_upto_region 21 with (fail)
                                                  go_cut [71] (fun v71 wc => ∃ (kq : Nat) (x71_28 : Bool), v71 = .bool x71_28 ∧ Aside0 (headlandref08_Next.j7 kq a0 a1 x71_28 = some (r1, r2)) ∧ Aside0 (kq ≤ kj24) ∧ Drawn0 w wc)
                                                  case first =>
                                                    have H := HC29.out
                                                    clear HC29
                                                    by_cases c30 : a1 = 4
                                                    · rw [if_pos c30] at H
                                                      have c30b0 : (a1 == 4) = true := beq_iff_eq.mpr c30
                                                      have c30b1 : (a1 != 4) = false := bne_eq_false_iff_eq.mpr c30
                                                      clear c30
                                                      (first | rw [c30b0] | (simp only [i64_w, i32_w]; rw [c30b0]) | skip)
                                                      have H' := Aside0.mk H
                                                      clear H
                                                      go_wp2
                                                      go_meet
                                                      case rel => exact ⟨_, ((a0 == 0)), (by first | rfl | (simp; done) | (simp [*]; done)), H', ⟨by have := HJ3.out; have := HJ6.out; have := HJ10.out; have := HJ14.out; have := HJ17.out; have := HJ21.out; have := HJ24.out; first | omega | exact Nat.le_refl _⟩, by repeat (first | exact Drawn0.refl _ | apply Drawn0.step)⟩
                                                    · rw [if_neg c30] at H
                                                      have c30b0 : (a1 == 4) = false := beq_eq_false_iff_ne.mpr c30
                                                      have c30b1 : (a1 != 4) = true := bne_iff_ne.mpr c30
                                                      (first | rw [c30b0] | (simp only [i64_w, i32_w]; rw [c30b0]) | skip)
                                                      have H' := Aside0.mk H
                                                      clear H
                                                      go_wp2
                                                      go_meet
                                                      case rel => exact ⟨_, (false), (by first | rfl | (simp; done) | (simp [*]; done)), H', ⟨by have := HJ3.out; have := HJ6.out; have := HJ10.out; have := HJ14.out; have := HJ17.out; have := HJ21.out; have := HJ24.out; first | omega | exact Nat.le_refl _⟩, by repeat (first | exact Drawn0.refl _ | apply Drawn0.step)⟩
                                                  case rest =>
                                                    clear HC29
                                                    try clear c1
                                                    try clear c2
                                                    try clear p2
                                                    try clear c3
                                                    try clear c5
                                                    try clear c5b0
                                                    try clear c6
                                                    try clear c8
                                                    try clear c8b0
                                                    try clear c8b1
                                                    try clear c9
                                                    try clear c10
                                                    try clear c10b0
                                                    try clear c10b1
                                                    try clear c12
                                                    try clear c12b0
                                                    try clear c12b1
                                                    try clear c13
                                                    try clear c13b0
                                                    try clear c13b1
                                                    try clear c14
                                                    try clear c16
                                                    try clear c16b0
                                                    try clear c16b1
                                                    try clear c17
                                                    try clear c18
                                                    try clear c19
                                                    try clear c19b0
                                                    try clear c19b1
                                                    try clear c20
                                                    try clear c21
                                                    try clear c21b0
                                                    try clear c21b1
                                                    try clear c23
                                                    try clear c23b0
                                                    try clear c23b1
                                                    try clear c24
                                                    try clear c26
                                                    try clear c26b0
                                                    try clear c26b1
                                                    try clear c27
                                                    try clear c28
                                                    try clear c28b0
                                                    try clear c28b1
                                                    try clear c30
                                                    try clear c30b0
                                                    try clear c30b1
                                                    try clear p2
                                                    obtain ⟨kq, x71_28, rfl, HA, HJ28, ⟨mc28, rfl⟩⟩ := hcut
                                                    cases kq with
                                                    | zero => exact absurd HA.out (by simp [headlandref08_Next.j7])
                                                    | succ kj28 =>
                                                      have H := HA.out
                                                      clear HA
                                                      simp only [headlandref08_Next.j7] at H
                                                      by_cases c31 : x71_28 = true
                                                      · subst c31
                                                        have H1 : (some (0, 2)) = some (r1, r2) := by rw [if_pos rfl] at H; exact H
                                                        clear H
                                                        have H := H1
                                                        clear H1
                                                        simp only [Option.some.injEq, Prod.mk.injEq] at H
                                                        obtain ⟨rfl, rfl⟩ := H
                                                        go_wp2
                                                        go_ret2
                                                        exact ⟨by first | rfl | (simp; done) | (simp [*]; done), by repeat (first | exact Drawn0.refl _ | apply Drawn0.step)⟩
                                                      · replace c31 := Bool.eq_false_iff.mpr c31
                                                        subst c31
                                                        have H1 : (if a1 = 4 then (headlandref08_Next.j8 kj28 a1 (a0 == 1)) else (headlandref08_Next.j8 kj28 a1 false)) = some (r1, r2) := by rw [if_neg (show ¬ (false = true) by decide)] at H; exact H
                                                        clear H
                                                        have H := H1
                                                        clear H1
                                                        have HC32 := Aside0.mk H
                                                        clear H
                                                        go_upto_region 23 with (fail)
                                                        go_cut [78] (fun v78 wc => ∃ (kq : Nat) (x78_31 : Bool), v78 = .bool x78_31 ∧ Aside0 (headlandref08_Next.j8 kq a1 x78_31 = some (r1, r2)) ∧ Aside0 (kq ≤ kj28) ∧ Drawn0 w wc)
                                                        case first =>
                                                          have H := HC32.out
                                                          clear HC32
                                                          by_cases c33 : a1 = 4
                                                          · rw [if_pos c33] at H
                                                            have c33b0 : (a1 == 4) = true := beq_iff_eq.mpr c33
                                                            have c33b1 : (a1 != 4) = false := bne_eq_false_iff_eq.mpr c33
                                                            clear c33
                                                            (first | rw [c33b0] | (simp only [i64_w, i32_w]; rw [c33b0]) | skip)
                                                            have H' := Aside0.mk H
                                                            clear H
                                                            go_wp2
                                                            go_meet
                                                            case rel => exact ⟨_, ((a0 == 1)), (by first | rfl | (simp; done) | (simp [*]; done)), H', ⟨by have := HJ3.out; have := HJ6.out; have := HJ10.out; have := HJ14.out; have := HJ17.out; have := HJ21.out; have := HJ24.out; have := HJ28.out; first | omega | exact Nat.le_refl _⟩, by repeat (first | exact Drawn0.refl _ | apply Drawn0.step)⟩
                                                          · rw [if_neg c33] at H
                                                            have c33b0 : (a1 == 4) = false := beq_eq_false_iff_ne.mpr c33
                                                            have c33b1 : (a1 != 4) = true := bne_iff_ne.mpr c33
                                                            (first | rw [c33b0] | (simp only [i64_w, i32_w]; rw [c33b0]) | skip)
                                                            have H' := Aside0.mk H
                                                            clear H
                                                            go_wp2
                                                            go_meet
                                                            case rel => exact ⟨_, (false), (by first | rfl | (simp; done) | (simp [*]; done)), H', ⟨by have := HJ3.out; have := HJ6.out; have := HJ10.out; have := HJ14.out; have := HJ17.out; have := HJ21.out; have := HJ24.out; have := HJ28.out; first | omega | exact Nat.le_refl _⟩, by repeat (first | exact Drawn0.refl _ | apply Drawn0.step)⟩
                                                        case rest =>
                                                          clear HC32
                                                          try clear c1
                                                          try clear c2
                                                          try clear p2
                                                          try clear c3
                                                          try clear c5
                                                          try clear c5b0
                                                          try clear c6
                                                          try clear c8
                                                          try clear c8b0
                                                          try clear c8b1
                                                          try clear c9
                                                          try clear c10
                                                          try clear c10b0
                                                          try clear c10b1
                                                          try clear c12
                                                          try clear c12b0
                                                          try clear c12b1
                                                          try clear c13
                                                          try clear c13b0
                                                          try clear c13b1
                                                          try clear c14
                                                          try clear c16
                                                          try clear c16b0
                                                          try clear c16b1
                                                          try clear c17
                                                          try clear c18
                                                          try clear c19
                                                          try clear c19b0
                                                          try clear c19b1
                                                          try clear c20
                                                          try clear c21
                                                          try clear c21b0
                                                          try clear c21b1
                                                          try clear c23
                                                          try clear c23b0
                                                          try clear c23b1
                                                          try clear c24
                                                          try clear c26
                                                          try clear c26b0
                                                          try clear c26b1
                                                          try clear c27
                                                          try clear c28
                                                          try clear c28b0
                                                          try clear c28b1
                                                          try clear c30
                                                          try clear c30b0
                                                          try clear c30b1
                                                          try clear c31
                                                          try clear c33
                                                          try clear c33b0
                                                          try clear c33b1
                                                          try clear p2
                                                          obtain ⟨kq, x78_31, rfl, HA, HJ31, ⟨mc31, rfl⟩⟩ := hcut
                                                          cases kq with
                                                          | zero => exact absurd HA.out (by simp [headlandref08_Next.j8])
                                                          | succ kj31 =>
                                                            have H := HA.out
                                                            clear HA
                                                            simp only [headlandref08_Next.j8] at H
                                                            by_cases c34 : x78_31 = true
                                                            · subst c34
                                                              have H1 : (some (0, 0)) = some (r1, r2) := by rw [if_pos rfl] at H; exact H
                                                              clear H
                                                              have H := H1
                                                              clear H1
                                                              simp only [Option.some.injEq, Prod.mk.injEq] at H
                                                              obtain ⟨rfl, rfl⟩ := H
                                                              go_wp2
                                                              go_ret2
                                                              exact ⟨by first | rfl | (simp; done) | (simp [*]; done), by repeat (first | exact Drawn0.refl _ | apply Drawn0.step)⟩
                                                            · replace c34 := Bool.eq_false_iff.mpr c34
                                                              subst c34
                                                              have H1 : (if a1 = 4 then (some (0, 5)) else (some (0, 1))) = some (r1, r2) := by rw [if_neg (show ¬ (false = true) by decide)] at H; exact H
                                                              clear H
                                                              have H := H1
                                                              clear H1
                                                              by_cases c35 : a1 = 4
                                                              · rw [if_pos c35] at H
                                                                have c35b0 : (a1 == 4) = true := beq_iff_eq.mpr c35
                                                                have c35b1 : (a1 != 4) = false := bne_eq_false_iff_eq.mpr c35
                                                                clear c35
                                                                simp only [Option.some.injEq, Prod.mk.injEq] at H
                                                                obtain ⟨rfl, rfl⟩ := H
                                                                go_wp2
                                                                go_ret2
                                                                exact ⟨by first | rfl | (simp; done) | (simp [*]; done), by repeat (first | exact Drawn0.refl _ | apply Drawn0.step)⟩
                                                              · rw [if_neg c35] at H
                                                                have c35b0 : (a1 == 4) = false := beq_eq_false_iff_ne.mpr c35
                                                                have c35b1 : (a1 != 4) = true := bne_iff_ne.mpr c35
                                                                simp only [Option.some.injEq, Prod.mk.injEq] at H
                                                                obtain ⟨rfl, rfl⟩ := H
                                                                go_wp2
                                                                go_ret2
                                                                exact ⟨by first | rfl | (simp; done) | (simp [*]; done), by repeat (first | exact Drawn0.refl _ | apply Drawn0.step)⟩

end Go.Proofs.Ytfjknnejafdfpaa.PSectSteps
