/- SignalRound answers true for all pairs of bytes; no conditions. -/
import Derived.Test.YtfjknnejafdfpaaSigAns
import Derived.OpenShut
namespace Go.Proofs.Ytfjknnejafdfpaa
open Go Go.RowKit Go.Conc

/-- What waits: so many signals from a number on. -/
def qs (i ln : Nat) : List (Int × Int) := (List.range ln).map fun t => (0, ((i + t : Nat) : Int))
theorem qs_snoc (i ln : Nat) : qs i (ln + 1) = qs i ln ++ [(0, ((i + ln : Nat) : Int))] := by simp [qs, List.range_succ]
theorem qs_cons (i ln : Nat) : qs i (ln + 1) = (0, (i : Int)) :: qs (i + 1) ln := by
  simp only [qs, List.range_succ_eq_map, List.map_cons, List.map_map, Nat.add_zero, List.cons.injEq, true_and]
  refine List.map_congr_left fun t _ => ?_
  simp; omega
theorem qs_length (i ln : Nat) : (qs i ln).length = ln := by simp [qs]


set_option maxHeartbeats 1600000 in
set_option maxRecDepth 100000 in
theorem round_walk (m n : Nat) (hm1 : m ≤ 255) (hn1 : n ≤ 255) (w : World) :
    Calls Try.prog 6 #[.int .u8 m, .int .u8 n] w fun e w' => e = .returned (.bool true) ∧ Below w.heap.size w w' := by
  obtain ⟨cp, hcp⟩ : ∃ cp : Nat, cp = m % 16 := ⟨_, rfl⟩
  have hc1 : ((cp : Nat) : Int) ≤ (m : Int) % 16 := by omega
  have hc2 : (m : Int) % 16 ≤ ((cp : Nat) : Int) := by omega
  have hc15 : cp ≤ 15 := by omega
  have hcap : capOf ((m : Int) % 16 + 1) = cp + 1 := by unfold capOf; omega
  have HC := Lib.hid hcap
  clear hcp hcap
  go_enter Try.func6, Try.ntmps6
  go_wp2_with fail
  refine (New_at _ _).mono ?_
  rintro e w1 ⟨rfl, b1, q1⟩
  rw [HC.out] at q1
  have HB := Lib.hid b1
  clear b1
  go_wp2_with fail
  go_loopw [7, 8] (fun nx i wr => ∃ j ln : Nat, j ≤ n ∧ i = .int .i64 j ∧ nx = .int .i64 ((j + ln : Nat) : Int) ∧ ln ≤ cp ∧ (0 < j → cp ≤ ln) ∧ (j = 0 → ln = 0) ∧ Below w.heap.size w wr ∧ QAt wr (w.heap.size + 1) w.heap.size (cp + 1) (qs j ln)) (fun _ i _ => n - (intOf i).toNat)
  case atStart => exact ⟨0, 0, by omega, rfl, rfl, by omega, by omega, by omega, HB.out, q1⟩
  case round =>
    clear HB q1
    obtain ⟨j, ln, hj, rfl, rfl, hln, hp, hz, hb, hq⟩ := hrel
    have HB := Lib.hid hb
    have HP := Lib.hid hp
    have HZ := Lib.hid hz
    clear hb hp hz
    by_cases hlt : j < n
    · go_wp2_with fail
      obtain ⟨wo, rfl⟩ : ∃ wo : World, wo = wr := ⟨_, rfl⟩
      go_loopw [7] (fun nx wq => ∃ t : Nat, t ≤ cp + 1 ∧ nx = .int .i64 ((j + t : Nat) : Int) ∧ Below w.heap.size w wq ∧ QAt wq (w.heap.size + 1) w.heap.size (cp + 1) (qs j t)) (fun nx _ => j + cp + 1 - (intOf nx).toNat)
      case atStart => exact ⟨ln, by omega, rfl, HB.out, hq⟩
      case round =>
        obtain ⟨t, ht, rfl, hb, hq2⟩ := hrel
        clear hq HB
        have HB := Lib.hid hb
        clear hb
        by_cases htc : t < cp + 1
        · go_wp2_with fail
          refine (Put_room _ _ _ _ _ (0, ((j + t : Nat) : Int)) hq2 (by rw [qs_length]; exact htc)).mono ?_
          rintro e w2 ⟨rfl, g2, q2⟩
          go_wp2_with fail
          go_roundw
          case rel => exact ⟨t + 1, by omega, by go_num, HB.out.grown g2 HB.out.size (fun k hk => by cases hk; exact Nat.le_refl _), by rw [qs_snoc]; exact q2⟩
          case measure => simp [intOf]; omega
        · obtain rfl : t = cp + 1 := by omega
          go_wp2_with fail
          refine (Put_full _ _ _ _ _ (0, ((j + (cp + 1) : Nat) : Int)) hq2 (by rw [qs_length]; omega)).mono ?_
          rintro e w2 ⟨rfl, b2, q2⟩
          rw [qs_cons] at q2
          have HB2 := Lib.hid (HB.out.trans (b2.mono HB.out.size))
          clear b2 HB hq2
          go_wp2_with fail
          refine (Take_some _ _ _ _ _ (0, (j : Int)) q2).mono ?_
          rintro e w3 ⟨rfl, g3, q3⟩
          have HB3 := Lib.hid (HB2.out.grown g3 HB2.out.size (fun k hk => by cases hk; exact Nat.le_refl _))
          clear g3 HB2 q2
          unfold sigV
          go_wp2_with fail
          refine (Len_at _ _ _ _ _ (q3.below ((Below.refl _ _).alloc (Nat.le_refl _) _))).mono ?_
          rintro e w4 ⟨rfl, rfl⟩
          rw [qs_length]
          go_wp2_with fail
          go_roundw
          case rel => exact ⟨j + 1, cp, by omega, by go_num, by go_num, by omega, by omega, by omega, HB3.out.alloc HB3.out.size _, q3.below ((Below.refl _ _).alloc (Nat.le_refl _) _)⟩
          case measure => simp [intOf]; omega
    · obtain rfl : j = n := by omega
      by_cases h0 : j = 0
      · subst h0
        go_wp2_with fail
        refine (sigAnswers _).mono ?_
        rintro e w4 ⟨rfl, b4⟩
        have HB4 := Lib.hid (HB.out.trans (b4.mono HB.out.size))
        clear b4 HB
        go_wp2_with fail
        go_ret
        exact ⟨rfl, HB4.out⟩
      · have hpos : 1 ≤ j := by omega
        have hcl := HP.out (by omega)
        have hjb : ((j : Int) == 0) = false := by simp; omega
        clear h0
        go_wp2_with fail
        refine (sigAnswers _).mono ?_
        rintro e w4 ⟨rfl, b4⟩
        have HB4 := Lib.hid (HB.out.trans (b4.mono HB.out.size))
        clear b4 HB
        go_wp2_with fail
        go_ret
        exact ⟨by simp; omega, HB4.out⟩

theorem round_row (m n : Int) (w : World) (hm : (Lit.int .u8 m).wf = true) (hn : (Lit.int .u8 n).wf = true) :
    Calls Try.prog 6 #[.int .u8 m, .int .u8 n] w fun e w' => e = .returned (.bool true) ∧ Below w.heap.size w w' := by
  obtain ⟨a0, a1⟩ := bounds_u8 hm
  obtain ⟨b0, b1⟩ := bounds_u8 hn
  obtain ⟨m, rfl⟩ := Int.eq_ofNat_of_zero_le a0
  obtain ⟨n, rfl⟩ := Int.eq_ofNat_of_zero_le b0
  exact round_walk m n (by omega) (by omega) w
end Go.Proofs.Ytfjknnejafdfpaa
