/- SwapFull. -/
import Derived.Test.YtflbidbnbfndgaaSwapAns
import Derived.OpenShut
namespace Go.Proofs.Ytflbidbnbfndgaa
open Go Go.RowKit

/-- Who holds what behind so many rounds. -/
def fullL : Nat → List (List (Int × Int))
  | 0 => noL
  | i + 1 => (fullL i).set (takeR (fullL i)).1.toNat (putP ((fullL i).getD (takeR (fullL i)).1.toNat []) ((i : Int), 0))
instance (l : List (Int × Int)) : Decidable (SortedP l) := inferInstanceAs (Decidable (List.Pairwise ltP l))
def fullOk (i : Nat) : Bool :=
  decide (takeR (fullL i) = if i < 32 then ((i : Int), true) else (0, false)) && decide (SortedP ((fullL i).getD (takeR (fullL i)).1.toNat [])) && decide (heldN (fullL i) = min i 32) && decide ((fullL i).length = 32) && (fullL i).all fun l => decide (l.length ≤ 100)
theorem fullOk_all : (List.range 40).all fullOk = true := by kernel_rfl

set_option maxRecDepth 100000 in
set_option maxHeartbeats 400000 in
theorem full_walk (n : Nat) (hn : n < 256) (w : World) : Calls Try.prog 5 #[.int .u8 n] w fun e w' => e = .returned (.bool true) ∧ Below w.heap.size w w' := by
  go_enter Try.func5, Try.ntmps5
  go_wp2_with fail
  refine (New_in w).mono ?_
  rintro e w1 ⟨rfl, h1, b1⟩
  have HB1 := Lib.hid b1
  have H1 := Lib.hid h1
  clear b1 h1
  go_wp2_with fail
  obtain ⟨k, hk, hk40⟩ : ∃ k : Nat, (n : Int) % 40 = k ∧ k < 40 := ⟨n % 40, by omega, by omega⟩
  rw [hk]
  clear hk hn
  go_loopw [5, 6, 7] (fun i _ _ wr => ∃ j : Nat, j ≤ k ∧ i = .int .i64 j ∧ SwapIn w.heap.size wr w.heap.size (fullL j) ∧ Below w.heap.size w wr) (fun i _ _ _ => k - (intOf i).toNat)
  case atStart => exact ⟨0, by omega, rfl, H1.out, HB1.out⟩
  case round =>
    obtain ⟨j, hj, rfl, hS, hb⟩ := hrel
    clear H1 HB1
    have HS := Lib.hid hS
    have HB := Lib.hid hb
    clear hS hb
    by_cases hlt : j < k
    · have hok := List.all_eq_true.1 fullOk_all j (List.mem_range.2 (by omega))
      simp only [fullOk, Bool.and_eq_true, decide_eq_true_eq, List.all_eq_true] at hok
      obtain ⟨⟨⟨⟨ht, hsort⟩, _⟩, hlen⟩, hsm⟩ := hok
      have hlt' : (j : Int) < k := by omega
      have hnext : fullL (j + 1) = (fullL j).set (takeR (fullL j)).1.toNat (putP ((fullL j).getD (takeR (fullL j)).1.toNat []) ((j : Int), 0)) := rfl
      go_wp2_with fail
      refine (Take_in HS.out).mono ?_
      rw [ht] at hsort hnext ⊢
      have HN := Lib.hid hnext
      have HSo := Lib.hid hsort
      have HLe := Lib.hid hlen
      have HSm := Lib.hid hsm
      clear ht hnext hsort hlen hsm
      by_cases h32 : j < 32
      · have h32' : (j : Int) < 32 := by omega
        rw [if_pos h32] at HN HSo
        rw [if_pos h32]
        simp only [Int.toNat_natCast] at HN HSo
        rintro e w2 ⟨rfl, rfl⟩
        go_wp2_with fail
        refine (Hold_in HS.out HB.out.size j _ rfl ((fullL j).getD j []) (by rw [List.getD_eq_getElem?_getD, List.getElem?_eq_getElem (by rw [HLe.out]; exact h32)]; rfl) ((j : Int), 0) HSo.out (by
          rw [List.getD_eq_getElem?_getD, List.getElem?_eq_getElem (by rw [HLe.out]; exact h32)]
          exact Nat.le_trans (HSm.out _ (List.getElem_mem _)) (by omega))).mono ?_
        rw [← HN.out]
        rintro e w3 ⟨rfl, h3, b3⟩
        have H3 := Lib.hid h3
        have HB3 := Lib.hid (HB.out.trans b3)
        clear h3 b3
        go_wp2_with fail
        go_roundw
        case rel => exact ⟨j + 1, by omega, by go_num, H3.out, HB3.out⟩
        case measure => simp [intOf]; omega
      · have h32' : ¬ (j : Int) < 32 := by omega
        rw [if_neg h32] at HN HSo
        rw [if_neg h32]
        simp only [Int.toNat_zero] at HN HSo
        rintro e w2 ⟨rfl, rfl⟩
        go_wp2_with fail
        refine (Hold_in HS.out HB.out.size 0 _ rfl ((fullL j).getD 0 []) (by rw [List.getD_eq_getElem?_getD, List.getElem?_eq_getElem (by rw [HLe.out]; omega)]; rfl) ((j : Int), 0) HSo.out (by
          rw [List.getD_eq_getElem?_getD, List.getElem?_eq_getElem (by rw [HLe.out]; omega)]
          exact Nat.le_trans (HSm.out _ (List.getElem_mem _)) (by omega))).mono ?_
        rw [← HN.out]
        rintro e w3 ⟨rfl, h3, b3⟩
        have H3 := Lib.hid h3
        have HB3 := Lib.hid (HB.out.trans b3)
        clear h3 b3
        go_wp2_with fail
        go_roundw
        case rel => exact ⟨j + 1, by omega, by go_num, H3.out, HB3.out⟩
        case measure => simp [intOf]; omega
    · obtain rfl : j = k := by omega
      have hok := List.all_eq_true.1 fullOk_all j (List.mem_range.2 (by omega))
      simp only [fullOk, Bool.and_eq_true, decide_eq_true_eq, List.all_eq_true] at hok
      obtain ⟨⟨⟨_, hheld⟩, _⟩, hsm⟩ := hok
      have HH := Lib.hid hheld
      have HSm := Lib.hid hsm
      clear hheld hsm hlt
      by_cases h32 : j ≤ 32
      · have h32' : ¬ (32 : Int) < j := by omega
        go_wp2_with fail
        refine (swapAnswers wr).mono ?_
        rintro e w2 ⟨rfl, b2⟩
        have HB2 := Lib.hid (HB.out.trans (b2.mono HB.out.size))
        have HS2 := Lib.hid (HS.out.below b2)
        clear b2
        go_wp2_with fail
        refine (Used_in HS2.out (fun l hl => Nat.le_trans (HSm.out l hl) (by omega))).mono ?_
        rw [show heldN (fullL j) = j by rw [HH.out]; omega]
        rintro e w3 ⟨rfl, -, b3⟩
        have HB3 := Lib.hid (HB2.out.trans (b3.mono HB2.out.size))
        clear b3
        go_wp2_with fail
        go_ret
        exact ⟨rfl, HB3.out⟩
      · have h32' : (32 : Int) < j := by omega
        go_wp2_with fail
        refine (swapAnswers wr).mono ?_
        rintro e w2 ⟨rfl, b2⟩
        have HB2 := Lib.hid (HB.out.trans (b2.mono HB.out.size))
        have HS2 := Lib.hid (HS.out.below b2)
        clear b2
        go_wp2_with fail
        refine (Used_in HS2.out (fun l hl => Nat.le_trans (HSm.out l hl) (by omega))).mono ?_
        rw [show heldN (fullL j) = 32 by rw [HH.out]; omega]
        rintro e w3 ⟨rfl, -, b3⟩
        have HB3 := Lib.hid (HB2.out.trans (b3.mono HB2.out.size))
        clear b3
        go_wp2_with fail
        go_ret
        exact ⟨rfl, HB3.out⟩

theorem swapFull_row (n : Int) (w : World) (hn : (Lit.int .u8 n).wf = true) : Calls Try.prog 5 #[.int .u8 n] w fun e w' => e = .returned (.bool true) ∧ Below w.heap.size w w' := by
  have h : 0 ≤ n ∧ n ≤ 255 := bounds_u8 hn
  obtain ⟨m, rfl⟩ := Int.eq_ofNat_of_zero_le h.1
  exact full_walk m (by omega) w
end Go.Proofs.Ytflbidbnbfndgaa
