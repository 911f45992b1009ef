/- The reference's Ints: are two slices of whole numbers the same? -/
import Derived.Test.YtflbidbnbfndgaaSlots
namespace Go.Proofs.Ytflbidbnbfndgaa
open Go Go.RowKit

theorem IntsAt.cell {w : World} {b off c n : Nat} {l : List Int} (h : IntsAt w (.slice (some ⟨b, off, none⟩) n c) l) {j : Nat} {y : Int} (hy : l[j]? = some y) : w.cell? ⟨b, off + j, none⟩ = some (.int .i64 y) := by
  have hj := (List.getElem?_eq_some_iff.1 hy).1
  obtain ⟨g, off', c', e, _, _, hx⟩ := SlAt.cells h (by simp; omega)
  cases e
  exact (hx j _ (by simp [hy])).1
theorem IntsAt.addr {w : World} {a : Option Addr} {c n : Nat} {l : List Int} (h : IntsAt w (.slice a n c) l) (hl : 0 < l.length) : ∃ b off, a = some ⟨b, off, none⟩ := by
  obtain ⟨g, off', c', e, _⟩ := SlAt.cells h (by simpa using hl)
  cases e
  exact ⟨g, off', rfl⟩
theorem take_next' {l : List Int} {k : Nat} {y : Int} (hy : l[k]? = some y) : l.take (k + 1) = l.take k ++ [y] := by
  obtain ⟨hj, rfl⟩ := List.getElem?_eq_some_iff.1 hy
  rw [List.take_succ_eq_append_getElem hj]

set_option maxRecDepth 100000 in
set_option maxHeartbeats 1000000 in
theorem Ints_ref (w : World) (v u : Value) (l m : List Int) (h : IntsAt w v l) (k : IntsAt w u m) :
    Calls Try.prog 41 #[v, u] w fun e w' => e = .returned (.bool (decide (l = m))) ∧ Below w.heap.size w w' := by
  obtain ⟨a, c, rfl, hc, hm⟩ := SlAt.form h
  obtain ⟨a', c', rfl, hc', hm'⟩ := SlAt.form k
  have HL := Lib.hid h
  have HM := Lib.hid k
  obtain ⟨n, hn⟩ : ∃ n, n = l.length := ⟨_, rfl⟩
  obtain ⟨n', hn'⟩ : ∃ n', n' = m.length := ⟨_, rfl⟩
  rw [← hn] at hc ⊢ HL
  rw [← hn'] at hc' ⊢ HM
  have HN := Lib.hid hn
  have HN' := Lib.hid hn'
  have hbig : n ≤ 9223372036854775807 := by unfold maxLen at hm; omega
  clear hn hn' h k hm hm'
  by_cases hnn : n = n'
  · subst hnn
    go_enter Try.func41, Try.ntmps41
    go_wp2_with fail
    go_loopw [5] (fun i wr => ∃ k : Nat, k ≤ n ∧ i = .int .i64 k ∧ Below w.heap.size w wr ∧ l.take k = m.take k) (fun i _ => n - (intOf i).toNat)
    case atStart => exact ⟨0, by omega, rfl, Below.refl _ _, rfl⟩
    case round =>
      obtain ⟨k, hk, rfl, hb, htk⟩ := hrel
      have HT := Lib.hid htk
      have HB := Lib.hid hb
      clear hb htk
      by_cases hlt : k < n
      · have hlt' : (k : Int) < n := by omega
        obtain ⟨y, hy⟩ : ∃ y, l[k]? = some y := ⟨_, List.getElem?_eq_getElem (by rw [← HN.out]; exact hlt)⟩
        obtain ⟨z, hz⟩ : ∃ z, m[k]? = some z := ⟨_, List.getElem?_eq_getElem (by rw [← HN'.out]; exact hlt)⟩
        obtain ⟨b, off, rfl⟩ := HL.out.addr (by rw [← HN.out]; omega)
        obtain ⟨b', off', rfl⟩ := HM.out.addr (by rw [← HN'.out]; omega)
        have e0 := IntsAt.cell (SlAt.below HL.out HB.out) hy
        have f0 := IntsAt.cell (SlAt.below HM.out HB.out) hz
        have HY := Lib.hid hy
        have HZ := Lib.hid hz
        clear hy hz
        by_cases hyz : y = z
        · subst hyz
          go_wp2_with fail
          go_quiet (fail)
          go_wp2_with fail
          go_roundw
          case rel =>
            refine ⟨k + 1, by omega, by go_num, below_drewN' HB.out nq, ?_⟩
            rw [take_next' HY.out, take_next' HZ.out, HT.out]
          case measure => simp [intOf]; omega
        · go_wp2_with fail
          go_quiet (fail)
          go_wp2_with fail
          go_ret
          refine ⟨?_, below_drewN' HB.out nq⟩
          have : l ≠ m := by
            intro e
            subst e
            exact hyz (by have := HY.out.symm.trans HZ.out; simpa using this)
          simp [this]
      · obtain rfl : k = n := by omega
        go_wp2_with fail
        go_ret
        refine ⟨?_, HB.out⟩
        have : l = m := by
          have := HT.out
          rwa [List.take_of_length_le (by rw [← HN.out]; exact Nat.le_refl _), List.take_of_length_le (by rw [← HN'.out]; exact Nat.le_refl _)] at this
        simp [this]
  · have hne : ¬ ((n : Int) = n') := by omega
    have hd : decide (l = m) = false := by
      rw [decide_eq_false_iff_not]; intro e; subst e; exact hnn (HN.out.trans HN'.out.symm)
    rw [hd]
    go_enter Try.func41, Try.ntmps41
    go_wp2_with fail
    go_ret
    exact ⟨rfl, Below.refl _ _⟩
end Go.Proofs.Ytflbidbnbfndgaa
