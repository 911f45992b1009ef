/- The reference: are two lists of places the same? -/
import Derived.Test.YtflbidbnbfndgaaPlaceCalls
import Derived.Test.YtflbidbnbfndgaaPlaceOrd
import Derived.BigQuiet
namespace Go.Proofs.Ytflbidbnbfndgaa
open Go Go.RowKit

theorem PlAt.cellAt {w : World} {b off c : Nat} {l : List (Int × Int)} {n : Nat} (h : PlAt w (.slice (some ⟨b, off, none⟩) n c) l) {j : Nat} {y : Int × Int} (hy : l[j]? = some y) :
    w.cell? ⟨b, off + j * 2, none⟩ = some (.int .i64 y.1) ∧ w.cell? ⟨b, off + j * 2 + 1, none⟩ = some (.int .i64 y.2) := by
  obtain ⟨hj, rfl⟩ := List.getElem?_eq_some_iff.1 hy
  exact h.cell j hj
theorem PlAt.addr {w : World} {a : Option Addr} {c : Nat} {l : List (Int × Int)} {n : Nat} (h : PlAt w (.slice a n c) l) (hl : 0 < l.length) : ∃ b off, a = some ⟨b, off, none⟩ := by
  rcases h.form with ⟨_, e⟩ | ⟨b, off, c', e, _⟩
  · rw [e] at hl; simp at hl
  · cases e; exact ⟨b, off, rfl⟩
theorem take_next {l : List (Int × Int)} {k : Nat} {y : Int × Int} (hy : l[k]? = some y) : l.take (k + 1) = l.take k ++ [y] := by
  obtain ⟨hj, rfl⟩ := List.getElem?_eq_some_iff.1 hy
  rw [List.take_succ_eq_append_getElem hj]

theorem eql_run (y z : Int × Int) (W : World) : Sem.run Try.prog (binOp .eql 40 (.agg #[.int .i64 y.1, .int .i64 y.2]) (.agg #[.int .i64 z.1, .int .i64 z.2])) W = .ok (.bool (decide (y = z))) W := eqlPlace.1 y z W
theorem neq_run (y z : Int × Int) (W : World) : Sem.run Try.prog (binOp .neq 40 (.agg #[.int .i64 y.1, .int .i64 y.2]) (.agg #[.int .i64 z.1, .int .i64 z.2])) W = .ok (.bool (!decide (y = z))) W := by
  have e := placeKey.eq y z W
  rw [show (!decide (y = z)) = !(y.1 == z.1 && y.2 == z.2) by
    obtain ⟨x1, x2⟩ := y
    obtain ⟨y1, y2⟩ := z
    by_cases h1 : x1 = y1 <;> by_cases h2 : x2 = y2 <;> simp [h1, h2]]
  simp only [encPair] at e ⊢
  simp [binOp, e]
theorem guard_run (op : BinOp) (a b : Operand) (y z : Int × Int) (W : World) : Sem.run Try.prog (eqGuard op 40 a b (.agg #[.int .i64 y.1, .int .i64 y.2]) (.agg #[.int .i64 z.1, .int .i64 z.2])) W = .ok () W := eqlPlace.2 op a b y z W

set_option maxRecDepth 100000 in
set_option maxHeartbeats 1000000 in
theorem Places_ref (w : World) (v u : Value) (l m : List (Int × Int)) (h : PlAt w v l) (k : PlAt w u m) :
    Calls Try.prog 29 #[v, u] w fun e w' => e = .returned (.bool (decide (l = m))) ∧ Below w.heap.size w w' := by
  obtain ⟨a, c, rfl, hc, hm⟩ := SlAt.form h
  obtain ⟨a', c', rfl, hc', hm'⟩ := SlAt.form k
  have HL := Lib.hid h
  have HM := Lib.hid k
  obtain ⟨n, hn⟩ : ∃ n, n = l.length := ⟨_, rfl⟩
  obtain ⟨n', hn'⟩ : ∃ n', n' = m.length := ⟨_, rfl⟩
  rw [← hn] at hc ⊢ HL
  rw [← hn'] at hc' ⊢ HM
  have HN := Lib.hid hn
  have HN' := Lib.hid hn'
  have hbig : n ≤ 9223372036854775807 := by unfold maxLen at hm; omega
  clear hn hn' h k hm hm'
  by_cases hnn : n = n'
  · subst hnn
    go_enter Try.func29, Try.ntmps29
    go_wp2_with fail
    go_loopw [5] (fun i wr => ∃ k : Nat, k ≤ n ∧ i = .int .i64 k ∧ Below w.heap.size w wr ∧ l.take k = m.take k) (fun i _ => n - (intOf i).toNat)
    case atStart => exact ⟨0, by omega, rfl, Below.refl _ _, rfl⟩
    case round =>
      obtain ⟨k, hk, rfl, hb, htk⟩ := hrel
      have HT := Lib.hid htk
      have HB := Lib.hid hb
      clear hb htk
      by_cases hlt : k < n
      · have hlt' : (k : Int) < n := by omega
        obtain ⟨y, hy⟩ : ∃ y, l[k]? = some y := ⟨_, List.getElem?_eq_getElem (by rw [← HN.out]; exact hlt)⟩
        obtain ⟨z, hz⟩ : ∃ z, m[k]? = some z := ⟨_, List.getElem?_eq_getElem (by rw [← HN'.out]; exact hlt)⟩
        obtain ⟨b, off, rfl⟩ := HL.out.addr (by rw [← HN.out]; omega)
        obtain ⟨b', off', rfl⟩ := HM.out.addr (by rw [← HN'.out]; omega)
        obtain ⟨e0, e1⟩ := (HL.out.below HB.out).cellAt hy
        obtain ⟨f0, f1⟩ := (HM.out.below HB.out).cellAt hz
        have HY := Lib.hid hy
        have HZ := Lib.hid hz
        clear hy hz
        have hne := neq_run y z
        have hgd := fun op a b => guard_run op a b y z
        by_cases hyz : y = z
        · rw [decide_eq_true hyz] at hne
          go_wp2_with fail
          go_quiet (fail)
          go_wp2_with fail
          go_roundw
          case rel =>
            refine ⟨k + 1, by omega, by go_num, below_drewN' HB.out nq, ?_⟩
            rw [take_next HY.out, take_next HZ.out, HT.out, hyz]
          case measure => simp [intOf]; omega
        · rw [decide_eq_false hyz] at hne
          go_wp2_with fail
          go_quiet (fail)
          go_wp2_with fail
          go_ret
          refine ⟨?_, below_drewN' HB.out nq⟩
          have : l ≠ m := by
            intro e
            subst e
            exact hyz (by have := HY.out.symm.trans HZ.out; simpa using this)
          simp [this]
      · obtain rfl : k = n := by omega
        go_wp2_with fail
        go_ret
        refine ⟨?_, HB.out⟩
        have : l = m := by
          have := HT.out
          rwa [List.take_of_length_le (by rw [← HN.out]; exact Nat.le_refl _), List.take_of_length_le (by rw [← HN'.out]; exact Nat.le_refl _)] at this
        simp [this]
  · have hne : ¬ ((n : Int) = n') := by omega
    have hd : decide (l = m) = false := by
      rw [decide_eq_false_iff_not]; intro e; subst e; exact hnn (HN.out.trans HN'.out.symm)
    rw [hd]
    go_enter Try.func29, Try.ntmps29
    go_wp2_with fail
    go_ret
    exact ⟨rfl, Below.refl _ _⟩
end Go.Proofs.Ytflbidbnbfndgaa
