/- The reference: are two lists of areas the same? -/
import Derived.Test.YtcghenehcpogpaaAreaSplit
import Derived.BigQuiet
namespace Go.Proofs.Ytcghenehcpogpaa
open Go Go.RowKit

set_option maxHeartbeats 1000000 in
theorem areaEq (x y : Ar) (w : World) : (Op.equal 23 x.enc y.enc).run Try.prog w = .ok (decide (x = y)) w := by
  show (Op.equalIn (9999 + 1) 23 x.enc y.enc).run Try.prog w = _
  have u3 := Try.underlying3
  have a3 := Try.isAgg3
  have z3 := Try.sizeOf3
  have u4 := Try.underlying4
  have a4 := Try.isAgg4
  have z4 := Try.sizeOf4
  have hS : Try.prog.underlying 23 = some (.struct (Try.prog.fieldsOf 23)) := by kernel_rfl
  have hp : Try.prog.stoodInHeld 23 = false := by kernel_rfl
  obtain ⟨x1, x2, x3, x4, x5, x6⟩ := x
  obtain ⟨y1, y2, y3, y4, y5, y6⟩ := y
  simp only [Ar.enc]
  rw [run_equalIn_struct w 9999 23 _ _ hS hp]
  simp only [Program.fieldsOf, Try.underlying23]
  go_simp
  by_cases h1 : x1 = y1 <;> by_cases h2 : x2 = y2 <;> by_cases h3 : x3 = y3 <;> by_cases h4 : x4 = y4 <;> by_cases h5 : x5 = y5 <;> by_cases h6 : x6 = y6 <;> simp [h1, h2, h3, h4, h5, h6]

theorem neqA_run (y z : Ar) (W : World) : Sem.run Try.prog (binOp .neq 23 y.enc z.enc) W = .ok (.bool (!decide (y = z))) W := by
  have e := areaEq y z W
  simp only [Ar.enc] at e ⊢
  simp [binOp, e]
theorem guardA_run (op : BinOp) (a b : Operand) (y z : Ar) (W : World) : Sem.run Try.prog (eqGuard op 23 a b y.enc z.enc) W = .ok () W := by
  have hg : Try.prog.eqGuardType Try.prog.depth 23 = false := by kernel_rfl
  unfold Ar.enc
  cases op <;> simp [eqGuard, hg]

set_option maxRecDepth 100000 in
set_option maxHeartbeats 2000000 in
theorem Areas_ref (w : World) (v u : Value) (l m : List Ar) (h : ArRd w v l) (k : ArRd w u m) :
    Calls Try.prog 14 #[v, u] w fun e w' => e = .returned (.bool (decide (l = m))) ∧ Below w.heap.size w w' := by
  obtain ⟨a, c, rfl, hc, hm⟩ := ArRd.fm h
  obtain ⟨a', c', rfl, hc', hm'⟩ := ArRd.fm k
  have HL := Lib.hid h
  have HM := Lib.hid k
  obtain ⟨n, hn⟩ : ∃ n, n = l.length := ⟨_, rfl⟩
  obtain ⟨n', hn'⟩ : ∃ n', n' = m.length := ⟨_, rfl⟩
  rw [← hn] at hc ⊢ HL
  rw [← hn'] at hc' ⊢ HM
  have HN := Lib.hid hn
  have HN' := Lib.hid hn'
  have hbig : n ≤ 9223372036854775807 := by unfold maxLen at hm; omega
  clear hn hn' h k hm hm'
  by_cases hnn : n = n'
  · subst hnn
    go_enter Try.func14, Try.ntmps14
    go_wp2_with fail
    go_loopw [5] (fun i wr => ∃ k : Nat, k ≤ n ∧ i = .int .i64 k ∧ Below w.heap.size w wr ∧ l.take k = m.take k) (fun i _ => n - (intOf i).toNat)
    case atStart => exact ⟨0, by omega, rfl, Below.refl _ _, rfl⟩
    case round =>
      obtain ⟨k, hk, rfl, hb, htk⟩ := hrel
      have HT := Lib.hid htk
      have HB := Lib.hid hb
      clear hb htk
      by_cases hlt : k < n
      · have hlt' : (k : Int) < n := by omega
        obtain ⟨y, hy⟩ : ∃ y, l[k]? = some y := ⟨_, List.getElem?_eq_getElem (by rw [← HN.out]; exact hlt)⟩
        obtain ⟨z, hz⟩ : ∃ z, m[k]? = some z := ⟨_, List.getElem?_eq_getElem (by rw [← HN'.out]; exact hlt)⟩
        obtain ⟨b, off, rfl⟩ := HL.out.addr (by rw [← HN.out]; omega)
        obtain ⟨b', off', rfl⟩ := HM.out.addr (by rw [← HN'.out]; omega)
        obtain ⟨e0, e1, e2, e3, e4, e5⟩ := (HL.out.below HB.out).cell hy
        obtain ⟨f0, f1, f2, f3, f4, f5⟩ := (HM.out.below HB.out).cell hz
        have HY := Lib.hid hy
        have HZ := Lib.hid hz
        clear hy hz
        have hne := neqA_run y z
        have hgd := fun op a b => guardA_run op a b y z
        obtain ⟨y1, y2, y3, y4, y5, y6⟩ := y
        obtain ⟨z1, z2, z3, z4, z5, z6⟩ := z
        simp only [Ar.enc] at hne hgd e0 e1 e2 e3 e4 e5 f0 f1 f2 f3 f4 f5
        by_cases hyz : (⟨y1, y2, y3, y4, y5, y6⟩ : Ar) = ⟨z1, z2, z3, z4, z5, z6⟩
        · rw [decide_eq_true hyz] at hne
          go_wp2_with fail
          go_quiet (fail)
          go_wp2_with fail
          go_roundw
          case rel =>
            refine ⟨k + 1, by omega, by go_num, below_drewN' HB.out nq, ?_⟩
            rw [takeA HY.out, takeA HZ.out, HT.out, hyz]
          case measure => simp [intOf]; omega
        · rw [decide_eq_false hyz] at hne
          go_wp2_with fail
          go_quiet (fail)
          go_wp2_with fail
          go_ret
          refine ⟨?_, below_drewN' HB.out nq⟩
          have : l ≠ m := by
            intro e
            subst e
            exact hyz (by have := HY.out.symm.trans HZ.out; simpa using this)
          simp [this]
      · obtain rfl : k = n := by omega
        go_wp2_with fail
        go_ret
        refine ⟨?_, HB.out⟩
        have : l = m := by
          have := HT.out
          rwa [List.take_of_length_le (by rw [← HN.out]; exact Nat.le_refl _), List.take_of_length_le (by rw [← HN'.out]; exact Nat.le_refl _)] at this
        simp [this]
  · have hne : ¬ ((n : Int) = n') := by omega
    have hd : decide (l = m) = false := by
      rw [decide_eq_false_iff_not]; intro e; subst e; exact hnn (HN.out.trans HN'.out.symm)
    rw [hd]
    go_enter Try.func14, Try.ntmps14
    go_wp2_with fail
    go_ret
    exact ⟨rfl, Below.refl _ _⟩
end Go.Proofs.Ytcghenehcpogpaa
