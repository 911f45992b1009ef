/- The reference's areas: may a list be? may pages be told so? Cut. -/
import Derived.Test.YtcghenehcpogpaaAreaCut
import Derived.Test.YtcghenehcpogpaaHand
namespace Go.Proofs.Ytcghenehcpogpaa
open Go Go.RowKit

theorem Right_ref (w : World) (fr pg : Int) : Calls Try.prog 19 #[.int .i64 fr, .int .i64 pg] w fun e w' => e = .returned (.bool (decide (RightA fr pg))) ∧ w' = w := by
  obtain ⟨s, hs⟩ : ∃ s, s = decide (RightA fr pg) := ⟨_, rfl⟩
  have HS := Lib.hid hs
  rw [← hs]
  clear hs
  by_cases c1 : 0 ≤ fr
  · by_cases c2 : 1 ≤ pg
    · by_cases c3 : fr ≤ 4095
      · have hw : IntKind.i64.wrap (4096 - fr) = 4096 - fr := by simp [IntKind.wrap, IntKind.bits, IntKind.signed]; omega
        by_cases c4 : pg ≤ 4096 - fr
        · obtain rfl : s = true := by rw [HS.out]; exact decide_eq_true ⟨c1, c2, by omega, c4⟩
          clear HS
          go_enter Try.func19, Try.ntmps19
          go_wp2_with fail
          go_ret
          exact ⟨rfl, rfl⟩
        · obtain rfl : s = false := by rw [HS.out]; exact decide_eq_false (fun h => c4 h.2.2.2)
          clear HS
          have c4' : 4096 - fr < pg := by omega
          go_enter Try.func19, Try.ntmps19
          go_wp2_with fail
          go_ret
          exact ⟨by first | rfl | simp, rfl⟩
      · obtain rfl : s = false := by rw [HS.out]; exact decide_eq_false (fun h => c3 (by have := h.2.2.1; omega))
        clear HS
        go_enter Try.func19, Try.ntmps19
        go_wp2_with fail
        go_ret
        exact ⟨rfl, rfl⟩
    · obtain rfl : s = false := by rw [HS.out]; exact decide_eq_false (fun h => c2 h.2.1)
      clear HS
      go_enter Try.func19, Try.ntmps19
      go_wp2_with fail
      go_ret
      exact ⟨rfl, rfl⟩
  · obtain rfl : s = false := by rw [HS.out]; exact decide_eq_false (fun h => c1 h.1)
    clear HS
    go_enter Try.func19, Try.ntmps19
    go_wp2_with fail
    go_ret
    exact ⟨rfl, rfl⟩

/-- May the first areas of a list be? -/
def okTo (l : List Ar) (k : Nat) : Prop := ∀ (j : Nat) (x : Ar), j < k → l[j]? = some x → x.Sound ∧ ∀ y, 0 < j → l[j - 1]? = some y → y.from_ + y.pages ≤ x.from_

set_option maxRecDepth 100000 in
set_option maxHeartbeats 4000000 in
theorem List_ref (w : World) (v : Value) (l : List Ar) (h : ArRd w v l) (hwf : ∀ a ∈ l, a.Wf) :
    Calls Try.prog 11 #[v] w fun e w' => ∃ b, e = .returned (.bool b) ∧ (b = true ↔ okTo l l.length) ∧ Below w.heap.size w w' := by
  obtain ⟨a, c, rfl, hc, hm⟩ := ArRd.fm h
  have HL := Lib.hid h
  have HW := Lib.hid hwf
  obtain ⟨n, hn⟩ : ∃ n, n = l.length := ⟨_, rfl⟩
  rw [← hn] at hc ⊢ HL
  have HN := Lib.hid hn
  have hbig : n ≤ 9223372036854775807 := by unfold maxLen at hm; omega
  clear hn h hm hwf
  go_enter Try.func11, Try.ntmps11
  go_wp2_with fail
  go_loopw [3] (fun i wr => ∃ k : Nat, k ≤ n ∧ i = .int .i64 k ∧ Below w.heap.size w wr ∧ okTo l k) (fun i _ => n - (intOf i).toNat)
  case atStart => exact ⟨0, by omega, rfl, Below.refl _ _, fun j _ h => absurd h (by omega)⟩
  case round =>
    obtain ⟨k, hk, rfl, hb, hok⟩ := hrel
    have HB := Lib.hid hb
    have HO := Lib.hid hok
    clear hb hok
    by_cases hlt : k < n
    · have hlt' : (k : Int) < n := by omega
      obtain ⟨y, hy⟩ : ∃ y, l[k]? = some y := ⟨_, List.getElem?_eq_getElem (by rw [← HN.out]; exact hlt)⟩
      obtain ⟨b, off, rfl⟩ := HL.out.addr (by rw [← HN.out]; omega)
      have HY := Lib.hid hy
      have hwy := HW.out y (List.mem_of_getElem? hy)
      clear hy
      have hnx : Hid (y.Sound → (∀ z, 0 < k → l[k - 1]? = some z → z.from_ + z.pages ≤ y.from_) → okTo l (k + 1)) := by
        intro h1 h2 j x hj hx
        by_cases hjk : j = k
        · subst hjk
          obtain rfl : y = x := by have := HY.out.symm.trans hx; simpa using this
          exact ⟨h1, h2⟩
        · exact HO.out j x (by omega) hx
      have hno : Hid (okTo l n → y.Sound ∧ ∀ z, 0 < k → l[k - 1]? = some z → z.from_ + z.pages ≤ y.from_) := fun h => h k y hlt HY.out
      by_cases hys : y.Sound
      · have hs := Lib.hid (fun W => Sound_ref W y hwy)
        rw [decide_eq_true hys] at hs
        obtain ⟨s1, s2, s3, s4, s5, s6, s7⟩ := hys
        have HYS : Hid y.Sound := ⟨s1, s2, s3, s4, s5, s6, s7⟩
        have HQ : Hid (∀ X, Below w.heap.size w X → _) := fun X hX => (HL.out.below hX).cell HY.out
        clear s1 s2 s4 s6 s7
        by_cases hk0 : k = 0
        · have g0 : decide ((0 : Int) < (k : Int)) = false := decide_eq_false (by omega)
          have gk : ¬ 0 < k := by omega
          have HK0 := Lib.hid hk0
          clear hk0
          obtain ⟨f, p, wt, kd, fi, o⟩ := y
          simp only [Ar.enc] at HYS s3 s5 hs HQ 
          clear hno hwy
          obtain ⟨e0, e1, e2, e3, e4, e5⟩ := HQ.out wr HB.out
          go_wp2_with fail
          have HBW : Hid (Below w.heap.size w wr.drew) := HB.out.drew
          obtain ⟨d0, d1, d2, d3, d4, d5⟩ := HQ.out wr.drew HBW.out
          skip
          refine wp_region_held_drew (S := (fun X => X.cell? ⟨b, off + k * 6, none⟩ = some (.int .i64 f) ∧ X.cell? ⟨b, off + k * 6 + 1, none⟩ = some (.int .i64 p) ∧ X.cell? ⟨b, off + k * 6 + 2, none⟩ = some (.bool wt) ∧ X.cell? ⟨b, off + k * 6 + 3, none⟩ = some (.int .i64 kd) ∧ X.cell? ⟨b, off + k * 6 + 4, none⟩ = some (.int .i64 fi) ∧ X.cell? ⟨b, off + k * 6 + 5, none⟩ = some (.int .i64 o))) (by kernel_rfl) ⟨d0, d1, d2, d3, d4, d5⟩ (fun hHeld => ?_)
          refine hand_take (v := ?vq1_0) 0 10 rfl rfl (by kernel_rfl) (by kernel_rfl) (by kernel_rfl) (fun _ _ _ h => h) (Or.inl ⟨by rfl, ?hyq1_0⟩) hHeld ?restq1_0
          case hyq1_0 => ((intro w hSw; (try dsimp only at hSw); go_simp) <;> with_reducible rfl)
          case' restq1_0 => (simp only [Act.put, List.setIfInBounds_toArray, List.set_cons_zero, List.set_cons_succ])
          refine hand_take (v := ?vq1_1) 1 11 rfl rfl (by kernel_rfl) (by kernel_rfl) (by kernel_rfl) (fun _ _ _ h => h) (Or.inl ⟨by rfl, ?hyq1_1⟩) hHeld ?restq1_1
          case hyq1_1 => ((intro w hSw; (try dsimp only at hSw); go_simp) <;> with_reducible rfl)
          case' restq1_1 => (simp only [Act.put, List.setIfInBounds_toArray, List.set_cons_zero, List.set_cons_succ])
          refine hand_take (v := ?vq1_2) 2 12 rfl rfl (by kernel_rfl) (by kernel_rfl) (by kernel_rfl) (fun _ _ _ h => h) (Or.inl ⟨by rfl, ?hyq1_2⟩) hHeld ?restq1_2
          case hyq1_2 => ((intro w hSw; (try dsimp only at hSw); go_simp) <;> with_reducible rfl)
          case' restq1_2 => (simp only [Act.put, List.setIfInBounds_toArray, List.set_cons_zero, List.set_cons_succ])
          refine hand_take (v := ?vq1_3) 3 13 rfl rfl (by kernel_rfl) (by kernel_rfl) (by kernel_rfl) (fun _ _ _ h => h) (Or.inl ⟨by rfl, ?hyq1_3⟩) hHeld ?restq1_3
          case hyq1_3 => ((intro w hSw; (try dsimp only at hSw); go_simp) <;> with_reducible rfl)
          case' restq1_3 => (simp only [Act.put, List.setIfInBounds_toArray, List.set_cons_zero, List.set_cons_succ])
          refine wpAnyH_ready (rs := [4]) (by kernel_rfl) (by simp) ?_
          refine AllReadyH.cons rfl (fun K hK => ?_) AllReadyH.nil
          go_simp
          go_wp2_with (go_at_call 10; refine (hs.out _).mono ?_; rintro e X1 ⟨rfl, b1⟩)
          have HB1 := Lib.hid (HBW.out.trans (b1.mono HBW.out.size))
          obtain ⟨r0, r1, r2, r3, r4, r5⟩ := HQ.out X1 HB1.out
          clear b1
          refine hK.out _ _ ⟨r0, r1, r2, r3, r4, r5⟩ (fun hHeld => ?_)
          clear hK K
          refine hand_take (v := ?vq1_5) 5 15 rfl rfl (by kernel_rfl) (by kernel_rfl) (by kernel_rfl) (fun _ _ _ h => h) (Or.inl ⟨by rfl, ?hyq1_5⟩) hHeld ?restq1_5
          case hyq1_5 => ((intro w hSw; (try dsimp only at hSw); go_simp) <;> with_reducible rfl)
          case' restq1_5 => (simp only [Act.put, List.setIfInBounds_toArray, List.set_cons_zero, List.set_cons_succ])
          refine hand_take (v := ?vq1_6) 6 16 rfl rfl (by kernel_rfl) (by kernel_rfl) (by kernel_rfl) (fun _ _ _ h => h) (Or.inl ⟨by rfl, ?hyq1_6⟩) hHeld ?restq1_6
          case hyq1_6 => ((intro w hSw; (try dsimp only at hSw); go_simp) <;> with_reducible rfl)
          case' restq1_6 => (simp only [Act.put, List.setIfInBounds_toArray, List.set_cons_zero, List.set_cons_succ])
          refine hand_take (v := ?vq1_7) 7 17 rfl rfl (by kernel_rfl) (by kernel_rfl) (by kernel_rfl) (fun _ _ _ h => h) (Or.inl ⟨by rfl, ?hyq1_7⟩) hHeld ?restq1_7
          case hyq1_7 => ((intro w hSw; (try dsimp only at hSw); go_simp) <;> with_reducible rfl)
          case' restq1_7 => (simp only [Act.put, List.setIfInBounds_toArray, List.set_cons_zero, List.set_cons_succ])
          refine hand_take (v := ?vq1_8) 8 18 rfl rfl (by kernel_rfl) (by kernel_rfl) (by kernel_rfl) (fun _ _ _ h => h) (Or.inl ⟨by rfl, ?hyq1_8⟩) hHeld ?restq1_8
          case hyq1_8 => ((intro w hSw; (try dsimp only at hSw); go_simp) <;> with_reducible rfl)
          case' restq1_8 => (simp only [Act.put, List.setIfInBounds_toArray, List.set_cons_zero, List.set_cons_succ])
          refine hand_take (v := ?vq1_9) 9 19 rfl rfl (by kernel_rfl) (by kernel_rfl) (by kernel_rfl) (fun _ _ _ h => h) (Or.inl ⟨by rfl, ?hyq1_9⟩) hHeld ?restq1_9
          case hyq1_9 => ((intro w hSw; (try dsimp only at hSw); go_simp) <;> with_reducible rfl)
          case' restq1_9 => (simp only [Act.put, List.setIfInBounds_toArray, List.set_cons_zero, List.set_cons_succ])
          refine hand_off 10 20 rfl rfl (by kernel_rfl) (by kernel_rfl) (by kernel_rfl) (fun _ _ _ h => h) (by rfl) hHeld ?_
          simp only [Act.put, List.setIfInBounds_toArray, List.set_cons_zero, List.set_cons_succ]
          refine hand_off 11 21 rfl rfl (by kernel_rfl) (by kernel_rfl) (by kernel_rfl) (fun _ _ _ h => h) (by rfl) hHeld ?_
          simp only [Act.put, List.setIfInBounds_toArray, List.set_cons_zero, List.set_cons_succ]
          refine hand_off 12 22 rfl rfl (by kernel_rfl) (by kernel_rfl) (by kernel_rfl) (fun _ _ _ h => h) (by rfl) hHeld ?_
          simp only [Act.put, List.setIfInBounds_toArray, List.set_cons_zero, List.set_cons_succ]
          refine hand_off 13 23 rfl rfl (by kernel_rfl) (by kernel_rfl) (by kernel_rfl) (fun _ _ _ h => h) (by rfl) hHeld ?_
          simp only [Act.put, List.setIfInBounds_toArray, List.set_cons_zero, List.set_cons_succ]
          refine hand_off 14 24 rfl rfl (by kernel_rfl) (by kernel_rfl) (by kernel_rfl) (fun _ _ _ h => h) (by rfl) hHeld ?_
          simp only [Act.put, List.setIfInBounds_toArray, List.set_cons_zero, List.set_cons_succ]
          refine hand_off 15 25 rfl rfl (by kernel_rfl) (by kernel_rfl) (by kernel_rfl) (fun _ _ _ h => h) (by rfl) hHeld ?_
          simp only [Act.put, List.setIfInBounds_toArray, List.set_cons_zero, List.set_cons_succ]
          refine hand_off 16 26 rfl rfl (by kernel_rfl) (by kernel_rfl) (by kernel_rfl) (fun _ _ _ h => h) (by rfl) hHeld ?_
          simp only [Act.put, List.setIfInBounds_toArray, List.set_cons_zero, List.set_cons_succ]
          refine hand_off 17 27 rfl rfl (by kernel_rfl) (by kernel_rfl) (by kernel_rfl) (fun _ _ _ h => h) (by rfl) hHeld ?_
          simp only [Act.put, List.setIfInBounds_toArray, List.set_cons_zero, List.set_cons_succ]
          refine hand_off 18 28 rfl rfl (by kernel_rfl) (by kernel_rfl) (by kernel_rfl) (fun _ _ _ h => h) (by rfl) hHeld ?_
          simp only [Act.put, List.setIfInBounds_toArray, List.set_cons_zero, List.set_cons_succ]
          refine hand_off 19 29 rfl rfl (by kernel_rfl) (by kernel_rfl) (by kernel_rfl) (fun _ _ _ h => h) (by rfl) hHeld ?_
          simp only [Act.put, List.setIfInBounds_toArray, List.set_cons_zero, List.set_cons_succ]
          refine hand_off 20 30 rfl rfl (by kernel_rfl) (by kernel_rfl) (by kernel_rfl) (fun _ _ _ h => h) (by rfl) hHeld ?_
          simp only [Act.put, List.setIfInBounds_toArray, List.set_cons_zero, List.set_cons_succ]
          refine hand_off 21 31 rfl rfl (by kernel_rfl) (by kernel_rfl) (by kernel_rfl) (fun _ _ _ h => h) (by rfl) hHeld ?_
          simp only [Act.put, List.setIfInBounds_toArray, List.set_cons_zero, List.set_cons_succ]
          refine hand_off 22 32 rfl rfl (by kernel_rfl) (by kernel_rfl) (by kernel_rfl) (fun _ _ _ h => h) (by rfl) hHeld ?_
          simp only [Act.put, List.setIfInBounds_toArray, List.set_cons_zero, List.set_cons_succ]
          refine hand_off 23 33 rfl rfl (by kernel_rfl) (by kernel_rfl) (by kernel_rfl) (fun _ _ _ h => h) (by rfl) hHeld ?_
          simp only [Act.put, List.setIfInBounds_toArray, List.set_cons_zero, List.set_cons_succ]
          refine hand_off 24 34 rfl rfl (by kernel_rfl) (by kernel_rfl) (by kernel_rfl) (fun _ _ _ h => h) (by rfl) hHeld ?_
          simp only [Act.put, List.setIfInBounds_toArray, List.set_cons_zero, List.set_cons_succ]
          refine hand_off 25 35 rfl rfl (by kernel_rfl) (by kernel_rfl) (by kernel_rfl) (fun _ _ _ h => h) (by rfl) hHeld ?_
          simp only [Act.put, List.setIfInBounds_toArray, List.set_cons_zero, List.set_cons_succ]
          refine hand_off 26 36 rfl rfl (by kernel_rfl) (by kernel_rfl) (by kernel_rfl) (fun _ _ _ h => h) (by rfl) hHeld ?_
          simp only [Act.put, List.setIfInBounds_toArray, List.set_cons_zero, List.set_cons_succ]
          refine hand_off 27 37 rfl rfl (by kernel_rfl) (by kernel_rfl) (by kernel_rfl) (fun _ _ _ h => h) (by rfl) hHeld ?_
          simp only [Act.put, List.setIfInBounds_toArray, List.set_cons_zero, List.set_cons_succ]
          refine hand_off 28 38 rfl rfl (by kernel_rfl) (by kernel_rfl) (by kernel_rfl) (fun _ _ _ h => h) (by rfl) hHeld ?_
          simp only [Act.put, List.setIfInBounds_toArray, List.set_cons_zero, List.set_cons_succ]
          refine hand_take (v := ?vq1_29) 29 39 rfl rfl (by kernel_rfl) (by kernel_rfl) (by kernel_rfl) (fun _ _ _ h => h) (Or.inl ⟨by rfl, ?hyq1_29⟩) hHeld ?restq1_29
          case hyq1_29 => ((intro w hSw; (try dsimp only at hSw); go_simp) <;> with_reducible rfl)
          case' restq1_29 => (simp only [Act.put, List.setIfInBounds_toArray, List.set_cons_zero, List.set_cons_succ])
          refine hand_take (v := ?vq1_30) 30 40 rfl rfl (by kernel_rfl) (by kernel_rfl) (by kernel_rfl) (fun _ _ _ h => h) (Or.inl ⟨by rfl, ?hyq1_30⟩) hHeld ?restq1_30
          case hyq1_30 => ((intro w hSw; (try dsimp only at hSw); go_simp) <;> with_reducible rfl)
          case' restq1_30 => (simp only [Act.put, List.setIfInBounds_toArray, List.set_cons_zero, List.set_cons_succ])
          refine wpAnyH_done (by kernel_rfl) ?_ _
          go_wp2_with fail
          go_roundw
          case rel => exact ⟨k + 1, by omega, by go_num, HB1.out, hnx.out HYS.out (fun z h => absurd h (by have := HK0.out; omega))⟩
          case measure => simp [intOf]; omega
        · have g0 : decide ((0 : Int) < (k : Int)) = true := decide_eq_true (by omega)
          have gk : 0 < k := by omega
          obtain ⟨z, hz⟩ : ∃ z, l[k - 1]? = some z := ⟨_, List.getElem?_eq_getElem (by rw [← HN.out]; omega)⟩
          have HZ := Lib.hid hz
          have hzs := (HO.out (k - 1) z (by omega) hz).1
          have HQ' : Hid (∀ X, Below w.heap.size w X → X.cell? ⟨b, off + (k - 1) * 6, none⟩ = some (.int .i64 z.from_) ∧ X.cell? ⟨b, off + (k - 1) * 6 + 1, none⟩ = some (.int .i64 z.pages)) := fun X hX => ⟨((HL.out.below hX).cell hz).1, ((HL.out.below hX).cell hz).2.1⟩
          obtain ⟨_, _, z3, z4, z5, z6, _⟩ := hzs
          clear hz
          have kw : IntKind.i64.wrap ((k : Int) - 1) = (k : Int) - 1 := by simp [IntKind.wrap, IntKind.bits, IntKind.signed]; omega
          have kp : (0 : Int) ≤ (k : Int) - 1 := by omega
          have k1 : (1 : Int) ≤ (k : Int) := by omega
          have k1' : 1 ≤ k := by omega
          have kt : ((k : Int) - 1).toNat = k - 1 := by omega
          have kl : (k : Int) - 1 < n := by omega
          obtain ⟨f1, p1, wt1, kd1, fi1, o1⟩ := z
          simp only at HQ' z3 z4 z5 z6
          have zw : IntKind.i64.wrap (f1 + p1) = f1 + p1 := by simp [IntKind.wrap, IntKind.bits, IntKind.signed]; omega
          by_cases hlo : y.from_ < f1 + p1
          · have HNO : Hid (¬ okTo l n) := by
              show ¬ _
              intro h
              have := (hno.out h).2 _ (by omega) HZ.out
              simp only at this
              omega
            obtain ⟨f, p, wt, kd, fi, o⟩ := y
            simp only [Ar.enc] at HYS s3 s5 hs HQ hlo
            clear hno hwy
            obtain ⟨e0, e1, e2, e3, e4, e5⟩ := HQ.out wr HB.out
            go_wp2_with fail
            have HBW : Hid (Below w.heap.size w wr.drew) := HB.out.drew
            obtain ⟨d0, d1, d2, d3, d4, d5⟩ := HQ.out wr.drew HBW.out
            obtain ⟨d6, d7⟩ := HQ'.out wr.drew HBW.out
            refine wp_region_held_drew (S := (fun X => X.cell? ⟨b, off + k * 6, none⟩ = some (.int .i64 f) ∧ X.cell? ⟨b, off + k * 6 + 1, none⟩ = some (.int .i64 p) ∧ X.cell? ⟨b, off + k * 6 + 2, none⟩ = some (.bool wt) ∧ X.cell? ⟨b, off + k * 6 + 3, none⟩ = some (.int .i64 kd) ∧ X.cell? ⟨b, off + k * 6 + 4, none⟩ = some (.int .i64 fi) ∧ X.cell? ⟨b, off + k * 6 + 5, none⟩ = some (.int .i64 o) ∧ X.cell? ⟨b, off + (k - 1) * 6, none⟩ = some (.int .i64 f1) ∧ X.cell? ⟨b, off + (k - 1) * 6 + 1, none⟩ = some (.int .i64 p1))) (by kernel_rfl) ⟨d0, d1, d2, d3, d4, d5, d6, d7⟩ (fun hHeld => ?_)
            refine hand_take (v := ?vq2_0) 0 10 rfl rfl (by kernel_rfl) (by kernel_rfl) (by kernel_rfl) (fun _ _ _ h => h) (Or.inl ⟨by rfl, ?hyq2_0⟩) hHeld ?restq2_0
            case hyq2_0 => ((intro w hSw; (try dsimp only at hSw); go_simp) <;> with_reducible rfl)
            case' restq2_0 => (simp only [Act.put, List.setIfInBounds_toArray, List.set_cons_zero, List.set_cons_succ])
            refine hand_take (v := ?vq2_1) 1 11 rfl rfl (by kernel_rfl) (by kernel_rfl) (by kernel_rfl) (fun _ _ _ h => h) (Or.inl ⟨by rfl, ?hyq2_1⟩) hHeld ?restq2_1
            case hyq2_1 => ((intro w hSw; (try dsimp only at hSw); go_simp) <;> with_reducible rfl)
            case' restq2_1 => (simp only [Act.put, List.setIfInBounds_toArray, List.set_cons_zero, List.set_cons_succ])
            refine hand_take (v := ?vq2_2) 2 12 rfl rfl (by kernel_rfl) (by kernel_rfl) (by kernel_rfl) (fun _ _ _ h => h) (Or.inl ⟨by rfl, ?hyq2_2⟩) hHeld ?restq2_2
            case hyq2_2 => ((intro w hSw; (try dsimp only at hSw); go_simp) <;> with_reducible rfl)
            case' restq2_2 => (simp only [Act.put, List.setIfInBounds_toArray, List.set_cons_zero, List.set_cons_succ])
            refine hand_take (v := ?vq2_3) 3 13 rfl rfl (by kernel_rfl) (by kernel_rfl) (by kernel_rfl) (fun _ _ _ h => h) (Or.inl ⟨by rfl, ?hyq2_3⟩) hHeld ?restq2_3
            case hyq2_3 => ((intro w hSw; (try dsimp only at hSw); go_simp) <;> with_reducible rfl)
            case' restq2_3 => (simp only [Act.put, List.setIfInBounds_toArray, List.set_cons_zero, List.set_cons_succ])
            refine wpAnyH_ready (rs := [4]) (by kernel_rfl) (by simp) ?_
            refine AllReadyH.cons rfl (fun K hK => ?_) AllReadyH.nil
            go_simp
            go_wp2_with (go_at_call 10; refine (hs.out _).mono ?_; rintro e X1 ⟨rfl, b1⟩)
            have HB1 := Lib.hid (HBW.out.trans (b1.mono HBW.out.size))
            obtain ⟨r0, r1, r2, r3, r4, r5⟩ := HQ.out X1 HB1.out
            obtain ⟨r6, r7⟩ := HQ'.out X1 HB1.out
            clear b1
            refine hK.out _ _ ⟨r0, r1, r2, r3, r4, r5, r6, r7⟩ (fun hHeld => ?_)
            clear hK K
            refine hand_take (v := ?vq2_5) 5 15 rfl rfl (by kernel_rfl) (by kernel_rfl) (by kernel_rfl) (fun _ _ _ h => h) (Or.inl ⟨by rfl, ?hyq2_5⟩) hHeld ?restq2_5
            case hyq2_5 => ((intro w hSw; (try dsimp only at hSw); go_simp) <;> with_reducible rfl)
            case' restq2_5 => (simp only [Act.put, List.setIfInBounds_toArray, List.set_cons_zero, List.set_cons_succ])
            refine hand_take (v := ?vq2_6) 6 16 rfl rfl (by kernel_rfl) (by kernel_rfl) (by kernel_rfl) (fun _ _ _ h => h) (Or.inl ⟨by rfl, ?hyq2_6⟩) hHeld ?restq2_6
            case hyq2_6 => ((intro w hSw; (try dsimp only at hSw); go_simp) <;> with_reducible rfl)
            case' restq2_6 => (simp only [Act.put, List.setIfInBounds_toArray, List.set_cons_zero, List.set_cons_succ])
            refine hand_take (v := ?vq2_7) 7 17 rfl rfl (by kernel_rfl) (by kernel_rfl) (by kernel_rfl) (fun _ _ _ h => h) (Or.inl ⟨by rfl, ?hyq2_7⟩) hHeld ?restq2_7
            case hyq2_7 => ((intro w hSw; (try dsimp only at hSw); go_simp) <;> with_reducible rfl)
            case' restq2_7 => (simp only [Act.put, List.setIfInBounds_toArray, List.set_cons_zero, List.set_cons_succ])
            refine hand_take (v := ?vq2_8) 8 18 rfl rfl (by kernel_rfl) (by kernel_rfl) (by kernel_rfl) (fun _ _ _ h => h) (Or.inl ⟨by rfl, ?hyq2_8⟩) hHeld ?restq2_8
            case hyq2_8 => ((intro w hSw; (try dsimp only at hSw); go_simp) <;> with_reducible rfl)
            case' restq2_8 => (simp only [Act.put, List.setIfInBounds_toArray, List.set_cons_zero, List.set_cons_succ])
            refine hand_take (v := ?vq2_9) 9 19 rfl rfl (by kernel_rfl) (by kernel_rfl) (by kernel_rfl) (fun _ _ _ h => h) (Or.inl ⟨by rfl, ?hyq2_9⟩) hHeld ?restq2_9
            case hyq2_9 => ((intro w hSw; (try dsimp only at hSw); go_simp) <;> with_reducible rfl)
            case' restq2_9 => (simp only [Act.put, List.setIfInBounds_toArray, List.set_cons_zero, List.set_cons_succ])
            refine hand_take (v := ?vq2_10) 10 20 rfl rfl (by kernel_rfl) (by kernel_rfl) (by kernel_rfl) (fun _ _ _ h => h) (Or.inl ⟨by rfl, ?hyq2_10⟩) hHeld ?restq2_10
            case hyq2_10 => ((intro w hSw; (try dsimp only at hSw); go_simp) <;> with_reducible rfl)
            case' restq2_10 => (simp only [Act.put, List.setIfInBounds_toArray, List.set_cons_zero, List.set_cons_succ])
            refine hand_take (v := ?vq2_11) 11 21 rfl rfl (by kernel_rfl) (by kernel_rfl) (by kernel_rfl) (fun _ _ _ h => h) (Or.inl ⟨by rfl, ?hyq2_11⟩) hHeld ?restq2_11
            case hyq2_11 => ((intro w hSw; (try dsimp only at hSw); go_simp) <;> with_reducible rfl)
            case' restq2_11 => (simp only [Act.put, List.setIfInBounds_toArray, List.set_cons_zero, List.set_cons_succ])
            refine hand_take (v := ?vq2_12) 12 22 rfl rfl (by kernel_rfl) (by kernel_rfl) (by kernel_rfl) (fun _ _ _ h => h) (Or.inl ⟨by rfl, ?hyq2_12⟩) hHeld ?restq2_12
            case hyq2_12 => ((intro w hSw; (try dsimp only at hSw); go_simp) <;> with_reducible rfl)
            case' restq2_12 => (simp only [Act.put, List.setIfInBounds_toArray, List.set_cons_zero, List.set_cons_succ])
            refine hand_take (v := ?vq2_13) 13 23 rfl rfl (by kernel_rfl) (by kernel_rfl) (by kernel_rfl) (fun _ _ _ h => h) (Or.inl ⟨by rfl, ?hyq2_13⟩) hHeld ?restq2_13
            case hyq2_13 => ((intro w hSw; (try dsimp only at hSw); go_simp) <;> with_reducible rfl)
            case' restq2_13 => (simp only [Act.put, List.setIfInBounds_toArray, List.set_cons_zero, List.set_cons_succ])
            refine hand_take (v := ?vq2_14) 14 24 rfl rfl (by kernel_rfl) (by kernel_rfl) (by kernel_rfl) (fun _ _ _ h => h) (Or.inl ⟨by rfl, ?hyq2_14⟩) hHeld ?restq2_14
            case hyq2_14 => ((intro w hSw; (try dsimp only at hSw); go_simp) <;> with_reducible rfl)
            case' restq2_14 => (simp only [Act.put, List.setIfInBounds_toArray, List.set_cons_zero, List.set_cons_succ])
            refine hand_take (v := ?vq2_15) 15 25 rfl rfl (by kernel_rfl) (by kernel_rfl) (by kernel_rfl) (fun _ _ _ h => h) (Or.inl ⟨by rfl, ?hyq2_15⟩) hHeld ?restq2_15
            case hyq2_15 => ((intro w hSw; (try dsimp only at hSw); go_simp) <;> with_reducible rfl)
            case' restq2_15 => (simp only [Act.put, List.setIfInBounds_toArray, List.set_cons_zero, List.set_cons_succ])
            refine hand_take (v := ?vq2_16) 16 26 rfl rfl (by kernel_rfl) (by kernel_rfl) (by kernel_rfl) (fun _ _ _ h => h) (Or.inl ⟨by rfl, ?hyq2_16⟩) hHeld ?restq2_16
            case hyq2_16 => ((intro w hSw; (try dsimp only at hSw); go_simp) <;> with_reducible rfl)
            case' restq2_16 => (simp only [Act.put, List.setIfInBounds_toArray, List.set_cons_zero, List.set_cons_succ])
            refine hand_take (v := ?vq2_17) 17 27 rfl rfl (by kernel_rfl) (by kernel_rfl) (by kernel_rfl) (fun _ _ _ h => h) (Or.inl ⟨by rfl, ?hyq2_17⟩) hHeld ?restq2_17
            case hyq2_17 => ((intro w hSw; (try dsimp only at hSw); go_simp) <;> with_reducible rfl)
            case' restq2_17 => (simp only [Act.put, List.setIfInBounds_toArray, List.set_cons_zero, List.set_cons_succ])
            refine hand_take (v := ?vq2_18) 18 28 rfl rfl (by kernel_rfl) (by kernel_rfl) (by kernel_rfl) (fun _ _ _ h => h) (Or.inl ⟨by rfl, ?hyq2_18⟩) hHeld ?restq2_18
            case hyq2_18 => ((intro w hSw; (try dsimp only at hSw); go_simp) <;> with_reducible rfl)
            case' restq2_18 => (simp only [Act.put, List.setIfInBounds_toArray, List.set_cons_zero, List.set_cons_succ])
            refine hand_take (v := ?vq2_19) 19 29 rfl rfl (by kernel_rfl) (by kernel_rfl) (by kernel_rfl) (fun _ _ _ h => h) (Or.inl ⟨by rfl, ?hyq2_19⟩) hHeld ?restq2_19
            case hyq2_19 => ((intro w hSw; (try dsimp only at hSw); go_simp) <;> with_reducible rfl)
            case' restq2_19 => (simp only [Act.put, List.setIfInBounds_toArray, List.set_cons_zero, List.set_cons_succ])
            refine hand_take (v := ?vq2_20) 20 30 rfl rfl (by kernel_rfl) (by kernel_rfl) (by kernel_rfl) (fun _ _ _ h => h) (Or.inl ⟨by rfl, ?hyq2_20⟩) hHeld ?restq2_20
            case hyq2_20 => ((intro w hSw; (try dsimp only at hSw); go_simp) <;> with_reducible rfl)
            case' restq2_20 => (simp only [Act.put, List.setIfInBounds_toArray, List.set_cons_zero, List.set_cons_succ])
            refine hand_take (v := ?vq2_21) 21 31 rfl rfl (by kernel_rfl) (by kernel_rfl) (by kernel_rfl) (fun _ _ _ h => h) (Or.inl ⟨by rfl, ?hyq2_21⟩) hHeld ?restq2_21
            case hyq2_21 => ((intro w hSw; (try dsimp only at hSw); go_simp) <;> with_reducible rfl)
            case' restq2_21 => (simp only [Act.put, List.setIfInBounds_toArray, List.set_cons_zero, List.set_cons_succ])
            refine hand_take (v := ?vq2_22) 22 32 rfl rfl (by kernel_rfl) (by kernel_rfl) (by kernel_rfl) (fun _ _ _ h => h) (Or.inl ⟨by rfl, ?hyq2_22⟩) hHeld ?restq2_22
            case hyq2_22 => ((intro w hSw; (try dsimp only at hSw); go_simp) <;> with_reducible rfl)
            case' restq2_22 => (simp only [Act.put, List.setIfInBounds_toArray, List.set_cons_zero, List.set_cons_succ])
            refine hand_take (v := ?vq2_23) 23 33 rfl rfl (by kernel_rfl) (by kernel_rfl) (by kernel_rfl) (fun _ _ _ h => h) (Or.inl ⟨by rfl, ?hyq2_23⟩) hHeld ?restq2_23
            case hyq2_23 => ((intro w hSw; (try dsimp only at hSw); go_simp) <;> with_reducible rfl)
            case' restq2_23 => (simp only [Act.put, List.setIfInBounds_toArray, List.set_cons_zero, List.set_cons_succ])
            refine hand_take (v := ?vq2_24) 24 34 rfl rfl (by kernel_rfl) (by kernel_rfl) (by kernel_rfl) (fun _ _ _ h => h) (Or.inl ⟨by rfl, ?hyq2_24⟩) hHeld ?restq2_24
            case hyq2_24 => ((intro w hSw; (try dsimp only at hSw); go_simp) <;> with_reducible rfl)
            case' restq2_24 => (simp only [Act.put, List.setIfInBounds_toArray, List.set_cons_zero, List.set_cons_succ])
            refine hand_take (v := ?vq2_25) 25 35 rfl rfl (by kernel_rfl) (by kernel_rfl) (by kernel_rfl) (fun _ _ _ h => h) (Or.inl ⟨by rfl, ?hyq2_25⟩) hHeld ?restq2_25
            case hyq2_25 => ((intro w hSw; (try dsimp only at hSw); go_simp) <;> with_reducible rfl)
            case' restq2_25 => (simp only [Act.put, List.setIfInBounds_toArray, List.set_cons_zero, List.set_cons_succ])
            refine hand_take (v := ?vq2_26) 26 36 rfl rfl (by kernel_rfl) (by kernel_rfl) (by kernel_rfl) (fun _ _ _ h => h) (Or.inl ⟨by rfl, ?hyq2_26⟩) hHeld ?restq2_26
            case hyq2_26 => ((intro w hSw; (try dsimp only at hSw); go_simp) <;> with_reducible rfl)
            case' restq2_26 => (simp only [Act.put, List.setIfInBounds_toArray, List.set_cons_zero, List.set_cons_succ])
            refine hand_take (v := ?vq2_27) 27 37 rfl rfl (by kernel_rfl) (by kernel_rfl) (by kernel_rfl) (fun _ _ _ h => h) (Or.inl ⟨by rfl, ?hyq2_27⟩) hHeld ?restq2_27
            case hyq2_27 => ((intro w hSw; (try dsimp only at hSw); go_simp) <;> with_reducible rfl)
            case' restq2_27 => (simp only [Act.put, List.setIfInBounds_toArray, List.set_cons_zero, List.set_cons_succ])
            refine hand_take (v := ?vq2_28) 28 38 rfl rfl (by kernel_rfl) (by kernel_rfl) (by kernel_rfl) (fun _ _ _ h => h) (Or.inl ⟨by rfl, ?hyq2_28⟩) hHeld ?restq2_28
            case hyq2_28 => ((intro w hSw; (try dsimp only at hSw); go_simp) <;> with_reducible rfl)
            case' restq2_28 => (simp only [Act.put, List.setIfInBounds_toArray, List.set_cons_zero, List.set_cons_succ])
            refine hand_take (v := ?vq2_29) 29 39 rfl rfl (by kernel_rfl) (by kernel_rfl) (by kernel_rfl) (fun _ _ _ h => h) (Or.inl ⟨by rfl, ?hyq2_29⟩) hHeld ?restq2_29
            case hyq2_29 => ((intro w hSw; (try dsimp only at hSw); go_simp) <;> with_reducible rfl)
            case' restq2_29 => (simp only [Act.put, List.setIfInBounds_toArray, List.set_cons_zero, List.set_cons_succ])
            refine hand_take (v := ?vq2_30) 30 40 rfl rfl (by kernel_rfl) (by kernel_rfl) (by kernel_rfl) (fun _ _ _ h => h) (Or.inl ⟨by rfl, ?hyq2_30⟩) hHeld ?restq2_30
            case hyq2_30 => ((intro w hSw; (try dsimp only at hSw); go_simp) <;> with_reducible rfl)
            case' restq2_30 => (simp only [Act.put, List.setIfInBounds_toArray, List.set_cons_zero, List.set_cons_succ])
            refine wpAnyH_done (by kernel_rfl) ?_ _
            go_wp2_with fail
            go_ret
            exact ⟨false, rfl, Iff.intro (fun h => Bool.noConfusion h) (fun h => absurd h HNO.out), HB1.out⟩
          · have HNX : Hid (∀ z, 0 < k → l[k - 1]? = some z → z.from_ + z.pages ≤ y.from_) := by
              intro z _ hz
              obtain rfl := Option.some.inj (HZ.out.symm.trans hz)
              simp only
              omega
            obtain ⟨f, p, wt, kd, fi, o⟩ := y
            simp only [Ar.enc] at HYS s3 s5 hs HQ hlo HNX
            clear hno hwy
            obtain ⟨e0, e1, e2, e3, e4, e5⟩ := HQ.out wr HB.out
            go_wp2_with fail
            have HBW : Hid (Below w.heap.size w wr.drew) := HB.out.drew
            obtain ⟨d0, d1, d2, d3, d4, d5⟩ := HQ.out wr.drew HBW.out
            obtain ⟨d6, d7⟩ := HQ'.out wr.drew HBW.out
            refine wp_region_held_drew (S := (fun X => X.cell? ⟨b, off + k * 6, none⟩ = some (.int .i64 f) ∧ X.cell? ⟨b, off + k * 6 + 1, none⟩ = some (.int .i64 p) ∧ X.cell? ⟨b, off + k * 6 + 2, none⟩ = some (.bool wt) ∧ X.cell? ⟨b, off + k * 6 + 3, none⟩ = some (.int .i64 kd) ∧ X.cell? ⟨b, off + k * 6 + 4, none⟩ = some (.int .i64 fi) ∧ X.cell? ⟨b, off + k * 6 + 5, none⟩ = some (.int .i64 o) ∧ X.cell? ⟨b, off + (k - 1) * 6, none⟩ = some (.int .i64 f1) ∧ X.cell? ⟨b, off + (k - 1) * 6 + 1, none⟩ = some (.int .i64 p1))) (by kernel_rfl) ⟨d0, d1, d2, d3, d4, d5, d6, d7⟩ (fun hHeld => ?_)
            refine hand_take (v := ?vq3_0) 0 10 rfl rfl (by kernel_rfl) (by kernel_rfl) (by kernel_rfl) (fun _ _ _ h => h) (Or.inl ⟨by rfl, ?hyq3_0⟩) hHeld ?restq3_0
            case hyq3_0 => ((intro w hSw; (try dsimp only at hSw); go_simp) <;> with_reducible rfl)
            case' restq3_0 => (simp only [Act.put, List.setIfInBounds_toArray, List.set_cons_zero, List.set_cons_succ])
            refine hand_take (v := ?vq3_1) 1 11 rfl rfl (by kernel_rfl) (by kernel_rfl) (by kernel_rfl) (fun _ _ _ h => h) (Or.inl ⟨by rfl, ?hyq3_1⟩) hHeld ?restq3_1
            case hyq3_1 => ((intro w hSw; (try dsimp only at hSw); go_simp) <;> with_reducible rfl)
            case' restq3_1 => (simp only [Act.put, List.setIfInBounds_toArray, List.set_cons_zero, List.set_cons_succ])
            refine hand_take (v := ?vq3_2) 2 12 rfl rfl (by kernel_rfl) (by kernel_rfl) (by kernel_rfl) (fun _ _ _ h => h) (Or.inl ⟨by rfl, ?hyq3_2⟩) hHeld ?restq3_2
            case hyq3_2 => ((intro w hSw; (try dsimp only at hSw); go_simp) <;> with_reducible rfl)
            case' restq3_2 => (simp only [Act.put, List.setIfInBounds_toArray, List.set_cons_zero, List.set_cons_succ])
            refine hand_take (v := ?vq3_3) 3 13 rfl rfl (by kernel_rfl) (by kernel_rfl) (by kernel_rfl) (fun _ _ _ h => h) (Or.inl ⟨by rfl, ?hyq3_3⟩) hHeld ?restq3_3
            case hyq3_3 => ((intro w hSw; (try dsimp only at hSw); go_simp) <;> with_reducible rfl)
            case' restq3_3 => (simp only [Act.put, List.setIfInBounds_toArray, List.set_cons_zero, List.set_cons_succ])
            refine wpAnyH_ready (rs := [4]) (by kernel_rfl) (by simp) ?_
            refine AllReadyH.cons rfl (fun K hK => ?_) AllReadyH.nil
            go_simp
            go_wp2_with (go_at_call 10; refine (hs.out _).mono ?_; rintro e X1 ⟨rfl, b1⟩)
            have HB1 := Lib.hid (HBW.out.trans (b1.mono HBW.out.size))
            obtain ⟨r0, r1, r2, r3, r4, r5⟩ := HQ.out X1 HB1.out
            obtain ⟨r6, r7⟩ := HQ'.out X1 HB1.out
            clear b1
            refine hK.out _ _ ⟨r0, r1, r2, r3, r4, r5, r6, r7⟩ (fun hHeld => ?_)
            clear hK K
            refine hand_take (v := ?vq3_5) 5 15 rfl rfl (by kernel_rfl) (by kernel_rfl) (by kernel_rfl) (fun _ _ _ h => h) (Or.inl ⟨by rfl, ?hyq3_5⟩) hHeld ?restq3_5
            case hyq3_5 => ((intro w hSw; (try dsimp only at hSw); go_simp) <;> with_reducible rfl)
            case' restq3_5 => (simp only [Act.put, List.setIfInBounds_toArray, List.set_cons_zero, List.set_cons_succ])
            refine hand_take (v := ?vq3_6) 6 16 rfl rfl (by kernel_rfl) (by kernel_rfl) (by kernel_rfl) (fun _ _ _ h => h) (Or.inl ⟨by rfl, ?hyq3_6⟩) hHeld ?restq3_6
            case hyq3_6 => ((intro w hSw; (try dsimp only at hSw); go_simp) <;> with_reducible rfl)
            case' restq3_6 => (simp only [Act.put, List.setIfInBounds_toArray, List.set_cons_zero, List.set_cons_succ])
            refine hand_take (v := ?vq3_7) 7 17 rfl rfl (by kernel_rfl) (by kernel_rfl) (by kernel_rfl) (fun _ _ _ h => h) (Or.inl ⟨by rfl, ?hyq3_7⟩) hHeld ?restq3_7
            case hyq3_7 => ((intro w hSw; (try dsimp only at hSw); go_simp) <;> with_reducible rfl)
            case' restq3_7 => (simp only [Act.put, List.setIfInBounds_toArray, List.set_cons_zero, List.set_cons_succ])
            refine hand_take (v := ?vq3_8) 8 18 rfl rfl (by kernel_rfl) (by kernel_rfl) (by kernel_rfl) (fun _ _ _ h => h) (Or.inl ⟨by rfl, ?hyq3_8⟩) hHeld ?restq3_8
            case hyq3_8 => ((intro w hSw; (try dsimp only at hSw); go_simp) <;> with_reducible rfl)
            case' restq3_8 => (simp only [Act.put, List.setIfInBounds_toArray, List.set_cons_zero, List.set_cons_succ])
            refine hand_take (v := ?vq3_9) 9 19 rfl rfl (by kernel_rfl) (by kernel_rfl) (by kernel_rfl) (fun _ _ _ h => h) (Or.inl ⟨by rfl, ?hyq3_9⟩) hHeld ?restq3_9
            case hyq3_9 => ((intro w hSw; (try dsimp only at hSw); go_simp) <;> with_reducible rfl)
            case' restq3_9 => (simp only [Act.put, List.setIfInBounds_toArray, List.set_cons_zero, List.set_cons_succ])
            refine hand_take (v := ?vq3_10) 10 20 rfl rfl (by kernel_rfl) (by kernel_rfl) (by kernel_rfl) (fun _ _ _ h => h) (Or.inl ⟨by rfl, ?hyq3_10⟩) hHeld ?restq3_10
            case hyq3_10 => ((intro w hSw; (try dsimp only at hSw); go_simp) <;> with_reducible rfl)
            case' restq3_10 => (simp only [Act.put, List.setIfInBounds_toArray, List.set_cons_zero, List.set_cons_succ])
            refine hand_take (v := ?vq3_11) 11 21 rfl rfl (by kernel_rfl) (by kernel_rfl) (by kernel_rfl) (fun _ _ _ h => h) (Or.inl ⟨by rfl, ?hyq3_11⟩) hHeld ?restq3_11
            case hyq3_11 => ((intro w hSw; (try dsimp only at hSw); go_simp) <;> with_reducible rfl)
            case' restq3_11 => (simp only [Act.put, List.setIfInBounds_toArray, List.set_cons_zero, List.set_cons_succ])
            refine hand_take (v := ?vq3_12) 12 22 rfl rfl (by kernel_rfl) (by kernel_rfl) (by kernel_rfl) (fun _ _ _ h => h) (Or.inl ⟨by rfl, ?hyq3_12⟩) hHeld ?restq3_12
            case hyq3_12 => ((intro w hSw; (try dsimp only at hSw); go_simp) <;> with_reducible rfl)
            case' restq3_12 => (simp only [Act.put, List.setIfInBounds_toArray, List.set_cons_zero, List.set_cons_succ])
            refine hand_take (v := ?vq3_13) 13 23 rfl rfl (by kernel_rfl) (by kernel_rfl) (by kernel_rfl) (fun _ _ _ h => h) (Or.inl ⟨by rfl, ?hyq3_13⟩) hHeld ?restq3_13
            case hyq3_13 => ((intro w hSw; (try dsimp only at hSw); go_simp) <;> with_reducible rfl)
            case' restq3_13 => (simp only [Act.put, List.setIfInBounds_toArray, List.set_cons_zero, List.set_cons_succ])
            refine hand_take (v := ?vq3_14) 14 24 rfl rfl (by kernel_rfl) (by kernel_rfl) (by kernel_rfl) (fun _ _ _ h => h) (Or.inl ⟨by rfl, ?hyq3_14⟩) hHeld ?restq3_14
            case hyq3_14 => ((intro w hSw; (try dsimp only at hSw); go_simp) <;> with_reducible rfl)
            case' restq3_14 => (simp only [Act.put, List.setIfInBounds_toArray, List.set_cons_zero, List.set_cons_succ])
            refine hand_take (v := ?vq3_15) 15 25 rfl rfl (by kernel_rfl) (by kernel_rfl) (by kernel_rfl) (fun _ _ _ h => h) (Or.inl ⟨by rfl, ?hyq3_15⟩) hHeld ?restq3_15
            case hyq3_15 => ((intro w hSw; (try dsimp only at hSw); go_simp) <;> with_reducible rfl)
            case' restq3_15 => (simp only [Act.put, List.setIfInBounds_toArray, List.set_cons_zero, List.set_cons_succ])
            refine hand_take (v := ?vq3_16) 16 26 rfl rfl (by kernel_rfl) (by kernel_rfl) (by kernel_rfl) (fun _ _ _ h => h) (Or.inl ⟨by rfl, ?hyq3_16⟩) hHeld ?restq3_16
            case hyq3_16 => ((intro w hSw; (try dsimp only at hSw); go_simp) <;> with_reducible rfl)
            case' restq3_16 => (simp only [Act.put, List.setIfInBounds_toArray, List.set_cons_zero, List.set_cons_succ])
            refine hand_take (v := ?vq3_17) 17 27 rfl rfl (by kernel_rfl) (by kernel_rfl) (by kernel_rfl) (fun _ _ _ h => h) (Or.inl ⟨by rfl, ?hyq3_17⟩) hHeld ?restq3_17
            case hyq3_17 => ((intro w hSw; (try dsimp only at hSw); go_simp) <;> with_reducible rfl)
            case' restq3_17 => (simp only [Act.put, List.setIfInBounds_toArray, List.set_cons_zero, List.set_cons_succ])
            refine hand_take (v := ?vq3_18) 18 28 rfl rfl (by kernel_rfl) (by kernel_rfl) (by kernel_rfl) (fun _ _ _ h => h) (Or.inl ⟨by rfl, ?hyq3_18⟩) hHeld ?restq3_18
            case hyq3_18 => ((intro w hSw; (try dsimp only at hSw); go_simp) <;> with_reducible rfl)
            case' restq3_18 => (simp only [Act.put, List.setIfInBounds_toArray, List.set_cons_zero, List.set_cons_succ])
            refine hand_take (v := ?vq3_19) 19 29 rfl rfl (by kernel_rfl) (by kernel_rfl) (by kernel_rfl) (fun _ _ _ h => h) (Or.inl ⟨by rfl, ?hyq3_19⟩) hHeld ?restq3_19
            case hyq3_19 => ((intro w hSw; (try dsimp only at hSw); go_simp) <;> with_reducible rfl)
            case' restq3_19 => (simp only [Act.put, List.setIfInBounds_toArray, List.set_cons_zero, List.set_cons_succ])
            refine hand_take (v := ?vq3_20) 20 30 rfl rfl (by kernel_rfl) (by kernel_rfl) (by kernel_rfl) (fun _ _ _ h => h) (Or.inl ⟨by rfl, ?hyq3_20⟩) hHeld ?restq3_20
            case hyq3_20 => ((intro w hSw; (try dsimp only at hSw); go_simp) <;> with_reducible rfl)
            case' restq3_20 => (simp only [Act.put, List.setIfInBounds_toArray, List.set_cons_zero, List.set_cons_succ])
            refine hand_take (v := ?vq3_21) 21 31 rfl rfl (by kernel_rfl) (by kernel_rfl) (by kernel_rfl) (fun _ _ _ h => h) (Or.inl ⟨by rfl, ?hyq3_21⟩) hHeld ?restq3_21
            case hyq3_21 => ((intro w hSw; (try dsimp only at hSw); go_simp) <;> with_reducible rfl)
            case' restq3_21 => (simp only [Act.put, List.setIfInBounds_toArray, List.set_cons_zero, List.set_cons_succ])
            refine hand_take (v := ?vq3_22) 22 32 rfl rfl (by kernel_rfl) (by kernel_rfl) (by kernel_rfl) (fun _ _ _ h => h) (Or.inl ⟨by rfl, ?hyq3_22⟩) hHeld ?restq3_22
            case hyq3_22 => ((intro w hSw; (try dsimp only at hSw); go_simp) <;> with_reducible rfl)
            case' restq3_22 => (simp only [Act.put, List.setIfInBounds_toArray, List.set_cons_zero, List.set_cons_succ])
            refine hand_take (v := ?vq3_23) 23 33 rfl rfl (by kernel_rfl) (by kernel_rfl) (by kernel_rfl) (fun _ _ _ h => h) (Or.inl ⟨by rfl, ?hyq3_23⟩) hHeld ?restq3_23
            case hyq3_23 => ((intro w hSw; (try dsimp only at hSw); go_simp) <;> with_reducible rfl)
            case' restq3_23 => (simp only [Act.put, List.setIfInBounds_toArray, List.set_cons_zero, List.set_cons_succ])
            refine hand_take (v := ?vq3_24) 24 34 rfl rfl (by kernel_rfl) (by kernel_rfl) (by kernel_rfl) (fun _ _ _ h => h) (Or.inl ⟨by rfl, ?hyq3_24⟩) hHeld ?restq3_24
            case hyq3_24 => ((intro w hSw; (try dsimp only at hSw); go_simp) <;> with_reducible rfl)
            case' restq3_24 => (simp only [Act.put, List.setIfInBounds_toArray, List.set_cons_zero, List.set_cons_succ])
            refine hand_take (v := ?vq3_25) 25 35 rfl rfl (by kernel_rfl) (by kernel_rfl) (by kernel_rfl) (fun _ _ _ h => h) (Or.inl ⟨by rfl, ?hyq3_25⟩) hHeld ?restq3_25
            case hyq3_25 => ((intro w hSw; (try dsimp only at hSw); go_simp) <;> with_reducible rfl)
            case' restq3_25 => (simp only [Act.put, List.setIfInBounds_toArray, List.set_cons_zero, List.set_cons_succ])
            refine hand_take (v := ?vq3_26) 26 36 rfl rfl (by kernel_rfl) (by kernel_rfl) (by kernel_rfl) (fun _ _ _ h => h) (Or.inl ⟨by rfl, ?hyq3_26⟩) hHeld ?restq3_26
            case hyq3_26 => ((intro w hSw; (try dsimp only at hSw); go_simp) <;> with_reducible rfl)
            case' restq3_26 => (simp only [Act.put, List.setIfInBounds_toArray, List.set_cons_zero, List.set_cons_succ])
            refine hand_take (v := ?vq3_27) 27 37 rfl rfl (by kernel_rfl) (by kernel_rfl) (by kernel_rfl) (fun _ _ _ h => h) (Or.inl ⟨by rfl, ?hyq3_27⟩) hHeld ?restq3_27
            case hyq3_27 => ((intro w hSw; (try dsimp only at hSw); go_simp) <;> with_reducible rfl)
            case' restq3_27 => (simp only [Act.put, List.setIfInBounds_toArray, List.set_cons_zero, List.set_cons_succ])
            refine hand_take (v := ?vq3_28) 28 38 rfl rfl (by kernel_rfl) (by kernel_rfl) (by kernel_rfl) (fun _ _ _ h => h) (Or.inl ⟨by rfl, ?hyq3_28⟩) hHeld ?restq3_28
            case hyq3_28 => ((intro w hSw; (try dsimp only at hSw); go_simp) <;> with_reducible rfl)
            case' restq3_28 => (simp only [Act.put, List.setIfInBounds_toArray, List.set_cons_zero, List.set_cons_succ])
            refine hand_take (v := ?vq3_29) 29 39 rfl rfl (by kernel_rfl) (by kernel_rfl) (by kernel_rfl) (fun _ _ _ h => h) (Or.inl ⟨by rfl, ?hyq3_29⟩) hHeld ?restq3_29
            case hyq3_29 => ((intro w hSw; (try dsimp only at hSw); go_simp) <;> with_reducible rfl)
            case' restq3_29 => (simp only [Act.put, List.setIfInBounds_toArray, List.set_cons_zero, List.set_cons_succ])
            refine hand_take (v := ?vq3_30) 30 40 rfl rfl (by kernel_rfl) (by kernel_rfl) (by kernel_rfl) (fun _ _ _ h => h) (Or.inl ⟨by rfl, ?hyq3_30⟩) hHeld ?restq3_30
            case hyq3_30 => ((intro w hSw; (try dsimp only at hSw); go_simp) <;> with_reducible rfl)
            case' restq3_30 => (simp only [Act.put, List.setIfInBounds_toArray, List.set_cons_zero, List.set_cons_succ])
            refine wpAnyH_done (by kernel_rfl) ?_ _
            go_wp2_with fail
            go_roundw
            case rel => exact ⟨k + 1, by omega, by go_num, HB1.out, hnx.out HYS.out HNX.out⟩
            case measure => simp [intOf]; omega
      · have HNO : Hid (¬ okTo l n) := by
          show ¬ _
          intro h
          exact hys (hno.out h).1
        have hs := Lib.hid (fun W => Sound_ref W y hwy)
        rw [decide_eq_false hys] at hs
        have HYS : Hid True := trivial
        have HQ : Hid (∀ X, Below w.heap.size w X → _) := fun X hX => (HL.out.below hX).cell HY.out
        clear hys
        obtain ⟨f, p, wt, kd, fi, o⟩ := y
        simp only [Ar.enc] at  hs HQ 
        clear hno hwy
        obtain ⟨e0, e1, e2, e3, e4, e5⟩ := HQ.out wr HB.out
        go_wp2_with fail
        have HBW : Hid (Below w.heap.size w wr.drew) := HB.out.drew
        obtain ⟨d0, d1, d2, d3, d4, d5⟩ := HQ.out wr.drew HBW.out
        skip
        refine wp_region_held_drew (S := (fun X => X.cell? ⟨b, off + k * 6, none⟩ = some (.int .i64 f) ∧ X.cell? ⟨b, off + k * 6 + 1, none⟩ = some (.int .i64 p) ∧ X.cell? ⟨b, off + k * 6 + 2, none⟩ = some (.bool wt) ∧ X.cell? ⟨b, off + k * 6 + 3, none⟩ = some (.int .i64 kd) ∧ X.cell? ⟨b, off + k * 6 + 4, none⟩ = some (.int .i64 fi) ∧ X.cell? ⟨b, off + k * 6 + 5, none⟩ = some (.int .i64 o))) (by kernel_rfl) ⟨d0, d1, d2, d3, d4, d5⟩ (fun hHeld => ?_)
        refine hand_take (v := ?vq4_0) 0 10 rfl rfl (by kernel_rfl) (by kernel_rfl) (by kernel_rfl) (fun _ _ _ h => h) (Or.inl ⟨by rfl, ?hyq4_0⟩) hHeld ?restq4_0
        case hyq4_0 => ((intro w hSw; (try dsimp only at hSw); go_simp) <;> with_reducible rfl)
        case' restq4_0 => (simp only [Act.put, List.setIfInBounds_toArray, List.set_cons_zero, List.set_cons_succ])
        refine hand_take (v := ?vq4_1) 1 11 rfl rfl (by kernel_rfl) (by kernel_rfl) (by kernel_rfl) (fun _ _ _ h => h) (Or.inl ⟨by rfl, ?hyq4_1⟩) hHeld ?restq4_1
        case hyq4_1 => ((intro w hSw; (try dsimp only at hSw); go_simp) <;> with_reducible rfl)
        case' restq4_1 => (simp only [Act.put, List.setIfInBounds_toArray, List.set_cons_zero, List.set_cons_succ])
        refine hand_take (v := ?vq4_2) 2 12 rfl rfl (by kernel_rfl) (by kernel_rfl) (by kernel_rfl) (fun _ _ _ h => h) (Or.inl ⟨by rfl, ?hyq4_2⟩) hHeld ?restq4_2
        case hyq4_2 => ((intro w hSw; (try dsimp only at hSw); go_simp) <;> with_reducible rfl)
        case' restq4_2 => (simp only [Act.put, List.setIfInBounds_toArray, List.set_cons_zero, List.set_cons_succ])
        refine hand_take (v := ?vq4_3) 3 13 rfl rfl (by kernel_rfl) (by kernel_rfl) (by kernel_rfl) (fun _ _ _ h => h) (Or.inl ⟨by rfl, ?hyq4_3⟩) hHeld ?restq4_3
        case hyq4_3 => ((intro w hSw; (try dsimp only at hSw); go_simp) <;> with_reducible rfl)
        case' restq4_3 => (simp only [Act.put, List.setIfInBounds_toArray, List.set_cons_zero, List.set_cons_succ])
        refine wpAnyH_ready (rs := [4]) (by kernel_rfl) (by simp) ?_
        refine AllReadyH.cons rfl (fun K hK => ?_) AllReadyH.nil
        go_simp
        go_wp2_with (go_at_call 10; refine (hs.out _).mono ?_; rintro e X1 ⟨rfl, b1⟩)
        have HB1 := Lib.hid (HBW.out.trans (b1.mono HBW.out.size))
        obtain ⟨r0, r1, r2, r3, r4, r5⟩ := HQ.out X1 HB1.out
        clear b1
        refine hK.out _ _ ⟨r0, r1, r2, r3, r4, r5⟩ (fun hHeld => ?_)
        clear hK K
        refine hand_take (v := ?vq4_5) 5 15 rfl rfl (by kernel_rfl) (by kernel_rfl) (by kernel_rfl) (fun _ _ _ h => h) (Or.inl ⟨by rfl, ?hyq4_5⟩) hHeld ?restq4_5
        case hyq4_5 => ((intro w hSw; (try dsimp only at hSw); go_simp) <;> with_reducible rfl)
        case' restq4_5 => (simp only [Act.put, List.setIfInBounds_toArray, List.set_cons_zero, List.set_cons_succ])
        refine hand_take (v := ?vq4_6) 6 16 rfl rfl (by kernel_rfl) (by kernel_rfl) (by kernel_rfl) (fun _ _ _ h => h) (Or.inl ⟨by rfl, ?hyq4_6⟩) hHeld ?restq4_6
        case hyq4_6 => ((intro w hSw; (try dsimp only at hSw); go_simp) <;> with_reducible rfl)
        case' restq4_6 => (simp only [Act.put, List.setIfInBounds_toArray, List.set_cons_zero, List.set_cons_succ])
        refine hand_off 7 17 rfl rfl (by kernel_rfl) (by kernel_rfl) (by kernel_rfl) (fun _ _ _ h => h) (by rfl) hHeld ?_
        simp only [Act.put, List.setIfInBounds_toArray, List.set_cons_zero, List.set_cons_succ]
        refine hand_off 8 18 rfl rfl (by kernel_rfl) (by kernel_rfl) (by kernel_rfl) (fun _ _ _ h => h) (by rfl) hHeld ?_
        simp only [Act.put, List.setIfInBounds_toArray, List.set_cons_zero, List.set_cons_succ]
        refine hand_off 9 19 rfl rfl (by kernel_rfl) (by kernel_rfl) (by kernel_rfl) (fun _ _ _ h => h) (by rfl) hHeld ?_
        simp only [Act.put, List.setIfInBounds_toArray, List.set_cons_zero, List.set_cons_succ]
        refine hand_off 10 20 rfl rfl (by kernel_rfl) (by kernel_rfl) (by kernel_rfl) (fun _ _ _ h => h) (by rfl) hHeld ?_
        simp only [Act.put, List.setIfInBounds_toArray, List.set_cons_zero, List.set_cons_succ]
        refine hand_off 11 21 rfl rfl (by kernel_rfl) (by kernel_rfl) (by kernel_rfl) (fun _ _ _ h => h) (by rfl) hHeld ?_
        simp only [Act.put, List.setIfInBounds_toArray, List.set_cons_zero, List.set_cons_succ]
        refine hand_off 12 22 rfl rfl (by kernel_rfl) (by kernel_rfl) (by kernel_rfl) (fun _ _ _ h => h) (by rfl) hHeld ?_
        simp only [Act.put, List.setIfInBounds_toArray, List.set_cons_zero, List.set_cons_succ]
        refine hand_off 13 23 rfl rfl (by kernel_rfl) (by kernel_rfl) (by kernel_rfl) (fun _ _ _ h => h) (by rfl) hHeld ?_
        simp only [Act.put, List.setIfInBounds_toArray, List.set_cons_zero, List.set_cons_succ]
        refine hand_off 14 24 rfl rfl (by kernel_rfl) (by kernel_rfl) (by kernel_rfl) (fun _ _ _ h => h) (by rfl) hHeld ?_
        simp only [Act.put, List.setIfInBounds_toArray, List.set_cons_zero, List.set_cons_succ]
        refine hand_off 15 25 rfl rfl (by kernel_rfl) (by kernel_rfl) (by kernel_rfl) (fun _ _ _ h => h) (by rfl) hHeld ?_
        simp only [Act.put, List.setIfInBounds_toArray, List.set_cons_zero, List.set_cons_succ]
        refine hand_off 16 26 rfl rfl (by kernel_rfl) (by kernel_rfl) (by kernel_rfl) (fun _ _ _ h => h) (by rfl) hHeld ?_
        simp only [Act.put, List.setIfInBounds_toArray, List.set_cons_zero, List.set_cons_succ]
        refine hand_off 17 27 rfl rfl (by kernel_rfl) (by kernel_rfl) (by kernel_rfl) (fun _ _ _ h => h) (by rfl) hHeld ?_
        simp only [Act.put, List.setIfInBounds_toArray, List.set_cons_zero, List.set_cons_succ]
        refine hand_off 18 28 rfl rfl (by kernel_rfl) (by kernel_rfl) (by kernel_rfl) (fun _ _ _ h => h) (by rfl) hHeld ?_
        simp only [Act.put, List.setIfInBounds_toArray, List.set_cons_zero, List.set_cons_succ]
        refine hand_off 19 29 rfl rfl (by kernel_rfl) (by kernel_rfl) (by kernel_rfl) (fun _ _ _ h => h) (by rfl) hHeld ?_
        simp only [Act.put, List.setIfInBounds_toArray, List.set_cons_zero, List.set_cons_succ]
        refine hand_off 20 30 rfl rfl (by kernel_rfl) (by kernel_rfl) (by kernel_rfl) (fun _ _ _ h => h) (by rfl) hHeld ?_
        simp only [Act.put, List.setIfInBounds_toArray, List.set_cons_zero, List.set_cons_succ]
        refine hand_off 21 31 rfl rfl (by kernel_rfl) (by kernel_rfl) (by kernel_rfl) (fun _ _ _ h => h) (by rfl) hHeld ?_
        simp only [Act.put, List.setIfInBounds_toArray, List.set_cons_zero, List.set_cons_succ]
        refine hand_off 22 32 rfl rfl (by kernel_rfl) (by kernel_rfl) (by kernel_rfl) (fun _ _ _ h => h) (by rfl) hHeld ?_
        simp only [Act.put, List.setIfInBounds_toArray, List.set_cons_zero, List.set_cons_succ]
        refine hand_off 23 33 rfl rfl (by kernel_rfl) (by kernel_rfl) (by kernel_rfl) (fun _ _ _ h => h) (by rfl) hHeld ?_
        simp only [Act.put, List.setIfInBounds_toArray, List.set_cons_zero, List.set_cons_succ]
        refine hand_off 24 34 rfl rfl (by kernel_rfl) (by kernel_rfl) (by kernel_rfl) (fun _ _ _ h => h) (by rfl) hHeld ?_
        simp only [Act.put, List.setIfInBounds_toArray, List.set_cons_zero, List.set_cons_succ]
        refine hand_off 25 35 rfl rfl (by kernel_rfl) (by kernel_rfl) (by kernel_rfl) (fun _ _ _ h => h) (by rfl) hHeld ?_
        simp only [Act.put, List.setIfInBounds_toArray, List.set_cons_zero, List.set_cons_succ]
        refine hand_off 26 36 rfl rfl (by kernel_rfl) (by kernel_rfl) (by kernel_rfl) (fun _ _ _ h => h) (by rfl) hHeld ?_
        simp only [Act.put, List.setIfInBounds_toArray, List.set_cons_zero, List.set_cons_succ]
        refine hand_off 27 37 rfl rfl (by kernel_rfl) (by kernel_rfl) (by kernel_rfl) (fun _ _ _ h => h) (by rfl) hHeld ?_
        simp only [Act.put, List.setIfInBounds_toArray, List.set_cons_zero, List.set_cons_succ]
        refine hand_off 28 38 rfl rfl (by kernel_rfl) (by kernel_rfl) (by kernel_rfl) (fun _ _ _ h => h) (by rfl) hHeld ?_
        simp only [Act.put, List.setIfInBounds_toArray, List.set_cons_zero, List.set_cons_succ]
        refine hand_off 29 39 rfl rfl (by kernel_rfl) (by kernel_rfl) (by kernel_rfl) (fun _ _ _ h => h) (by rfl) hHeld ?_
        simp only [Act.put, List.setIfInBounds_toArray, List.set_cons_zero, List.set_cons_succ]
        refine hand_take (v := ?vq4_30) 30 40 rfl rfl (by kernel_rfl) (by kernel_rfl) (by kernel_rfl) (fun _ _ _ h => h) (Or.inl ⟨by rfl, ?hyq4_30⟩) hHeld ?restq4_30
        case hyq4_30 => ((intro w hSw; (try dsimp only at hSw); go_simp) <;> with_reducible rfl)
        case' restq4_30 => (simp only [Act.put, List.setIfInBounds_toArray, List.set_cons_zero, List.set_cons_succ])
        refine wpAnyH_done (by kernel_rfl) ?_ _
        go_wp2_with fail
        go_ret
        exact ⟨false, rfl, Iff.intro (fun h => Bool.noConfusion h) (fun h => absurd h HNO.out), HB1.out⟩
    · have e : k = n := by omega
      subst e
      go_wp2_with fail
      go_ret
      exact ⟨true, rfl, ⟨fun _ => HO.out, fun _ => rfl⟩, HB.out⟩
end Go.Proofs.Ytcghenehcpogpaa
