/- slices.Grow, slices.Concat, slices.Clip at areas. -/
import Derived.Test.YtcghenehcpogpaaAreaSplit
namespace Go.Proofs.Ytcghenehcpogpaa
open Go Go.RowKit

theorem ClipA_walk (w : World) (v : Value) (l : List Ar) (h : ArAt w v l) :
    Calls Try.prog 25 #[v] w fun e w' => ∃ v', e = .returned v' ∧ ArAt w' v' l ∧ w' = w ∧ v'.ownBlock = v.ownBlock := by
  rcases h.form with ⟨rfl, rfl⟩ | ⟨b, off, c, rfl, hc, hm, hb⟩
  · go_enter Try.func25, Try.ntmps25
    go_wp2_with fail
    go_ret
    exact ⟨_, rfl, ArAt.nil w, rfl, rfl⟩
  · go_enter Try.func25, Try.ntmps25
    go_wp2_with fail
    go_ret
    refine ⟨_, rfl, ?_, rfl, rfl⟩
    rcases h.2 with ⟨e, _⟩ | ⟨b', off', c', arr, e, hg, hnc, hcm, hsz, hx⟩
    · cases e
    · cases e
      exact ⟨h.1, .inr ⟨b, off, l.length, arr, rfl, hg, Nat.le_refl _, by omega, by omega, hx⟩⟩

theorem capA (w : World) (n : Nat) (hn : n ≤ 1000) : ArAt (w.alloc (.cells (Builtin.zeroCells #[.int .i64 0, .int .i64 0, .bool false, .int .i64 0, .int .i64 0, .int .i64 0] n ++ Builtin.zeroCells #[.int .i64 0, .int .i64 0, .bool false, .int .i64 0, .int .i64 0, .int .i64 0] (grownCap w n 0 23 - n)) 23)).drew (.slice (some ⟨w.heap.size, 0, none⟩) 0 (grownCap w n 0 23)) [] := by
  have hge := grownCap_ge w n 0 23
  have hcm := grownCap_le_maxLen w n 0 23 (by unfold maxLen; omega)
  refine ArAt.below ?_ (Below.refl _ _).drew
  refine ⟨rfl, .inr ⟨w.heap.size, 0, _, _, rfl, heap_alloc_new w _, Nat.zero_le _, hcm, ?_, fun j u hu => by simp [ar] at hu⟩⟩
  simp only [Array.size_append, size_zeroCells]
  simp
  omega

set_option maxRecDepth 100000 in
set_option maxHeartbeats 2000000 in
theorem GrowA_walk (w : World) (n : Nat) (hn : n ≤ 1000) :
    Calls Try.prog 47 #[.slice none 0 0, .int .i64 n] w fun e w' => ∃ v', e = .returned v' ∧ ArAt w' v' [] ∧ Below w.heap.size w w' ∧ ∀ b, v'.ownBlock = some b → w.heap.size ≤ b := by
  by_cases h0 : n = 0
  · subst h0
    go_enter Try.func47, Try.ntmps47
    go_wp2_with fail
    go_ret
    exact ⟨_, rfl, ArAt.nil w, Below.refl _ _, by simp [Value.ownBlock]⟩
  · have h1 : (0 : Int) < n := by omega
    have h2 : ¬ (n : Int) < 0 := by omega
    have h3 : (0 : Int) ≤ n := by omega
    have hw : IntKind.i64.wrap (n : Int) = n := by simp [IntKind.wrap, IntKind.bits, IntKind.signed]; omega
    have hby : Try.t23.bytes = 48 := by kernel_rfl
    have g1 : ¬ (281474976710656 : Int) < (n : Int) * (Try.t23.bytes : Int) := by rw [hby]; omega
    have g2 : ¬ 281474976710656 < Builtin.nextslicecap n 0 * Try.t23.bytes := by
      have := growslice_fits (need := n) (old := 0) (bytes := 48) (by omega) (by omega)
      rw [hby]; omega
    clear hby
    go_enter Try.func47, Try.ntmps47
    go_wp2_with fail
    all_goals go_ret
    all_goals exact ⟨_, rfl, capA w n hn, ((Below.refl _ _).alloc (Nat.le_refl _) _).drew, by intro b hb; simp [Value.ownBlock] at hb; omega⟩

/-- A slice of slices of areas: what its elements hold. -/
structure Parts (w : World) (b off : Nat) (vs : List Value) (ls : List (List Ar)) : Prop where
  len : vs.length = ls.length
  cell : ∀ (j : Nat) (v : Value), vs[j]? = some v → w.cell? ⟨b, off + j, none⟩ = some v
  at_ : ∀ (j : Nat) (v : Value) (l : List Ar), vs[j]? = some v → ls[j]? = some l → ArAt w v l
theorem Parts.below {w w' : World} {b off : Nat} {vs : List Value} {ls : List (List Ar)} (h : Parts w b off vs ls) (hb : Below w.heap.size w w') : Parts w' b off vs ls :=
  ⟨h.len, fun j v hv => (hb.cell (World.block_lt_of_cell? _ _ (h.cell j v hv))).trans (h.cell j v hv), fun j v l hv hl => (h.at_ j v l hv hl).below hb⟩
/-- How many areas they are. -/
def sumL (ls : List (List Ar)) : Nat := (ls.map List.length).sum
theorem sumL_snoc (ls : List (List Ar)) (l : List Ar) : sumL (ls ++ [l]) = sumL ls + l.length := by simp [sumL]
theorem sumL_flat (ls : List (List Ar)) : ls.flatten.length = sumL ls := by
  induction ls with
  | nil => rfl
  | cons x l ih => simp [sumL]
theorem sumL_take (ls : List (List Ar)) (k : Nat) : sumL (ls.take k) ≤ sumL ls := by
  induction ls generalizing k with
  | nil => simp [sumL]
  | cons x l ih => cases k with
    | zero => simp [sumL]
    | succ k => have := ih k; simp only [sumL, List.take_succ_cons, List.map_cons, List.sum_cons] at this ⊢; omega

set_option maxRecDepth 100000 in
set_option maxHeartbeats 4000000 in
theorem ConcatA_walk (w : World) (b off c n : Nat) (vs : List Value) (ls : List (List Ar)) (h : Parts w b off vs ls) (hn : n = ls.length) (hn5 : n ≤ 5) (hlen : sumL ls ≤ 1000) :
    Calls Try.prog 35 #[.slice (some ⟨b, off, none⟩) n c] w fun e w' => ∃ v', e = .returned v' ∧ ArAt w' v' ls.flatten ∧ Below w.heap.size w w' ∧ ∀ b, v'.ownBlock = some b → w.heap.size ≤ b := by
  have H := Lib.hid h
  have HN := Lib.hid hn
  clear h hn
  go_enter Try.func35, Try.ntmps35
  go_wp2_with fail
  go_loopw [3, 5, 11] (fun sz _ i wr => ∃ k : Nat, k ≤ n ∧ i = .int .i64 k ∧ sz = .int .i64 (sumL (ls.take k)) ∧ wr = w) (fun _ _ i _ => n - (intOf i).toNat)
  case atStart => exact ⟨0, by omega, rfl, rfl, rfl⟩
  case round =>
    obtain ⟨k, hk, rfl, rfl, hww⟩ := hrel
    rw [hww]
    clear hww
    have hst := sumL_take ls k
    by_cases hlt : k < n
    · have hlt' : (k : Int) < n := by omega
      obtain ⟨l, hl⟩ : ∃ l, ls[k]? = some l := ⟨_, List.getElem?_eq_getElem (by rw [← HN.out]; exact hlt)⟩
      obtain ⟨v, hv⟩ : ∃ v, vs[k]? = some v := ⟨_, List.getElem?_eq_getElem (by rw [H.out.len, ← HN.out]; exact hlt)⟩
      have hc := H.out.cell k v hv
      obtain ⟨av, cv, rfl, _, _⟩ := SlAt.form (H.out.at_ k v l hv hl)
      have hnx : Hid (sumL (ls.take (k + 1)) = sumL (ls.take k) + l.length) := by
        obtain ⟨hj, rfl⟩ := List.getElem?_eq_some_iff.1 hl
        show _ = _
        rw [List.take_succ_eq_append_getElem hj, sumL_snoc]
      have hll : l.length ≤ 1000 := by
        have := sumL_take ls (k + 1)
        rw [hnx.out] at this
        omega
      clear hv hl
      generalize sumL (ls.take k) = q at *
      generalize l.length = m at *
      have hw : IntKind.i64.wrap ((q : Int) + m) = q + m := by simp [IntKind.wrap, IntKind.bits, IntKind.signed]; omega
      have hneg : ¬ (q : Int) + m < 0 := by omega
      go_wp2_with fail
      go_roundw
      case rel => exact ⟨k + 1, by omega, by go_num, by rw [hnx.out]; simp, trivial⟩
      case measure => simp [intOf]; omega
    · have e : ls.take k = ls := List.take_of_length_le (by rw [← HN.out]; omega)
      rw [e]
      clear hst e
      obtain ⟨q, hq⟩ : ∃ q, q = sumL ls := ⟨_, rfl⟩
      rw [← hq] at hlen ⊢
      have HQ := Lib.hid hq
      clear hq
      go_wp2_with fail
      refine (GrowA_walk _ q hlen).mono ?_
      rintro e X ⟨v0, rfl, hp0, b0, ho0⟩
      have HP0 := Lib.hid hp0
      have HB0 := Lib.hid b0
      have HO0 := Lib.hid ho0
      clear hp0 b0 ho0
      obtain ⟨i0, hi0, hz0, hs0, hb0⟩ := infoArea
      go_wp2_with fail
      go_loopw [6, 8, 27] (fun nv _ i wr => ∃ j : Nat, j ≤ n ∧ i = .int .i64 j ∧ ArAt wr nv (ls.take j).flatten ∧ Below w.heap.size w wr ∧ ∀ b, nv.ownBlock = some b → w.heap.size ≤ b) (fun _ _ i _ => n - (intOf i).toNat)
      case atStart => exact ⟨0, by omega, rfl, by simpa using HP0.out, HB0.out, HO0.out⟩
      case round =>
        obtain ⟨j, hj, rfl, hp, hb, ho⟩ := hrel
        have HPj := Lib.hid hp
        have HBj := Lib.hid hb
        have HOj := Lib.hid ho
        clear hp hb ho HP0 HB0 HO0
        by_cases hjt : j < n
        · have hjt' : (j : Int) < n := by omega
          obtain ⟨l, hl⟩ : ∃ l, ls[j]? = some l := ⟨_, List.getElem?_eq_getElem (by rw [← HN.out]; exact hjt)⟩
          obtain ⟨v, hv⟩ : ∃ v, vs[j]? = some v := ⟨_, List.getElem?_eq_getElem (by rw [H.out.len, ← HN.out]; exact hjt)⟩
          have hP := H.out.below HBj.out
          have hc := hP.cell j v hv
          have HV := Lib.hid (hP.at_ j v l hv hl)
          have hnx : Hid ((ls.take (j + 1)).flatten = (ls.take j).flatten ++ l ∧ (ls.take j).flatten.length + l.length ≤ 1000) := by
            obtain ⟨hj2, rfl⟩ := List.getElem?_eq_some_iff.1 hl
            have e : (ls.take (j + 1)).flatten = (ls.take j).flatten ++ ls[j] := by rw [List.take_succ_eq_append_getElem hj2, List.flatten_append, List.flatten_cons, List.flatten_nil, List.append_nil]
            refine ⟨e, ?_⟩
            have h1 := sumL_take ls (j + 1)
            rw [← sumL_flat, e, List.length_append, ← HQ.out] at h1
            omega
          obtain ⟨fl, hfl⟩ : ∃ fl, fl = (ls.take j).flatten := ⟨_, rfl⟩
          rw [← hfl] at HPj hnx
          clear hP hv hl hfl
          go_wp2_with (at_builtin; refine wpList_append_any rfl _ _ 26 rfl i0 _ 48 Try.underlying26 hi0 hz0 hs0 hb0 rfl _ _ _ rfl HPj.out _ _ _ rfl HV.out (ar_one _) ?d1 ?d2 ?d3)
          case d1 => have h1 := hnx.out.2; simp only [maxLen]; omega
          case d2 => have h1 := hnx.out.2; omega
          intro z1 W1 hs1 hg1 hw1
          have HS1 := Lib.hid (And.intro hs1 (And.intro hg1 hw1))
          clear hs1 hg1 hw1
          go_wp2_with fail
          go_roundw
          case rel =>
            obtain ⟨hs1, hg1, hw1⟩ := HS1.out
            refine ⟨j + 1, by omega, by go_num, ?_, HBj.out.grown hg1 HBj.out.size HOj.out, fun b hb => ?_⟩
            · rw [hnx.out.1]
              show SlAt _ _ _ _ _ _
              rw [List.length_append, ar_append]
              exact hs1
            · rcases hw1 with e | e
              · exact HOj.out b (e.symm.trans hb)
              · rw [e] at hb; cases hb; exact HBj.out.size
          case measure => simp [intOf]; omega
        · have e : ls.take j = ls := List.take_of_length_le (by rw [← HN.out]; omega)
          rw [e] at HPj
          go_wp2_with fail
          go_ret
          exact ⟨_, rfl, HPj.out, HBj.out, HOj.out⟩
end Go.Proofs.Ytcghenehcpogpaa
