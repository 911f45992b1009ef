/- The reference's Out: a place out of a list. -/
import Derived.Test.YtflbidbnbfndgaaRefPut
namespace Go.Proofs.Ytflbidbnbfndgaa
open Go Go.RowKit

set_option maxRecDepth 100000 in
set_option maxHeartbeats 1000000 in
theorem Out_ref (w : World) (v : Value) (l : List (Int × Int)) (h : PlAt w v l) (hl : l.length ≤ 100000) (x : Int × Int) :
    Calls Try.prog 39 #[v, .agg #[.int .i64 x.1, .int .i64 x.2]] w fun e w' => ∃ v', e = .returned (.tuple #[v', .bool (decide (x ∈ l))]) ∧ PlAt w' v' (l.erase x) ∧ Below w.heap.size w w' ∧ (v' = v ∨ ∀ b, v'.ownBlock = some b → w.heap.size ≤ b) := by
  obtain ⟨x1, x2⟩ := x
  obtain ⟨a, c, rfl, hc, hm⟩ := SlAt.form h
  obtain ⟨n, hn⟩ : ∃ n, n = l.length := ⟨_, rfl⟩
  have HL := Lib.hid h
  rw [← hn] at hc hl HL ⊢
  have HN := Lib.hid hn
  clear hn h
  simp only
  go_enter Try.func39, Try.ntmps39
  go_wp2_with fail
  obtain ⟨W, hW⟩ : ∃ W, W = w.alloc (.cells #[.int .i64 x1, .int .i64 x2] 40) := ⟨_, rfl⟩
  have q0 : W.cell? ⟨w.heap.size, 0, none⟩ = some (.int .i64 x1) := by rw [hW]; go_simp
  have q1 : W.cell? ⟨w.heap.size, 1, none⟩ = some (.int .i64 x2) := by rw [hW]; go_simp
  have hB : Hid (Below w.heap.size w W ∧ W.heap.size = w.heap.size + 1) := by
    rw [hW]; exact ⟨(Below.refl _ _).alloc (Nat.le_refl _) _, by simp⟩
  rw [← hW]
  clear hW
  have Q0 := Lib.hid q0
  have Q1 := Lib.hid q1
  clear q0 q1
  go_loopw [6] (fun i wr => ∃ k : Nat, k ≤ n ∧ i = .int .i64 k ∧ Below W.heap.size W wr ∧ (x1, x2) ∉ l.take k) (fun i _ => n - (intOf i).toNat)
  case atStart => exact ⟨0, by omega, rfl, Below.refl _ _, by simp⟩
  case round =>
    obtain ⟨k, hk, rfl, hb, hlo⟩ := hrel
    have HB := Lib.hid hb
    have HLo := Lib.hid hlo
    have q0 := (hb.cell (World.block_lt_of_cell? _ _ Q0.out)).trans Q0.out
    have q1 := (hb.cell (World.block_lt_of_cell? _ _ Q1.out)).trans Q1.out
    clear hb hlo
    by_cases hlt : k < n
    · have hlt' : (k : Int) < n := by omega
      obtain ⟨y, hy⟩ : ∃ y, l[k]? = some y := ⟨_, List.getElem?_eq_getElem (by rw [← HN.out]; exact hlt)⟩
      obtain ⟨b, off, rfl⟩ := HL.out.addr (by rw [← HN.out]; omega)
      obtain ⟨e0, e1⟩ := ((HL.out.below hB.out.1).below HB.out).cellAt hy
      obtain ⟨y1, y2⟩ := y
      have HY := Lib.hid hy
      clear hy
      simp only at e0 e1
      have heq := eql_run (y1, y2) (x1, x2)
      have hgd := fun op a b => guard_run op a b (y1, y2) (x1, x2)
      simp only at heq hgd
      by_cases hyx : (y1, y2) = (x1, x2)
      · rw [decide_eq_true hyx] at heq
        go_wp2_with fail
        go_quiet (fail)
        have hmem : Hid ((x1, x2) ∈ l) := by rw [← hyx]; exact List.mem_of_getElem? HY.out
        have hera : Hid (l.erase (x1, x2) = l.take k ++ l.drop (k + 1)) := by
          obtain ⟨hkl, e⟩ := List.getElem?_eq_some_iff.1 HY.out
          have e2 : l = l.take k ++ (x1, x2) :: l.drop (k + 1) := by
            rw [← hyx, ← e, ← List.drop_eq_getElem_cons hkl, List.take_append_drop]
          calc l.erase (x1, x2) = (l.take k ++ (x1, x2) :: l.drop (k + 1)).erase (x1, x2) := by rw [← e2]
            _ = l.take k ++ ((x1, x2) :: l.drop (k + 1)).erase (x1, x2) := List.erase_append_right _ HLo.out
            _ = l.take k ++ l.drop (k + 1) := by rw [List.erase_cons_head]
        obtain ⟨i0, hi0, hz0, hs0, hb0⟩ := infoPlace
        have HS0 : Hid (SlAt w 40 2 (.slice (some ⟨b, off, none⟩) n c) n (pl l)) := by have h := HL.out; unfold PlAt at h; rwa [← HN.out] at h
        have hmm := hmem.out
        have hdec : decide ((x1, x2) ∈ l) = true := decide_eq_true hmm
        go_wp2_with fail
        have hwa : Below w.heap.size w (wr.drewN nq) := below_drewN' (hB.out.1.trans (HB.out.mono (by rw [hB.out.2]; omega))) nq
        generalize wr.drewN nq = wa at *
        obtain ⟨W1, hW1⟩ : ∃ W1, W1 = wa.drew := ⟨_, rfl⟩
        have hb1 : Below w.heap.size w W1 := by rw [hW1]; exact hwa.drew
        have s1 : w.heap.size ≤ W1.heap.size := hb1.size
        have a1 := SlAt.lit0 W1 40 2
        have ba : Below W1.heap.size W1 (W1.alloc (.cells #[] 40)) := (Below.refl _ _).alloc (Nat.le_refl _) _
        have hd : wa.drew = W1 := hW1.symm
        have src1 : Hid (∀ X, Below W1.heap.size W1 X → SlAt X 40 2 (.slice (some ⟨b, off, none⟩) k c) k (pl (l.take k))) := fun X hX => by
          have h := SlAt.take (SlAt.below (SlAt.below HS0.out hb1) hX) k hk
          rwa [← pl_take] at h
        obtain ⟨A, hA⟩ : ∃ A : Addr, (if c = k + 1 then (some ⟨b, off, none⟩ : Option Addr) else some ⟨b, off + (k + 1) * 2, none⟩) = some A := by split <;> exact ⟨_, rfl⟩
        have src2 : Hid (∀ X, Below W1.heap.size W1 X → SlAt X 40 2 (.slice (some A) (n - (k + 1)) (c - (k + 1))) (n - (k + 1)) (pl (l.drop (k + 1)))) := fun X hX => by
          have h := SlAt.cut (SlAt.below (SlAt.below HS0.out hb1) hX) (k + 1) hlt hA
          rwa [← pl_drop] at h
        have hkc : k ≤ c := by omega
        have hkc1 : k + 1 ≤ c := by omega
        have hk0 : (0 : Int) ≤ k := by omega
        have hk1 : (0 : Int) ≤ (k : Int) + 1 := by omega
        have hk2 : (k : Int) + 1 ≤ n := by omega
        have hkw : IntKind.i64.wrap ((k : Int) + 1) = k + 1 := by simp [IntKind.wrap, IntKind.bits, IntKind.signed]; omega
        have hkn : ((k : Int) + 1).toNat = k + 1 := by omega
        have SA1 := Lib.hid a1
        have BA := Lib.hid ba
        have HB1 := Lib.hid hb1
        clear hW1 a1 ba hb1 hwa heq hgd e0 e1 q0 q1 hmm
        go_region_law (first
          | (refine step_append_sl rfl (.tmp 19) (.tmp 22) 35 rfl i0 _ 16 Try.underlying35 hi0 hz0 hs0 hb0 rfl (.slice (some ⟨W1.heap.size, 0, none⟩) 0 0) 0 [] rfl SA1.out (.slice (some ⟨b, off, none⟩) k c) k (pl (l.take k)) rfl (src1.out _ BA.out) (pl_one _) (by simp only [maxLen]; omega) (by omega) ?_
             intro v1 w2 hs1 hg1 ho1
             have hv1 : Hid (∀ b, v1.ownBlock = some b → W1.heap.size ≤ b) := by
               intro b hb
               rcases ho1 with e | e <;> rw [e] at hb <;> simp [Value.ownBlock] at hb <;> omega
             have hbw2 := Lib.hid (BA.out.grown hg1 BA.out.size (fun q hq => by simp [Value.ownBlock] at hq; omega))
             have HS1 := Lib.hid hs1
             clear hs1 hg1 ho1)
          | (refine step_append_sl rfl (.tmp 23) (.tmp 27) 35 rfl i0 _ 16 Try.underlying35 hi0 hz0 hs0 hb0 rfl v1 (0 + k) ([] ++ pl (l.take k)) rfl HS1.out _ (n - (k + 1)) (pl (l.drop (k + 1))) rfl (src2.out _ hbw2.out) (pl_one _) (by simp only [maxLen]; omega) (by omega) ?_
             intro v3 w4 hs3 hg3 ho3
             have fin : Hid (PlAt w4 v3 (l.erase (x1, x2)) ∧ Below w.heap.size w w4 ∧ ∀ b, v3.ownBlock = some b → w.heap.size ≤ b) := by
               refine ⟨?_, HB1.out.trans ((hbw2.out.grown hg3 hbw2.out.size hv1.out).mono s1), fun b hb => ?_⟩
               · show SlAt _ _ _ _ _ _
                 rw [hera.out, pl_append]
                 have : (l.take k ++ l.drop (k + 1)).length = 0 + k + (n - (k + 1)) := by simp [List.length_take, List.length_drop, ← HN.out]; omega
                 rw [this]
                 simpa using hs3
               · rcases ho3 with e | e
                 · exact Nat.le_trans s1 (hv1.out b (e.symm.trans hb))
                 · rw [e] at hb
                   have hb := Option.some.inj hb
                   have := hbw2.out.size
                   omega
             clear hs3 hg3 ho3))
        go_wp2_with fail
        exact bodyPost_ret (v := .tuple #[v3, .bool true]) (by simp [results, Try.results39, go_sem]) rfl ⟨v3, by rw [hdec], fin.out.1, fin.out.2.1, .inr fin.out.2.2⟩
      · rw [decide_eq_false hyx] at heq
        go_wp2_with fail
        go_quiet (fail)
        go_wp2_with fail
        go_roundw
        case rel =>
          refine ⟨k + 1, by omega, by go_num, below_drewN' HB.out nq, ?_⟩
          rw [take_next HY.out, List.mem_append, List.mem_singleton]
          rintro (h | h)
          · exact HLo.out h
          · exact hyx h.symm
        case measure => simp [intOf]; omega
    · have hn0 : Hid ((x1, x2) ∉ l) := by
        have h := HLo.out
        rwa [List.take_of_length_le (by rw [← HN.out]; omega)] at h
      go_wp2_with fail
      have hbr : Below w.heap.size w wr := hB.out.1.trans (HB.out.mono (by rw [hB.out.2]; omega))
      refine bodyPost_ret (v := .tuple #[.slice a n c, .bool false]) (by simp [results, Try.results39, go_sem]) rfl ⟨_, by rw [decide_eq_false hn0.out], ?_, hbr, .inl rfl⟩
      rw [List.erase_of_not_mem hn0.out]
      exact HL.out.below hbr
end Go.Proofs.Ytflbidbnbfndgaa
