/- The reference's lists of places: Put, Out. -/
import Derived.Test.YtflbidbnbfndgaaPlaceCalls
import Derived.Test.YtflbidbnbfndgaaPlaceOrd
import Derived.BigQuiet
import Derived.Test.YtflbidbnbfndgaaRefEq
import Derived.Test.YtflbidbnbfndgaaAppend
namespace Go.Proofs.Ytflbidbnbfndgaa
open Go Go.RowKit

/-- What the last statement of Put makes, whatever order its parts are reckoned in: the parts' facts. -/
theorem lit1 (w : World) (x1 x2 : Int) : SlAt (w.alloc (.cells #[.int .i64 x1, .int .i64 x2] 40)) 40 2 (.slice (some ⟨w.heap.size, 0, none⟩) 1 1) 1 (pl [(x1, x2)]) :=
  ⟨rfl, .inr ⟨w.heap.size, 0, 1, _, rfl, heap_alloc_new w _, Nat.le_refl _, by simp [maxLen], by simp, fun j u hu => by simpa [pl] using hu⟩⟩

set_option maxRecDepth 100000 in
set_option maxHeartbeats 1000000 in
theorem Put_ref (w : World) (v : Value) (l : List (Int × Int)) (h : PlAt w v l) (hs : SortedP l) (hl : l.length ≤ 100000) (x : Int × Int) :
    Calls Try.prog 27 #[v, .agg #[.int .i64 x.1, .int .i64 x.2]] w fun e w' => ∃ v', e = .returned v' ∧ PlAt w' v' (putP l x) ∧ Below w.heap.size w w' ∧ (v' = v ∨ ∀ b, v'.ownBlock = some b → w.heap.size ≤ b) := by
  obtain ⟨x1, x2⟩ := x
  obtain ⟨a, c, rfl, hc, hm⟩ := SlAt.form h
  obtain ⟨n, hn⟩ : ∃ n, n = l.length := ⟨_, rfl⟩
  have HL := Lib.hid h
  rw [← hn] at hc hl HL ⊢
  have HN := Lib.hid hn
  clear hn h
  simp only
  go_enter Try.func27, Try.ntmps27
  go_wp2_with fail
  obtain ⟨W, hW⟩ : ∃ W, W = w.alloc (.cells #[.int .i64 x1, .int .i64 x2] 40) := ⟨_, rfl⟩
  have q0 : W.cell? ⟨w.heap.size, 0, none⟩ = some (.int .i64 x1) := by rw [hW]; go_simp
  have q1 : W.cell? ⟨w.heap.size, 1, none⟩ = some (.int .i64 x2) := by rw [hW]; go_simp
  have hB : Hid (Below w.heap.size w W ∧ W.heap.size = w.heap.size + 1) := by
    rw [hW]; exact ⟨(Below.refl _ _).alloc (Nat.le_refl _) _, by simp⟩
  rw [← hW]
  clear hW
  have Q0 := Lib.hid q0
  have Q1 := Lib.hid q1
  clear q0 q1
  go_loopw [5] (fun i wr => ∃ k : Nat, k ≤ n ∧ i = .int .i64 k ∧ Below W.heap.size W wr ∧ ∀ j (hj : j < l.length), j < k → ltP l[j] (x1, x2)) (fun i _ => n - (intOf i).toNat)
  case atStart => exact ⟨0, by omega, rfl, Below.refl _ _, fun j hj h => absurd h (Nat.not_lt_zero _)⟩
  case round =>
    obtain ⟨k, hk, rfl, hb, hlo⟩ := hrel
    have HB := Lib.hid hb
    have HLo := Lib.hid hlo
    have q0 := (hb.cell (World.block_lt_of_cell? _ _ Q0.out)).trans Q0.out
    have q1 := (hb.cell (World.block_lt_of_cell? _ _ Q1.out)).trans Q1.out
    clear hb hlo
    by_cases hlt : k < n
    · have hlt' : (k : Int) < n := by omega
      obtain ⟨y, hy⟩ : ∃ y, l[k]? = some y := ⟨_, List.getElem?_eq_getElem (by rw [← HN.out]; exact hlt)⟩
      obtain ⟨b, off, rfl⟩ := HL.out.addr (by rw [← HN.out]; omega)
      obtain ⟨e0, e1⟩ := ((HL.out.below hB.out.1).below HB.out).cellAt hy
      obtain ⟨y1, y2⟩ := y
      have HY := Lib.hid hy
      clear hy
      simp only at e0 e1
      have next : Hid (ltP (y1, y2) (x1, x2) → ∀ (j : Nat) (hj : j < l.length), j < k + 1 → ltP l[j] (x1, x2)) := by
        intro hyx j hj hjk
        by_cases h : j = k
        · subst h
          have := HY.out
          rw [List.getElem?_eq_getElem hj] at this
          rw [Option.some.inj this]; exact hyx
        · exact HLo.out j hj (by omega)
      by_cases c1 : y1 < x1
      · go_wp2_with fail
        go_quiet (fail)
        go_wp2_with fail
        go_roundw
        case rel => exact ⟨k + 1, by omega, by go_num, below_drewN' HB.out nq, next.out (.inl c1)⟩
        case measure => simp [intOf]; omega
      · by_cases c2 : y1 = x1
        · by_cases c3 : y2 < x2
          · subst c2
            go_wp2_with fail
            go_quiet (fail)
            go_wp2_with fail
            go_roundw
            case rel => exact ⟨k + 1, by omega, by go_num, below_drewN' HB.out nq, next.out (.inr ⟨rfl, c3⟩)⟩
            case measure => simp [intOf]; omega
          · clear next
            by_cases c4 : y2 = x2
            · subst c2
              subst c4
              have hyk : ∀ hj : k < l.length, l[k] = (y1, y2) := fun hj => by have h := HY.out; rw [List.getElem?_eq_getElem hj] at h; exact Option.some.inj h
              have hput : Hid (putP l (y1, y2) = l) :=
                (putP_ref hs (y1, y2) k (by rw [← HN.out]; exact hk) (fun j hj => HLo.out j (by rw [← HN.out]; omega) hj) (fun hj => by rw [hyk hj]; exact ltP.irrefl _)).1 (by rw [← HN.out]; exact hlt) (hyk _)
              have heq := eql_run (y1, y2) (y1, y2)
              rw [decide_eq_true rfl] at heq
              have hgd := fun op a b => guard_run op a b (y1, y2) (y1, y2)
              simp only at heq hgd
              clear hyk
              go_wp2_with fail
              go_quiet (fail)
              have hwa : Below w.heap.size w (wr.drewN nq) := below_drewN' (hB.out.1.trans (HB.out.mono (by rw [hB.out.2]; omega))) nq
              have qa0 : (wr.drewN nq).cell? ⟨w.heap.size, 0, none⟩ = some (.int .i64 y1) := by simpa using q0
              have qa1 : (wr.drewN nq).cell? ⟨w.heap.size, 1, none⟩ = some (.int .i64 y2) := by simpa using q1
              have ea0 : (wr.drewN nq).cell? ⟨b, off + k * 2, none⟩ = some (.int .i64 y1) := by simpa using e0
              have ea1 : (wr.drewN nq).cell? ⟨b, off + k * 2 + 1, none⟩ = some (.int .i64 y2) := by simpa using e1
              generalize wr.drewN nq = wa at *
              go_wp2_with fail
              go_quiet (fail)
              go_wp2_with fail
              go_ret
              have hfin := below_drewN' hwa nq
              refine ⟨_, rfl, ?_, hfin, .inl rfl⟩
              rw [hput.out]
              exact HL.out.below hfin
            · subst c2
              have hyk : ∀ hj : k < l.length, l[k] = (y1, y2) := fun hj => by have h := HY.out; rw [List.getElem?_eq_getElem hj] at h; exact Option.some.inj h
              have hnlt : ¬ ltP (y1, y2) (y1, x2) := by unfold ltP; omega
              have hne : (y1, y2) ≠ (y1, x2) := by
                intro e
                have e1 := congrArg Prod.fst e
                have e2 := congrArg Prod.snd e
                simp only at e1 e2
                omega
              have hput : Hid (putP l (y1, x2) = l.take k ++ [(y1, x2)] ++ l.drop k) :=
                (putP_ref hs (y1, x2) k (by rw [← HN.out]; exact hk) (fun j hj => HLo.out j (by rw [← HN.out]; omega) hj) (fun hj => by rw [hyk hj]; exact hnlt)).2 (fun hj => by rw [hyk hj]; exact hne)
              obtain ⟨i0, hi0, hz0, hs0, hb0⟩ := infoPlace
              have HS0 : Hid (SlAt w 40 2 (.slice (some ⟨b, off, none⟩) n c) n (pl l)) := by have h := HL.out; unfold PlAt at h; rwa [← HN.out] at h
              have heq := eql_run (y1, y2) (y1, x2)
              rw [decide_eq_false hne] at heq
              have hgd := fun op a b => guard_run op a b (y1, y2) (y1, x2)
              simp only at heq hgd
              clear hyk hne hnlt
              go_wp2_with fail
              go_quiet (fail)
              have hwa : Below w.heap.size w (wr.drewN nq) := below_drewN' (hB.out.1.trans (HB.out.mono (by rw [hB.out.2]; omega))) nq
              have qa0 : (wr.drewN nq).cell? ⟨w.heap.size, 0, none⟩ = some (.int .i64 y1) := by simpa using q0
              have qa1 : (wr.drewN nq).cell? ⟨w.heap.size, 1, none⟩ = some (.int .i64 x2) := by simpa using q1
              have ea0 : (wr.drewN nq).cell? ⟨b, off + k * 2, none⟩ = some (.int .i64 y1) := by simpa using e0
              have ea1 : (wr.drewN nq).cell? ⟨b, off + k * 2 + 1, none⟩ = some (.int .i64 y2) := by simpa using e1
              generalize wr.drewN nq = wa at *
              go_wp2_with fail
              go_quiet (fail)
              go_wp2_with fail
              clear heq hgd e0 e1 ea0 ea1
              obtain ⟨W1, hW1⟩ : ∃ W1, W1 = (wa.drewN nq).drew := ⟨_, rfl⟩
              have hb1 : Below w.heap.size w W1 := by rw [hW1]; exact (below_drewN' hwa nq).drew
              have s1 : w.heap.size ≤ W1.heap.size := hb1.size
              have a1 := SlAt.lit0 W1 40 2
              have b1 : SlAt ((W1.alloc (.cells #[] 40)).alloc (.cells #[.int .i64 y1, .int .i64 x2] 40)) 40 2 (.slice (some ⟨W1.heap.size, 0, none⟩) 0 0) 0 [] := a1.below ((Below.refl _ _).alloc (Nat.le_refl _) _)
              have c1' : SlAt ((W1.alloc (.cells #[.int .i64 y1, .int .i64 x2] 40)).alloc (.cells #[] 40)) 40 2 (.slice (some ⟨W1.heap.size + 1, 0, none⟩) 0 0) 0 [] := by
                have := SlAt.lit0 (W1.alloc (.cells #[.int .i64 y1, .int .i64 x2] 40)) 40 2
                rwa [World.size_alloc] at this
              have b2 : SlAt ((W1.alloc (.cells #[] 40)).alloc (.cells #[.int .i64 y1, .int .i64 x2] 40)) 40 2 (.slice (some ⟨W1.heap.size + 1, 0, none⟩) 1 1) 1 (pl [(y1, x2)]) := by
                have := lit1 (W1.alloc (.cells #[] 40)) y1 x2
                rwa [World.size_alloc] at this
              have c2' : SlAt ((W1.alloc (.cells #[.int .i64 y1, .int .i64 x2] 40)).alloc (.cells #[] 40)) 40 2 (.slice (some ⟨W1.heap.size, 0, none⟩) 1 1) 1 (pl [(y1, x2)]) := (lit1 W1 y1 x2).below ((Below.refl _ _).alloc (Nat.le_refl _) _)
              have ba : Below W1.heap.size W1 (W1.alloc (.cells #[] 40)) := (Below.refl _ _).alloc (Nat.le_refl _) _
              have bb : Below W1.heap.size W1 ((W1.alloc (.cells #[] 40)).alloc (.cells #[.int .i64 y1, .int .i64 x2] 40)) := ba.alloc ba.size _
              have bc : Below W1.heap.size W1 ((W1.alloc (.cells #[.int .i64 y1, .int .i64 x2] 40)).alloc (.cells #[] 40)) := by
                have h := (Below.refl W1.heap.size W1).alloc (Nat.le_refl _) (.cells #[.int .i64 y1, .int .i64 x2] 40)
                exact h.alloc h.size _
              have hd : (wa.drewN nq).drew = W1 := hW1.symm
              have q0 : W1.cell? ⟨w.heap.size, 0, none⟩ = some (.int .i64 y1) := by rw [hW1]; simpa using qa0
              have q1 : W1.cell? ⟨w.heap.size, 1, none⟩ = some (.int .i64 x2) := by rw [hW1]; simpa using qa1
              have src1 : Hid (∀ X, Below W1.heap.size W1 X → SlAt X 40 2 (.slice (some ⟨b, off, none⟩) k c) k (pl (l.take k))) := fun X hX => by
                have h := SlAt.take (SlAt.below (SlAt.below HS0.out hb1) hX) k hk
                rwa [← pl_take] at h
              obtain ⟨A, hA⟩ : ∃ A : Addr, (if c = k then (some ⟨b, off, none⟩ : Option Addr) else some ⟨b, off + k * 2, none⟩) = some A := by split <;> exact ⟨_, rfl⟩
              have src2 : Hid (∀ X, Below W1.heap.size W1 X → SlAt X 40 2 (.slice (some A) (n - k) (c - k)) (n - k) (pl (l.drop k))) := fun X hX => by
                have h := SlAt.cut (SlAt.below (SlAt.below HS0.out hb1) hX) k hk hA
                rwa [← pl_drop] at h
              have hkc : k ≤ c := by omega
              have hk0 : (0 : Int) ≤ k := by omega
              have SA1 := Lib.hid a1
              have SB1 := Lib.hid b1
              have SC1 := Lib.hid c1'
              have SB2 := Lib.hid b2
              have SC2 := Lib.hid c2'
              have BA := Lib.hid ba
              have BQ := Lib.hid bb
              have BC := Lib.hid bc
              have HB1 := Lib.hid hb1
              have hlow := Lib.hid (World.block_lt_of_cell? _ _ q0)
              have qB0 := (BA.out.cell (p := ⟨w.heap.size, 0, none⟩) hlow.out).trans q0
              have qB1 := (BA.out.cell (p := ⟨w.heap.size, 1, none⟩) hlow.out).trans q1
              clear hW1 a1 b1 c1' b2 c2' ba bb bc hb1 hwa qa0 qa1
              go_region_law (first
                | (refine step_append_sl rfl (.tmp 55) (.tmp 58) 35 rfl i0 _ 16 Try.underlying35 hi0 hz0 hs0 hb0 rfl (.slice (some ⟨W1.heap.size, 0, none⟩) 0 0) 0 [] rfl SA1.out (.slice (some ⟨b, off, none⟩) k c) k (pl (l.take k)) rfl (src1.out _ BA.out) (pl_one _) (by simp only [maxLen]; omega) (by omega) ?_
                   intro v1 w2 hs1 hg1 ho1
                   have hv1 : Hid (∀ b, v1.ownBlock = some b → W1.heap.size ≤ b) := by
                     intro b hb
                     rcases ho1 with e | e <;> rw [e] at hb <;> simp [Value.ownBlock] at hb <;> omega
                   have hbw2 := Lib.hid (BA.out.grown hg1 BA.out.size (fun q hq => by simp [Value.ownBlock] at hq; omega))
                   have p0 := (hbw2.out.cell (p := ⟨w.heap.size, 0, none⟩) hlow.out).trans q0
                   have p1 := (hbw2.out.cell (p := ⟨w.heap.size, 1, none⟩) hlow.out).trans q1
                   have HS1 := Lib.hid hs1
                   clear hs1 hg1 ho1)
                | (refine step_append_sl rfl (.tmp 55) (.tmp 58) 35 rfl i0 _ 16 Try.underlying35 hi0 hz0 hs0 hb0 rfl (.slice (some ⟨W1.heap.size, 0, none⟩) 0 0) 0 [] rfl SB1.out (.slice (some ⟨b, off, none⟩) k c) k (pl (l.take k)) rfl (src1.out _ BQ.out) (pl_one _) (by simp only [maxLen]; omega) (by omega) ?_
                   intro v1 w2 hs1 hg1 ho1
                   have hv1 : Hid (∀ b, v1.ownBlock = some b → W1.heap.size ≤ b) := by
                     intro b hb
                     rcases ho1 with e | e <;> rw [e] at hb <;> simp [Value.ownBlock] at hb <;> omega
                   have hbw2 := Lib.hid (BQ.out.grown hg1 BQ.out.size (fun q hq => by simp [Value.ownBlock] at hq; omega))
                   have p0 := (hbw2.out.cell (p := ⟨w.heap.size, 0, none⟩) hlow.out).trans q0
                   have p1 := (hbw2.out.cell (p := ⟨w.heap.size, 1, none⟩) hlow.out).trans q1
                   have hP := Lib.hid (SB2.out.grown hg1 (.inr (by simp [Value.ownBlock])))
                   have HS1 := Lib.hid hs1
                   clear hs1 hg1 ho1)
                | (refine step_append_sl rfl (.tmp 55) (.tmp 58) 35 rfl i0 _ 16 Try.underlying35 hi0 hz0 hs0 hb0 rfl (.slice (some ⟨W1.heap.size + 1, 0, none⟩) 0 0) 0 [] rfl SC1.out (.slice (some ⟨b, off, none⟩) k c) k (pl (l.take k)) rfl (src1.out _ BC.out) (pl_one _) (by simp only [maxLen]; omega) (by omega) ?_
                   intro v1 w2 hs1 hg1 ho1
                   have hv1 : Hid (∀ b, v1.ownBlock = some b → W1.heap.size ≤ b) := by
                     intro b hb
                     rcases ho1 with e | e <;> rw [e] at hb <;> simp [Value.ownBlock] at hb <;> omega
                   have hbw2 := Lib.hid (BC.out.grown hg1 BC.out.size (fun q hq => by simp [Value.ownBlock] at hq; omega))
                   have p0 := (hbw2.out.cell (p := ⟨w.heap.size, 0, none⟩) hlow.out).trans q0
                   have p1 := (hbw2.out.cell (p := ⟨w.heap.size, 1, none⟩) hlow.out).trans q1
                   have hP := Lib.hid (SC2.out.grown hg1 (.inr (by simp [Value.ownBlock])))
                   have HS1 := Lib.hid hs1
                   clear hs1 hg1 ho1)
                | (refine step_append_sl rfl (.tmp 59) (.tmp 61) 35 rfl i0 _ 16 Try.underlying35 hi0 hz0 hs0 hb0 rfl v1 (0 + k) ([] ++ pl (l.take k)) rfl (by first | exact HS1.out | exact HS1.out.below ((Below.refl _ _).alloc (Nat.le_refl _) _)) _ 1 (pl [(y1, x2)]) rfl (by first | exact hP.out | exact lit1 _ y1 x2) (pl_one _) (by simp only [maxLen]; omega) (by omega) ?_
                   intro v2 w3 hs2 hg2 ho2
                   have hv2 : Hid (∀ b, v2.ownBlock = some b → W1.heap.size ≤ b) := by
                     intro b hb
                     rcases ho2 with e | e
                     · exact hv1.out b (e.symm.trans hb)
                     · have z := hbw2.out.size
                       rw [e] at hb
                       have hb := Option.some.inj hb
                       first | omega | (simp at hb; omega)
                   have hbw3 : Hid (Below W1.heap.size W1 w3) := by
                     first
                       | exact hbw2.out.grown hg2 hbw2.out.size hv1.out
                       | exact (hbw2.out.alloc hbw2.out.size _).grown hg2 (by have := hbw2.out.size; simp; omega) hv1.out
                   have HS2 := Lib.hid hs2
                   clear hs2 hg2 ho2)
                | (refine step_append_sl rfl (.tmp 62) (.tmp 65) 35 rfl i0 _ 16 Try.underlying35 hi0 hz0 hs0 hb0 rfl v2 (0 + k + 1) ([] ++ pl (l.take k) ++ pl [(y1, x2)]) rfl HS2.out _ (n - k) (pl (l.drop k)) rfl (src2.out _ hbw3.out) (pl_one _) (by simp only [maxLen]; omega) (by omega) ?_
                   intro v3 w4 hs3 hg3 ho3
                   have fin : Hid (PlAt w4 v3 (putP l (y1, x2)) ∧ Below w.heap.size w w4 ∧ ∀ b, v3.ownBlock = some b → w.heap.size ≤ b) := by
                     refine ⟨?_, HB1.out.trans ((hbw3.out.grown hg3 hbw3.out.size hv2.out).mono s1), fun b hb => ?_⟩
                     · show SlAt _ _ _ _ _ _
                       rw [hput.out, pl_append, pl_append]
                       have : (l.take k ++ [(y1, x2)] ++ l.drop k).length = 0 + k + 1 + (n - k) := by first | (simp [List.length_take, List.length_drop, ← HN.out]; done) | (simp [List.length_take, List.length_drop, ← HN.out]; omega)
                       rw [this]
                       simpa using hs3
                     · rcases ho3 with e | e
                       · exact Nat.le_trans s1 (hv2.out b (e.symm.trans hb))
                       · rw [e] at hb
                         have hb := Option.some.inj hb
                         have := hbw3.out.size
                         omega
                   clear hs3 hg3 ho3))
              all_goals (go_wp2_with fail; go_ret; exact ⟨_, rfl, fin.out.1, fin.out.2.1, .inr fin.out.2.2⟩)
        · clear next
          have hyk : ∀ hj : k < l.length, l[k] = (y1, y2) := fun hj => by have h := HY.out; rw [List.getElem?_eq_getElem hj] at h; exact Option.some.inj h
          have hnlt : ¬ ltP (y1, y2) (x1, x2) := by unfold ltP; omega
          have hne : (y1, y2) ≠ (x1, x2) := by
            intro e
            have e1 := congrArg Prod.fst e
            have e2 := congrArg Prod.snd e
            simp only at e1 e2
            omega
          have hput : Hid (putP l (x1, x2) = l.take k ++ [(x1, x2)] ++ l.drop k) :=
            (putP_ref hs (x1, x2) k (by rw [← HN.out]; exact hk) (fun j hj => HLo.out j (by rw [← HN.out]; omega) hj) (fun hj => by rw [hyk hj]; exact hnlt)).2 (fun hj => by rw [hyk hj]; exact hne)
          obtain ⟨i0, hi0, hz0, hs0, hb0⟩ := infoPlace
          have HS0 : Hid (SlAt w 40 2 (.slice (some ⟨b, off, none⟩) n c) n (pl l)) := by have h := HL.out; unfold PlAt at h; rwa [← HN.out] at h
          have heq := eql_run (y1, y2) (x1, x2)
          rw [decide_eq_false hne] at heq
          have hgd := fun op a b => guard_run op a b (y1, y2) (x1, x2)
          simp only at heq hgd
          clear hyk hne hnlt
          go_wp2_with fail
          go_quiet (fail)
          have hwa : Below w.heap.size w (wr.drewN nq) := below_drewN' (hB.out.1.trans (HB.out.mono (by rw [hB.out.2]; omega))) nq
          have qa0 : (wr.drewN nq).cell? ⟨w.heap.size, 0, none⟩ = some (.int .i64 x1) := by simpa using q0
          have qa1 : (wr.drewN nq).cell? ⟨w.heap.size, 1, none⟩ = some (.int .i64 x2) := by simpa using q1
          have ea0 : (wr.drewN nq).cell? ⟨b, off + k * 2, none⟩ = some (.int .i64 y1) := by simpa using e0
          have ea1 : (wr.drewN nq).cell? ⟨b, off + k * 2 + 1, none⟩ = some (.int .i64 y2) := by simpa using e1
          generalize wr.drewN nq = wa at *
          go_wp2_with fail
          go_quiet (fail)
          go_wp2_with fail
          clear heq hgd e0 e1 ea0 ea1
          obtain ⟨W1, hW1⟩ : ∃ W1, W1 = (wa.drewN nq).drew := ⟨_, rfl⟩
          have hb1 : Below w.heap.size w W1 := by rw [hW1]; exact (below_drewN' hwa nq).drew
          have s1 : w.heap.size ≤ W1.heap.size := hb1.size
          have a1 := SlAt.lit0 W1 40 2
          have b1 : SlAt ((W1.alloc (.cells #[] 40)).alloc (.cells #[.int .i64 x1, .int .i64 x2] 40)) 40 2 (.slice (some ⟨W1.heap.size, 0, none⟩) 0 0) 0 [] := a1.below ((Below.refl _ _).alloc (Nat.le_refl _) _)
          have c1' : SlAt ((W1.alloc (.cells #[.int .i64 x1, .int .i64 x2] 40)).alloc (.cells #[] 40)) 40 2 (.slice (some ⟨W1.heap.size + 1, 0, none⟩) 0 0) 0 [] := by
            have := SlAt.lit0 (W1.alloc (.cells #[.int .i64 x1, .int .i64 x2] 40)) 40 2
            rwa [World.size_alloc] at this
          have b2 : SlAt ((W1.alloc (.cells #[] 40)).alloc (.cells #[.int .i64 x1, .int .i64 x2] 40)) 40 2 (.slice (some ⟨W1.heap.size + 1, 0, none⟩) 1 1) 1 (pl [(x1, x2)]) := by
            have := lit1 (W1.alloc (.cells #[] 40)) x1 x2
            rwa [World.size_alloc] at this
          have c2' : SlAt ((W1.alloc (.cells #[.int .i64 x1, .int .i64 x2] 40)).alloc (.cells #[] 40)) 40 2 (.slice (some ⟨W1.heap.size, 0, none⟩) 1 1) 1 (pl [(x1, x2)]) := (lit1 W1 x1 x2).below ((Below.refl _ _).alloc (Nat.le_refl _) _)
          have ba : Below W1.heap.size W1 (W1.alloc (.cells #[] 40)) := (Below.refl _ _).alloc (Nat.le_refl _) _
          have bb : Below W1.heap.size W1 ((W1.alloc (.cells #[] 40)).alloc (.cells #[.int .i64 x1, .int .i64 x2] 40)) := ba.alloc ba.size _
          have bc : Below W1.heap.size W1 ((W1.alloc (.cells #[.int .i64 x1, .int .i64 x2] 40)).alloc (.cells #[] 40)) := by
            have h := (Below.refl W1.heap.size W1).alloc (Nat.le_refl _) (.cells #[.int .i64 x1, .int .i64 x2] 40)
            exact h.alloc h.size _
          have hd : (wa.drewN nq).drew = W1 := hW1.symm
          have q0 : W1.cell? ⟨w.heap.size, 0, none⟩ = some (.int .i64 x1) := by rw [hW1]; simpa using qa0
          have q1 : W1.cell? ⟨w.heap.size, 1, none⟩ = some (.int .i64 x2) := by rw [hW1]; simpa using qa1
          have src1 : Hid (∀ X, Below W1.heap.size W1 X → SlAt X 40 2 (.slice (some ⟨b, off, none⟩) k c) k (pl (l.take k))) := fun X hX => by
            have h := SlAt.take (SlAt.below (SlAt.below HS0.out hb1) hX) k hk
            rwa [← pl_take] at h
          obtain ⟨A, hA⟩ : ∃ A : Addr, (if c = k then (some ⟨b, off, none⟩ : Option Addr) else some ⟨b, off + k * 2, none⟩) = some A := by split <;> exact ⟨_, rfl⟩
          have src2 : Hid (∀ X, Below W1.heap.size W1 X → SlAt X 40 2 (.slice (some A) (n - k) (c - k)) (n - k) (pl (l.drop k))) := fun X hX => by
            have h := SlAt.cut (SlAt.below (SlAt.below HS0.out hb1) hX) k hk hA
            rwa [← pl_drop] at h
          have hkc : k ≤ c := by omega
          have hk0 : (0 : Int) ≤ k := by omega
          have SA1 := Lib.hid a1
          have SB1 := Lib.hid b1
          have SC1 := Lib.hid c1'
          have SB2 := Lib.hid b2
          have SC2 := Lib.hid c2'
          have BA := Lib.hid ba
          have BQ := Lib.hid bb
          have BC := Lib.hid bc
          have HB1 := Lib.hid hb1
          have hlow := Lib.hid (World.block_lt_of_cell? _ _ q0)
          have qB0 := (BA.out.cell (p := ⟨w.heap.size, 0, none⟩) hlow.out).trans q0
          have qB1 := (BA.out.cell (p := ⟨w.heap.size, 1, none⟩) hlow.out).trans q1
          clear hW1 a1 b1 c1' b2 c2' ba bb bc hb1 hwa qa0 qa1
          go_region_law (first
            | (refine step_append_sl rfl (.tmp 55) (.tmp 58) 35 rfl i0 _ 16 Try.underlying35 hi0 hz0 hs0 hb0 rfl (.slice (some ⟨W1.heap.size, 0, none⟩) 0 0) 0 [] rfl SA1.out (.slice (some ⟨b, off, none⟩) k c) k (pl (l.take k)) rfl (src1.out _ BA.out) (pl_one _) (by simp only [maxLen]; omega) (by omega) ?_
               intro v1 w2 hs1 hg1 ho1
               have hv1 : Hid (∀ b, v1.ownBlock = some b → W1.heap.size ≤ b) := by
                 intro b hb
                 rcases ho1 with e | e <;> rw [e] at hb <;> simp [Value.ownBlock] at hb <;> omega
               have hbw2 := Lib.hid (BA.out.grown hg1 BA.out.size (fun q hq => by simp [Value.ownBlock] at hq; omega))
               have p0 := (hbw2.out.cell (p := ⟨w.heap.size, 0, none⟩) hlow.out).trans q0
               have p1 := (hbw2.out.cell (p := ⟨w.heap.size, 1, none⟩) hlow.out).trans q1
               have HS1 := Lib.hid hs1
               clear hs1 hg1 ho1)
            | (refine step_append_sl rfl (.tmp 55) (.tmp 58) 35 rfl i0 _ 16 Try.underlying35 hi0 hz0 hs0 hb0 rfl (.slice (some ⟨W1.heap.size, 0, none⟩) 0 0) 0 [] rfl SB1.out (.slice (some ⟨b, off, none⟩) k c) k (pl (l.take k)) rfl (src1.out _ BQ.out) (pl_one _) (by simp only [maxLen]; omega) (by omega) ?_
               intro v1 w2 hs1 hg1 ho1
               have hv1 : Hid (∀ b, v1.ownBlock = some b → W1.heap.size ≤ b) := by
                 intro b hb
                 rcases ho1 with e | e <;> rw [e] at hb <;> simp [Value.ownBlock] at hb <;> omega
               have hbw2 := Lib.hid (BQ.out.grown hg1 BQ.out.size (fun q hq => by simp [Value.ownBlock] at hq; omega))
               have p0 := (hbw2.out.cell (p := ⟨w.heap.size, 0, none⟩) hlow.out).trans q0
               have p1 := (hbw2.out.cell (p := ⟨w.heap.size, 1, none⟩) hlow.out).trans q1
               have hP := Lib.hid (SB2.out.grown hg1 (.inr (by simp [Value.ownBlock])))
               have HS1 := Lib.hid hs1
               clear hs1 hg1 ho1)
            | (refine step_append_sl rfl (.tmp 55) (.tmp 58) 35 rfl i0 _ 16 Try.underlying35 hi0 hz0 hs0 hb0 rfl (.slice (some ⟨W1.heap.size + 1, 0, none⟩) 0 0) 0 [] rfl SC1.out (.slice (some ⟨b, off, none⟩) k c) k (pl (l.take k)) rfl (src1.out _ BC.out) (pl_one _) (by simp only [maxLen]; omega) (by omega) ?_
               intro v1 w2 hs1 hg1 ho1
               have hv1 : Hid (∀ b, v1.ownBlock = some b → W1.heap.size ≤ b) := by
                 intro b hb
                 rcases ho1 with e | e <;> rw [e] at hb <;> simp [Value.ownBlock] at hb <;> omega
               have hbw2 := Lib.hid (BC.out.grown hg1 BC.out.size (fun q hq => by simp [Value.ownBlock] at hq; omega))
               have p0 := (hbw2.out.cell (p := ⟨w.heap.size, 0, none⟩) hlow.out).trans q0
               have p1 := (hbw2.out.cell (p := ⟨w.heap.size, 1, none⟩) hlow.out).trans q1
               have hP := Lib.hid (SC2.out.grown hg1 (.inr (by simp [Value.ownBlock])))
               have HS1 := Lib.hid hs1
               clear hs1 hg1 ho1)
            | (refine step_append_sl rfl (.tmp 59) (.tmp 61) 35 rfl i0 _ 16 Try.underlying35 hi0 hz0 hs0 hb0 rfl v1 (0 + k) ([] ++ pl (l.take k)) rfl (by first | exact HS1.out | exact HS1.out.below ((Below.refl _ _).alloc (Nat.le_refl _) _)) _ 1 (pl [(x1, x2)]) rfl (by first | exact hP.out | exact lit1 _ x1 x2) (pl_one _) (by simp only [maxLen]; omega) (by omega) ?_
               intro v2 w3 hs2 hg2 ho2
               have hv2 : Hid (∀ b, v2.ownBlock = some b → W1.heap.size ≤ b) := by
                 intro b hb
                 rcases ho2 with e | e
                 · exact hv1.out b (e.symm.trans hb)
                 · have z := hbw2.out.size
                   rw [e] at hb
                   have hb := Option.some.inj hb
                   first | omega | (simp at hb; omega)
               have hbw3 : Hid (Below W1.heap.size W1 w3) := by
                 first
                   | exact hbw2.out.grown hg2 hbw2.out.size hv1.out
                   | exact (hbw2.out.alloc hbw2.out.size _).grown hg2 (by have := hbw2.out.size; simp; omega) hv1.out
               have HS2 := Lib.hid hs2
               clear hs2 hg2 ho2)
            | (refine step_append_sl rfl (.tmp 62) (.tmp 65) 35 rfl i0 _ 16 Try.underlying35 hi0 hz0 hs0 hb0 rfl v2 (0 + k + 1) ([] ++ pl (l.take k) ++ pl [(x1, x2)]) rfl HS2.out _ (n - k) (pl (l.drop k)) rfl (src2.out _ hbw3.out) (pl_one _) (by simp only [maxLen]; omega) (by omega) ?_
               intro v3 w4 hs3 hg3 ho3
               have fin : Hid (PlAt w4 v3 (putP l (x1, x2)) ∧ Below w.heap.size w w4 ∧ ∀ b, v3.ownBlock = some b → w.heap.size ≤ b) := by
                 refine ⟨?_, HB1.out.trans ((hbw3.out.grown hg3 hbw3.out.size hv2.out).mono s1), fun b hb => ?_⟩
                 · show SlAt _ _ _ _ _ _
                   rw [hput.out, pl_append, pl_append]
                   have : (l.take k ++ [(x1, x2)] ++ l.drop k).length = 0 + k + 1 + (n - k) := by first | (simp [List.length_take, List.length_drop, ← HN.out]; done) | (simp [List.length_take, List.length_drop, ← HN.out]; omega)
                   rw [this]
                   simpa using hs3
                 · rcases ho3 with e | e
                   · exact Nat.le_trans s1 (hv2.out b (e.symm.trans hb))
                   · rw [e] at hb
                     have hb := Option.some.inj hb
                     have := hbw3.out.size
                     omega
               clear hs3 hg3 ho3))
          all_goals (go_wp2_with fail; go_ret; exact ⟨_, rfl, fin.out.1, fin.out.2.1, .inr fin.out.2.2⟩)
    · have hput : Hid (putP l (x1, x2) = l.take k ++ [(x1, x2)] ++ l.drop k) :=
        (putP_ref hs (x1, x2) k (by rw [← HN.out]; exact hk) (fun j hj => HLo.out j (by rw [← HN.out]; omega) hj) (fun hj => absurd hj (by rw [← HN.out]; omega))).2 (fun hj => absurd hj (by rw [← HN.out]; omega))
      obtain ⟨i0, hi0, hz0, hs0, hb0⟩ := infoPlace
      have HS0 : Hid (SlAt w 40 2 (.slice a n c) n (pl l)) := by have h := HL.out; unfold PlAt at h; rwa [← HN.out] at h
      rcases HL.out.form with ⟨e, hl0⟩ | ⟨b, off, c', e, _⟩
      · cases e
        obtain rfl : k = 0 := by omega
        subst hl0
        go_wp2_with fail
        go_quiet (fail)
        have hwa : Below w.heap.size w (wr.drewN nq) := below_drewN' (hB.out.1.trans (HB.out.mono (by rw [hB.out.2]; omega))) nq
        have qa0 : (wr.drewN nq).cell? ⟨w.heap.size, 0, none⟩ = some (.int .i64 x1) := by simpa using q0
        have qa1 : (wr.drewN nq).cell? ⟨w.heap.size, 1, none⟩ = some (.int .i64 x2) := by simpa using q1
        generalize wr.drewN nq = wa at *
        go_wp2_with fail
        go_quiet (fail)
        go_wp2_with fail
        obtain ⟨W1, hW1⟩ : ∃ W1, W1 = (wa.drewN nq).drew := ⟨_, rfl⟩
        have hb1 : Below w.heap.size w W1 := by rw [hW1]; exact (below_drewN' hwa nq).drew
        have s1 : w.heap.size ≤ W1.heap.size := hb1.size
        have a1 := SlAt.lit0 W1 40 2
        have b1 : SlAt ((W1.alloc (.cells #[] 40)).alloc (.cells #[.int .i64 x1, .int .i64 x2] 40)) 40 2 (.slice (some ⟨W1.heap.size, 0, none⟩) 0 0) 0 [] := a1.below ((Below.refl _ _).alloc (Nat.le_refl _) _)
        have c1' : SlAt ((W1.alloc (.cells #[.int .i64 x1, .int .i64 x2] 40)).alloc (.cells #[] 40)) 40 2 (.slice (some ⟨W1.heap.size + 1, 0, none⟩) 0 0) 0 [] := by
          have := SlAt.lit0 (W1.alloc (.cells #[.int .i64 x1, .int .i64 x2] 40)) 40 2
          rwa [World.size_alloc] at this
        have b2 : SlAt ((W1.alloc (.cells #[] 40)).alloc (.cells #[.int .i64 x1, .int .i64 x2] 40)) 40 2 (.slice (some ⟨W1.heap.size + 1, 0, none⟩) 1 1) 1 (pl [(x1, x2)]) := by
          have := lit1 (W1.alloc (.cells #[] 40)) x1 x2
          rwa [World.size_alloc] at this
        have c2' : SlAt ((W1.alloc (.cells #[.int .i64 x1, .int .i64 x2] 40)).alloc (.cells #[] 40)) 40 2 (.slice (some ⟨W1.heap.size, 0, none⟩) 1 1) 1 (pl [(x1, x2)]) := (lit1 W1 x1 x2).below ((Below.refl _ _).alloc (Nat.le_refl _) _)
        have ba : Below W1.heap.size W1 (W1.alloc (.cells #[] 40)) := (Below.refl _ _).alloc (Nat.le_refl _) _
        have bb : Below W1.heap.size W1 ((W1.alloc (.cells #[] 40)).alloc (.cells #[.int .i64 x1, .int .i64 x2] 40)) := ba.alloc ba.size _
        have bc : Below W1.heap.size W1 ((W1.alloc (.cells #[.int .i64 x1, .int .i64 x2] 40)).alloc (.cells #[] 40)) := by
          have h := (Below.refl W1.heap.size W1).alloc (Nat.le_refl _) (.cells #[.int .i64 x1, .int .i64 x2] 40)
          exact h.alloc h.size _
        have hd : (wa.drewN nq).drew = W1 := hW1.symm
        have q0 : W1.cell? ⟨w.heap.size, 0, none⟩ = some (.int .i64 x1) := by rw [hW1]; simpa using qa0
        have q1 : W1.cell? ⟨w.heap.size, 1, none⟩ = some (.int .i64 x2) := by rw [hW1]; simpa using qa1
        have src1 : Hid (∀ X, Below W1.heap.size W1 X → SlAt X 40 2 (.slice none 0 0) 0 (pl ([].take 0))) := fun X hX => SlAt.nil X _ 2
        have src2 : Hid (∀ X, Below W1.heap.size W1 X → SlAt X 40 2 (.slice none 0 0) (0 - 0) (pl ([].drop 0))) := fun X hX => SlAt.nil X _ 2
        have SA1 := Lib.hid a1
        have SB1 := Lib.hid b1
        have SC1 := Lib.hid c1'
        have SB2 := Lib.hid b2
        have SC2 := Lib.hid c2'
        have BA := Lib.hid ba
        have BQ := Lib.hid bb
        have BC := Lib.hid bc
        have HB1 := Lib.hid hb1
        have hlow := Lib.hid (World.block_lt_of_cell? _ _ q0)
        have qB0 := (BA.out.cell (p := ⟨w.heap.size, 0, none⟩) hlow.out).trans q0
        have qB1 := (BA.out.cell (p := ⟨w.heap.size, 1, none⟩) hlow.out).trans q1
        clear hW1 a1 b1 c1' b2 c2' ba bb bc hb1 hwa qa0 qa1
        go_region_law (first
          | (refine step_append_sl rfl (.tmp 55) (.tmp 58) 35 rfl i0 _ 16 Try.underlying35 hi0 hz0 hs0 hb0 rfl (.slice (some ⟨W1.heap.size, 0, none⟩) 0 0) 0 [] rfl SA1.out (.slice none 0 0) 0 (pl ([].take 0)) rfl (src1.out _ BA.out) (pl_one _) (by simp only [maxLen]; omega) (by omega) ?_
             intro v1 w2 hs1 hg1 ho1
             have hv1 : Hid (∀ b, v1.ownBlock = some b → W1.heap.size ≤ b) := by
               intro b hb
               rcases ho1 with e | e <;> rw [e] at hb <;> simp [Value.ownBlock] at hb <;> omega
             have hbw2 := Lib.hid (BA.out.grown hg1 BA.out.size (fun q hq => by simp [Value.ownBlock] at hq; omega))
             have p0 := (hbw2.out.cell (p := ⟨w.heap.size, 0, none⟩) hlow.out).trans q0
             have p1 := (hbw2.out.cell (p := ⟨w.heap.size, 1, none⟩) hlow.out).trans q1
             have HS1 := Lib.hid hs1
             clear hs1 hg1 ho1)
          | (refine step_append_sl rfl (.tmp 55) (.tmp 58) 35 rfl i0 _ 16 Try.underlying35 hi0 hz0 hs0 hb0 rfl (.slice (some ⟨W1.heap.size, 0, none⟩) 0 0) 0 [] rfl SB1.out (.slice none 0 0) 0 (pl ([].take 0)) rfl (src1.out _ BQ.out) (pl_one _) (by simp only [maxLen]; omega) (by omega) ?_
             intro v1 w2 hs1 hg1 ho1
             have hv1 : Hid (∀ b, v1.ownBlock = some b → W1.heap.size ≤ b) := by
               intro b hb
               rcases ho1 with e | e <;> rw [e] at hb <;> simp [Value.ownBlock] at hb <;> omega
             have hbw2 := Lib.hid (BQ.out.grown hg1 BQ.out.size (fun q hq => by simp [Value.ownBlock] at hq; omega))
             have p0 := (hbw2.out.cell (p := ⟨w.heap.size, 0, none⟩) hlow.out).trans q0
             have p1 := (hbw2.out.cell (p := ⟨w.heap.size, 1, none⟩) hlow.out).trans q1
             have hP := Lib.hid (SB2.out.grown hg1 (.inr (by simp [Value.ownBlock])))
             have HS1 := Lib.hid hs1
             clear hs1 hg1 ho1)
          | (refine step_append_sl rfl (.tmp 55) (.tmp 58) 35 rfl i0 _ 16 Try.underlying35 hi0 hz0 hs0 hb0 rfl (.slice (some ⟨W1.heap.size + 1, 0, none⟩) 0 0) 0 [] rfl SC1.out (.slice none 0 0) 0 (pl ([].take 0)) rfl (src1.out _ BC.out) (pl_one _) (by simp only [maxLen]; omega) (by omega) ?_
             intro v1 w2 hs1 hg1 ho1
             have hv1 : Hid (∀ b, v1.ownBlock = some b → W1.heap.size ≤ b) := by
               intro b hb
               rcases ho1 with e | e <;> rw [e] at hb <;> simp [Value.ownBlock] at hb <;> omega
             have hbw2 := Lib.hid (BC.out.grown hg1 BC.out.size (fun q hq => by simp [Value.ownBlock] at hq; omega))
             have p0 := (hbw2.out.cell (p := ⟨w.heap.size, 0, none⟩) hlow.out).trans q0
             have p1 := (hbw2.out.cell (p := ⟨w.heap.size, 1, none⟩) hlow.out).trans q1
             have hP := Lib.hid (SC2.out.grown hg1 (.inr (by simp [Value.ownBlock])))
             have HS1 := Lib.hid hs1
             clear hs1 hg1 ho1)
          | (refine step_append_sl rfl (.tmp 59) (.tmp 61) 35 rfl i0 _ 16 Try.underlying35 hi0 hz0 hs0 hb0 rfl v1 (0 + 0) ([] ++ pl ([].take 0)) rfl (by first | exact HS1.out | exact HS1.out.below ((Below.refl _ _).alloc (Nat.le_refl _) _)) _ 1 (pl [(x1, x2)]) rfl (by first | exact hP.out | exact lit1 _ x1 x2) (pl_one _) (by simp only [maxLen]; omega) (by omega) ?_
             intro v2 w3 hs2 hg2 ho2
             have hv2 : Hid (∀ b, v2.ownBlock = some b → W1.heap.size ≤ b) := by
               intro b hb
               rcases ho2 with e | e
               · exact hv1.out b (e.symm.trans hb)
               · have z := hbw2.out.size
                 rw [e] at hb
                 have hb := Option.some.inj hb
                 first | omega | (simp at hb; omega)
             have hbw3 : Hid (Below W1.heap.size W1 w3) := by
               first
                 | exact hbw2.out.grown hg2 hbw2.out.size hv1.out
                 | exact (hbw2.out.alloc hbw2.out.size _).grown hg2 (by have := hbw2.out.size; simp; omega) hv1.out
             have HS2 := Lib.hid hs2
             clear hs2 hg2 ho2)
          | (refine step_append_sl rfl (.tmp 62) (.tmp 65) 35 rfl i0 _ 16 Try.underlying35 hi0 hz0 hs0 hb0 rfl v2 (0 + 0 + 1) ([] ++ pl ([].take 0) ++ pl [(x1, x2)]) rfl HS2.out _ (0 - 0) (pl ([].drop 0)) rfl (src2.out _ hbw3.out) (pl_one _) (by simp only [maxLen]; omega) (by omega) ?_
             intro v3 w4 hs3 hg3 ho3
             have fin : Hid (PlAt w4 v3 (putP [] (x1, x2)) ∧ Below w.heap.size w w4 ∧ ∀ b, v3.ownBlock = some b → w.heap.size ≤ b) := by
               refine ⟨?_, HB1.out.trans ((hbw3.out.grown hg3 hbw3.out.size hv2.out).mono s1), fun b hb => ?_⟩
               · show SlAt _ _ _ _ _ _
                 rw [hput.out, pl_append, pl_append]
                 have : ([].take 0 ++ [(x1, x2)] ++ [].drop 0).length = 0 + 0 + 1 + (0 - 0) := by first | (simp [List.length_take, List.length_drop, ← HN.out]; done) | (simp [List.length_take, List.length_drop, ← HN.out]; omega)
                 rw [this]
                 simpa using hs3
               · rcases ho3 with e | e
                 · exact Nat.le_trans s1 (hv2.out b (e.symm.trans hb))
                 · rw [e] at hb
                   have hb := Option.some.inj hb
                   have := hbw3.out.size
                   omega
             clear hs3 hg3 ho3))
        all_goals (go_wp2_with fail; go_ret; exact ⟨_, rfl, fin.out.1, fin.out.2.1, .inr fin.out.2.2⟩)
      · obtain rfl : a = some ⟨b, off, none⟩ := by cases e; rfl
        clear e
        go_wp2_with fail
        go_quiet (fail)
        have hwa : Below w.heap.size w (wr.drewN nq) := below_drewN' (hB.out.1.trans (HB.out.mono (by rw [hB.out.2]; omega))) nq
        have qa0 : (wr.drewN nq).cell? ⟨w.heap.size, 0, none⟩ = some (.int .i64 x1) := by simpa using q0
        have qa1 : (wr.drewN nq).cell? ⟨w.heap.size, 1, none⟩ = some (.int .i64 x2) := by simpa using q1
        generalize wr.drewN nq = wa at *
        go_wp2_with fail
        go_quiet (fail)
        go_wp2_with fail
        obtain ⟨W1, hW1⟩ : ∃ W1, W1 = (wa.drewN nq).drew := ⟨_, rfl⟩
        have hb1 : Below w.heap.size w W1 := by rw [hW1]; exact (below_drewN' hwa nq).drew
        have s1 : w.heap.size ≤ W1.heap.size := hb1.size
        have a1 := SlAt.lit0 W1 40 2
        have b1 : SlAt ((W1.alloc (.cells #[] 40)).alloc (.cells #[.int .i64 x1, .int .i64 x2] 40)) 40 2 (.slice (some ⟨W1.heap.size, 0, none⟩) 0 0) 0 [] := a1.below ((Below.refl _ _).alloc (Nat.le_refl _) _)
        have c1' : SlAt ((W1.alloc (.cells #[.int .i64 x1, .int .i64 x2] 40)).alloc (.cells #[] 40)) 40 2 (.slice (some ⟨W1.heap.size + 1, 0, none⟩) 0 0) 0 [] := by
          have := SlAt.lit0 (W1.alloc (.cells #[.int .i64 x1, .int .i64 x2] 40)) 40 2
          rwa [World.size_alloc] at this
        have b2 : SlAt ((W1.alloc (.cells #[] 40)).alloc (.cells #[.int .i64 x1, .int .i64 x2] 40)) 40 2 (.slice (some ⟨W1.heap.size + 1, 0, none⟩) 1 1) 1 (pl [(x1, x2)]) := by
          have := lit1 (W1.alloc (.cells #[] 40)) x1 x2
          rwa [World.size_alloc] at this
        have c2' : SlAt ((W1.alloc (.cells #[.int .i64 x1, .int .i64 x2] 40)).alloc (.cells #[] 40)) 40 2 (.slice (some ⟨W1.heap.size, 0, none⟩) 1 1) 1 (pl [(x1, x2)]) := (lit1 W1 x1 x2).below ((Below.refl _ _).alloc (Nat.le_refl _) _)
        have ba : Below W1.heap.size W1 (W1.alloc (.cells #[] 40)) := (Below.refl _ _).alloc (Nat.le_refl _) _
        have bb : Below W1.heap.size W1 ((W1.alloc (.cells #[] 40)).alloc (.cells #[.int .i64 x1, .int .i64 x2] 40)) := ba.alloc ba.size _
        have bc : Below W1.heap.size W1 ((W1.alloc (.cells #[.int .i64 x1, .int .i64 x2] 40)).alloc (.cells #[] 40)) := by
          have h := (Below.refl W1.heap.size W1).alloc (Nat.le_refl _) (.cells #[.int .i64 x1, .int .i64 x2] 40)
          exact h.alloc h.size _
        have hd : (wa.drewN nq).drew = W1 := hW1.symm
        have q0 : W1.cell? ⟨w.heap.size, 0, none⟩ = some (.int .i64 x1) := by rw [hW1]; simpa using qa0
        have q1 : W1.cell? ⟨w.heap.size, 1, none⟩ = some (.int .i64 x2) := by rw [hW1]; simpa using qa1
        have src1 : Hid (∀ X, Below W1.heap.size W1 X → SlAt X 40 2 (.slice (some ⟨b, off, none⟩) k c) k (pl (l.take k))) := fun X hX => by
          have h := SlAt.take (SlAt.below (SlAt.below HS0.out hb1) hX) k hk
          rwa [← pl_take] at h
        obtain ⟨A, hA⟩ : ∃ A : Addr, (if c = k then (some ⟨b, off, none⟩ : Option Addr) else some ⟨b, off + k * 2, none⟩) = some A := by split <;> exact ⟨_, rfl⟩
        have src2 : Hid (∀ X, Below W1.heap.size W1 X → SlAt X 40 2 (.slice (some A) (n - k) (c - k)) (n - k) (pl (l.drop k))) := fun X hX => by
          have h := SlAt.cut (SlAt.below (SlAt.below HS0.out hb1) hX) k hk hA
          rwa [← pl_drop] at h
        have hkc : k ≤ c := by omega
        have hk0 : (0 : Int) ≤ k := by omega
        have SA1 := Lib.hid a1
        have SB1 := Lib.hid b1
        have SC1 := Lib.hid c1'
        have SB2 := Lib.hid b2
        have SC2 := Lib.hid c2'
        have BA := Lib.hid ba
        have BQ := Lib.hid bb
        have BC := Lib.hid bc
        have HB1 := Lib.hid hb1
        have hlow := Lib.hid (World.block_lt_of_cell? _ _ q0)
        have qB0 := (BA.out.cell (p := ⟨w.heap.size, 0, none⟩) hlow.out).trans q0
        have qB1 := (BA.out.cell (p := ⟨w.heap.size, 1, none⟩) hlow.out).trans q1
        clear hW1 a1 b1 c1' b2 c2' ba bb bc hb1 hwa qa0 qa1
        go_region_law (first
          | (refine step_append_sl rfl (.tmp 55) (.tmp 58) 35 rfl i0 _ 16 Try.underlying35 hi0 hz0 hs0 hb0 rfl (.slice (some ⟨W1.heap.size, 0, none⟩) 0 0) 0 [] rfl SA1.out (.slice (some ⟨b, off, none⟩) k c) k (pl (l.take k)) rfl (src1.out _ BA.out) (pl_one _) (by simp only [maxLen]; omega) (by omega) ?_
             intro v1 w2 hs1 hg1 ho1
             have hv1 : Hid (∀ b, v1.ownBlock = some b → W1.heap.size ≤ b) := by
               intro b hb
               rcases ho1 with e | e <;> rw [e] at hb <;> simp [Value.ownBlock] at hb <;> omega
             have hbw2 := Lib.hid (BA.out.grown hg1 BA.out.size (fun q hq => by simp [Value.ownBlock] at hq; omega))
             have p0 := (hbw2.out.cell (p := ⟨w.heap.size, 0, none⟩) hlow.out).trans q0
             have p1 := (hbw2.out.cell (p := ⟨w.heap.size, 1, none⟩) hlow.out).trans q1
             have HS1 := Lib.hid hs1
             clear hs1 hg1 ho1)
          | (refine step_append_sl rfl (.tmp 55) (.tmp 58) 35 rfl i0 _ 16 Try.underlying35 hi0 hz0 hs0 hb0 rfl (.slice (some ⟨W1.heap.size, 0, none⟩) 0 0) 0 [] rfl SB1.out (.slice (some ⟨b, off, none⟩) k c) k (pl (l.take k)) rfl (src1.out _ BQ.out) (pl_one _) (by simp only [maxLen]; omega) (by omega) ?_
             intro v1 w2 hs1 hg1 ho1
             have hv1 : Hid (∀ b, v1.ownBlock = some b → W1.heap.size ≤ b) := by
               intro b hb
               rcases ho1 with e | e <;> rw [e] at hb <;> simp [Value.ownBlock] at hb <;> omega
             have hbw2 := Lib.hid (BQ.out.grown hg1 BQ.out.size (fun q hq => by simp [Value.ownBlock] at hq; omega))
             have p0 := (hbw2.out.cell (p := ⟨w.heap.size, 0, none⟩) hlow.out).trans q0
             have p1 := (hbw2.out.cell (p := ⟨w.heap.size, 1, none⟩) hlow.out).trans q1
             have hP := Lib.hid (SB2.out.grown hg1 (.inr (by simp [Value.ownBlock])))
             have HS1 := Lib.hid hs1
             clear hs1 hg1 ho1)
          | (refine step_append_sl rfl (.tmp 55) (.tmp 58) 35 rfl i0 _ 16 Try.underlying35 hi0 hz0 hs0 hb0 rfl (.slice (some ⟨W1.heap.size + 1, 0, none⟩) 0 0) 0 [] rfl SC1.out (.slice (some ⟨b, off, none⟩) k c) k (pl (l.take k)) rfl (src1.out _ BC.out) (pl_one _) (by simp only [maxLen]; omega) (by omega) ?_
             intro v1 w2 hs1 hg1 ho1
             have hv1 : Hid (∀ b, v1.ownBlock = some b → W1.heap.size ≤ b) := by
               intro b hb
               rcases ho1 with e | e <;> rw [e] at hb <;> simp [Value.ownBlock] at hb <;> omega
             have hbw2 := Lib.hid (BC.out.grown hg1 BC.out.size (fun q hq => by simp [Value.ownBlock] at hq; omega))
             have p0 := (hbw2.out.cell (p := ⟨w.heap.size, 0, none⟩) hlow.out).trans q0
             have p1 := (hbw2.out.cell (p := ⟨w.heap.size, 1, none⟩) hlow.out).trans q1
             have hP := Lib.hid (SC2.out.grown hg1 (.inr (by simp [Value.ownBlock])))
             have HS1 := Lib.hid hs1
             clear hs1 hg1 ho1)
          | (refine step_append_sl rfl (.tmp 59) (.tmp 61) 35 rfl i0 _ 16 Try.underlying35 hi0 hz0 hs0 hb0 rfl v1 (0 + k) ([] ++ pl (l.take k)) rfl (by first | exact HS1.out | exact HS1.out.below ((Below.refl _ _).alloc (Nat.le_refl _) _)) _ 1 (pl [(x1, x2)]) rfl (by first | exact hP.out | exact lit1 _ x1 x2) (pl_one _) (by simp only [maxLen]; omega) (by omega) ?_
             intro v2 w3 hs2 hg2 ho2
             have hv2 : Hid (∀ b, v2.ownBlock = some b → W1.heap.size ≤ b) := by
               intro b hb
               rcases ho2 with e | e
               · exact hv1.out b (e.symm.trans hb)
               · have z := hbw2.out.size
                 rw [e] at hb
                 have hb := Option.some.inj hb
                 first | omega | (simp at hb; omega)
             have hbw3 : Hid (Below W1.heap.size W1 w3) := by
               first
                 | exact hbw2.out.grown hg2 hbw2.out.size hv1.out
                 | exact (hbw2.out.alloc hbw2.out.size _).grown hg2 (by have := hbw2.out.size; simp; omega) hv1.out
             have HS2 := Lib.hid hs2
             clear hs2 hg2 ho2)
          | (refine step_append_sl rfl (.tmp 62) (.tmp 65) 35 rfl i0 _ 16 Try.underlying35 hi0 hz0 hs0 hb0 rfl v2 (0 + k + 1) ([] ++ pl (l.take k) ++ pl [(x1, x2)]) rfl HS2.out _ (n - k) (pl (l.drop k)) rfl (src2.out _ hbw3.out) (pl_one _) (by simp only [maxLen]; omega) (by omega) ?_
             intro v3 w4 hs3 hg3 ho3
             have fin : Hid (PlAt w4 v3 (putP l (x1, x2)) ∧ Below w.heap.size w w4 ∧ ∀ b, v3.ownBlock = some b → w.heap.size ≤ b) := by
               refine ⟨?_, HB1.out.trans ((hbw3.out.grown hg3 hbw3.out.size hv2.out).mono s1), fun b hb => ?_⟩
               · show SlAt _ _ _ _ _ _
                 rw [hput.out, pl_append, pl_append]
                 have : (l.take k ++ [(x1, x2)] ++ l.drop k).length = 0 + k + 1 + (n - k) := by first | (simp [List.length_take, List.length_drop, ← HN.out]; done) | (simp [List.length_take, List.length_drop, ← HN.out]; omega)
                 rw [this]
                 simpa using hs3
               · rcases ho3 with e | e
                 · exact Nat.le_trans s1 (hv2.out b (e.symm.trans hb))
                 · rw [e] at hb
                   have hb := Option.some.inj hb
                   have := hbw3.out.size
                   omega
             clear hs3 hg3 ho3))
        all_goals (go_wp2_with fail; go_ret; exact ⟨_, rfl, fin.out.1, fin.out.2.1, .inr fin.out.2.2⟩)
end Go.Proofs.Ytflbidbnbfndgaa
