/- The reference's areas: Insert. -/
import Derived.Test.YtcghenehcpogpaaAreaPure2
import Derived.Deep.RegionHeldLaw
import Derived.BigQuiet
namespace Go.Proofs.Ytcghenehcpogpaa
open Go Go.RowKit

theorem area_cells {X : World} {B : Nat} {f p : Int} {wt : Bool} {k fi o : Int} {T : TypeId} {m : Nat × Nat} (h : X.heap[B]? = some (.cells #[.int .i64 f, .int .i64 p, .bool wt, .int .i64 k, .int .i64 fi, .int .i64 o] T m)) :
    X.cell? ⟨B, 0, none⟩ = some (.int .i64 f) ∧ X.cell? ⟨B, 1, none⟩ = some (.int .i64 p) ∧ X.cell? ⟨B, 2, none⟩ = some (.bool wt) ∧ X.cell? ⟨B, 3, none⟩ = some (.int .i64 k) ∧ X.cell? ⟨B, 4, none⟩ = some (.int .i64 fi) ∧ X.cell? ⟨B, 5, none⟩ = some (.int .i64 o) := by
  refine ⟨?_, ?_, ?_, ?_, ?_, ?_⟩
  · rw [cell_of_row X _ 0 _ _ _ h]; rfl
  · rw [cell_of_row X _ 1 _ _ _ h]; rfl
  · rw [cell_of_row X _ 2 _ _ _ h]; rfl
  · rw [cell_of_row X _ 3 _ _ _ h]; rfl
  · rw [cell_of_row X _ 4 _ _ _ h]; rfl
  · rw [cell_of_row X _ 5 _ _ _ h]; rfl

set_option maxRecDepth 100000 in
set_option maxHeartbeats 8000000 in
theorem Insert_ref (w : World) (v : Value) (l : List Ar) (h : ArRd w v l) (hl : l.length ≤ 100000) (x : Ar) :
    Calls Try.prog 15 #[v, x.enc] w fun e w' => ∃ v', e = .returned v' ∧ ArAt w' v' (insA l x) ∧ Below w.heap.size w w' ∧ ∀ b, v'.ownBlock = some b → w.heap.size ≤ b := by
  obtain ⟨f, p, wt, kd, fi, o⟩ := x
  unfold Ar.enc
  simp only
  obtain ⟨i0, hi0, hz0, hs0, hb0⟩ := infoArea
  rcases h.form with ⟨rfl, rfl⟩ | ⟨b, off, c, rfl, hc, hm, hbs⟩
  · have HN : Hid (0 = ([] : List Ar).length) := rfl
    have hput : Hid (insA [] ⟨f, p, wt, kd, fi, o⟩ = [].take 0 ++ ⟨f, p, wt, kd, fi, o⟩ :: [].drop 0) := rfl
    go_enter Try.func15, Try.ntmps15
    go_wp2
    refine wp_loop_rounds 1 ?_
    rw [rounds_succ]
    go_wp2_with fail
    go_quiet (fail)
    go_wp2_with fail
    have hwa : Below w.heap.size w ((w.alloc (.cells #[.int .i64 f, .int .i64 p, .bool wt, .int .i64 kd, .int .i64 fi, .int .i64 o] 23)).drewN nq) := below_drewN' ((Below.refl _ _).alloc (Nat.le_refl _) _) nq
    have HKA : Hid (((w.alloc (.cells #[.int .i64 f, .int .i64 p, .bool wt, .int .i64 kd, .int .i64 fi, .int .i64 o] 23)).drewN nq).heap[w.heap.size]? = some (.cells #[.int .i64 f, .int .i64 p, .bool wt, .int .i64 kd, .int .i64 fi, .int .i64 o] 23 (0, 0))) := heap_alloc_new w _
    generalize (w.alloc _).drewN nq = wa at *
    obtain ⟨W, hW⟩ : ∃ W, W = wa.drew := ⟨_, rfl⟩
    have hd : wa.drew = W := hW.symm
    have hb1 : Below w.heap.size w W := by rw [hW]; exact hwa.drew
    have HKW : Hid (W.heap[w.heap.size]? = some (.cells #[.int .i64 f, .int .i64 p, .bool wt, .int .i64 kd, .int .i64 fi, .int .i64 o] 23 (0, 0))) := by rw [hW]; exact HKA.out
    have HQ : Hid (∀ X, Below W.heap.size W X → X.cell? ⟨w.heap.size, 0, none⟩ = some (.int .i64 f) ∧ X.cell? ⟨w.heap.size, 1, none⟩ = some (.int .i64 p) ∧ X.cell? ⟨w.heap.size, 2, none⟩ = some (.bool wt) ∧ X.cell? ⟨w.heap.size, 3, none⟩ = some (.int .i64 kd) ∧ X.cell? ⟨w.heap.size, 4, none⟩ = some (.int .i64 fi) ∧ X.cell? ⟨w.heap.size, 5, none⟩ = some (.int .i64 o)) := fun X hX => area_cells ((hX.block w.heap.size (Array.getElem?_eq_some_iff.1 HKW.out).1).trans HKW.out)
    have s1 : w.heap.size ≤ W.heap.size := hb1.size
    have a1 := SlAt.lit0 W 23 6
    have b1 : SlAt ((W.alloc (.cells #[] 23)).alloc (.cells #[.int .i64 f, .int .i64 p, .bool wt, .int .i64 kd, .int .i64 fi, .int .i64 o] 23)) 23 6 (.slice (some ⟨W.heap.size, 0, none⟩) 0 0) 0 [] := a1.below ((Below.refl _ _).alloc (Nat.le_refl _) _)
    have c1' : SlAt ((W.alloc (.cells #[.int .i64 f, .int .i64 p, .bool wt, .int .i64 kd, .int .i64 fi, .int .i64 o] 23)).alloc (.cells #[] 23)) 23 6 (.slice (some ⟨W.heap.size + 1, 0, none⟩) 0 0) 0 [] := by
      have := SlAt.lit0 (W.alloc (.cells #[.int .i64 f, .int .i64 p, .bool wt, .int .i64 kd, .int .i64 fi, .int .i64 o] 23)) 23 6
      rwa [World.size_alloc] at this
    have b2 : ArAt ((W.alloc (.cells #[] 23)).alloc (.cells #[.int .i64 f, .int .i64 p, .bool wt, .int .i64 kd, .int .i64 fi, .int .i64 o] 23)) (.slice (some ⟨W.heap.size + 1, 0, none⟩) 1 1) [(⟨f, p, wt, kd, fi, o⟩ : Ar)] := ArAt.oneAt (W.alloc (.cells #[] 23)) _ (by simp) (⟨f, p, wt, kd, fi, o⟩ : Ar) rfl
    have c2' : ArAt ((W.alloc (.cells #[.int .i64 f, .int .i64 p, .bool wt, .int .i64 kd, .int .i64 fi, .int .i64 o] 23)).alloc (.cells #[] 23)) (.slice (some ⟨W.heap.size, 0, none⟩) 1 1) [(⟨f, p, wt, kd, fi, o⟩ : Ar)] := (ArAt.oneAt W _ rfl (⟨f, p, wt, kd, fi, o⟩ : Ar) rfl).below ((Below.refl _ _).alloc (Nat.le_refl _) _)
    have ba : Below W.heap.size W (W.alloc (.cells #[] 23)) := (Below.refl _ _).alloc (Nat.le_refl _) _
    have bb : Below W.heap.size W ((W.alloc (.cells #[] 23)).alloc (.cells #[.int .i64 f, .int .i64 p, .bool wt, .int .i64 kd, .int .i64 fi, .int .i64 o] 23)) := ba.alloc ba.size _
    have bc : Below W.heap.size W ((W.alloc (.cells #[.int .i64 f, .int .i64 p, .bool wt, .int .i64 kd, .int .i64 fi, .int .i64 o] 23)).alloc (.cells #[] 23)) := by
      have h := (Below.refl W.heap.size W).alloc (Nat.le_refl _) (.cells #[.int .i64 f, .int .i64 p, .bool wt, .int .i64 kd, .int .i64 fi, .int .i64 o] 23)
      exact h.alloc h.size _
    have src1 : Hid (∀ Y, Below W.heap.size W Y → SlRd Y 6 (.slice none 0 0) 0 (ar ([].take 0))) := fun Y hY => SlRd.nil Y 6
    have src2 : Hid (∀ Y, Below W.heap.size W Y → SlRd Y 6 (.slice none 0 0) (0 - 0) (ar ([].drop 0))) := fun Y hY => SlRd.nil Y 6
    have SA1 := Lib.hid a1
    have SB1 := Lib.hid b1
    have SC1 := Lib.hid c1'
    have SB2 := Lib.hid b2
    have SC2 := Lib.hid c2'
    have BA := Lib.hid ba
    have BQ := Lib.hid bb
    have BC := Lib.hid bc
    have HB1 := Lib.hid hb1
    obtain ⟨p0, p1, p2, p3, p4, p5⟩ := HQ.out W (Below.refl _ _)
    clear hW a1 b1 c1' b2 c2' ba bb bc hb1 hwa
    go_region_held_law (fun X => X.cell? ⟨w.heap.size, 0, none⟩ = some (.int .i64 f) ∧ X.cell? ⟨w.heap.size, 1, none⟩ = some (.int .i64 p) ∧ X.cell? ⟨w.heap.size, 2, none⟩ = some (.bool wt) ∧ X.cell? ⟨w.heap.size, 3, none⟩ = some (.int .i64 kd) ∧ X.cell? ⟨w.heap.size, 4, none⟩ = some (.int .i64 fi) ∧ X.cell? ⟨w.heap.size, 5, none⟩ = some (.int .i64 o)) (go_keep) (first
      | (refine step_append_rd rfl (.tmp 22) (.tmp 25) 26 rfl i0 _ 48 Try.underlying26 hi0 hz0 hs0 hb0 rfl (.slice (some ⟨W.heap.size, 0, none⟩) 0 0) 0 [] rfl SA1.out (.slice none 0 0) 0 (ar ([].take 0)) rfl (src1.out _ BA.out) (ar_one _) (by simp only [maxLen]; omega) (by omega) ?_
         intro v1 w2 hs1 hg1 ho1
         have hv1 : Hid (∀ b, v1.ownBlock = some b → W.heap.size ≤ b) := by
           intro b hb
           rcases ho1 with e | e <;> rw [e] at hb <;> simp [Value.ownBlock] at hb <;> omega
         have hbw2 := Lib.hid (BA.out.grown hg1 BA.out.size (fun q hq => by simp [Value.ownBlock] at hq; omega))
         obtain ⟨r0, r1, r2, r3, r4, r5⟩ := HQ.out w2 hbw2.out
         have HS1 := Lib.hid hs1
         clear hs1 hg1 ho1)
      | (refine step_append_rd rfl (.tmp 22) (.tmp 25) 26 rfl i0 _ 48 Try.underlying26 hi0 hz0 hs0 hb0 rfl (.slice (some ⟨W.heap.size, 0, none⟩) 0 0) 0 [] rfl SB1.out (.slice none 0 0) 0 (ar ([].take 0)) rfl (src1.out _ BQ.out) (ar_one _) (by simp only [maxLen]; omega) (by omega) ?_
         intro v1 w2 hs1 hg1 ho1
         have hv1 : Hid (∀ b, v1.ownBlock = some b → W.heap.size ≤ b) := by
           intro b hb
           rcases ho1 with e | e <;> rw [e] at hb <;> simp [Value.ownBlock] at hb <;> omega
         have hbw2 := Lib.hid (BQ.out.grown hg1 BQ.out.size (fun q hq => by simp [Value.ownBlock] at hq; omega))
         obtain ⟨r0, r1, r2, r3, r4, r5⟩ := HQ.out w2 hbw2.out
         have hP := Lib.hid (SlAt.grown SB2.out hg1 (.inr (by simp [Value.ownBlock])))
         have HS1 := Lib.hid hs1
         clear hs1 hg1 ho1)
      | (refine step_append_rd rfl (.tmp 22) (.tmp 25) 26 rfl i0 _ 48 Try.underlying26 hi0 hz0 hs0 hb0 rfl (.slice (some ⟨W.heap.size + 1, 0, none⟩) 0 0) 0 [] rfl SC1.out (.slice none 0 0) 0 (ar ([].take 0)) rfl (src1.out _ BC.out) (ar_one _) (by simp only [maxLen]; omega) (by omega) ?_
         intro v1 w2 hs1 hg1 ho1
         have hv1 : Hid (∀ b, v1.ownBlock = some b → W.heap.size ≤ b) := by
           intro b hb
           rcases ho1 with e | e <;> rw [e] at hb <;> simp [Value.ownBlock] at hb <;> omega
         have hbw2 := Lib.hid (BC.out.grown hg1 BC.out.size (fun q hq => by simp [Value.ownBlock] at hq; omega))
         obtain ⟨r0, r1, r2, r3, r4, r5⟩ := HQ.out w2 hbw2.out
         have hP := Lib.hid (SlAt.grown SC2.out hg1 (.inr (by simp [Value.ownBlock])))
         have HS1 := Lib.hid hs1
         clear hs1 hg1 ho1)
      | (refine step_append_rd rfl (.tmp 26) (.tmp 28) 26 rfl i0 _ 48 Try.underlying26 hi0 hz0 hs0 hb0 rfl v1 (0 + 0) ([] ++ ar ([].take 0)) rfl (by first | exact HS1.out | exact HS1.out.below ((Below.refl _ _).alloc (Nat.le_refl _) _)) _ 1 (ar [(⟨f, p, wt, kd, fi, o⟩ : Ar)]) rfl (by first | exact ArAt.rd hP.out | exact ArAt.rd (ArAt.oneAt _ _ rfl (⟨f, p, wt, kd, fi, o⟩ : Ar) rfl)) (ar_one _) (by simp only [maxLen]; omega) (by omega) ?_
         intro v2 w3 hs2 hg2 ho2
         have hv2 : Hid (∀ b, v2.ownBlock = some b → W.heap.size ≤ b) := by
           intro b hb
           rcases ho2 with e | e
           · exact hv1.out b (e.symm.trans hb)
           · have z := hbw2.out.size
             rw [e] at hb
             have hb := Option.some.inj hb
             first | omega | (simp at hb; omega)
         have hbw3 : Hid (Below W.heap.size W w3) := by
           first
             | exact hbw2.out.grown hg2 hbw2.out.size hv1.out
             | exact (hbw2.out.alloc hbw2.out.size _).grown hg2 (by have := hbw2.out.size; simp; omega) hv1.out
         obtain ⟨y0, y1, y2, y3, y4, y5⟩ := HQ.out w3 hbw3.out
         have HS2 := Lib.hid hs2
         clear hs2 hg2 ho2)
      | (refine step_append_rd rfl (.tmp 29) (.tmp 32) 26 rfl i0 _ 48 Try.underlying26 hi0 hz0 hs0 hb0 rfl v2 (0 + 0 + 1) ([] ++ ar ([].take 0) ++ ar [(⟨f, p, wt, kd, fi, o⟩ : Ar)]) rfl HS2.out _ (0 - 0) (ar ([].drop 0)) rfl (src2.out _ hbw3.out) (ar_one _) (by simp only [maxLen]; omega) (by omega) ?_
         intro v3 w4 hs3 hg3 ho3
         have hbw4 : Hid (Below W.heap.size W w4) := hbw3.out.grown hg3 hbw3.out.size hv2.out
         obtain ⟨z0, z1, z2, z3, z4, z5⟩ := HQ.out w4 hbw4.out
         have fin : Hid (ArAt w4 v3 (insA [] (⟨f, p, wt, kd, fi, o⟩ : Ar)) ∧ Below w.heap.size w w4 ∧ ∀ b, v3.ownBlock = some b → w.heap.size ≤ b) := by
           refine ⟨?_, HB1.out.trans (hbw4.out.mono s1), fun b hb => ?_⟩
           · show SlAt _ _ _ _ _ _
             rw [hput.out, show ([].take 0) ++ (⟨f, p, wt, kd, fi, o⟩ : Ar) :: ([].drop 0) = (([].take 0) ++ [(⟨f, p, wt, kd, fi, o⟩ : Ar)]) ++ ([].drop 0) by simp, ar_append, ar_append]
             have : ((([].take 0) ++ [(⟨f, p, wt, kd, fi, o⟩ : Ar)]) ++ ([].drop 0)).length = 0 + 0 + 1 + (0 - 0) := by first | (simp [List.length_take, List.length_drop, ← HN.out]; done) | (simp [List.length_take, List.length_drop, ← HN.out]; omega)
             rw [this]
             simpa using hs3
           · rcases ho3 with e | e
             · exact Nat.le_trans s1 (hv2.out b (e.symm.trans hb))
             · rw [e] at hb
               have hb := Option.some.inj hb
               have := hbw3.out.size
               omega
         clear hs3 hg3 ho3))
    all_goals (go_wp2_with fail; exact bodyPost_ret (v := v3) (by simp [results, Try.results15, go_sem]) rfl ⟨v3, rfl, fin.out.1, fin.out.2.1, fin.out.2.2⟩)
  · obtain ⟨n, hn⟩ : ∃ n, n = l.length := ⟨_, rfl⟩
    have HL := Lib.hid h
    rw [← hn] at hc hl HL ⊢
    have HN := Lib.hid hn
    have HS0 : Hid (SlRd w 6 (.slice (some ⟨b, off, none⟩) n c) n (ar l)) := by have h := HL.out; unfold ArRd at h; rwa [← HN.out] at h
    clear hn h
    go_enter Try.func15, Try.ntmps15
    go_wp2_with fail
    obtain ⟨W0, hW0⟩ : ∃ W0, W0 = w.alloc (.cells #[.int .i64 f, .int .i64 p, .bool wt, .int .i64 kd, .int .i64 fi, .int .i64 o] 23) := ⟨_, rfl⟩
    have hB : Hid (Below w.heap.size w W0 ∧ W0.heap.size = w.heap.size + 1 ∧ W0.heap[w.heap.size]? = some (.cells #[.int .i64 f, .int .i64 p, .bool wt, .int .i64 kd, .int .i64 fi, .int .i64 o] 23 (0, 0))) := by
      rw [hW0]; exact ⟨(Below.refl _ _).alloc (Nat.le_refl _) _, by simp, heap_alloc_new w _⟩
    rw [← hW0]
    clear hW0
    go_loopw [5] (fun i wr => ∃ k : Nat, k ≤ n ∧ i = .int .i64 k ∧ Below W0.heap.size W0 wr ∧ ∀ (j : Nat) (x : Ar), j < k → l[j]? = some x → x.from_ < f) (fun i _ => n - (intOf i).toNat)
    case atStart => exact ⟨0, by omega, rfl, Below.refl _ _, fun j _ h => absurd h (Nat.not_lt_zero _)⟩
    case round =>
      obtain ⟨k, hk, rfl, hb, hlo⟩ := hrel
      have HB := Lib.hid (hB.out.1.trans (hb.mono (by rw [hB.out.2.1]; omega)))
      have HB' := Lib.hid hb
      have HLo := Lib.hid hlo
      have HKR := Lib.hid ((hb.block w.heap.size (by rw [hB.out.2.1]; omega)).trans hB.out.2.2)
      clear hb hlo
      by_cases hlt : k < n
      · have hlt' : (k : Int) < n := by omega
        obtain ⟨y, hy⟩ : ∃ y, l[k]? = some y := ⟨_, List.getElem?_eq_getElem (by rw [← HN.out]; exact hlt)⟩
        obtain ⟨e0, -, -, -, -, -⟩ := (HL.out.below HB.out).cell hy
        obtain ⟨q0, -, -, -, -, -⟩ := area_cells HKR.out
        have HY := Lib.hid hy
        clear hy
        obtain ⟨y1, y2, y3, y4, y5, y6⟩ := y
        simp only at e0
        by_cases c1 : y1 < f
        · go_wp2_with fail
          go_quiet (fail)
          go_wp2_with fail
          go_roundw
          case rel =>
            refine ⟨k + 1, by omega, by go_num, below_drewN' HB'.out nq, fun j x hj hx => ?_⟩
            by_cases hjk : j = k
            · subst hjk
              obtain rfl := Option.some.inj (HY.out.symm.trans hx)
              exact c1
            · exact HLo.out j x (by omega) hx
          case measure => simp [intOf]; omega
        · have hput : Hid (insA l ⟨f, p, wt, kd, fi, o⟩ = l.take k ++ ⟨f, p, wt, kd, fi, o⟩ :: l.drop k) := insA_at (by rw [← HN.out]; exact hk) (fun j x hj hx => HLo.out j x hj hx) (fun x hx => by
            obtain rfl := Option.some.inj (HY.out.symm.trans hx)
            simp only
            omega)
          go_wp2_with fail
          go_quiet (fail)
          go_wp2_with fail
          have hwa : Below w.heap.size w (wr.drewN nq) := below_drewN' HB.out nq
          have HKA : Hid ((wr.drewN nq).heap[w.heap.size]? = some (.cells #[.int .i64 f, .int .i64 p, .bool wt, .int .i64 kd, .int .i64 fi, .int .i64 o] 23 (0, 0))) := HKR.out
          generalize wr.drewN nq = wa at *
          clear e0 q0
          obtain ⟨W, hW⟩ : ∃ W, W = wa.drew := ⟨_, rfl⟩
          have hd : wa.drew = W := hW.symm
          have hb1 : Below w.heap.size w W := by rw [hW]; exact hwa.drew
          have HKW : Hid (W.heap[w.heap.size]? = some (.cells #[.int .i64 f, .int .i64 p, .bool wt, .int .i64 kd, .int .i64 fi, .int .i64 o] 23 (0, 0))) := by rw [hW]; exact HKA.out
          have HQ : Hid (∀ X, Below W.heap.size W X → X.cell? ⟨w.heap.size, 0, none⟩ = some (.int .i64 f) ∧ X.cell? ⟨w.heap.size, 1, none⟩ = some (.int .i64 p) ∧ X.cell? ⟨w.heap.size, 2, none⟩ = some (.bool wt) ∧ X.cell? ⟨w.heap.size, 3, none⟩ = some (.int .i64 kd) ∧ X.cell? ⟨w.heap.size, 4, none⟩ = some (.int .i64 fi) ∧ X.cell? ⟨w.heap.size, 5, none⟩ = some (.int .i64 o)) := fun X hX => area_cells ((hX.block w.heap.size (Array.getElem?_eq_some_iff.1 HKW.out).1).trans HKW.out)
          have s1 : w.heap.size ≤ W.heap.size := hb1.size
          have a1 := SlAt.lit0 W 23 6
          have b1 : SlAt ((W.alloc (.cells #[] 23)).alloc (.cells #[.int .i64 f, .int .i64 p, .bool wt, .int .i64 kd, .int .i64 fi, .int .i64 o] 23)) 23 6 (.slice (some ⟨W.heap.size, 0, none⟩) 0 0) 0 [] := a1.below ((Below.refl _ _).alloc (Nat.le_refl _) _)
          have c1' : SlAt ((W.alloc (.cells #[.int .i64 f, .int .i64 p, .bool wt, .int .i64 kd, .int .i64 fi, .int .i64 o] 23)).alloc (.cells #[] 23)) 23 6 (.slice (some ⟨W.heap.size + 1, 0, none⟩) 0 0) 0 [] := by
            have := SlAt.lit0 (W.alloc (.cells #[.int .i64 f, .int .i64 p, .bool wt, .int .i64 kd, .int .i64 fi, .int .i64 o] 23)) 23 6
            rwa [World.size_alloc] at this
          have b2 : ArAt ((W.alloc (.cells #[] 23)).alloc (.cells #[.int .i64 f, .int .i64 p, .bool wt, .int .i64 kd, .int .i64 fi, .int .i64 o] 23)) (.slice (some ⟨W.heap.size + 1, 0, none⟩) 1 1) [(⟨f, p, wt, kd, fi, o⟩ : Ar)] := ArAt.oneAt (W.alloc (.cells #[] 23)) _ (by simp) (⟨f, p, wt, kd, fi, o⟩ : Ar) rfl
          have c2' : ArAt ((W.alloc (.cells #[.int .i64 f, .int .i64 p, .bool wt, .int .i64 kd, .int .i64 fi, .int .i64 o] 23)).alloc (.cells #[] 23)) (.slice (some ⟨W.heap.size, 0, none⟩) 1 1) [(⟨f, p, wt, kd, fi, o⟩ : Ar)] := (ArAt.oneAt W _ rfl (⟨f, p, wt, kd, fi, o⟩ : Ar) rfl).below ((Below.refl _ _).alloc (Nat.le_refl _) _)
          have ba : Below W.heap.size W (W.alloc (.cells #[] 23)) := (Below.refl _ _).alloc (Nat.le_refl _) _
          have bb : Below W.heap.size W ((W.alloc (.cells #[] 23)).alloc (.cells #[.int .i64 f, .int .i64 p, .bool wt, .int .i64 kd, .int .i64 fi, .int .i64 o] 23)) := ba.alloc ba.size _
          have bc : Below W.heap.size W ((W.alloc (.cells #[.int .i64 f, .int .i64 p, .bool wt, .int .i64 kd, .int .i64 fi, .int .i64 o] 23)).alloc (.cells #[] 23)) := by
            have h := (Below.refl W.heap.size W).alloc (Nat.le_refl _) (.cells #[.int .i64 f, .int .i64 p, .bool wt, .int .i64 kd, .int .i64 fi, .int .i64 o] 23)
            exact h.alloc h.size _
          have src1 : Hid (∀ Y, Below W.heap.size W Y → SlRd Y 6 (.slice (some ⟨b, off, none⟩) k c) k (ar (l.take k))) := fun Y hY => by
            have h := SlRd.take (SlRd.below (SlRd.below HS0.out hb1) hY) k hk
            rwa [← ar_take] at h
          obtain ⟨A, hA⟩ : ∃ A : Addr, (if c = k then (some ⟨b, off, none⟩ : Option Addr) else some ⟨b, off + k * 6, none⟩) = some A := by split <;> exact ⟨_, rfl⟩
          have src2 : Hid (∀ Y, Below W.heap.size W Y → SlRd Y 6 (.slice (some A) (n - k) (c - k)) (n - k) (ar (l.drop k))) := fun Y hY => by
            have h := SlRd.cut (SlRd.below (SlRd.below HS0.out hb1) hY) k hk hA
            rwa [← ar_drop] at h
          have hkc : k ≤ c := by omega
          have hk0 : (0 : Int) ≤ k := by omega
          have SA1 := Lib.hid a1
          have SB1 := Lib.hid b1
          have SC1 := Lib.hid c1'
          have SB2 := Lib.hid b2
          have SC2 := Lib.hid c2'
          have BA := Lib.hid ba
          have BQ := Lib.hid bb
          have BC := Lib.hid bc
          have HB1 := Lib.hid hb1
          obtain ⟨p0, p1, p2, p3, p4, p5⟩ := HQ.out W (Below.refl _ _)
          clear hW a1 b1 c1' b2 c2' ba bb bc hb1 hwa
          go_region_held_law (fun X => X.cell? ⟨w.heap.size, 0, none⟩ = some (.int .i64 f) ∧ X.cell? ⟨w.heap.size, 1, none⟩ = some (.int .i64 p) ∧ X.cell? ⟨w.heap.size, 2, none⟩ = some (.bool wt) ∧ X.cell? ⟨w.heap.size, 3, none⟩ = some (.int .i64 kd) ∧ X.cell? ⟨w.heap.size, 4, none⟩ = some (.int .i64 fi) ∧ X.cell? ⟨w.heap.size, 5, none⟩ = some (.int .i64 o)) (go_keep) (first
            | (refine step_append_rd rfl (.tmp 22) (.tmp 25) 26 rfl i0 _ 48 Try.underlying26 hi0 hz0 hs0 hb0 rfl (.slice (some ⟨W.heap.size, 0, none⟩) 0 0) 0 [] rfl SA1.out (.slice (some ⟨b, off, none⟩) k c) k (ar (l.take k)) rfl (src1.out _ BA.out) (ar_one _) (by simp only [maxLen]; omega) (by omega) ?_
               intro v1 w2 hs1 hg1 ho1
               have hv1 : Hid (∀ b, v1.ownBlock = some b → W.heap.size ≤ b) := by
                 intro b hb
                 rcases ho1 with e | e <;> rw [e] at hb <;> simp [Value.ownBlock] at hb <;> omega
               have hbw2 := Lib.hid (BA.out.grown hg1 BA.out.size (fun q hq => by simp [Value.ownBlock] at hq; omega))
               obtain ⟨r0, r1, r2, r3, r4, r5⟩ := HQ.out w2 hbw2.out
               have HS1 := Lib.hid hs1
               clear hs1 hg1 ho1)
            | (refine step_append_rd rfl (.tmp 22) (.tmp 25) 26 rfl i0 _ 48 Try.underlying26 hi0 hz0 hs0 hb0 rfl (.slice (some ⟨W.heap.size, 0, none⟩) 0 0) 0 [] rfl SB1.out (.slice (some ⟨b, off, none⟩) k c) k (ar (l.take k)) rfl (src1.out _ BQ.out) (ar_one _) (by simp only [maxLen]; omega) (by omega) ?_
               intro v1 w2 hs1 hg1 ho1
               have hv1 : Hid (∀ b, v1.ownBlock = some b → W.heap.size ≤ b) := by
                 intro b hb
                 rcases ho1 with e | e <;> rw [e] at hb <;> simp [Value.ownBlock] at hb <;> omega
               have hbw2 := Lib.hid (BQ.out.grown hg1 BQ.out.size (fun q hq => by simp [Value.ownBlock] at hq; omega))
               obtain ⟨r0, r1, r2, r3, r4, r5⟩ := HQ.out w2 hbw2.out
               have hP := Lib.hid (SlAt.grown SB2.out hg1 (.inr (by simp [Value.ownBlock])))
               have HS1 := Lib.hid hs1
               clear hs1 hg1 ho1)
            | (refine step_append_rd rfl (.tmp 22) (.tmp 25) 26 rfl i0 _ 48 Try.underlying26 hi0 hz0 hs0 hb0 rfl (.slice (some ⟨W.heap.size + 1, 0, none⟩) 0 0) 0 [] rfl SC1.out (.slice (some ⟨b, off, none⟩) k c) k (ar (l.take k)) rfl (src1.out _ BC.out) (ar_one _) (by simp only [maxLen]; omega) (by omega) ?_
               intro v1 w2 hs1 hg1 ho1
               have hv1 : Hid (∀ b, v1.ownBlock = some b → W.heap.size ≤ b) := by
                 intro b hb
                 rcases ho1 with e | e <;> rw [e] at hb <;> simp [Value.ownBlock] at hb <;> omega
               have hbw2 := Lib.hid (BC.out.grown hg1 BC.out.size (fun q hq => by simp [Value.ownBlock] at hq; omega))
               obtain ⟨r0, r1, r2, r3, r4, r5⟩ := HQ.out w2 hbw2.out
               have hP := Lib.hid (SlAt.grown SC2.out hg1 (.inr (by simp [Value.ownBlock])))
               have HS1 := Lib.hid hs1
               clear hs1 hg1 ho1)
            | (refine step_append_rd rfl (.tmp 26) (.tmp 28) 26 rfl i0 _ 48 Try.underlying26 hi0 hz0 hs0 hb0 rfl v1 (0 + k) ([] ++ ar (l.take k)) rfl (by first | exact HS1.out | exact HS1.out.below ((Below.refl _ _).alloc (Nat.le_refl _) _)) _ 1 (ar [(⟨f, p, wt, kd, fi, o⟩ : Ar)]) rfl (by first | exact ArAt.rd hP.out | exact ArAt.rd (ArAt.oneAt _ _ rfl (⟨f, p, wt, kd, fi, o⟩ : Ar) rfl)) (ar_one _) (by simp only [maxLen]; omega) (by omega) ?_
               intro v2 w3 hs2 hg2 ho2
               have hv2 : Hid (∀ b, v2.ownBlock = some b → W.heap.size ≤ b) := by
                 intro b hb
                 rcases ho2 with e | e
                 · exact hv1.out b (e.symm.trans hb)
                 · have z := hbw2.out.size
                   rw [e] at hb
                   have hb := Option.some.inj hb
                   first | omega | (simp at hb; omega)
               have hbw3 : Hid (Below W.heap.size W w3) := by
                 first
                   | exact hbw2.out.grown hg2 hbw2.out.size hv1.out
                   | exact (hbw2.out.alloc hbw2.out.size _).grown hg2 (by have := hbw2.out.size; simp; omega) hv1.out
               obtain ⟨y0, y1, y2, y3, y4, y5⟩ := HQ.out w3 hbw3.out
               have HS2 := Lib.hid hs2
               clear hs2 hg2 ho2)
            | (refine step_append_rd rfl (.tmp 29) (.tmp 32) 26 rfl i0 _ 48 Try.underlying26 hi0 hz0 hs0 hb0 rfl v2 (0 + k + 1) ([] ++ ar (l.take k) ++ ar [(⟨f, p, wt, kd, fi, o⟩ : Ar)]) rfl HS2.out _ (n - k) (ar (l.drop k)) rfl (src2.out _ hbw3.out) (ar_one _) (by simp only [maxLen]; omega) (by omega) ?_
               intro v3 w4 hs3 hg3 ho3
               have hbw4 : Hid (Below W.heap.size W w4) := hbw3.out.grown hg3 hbw3.out.size hv2.out
               obtain ⟨z0, z1, z2, z3, z4, z5⟩ := HQ.out w4 hbw4.out
               have fin : Hid (ArAt w4 v3 (insA l (⟨f, p, wt, kd, fi, o⟩ : Ar)) ∧ Below w.heap.size w w4 ∧ ∀ b, v3.ownBlock = some b → w.heap.size ≤ b) := by
                 refine ⟨?_, HB1.out.trans (hbw4.out.mono s1), fun b hb => ?_⟩
                 · show SlAt _ _ _ _ _ _
                   rw [hput.out, show (l.take k) ++ (⟨f, p, wt, kd, fi, o⟩ : Ar) :: (l.drop k) = ((l.take k) ++ [(⟨f, p, wt, kd, fi, o⟩ : Ar)]) ++ (l.drop k) by simp, ar_append, ar_append]
                   have : (((l.take k) ++ [(⟨f, p, wt, kd, fi, o⟩ : Ar)]) ++ (l.drop k)).length = 0 + k + 1 + (n - k) := by first | (simp [List.length_take, List.length_drop, ← HN.out]; done) | (simp [List.length_take, List.length_drop, ← HN.out]; omega)
                   rw [this]
                   simpa using hs3
                 · rcases ho3 with e | e
                   · exact Nat.le_trans s1 (hv2.out b (e.symm.trans hb))
                   · rw [e] at hb
                     have hb := Option.some.inj hb
                     have := hbw3.out.size
                     omega
               clear hs3 hg3 ho3))
          all_goals (go_wp2_with fail; exact bodyPost_ret (v := v3) (by simp [results, Try.results15, go_sem]) rfl ⟨v3, rfl, fin.out.1, fin.out.2.1, fin.out.2.2⟩)
      · have hke : k = n := by omega
        have hput : Hid (insA l ⟨f, p, wt, kd, fi, o⟩ = l.take k ++ ⟨f, p, wt, kd, fi, o⟩ :: l.drop k) := insA_at (by rw [← HN.out]; exact hk) (fun j x hj hx => HLo.out j x hj hx) (fun x hx => by
            rw [List.getElem?_eq_none (by rw [← HN.out]; omega)] at hx
            cases hx)
        have hltn : ¬ (k : Int) < n := by omega
        have HKE := Lib.hid hke
        clear hke
        go_wp2_with fail
        go_quiet (fail)
        go_wp2_with fail
        have hwa : Below w.heap.size w (wr.drewN nq) := below_drewN' HB.out nq
        have HKA : Hid ((wr.drewN nq).heap[w.heap.size]? = some (.cells #[.int .i64 f, .int .i64 p, .bool wt, .int .i64 kd, .int .i64 fi, .int .i64 o] 23 (0, 0))) := HKR.out
        generalize wr.drewN nq = wa at *
        obtain ⟨W, hW⟩ : ∃ W, W = wa.drew := ⟨_, rfl⟩
        have hd : wa.drew = W := hW.symm
        have hb1 : Below w.heap.size w W := by rw [hW]; exact hwa.drew
        have HKW : Hid (W.heap[w.heap.size]? = some (.cells #[.int .i64 f, .int .i64 p, .bool wt, .int .i64 kd, .int .i64 fi, .int .i64 o] 23 (0, 0))) := by rw [hW]; exact HKA.out
        have HQ : Hid (∀ X, Below W.heap.size W X → X.cell? ⟨w.heap.size, 0, none⟩ = some (.int .i64 f) ∧ X.cell? ⟨w.heap.size, 1, none⟩ = some (.int .i64 p) ∧ X.cell? ⟨w.heap.size, 2, none⟩ = some (.bool wt) ∧ X.cell? ⟨w.heap.size, 3, none⟩ = some (.int .i64 kd) ∧ X.cell? ⟨w.heap.size, 4, none⟩ = some (.int .i64 fi) ∧ X.cell? ⟨w.heap.size, 5, none⟩ = some (.int .i64 o)) := fun X hX => area_cells ((hX.block w.heap.size (Array.getElem?_eq_some_iff.1 HKW.out).1).trans HKW.out)
        have s1 : w.heap.size ≤ W.heap.size := hb1.size
        have a1 := SlAt.lit0 W 23 6
        have b1 : SlAt ((W.alloc (.cells #[] 23)).alloc (.cells #[.int .i64 f, .int .i64 p, .bool wt, .int .i64 kd, .int .i64 fi, .int .i64 o] 23)) 23 6 (.slice (some ⟨W.heap.size, 0, none⟩) 0 0) 0 [] := a1.below ((Below.refl _ _).alloc (Nat.le_refl _) _)
        have c1' : SlAt ((W.alloc (.cells #[.int .i64 f, .int .i64 p, .bool wt, .int .i64 kd, .int .i64 fi, .int .i64 o] 23)).alloc (.cells #[] 23)) 23 6 (.slice (some ⟨W.heap.size + 1, 0, none⟩) 0 0) 0 [] := by
          have := SlAt.lit0 (W.alloc (.cells #[.int .i64 f, .int .i64 p, .bool wt, .int .i64 kd, .int .i64 fi, .int .i64 o] 23)) 23 6
          rwa [World.size_alloc] at this
        have b2 : ArAt ((W.alloc (.cells #[] 23)).alloc (.cells #[.int .i64 f, .int .i64 p, .bool wt, .int .i64 kd, .int .i64 fi, .int .i64 o] 23)) (.slice (some ⟨W.heap.size + 1, 0, none⟩) 1 1) [(⟨f, p, wt, kd, fi, o⟩ : Ar)] := ArAt.oneAt (W.alloc (.cells #[] 23)) _ (by simp) (⟨f, p, wt, kd, fi, o⟩ : Ar) rfl
        have c2' : ArAt ((W.alloc (.cells #[.int .i64 f, .int .i64 p, .bool wt, .int .i64 kd, .int .i64 fi, .int .i64 o] 23)).alloc (.cells #[] 23)) (.slice (some ⟨W.heap.size, 0, none⟩) 1 1) [(⟨f, p, wt, kd, fi, o⟩ : Ar)] := (ArAt.oneAt W _ rfl (⟨f, p, wt, kd, fi, o⟩ : Ar) rfl).below ((Below.refl _ _).alloc (Nat.le_refl _) _)
        have ba : Below W.heap.size W (W.alloc (.cells #[] 23)) := (Below.refl _ _).alloc (Nat.le_refl _) _
        have bb : Below W.heap.size W ((W.alloc (.cells #[] 23)).alloc (.cells #[.int .i64 f, .int .i64 p, .bool wt, .int .i64 kd, .int .i64 fi, .int .i64 o] 23)) := ba.alloc ba.size _
        have bc : Below W.heap.size W ((W.alloc (.cells #[.int .i64 f, .int .i64 p, .bool wt, .int .i64 kd, .int .i64 fi, .int .i64 o] 23)).alloc (.cells #[] 23)) := by
          have h := (Below.refl W.heap.size W).alloc (Nat.le_refl _) (.cells #[.int .i64 f, .int .i64 p, .bool wt, .int .i64 kd, .int .i64 fi, .int .i64 o] 23)
          exact h.alloc h.size _
        have src1 : Hid (∀ Y, Below W.heap.size W Y → SlRd Y 6 (.slice (some ⟨b, off, none⟩) k c) k (ar (l.take k))) := fun Y hY => by
          have h := SlRd.take (SlRd.below (SlRd.below HS0.out hb1) hY) k hk
          rwa [← ar_take] at h
        obtain ⟨A, hA⟩ : ∃ A : Addr, (if c = k then (some ⟨b, off, none⟩ : Option Addr) else some ⟨b, off + k * 6, none⟩) = some A := by split <;> exact ⟨_, rfl⟩
        have src2 : Hid (∀ Y, Below W.heap.size W Y → SlRd Y 6 (.slice (some A) (n - k) (c - k)) (n - k) (ar (l.drop k))) := fun Y hY => by
          have h := SlRd.cut (SlRd.below (SlRd.below HS0.out hb1) hY) k hk hA
          rwa [← ar_drop] at h
        have hkc : k ≤ c := by omega
        have hk0 : (0 : Int) ≤ k := by omega
        have SA1 := Lib.hid a1
        have SB1 := Lib.hid b1
        have SC1 := Lib.hid c1'
        have SB2 := Lib.hid b2
        have SC2 := Lib.hid c2'
        have BA := Lib.hid ba
        have BQ := Lib.hid bb
        have BC := Lib.hid bc
        have HB1 := Lib.hid hb1
        obtain ⟨p0, p1, p2, p3, p4, p5⟩ := HQ.out W (Below.refl _ _)
        clear hW a1 b1 c1' b2 c2' ba bb bc hb1 hwa
        go_region_held_law (fun X => X.cell? ⟨w.heap.size, 0, none⟩ = some (.int .i64 f) ∧ X.cell? ⟨w.heap.size, 1, none⟩ = some (.int .i64 p) ∧ X.cell? ⟨w.heap.size, 2, none⟩ = some (.bool wt) ∧ X.cell? ⟨w.heap.size, 3, none⟩ = some (.int .i64 kd) ∧ X.cell? ⟨w.heap.size, 4, none⟩ = some (.int .i64 fi) ∧ X.cell? ⟨w.heap.size, 5, none⟩ = some (.int .i64 o)) (go_keep) (first
          | (refine step_append_rd rfl (.tmp 22) (.tmp 25) 26 rfl i0 _ 48 Try.underlying26 hi0 hz0 hs0 hb0 rfl (.slice (some ⟨W.heap.size, 0, none⟩) 0 0) 0 [] rfl SA1.out (.slice (some ⟨b, off, none⟩) k c) k (ar (l.take k)) rfl (src1.out _ BA.out) (ar_one _) (by simp only [maxLen]; omega) (by omega) ?_
             intro v1 w2 hs1 hg1 ho1
             have hv1 : Hid (∀ b, v1.ownBlock = some b → W.heap.size ≤ b) := by
               intro b hb
               rcases ho1 with e | e <;> rw [e] at hb <;> simp [Value.ownBlock] at hb <;> omega
             have hbw2 := Lib.hid (BA.out.grown hg1 BA.out.size (fun q hq => by simp [Value.ownBlock] at hq; omega))
             obtain ⟨r0, r1, r2, r3, r4, r5⟩ := HQ.out w2 hbw2.out
             have HS1 := Lib.hid hs1
             clear hs1 hg1 ho1)
          | (refine step_append_rd rfl (.tmp 22) (.tmp 25) 26 rfl i0 _ 48 Try.underlying26 hi0 hz0 hs0 hb0 rfl (.slice (some ⟨W.heap.size, 0, none⟩) 0 0) 0 [] rfl SB1.out (.slice (some ⟨b, off, none⟩) k c) k (ar (l.take k)) rfl (src1.out _ BQ.out) (ar_one _) (by simp only [maxLen]; omega) (by omega) ?_
             intro v1 w2 hs1 hg1 ho1
             have hv1 : Hid (∀ b, v1.ownBlock = some b → W.heap.size ≤ b) := by
               intro b hb
               rcases ho1 with e | e <;> rw [e] at hb <;> simp [Value.ownBlock] at hb <;> omega
             have hbw2 := Lib.hid (BQ.out.grown hg1 BQ.out.size (fun q hq => by simp [Value.ownBlock] at hq; omega))
             obtain ⟨r0, r1, r2, r3, r4, r5⟩ := HQ.out w2 hbw2.out
             have hP := Lib.hid (SlAt.grown SB2.out hg1 (.inr (by simp [Value.ownBlock])))
             have HS1 := Lib.hid hs1
             clear hs1 hg1 ho1)
          | (refine step_append_rd rfl (.tmp 22) (.tmp 25) 26 rfl i0 _ 48 Try.underlying26 hi0 hz0 hs0 hb0 rfl (.slice (some ⟨W.heap.size + 1, 0, none⟩) 0 0) 0 [] rfl SC1.out (.slice (some ⟨b, off, none⟩) k c) k (ar (l.take k)) rfl (src1.out _ BC.out) (ar_one _) (by simp only [maxLen]; omega) (by omega) ?_
             intro v1 w2 hs1 hg1 ho1
             have hv1 : Hid (∀ b, v1.ownBlock = some b → W.heap.size ≤ b) := by
               intro b hb
               rcases ho1 with e | e <;> rw [e] at hb <;> simp [Value.ownBlock] at hb <;> omega
             have hbw2 := Lib.hid (BC.out.grown hg1 BC.out.size (fun q hq => by simp [Value.ownBlock] at hq; omega))
             obtain ⟨r0, r1, r2, r3, r4, r5⟩ := HQ.out w2 hbw2.out
             have hP := Lib.hid (SlAt.grown SC2.out hg1 (.inr (by simp [Value.ownBlock])))
             have HS1 := Lib.hid hs1
             clear hs1 hg1 ho1)
          | (refine step_append_rd rfl (.tmp 26) (.tmp 28) 26 rfl i0 _ 48 Try.underlying26 hi0 hz0 hs0 hb0 rfl v1 (0 + k) ([] ++ ar (l.take k)) rfl (by first | exact HS1.out | exact HS1.out.below ((Below.refl _ _).alloc (Nat.le_refl _) _)) _ 1 (ar [(⟨f, p, wt, kd, fi, o⟩ : Ar)]) rfl (by first | exact ArAt.rd hP.out | exact ArAt.rd (ArAt.oneAt _ _ rfl (⟨f, p, wt, kd, fi, o⟩ : Ar) rfl)) (ar_one _) (by simp only [maxLen]; omega) (by omega) ?_
             intro v2 w3 hs2 hg2 ho2
             have hv2 : Hid (∀ b, v2.ownBlock = some b → W.heap.size ≤ b) := by
               intro b hb
               rcases ho2 with e | e
               · exact hv1.out b (e.symm.trans hb)
               · have z := hbw2.out.size
                 rw [e] at hb
                 have hb := Option.some.inj hb
                 first | omega | (simp at hb; omega)
             have hbw3 : Hid (Below W.heap.size W w3) := by
               first
                 | exact hbw2.out.grown hg2 hbw2.out.size hv1.out
                 | exact (hbw2.out.alloc hbw2.out.size _).grown hg2 (by have := hbw2.out.size; simp; omega) hv1.out
             obtain ⟨y0, y1, y2, y3, y4, y5⟩ := HQ.out w3 hbw3.out
             have HS2 := Lib.hid hs2
             clear hs2 hg2 ho2)
          | (refine step_append_rd rfl (.tmp 29) (.tmp 32) 26 rfl i0 _ 48 Try.underlying26 hi0 hz0 hs0 hb0 rfl v2 (0 + k + 1) ([] ++ ar (l.take k) ++ ar [(⟨f, p, wt, kd, fi, o⟩ : Ar)]) rfl HS2.out _ (n - k) (ar (l.drop k)) rfl (src2.out _ hbw3.out) (ar_one _) (by simp only [maxLen]; omega) (by omega) ?_
             intro v3 w4 hs3 hg3 ho3
             have hbw4 : Hid (Below W.heap.size W w4) := hbw3.out.grown hg3 hbw3.out.size hv2.out
             obtain ⟨z0, z1, z2, z3, z4, z5⟩ := HQ.out w4 hbw4.out
             have fin : Hid (ArAt w4 v3 (insA l (⟨f, p, wt, kd, fi, o⟩ : Ar)) ∧ Below w.heap.size w w4 ∧ ∀ b, v3.ownBlock = some b → w.heap.size ≤ b) := by
               refine ⟨?_, HB1.out.trans (hbw4.out.mono s1), fun b hb => ?_⟩
               · show SlAt _ _ _ _ _ _
                 rw [hput.out, show (l.take k) ++ (⟨f, p, wt, kd, fi, o⟩ : Ar) :: (l.drop k) = ((l.take k) ++ [(⟨f, p, wt, kd, fi, o⟩ : Ar)]) ++ (l.drop k) by simp, ar_append, ar_append]
                 have : (((l.take k) ++ [(⟨f, p, wt, kd, fi, o⟩ : Ar)]) ++ (l.drop k)).length = 0 + k + 1 + (n - k) := by first | (simp [List.length_take, List.length_drop, ← HN.out]; done) | (simp [List.length_take, List.length_drop, ← HN.out]; omega)
                 rw [this]
                 simpa using hs3
               · rcases ho3 with e | e
                 · exact Nat.le_trans s1 (hv2.out b (e.symm.trans hb))
                 · rw [e] at hb
                   have hb := Option.some.inj hb
                   have := hbw3.out.size
                   omega
             clear hs3 hg3 ho3))
        all_goals (go_wp2_with fail; exact bodyPost_ret (v := v3) (by simp [results, Try.results15, go_sem]) rfl ⟨v3, rfl, fin.out.1, fin.out.2.1, fin.out.2.2⟩)
end Go.Proofs.Ytcghenehcpogpaa
