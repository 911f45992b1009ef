/- The reference's areas: Insert. -/
import Derived.Test.YtnhdmnijiphjjaaGreatJMp14
import Derived.Deep.RegionHeldLaw
import Derived.BigQuiet
import Derived.Test.YtnhdmnijiphjjaaGreatJMp23
import Derived.Test.YtnhdmnijiphjjaaGreatJMp22
set_option linter.unusedVariables false
set_option linter.unusedSimpArgs false
set_option maxRecDepth 100000
set_option maxHeartbeats 2000000
namespace Go.Proofs.YtnhdmnijiphjjaaGreat
open Go Go.RowKit
theorem X9{X:World}{B:Nat}{f p:Int}{wt:Bool}{k fi o:Int}{T:TypeId}{m:Nat×Nat}(h:X.heap[B]?=some (.cells #[.int .i64 f,.int .i64 p,.bool wt,.int .i64 k,.int .i64 fi,.int .i64 o] T m)):
  X.cell? ⟨B,0,none⟩=some (.int .i64 f)∧X.cell? ⟨B,1,none⟩=some (.int .i64 p)∧X.cell? ⟨B,2,none⟩=some (.bool wt)∧X.cell? ⟨B,3,none⟩=some (.int .i64 k)∧X.cell? ⟨B,4,none⟩=some (.int .i64 fi)∧X.cell? ⟨B,5,none⟩=some (.int .i64 o):=by
 refine⟨?_,?_,?_,?_,?_,?_⟩
 ·rw[cell_of_row X _ 0 _ _ _ h];rfl
 ·rw[cell_of_row X _ 1 _ _ _ h];rfl
 ·rw[cell_of_row X _ 2 _ _ _ h];rfl
 ·rw[cell_of_row X _ 3 _ _ _ h];rfl
 ·rw[cell_of_row X _ 4 _ _ _ h];rfl
 ·rw[cell_of_row X _ 5 _ _ _ h];rfl
set_option maxHeartbeats 8000000 in
theorem zgs (w : World) (v : Value) (l : List Ar) (h : ArRd w v l) (hl : l.length ≤ 100000) (x : Ar) :
    Calls Tryz.prog 136 #[v, x.enc] w fun e w' => ∃ v', e = .returned v' ∧ ArAt w' v' (insA l x) ∧ Below w.heap.size w w' ∧ ∀ b, v'.ownBlock = some b → w.heap.size ≤ b := by
  obtain ⟨f, p, wt, kd, fi, o⟩ := x
  unfold Ar.enc
  simp only
  obtain ⟨i0, hi0, hz0, hs0, hb0⟩ := Qi
  rcases h.form with ⟨rfl, rfl⟩ | ⟨b, off, c, rfl, hc, hm, hbs⟩
  · have HN : Hid (0 = ([] : List Ar).length) := rfl
    have hput : Hid (insA [] ⟨f, p, wt, kd, fi, o⟩ = [].take 0 ++ ⟨f, p, wt, kd, fi, o⟩ :: [].drop 0) := rfl
    go_enter Tryz.func136, Tryz.ntmps136
    go_wp2
    refine wp_loop_rounds 1 ?_
    rw [rounds_succ]
    go_wp2_with fail
    go_quiet (fail)
    go_wp2_with fail
    have hwa : Below w.heap.size w ((w.alloc (.cells #[.int .i64 f, .int .i64 p, .bool wt, .int .i64 kd, .int .i64 fi, .int .i64 o] 32)).drewN nq) := below_drewN' ((Below.refl _ _).alloc (Nat.le_refl _) _) nq
    have HKA : Hid (((w.alloc (.cells #[.int .i64 f, .int .i64 p, .bool wt, .int .i64 kd, .int .i64 fi, .int .i64 o] 32)).drewN nq).heap[w.heap.size]? = some (.cells #[.int .i64 f, .int .i64 p, .bool wt, .int .i64 kd, .int .i64 fi, .int .i64 o] 32 (0, 0))) := heap_alloc_new w _
    generalize (w.alloc _).drewN nq = wa at *
    obtain ⟨W, hW⟩ : ∃ W, W = wa.drew := ⟨_, rfl⟩
    have hd : wa.drew = W := hW.symm
    have hb1 : Below w.heap.size w W := by rw [hW]; exact hwa.drew
    have HKW : Hid (W.heap[w.heap.size]? = some (.cells #[.int .i64 f, .int .i64 p, .bool wt, .int .i64 kd, .int .i64 fi, .int .i64 o] 32 (0, 0))) := by rw [hW]; exact HKA.out
    have HQ : Hid (∀ X, Below W.heap.size W X → X.cell? ⟨w.heap.size, 0, none⟩ = some (.int .i64 f) ∧ X.cell? ⟨w.heap.size, 1, none⟩ = some (.int .i64 p) ∧ X.cell? ⟨w.heap.size, 2, none⟩ = some (.bool wt) ∧ X.cell? ⟨w.heap.size, 3, none⟩ = some (.int .i64 kd) ∧ X.cell? ⟨w.heap.size, 4, none⟩ = some (.int .i64 fi) ∧ X.cell? ⟨w.heap.size, 5, none⟩ = some (.int .i64 o)) := fun X hX => X9 ((hX.block w.heap.size (Array.getElem?_eq_some_iff.1 HKW.out).1).trans HKW.out)
    have s1 : w.heap.size ≤ W.heap.size := hb1.size
    have a1 := SlAt.lit0 W 32 6
    have b1 : SlAt ((W.alloc (.cells #[] 32)).alloc (.cells #[.int .i64 f, .int .i64 p, .bool wt, .int .i64 kd, .int .i64 fi, .int .i64 o] 32)) 32 6 (.slice (some ⟨W.heap.size, 0, none⟩) 0 0) 0 [] := a1.below ((Below.refl _ _).alloc (Nat.le_refl _) _)
    have c1' : SlAt ((W.alloc (.cells #[.int .i64 f, .int .i64 p, .bool wt, .int .i64 kd, .int .i64 fi, .int .i64 o] 32)).alloc (.cells #[] 32)) 32 6 (.slice (some ⟨W.heap.size + 1, 0, none⟩) 0 0) 0 [] := by
      have := SlAt.lit0 (W.alloc (.cells #[.int .i64 f, .int .i64 p, .bool wt, .int .i64 kd, .int .i64 fi, .int .i64 o] 32)) 32 6
      rwa [World.size_alloc] at this
    have b2 : ArAt ((W.alloc (.cells #[] 32)).alloc (.cells #[.int .i64 f, .int .i64 p, .bool wt, .int .i64 kd, .int .i64 fi, .int .i64 o] 32)) (.slice (some ⟨W.heap.size + 1, 0, none⟩) 1 1) [(⟨f, p, wt, kd, fi, o⟩ : Ar)] := ArAt.Qa (W.alloc (.cells #[] 32)) _ (by simp) (⟨f, p, wt, kd, fi, o⟩ : Ar) rfl
    have c2' : ArAt ((W.alloc (.cells #[.int .i64 f, .int .i64 p, .bool wt, .int .i64 kd, .int .i64 fi, .int .i64 o] 32)).alloc (.cells #[] 32)) (.slice (some ⟨W.heap.size, 0, none⟩) 1 1) [(⟨f, p, wt, kd, fi, o⟩ : Ar)] := (ArAt.Qa W _ rfl (⟨f, p, wt, kd, fi, o⟩ : Ar) rfl).below ((Below.refl _ _).alloc (Nat.le_refl _) _)
    have ba : Below W.heap.size W (W.alloc (.cells #[] 32)) := (Below.refl _ _).alloc (Nat.le_refl _) _
    have bb : Below W.heap.size W ((W.alloc (.cells #[] 32)).alloc (.cells #[.int .i64 f, .int .i64 p, .bool wt, .int .i64 kd, .int .i64 fi, .int .i64 o] 32)) := ba.alloc ba.size _
    have bc : Below W.heap.size W ((W.alloc (.cells #[.int .i64 f, .int .i64 p, .bool wt, .int .i64 kd, .int .i64 fi, .int .i64 o] 32)).alloc (.cells #[] 32)) := by
      have h := (Below.refl W.heap.size W).alloc (Nat.le_refl _) (.cells #[.int .i64 f, .int .i64 p, .bool wt, .int .i64 kd, .int .i64 fi, .int .i64 o] 32)
      exact h.alloc h.size _
    have src1 : Hid (∀ Y, Below W.heap.size W Y → SlRd Y 6 (.slice none 0 0) 0 (ar ([].take 0))) := fun Y hY => SlRd.nil Y 6
    have src2 : Hid (∀ Y, Below W.heap.size W Y → SlRd Y 6 (.slice none 0 0) (0 - 0) (ar ([].drop 0))) := fun Y hY => SlRd.nil Y 6
    have SA1 := Lib.hid a1
    have SB1 := Lib.hid b1
    have SC1 := Lib.hid c1'
    have SB2 := Lib.hid b2
    have SC2 := Lib.hid c2'
    have BA := Lib.hid ba
    have BQ := Lib.hid bb
    have BC := Lib.hid bc
    have HB1 := Lib.hid hb1
    obtain ⟨p0, p1, p2, p3, p4, p5⟩ := HQ.out W (Below.refl _ _)
    clear hW a1 b1 c1' b2 c2' ba bb bc hb1 hwa
    go_region_held_law (fun X => X.cell? ⟨w.heap.size, 0, none⟩ = some (.int .i64 f) ∧ X.cell? ⟨w.heap.size, 1, none⟩ = some (.int .i64 p) ∧ X.cell? ⟨w.heap.size, 2, none⟩ = some (.bool wt) ∧ X.cell? ⟨w.heap.size, 3, none⟩ = some (.int .i64 kd) ∧ X.cell? ⟨w.heap.size, 4, none⟩ = some (.int .i64 fi) ∧ X.cell? ⟨w.heap.size, 5, none⟩ = some (.int .i64 o)) (go_keep) (first
      | (refine z8 rfl (.tmp 22) (.tmp 25) 104 rfl i0 _ 48 Tryz.underlying104 hi0 hz0 hs0 hb0 rfl (.slice (some ⟨W.heap.size, 0, none⟩) 0 0) 0 [] rfl SA1.out (.slice none 0 0) 0 (ar ([].take 0)) rfl (src1.out _ BA.out) (Za _) (by simp only [maxLen]; omega) (by omega) ?_
         intro v1 w2 hs1 hg1 ho1
         have hv1 : Hid (∀ b, v1.ownBlock = some b → W.heap.size ≤ b) := by
           intro b hb
           rcases ho1 with e | e <;> rw [e] at hb <;> simp [Value.ownBlock] at hb <;> omega
         have hbw2 := Lib.hid (BA.out.grown hg1 BA.out.size (fun q hq => by simp [Value.ownBlock] at hq; omega))
         obtain ⟨r0, r1, r2, r3, r4, r5⟩ := HQ.out w2 hbw2.out
         have HS1 := Lib.hid hs1
         clear hs1 hg1 ho1)
      | (refine z8 rfl (.tmp 22) (.tmp 25) 104 rfl i0 _ 48 Tryz.underlying104 hi0 hz0 hs0 hb0 rfl (.slice (some ⟨W.heap.size, 0, none⟩) 0 0) 0 [] rfl SB1.out (.slice none 0 0) 0 (ar ([].take 0)) rfl (src1.out _ BQ.out) (Za _) (by simp only [maxLen]; omega) (by omega) ?_
         intro v1 w2 hs1 hg1 ho1
         have hv1 : Hid (∀ b, v1.ownBlock = some b → W.heap.size ≤ b) := by
           intro b hb
           rcases ho1 with e | e <;> rw [e] at hb <;> simp [Value.ownBlock] at hb <;> omega
         have hbw2 := Lib.hid (BQ.out.grown hg1 BQ.out.size (fun q hq => by simp [Value.ownBlock] at hq; omega))
         obtain ⟨r0, r1, r2, r3, r4, r5⟩ := HQ.out w2 hbw2.out
         have hP := Lib.hid (SlAt.grown SB2.out hg1 (.inr (by simp [Value.ownBlock])))
         have HS1 := Lib.hid hs1
         clear hs1 hg1 ho1)
      | (refine z8 rfl (.tmp 22) (.tmp 25) 104 rfl i0 _ 48 Tryz.underlying104 hi0 hz0 hs0 hb0 rfl (.slice (some ⟨W.heap.size + 1, 0, none⟩) 0 0) 0 [] rfl SC1.out (.slice none 0 0) 0 (ar ([].take 0)) rfl (src1.out _ BC.out) (Za _) (by simp only [maxLen]; omega) (by omega) ?_
         intro v1 w2 hs1 hg1 ho1
         have hv1 : Hid (∀ b, v1.ownBlock = some b → W.heap.size ≤ b) := by
           intro b hb
           rcases ho1 with e | e <;> rw [e] at hb <;> simp [Value.ownBlock] at hb <;> omega
         have hbw2 := Lib.hid (BC.out.grown hg1 BC.out.size (fun q hq => by simp [Value.ownBlock] at hq; omega))
         obtain ⟨r0, r1, r2, r3, r4, r5⟩ := HQ.out w2 hbw2.out
         have hP := Lib.hid (SlAt.grown SC2.out hg1 (.inr (by simp [Value.ownBlock])))
         have HS1 := Lib.hid hs1
         clear hs1 hg1 ho1)
      | (refine z8 rfl (.tmp 26) (.tmp 28) 104 rfl i0 _ 48 Tryz.underlying104 hi0 hz0 hs0 hb0 rfl v1 (0 + 0) ([] ++ ar ([].take 0)) rfl (by first | exact HS1.out | exact HS1.out.below ((Below.refl _ _).alloc (Nat.le_refl _) _)) _ 1 (ar [(⟨f, p, wt, kd, fi, o⟩ : Ar)]) rfl (by first | exact ArAt.rd hP.out | exact ArAt.rd (ArAt.Qa _ _ rfl (⟨f, p, wt, kd, fi, o⟩ : Ar) rfl)) (Za _) (by simp only [maxLen]; omega) (by omega) ?_
         intro v2 w3 hs2 hg2 ho2
         have hv2 : Hid (∀ b, v2.ownBlock = some b → W.heap.size ≤ b) := by
           intro b hb
           rcases ho2 with e | e
           · exact hv1.out b (e.symm.trans hb)
           · have z := hbw2.out.size
             rw [e] at hb
             have hb := Option.some.inj hb
             first | omega | (simp at hb; omega)
         have hbw3 : Hid (Below W.heap.size W w3) := by
           first
             | exact hbw2.out.grown hg2 hbw2.out.size hv1.out
             | exact (hbw2.out.alloc hbw2.out.size _).grown hg2 (by have := hbw2.out.size; simp; omega) hv1.out
         obtain ⟨y0, y1, y2, y3, y4, y5⟩ := HQ.out w3 hbw3.out
         have HS2 := Lib.hid hs2
         clear hs2 hg2 ho2)
      | (refine z8 rfl (.tmp 29) (.tmp 32) 104 rfl i0 _ 48 Tryz.underlying104 hi0 hz0 hs0 hb0 rfl v2 (0 + 0 + 1) ([] ++ ar ([].take 0) ++ ar [(⟨f, p, wt, kd, fi, o⟩ : Ar)]) rfl HS2.out _ (0 - 0) (ar ([].drop 0)) rfl (src2.out _ hbw3.out) (Za _) (by simp only [maxLen]; omega) (by omega) ?_
         intro v3 w4 hs3 hg3 ho3
         have hbw4 : Hid (Below W.heap.size W w4) := hbw3.out.grown hg3 hbw3.out.size hv2.out
         obtain ⟨z0, z1, z2, z3, z4, z5⟩ := HQ.out w4 hbw4.out
         have fin : Hid (ArAt w4 v3 (insA [] (⟨f, p, wt, kd, fi, o⟩ : Ar)) ∧ Below w.heap.size w w4 ∧ ∀ b, v3.ownBlock = some b → w.heap.size ≤ b) := by
           refine ⟨?_, HB1.out.trans (hbw4.out.mono s1), fun b hb => ?_⟩
           · show SlAt _ _ _ _ _ _
             rw [hput.out, show ([].take 0) ++ (⟨f, p, wt, kd, fi, o⟩ : Ar) :: ([].drop 0) = (([].take 0) ++ [(⟨f, p, wt, kd, fi, o⟩ : Ar)]) ++ ([].drop 0) by simp, Z0, Z0]
             have : ((([].take 0) ++ [(⟨f, p, wt, kd, fi, o⟩ : Ar)]) ++ ([].drop 0)).length = 0 + 0 + 1 + (0 - 0) := by first | (simp [List.length_take, List.length_drop, ← HN.out]; done) | (simp [List.length_take, List.length_drop, ← HN.out]; omega)
             rw [this]
             simpa using hs3
           · rcases ho3 with e | e
             · exact Nat.le_trans s1 (hv2.out b (e.symm.trans hb))
             · rw [e] at hb
               have hb := Option.some.inj hb
               have := hbw3.out.size
               omega
         clear hs3 hg3 ho3))
    all_goals (go_wp2_with fail; exact bodyPost_ret (v := v3) (by simp [results, Tryz.results136, go_sem]) rfl ⟨v3, rfl, fin.out.1, fin.out.2.1, fin.out.2.2⟩)
  · obtain ⟨n, hn⟩ : ∃ n, n = l.length := ⟨_, rfl⟩
    have HL := Lib.hid h
    rw [← hn] at hc hl HL ⊢
    have HN := Lib.hid hn
    have HS0 : Hid (SlRd w 6 (.slice (some ⟨b, off, none⟩) n c) n (ar l)) := by have h := HL.out; unfold ArRd at h; rwa [← HN.out] at h
    clear hn h
    go_enter Tryz.func136, Tryz.ntmps136
    go_wp2_with fail
    obtain ⟨W0, hW0⟩ : ∃ W0, W0 = w.alloc (.cells #[.int .i64 f, .int .i64 p, .bool wt, .int .i64 kd, .int .i64 fi, .int .i64 o] 32) := ⟨_, rfl⟩
    have hB : Hid (Below w.heap.size w W0 ∧ W0.heap.size = w.heap.size + 1 ∧ W0.heap[w.heap.size]? = some (.cells #[.int .i64 f, .int .i64 p, .bool wt, .int .i64 kd, .int .i64 fi, .int .i64 o] 32 (0, 0))) := by
      rw [hW0]; exact ⟨(Below.refl _ _).alloc (Nat.le_refl _) _, by simp, heap_alloc_new w _⟩
    rw [← hW0]
    clear hW0
    go_loopw [5] (fun i wr => ∃ k : Nat, k ≤ n ∧ i = .int .i64 k ∧ Below W0.heap.size W0 wr ∧ ∀ (j : Nat) (x : Ar), j < k → l[j]? = some x → x.from_ < f) (fun i _ => n - (intOf i).toNat)
    case atStart => exact ⟨0, by omega, rfl, Below.refl _ _, fun j _ h => absurd h (Nat.not_lt_zero _)⟩
    case round =>
      obtain ⟨k, hk, rfl, hb, hlo⟩ := hrel
      have HB := Lib.hid (hB.out.1.trans (hb.mono (by rw [hB.out.2.1]; omega)))
      have HB' := Lib.hid hb
      have HLo := Lib.hid hlo
      have HKR := Lib.hid ((hb.block w.heap.size (by rw [hB.out.2.1]; omega)).trans hB.out.2.2)
      clear hb hlo
      by_cases hlt : k < n
      · have hlt' : (k : Int) < n := by omega
        obtain ⟨y, hy⟩ : ∃ y, l[k]? = some y := ⟨_, List.getElem?_eq_getElem (by rw [← HN.out]; exact hlt)⟩
        obtain ⟨e0, -, -, -, -, -⟩ := (HL.out.below HB.out).cell hy
        obtain ⟨q0, -, -, -, -, -⟩ := X9 HKR.out
        have HY := Lib.hid hy
        clear hy
        obtain ⟨y1, y2, y3, y4, y5, y6⟩ := y
        simp only at e0
        by_cases c1 : y1 < f
        · go_wp2_with fail
          go_quiet (fail)
          go_wp2_with fail
          go_roundw
          case rel =>
            refine ⟨k + 1, by omega, by go_num, below_drewN' HB'.out nq, fun j x hj hx => ?_⟩
            by_cases hjk : j = k
            · subst hjk
              obtain rfl := Option.some.inj (HY.out.symm.trans hx)
              exact c1
            · exact HLo.out j x (by omega) hx
          case measure => simp [intOf]; omega
        · have hput : Hid (insA l ⟨f, p, wt, kd, fi, o⟩ = l.take k ++ ⟨f, p, wt, kd, fi, o⟩ :: l.drop k) := zim (by rw [← HN.out]; exact hk) (fun j x hj hx => HLo.out j x hj hx) (fun x hx => by
            obtain rfl := Option.some.inj (HY.out.symm.trans hx)
            simp only
            omega)
          go_wp2_with fail
          go_quiet (fail)
          go_wp2_with fail
          have hwa : Below w.heap.size w (wr.drewN nq) := below_drewN' HB.out nq
          have HKA : Hid ((wr.drewN nq).heap[w.heap.size]? = some (.cells #[.int .i64 f, .int .i64 p, .bool wt, .int .i64 kd, .int .i64 fi, .int .i64 o] 32 (0, 0))) := HKR.out
          generalize wr.drewN nq = wa at *
          clear e0 q0
          obtain ⟨W, hW⟩ : ∃ W, W = wa.drew := ⟨_, rfl⟩
          have hd : wa.drew = W := hW.symm
          have hb1 : Below w.heap.size w W := by rw [hW]; exact hwa.drew
          have HKW : Hid (W.heap[w.heap.size]? = some (.cells #[.int .i64 f, .int .i64 p, .bool wt, .int .i64 kd, .int .i64 fi, .int .i64 o] 32 (0, 0))) := by rw [hW]; exact HKA.out
          have HQ : Hid (∀ X, Below W.heap.size W X → X.cell? ⟨w.heap.size, 0, none⟩ = some (.int .i64 f) ∧ X.cell? ⟨w.heap.size, 1, none⟩ = some (.int .i64 p) ∧ X.cell? ⟨w.heap.size, 2, none⟩ = some (.bool wt) ∧ X.cell? ⟨w.heap.size, 3, none⟩ = some (.int .i64 kd) ∧ X.cell? ⟨w.heap.size, 4, none⟩ = some (.int .i64 fi) ∧ X.cell? ⟨w.heap.size, 5, none⟩ = some (.int .i64 o)) := fun X hX => X9 ((hX.block w.heap.size (Array.getElem?_eq_some_iff.1 HKW.out).1).trans HKW.out)
          have s1 : w.heap.size ≤ W.heap.size := hb1.size
          have a1 := SlAt.lit0 W 32 6
          have b1 : SlAt ((W.alloc (.cells #[] 32)).alloc (.cells #[.int .i64 f, .int .i64 p, .bool wt, .int .i64 kd, .int .i64 fi, .int .i64 o] 32)) 32 6 (.slice (some ⟨W.heap.size, 0, none⟩) 0 0) 0 [] := a1.below ((Below.refl _ _).alloc (Nat.le_refl _) _)
          have c1' : SlAt ((W.alloc (.cells #[.int .i64 f, .int .i64 p, .bool wt, .int .i64 kd, .int .i64 fi, .int .i64 o] 32)).alloc (.cells #[] 32)) 32 6 (.slice (some ⟨W.heap.size + 1, 0, none⟩) 0 0) 0 [] := by
            have := SlAt.lit0 (W.alloc (.cells #[.int .i64 f, .int .i64 p, .bool wt, .int .i64 kd, .int .i64 fi, .int .i64 o] 32)) 32 6
            rwa [World.size_alloc] at this
          have b2 : ArAt ((W.alloc (.cells #[] 32)).alloc (.cells #[.int .i64 f, .int .i64 p, .bool wt, .int .i64 kd, .int .i64 fi, .int .i64 o] 32)) (.slice (some ⟨W.heap.size + 1, 0, none⟩) 1 1) [(⟨f, p, wt, kd, fi, o⟩ : Ar)] := ArAt.Qa (W.alloc (.cells #[] 32)) _ (by simp) (⟨f, p, wt, kd, fi, o⟩ : Ar) rfl
          have c2' : ArAt ((W.alloc (.cells #[.int .i64 f, .int .i64 p, .bool wt, .int .i64 kd, .int .i64 fi, .int .i64 o] 32)).alloc (.cells #[] 32)) (.slice (some ⟨W.heap.size, 0, none⟩) 1 1) [(⟨f, p, wt, kd, fi, o⟩ : Ar)] := (ArAt.Qa W _ rfl (⟨f, p, wt, kd, fi, o⟩ : Ar) rfl).below ((Below.refl _ _).alloc (Nat.le_refl _) _)
          have ba : Below W.heap.size W (W.alloc (.cells #[] 32)) := (Below.refl _ _).alloc (Nat.le_refl _) _
          have bb : Below W.heap.size W ((W.alloc (.cells #[] 32)).alloc (.cells #[.int .i64 f, .int .i64 p, .bool wt, .int .i64 kd, .int .i64 fi, .int .i64 o] 32)) := ba.alloc ba.size _
          have bc : Below W.heap.size W ((W.alloc (.cells #[.int .i64 f, .int .i64 p, .bool wt, .int .i64 kd, .int .i64 fi, .int .i64 o] 32)).alloc (.cells #[] 32)) := by
            have h := (Below.refl W.heap.size W).alloc (Nat.le_refl _) (.cells #[.int .i64 f, .int .i64 p, .bool wt, .int .i64 kd, .int .i64 fi, .int .i64 o] 32)
            exact h.alloc h.size _
          have src1 : Hid (∀ Y, Below W.heap.size W Y → SlRd Y 6 (.slice (some ⟨b, off, none⟩) k c) k (ar (l.take k))) := fun Y hY => by
            have h := SlRd.take (SlRd.below (SlRd.below HS0.out hb1) hY) k hk
            rwa [← zjq] at h
          obtain ⟨A, hA⟩ : ∃ A : Addr, (if c = k then (some ⟨b, off, none⟩ : Option Addr) else some ⟨b, off + k * 6, none⟩) = some A := by split <;> exact ⟨_, rfl⟩
          have src2 : Hid (∀ Y, Below W.heap.size W Y → SlRd Y 6 (.slice (some A) (n - k) (c - k)) (n - k) (ar (l.drop k))) := fun Y hY => by
            have h := SlRd.cut (SlRd.below (SlRd.below HS0.out hb1) hY) k hk hA
            rwa [← zjr] at h
          have hkc : k ≤ c := by omega
          have hk0 : (0 : Int) ≤ k := by omega
          have SA1 := Lib.hid a1
          have SB1 := Lib.hid b1
          have SC1 := Lib.hid c1'
          have SB2 := Lib.hid b2
          have SC2 := Lib.hid c2'
          have BA := Lib.hid ba
          have BQ := Lib.hid bb
          have BC := Lib.hid bc
          have HB1 := Lib.hid hb1
          obtain ⟨p0, p1, p2, p3, p4, p5⟩ := HQ.out W (Below.refl _ _)
          clear hW a1 b1 c1' b2 c2' ba bb bc hb1 hwa
          go_region_held_law (fun X => X.cell? ⟨w.heap.size, 0, none⟩ = some (.int .i64 f) ∧ X.cell? ⟨w.heap.size, 1, none⟩ = some (.int .i64 p) ∧ X.cell? ⟨w.heap.size, 2, none⟩ = some (.bool wt) ∧ X.cell? ⟨w.heap.size, 3, none⟩ = some (.int .i64 kd) ∧ X.cell? ⟨w.heap.size, 4, none⟩ = some (.int .i64 fi) ∧ X.cell? ⟨w.heap.size, 5, none⟩ = some (.int .i64 o)) (go_keep) (first
            | (refine z8 rfl (.tmp 22) (.tmp 25) 104 rfl i0 _ 48 Tryz.underlying104 hi0 hz0 hs0 hb0 rfl (.slice (some ⟨W.heap.size, 0, none⟩) 0 0) 0 [] rfl SA1.out (.slice (some ⟨b, off, none⟩) k c) k (ar (l.take k)) rfl (src1.out _ BA.out) (Za _) (by simp only [maxLen]; omega) (by omega) ?_
               intro v1 w2 hs1 hg1 ho1
               have hv1 : Hid (∀ b, v1.ownBlock = some b → W.heap.size ≤ b) := by
                 intro b hb
                 rcases ho1 with e | e <;> rw [e] at hb <;> simp [Value.ownBlock] at hb <;> omega
               have hbw2 := Lib.hid (BA.out.grown hg1 BA.out.size (fun q hq => by simp [Value.ownBlock] at hq; omega))
               obtain ⟨r0, r1, r2, r3, r4, r5⟩ := HQ.out w2 hbw2.out
               have HS1 := Lib.hid hs1
               clear hs1 hg1 ho1)
            | (refine z8 rfl (.tmp 22) (.tmp 25) 104 rfl i0 _ 48 Tryz.underlying104 hi0 hz0 hs0 hb0 rfl (.slice (some ⟨W.heap.size, 0, none⟩) 0 0) 0 [] rfl SB1.out (.slice (some ⟨b, off, none⟩) k c) k (ar (l.take k)) rfl (src1.out _ BQ.out) (Za _) (by simp only [maxLen]; omega) (by omega) ?_
               intro v1 w2 hs1 hg1 ho1
               have hv1 : Hid (∀ b, v1.ownBlock = some b → W.heap.size ≤ b) := by
                 intro b hb
                 rcases ho1 with e | e <;> rw [e] at hb <;> simp [Value.ownBlock] at hb <;> omega
               have hbw2 := Lib.hid (BQ.out.grown hg1 BQ.out.size (fun q hq => by simp [Value.ownBlock] at hq; omega))
               obtain ⟨r0, r1, r2, r3, r4, r5⟩ := HQ.out w2 hbw2.out
               have hP := Lib.hid (SlAt.grown SB2.out hg1 (.inr (by simp [Value.ownBlock])))
               have HS1 := Lib.hid hs1
               clear hs1 hg1 ho1)
            | (refine z8 rfl (.tmp 22) (.tmp 25) 104 rfl i0 _ 48 Tryz.underlying104 hi0 hz0 hs0 hb0 rfl (.slice (some ⟨W.heap.size + 1, 0, none⟩) 0 0) 0 [] rfl SC1.out (.slice (some ⟨b, off, none⟩) k c) k (ar (l.take k)) rfl (src1.out _ BC.out) (Za _) (by simp only [maxLen]; omega) (by omega) ?_
               intro v1 w2 hs1 hg1 ho1
               have hv1 : Hid (∀ b, v1.ownBlock = some b → W.heap.size ≤ b) := by
                 intro b hb
                 rcases ho1 with e | e <;> rw [e] at hb <;> simp [Value.ownBlock] at hb <;> omega
               have hbw2 := Lib.hid (BC.out.grown hg1 BC.out.size (fun q hq => by simp [Value.ownBlock] at hq; omega))
               obtain ⟨r0, r1, r2, r3, r4, r5⟩ := HQ.out w2 hbw2.out
               have hP := Lib.hid (SlAt.grown SC2.out hg1 (.inr (by simp [Value.ownBlock])))
               have HS1 := Lib.hid hs1
               clear hs1 hg1 ho1)
            | (refine z8 rfl (.tmp 26) (.tmp 28) 104 rfl i0 _ 48 Tryz.underlying104 hi0 hz0 hs0 hb0 rfl v1 (0 + k) ([] ++ ar (l.take k)) rfl (by first | exact HS1.out | exact HS1.out.below ((Below.refl _ _).alloc (Nat.le_refl _) _)) _ 1 (ar [(⟨f, p, wt, kd, fi, o⟩ : Ar)]) rfl (by first | exact ArAt.rd hP.out | exact ArAt.rd (ArAt.Qa _ _ rfl (⟨f, p, wt, kd, fi, o⟩ : Ar) rfl)) (Za _) (by simp only [maxLen]; omega) (by omega) ?_
               intro v2 w3 hs2 hg2 ho2
               have hv2 : Hid (∀ b, v2.ownBlock = some b → W.heap.size ≤ b) := by
                 intro b hb
                 rcases ho2 with e | e
                 · exact hv1.out b (e.symm.trans hb)
                 · have z := hbw2.out.size
                   rw [e] at hb
                   have hb := Option.some.inj hb
                   first | omega | (simp at hb; omega)
               have hbw3 : Hid (Below W.heap.size W w3) := by
                 first
                   | exact hbw2.out.grown hg2 hbw2.out.size hv1.out
                   | exact (hbw2.out.alloc hbw2.out.size _).grown hg2 (by have := hbw2.out.size; simp; omega) hv1.out
               obtain ⟨y0, y1, y2, y3, y4, y5⟩ := HQ.out w3 hbw3.out
               have HS2 := Lib.hid hs2
               clear hs2 hg2 ho2)
            | (refine z8 rfl (.tmp 29) (.tmp 32) 104 rfl i0 _ 48 Tryz.underlying104 hi0 hz0 hs0 hb0 rfl v2 (0 + k + 1) ([] ++ ar (l.take k) ++ ar [(⟨f, p, wt, kd, fi, o⟩ : Ar)]) rfl HS2.out _ (n - k) (ar (l.drop k)) rfl (src2.out _ hbw3.out) (Za _) (by simp only [maxLen]; omega) (by omega) ?_
               intro v3 w4 hs3 hg3 ho3
               have hbw4 : Hid (Below W.heap.size W w4) := hbw3.out.grown hg3 hbw3.out.size hv2.out
               obtain ⟨z0, z1, z2, z3, z4, z5⟩ := HQ.out w4 hbw4.out
               have fin : Hid (ArAt w4 v3 (insA l (⟨f, p, wt, kd, fi, o⟩ : Ar)) ∧ Below w.heap.size w w4 ∧ ∀ b, v3.ownBlock = some b → w.heap.size ≤ b) := by
                 refine ⟨?_, HB1.out.trans (hbw4.out.mono s1), fun b hb => ?_⟩
                 · show SlAt _ _ _ _ _ _
                   rw [hput.out, show (l.take k) ++ (⟨f, p, wt, kd, fi, o⟩ : Ar) :: (l.drop k) = ((l.take k) ++ [(⟨f, p, wt, kd, fi, o⟩ : Ar)]) ++ (l.drop k) by simp, Z0, Z0]
                   have : (((l.take k) ++ [(⟨f, p, wt, kd, fi, o⟩ : Ar)]) ++ (l.drop k)).length = 0 + k + 1 + (n - k) := by first | (simp [List.length_take, List.length_drop, ← HN.out]; done) | (simp [List.length_take, List.length_drop, ← HN.out]; omega)
                   rw [this]
                   simpa using hs3
                 · rcases ho3 with e | e
                   · exact Nat.le_trans s1 (hv2.out b (e.symm.trans hb))
                   · rw [e] at hb
                     have hb := Option.some.inj hb
                     have := hbw3.out.size
                     omega
               clear hs3 hg3 ho3))
          all_goals (go_wp2_with fail; exact bodyPost_ret (v := v3) (by simp [results, Tryz.results136, go_sem]) rfl ⟨v3, rfl, fin.out.1, fin.out.2.1, fin.out.2.2⟩)
      · have hke : k = n := by omega
        have hput : Hid (insA l ⟨f, p, wt, kd, fi, o⟩ = l.take k ++ ⟨f, p, wt, kd, fi, o⟩ :: l.drop k) := zim (by rw [← HN.out]; exact hk) (fun j x hj hx => HLo.out j x hj hx) (fun x hx => by
            rw [List.getElem?_eq_none (by rw [← HN.out]; omega)] at hx
            cases hx)
        have hltn : ¬ (k : Int) < n := by omega
        have HKE := Lib.hid hke
        clear hke
        go_wp2_with fail
        go_quiet (fail)
        go_wp2_with fail
        have hwa : Below w.heap.size w (wr.drewN nq) := below_drewN' HB.out nq
        have HKA : Hid ((wr.drewN nq).heap[w.heap.size]? = some (.cells #[.int .i64 f, .int .i64 p, .bool wt, .int .i64 kd, .int .i64 fi, .int .i64 o] 32 (0, 0))) := HKR.out
        generalize wr.drewN nq = wa at *
        obtain ⟨W, hW⟩ : ∃ W, W = wa.drew := ⟨_, rfl⟩
        have hd : wa.drew = W := hW.symm
        have hb1 : Below w.heap.size w W := by rw [hW]; exact hwa.drew
        have HKW : Hid (W.heap[w.heap.size]? = some (.cells #[.int .i64 f, .int .i64 p, .bool wt, .int .i64 kd, .int .i64 fi, .int .i64 o] 32 (0, 0))) := by rw [hW]; exact HKA.out
        have HQ : Hid (∀ X, Below W.heap.size W X → X.cell? ⟨w.heap.size, 0, none⟩ = some (.int .i64 f) ∧ X.cell? ⟨w.heap.size, 1, none⟩ = some (.int .i64 p) ∧ X.cell? ⟨w.heap.size, 2, none⟩ = some (.bool wt) ∧ X.cell? ⟨w.heap.size, 3, none⟩ = some (.int .i64 kd) ∧ X.cell? ⟨w.heap.size, 4, none⟩ = some (.int .i64 fi) ∧ X.cell? ⟨w.heap.size, 5, none⟩ = some (.int .i64 o)) := fun X hX => X9 ((hX.block w.heap.size (Array.getElem?_eq_some_iff.1 HKW.out).1).trans HKW.out)
        have s1 : w.heap.size ≤ W.heap.size := hb1.size
        have a1 := SlAt.lit0 W 32 6
        have b1 : SlAt ((W.alloc (.cells #[] 32)).alloc (.cells #[.int .i64 f, .int .i64 p, .bool wt, .int .i64 kd, .int .i64 fi, .int .i64 o] 32)) 32 6 (.slice (some ⟨W.heap.size, 0, none⟩) 0 0) 0 [] := a1.below ((Below.refl _ _).alloc (Nat.le_refl _) _)
        have c1' : SlAt ((W.alloc (.cells #[.int .i64 f, .int .i64 p, .bool wt, .int .i64 kd, .int .i64 fi, .int .i64 o] 32)).alloc (.cells #[] 32)) 32 6 (.slice (some ⟨W.heap.size + 1, 0, none⟩) 0 0) 0 [] := by
          have := SlAt.lit0 (W.alloc (.cells #[.int .i64 f, .int .i64 p, .bool wt, .int .i64 kd, .int .i64 fi, .int .i64 o] 32)) 32 6
          rwa [World.size_alloc] at this
        have b2 : ArAt ((W.alloc (.cells #[] 32)).alloc (.cells #[.int .i64 f, .int .i64 p, .bool wt, .int .i64 kd, .int .i64 fi, .int .i64 o] 32)) (.slice (some ⟨W.heap.size + 1, 0, none⟩) 1 1) [(⟨f, p, wt, kd, fi, o⟩ : Ar)] := ArAt.Qa (W.alloc (.cells #[] 32)) _ (by simp) (⟨f, p, wt, kd, fi, o⟩ : Ar) rfl
        have c2' : ArAt ((W.alloc (.cells #[.int .i64 f, .int .i64 p, .bool wt, .int .i64 kd, .int .i64 fi, .int .i64 o] 32)).alloc (.cells #[] 32)) (.slice (some ⟨W.heap.size, 0, none⟩) 1 1) [(⟨f, p, wt, kd, fi, o⟩ : Ar)] := (ArAt.Qa W _ rfl (⟨f, p, wt, kd, fi, o⟩ : Ar) rfl).below ((Below.refl _ _).alloc (Nat.le_refl _) _)
        have ba : Below W.heap.size W (W.alloc (.cells #[] 32)) := (Below.refl _ _).alloc (Nat.le_refl _) _
        have bb : Below W.heap.size W ((W.alloc (.cells #[] 32)).alloc (.cells #[.int .i64 f, .int .i64 p, .bool wt, .int .i64 kd, .int .i64 fi, .int .i64 o] 32)) := ba.alloc ba.size _
        have bc : Below W.heap.size W ((W.alloc (.cells #[.int .i64 f, .int .i64 p, .bool wt, .int .i64 kd, .int .i64 fi, .int .i64 o] 32)).alloc (.cells #[] 32)) := by
          have h := (Below.refl W.heap.size W).alloc (Nat.le_refl _) (.cells #[.int .i64 f, .int .i64 p, .bool wt, .int .i64 kd, .int .i64 fi, .int .i64 o] 32)
          exact h.alloc h.size _
        have src1 : Hid (∀ Y, Below W.heap.size W Y → SlRd Y 6 (.slice (some ⟨b, off, none⟩) k c) k (ar (l.take k))) := fun Y hY => by
          have h := SlRd.take (SlRd.below (SlRd.below HS0.out hb1) hY) k hk
          rwa [← zjq] at h
        obtain ⟨A, hA⟩ : ∃ A : Addr, (if c = k then (some ⟨b, off, none⟩ : Option Addr) else some ⟨b, off + k * 6, none⟩) = some A := by split <;> exact ⟨_, rfl⟩
        have src2 : Hid (∀ Y, Below W.heap.size W Y → SlRd Y 6 (.slice (some A) (n - k) (c - k)) (n - k) (ar (l.drop k))) := fun Y hY => by
          have h := SlRd.cut (SlRd.below (SlRd.below HS0.out hb1) hY) k hk hA
          rwa [← zjr] at h
        have hkc : k ≤ c := by omega
        have hk0 : (0 : Int) ≤ k := by omega
        have SA1 := Lib.hid a1
        have SB1 := Lib.hid b1
        have SC1 := Lib.hid c1'
        have SB2 := Lib.hid b2
        have SC2 := Lib.hid c2'
        have BA := Lib.hid ba
        have BQ := Lib.hid bb
        have BC := Lib.hid bc
        have HB1 := Lib.hid hb1
        obtain ⟨p0, p1, p2, p3, p4, p5⟩ := HQ.out W (Below.refl _ _)
        clear hW a1 b1 c1' b2 c2' ba bb bc hb1 hwa
        go_region_held_law (fun X => X.cell? ⟨w.heap.size, 0, none⟩ = some (.int .i64 f) ∧ X.cell? ⟨w.heap.size, 1, none⟩ = some (.int .i64 p) ∧ X.cell? ⟨w.heap.size, 2, none⟩ = some (.bool wt) ∧ X.cell? ⟨w.heap.size, 3, none⟩ = some (.int .i64 kd) ∧ X.cell? ⟨w.heap.size, 4, none⟩ = some (.int .i64 fi) ∧ X.cell? ⟨w.heap.size, 5, none⟩ = some (.int .i64 o)) (go_keep) (first
          | (refine z8 rfl (.tmp 22) (.tmp 25) 104 rfl i0 _ 48 Tryz.underlying104 hi0 hz0 hs0 hb0 rfl (.slice (some ⟨W.heap.size, 0, none⟩) 0 0) 0 [] rfl SA1.out (.slice (some ⟨b, off, none⟩) k c) k (ar (l.take k)) rfl (src1.out _ BA.out) (Za _) (by simp only [maxLen]; omega) (by omega) ?_
             intro v1 w2 hs1 hg1 ho1
             have hv1 : Hid (∀ b, v1.ownBlock = some b → W.heap.size ≤ b) := by
               intro b hb
               rcases ho1 with e | e <;> rw [e] at hb <;> simp [Value.ownBlock] at hb <;> omega
             have hbw2 := Lib.hid (BA.out.grown hg1 BA.out.size (fun q hq => by simp [Value.ownBlock] at hq; omega))
             obtain ⟨r0, r1, r2, r3, r4, r5⟩ := HQ.out w2 hbw2.out
             have HS1 := Lib.hid hs1
             clear hs1 hg1 ho1)
          | (refine z8 rfl (.tmp 22) (.tmp 25) 104 rfl i0 _ 48 Tryz.underlying104 hi0 hz0 hs0 hb0 rfl (.slice (some ⟨W.heap.size, 0, none⟩) 0 0) 0 [] rfl SB1.out (.slice (some ⟨b, off, none⟩) k c) k (ar (l.take k)) rfl (src1.out _ BQ.out) (Za _) (by simp only [maxLen]; omega) (by omega) ?_
             intro v1 w2 hs1 hg1 ho1
             have hv1 : Hid (∀ b, v1.ownBlock = some b → W.heap.size ≤ b) := by
               intro b hb
               rcases ho1 with e | e <;> rw [e] at hb <;> simp [Value.ownBlock] at hb <;> omega
             have hbw2 := Lib.hid (BQ.out.grown hg1 BQ.out.size (fun q hq => by simp [Value.ownBlock] at hq; omega))
             obtain ⟨r0, r1, r2, r3, r4, r5⟩ := HQ.out w2 hbw2.out
             have hP := Lib.hid (SlAt.grown SB2.out hg1 (.inr (by simp [Value.ownBlock])))
             have HS1 := Lib.hid hs1
             clear hs1 hg1 ho1)
          | (refine z8 rfl (.tmp 22) (.tmp 25) 104 rfl i0 _ 48 Tryz.underlying104 hi0 hz0 hs0 hb0 rfl (.slice (some ⟨W.heap.size + 1, 0, none⟩) 0 0) 0 [] rfl SC1.out (.slice (some ⟨b, off, none⟩) k c) k (ar (l.take k)) rfl (src1.out _ BC.out) (Za _) (by simp only [maxLen]; omega) (by omega) ?_
             intro v1 w2 hs1 hg1 ho1
             have hv1 : Hid (∀ b, v1.ownBlock = some b → W.heap.size ≤ b) := by
               intro b hb
               rcases ho1 with e | e <;> rw [e] at hb <;> simp [Value.ownBlock] at hb <;> omega
             have hbw2 := Lib.hid (BC.out.grown hg1 BC.out.size (fun q hq => by simp [Value.ownBlock] at hq; omega))
             obtain ⟨r0, r1, r2, r3, r4, r5⟩ := HQ.out w2 hbw2.out
             have hP := Lib.hid (SlAt.grown SC2.out hg1 (.inr (by simp [Value.ownBlock])))
             have HS1 := Lib.hid hs1
             clear hs1 hg1 ho1)
          | (refine z8 rfl (.tmp 26) (.tmp 28) 104 rfl i0 _ 48 Tryz.underlying104 hi0 hz0 hs0 hb0 rfl v1 (0 + k) ([] ++ ar (l.take k)) rfl (by first | exact HS1.out | exact HS1.out.below ((Below.refl _ _).alloc (Nat.le_refl _) _)) _ 1 (ar [(⟨f, p, wt, kd, fi, o⟩ : Ar)]) rfl (by first | exact ArAt.rd hP.out | exact ArAt.rd (ArAt.Qa _ _ rfl (⟨f, p, wt, kd, fi, o⟩ : Ar) rfl)) (Za _) (by simp only [maxLen]; omega) (by omega) ?_
             intro v2 w3 hs2 hg2 ho2
             have hv2 : Hid (∀ b, v2.ownBlock = some b → W.heap.size ≤ b) := by
               intro b hb
               rcases ho2 with e | e
               · exact hv1.out b (e.symm.trans hb)
               · have z := hbw2.out.size
                 rw [e] at hb
                 have hb := Option.some.inj hb
                 first | omega | (simp at hb; omega)
             have hbw3 : Hid (Below W.heap.size W w3) := by
               first
                 | exact hbw2.out.grown hg2 hbw2.out.size hv1.out
                 | exact (hbw2.out.alloc hbw2.out.size _).grown hg2 (by have := hbw2.out.size; simp; omega) hv1.out
             obtain ⟨y0, y1, y2, y3, y4, y5⟩ := HQ.out w3 hbw3.out
             have HS2 := Lib.hid hs2
             clear hs2 hg2 ho2)
          | (refine z8 rfl (.tmp 29) (.tmp 32) 104 rfl i0 _ 48 Tryz.underlying104 hi0 hz0 hs0 hb0 rfl v2 (0 + k + 1) ([] ++ ar (l.take k) ++ ar [(⟨f, p, wt, kd, fi, o⟩ : Ar)]) rfl HS2.out _ (n - k) (ar (l.drop k)) rfl (src2.out _ hbw3.out) (Za _) (by simp only [maxLen]; omega) (by omega) ?_
             intro v3 w4 hs3 hg3 ho3
             have hbw4 : Hid (Below W.heap.size W w4) := hbw3.out.grown hg3 hbw3.out.size hv2.out
             obtain ⟨z0, z1, z2, z3, z4, z5⟩ := HQ.out w4 hbw4.out
             have fin : Hid (ArAt w4 v3 (insA l (⟨f, p, wt, kd, fi, o⟩ : Ar)) ∧ Below w.heap.size w w4 ∧ ∀ b, v3.ownBlock = some b → w.heap.size ≤ b) := by
               refine ⟨?_, HB1.out.trans (hbw4.out.mono s1), fun b hb => ?_⟩
               · show SlAt _ _ _ _ _ _
                 rw [hput.out, show (l.take k) ++ (⟨f, p, wt, kd, fi, o⟩ : Ar) :: (l.drop k) = ((l.take k) ++ [(⟨f, p, wt, kd, fi, o⟩ : Ar)]) ++ (l.drop k) by simp, Z0, Z0]
                 have : (((l.take k) ++ [(⟨f, p, wt, kd, fi, o⟩ : Ar)]) ++ (l.drop k)).length = 0 + k + 1 + (n - k) := by first | (simp [List.length_take, List.length_drop, ← HN.out]; done) | (simp [List.length_take, List.length_drop, ← HN.out]; omega)
                 rw [this]
                 simpa using hs3
               · rcases ho3 with e | e
                 · exact Nat.le_trans s1 (hv2.out b (e.symm.trans hb))
                 · rw [e] at hb
                   have hb := Option.some.inj hb
                   have := hbw3.out.size
                   omega
             clear hs3 hg3 ho3))
        all_goals (go_wp2_with fail; exact bodyPost_ret (v := v3) (by simp [results, Tryz.results136, go_sem]) rfl ⟨v3, rfl, fin.out.1, fin.out.2.1, fin.out.2.2⟩)
theorem SlAt.setAt{w:World}{e:TypeId}{k n b off c:Nat}{xs:List Value}(h:SlAt w e k (.slice (some ⟨b,off,none⟩) n c) n xs)(i:Nat)(hi:i<xs.length)(u:Value):SlAt (w.setCell ⟨b,off+i,none⟩ u) e k (.slice (some ⟨b,off,none⟩) n c) n (xs.set i u):=by
 refine⟨by rw[List.length_set];exact h.1,?_⟩
 rcases h.2 with⟨h0,_⟩|⟨b',off',c',arr,e1,hg,hnc,hm,hs,hx⟩
 ·cases h0
 ·cases e1
  have hlt:=(Array.getElem?_eq_some_iff.1 hg).1
  refine .inr ⟨b,off,c,arr.setIfInBounds (off+i) u,rfl,?_,hnc,hm,by simpa using hs,fun j v hv=>?_⟩
  ·unfold World.setCell
   simp only[Array.getElem?_modify,if_true,hg]
   simp
  ·rw[Array.getElem?_setIfInBounds]
   rw[List.getElem?_set]at hv
   by_cases e:i=j
   ·subst e
    rw[if_pos rfl,if_pos hi]at hv
    have:=hx i xs[i] (List.getElem?_eq_getElem hi)
    rw[if_pos rfl,if_pos (Array.getElem?_eq_some_iff.1 this).1]
    exact hv
   ·rw[if_neg e]at hv
    rw[if_neg (by omega)]
    exact hx j v hv
def Z4(a:Ar):List Value:=[.int .i64 a.from_,.int .i64 a.pages,.bool a.write,.int .i64 a.kind,.int .i64 a.file,.int .i64 a.off]
theorem zon(w:World)(p b off c:Nat)(G:Nat→Value)(av s:Value)(A:List Ar)(hR:Row w p 8194 G)(hG:G 0=.slice (some ⟨b,off,none⟩) 1 c)(hS:SlAt w 198 3 (.slice (some ⟨b,off,none⟩) 1 c) 1 [.int .i64 0,av,s])(hA:ArRd w av A)(hne:b≠p)
  (a:Ar) (ha:a.yo) (hwf:a.Wf) (hl:∀x∈A,x.yo) (hlen:A.length<16) (hno:jh A a.from_ (a.from_+a.pages)=[]):
  Calls Tryz.prog 78 #[.pointer (some ⟨p,0,none⟩),.int .i64 0,a.enc] w fun e w'=>e=.returned (.int .i64 0)∧∃v',Row w' p 8194 G∧SlAt w' 198 3 (.slice (some ⟨b,off,none⟩) 1 c) 1 [.int .i64 0,v',s]∧ArRd w' v' (insA A a)∧Touch [b] w w'∧∀g,v'.ownBlock=some g→w.heap.size≤g:=by
 obtain⟨aa,ac,rfl,hc1,hc2⟩:=ArRd.fm hA
 obtain⟨n,hn⟩:∃n,n=A.length:=⟨_,rfl⟩
 have hcc:1≤c:=by
  obtain⟨_,_,_,e,h,_⟩:=SlAt.cells hS (by simp)
  cases e;exact h
 have HQ:Hid (∀X,Below w.heap.size w X→Row X p 8194 G∧SlAt X 198 3 (.slice (some ⟨b,off,none⟩) 1 c) 1 [.int .i64 0,.slice aa n ac,s]∧ArRd X (.slice aa n ac) A∧X.cell? ⟨p,0,none⟩=some (.slice (some ⟨b,off,none⟩) 1 c)∧X.cell? ⟨b,off,none⟩=some (.int .i64 0)∧X.cell? ⟨b,off+1,none⟩=some (.slice aa n ac)∧X.frozen? ⟨b,off+1,none⟩=false):=Lib.hid fun X hX=>by
  have r:=hR.below hX
  have s':=hS.below hX
  obtain⟨_,_,_,e,_,_,hx⟩:=SlAt.cells s' (by simp)
  cases e
  rw[hn]
  exact⟨r,s',ArRd.below hA hX,by rw[r.cell (by omega),hG],(hx 0 _ rfl).1,(hx 1 _ rfl).1,(hx 1 _ rfl).2⟩
 have SR:=Lib.hid fun W=>zjx W a hwf
 have CR:=Lib.hid fun W h=>zos W (.slice aa n ac) A h hl (by omega) a.from_ a.pages (by have:=ha.2.2.1;have:=ha.2.2.2;unfold Ar.yo at ha;omega)
 have IR:=Lib.hid fun W h=>zgs W (.slice aa n ac) A h (by omega) a
 have HN:=Lib.hid (And.intro hn (And.intro hR.lt hne))
 have HBB:Hid (b<w.heap.size):=Lib.hid (SlAt.lt hS b rfl)
 have hlt:(n:Int)<16:=by omega
 rw[hno]at CR
 rw[decide_eq_true ha]at SR
 clear hR hS hA hl hlen hn hc1 hc2 hne ha hwf hno
 obtain⟨fr,pg,wt,kd,fi,o⟩:=a
 unfold Ar.enc at *
 dsimp only at *
 obtain⟨W0,hW0⟩:∃W0,W0=w.alloc (.cells #[.int .i64 fr,.int .i64 pg,.bool wt,.int .i64 kd,.int .i64 fi,.int .i64 o] 32):=⟨_,rfl⟩
 have hb0:Below w.heap.size w W0:=by rw[hW0];exact(Below.refl _ _).alloc (Nat.le_refl _) _
 have nb:=heap_alloc_new w (.cells #[.int .i64 fr,.int .i64 pg,.bool wt,.int .i64 kd,.int .i64 fi,.int .i64 o] 32)
 rw[←hW0]at nb
 have HA:Hid (∀X,Below W0.heap.size W0 X→(X.cell? ⟨w.heap.size,0,none⟩=some (.int .i64 fr)∧X.cell? ⟨w.heap.size,1,none⟩=some (.int .i64 pg)∧X.cell? ⟨w.heap.size,2,none⟩=some (.bool wt)∧X.cell? ⟨w.heap.size,3,none⟩=some (.int .i64 kd)∧X.cell? ⟨w.heap.size,4,none⟩=some (.int .i64 fi)∧X.cell? ⟨w.heap.size,5,none⟩=some (.int .i64 o))∧Below w.heap.size w X):=Lib.hid fun X hX=>by
  have nb':=(hX.block w.heap.size (Array.getElem?_eq_some_iff.1 nb).1).trans nb
  exact⟨⟨by rw[cell_of_row _ _ 0 _ _ _ nb'];rfl,by rw[cell_of_row _ _ 1 _ _ _ nb'];rfl,by rw[cell_of_row _ _ 2 _ _ _ nb'];rfl,by rw[cell_of_row _ _ 3 _ _ _ nb'];rfl,by rw[cell_of_row _ _ 4 _ _ _ nb'];rfl,by rw[cell_of_row _ _ 5 _ _ _ nb'];rfl⟩,hb0.trans (hX.mono hb0.size)⟩
 obtain⟨_,_,_,e0,e1,e2,_⟩:=HQ.out W0 hb0
 have AT:=Lib.hid (At_one W0 p b off c hcc e0 e1)
 have HW:=Lib.hid hW0
 obtain⟨⟨a0,a1,a2,a3,a4,a5⟩,_⟩:=HA.out W0 (Below.refl _ _)
 clear hb0 nb hW0 hcc
 go_enter Tryz.func78,Tryz.ntmps78
 go_wp2_with fail
 rw[←HW.out]
 refine AT.out.mono ?_
 rintro r u ⟨rfl,hu⟩
 have hu:=hu.symm
 subst hu
 clear AT
 go_wp2_with fail
 refine(SR.out _).mono ?_
 rintro r w1 ⟨rfl,hb1⟩
 have HB1:=Lib.hid hb1
 clear hb1 SR e0 e1 e2 a0 a1 a2 a3 a4 a5
 obtain⟨⟨a0,a1,a2,a3,a4,a5⟩,hw1⟩:=HA.out w1.drew (HB1.out.trans ((Below.refl _ _).drew.mono HB1.out.size))
 obtain⟨_,_,hAr,e0,e1,e2,_⟩:=HQ.out w1.drew hw1
 have HD:Hid (Below W0.heap.size W0 w1.drew):=HB1.out.trans ((Below.refl _ _).drew.mono HB1.out.size)
 have CT:=Lib.hid (CR.out w1.drew hAr)
 clear CR hAr hw1
 obtain⟨ab,hab⟩:∃ab,ab=w.heap.size:=⟨_,rfl⟩
 rw[←hab]at a0 a1 a2 a3 a4 a5⊢
 have HA2:Hid (ab=w.heap.size):=hab
 clear hab
 go_wp2_with fail
 go_region_held (fun X=>X.cell? ⟨p,0,none⟩=some (.slice (some ⟨b,off,none⟩) 1 c)∧X.cell? ⟨b,off+1,none⟩=some (.slice aa n ac)∧X.cell? ⟨ab,0,none⟩=some (.int .i64 fr)∧X.cell? ⟨ab,1,none⟩=some (.int .i64 pg)) (go_keep)
  ((go_at_call 135;refine CT.out.mono ?_;rintro r w2 ⟨v1,v2,rfl,h3,hb2⟩;have H3:=Lib.hid (And.intro h3 hb2);obtain⟨⟨m0,m1,m2,m3,m4,m5⟩,hw2⟩:=HA.out w2 (HD.out.trans (hb2.mono HD.out.size));obtain⟨_,_,_,f0,f1,f2,f3⟩:=HQ.out w2 hw2;rw[←HA2.out]at m0 m1 m2 m3 m4 m5;clear h3 hb2 hw2))
 obtain⟨z2,y2,e9,_,_⟩:=SlAt.form H3.out.1.a2
 have e9:v2=.slice z2 0 y2:=e9
 subst e9
 clear a0 a1 a2 a3 a4 a5 e0 e1 e2 CT
 go_wp2_with fail
 have HE:Hid (Below W0.heap.size W0 w2.drew):=(HD.out.trans (H3.out.2.mono HD.out.size)).trans ((Below.refl _ _).drew.mono (HD.out.trans (H3.out.2.mono HD.out.size)).size)
 clear HD m0 m1 m2 m3 m4 m5 f0 f1 f2 f3 H3
 obtain⟨⟨m0,m1,m2,m3,m4,m5⟩,hw2⟩:=HA.out w2.drew HE.out
 obtain⟨_,_,hAr,f0,_,f2,f3⟩:=HQ.out w2.drew hw2
 rw[←HA2.out]at m0 m1 m2 m3 m4 m5
 have IN:=Lib.hid (IR.out w2.drew hAr)
 have hC:=And.intro f0 (And.intro f2 (And.intro f3 (And.intro m0 (And.intro m1 (And.intro m2 (And.intro m3 (And.intro m4 m5)))))))
 have HW2:=Lib.hid hw2
 clear IR hAr hw2 f0 f2 f3 m0 m1 m2 m3 m4 m5
 refine Qq 17 (fun X=>X.cell? ⟨p,0,none⟩=some (.slice (some ⟨b,off,none⟩) 1 c)∧X.cell? ⟨b,off+1,none⟩=some (.slice aa n ac)∧X.frozen? ⟨b,off+1,none⟩=false∧X.cell? ⟨ab,0,none⟩=some (.int .i64 fr)∧X.cell? ⟨ab,1,none⟩=some (.int .i64 pg)∧X.cell? ⟨ab,2,none⟩=some (.bool wt)∧X.cell? ⟨ab,3,none⟩=some (.int .i64 kd)∧X.cell? ⟨ab,4,none⟩=some (.int .i64 fi)∧X.cell? ⟨ab,5,none⟩=some (.int .i64 o)) (by kernel_rfl) hC ?_
 refine zz 0 47 rfl rfl hC ?_
 simp only[Act.put,zg]
 refine zz 1 48 rfl rfl hC ?_
 simp only[Act.put,zg]
 refine zz 2 49 rfl rfl hC ?_
 simp only[Act.put,zg]
 refine zz 3 50 rfl rfl hC ?_
 simp only[Act.put,zg]
 refine zz 4 51 rfl rfl hC ?_
 simp only[Act.put,zg]
 refine zz 5 52 rfl rfl hC ?_
 simp only[Act.put,zg]
 refine zz 6 53 rfl rfl hC ?_
 simp only[Act.put,zg]
 refine zz 7 54 rfl rfl hC ?_
 simp only[Act.put,zg]
 refine zz 8 55 rfl rfl hC ?_
 simp only[Act.put,zg]
 refine zz 9 56 rfl rfl hC ?_
 simp only[Act.put,zg]
 refine zz 10 57 rfl rfl hC ?_
 simp only[Act.put,zg]
 refine zz 11 58 rfl rfl hC ?_
 simp only[Act.put,zg]
 refine zz 12 59 rfl rfl hC ?_
 simp only[Act.put,zg]
 refine zz 13 60 rfl rfl hC ?_
 simp only[Act.put,zg]
 refine ug (rs:=[14]) (by kernel_rfl) (by simp) ?_
 refine yn.cons rfl (fun K hK=>?_) yn.nil
 go_simp
 go_wp2_with (go_at_call 136;refine IN.out.mono ?_;rintro r w3 ⟨v3,rfl,h3,hb3,ho3⟩)
 obtain⟨z3,y3,e9,_,_⟩:=SlAt.form h3
 subst e9
 obtain⟨N3,hN3⟩:∃N3,N3=(insA A ⟨fr,pg,wt,kd,fi,o⟩).length:=⟨_,rfl⟩
 rw[←hN3]
 have hD3:=HE.out.trans (hb3.mono HE.out.size)
 obtain⟨⟨m0,m1,m2,m3,m4,m5⟩,hw3⟩:=HA.out w3 hD3
 obtain⟨hR3,hS3,_,f0,_,f2,f3⟩:=HQ.out w3 hw3
 rw[←HA2.out]at m0 m1 m2 m3 m4 m5
 have hC3:=And.intro f0 (And.intro f2 (And.intro f3 (And.intro m0 (And.intro m1 (And.intro m2 (And.intro m3 (And.intro m4 m5)))))))
 have FN:Hid (Row (w3.setCell ⟨b,off+1,none⟩ (.slice z3 N3 y3)) p 8194 G∧SlAt (w3.setCell ⟨b,off+1,none⟩ (.slice z3 N3 y3)) 198 3 (.slice (some ⟨b,off,none⟩) 1 c) 1 [.int .i64 0,.slice z3 N3 y3,s]∧ArRd (w3.setCell ⟨b,off+1,none⟩ (.slice z3 N3 y3)) (.slice z3 N3 y3) (insA A ⟨fr,pg,wt,kd,fi,o⟩)∧Touch [b] w (w3.setCell ⟨b,off+1,none⟩ (.slice z3 N3 y3))∧∀g,(Value.slice z3 N3 y3).ownBlock=some g→w.heap.size≤g):=by
  have hb:b<w.heap.size:=by
   rw[hN3]at *
   exact HBB.out
  have ho:∀g,(Value.slice z3 N3 y3).ownBlock=some g→w.heap.size≤g:=fun g hg=>Nat.le_trans HW2.out.size (ho3 g (by rw[←hN3];exact hg))
  refine⟨hR3.other (p:=⟨b,off+1,none⟩) HN.out.2.2 _,SlAt.setAt hS3 1 (by simp) _,?_,Touch.set (Touch.of_below hw3) (by simp) _,ho⟩
  have k:=SlAt.keep h3 fun g hg=>Below.heap_setCell w3 ⟨b,off+1,none⟩ (.slice z3 N3 y3) g (by have:=ho g (by rw[hN3];exact hg);show g≠b;omega)
  rw[hN3]at k⊢
  exact ArAt.rd k
 refine hK.out _ _ (fun _=>hC3) ?_
 clear hK K h3 hb3 ho3 hD3 hw3 hR3 hS3 hC f0 f2 f3 m0 m1 m2 m3 m4 m5 hN3
 refine zz 15 62 rfl rfl hC3 ?_
 simp only[Act.put,zg]
 refine zz 16 63 rfl rfl hC3 ?_
 simp only[Act.put,zg]
 refine ug (rs:=[17]) (by kernel_rfl) (by simp) ?_
 refine yn.cons rfl (fun K hK=>?_) yn.nil
 obtain⟨f0,f2,f3,_⟩:=hC3
 go_simp
 refine hK.out _ _ (fun h=>by simp at h) ?_
 clear hK K f0 f2 f3
 refine Vj (by kernel_rfl) ?_ _
 go_wp2_with fail
 exact bodyPost_ret (v:=.int .i64 0) (by simp[results,Tryz.results78,go_sem]) rfl ⟨rfl,_,FN.out⟩
structure AtB(w0:World)(K:List Nat)(wk:World)(q:Sq)(x:za)(w:World):Prop where
 st:∃tag,zb w tag q x∧(∀b,b<w0.heap.size→tag b=0)∧∀b∈K,b<w.heap.size∧tag b=0∧w.heap[b]?=wk.heap[b]?
 bel:Below w0.heap.size w0 w
section
variable {w0 w w' wk:World}{K:List Nat}{q:Sq}{x y:za}{C:Nat→Prop}
theorem AtB.go(h:AtB w0 K wk q x w)(hC:¬C 0){F:Nat}{args:Array Value}{P:Ending→Sq→za→Prop}
  (k:∀tag,zb w tag q x→Calls Tryz.prog F args w fun e w'=>∃q' y tag',P e q' y∧zb w' tag' q' y∧Step C tag w tag' w'):Calls Tryz.prog F args w fun e w'=>∃q' y,P e q' y∧AtB w0 K wk q' y w':=by
 obtain⟨⟨tag,hS,low,hK⟩,hb⟩:=h
 refine(k tag hS).mono ?_
 rintro e w1 ⟨q',y,tag1,he,h1,s1⟩
 obtain⟨a,_,c⟩:=Yj (V:=[]) hC s1 hb low (fun p hp=>by cases hp)
 exact⟨q',y,he,⟨tag1,h1,a,fun b hb=>⟨Nat.lt_of_lt_of_le (hK b hb).1 s1.turn.size,(s1.keeps hC b (hK b hb).1 (hK b hb).2.1).1,(s1.keeps hC b (hK b hb).1 (hK b hb).2.1).2.trans (hK b hb).2.2⟩⟩,c⟩
theorem AtB.ofQ{V:List (Value×List Value)}(h:AtQ w0 V q x w):AtB w0 [] w q x w:=by
 obtain⟨⟨tag,hS,low,_⟩,hb⟩:=h
 exact⟨⟨tag,hS,low,fun b hb=>by cases hb⟩,hb⟩
theorem AtB.toQ(h:AtB w0 K wk q x w):AtQ w0 [] q x w:=by
 obtain⟨⟨tag,hS,low,_⟩,hb⟩:=h
 exact⟨⟨tag,hS,low,fun p hp=>by cases hp⟩,hb⟩
theorem AtB.same(h:AtB w0 K wk q x w){b:Nat}(hb:b∈K):w.heap[b]?=wk.heap[b]?:=by
 obtain⟨⟨tag,hS,low,hK⟩,_⟩:=h
 exact(hK b hb).2.2
theorem AtB.lt(h:AtB w0 K wk q x w){b:Nat}(hb:b∈K):b<w.heap.size:=by
 obtain⟨⟨tag,hS,low,hK⟩,_⟩:=h
 exact(hK b hb).1
theorem AtB.own(h:AtB w0 K wk q x w){S K':List Nat}(t:Touch S w w')(hS:∀b∈S,b∈K∧w0.heap.size≤b)(hK':∀b∈K',(b∈K∨w.heap.size≤b)∧b<w'.heap.size):AtB w0 K' w' q x w':=by
 obtain⟨⟨tag,hSp,low,hK⟩,hb⟩:=h
 have s:Step (fun c=>c=0) tag w (retag tag w 0) w':=⟨fun b hb=>if_pos hb,Turn.touch t fun k hk=>.inl (hK k (hS k hk).1).2.1⟩
 refine⟨⟨_,hSp.free s,fun b hb'=>?_,fun b hb'=>⟨(hK' b hb').2,?_,rfl⟩⟩,Touch.from hb t hb.size fun i hi=>(hS i hi).2⟩
 ·have:=hb.size
  rw[show retag tag w 0 b=tag b from if_pos (by omega)];exact low b hb'
 ·rcases(hK' b hb').1 with k|k
  ·rw[show retag tag w 0 b=tag b from if_pos (hK b k).1];exact(hK b k).2.1
  ·exact yc _ _ _ _ k
theorem AtB.below(h:AtB w0 K wk q x w)(hb:Below w.heap.size w w'):AtB w0 K wk q x w':=by
 obtain⟨⟨tag,hS,low,hK⟩,hbel⟩:=h
 have s:Step (fun _=>False) tag w (retag tag w 0) w':=Step.anew hb
 obtain⟨a,_,c⟩:=Yj (V:=[]) (C:=fun _=>False) (fun h=>h) s hbel low (fun p hp=>by cases hp)
 exact⟨⟨_,hS.step s,a,fun b hb'=>⟨Nat.lt_of_lt_of_le (hK b hb').1 hb.size,by rw[show retag tag w 0 b=tag b from if_pos (hK b hb').1];exact(hK b hb').2.1,(hb.block b (hK b hb').1).trans (hK b hb').2.2⟩⟩,c⟩
theorem AtB.spawn(h:AtB w0 K wk q x w)(ok:Ok0 x)(n g:Nat)(hn:n<8)(hx:x.T n=none)(hg:x.P.next false=some g):
  Calls Tryz.prog 17 #[ptrV q.sp,.int .i64 n] w fun e w'=>e=.returned (.int .i64 0)∧∃u,AtB w0 K wk (q.at_ n u) (x.qz n g) w':=by
 obtain⟨hg1,hav,hgu⟩:=Yq hg
 refine(h.go (C:=CS n) (CS0 n) (P:=fun e q' y=>e=.returned (.int .i64 0)∧(∃u,q'=q.at_ n u)∧y=x.qz n g) fun tag hS=>?_).mono ?_
 ·refine(zgo hS n hn hx g hg hg1 (ok.ok.wf.ji hg1 (by omega))).mono ?_
  rintro e w1 ⟨rfl,tag1,u,hS1,s1⟩
  exact⟨_,_,tag1,⟨rfl,⟨u,rfl⟩,rfl⟩,hS1,s1⟩
 ·rintro e w1 ⟨_,_,⟨rfl,⟨u,rfl⟩,rfl⟩,h1⟩
  exact⟨rfl,u,h1⟩
theorem AtB.map(h:AtB w0 K wk q x w)(ok:Ok0 x)(n:Nat){pr:yj}(hp:x.T n=some pr)(a:Ar)(ha:a.yo)(hwf:a.Wf)(hno:anyA a pr.A=false)(hlen:pr.A.length<16):
  Calls Tryz.prog 18 #[ptrV q.sp,.int .i64 n,a.enc] w fun e w'=>e=.returned (.int .i64 0)∧AtB w0 K wk q (x.put n ⟨pr.T,insA pr.A a,pr.Q⟩) w':=by
 have hn:=ok.ok.Xg ok.out hp
 refine(h.go (C:=fun c=>c=20+n) (by omega) (P:=fun e q' y=>e=.returned (.int .i64 0)∧q'=q∧y=x.put n ⟨pr.T,insA pr.A a,pr.Q⟩) fun tag hS=>?_).mono ?_
 ·refine(zms hS n pr hn hp a hwf (by omega)).mono ?_
  rintro e w1 ⟨Y,A',tag1,rfl,hres,hS1,s1⟩
  rcases hres with⟨_,_,_,rfl,hperm,hsort⟩|⟨_,_,⟨q1,_⟩|⟨_,q1,_⟩|⟨_,_,q1,_⟩⟩
  ·have hL:=zjt (ok.ok.wf.Yh n pr hp).1 ha hno hperm hsort
   rw[hL]at hS1
   exact⟨_,_,tag1,⟨rfl,rfl,rfl⟩,hS1,s1⟩
  ·exact absurd ha q1
  ·rw[hno]at q1;cases q1
  ·omega
 ·rintro e w1 ⟨_,_,⟨rfl,rfl,rfl⟩,h1⟩
  exact⟨rfl,h1⟩
end
def lG(i:Nat):Value:=(Z4 arO++Z4 arS++Z4 arP).getD i undef
def ownL(v:Value):List Nat:=match v.ownBlock with|some g=>[g]|none=>[]
theorem qx{v:Value}{g:Nat}:g∈ownL v↔v.ownBlock=some g:=by
 unfold ownL
 cases v.ownBlock with
 | none=>simp
 | some h=>simp[eq_comm]
structure AtR(w0:World)(lb p b off c:Nat)(G:Nat→Value)(q:Sq)(x:za)(A:List Ar)(w:World):Prop where
 ex:∃av s wk,AtB w0 (lb::p::b::ownL av) wk q x w∧Row wk p 8194 G∧SlAt wk 198 3 (.slice (some ⟨b,off,none⟩) 1 c) 1 [.int .i64 0,av,s]∧ArRd wk av A∧Row wk lb 18 lG
 ge:w0.heap.size≤b∧b≠p∧b≠lb∧G 0=.slice (some ⟨b,off,none⟩) 1 c
section
variable {w0 w w':World}{lb p b off c:Nat}{G:Nat→Value}{q:Sq}{x:za}{A:List Ar}
theorem AtR.row(h:AtR w0 lb p b off c G q x A w):Row w lb 18 lG:=by
 obtain⟨⟨av,s,wk,h,_,_,_,h5⟩,_⟩:=h
 exact h5.keep (h.same (by simp))
theorem AtR.map(h:AtR w0 lb p b off c G q x A w)(ok:Ok0 x){pr:yj}(hp:x.T 0=some pr)(a:Ar)(ha:a.yo)(hwf:a.Wf)(hno:anyA a pr.A=false)(hlen:pr.A.length<16):
  Calls Tryz.prog 18 #[ptrV q.sp,.int .i64 0,a.enc] w fun e w'=>e=.returned (.int .i64 0)∧AtR w0 lb p b off c G q (x.put 0 ⟨pr.T,insA pr.A a,pr.Q⟩) A w':=by
 obtain⟨⟨av,s,wk,h,h1⟩,hge⟩:=h
 refine(h.map ok 0 hp a ha hwf hno hlen).mono ?_
 rintro e w1 ⟨rfl,k⟩
 exact⟨rfl,⟨av,s,wk,k,h1⟩,hge⟩
theorem AtR.rmap(h:AtR w0 lb p b off c G q x A w)(a:Ar)(ha:a.yo)(hwf:a.Wf)(hl:∀x∈A,x.yo)(hlen:A.length<16)(hno:jh A a.from_ (a.from_+a.pages)=[]):
  Calls Tryz.prog 78 #[ptrV p,.int .i64 0,a.enc] w fun e w'=>e=.returned (.int .i64 0)∧AtR w0 lb p b off c G q x (insA A a) w':=by
 obtain⟨⟨av,s,wk,h,h2,h3,h4,h5⟩,hge⟩:=h
 have sl:SlAt w 198 3 (.slice (some ⟨b,off,none⟩) 1 c) 1 [.int .i64 0,av,s]:=SlAt.keep h3 fun g hg=>by
  have:b=g:=Option.some.inj hg
  rw[←this];exact h.same (by simp)
 have ar:ArRd w av A:=SlRd.keepO h4 fun g hg=>h.same (by simp[qx,hg])
 refine(zon w p b off c G av s A (h2.keep (h.same (by simp))) hge.2.2.2 sl ar hge.2.1 a ha hwf hl hlen hno).mono ?_
 rintro e w1 ⟨rfl,v',k1,k2,k3,t,ho⟩
 have hsz:=t.size
 have kb:=h.own (K':=lb::p::b::ownL v') t (fun g hg=>by simp at hg;rw[hg];exact⟨by simp,hge.1⟩) (fun g hg=>by
  simp only[List.mem_cons,qx]at hg
  rcases hg with rfl|rfl|rfl|hg
  ·exact⟨.inl (by simp),Nat.lt_of_lt_of_le (h.lt (by simp)) hsz⟩
  ·exact⟨.inl (by simp),Nat.lt_of_lt_of_le (h.lt (by simp)) hsz⟩
  ·exact⟨.inl (by simp),Nat.lt_of_lt_of_le (h.lt (by simp)) hsz⟩
  ·exact⟨.inr (ho g hg),SlRd.lt k3 g hg⟩)
 have hlb:=h5.keep (h.same (b:=lb) (by simp))
 exact⟨rfl,⟨v',s,w1,kb,k1,k2,k3,hlb.keep (t.block lb hlb.lt (by simp;exact Ne.symm hge.2.2.1))⟩,hge⟩
end
end Go.Proofs.YtnhdmnijiphjjaaGreat
