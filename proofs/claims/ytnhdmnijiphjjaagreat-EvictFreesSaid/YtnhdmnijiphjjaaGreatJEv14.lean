/- Processes: let: a place has a frame no more. -/
import Derived.Test.YtnhdmnijiphjjaaGreatJEv13
set_option linter.unusedVariables false
set_option linter.unusedSimpArgs false
/- Processes: let: a place has a frame no more. -/
namespace Go.Proofs.YtnhdmnijiphjjaaGreat
open Go Go.RowKit
def za.letS (x : za) (f : Int) (p : Int × Int) : za :=
 { x with B := updF x.B f ((x.B f).erase p), P := if p ∈ x.B f ∧ (x.B f).erase p = [] ∧ x.P.use f.toNat = 3 then x.P.set f.toNat 1 else x.P }
section
variable {w w' : World} {tag tag' : Nat → Nat} {q : Sq} {x : za}
theorem zg.dropB (h : zg w tag q x) (f : Int) (p : Int × Int) (hK : KF f) (hlen : (x.B f).length ≤ 100000) :
  Calls Tryz.prog 186 #[.pointer (some ⟨q.bp, 0, none⟩), .int .i64 f, .agg #[.int .i64 p.1, .int .i64 p.2]] w fun e w' => e = .returned (.bool (decide (p ∈ x.B f))) ∧ zg w' (retag tag w 4) q { x with B := updF x.B f ((x.B f).erase p) } ∧ Step (fun c => c = 4) tag w (retag tag w 4) w' := by
 obtain ⟨S, V, hB, hS⟩ := h.back
 refine (zf0 w q.bp q.bm S V x.B hB f p hlen hK).mono ?_
 rintro e w1 ⟨rfl, S', V', h1, h2, h3⟩
 exact ⟨rfl, h.back' hS h2 h3 h1⟩
theorem zg.ofB (h : zg w tag q x) (f : Int) (hlen : (x.B f).length ≤ 1000000) :
  Calls Tryz.prog 87 #[.pointer (some ⟨q.bp, 0, none⟩), .int .i64 f] w fun e w' => ∃ a c, e = .returned (.slice a (x.B f).length c) ∧ PlAt w' (.slice a (x.B f).length c) (x.B f) ∧ Below w.heap.size w w' ∧ ∀ b, (Value.slice a (x.B f).length c).ownBlock = some b → w.heap.size ≤ b := by
 obtain ⟨S, V, hB, hS⟩ := h.back
 refine (zkh w q.bp q.bm S V x.B hB f hlen).mono ?_
 rintro e w1 ⟨v', rfl, h1, h2, h3⟩
 obtain ⟨a, c, rfl, _, _⟩ := SlAt.form h1
 exact ⟨a, c, rfl, h1, h2, h3⟩
set_option maxRecDepth 100000 in
set_option maxHeartbeats 2000000 in
theorem zi7 (h : zg w tag q x) (f : Nat) (p : Int × Int) (hf : f < 1024) (hlen : (x.B f).length ≤ 100000) :
    Calls Tryz.prog 142 #[ptrV q.sp, .int .i64 f, .agg #[.int .i64 p.1, .int .i64 p.2]] w fun e w' => e = .returned (.tuple #[]) ∧ ∃ tag', zg w' tag' q (x.letS f p) ∧ Step (fun c => c = 2 ∨ c = 4) tag w tag' w' := by
  obtain ⟨w0, hw0⟩ : ∃ w0, w0 = w.alloc (.cells #[.int .i64 p.1, .int .i64 p.2] 58 (0, 0)) := ⟨_, rfl⟩
  have hb0 : Below w.heap.size w w0 := by rw [hw0]; exact (Below.refl w.heap.size w).alloc (Nat.le_refl _) _
  have hbW : Below w.heap.size w w0.drew := hb0.drew
  have nb : w0.heap[w.heap.size]? = some (.cells #[.int .i64 p.1, .int .i64 p.2] 58 (0, 0)) := by rw [hw0]; exact heap_alloc_new w _
  have d0 : w0.cell? ⟨w.heap.size, 0, none⟩ = some (.int .i64 p.1) := by rw [cell_of_row _ _ 0 _ _ _ nb]; rfl
  have d1 : w0.cell? ⟨w.heap.size, 1, none⟩ = some (.int .i64 p.2) := by rw [cell_of_row _ _ 1 _ _ _ nb]; rfl
  have s0 : Step (fun c => c = 2 ∨ c = 4) tag w (retag tag w 0) w0.drew := Step.anew hbW
  have hS : zg w0.drew (retag tag w 0) q x := h.step (Step.anew hbW)
  have ht0 : retag tag w 0 w.heap.size = 0 := zx _ _ _ _ (Nat.le_refl _)
  obtain ⟨tag0, htag⟩ : ∃ tag0, tag0 = retag tag w 0 := ⟨_, rfl⟩
  rw [← htag] at s0 hS ht0
  clear htag
  have q3 : w0.cell? ⟨q.sp, 3, none⟩ = some (ptrV q.bp) := hS.row.cell (i := 3) (by omega)
  have q2 : w0.cell? ⟨q.sp, 2, none⟩ = some (ptrV q.pp) := hS.row.cell (i := 2) (by omega)
  have keep : ∀ (W' : World) (C : Nat → Prop) (tag' : Nat → Nat) , Step C tag0 w0.drew tag' W' → ¬ C 0 → ¬ C 8 → W'.cell? ⟨q.sp, 3, none⟩ = some (ptrV q.bp) ∧ W'.cell? ⟨q.sp, 2, none⟩ = some (ptrV q.pp) ∧ W'.cell? ⟨w.heap.size, 0, none⟩ = some (.int .i64 p.1) ∧ W'.cell? ⟨w.heap.size, 1, none⟩ = some (.int .i64 p.2) := fun W' C tag' s c0 c8 => by
    have k8 := (s.keeps c8 _ hS.row.lt hS.so).2
    have k0 := (s.keeps c0 w.heap.size (World.block_lt_of_cell? w0 ⟨w.heap.size, 0, none⟩ d0) ht0).2
    exact ⟨(World.cell?_of_block (w := w0.drew) k8).trans q3, (World.cell?_of_block (w := w0.drew) k8).trans q2, (World.cell?_of_block (w := w0.drew) k0).trans d0, (World.cell?_of_block (w := w0.drew) k0).trans d1⟩
  have D := Lib.hid (hS.dropB f p ⟨by omega, by omega⟩ hlen)
  unfold ptrV at keep q3 q2 ⊢
  have HK := Lib.hid keep
  have fin : Hid (∀ w' tag' (P' : zk), zg w' tag' q { x with B := updF x.B f ((x.B f).erase p), P := P' } → Step (fun c => c = 2 ∨ c = 4) tag0 w0.drew tag' w' → P' = (if p ∈ x.B f ∧ (x.B f).erase p = [] ∧ x.P.use f = 3 then x.P.set f 1 else x.P) → ∃ tag', zg w' tag' q (x.letS f p) ∧ Step (fun c => c = 2 ∨ c = 4) tag w tag' w') := fun w' tag' P' h1 h2 h3 => by
    subst h3
    exact ⟨tag', h1, s0.trans h2⟩
  clear keep
  by_cases hx : p ∈ x.B f
  · rw [decide_eq_true hx] at D
    have hn : ∃ n, n = ((x.B f).erase p).length := ⟨_, rfl⟩
    obtain ⟨n, hn⟩ := hn
    have hnl : n ≤ 1000000 := by rw [hn]; have := List.length_erase_le (a := p) (l := x.B f); omega
    have OFC : Hid (∀ w2 tag2, zg w2 tag2 q { x with B := updF x.B f ((x.B f).erase p) } → Step (fun c => c = 2 ∨ c = 4) tag0 w0.drew tag2 w2 → Calls Tryz.prog 87 #[.pointer (some ⟨q.bp, 0, none⟩), .int .i64 f] w2 fun e w3 => ∃ a c, e = .returned (.slice a n c) ∧ zg w3 tag2 q { x with B := updF x.B f ((x.B f).erase p) } ∧ Step (fun c => c = 2 ∨ c = 4) tag0 w0.drew tag2 w3) := fun w2 tag2 h2 s2 => by
      have e1 : (updF x.B f ((x.B f).erase p)) f = (x.B f).erase p := by unfold updF; rw [if_pos rfl]
      have := h2.ofB f (by dsimp only; rw [e1, ← hn]; exact hnl)
      dsimp only at this
      rw [e1, ← hn] at this
      refine this.mono ?_
      rintro e w3 ⟨a, c, rfl, _, hb, _⟩
      exact ⟨a, c, rfl, h2.below hb, s2.trans (Step.of_below hb)⟩
    by_cases he : (x.B f).erase p = []
    · have en : n = 0 := by rw [hn, he]; rfl
      subst en
      by_cases hu : x.P.use f = 3
      · have D2 : Hid (Calls Tryz.prog 186 #[.pointer (some ⟨q.bp, 0, none⟩), .int .i64 f, .agg #[.int .i64 p.1, .int .i64 p.2]] w0.drew fun e w2 => e = .returned (.bool true) ∧ w2.cell? ⟨q.sp, 3, none⟩ = some (.pointer (some ⟨q.bp, 0, none⟩)) ∧ w2.cell? ⟨q.sp, 2, none⟩ = some (.pointer (some ⟨q.pp, 0, none⟩)) ∧ w2.cell? ⟨w.heap.size, 0, none⟩ = some (.int .i64 p.1) ∧ w2.cell? ⟨w.heap.size, 1, none⟩ = some (.int .i64 p.2) ∧
            (Calls Tryz.prog 87 #[.pointer (some ⟨q.bp, 0, none⟩), .int .i64 f] w2 fun e w3 => ∃ a c, e = .returned (.slice a 0 c) ∧ w3.cell? ⟨q.sp, 3, none⟩ = some (.pointer (some ⟨q.bp, 0, none⟩)) ∧ w3.cell? ⟨q.sp, 2, none⟩ = some (.pointer (some ⟨q.pp, 0, none⟩)) ∧ w3.cell? ⟨w.heap.size, 0, none⟩ = some (.int .i64 p.1) ∧ w3.cell? ⟨w.heap.size, 1, none⟩ = some (.int .i64 p.2) ∧
              ((Calls Tryz.prog 38 #[.pointer (some ⟨q.pp, 0, none⟩), .int .i64 f] w3 fun e w4 => e = .returned (.int .i64 3) ∧ w4 = w3) ∧ (Calls Tryz.prog 44 #[.pointer (some ⟨q.pp, 0, none⟩), .int .i64 f] w3 fun e w' => e = .returned (.bool true) ∧ (∃ tag', zg w' tag' q (x.letS f p) ∧ Step (fun c => c = 2 ∨ c = 4) tag w tag' w'))))) := by
          refine D.out.mono ?_
          rintro e w2 ⟨rfl, h1, h2⟩
          have s2 := h2.mono (C' := fun c => c = 2 ∨ c = 4) fun c hc => .inr hc
          obtain ⟨k1, k2, k3, k4⟩ := HK.out _ _ _ s2 (by omega) (by omega)
          refine ⟨rfl, k1, k2, k3, k4, (OFC.out _ _ h1 s2).mono ?_⟩
          rintro e w3 ⟨a, c, rfl, h3, s3⟩
          obtain ⟨k1, k2, k3, k4⟩ := HK.out _ _ _ s3 (by omega) (by omega)
          refine ⟨a, c, rfl, k1, k2, k3, k4, ?_, ?_⟩
          · have := zca _ _ _ _ _ _ h3.pool f f rfl hf
            rw [show ({ x with B := updF x.B f ((x.B f).erase p) } : za).P.use f = x.P.use f from rfl, hu] at this
            exact this
          · refine (Vq _ _ _ _ _ _ h3.pool f f rfl hf (by show 2 ≤ x.P.use f; omega) (by show x.P.use f ≤ 5; omega)).mono ?_
            rintro e w' ⟨rfl, g1, g2⟩
            have g := h3.ze1 g2 g1
            exact ⟨rfl, fin.out _ _ _ g.1 (s3.trans (g.2.mono fun c hc => .inl hc)) (by rw [if_pos ⟨hx, he, hu⟩])⟩
        have HW := Lib.hid hw0
        clear h hb0 hbW nb s0 hS ht0 D hlen HK fin hw0 hx he hn hnl OFC hu
        go_enter Tryz.func142, Tryz.ntmps142
        go_wp2_with fail
        rw [← HW.out]
        refine wp_region_held_drew (S := (fun X => X.cell? ⟨q.sp, 3, none⟩ = some (.pointer (some ⟨q.bp, 0, none⟩)) ∧ X.cell? ⟨q.sp, 2, none⟩ = some (.pointer (some ⟨q.pp, 0, none⟩)) ∧ X.cell? ⟨w.heap.size, 0, none⟩ = some (.int .i64 p.1) ∧ X.cell? ⟨w.heap.size, 1, none⟩ = some (.int .i64 p.2))) (by kernel_rfl) ⟨q3, q2, d0, d1⟩ (fun hHeld => ?_)
        refine zb (v := ?vd0) 0 6 rfl rfl (by kernel_rfl) (by kernel_rfl) (by kernel_rfl) (fun _ _ _ h => h) (Or.inl ⟨by rfl, ?hyd0⟩) hHeld ?restd0
        case hyd0 => ((intro w hSw; (try dsimp only at hSw); go_simp) <;> with_reducible rfl)
        case' restd0 => (simp only [Act.put, List.setIfInBounds_toArray, List.set_cons_zero, List.set_cons_succ])
        refine zb (v := ?vd1) 1 7 rfl rfl (by kernel_rfl) (by kernel_rfl) (by kernel_rfl) (fun _ _ _ h => h) (Or.inl ⟨by rfl, ?hyd1⟩) hHeld ?restd1
        case hyd1 => ((intro w hSw; (try dsimp only at hSw); go_simp) <;> with_reducible rfl)
        case' restd1 => (simp only [Act.put, List.setIfInBounds_toArray, List.set_cons_zero, List.set_cons_succ])
        refine zb (v := ?vd2) 2 8 rfl rfl (by kernel_rfl) (by kernel_rfl) (by kernel_rfl) (fun _ _ _ h => h) (Or.inl ⟨by rfl, ?hyd2⟩) hHeld ?restd2
        case hyd2 => ((intro w hSw; (try dsimp only at hSw); go_simp) <;> with_reducible rfl)
        case' restd2 => (simp only [Act.put, List.setIfInBounds_toArray, List.set_cons_zero, List.set_cons_succ])
        refine zb (v := ?vd3) 3 9 rfl rfl (by kernel_rfl) (by kernel_rfl) (by kernel_rfl) (fun _ _ _ h => h) (Or.inl ⟨by rfl, ?hyd3⟩) hHeld ?restd3
        case hyd3 => ((intro w hSw; (try dsimp only at hSw); go_simp) <;> with_reducible rfl)
        case' restd3 => (simp only [Act.put, List.setIfInBounds_toArray, List.set_cons_zero, List.set_cons_succ])
        refine zb (v := ?vd4) 4 10 rfl rfl (by kernel_rfl) (by kernel_rfl) (by kernel_rfl) (fun _ _ _ h => h) (Or.inl ⟨by rfl, ?hyd4⟩) hHeld ?restd4
        case hyd4 => ((intro w hSw; (try dsimp only at hSw); go_simp) <;> with_reducible rfl)
        case' restd4 => (simp only [Act.put, List.setIfInBounds_toArray, List.set_cons_zero, List.set_cons_succ])
        refine zb (v := ?vd5) 5 11 rfl rfl (by kernel_rfl) (by kernel_rfl) (by kernel_rfl) (fun _ _ _ h => h) (Or.inl ⟨by rfl, ?hyd5⟩) hHeld ?restd5
        case hyd5 => ((intro w hSw; (try dsimp only at hSw); go_simp) <;> with_reducible rfl)
        case' restd5 => (simp only [Act.put, List.setIfInBounds_toArray, List.set_cons_zero, List.set_cons_succ])
        refine wpAnyH_ready (rs := [6]) (by kernel_rfl) (by simp) ?_
        refine AllReadyH.cons rfl (fun K hK => ?_) AllReadyH.nil
        go_simp
        go_wp2_with (go_at_call 186; refine D2.out.mono ?_; rintro e w2 ⟨rfl, g1, g2, g3, g4, HX⟩)
        have hX := Lib.hid HX
        clear HX
        refine hK.out _ _ ⟨g1, g2, g3, g4⟩ (fun hHeld => ?_)
        clear hK K
        refine zb (v := ?vd7) 7 13 rfl rfl (by kernel_rfl) (by kernel_rfl) (by kernel_rfl) (fun _ _ _ h => h) (Or.inl ⟨by rfl, ?hyd7⟩) hHeld ?restd7
        case hyd7 => ((intro w hSw; (try dsimp only at hSw); go_simp) <;> with_reducible rfl)
        case' restd7 => (simp only [Act.put, List.setIfInBounds_toArray, List.set_cons_zero, List.set_cons_succ])
        refine zb (v := ?vd8) 8 14 rfl rfl (by kernel_rfl) (by kernel_rfl) (by kernel_rfl) (fun _ _ _ h => h) (Or.inl ⟨by rfl, ?hyd8⟩) hHeld ?restd8
        case hyd8 => ((intro w hSw; (try dsimp only at hSw); go_simp) <;> with_reducible rfl)
        case' restd8 => (simp only [Act.put, List.setIfInBounds_toArray, List.set_cons_zero, List.set_cons_succ])
        refine zb (v := ?vd9) 9 15 rfl rfl (by kernel_rfl) (by kernel_rfl) (by kernel_rfl) (fun _ _ _ h => h) (Or.inl ⟨by rfl, ?hyd9⟩) hHeld ?restd9
        case hyd9 => ((intro w hSw; (try dsimp only at hSw); go_simp) <;> with_reducible rfl)
        case' restd9 => (simp only [Act.put, List.setIfInBounds_toArray, List.set_cons_zero, List.set_cons_succ])
        refine zb (v := ?vd10) 10 16 rfl rfl (by kernel_rfl) (by kernel_rfl) (by kernel_rfl) (fun _ _ _ h => h) (Or.inl ⟨by rfl, ?hyd10⟩) hHeld ?restd10
        case hyd10 => ((intro w hSw; (try dsimp only at hSw); go_simp) <;> with_reducible rfl)
        case' restd10 => (simp only [Act.put, List.setIfInBounds_toArray, List.set_cons_zero, List.set_cons_succ])
        refine zb (v := ?vd11) 11 17 rfl rfl (by kernel_rfl) (by kernel_rfl) (by kernel_rfl) (fun _ _ _ h => h) (Or.inl ⟨by rfl, ?hyd11⟩) hHeld ?restd11
        case hyd11 => ((intro w hSw; (try dsimp only at hSw); go_simp) <;> with_reducible rfl)
        case' restd11 => (simp only [Act.put, List.setIfInBounds_toArray, List.set_cons_zero, List.set_cons_succ])
        refine zb (v := ?vd12) 12 18 rfl rfl (by kernel_rfl) (by kernel_rfl) (by kernel_rfl) (fun _ _ _ h => h) (Or.inl ⟨by rfl, ?hyd12⟩) hHeld ?restd12
        case hyd12 => ((intro w hSw; (try dsimp only at hSw); go_simp) <;> with_reducible rfl)
        case' restd12 => (simp only [Act.put, List.setIfInBounds_toArray, List.set_cons_zero, List.set_cons_succ])
        refine wpAnyH_ready (rs := [13]) (by kernel_rfl) (by simp) ?_
        refine AllReadyH.cons rfl (fun K hK => ?_) AllReadyH.nil
        go_simp
        go_wp2_with (go_at_call 87; refine hX.out.mono ?_; rintro e w3 ⟨aa, cc, rfl, j1, j2, j3, j4, HY⟩)
        have hY := Lib.hid HY
        clear HY
        refine hK.out _ _ ⟨j1, j2, j3, j4⟩ (fun hHeld => ?_)
        clear hK K
        refine zb (v := ?vd14) 14 20 rfl rfl (by kernel_rfl) (by kernel_rfl) (by kernel_rfl) (fun _ _ _ h => h) (Or.inl ⟨by rfl, ?hyd14⟩) hHeld ?restd14
        case hyd14 => ((intro w hSw; (try dsimp only at hSw); go_simp) <;> with_reducible rfl)
        case' restd14 => (simp only [Act.put, List.setIfInBounds_toArray, List.set_cons_zero, List.set_cons_succ])
        refine zb (v := ?vd15) 15 21 rfl rfl (by kernel_rfl) (by kernel_rfl) (by kernel_rfl) (fun _ _ _ h => h) (Or.inl ⟨by rfl, ?hyd15⟩) hHeld ?restd15
        case hyd15 => ((intro w hSw; (try dsimp only at hSw); go_simp) <;> with_reducible rfl)
        case' restd15 => (simp only [Act.put, List.setIfInBounds_toArray, List.set_cons_zero, List.set_cons_succ])
        refine zb (v := ?vd16) 16 22 rfl rfl (by kernel_rfl) (by kernel_rfl) (by kernel_rfl) (fun _ _ _ h => h) (Or.inl ⟨by rfl, ?hyd16⟩) hHeld ?restd16
        case hyd16 => ((intro w hSw; (try dsimp only at hSw); go_simp) <;> with_reducible rfl)
        case' restd16 => (simp only [Act.put, List.setIfInBounds_toArray, List.set_cons_zero, List.set_cons_succ])
        refine zb (v := ?vd17) 17 23 rfl rfl (by kernel_rfl) (by kernel_rfl) (by kernel_rfl) (fun _ _ _ h => h) (Or.inl ⟨by rfl, ?hyd17⟩) hHeld ?restd17
        case hyd17 => ((intro w hSw; (try dsimp only at hSw); go_simp) <;> with_reducible rfl)
        case' restd17 => (simp only [Act.put, List.setIfInBounds_toArray, List.set_cons_zero, List.set_cons_succ])
        refine zb (v := ?vd18) 18 24 rfl rfl (by kernel_rfl) (by kernel_rfl) (by kernel_rfl) (fun _ _ _ h => h) (Or.inl ⟨by rfl, ?hyd18⟩) hHeld ?restd18
        case hyd18 => ((intro w hSw; (try dsimp only at hSw); go_simp) <;> with_reducible rfl)
        case' restd18 => (simp only [Act.put, List.setIfInBounds_toArray, List.set_cons_zero, List.set_cons_succ])
        refine zb (v := ?vd19) 19 25 rfl rfl (by kernel_rfl) (by kernel_rfl) (by kernel_rfl) (fun _ _ _ h => h) (Or.inl ⟨by rfl, ?hyd19⟩) hHeld ?restd19
        case hyd19 => ((intro w hSw; (try dsimp only at hSw); go_simp) <;> with_reducible rfl)
        case' restd19 => (simp only [Act.put, List.setIfInBounds_toArray, List.set_cons_zero, List.set_cons_succ])
        refine zb (v := ?vd20) 20 26 rfl rfl (by kernel_rfl) (by kernel_rfl) (by kernel_rfl) (fun _ _ _ h => h) (Or.inl ⟨by rfl, ?hyd20⟩) hHeld ?restd20
        case hyd20 => ((intro w hSw; (try dsimp only at hSw); go_simp) <;> with_reducible rfl)
        case' restd20 => (simp only [Act.put, List.setIfInBounds_toArray, List.set_cons_zero, List.set_cons_succ])
        refine zb (v := ?vd21) 21 27 rfl rfl (by kernel_rfl) (by kernel_rfl) (by kernel_rfl) (fun _ _ _ h => h) (Or.inl ⟨by rfl, ?hyd21⟩) hHeld ?restd21
        case hyd21 => ((intro w hSw; (try dsimp only at hSw); go_simp) <;> with_reducible rfl)
        case' restd21 => (simp only [Act.put, List.setIfInBounds_toArray, List.set_cons_zero, List.set_cons_succ])
        refine zb (v := ?vd22) 22 28 rfl rfl (by kernel_rfl) (by kernel_rfl) (by kernel_rfl) (fun _ _ _ h => h) (Or.inl ⟨by rfl, ?hyd22⟩) hHeld ?restd22
        case hyd22 => ((intro w hSw; (try dsimp only at hSw); go_simp) <;> with_reducible rfl)
        case' restd22 => (simp only [Act.put, List.setIfInBounds_toArray, List.set_cons_zero, List.set_cons_succ])
        refine wpAnyH_ready (rs := [23]) (by kernel_rfl) (by simp) ?_
        refine AllReadyH.cons rfl (fun K hK => ?_) AllReadyH.nil
        go_simp
        go_wp2_with (go_at_call 38; refine hY.out.1.mono ?_; rintro e w4 ⟨rfl, hw4⟩)
        have hw4 := hw4.symm
        subst hw4
        refine hK.out _ _ ⟨j1, j2, j3, j4⟩ (fun hHeld => ?_)
        clear hK K
        refine zb (v := ?vd24) 24 30 rfl rfl (by kernel_rfl) (by kernel_rfl) (by kernel_rfl) (fun _ _ _ h => h) (Or.inl ⟨by rfl, ?hyd24⟩) hHeld ?restd24
        case hyd24 => ((intro w hSw; (try dsimp only at hSw); go_simp) <;> with_reducible rfl)
        case' restd24 => (simp only [Act.put, List.setIfInBounds_toArray, List.set_cons_zero, List.set_cons_succ])
        refine zb (v := ?vd25) 25 31 rfl rfl (by kernel_rfl) (by kernel_rfl) (by kernel_rfl) (fun _ _ _ h => h) (Or.inl ⟨by rfl, ?hyd25⟩) hHeld ?restd25
        case hyd25 => ((intro w hSw; (try dsimp only at hSw); go_simp) <;> with_reducible rfl)
        case' restd25 => (simp only [Act.put, List.setIfInBounds_toArray, List.set_cons_zero, List.set_cons_succ])
        refine wpAnyH_done (by kernel_rfl) ?_ _
        go_wp2_with fail
        refine hY.out.2.mono ?_
        rintro e w5 ⟨rfl, HZ⟩
        have hZ := Lib.hid HZ
        clear HZ
        go_wp2_with fail
        exact bodyPost_end (v := .tuple #[]) (by simp [results, Tryz.results142, go_sem]) rfl ⟨rfl, hZ.out⟩
      · have D2 : Hid (Calls Tryz.prog 186 #[.pointer (some ⟨q.bp, 0, none⟩), .int .i64 f, .agg #[.int .i64 p.1, .int .i64 p.2]] w0.drew fun e w2 => e = .returned (.bool true) ∧ w2.cell? ⟨q.sp, 3, none⟩ = some (.pointer (some ⟨q.bp, 0, none⟩)) ∧ w2.cell? ⟨q.sp, 2, none⟩ = some (.pointer (some ⟨q.pp, 0, none⟩)) ∧ w2.cell? ⟨w.heap.size, 0, none⟩ = some (.int .i64 p.1) ∧ w2.cell? ⟨w.heap.size, 1, none⟩ = some (.int .i64 p.2) ∧
            (Calls Tryz.prog 87 #[.pointer (some ⟨q.bp, 0, none⟩), .int .i64 f] w2 fun e w3 => ∃ a c, e = .returned (.slice a 0 c) ∧ w3.cell? ⟨q.sp, 3, none⟩ = some (.pointer (some ⟨q.bp, 0, none⟩)) ∧ w3.cell? ⟨q.sp, 2, none⟩ = some (.pointer (some ⟨q.pp, 0, none⟩)) ∧ w3.cell? ⟨w.heap.size, 0, none⟩ = some (.int .i64 p.1) ∧ w3.cell? ⟨w.heap.size, 1, none⟩ = some (.int .i64 p.2) ∧
              ((Calls Tryz.prog 38 #[.pointer (some ⟨q.pp, 0, none⟩), .int .i64 f] w3 fun e w4 => e = .returned (.int .i64 (x.P.use f)) ∧ w4 = w3) ∧ (∃ tag', zg w3 tag' q (x.letS f p) ∧ Step (fun c => c = 2 ∨ c = 4) tag w tag' w3)))) := by
          refine D.out.mono ?_
          rintro e w2 ⟨rfl, h1, h2⟩
          have s2 := h2.mono (C' := fun c => c = 2 ∨ c = 4) fun c hc => .inr hc
          obtain ⟨k1, k2, k3, k4⟩ := HK.out _ _ _ s2 (by omega) (by omega)
          refine ⟨rfl, k1, k2, k3, k4, (OFC.out _ _ h1 s2).mono ?_⟩
          rintro e w3 ⟨a, c, rfl, h3, s3⟩
          obtain ⟨k1, k2, k3, k4⟩ := HK.out _ _ _ s3 (by omega) (by omega)
          refine ⟨a, c, rfl, k1, k2, k3, k4, zca _ _ _ _ _ _ h3.pool f f rfl hf, ?_⟩
          exact fin.out _ _ x.P h3 s3 (by rw [if_neg fun e => hu e.2.2])
        have hn0 : ((x.P.use f : Int) == 3) = false := beq_eq_false_iff_ne.2 (by omega)
        generalize x.P.use f = u at D2 hn0
        have HW := Lib.hid hw0
        clear h hb0 hbW nb s0 hS ht0 D hlen HK fin hw0 hx he hn hnl OFC hu
        go_enter Tryz.func142, Tryz.ntmps142
        go_wp2_with fail
        rw [← HW.out]
        refine wp_region_held_drew (S := (fun X => X.cell? ⟨q.sp, 3, none⟩ = some (.pointer (some ⟨q.bp, 0, none⟩)) ∧ X.cell? ⟨q.sp, 2, none⟩ = some (.pointer (some ⟨q.pp, 0, none⟩)) ∧ X.cell? ⟨w.heap.size, 0, none⟩ = some (.int .i64 p.1) ∧ X.cell? ⟨w.heap.size, 1, none⟩ = some (.int .i64 p.2))) (by kernel_rfl) ⟨q3, q2, d0, d1⟩ (fun hHeld => ?_)
        refine zb (v := ?vc0) 0 6 rfl rfl (by kernel_rfl) (by kernel_rfl) (by kernel_rfl) (fun _ _ _ h => h) (Or.inl ⟨by rfl, ?hyc0⟩) hHeld ?restc0
        case hyc0 => ((intro w hSw; (try dsimp only at hSw); go_simp) <;> with_reducible rfl)
        case' restc0 => (simp only [Act.put, List.setIfInBounds_toArray, List.set_cons_zero, List.set_cons_succ])
        refine zb (v := ?vc1) 1 7 rfl rfl (by kernel_rfl) (by kernel_rfl) (by kernel_rfl) (fun _ _ _ h => h) (Or.inl ⟨by rfl, ?hyc1⟩) hHeld ?restc1
        case hyc1 => ((intro w hSw; (try dsimp only at hSw); go_simp) <;> with_reducible rfl)
        case' restc1 => (simp only [Act.put, List.setIfInBounds_toArray, List.set_cons_zero, List.set_cons_succ])
        refine zb (v := ?vc2) 2 8 rfl rfl (by kernel_rfl) (by kernel_rfl) (by kernel_rfl) (fun _ _ _ h => h) (Or.inl ⟨by rfl, ?hyc2⟩) hHeld ?restc2
        case hyc2 => ((intro w hSw; (try dsimp only at hSw); go_simp) <;> with_reducible rfl)
        case' restc2 => (simp only [Act.put, List.setIfInBounds_toArray, List.set_cons_zero, List.set_cons_succ])
        refine zb (v := ?vc3) 3 9 rfl rfl (by kernel_rfl) (by kernel_rfl) (by kernel_rfl) (fun _ _ _ h => h) (Or.inl ⟨by rfl, ?hyc3⟩) hHeld ?restc3
        case hyc3 => ((intro w hSw; (try dsimp only at hSw); go_simp) <;> with_reducible rfl)
        case' restc3 => (simp only [Act.put, List.setIfInBounds_toArray, List.set_cons_zero, List.set_cons_succ])
        refine zb (v := ?vc4) 4 10 rfl rfl (by kernel_rfl) (by kernel_rfl) (by kernel_rfl) (fun _ _ _ h => h) (Or.inl ⟨by rfl, ?hyc4⟩) hHeld ?restc4
        case hyc4 => ((intro w hSw; (try dsimp only at hSw); go_simp) <;> with_reducible rfl)
        case' restc4 => (simp only [Act.put, List.setIfInBounds_toArray, List.set_cons_zero, List.set_cons_succ])
        refine zb (v := ?vc5) 5 11 rfl rfl (by kernel_rfl) (by kernel_rfl) (by kernel_rfl) (fun _ _ _ h => h) (Or.inl ⟨by rfl, ?hyc5⟩) hHeld ?restc5
        case hyc5 => ((intro w hSw; (try dsimp only at hSw); go_simp) <;> with_reducible rfl)
        case' restc5 => (simp only [Act.put, List.setIfInBounds_toArray, List.set_cons_zero, List.set_cons_succ])
        refine wpAnyH_ready (rs := [6]) (by kernel_rfl) (by simp) ?_
        refine AllReadyH.cons rfl (fun K hK => ?_) AllReadyH.nil
        go_simp
        go_wp2_with (go_at_call 186; refine D2.out.mono ?_; rintro e w2 ⟨rfl, g1, g2, g3, g4, HX⟩)
        have hX := Lib.hid HX
        clear HX
        refine hK.out _ _ ⟨g1, g2, g3, g4⟩ (fun hHeld => ?_)
        clear hK K
        refine zb (v := ?vc7) 7 13 rfl rfl (by kernel_rfl) (by kernel_rfl) (by kernel_rfl) (fun _ _ _ h => h) (Or.inl ⟨by rfl, ?hyc7⟩) hHeld ?restc7
        case hyc7 => ((intro w hSw; (try dsimp only at hSw); go_simp) <;> with_reducible rfl)
        case' restc7 => (simp only [Act.put, List.setIfInBounds_toArray, List.set_cons_zero, List.set_cons_succ])
        refine zb (v := ?vc8) 8 14 rfl rfl (by kernel_rfl) (by kernel_rfl) (by kernel_rfl) (fun _ _ _ h => h) (Or.inl ⟨by rfl, ?hyc8⟩) hHeld ?restc8
        case hyc8 => ((intro w hSw; (try dsimp only at hSw); go_simp) <;> with_reducible rfl)
        case' restc8 => (simp only [Act.put, List.setIfInBounds_toArray, List.set_cons_zero, List.set_cons_succ])
        refine zb (v := ?vc9) 9 15 rfl rfl (by kernel_rfl) (by kernel_rfl) (by kernel_rfl) (fun _ _ _ h => h) (Or.inl ⟨by rfl, ?hyc9⟩) hHeld ?restc9
        case hyc9 => ((intro w hSw; (try dsimp only at hSw); go_simp) <;> with_reducible rfl)
        case' restc9 => (simp only [Act.put, List.setIfInBounds_toArray, List.set_cons_zero, List.set_cons_succ])
        refine zb (v := ?vc10) 10 16 rfl rfl (by kernel_rfl) (by kernel_rfl) (by kernel_rfl) (fun _ _ _ h => h) (Or.inl ⟨by rfl, ?hyc10⟩) hHeld ?restc10
        case hyc10 => ((intro w hSw; (try dsimp only at hSw); go_simp) <;> with_reducible rfl)
        case' restc10 => (simp only [Act.put, List.setIfInBounds_toArray, List.set_cons_zero, List.set_cons_succ])
        refine zb (v := ?vc11) 11 17 rfl rfl (by kernel_rfl) (by kernel_rfl) (by kernel_rfl) (fun _ _ _ h => h) (Or.inl ⟨by rfl, ?hyc11⟩) hHeld ?restc11
        case hyc11 => ((intro w hSw; (try dsimp only at hSw); go_simp) <;> with_reducible rfl)
        case' restc11 => (simp only [Act.put, List.setIfInBounds_toArray, List.set_cons_zero, List.set_cons_succ])
        refine zb (v := ?vc12) 12 18 rfl rfl (by kernel_rfl) (by kernel_rfl) (by kernel_rfl) (fun _ _ _ h => h) (Or.inl ⟨by rfl, ?hyc12⟩) hHeld ?restc12
        case hyc12 => ((intro w hSw; (try dsimp only at hSw); go_simp) <;> with_reducible rfl)
        case' restc12 => (simp only [Act.put, List.setIfInBounds_toArray, List.set_cons_zero, List.set_cons_succ])
        refine wpAnyH_ready (rs := [13]) (by kernel_rfl) (by simp) ?_
        refine AllReadyH.cons rfl (fun K hK => ?_) AllReadyH.nil
        go_simp
        go_wp2_with (go_at_call 87; refine hX.out.mono ?_; rintro e w3 ⟨aa, cc, rfl, j1, j2, j3, j4, HY⟩)
        have hY := Lib.hid HY
        clear HY
        refine hK.out _ _ ⟨j1, j2, j3, j4⟩ (fun hHeld => ?_)
        clear hK K
        refine zb (v := ?vc14) 14 20 rfl rfl (by kernel_rfl) (by kernel_rfl) (by kernel_rfl) (fun _ _ _ h => h) (Or.inl ⟨by rfl, ?hyc14⟩) hHeld ?restc14
        case hyc14 => ((intro w hSw; (try dsimp only at hSw); go_simp) <;> with_reducible rfl)
        case' restc14 => (simp only [Act.put, List.setIfInBounds_toArray, List.set_cons_zero, List.set_cons_succ])
        refine zb (v := ?vc15) 15 21 rfl rfl (by kernel_rfl) (by kernel_rfl) (by kernel_rfl) (fun _ _ _ h => h) (Or.inl ⟨by rfl, ?hyc15⟩) hHeld ?restc15
        case hyc15 => ((intro w hSw; (try dsimp only at hSw); go_simp) <;> with_reducible rfl)
        case' restc15 => (simp only [Act.put, List.setIfInBounds_toArray, List.set_cons_zero, List.set_cons_succ])
        refine zb (v := ?vc16) 16 22 rfl rfl (by kernel_rfl) (by kernel_rfl) (by kernel_rfl) (fun _ _ _ h => h) (Or.inl ⟨by rfl, ?hyc16⟩) hHeld ?restc16
        case hyc16 => ((intro w hSw; (try dsimp only at hSw); go_simp) <;> with_reducible rfl)
        case' restc16 => (simp only [Act.put, List.setIfInBounds_toArray, List.set_cons_zero, List.set_cons_succ])
        refine zb (v := ?vc17) 17 23 rfl rfl (by kernel_rfl) (by kernel_rfl) (by kernel_rfl) (fun _ _ _ h => h) (Or.inl ⟨by rfl, ?hyc17⟩) hHeld ?restc17
        case hyc17 => ((intro w hSw; (try dsimp only at hSw); go_simp) <;> with_reducible rfl)
        case' restc17 => (simp only [Act.put, List.setIfInBounds_toArray, List.set_cons_zero, List.set_cons_succ])
        refine zb (v := ?vc18) 18 24 rfl rfl (by kernel_rfl) (by kernel_rfl) (by kernel_rfl) (fun _ _ _ h => h) (Or.inl ⟨by rfl, ?hyc18⟩) hHeld ?restc18
        case hyc18 => ((intro w hSw; (try dsimp only at hSw); go_simp) <;> with_reducible rfl)
        case' restc18 => (simp only [Act.put, List.setIfInBounds_toArray, List.set_cons_zero, List.set_cons_succ])
        refine zb (v := ?vc19) 19 25 rfl rfl (by kernel_rfl) (by kernel_rfl) (by kernel_rfl) (fun _ _ _ h => h) (Or.inl ⟨by rfl, ?hyc19⟩) hHeld ?restc19
        case hyc19 => ((intro w hSw; (try dsimp only at hSw); go_simp) <;> with_reducible rfl)
        case' restc19 => (simp only [Act.put, List.setIfInBounds_toArray, List.set_cons_zero, List.set_cons_succ])
        refine zb (v := ?vc20) 20 26 rfl rfl (by kernel_rfl) (by kernel_rfl) (by kernel_rfl) (fun _ _ _ h => h) (Or.inl ⟨by rfl, ?hyc20⟩) hHeld ?restc20
        case hyc20 => ((intro w hSw; (try dsimp only at hSw); go_simp) <;> with_reducible rfl)
        case' restc20 => (simp only [Act.put, List.setIfInBounds_toArray, List.set_cons_zero, List.set_cons_succ])
        refine zb (v := ?vc21) 21 27 rfl rfl (by kernel_rfl) (by kernel_rfl) (by kernel_rfl) (fun _ _ _ h => h) (Or.inl ⟨by rfl, ?hyc21⟩) hHeld ?restc21
        case hyc21 => ((intro w hSw; (try dsimp only at hSw); go_simp) <;> with_reducible rfl)
        case' restc21 => (simp only [Act.put, List.setIfInBounds_toArray, List.set_cons_zero, List.set_cons_succ])
        refine zb (v := ?vc22) 22 28 rfl rfl (by kernel_rfl) (by kernel_rfl) (by kernel_rfl) (fun _ _ _ h => h) (Or.inl ⟨by rfl, ?hyc22⟩) hHeld ?restc22
        case hyc22 => ((intro w hSw; (try dsimp only at hSw); go_simp) <;> with_reducible rfl)
        case' restc22 => (simp only [Act.put, List.setIfInBounds_toArray, List.set_cons_zero, List.set_cons_succ])
        refine wpAnyH_ready (rs := [23]) (by kernel_rfl) (by simp) ?_
        refine AllReadyH.cons rfl (fun K hK => ?_) AllReadyH.nil
        go_simp
        go_wp2_with (go_at_call 38; refine hY.out.1.mono ?_; rintro e w4 ⟨rfl, hw4⟩)
        have hw4 := hw4.symm
        subst hw4
        refine hK.out _ _ ⟨j1, j2, j3, j4⟩ (fun hHeld => ?_)
        clear hK K
        refine zb (v := ?vc24) 24 30 rfl rfl (by kernel_rfl) (by kernel_rfl) (by kernel_rfl) (fun _ _ _ h => h) (Or.inl ⟨by rfl, ?hyc24⟩) hHeld ?restc24
        case hyc24 => ((intro w hSw; (try dsimp only at hSw); go_simp) <;> with_reducible rfl)
        case' restc24 => (simp only [Act.put, List.setIfInBounds_toArray, List.set_cons_zero, List.set_cons_succ])
        refine zb (v := ?vc25) 25 31 rfl rfl (by kernel_rfl) (by kernel_rfl) (by kernel_rfl) (fun _ _ _ h => h) (Or.inl ⟨by rfl, ?hyc25⟩) hHeld ?restc25
        case hyc25 => ((intro w hSw; (try dsimp only at hSw); go_simp) <;> with_reducible rfl)
        case' restc25 => (simp only [Act.put, List.setIfInBounds_toArray, List.set_cons_zero, List.set_cons_succ])
        refine wpAnyH_done (by kernel_rfl) ?_ _
        go_wp2_with fail
        exact bodyPost_end (v := .tuple #[]) (by simp [results, Tryz.results142, go_sem]) rfl ⟨rfl, hY.out.2⟩
    · have D2 : Hid (Calls Tryz.prog 186 #[.pointer (some ⟨q.bp, 0, none⟩), .int .i64 f, .agg #[.int .i64 p.1, .int .i64 p.2]] w0.drew fun e w2 => e = .returned (.bool true) ∧ w2.cell? ⟨q.sp, 3, none⟩ = some (.pointer (some ⟨q.bp, 0, none⟩)) ∧ w2.cell? ⟨q.sp, 2, none⟩ = some (.pointer (some ⟨q.pp, 0, none⟩)) ∧ w2.cell? ⟨w.heap.size, 0, none⟩ = some (.int .i64 p.1) ∧ w2.cell? ⟨w.heap.size, 1, none⟩ = some (.int .i64 p.2) ∧
          (Calls Tryz.prog 87 #[.pointer (some ⟨q.bp, 0, none⟩), .int .i64 f] w2 fun e w3 => ∃ a c, e = .returned (.slice a n c) ∧ w3.cell? ⟨q.sp, 3, none⟩ = some (.pointer (some ⟨q.bp, 0, none⟩)) ∧ w3.cell? ⟨q.sp, 2, none⟩ = some (.pointer (some ⟨q.pp, 0, none⟩)) ∧ w3.cell? ⟨w.heap.size, 0, none⟩ = some (.int .i64 p.1) ∧ w3.cell? ⟨w.heap.size, 1, none⟩ = some (.int .i64 p.2) ∧ (∃ tag', zg w3 tag' q (x.letS f p) ∧ Step (fun c => c = 2 ∨ c = 4) tag w tag' w3))) := by
        refine D.out.mono ?_
        rintro e w2 ⟨rfl, h1, h2⟩
        have s2 := h2.mono (C' := fun c => c = 2 ∨ c = 4) fun c hc => .inr hc
        obtain ⟨k1, k2, k3, k4⟩ := HK.out _ _ _ s2 (by omega) (by omega)
        refine ⟨rfl, k1, k2, k3, k4, (OFC.out _ _ h1 s2).mono ?_⟩
        rintro e w3 ⟨a, c, rfl, h3, s3⟩
        obtain ⟨k1, k2, k3, k4⟩ := HK.out _ _ _ s3 (by omega) (by omega)
        refine ⟨a, c, rfl, k1, k2, k3, k4, ?_⟩
        exact fin.out _ _ x.P h3 s3 (by rw [if_neg fun e => he e.2.1])
      have hn1 : n ≠ 0 := fun e => he (List.length_eq_zero_iff.1 (hn ▸ e))
      have hn0 : ((n : Int) == 0) = false := beq_eq_false_iff_ne.2 (by omega)
      have HW := Lib.hid hw0
      clear h hb0 hbW nb s0 hS ht0 D hlen HK fin hw0 hx he hn hnl OFC hn1
      go_enter Tryz.func142, Tryz.ntmps142
      go_wp2_with fail
      rw [← HW.out]
      refine wp_region_held_drew (S := (fun X => X.cell? ⟨q.sp, 3, none⟩ = some (.pointer (some ⟨q.bp, 0, none⟩)) ∧ X.cell? ⟨q.sp, 2, none⟩ = some (.pointer (some ⟨q.pp, 0, none⟩)) ∧ X.cell? ⟨w.heap.size, 0, none⟩ = some (.int .i64 p.1) ∧ X.cell? ⟨w.heap.size, 1, none⟩ = some (.int .i64 p.2))) (by kernel_rfl) ⟨q3, q2, d0, d1⟩ (fun hHeld => ?_)
      refine zb (v := ?vb0) 0 6 rfl rfl (by kernel_rfl) (by kernel_rfl) (by kernel_rfl) (fun _ _ _ h => h) (Or.inl ⟨by rfl, ?hyb0⟩) hHeld ?restb0
      case hyb0 => ((intro w hSw; (try dsimp only at hSw); go_simp) <;> with_reducible rfl)
      case' restb0 => (simp only [Act.put, List.setIfInBounds_toArray, List.set_cons_zero, List.set_cons_succ])
      refine zb (v := ?vb1) 1 7 rfl rfl (by kernel_rfl) (by kernel_rfl) (by kernel_rfl) (fun _ _ _ h => h) (Or.inl ⟨by rfl, ?hyb1⟩) hHeld ?restb1
      case hyb1 => ((intro w hSw; (try dsimp only at hSw); go_simp) <;> with_reducible rfl)
      case' restb1 => (simp only [Act.put, List.setIfInBounds_toArray, List.set_cons_zero, List.set_cons_succ])
      refine zb (v := ?vb2) 2 8 rfl rfl (by kernel_rfl) (by kernel_rfl) (by kernel_rfl) (fun _ _ _ h => h) (Or.inl ⟨by rfl, ?hyb2⟩) hHeld ?restb2
      case hyb2 => ((intro w hSw; (try dsimp only at hSw); go_simp) <;> with_reducible rfl)
      case' restb2 => (simp only [Act.put, List.setIfInBounds_toArray, List.set_cons_zero, List.set_cons_succ])
      refine zb (v := ?vb3) 3 9 rfl rfl (by kernel_rfl) (by kernel_rfl) (by kernel_rfl) (fun _ _ _ h => h) (Or.inl ⟨by rfl, ?hyb3⟩) hHeld ?restb3
      case hyb3 => ((intro w hSw; (try dsimp only at hSw); go_simp) <;> with_reducible rfl)
      case' restb3 => (simp only [Act.put, List.setIfInBounds_toArray, List.set_cons_zero, List.set_cons_succ])
      refine zb (v := ?vb4) 4 10 rfl rfl (by kernel_rfl) (by kernel_rfl) (by kernel_rfl) (fun _ _ _ h => h) (Or.inl ⟨by rfl, ?hyb4⟩) hHeld ?restb4
      case hyb4 => ((intro w hSw; (try dsimp only at hSw); go_simp) <;> with_reducible rfl)
      case' restb4 => (simp only [Act.put, List.setIfInBounds_toArray, List.set_cons_zero, List.set_cons_succ])
      refine zb (v := ?vb5) 5 11 rfl rfl (by kernel_rfl) (by kernel_rfl) (by kernel_rfl) (fun _ _ _ h => h) (Or.inl ⟨by rfl, ?hyb5⟩) hHeld ?restb5
      case hyb5 => ((intro w hSw; (try dsimp only at hSw); go_simp) <;> with_reducible rfl)
      case' restb5 => (simp only [Act.put, List.setIfInBounds_toArray, List.set_cons_zero, List.set_cons_succ])
      refine wpAnyH_ready (rs := [6]) (by kernel_rfl) (by simp) ?_
      refine AllReadyH.cons rfl (fun K hK => ?_) AllReadyH.nil
      go_simp
      go_wp2_with (go_at_call 186; refine D2.out.mono ?_; rintro e w2 ⟨rfl, g1, g2, g3, g4, HX⟩)
      have hX := Lib.hid HX
      clear HX
      refine hK.out _ _ ⟨g1, g2, g3, g4⟩ (fun hHeld => ?_)
      clear hK K
      refine zb (v := ?vb7) 7 13 rfl rfl (by kernel_rfl) (by kernel_rfl) (by kernel_rfl) (fun _ _ _ h => h) (Or.inl ⟨by rfl, ?hyb7⟩) hHeld ?restb7
      case hyb7 => ((intro w hSw; (try dsimp only at hSw); go_simp) <;> with_reducible rfl)
      case' restb7 => (simp only [Act.put, List.setIfInBounds_toArray, List.set_cons_zero, List.set_cons_succ])
      refine zb (v := ?vb8) 8 14 rfl rfl (by kernel_rfl) (by kernel_rfl) (by kernel_rfl) (fun _ _ _ h => h) (Or.inl ⟨by rfl, ?hyb8⟩) hHeld ?restb8
      case hyb8 => ((intro w hSw; (try dsimp only at hSw); go_simp) <;> with_reducible rfl)
      case' restb8 => (simp only [Act.put, List.setIfInBounds_toArray, List.set_cons_zero, List.set_cons_succ])
      refine zb (v := ?vb9) 9 15 rfl rfl (by kernel_rfl) (by kernel_rfl) (by kernel_rfl) (fun _ _ _ h => h) (Or.inl ⟨by rfl, ?hyb9⟩) hHeld ?restb9
      case hyb9 => ((intro w hSw; (try dsimp only at hSw); go_simp) <;> with_reducible rfl)
      case' restb9 => (simp only [Act.put, List.setIfInBounds_toArray, List.set_cons_zero, List.set_cons_succ])
      refine zb (v := ?vb10) 10 16 rfl rfl (by kernel_rfl) (by kernel_rfl) (by kernel_rfl) (fun _ _ _ h => h) (Or.inl ⟨by rfl, ?hyb10⟩) hHeld ?restb10
      case hyb10 => ((intro w hSw; (try dsimp only at hSw); go_simp) <;> with_reducible rfl)
      case' restb10 => (simp only [Act.put, List.setIfInBounds_toArray, List.set_cons_zero, List.set_cons_succ])
      refine zb (v := ?vb11) 11 17 rfl rfl (by kernel_rfl) (by kernel_rfl) (by kernel_rfl) (fun _ _ _ h => h) (Or.inl ⟨by rfl, ?hyb11⟩) hHeld ?restb11
      case hyb11 => ((intro w hSw; (try dsimp only at hSw); go_simp) <;> with_reducible rfl)
      case' restb11 => (simp only [Act.put, List.setIfInBounds_toArray, List.set_cons_zero, List.set_cons_succ])
      refine zb (v := ?vb12) 12 18 rfl rfl (by kernel_rfl) (by kernel_rfl) (by kernel_rfl) (fun _ _ _ h => h) (Or.inl ⟨by rfl, ?hyb12⟩) hHeld ?restb12
      case hyb12 => ((intro w hSw; (try dsimp only at hSw); go_simp) <;> with_reducible rfl)
      case' restb12 => (simp only [Act.put, List.setIfInBounds_toArray, List.set_cons_zero, List.set_cons_succ])
      refine wpAnyH_ready (rs := [13]) (by kernel_rfl) (by simp) ?_
      refine AllReadyH.cons rfl (fun K hK => ?_) AllReadyH.nil
      go_simp
      go_wp2_with (go_at_call 87; refine hX.out.mono ?_; rintro e w3 ⟨aa, cc, rfl, j1, j2, j3, j4, HY⟩)
      have hY := Lib.hid HY
      clear HY
      refine hK.out _ _ ⟨j1, j2, j3, j4⟩ (fun hHeld => ?_)
      clear hK K
      refine zb (v := ?vb14) 14 20 rfl rfl (by kernel_rfl) (by kernel_rfl) (by kernel_rfl) (fun _ _ _ h => h) (Or.inl ⟨by rfl, ?hyb14⟩) hHeld ?restb14
      case hyb14 => ((intro w hSw; (try dsimp only at hSw); go_simp) <;> with_reducible rfl)
      case' restb14 => (simp only [Act.put, List.setIfInBounds_toArray, List.set_cons_zero, List.set_cons_succ])
      refine zb (v := ?vb15) 15 21 rfl rfl (by kernel_rfl) (by kernel_rfl) (by kernel_rfl) (fun _ _ _ h => h) (Or.inl ⟨by rfl, ?hyb15⟩) hHeld ?restb15
      case hyb15 => ((intro w hSw; (try dsimp only at hSw); go_simp) <;> with_reducible rfl)
      case' restb15 => (simp only [Act.put, List.setIfInBounds_toArray, List.set_cons_zero, List.set_cons_succ])
      refine zb (v := ?vb16) 16 22 rfl rfl (by kernel_rfl) (by kernel_rfl) (by kernel_rfl) (fun _ _ _ h => h) (Or.inl ⟨by rfl, ?hyb16⟩) hHeld ?restb16
      case hyb16 => ((intro w hSw; (try dsimp only at hSw); go_simp) <;> with_reducible rfl)
      case' restb16 => (simp only [Act.put, List.setIfInBounds_toArray, List.set_cons_zero, List.set_cons_succ])
      refine zb (v := ?vb17) 17 23 rfl rfl (by kernel_rfl) (by kernel_rfl) (by kernel_rfl) (fun _ _ _ h => h) (Or.inl ⟨by rfl, ?hyb17⟩) hHeld ?restb17
      case hyb17 => ((intro w hSw; (try dsimp only at hSw); go_simp) <;> with_reducible rfl)
      case' restb17 => (simp only [Act.put, List.setIfInBounds_toArray, List.set_cons_zero, List.set_cons_succ])
      refine zn 18 24 rfl rfl (by kernel_rfl) (by kernel_rfl) (by kernel_rfl) (fun _ _ _ h => h) (by rfl) hHeld ?_
      simp only [Act.put, List.setIfInBounds_toArray, List.set_cons_zero, List.set_cons_succ]
      refine zn 19 25 rfl rfl (by kernel_rfl) (by kernel_rfl) (by kernel_rfl) (fun _ _ _ h => h) (by rfl) hHeld ?_
      simp only [Act.put, List.setIfInBounds_toArray, List.set_cons_zero, List.set_cons_succ]
      refine zn 20 26 rfl rfl (by kernel_rfl) (by kernel_rfl) (by kernel_rfl) (fun _ _ _ h => h) (by rfl) hHeld ?_
      simp only [Act.put, List.setIfInBounds_toArray, List.set_cons_zero, List.set_cons_succ]
      refine zn 21 27 rfl rfl (by kernel_rfl) (by kernel_rfl) (by kernel_rfl) (fun _ _ _ h => h) (by rfl) hHeld ?_
      simp only [Act.put, List.setIfInBounds_toArray, List.set_cons_zero, List.set_cons_succ]
      refine zn 22 28 rfl rfl (by kernel_rfl) (by kernel_rfl) (by kernel_rfl) (fun _ _ _ h => h) (by rfl) hHeld ?_
      simp only [Act.put, List.setIfInBounds_toArray, List.set_cons_zero, List.set_cons_succ]
      refine zn 23 29 rfl rfl (by kernel_rfl) (by kernel_rfl) (by kernel_rfl) (fun _ _ _ h => h) (by rfl) hHeld ?_
      simp only [Act.put, List.setIfInBounds_toArray, List.set_cons_zero, List.set_cons_succ]
      refine zn 24 30 rfl rfl (by kernel_rfl) (by kernel_rfl) (by kernel_rfl) (fun _ _ _ h => h) (by rfl) hHeld ?_
      simp only [Act.put, List.setIfInBounds_toArray, List.set_cons_zero, List.set_cons_succ]
      refine zb (v := ?vb25) 25 31 rfl rfl (by kernel_rfl) (by kernel_rfl) (by kernel_rfl) (fun _ _ _ h => h) (Or.inl ⟨by rfl, ?hyb25⟩) hHeld ?restb25
      case hyb25 => ((intro w hSw; (try dsimp only at hSw); go_simp) <;> with_reducible rfl)
      case' restb25 => (simp only [Act.put, List.setIfInBounds_toArray, List.set_cons_zero, List.set_cons_succ])
      refine wpAnyH_done (by kernel_rfl) ?_ _
      go_wp2_with fail
      exact bodyPost_end (v := .tuple #[]) (by simp [results, Tryz.results142, go_sem]) rfl ⟨rfl, hY.out⟩
  · rw [decide_eq_false hx] at D
    have D2 : Hid (Calls Tryz.prog 186 #[.pointer (some ⟨q.bp, 0, none⟩), .int .i64 f, .agg #[.int .i64 p.1, .int .i64 p.2]] w0.drew fun e w2 => e = .returned (.bool false) ∧ w2.cell? ⟨q.sp, 3, none⟩ = some (.pointer (some ⟨q.bp, 0, none⟩)) ∧ w2.cell? ⟨q.sp, 2, none⟩ = some (.pointer (some ⟨q.pp, 0, none⟩)) ∧ w2.cell? ⟨w.heap.size, 0, none⟩ = some (.int .i64 p.1) ∧ w2.cell? ⟨w.heap.size, 1, none⟩ = some (.int .i64 p.2) ∧ (∃ tag', zg w2 tag' q (x.letS f p) ∧ Step (fun c => c = 2 ∨ c = 4) tag w tag' w2)) := by
      refine D.out.mono ?_
      rintro e w2 ⟨rfl, h1, h2⟩
      have s2 := h2.mono (C' := fun c => c = 2 ∨ c = 4) fun c hc => .inr hc
      obtain ⟨k1, k2, k3, k4⟩ := HK.out _ _ _ s2 (by omega) (by omega)
      exact ⟨rfl, k1, k2, k3, k4, fin.out _ _ x.P h1 s2 (by rw [if_neg fun e => hx e.1])⟩
    have HW := Lib.hid hw0
    clear h hb0 hbW nb s0 hS ht0 D hlen HK fin hw0 hx
    go_enter Tryz.func142, Tryz.ntmps142
    go_wp2_with fail
    rw [← HW.out]
    refine wp_region_held_drew (S := (fun X => X.cell? ⟨q.sp, 3, none⟩ = some (.pointer (some ⟨q.bp, 0, none⟩)) ∧ X.cell? ⟨q.sp, 2, none⟩ = some (.pointer (some ⟨q.pp, 0, none⟩)) ∧ X.cell? ⟨w.heap.size, 0, none⟩ = some (.int .i64 p.1) ∧ X.cell? ⟨w.heap.size, 1, none⟩ = some (.int .i64 p.2))) (by kernel_rfl) ⟨q3, q2, d0, d1⟩ (fun hHeld => ?_)
    refine zb (v := ?va0) 0 6 rfl rfl (by kernel_rfl) (by kernel_rfl) (by kernel_rfl) (fun _ _ _ h => h) (Or.inl ⟨by rfl, ?hya0⟩) hHeld ?resta0
    case hya0 => ((intro w hSw; (try dsimp only at hSw); go_simp) <;> with_reducible rfl)
    case' resta0 => (simp only [Act.put, List.setIfInBounds_toArray, List.set_cons_zero, List.set_cons_succ])
    refine zb (v := ?va1) 1 7 rfl rfl (by kernel_rfl) (by kernel_rfl) (by kernel_rfl) (fun _ _ _ h => h) (Or.inl ⟨by rfl, ?hya1⟩) hHeld ?resta1
    case hya1 => ((intro w hSw; (try dsimp only at hSw); go_simp) <;> with_reducible rfl)
    case' resta1 => (simp only [Act.put, List.setIfInBounds_toArray, List.set_cons_zero, List.set_cons_succ])
    refine zb (v := ?va2) 2 8 rfl rfl (by kernel_rfl) (by kernel_rfl) (by kernel_rfl) (fun _ _ _ h => h) (Or.inl ⟨by rfl, ?hya2⟩) hHeld ?resta2
    case hya2 => ((intro w hSw; (try dsimp only at hSw); go_simp) <;> with_reducible rfl)
    case' resta2 => (simp only [Act.put, List.setIfInBounds_toArray, List.set_cons_zero, List.set_cons_succ])
    refine zb (v := ?va3) 3 9 rfl rfl (by kernel_rfl) (by kernel_rfl) (by kernel_rfl) (fun _ _ _ h => h) (Or.inl ⟨by rfl, ?hya3⟩) hHeld ?resta3
    case hya3 => ((intro w hSw; (try dsimp only at hSw); go_simp) <;> with_reducible rfl)
    case' resta3 => (simp only [Act.put, List.setIfInBounds_toArray, List.set_cons_zero, List.set_cons_succ])
    refine zb (v := ?va4) 4 10 rfl rfl (by kernel_rfl) (by kernel_rfl) (by kernel_rfl) (fun _ _ _ h => h) (Or.inl ⟨by rfl, ?hya4⟩) hHeld ?resta4
    case hya4 => ((intro w hSw; (try dsimp only at hSw); go_simp) <;> with_reducible rfl)
    case' resta4 => (simp only [Act.put, List.setIfInBounds_toArray, List.set_cons_zero, List.set_cons_succ])
    refine zb (v := ?va5) 5 11 rfl rfl (by kernel_rfl) (by kernel_rfl) (by kernel_rfl) (fun _ _ _ h => h) (Or.inl ⟨by rfl, ?hya5⟩) hHeld ?resta5
    case hya5 => ((intro w hSw; (try dsimp only at hSw); go_simp) <;> with_reducible rfl)
    case' resta5 => (simp only [Act.put, List.setIfInBounds_toArray, List.set_cons_zero, List.set_cons_succ])
    refine wpAnyH_ready (rs := [6]) (by kernel_rfl) (by simp) ?_
    refine AllReadyH.cons rfl (fun K hK => ?_) AllReadyH.nil
    go_simp
    go_wp2_with (go_at_call 186; refine D2.out.mono ?_; rintro e w2 ⟨rfl, g1, g2, g3, g4, HX⟩)
    have hX := Lib.hid HX
    clear HX
    refine hK.out _ _ ⟨g1, g2, g3, g4⟩ (fun hHeld => ?_)
    clear hK K
    refine zb (v := ?va7) 7 13 rfl rfl (by kernel_rfl) (by kernel_rfl) (by kernel_rfl) (fun _ _ _ h => h) (Or.inl ⟨by rfl, ?hya7⟩) hHeld ?resta7
    case hya7 => ((intro w hSw; (try dsimp only at hSw); go_simp) <;> with_reducible rfl)
    case' resta7 => (simp only [Act.put, List.setIfInBounds_toArray, List.set_cons_zero, List.set_cons_succ])
    refine zn 8 14 rfl rfl (by kernel_rfl) (by kernel_rfl) (by kernel_rfl) (fun _ _ _ h => h) (by rfl) hHeld ?_
    simp only [Act.put, List.setIfInBounds_toArray, List.set_cons_zero, List.set_cons_succ]
    refine zn 9 15 rfl rfl (by kernel_rfl) (by kernel_rfl) (by kernel_rfl) (fun _ _ _ h => h) (by rfl) hHeld ?_
    simp only [Act.put, List.setIfInBounds_toArray, List.set_cons_zero, List.set_cons_succ]
    refine zn 10 16 rfl rfl (by kernel_rfl) (by kernel_rfl) (by kernel_rfl) (fun _ _ _ h => h) (by rfl) hHeld ?_
    simp only [Act.put, List.setIfInBounds_toArray, List.set_cons_zero, List.set_cons_succ]
    refine zn 11 17 rfl rfl (by kernel_rfl) (by kernel_rfl) (by kernel_rfl) (fun _ _ _ h => h) (by rfl) hHeld ?_
    simp only [Act.put, List.setIfInBounds_toArray, List.set_cons_zero, List.set_cons_succ]
    refine zn 12 18 rfl rfl (by kernel_rfl) (by kernel_rfl) (by kernel_rfl) (fun _ _ _ h => h) (by rfl) hHeld ?_
    simp only [Act.put, List.setIfInBounds_toArray, List.set_cons_zero, List.set_cons_succ]
    refine zn 13 19 rfl rfl (by kernel_rfl) (by kernel_rfl) (by kernel_rfl) (fun _ _ _ h => h) (by rfl) hHeld ?_
    simp only [Act.put, List.setIfInBounds_toArray, List.set_cons_zero, List.set_cons_succ]
    refine zn 14 20 rfl rfl (by kernel_rfl) (by kernel_rfl) (by kernel_rfl) (fun _ _ _ h => h) (by rfl) hHeld ?_
    simp only [Act.put, List.setIfInBounds_toArray, List.set_cons_zero, List.set_cons_succ]
    refine zn 15 21 rfl rfl (by kernel_rfl) (by kernel_rfl) (by kernel_rfl) (fun _ _ _ h => h) (by rfl) hHeld ?_
    simp only [Act.put, List.setIfInBounds_toArray, List.set_cons_zero, List.set_cons_succ]
    refine zb (v := ?va16) 16 22 rfl rfl (by kernel_rfl) (by kernel_rfl) (by kernel_rfl) (fun _ _ _ h => h) (Or.inl ⟨by rfl, ?hya16⟩) hHeld ?resta16
    case hya16 => ((intro w hSw; (try dsimp only at hSw); go_simp) <;> with_reducible rfl)
    case' resta16 => (simp only [Act.put, List.setIfInBounds_toArray, List.set_cons_zero, List.set_cons_succ])
    refine zb (v := ?va17) 17 23 rfl rfl (by kernel_rfl) (by kernel_rfl) (by kernel_rfl) (fun _ _ _ h => h) (Or.inl ⟨by rfl, ?hya17⟩) hHeld ?resta17
    case hya17 => ((intro w hSw; (try dsimp only at hSw); go_simp) <;> with_reducible rfl)
    case' resta17 => (simp only [Act.put, List.setIfInBounds_toArray, List.set_cons_zero, List.set_cons_succ])
    refine zn 18 24 rfl rfl (by kernel_rfl) (by kernel_rfl) (by kernel_rfl) (fun _ _ _ h => h) (by rfl) hHeld ?_
    simp only [Act.put, List.setIfInBounds_toArray, List.set_cons_zero, List.set_cons_succ]
    refine zn 19 25 rfl rfl (by kernel_rfl) (by kernel_rfl) (by kernel_rfl) (fun _ _ _ h => h) (by rfl) hHeld ?_
    simp only [Act.put, List.setIfInBounds_toArray, List.set_cons_zero, List.set_cons_succ]
    refine zn 20 26 rfl rfl (by kernel_rfl) (by kernel_rfl) (by kernel_rfl) (fun _ _ _ h => h) (by rfl) hHeld ?_
    simp only [Act.put, List.setIfInBounds_toArray, List.set_cons_zero, List.set_cons_succ]
    refine zn 21 27 rfl rfl (by kernel_rfl) (by kernel_rfl) (by kernel_rfl) (fun _ _ _ h => h) (by rfl) hHeld ?_
    simp only [Act.put, List.setIfInBounds_toArray, List.set_cons_zero, List.set_cons_succ]
    refine zn 22 28 rfl rfl (by kernel_rfl) (by kernel_rfl) (by kernel_rfl) (fun _ _ _ h => h) (by rfl) hHeld ?_
    simp only [Act.put, List.setIfInBounds_toArray, List.set_cons_zero, List.set_cons_succ]
    refine zn 23 29 rfl rfl (by kernel_rfl) (by kernel_rfl) (by kernel_rfl) (fun _ _ _ h => h) (by rfl) hHeld ?_
    simp only [Act.put, List.setIfInBounds_toArray, List.set_cons_zero, List.set_cons_succ]
    refine zn 24 30 rfl rfl (by kernel_rfl) (by kernel_rfl) (by kernel_rfl) (fun _ _ _ h => h) (by rfl) hHeld ?_
    simp only [Act.put, List.setIfInBounds_toArray, List.set_cons_zero, List.set_cons_succ]
    refine zb (v := ?va25) 25 31 rfl rfl (by kernel_rfl) (by kernel_rfl) (by kernel_rfl) (fun _ _ _ h => h) (Or.inl ⟨by rfl, ?hya25⟩) hHeld ?resta25
    case hya25 => ((intro w hSw; (try dsimp only at hSw); go_simp) <;> with_reducible rfl)
    case' resta25 => (simp only [Act.put, List.setIfInBounds_toArray, List.set_cons_zero, List.set_cons_succ])
    refine wpAnyH_done (by kernel_rfl) ?_ _
    go_wp2_with fail
    exact bodyPost_end (v := .tuple #[]) (by simp [results, Tryz.results142, go_sem]) rfl ⟨rfl, hX.out⟩
end
end Go.Proofs.YtnhdmnijiphjjaaGreat
/- Processes: Put, its first half: what lies where meanwhile. -/
namespace Go.Proofs.YtnhdmnijiphjjaaGreat
open Go Go.RowKit
def za.put1 (x : za) (e : Ent) (p : Int × Int) : za := if e.kind = 1 then { x with B := updF x.B e.n (putP (x.B e.n) p) } else x
def za.put2 (x : za) (e : Ent) (p : Int × Int) : za := if e.kind = 2 then { x with S := x.S.set e.n.toNat (putP (x.S.getD e.n.toNat []) p) } else x
def za.put3 (x : za) (e old : Ent) (p : Int × Int) : za := if old.kind = 1 ∧ (e.kind ≠ 1 ∨ e.n ≠ old.n) then x.letS old.n p else x
def za.put4 (x : za) (e old : Ent) (p : Int × Int) : za := if old.kind = 2 ∧ (e.kind ≠ 2 ∨ e.n ≠ old.n) then { x with S := x.S.set old.n.toNat ((x.S.getD old.n.toNat []).erase p) } else x
structure jy (W : World) (tag : Nat → Nat) (q : Sq) (x : za) (b4 b5 b9 : Nat) (p : Int × Int) (e old : Ent) : Prop where
 sp : zg W tag q x
 t4 : tag b4 = 0
 t5 : tag b5 = 0
 t9 : tag b9 = 0
 c40 : W.cell? ⟨b4, 0, none⟩ = some (.int .i64 p.1)
 c41 : W.cell? ⟨b4, 1, none⟩ = some (.int .i64 p.2)
 c50 : W.cell? ⟨b5, 0, none⟩ = some (.int .i64 e.kind)
 c51 : W.cell? ⟨b5, 1, none⟩ = some (.int .i64 e.n)
 c52 : W.cell? ⟨b5, 2, none⟩ = some (.bool e.write)
 c90 : W.cell? ⟨b9, 0, none⟩ = some (.int .i64 old.kind)
 c91 : W.cell? ⟨b9, 1, none⟩ = some (.int .i64 old.n)
 c92 : W.cell? ⟨b9, 2, none⟩ = some (.bool old.write)
theorem eqlEnt (a b : Ent) (w : World) : (Op.equalIn 10000 70 (.agg #[.int .i64 a.kind, .int .i64 a.n, .bool a.write]) (.agg #[.int .i64 b.kind, .int .i64 b.n, .bool b.write])).run Tryz.prog w = .ok (decide (a = b)) w := by
 have u3 := Tryz.underlying3
 have a3 := Tryz.isAgg3
 have z3 := Tryz.sizeOf3
 have u4 := Tryz.underlying4
 have a4 := Tryz.isAgg4
 have z4 := Tryz.sizeOf4
 have hS : Tryz.prog.underlying 70 = some (.struct (Tryz.prog.fieldsOf 70)) := by kernel_rfl
 have hp : Tryz.prog.stoodInHeld 70 = false := by kernel_rfl
 show (Op.equalIn (9999 + 1) 70 _ _).run Tryz.prog w = _
 rw [run_equalIn_struct w 9999 70 _ _ hS hp]
 simp only [Program.fieldsOf, Tryz.underlying70]
 go_simp
 obtain ⟨k1, n1, b1⟩ := a
 obtain ⟨k2, n2, b2⟩ := b
 by_cases h1 : k1 = k2 <;> by_cases h2 : n1 = n2 <;> by_cases h3 : b1 = b2 <;> simp [h1, h2, h3] <;> omega
section
variable {C : Nat → Prop} {W W' : World} {tag tag' : Nat → Nat} {q : Sq} {x x' : za} {b4 b5 b9 : Nat} {p : Int × Int} {e old : Ent}
theorem jy.step (h : jy W tag q x b4 b5 b9 p e old) (s : Step C tag W tag' W') (hc : ¬ C 0) (hx : zg W' tag' q x') : jy W' tag' q x' b4 b5 b9 p e old := by
 have k4 := s.keeps hc b4 (World.block_lt_of_cell? W _ h.c40) h.t4
 have k5 := s.keeps hc b5 (World.block_lt_of_cell? W _ h.c50) h.t5
 have k9 := s.keeps hc b9 (World.block_lt_of_cell? W _ h.c90) h.t9
 exact ⟨hx, k4.1, k5.1, k9.1, (World.cell?_of_block (w := W) k4.2).trans h.c40, (World.cell?_of_block (w := W) k4.2).trans h.c41, (World.cell?_of_block (w := W) k5.2).trans h.c50, (World.cell?_of_block (w := W) k5.2).trans h.c51, (World.cell?_of_block (w := W) k5.2).trans h.c52, (World.cell?_of_block (w := W) k9.2).trans h.c90, (World.cell?_of_block (w := W) k9.2).trans h.c91, (World.cell?_of_block (w := W) k9.2).trans h.c92⟩
theorem jy.drew (h : jy W tag q x b4 b5 b9 p e old) : jy W.drew tag q x b4 b5 b9 p e old :=
 h.step (C := fun _ => False) (Step.of_below (Below.refl _ _).drew) id (h.sp.below (Below.refl _ _).drew)
theorem jy.start {w0 W3 : World} {tag0 : Nat → Nat} (h0 : zg w0 tag0 q x) (nb4 : w0.heap[b4]? = some (.cells #[.int .i64 p.1, .int .i64 p.2] 58 (0, 0))) (nb5 : w0.heap[b5]? = some (.cells #[.int .i64 e.kind, .int .i64 e.n, .bool e.write] 70 (0, 0)))
  (t4 : tag0 b4 = 0) (t5 : tag0 b5 = 0) (hb : Below w0.heap.size w0 W3) (hb9 : w0.heap.size ≤ b9) (c90 : W3.cell? ⟨b9, 0, none⟩ = some (.int .i64 old.kind)) (c91 : W3.cell? ⟨b9, 1, none⟩ = some (.int .i64 old.n)) (c92 : W3.cell? ⟨b9, 2, none⟩ = some (.bool old.write)) :
  jy W3 (retag tag0 w0 0) q x b4 b5 b9 p e old ∧ Step (fun _ => False) tag0 w0 (retag tag0 w0 0) W3 := by
 have s : Step (fun _ => False) tag0 w0 (retag tag0 w0 0) W3 := Step.renew 0 hb
 have l4 := (Array.getElem?_eq_some_iff.1 nb4).1
 have l5 := (Array.getElem?_eq_some_iff.1 nb5).1
 have n4 := (hb.block b4 l4).trans nb4
 have n5 := (hb.block b5 l5).trans nb5
 refine ⟨⟨h0.step s, (s.same b4 l4).trans t4, (s.same b5 l5).trans t5, zx _ _ _ _ hb9, ?_, ?_, ?_, ?_, ?_, c90, c91, c92⟩, s⟩
 ·rw [cell_of_row _ _ 0 _ _ _ n4]; rfl
 ·rw [cell_of_row _ _ 1 _ _ _ n4]; rfl
 ·rw [cell_of_row _ _ 0 _ _ _ n5]; rfl
 ·rw [cell_of_row _ _ 1 _ _ _ n5]; rfl
 ·rw [cell_of_row _ _ 2 _ _ _ n5]; rfl
end
end Go.Proofs.YtnhdmnijiphjjaaGreat
/- Equality of two entries, as an operation. -/
namespace Go.Proofs.YtnhdmnijiphjjaaGreat
open Go Go.RowKit
theorem Xx {op : Oper} {a : Act} {w : World} {K : Act → World → Prop} {Q : Exit → Act → World → Prop} (x y : Operand) (t : TypeId) (ho : op.op = .binOp .eql 70 x y t) (b c : Ent)
  (hx : a.eval x = .agg #[.int .i64 b.kind, .int .i64 b.n, .bool b.write]) (hy : a.eval y = .agg #[.int .i64 c.kind, .int .i64 c.n, .bool c.write]) (r : Bool) (hr : Hid (decide (b = c) = r)) (h : K (a.put op.dst (.bool r)) w) : op.wp Tryz.prog a w K Q := by
 have g : Tryz.prog.eqGuardType Tryz.prog.depth 70 = false := by kernel_rfl
 have eg : ∀ A B, (eqGuard .eql 70 x y (.agg A) (.agg B)).run Tryz.prog w = .ok () w := fun A B => by simp [eqGuard, g]
 have e : (Op.equal 70 (.agg #[.int .i64 b.kind, .int .i64 b.n, .bool b.write]) (.agg #[.int .i64 c.kind, .int .i64 c.n, .bool c.write])).run Tryz.prog w = .ok (decide (b = c)) w := eqlEnt b c w
 unfold Oper.wp execOp
 simp only [ho, hx, hy]
 unfold binOp
 simp only [Sem.run_bind, eg, Result.andThen_ok, e, Sem.run_pure]
 rw [hr.out]
 exact h
end Go.Proofs.YtnhdmnijiphjjaaGreat
