/- Areas: Add. -/
import Derived.Test.YtcghenehcpogpaaAreaCalls
import Derived.Deep.RegionHeldLaw
namespace Go.Proofs.Ytcghenehcpogpaa
open Go Go.RowKit

/-- Does an area meet one of a list? -/
def anyA (a : Ar) (l : List Ar) : Bool := l.any fun x => meetsW a x
theorem AnyA_walk (w : World) (v : Value) (l : List Ar) (h : ArRd w v l) (B : Nat) (a : Ar) (hB : B < w.heap.size) (h0 : w.cell? ⟨B, 0, none⟩ = some (.int .i64 a.from_)) (h1 : w.cell? ⟨B, 1, none⟩ = some (.int .i64 a.pages)) :
    Calls Try.prog 21 #[v, .func (.func 20) #[] #[.pointer (some ⟨B, 0, none⟩)]] w fun e w' => e = .returned (.bool (anyA a l)) ∧ Below w.heap.size w w' := ContainsA_walk w v l h B a hB h0 h1

/-- What Add answers. -/
structure AddPost (w' : World) (l : List Ar) (a : Ar) (v' : Value) (x : Int) : Prop where
  arg : ¬ a.Sound → x = 1 ∧ v' = .slice none 0 0
  there : a.Sound → anyA a l = true → x = 3 ∧ v' = .slice none 0 0
  full : a.Sound → anyA a l = false → 16 ≤ l.length → x = 4 ∧ v' = .slice none 0 0
  done : a.Sound → anyA a l = false → l.length < 16 → x = 0 ∧ ∃ l', ArAt w' v' l' ∧ l'.Perm (l ++ [a]) ∧ l'.Pairwise (fun x y => ¬ y.from_ < x.from_)

set_option maxRecDepth 100000 in
set_option maxHeartbeats 2000000 in
theorem Add_walk (w : World) (v : Value) (l : List Ar) (h : ArRd w v l) (a : Ar) (hwf : a.Wf) (hlen : l.length ≤ 100) :
    Calls Try.prog 12 #[v, a.enc] w fun e w' => ∃ v' x, e = .returned (.tuple #[v', .int .i64 x]) ∧ Below w.heap.size w w' ∧ (∀ b, v'.ownBlock = some b → w.heap.size ≤ b) ∧ AddPost w' l a v' x := by
  have hsw := Lib.hid (fun W => Sound_walk W a hwf)
  obtain ⟨av, cv, rfl, _, _⟩ := ArRd.fm h
  have H := Lib.hid h
  clear h hwf
  obtain ⟨s, hs⟩ : ∃ s, s = decide a.Sound := ⟨_, rfl⟩
  have HS := Lib.hid hs
  obtain ⟨m, hm⟩ : ∃ m, m = anyA a l := ⟨_, rfl⟩
  have HM := Lib.hid hm
  rw [← hs] at hsw
  have hcf := Lib.hid (fun W B k1 k2 k3 k4 => AnyA_walk W (.slice av l.length cv) l k1 B a k2 k3 k4)
  rw [← hm] at hcf
  clear hs hm
  have hSA := Lib.hid (ArAt.oneAt w w.heap.size rfl a rfl)
  have hal : Hid (ar [a] = a.cells) := by show _ = _; simp [ar]
  obtain ⟨f, p, wt, k, fi, o⟩ := a
  unfold Ar.enc at hsw ⊢
  simp only at hsw hcf ⊢
  cases s
  · have hns : Hid (¬ Ar.Sound ⟨f, p, wt, k, fi, o⟩) := by have := HS.out; show ¬ _; intro hh; rw [decide_eq_true hh] at this; cases this
    go_enter Try.func12, Try.ntmps12
    go_wp2_with fail
    refine (hsw.out _).mono ?_
    rintro e w1 ⟨rfl, b1⟩
    have B1 : Hid (Below w.heap.size w w1) := ((Below.refl _ _).alloc (Nat.le_refl _) _).trans (b1.mono (by simp))
    clear b1
    go_wp2_with fail
    exact bodyPost_ret (v := .tuple #[.slice none 0 0, .int .i64 1]) (by simp [results, Try.results12, go_sem]) rfl ⟨_, 1, rfl, B1.out, by simp [Value.ownBlock], ⟨fun _ => ⟨rfl, rfl⟩, fun h => absurd h hns.out, fun h => absurd h hns.out, fun h => absurd h hns.out⟩⟩
  · have hys : Hid (Ar.Sound ⟨f, p, wt, k, fi, o⟩) := (of_decide_eq_true (p := Ar.Sound ⟨f, p, wt, k, fi, o⟩) HS.out.symm)
    clear HS
    go_enter Try.func12, Try.ntmps12
    go_wp2_with fail
    refine (hsw.out _).mono ?_
    rintro e w1 ⟨rfl, b1⟩
    have B1 : Hid (Below w.heap.size w w1) := ((Below.refl _ _).alloc (Nat.le_refl _) _).trans (b1.mono (by simp))
    have K1 : Hid (w1.heap[w.heap.size]? = some (.cells #[.int .i64 f, .int .i64 p, .bool wt, .int .i64 k, .int .i64 fi, .int .i64 o] 23 (0, 0))) := (b1.block w.heap.size (by simp)).trans (heap_alloc_new w _)
    have S1 := Lib.hid (hSA.out.below b1)
    have q0 : w1.cell? ⟨w.heap.size, 0, none⟩ = some (.int .i64 f) := by rw [cell_of_row w1 _ 0 _ _ _ K1.out]; rfl
    have q1 : w1.cell? ⟨w.heap.size, 1, none⟩ = some (.int .i64 p) := by rw [cell_of_row w1 _ 1 _ _ _ K1.out]; rfl
    have H1 := Lib.hid (H.out.below B1.out)
    clear b1 hSA
    go_wp2_with fail
    refine (hcf.out w1 w.heap.size H1.out (Array.getElem?_eq_some_iff.1 K1.out).1 q0 q1).mono ?_
    rintro e w2 ⟨rfl, b2⟩
    have B2 := Lib.hid (B1.out.trans (b2.mono B1.out.size))
    have K2 := Lib.hid ((b2.block w.heap.size (Array.getElem?_eq_some_iff.1 K1.out).1).trans K1.out)
    have S2 := Lib.hid (S1.out.below b2)
    have H2 := Lib.hid (H1.out.below b2)
    clear b2 hcf q0 q1 H1 S1 K1 B1
    cases m
    · by_cases h16 : 16 ≤ l.length
      · have h16' : (16 : Int) ≤ l.length := by omega
        go_wp2_with fail
        exact bodyPost_ret (v := .tuple #[.slice none 0 0, .int .i64 4]) (by simp [results, Try.results12, go_sem]) rfl ⟨_, 4, rfl, B2.out, by simp [Value.ownBlock], ⟨fun h => absurd hys.out h, fun _ h => absurd (HM.out.trans h) (by simp), fun _ _ _ => ⟨rfl, rfl⟩, fun _ _ h => absurd h (by omega)⟩⟩
      · have h16' : ¬ (16 : Int) ≤ l.length := by omega
        go_wp2_with fail
        obtain ⟨i0, hi0, hz0, hs0, hb0⟩ := infoArea
        obtain ⟨W, hW⟩ : ∃ W, W = w2.drew := ⟨_, rfl⟩
        have hd : w2.drew = W := hW.symm
        have HW : Hid (Below w.heap.size w W ∧ W.heap.size = w2.heap.size ∧ W.heap[w.heap.size]? = some (.cells #[.int .i64 f, .int .i64 p, .bool wt, .int .i64 k, .int .i64 fi, .int .i64 o] 23 (0, 0)) ∧ ArRd W (.slice av l.length cv) l) := by
          rw [hW]
          exact ⟨B2.out.drew, by simp, K2.out, H2.out.below (Below.refl _ _).drew⟩
        have HC : Hid (∀ X, Below W.heap.size W X → Calls Try.prog 22 #[.slice av l.length cv] X fun e w' => ∃ a c, e = .returned (.slice a l.length c) ∧ SlNew W.heap.size w' 23 6 (.slice a l.length c) l.length (ar l) ∧ Below X.heap.size X w') := fun X hX => (CloneA_walk X _ l (HW.out.2.2.2.below hX) (by omega)).mono fun e w' ⟨a, c, h1, h2, h3⟩ => ⟨a, c, h1, h2.low hX.size, h3⟩
        have HQ : Hid (∀ X, Below W.heap.size W X → X.cell? ⟨w.heap.size, 0, none⟩ = some (.int .i64 f) ∧ X.cell? ⟨w.heap.size, 1, none⟩ = some (.int .i64 p) ∧ X.cell? ⟨w.heap.size, 2, none⟩ = some (.bool wt) ∧ X.cell? ⟨w.heap.size, 3, none⟩ = some (.int .i64 k) ∧ X.cell? ⟨w.heap.size, 4, none⟩ = some (.int .i64 fi) ∧ X.cell? ⟨w.heap.size, 5, none⟩ = some (.int .i64 o)) := fun X hX => by
          have hX' := (hX.block w.heap.size (Array.getElem?_eq_some_iff.1 HW.out.2.2.1).1).trans HW.out.2.2.1
          refine ⟨?_, ?_, ?_, ?_, ?_, ?_⟩
          · rw [cell_of_row X _ 0 _ _ _ hX']; rfl
          · rw [cell_of_row X _ 1 _ _ _ hX']; rfl
          · rw [cell_of_row X _ 2 _ _ _ hX']; rfl
          · rw [cell_of_row X _ 3 _ _ _ hX']; rfl
          · rw [cell_of_row X _ 4 _ _ _ hX']; rfl
          · rw [cell_of_row X _ 5 _ _ _ hX']; rfl
        obtain ⟨p0, p1, p2, p3, p4, p5⟩ := HQ.out W (Below.refl _ _)
        clear hW H2 K2 S2
        go_region_held_law (fun W' => W'.cell? ⟨w.heap.size, 0, none⟩ = some (.int .i64 f) ∧ W'.cell? ⟨w.heap.size, 1, none⟩ = some (.int .i64 p) ∧ W'.cell? ⟨w.heap.size, 2, none⟩ = some (.bool wt) ∧ W'.cell? ⟨w.heap.size, 3, none⟩ = some (.int .i64 k) ∧ W'.cell? ⟨w.heap.size, 4, none⟩ = some (.int .i64 fi) ∧ W'.cell? ⟨w.heap.size, 5, none⟩ = some (.int .i64 o)) (go_keep) (first
          | (go_at_call 22
             refine (HC.out _ (by first | exact Below.refl _ _ | exact (Below.refl _ _).alloc (Nat.le_refl _) _)).mono ?_
             rintro e w3 ⟨a3, c3, rfl, hp3, b3⟩
             have BW3 : Hid (Below W.heap.size W w3) := by first | exact b3 | exact ((Below.refl W.heap.size W).alloc (Nat.le_refl _) _).trans (b3.mono (by simp))
             have P3 := Lib.hid hp3
             have B3 := Lib.hid b3
             obtain ⟨r0, r1, r2, r3, r4, r5⟩ := HQ.out w3 BW3.out
             clear hp3 b3)
          | (refine step_append_new (B := W.heap.size) (by first | exact BW3.out.size | exact Nat.le_trans BW3.out.size (by simp)) rfl (.tmp 22) (.tmp 24) 26 rfl i0 _ 48 Try.underlying26 hi0 hz0 hs0 hb0 rfl (.slice a3 l.length c3) l.length (ar l) (by simp [Act.eval]) (by first | exact P3.out | exact P3.out.below ((Below.refl _ _).alloc (Nat.le_refl _) _)) _ 1 (ar [⟨f, p, wt, k, fi, o⟩]) (by simp [Act.eval]; rfl) (by first | exact (ArAt.oneAt w3 _ rfl ⟨f, p, wt, k, fi, o⟩ rfl).rd | exact ((ArAt.oneAt W _ rfl ⟨f, p, wt, k, fi, o⟩ rfl).below B3.out).rd) (by omega) (ar_one _) (by simp only [maxLen]; omega) (by omega) ?_
             intro v4 w4 hs4 hg4 ho4
             have BW4 : Hid (Below W.heap.size W w4) := by first | exact BW3.out.trans hg4 | exact (BW3.out.alloc BW3.out.size _).trans hg4
             have O4 : Hid (∀ b, v4.ownBlock = some b → W.heap.size ≤ b) := ho4
             obtain ⟨b4, off4, c4, rfl⟩ : ∃ b off c, v4 = .slice (some ⟨b, off, none⟩) (l.length + 1) c := by
               rcases SlAt.form hs4 with ⟨a4, c4, e, _, _⟩
               rcases hs4.2 with ⟨_, e2⟩ | ⟨b, off, c, arr, e2, _⟩
               · simp at e2
               · exact ⟨b, off, c, e2⟩
             have P4 : Hid (ArAt w4 (.slice (some ⟨b4, off4, none⟩) (l ++ [(⟨f, p, wt, k, fi, o⟩ : Ar)]).length c4) (l ++ [(⟨f, p, wt, k, fi, o⟩ : Ar)])) := by
               show SlAt _ _ _ _ _ _
               rw [List.length_append, ar_append]
               exact hs4
             obtain ⟨z0, z1, z2, z3, z4, z5⟩ := HQ.out w4 BW4.out
             clear hs4 hg4 ho4 P3 B3 BW3 r0 r1 r2 r3 r4 r5))
        all_goals go_wp2_with fail
        all_goals (
          have hS := SortA_walk w4 b4 off4 c4 (l ++ [(⟨f, p, wt, k, fi, o⟩ : Ar)]) P4.out (by simp; omega)
          rw [List.length_append] at hS
          refine hS.mono ?_
          rintro e w5 ⟨rfl, l', hperm, hsort, hp5, t5⟩
          have B5 : Hid (Below w.heap.size w w5) := by
            have h1 := HW.out.1.trans (BW4.out.mono HW.out.1.size)
            have h2 : w.heap.size ≤ b4 := Nat.le_trans HW.out.1.size (O4.out b4 rfl)
            exact Touch.from h1 t5 (Nat.le_trans HW.out.1.size BW4.out.size) (fun b hb => by simp at hb; omega)
          have P5 := Lib.hid hp5
          have Q5 := Lib.hid (And.intro hperm hsort)
          clear hS hperm hsort hp5 t5 z0 z1 z2 z3 z4 z5 p0 p1 p2 p3 p4 p5
          go_wp2_with fail
          refine (ClipA_walk w5 _ l' P5.out).mono ?_
          rintro e w6 ⟨v6, rfl, hp6, rfl, ho6⟩
          have P6 := Lib.hid hp6
          have O6 := Lib.hid ho6
          clear hp6 ho6
          go_wp2_with fail
          exact bodyPost_ret (v := .tuple #[v6, .int .i64 0]) (by simp [results, Try.results12, go_sem]) rfl ⟨_, 0, rfl, B5.out, fun b hb => Nat.le_trans HW.out.1.size (O4.out b (by rw [← hb, O6.out]; rfl)), ⟨fun h => absurd hys.out h, fun _ h => absurd (HM.out.trans h) (by simp), fun _ _ h => absurd h h16, fun _ _ _ => ⟨rfl, l', P6.out, Q5.out.1, Q5.out.2.imp fun h => by omega⟩⟩⟩)
    · go_wp2_with fail
      exact bodyPost_ret (v := .tuple #[.slice none 0 0, .int .i64 3]) (by simp [results, Try.results12, go_sem]) rfl ⟨_, 3, rfl, B2.out, by simp [Value.ownBlock], ⟨fun h => absurd hys.out h, fun _ _ => ⟨rfl, rfl⟩, fun _ h => absurd (HM.out.trans h) (by simp), fun _ h => absurd (HM.out.trans h) (by simp)⟩⟩
end Go.Proofs.Ytcghenehcpogpaa
