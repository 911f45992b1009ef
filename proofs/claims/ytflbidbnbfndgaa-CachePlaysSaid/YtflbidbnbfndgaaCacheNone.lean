/- CacheNone: the law's walk. -/
import Derived.Test.YtflbidbnbfndgaaCacheKeysW
namespace Go.Proofs.Ytflbidbnbfndgaa
open Go Go.RowKit

theorem Keys_nil (w : World) (file : Int) : Calls Try.prog 37 #[.pointer none, .int .i64 file] w fun e w' => e = .returned (.slice none 0 0) ∧ Below w.heap.size w w' := by
  go_enter Try.func37, Try.ntmps37
  go_wp2_with fail
  go_ret
  exact ⟨rfl, (Below.refl _ _).alloc (Nat.le_refl _) _⟩

/-- Between two steps: the page's cells, an empty cache. -/
structure NoneSt (w X : World) (p m1 m2 : Nat) (k : Int × Int) : Prop where
  below : Below w.heap.size w X
  c0 : X.cell? ⟨w.heap.size, 0, none⟩ = some (.int .i64 k.1)
  c1 : X.cell? ⟨w.heap.size, 1, none⟩ = some (.int .i64 k.2)
  c : CacheAt X p m1 m2 [] []
  hp : w.heap.size < m1 ∧ w.heap.size < m2
theorem NoneSt.next {w X Y : World} {p m1 m2 : Nat} {k : Int × Int} (h : NoneSt w X p m1 m2 k) (hb : Below X.heap.size X Y) : NoneSt w Y p m1 m2 k :=
  ⟨h.below.trans (hb.mono h.below.size), (hb.cell (World.block_lt_of_cell? _ _ h.c0)).trans h.c0, (hb.cell (World.block_lt_of_cell? _ _ h.c1)).trans h.c1, h.c.below hb, h.hp⟩
theorem NoneSt.touch {w X Y : World} {p m1 m2 : Nat} {k : Int × Int} (h : NoneSt w X p m1 m2 k) (ht : Touch [m1, m2] X Y) (hc : CacheAt Y p m1 m2 [] []) : NoneSt w Y p m1 m2 k :=
  ⟨Touch.from h.below ht h.below.size (fun i hi => by have := h.hp; simp at hi; omega), ht.cell h.c0 (by have := h.hp; simp; omega), ht.cell h.c1 (by have := h.hp; simp; omega), hc, h.hp⟩

set_option maxHeartbeats 4000000 in
set_option maxRecDepth 100000 in
theorem none_walk (k1 k2 f : Int) (w : World) (_ : (Lit.int .i64 k1).wf = true) (_ : (Lit.int .i64 k2).wf = true) (_ : (Lit.int .i64 f).wf = true) :
    Calls Try.prog 9 #[.agg #[.int .i64 k1, .int .i64 k2], .int .i64 f] w fun e w' => e = .returned (.bool true) ∧ Below w.heap.size w w' := by
  go_enter Try.func9, Try.ntmps9
  go_wp2_with fail
  have c0 : (w.alloc (.cells #[.int .i64 k1, .int .i64 k2] 23)).cell? ⟨w.heap.size, 0, none⟩ = some (.int .i64 k1) := by go_simp
  have c1 : (w.alloc (.cells #[.int .i64 k1, .int .i64 k2] 23)).cell? ⟨w.heap.size, 1, none⟩ = some (.int .i64 k2) := by go_simp
  have b0 : Below w.heap.size w (w.alloc (.cells #[.int .i64 k1, .int .i64 k2] 23)) := (Below.refl _ _).alloc (Nat.le_refl _) _
  have hn0 : (w.alloc (.cells #[.int .i64 k1, .int .i64 k2] 23)).heap.size = w.heap.size + 1 := by simp
  generalize w.alloc _ = W at *
  refine (New_cache W).mono ?_
  rintro e w1 ⟨rfl, b1, C⟩
  have N1 : Hid (NoneSt w w1 (W.heap.size + 2) W.heap.size (W.heap.size + 1) (k1, k2)) := ⟨b0.trans (b1.mono b0.size), (b1.cell (World.block_lt_of_cell? _ _ c0)).trans c0, (b1.cell (World.block_lt_of_cell? _ _ c1)).trans c1, C, by omega⟩
  clear c0 c1 b0 b1 C hn0
  generalize W.heap.size + 2 = p at *
  generalize W.heap.size + 1 = m2 at *
  generalize W.heap.size = m1 at *
  obtain ⟨-, c0, c1, -, -⟩ := N1.out
  simp only at c0 c1
  go_wp2_with fail
  refine (Frame_nil w1 (k1, k2)).mono ?_
  rintro e w2 ⟨rfl, b⟩
  have N2 := Lib.hid (N1.out.next b)
  clear c0 c1
  obtain ⟨-, c0, c1, -, -⟩ := N2.out
  simp only at c0 c1
  go_wp2_with fail
  refine (Of_nil w2 f).mono ?_
  rintro e w3 ⟨rfl, b⟩
  have N3 := Lib.hid (N2.out.next b)
  clear c0 c1
  unfold encPair
  have N4 := Lib.hid (N3.out.next ((Below.refl _ _).alloc (Nat.le_refl _) (.cells #[.int .i64 0, .int .i64 0] 23)))
  obtain ⟨w4, hw4⟩ : ∃ Z, Z = w3.alloc (.cells #[.int .i64 0, .int .i64 0] 23) := ⟨_, rfl⟩
  rw [← hw4] at N4
  obtain ⟨-, c0, c1, -, -⟩ := N4.out
  simp only at c0 c1
  rw [hw4] at c0 c1
  go_wp2_with fail
  rw [← hw4]
  clear c0 c1 hw4
  refine (Frame_walk w4 _ _ _ _ _ N4.out.c (k1, k2)).mono ?_
  rintro e w5 ⟨rfl, b⟩
  have N5 := Lib.hid (N4.out.next b)
  simp only [getL, Option.getD_none, Option.isSome_none]
  obtain ⟨-, c0, c1, -, -⟩ := N5.out
  simp only at c0 c1
  go_wp2_with fail
  refine (Of_walk w5 _ _ _ _ _ N5.out.c f).mono ?_
  rintro e w6 ⟨rfl, b⟩
  have N6 := Lib.hid (N5.out.next b)
  clear c0 c1
  simp only [getL, Option.getD_none, Option.isSome_none]
  unfold encPair
  have N7 := Lib.hid (N6.out.next ((Below.refl _ _).alloc (Nat.le_refl _) (.cells #[.int .i64 0, .int .i64 0] 23)))
  obtain ⟨w7, hw7⟩ : ∃ Z, Z = w6.alloc (.cells #[.int .i64 0, .int .i64 0] 23) := ⟨_, rfl⟩
  rw [← hw7] at N7
  obtain ⟨-, c0, c1, -, -⟩ := N7.out
  simp only at c0 c1
  rw [hw7] at c0 c1
  go_wp2_with fail
  rw [← hw7]
  clear c0 c1 hw7
  refine (cacheAnswers w7).mono ?_
  rintro e w8 ⟨rfl, b⟩
  have N8 := Lib.hid (N7.out.next b)
  obtain ⟨-, c0, c1, -, -⟩ := N8.out
  simp only at c0 c1
  go_wp2_with fail
  refine (Put_nil w8 (k1, k2) f).mono ?_
  rintro e w9 ⟨rfl, b⟩
  have N9 := Lib.hid (N8.out.next b)
  clear c0 c1
  obtain ⟨-, c0, c1, -, -⟩ := N9.out
  simp only at c0 c1
  go_wp2_with fail
  refine (Mark_nil w9 (k1, k2) true).mono ?_
  rintro e w10 ⟨rfl, b⟩
  have N10 := Lib.hid (N9.out.next b)
  clear c0 c1
  obtain ⟨-, c0, c1, -, -⟩ := N10.out
  simp only at c0 c1
  go_wp2_with fail
  refine (Dirty_nil w10 (k1, k2)).mono ?_
  rintro e w11 ⟨rfl, b⟩
  have N11 := Lib.hid (N10.out.next b)
  clear c0 c1
  obtain ⟨-, c0, c1, -, -⟩ := N11.out
  simp only at c0 c1
  go_wp2_with fail
  refine (Drop_nil w11 (k1, k2)).mono ?_
  rintro e w12 ⟨rfl, b⟩
  have N12 := Lib.hid (N11.out.next b)
  clear c0 c1
  obtain ⟨-, c0, c1, -, -⟩ := N12.out
  simp only at c0 c1
  go_wp2_with fail
  refine (Keys_nil w12 (-1)).mono ?_
  rintro e w13 ⟨rfl, b⟩
  have N13 := Lib.hid (N12.out.next b)
  clear c0 c1
  obtain ⟨-, c0, c1, -, -⟩ := N13.out
  simp only at c0 c1
  go_wp2_with fail
  refine (Mark_walk w13 _ _ _ _ _ N13.out.c (k1, k2) true).mono ?_
  rintro e w14 ⟨rfl, t, c⟩
  have N14 := Lib.hid (N13.out.touch (t.mono fun k _ hk => by simp at hk ⊢; exact .inl hk) c)
  clear c0 c1
  obtain ⟨-, c0, c1, -, -⟩ := N14.out
  simp only at c0 c1
  go_wp2_with fail
  refine (Dirty_walk w14 _ _ _ _ _ N14.out.c (k1, k2)).mono ?_
  rintro e w15 ⟨rfl, b⟩
  have N15 := Lib.hid (N14.out.next b)
  clear c0 c1
  obtain ⟨-, c0, c1, -, -⟩ := N15.out
  simp only at c0 c1
  go_wp2_with fail
  refine (Drop_walk w15 _ _ _ _ _ N15.out.c (k1, k2)).mono ?_
  rintro e w16 ⟨rfl, t, c⟩
  have N16 := Lib.hid (N15.out.touch t c)
  clear c0 c1
  obtain ⟨-, c0, c1, -, -⟩ := N16.out
  simp only at c0 c1
  go_wp2_with fail
  refine (Keys_cache w16 _ _ _ [] [] N16.out.c (by simp) (-1)).mono ?_
  rintro e w17 ⟨v, ks, rfl, hs, hk, b⟩
  have N17 := Lib.hid (N16.out.next b)
  obtain rfl : ks = [] := List.perm_nil.1 hs.1
  obtain ⟨av, cv, rfl, _, _⟩ := SlAt.form hk
  clear c0 c1 hs hk b
  go_wp2_with fail
  go_ret
  exact ⟨by simp, N17.out.below⟩
end Go.Proofs.Ytflbidbnbfndgaa
