/- CacheAgain answers true for all keys and frames; no conditions. -/
import Derived.Test.YtflbidbnbfndgaaCacheAns
namespace Go.Proofs.Ytflbidbnbfndgaa
open Go Go.RowKit

theorem Put_no (w : World) (p m1 m2 : Nat) (l : CList) (r : CBack) (h : CacheAt w p m1 m2 l r) (k : Int × Int) (f : Int) (hn : (getL l k).isSome = true ∨ (getL r f).isSome = true) :
    Calls Try.prog 17 #[.pointer (some ⟨p, 0, none⟩), .agg #[.int .i64 k.1, .int .i64 k.2], .int .i64 f] w fun e w' => e = .returned (.bool false) ∧ Below w.heap.size w w' := by
  cases hy : (getL l k).isSome with
  | true => exact Put_there w p m1 m2 l r h k f hy
  | false => exact Put_used w p m1 m2 l r h k f hy (by rcases hn with h1 | h1; · rw [hy] at h1; cases h1
                                                       · exact h1)

/-- The cells of two struct arguments. -/
structure KeyCells (w : World) (n : Nat) (k l : Int × Int) : Prop where
  c0 : w.cell? ⟨n, 0, none⟩ = some (.int .i64 k.1)
  c1 : w.cell? ⟨n, 1, none⟩ = some (.int .i64 k.2)
  d0 : w.cell? ⟨n + 1, 0, none⟩ = some (.int .i64 l.1)
  d1 : w.cell? ⟨n + 1, 1, none⟩ = some (.int .i64 l.2)
theorem KeyCells.touch {S : List Nat} {w w' : World} {n : Nat} {k l : Int × Int} (h : KeyCells w n k l) (ht : Touch S w w') (hn : n ∉ S ∧ n + 1 ∉ S) : KeyCells w' n k l :=
  ⟨ht.cell h.c0 hn.1, ht.cell h.c1 hn.1, ht.cell h.d0 hn.2, ht.cell h.d1 hn.2⟩
theorem KeyCells.below {w w' : World} {n : Nat} {k l : Int × Int} (h : KeyCells w n k l) (hb : Below w.heap.size w w') : KeyCells w' n k l := h.touch (S := []) (.of_below hb) (by simp)

set_option maxHeartbeats 1600000 in
set_option maxRecDepth 100000 in
theorem again_walk (k l : Int × Int) (f g : Int) (w : World) :
    Calls Try.prog 3 #[.agg #[.int .i64 k.1, .int .i64 k.2], .agg #[.int .i64 l.1, .int .i64 l.2], .int .i64 f, .int .i64 g] w fun e w' => e = .returned (.bool true) ∧ Below w.heap.size w w' := by
  go_enter Try.func3, Try.ntmps3
  go_wp2_with fail
  have K0 : KeyCells ((w.alloc (.cells #[.int .i64 k.1, .int .i64 k.2] 23)).alloc (.cells #[.int .i64 l.1, .int .i64 l.2] 23)) w.heap.size k l := ⟨by go_simp, by go_simp, by go_simp, by go_simp⟩
  have b0 : Below w.heap.size w ((w.alloc (.cells #[.int .i64 k.1, .int .i64 k.2] 23)).alloc (.cells #[.int .i64 l.1, .int .i64 l.2] 23)) := ((Below.refl _ _).alloc (Nat.le_refl _) _).alloc (by simp) _
  have hn0 : ((w.alloc (.cells #[.int .i64 k.1, .int .i64 k.2] 23)).alloc (.cells #[.int .i64 l.1, .int .i64 l.2] 23)).heap.size = w.heap.size + 2 := by simp
  generalize (w.alloc (.cells #[.int .i64 k.1, .int .i64 k.2] 23)).alloc (.cells #[.int .i64 l.1, .int .i64 l.2] 23) = W at K0 b0 hn0 ⊢
  refine (New_cache _).mono ?_
  rintro e w1 ⟨rfl, b1, C⟩
  have K := K0.below b1
  have HB := Lib.hid (b0.trans (b1.mono (by omega)))
  rw [hn0] at C ⊢
  clear b1 b0 K0
  -- the first Put
  obtain ⟨c0, c1, d0, d1⟩ := K
  go_wp2_with fail
  refine (Put_new _ _ _ _ _ _ C k f rfl rfl).mono ?_
  rintro e w2 ⟨rfl, t2, C2⟩
  have K2 := KeyCells.touch ⟨c0, c1, d0, d1⟩ t2 (by simp; omega)
  have HB2 := Lib.hid (Touch.from HB.out t2 HB.out.size (by simp; omega))
  change CacheAt w2 _ _ _ [(k, (f, false))] [(f, k)] at C2
  clear t2 HB C c0 c1 d0 d1
  obtain ⟨c0, c1, d0, d1⟩ := K2
  -- Mark
  go_wp2_with fail
  refine (Mark_walk _ _ _ _ _ _ C2 k true).mono ?_
  have e1 : getL ([(k, (f, false))] : CList) k = some (f, false) := by simp [getL]
  rw [e1]
  simp only [Option.isSome_some]
  have e2 : updL ([(k, (f, false))] : CList) k (f, true) = [(k, (f, true))] := by simp [updL]
  rw [e2]
  clear e1 e2
  rintro e w3 ⟨rfl, t3, C3⟩
  have K3 := KeyCells.touch ⟨c0, c1, d0, d1⟩ t3 (by simp)
  have HB3 := Lib.hid (Touch.from HB2.out t3 HB2.out.size (by simp))
  clear t3 HB2 C2 c0 c1 d0 d1
  obtain ⟨c0, c1, d0, d1⟩ := K3
  -- Put k again
  go_wp2_with fail
  refine (Put_no _ _ _ _ _ _ C3 k g (.inl (by simp [getL]))).mono ?_
  rintro e w4 ⟨rfl, b4⟩
  have C4 := C3.below b4
  have K4 := KeyCells.below ⟨c0, c1, d0, d1⟩ b4
  have HB4 := Lib.hid (HB3.out.trans (b4.mono HB3.out.size))
  clear b4 HB3 C3 c0 c1 d0 d1
  obtain ⟨c0, c1, d0, d1⟩ := K4
  -- Put l where k stands
  go_wp2_with fail
  refine (Put_no _ _ _ _ _ _ C4 l f (.inr (by simp [getL]))).mono ?_
  rintro e w5 ⟨rfl, b5⟩
  have C5 := C4.below b5
  have K5 := KeyCells.below ⟨c0, c1, d0, d1⟩ b5
  have HB5 := Lib.hid (HB4.out.trans (b5.mono HB4.out.size))
  clear b5 HB4 C4 c0 c1 d0 d1
  obtain ⟨c0, c1, d0, d1⟩ := K5
  -- Drop k
  go_wp2_with fail
  refine (Drop_walk _ _ _ _ _ _ C5 k).mono ?_
  have e1 : getL ([(k, (f, true))] : CList) k = some (f, true) := by simp [getL]
  rw [e1]
  simp only [Option.isSome_some]
  have e2 : delL ([(k, (f, true))] : CList) k = [] := by simp [delL]
  have e3 : delL ([(f, k)] : CBack) f = [] := by simp [delL]
  rw [e2, e3]
  clear e1 e2 e3
  rintro e w6 ⟨rfl, t6, C6⟩
  have K6 := KeyCells.touch ⟨c0, c1, d0, d1⟩ t6 (by simp; omega)
  have HB6 := Lib.hid (Touch.from HB5.out t6 HB5.out.size (by simp; omega))
  clear t6 HB5 C5 c0 c1 d0 d1
  obtain ⟨c0, c1, d0, d1⟩ := K6
  -- Put k elsewhere
  go_wp2_with fail
  refine (Put_new _ _ _ _ _ _ C6 k g rfl rfl).mono ?_
  rintro e w7 ⟨rfl, t7, C7⟩
  have K7 := KeyCells.touch ⟨c0, c1, d0, d1⟩ t7 (by simp; omega)
  have HB7 := Lib.hid (Touch.from HB6.out t7 HB6.out.size (by simp; omega))
  change CacheAt w7 _ _ _ [(k, (g, false))] [(g, k)] at C7
  clear t7 HB6 C6 c0 c1 d0 d1
  obtain ⟨c0, c1, d0, d1⟩ := K7
  -- Frame
  go_wp2_with fail
  refine (Frame_walk _ _ _ _ _ _ C7 k).mono ?_
  have e1 : getL ([(k, (g, false))] : CList) k = some (g, false) := by simp [getL]
  rw [e1]
  simp only [Option.isSome_some, Option.getD_some]
  clear e1
  rintro e w8 ⟨rfl, b8⟩
  have C8 := C7.below b8
  have K8 := KeyCells.below ⟨c0, c1, d0, d1⟩ b8
  have HB8 := Lib.hid (HB7.out.trans (b8.mono HB7.out.size))
  clear b8 HB7 C7 c0 c1 d0 d1
  obtain ⟨c0, c1, d0, d1⟩ := K8
  -- Of
  go_wp2_with fail
  refine (Of_walk _ _ _ _ _ _ C8 f).mono ?_
  obtain ⟨y, hy⟩ : ∃ y, y = (getL ([(g, k)] : CBack) f).getD (0, 0) := ⟨_, rfl⟩
  have e1 : (getL ([(g, k)] : CBack) f).isSome = (f == g) := by by_cases e : f = g <;> simp [getL, e]
  rw [e1, ← hy]
  clear e1 hy
  rintro e w9 ⟨rfl, b9⟩
  have C9 := C8.below b9
  have K9 := KeyCells.below ⟨c0, c1, d0, d1⟩ b9
  have HB9 := Lib.hid (HB8.out.trans (b9.mono HB8.out.size))
  clear b9 HB8 C8 c0 c1 d0 d1
  obtain ⟨c0, c1, d0, d1⟩ := K9
  unfold encPair
  go_wp2_with fail
  refine (cacheAnswers _).mono ?_
  rintro e w10 ⟨rfl, b10⟩
  have hb9 := (Below.refl w9.heap.size w9).alloc (Nat.le_refl _) (.cells #[.int .i64 y.1, .int .i64 y.2] 23)
  have C10 := (C9.below hb9).below b10
  have K10 := (KeyCells.below ⟨c0, c1, d0, d1⟩ hb9).below b10
  have HB10 := Lib.hid ((HB9.out.trans (hb9.mono HB9.out.size)).trans (b10.mono (by have := HB9.out.size; have := hb9.size; omega)))
  clear b10 hb9 HB9 C9 c0 c1 d0 d1
  obtain ⟨c0, c1, d0, d1⟩ := K10
  go_wp2_with fail
  refine (Dirty_walk _ _ _ _ _ _ C10 k).mono ?_
  have e1 : ((getL ([(k, (g, false))] : CList) k).getD (0, false)).2 = false := by simp [getL]
  rw [e1]
  clear e1
  rintro e w11 ⟨rfl, b11⟩
  have HB11 := Lib.hid (HB10.out.trans (b11.mono HB10.out.size))
  clear b11 HB10 C10 c0 c1 d0 d1
  go_wp2_with fail
  go_ret
  exact ⟨by simp, HB11.out⟩

theorem again_row (k0 k1 l0 l1 f g : Int) (w : World) (_ : (Lit.int .i64 k0).wf = true) (_ : (Lit.int .i64 k1).wf = true) (_ : (Lit.int .i64 l0).wf = true) (_ : (Lit.int .i64 l1).wf = true) (_ : (Lit.int .i64 f).wf = true) (_ : (Lit.int .i64 g).wf = true) :
    Calls Try.prog 3 #[.agg [.int .i64 k0, .int .i64 k1].toArray, .agg [.int .i64 l0, .int .i64 l1].toArray, .int .i64 f, .int .i64 g] w fun e w' => e = .returned (.bool true) ∧ Below w.heap.size w w' := again_walk (k0, k1) (l0, l1) f g w
end Go.Proofs.Ytflbidbnbfndgaa
