/- The cache's functions: what each answers, and what becomes of its two maps. -/
import Derived.Test.YtflbidbnbfndgaaCacheTypes
import Derived.Test.YtflbidbnbfndgaaTouch
namespace Go.Proofs.Ytflbidbnbfndgaa
open Go Go.RowKit

abbrev CList := List ((Int × Int) × (Int × Bool))
abbrev CBack := List (Int × (Int × Int))

section
variable {w w' : World} {p m1 m2 : Nat} {l : CList} {r : CBack}
theorem CacheAt.ps (h : CacheAt w p m1 m2 l r) : p < w.heap.size ∧ m1 < w.heap.size ∧ m2 < w.heap.size ∧ p ≠ m1 ∧ p ≠ m2 ∧ m1 ≠ m2 := by
  obtain ⟨h0, h1, hM, hR, hne⟩ := h
  refine ⟨World.block_lt_of_cell? w _ h0, hM.lt, hR.lt, fun e => ?_, fun e => ?_, hne⟩
  · subst e; obtain ⟨es, c, hb, _⟩ := hM; simp [World.cell?, hb] at h0
  · subst e; obtain ⟨es, c, hb, _⟩ := hR; simp [World.cell?, hb] at h0
theorem CacheAt.keep (h : CacheAt w p m1 m2 l r) (hb : ∀ k, k = p ∨ k = m1 ∨ k = m2 → w'.heap[k]? = w.heap[k]?) : CacheAt w' p m1 m2 l r := by
  obtain ⟨h0, h1, hM, hR, hne⟩ := h
  exact ⟨(World.cell?_of_block (w := w) (hb p (.inl rfl))).trans h0, (World.cell?_of_block (w := w) (hb p (.inl rfl))).trans h1, hM.keep (hb m1 (.inr (.inl rfl))), hR.keep (hb m2 (.inr (.inr rfl))), hne⟩
theorem CacheAt.touch {S : List Nat} (h : CacheAt w p m1 m2 l r) (ht : Touch S w w') (hS : p ∉ S ∧ m1 ∉ S ∧ m2 ∉ S) : CacheAt w' p m1 m2 l r :=
  h.keep fun k hk => ht.block k (by have := h.ps; omega) (by
    rcases hk with rfl | rfl | rfl
    · exact hS.1
    · exact hS.2.1
    · exact hS.2.2)
theorem CacheAt.both {l' : CList} {r' : CBack} (h : CacheAt w p m1 m2 l r) (ht : Touch [m1, m2] w w') (hM : MapAt w' m1 encPair encWhere l') (hR : MapAt w' m2 encInt encPair r') : CacheAt w' p m1 m2 l' r' := by
  have hps := h.ps
  obtain ⟨h0, h1, _, _, hne⟩ := h
  exact ⟨ht.cell h0 (by simp; omega), ht.cell h1 (by simp; omega), hM, hR, hne⟩
theorem CacheAt.first {l' : CList} (h : CacheAt w p m1 m2 l r) (ht : Touch [m1] w w') (hM : MapAt w' m1 encPair encWhere l') : CacheAt w' p m1 m2 l' r := by
  have hps := h.ps
  exact h.both (ht.mono fun k _ hk => by simp at hk ⊢; exact .inl hk) hM (h.2.2.2.1.keep (ht.block m2 hps.2.2.1 (by simp; omega)))
theorem CacheAt.below (h : CacheAt w p m1 m2 l r) (hb : Below w.heap.size w w') : CacheAt w' p m1 m2 l r := h.keep fun k hk => hb.block k (by have := h.ps; omega)
end

section
variable (w : World) (p m1 m2 : Nat) (l : CList) (r : CBack) (h : CacheAt w p m1 m2 l r) (k : Int × Int)
include h
theorem Frame_walk : Calls Try.prog 20 #[.pointer (some ⟨p, 0, none⟩), .agg #[.int .i64 k.1, .int .i64 k.2]] w fun e w' => e = .returned (.tuple #[.int .i64 ((getL l k).getD (0, false)).1, .bool (getL l k).isSome]) ∧ Below w.heap.size w w' := by
  have hc := there_walk _ p m1 m2 l r (h.below ((Below.refl _ _).alloc (Nat.le_refl _) (.cells #[.int .i64 k.1, .int .i64 k.2] 23))) k
  generalize (getL l k).getD (0, false) = x at hc ⊢
  generalize (getL l k).isSome = b at hc ⊢
  have HC := Lib.hid hc
  clear hc h
  go_enter Try.func20, Try.ntmps20
  go_wp2_with fail
  refine HC.out.mono ?_
  rintro e w1 ⟨rfl, hb⟩
  have HB := Lib.hid hb
  clear hb
  unfold encWhere
  go_wp2_with fail
  go_ret2
  have hb := HB.out
  exact ⟨rfl, ((((Below.refl _ w).alloc (Nat.le_refl _) _).trans (hb.mono (by simp))).alloc (by have := hb.size; simp at this; omega) _)⟩

theorem Dirty_walk : Calls Try.prog 23 #[.pointer (some ⟨p, 0, none⟩), .agg #[.int .i64 k.1, .int .i64 k.2]] w fun e w' => e = .returned (.bool ((getL l k).getD (0, false)).2) ∧ Below w.heap.size w w' := by
  have hc := there_walk _ p m1 m2 l r (h.below ((Below.refl _ _).alloc (Nat.le_refl _) (.cells #[.int .i64 k.1, .int .i64 k.2] 23))) k
  generalize (getL l k).getD (0, false) = x at hc ⊢
  generalize (getL l k).isSome = b at hc
  have HC := Lib.hid hc
  clear hc h
  go_enter Try.func23, Try.ntmps23
  go_wp2_with fail
  refine HC.out.mono ?_
  rintro e w1 ⟨rfl, hb⟩
  have HB := Lib.hid hb
  clear hb
  unfold encWhere
  go_wp2_with fail
  go_ret
  have hb := HB.out
  exact ⟨rfl, ((((Below.refl _ w).alloc (Nat.le_refl _) _).trans (hb.mono (by simp))).alloc (by have := hb.size; simp at this; omega) _)⟩

theorem Mark_walk (d : Bool) : Calls Try.prog 18 #[.pointer (some ⟨p, 0, none⟩), .agg #[.int .i64 k.1, .int .i64 k.2], .bool d] w fun e w' => e = .returned (.bool (getL l k).isSome) ∧ Touch [m1] w w' ∧
    CacheAt w' p m1 m2 (match getL l k with | some x => updL l k (x.1, d) | none => l) r := by
  have hps := h.ps
  have hc := there_walk _ p m1 m2 l r (h.below ((Below.refl _ _).alloc (Nat.le_refl _) (.cells #[.int .i64 k.1, .int .i64 k.2] 23))) k
  obtain ⟨y, hy⟩ : ∃ y, y = getL l k := ⟨_, rfl⟩
  rw [← hy] at hc ⊢
  have HC := Lib.hid hc
  have HY := Lib.hid hy
  have HH := Lib.hid h
  clear hc h hy
  go_enter Try.func18, Try.ntmps18
  go_wp2_with fail
  refine HC.out.mono ?_
  rintro e w1 ⟨rfl, hb⟩
  have hk0 : w1.cell? ⟨w.heap.size, 0, none⟩ = some (.int .i64 k.1) := (hb.cell (p := ⟨w.heap.size, 0, none⟩) (by simp)).trans (by go_simp)
  have hk1 : w1.cell? ⟨w.heap.size, 1, none⟩ = some (.int .i64 k.2) := (hb.cell (p := ⟨w.heap.size, 1, none⟩) (by simp)).trans (by go_simp)
  have hlt : w.heap.size < w1.heap.size := by have := hb.size; simp at this; omega
  have HB := Lib.hid (((Below.refl _ w).alloc (Nat.le_refl _) _).trans (hb.mono (by simp)))
  clear hb
  cases y with
  | none =>
    unfold encWhere
    clear hk0 hk1
    go_wp2_with fail
    go_ret
    have hb := HB.out.alloc HB.out.size (.cells #[.int .i64 0, .bool false] 83)
    exact ⟨rfl, .of_below hb, HH.out.below hb⟩
  | some x =>
    have hC1 := HH.out.below HB.out
    obtain ⟨c0, c1, hM, hR, hne⟩ := hC1
    have hM2 := (hM.below ((Below.refl _ _).alloc (Nat.le_refl _) (.cells #[.int .i64 x.1, .bool x.2] 83))).below (Below.refl _ _).drew
    obtain ⟨w3, hrun, hM3, hg3, hs3⟩ := update_run (T := 78) lawBy Try.underlying78 hM2 k (x.1, d)
    unfold encPair encWhere at hrun
    have HM3 := Lib.hid hM3
    have HG3 := Lib.hid hg3
    have hpl : p < w1.heap.size := World.block_lt_of_cell? w1 _ c0
    clear hM hR hM2 hM3 hg3 hs3 c1
    simp only [Option.getD_some, Option.isSome_some]
    unfold encWhere
    go_wp2_with fail
    go_region
    all_goals go_wp2_with fail
    go_ret
    have ht : Touch [m1] w w3 := (Touch.of_below ((HB.out.alloc HB.out.size _).drew)).trans (.of_grown HG3.out (by simp))
    exact ⟨rfl, ht, HH.out.first ht HM3.out⟩

theorem Of_walk (f : Int) : Calls Try.prog 21 #[.pointer (some ⟨p, 0, none⟩), .int .i64 f] w fun e w' => e = .returned (.tuple #[encPair ((getL r f).getD (0, 0)), .bool (getL r f).isSome]) ∧ Below w.heap.size w w' := by
  have hps := h.ps
  obtain ⟨h0, h1, hM, hR, hne⟩ := h
  have run : ∀ o, (Instr.lookup 79 (.map (some m2)) (.int .i64 f) true).run Try.prog (w.alloc o) = .ok (.tuple #[encPair ((getL r f).getD (0, 0)), .bool (getL r f).isSome]) (w.alloc o) := fun o => by
    have := lookup_run (T := 79) lawOf Try.underlying79 (encPair (0, 0)) zeroKey (hR.below ((Below.refl _ _).alloc (Nat.le_refl _) o)) f true
    rw [if_pos rfl] at this
    refine this.trans ?_
    cases getL r f <;> rfl
  generalize (getL r f).getD (0, 0) = x at run ⊢
  generalize (getL r f).isSome = b at run ⊢
  unfold encPair at run ⊢
  clear hM hR h0
  have hpl := hps.1
  go_enter Try.func21, Try.ntmps21
  go_wp2_with fail
  refine bodyPost_ret (v := .tuple #[.agg #[.int .i64 x.1, .int .i64 x.2], .bool b]) (by simp [results, Try.results21, go_sem]) rfl ⟨rfl, ?_⟩
  exact ((Below.refl _ _).alloc (Nat.le_refl _) _).alloc (by simp) _

theorem Drop_walk : Calls Try.prog 19 #[.pointer (some ⟨p, 0, none⟩), .agg #[.int .i64 k.1, .int .i64 k.2]] w fun e w' => e = .returned (.bool (getL l k).isSome) ∧ Touch [m1, m2] w w' ∧
    CacheAt w' p m1 m2 (match getL l k with | some _ => delL l k | none => l) (match getL l k with | some x => delL r x.1 | none => r) := by
  have hps := h.ps
  have hc := there_walk _ p m1 m2 l r (h.below ((Below.refl _ _).alloc (Nat.le_refl _) (.cells #[.int .i64 k.1, .int .i64 k.2] 23))) k
  obtain ⟨y, hy⟩ : ∃ y, y = getL l k := ⟨_, rfl⟩
  rw [← hy] at hc ⊢
  have HC := Lib.hid hc
  have HY := Lib.hid hy
  have HH := Lib.hid h
  clear hc h hy
  go_enter Try.func19, Try.ntmps19
  go_wp2_with fail
  refine HC.out.mono ?_
  rintro e w1 ⟨rfl, hb⟩
  have hk0 : w1.cell? ⟨w.heap.size, 0, none⟩ = some (.int .i64 k.1) := (hb.cell (p := ⟨w.heap.size, 0, none⟩) (by simp)).trans (by go_simp)
  have hk1 : w1.cell? ⟨w.heap.size, 1, none⟩ = some (.int .i64 k.2) := (hb.cell (p := ⟨w.heap.size, 1, none⟩) (by simp)).trans (by go_simp)
  have hlt : w.heap.size < w1.heap.size := by have := hb.size; simp at this; omega
  have HB := Lib.hid (((Below.refl _ w).alloc (Nat.le_refl _) _).trans (hb.mono (by simp)))
  clear hb
  cases y with
  | none =>
    unfold encWhere
    clear hk0 hk1
    go_wp2_with fail
    go_ret
    have hb := HB.out.alloc HB.out.size (.cells #[.int .i64 0, .bool false] 83)
    exact ⟨rfl, .of_below hb, HH.out.below hb⟩
  | some x =>
    have hC1 := HH.out.below HB.out
    obtain ⟨c0, c1, hM, hR, hne⟩ := hC1
    have hbel : Below w1.heap.size w1 (w1.alloc (.cells #[.int .i64 x.1, .bool x.2] 83)).drew := ((Below.refl _ _).alloc (Nat.le_refl _) _).drew
    obtain ⟨w3, hrun, hM3, hg3, hs3⟩ := delete_run (T := 78) lawBy Try.underlying78 (hM.below hbel) k 0 23
    have hR3 : MapAt w3.drew m2 encInt encPair r := ((hR.below hbel).grown hg3 (by simp; omega)).below (Below.refl _ _).drew
    obtain ⟨w4, hrun4, hM4, hg4, hs4⟩ := delete_run (T := 79) lawOf Try.underlying79 hR3 x.1 0 3
    unfold encPair at hrun
    unfold encInt at hrun4
    have hpl : p < w1.heap.size := World.block_lt_of_cell? w1 _ c0
    have hp1 : p ≠ m1 := hps.2.2.2.1
    have c13 : w3.cell? ⟨p, 1, none⟩ = some (.map (some m2)) := (World.cell?_of_block (w := (w1.alloc (.cells #[.int .i64 x.1, .bool x.2] 83)).drew) (hg3.block p (by have := hbel.size; omega) (by simp; omega))).trans ((hbel.cell hpl).trans c1)
    have hm1 : m1 < w1.heap.size := Nat.lt_of_lt_of_le hps.2.1 HB.out.size
    have d0 : w3.cell? ⟨w1.heap.size, 0, none⟩ = some (.int .i64 x.1) := (World.cell?_of_block (w := (w1.alloc (.cells #[.int .i64 x.1, .bool x.2] 83)).drew) (hg3.block w1.heap.size (by simp [World.drew]) (by simp; omega))).trans (by go_simp)
    have HM3 := Lib.hid hM3
    have HG3 := Lib.hid hg3
    have HM4 := Lib.hid hM4
    have HG4 := Lib.hid hg4
    have HBE := Lib.hid hbel
    have HNE := Lib.hid hne
    clear hM hR hR3 hM3 hg3 hs3 c1 hM4 hg4 hs4 hbel hne
    simp only [Option.getD_some, Option.isSome_some]
    unfold encWhere
    go_wp2_with fail
    go_region
    all_goals go_wp2_with fail
    go_region
    all_goals go_wp2_with fail
    go_ret
    have ht3 : Touch [m1, m2] w w3.drew := (Touch.of_below (HB.out.trans (HBE.out.mono HB.out.size))).trans ((Touch.of_grown HG3.out (by simp)).drew)
    have ht : Touch [m1, m2] w w4 := ht3.trans (.of_grown HG4.out (by simp))
    exact ⟨rfl, ht, HH.out.both ht ((HM3.out.below (Below.refl _ _).drew).grown HG4.out (by simp; exact HNE.out)) HM4.out⟩

theorem Put_there (f : Int) (hy : (getL l k).isSome = true) : Calls Try.prog 17 #[.pointer (some ⟨p, 0, none⟩), .agg #[.int .i64 k.1, .int .i64 k.2], .int .i64 f] w fun e w' => e = .returned (.bool false) ∧ Below w.heap.size w w' := by
  have hc := there_walk _ p m1 m2 l r (h.below ((Below.refl _ _).alloc (Nat.le_refl _) (.cells #[.int .i64 k.1, .int .i64 k.2] 23))) k
  rw [hy] at hc
  generalize (getL l k).getD (0, false) = x at hc
  have HC := Lib.hid hc
  clear hc h hy
  go_enter Try.func17, Try.ntmps17
  go_wp2_with fail
  refine HC.out.mono ?_
  rintro e w1 ⟨rfl, hb⟩
  have HB := Lib.hid (((Below.refl _ w).alloc (Nat.le_refl _) _).trans (hb.mono (by simp)))
  clear hb
  unfold encWhere
  go_wp2_with fail
  go_ret
  exact ⟨rfl, HB.out.alloc HB.out.size _⟩

theorem Put_used (f : Int) (hy : (getL l k).isSome = false) (hf : (getL r f).isSome = true) : Calls Try.prog 17 #[.pointer (some ⟨p, 0, none⟩), .agg #[.int .i64 k.1, .int .i64 k.2], .int .i64 f] w fun e w' => e = .returned (.bool false) ∧ Below w.heap.size w w' := by
  have hc := there_walk _ p m1 m2 l r (h.below ((Below.refl _ _).alloc (Nat.le_refl _) (.cells #[.int .i64 k.1, .int .i64 k.2] 23))) k
  rw [hy] at hc
  generalize (getL l k).getD (0, false) = x at hc
  have HC := Lib.hid hc
  have HH := Lib.hid h
  have HF := Lib.hid hf
  clear hc h hy hf
  go_enter Try.func17, Try.ntmps17
  go_wp2_with fail
  refine HC.out.mono ?_
  rintro e w1 ⟨rfl, hb⟩
  have HB := Lib.hid (((Below.refl _ w).alloc (Nat.le_refl _) _).trans (hb.mono (by simp)))
  clear hb
  obtain ⟨c0, c1, hM, hR, hne⟩ := HH.out.below HB.out
  have hpl : p < w1.heap.size := World.block_lt_of_cell? w1 _ c0
  have run : ∀ o, (Instr.lookup 79 (.map (some m2)) (.int .i64 f) true).run Try.prog (w1.alloc o) = .ok (.tuple #[encPair ((getL r f).getD (0, 0)), .bool true]) (w1.alloc o) := fun o => by
    have := lookup_run (T := 79) lawOf Try.underlying79 (encPair (0, 0)) zeroKey (hR.below ((Below.refl _ _).alloc (Nat.le_refl _) o)) f true
    rw [if_pos rfl, HF.out] at this
    refine this.trans ?_
    cases getL r f <;> rfl
  generalize (getL r f).getD (0, 0) = y at run
  unfold encPair at run
  clear hM hR hne c0
  unfold encWhere
  go_wp2_with fail
  go_ret
  exact ⟨rfl, (HB.out.alloc HB.out.size _).alloc (by have := HB.out.size; simp; omega) _⟩

theorem Put_new (f : Int) (hy : getL l k = none) (hf : getL r f = none) : Calls Try.prog 17 #[.pointer (some ⟨p, 0, none⟩), .agg #[.int .i64 k.1, .int .i64 k.2], .int .i64 f] w fun e w' => e = .returned (.bool true) ∧ Touch [m1, m2] w w' ∧
    CacheAt w' p m1 m2 (updL l k (f, false)) (updL r f k) := by
  have hps := h.ps
  have hc := there_walk _ p m1 m2 l r (h.below ((Below.refl _ _).alloc (Nat.le_refl _) (.cells #[.int .i64 k.1, .int .i64 k.2] 23))) k
  rw [hy] at hc
  simp only [Option.getD_none, Option.isSome_none] at hc
  have HC := Lib.hid hc
  have HH := Lib.hid h
  have HF := Lib.hid hf
  have HY := Lib.hid hy
  clear hc h hy hf
  go_enter Try.func17, Try.ntmps17
  go_wp2_with fail
  refine HC.out.mono ?_
  rintro e w1 ⟨rfl, hb⟩
  have hk0 : w1.cell? ⟨w.heap.size, 0, none⟩ = some (.int .i64 k.1) := (hb.cell (p := ⟨w.heap.size, 0, none⟩) (by simp)).trans (by go_simp)
  have hk1 : w1.cell? ⟨w.heap.size, 1, none⟩ = some (.int .i64 k.2) := (hb.cell (p := ⟨w.heap.size, 1, none⟩) (by simp)).trans (by go_simp)
  have hlt : w.heap.size < w1.heap.size := by have := hb.size; simp at this; omega
  have HB := Lib.hid (((Below.refl _ w).alloc (Nat.le_refl _) _).trans (hb.mono (by simp)))
  clear hb
  obtain ⟨c0, c1, hM, hR, hne⟩ := HH.out.below HB.out
  have hpl : p < w1.heap.size := World.block_lt_of_cell? w1 _ c0
  have hm1 : m1 < w1.heap.size := hM.lt
  have run : ∀ o, (Instr.lookup 79 (.map (some m2)) (.int .i64 f) true).run Try.prog (w1.alloc o) = .ok (.tuple #[.agg #[.int .i64 0, .int .i64 0], .bool false]) (w1.alloc o) := fun o => by
    have := lookup_run (T := 79) lawOf Try.underlying79 (encPair (0, 0)) zeroKey (hR.below ((Below.refl _ _).alloc (Nat.le_refl _) o)) f true
    rw [if_pos rfl, HF.out] at this
    exact this
  have hbel : Below w1.heap.size w1 ((w1.alloc (.cells #[.int .i64 0, .bool false] 83)).alloc (.cells #[.int .i64 0, .int .i64 0] 23)).drew := (((Below.refl _ _).alloc (Nat.le_refl _) _).alloc (by simp) _).drew
  have HM := Lib.hid hM
  have HR := Lib.hid hR
  have HNE := Lib.hid hne
  clear hM hR hne
  unfold encWhere
  go_wp2_with fail
  generalize (w1.alloc (.cells #[.int .i64 0, .bool false] 83)).alloc (.cells #[.int .i64 0, .int .i64 0] 23) = W at hbel ⊢
  have hW0 : W.cell? ⟨p, 0, none⟩ = some (.map (some m1)) := (hbel.cell hpl).trans c0
  have hW1 : W.cell? ⟨p, 1, none⟩ = some (.map (some m2)) := (hbel.cell hpl).trans c1
  have hW2 : W.cell? ⟨w.heap.size, 0, none⟩ = some (.int .i64 k.1) := (hbel.cell hlt).trans hk0
  have hW3 : W.cell? ⟨w.heap.size, 1, none⟩ = some (.int .i64 k.2) := (hbel.cell hlt).trans hk1
  -- the entries of the two maps
  obtain ⟨w2, s2, hr2, g2, z2, st2⟩ := entry_run (T := 78) lawBy Try.underlying78 (encWhere (0, false)) zeroWhere (HM.out.below hbel) k
  obtain ⟨w3, hr3, M3, g3, z3⟩ := st2 (f, false) 78 w2 rfl
  have R3 : MapAt w3 m2 encInt encPair r := ((HR.out.below hbel).grown g2 (by simp; exact Ne.symm HNE.out)).grown g3 (by simp; exact Ne.symm HNE.out)
  obtain ⟨w4, s4, hr4, g4, z4, st4⟩ := entry_run (T := 79) lawOf Try.underlying79 (encPair (0, 0)) zeroKey R3 f
  obtain ⟨w5, hr5, M5, g5, z5⟩ := st4 k 79 w4 rfl
  rw [HY.out] at hr2
  rw [HF.out] at hr4
  have hWp : w.heap.size < W.heap.size := Nat.lt_of_lt_of_le hlt hbel.size
  have kk : ∀ (a b : World) (m : Nat), a.grownBy b (some m) → m ≠ w.heap.size → w.heap.size < a.heap.size → ∀ j, b.cell? ⟨w.heap.size, j, none⟩ = a.cell? ⟨w.heap.size, j, none⟩ := fun a b m g hn hl j => World.cell?_of_block (w := a) (g.block w.heap.size hl (by simp; omega))
  have n1 : m1 ≠ w.heap.size := by omega
  have n2 : m2 ≠ w.heap.size := by omega
  have y20 := (kk _ _ _ g2 n1 hWp 0).trans hW2
  have y21 := (kk _ _ _ g2 n1 hWp 1).trans hW3
  have l2 : w.heap.size < w2.heap.size := Nat.lt_of_lt_of_le hWp g2.size
  have y30 := (kk _ _ _ g3 n1 l2 0).trans y20
  have y31 := (kk _ _ _ g3 n1 l2 1).trans y21
  have l3 : w.heap.size < w3.heap.size := Nat.lt_of_lt_of_le l2 g3.size
  have y40 := (kk _ _ _ g4 n2 l3 0).trans y30
  have y41 := (kk _ _ _ g4 n2 l3 1).trans y31
  have ht : Touch [m1, m2] w w5 := (Touch.of_below (HB.out.trans (hbel.mono HB.out.size))).trans (((Touch.of_grown g2 (by simp)).trans (.of_grown g3 (by simp))).trans ((Touch.of_grown g4 (by simp)).trans (.of_grown g5 (by simp))))
  have hM5 : MapAt w5 m1 encPair encWhere (updL l k (f, false)) := (M3.grown g4 (by simp; exact HNE.out)).grown g5 (by simp; exact HNE.out)
  have HT := Lib.hid ht
  have HM5 := Lib.hid hM5
  have HR5 := Lib.hid M5
  clear ht hM5 M5 st4 st2 g2 g3 g4 g5 z2 z3 z4 z5 M3 R3 kk
  unfold encPair at hr2 hr5 hr4
  unfold encInt at hr4
  unfold encWhere at hr2 hr3
  go_region
  all_goals go_wp2_with fail
  go_ret
  exact ⟨rfl, HT.out, HH.out.both HT.out HM5.out HR5.out⟩
end
end Go.Proofs.Ytflbidbnbfndgaa
