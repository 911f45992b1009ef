/- Areas: what may be one. -/
import Derived.WalkKit
import Derived.Test.YtcghenehcpogpaaProg
import Derived.Lib.Hide
import Derived.KernelRfl
namespace Go.Proofs.Ytcghenehcpogpaa
open Go Go.RowKit

/-- An area. -/
structure Ar where
  from_ : Int
  pages : Int
  write : Bool
  kind : Int
  file : Int
  off : Int
deriving DecidableEq

def Ar.cells (a : Ar) : List Value := [.int .i64 a.from_, .int .i64 a.pages, .bool a.write, .int .i64 a.kind, .int .i64 a.file, .int .i64 a.off]
def Ar.enc (a : Ar) : Value := .agg #[.int .i64 a.from_, .int .i64 a.pages, .bool a.write, .int .i64 a.kind, .int .i64 a.file, .int .i64 a.off]

/-- The numbers of an area are numbers of the program. -/
def Ar.Wf (a : Ar) : Prop := (Lit.int .i64 a.from_).wf = true ∧ (Lit.int .i64 a.pages).wf = true ∧ (Lit.int .i64 a.kind).wf = true ∧ (Lit.int .i64 a.file).wf = true ∧ (Lit.int .i64 a.off).wf = true

def Ar.Sound (a : Ar) : Prop := 1 ≤ a.kind ∧ a.kind ≤ 3 ∧ 0 ≤ a.from_ ∧ 1 ≤ a.pages ∧ a.from_ < 4096 ∧ a.pages ≤ 4096 - a.from_ ∧
  (a.kind = 1 ∧ a.file = 0 ∧ a.off = 0 ∨ a.kind ≠ 1 ∧ 0 ≤ a.file ∧ a.file < 4 ∧ 0 ≤ a.off ∧ a.off < 16 ∧ a.pages ≤ 16 - a.off)
instance (a : Ar) : Decidable a.Sound := inferInstanceAs (Decidable (_ ∧ _ ∧ _ ∧ _ ∧ _ ∧ _ ∧ (_ ∨ _)))

set_option maxHeartbeats 1000000 in
theorem Sound_walk (w : World) (a : Ar) (hw : a.Wf) : Calls Try.prog 9 #[a.enc] w fun e w' => e = .returned (.bool (decide a.Sound)) ∧ Below w.heap.size w w' := by
  obtain ⟨f, p, wr, k, fi, o⟩ := a
  obtain ⟨s, hs⟩ : ∃ s, s = decide (Ar.Sound ⟨f, p, wr, k, fi, o⟩) := ⟨_, rfl⟩
  have HS := Lib.hid hs
  rw [← hs]
  clear hs
  unfold Ar.enc
  simp only
  by_cases c1 : k < 1
  · have hs : s = false := by
      rw [HS.out]
      exact decide_eq_false (by unfold Ar.Sound; simp only; first | omega | (simp; omega) | (have h9 := beq_eq_false_iff_ne.1 d1; omega) | (have h9 := beq_eq_false_iff_ne.1 d2; omega))
    subst hs
    clear HS hw
    go_enter Try.func9, Try.ntmps9
    go_wp2_with fail
    go_ret
    exact ⟨rfl, (Below.refl _ _).alloc (Nat.le_refl _) _⟩
  · have := c1
    have c1' : (1 : Int) ≤ k := by omega
    clear this
    by_cases c2 : 3 < k
    · have hs : s = false := by
        rw [HS.out]
        exact decide_eq_false (by unfold Ar.Sound; simp only; first | omega | (simp; omega) | (have h9 := beq_eq_false_iff_ne.1 d1; omega) | (have h9 := beq_eq_false_iff_ne.1 d2; omega))
      subst hs
      clear HS hw
      go_enter Try.func9, Try.ntmps9
      go_wp2_with fail
      go_ret
      exact ⟨rfl, (Below.refl _ _).alloc (Nat.le_refl _) _⟩
    · have := c2
      have c2' : k ≤ 3 := by omega
      clear this
      by_cases c3 : f < 0
      · have hs : s = false := by
          rw [HS.out]
          exact decide_eq_false (by unfold Ar.Sound; simp only; first | omega | (simp; omega) | (have h9 := beq_eq_false_iff_ne.1 d1; omega) | (have h9 := beq_eq_false_iff_ne.1 d2; omega))
        subst hs
        clear HS hw
        go_enter Try.func9, Try.ntmps9
        go_wp2_with fail
        go_ret
        exact ⟨rfl, (Below.refl _ _).alloc (Nat.le_refl _) _⟩
      · have := c3
        have c3' : (0 : Int) ≤ f := by omega
        clear this
        by_cases c4 : p < 1
        · have hs : s = false := by
            rw [HS.out]
            exact decide_eq_false (by unfold Ar.Sound; simp only; first | omega | (simp; omega) | (have h9 := beq_eq_false_iff_ne.1 d1; omega) | (have h9 := beq_eq_false_iff_ne.1 d2; omega))
          subst hs
          clear HS hw
          go_enter Try.func9, Try.ntmps9
          go_wp2_with fail
          go_ret
          exact ⟨rfl, (Below.refl _ _).alloc (Nat.le_refl _) _⟩
        · have := c4
          have c4' : (1 : Int) ≤ p := by omega
          clear this
          by_cases c5 : 4095 < f
          · have hs : s = false := by
              rw [HS.out]
              exact decide_eq_false (by unfold Ar.Sound; simp only; first | omega | (simp; omega) | (have h9 := beq_eq_false_iff_ne.1 d1; omega) | (have h9 := beq_eq_false_iff_ne.1 d2; omega))
            subst hs
            clear HS hw
            go_enter Try.func9, Try.ntmps9
            go_wp2_with fail
            go_ret
            exact ⟨rfl, (Below.refl _ _).alloc (Nat.le_refl _) _⟩
          · have := c5
            have c5' : f < 4096 := by omega
            have c5q : ¬ 4096 ≤ f := by omega
            have w1 : IntKind.i64.wrap (4096 - f) = 4096 - f := by simp [IntKind.wrap, IntKind.bits, IntKind.signed]; omega
            clear this
            by_cases c6 : 4096 - f < p
            · have hs : s = false := by
                rw [HS.out]
                exact decide_eq_false (by unfold Ar.Sound; simp only; first | omega | (simp; omega) | (have h9 := beq_eq_false_iff_ne.1 d1; omega) | (have h9 := beq_eq_false_iff_ne.1 d2; omega))
              subst hs
              clear HS hw
              go_enter Try.func9, Try.ntmps9
              go_wp2_with fail
              go_ret
              exact ⟨rfl, (Below.refl _ _).alloc (Nat.le_refl _) _⟩
            · have := c6
              have c6' : p ≤ 4096 - f := by omega
              clear this
              by_cases hk : k = 1
              · subst hk
                by_cases d1 : (fi == 0) = false
                · have hs : s = false := by
                    rw [HS.out]
                    exact decide_eq_false (by unfold Ar.Sound; simp only; first | omega | (simp; omega) | (have h9 := beq_eq_false_iff_ne.1 d1; omega) | (have h9 := beq_eq_false_iff_ne.1 d2; omega))
                  subst hs
                  clear HS hw
                  go_enter Try.func9, Try.ntmps9
                  go_wp2_with fail
                  go_ret
                  exact ⟨rfl, (Below.refl _ _).alloc (Nat.le_refl _) _⟩
                · have := d1
                  have d1' : fi = 0 := by simpa using d1
                  clear this
                  by_cases d2 : (o == 0) = false
                  · have hs : s = false := by
                      rw [HS.out]
                      exact decide_eq_false (by unfold Ar.Sound; simp only; first | omega | (simp; omega) | (have h9 := beq_eq_false_iff_ne.1 d1; omega) | (have h9 := beq_eq_false_iff_ne.1 d2; omega))
                    subst hs
                    clear HS hw
                    go_enter Try.func9, Try.ntmps9
                    go_wp2_with fail
                    go_ret
                    exact ⟨rfl, (Below.refl _ _).alloc (Nat.le_refl _) _⟩
                  · have := d2
                    have d2' : o = 0 := by simpa using d2
                    clear this
                    have hs : s = true := by
                      rw [HS.out]
                      exact decide_eq_true (by unfold Ar.Sound; simp only; first | omega | (simp; omega) | (have h9 := beq_eq_false_iff_ne.1 d1; omega) | (have h9 := beq_eq_false_iff_ne.1 d2; omega))
                    subst hs
                    clear HS hw
                    go_enter Try.func9, Try.ntmps9
                    go_wp2_with fail
                    go_ret
                    exact ⟨rfl, (Below.refl _ _).alloc (Nat.le_refl _) _⟩
              · have hk' : ¬ k = 1 := hk
                by_cases d1 : fi < 0
                · have hs : s = false := by
                    rw [HS.out]
                    exact decide_eq_false (by unfold Ar.Sound; simp only; first | omega | (simp; omega) | (have h9 := beq_eq_false_iff_ne.1 d1; omega) | (have h9 := beq_eq_false_iff_ne.1 d2; omega))
                  subst hs
                  clear HS hw
                  go_enter Try.func9, Try.ntmps9
                  go_wp2_with fail
                  go_ret
                  exact ⟨rfl, (Below.refl _ _).alloc (Nat.le_refl _) _⟩
                · have := d1
                  have d1' : (0 : Int) ≤ fi := by omega
                  clear this
                  by_cases d2 : 4 ≤ fi
                  · have hs : s = false := by
                      rw [HS.out]
                      exact decide_eq_false (by unfold Ar.Sound; simp only; first | omega | (simp; omega) | (have h9 := beq_eq_false_iff_ne.1 d1; omega) | (have h9 := beq_eq_false_iff_ne.1 d2; omega))
                    subst hs
                    clear HS hw
                    go_enter Try.func9, Try.ntmps9
                    go_wp2_with fail
                    go_ret
                    exact ⟨rfl, (Below.refl _ _).alloc (Nat.le_refl _) _⟩
                  · have := d2
                    have d2' : fi < 4 := by omega
                    clear this
                    by_cases d3 : o < 0
                    · have hs : s = false := by
                        rw [HS.out]
                        exact decide_eq_false (by unfold Ar.Sound; simp only; first | omega | (simp; omega) | (have h9 := beq_eq_false_iff_ne.1 d1; omega) | (have h9 := beq_eq_false_iff_ne.1 d2; omega))
                      subst hs
                      clear HS hw
                      go_enter Try.func9, Try.ntmps9
                      go_wp2_with fail
                      go_ret
                      exact ⟨rfl, (Below.refl _ _).alloc (Nat.le_refl _) _⟩
                    · have := d3
                      have d3' : (0 : Int) ≤ o := by omega
                      clear this
                      by_cases d4 : 16 ≤ o
                      · have hs : s = false := by
                          rw [HS.out]
                          exact decide_eq_false (by unfold Ar.Sound; simp only; first | omega | (simp; omega) | (have h9 := beq_eq_false_iff_ne.1 d1; omega) | (have h9 := beq_eq_false_iff_ne.1 d2; omega))
                        subst hs
                        clear HS hw
                        go_enter Try.func9, Try.ntmps9
                        go_wp2_with fail
                        go_ret
                        exact ⟨rfl, (Below.refl _ _).alloc (Nat.le_refl _) _⟩
                      · have := d4
                        have d4' : o < 16 := by omega
                        have w2 : IntKind.i64.wrap (16 - o) = 16 - o := by simp [IntKind.wrap, IntKind.bits, IntKind.signed]; omega
                        clear this
                        by_cases d5 : ¬ p ≤ 16 - o
                        · have hs : s = false := by
                            rw [HS.out]
                            exact decide_eq_false (by unfold Ar.Sound; simp only; first | omega | (simp; omega) | (have h9 := beq_eq_false_iff_ne.1 d1; omega) | (have h9 := beq_eq_false_iff_ne.1 d2; omega))
                          subst hs
                          clear HS hw
                          go_enter Try.func9, Try.ntmps9
                          go_wp2_with fail
                          go_ret
                          exact ⟨rfl, (Below.refl _ _).alloc (Nat.le_refl _) _⟩
                        · have := d5
                          have d5' : p ≤ 16 - o := by omega
                          clear this
                          have hs : s = true := by
                            rw [HS.out]
                            exact decide_eq_true (by unfold Ar.Sound; simp only; first | omega | (simp; omega) | (have h9 := beq_eq_false_iff_ne.1 d1; omega) | (have h9 := beq_eq_false_iff_ne.1 d2; omega))
                          subst hs
                          clear HS hw
                          go_enter Try.func9, Try.ntmps9
                          go_wp2_with fail
                          go_ret
                          exact ⟨rfl, (Below.refl _ _).alloc (Nat.le_refl _) _⟩

set_option maxHeartbeats 1000000 in
theorem Sound_ref (w : World) (a : Ar) (hw : a.Wf) : Calls Try.prog 10 #[a.enc] w fun e w' => e = .returned (.bool (decide a.Sound)) ∧ Below w.heap.size w w' := by
  obtain ⟨f, p, wr, k, fi, o⟩ := a
  obtain ⟨s, hs⟩ : ∃ s, s = decide (Ar.Sound ⟨f, p, wr, k, fi, o⟩) := ⟨_, rfl⟩
  have HS := Lib.hid hs
  rw [← hs]
  clear hs
  unfold Ar.enc
  simp only
  by_cases c1 : k < 1
  · have hs : s = false := by
      rw [HS.out]
      exact decide_eq_false (by unfold Ar.Sound; simp only; first | omega | (simp; omega) | (have h9 := beq_eq_false_iff_ne.1 d1; omega) | (have h9 := beq_eq_false_iff_ne.1 d2; omega))
    subst hs
    clear HS hw
    go_enter Try.func10, Try.ntmps10
    go_wp2_with fail
    go_ret
    exact ⟨rfl, (Below.refl _ _).alloc (Nat.le_refl _) _⟩
  · have := c1
    have c1' : (1 : Int) ≤ k := by omega
    clear this
    by_cases c2 : 3 < k
    · have hs : s = false := by
        rw [HS.out]
        exact decide_eq_false (by unfold Ar.Sound; simp only; first | omega | (simp; omega) | (have h9 := beq_eq_false_iff_ne.1 d1; omega) | (have h9 := beq_eq_false_iff_ne.1 d2; omega))
      subst hs
      clear HS hw
      go_enter Try.func10, Try.ntmps10
      go_wp2_with fail
      go_ret
      exact ⟨rfl, (Below.refl _ _).alloc (Nat.le_refl _) _⟩
    · have := c2
      have c2' : k ≤ 3 := by omega
      clear this
      by_cases c3 : f < 0
      · have hs : s = false := by
          rw [HS.out]
          exact decide_eq_false (by unfold Ar.Sound; simp only; first | omega | (simp; omega) | (have h9 := beq_eq_false_iff_ne.1 d1; omega) | (have h9 := beq_eq_false_iff_ne.1 d2; omega))
        subst hs
        clear HS hw
        go_enter Try.func10, Try.ntmps10
        go_wp2_with fail
        go_ret
        exact ⟨rfl, (Below.refl _ _).alloc (Nat.le_refl _) _⟩
      · have := c3
        have c3' : (0 : Int) ≤ f := by omega
        clear this
        by_cases c4 : p < 1
        · have hs : s = false := by
            rw [HS.out]
            exact decide_eq_false (by unfold Ar.Sound; simp only; first | omega | (simp; omega) | (have h9 := beq_eq_false_iff_ne.1 d1; omega) | (have h9 := beq_eq_false_iff_ne.1 d2; omega))
          subst hs
          clear HS hw
          go_enter Try.func10, Try.ntmps10
          go_wp2_with fail
          go_ret
          exact ⟨rfl, (Below.refl _ _).alloc (Nat.le_refl _) _⟩
        · have := c4
          have c4' : (1 : Int) ≤ p := by omega
          clear this
          by_cases c5 : 4095 < f
          · have hs : s = false := by
              rw [HS.out]
              exact decide_eq_false (by unfold Ar.Sound; simp only; first | omega | (simp; omega) | (have h9 := beq_eq_false_iff_ne.1 d1; omega) | (have h9 := beq_eq_false_iff_ne.1 d2; omega))
            subst hs
            clear HS hw
            go_enter Try.func10, Try.ntmps10
            go_wp2_with fail
            go_ret
            exact ⟨rfl, (Below.refl _ _).alloc (Nat.le_refl _) _⟩
          · have := c5
            have c5' : f < 4096 := by omega
            have c5q : ¬ 4096 ≤ f := by omega
            have w1 : IntKind.i64.wrap (4096 - f) = 4096 - f := by simp [IntKind.wrap, IntKind.bits, IntKind.signed]; omega
            clear this
            by_cases c6 : 4096 - f < p
            · have hs : s = false := by
                rw [HS.out]
                exact decide_eq_false (by unfold Ar.Sound; simp only; first | omega | (simp; omega) | (have h9 := beq_eq_false_iff_ne.1 d1; omega) | (have h9 := beq_eq_false_iff_ne.1 d2; omega))
              subst hs
              clear HS hw
              go_enter Try.func10, Try.ntmps10
              go_wp2_with fail
              go_ret
              exact ⟨rfl, (Below.refl _ _).alloc (Nat.le_refl _) _⟩
            · have := c6
              have c6' : p ≤ 4096 - f := by omega
              clear this
              by_cases hk : k = 1
              · subst hk
                by_cases d1 : (fi == 0) = false
                · have hs : s = false := by
                    rw [HS.out]
                    exact decide_eq_false (by unfold Ar.Sound; simp only; first | omega | (simp; omega) | (have h9 := beq_eq_false_iff_ne.1 d1; omega) | (have h9 := beq_eq_false_iff_ne.1 d2; omega))
                  subst hs
                  clear HS hw
                  go_enter Try.func10, Try.ntmps10
                  go_wp2_with fail
                  go_ret
                  exact ⟨rfl, (Below.refl _ _).alloc (Nat.le_refl _) _⟩
                · have := d1
                  have d1' : fi = 0 := by simpa using d1
                  clear this
                  by_cases d2 : (o == 0) = false
                  · have hs : s = false := by
                      rw [HS.out]
                      exact decide_eq_false (by unfold Ar.Sound; simp only; first | omega | (simp; omega) | (have h9 := beq_eq_false_iff_ne.1 d1; omega) | (have h9 := beq_eq_false_iff_ne.1 d2; omega))
                    subst hs
                    clear HS hw
                    go_enter Try.func10, Try.ntmps10
                    go_wp2_with fail
                    go_ret
                    exact ⟨rfl, (Below.refl _ _).alloc (Nat.le_refl _) _⟩
                  · have := d2
                    have d2' : o = 0 := by simpa using d2
                    clear this
                    have hs : s = true := by
                      rw [HS.out]
                      exact decide_eq_true (by unfold Ar.Sound; simp only; first | omega | (simp; omega) | (have h9 := beq_eq_false_iff_ne.1 d1; omega) | (have h9 := beq_eq_false_iff_ne.1 d2; omega))
                    subst hs
                    clear HS hw
                    go_enter Try.func10, Try.ntmps10
                    go_wp2_with fail
                    go_ret
                    exact ⟨rfl, (Below.refl _ _).alloc (Nat.le_refl _) _⟩
              · have hk' : ¬ k = 1 := hk
                by_cases d1 : fi < 0
                · have hs : s = false := by
                    rw [HS.out]
                    exact decide_eq_false (by unfold Ar.Sound; simp only; first | omega | (simp; omega) | (have h9 := beq_eq_false_iff_ne.1 d1; omega) | (have h9 := beq_eq_false_iff_ne.1 d2; omega))
                  subst hs
                  clear HS hw
                  go_enter Try.func10, Try.ntmps10
                  go_wp2_with fail
                  go_ret
                  exact ⟨rfl, (Below.refl _ _).alloc (Nat.le_refl _) _⟩
                · have := d1
                  have d1' : (0 : Int) ≤ fi := by omega
                  clear this
                  by_cases d2 : 4 ≤ fi
                  · have hs : s = false := by
                      rw [HS.out]
                      exact decide_eq_false (by unfold Ar.Sound; simp only; first | omega | (simp; omega) | (have h9 := beq_eq_false_iff_ne.1 d1; omega) | (have h9 := beq_eq_false_iff_ne.1 d2; omega))
                    subst hs
                    clear HS hw
                    go_enter Try.func10, Try.ntmps10
                    go_wp2_with fail
                    go_ret
                    exact ⟨rfl, (Below.refl _ _).alloc (Nat.le_refl _) _⟩
                  · have := d2
                    have d2' : fi < 4 := by omega
                    clear this
                    by_cases d3 : o < 0
                    · have hs : s = false := by
                        rw [HS.out]
                        exact decide_eq_false (by unfold Ar.Sound; simp only; first | omega | (simp; omega) | (have h9 := beq_eq_false_iff_ne.1 d1; omega) | (have h9 := beq_eq_false_iff_ne.1 d2; omega))
                      subst hs
                      clear HS hw
                      go_enter Try.func10, Try.ntmps10
                      go_wp2_with fail
                      go_ret
                      exact ⟨rfl, (Below.refl _ _).alloc (Nat.le_refl _) _⟩
                    · have := d3
                      have d3' : (0 : Int) ≤ o := by omega
                      clear this
                      by_cases d4 : 16 ≤ o
                      · have hs : s = false := by
                          rw [HS.out]
                          exact decide_eq_false (by unfold Ar.Sound; simp only; first | omega | (simp; omega) | (have h9 := beq_eq_false_iff_ne.1 d1; omega) | (have h9 := beq_eq_false_iff_ne.1 d2; omega))
                        subst hs
                        clear HS hw
                        go_enter Try.func10, Try.ntmps10
                        go_wp2_with fail
                        go_ret
                        exact ⟨rfl, (Below.refl _ _).alloc (Nat.le_refl _) _⟩
                      · have := d4
                        have d4' : o < 16 := by omega
                        have w2 : IntKind.i64.wrap (16 - o) = 16 - o := by simp [IntKind.wrap, IntKind.bits, IntKind.signed]; omega
                        clear this
                        by_cases d5 : ¬ p ≤ 16 - o
                        · have hs : s = false := by
                            rw [HS.out]
                            exact decide_eq_false (by unfold Ar.Sound; simp only; first | omega | (simp; omega) | (have h9 := beq_eq_false_iff_ne.1 d1; omega) | (have h9 := beq_eq_false_iff_ne.1 d2; omega))
                          subst hs
                          clear HS hw
                          go_enter Try.func10, Try.ntmps10
                          go_wp2_with fail
                          go_ret
                          exact ⟨rfl, (Below.refl _ _).alloc (Nat.le_refl _) _⟩
                        · have := d5
                          have d5' : p ≤ 16 - o := by omega
                          clear this
                          have hs : s = true := by
                            rw [HS.out]
                            exact decide_eq_true (by unfold Ar.Sound; simp only; first | omega | (simp; omega) | (have h9 := beq_eq_false_iff_ne.1 d1; omega) | (have h9 := beq_eq_false_iff_ne.1 d2; omega))
                          subst hs
                          clear HS hw
                          go_enter Try.func10, Try.ntmps10
                          go_wp2_with fail
                          go_ret
                          exact ⟨rfl, (Below.refl _ _).alloc (Nat.le_refl _) _⟩
end Go.Proofs.Ytcghenehcpogpaa
