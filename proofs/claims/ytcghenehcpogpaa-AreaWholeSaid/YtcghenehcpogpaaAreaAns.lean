/- Areas: the law's answers; which areas may be. -/
import Derived.Test.YtcghenehcpogpaaAreaIns
namespace Go.Proofs.Ytcghenehcpogpaa
open Go Go.RowKit

theorem add_one (w : World) : Calls Try.prog 12 #[.slice none 0 0, .agg #[.int .i64 2, .int .i64 5, .bool false, .int .i64 1, .int .i64 0, .int .i64 0]] w fun e w' => ∃ a c, e = .returned (.tuple #[.slice a 1 c, .int .i64 0]) ∧ Below w.heap.size w w' ∧ ArAt w' (.slice a 1 c) [⟨2, 5, false, 1, 0, 0⟩] := by
  refine (Add_walk w (.slice none 0 0) [] (ArRd.nil w) ⟨2, 5, false, 1, 0, 0⟩ (by unfold Ar.Wf; decide) (by simp)).mono ?_
  rintro e w' ⟨v', x, rfl, hb, _, hp⟩
  obtain ⟨rfl, l', hl, hperm, _⟩ := hp.done (by decide) (by decide) (by decide)
  obtain rfl : l' = [⟨2, 5, false, 1, 0, 0⟩] := List.perm_singleton.1 hperm
  obtain ⟨a, c, rfl, _, _⟩ := SlAt.form hl
  exact ⟨a, c, rfl, hb, hl⟩

theorem cut_one (w : World) (v : Value) (h : ArAt w v [⟨2, 5, false, 1, 0, 0⟩]) : Calls Try.prog 16 #[v, .int .i64 4, .int .i64 1] w fun e w' => ∃ a c, e = .returned (.tuple #[.slice a 2 c, .int .i64 0]) ∧ Below w.heap.size w w' ∧ ArAt w' (.slice a 2 c) [⟨2, 2, false, 1, 0, 0⟩, ⟨5, 2, false, 1, 0, 0⟩] := by
  refine (Cut_walk w v _ h.rd (by intro x hx; obtain rfl := List.mem_singleton.1 hx; decide) (by simp) 4 1).mono ?_
  rintro e w' ⟨v', x, rfl, hb, _, _, hd, _⟩
  have hc : cutA [⟨2, 5, false, 1, 0, 0⟩] 4 1 = [⟨2, 2, false, 1, 0, 0⟩, ⟨5, 2, false, 1, 0, 0⟩] := by decide
  obtain ⟨rfl, hl⟩ := hd (by decide) (by rw [hc]; decide)
  rw [hc] at hl
  obtain ⟨a, c, rfl, _, _⟩ := SlAt.form hl
  exact ⟨a, c, rfl, hb, hl⟩

theorem find_one (w : World) (v : Value) (h : ArAt w v [⟨2, 2, false, 1, 0, 0⟩, ⟨5, 2, false, 1, 0, 0⟩]) : Calls Try.prog 17 #[v, .int .i64 6] w fun e w' => e = .returned (.tuple #[.agg #[.int .i64 5, .int .i64 2, .bool false, .int .i64 1, .int .i64 0, .int .i64 0], .bool true]) ∧ Below w.heap.size w w' :=
  Find_walk w v _ h.rd 6 (by
    intro x hx
    simp only [List.mem_cons, List.not_mem_nil, or_false] at hx
    rcases hx with rfl | rfl <;> decide) (by omega)

set_option maxRecDepth 100000 in
set_option maxHeartbeats 2000000 in
theorem answersA (w : World) : Calls Try.prog 8 #[] w fun e w' => e = .returned (.bool true) ∧ Below w.heap.size w w' := by
  go_enter Try.func8, Try.ntmps8
  go_wp2_with fail
  refine (add_one w).mono ?_
  rintro e w1 ⟨a1, c1, rfl, b1, h1⟩
  have B1 := Lib.hid b1
  have H1 := Lib.hid h1
  clear b1 h1
  go_wp2_with fail
  refine (cut_one w1 _ H1.out).mono ?_
  rintro e w2 ⟨a2, c2, rfl, b2, h2⟩
  have B2 := Lib.hid (B1.out.trans (b2.mono B1.out.size))
  have H2 := Lib.hid h2
  clear b2 h2 B1 H1
  go_wp2_with fail
  refine (find_one w2 _ H2.out).mono ?_
  rintro e w3 ⟨rfl, b3⟩
  have B3 := Lib.hid (B2.out.trans (b3.mono B2.out.size))
  clear b3 B2 H2
  go_wp2_with fail
  go_ret
  exact ⟨rfl, B3.out.alloc B3.out.size _⟩

set_option maxRecDepth 100000 in
set_option maxHeartbeats 2000000 in
theorem sound_row (f p : Int) (wt : Bool) (k fi o : Int) (w : World) (h1 : (Lit.int .i64 f).wf = true) (h2 : (Lit.int .i64 p).wf = true) (h3 : (Lit.int .i64 k).wf = true) (h4 : (Lit.int .i64 fi).wf = true) (h5 : (Lit.int .i64 o).wf = true) :
    Calls Try.prog 3 #[.agg #[.int .i64 f, .int .i64 p, .bool wt, .int .i64 k, .int .i64 fi, .int .i64 o]] w fun e w' => e = .returned (.bool true) ∧ Below w.heap.size w w' := by
  have hs := Lib.hid (fun W => Sound_walk W ⟨f, p, wt, k, fi, o⟩ ⟨h1, h2, h3, h4, h5⟩)
  have hr := Lib.hid (fun W => Sound_ref W ⟨f, p, wt, k, fi, o⟩ ⟨h1, h2, h3, h4, h5⟩)
  generalize decide (Ar.Sound ⟨f, p, wt, k, fi, o⟩) = s at *
  unfold Ar.enc at hs hr
  simp only at hs hr
  clear h1 h2 h3 h4 h5
  go_enter Try.func3, Try.ntmps3
  go_wp2_with fail
  obtain ⟨W, hW⟩ : ∃ W, W = (w.alloc (.cells #[.int .i64 f, .int .i64 p, .bool wt, .int .i64 k, .int .i64 fi, .int .i64 o] 23)).drew := ⟨_, rfl⟩
  have hd : (w.alloc (.cells #[.int .i64 f, .int .i64 p, .bool wt, .int .i64 k, .int .i64 fi, .int .i64 o] 23)).drew = W := hW.symm
  have HW : Hid (Below w.heap.size w W ∧ W.heap[w.heap.size]? = some (.cells #[.int .i64 f, .int .i64 p, .bool wt, .int .i64 k, .int .i64 fi, .int .i64 o] 23 (0, 0))) := by
    rw [hW]
    exact ⟨((Below.refl _ _).alloc (Nat.le_refl _) _).drew, heap_alloc_new w _⟩
  have HQ : Hid (∀ X, Below W.heap.size W X → X.cell? ⟨w.heap.size, 0, none⟩ = some (.int .i64 f) ∧ X.cell? ⟨w.heap.size, 1, none⟩ = some (.int .i64 p) ∧ X.cell? ⟨w.heap.size, 2, none⟩ = some (.bool wt) ∧ X.cell? ⟨w.heap.size, 3, none⟩ = some (.int .i64 k) ∧ X.cell? ⟨w.heap.size, 4, none⟩ = some (.int .i64 fi) ∧ X.cell? ⟨w.heap.size, 5, none⟩ = some (.int .i64 o)) := fun X hX => area_cells ((hX.block w.heap.size (Array.getElem?_eq_some_iff.1 HW.out.2).1).trans HW.out.2)
  obtain ⟨p0, p1, p2, p3, p4, p5⟩ := HQ.out W (Below.refl _ _)
  clear hW
  go_region_held (fun X => X.cell? ⟨w.heap.size, 0, none⟩ = some (.int .i64 f) ∧ X.cell? ⟨w.heap.size, 1, none⟩ = some (.int .i64 p) ∧ X.cell? ⟨w.heap.size, 2, none⟩ = some (.bool wt) ∧ X.cell? ⟨w.heap.size, 3, none⟩ = some (.int .i64 k) ∧ X.cell? ⟨w.heap.size, 4, none⟩ = some (.int .i64 fi) ∧ X.cell? ⟨w.heap.size, 5, none⟩ = some (.int .i64 o)) (go_keep) (first
    | (go_at_call 8
       refine (answersA _).mono ?_
       rintro e X1 ⟨rfl, b⟩
       have B1 := Lib.hid b
       obtain ⟨r0, r1, r2, r3, r4, r5⟩ := HQ.out X1 B1.out
       clear b)
    | (go_at_call 9
       refine (hs.out _).mono ?_
       rintro e X2 ⟨rfl, b⟩
       have B2 := Lib.hid (B1.out.trans (b.mono B1.out.size))
       obtain ⟨y0, y1, y2, y3, y4, y5⟩ := HQ.out X2 B2.out
       clear b)
    | (go_at_call 10
       refine (hr.out _).mono ?_
       rintro e X3 ⟨rfl, b⟩
       have B3 := Lib.hid (B2.out.trans (b.mono B2.out.size))
       obtain ⟨z0, z1, z2, z3, z4, z5⟩ := HQ.out X3 B3.out
       clear b))
  all_goals go_wp2_with fail
  all_goals go_ret
  all_goals exact ⟨by simp, HW.out.1.trans (B3.out.mono HW.out.1.size)⟩
end Go.Proofs.Ytcghenehcpogpaa
