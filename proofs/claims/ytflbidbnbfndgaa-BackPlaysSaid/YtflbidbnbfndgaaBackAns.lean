/- The back laws' function 'answers' returns true; nothing that was there has changed. BackNone. -/
import Derived.Test.YtflbidbnbfndgaaBackMove
namespace Go.Proofs.Ytflbidbnbfndgaa
open Go Go.RowKit

variable {K : Int → Prop}

/-- Who has what, in blocks from a number on, and a slice of places apart from it. -/
def BTwo (K : Int → Prop) (B : Nat) (w : World) (p : Nat) (L : Int → List (Int × Int)) (v : Value) (l : List (Int × Int)) : Prop :=
  ∃ m S V, BackAt K w p m S V L ∧ (∀ i ∈ S, B ≤ i ∧ i < w.heap.size) ∧ PlAt w v l ∧ ∀ b, v.ownBlock = some b → B ≤ b ∧ b ∉ S

section
variable {B : Nat} {w w' : World} {p : Nat} {L : Int → List (Int × Int)} {v : Value} {l : List (Int × Int)}
theorem BTwo.list (h : BTwo K B w p L v l) : PlAt w v l := by
  obtain ⟨_, S, V, _, _, h3, _⟩ := h
  exact h3
theorem BTwo.below (h : BTwo K B w p L v l) (hb : Below w.heap.size w w') : BTwo K B w' p L v l := by
  obtain ⟨m, S, V, h1, h2, h3, h4⟩ := h
  exact ⟨m, S, V, h1.below hb, fun i hi => ⟨(h2 i hi).1, Nat.lt_of_lt_of_le (h2 i hi).2 hb.size⟩, h3.below hb, h4⟩

theorem Touch.belowFrom' {S : List Nat} {B : Nat} {b c : World} (k : Touch S b c) (hs : ∀ i ∈ S, B ≤ i) (hB : B ≤ b.heap.size) : Below B b c := Touch.from (Below.refl B b) k hB hs

theorem BTwo.turn {L' : Int → List (Int × Int)} {m : Nat} {S S' : List Nat} {V' : List (Int × Value)}
    (h2 : ∀ i ∈ S, B ≤ i ∧ i < w.heap.size) (h3 : PlAt w v l) (h4 : ∀ b, v.ownBlock = some b → B ≤ b ∧ b ∉ S) (hB : B ≤ w.heap.size) (h : BackAt K w' p m S' V' L') (t : Touch S w w') (hS : ∀ b ∈ S', b ∈ S ∨ w.heap.size ≤ b) :
    BTwo K B w' p L' v l ∧ Below B w w' := by
  refine ⟨⟨m, _, V', h.small, fun i hi => ?_, h3.touch t (fun b hb => (h4 b hb).2), fun b hb => ⟨(h4 b hb).1, fun hm => ?_⟩⟩, t.belowFrom' (fun i hi => (h2 i hi).1) hB⟩
  · simp at hi
    exact ⟨(hS i hi.1).elim (fun e => (h2 i e).1) (by omega), hi.2⟩
  · simp at hm
    have hlt := SlAt.lt h3 b hb
    exact (hS b hm.1).elim (h4 b hb).2 (by omega)

theorem BTwo.add (h : BTwo K B w p L v l) (hB : B ≤ w.heap.size) (f : Int) (x : Int × Int) (hs : SortedP (L f)) (hlen : (L f).length ≤ 100000) (hK : K f) :
    Calls Try.prog 26 #[.pointer (some ⟨p, 0, none⟩), .int .i64 f, .agg #[.int .i64 x.1, .int .i64 x.2]] w fun e w' => e = .returned (.tuple #[]) ∧ BTwo K B w' p (updF L f (putP (L f) x)) v l ∧ Below B w w' := by
  obtain ⟨m, S, V, h1, h2, h3, h4⟩ := h
  refine (BAdd_walk w p m S V L h1 f x hs hlen hK).mono ?_
  rintro e w' ⟨rfl, S', V', h5, h6, h7⟩
  exact ⟨rfl, BTwo.turn h2 h3 h4 hB h5 h6 h7⟩
theorem BTwo.drop (h : BTwo K B w p L v l) (hB : B ≤ w.heap.size) (f : Int) (x : Int × Int) (hlen : (L f).length ≤ 100000) (hK : K f) :
    Calls Try.prog 43 #[.pointer (some ⟨p, 0, none⟩), .int .i64 f, .agg #[.int .i64 x.1, .int .i64 x.2]] w fun e w' => e = .returned (.bool (decide (x ∈ L f))) ∧ BTwo K B w' p (updF L f ((L f).erase x)) v l ∧ Below B w w' := by
  obtain ⟨m, S, V, h1, h2, h3, h4⟩ := h
  refine (BDrop_walk w p m S V L h1 f x hlen hK).mono ?_
  rintro e w' ⟨rfl, S', V', h5, h6, h7⟩
  exact ⟨rfl, BTwo.turn h2 h3 h4 hB h5 h6 h7⟩
theorem BTwo.of (h : BTwo K B w p L v l) (f : Int) (hlen : (L f).length ≤ 1000000) :
    Calls Try.prog 30 #[.pointer (some ⟨p, 0, none⟩), .int .i64 f] w fun e w' => ∃ v', e = .returned v' ∧ PlAt w' v' (L f) ∧ BTwo K B w' p L v l ∧ Below w.heap.size w w' := by
  have h0 := h
  obtain ⟨m, S, V, h1, h2, h3, h4⟩ := h
  refine (BOf_walk w p m S V L h1 f hlen).mono ?_
  rintro e w' ⟨v', rfl, h5, h6, _⟩
  exact ⟨v', rfl, h5, h0.below h6, h6⟩
theorem BTwo.move_no (h : BTwo K B w p L v l) (f g : Int) (hlen : (L f).length ≤ 1000000) (hno : L f = [] ∨ f = g) :
    Calls Try.prog 28 #[.pointer (some ⟨p, 0, none⟩), .int .i64 f, .int .i64 g] w fun e w' => e = .returned (.bool false) ∧ BTwo K B w' p L v l ∧ Below w.heap.size w w' := by
  have h0 := h
  obtain ⟨m, S, V, h1, h2, h3, h4⟩ := h
  refine (BMove_no w p m S V L h1 f g hlen hno).mono ?_
  rintro e w' ⟨rfl, h6⟩
  exact ⟨rfl, h0.below h6, h6⟩
theorem BTwo.move (h : BTwo K B w p L v l) (hB : B ≤ w.heap.size) (f g : Int) (hs : SortedP (L g)) (hlen : (L f).length ≤ 1000 ∧ (L g).length ≤ 1000) (hne : L f ≠ []) (hfg : f ≠ g) (hK : K g) :
    Calls Try.prog 28 #[.pointer (some ⟨p, 0, none⟩), .int .i64 f, .int .i64 g] w fun e w' => e = .returned (.bool true) ∧ BTwo K B w' p (updF (updF L f []) g ((L f).foldl putP (L g))) v l ∧ Below B w w' := by
  obtain ⟨m, S, V, h1, h2, h3, h4⟩ := h
  refine (BMove_yes w p m S V L h1 f g hs hlen hne hfg hK).mono ?_
  rintro e w' ⟨rfl, S', V', h5, h6, h7⟩
  exact ⟨rfl, BTwo.turn h2 h3 h4 hB h5 h6 h7⟩
end

def noF : Int → List (Int × Int) := fun _ => []

theorem BNew_in (w : World) : Calls Try.prog 25 #[] w fun e w' => ∃ p, e = .returned (.pointer (some ⟨p, 0, none⟩)) ∧ BTwo K w.heap.size w' p noF (.slice none 0 0) [] ∧ Below w.heap.size w w' := by
  refine (Back_new (K := K) w).mono ?_
  rintro e w' ⟨p, m, rfl, h1, hp, hm, hb⟩
  have := h1.ps
  refine ⟨p, rfl, ⟨m, _, _, h1, fun i hi => ?_, PlAt.nil _, fun b hb => by simp [Value.ownBlock] at hb⟩, hb⟩
  simp at hi
  rcases hi with rfl | rfl
  · exact ⟨hp, this.1⟩
  · exact ⟨hm, this.2.1⟩

theorem backAnswers (w : World) : Calls Try.prog 24 #[] w fun e w' => e = .returned (.bool true) ∧ Below w.heap.size w w' := by
  go_enter Try.func24, Try.ntmps24
  go_wp2_with fail
  refine (BNew_in (K := fun _ => True) w).mono ?_
  rintro e w1 ⟨p, rfl, h1, b1⟩
  have HB1 := Lib.hid b1
  have H1 := Lib.hid h1
  clear b1 h1
  go_wp2_with fail
  refine (H1.out.add HB1.out.size 5 (1, 2) (by simp [SortedP, noF]) (by simp [noF]) trivial).mono ?_
  have e1 : updF noF 5 (putP (noF 5) ((1 : Int), (2 : Int))) = updF noF 5 [(1, 2)] := by
    have : putP (noF 5) ((1 : Int), (2 : Int)) = [(1, 2)] := by decide
    rw [this]
  rw [e1]
  rintro e w2 ⟨rfl, h2, b2⟩
  have H2 := Lib.hid h2
  have HB2 := Lib.hid (HB1.out.trans b2)
  clear h2 b2
  go_wp2_with fail
  have eo := H2.out.of 5 (by rw [updF_at]; simp)
  rw [updF_at] at eo
  refine eo.mono ?_
  clear eo
  rintro e w3 ⟨v3, rfl, hp3, h3, b3⟩
  obtain ⟨a3, c3, rfl, _, _⟩ := SlAt.form hp3
  have H3 := Lib.hid h3
  have HB3 := Lib.hid (HB2.out.trans (b3.mono HB2.out.size))
  clear h3 b3 hp3
  go_wp2_with fail
  have ed := H3.out.drop HB3.out.size 5 (1, 2) (by rw [updF_at]; simp) trivial
  rw [updF_at, updF_twice] at ed
  have ed1 : decide (((1 : Int), (2 : Int)) ∈ [((1 : Int), (2 : Int))]) = true := by decide
  have ed2 : ([((1 : Int), (2 : Int))]).erase (1, 2) = [] := by decide
  rw [ed1, ed2] at ed
  refine ed.mono ?_
  clear ed
  rintro e w4 ⟨rfl, h4, b4⟩
  have H4 := Lib.hid h4
  have HB4 := Lib.hid (HB3.out.trans b4)
  clear h4 b4
  go_wp2_with fail
  have eo := H4.out.of 5 (by rw [updF_at]; simp)
  rw [updF_at] at eo
  refine eo.mono ?_
  clear eo
  rintro e w5 ⟨v5, rfl, hp5, h5, b5⟩
  obtain ⟨a5, c5, rfl, _, _⟩ := SlAt.form hp5
  have HB5 := Lib.hid (HB4.out.trans (b5.mono HB4.out.size))
  clear h5 b5 hp5
  go_wp2_with fail
  go_ret
  exact ⟨rfl, HB5.out⟩

theorem none_back (n : Int) (x : Int × Int) (w : World) : Calls Try.prog 14 #[.int .i64 n, .agg #[.int .i64 x.1, .int .i64 x.2]] w fun e w' => e = .returned (.bool true) ∧ Below w.heap.size w w' := by
  obtain ⟨x1, x2⟩ := x
  go_enter Try.func14, Try.ntmps14
  go_wp2_with fail
  have q0 : (w.alloc (.cells #[.int .i64 x1, .int .i64 x2] 40)).cell? ⟨w.heap.size, 0, none⟩ = some (.int .i64 x1) := by go_simp
  have q1 : (w.alloc (.cells #[.int .i64 x1, .int .i64 x2] 40)).cell? ⟨w.heap.size, 1, none⟩ = some (.int .i64 x2) := by go_simp
  have HB0 := Lib.hid ((Below.refl w.heap.size w).alloc (Nat.le_refl _) (.cells #[.int .i64 x1, .int .i64 x2] 40))
  generalize w.alloc (.cells #[.int .i64 x1, .int .i64 x2] 40) = W at *
  refine (BAdd_nil _ n (x1, x2)).mono ?_
  rintro e w3 ⟨rfl, b3⟩
  have q0 := (b3.cell (World.block_lt_of_cell? _ _ q0)).trans q0
  have q1 := (b3.cell (World.block_lt_of_cell? _ _ q1)).trans q1
  have HB3 := Lib.hid (HB0.out.trans (b3.mono HB0.out.size))
  clear b3 HB0
  go_wp2_with fail
  refine (backAnswers _).mono ?_
  rintro e w2 ⟨rfl, b2⟩
  have q0 := (b2.cell (World.block_lt_of_cell? _ _ q0)).trans q0
  have q1 := (b2.cell (World.block_lt_of_cell? _ _ q1)).trans q1
  have HB2 := Lib.hid (HB3.out.trans (b2.mono HB3.out.size))
  clear b2 HB3
  go_wp2_with fail
  refine (BDrop_nil _ n (x1, x2)).mono ?_
  rintro e w4 ⟨rfl, b4⟩
  have q0 := (b4.cell (World.block_lt_of_cell? _ _ q0)).trans q0
  have q1 := (b4.cell (World.block_lt_of_cell? _ _ q1)).trans q1
  have HB4 := Lib.hid (HB2.out.trans (b4.mono HB2.out.size))
  clear b4 HB2
  go_wp2_with fail
  refine (BOf_nil _ n).mono ?_
  rintro e w5 ⟨rfl, rfl⟩
  go_wp2_with fail
  refine (BFrames_nil _ x1).mono ?_
  rintro e w6 ⟨rfl, b6⟩
  have q0 := (b6.cell (World.block_lt_of_cell? _ _ q0)).trans q0
  have q1 := (b6.cell (World.block_lt_of_cell? _ _ q1)).trans q1
  have HB6 := Lib.hid (HB4.out.trans (b6.mono HB4.out.size))
  clear b6 HB4
  go_wp2_with fail
  refine (BMove_nil _ n _).mono ?_
  rintro e w7 ⟨rfl, rfl⟩
  go_wp2_with fail
  go_ret
  exact ⟨rfl, HB6.out⟩
theorem backNone_row (n : Int) (x1 x2 : Int) (w : World) (_ : (Lit.int .i64 n).wf = true) (_ : (Lit.int .i64 x1).wf = true) (_ : (Lit.int .i64 x2).wf = true) :
    Calls Try.prog 14 #[.int .i64 n, .agg [.int .i64 x1, .int .i64 x2].toArray] w fun e w' => e = .returned (.bool true) ∧ Below w.heap.size w w' := none_back n (x1, x2) w
end Go.Proofs.Ytflbidbnbfndgaa
