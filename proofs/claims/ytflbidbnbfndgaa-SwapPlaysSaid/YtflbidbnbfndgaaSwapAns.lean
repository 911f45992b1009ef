/- The swap laws' function 'answers' returns true; nothing that was there has changed. -/
import Derived.Test.YtflbidbnbfndgaaSwap3
namespace Go.Proofs.Ytflbidbnbfndgaa
open Go Go.RowKit

/-- 32 slots that nobody holds. -/
def noL : List (List (Int × Int)) := List.replicate 32 []

theorem heldN_noL : heldN noL = 0 := by simp [heldN, noL]

/-- A swap in blocks from a number on. -/
def SwapIn (B : Nat) (w : World) (p : Nat) (L : List (List (Int × Int))) : Prop := ∃ S V, SwapAt w p S V L ∧ ∀ b ∈ S, B ≤ b

theorem Touch.belowFrom {S : List Nat} {B : Nat} {b c : World} (k : Touch S b c) (hs : ∀ i ∈ S, B ≤ i) (hB : B ≤ b.heap.size) : Below B b c := Touch.from (Below.refl B b) k hB hs

theorem SwapIn.below {B : Nat} {w w' : World} {p : Nat} {L : List (List (Int × Int))} (h : SwapIn B w p L) (hb : Below w.heap.size w w') : SwapIn B w' p L := by
  obtain ⟨S, V, h1, h2⟩ := h
  exact ⟨S, V, h1.below hb, h2⟩

theorem New_in (w : World) : Calls Try.prog 31 #[] w fun e w' => e = .returned (.pointer (some ⟨w.heap.size, 0, none⟩)) ∧ SwapIn w.heap.size w' w.heap.size noL ∧ Below w.heap.size w w' :=
  (Swap_new w).mono fun _ _ ⟨he, h1, h2, _⟩ => ⟨he, ⟨_, _, h1, by simp⟩, h2⟩

theorem Hold_in {B : Nat} {w : World} {p : Nat} {L : List (List (Int × Int))} (h : SwapIn B w p L) (hB : B ≤ w.heap.size) (k : Nat) (i : Int) (hi : i = k) (l : List (Int × Int)) (hl : L[k]? = some l) (x : Int × Int) (hs : SortedP l) (hlen : l.length ≤ 100000) :
    Calls Try.prog 33 #[.pointer (some ⟨p, 0, none⟩), .int .i64 i, .agg #[.int .i64 x.1, .int .i64 x.2]] w fun e w' => e = .returned (.bool true) ∧ SwapIn B w' p (L.set k (putP l x)) ∧ Below B w w' := by
  obtain ⟨S, V, h1, h2⟩ := h
  subst hi
  refine (Hold_walk w p S V L h1 k l hl x hs hlen).mono ?_
  rintro e w' ⟨rfl, S', V', h3, h4, h5⟩
  exact ⟨rfl, ⟨S', V', h3, fun b hb => (h5 b hb).elim (h2 b) (by omega)⟩, h4.belowFrom h2 hB⟩

theorem Release_in {B : Nat} {w : World} {p : Nat} {L : List (List (Int × Int))} (h : SwapIn B w p L) (hB : B ≤ w.heap.size) (k : Nat) (i : Int) (hi : i = k) (l : List (Int × Int)) (hl : L[k]? = some l) (x : Int × Int) (hlen : l.length ≤ 100000) :
    Calls Try.prog 36 #[.pointer (some ⟨p, 0, none⟩), .int .i64 i, .agg #[.int .i64 x.1, .int .i64 x.2]] w fun e w' => e = .returned (.bool (decide (x ∈ l))) ∧ SwapIn B w' p (L.set k (l.erase x)) ∧ Below B w w' := by
  obtain ⟨S, V, h1, h2⟩ := h
  subst hi
  refine (Release_walk w p S V L h1 k l hl x hlen).mono ?_
  rintro e w' ⟨rfl, S', V', h3, h4, h5⟩
  exact ⟨rfl, ⟨S', V', h3, fun b hb => (h5 b hb).elim (h2 b) (by omega)⟩, h4.belowFrom h2 hB⟩

theorem Used_in {B : Nat} {w : World} {p : Nat} {L : List (List (Int × Int))} (h : SwapIn B w p L) (hlen : ∀ l ∈ L, l.length ≤ 1000000) :
    Calls Try.prog 35 #[.pointer (some ⟨p, 0, none⟩)] w fun e w' => e = .returned (.int .i64 (heldN L)) ∧ SwapIn B w' p L ∧ Below w.heap.size w w' := by
  obtain ⟨S, V, h1, h2⟩ := h
  exact (Used_walk w p S V L h1 hlen).mono fun _ _ ⟨he, hb⟩ => ⟨he, ⟨S, V, h1.below hb, h2⟩, hb⟩

theorem Take_in {B : Nat} {w : World} {p : Nat} {L : List (List (Int × Int))} (h : SwapIn B w p L) :
    Calls Try.prog 32 #[.pointer (some ⟨p, 0, none⟩)] w fun e w' => e = .returned (.tuple #[.int .i64 (takeR L).1, .bool (takeR L).2]) ∧ w' = w := by
  obtain ⟨S, V, h1, h2⟩ := h
  exact Take_walk w p S V L h1

theorem swapAnswers (w : World) : Calls Try.prog 34 #[] w fun e w' => e = .returned (.bool true) ∧ Below w.heap.size w w' := by
  go_enter Try.func34, Try.ntmps34
  go_wp2_with fail
  refine (New_in w).mono ?_
  rintro e w1 ⟨rfl, h1, b1⟩
  have HB1 := Lib.hid b1
  have H1 := Lib.hid h1
  clear b1 h1
  go_wp2_with fail
  refine (Take_in H1.out).mono ?_
  have e1 : takeR noL = (0, true) := by decide
  rw [e1]
  rintro e w2 ⟨rfl, rfl⟩
  go_wp2_with fail
  refine (Hold_in H1.out HB1.out.size 0 _ rfl [] (by simp [noL]) (1, 0) (by simp [SortedP]) (by simp)).mono ?_
  have e2 : putP [] ((1 : Int), (0 : Int)) = [(1, 0)] := by decide
  rw [e2]
  rintro e w3 ⟨rfl, h3, b3⟩
  have H3 := Lib.hid h3
  have HB3 := Lib.hid (HB1.out.trans b3)
  clear h3 b3
  go_wp2_with fail
  refine (Used_in H3.out (by simp [noL])).mono ?_
  have e3 : heldN (noL.set 0 [(1, 0)]) = 1 := by decide
  rw [e3]
  rintro e w4 ⟨rfl, h4, b4⟩
  have H4 := Lib.hid h4
  have HB4 := Lib.hid (HB3.out.trans (b4.mono HB3.out.size))
  clear h4 b4
  go_wp2_with fail
  refine (Release_in H4.out HB4.out.size 0 _ rfl [(1, 0)] (by simp [noL]) (1, 0) (by simp)).mono ?_
  have e4 : decide (((1 : Int), (0 : Int)) ∈ [((1 : Int), (0 : Int))]) = true := by decide
  have e5 : (noL.set 0 [((1 : Int), (0 : Int))]).set 0 (List.erase [((1 : Int), (0 : Int))] (1, 0)) = noL := by decide
  rw [e4, e5]
  rintro e w5 ⟨rfl, h5, b5⟩
  have H5 := Lib.hid h5
  have HB5 := Lib.hid (HB4.out.trans b5)
  clear h5 b5
  go_wp2_with fail
  refine (Used_in H5.out (by simp [noL])).mono ?_
  rw [heldN_noL]
  rintro e w6 ⟨rfl, h6, b6⟩
  have HB6 := Lib.hid (HB5.out.trans (b6.mono HB5.out.size))
  clear h6 b6
  go_wp2_with fail
  go_ret
  exact ⟨rfl, HB6.out⟩
end Go.Proofs.Ytflbidbnbfndgaa
