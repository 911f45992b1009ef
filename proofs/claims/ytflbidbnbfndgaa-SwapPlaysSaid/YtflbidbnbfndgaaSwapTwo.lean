/- A swap, and one of the reference's lists beside it: what Hold, Release, Put leave of both. -/
import Derived.Test.YtflbidbnbfndgaaSwapAns
import Derived.Test.YtflbidbnbfndgaaRefPut
namespace Go.Proofs.Ytflbidbnbfndgaa
open Go Go.RowKit

theorem SwapAt.small {w : World} {p : Nat} {S : List Nat} {V : List Value} {L : List (List (Int × Int))} (h : SwapAt w p S V L) : SwapAt w p (S.filter (fun j => decide (j < w.heap.size))) V L := by
  obtain ⟨T, hblk⟩ := h.blk
  have hpw : p < w.heap.size := (Array.getElem?_eq_some_iff.1 hblk).1
  refine ⟨⟨T, hblk⟩, h.lenV, h.lenL, h.at_, fun i v b hv hb => ?_, h.inj, by simp [h.pin, hpw]⟩
  have hiL : i < L.length := by rw [h.lenL, ← h.lenV]; exact (List.getElem?_eq_some_iff.1 hv).1
  have := SlAt.lt (h.at_ i v _ hv (List.getElem?_eq_getElem hiL)) b hb
  exact ⟨by simp [(h.own i v b hv hb).1, this], (h.own i v b hv hb).2⟩

/-- A swap, and a slice of places apart from it, all in blocks from a number on. -/
def Two (B : Nat) (w : World) (p : Nat) (L : List (List (Int × Int))) (v : Value) (l : List (Int × Int)) : Prop :=
  ∃ S V, SwapAt w p S V L ∧ (∀ i ∈ S, B ≤ i ∧ i < w.heap.size) ∧ PlAt w v l ∧ ∀ b, v.ownBlock = some b → B ≤ b ∧ b ∉ S

theorem Two.one {B : Nat} {w : World} {p : Nat} {L : List (List (Int × Int))} {v : Value} {l : List (Int × Int)} (h : Two B w p L v l) : SwapIn B w p L := by
  obtain ⟨S, V, h1, h2, _⟩ := h
  exact ⟨S, V, h1, fun i hi => (h2 i hi).1⟩
theorem Two.list {B : Nat} {w : World} {p : Nat} {L : List (List (Int × Int))} {v : Value} {l : List (Int × Int)} (h : Two B w p L v l) : PlAt w v l := by
  obtain ⟨S, V, _, _, h3, _⟩ := h
  exact h3
theorem Two.below {B : Nat} {w w' : World} {p : Nat} {L : List (List (Int × Int))} {v : Value} {l : List (Int × Int)} (h : Two B w p L v l) (hb : Below w.heap.size w w') : Two B w' p L v l := by
  obtain ⟨S, V, h1, h2, h3, h4⟩ := h
  exact ⟨S, V, h1.below hb, fun i hi => ⟨(h2 i hi).1, Nat.lt_of_lt_of_le (h2 i hi).2 hb.size⟩, h3.below hb, h4⟩

/-- What a call leaves that turns the swap alone. -/
theorem Two.turn {B : Nat} {w w' : World} {p : Nat} {L' : List (List (Int × Int))} {v : Value} {l : List (Int × Int)} {S S' : List Nat} {V' : List Value}
    (h2 : ∀ i ∈ S, B ≤ i ∧ i < w.heap.size) (h3 : PlAt w v l) (h4 : ∀ b, v.ownBlock = some b → B ≤ b ∧ b ∉ S) (hB : B ≤ w.heap.size) (h : SwapAt w' p S' V' L') (t : Touch S w w') (hS : ∀ b ∈ S', b ∈ S ∨ w.heap.size ≤ b) :
    Two B w' p L' v l ∧ Below B w w' := by
  refine ⟨⟨_, V', h.small, fun i hi => ?_, h3.touch t (fun b hb => (h4 b hb).2), fun b hb => ⟨(h4 b hb).1, fun hm => ?_⟩⟩, t.belowFrom (fun i hi => (h2 i hi).1) hB⟩
  · simp at hi
    exact ⟨(hS i hi.1).elim (fun e => (h2 i e).1) (by omega), hi.2⟩
  · simp at hm
    have hlt := SlAt.lt h3 b hb
    exact (hS b hm.1).elim (h4 b hb).2 (by omega)

theorem Two.hold {B : Nat} {w : World} {p : Nat} {L : List (List (Int × Int))} {v : Value} {l : List (Int × Int)} (h : Two B w p L v l) (hB : B ≤ w.heap.size) (k : Nat) (i : Int) (hi : i = k) (m : List (Int × Int)) (hm : L[k]? = some m) (x : Int × Int) (hs : SortedP m) (hlen : m.length ≤ 100000) :
    Calls Try.prog 33 #[.pointer (some ⟨p, 0, none⟩), .int .i64 i, .agg #[.int .i64 x.1, .int .i64 x.2]] w fun e w' => e = .returned (.bool true) ∧ Two B w' p (L.set k (putP m x)) v l ∧ Below B w w' := by
  obtain ⟨S, V, h1, h2, h3, h4⟩ := h
  subst hi
  refine (Hold_walk w p S V L h1 k m hm x hs hlen).mono ?_
  rintro e w' ⟨rfl, S', V', h5, h6, h7⟩
  exact ⟨rfl, Two.turn h2 h3 h4 hB h5 h6 h7⟩

theorem Two.release {B : Nat} {w : World} {p : Nat} {L : List (List (Int × Int))} {v : Value} {l : List (Int × Int)} (h : Two B w p L v l) (hB : B ≤ w.heap.size) (k : Nat) (i : Int) (hi : i = k) (m : List (Int × Int)) (hm : L[k]? = some m) (x : Int × Int) (hlen : m.length ≤ 100000) :
    Calls Try.prog 36 #[.pointer (some ⟨p, 0, none⟩), .int .i64 i, .agg #[.int .i64 x.1, .int .i64 x.2]] w fun e w' => e = .returned (.bool (decide (x ∈ m))) ∧ Two B w' p (L.set k (m.erase x)) v l ∧ Below B w w' := by
  obtain ⟨S, V, h1, h2, h3, h4⟩ := h
  subst hi
  refine (Release_walk w p S V L h1 k m hm x hlen).mono ?_
  rintro e w' ⟨rfl, S', V', h5, h6, h7⟩
  exact ⟨rfl, Two.turn h2 h3 h4 hB h5 h6 h7⟩

theorem Two.put {B : Nat} {w : World} {p : Nat} {L : List (List (Int × Int))} {v : Value} {l : List (Int × Int)} (h : Two B w p L v l) (hB : B ≤ w.heap.size) (x : Int × Int) (hs : SortedP l) (hlen : l.length ≤ 100000) :
    Calls Try.prog 27 #[v, .agg #[.int .i64 x.1, .int .i64 x.2]] w fun e w' => ∃ v', e = .returned v' ∧ Two B w' p L v' (putP l x) ∧ Below w.heap.size w w' := by
  obtain ⟨S, V, h1, h2, h3, h4⟩ := h
  refine (Put_ref w v l h3 hs hlen x).mono ?_
  rintro e w' ⟨v', rfl, hp, hb, ho⟩
  refine ⟨v', rfl, ⟨S, V, h1.below hb, fun i hi => ⟨(h2 i hi).1, Nat.lt_of_lt_of_le (h2 i hi).2 hb.size⟩, hp, fun b hbo => ?_⟩, hb⟩
  rcases ho with rfl | ho
  · exact h4 b hbo
  · have := ho b hbo
    exact ⟨by omega, fun hm => by have := (h2 b hm).2; omega⟩
end Go.Proofs.Ytflbidbnbfndgaa
