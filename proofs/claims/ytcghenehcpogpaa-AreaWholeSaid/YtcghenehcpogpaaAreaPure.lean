/- Areas: plain facts of lists of areas. No program in it. -/
import Derived.Test.YtcghenehcpogpaaAreaRef
import Derived.Test.YtcghenehcpogpaaAreaRefCut
namespace Go.Proofs.Ytcghenehcpogpaa
open Go Go.RowKit

/-- A list of areas that may be. -/
def OkL (l : List Ar) : Prop := (∀ a ∈ l, a.Sound) ∧ l.Pairwise fun x y => x.from_ + x.pages ≤ y.from_

theorem okTo_iff (l : List Ar) : okTo l l.length ↔ OkL l := by
  constructor
  · intro h
    have hs : ∀ a ∈ l, a.Sound := fun a ha => by
      obtain ⟨j, hj, rfl⟩ := List.getElem_of_mem ha
      exact (h j _ hj (List.getElem?_eq_getElem hj)).1
    refine ⟨hs, List.pairwise_iff_getElem.2 ?_⟩
    have key : ∀ (d i : Nat) (hi : i < l.length) (hj : i + d + 1 < l.length), l[i].from_ + l[i].pages ≤ l[i + d + 1].from_ := by
      intro d
      induction d with
      | zero =>
        intro i hi hj
        exact (h (i + 1) _ hj (List.getElem?_eq_getElem hj)).2 _ (by omega) (List.getElem?_eq_getElem (by omega))
      | succ d ih =>
        intro i hi hj
        have h1 := ih i hi (by omega)
        have h2 := (h (i + (d + 1) + 1) _ hj (List.getElem?_eq_getElem hj)).2 _ (by omega) (List.getElem?_eq_getElem (by omega))
        have h3 := (hs _ (List.getElem_mem (show i + d + 1 < l.length by omega))).2.2.2.1
        have e : i + (d + 1) + 1 - 1 = i + d + 1 := by omega
        simp only [e] at h2
        omega
    intro i j hi hj hij
    have := key (j - i - 1) i hi (by omega)
    have e : i + (j - i - 1) + 1 = j := by omega
    simp only [e] at this
    exact this
  · rintro ⟨hs, hp⟩ j x hj hx
    obtain ⟨hj', rfl⟩ := List.getElem?_eq_some_iff.1 hx
    refine ⟨hs _ (List.getElem_mem _), fun y h0 hy => ?_⟩
    obtain ⟨hy', rfl⟩ := List.getElem?_eq_some_iff.1 hy
    exact List.pairwise_iff_getElem.1 hp (j - 1) j hy' hj' (by omega)

theorem OkL.tail {x : Ar} {l : List Ar} (h : OkL (x :: l)) : OkL l := ⟨fun a ha => h.1 a (by simp [ha]), (List.pairwise_cons.1 h.2).2⟩
theorem OkL.head {x : Ar} {l : List Ar} (h : OkL (x :: l)) : ∀ y ∈ l, x.from_ + x.pages ≤ y.from_ := (List.pairwise_cons.1 h.2).1

/-- A piece: what it has. -/
theorem mem_pieceA {a x : Ar} {lo hi : Int} : x ∈ pieceA a lo hi ↔ max lo a.from_ < min hi (a.from_ + a.pages) ∧ x = ⟨max lo a.from_, min hi (a.from_ + a.pages) - max lo a.from_, a.write, a.kind, a.file, if a.kind = 1 then a.off else a.off + max lo a.from_ - a.from_⟩ := by
  unfold pieceA
  simp only
  split
  · rename_i h
    constructor
    · intro hx; cases hx
    · rintro ⟨h1, _⟩; omega
  · rename_i h
    rw [List.mem_singleton]
    exact ⟨fun e => ⟨by omega, e⟩, fun e => e.2⟩
theorem pieceA_nil {a : Ar} {lo hi : Int} (h : min hi (a.from_ + a.pages) ≤ max lo a.from_) : pieceA a lo hi = [] := by
  unfold pieceA
  simp only
  rw [if_pos h]
theorem pieceA_sound {a x : Ar} {lo hi : Int} (hs : a.Sound) (h0 : 0 ≤ lo) (h1 : hi ≤ 4096) (hx : x ∈ pieceA a lo hi) : x.Sound := by
  obtain ⟨hlt, rfl⟩ := mem_pieceA.1 hx
  obtain ⟨s1, s2, s3, s4, s5, s6, s7⟩ := hs
  refine ⟨s1, s2, by simp only; omega, by simp only; omega, by simp only; omega, by simp only; omega, ?_⟩
  simp only
  rcases s7 with ⟨k1, k2, k3⟩ | ⟨k1, k2, k3, k4, k5, k6⟩
  · rw [if_pos k1]; exact .inl ⟨k1, k2, k3⟩
  · rw [if_neg k1]; exact .inr ⟨k1, k2, k3, by omega, by omega, by omega⟩
theorem mem_piecesA {l : List Ar} {x : Ar} {lo hi : Int} : x ∈ piecesA l lo hi ↔ ∃ a ∈ l, x ∈ pieceA a lo hi := by simp [piecesA]
theorem piecesA_cons (a : Ar) (l : List Ar) (lo hi : Int) : piecesA (a :: l) lo hi = pieceA a lo hi ++ piecesA l lo hi := by simp [piecesA]
theorem piecesA_sound {l : List Ar} {lo hi : Int} (hs : ∀ a ∈ l, a.Sound) (h0 : 0 ≤ lo) (h1 : hi ≤ 4096) : ∀ x ∈ piecesA l lo hi, x.Sound := fun x hx => by
  obtain ⟨a, ha, h⟩ := mem_piecesA.1 hx
  exact pieceA_sound (hs a ha) h0 h1 h
theorem piecesA_from {l : List Ar} {lo hi : Int} : ∀ x ∈ piecesA l lo hi, lo ≤ x.from_ ∧ x.from_ < hi := fun x hx => by
  obtain ⟨a, _, h⟩ := mem_piecesA.1 hx
  obtain ⟨hlt, rfl⟩ := mem_pieceA.1 h
  simp only
  omega
theorem piecesA_none {l : List Ar} {lo hi : Int} (h : ∀ a ∈ l, hi ≤ a.from_) : piecesA l lo hi = [] := by
  rw [List.eq_nil_iff_forall_not_mem]
  intro x hx
  obtain ⟨a, ha, h2⟩ := mem_piecesA.1 hx
  have := (mem_pieceA.1 h2).1
  have := h a ha
  omega
theorem piecesA_pairwise {l : List Ar} (h : OkL l) (lo hi : Int) : (piecesA l lo hi).Pairwise fun x y => x.from_ < y.from_ := by
  induction l with
  | nil => simp [piecesA]
  | cons a l ih =>
    rw [piecesA_cons, List.pairwise_append]
    refine ⟨?_, ih h.tail, fun x hx y hy => ?_⟩
    · unfold pieceA
      simp only
      split <;> simp
    · obtain ⟨b, hb, hy⟩ := mem_piecesA.1 hy
      obtain ⟨h1, rfl⟩ := mem_pieceA.1 hx
      obtain ⟨h2, rfl⟩ := mem_pieceA.1 hy
      have := h.head b hb
      simp only
      omega

theorem cutA_ref {l : List Ar} (h : OkL l) {fr pg : Int} (hp : 0 ≤ pg) : cutA l fr pg = refOut l fr pg := by
  induction l with
  | nil => simp [cutA, piecesA, refOut]
  | cons a l ih =>
    have ih := ih h.tail
    have e : refOut (a :: l) fr pg = pieceA a 0 fr ++ pieceA a (fr + pg) 4096 ++ refOut l fr pg := by simp [refOut]
    rw [e, ← ih]
    unfold cutA
    rw [piecesA_cons, piecesA_cons]
    by_cases hn : min 4096 (a.from_ + a.pages) ≤ max (fr + pg) a.from_
    · rw [pieceA_nil hn]; simp
    · rw [piecesA_none (l := l) (lo := 0) (hi := fr) (fun b hb => by have := h.head b hb; omega)]
      simp

/-- An area put into a list by From. -/
def insA (l : List Ar) (a : Ar) : List Ar := l.takeWhile (fun x => decide (x.from_ < a.from_)) ++ a :: l.dropWhile (fun x => decide (x.from_ < a.from_))
theorem insA_split {A B : List Ar} {a : Ar} (hA : ∀ x ∈ A, x.from_ < a.from_) (hB : ∀ x, B.head? = some x → a.from_ ≤ x.from_) : insA (A ++ B) a = A ++ a :: B := by
  unfold insA
  have h1 : ∀ x ∈ A, decide (x.from_ < a.from_) = true := fun x hx => by simpa using hA x hx
  rw [List.takeWhile_append_of_pos h1, List.dropWhile_append_of_pos h1]
  cases B with
  | nil => simp
  | cons b B =>
    have := hB b rfl
    rw [List.takeWhile_cons, List.dropWhile_cons, if_neg (by simpa using this), if_neg (by simpa using this)]
    simp
theorem insA_at {l : List Ar} {a : Ar} {k : Nat} (hk : k ≤ l.length) (h1 : ∀ (j : Nat) (x : Ar), j < k → l[j]? = some x → x.from_ < a.from_) (h2 : ∀ x, l[k]? = some x → a.from_ ≤ x.from_) : insA l a = l.take k ++ a :: l.drop k := by
  have := insA_split (A := l.take k) (B := l.drop k) (a := a) (fun x hx => by
    obtain ⟨j, hj, rfl⟩ := List.getElem_of_mem hx
    rw [List.length_take] at hj
    exact h1 j _ (by omega) (by rw [List.getElem_take]; exact List.getElem?_eq_getElem (by omega))) (fun x hx => h2 x (by rw [List.head?_drop] at hx; exact hx))
  rwa [List.take_append_drop] at this

/-- Put in one after the other. -/
theorem fold_insA (A B xs : List Ar) (h : (A ++ xs).Pairwise fun x y => x.from_ < y.from_) (hB : ∀ x ∈ xs, ∀ b ∈ B, x.from_ ≤ b.from_) : xs.foldl insA (A ++ B) = A ++ xs ++ B := by
  induction xs generalizing A with
  | nil => simp
  | cons x xs ih =>
    rw [List.foldl_cons, insA_split (fun y hy => (List.pairwise_append.1 h).2.2 y hy x (by simp)) (fun y hy => hB x (by simp) y (List.mem_of_head? hy))]
    have := ih (A ++ [x]) (by simpa using h) (fun y hy => hB y (by simp [hy]))
    simpa using this

/-- With another Write. -/
def Ar.mark (b : Bool) (x : Ar) : Ar := { x with write := b }
theorem fold_protect {l : List Ar} (h : OkL l) {fr pg : Int} (hp : 0 ≤ pg) (b : Bool) :
    ((piecesA l fr (fr + pg)).map (Ar.mark b)).foldl insA (refOut l fr pg) = piecesA l 0 fr ++ (piecesA l fr (fr + pg)).map (Ar.mark b) ++ piecesA l (fr + pg) 4096 := by
  rw [← cutA_ref h hp]
  unfold cutA
  refine fold_insA _ _ _ ?_ ?_
  · rw [List.pairwise_append]
    refine ⟨piecesA_pairwise h _ _, ?_, fun x hx y hy => ?_⟩
    · rw [List.pairwise_map]
      exact piecesA_pairwise h _ _
    · obtain ⟨z, hz, rfl⟩ := List.mem_map.1 hy
      have := (piecesA_from x hx).2
      have := (piecesA_from z hz).1
      simp only [Ar.mark]
      omega
  · intro x hx y hy
    obtain ⟨z, hz, rfl⟩ := List.mem_map.1 hx
    have := (piecesA_from z hz).2
    have := (piecesA_from y hy).1
    simp only [Ar.mark]
    omega

theorem wrap64_small {x : Int} (h : -9223372036854775808 ≤ x ∧ x ≤ 9223372036854775807) : wrap64 x = x := by
  unfold wrap64
  omega
end Go.Proofs.Ytcghenehcpogpaa
