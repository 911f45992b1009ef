/- Areas: plain facts of what Add makes, and of what has a page. No program in it. -/
import Derived.Test.YtcghenehcpogpaaAreaPure
import Derived.Test.YtcghenehcpogpaaAreaAdd
namespace Go.Proofs.Ytcghenehcpogpaa
open Go Go.RowKit

theorem meetsW_iff {a x : Ar} (ha : a.Sound) (hx : x.Sound) : meetsW a x = true ↔ a.from_ < x.from_ + x.pages ∧ x.from_ < a.from_ + a.pages := by
  obtain ⟨_, _, a3, a4, a5, a6, _⟩ := ha
  obtain ⟨_, _, x3, x4, x5, x6, _⟩ := hx
  unfold meetsW
  rw [wrap64_small (by omega), wrap64_small (by omega)]
  simp

theorem anyA_iff {l : List Ar} {a : Ar} (hl : ∀ x ∈ l, x.Sound) (ha : a.Sound) : anyA a l = true ↔ piecesA l a.from_ (a.from_ + a.pages) ≠ [] := by
  unfold anyA
  rw [List.any_eq_true]
  constructor
  · rintro ⟨x, hx, hm⟩ he
    have hm := (meetsW_iff ha (hl x hx)).1 hm
    have hs := hl x hx
    obtain ⟨_, _, a3, a4, a5, a6, _⟩ := ha
    obtain ⟨_, _, x3, x4, x5, x6, _⟩ := hs
    have hlt : max a.from_ x.from_ < min (a.from_ + a.pages) (x.from_ + x.pages) := by omega
    have := mem_piecesA.2 ⟨x, hx, mem_pieceA.2 ⟨hlt, rfl⟩⟩
    rw [he] at this
    cases this
  · intro hne
    obtain ⟨y, hy⟩ := List.exists_mem_of_ne_nil _ hne
    obtain ⟨x, hx, h⟩ := mem_piecesA.1 hy
    have hlt := (mem_pieceA.1 h).1
    exact ⟨x, hx, (meetsW_iff ha (hl x hx)).2 (by omega)⟩

theorem insA_cons (x : Ar) (l : List Ar) (a : Ar) : insA (x :: l) a = if x.from_ < a.from_ then x :: insA l a else a :: x :: l := by
  unfold insA
  rw [List.takeWhile_cons, List.dropWhile_cons]
  by_cases h : x.from_ < a.from_
  · simp [h]
  · simp [h]
theorem insA_perm (l : List Ar) (a : Ar) : (insA l a).Perm (a :: l) := by
  induction l with
  | nil => simp [insA]
  | cons x l ih =>
    rw [insA_cons]
    split
    · exact (List.Perm.cons x ih).trans (List.Perm.swap a x l)
    · exact List.Perm.refl _
theorem insA_mem {l : List Ar} {a y : Ar} : y ∈ insA l a ↔ y = a ∨ y ∈ l := by rw [(insA_perm l a).mem_iff]; simp
theorem insA_sorted {l : List Ar} {a : Ar} (h : l.Pairwise fun x y => x.from_ < y.from_) (hn : ∀ x ∈ l, x.from_ ≠ a.from_) : (insA l a).Pairwise fun x y => x.from_ < y.from_ := by
  induction l with
  | nil => simp [insA]
  | cons x l ih =>
    have ⟨h1, h2⟩ := List.pairwise_cons.1 h
    have ih := ih h2 (fun y hy => hn y (by simp [hy]))
    have hx := hn x (by simp)
    rw [insA_cons]
    split
    · rename_i hlt
      refine List.pairwise_cons.2 ⟨fun y hy => ?_, ih⟩
      rcases insA_mem.1 hy with rfl | hy
      · exact hlt
      · exact h1 y hy
    · rename_i hlt
      refine List.pairwise_cons.2 ⟨fun y hy => ?_, h⟩
      rcases List.mem_cons.1 hy with rfl | hy
      · omega
      · have := h1 y hy; omega
theorem from_unique {l l' : List Ar} (h : l.Pairwise fun x y => x.from_ < y.from_) (h' : l'.Pairwise fun x y => x.from_ < y.from_) (hp : l'.Perm l) : l' = l := by
  refine List.Perm.eq_of_pairwise (le := fun x y => x.from_ < y.from_) ?_ h' h hp
  intro a b _ _ h1 h2
  exact absurd h1 (by omega)

/-- What a sort makes of a list with one more at its end. -/
theorem add_ins {l l' : List Ar} {a : Ar} (h : OkL l) (ha : a.Sound) (hn : anyA a l = false) (hp : l'.Perm (l ++ [a])) (hs : l'.Pairwise fun x y => ¬ y.from_ < x.from_) : l' = insA l a := by
  have hlt : l.Pairwise fun x y => x.from_ < y.from_ := by
    have hh := h.1
    refine List.Pairwise.imp_of_mem (fun {x y} hx _ hxy => ?_) h.2
    have := (hh x hx).2.2.2.1
    omega
  have hne : ∀ x ∈ l, x.from_ ≠ a.from_ := fun x hx e => by
    unfold anyA at hn
    rw [List.any_eq_false] at hn
    refine hn x hx ((meetsW_iff ha (h.1 x hx)).2 ?_)
    have := (h.1 x hx).2.2.2.1
    have := ha.2.2.2.1
    omega
  have hsi := insA_sorted hlt hne
  have hpp : l'.Perm (insA l a) := hp.trans ((List.perm_append_singleton a l).trans (insA_perm l a).symm)
  refine from_unique hsi ?_ hpp
  have hnd : l'.Pairwise fun x y => x.from_ ≠ y.from_ := by
    have h1 : (insA l a).Pairwise fun x y => x.from_ ≠ y.from_ := hsi.imp fun {x y} h => by omega
    exact (hpp.pairwise_iff (fun {x y} h => Ne.symm h)).2 h1
  exact (hs.and hnd).imp fun {x y} ⟨h1, h2⟩ => by omega

/-! ### Pages -/

/-- Does an area have a page? -/
def Ar.Has (a : Ar) (p : Int) : Prop := a.from_ ≤ p ∧ p - a.from_ < a.pages
theorem findA_append (A B : List Ar) (p : Int) : findA (A ++ B) p = (findA A p).or (findA B p) := by
  unfold findA
  rw [List.find?_append]
theorem findA_none {l : List Ar} {p : Int} (h : ∀ a ∈ l, ¬ a.Has p) : findA l p = none := by
  unfold findA
  rw [List.find?_eq_none]
  intro x hx
  simpa [Ar.Has] using h x hx
theorem findA_cons (a : Ar) (l : List Ar) (p : Int) : findA (a :: l) p = if a.from_ ≤ p ∧ p - a.from_ < a.pages then some a else findA l p := by
  unfold findA
  rw [List.find?_cons]
  by_cases h : a.from_ ≤ p ∧ p - a.from_ < a.pages
  · rw [decide_eq_true h, if_pos h]
  · rw [decide_eq_false h, if_neg h]
theorem findA_out {l : List Ar} {lo hi p : Int} (h : ¬ (lo ≤ p ∧ p < hi)) : findA (piecesA l lo hi) p = none := by
  refine findA_none fun x hx hh => ?_
  obtain ⟨a, _, hx⟩ := mem_piecesA.1 hx
  obtain ⟨hlt, rfl⟩ := mem_pieceA.1 hx
  simp only [Ar.Has] at hh
  omega

/-- The same page in both: the same kind, file and Write, and the same page of the file. -/
structure SameP (a b : Ar) (wr : Bool) : Prop where
  kind : a.kind = b.kind
  file : a.file = b.file
  write : b.write = wr
  off : a.kind = 1 ∨ a.off - a.from_ = b.off - b.from_
theorem findA_in {l : List Ar} {lo hi p : Int} (h : lo ≤ p ∧ p < hi) : (findA l p = none ∧ findA (piecesA l lo hi) p = none) ∨ ∃ a b, findA l p = some a ∧ findA (piecesA l lo hi) p = some b ∧ SameP a b a.write := by
  induction l with
  | nil => exact .inl ⟨rfl, rfl⟩
  | cons a l ih =>
    rw [findA_cons, piecesA_cons, findA_append]
    by_cases hc : a.from_ ≤ p ∧ p - a.from_ < a.pages
    · right
      rw [if_pos hc]
      have hlt : max lo a.from_ < min hi (a.from_ + a.pages) := by omega
      have e : pieceA a lo hi = [⟨max lo a.from_, min hi (a.from_ + a.pages) - max lo a.from_, a.write, a.kind, a.file, if a.kind = 1 then a.off else a.off + max lo a.from_ - a.from_⟩] := by
        unfold pieceA
        simp only
        rw [if_neg (by omega)]
      rw [e, findA_cons, if_pos (by simp only; omega)]
      refine ⟨a, _, rfl, rfl, ⟨rfl, rfl, rfl, ?_⟩⟩
      by_cases hk : a.kind = 1
      · exact .inl hk
      · right
        simp only
        rw [if_neg hk]
        omega
    · rw [if_neg hc]
      have e : findA (pieceA a lo hi) p = none := findA_none fun x hx hh => by
        obtain ⟨hlt, rfl⟩ := mem_pieceA.1 hx
        simp only [Ar.Has] at hh
        omega
      rw [e]
      exact ih
theorem findA_mark (l : List Ar) (b : Bool) (p : Int) : findA (l.map (Ar.mark b)) p = (findA l p).map (Ar.mark b) := by
  induction l with
  | nil => rfl
  | cons a l ih =>
    rw [List.map_cons, findA_cons, findA_cons, ih]
    have : (Ar.mark b a).from_ = a.from_ ∧ (Ar.mark b a).pages = a.pages := ⟨rfl, rfl⟩
    rw [this.1, this.2]
    split <;> rfl

/-- A page of a list that was cut. -/
theorem find_cut {l : List Ar} {fr pg p : Int} (hp : 0 ≤ p ∧ p < 4096) (hr : RightA fr pg) :
    (fr ≤ p ∧ p < fr + pg → findA (cutA l fr pg) p = none) ∧ (¬ (fr ≤ p ∧ p < fr + pg) → (findA l p = none ∧ findA (cutA l fr pg) p = none) ∨ ∃ a b, findA l p = some a ∧ findA (cutA l fr pg) p = some b ∧ SameP a b a.write) := by
  obtain ⟨r1, r2, r3, r4⟩ := hr
  unfold cutA
  rw [findA_append]
  constructor
  · rintro ⟨h1, h2⟩
    rw [findA_out (by omega), findA_out (by omega)]
    rfl
  · intro h
    by_cases h1 : p < fr
    · rw [findA_out (l := l) (lo := fr + pg) (hi := 4096) (by omega), Option.or_none]
      exact findA_in ⟨hp.1, h1⟩
    · rw [findA_out (l := l) (lo := 0) (hi := fr) (by omega), Option.none_or]
      exact findA_in (by omega)

/-- What is protected. -/
def protA (l : List Ar) (fr pg : Int) (b : Bool) : List Ar := piecesA l 0 fr ++ (piecesA l fr (fr + pg)).map (Ar.mark b) ++ piecesA l (fr + pg) 4096
theorem find_prot {l : List Ar} {fr pg p : Int} (b : Bool) (hp : 0 ≤ p ∧ p < 4096) (hr : RightA fr pg) :
    (findA l p = none ∧ findA (protA l fr pg b) p = none) ∨ ∃ x y, findA l p = some x ∧ findA (protA l fr pg b) p = some y ∧ x.kind = y.kind ∧ y.write = (if fr ≤ p ∧ p < fr + pg then b else x.write) := by
  obtain ⟨r1, r2, r3, r4⟩ := hr
  unfold protA
  rw [findA_append, findA_append, findA_mark]
  by_cases h1 : p < fr
  · rw [findA_out (l := l) (lo := fr + pg) (hi := 4096) (by omega), findA_out (l := l) (lo := fr) (hi := fr + pg) (by omega), Option.map_none, Option.or_none, Option.or_none]
    rcases findA_in (l := l) (p := p) (lo := 0) (hi := fr) ⟨hp.1, h1⟩ with h | ⟨x, y, h2, h3, h4⟩
    · exact .inl h
    · exact .inr ⟨x, y, h2, h3, h4.kind, by rw [if_neg (by omega)]; exact h4.write⟩
  · by_cases h2 : p < fr + pg
    · rw [findA_out (l := l) (lo := fr + pg) (hi := 4096) (by omega), findA_out (l := l) (lo := 0) (hi := fr) (by omega), Option.none_or, Option.or_none]
      rcases findA_in (l := l) (p := p) (lo := fr) (hi := fr + pg) (by omega) with ⟨h3, h4⟩ | ⟨x, y, h3, h4, h5⟩
      · exact .inl ⟨h3, by rw [h4]; rfl⟩
      · exact .inr ⟨x, y.mark b, h3, by rw [h4]; rfl, h5.kind, by rw [if_pos (by omega)]; rfl⟩
    · rw [findA_out (l := l) (lo := fr) (hi := fr + pg) (by omega), findA_out (l := l) (lo := 0) (hi := fr) (by omega), Option.map_none, Option.none_or, Option.none_or]
      rcases findA_in (l := l) (p := p) (lo := fr + pg) (hi := 4096) (by omega) with h | ⟨x, y, h2, h3, h4⟩
      · exact .inl h
      · exact .inr ⟨x, y, h2, h3, h4.kind, by rw [if_neg (by omega)]; exact h4.write⟩
theorem cut_all {l : List Ar} : cutA l 0 4096 = [] := by
  have h : ∀ lo : Int, piecesA l lo lo = [] := fun lo => by
    rw [List.eq_nil_iff_forall_not_mem]
    intro x hx
    have := piecesA_from x hx
    omega
  unfold cutA
  have h1 := h 0
  have h2 := h 4096
  rw [h1, show (0 : Int) + 4096 = 4096 from rfl, h2]
  rfl
end Go.Proofs.Ytcghenehcpogpaa
