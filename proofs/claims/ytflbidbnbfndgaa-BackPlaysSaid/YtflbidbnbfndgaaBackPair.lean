/- Back, and the reference's 8 lists beside it: what Add, Drop, Move, and a store of one list leave of both. -/
import Derived.Test.YtflbidbnbfndgaaBackOnce
import Derived.Test.YtflbidbnbfndgaaRefOut
import Derived.Test.YtflbidbnbfndgaaSwap
import Derived.Test.YtflbidbnbfndgaaOpen
namespace Go.Proofs.Ytflbidbnbfndgaa
open Go Go.RowKit

variable {K : Int → Prop}

structure ListsAt (N : Nat) (w : World) (p : Nat) (S : List Nat) (V : List Value) (L : List (List (Int × Int))) : Prop where
  blk : ∃ T, w.heap[p]? = some (.cells V.toArray T (0, 0))
  lenV : V.length = N
  lenL : L.length = N
  at_ : ∀ (i : Nat) (v : Value) (l : List (Int × Int)), V[i]? = some v → L[i]? = some l → PlAt w v l
  own : ∀ (i : Nat) (v : Value) (b : Nat), V[i]? = some v → v.ownBlock = some b → b ∈ S ∧ b ≠ p
  inj : ∀ (i j : Nat) (u v : Value) (b : Nat), V[i]? = some u → V[j]? = some v → u.ownBlock = some b → v.ownBlock = some b → i = j
  pin : p ∈ S

theorem ListsAt.touch {N : Nat} {w w' : World} {p : Nat} {S S0 : List Nat} {V : List Value} {L : List (List (Int × Int))} (h : ListsAt N w p S V L) (t : Touch S0 w w') (hn : ∀ b ∈ S, b ∉ S0) : ListsAt N w' p S V L := by
  obtain ⟨⟨T, hb⟩, h2, h3, h4, h5, h6, h7⟩ := h
  exact ⟨⟨T, (t.block p (Array.getElem?_eq_some_iff.1 hb).1 (hn p h7)).trans hb⟩, h2, h3, fun i v l hv hl => (h4 i v l hv hl).touch t fun b hb => hn b (h5 i v b hv hb).1, h5, h6, h7⟩
theorem ListsAt.below {N : Nat} {w w' : World} {p : Nat} {S : List Nat} {V : List Value} {L : List (List (Int × Int))} (h : ListsAt N w p S V L) (hb : Below w.heap.size w w') : ListsAt N w' p S V L :=
  h.touch (Touch.of_below (S := []) hb) (by simp)

/-- One slot anew. -/
theorem ListsAt.put {N : Nat} {w w' : World} {p : Nat} {S : List Nat} {V : List Value} {L : List (List (Int × Int))} (h : ListsAt N w p S V L) {k : Nat} {v v' : Value} {l' : List (Int × Int)} (hv : V[k]? = some v)
    (hp : ∃ T, w'.heap[p]? = some (.cells (V.set k v').toArray T (0, 0))) (hl : PlAt w' v' l') (hown : ∀ b, v'.ownBlock = some b → v.ownBlock = some b ∨ w.heap.size ≤ b)
    (hrest : ∀ j, j < w.heap.size → j ≠ p → v.ownBlock ≠ some j → w'.heap[j]? = w.heap[j]?) (ho : w'.os = w.os) (ht : w'.tape = w.tape) (hout : w'.output = w.output) (hs : w.heap.size ≤ w'.heap.size) :
    ∃ S' V', ListsAt N w' p S' V' (L.set k l') ∧ Touch S w w' ∧ ∀ b ∈ S', b ∈ S ∨ w.heap.size ≤ b := by
  have hk : k < N := by have := (List.getElem?_eq_some_iff.1 hv).1; rw [h.lenV] at this; exact this
  have hpw : p < w.heap.size := by obtain ⟨T, hb⟩ := h.blk; exact (Array.getElem?_eq_some_iff.1 hb).1
  have hlt : ∀ (i : Nat) (u : Value) (b : Nat), V[i]? = some u → u.ownBlock = some b → b < w.heap.size := fun i u b hu hb => by
    have hi : i < L.length := by rw [h.lenL, ← h.lenV]; exact (List.getElem?_eq_some_iff.1 hu).1
    exact SlAt.lt (h.at_ i u _ hu (List.getElem?_eq_getElem hi)) b hb
  obtain ⟨S', hS', hS2⟩ : ∃ S' : List Nat, (∀ b, b ∈ S' ↔ b ∈ S ∨ v'.ownBlock = some b) ∧ True := by
    cases e : v'.ownBlock with
    | none => exact ⟨S, by simp, trivial⟩
    | some b => exact ⟨b :: S, by intro c; simp [eq_comm, or_comm], trivial⟩
  refine ⟨S', V.set k v', ⟨hp, by simp [h.lenV], by simp [h.lenL], ?_, ?_, ?_, (hS' p).2 (.inl h.pin)⟩, ⟨ho, ht, hout, hs, fun j hj hn => hrest j hj (fun e => hn (e ▸ h.pin)) (fun e => hn (h.own k v j hv e).1)⟩, fun b hb => ?_⟩
  · intro i u m hu hm
    by_cases hik : i = k
    · subst hik
      rw [List.getElem?_set_self (by rw [h.lenV]; exact hk)] at hu
      rw [List.getElem?_set_self (by rw [h.lenL]; exact hk)] at hm
      cases hu; cases hm
      exact hl
    · rw [List.getElem?_set_ne (Ne.symm hik)] at hu hm
      refine (h.at_ i u m hu hm).keep fun b hb => hrest b (hlt i u b hu hb) (h.own i u b hu hb).2 (fun e => hik (h.inj i k u v b hu hv hb e))
  · intro i u b hu hb
    by_cases hik : i = k
    · subst hik
      rw [List.getElem?_set_self (by rw [h.lenV]; exact hk)] at hu
      cases hu
      refine ⟨(hS' b).2 (.inr hb), ?_⟩
      rcases hown b hb with e | e
      · exact (h.own i v b hv e).2
      · omega
    · rw [List.getElem?_set_ne (Ne.symm hik)] at hu
      exact ⟨(hS' b).2 (.inl (h.own i u b hu hb).1), (h.own i u b hu hb).2⟩
  · have key : ∀ (i : Nat) (u : Value) (b : Nat), i ≠ k → V[i]? = some u → u.ownBlock = some b → v'.ownBlock = some b → False := fun i u b hik hu hb hb' => by
      rcases hown b hb' with e | e
      · exact hik (h.inj i k u v b hu hv hb e)
      · have := hlt i u b hu hb; omega
    intro i j u u' b hu hu' hb hb'
    by_cases hik : i = k
    · subst hik
      rw [List.getElem?_set_self (by rw [h.lenV]; exact hk)] at hu
      cases hu
      by_cases hjk : j = i
      · exact hjk.symm
      · rw [List.getElem?_set_ne (Ne.symm hjk)] at hu'
        exact (key j u' b hjk hu' hb' hb).elim
    · rw [List.getElem?_set_ne (Ne.symm hik)] at hu
      by_cases hjk : j = k
      · subst hjk
        rw [List.getElem?_set_self (by rw [h.lenV]; exact hk)] at hu'
        cases hu'
        exact (key i u b hik hu hb hb').elim
      · rw [List.getElem?_set_ne (Ne.symm hjk)] at hu'
        exact h.inj i j u u' b hu hu' hb hb'
  · rcases (hS' b).1 hb with hb | hb
    · exact .inl hb
    · rcases hown b hb with e | e
      · exact .inl (h.own k v b hv e).1
      · exact .inr e

theorem ListsAt.small {N : Nat} {w : World} {p : Nat} {S : List Nat} {V : List Value} {L : List (List (Int × Int))} (h : ListsAt N w p S V L) : ListsAt N w p (S.filter (fun j => decide (j < w.heap.size))) V L := by
  obtain ⟨T, hblk⟩ := h.blk
  have hpw : p < w.heap.size := (Array.getElem?_eq_some_iff.1 hblk).1
  refine ⟨⟨T, hblk⟩, h.lenV, h.lenL, h.at_, fun i v b hv hb => ?_, h.inj, by simp [h.pin, hpw]⟩
  have hiL : i < L.length := by rw [h.lenL, ← h.lenV]; exact (List.getElem?_eq_some_iff.1 hv).1
  have := SlAt.lt (h.at_ i v _ hv (List.getElem?_eq_getElem hiL)) b hb
  exact ⟨by simp [(h.own i v b hv hb).1, this], (h.own i v b hv hb).2⟩

theorem ListsAt.fresh (N : Nat) (w : World) (T : TypeId) : ListsAt N (w.alloc (.cells (List.replicate N (.slice none 0 0)).toArray T)) w.heap.size [w.heap.size] (List.replicate N (.slice none 0 0)) (List.replicate N []) := by
  refine ⟨⟨_, heap_alloc_new w _⟩, by simp, by simp, ?_, ?_, ?_, by simp⟩
  · intro i v l hv hl
    simp only [List.getElem?_replicate] at hv hl
    split at hv
    · rw [if_pos ‹_›] at hl; cases hv; cases hl; exact PlAt.nil _
    · cases hv
  · intro i v b hv hb
    simp only [List.getElem?_replicate] at hv
    split at hv
    · cases hv; simp [Value.ownBlock] at hb
    · cases hv
  · intro i j u v b hu hv hb
    simp only [List.getElem?_replicate] at hu
    split at hu
    · cases hu; simp [Value.ownBlock] at hb
    · cases hu


/-- Who has what, and 8 slices of places in a block q apart from it, all in blocks from a number on, but for one block. -/
def BPair (K : Int → Prop) (B c : Nat) (w : World) (p q : Nat) (L : Int → List (Int × Int)) (M : List (List (Int × Int))) : Prop :=
  ∃ m S V S2 V2, BackAt K w p m S V L ∧ ListsAt 8 w q S2 V2 M ∧ (∀ i ∈ S, B ≤ i ∧ i < w.heap.size ∧ i ≠ c) ∧ (∀ i ∈ S2, B ≤ i ∧ i < w.heap.size ∧ i ≠ c) ∧ ∀ i ∈ S, i ∉ S2

section
variable {B c : Nat} {w w' : World} {p q : Nat} {L : Int → List (Int × Int)} {M : List (List (Int × Int))}
theorem BPair.len (h : BPair K B c w p q L M) : M.length = 8 := by
  obtain ⟨m, S, V, S2, V2, h1, h2, _⟩ := h
  exact h2.lenL
theorem BPair.below (h : BPair K B c w p q L M) (hb : Below w.heap.size w w') : BPair K B c w' p q L M := by
  obtain ⟨m, S, V, S2, V2, h1, h2, h3, h4, h5⟩ := h
  exact ⟨m, S, V, S2, V2, h1.below hb, h2.below hb, fun i hi => ⟨(h3 i hi).1, Nat.lt_of_lt_of_le (h3 i hi).2.1 hb.size, (h3 i hi).2.2⟩, fun i hi => ⟨(h4 i hi).1, Nat.lt_of_lt_of_le (h4 i hi).2.1 hb.size, (h4 i hi).2.2⟩, h5⟩
/-- A block that is made later. -/
theorem BPair.next (h : BPair K B c w p q L M) (hb : Below w.heap.size w w') (d : Nat) (hd : w.heap.size ≤ d) : BPair K B d w' p q L M := by
  obtain ⟨m, S, V, S2, V2, h1, h2, h3, h4, h5⟩ := h
  exact ⟨m, S, V, S2, V2, h1.below hb, h2.below hb, fun i hi => ⟨(h3 i hi).1, Nat.lt_of_lt_of_le (h3 i hi).2.1 hb.size, by have := (h3 i hi).2.1; omega⟩, fun i hi => ⟨(h4 i hi).1, Nat.lt_of_lt_of_le (h4 i hi).2.1 hb.size, by have := (h4 i hi).2.1; omega⟩, h5⟩

theorem BPair.turn {m : Nat} {S S' S2 : List Nat} {V' : List (Int × Value)} {V2 : List Value} {L' : Int → List (Int × Int)} (h2 : ListsAt 8 w q S2 V2 M) (h3 : ∀ i ∈ S, B ≤ i ∧ i < w.heap.size ∧ i ≠ c) (h4 : ∀ i ∈ S2, B ≤ i ∧ i < w.heap.size ∧ i ≠ c) (h5 : ∀ i ∈ S, i ∉ S2) (hB : B ≤ w.heap.size) (hc : c < w.heap.size)
    (h : BackAt K w' p m S' V' L') (t : Touch S w w') (hS : ∀ b ∈ S', b ∈ S ∨ w.heap.size ≤ b) : BPair K B c w' p q L' M ∧ Below B w w' ∧ w'.heap[c]? = w.heap[c]? := by
  refine ⟨⟨m, _, V', S2, V2, h.small, h2.touch t (fun b hb hm => h5 b hm hb), fun i hi => ?_, fun i hi => ⟨(h4 i hi).1, Nat.lt_of_lt_of_le (h4 i hi).2.1 t.size, (h4 i hi).2.2⟩, fun i hi hm => ?_⟩, t.belowFrom' (fun i hi => (h3 i hi).1) hB, t.block c hc (fun e => (h3 c e).2.2 rfl)⟩
  · simp at hi
    exact ⟨(hS i hi.1).elim (fun e => (h3 i e).1) (by omega), hi.2, (hS i hi.1).elim (fun e => (h3 i e).2.2) (by omega)⟩
  · simp at hi
    have := (h4 i hm).2.1
    exact (hS i hi.1).elim (fun e => h5 i e hm) (by omega)

theorem BPair.add (h : BPair K B c w p q L M) (hB : B ≤ w.heap.size) (hc : c < w.heap.size) (f : Int) (x : Int × Int) (hs : SortedP (L f)) (hlen : (L f).length ≤ 100000) (hK : K f) :
    Calls Try.prog 26 #[.pointer (some ⟨p, 0, none⟩), .int .i64 f, .agg #[.int .i64 x.1, .int .i64 x.2]] w fun e w' => e = .returned (.tuple #[]) ∧ BPair K B c w' p q (updF L f (putP (L f) x)) M ∧ Below B w w' ∧ w'.heap[c]? = w.heap[c]? := by
  obtain ⟨m, S, V, S2, V2, h1, h2, h3, h4, h5⟩ := h
  refine (BAdd_walk w p m S V L h1 f x hs hlen hK).mono ?_
  rintro e w' ⟨rfl, S', V', h6, h7, h8⟩
  exact ⟨rfl, BPair.turn h2 h3 h4 h5 hB hc h6 h7 h8⟩
theorem BPair.drop (h : BPair K B c w p q L M) (hB : B ≤ w.heap.size) (hc : c < w.heap.size) (f : Int) (x : Int × Int) (hlen : (L f).length ≤ 100000) (hK : K f) :
    Calls Try.prog 43 #[.pointer (some ⟨p, 0, none⟩), .int .i64 f, .agg #[.int .i64 x.1, .int .i64 x.2]] w fun e w' => e = .returned (.bool (decide (x ∈ L f))) ∧ BPair K B c w' p q (updF L f ((L f).erase x)) M ∧ Below B w w' ∧ w'.heap[c]? = w.heap[c]? := by
  obtain ⟨m, S, V, S2, V2, h1, h2, h3, h4, h5⟩ := h
  refine (BDrop_walk w p m S V L h1 f x hlen hK).mono ?_
  rintro e w' ⟨rfl, S', V', h6, h7, h8⟩
  exact ⟨rfl, BPair.turn h2 h3 h4 h5 hB hc h6 h7 h8⟩
theorem BPair.move_no (h : BPair K B c w p q L M) (f g : Int) (hlen : (L f).length ≤ 1000000) (hno : L f = [] ∨ f = g) :
    Calls Try.prog 28 #[.pointer (some ⟨p, 0, none⟩), .int .i64 f, .int .i64 g] w fun e w' => e = .returned (.bool false) ∧ BPair K B c w' p q L M ∧ Below w.heap.size w w' := by
  have h0 := h
  obtain ⟨m, S, V, S2, V2, h1, h2, h3, h4, h5⟩ := h
  refine (BMove_no w p m S V L h1 f g hlen hno).mono ?_
  rintro e w' ⟨rfl, h6⟩
  exact ⟨rfl, h0.below h6, h6⟩
theorem BPair.move (h : BPair K B c w p q L M) (hB : B ≤ w.heap.size) (hc : c < w.heap.size) (f g : Int) (hs : SortedP (L g)) (hlen : (L f).length ≤ 1000 ∧ (L g).length ≤ 1000) (hne : L f ≠ []) (hfg : f ≠ g) (hK : K g) :
    Calls Try.prog 28 #[.pointer (some ⟨p, 0, none⟩), .int .i64 f, .int .i64 g] w fun e w' => e = .returned (.bool true) ∧ BPair K B c w' p q (updF (updF L f []) g ((L f).foldl putP (L g))) M ∧ Below B w w' ∧ w'.heap[c]? = w.heap[c]? := by
  obtain ⟨m, S, V, S2, V2, h1, h2, h3, h4, h5⟩ := h
  refine (BMove_yes w p m S V L h1 f g hs hlen hne hfg hK).mono ?_
  rintro e w' ⟨rfl, S', V', h6, h7, h8⟩
  exact ⟨rfl, BPair.turn h2 h3 h4 h5 hB hc h6 h7 h8⟩
theorem BPair.of (h : BPair K B c w p q L M) (f : Int) (hlen : (L f).length ≤ 1000000) :
    Calls Try.prog 30 #[.pointer (some ⟨p, 0, none⟩), .int .i64 f] w fun e w' => ∃ v', e = .returned v' ∧ PlAt w' v' (L f) ∧ Below w.heap.size w w' := by
  obtain ⟨m, S, V, S2, V2, h1, h2, h3, h4, h5⟩ := h
  refine (BOf_walk w p m S V L h1 f hlen).mono ?_
  rintro e w' ⟨v', rfl, h6, h7, _⟩
  exact ⟨v', rfl, h6, h7⟩
theorem BPair.frames (h : BPair K B c w p q L M) (hK : ∀ f, K f → (Lit.int .i64 f).wf = true) (D : List Int) (hD : D.Pairwise (· < ·)) (hKD : ∀ f, K f → f ∈ D) (hlen : D.length ≤ 1000000) (proc : Int) :
    Calls Try.prog 44 #[.pointer (some ⟨p, 0, none⟩), .int .i64 proc] w fun e w' => ∃ v', e = .returned v' ∧ IntsAt w' v' (framesOf proc L D) ∧ Below w.heap.size w w' := by
  obtain ⟨m, S, V, S2, V2, h1, h2, h3, h4, h5⟩ := h
  have hV : V.length ≤ 1000000 := by
    have := nodup_length (l := V.map (·.1)) (D := D) h1.nd (fun x hx => by obtain ⟨y, hy, rfl⟩ := List.mem_map.1 hx; exact hKD _ (h1.keys y hy))
    rw [List.length_map] at this
    omega
  refine (Frames_walk w p m S V L h1 hK hV proc).mono ?_
  rintro e w' ⟨v', rfl, h6, h7⟩
  rw [frames_of_keys h1 D hD hKD] at h6
  exact ⟨v', rfl, h6, h7⟩
/-- The lists' own: what they hold, in their cells. -/
theorem BPair.cell (h : BPair K B c w p q L M) (k : Nat) (l : List (Int × Int)) (hl : M[k]? = some l) : ∃ v, PlAt w v l ∧ w.cell? ⟨q, k, none⟩ = some v := by
  obtain ⟨m, S, V, S2, V2, h1, h2, h3, h4, h5⟩ := h
  obtain ⟨v, hv⟩ : ∃ v, V2[k]? = some v := ⟨_, List.getElem?_eq_getElem (by rw [h2.lenV, ← h2.lenL]; exact (List.getElem?_eq_some_iff.1 hl).1)⟩
  obtain ⟨T, hblk⟩ := h2.blk
  exact ⟨v, h2.at_ k v l hv hl, by rw [cell_of_row w q k _ _ _ hblk]; simpa using hv⟩

theorem BPair.ne (h : BPair K B c w p q L M) : c ≠ q := by
  obtain ⟨m, S, V, S2, V2, h1, h2, h3, h4, h5⟩ := h
  exact fun e => (h4 q h2.pin).2.2 e.symm

/-- A list's elements are not in the lists' own block. -/
theorem BPair.apart (h : BPair K B c w p q L M) (k : Nat) (l : List (Int × Int)) (hl : M[k]? = some l) {v : Value} (hv : w.cell? ⟨q, k, none⟩ = some v) {b : Nat} (hb : v.ownBlock = some b) : b ≠ q := by
  obtain ⟨m, S, V, S2, V2, h1, h2, h3, h4, h5⟩ := h
  obtain ⟨u, hu⟩ : ∃ u, V2[k]? = some u := ⟨_, List.getElem?_eq_getElem (by rw [h2.lenV, ← h2.lenL]; exact (List.getElem?_eq_some_iff.1 hl).1)⟩
  obtain ⟨T, hblk⟩ := h2.blk
  have hc : w.cell? ⟨q, k, none⟩ = some u := by rw [cell_of_row w q k _ _ _ hblk]; simpa using hu
  rw [hv] at hc
  cases hc
  exact (h2.own k _ b hu hb).2

/-- One of the reference's lists, and its cell. -/
theorem BPair.list (h : BPair K B c w p q L M) (hc : c < w.heap.size) (k : Nat) (l : List (Int × Int)) (hl : M[k]? = some l) : ∃ v, PlAt w v l ∧ w.cell? ⟨q, k, none⟩ = some v ∧ w.frozen? ⟨q, k, none⟩ = false ∧ q < w.heap.size ∧
    ∀ w2 v' m', Below w.heap.size w w2 → PlAt w2 v' m' → (v' = v ∨ ∀ b, v'.ownBlock = some b → w.heap.size ≤ b) → BPair K B c (w2.setCell ⟨q, k, none⟩ v') p q L (M.set k m') ∧ (B ≤ w.heap.size → Below B w (w2.setCell ⟨q, k, none⟩ v')) ∧ (w2.setCell ⟨q, k, none⟩ v').heap[c]? = w2.heap[c]? := by
  obtain ⟨m, S, V, S2, V2, h1, h2, h3, h4, h5⟩ := h
  have hk : k < 8 := by have := (List.getElem?_eq_some_iff.1 hl).1; rw [h2.lenL] at this; exact this
  obtain ⟨v, hv⟩ : ∃ v, V2[k]? = some v := ⟨_, List.getElem?_eq_getElem (by rw [h2.lenV]; exact hk)⟩
  obtain ⟨T, hblk⟩ := h2.blk
  have hq : q < w.heap.size := (Array.getElem?_eq_some_iff.1 hblk).1
  refine ⟨v, h2.at_ k v l hv hl, by rw [cell_of_row w q k _ _ _ hblk]; simpa using hv, by simp [World.frozen?, hblk], hq, fun w2 v' m' hb hp ho => ?_⟩
  have hblk2 : w2.heap[q]? = some (.cells V2.toArray T (0, 0)) := (hb.block q hq).trans hblk
  have hown := h2.own k v
  have hs4 : (w2.setCell ⟨q, k, none⟩ v').heap.size = w2.heap.size := by simp [World.setCell]
  have hb4 : ∀ j, j ≠ q → (w2.setCell ⟨q, k, none⟩ v').heap[j]? = w2.heap[j]? := fun j hj => Below.heap_setCell w2 _ _ j hj
  have hoq : ∀ b, v'.ownBlock = some b → b ≠ q := fun b hb' => by
    rcases ho with rfl | ho
    · exact (hown b hv hb').2
    · have := ho b hb'; omega
  obtain ⟨S', V', h6, h7, h8⟩ := h2.put hv ⟨T, row_setCell hblk2 v'⟩ (hp.keep fun b hb' => hb4 b (hoq b hb')) (fun b hb' => by
      rcases ho with rfl | ho
      · exact .inl hb'
      · exact .inr (ho b hb')) (fun j hj hjq _ => by rw [hb4 j hjq, hb.block j hj]) hb.os hb.tape hb.output (by rw [hs4]; exact hb.size)
  refine ⟨⟨m, S, V, _, V', h1.touch h7 (fun b hb hm => h5 b hb hm), h6.small, fun i hi => ⟨(h3 i hi).1, Nat.lt_of_lt_of_le (h3 i hi).2.1 h7.size, (h3 i hi).2.2⟩, fun i hi => ?_, fun i hi hm => ?_⟩, fun hB => h7.belowFrom' (fun i hi => (h4 i hi).1) hB, hb4 c (fun e => (h4 q h2.pin).2.2 e.symm)⟩
  · simp at hi
    exact ⟨(h8 i hi.1).elim (fun e => (h4 i e).1) (by have := (h4 q h2.pin).1; omega), by rw [hs4]; exact hi.2, (h8 i hi.1).elim (fun e => (h4 i e).2.2) (by omega)⟩
  · simp at hm
    have := (h3 i hi).2.1
    exact (h8 i hm.1).elim (fun e => h5 i hi e) (by omega)

theorem BPair.start {w1 : World} (h : BTwo K w.heap.size w1 p noF (.slice none 0 0) []) (hb : Below w.heap.size w w1) (T : TypeId) :
    BPair K w.heap.size (w1.heap.size + 1) (w1.alloc (.cells (List.replicate 8 (.slice none 0 0)).toArray T)) p w1.heap.size noF (List.replicate 8 []) := by
  obtain ⟨m, S, V, h1, h2, _, _⟩ := h
  have ba : Below w1.heap.size w1 (w1.alloc (.cells (List.replicate 8 (.slice none 0 0)).toArray T)) := (Below.refl _ _).alloc (Nat.le_refl _) _
  refine ⟨m, S, V, _, _, h1.below ba, ListsAt.fresh 8 w1 T, fun i hi => ?_, fun i hi => ?_, fun i hi hm => ?_⟩
  · exact ⟨(h2 i hi).1, Nat.lt_of_lt_of_le (h2 i hi).2 ba.size, by have := (h2 i hi).2; omega⟩
  · rw [List.mem_singleton] at hi
    subst hi
    exact ⟨hb.size, by rw [World.size_alloc]; exact Nat.lt_succ_self _, by omega⟩
  · rw [List.mem_singleton] at hm
    have := (h2 i hi).2
    omega
end

/-- What happens: a number, two frames, a place. -/
abbrev BAct := Int × Int × Int × Int × Int
def encB (x : BAct) : List Value := [.int .i64 x.1, .int .i64 x.2.1, .int .i64 x.2.2.1, .int .i64 x.2.2.2.1, .int .i64 x.2.2.2.2]
def wfB (x : BAct) : Prop := (Lit.int .i64 x.1).wf = true
theorem decB (cs : List Value) (h : Open.AllOk [some .i64, some .i64, some .i64, some .i64, some .i64] cs) : ∃ x, cs = encB x ∧ wfB x := by
  have hlen := h.length
  simp only [List.length_cons, List.length_nil] at hlen
  obtain ⟨c0, c1, c2, c3, c4, rfl⟩ : ∃ c0 c1 c2 c3 c4, cs = [c0, c1, c2, c3, c4] := by
    rcases cs with _ | ⟨c0, _ | ⟨c1, _ | ⟨c2, _ | ⟨c3, _ | ⟨c4, _ | ⟨c5, cs⟩⟩⟩⟩⟩⟩ <;> simp at hlen
    exact ⟨_, _, _, _, _, rfl⟩
  obtain ⟨⟨y0, rfl, u0⟩, ⟨y1, rfl, u1⟩, ⟨y2, rfl, u2⟩, ⟨y3, rfl, u3⟩, ⟨y4, rfl, u4⟩, _⟩ := h
  exact ⟨(y0, y1, y2, y3, y4), rfl, u0⟩
theorem rowB_cell {w w' : World} {a : Option Addr} {len cap : Nat} {z : List BAct} (h : Open.RowsAt w encB 5 a len cap z) (hb : Below w.heap.size w w') (i : Nat) (hi : i < len) :
    ∃ b off x, a = some ⟨b, off, none⟩ ∧ z[i]? = some x ∧ w'.cell? ⟨b, off + i * 5, none⟩ = some (.int .i64 x.1) ∧ w'.cell? ⟨b, off + i * 5 + 1, none⟩ = some (.int .i64 x.2.1) ∧ w'.cell? ⟨b, off + i * 5 + 2, none⟩ = some (.int .i64 x.2.2.1) ∧ w'.cell? ⟨b, off + i * 5 + 3, none⟩ = some (.int .i64 x.2.2.2.1) ∧ w'.cell? ⟨b, off + i * 5 + 4, none⟩ = some (.int .i64 x.2.2.2.2) := by
  obtain ⟨hz, _, _, hc⟩ := h
  obtain ⟨b, off, ha, hlt, hv⟩ := hc i hi
  have hx : z[i]? = some z[i] := List.getElem?_eq_getElem (by omega)
  have h0 := hv _ hx 0 _ rfl
  have h1 := hv _ hx 1 _ rfl
  have h2 := hv _ hx 2 _ rfl
  have h3 := hv _ hx 3 _ rfl
  have h4 := hv _ hx 4 _ rfl
  rw [Nat.add_zero] at h0
  exact ⟨b, off, z[i], ha, hx, (hb.cell hlt).trans h0, by rw [Nat.add_assoc]; exact (hb.cell hlt).trans h1, by rw [Nat.add_assoc]; exact (hb.cell hlt).trans h2, by rw [Nat.add_assoc]; exact (hb.cell hlt).trans h3, by rw [Nat.add_assoc]; exact (hb.cell hlt).trans h4⟩
end Go.Proofs.Ytflbidbnbfndgaa
