/- A swap, and the reference's 32 lists beside it: what Hold, Release, and a store of one list leave of both. -/
import Derived.Test.YtflbidbnbfndgaaSwapTwo
import Derived.Test.YtflbidbnbfndgaaRefOut
import Derived.Test.YtflbidbnbfndgaaOpen
import Derived.Test.YtflbidbnbfndgaaSlots
namespace Go.Proofs.Ytflbidbnbfndgaa
open Go Go.RowKit

/-- 32 slices in a block p, and 32 others in a block q, apart, all in blocks from a number on, but for one block. -/
def Pair (B c : Nat) (w : World) (p q : Nat) (L M : List (List (Int × Int))) : Prop :=
  ∃ S V S2 V2, SwapAt w p S V L ∧ SwapAt w q S2 V2 M ∧ (∀ i ∈ S, B ≤ i ∧ i < w.heap.size ∧ i ≠ c) ∧ (∀ i ∈ S2, B ≤ i ∧ i < w.heap.size ∧ i ≠ c) ∧ ∀ i ∈ S, i ∉ S2

section
variable {B c : Nat} {w w' : World} {p q : Nat} {L M : List (List (Int × Int))}
theorem Pair.one (h : Pair B c w p q L M) : SwapIn B w p L := by
  obtain ⟨S, V, S2, V2, h1, _, h3, _⟩ := h
  exact ⟨S, V, h1, fun i hi => (h3 i hi).1⟩
theorem Pair.lens (h : Pair B c w p q L M) : L.length = 32 ∧ M.length = 32 := by
  obtain ⟨S, V, S2, V2, h1, h2, _⟩ := h
  exact ⟨h1.lenL, h2.lenL⟩
theorem Pair.below (h : Pair B c w p q L M) (hb : Below w.heap.size w w') : Pair B c w' p q L M := by
  obtain ⟨S, V, S2, V2, h1, h2, h3, h4, h5⟩ := h
  exact ⟨S, V, S2, V2, h1.below hb, h2.below hb, fun i hi => ⟨(h3 i hi).1, Nat.lt_of_lt_of_le (h3 i hi).2.1 hb.size, (h3 i hi).2.2⟩, fun i hi => ⟨(h4 i hi).1, Nat.lt_of_lt_of_le (h4 i hi).2.1 hb.size, (h4 i hi).2.2⟩, h5⟩
/-- A block that is made later. -/
theorem Pair.next (h : Pair B c w p q L M) (hb : Below w.heap.size w w') (d : Nat) (hd : w.heap.size ≤ d) : Pair B d w' p q L M := by
  obtain ⟨S, V, S2, V2, h1, h2, h3, h4, h5⟩ := h
  exact ⟨S, V, S2, V2, h1.below hb, h2.below hb, fun i hi => ⟨(h3 i hi).1, Nat.lt_of_lt_of_le (h3 i hi).2.1 hb.size, by have := (h3 i hi).2.1; omega⟩, fun i hi => ⟨(h4 i hi).1, Nat.lt_of_lt_of_le (h4 i hi).2.1 hb.size, by have := (h4 i hi).2.1; omega⟩, h5⟩

theorem Pair.turn {S S' S2 : List Nat} {V' V2 : List Value} {L' : List (List (Int × Int))} (h2 : SwapAt w q S2 V2 M) (h3 : ∀ i ∈ S, B ≤ i ∧ i < w.heap.size ∧ i ≠ c) (h4 : ∀ i ∈ S2, B ≤ i ∧ i < w.heap.size ∧ i ≠ c) (h5 : ∀ i ∈ S, i ∉ S2) (hB : B ≤ w.heap.size) (hc : c < w.heap.size)
    (h : SwapAt w' p S' V' L') (t : Touch S w w') (hS : ∀ b ∈ S', b ∈ S ∨ w.heap.size ≤ b) : Pair B c w' p q L' M ∧ Below B w w' ∧ w'.heap[c]? = w.heap[c]? := by
  refine ⟨⟨_, V', S2, V2, h.small, h2.touch t (fun b hb hm => h5 b hm hb), fun i hi => ?_, fun i hi => ⟨(h4 i hi).1, Nat.lt_of_lt_of_le (h4 i hi).2.1 t.size, (h4 i hi).2.2⟩, fun i hi hm => ?_⟩, t.belowFrom (fun i hi => (h3 i hi).1) hB, t.block c hc (fun e => (h3 c e).2.2 rfl)⟩
  · simp at hi
    exact ⟨(hS i hi.1).elim (fun e => (h3 i e).1) (by omega), hi.2, (hS i hi.1).elim (fun e => (h3 i e).2.2) (by omega)⟩
  · simp at hi
    have := (h4 i hm).2.1
    exact (hS i hi.1).elim (fun e => h5 i e hm) (by omega)

theorem Pair.hold (h : Pair B c w p q L M) (hB : B ≤ w.heap.size) (hc : c < w.heap.size) (k : Nat) (l : List (Int × Int)) (hl : L[k]? = some l) (x : Int × Int) (hs : SortedP l) (hlen : l.length ≤ 100000) :
    Calls Try.prog 33 #[.pointer (some ⟨p, 0, none⟩), .int .i64 k, .agg #[.int .i64 x.1, .int .i64 x.2]] w fun e w' => e = .returned (.bool true) ∧ Pair B c w' p q (L.set k (putP l x)) M ∧ Below B w w' ∧ w'.heap[c]? = w.heap[c]? := by
  obtain ⟨S, V, S2, V2, h1, h2, h3, h4, h5⟩ := h
  refine (Hold_walk w p S V L h1 k l hl x hs hlen).mono ?_
  rintro e w' ⟨rfl, S', V', h6, h7, h8⟩
  exact ⟨rfl, Pair.turn h2 h3 h4 h5 hB hc h6 h7 h8⟩
theorem Pair.release (h : Pair B c w p q L M) (hB : B ≤ w.heap.size) (hc : c < w.heap.size) (k : Nat) (l : List (Int × Int)) (hl : L[k]? = some l) (x : Int × Int) (hlen : l.length ≤ 100000) :
    Calls Try.prog 36 #[.pointer (some ⟨p, 0, none⟩), .int .i64 k, .agg #[.int .i64 x.1, .int .i64 x.2]] w fun e w' => e = .returned (.bool (decide (x ∈ l))) ∧ Pair B c w' p q (L.set k (l.erase x)) M ∧ Below B w w' ∧ w'.heap[c]? = w.heap[c]? := by
  obtain ⟨S, V, S2, V2, h1, h2, h3, h4, h5⟩ := h
  refine (Release_walk w p S V L h1 k l hl x hlen).mono ?_
  rintro e w' ⟨rfl, S', V', h6, h7, h8⟩
  exact ⟨rfl, Pair.turn h2 h3 h4 h5 hB hc h6 h7 h8⟩

theorem Pair.of (h : Pair B c w p q L M) (k : Nat) (l : List (Int × Int)) (hl : L[k]? = some l) (hlen : l.length ≤ 1000000) :
    Calls Try.prog 40 #[.pointer (some ⟨p, 0, none⟩), .int .i64 k] w fun e w' => ∃ v', e = .returned v' ∧ PlAt w' v' l ∧ Below w.heap.size w w' := by
  obtain ⟨S, V, S2, V2, h1, h2, h3, h4, h5⟩ := h
  refine (Of_walk' w p S V L h1 k l hl hlen).mono ?_
  rintro e w' ⟨v', rfl, h6, h7, _⟩
  exact ⟨v', rfl, h6, h7⟩
theorem Pair.slots (h : Pair B c w p q L M) (proc : Int) :
    Calls Try.prog 42 #[.pointer (some ⟨p, 0, none⟩), .int .i64 proc] w fun e w' => ∃ v, e = .returned v ∧ IntsAt w' v (slotsFrom proc L 0) ∧ Below w.heap.size w w' := by
  obtain ⟨S, V, S2, V2, h1, h2, h3, h4, h5⟩ := h
  exact Slots_walk w p S V L h1 proc
/-- The lists' own: what they hold, in their cells. -/
theorem Pair.cell (h : Pair B c w p q L M) (k : Nat) (m : List (Int × Int)) (hm : M[k]? = some m) : ∃ v, PlAt w v m ∧ w.cell? ⟨q, k, none⟩ = some v := by
  obtain ⟨S, V, S2, V2, h1, h2, h3, h4, h5⟩ := h
  obtain ⟨v, hv⟩ : ∃ v, V2[k]? = some v := ⟨_, List.getElem?_eq_getElem (by rw [h2.lenV, ← h2.lenL]; exact (List.getElem?_eq_some_iff.1 hm).1)⟩
  obtain ⟨T, hblk⟩ := h2.blk
  exact ⟨v, h2.at_ k v m hv hm, by rw [cell_of_row w q k _ _ _ hblk]; simpa using hv⟩

/-- One of the reference's lists, and its cell. -/
theorem Pair.list (h : Pair B c w p q L M) (hc : c < w.heap.size) (k : Nat) (m : List (Int × Int)) (hm : M[k]? = some m) : ∃ v, PlAt w v m ∧ w.cell? ⟨q, k, none⟩ = some v ∧ w.frozen? ⟨q, k, none⟩ = false ∧ q < w.heap.size ∧
    ∀ w2 v' m', Below w.heap.size w w2 → PlAt w2 v' m' → (v' = v ∨ ∀ b, v'.ownBlock = some b → w.heap.size ≤ b) → Pair B c (w2.setCell ⟨q, k, none⟩ v') p q L (M.set k m') ∧ (B ≤ w.heap.size → Below B w (w2.setCell ⟨q, k, none⟩ v')) ∧ (w2.setCell ⟨q, k, none⟩ v').heap[c]? = w2.heap[c]? := by
  obtain ⟨S, V, S2, V2, h1, h2, h3, h4, h5⟩ := h
  have hk : k < 32 := by have := (List.getElem?_eq_some_iff.1 hm).1; rw [h2.lenL] at this; exact this
  obtain ⟨v, hv⟩ : ∃ v, V2[k]? = some v := ⟨_, List.getElem?_eq_getElem (by rw [h2.lenV]; exact hk)⟩
  obtain ⟨T, hblk⟩ := h2.blk
  have hq : q < w.heap.size := (Array.getElem?_eq_some_iff.1 hblk).1
  refine ⟨v, h2.at_ k v m hv hm, by rw [cell_of_row w q k _ _ _ hblk]; simpa using hv, by simp [World.frozen?, hblk], hq, fun w2 v' m' hb hp ho => ?_⟩
  have hblk2 : w2.heap[q]? = some (.cells V2.toArray T (0, 0)) := (hb.block q hq).trans hblk
  have hown := h2.own k v
  have hs4 : (w2.setCell ⟨q, k, none⟩ v').heap.size = w2.heap.size := by simp [World.setCell]
  have hb4 : ∀ j, j ≠ q → (w2.setCell ⟨q, k, none⟩ v').heap[j]? = w2.heap[j]? := fun j hj => Below.heap_setCell w2 _ _ j hj
  have hoq : ∀ b, v'.ownBlock = some b → b ≠ q := fun b hb' => by
    rcases ho with rfl | ho
    · exact (hown b hv hb').2
    · have := ho b hb'; omega
  obtain ⟨S', V', h6, h7, h8⟩ := h2.put hv ⟨T, row_setCell hblk2 v'⟩ (hp.keep fun b hb' => hb4 b (hoq b hb')) (fun b hb' => by
      rcases ho with rfl | ho
      · exact .inl hb'
      · exact .inr (ho b hb')) (fun j hj hjq _ => by rw [hb4 j hjq, hb.block j hj]) hb.os hb.tape hb.output (by rw [hs4]; exact hb.size)
  refine ⟨⟨S, V, _, V', h1.touch h7 (fun b hb hm => h5 b hb hm), h6.small, fun i hi => ⟨(h3 i hi).1, Nat.lt_of_lt_of_le (h3 i hi).2.1 h7.size, (h3 i hi).2.2⟩, fun i hi => ?_, fun i hi hm => ?_⟩, fun hB => h7.belowFrom (fun i hi => (h4 i hi).1) hB, hb4 c (fun e => (h4 q h2.pin).2.2 e.symm)⟩
  · simp at hi
    exact ⟨(h8 i hi.1).elim (fun e => (h4 i e).1) (by have := (h4 q h2.pin).1; omega), by rw [hs4]; exact hi.2, (h8 i hi.1).elim (fun e => (h4 i e).2.2) (by omega)⟩
  · simp at hm
    have := (h3 i hi).2.1
    exact (h8 i hm.1).elim (fun e => h5 i hi e) (by omega)
end

/-- What happens: Hold or not, a slot, a place. -/
abbrev SAct := Bool × Int × Int × Int
def encS (x : SAct) : List Value := [.bool x.1, .int .i64 x.2.1, .int .i64 x.2.2.1, .int .i64 x.2.2.2]
def wfS (x : SAct) : Prop := (Lit.int .i64 x.2.1).wf = true ∧ (Lit.int .i64 x.2.2.1).wf = true ∧ (Lit.int .i64 x.2.2.2).wf = true
theorem decS (cs : List Value) (h : Open.AllOk [none, some .i64, some .i64, some .i64] cs) : ∃ x, cs = encS x ∧ wfS x := by
  have hlen := h.length
  simp only [List.length_cons, List.length_nil] at hlen
  obtain ⟨c0, c1, c2, c3, rfl⟩ : ∃ c0 c1 c2 c3, cs = [c0, c1, c2, c3] := by
    rcases cs with _ | ⟨c0, _ | ⟨c1, _ | ⟨c2, _ | ⟨c3, _ | ⟨c4, cs⟩⟩⟩⟩⟩ <;> simp at hlen
    exact ⟨_, _, _, _, rfl⟩
  obtain ⟨⟨b, rfl⟩, ⟨y0, rfl, u0⟩, ⟨y1, rfl, u1⟩, ⟨y2, rfl, u2⟩, _⟩ := h
  exact ⟨(b, y0, y1, y2), rfl, u0, u1, u2⟩
theorem rowS_cell {w w' : World} {a : Option Addr} {len cap : Nat} {z : List SAct} (h : Open.RowsAt w encS 4 a len cap z) (hb : Below w.heap.size w w') (i : Nat) (hi : i < len) :
    ∃ b off x, a = some ⟨b, off, none⟩ ∧ z[i]? = some x ∧ w'.cell? ⟨b, off + i * 4, none⟩ = some (.bool x.1) ∧ w'.cell? ⟨b, off + i * 4 + 1, none⟩ = some (.int .i64 x.2.1) ∧ w'.cell? ⟨b, off + i * 4 + 2, none⟩ = some (.int .i64 x.2.2.1) ∧ w'.cell? ⟨b, off + i * 4 + 3, none⟩ = some (.int .i64 x.2.2.2) := by
  obtain ⟨hz, _, _, hc⟩ := h
  obtain ⟨b, off, ha, hlt, hv⟩ := hc i hi
  have hx : z[i]? = some z[i] := List.getElem?_eq_getElem (by omega)
  have h0 := hv _ hx 0 _ rfl
  have h1 := hv _ hx 1 _ rfl
  have h2 := hv _ hx 2 _ rfl
  have h3 := hv _ hx 3 _ rfl
  rw [Nat.add_zero] at h0
  exact ⟨b, off, z[i], ha, hx, (hb.cell hlt).trans h0, by rw [Nat.add_assoc]; exact (hb.cell hlt).trans h1, by rw [Nat.add_assoc]; exact (hb.cell hlt).trans h2, by rw [Nat.add_assoc]; exact (hb.cell hlt).trans h3⟩
end Go.Proofs.Ytflbidbnbfndgaa
