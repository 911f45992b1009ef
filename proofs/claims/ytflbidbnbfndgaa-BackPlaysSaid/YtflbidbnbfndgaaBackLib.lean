/- Who has which frame, in memory: a map from frames to slices of places; what a store, a delete leave of it. -/
import Derived.Test.YtflbidbnbfndgaaPlaceLib
import Derived.Test.YtflbidbnbfndgaaCacheTypes
namespace Go.Proofs.Ytflbidbnbfndgaa
open Go Go.RowKit

variable {K : Int → Prop}

section
variable {κ ν : Type} [DecidableEq κ]
theorem keys_updL (l : List (κ × ν)) (k : κ) (v : ν) (h : (l.map (·.1)).Nodup) : ((updL l k v).map (·.1)).Nodup ∧ ∀ q, q ∈ (updL l k v).map (·.1) ↔ q = k ∨ q ∈ l.map (·.1) := by
  induction l with
  | nil => simp [updL]
  | cons x l ih =>
    rw [List.map_cons, List.nodup_cons] at h
    obtain ⟨i1, i2⟩ := ih h.2
    simp only [updL]
    split
    · rename_i e
      subst e
      refine ⟨by rw [List.map_cons, List.nodup_cons]; exact h, fun q => by simp⟩
    · rename_i e
      refine ⟨?_, fun q => ?_⟩
      · rw [List.map_cons, List.nodup_cons]
        refine ⟨fun hm => ?_, i1⟩
        rcases (i2 x.1).1 hm with hm | hm
        · exact e hm.symm
        · exact h.1 hm
      · rw [List.map_cons, List.mem_cons, i2, List.map_cons, List.mem_cons]
        constructor
        · rintro (h | h | h)
          · exact .inr (.inl h)
          · exact .inl h
          · exact .inr (.inr h)
        · rintro (h | h | h)
          · exact .inr (.inl h)
          · exact .inl h
          · exact .inr (.inr h)
theorem delL_sub (l : List (κ × ν)) (k : κ) : List.Sublist (delL l k) l := by
  induction l with
  | nil => exact List.Sublist.refl _
  | cons x l ih =>
    simp only [delL]
    split
    · exact List.sublist_cons_self _ _
    · exact ih.cons_cons x
theorem getL_none {l : List (κ × ν)} {k : κ} (h : k ∉ l.map (·.1)) : getL l k = none := by
  induction l with
  | nil => rfl
  | cons x l ih =>
    simp only [List.map_cons, List.mem_cons, not_or] at h
    rw [getL, if_neg h.1, ih h.2]
theorem getL_delL {l : List (κ × ν)} {k : κ} (h : (l.map (·.1)).Nodup) (q : κ) : getL (delL l k) q = if q = k then none else getL l q := by
  induction l with
  | nil => simp [delL, getL]
  | cons x l ih =>
    rw [List.map_cons, List.nodup_cons] at h
    simp only [delL]
    split
    · rename_i e
      subst e
      by_cases hq : q = x.1
      · subst hq
        rw [if_pos rfl, getL_none h.1]
      · rw [if_neg hq, getL, if_neg hq]
    · rename_i e
      simp only [getL, ih h.2]
      by_cases hq : q = x.1
      · subst hq
        simp [Ne.symm e]
      · simp [hq]
end

def idV (v : Value) : Value := v
/-- The slice that a frame has. -/
def slotB (V : List (Int × Value)) (f : Int) : Value := (getL V f).getD (.slice none 0 0)
def updF (L : Int → List (Int × Int)) (f : Int) (l : List (Int × Int)) : Int → List (Int × Int) := fun g => if g = f then l else L g

structure BackAt (K : Int → Prop) (w : World) (p m : Nat) (S : List Nat) (V : List (Int × Value)) (L : Int → List (Int × Int)) : Prop where
  c0 : w.cell? ⟨p, 0, none⟩ = some (.map (some m))
  map : MapAt w m encInt idV V
  at_ : ∀ f, PlAt w (slotB V f) (L f)
  own : ∀ f b, (slotB V f).ownBlock = some b → b ∈ S ∧ b ≠ p ∧ b ≠ m
  inj : ∀ f g b, (slotB V f).ownBlock = some b → (slotB V g).ownBlock = some b → f = g
  pin : p ∈ S
  min : m ∈ S
  nd : (V.map (·.1)).Nodup
  keys : ∀ x ∈ V, K x.1

theorem BackAt.ps {w : World} {p m : Nat} {S : List Nat} {V : List (Int × Value)} {L : Int → List (Int × Int)} (h : BackAt K w p m S V L) : p < w.heap.size ∧ m < w.heap.size ∧ p ≠ m := by
  refine ⟨World.block_lt_of_cell? w _ h.c0, h.map.lt, fun e => ?_⟩
  obtain ⟨es, c, hb, _⟩ := h.map
  have h0 := h.c0
  subst e
  simp [World.cell?, hb] at h0

theorem BackAt.touch {w w' : World} {p m : Nat} {S S0 : List Nat} {V : List (Int × Value)} {L : Int → List (Int × Int)} (h : BackAt K w p m S V L) (t : Touch S0 w w') (hn : ∀ b ∈ S, b ∉ S0) : BackAt K w' p m S V L :=
  ⟨t.cell h.c0 (hn p h.pin), h.map.keep (t.block m h.ps.2.1 (hn m h.min)), fun f => (h.at_ f).touch t fun b hb => hn b (h.own f b hb).1, h.own, h.inj, h.pin, h.min, h.nd, h.keys⟩
theorem BackAt.below {w w' : World} {p m : Nat} {S : List Nat} {V : List (Int × Value)} {L : Int → List (Int × Int)} (h : BackAt K w p m S V L) (hb : Below w.heap.size w w') : BackAt K w' p m S V L :=
  h.touch (Touch.of_below (S := []) hb) (by simp)

theorem BackAt.set {w w' : World} {p m : Nat} {S : List Nat} {V V' : List (Int × Value)} {L : Int → List (Int × Int)} (h : BackAt K w p m S V L) {f : Int} {v' : Value} {l' : List (Int × Int)}
    (hV : ∀ g, slotB V' g = if g = f then v' else slotB V g) (hnd : (V'.map (·.1)).Nodup) (hkeys : ∀ x ∈ V', K x.1) (hM : MapAt w' m encInt idV V') (hl : PlAt w' v' l')
    (hown : ∀ b, v'.ownBlock = some b → (slotB V f).ownBlock = some b ∨ w.heap.size ≤ b)
    (hrest : ∀ j, j < w.heap.size → j ≠ m → (slotB V f).ownBlock ≠ some j → w'.heap[j]? = w.heap[j]?) (ho : w'.os = w.os) (ht : w'.tape = w.tape) (hout : w'.output = w.output) (hs : w.heap.size ≤ w'.heap.size) :
    ∃ S', BackAt K w' p m S' V' (updF L f l') ∧ Touch S w w' ∧ ∀ b ∈ S', b ∈ S ∨ w.heap.size ≤ b := by
  obtain ⟨hp, hm, hpm⟩ := h.ps
  have hlt : ∀ g b, (slotB V g).ownBlock = some b → b < w.heap.size := fun g b hb => SlAt.lt (h.at_ g) b hb
  obtain ⟨S', hS', _⟩ : ∃ S' : List Nat, (∀ b, b ∈ S' ↔ b ∈ S ∨ v'.ownBlock = some b) ∧ True := by
    cases e : v'.ownBlock with
    | none => exact ⟨S, by simp, trivial⟩
    | some b => exact ⟨b :: S, by intro c; simp [eq_comm, or_comm], trivial⟩
  refine ⟨S', ⟨?_, hM, fun g => ?_, fun g b hb => ?_, fun g g' b hb hb' => ?_, (hS' p).2 (.inl h.pin), (hS' m).2 (.inl h.min), hnd, hkeys⟩, ⟨ho, ht, hout, hs, fun j hj hn => hrest j hj (fun e => hn (e ▸ h.min)) (fun e => hn (h.own f j e).1)⟩, fun b hb => ?_⟩
  · exact (World.cell?_of_block (w := w) (hrest p hp hpm (fun e => (h.own f p e).2.1 rfl))).trans h.c0
  · rw [hV]
    unfold updF
    split
    · exact hl
    · rename_i e
      exact (h.at_ g).keep fun b hb => hrest b (hlt g b hb) (h.own g b hb).2.2 (fun e' => e (h.inj g f b hb e'))
  · rw [hV] at hb
    split at hb
    · refine ⟨(hS' b).2 (.inr hb), ?_⟩
      rcases hown b hb with e | e
      · exact (h.own f b e).2
      · omega
    · exact ⟨(hS' b).2 (.inl (h.own g b hb).1), (h.own g b hb).2⟩
  · have key : ∀ g b, g ≠ f → (slotB V g).ownBlock = some b → v'.ownBlock = some b → False := fun g b hg hb hb' => by
      rcases hown b hb' with e | e
      · exact hg (h.inj g f b hb e)
      · have := hlt g b hb; omega
    rw [hV] at hb hb'
    split at hb
    · rename_i e
      split at hb'
      · rename_i e'
        rw [e, e']
      · rename_i e'
        exact (key g' b e' hb' hb).elim
    · rename_i e
      split at hb'
      · exact (key g b e hb hb').elim
      · exact h.inj g g' b hb hb'
  · rcases (hS' b).1 hb with hb | hb
    · exact .inl hb
    · rcases hown b hb with e | e
      · exact .inl (h.own f b e).1
      · exact .inr e

theorem slotB_upd (V : List (Int × Value)) (f : Int) (v : Value) (g : Int) : slotB (updL V f v) g = if g = f then v else slotB V g := by
  unfold slotB
  rw [getL_updL]
  split <;> rfl
theorem slotB_del {V : List (Int × Value)} (h : (V.map (·.1)).Nodup) (f : Int) (g : Int) : slotB (delL V f) g = if g = f then .slice none 0 0 else slotB V g := by
  unfold slotB
  rw [getL_delL h]
  split <;> rfl
theorem keys_upd {V : List (Int × Value)} (h : ∀ x ∈ V, K x.1) (hn : (V.map (·.1)).Nodup) (f : Int) (v : Value) (hf : K f) : ∀ x ∈ updL V f v, K x.1 := by
  intro x hx
  rcases ((keys_updL V f v hn).2 x.1).1 (List.mem_map_of_mem hx) with e | e
  · rw [e]; exact hf
  · obtain ⟨y, hy, e⟩ := List.mem_map.1 e
    rw [← e]; exact h y hy
theorem keys_del {V : List (Int × Value)} (h : ∀ x ∈ V, K x.1) (f : Int) : ∀ x ∈ delL V f, K x.1 := fun x hx => h x ((delL_sub V f).subset hx)
theorem nd_del {V : List (Int × Value)} (h : (V.map (·.1)).Nodup) (f : Int) : ((delL V f).map (·.1)).Nodup := h.sublist ((delL_sub V f).map _)

theorem zeroSl (w : World) : (zeroValue 35).run Try.prog w = .ok (.slice none 0 0) w := by kernel_rfl

/-- What a frame has, looked up. -/
theorem BackAt.look {w : World} {p m : Nat} {S : List Nat} {V : List (Int × Value)} {L : Int → List (Int × Int)} (h : BackAt K w p m S V L) (f : Int) :
    (Instr.lookup 87 (.map (some m)) (.int .i64 f) false).run Try.prog w = .ok (slotB V f) w := by
  have := lookup_run (T := 87) lawOf Try.underlying87 (.slice none 0 0) zeroSl h.map f false
  refine this.trans ?_
  unfold slotB
  cases getL V f <;> rfl

theorem Back_new (w : World) : Calls Try.prog 25 #[] w fun e w' => ∃ p m, e = .returned (.pointer (some ⟨p, 0, none⟩)) ∧ BackAt K w' p m [p, m] [] (fun _ => []) ∧ w.heap.size ≤ p ∧ w.heap.size ≤ m ∧ Below w.heap.size w w' := by
  have hmm := @run_makeMap Try.prog
  go_enter Try.func25, Try.ntmps25
  go_wp2_with fail
  go_ret
  have m1 := MapAt.made (κ := Int) (ν := Value) w encInt idV
  have b3 := (Below.refl (w.alloc (.map #[] 0)).heap.size _).alloc (Nat.le_refl _) (.cells #[.map (some w.heap.size)] 89)
  have hb := heap_alloc_new (w.alloc (.map #[] 0)) (.cells #[.map (some w.heap.size)] 89)
  rw [World.size_alloc] at hb
  refine ⟨w.heap.size + 1, w.heap.size, rfl, ⟨?_, m1.below b3, fun f => PlAt.nil _, fun f b hb => ?_, fun f g b hb => ?_, by simp, by simp, by simp, by simp⟩, by omega, by omega, ((Below.refl _ _).alloc (Nat.le_refl _) _).alloc (by simp) _⟩
  · rw [cell_of_row _ _ 0 _ _ _ hb]; rfl
  · simp [slotB, getL, Value.ownBlock] at hb
  · simp [slotB, getL, Value.ownBlock] at hb
end Go.Proofs.Ytflbidbnbfndgaa
