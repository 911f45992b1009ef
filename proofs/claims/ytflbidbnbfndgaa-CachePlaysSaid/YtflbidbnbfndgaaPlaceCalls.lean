/- slices.Contains, Index, Clone at slices of places: what they answer. Over the shelf's contracts. -/
import Derived.Test.YtflbidbnbfndgaaPlaceLib
import Derived.Test.YtflbidbnbfndgaaShelf
import Derived.Test.YtflbidbnbfndgaaCacheKeys
import Derived.Shelf.SlicesQ.Contains
import Derived.Shelf.SlicesE.Clone
import Derived.Laws.StructEq
namespace Go.Proofs.Ytflbidbnbfndgaa
open Go Go.RowKit

def encP (x : Int × Int) : List Value := [.int .i64 x.1, .int .i64 x.2]
theorem encP_len (x : Int × Int) : (encP x).length = 2 := rfl
theorem encP_one (x : Int × Int) : ∀ v ∈ encP x, v.oneCell' = true := by intro v hv; simp [encP] at hv; rcases hv with rfl | rfl <;> rfl

set_option maxHeartbeats 400000 in
theorem placeKey : PairType Try.prog 40 where
  eq x y w := by
    have u3 := Try.underlying3
    have a3 := Try.isAgg3
    have z3 := Try.sizeOf3
    have hS : Try.prog.underlying 40 = some (.struct (Try.prog.fieldsOf 40)) := by kernel_rfl
    have hp : Try.prog.stoodInHeld 40 = false := by kernel_rfl
    show (Op.equalIn (9999 + 1) 40 (encPair x) (encPair y)).run Try.prog w = _
    simp only [encPair]
    rw [run_equalIn_struct w 9999 40 _ _ hS hp]
    simp only [Program.fieldsOf, Try.underlying40]
    go_simp
    by_cases h1 : x.fst = y.fst <;> by_cases h2 : x.snd = y.snd <;> simp [h1, h2]
  check k b w := by
    have u3 := Try.underlying3
    have a3 := Try.isAgg3
    have z3 := Try.sizeOf3
    have h : ∀ n, (Instr.checkKey b (n + 2) 40 (encPair k)).run Try.prog w = .ok () w := fun n => by
      simp [Instr.checkKey, run_underlying Try.underlying40, encPair]
      go_simp
    exact h 9998
  desc := ⟨_, Try.underlying40⟩

theorem eqlPlace : EqlAt Try.prog 40 (fun x => .agg (encP x).toArray) (fun x y : Int × Int => decide (x = y)) := by
  refine ⟨fun x y w => ?_, fun op a b x y w => ?_⟩
  · have e := placeKey.eq x y w
    show (binOp .eql 40 (encPair x) (encPair y)).run Try.prog w = _
    simp only
    rw [show (decide (x = y)) = (x.1 == y.1 && x.2 == y.2) by
      obtain ⟨x1, x2⟩ := x
      obtain ⟨y1, y2⟩ := y
      by_cases h1 : x1 = y1 <;> by_cases h2 : x2 = y2 <;> simp [h1, h2]]
    simp only [encPair] at e ⊢
    simp [binOp, e]
  · have hg : Try.prog.eqGuardType Try.prog.depth 40 = false := by kernel_rfl
    show (eqGuard op 40 a b (encPair x) (encPair y)).run Try.prog w = _
    unfold encPair
    cases op <;> simp [eqGuard, hg]

theorem PlAt.hc {w : World} {b off c n : Nat} {l : List (Int × Int)} (h : PlAt w (.slice (some ⟨b, off, none⟩) n c) l) :
    ∀ j, j < l.length → ∀ i v, (encP l[j]!)[i]? = some v → w.cell? ⟨b, off + j * 2 + i, none⟩ = some v := by
  intro j hj i v hv
  obtain ⟨h1, h2⟩ := h.cell j hj
  rw [getElem!_pos l j hj] at hv
  match i with
  | 0 => simp [encP] at hv; subst hv; exact h1
  | 1 => simp [encP] at hv; subst hv; exact h2
  | i + 2 => simp [encP] at hv

theorem Contains_walk (w : World) (v : Value) (l : List (Int × Int)) (h : PlAt w v l) (p : Int × Int) :
    Calls Try.prog 46 #[v, .agg #[.int .i64 p.1, .int .i64 p.2]] w fun e w' => e = .returned (.bool (decide (p ∈ l))) ∧ Below w.heap.size w w' := by
  rcases h.form with ⟨rfl, rfl⟩ | ⟨b, off, c, rfl, hc, hm, hb⟩
  · simp only [List.not_mem_nil, decide_false]
    go_enter Try.func46, Try.ntmps46
    go_wp2
    refine wp_loop_rounds 1 ?_
    rw [rounds_succ]
    go_wp2
    go_ret
    exact ⟨rfl, ((Below.refl _ _).alloc (Nat.le_refl _) _).alloc (by simp) _⟩
  · have := AnyQ.slices_Contains laysContains 2 (fun w => by kernel_rfl) (fun w => by kernel_rfl) encP encP_len (fun x y => decide (x = y)) eqlPlace b off l.length c l p w (Nat.le_refl _) (by unfold maxLen at hm; omega) h.hc
    refine this.mono ?_
    rintro e w' ⟨rfl, hB⟩
    refine ⟨?_, hB⟩
    congr 2
    rw [List.take_length]
    by_cases hp : p ∈ l <;> simp [hp, List.any_eq_true, List.any_eq_false]
    intro a b hab e
    exact hp (e ▸ hab)

/-- Where a place stands first; -1: nowhere. -/
def posP (l : List (Int × Int)) (p : Int × Int) : Int := if p ∈ l then (l.idxOf p : Int) else -1

theorem idxBy_pos (l : List (Int × Int)) (p : Int × Int) : Lib.idxBy (fun x y : Int × Int => decide (x = y)) l p = posP l p := by
  have key : ∀ (l : List (Int × Int)) (i : Nat), Lib.idxByFrom (fun x y : Int × Int => decide (x = y)) p l i = if p ∈ l then ((i + l.idxOf p : Nat) : Int) else -1 := by
    intro l
    induction l with
    | nil => intro i; rfl
    | cons x l ih =>
      intro i
      simp only [Lib.idxByFrom]
      by_cases e : p = x
      · subst e; simp
      · have e' : (x == p) = false := by simpa using fun h => e h.symm
        rw [if_neg (by simpa using e), ih]
        by_cases hp : p ∈ l
        · rw [if_pos hp, if_pos (List.mem_cons_of_mem _ hp), List.idxOf_cons, e']
          simp; omega
        · rw [if_neg hp, if_neg (by simp [e, hp])]
  have := key l 0
  simpa [Lib.idxBy, posP] using this

theorem Index_walk (w : World) (v : Value) (l : List (Int × Int)) (h : PlAt w v l) (p : Int × Int) :
    Calls Try.prog 52 #[v, .agg #[.int .i64 p.1, .int .i64 p.2]] w fun e w' => e = .returned (.int .i64 (posP l p)) ∧ Below w.heap.size w w' := by
  rcases h.form with ⟨rfl, rfl⟩ | ⟨b, off, c, rfl, hc, hm, hb⟩
  · simp only [posP, List.not_mem_nil, if_false]
    go_enter Try.func52, Try.ntmps52
    go_wp2
    refine wp_loop_rounds 1 ?_
    rw [rounds_succ]
    go_wp2
    go_ret
    exact ⟨rfl, (Below.refl _ _).alloc (Nat.le_refl _) _⟩
  · have := AnyQ.slices_Index laysIndex 2 (fun w => by kernel_rfl) (fun w => by kernel_rfl) encP encP_len (fun x y => decide (x = y)) eqlPlace b off l.length c l p w (Nat.le_refl _) (by unfold maxLen at hm; omega) h.hc
    refine this.mono ?_
    rintro e w' ⟨rfl, q, rfl⟩
    refine ⟨?_, below_drewN' ((Below.refl _ _).alloc (Nat.le_refl _) _) q⟩
    rw [List.take_length, idxBy_pos]

theorem infoPlace : ∃ i, Try.prog.info? 40 = some i ∧ i.zero = some (.agg #[.int .i64 0, .int .i64 0]) ∧ i.size = 2 ∧ i.bytes = 16 := by
  have h : (Try.prog.info? 40).map (fun i => (i.zero, i.size, i.bytes)) = some (some (.agg #[.int .i64 0, .int .i64 0]), 2, 16) := by kernel_rfl
  obtain ⟨i, hi, hb⟩ := Option.map_eq_some_iff.1 h
  simp at hb
  exact ⟨i, hi, hb⟩

theorem of_ownsRow {w : World} {base : Nat} {v : Value} {l : List (Int × Int)} (h : w.ownsRow base 40 2 v l.length (pl l)) : PlAt w v l := by
  refine ⟨h.1, ?_⟩
  rcases h.2 with h0 | ⟨g, cap, cur, e, hg, hc, hn, hm, hs, ht⟩
  · exact .inl h0
  · refine .inr ⟨g, 0, cap, cur, e, hc, hn, hm, by omega, fun j u hu => ?_⟩
    rw [← ht] at hu
    have hj := (List.getElem?_eq_some_iff.1 hu).1
    rw [List.getElem?_take_of_lt (by simp at hj; omega)] at hu
    simpa using hu

theorem Clone_walk (w : World) (v : Value) (l : List (Int × Int)) (h : PlAt w v l) (hl : l.length ≤ 1000000) :
    Calls Try.prog 50 #[v] w fun e w' => ∃ v', e = .returned v' ∧ PlAt w' v' l ∧ Below w.heap.size w w' ∧ ∀ b, v'.ownBlock = some b → w.heap.size ≤ b := by
  rcases h.form with ⟨rfl, rfl⟩ | ⟨b, off, c, rfl, hc, hm, hb⟩
  · refine (AnyE.slices_Clone_nil laysClone 0 0 w).mono ?_
    rintro e w' ⟨rfl, rfl⟩
    exact ⟨_, rfl, PlAt.nil w', Below.refl _ _, by simp [Value.ownBlock]⟩
  · obtain ⟨i, hi, hz, hs, hby⟩ := infoPlace
    have := AnyE.slices_Clone laysClone i _ 2 16 hi hz hs hby (by rfl) (by omega) (fun w => by kernel_rfl) b off l.length c (pl l) w (pl_length l) (by unfold maxLen; omega) (by omega) (fun j u hu => by
      obtain ⟨g, off', c', e, _, _, hx⟩ := SlAt.cells h (by have := (List.getElem?_eq_some_iff.1 hu).1; omega)
      cases e
      exact (hx j u hu).1) (pl_one l)
    refine this.mono ?_
    rintro e w' ⟨v', rfl, hown, hne, hB⟩
    refine ⟨v', rfl, ?_, hB, ?_⟩
    · exact of_ownsRow hown
    · intro b' hb'
      rcases hown.2 with ⟨e, _⟩ | ⟨g, cap, cur, e, hg, _⟩
      · exact absurd e hne
      · subst e; simp [Value.ownBlock] at hb'; omega
end Go.Proofs.Ytflbidbnbfndgaa
