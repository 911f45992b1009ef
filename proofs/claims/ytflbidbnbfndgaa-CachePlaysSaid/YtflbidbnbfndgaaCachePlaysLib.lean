/- CachePlays: what the law keeps between two acts: the cache, and three lists of its own. -/
import Derived.Test.YtflbidbnbfndgaaCacheSorted
namespace Go.Proofs.Ytflbidbnbfndgaa
open Go Go.RowKit

/-- A slice of whole numbers; of bools. -/
def IsAt (w : World) (v : Value) (l : List Int) : Prop := SlAt w 3 1 v l.length (l.map (.int .i64 ·))
def BsAt (w : World) (v : Value) (l : List Bool) : Prop := SlAt w 4 1 v l.length (l.map .bool)
theorem IsAt.cell {w : World} {b off c n : Nat} {l : List Int} (h : IsAt w (.slice (some ⟨b, off, none⟩) n c) l) {j : Nat} {y : Int} (hy : l[j]? = some y) : w.cell? ⟨b, off + j, none⟩ = some (.int .i64 y) ∧ w.frozen? ⟨b, off + j, none⟩ = false := by
  have hj := (List.getElem?_eq_some_iff.1 hy).1
  obtain ⟨g, off', c', e, _, _, hx⟩ := SlAt.cells h (by simp; omega)
  cases e
  exact hx j _ (by simp [hy])
theorem BsAt.cell {w : World} {b off c n : Nat} {l : List Bool} (h : BsAt w (.slice (some ⟨b, off, none⟩) n c) l) {j : Nat} {y : Bool} (hy : l[j]? = some y) : w.cell? ⟨b, off + j, none⟩ = some (.bool y) ∧ w.frozen? ⟨b, off + j, none⟩ = false := by
  have hj := (List.getElem?_eq_some_iff.1 hy).1
  obtain ⟨g, off', c', e, _, _, hx⟩ := SlAt.cells h (by simp; omega)
  cases e
  exact hx j _ (by simp [hy])
theorem SlAt.addrOf {w : World} {e : TypeId} {k n n' : Nat} {a : Option Addr} {c : Nat} {xs : List Value} (h : SlAt w e k (.slice a n' c) n xs) (hl : 0 < xs.length) : ∃ b off, a = some ⟨b, off, none⟩ := by
  obtain ⟨g, off', c', e, _⟩ := SlAt.cells h hl
  cases e
  exact ⟨g, off', rfl⟩
/-- Slices of two types lie in two blocks. -/
theorem SlAt.apart {w : World} {e e' : TypeId} {k k' n n' : Nat} {v v' : Value} {xs xs' : List Value} (h : SlAt w e k v n xs) (h' : SlAt w e' k' v' n' xs') (hne : e ≠ e') : ∀ b, v.ownBlock = some b → v'.ownBlock ≠ some b := by
  intro b hb hb'
  rcases h.2 with ⟨rfl, _⟩ | ⟨g, off, c, arr, rfl, hg, _⟩
  · simp [Value.ownBlock] at hb
  · rcases h'.2 with ⟨rfl, _⟩ | ⟨g', off', c', arr', rfl, hg', _⟩
    · simp [Value.ownBlock] at hb'
    · simp [Value.ownBlock] at hb hb'
      subst hb hb'
      rw [hg] at hg'
      exact hne (Obj.cells.inj (Option.some.inj hg')).2.1
theorem SlAt.notMap {w : World} {e : TypeId} {k n : Nat} {v : Value} {xs : List Value} (h : SlAt w e k v n xs) {m : Nat} {es : Array MapEntry} {clock : Nat} (hm : w.heap[m]? = some (.map es clock)) : v.ownBlock ≠ some m := by
  intro hb
  rcases h.2 with ⟨rfl, _⟩ | ⟨g, off, c, arr, rfl, hg, _⟩
  · simp [Value.ownBlock] at hb
  · simp [Value.ownBlock] at hb
    subst hb
    rw [hg] at hm
    cases hm

structure PlayAt (B : Nat) (w wr : World) (p m1 m2 : Nat) (L : CList) (R : CBack) (vk : Value) (K : List (Int × Int)) (vf : Value) (F : List Int) (vd : Value) (D : List Bool) : Prop where
  below : Below B w wr
  cache : CacheAt wr p m1 m2 L R
  k : KeAt wr vk K
  f : IsAt wr vf F
  d : BsAt wr vd D
  ok : ∀ b, vk.ownBlock = some b → B ≤ b ∧ b ≠ p
  of : ∀ b, vf.ownBlock = some b → B ≤ b ∧ b ≠ p
  od : ∀ b, vd.ownBlock = some b → B ≤ b ∧ b ≠ p
  hp : B ≤ p ∧ B ≤ m1 ∧ B ≤ m2

section
variable {B : Nat} {w wr w' : World} {p m1 m2 : Nat} {L L' : CList} {R R' : CBack} {vk vk' : Value} {K K' : List (Int × Int)} {vf vf' : Value} {F F' : List Int} {vd vd' : Value} {D D' : List Bool}

theorem PlayAt.next (h : PlayAt B w wr p m1 m2 L R vk K vf F vd D) (hB : B ≤ wr.heap.size) (hb : Below wr.heap.size wr w') : PlayAt B w w' p m1 m2 L R vk K vf F vd D :=
  ⟨h.below.trans (hb.mono hB), h.cache.below hb, h.k.below hb, SlAt.below h.f hb, SlAt.below h.d hb, h.ok, h.of, h.od, h.hp⟩
theorem PlayAt.maps (h : PlayAt B w wr p m1 m2 L R vk K vf F vd D) : (∃ es c, wr.heap[m1]? = some (.map es c)) ∧ ∃ es c, wr.heap[m2]? = some (.map es c) := by
  obtain ⟨_, _, ⟨es, c, h1, _⟩, ⟨es', c', h2, _⟩, _⟩ := h.cache
  exact ⟨⟨es, c, h1⟩, es', c', h2⟩
theorem PlayAt.touch (h : PlayAt B w wr p m1 m2 L R vk K vf F vd D) (hB : B ≤ wr.heap.size) (ht : Touch [m1, m2] wr w') (hc : CacheAt w' p m1 m2 L' R') : PlayAt B w w' p m1 m2 L' R' vk K vf F vd D := by
  obtain ⟨⟨es, c, h1⟩, es', c', h2⟩ := h.maps
  have key : ∀ {e k n : Nat} {v : Value} {xs : List Value}, SlAt wr e k v n xs → SlAt w' e k v n xs := fun hs => hs.keep fun b hb => ht.block b (hs.lt b hb) (by
    have n1 := hs.notMap h1
    have n2 := hs.notMap h2
    intro hm
    simp at hm
    rcases hm with rfl | rfl
    · exact n1 hb
    · exact n2 hb)
  exact ⟨Touch.from h.below ht hB (fun i hi => by have := h.hp; simp at hi; omega), hc, key h.k, key h.f, key h.d, h.ok, h.of, h.od, h.hp⟩
/-- The cache stays while one block of cells turns that is not its own. -/
theorem PlayAt.cacheGrown (h : PlayAt B w wr p m1 m2 L R vk K vf F vd D) {e k n : Nat} {v : Value} {xs : List Value} (hs : SlAt wr e k v n xs) (hv : ∀ b, v.ownBlock = some b → b ≠ p) (hg : wr.grownBy w' v.ownBlock) : CacheAt w' p m1 m2 L R := by
  obtain ⟨⟨es, c, h1⟩, es', c', h2⟩ := h.maps
  have hps := h.cache.ps
  exact h.cache.keep fun i hi => hg.block i (by omega) (by
    intro e
    rcases hi with rfl | rfl | rfl
    · exact hv _ e.symm rfl
    · exact hs.notMap h1 e.symm
    · exact hs.notMap h2 e.symm)
theorem grown_own {a : World} {r : Option Nat} {v v' : Value} (ho : v'.ownBlock = v.ownBlock ∨ v'.ownBlock = some a.heap.size) {B p : Nat} (h : ∀ b, v.ownBlock = some b → B ≤ b ∧ b ≠ p) (hB : B ≤ a.heap.size) (hp : p < a.heap.size) : ∀ b, v'.ownBlock = some b → B ≤ b ∧ b ≠ p := by
  intro b hb
  rcases ho with e | e
  · exact h b (e.symm.trans hb)
  · rw [e] at hb
    cases hb
    exact ⟨hB, by omega⟩
theorem PlayAt.growK (h : PlayAt B w wr p m1 m2 L R vk K vf F vd D) (hB : B ≤ wr.heap.size) (hs : KeAt w' vk' K') (hg : wr.grownBy w' vk.ownBlock) (ho : vk'.ownBlock = vk.ownBlock ∨ vk'.ownBlock = some wr.heap.size) : PlayAt B w w' p m1 m2 L R vk' K' vf F vd D :=
  ⟨h.below.grown hg hB (fun b hb => (h.ok b hb).1), h.cacheGrown h.k (fun b hb => (h.ok b hb).2) hg, hs,
   SlAt.keep h.f fun b hb => hg.block b (SlAt.lt h.f b hb) (fun e => SlAt.apart h.f h.k (by decide) b hb e.symm),
   SlAt.keep h.d fun b hb => hg.block b (SlAt.lt h.d b hb) (fun e => SlAt.apart h.d h.k (by decide) b hb e.symm),
   grown_own (r := none) ho h.ok hB h.cache.ps.1, h.of, h.od, h.hp⟩
theorem PlayAt.growF (h : PlayAt B w wr p m1 m2 L R vk K vf F vd D) (hB : B ≤ wr.heap.size) (hs : IsAt w' vf' F') (hg : wr.grownBy w' vf.ownBlock) (ho : vf'.ownBlock = vf.ownBlock ∨ vf'.ownBlock = some wr.heap.size) : PlayAt B w w' p m1 m2 L R vk K vf' F' vd D :=
  ⟨h.below.grown hg hB (fun b hb => (h.of b hb).1), h.cacheGrown h.f (fun b hb => (h.of b hb).2) hg,
   SlAt.keep h.k fun b hb => hg.block b (SlAt.lt h.k b hb) (fun e => SlAt.apart h.k h.f (by decide) b hb e.symm), hs,
   SlAt.keep h.d fun b hb => hg.block b (SlAt.lt h.d b hb) (fun e => SlAt.apart h.d h.f (by decide) b hb e.symm),
   h.ok, grown_own (r := none) ho h.of hB h.cache.ps.1, h.od, h.hp⟩
theorem PlayAt.growD (h : PlayAt B w wr p m1 m2 L R vk K vf F vd D) (hB : B ≤ wr.heap.size) (hs : BsAt w' vd' D') (hg : wr.grownBy w' vd.ownBlock) (ho : vd'.ownBlock = vd.ownBlock ∨ vd'.ownBlock = some wr.heap.size) : PlayAt B w w' p m1 m2 L R vk K vf F vd' D' :=
  ⟨h.below.grown hg hB (fun b hb => (h.od b hb).1), h.cacheGrown h.d (fun b hb => (h.od b hb).2) hg,
   SlAt.keep h.k fun b hb => hg.block b (SlAt.lt h.k b hb) (fun e => SlAt.apart h.k h.d (by decide) b hb e.symm),
   SlAt.keep h.f fun b hb => hg.block b (SlAt.lt h.f b hb) (fun e => SlAt.apart h.f h.d (by decide) b hb e.symm), hs,
   h.ok, h.of, grown_own (r := none) ho h.od hB h.cache.ps.1, h.hp⟩
/-- New slices in their places. -/
theorem PlayAt.newK (h : PlayAt B w wr p m1 m2 L R vk K vf F vd D) (hB : B ≤ wr.heap.size) (hs : KeAt w' vk' K') (hb : Below wr.heap.size wr w') (ho : ∀ b, vk'.ownBlock = some b → wr.heap.size ≤ b) : PlayAt B w w' p m1 m2 L R vk' K' vf F vd D :=
  have h' := h.next hB hb
  ⟨h'.below, h'.cache, hs, h'.f, h'.d, fun b hb => ⟨Nat.le_trans hB (ho b hb), by have := ho b hb; have := h.cache.ps.1; omega⟩, h.of, h.od, h.hp⟩
theorem PlayAt.newF (h : PlayAt B w wr p m1 m2 L R vk K vf F vd D) (hB : B ≤ wr.heap.size) (hs : IsAt w' vf' F') (hb : Below wr.heap.size wr w') (ho : ∀ b, vf'.ownBlock = some b → wr.heap.size ≤ b) : PlayAt B w w' p m1 m2 L R vk K vf' F' vd D :=
  have h' := h.next hB hb
  ⟨h'.below, h'.cache, h'.k, hs, h'.d, h.ok, fun b hb => ⟨Nat.le_trans hB (ho b hb), by have := ho b hb; have := h.cache.ps.1; omega⟩, h.od, h.hp⟩
theorem PlayAt.newD (h : PlayAt B w wr p m1 m2 L R vk K vf F vd D) (hB : B ≤ wr.heap.size) (hs : BsAt w' vd' D') (hb : Below wr.heap.size wr w') (ho : ∀ b, vd'.ownBlock = some b → wr.heap.size ≤ b) : PlayAt B w w' p m1 m2 L R vk K vf F vd' D' :=
  have h' := h.next hB hb
  ⟨h'.below, h'.cache, h'.k, h'.f, hs, h.ok, h.of, fun b hb => ⟨Nat.le_trans hB (ho b hb), by have := ho b hb; have := h.cache.ps.1; omega⟩, h.hp⟩
end

/-- One bool stored in its place. -/
theorem BsAt.set {w : World} {b off c n : Nat} {l : List Bool} (h : BsAt w (.slice (some ⟨b, off, none⟩) n c) l) {k : Nat} (hk : k < l.length) (x : Bool) : BsAt (w.setCell ⟨b, off + k, none⟩ (.bool x)) (.slice (some ⟨b, off, none⟩) n c) (l.set k x) := by
  refine ⟨by simp, ?_⟩
  rcases h.2 with ⟨e, _⟩ | ⟨g, off', c', arr, e, hg, hnc, hm, hs, hxs⟩
  · cases e
  · cases e
    refine .inr ⟨b, off, c, arr.set! (off + k) (.bool x), by rw [List.length_set], ?_, by rw [List.length_set]; exact hnc, hm, by simp; omega, fun j u hu => ?_⟩
    · unfold World.setCell
      simp [Array.getElem?_modify, hg]
    · have hj := (List.getElem?_eq_some_iff.1 hu).1
      simp at hj
      have hsz : off + j < arr.size := by omega
      rw [Array.set!_eq_setIfInBounds, Array.getElem?_setIfInBounds]
      by_cases hjk : j = k
      · subst hjk
        rw [if_pos rfl, if_pos hsz]
        simpa [hj] using hu
      · rw [if_neg (by omega)]
        refine hxs j u ?_
        simpa [List.getElem?_set_ne (Ne.symm hjk)] using hu

/-! ### The lists of the law -/
abbrev St := List ((Int × Int) × (Int × Bool))
def stK (S : St) : List (Int × Int) := S.map (·.1)
def stF (S : St) : List Int := S.map (·.2.1)
def stD (S : St) : List Bool := S.map (·.2.2)
def stR (S : St) : CBack := S.map fun x => (x.2.1, x.1)
/-- Each page once, each frame once. -/
def stOk (S : St) : Prop := (stK S).Nodup ∧ (stF S).Nodup

theorem idxL_at {κ ν : Type} [DecidableEq κ] {l : List (κ × ν)} (hn : (l.map (·.1)).Nodup) {j : Nat} {x : κ × ν} (hx : l[j]? = some x) : idxL l x.1 = some j := by
  induction l generalizing j with
  | nil => simp at hx
  | cons a l ih =>
    rw [List.map_cons, List.nodup_cons] at hn
    cases j with
    | zero =>
      obtain rfl : a = x := by simpa using hx
      simp [idxL]
    | succ j =>
      have hx' : l[j]? = some x := by simpa using hx
      have hne : x.1 ≠ a.1 := fun e => hn.1 (by rw [← e]; exact List.mem_map_of_mem (List.mem_of_getElem? hx'))
      simp [idxL, hne, ih hn.2 hx']
theorem get_at {κ ν : Type} [DecidableEq κ] {l : List (κ × ν)} (hn : (l.map (·.1)).Nodup) {j : Nat} {x : κ × ν} (hx : l[j]? = some x) : getL l x.1 = some x.2 ∧ (∀ v, updL l x.1 v = l.set j (x.1, v)) ∧ delL l x.1 = l.eraseIdx j := by
  obtain ⟨hi, h1, h2, h3, h4⟩ := idxL_some (idxL_at hn hx)
  obtain ⟨_, rfl⟩ := List.getElem?_eq_some_iff.1 hx
  exact ⟨h2, h3, h4⟩
theorem stOk_r {S : St} (h : stOk S) : ((stR S).map (·.1)).Nodup := by
  have : (stR S).map (·.1) = (stF S) := by unfold stR stF; rw [List.map_map]; rfl
  rw [this]
  exact h.2
theorem st_put {S : St} (h : stOk S) {y : Int × Int} {f : Int} (hy : y ∉ (stK S)) (hf : f ∉ (stF S)) : stOk (S ++ [(y, (f, false))]) ∧ updL S y (f, false) = S ++ [(y, (f, false))] ∧ updL (stR S) f y = stR (S ++ [(y, (f, false))]) ∧ getL S y = none ∧ getL (stR S) f = none := by
  have g1 : getL S y = none := getL_none.2 hy
  have g2 : getL (stR S) f = none := getL_none.2 (by
    have : (stR S).map (·.1) = (stF S) := by unfold stR stF; rw [List.map_map]; rfl
    rw [this]
    exact hf)
  refine ⟨⟨?_, ?_⟩, updL_new g1 _, ?_, g1, g2⟩
  · unfold stK
    rw [List.map_append, List.nodup_append]
    exact ⟨h.1, by simp, fun a ha b hb e => by simp at hb; subst hb; subst e; exact hy ha⟩
  · unfold stF
    rw [List.map_append, List.nodup_append]
    exact ⟨h.2, by simp, fun a ha b hb e => by simp at hb; subst hb; subst e; exact hf ha⟩
  · rw [updL_new g2]
    unfold stR
    simp
theorem st_mark {S : St} (h : stOk S) {j : Nat} {y : Int × Int} {f : Int} {d0 : Bool} (hj : S[j]? = some (y, (f, d0))) (d : Bool) : stOk (S.set j (y, (f, d))) ∧ getL S y = some (f, d0) ∧ updL S y (f, d) = S.set j (y, (f, d)) ∧ stK (S.set j (y, (f, d))) = (stK S) ∧ stF (S.set j (y, (f, d))) = (stF S) ∧ stR (S.set j (y, (f, d))) = (stR S) ∧ stD (S.set j (y, (f, d))) = (stD S).set j d := by
  obtain ⟨g1, g2, _⟩ := get_at h.1 hj
  have same : ∀ {α : Type} (q : (Int × Int) × (Int × Bool) → α), q (y, (f, d)) = q (y, (f, d0)) → (S.set j (y, (f, d))).map q = S.map q := by
    intro α q hq
    refine List.ext_getElem? fun i => ?_
    rw [List.getElem?_map, List.getElem?_map, List.getElem?_set]
    split
    · rename_i e
      subst e
      rw [hj]
      split
      · simp [hq]
      · rename_i hl
        exact absurd (List.getElem?_eq_some_iff.1 hj).1 hl
    · rfl
  have e1 : stK (S.set j (y, (f, d))) = (stK S) := same _ rfl
  have e2 : stF (S.set j (y, (f, d))) = (stF S) := same _ rfl
  refine ⟨⟨by rw [e1]; exact h.1, by rw [e2]; exact h.2⟩, g1, g2 _, e1, e2, same _ rfl, ?_⟩
  unfold stD
  rw [List.map_set]
theorem st_drop {S : St} (h : stOk S) {j : Nat} {y : Int × Int} {f : Int} {d0 : Bool} (hj : S[j]? = some (y, (f, d0))) : stOk (S.eraseIdx j) ∧ getL S y = some (f, d0) ∧ delL S y = S.eraseIdx j ∧ delL (stR S) f = stR (S.eraseIdx j) ∧ stK (S.eraseIdx j) = (stK S).take j ++ (stK S).drop (j + 1) ∧ stF (S.eraseIdx j) = (stF S).take j ++ (stF S).drop (j + 1) ∧ stD (S.eraseIdx j) = (stD S).take j ++ (stD S).drop (j + 1) := by
  obtain ⟨g1, _, g3⟩ := get_at h.1 hj
  have hr : (stR S)[j]? = some (f, y) := by unfold stR; rw [List.getElem?_map, hj]; rfl
  obtain ⟨_, _, g4⟩ := get_at (stOk_r h) hr
  have hs : (S.eraseIdx j).Sublist S := List.eraseIdx_sublist S j
  refine ⟨⟨(hs.map _).nodup h.1, (hs.map _).nodup h.2⟩, g1, g3, ?_, ?_, ?_, ?_⟩
  · rw [g4]
    unfold stR
    rw [List.eraseIdx_eq_take_drop_succ, List.eraseIdx_eq_take_drop_succ, List.map_append, List.map_take, List.map_drop]
  · unfold stK
    rw [List.eraseIdx_eq_take_drop_succ, List.map_append, List.map_take, List.map_drop]
  · unfold stF
    rw [List.eraseIdx_eq_take_drop_succ, List.map_append, List.map_take, List.map_drop]
  · unfold stD
    rw [List.eraseIdx_eq_take_drop_succ, List.map_append, List.map_take, List.map_drop]
end Go.Proofs.Ytflbidbnbfndgaa
