/- Maps in memory as association lists: what a look-up, a store, a delete and len do. No program in it. -/
import Derived.WalkKit
import Derived.Lib.Hide
import Derived.Laws.StructEq
import Derived.Deep.QuietTactic
namespace Go.Proofs.Ytflbidbnbfndgaa
open Go Go.RowKit

section
variable {κ ν : Type} [DecidableEq κ]

def idxL : List (κ × ν) → κ → Option Nat
  | [], _ => none
  | x :: l, k => if k = x.1 then some 0 else (idxL l k).map (· + 1)
/-- What a key has. -/
def getL : List (κ × ν) → κ → Option ν
  | [], _ => none
  | x :: l, k => if k = x.1 then some x.2 else getL l k
def updL : List (κ × ν) → κ → ν → List (κ × ν)
  | [], k, v => [(k, v)]
  | x :: l, k, v => if k = x.1 then (k, v) :: l else x :: updL l k v
def delL : List (κ × ν) → κ → List (κ × ν)
  | [], _ => []
  | x :: l, k => if k = x.1 then l else x :: delL l k

theorem idxL_some {l : List (κ × ν)} {k : κ} {i : Nat} (h : idxL l k = some i) : ∃ hi : i < l.length, l[i].1 = k ∧ getL l k = some l[i].2 ∧ (∀ v, updL l k v = l.set i (k, v)) ∧ delL l k = l.eraseIdx i := by
  induction l generalizing i with
  | nil => simp [idxL] at h
  | cons x l ih =>
    simp only [idxL] at h
    split at h
    · rename_i e
      cases h
      simp [getL, updL, delL, e]
    · rename_i e
      obtain ⟨j, hj, rfl⟩ := Option.map_eq_some_iff.1 h
      obtain ⟨hi, h1, h2, h3, h4⟩ := ih hj
      exact ⟨by simp; omega, by simpa using h1, by simp [getL, e, h2], fun v => by simp [updL, e, h3], by simp [delL, e, h4]⟩

theorem idxL_none {l : List (κ × ν)} {k : κ} (h : idxL l k = none) : getL l k = none ∧ (∀ v, updL l k v = l ++ [(k, v)]) ∧ delL l k = l := by
  induction l with
  | nil => simp [getL, updL, delL]
  | cons x l ih =>
    simp only [idxL] at h
    split at h
    · cases h
    · rename_i e
      obtain ⟨h2, h3, h4⟩ := ih (Option.map_eq_none_iff.1 h)
      exact ⟨by simp [getL, e, h2], fun v => by simp [updL, e, h3], by simp [delL, e, h4]⟩

theorem idxL_isSome {l : List (κ × ν)} {k : κ} : (idxL l k).isSome = (getL l k).isSome := by
  cases h : idxL l k with
  | none => rw [(idxL_none h).1]; rfl
  | some i => obtain ⟨_, _, h2, _⟩ := idxL_some h; rw [h2]; rfl

theorem getL_updL {l : List (κ × ν)} {k : κ} {v : ν} (q : κ) : getL (updL l k v) q = if q = k then some v else getL l q := by
  induction l with
  | nil => simp [updL, getL]
  | cons x l ih =>
    simp only [updL]
    split
    · rename_i e
      subst e
      by_cases hq : q = x.1 <;> simp [getL, hq]
    · rename_i e
      simp only [getL, ih]
      by_cases hq : q = x.1
      · subst hq
        simp [Ne.symm e]
      · simp [hq]
end

theorem modify_append_right' {α : Type} {a b : List α} {n : Nat} {f : α → α} (h : a.length ≤ n) : (a ++ b).modify n f = a ++ b.modify (n - a.length) f := by
  refine List.ext_getElem? fun j => ?_
  rw [List.getElem?_modify]
  by_cases hj : j < a.length
  · have hne : n ≠ j := by omega
    rw [List.getElem?_append_left hj, List.getElem?_append_left hj]
    cases a[j]? <;> simp [hne]
  · rw [List.getElem?_append_right (by omega), List.getElem?_append_right (by omega), List.getElem?_modify]
    by_cases e : n = j
    · subst e; simp
    · have e2 : n - a.length ≠ j - a.length := by omega
      cases b[j - a.length]? <;> simp [e, e2]

theorem map_eraseIdx' {α β : Type} (f : α → β) (l : List α) (i : Nat) : (l.map f).eraseIdx i = (l.eraseIdx i).map f := by
  induction l generalizing i with
  | nil => rfl
  | cons x l ih => cases i with
    | zero => rfl
    | succ i => simp [ih]

/-- What is known of a key's type: equality of two keys, and that a key may be one. -/
structure KeyLaw (P : Program) (K : TypeId) {κ : Type} [DecidableEq κ] (enc : κ → Value) : Prop where
  find : ∀ (k : κ) (es : List MapEntry) (ks : List κ), es.map (·.key) = ks.map enc → ∀ w, (Instr.findKey K (enc k) es).run P w = .ok (((ks.map fun x => (x, ())) |> fun l => idxL l k).bind fun i => (es[i]?).map fun e => (i, e.val)) w
  check : ∀ (k : κ) (b : Bool) w, (Instr.checkKey b 10000 K (enc k)).run P w = .ok () w
  same : ∀ k, Instr.sameBits 10000 (enc k) (enc k) = true

theorem idxL_unit {κ ν : Type} [DecidableEq κ] (l : List (κ × ν)) (k : κ) : idxL ((l.map (·.1)).map fun x => (x, ())) k = idxL l k := by
  induction l with
  | nil => rfl
  | cons x l ih => simp only [List.map_cons, idxL, ih]

/-- A map's block: its entries, as a list of keys and what they have. -/
def MapAt {κ ν : Type} (w : World) (m : Nat) (encK : κ → Value) (encV : ν → Value) (l : List (κ × ν)) : Prop :=
  ∃ es clock, w.heap[m]? = some (.map es clock) ∧ es.toList.map (fun e => (e.key, e.val)) = l.map (fun x => (encK x.1, encV x.2)) ∧ (∀ e ∈ es.toList, e.born < clock) ∧ (es.toList.map (·.born)).Nodup

section
variable {κ ν : Type} {w w' : World} {m : Nat} {encK : κ → Value} {encV : ν → Value} {l : List (κ × ν)}

theorem MapAt.lt (h : MapAt w m encK encV l) : m < w.heap.size := by
  obtain ⟨es, c, h1, _⟩ := h
  exact (Array.getElem?_eq_some_iff.1 h1).1
theorem MapAt.keep (h : MapAt w m encK encV l) (hb : w'.heap[m]? = w.heap[m]?) : MapAt w' m encK encV l := by
  obtain ⟨es, c, h1, h2⟩ := h
  exact ⟨es, c, hb.trans h1, h2⟩
theorem MapAt.below (h : MapAt w m encK encV l) (hb : Below w.heap.size w w') : MapAt w' m encK encV l := h.keep (hb.block m h.lt)
theorem MapAt.grown (h : MapAt w m encK encV l) {row : Option Nat} (hg : w.grownBy w' row) (hne : some m ≠ row) : MapAt w' m encK encV l := h.keep (hg.block m h.lt hne)

theorem MapAt.made (w : World) (encK : κ → Value) (encV : ν → Value) : MapAt (w.alloc (.map #[] 0)) w.heap.size encK encV [] :=
  ⟨#[], 0, heap_alloc_new w _, by simp, by simp, by simp⟩
end

section
variable {κ ν : Type} [DecidableEq κ] {P : Program} {K E T : TypeId} {encK : κ → Value} {encV : ν → Value} {l : List (κ × ν)} {w : World} {m : Nat}

omit [DecidableEq κ] in
theorem entries_keys {es : Array MapEntry} (h : es.toList.map (fun e => (e.key, e.val)) = l.map (fun x => (encK x.1, encV x.2))) : es.toList.map (·.key) = (l.map (·.1)).map encK := by
  have := congrArg (List.map Prod.fst) h
  rw [List.map_map, List.map_map] at this
  rw [List.map_map]
  exact this

omit [DecidableEq κ] in
theorem entries_at {es : Array MapEntry} (h : es.toList.map (fun e => (e.key, e.val)) = l.map (fun x => (encK x.1, encV x.2))) (i : Nat) : (es[i]?).map (fun e => (e.key, e.val)) = (l[i]?).map (fun x => (encK x.1, encV x.2)) := by
  have := congrArg (·[i]?) h
  simpa using this

theorem find_run (L : KeyLaw P K encK) {es : Array MapEntry} (h : es.toList.map (fun e => (e.key, e.val)) = l.map (fun x => (encK x.1, encV x.2))) (k : κ) (w : World) :
    (Instr.findKey K (encK k) es.toList).run P w = .ok ((idxL l k).bind fun i => (l[i]?).map fun x => (i, encV x.2)) w := by
  rw [L.find k es.toList (l.map (·.1)) (entries_keys h) w]
  simp only [idxL_unit]
  congr 1
  cases idxL l k with
  | none => rfl
  | some i =>
    have := entries_at h i
    simp only [Option.bind_some, Array.getElem?_toList]
    cases h1 : es[i]? <;> cases h2 : l[i]? <;> simp_all

/-- A look-up. -/
theorem lookup_run (L : KeyLaw P K encK) (hT : P.underlying T = some (.map K E)) (z : Value) (hz : ∀ w, (zeroValue E).run P w = .ok z w) (h : MapAt w m encK encV l) (k : κ) (ok : Bool) :
    (Instr.lookup T (.map (some m)) (encK k) ok).run P w = .ok (if ok then .tuple #[((getL l k).map encV).getD z, .bool (getL l k).isSome] else ((getL l k).map encV).getD z) w := by
  obtain ⟨es, c, hb, he, _⟩ := h
  have hg : (getObj m).run P w = .ok (.map es c) w := by simp [getObj, Sem.run, hb]
  have hf := find_run L he k w
  cases hi : idxL l k with
  | none =>
    rw [hi] at hf
    simp only [Option.bind_none] at hf
    rw [(idxL_none hi).1]
    simp [Instr.lookup, run_underlying hT, hg, L.check, hf, hz]
  | some i =>
    obtain ⟨hlt, _, h2, _⟩ := idxL_some hi
    rw [hi] at hf
    simp only [Option.bind_some, List.getElem?_eq_getElem hlt, Option.map_some] at hf
    rw [h2]
    simp [Instr.lookup, run_underlying hT, hg, L.check, hf]

/-- A look-up in a map that is nil. -/
theorem lookup_nil_run (L : KeyLaw P K encK) (hT : P.underlying T = some (.map K E)) (z : Value) (hz : ∀ w, (zeroValue E).run P w = .ok z w) (k : κ) (ok : Bool) (w : World) :
    (Instr.lookup T (.map none) (encK k) ok).run P w = .ok (if ok then .tuple #[z, .bool false] else z) w := by
  have hf := find_run (l := ([] : List (κ × Unit))) (encV := fun _ => undef) L (es := #[]) (by simp) k w
  simp only [idxL, Option.bind_none] at hf
  simp [Instr.lookup, run_underlying hT, L.check, hf, hz]

/-- A store. -/
theorem update_run (L : KeyLaw P K encK) (hT : P.underlying T = some (.map K E)) (h : MapAt w m encK encV l) (k : κ) (v : ν) :
    ∃ w', (Instr.mapUpdate T (.map (some m)) (encK k) (encV v)).run P w = .ok () w' ∧ MapAt w' m encK encV (updL l k v) ∧ w.grownBy w' (some m) ∧ w'.heap.size = w.heap.size := by
  obtain ⟨es, c, hb, he, hborn, hnd⟩ := h
  have hlt : m < w.heap.size := (Array.getElem?_eq_some_iff.1 hb).1
  have hg : (getObj m).run P w = .ok (.map es c) w := by simp [getObj, Sem.run, hb]
  have hset : ∀ o, (setObj m o).run P w = .ok () { w with heap := w.heap.setIfInBounds m o } := fun o => by simp [setObj, Sem.run, hb]
  have hgrown : ∀ o, w.grownBy { w with heap := w.heap.setIfInBounds m o } (some m) := fun o => ⟨rfl, rfl, rfl, by simp, fun i hi hne => by simp [Array.getElem?_setIfInBounds_ne (show m ≠ i from fun e => hne (by rw [e]))]⟩
  have hblk : ∀ o, ({ w with heap := w.heap.setIfInBounds m o } : World).heap[m]? = some o := fun o => by simp [hlt]
  have hf := find_run L he k w
  cases hi : idxL l k with
  | none =>
    rw [hi] at hf
    simp only [Option.bind_none] at hf
    refine ⟨_, ?_, ⟨es.push { key := encK k, val := encV v, born := c }, c + 1, hblk _, ?_, ?_, ?_⟩, hgrown _, by simp⟩
    · simp [Instr.mapUpdate, run_underlying hT, hg, L.check, hf, hset]
    · rw [(idxL_none hi).2.1 v]; simp [he]
    · intro e hm
      simp at hm
      rcases hm with hm | rfl
      · have := hborn e (by simpa using hm); omega
      · simp
    · simp only [Array.toList_push, List.map_append, List.map_cons, List.map_nil]
      refine List.nodup_append.2 ⟨hnd, by simp, fun a ha b hb => ?_⟩
      obtain ⟨e, hm, rfl⟩ := List.mem_map.1 ha
      simp at hb
      have := hborn e hm
      omega
  | some i =>
    obtain ⟨hlt', hk, h2, h3, _⟩ := idxL_some hi
    rw [hi] at hf
    simp only [Option.bind_some, List.getElem?_eq_getElem hlt', Option.map_some] at hf
    have hei := entries_at he i
    rw [List.getElem?_eq_getElem hlt', Option.map_some, hk] at hei
    obtain ⟨e0, he0, hee⟩ := Option.map_eq_some_iff.1 hei
    have hkey : e0.key = encK k := congrArg Prod.fst hee
    refine ⟨_, ?_, ⟨es.modify i fun e => { e with key := encK k, val := encV v }, c, hblk _, ?_, ?_, ?_⟩, hgrown _, by simp⟩
    · simp [Instr.mapUpdate, run_underlying hT, hg, L.check, hf, Instr.keyThatStays, he0, hkey, L.same, hset]
    · rw [h3 v, Array.toList_modify]
      refine List.ext_getElem? fun j => ?_
      have := entries_at he j
      rw [List.getElem?_map, List.getElem?_modify, List.getElem?_map, List.getElem?_set]
      by_cases hj : i = j
      · subst hj
        simp [he0, hlt']
      · simp only [hj, if_false, Array.getElem?_toList]
        rw [← this]
        cases es[j]? <;> rfl
    · intro e hm
      rw [Array.toList_modify] at hm
      obtain ⟨j, hj, rfl⟩ := List.getElem_of_mem hm
      have hj' : j < es.toList.length := by simpa using hj
      rw [List.getElem_modify]
      split
      · exact hborn (es.toList[j]'hj') (List.getElem_mem _)
      · exact hborn (es.toList[j]'hj') (List.getElem_mem _)
    · have e1 : (es.modify i fun e => { e with key := encK k, val := encV v }).toList.map (·.born) = es.toList.map (·.born) := by
        refine List.ext_getElem? fun j => ?_
        rw [Array.toList_modify, List.getElem?_map, List.getElem?_modify, List.getElem?_map]
        split <;> cases es.toList[j]? <;> rfl
      rw [e1]; exact hnd

/-- delete. -/
theorem delete_run (L : KeyLaw P K encK) (hT : P.underlying T = some (.map K E)) (h : MapAt w m encK encV l) (k : κ) (ty : TypeId) (u : TypeId) :
    ∃ w', (Builtin.delete_ #[T, u] ty #[.map (some m), encK k]).run P w = .ok (.tuple #[]) w' ∧ MapAt w' m encK encV (delL l k) ∧ w.grownBy w' (some m) ∧ w'.heap.size = w.heap.size := by
  obtain ⟨es, c, hb, he, hborn, hnd⟩ := h
  have hlt : m < w.heap.size := (Array.getElem?_eq_some_iff.1 hb).1
  have hg : (getObj m).run P w = .ok (.map es c) w := by simp [getObj, Sem.run, hb]
  have hset : ∀ o, (setObj m o).run P w = .ok () { w with heap := w.heap.setIfInBounds m o } := fun o => by simp [setObj, Sem.run, hb]
  have hgrown : ∀ o, w.grownBy { w with heap := w.heap.setIfInBounds m o } (some m) := fun o => ⟨rfl, rfl, rfl, by simp, fun i hi hne => by simp [Array.getElem?_setIfInBounds_ne (show m ≠ i from fun e => hne (by rw [e]))]⟩
  have hblk : ∀ o, ({ w with heap := w.heap.setIfInBounds m o } : World).heap[m]? = some o := fun o => by simp [hlt]
  have hf := find_run L he k w
  cases hi : idxL l k with
  | none =>
    rw [hi] at hf
    simp only [Option.bind_none] at hf
    refine ⟨_, ?_, ⟨es, c, hblk _, ?_, hborn, hnd⟩, hgrown _, by simp⟩
    · simp [Builtin.delete_, run_underlying hT, hg, L.check, hf, hset]
    · rw [(idxL_none hi).2.2, he]
  | some i =>
    obtain ⟨hlt', hk, h2, _, h4⟩ := idxL_some hi
    rw [hi] at hf
    simp only [Option.bind_some, List.getElem?_eq_getElem hlt', Option.map_some] at hf
    have hsz : i < es.size := by have := congrArg List.length he; simp at this; omega
    have e1 : (es.eraseIdxIfInBounds i).toList = es.toList.eraseIdx i := by simp [Array.eraseIdxIfInBounds, hsz]
    refine ⟨_, ?_, ⟨es.eraseIdxIfInBounds i, c, hblk _, ?_, ?_, ?_⟩, hgrown _, by simp⟩
    · simp [Builtin.delete_, run_underlying hT, hg, L.check, hf, hset]
    · rw [h4, e1, ← map_eraseIdx', ← map_eraseIdx', he]
    · intro e hm
      rw [e1] at hm
      exact hborn e (List.mem_of_mem_eraseIdx hm)
    · rw [e1, ← map_eraseIdx']
      exact hnd.sublist (List.eraseIdx_sublist _ _)

theorem findIdx_born {es : List MapEntry} {i : Nat} (hi : i < es.length) (hnd : (es.map (·.born)).Nodup) : es.findIdx? (fun e => ((e.born : Int) == ((es[i].born : Nat) : Int))) = some i := by
  rw [List.findIdx?_eq_some_iff_getElem]
  refine ⟨hi, by simp, fun j hj => ?_⟩
  have hne : es[j].born ≠ es[i].born := fun e => by
    have := (List.getElem_inj (xs := es.map (·.born)) (i := j) (j := i) (h₀ := by simp; omega) (h₁ := by simp; omega) hnd).1 (by simpa using e)
    omega
  simp; omega

/-- The two halves of a store to a place of a map: the entry, and what it holds. -/
theorem entry_run (L : KeyLaw P K encK) (hT : P.underlying T = some (.map K E)) (z : Value) (hz : ∀ w, (zeroValue E).run P w = .ok z w) (h : MapAt w m encK encV l) (k : κ) :
    ∃ w1 c, (Instr.mapEntry T (.map (some m)) (encK k)).run P w = .ok (.tuple #[((getL l k).map encV).getD z, .int .i64 c]) w1 ∧ w.grownBy w1 (some m) ∧ w1.heap.size = w.heap.size ∧
      ∀ (v : ν) (u : TypeId) (w2 : World), w2.heap[m]? = w1.heap[m]? → ∃ w3, (Instr.entryStore u (.map (some m)) (.int .i64 c) (encV v)).run P w2 = .ok () w3 ∧ MapAt w3 m encK encV (updL l k v) ∧ w2.grownBy w3 (some m) ∧ w3.heap.size = w2.heap.size := by
  obtain ⟨es, c, hb, he, hborn, hnd⟩ := h
  have hlt : m < w.heap.size := (Array.getElem?_eq_some_iff.1 hb).1
  have hg : (getObj m).run P w = .ok (.map es c) w := by simp [getObj, Sem.run, hb]
  have hset : ∀ (w : World) o es c, w.heap[m]? = some (.map es c) → (setObj m o).run P w = .ok () { w with heap := w.heap.setIfInBounds m o } := fun w o es c hb => by simp [setObj, Sem.run, hb]
  have hgrown : ∀ (w : World) o, w.grownBy { w with heap := w.heap.setIfInBounds m o } (some m) := fun w o => ⟨rfl, rfl, rfl, by simp, fun i hi hne => by simp [Array.getElem?_setIfInBounds_ne (show m ≠ i from fun e => hne (by rw [e]))]⟩
  have hblk : ∀ (w : World) o, m < w.heap.size → ({ w with heap := w.heap.setIfInBounds m o } : World).heap[m]? = some o := fun w o hlt => by simp [hlt]
  have hf := find_run L he k w
  cases hi : idxL l k with
  | none =>
    rw [hi] at hf
    simp only [Option.bind_none] at hf
    refine ⟨_, (c : Int), ?_, hgrown w (.map (es.push { key := encK k, val := z, born := c }) (c + 1)), by simp, fun v u w2 h2 => ?_⟩
    · rw [(idxL_none hi).1]
      simp [Instr.mapEntry, run_underlying hT, hg, L.check, hf, hz, hset w _ es c hb, goInt]
    · rw [hblk w _ hlt] at h2
      have hlt2 : m < w2.heap.size := (Array.getElem?_eq_some_iff.1 h2).1
      have hg2 : (getObj m).run P w2 = .ok (.map (es.push { key := encK k, val := z, born := c }) (c + 1)) w2 := by simp [getObj, Sem.run, h2]
      have hidx : (es.push { key := encK k, val := z, born := c }).findIdx? (fun e => ((e.born : Int) == (c : Int))) = some es.size := by
        rw [Array.findIdx?_eq_some_iff_getElem]
        refine ⟨by simp, by simp, fun j hj => ?_⟩
        have := hborn es[j] (by simp)
        rw [Array.getElem_push_lt hj]
        simp; omega
      refine ⟨_, ?_, ⟨(es.push { key := encK k, val := z, born := c }).modify es.size fun e => { e with val := encV v }, c + 1, hblk w2 _ hlt2, ?_, ?_, ?_⟩, hgrown w2 _, by simp⟩
      · simp [Instr.entryStore, hg2, asInt, asIntOf, hidx, hset w2 _ _ _ h2]
      · rw [(idxL_none hi).2.1 v, Array.toList_modify, Array.toList_push, modify_append_right' (by simp)]
        simp [he]
      · intro e hm
        rw [Array.toList_modify, Array.toList_push, modify_append_right' (by simp)] at hm
        simp at hm
        rcases hm with hm | rfl
        · have := hborn e (by simpa using hm); omega
        · simp
      · rw [Array.toList_modify, Array.toList_push, modify_append_right' (by simp)]
        simp only [Array.length_toList, Nat.sub_self, List.modify_zero_cons, List.map_append, List.map_cons, List.map_nil]
        refine List.nodup_append.2 ⟨hnd, by simp, fun a ha b hb => ?_⟩
        obtain ⟨e, hm, rfl⟩ := List.mem_map.1 ha
        simp at hb
        have := hborn e hm
        omega
  | some i =>
    obtain ⟨hlt', hk, h2, h3, _⟩ := idxL_some hi
    rw [hi] at hf
    simp only [Option.bind_some, List.getElem?_eq_getElem hlt', Option.map_some] at hf
    have hei := entries_at he i
    rw [List.getElem?_eq_getElem hlt', Option.map_some, hk] at hei
    obtain ⟨e0, he0, hee⟩ := Option.map_eq_some_iff.1 hei
    have hkey : e0.key = encK k := congrArg Prod.fst hee
    have hsz : i < es.size := (Array.getElem?_eq_some_iff.1 he0).1
    have he0' : es[i] = e0 := (Array.getElem?_eq_some_iff.1 he0).2
    have hsame : (es.modify i fun e => { e with key := encK k }) = es := by
      refine Array.ext (by simp) fun j h1 h2 => ?_
      rw [Array.getElem_modify]
      split
      · rename_i e; subst e; rw [he0', ← hkey]
      · rfl
    refine ⟨_, (e0.born : Int), ?_, hgrown w (.map es c), by simp, fun v u w2 hw2 => ?_⟩
    · rw [h2]
      simp [Instr.mapEntry, run_underlying hT, hg, L.check, hf, Instr.keyThatStays, he0, hkey, L.same, hset w _ es c hb, goInt, hsame]
    · rw [hblk w _ hlt] at hw2
      have hlt2 : m < w2.heap.size := (Array.getElem?_eq_some_iff.1 hw2).1
      have hg2 : (getObj m).run P w2 = .ok (.map es c) w2 := by simp [getObj, Sem.run, hw2]
      have hidx : es.findIdx? (fun e => ((e.born : Int) == (e0.born : Int))) = some i := by
        have := findIdx_born (es := es.toList) (i := i) (by simp; exact hsz) hnd
        rw [Array.getElem_toList, he0'] at this
        rw [← this]
        obtain ⟨q⟩ := es
        exact List.findIdx?_toArray _ q
      refine ⟨_, ?_, ⟨es.modify i fun e => { e with val := encV v }, c, hblk w2 _ hlt2, ?_, ?_, ?_⟩, hgrown w2 _, by simp⟩
      · simp [Instr.entryStore, hg2, asInt, asIntOf, hidx, hset w2 _ _ _ hw2]
      · rw [h3 v, Array.toList_modify]
        refine List.ext_getElem? fun j => ?_
        have := entries_at he j
        rw [List.getElem?_map, List.getElem?_modify, List.getElem?_map, List.getElem?_set]
        by_cases hj : i = j
        · subst hj
          simp [he0, hlt', hkey]
        · simp only [hj, if_false, Array.getElem?_toList]
          rw [← this]
          cases es[j]? <;> rfl
      · intro e hm
        rw [Array.toList_modify] at hm
        obtain ⟨j, hj, rfl⟩ := List.getElem_of_mem hm
        have hj' : j < es.toList.length := by simpa using hj
        rw [List.getElem_modify]
        split
        · exact hborn (es.toList[j]'hj') (List.getElem_mem _)
        · exact hborn (es.toList[j]'hj') (List.getElem_mem _)
      · have e1 : (es.modify i fun e => { e with val := encV v }).toList.map (·.born) = es.toList.map (·.born) := by
          refine List.ext_getElem? fun j => ?_
          rw [Array.toList_modify, List.getElem?_map, List.getElem?_modify, List.getElem?_map]
          split <;> cases es.toList[j]? <;> rfl
        rw [e1]; exact hnd

omit [DecidableEq κ] in
theorem mapLen_run (hT : P.underlying T = some (.map K E)) (h : MapAt w m encK encV l) (ty : TypeId) : (Builtin.len_ #[T] ty #[.map (some m)]).run P w = .ok (.int .i64 l.length) w := by
  obtain ⟨es, c, hb, he, _⟩ := h
  have hg : (getObj m).run P w = .ok (.map es c) w := by simp [getObj, Sem.run, hb]
  have hl : es.size = l.length := by have := congrArg List.length he; simpa using this
  simp [Builtin.len_, run_underlying hT, hg, goInt, hl]
end
end Go.Proofs.Ytflbidbnbfndgaa
