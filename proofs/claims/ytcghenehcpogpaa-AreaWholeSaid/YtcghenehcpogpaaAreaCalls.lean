/- Areas: what Add calls: slices.ContainsFunc by its closure, slices.Clone, slices.SortFunc by compare. Over the shelf's contracts. -/
import Derived.Test.YtcghenehcpogpaaAreaCut
import Derived.Test.YtcghenehcpogpaaAreaShelf
import Derived.Shelf.SlicesQ.IndexFunc
import Derived.Shelf.SlicesE.Clone
import Derived.Shelf.SlSortCmp.InsertionK
import Derived.Shelf.SlSortCmp.WholeK
namespace Go.Proofs.Ytcghenehcpogpaa
open Go Go.RowKit

instance : Inhabited Ar := ⟨⟨0, 0, false, 0, 0, 0⟩⟩

/-- Do two areas meet? The closure of Add, in the program's numbers. -/
def meetsW (a b : Ar) : Bool := decide (a.from_ < wrap64 (b.from_ + b.pages)) && decide (b.from_ < wrap64 (a.from_ + a.pages))

theorem meets_pred (w : World) (B : Nat) (a : Ar) (hB : B < w.heap.size) (h0 : w.cell? ⟨B, 0, none⟩ = some (.int .i64 a.from_)) (h1 : w.cell? ⟨B, 1, none⟩ = some (.int .i64 a.pages)) :
    PredBelow Try.prog 20 #[.pointer (some ⟨B, 0, none⟩)] (fun x : Ar => .agg x.cells.toArray) (fun x => meetsW a x) w := by
  intro W x hb
  have g0 := (hb.cell (p := ⟨B, 0, none⟩) hB).trans h0
  have g1 := (hb.cell (p := ⟨B, 1, none⟩) hB).trans h1
  have hBW : B < W.heap.size := Nat.lt_of_lt_of_le hB hb.size
  have HB := Lib.hid hb
  clear hb h0 h1
  obtain ⟨f, p, wt, k, fi, o⟩ := x
  obtain ⟨f1, p1, wt1, k1, fi1, o1⟩ := a
  simp only [Ar.cells] at g0 g1 ⊢
  unfold meetsW
  simp only
  by_cases c1 : f1 < wrap64 (f + p)
  · rw [decide_eq_true c1, Bool.true_and]
    go_enter Try.func20, Try.ntmps20
    go_wp2_with fail
    go_ret
    exact ⟨rfl, HB.out.alloc HB.out.size _⟩
  · rw [decide_eq_false c1, Bool.false_and]
    go_enter Try.func20, Try.ntmps20
    go_wp2_with fail
    go_ret
    exact ⟨rfl, HB.out.alloc HB.out.size _⟩

theorem ArRd.hc {w : World} {b off c n : Nat} {l : List Ar} (h : ArRd w (.slice (some ⟨b, off, none⟩) n c) l) :
    ∀ j, j < l.length → ∀ i v, (Ar.cells l[j]!)[i]? = some v → w.cell? ⟨b, off + j * 6 + i, none⟩ = some v := by
  intro j hj i v hv
  obtain ⟨g, off', c', e, _, _, hx⟩ := SlRd.cells h (by rw [ar_length]; omega)
  cases e
  rw [getElem!_pos l j hj] at hv
  rw [Nat.add_assoc]
  exact hx _ _ (ar_get (List.getElem?_eq_getElem hj) hv)

theorem ContainsA_walk (w : World) (v : Value) (l : List Ar) (h : ArRd w v l) (B : Nat) (a : Ar) (hB : B < w.heap.size) (h0 : w.cell? ⟨B, 0, none⟩ = some (.int .i64 a.from_)) (h1 : w.cell? ⟨B, 1, none⟩ = some (.int .i64 a.pages)) :
    Calls Try.prog 21 #[v, .func (.func 20) #[] #[.pointer (some ⟨B, 0, none⟩)]] w fun e w' => e = .returned (.bool (l.any fun x => meetsW a x)) ∧ Below w.heap.size w w' := by
  rcases h.form with ⟨rfl, rfl⟩ | ⟨b, off, c, rfl, hcc, hm, hb⟩
  · simp only [List.any_nil]
    go_enter Try.func21, Try.ntmps21
    go_wp2
    refine wp_loop_rounds 1 ?_
    rw [rounds_succ]
    go_wp2
    go_ret
    exact ⟨rfl, Below.refl _ _⟩
  · have eg : ∀ args w, (callFunc 20 args).run Try.prog w = .ok (.enter 20 args) w := enters_of Try.func20 (by kernel_rfl) rfl
    have := AnyQ.slices_ContainsFunc laysContainsFunc 6 (fun w => by kernel_rfl) (fun w => by kernel_rfl) Ar.cells Ar.cells_len (fun x => meetsW a x) 20 #[.pointer (some ⟨B, 0, none⟩)] eg b off l.length c l w (meets_pred w B a hB h0 h1) (Nat.le_refl _) (by unfold maxLen at hm; omega) hb h.hc
    rw [List.take_length] at this
    exact this

theorem of_ownsRowA {w : World} {base : Nat} {v : Value} {l : List Ar} (h : w.ownsRow base 23 6 v l.length (ar l)) : ArAt w v l := by
  refine ⟨h.1, ?_⟩
  rcases h.2 with h0 | ⟨g, cap, cur, e, hg, hc, hn, hm, hs, ht⟩
  · exact .inl h0
  · refine .inr ⟨g, 0, cap, cur, e, hc, hn, hm, by omega, fun j u hu => ?_⟩
    rw [← ht] at hu
    have hj := (List.getElem?_eq_some_iff.1 hu).1
    rw [List.getElem?_take_of_lt (by simp at hj; omega)] at hu
    simpa using hu

theorem CloneA_walk (w : World) (v : Value) (l : List Ar) (h : ArRd w v l) (hl : l.length ≤ 1000000) :
    Calls Try.prog 22 #[v] w fun e w' => ∃ a c, e = .returned (.slice a l.length c) ∧ SlNew w.heap.size w' 23 6 (.slice a l.length c) l.length (ar l) ∧ Below w.heap.size w w' := by
  rcases h.form with ⟨rfl, rfl⟩ | ⟨b, off, c, rfl, hc, hm, hb⟩
  · refine (AnyE.slices_Clone_nil laysClone 0 0 w).mono ?_
    rintro e w' ⟨rfl, rfl⟩
    exact ⟨_, _, rfl, .inl ⟨SlAt.nil w' _ _, by simp [Value.ownBlock]⟩, Below.refl _ _⟩
  · obtain ⟨i, hi, hz, hs, hby⟩ := infoArea
    have := AnyE.slices_Clone laysClone i _ 6 48 hi hz hs hby (by rfl) (by omega) (fun w => by kernel_rfl) b off l.length c (ar l) w (ar_length l) (by unfold maxLen; omega) (by omega) (fun j u hu => by
      obtain ⟨g, off', c', e, _, _, hx⟩ := SlRd.cells h (by have := (List.getElem?_eq_some_iff.1 hu).1; omega)
      cases e
      exact hx j u hu) (ar_one l)
    refine this.mono ?_
    rintro e w' ⟨v', rfl, hown, hne, hB⟩
    have hat : ArAt w' v' l := of_ownsRowA hown
    obtain ⟨a, c', rfl, _, _⟩ := SlAt.form hat
    refine ⟨a, c', rfl, .inl ⟨hat, ?_⟩, hB⟩
    intro b' hb'
    rcases hown.2 with ⟨e, _⟩ | ⟨g, cap, cur, e, hg, _⟩
    · exact absurd e hne
    · cases e; simp [Value.ownBlock] at hb'; omega

/-- What cmp.Compare says of two whole numbers. -/
def cmpI (x y : Int) : Int := if x < y then -1 else if y < x then 1 else 0
theorem cmpInt (x y : Int) (w : World) : Calls Try.prog 33 #[.int .i64 x, .int .i64 y] w fun e w' => e = .returned (.int .i64 (cmpI x y)) ∧ w' = w := by
  by_cases h1 : x < y
  · rw [show cmpI x y = -1 by simp [cmpI, h1]]
    go_enter Try.func33, Try.ntmps33
    go_wp2
    go_ret
    exact ⟨rfl, rfl⟩
  · by_cases h2 : y < x
    · rw [show cmpI x y = 1 by simp [cmpI, h1, h2]]
      go_enter Try.func33, Try.ntmps33
      go_wp2
      go_ret
      exact ⟨rfl, rfl⟩
    · rw [show cmpI x y = 0 by simp [cmpI, h1, h2]]
      go_enter Try.func33, Try.ntmps33
      go_wp2
      go_ret
      exact ⟨rfl, rfl⟩

/-- By From. -/
def cmpA (x y : Ar) : Int := cmpI x.from_ y.from_

theorem CompareA_walk (w : World) (x y : Ar) :
    Calls Try.prog 24 #[.agg x.cells.toArray, .agg y.cells.toArray] w fun e w' => e = .returned (.int .i64 (cmpA x y)) ∧ ∃ q os', w' = Sort.grow (w.drewN q) os' := by
  obtain ⟨f, p, wt, k, fi, o⟩ := x
  obtain ⟨f1, p1, wt1, k1, fi1, o1⟩ := y
  unfold cmpA
  simp only [Ar.cells]
  generalize hu : cmpI f f1 = u
  have c1 := Lib.hid (fun W => cmpInt f f1 W)
  rw [hu] at c1
  clear hu
  go_enter Try.func24, Try.ntmps24
  go_wp2_with fail
  refine (c1.out _).mono ?_
  rintro e w' ⟨rfl, rfl⟩
  go_wp2_with fail
  go_ret
  refine ⟨rfl, 0, #[.cells #[.int .i64 f, .int .i64 p, .bool wt, .int .i64 k, .int .i64 fi, .int .i64 o] 23, .cells #[.int .i64 f1, .int .i64 p1, .bool wt1, .int .i64 k1, .int .i64 fi1, .int .i64 o1] 23], ?_⟩
  simp only [Sort.alloc_eq_grow, Sort.grow_grow]
  rfl

theorem ltOf_cmpA (x y : Ar) : ltOf cmpA x y = decide (x.from_ < y.from_) := by
  unfold ltOf cmpA cmpI
  congr 1
  simp only [eq_iff_iff]
  split <;> (repeat' split at *) <;> omega

theorem swoA : Sort.SWO (ltOf cmpA) where
  irrefl x := by rw [ltOf_cmpA]; simp
  trans x y z h1 h2 := by rw [ltOf_cmpA] at *; simp only [decide_eq_true_eq] at *; omega
  ntrans x y z h1 h2 := by
    rw [ltOf_cmpA] at *
    simp only [decide_eq_false_iff_not] at *
    omega

theorem size_putCells {α : Type} [Inhabited α] (enc : α → Value) (off : Nat) (d : Array α) (c : Array Value) : (Sort.putCells enc off d c).size = c.size := by simp [Sort.putCells]

theorem flat_ar (l : List Ar) : Sort.flatK Ar.cells 6 l.toArray = (ar l).toArray := by
  refine Sort.ext_get! (by rw [Sort.size_flatK]; simp [ar_length]) fun t ht => ?_
  have ht' : t < l.length * 6 := by simpa using ht
  rw [Sort.get_flatK _ _ _ t (by simpa using ht')]
  have hq : t / 6 < l.length := by omega
  have e0 : (l.toArray)[t / 6]! = l[t / 6] := by rw [getElem!_pos _ _ (by simpa using hq)]; simp
  have hm : t % 6 < (l[t / 6]).cells.length := by rw [Ar.cells_len]; omega
  have h1 := ar_get (List.getElem?_eq_getElem hq) (List.getElem?_eq_getElem hm)
  rw [show t / 6 * 6 + t % 6 = t by omega] at h1
  rw [e0, getElem!_pos (ar l).toArray t (by simp [ar_length]; omega), getElem!_pos (l[t / 6]).cells (t % 6) hm]
  simp only [List.getElem_toArray]
  rw [(List.getElem?_eq_some_iff.1 h1).2]

/-- The world behind the sort. -/
theorem sort_worldA {w : World} {b off c : Nat} {l l' : List Ar} (h : ArAt w (.slice (some ⟨b, off, none⟩) l.length c) l) (hl : l'.length = l.length) (n : Nat) (os : Array Obj) :
    ArAt (sortWorldK Ar.cells 6 w b off n l'.toArray os) (.slice (some ⟨b, off, none⟩) l.length c) l' ∧ Touch [b] w (sortWorldK Ar.cells 6 w b off n l'.toArray os) := by
  obtain ⟨arr, hg, hnc, hm, hfit, hx⟩ : ∃ arr, w.heap[b]? = some (.cells arr 23 (0, 0)) ∧ l.length ≤ c ∧ c ≤ maxLen ∧ off + c * 6 ≤ arr.size ∧ ∀ j u, (ar l)[j]? = some u → arr[off + j]? = some u := by
    rcases h.2 with ⟨e, _⟩ | ⟨b', off', c', arr, e, rest⟩
    · cases e
    · cases e; exact ⟨arr, rest⟩
  have hb : b < w.heap.size := (Array.getElem?_eq_some_iff.1 hg).1
  obtain ⟨F, hF⟩ : ∃ F, F = (ar l').toArray := ⟨_, rfl⟩
  have hFs : F.size = l.length * 6 := by rw [hF]; simp [ar_length, hl]
  have hheap : (sortWorldK Ar.cells 6 w b off n l'.toArray os).heap = w.heap.modify b (Sort.onCells (Sort.putCells id off F)) ++ os := by
    unfold sortWorldK Sort.putRowK
    rw [flat_ar, ← hF]
    rfl
  have hbk : (sortWorldK Ar.cells 6 w b off n l'.toArray os).heap[b]? = some (.cells (Sort.putCells id off F arr) 23 (0, 0)) := by
    rw [hheap, Array.getElem?_append_left (by simpa using hb), Array.getElem?_modify, if_pos rfl, hg]
    rfl
  constructor
  · show SlAt _ _ _ _ _ _
    rw [hl]
    refine ⟨by rw [ar_length, hl], .inr ⟨b, off, c, _, rfl, hbk, hnc, hm, by rw [size_putCells]; exact hfit, fun j u hu => ?_⟩⟩
    have hj := (List.getElem?_eq_some_iff.1 hu).1
    rw [ar_length, hl] at hj
    have hja : off + j < arr.size := by have := Nat.mul_le_mul_right 6 hnc; omega
    simp only [Sort.putCells, Array.getElem?_mapIdx, Array.getElem?_eq_getElem hja, Option.map_some]
    rw [if_pos ⟨by omega, by rw [hFs]; omega⟩, show off + j - off = j by omega, getElem!_pos F j (by rw [hFs]; exact hj)]
    have : F[j]? = some u := by rw [hF]; simpa using hu
    rw [Array.getElem?_eq_getElem (by rw [hFs]; exact hj)] at this
    simpa using this
  · refine ⟨rfl, rfl, rfl, by rw [hheap]; simp, fun k hk hne => ?_⟩
    rw [hheap, Array.getElem?_append_left (by simpa using hk), Array.getElem?_modify, if_neg (fun e => hne (by simp [e]))]

theorem SortA_walk (w : World) (b off c : Nat) (l : List Ar) (h : ArAt w (.slice (some ⟨b, off, none⟩) l.length c) l) (hl : l.length ≤ 1000000) :
    Calls Try.prog 23 #[.slice (some ⟨b, off, none⟩) l.length c, .func (.func 24) #[] #[]] w fun e w' =>
      e = .returned (.tuple #[]) ∧ ∃ l', l'.Perm l ∧ l'.Pairwise (fun x y => ¬ y.from_ < x.from_) ∧ ArAt w' (.slice (some ⟨b, off, none⟩) l.length c) l' ∧ Touch [b] w w' := by
  have eg : ∀ args w, (callFunc 24 args).run Try.prog w = .ok (.enter 24 args) w := enters_of Try.func24 (by kernel_rfl) rfl
  have hH : Sort.HoldsK Ar.cells 6 w b off l.toArray := by
    unfold Sort.HoldsK
    rw [flat_ar]
    intro j hj
    have hj' : j < l.length * 6 := by simpa [ar_length] using hj
    obtain ⟨g, off', c', e, _, _, hx⟩ := SlAt.cells h (by rw [ar_length]; omega)
    cases e
    refine hx j _ ?_
    rw [getElem!_pos ((ar l).toArray) j hj]
    simp
  have hb : b < w.heap.size := SlAt.lt h b rfl
  have := AnyQ.slices_SortFunc laysSort 6 (fun w => by kernel_rfl) (fun w => by kernel_rfl) Ar.cells Ar.cells_len Ar.cells_one cmpA swoA 24 #[] b off c l.toArray w eg (fun m os dk _ x y => CompareA_walk _ x y) hH hb (by simp; omega)
  simp only [List.size_toArray] at this
  refine this.mono ?_
  rintro e w' ⟨rfl, d', n, os, hp, hs, rfl⟩
  obtain ⟨hp1, _, hp3⟩ := hp
  have hsz : d'.toList.length = l.length := by simpa using hp1
  have ed : d' = d'.toList.toArray := by simp
  have hw := sort_worldA h hsz n os
  rw [← ed] at hw
  refine ⟨rfl, d'.toList, ?_, ?_, hw.1, hw.2⟩
  · have e1 : d'.extract 0 l.length = d' := by rw [← hsz]; simp
    have e2 : l.toArray.extract 0 l.length = l.toArray := by simp
    rw [e1, e2] at hp3
    simpa using hp3
  · refine List.pairwise_iff_getElem.2 fun i j hi hj hij => ?_
    have := hs i j (Nat.zero_le _) hij (by rw [← hsz]; exact hj)
    rw [ltOf_cmpA, getElem!_pos d' j (by simpa using hj), getElem!_pos d' i (by simpa using hi)] at this
    simpa using this
end Go.Proofs.Ytcghenehcpogpaa
