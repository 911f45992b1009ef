/- The cache's keys, sorted: cache.compare, slices.SortFunc, slices.SortedFunc. -/
import Derived.Test.YtflbidbnbfndgaaCacheColl
import Derived.Test.YtflbidbnbfndgaaPlaceSortC
import Derived.Shelf.SlSortCmp.NoneTotal
namespace Go.Proofs.Ytflbidbnbfndgaa
open Go Go.RowKit

/-- A slice of keys. -/
def KeAt (w : World) (v : Value) (l : List (Int × Int)) : Prop := SlAt w 23 2 v l.length (pl l)
theorem KeAt.nil (w : World) : KeAt w (.slice none 0 0) [] := SlAt.nil w _ _
theorem KeAt.below {w w' : World} {v : Value} {l : List (Int × Int)} (h : KeAt w v l) (hb : Below w.heap.size w w') : KeAt w' v l := SlAt.below h hb
theorem KeAt.keep {w w' : World} {v : Value} {l : List (Int × Int)} (h : KeAt w v l) (hb : ∀ b, v.ownBlock = some b → w'.heap[b]? = w.heap[b]?) : KeAt w' v l := SlAt.keep h hb
theorem KeAt.touch {w w' : World} {v : Value} {l : List (Int × Int)} {S : List Nat} (h : KeAt w v l) (t : Touch S w w') (hn : ∀ b, v.ownBlock = some b → b ∉ S) : KeAt w' v l :=
  SlAt.keep h fun b e => t.block b (SlAt.lt h b e) (hn b e)
theorem KeAt.cell {w : World} {b off c : Nat} {l : List (Int × Int)} {n : Nat} (h : KeAt w (.slice (some ⟨b, off, none⟩) n c) l) {j : Nat} {y : Int × Int} (hy : l[j]? = some y) :
    w.cell? ⟨b, off + j * 2, none⟩ = some (.int .i64 y.1) ∧ w.cell? ⟨b, off + j * 2 + 1, none⟩ = some (.int .i64 y.2) := by
  obtain ⟨hj, rfl⟩ := List.getElem?_eq_some_iff.1 hy
  obtain ⟨g, off', c', e, _, _, hx⟩ := SlAt.cells h (by rw [pl_length]; omega)
  cases e
  obtain ⟨h1, h2⟩ := pl_get l j hj
  exact ⟨(hx _ _ h1).1, by rw [Nat.add_assoc]; exact (hx _ _ h2).1⟩
theorem KeAt.form {w : World} {v : Value} {l : List (Int × Int)} (h : KeAt w v l) : (v = .slice none 0 0 ∧ l = []) ∨ ∃ b off c, v = .slice (some ⟨b, off, none⟩) l.length c ∧ l.length ≤ c ∧ c ≤ maxLen ∧ b < w.heap.size := by
  rcases h.2 with ⟨rfl, h2⟩ | ⟨b, off, c, arr, rfl, hg, hnc, hm, _⟩
  · exact .inl ⟨rfl, List.eq_nil_of_length_eq_zero h2⟩
  · exact .inr ⟨b, off, c, rfl, hnc, hm, (Array.getElem?_eq_some_iff.1 hg).1⟩
theorem KeAt.addr {w : World} {a : Option Addr} {c : Nat} {l : List (Int × Int)} {n : Nat} (h : KeAt w (.slice a n c) l) (hl : 0 < l.length) : ∃ b off, a = some ⟨b, off, none⟩ := by
  rcases h.form with ⟨_, e⟩ | ⟨b, off, c', e, _⟩
  · rw [e] at hl; simp at hl
  · cases e; exact ⟨b, off, rfl⟩

set_option maxRecDepth 100000 in
set_option maxHeartbeats 1000000 in
theorem CompareK_walk (w : World) (x y : Int × Int) :
    Calls Try.prog 59 #[.agg #[.int .i64 x.1, .int .i64 x.2], .agg #[.int .i64 y.1, .int .i64 y.2]] w fun e w' => e = .returned (.int .i64 (cmpP x y)) ∧ ∃ q os', w' = Sort.grow (w.drewN q) os' := by
  obtain ⟨x1, x2⟩ := x
  obtain ⟨y1, y2⟩ := y
  unfold cmpP
  simp only
  generalize hu : cmpI x1 y1 = u
  generalize hv : cmpI x2 y2 = v
  have c1 := Lib.hid (fun W => cmpInt x1 y1 W)
  have c2 := Lib.hid (fun W => cmpInt x2 y2 W)
  rw [hu] at c1
  rw [hv] at c2
  clear hu hv
  go_enter Try.func59, Try.ntmps59
  go_wp2_with fail
  obtain ⟨W, hW⟩ : ∃ W, W = ((w.alloc (.cells #[.int .i64 x1, .int .i64 x2] 23)).alloc (.cells #[.int .i64 y1, .int .i64 y2] 23)).drew := ⟨_, rfl⟩
  have p0 : W.cell? ⟨w.heap.size, 0, none⟩ = some (.int .i64 x1) := by rw [hW]; go_simp
  have p1 : W.cell? ⟨w.heap.size, 1, none⟩ = some (.int .i64 x2) := by rw [hW]; go_simp
  have p2 : W.cell? ⟨w.heap.size + 1, 0, none⟩ = some (.int .i64 y1) := by rw [hW]; go_simp
  have p3 : W.cell? ⟨w.heap.size + 1, 1, none⟩ = some (.int .i64 y2) := by rw [hW]; go_simp
  have hs : Hid (W.heap.size = w.heap.size + 2) := by rw [hW]; show _ = _; simp
  have hWH := Lib.hid hW
  have hd : (((w.alloc (.cells #[.int .i64 x1, .int .i64 x2] 23)).alloc (.cells #[.int .i64 y1, .int .i64 y2] 23)).drew) = W := hW.symm
  clear hW
  go_region_held (fun W' => W'.cell? ⟨w.heap.size, 0, none⟩ = some (.int .i64 x1) ∧ W'.cell? ⟨w.heap.size, 1, none⟩ = some (.int .i64 x2) ∧ W'.cell? ⟨w.heap.size + 1, 0, none⟩ = some (.int .i64 y1) ∧ W'.cell? ⟨w.heap.size + 1, 1, none⟩ = some (.int .i64 y2)) (go_keep) (first
    | (go_at_call_of 68 x1; refine (c1.out _).mono ?_; rintro e w' ⟨rfl, rfl⟩)
    | (go_at_call_of 68 x2; refine (c2.out _).mono ?_; rintro e w' ⟨rfl, rfl⟩)
    | (go_at_call 67; refine (Or_walk _ _ u v (new_cell _ _ rfl _ _ _) (new_cell _ _ rfl _ _ _)).mono ?_; rintro e w' ⟨rfl, rfl⟩))
  all_goals (go_wp2_with fail; go_ret; refine ⟨rfl, 1, #[.cells #[.int .i64 x1, .int .i64 x2] 23, .cells #[.int .i64 y1, .int .i64 y2] 23, .cells #[.int .i64 u, .int .i64 v] 3], ?_⟩)
  all_goals (rw [hWH.out]; simp only [Sort.alloc_eq_grow, Sort.grow_grow]; rfl)

/-- The world behind the sort. -/
theorem sortK_world {w : World} {b off c : Nat} {l l' : List (Int × Int)} (h : KeAt w (.slice (some ⟨b, off, none⟩) l.length c) l) (hl : l'.length = l.length) (n : Nat) (os : Array Obj) :
    KeAt (sortWorldK encP 2 w b off n l'.toArray os) (.slice (some ⟨b, off, none⟩) l.length c) l' ∧ Touch [b] w (sortWorldK encP 2 w b off n l'.toArray os) := by
  obtain ⟨arr, hg, hnc, hm, hfit, hx⟩ : ∃ arr, w.heap[b]? = some (.cells arr 23 (0, 0)) ∧ l.length ≤ c ∧ c ≤ maxLen ∧ off + c * 2 ≤ arr.size ∧ ∀ j u, (pl l)[j]? = some u → arr[off + j]? = some u := by
    rcases h.2 with ⟨e, _⟩ | ⟨b', off', c', arr, e, rest⟩
    · cases e
    · cases e; exact ⟨arr, rest⟩
  have hb : b < w.heap.size := (Array.getElem?_eq_some_iff.1 hg).1
  obtain ⟨F, hF⟩ : ∃ F, F = (pl l').toArray := ⟨_, rfl⟩
  have hFs : F.size = l.length * 2 := by rw [hF]; simp [pl_length, hl]
  have hheap : (sortWorldK encP 2 w b off n l'.toArray os).heap = w.heap.modify b (Sort.onCells (Sort.putCells id off F)) ++ os := by
    unfold sortWorldK Sort.putRowK
    rw [flat_pl, ← hF]
    rfl
  have hbk : (sortWorldK encP 2 w b off n l'.toArray os).heap[b]? = some (.cells (Sort.putCells id off F arr) 23 (0, 0)) := by
    rw [hheap, Array.getElem?_append_left (by simpa using hb), Array.getElem?_modify, if_pos rfl, hg]
    rfl
  constructor
  · show SlAt _ _ _ _ _ _
    rw [hl]
    refine ⟨by rw [pl_length, hl], .inr ⟨b, off, c, _, rfl, hbk, hnc, hm, by rw [size_putCells]; exact hfit, fun j u hu => ?_⟩⟩
    have hj := (List.getElem?_eq_some_iff.1 hu).1
    rw [pl_length, hl] at hj
    have hja : off + j < arr.size := by have := Nat.mul_le_mul_right 2 hnc; omega
    simp only [Sort.putCells, Array.getElem?_mapIdx, Array.getElem?_eq_getElem hja, Option.map_some]
    rw [if_pos ⟨by omega, by rw [hFs]; omega⟩, show off + j - off = j by omega, getElem!_pos F j (by rw [hFs]; exact hj)]
    have : F[j]? = some u := by rw [hF]; simpa using hu
    rw [Array.getElem?_eq_getElem (by rw [hFs]; exact hj)] at this
    simpa using this
  · refine ⟨rfl, rfl, rfl, by rw [hheap]; simp, fun k hk hne => ?_⟩
    rw [hheap, Array.getElem?_append_left (by simpa using hk), Array.getElem?_modify, if_neg (fun e => hne (by simp [e]))]

theorem SortK_walk (w : World) (b off c : Nat) (l : List (Int × Int)) (h : KeAt w (.slice (some ⟨b, off, none⟩) l.length c) l) (hl : l.length ≤ 1000000) :
    Calls Try.prog 71 #[.slice (some ⟨b, off, none⟩) l.length c, .func (.func 59) #[] #[]] w fun e w' =>
      e = .returned (.tuple #[]) ∧ ∃ l', l'.Perm l ∧ l'.Pairwise (fun x y => ¬ ltP y x) ∧ KeAt w' (.slice (some ⟨b, off, none⟩) l.length c) l' ∧ Touch [b] w w' := by
  have eg : ∀ args w, (callFunc 59 args).run Try.prog w = .ok (.enter 59 args) w := enters_of Try.func59 (by kernel_rfl) rfl
  have hH : Sort.HoldsK encP 2 w b off l.toArray := by
    unfold Sort.HoldsK
    rw [flat_pl]
    intro j hj
    have hj' : j < l.length * 2 := by simpa [pl_length] using hj
    obtain ⟨g, off', c', e, _, _, hx⟩ := SlAt.cells h (by rw [pl_length]; omega)
    cases e
    refine hx j _ ?_
    rw [getElem!_pos ((pl l).toArray) j hj]
    simp
  have hb : b < w.heap.size := SlAt.lt h b rfl
  have := AnyQ.slices_SortFunc laysSortKey 2 (fun w => by kernel_rfl) (fun w => by kernel_rfl) encP encP_len encP_one cmpP swoP 59 #[] b off c l.toArray w eg (fun m os dk _ x y => CompareK_walk _ x y) hH hb (by simp; omega)
  simp only [List.size_toArray] at this
  refine this.mono ?_
  rintro e w' ⟨rfl, d', n, os, hp, hs, rfl⟩
  obtain ⟨hp1, _, hp3⟩ := hp
  have hsz : d'.toList.length = l.length := by simpa using hp1
  have ed : d' = d'.toList.toArray := by simp
  have hw := sortK_world h hsz n os
  rw [← ed] at hw
  refine ⟨rfl, d'.toList, ?_, ?_, hw.1, hw.2⟩
  · have e1 : d'.extract 0 l.length = d' := by rw [← hsz]; simp
    have e2 : l.toArray.extract 0 l.length = l.toArray := by simp
    rw [e1, e2] at hp3
    simpa using hp3
  · refine List.pairwise_iff_getElem.2 fun i j hi hj hij => ?_
    have := hs i j (Nat.zero_le _) hij (by rw [← hsz]; exact hj)
    rw [ltOf_cmpP, getElem!_pos d' j (by simpa using hj), getElem!_pos d' i (by simpa using hi)] at this
    simpa using this

/-- By File, then by Page. -/
def SortedK (l l' : List (Int × Int)) : Prop := l'.Perm l ∧ l'.Pairwise (fun x y => ¬ ltP y x)

set_option maxRecDepth 100000 in
set_option maxHeartbeats 1000000 in
theorem SortedFunc_walk {ν : Type} {encV : ν → Value} (w : World) (Bm m : Nat) (L : List ((Int × Int) × ν)) (hBm : Bm < w.heap.size) (hm : w.cell? ⟨Bm, 0, none⟩ = some (.map (some m))) (hown : MapAt w m encPair encV L) (hlen : L.length ≤ 1000000) :
    Calls Try.prog 57 #[.func (.func 72) #[] #[.pointer (some ⟨Bm, 0, none⟩)], .func (.func 59) #[] #[]] w fun e w' =>
      ∃ (v : Value) (l : List (Int × Int)), e = .returned v ∧ SortedK (L.map (·.1)) l ∧ KeAt w' v l ∧ Below w.heap.size w w' ∧ ∀ b, v.ownBlock = some b → w.heap.size ≤ b := by
  have hc := Lib.hid (Collect_walk w Bm m L hBm hm hown hlen)
  have HL := Lib.hid hlen
  clear hBm hm hown hlen
  go_enter Try.func57, Try.ntmps57
  go_wp2_with fail
  refine hc.out.mono ?_
  rintro e w1 ⟨v, ss, rfl, hp, hrow, hnil, hb⟩
  have hss : ss.length ≤ 1000000 := by rw [hp.length_eq, List.length_map]; exact HL.out
  rcases hrow.2 with ⟨rfl, hz⟩ | ⟨g, cap, cur, rfl, hbase, hgb, r1, r2, r3, r4⟩
  · have he : ss = [] := List.eq_nil_of_length_eq_zero hz
    subst he
    have HB := Lib.hid hb
    have HP := Lib.hid hp
    clear hrow hnil hb hp hss hc
    go_wp2_with fail
    refine (AnyF.slices_SortFunc_none laysSortKey none 0 _ w1).mono ?_
    rintro e w2 ⟨rfl, rfl⟩
    go_wp2_with fail
    go_ret
    exact ⟨_, [], rfl, ⟨HP.out, List.Pairwise.nil⟩, KeAt.nil _, HB.out, by simp [Value.ownBlock]⟩
  · have hat : KeAt w1 (.slice (some ⟨g, 0, none⟩) ss.length cap) ss := by
      refine ⟨hrow.1, .inr ⟨g, 0, cap, cur, rfl, hgb, r1, r2, by omega, fun j u hu => ?_⟩⟩
      have hu' : (kc ss)[j]? = some u := hu
      rw [← r4] at hu'
      have hj := (List.getElem?_eq_some_iff.1 hu').1
      rw [List.getElem?_take_of_lt (by simp at hj; omega)] at hu'
      simpa using hu'
    have HAT := Lib.hid hat
    have HB := Lib.hid hb
    have HP := Lib.hid hp
    clear hrow hnil hb hp hc hat r1 r2 r3 r4 hgb
    go_wp2_with fail
    refine (SortK_walk w1 g 0 cap ss HAT.out hss).mono ?_
    rintro e w2 ⟨rfl, l', hperm, hsort, hp2, t2⟩
    have HF : Hid (SortedK (L.map (·.1)) l' ∧ KeAt w2 (.slice (some ⟨g, 0, none⟩) ss.length cap) l' ∧ Below w.heap.size w w2) := ⟨⟨hperm.trans HP.out, hsort⟩, hp2, Touch.from HB.out t2 HB.out.size (fun i hi => by simp at hi; omega)⟩
    clear hperm hsort hp2 t2
    go_wp2_with fail
    go_ret
    exact ⟨_, l', rfl, HF.out.1, HF.out.2.1, HF.out.2.2, fun b hb => by simp [Value.ownBlock] at hb; omega⟩
end Go.Proofs.Ytflbidbnbfndgaa
