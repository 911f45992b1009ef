/- Slices of places (two whole numbers each): what lies in their cells; slices.Clip, slices.Delete, back.Compare. -/
import Derived.Test.YtflbidbnbfndgaaTouch
import Derived.Test.YtflbidbnbfndgaaProg
import Derived.KernelRfl
import Derived.Deep.RegionWith
import Derived.Sort.Grow
import Derived.Deep.RegionLaw
import Derived.Deep.RegionHeld
namespace Go.Proofs.Ytflbidbnbfndgaa
open Go Go.RowKit

/-- The cells of a list of pairs. -/
def pl (l : List (Int × Int)) : List Value := l.flatMap fun x => [.int .i64 x.1, .int .i64 x.2]
theorem pl_nil : pl [] = [] := rfl
theorem pl_cons (x : Int × Int) (l : List (Int × Int)) : pl (x :: l) = [.int .i64 x.1, .int .i64 x.2] ++ pl l := rfl
theorem pl_append (a b : List (Int × Int)) : pl (a ++ b) = pl a ++ pl b := by simp [pl]
theorem pl_length (l : List (Int × Int)) : (pl l).length = l.length * 2 := by
  induction l with
  | nil => rfl
  | cons x l ih => rw [pl_cons, List.length_append, ih]; simp; omega
theorem pl_get (l : List (Int × Int)) (j : Nat) (h : j < l.length) : (pl l)[j * 2]? = some (.int .i64 l[j].1) ∧ (pl l)[j * 2 + 1]? = some (.int .i64 l[j].2) := by
  induction l generalizing j with
  | nil => simp at h
  | cons x l ih =>
    rw [pl_cons]
    cases j with
    | zero => simp
    | succ j =>
      have := ih j (by simpa using h)
      rw [show (j + 1) * 2 = j * 2 + 2 by omega, show j * 2 + 2 + 1 = j * 2 + 1 + 2 by omega]
      simpa using this
theorem pl_one (l : List (Int × Int)) : ∀ u ∈ pl l, u.oneCell' = true := by
  intro u hu
  simp only [pl, List.mem_flatMap] at hu
  obtain ⟨x, _, h⟩ := hu
  simp at h
  rcases h with rfl | rfl <;> rfl
theorem pl_take (l : List (Int × Int)) (n : Nat) : pl (l.take n) = (pl l).take (n * 2) := by
  induction l generalizing n with
  | nil => simp [pl]
  | cons x l ih => cases n with
    | zero => simp [pl]
    | succ n => rw [List.take_succ_cons, pl_cons, pl_cons, ih, show (n + 1) * 2 = n * 2 + 2 by omega]; simp
theorem pl_drop (l : List (Int × Int)) (n : Nat) : pl (l.drop n) = (pl l).drop (n * 2) := by
  induction l generalizing n with
  | nil => simp [pl]
  | cons x l ih => cases n with
    | zero => simp
    | succ n => rw [List.drop_succ_cons, pl_cons, ih, show (n + 1) * 2 = n * 2 + 2 by omega]; simp

/-- A slice of places. -/
def PlAt (w : World) (v : Value) (l : List (Int × Int)) : Prop := SlAt w 40 2 v l.length (pl l)

theorem PlAt.nil (w : World) : PlAt w (.slice none 0 0) [] := SlAt.nil w _ _
theorem PlAt.below {w w' : World} {v : Value} {l : List (Int × Int)} (h : PlAt w v l) (hb : Below w.heap.size w w') : PlAt w' v l := SlAt.below h hb
theorem PlAt.keep {w w' : World} {v : Value} {l : List (Int × Int)} (h : PlAt w v l) (hb : ∀ b, v.ownBlock = some b → w'.heap[b]? = w.heap[b]?) : PlAt w' v l := SlAt.keep h hb
theorem PlAt.touch {w w' : World} {v : Value} {l : List (Int × Int)} {S : List Nat} (h : PlAt w v l) (t : Touch S w w') (hn : ∀ b, v.ownBlock = some b → b ∉ S) : PlAt w' v l :=
  SlAt.keep h fun b e => t.block b (SlAt.lt h b e) (hn b e)
theorem PlAt.cell {w : World} {b off c : Nat} {l : List (Int × Int)} {n : Nat} (h : PlAt w (.slice (some ⟨b, off, none⟩) n c) l) (j : Nat) (hj : j < l.length) :
    w.cell? ⟨b, off + j * 2, none⟩ = some (.int .i64 l[j].1) ∧ w.cell? ⟨b, off + j * 2 + 1, none⟩ = some (.int .i64 l[j].2) := by
  obtain ⟨g, off', c', e, _, _, hx⟩ := SlAt.cells h (by rw [pl_length]; omega)
  cases e
  obtain ⟨h1, h2⟩ := pl_get l j hj
  exact ⟨(hx _ _ h1).1, by rw [Nat.add_assoc]; exact (hx _ _ h2).1⟩
theorem PlAt.form {w : World} {v : Value} {l : List (Int × Int)} (h : PlAt w v l) : (v = .slice none 0 0 ∧ l = []) ∨ ∃ b off c, v = .slice (some ⟨b, off, none⟩) l.length c ∧ l.length ≤ c ∧ c ≤ maxLen ∧ b < w.heap.size := by
  rcases h.2 with ⟨rfl, h2⟩ | ⟨b, off, c, arr, rfl, hg, hnc, hm, _⟩
  · exact .inl ⟨rfl, List.eq_nil_of_length_eq_zero h2⟩
  · exact .inr ⟨b, off, c, rfl, hnc, hm, (Array.getElem?_eq_some_iff.1 hg).1⟩

theorem setRow_id (w : World) (b : Nat) (arr : Array Value) (e : TypeId) (hg : w.heap[b]? = some (.cells arr e (0, 0))) : w.setRow b arr = w := setRow_self w b arr e (0, 0) hg

/-- Cells stored in a row of a block's cells. -/
theorem store_row (P : Program) (w : World) (b o : Nat) (vs : List Value) (arr : Array Value) (e : TypeId) (hg : w.heap[b]? = some (.cells arr e (0, 0))) (hfit : o + vs.length ≤ arr.size) (h1 : ∀ u ∈ vs, u.oneCell' = true) :
    ∃ arr' : Array Value, (storeCells ⟨b, o, none⟩ vs 0).run P w = .ok () (w.setRow b arr') ∧ arr'.size = arr.size ∧ (∀ j, j < o → arr'[j]? = arr[j]?) ∧ (∀ j, o + vs.length ≤ j → arr'[j]? = arr[j]?) ∧ (∀ j u, vs[j]? = some u → arr'[o + j]? = some u) ∧ (w.setRow b arr').heap[b]? = some (.cells arr' e (0, 0)) := by
  have h := run_storeCells_at P b o e vs 0 arr w hg (by simpa using hfit) h1
  simp only [Nat.add_zero] at h
  have htl : (arr.toList.take o).length = o := by simp; omega
  refine ⟨_, h, by simp; omega, fun j hj => ?_, fun j hj => ?_, fun j u hu => ?_, setRow_heap w b arr _ e _ hg⟩
  · rw [List.getElem?_toArray, List.append_assoc, List.getElem?_append_left (by rw [htl]; exact hj), List.getElem?_take_of_lt hj]; simp
  · rw [List.getElem?_toArray, List.getElem?_append_right (by rw [List.length_append, htl]; exact hj), List.getElem?_drop]
    rw [List.length_append, htl]
    simp; congr 1; omega
  · have hj := (List.getElem?_eq_some_iff.1 hu).1
    rw [List.getElem?_toArray, List.append_assoc, List.getElem?_append_right (by rw [htl]; omega), htl, List.getElem?_append_left (by omega), show o + j - o = j by omega]
    exact hu

/-- 'clear' of a slice of places: a row of the block's cells is turned, all others stay. -/
theorem clear_run (w : World) (ty : TypeId) (b o n c : Nat) (arr : Array Value) (e : TypeId) (hg : w.heap[b]? = some (.cells arr e (0, 0))) (hfit : o + n * 2 ≤ arr.size) :
    ∃ arr' : Array Value, (Builtin.clear_ #[35] ty #[.slice (some ⟨b, o, none⟩) n c]).run Try.prog w = .ok (.tuple #[]) (w.setRow b arr') ∧ arr'.size = arr.size ∧ (∀ j, j < o → arr'[j]? = arr[j]?) ∧ (w.setRow b arr').heap[b]? = some (.cells arr' e (0, 0)) := by
  cases n with
  | zero => exact ⟨arr, by rw [setRow_id w b arr e hg]; simp [Builtin.clear_, run_underlying Try.underlying35], rfl, fun _ _ => rfl, by rw [setRow_id w b arr e hg]; exact hg⟩
  | succ n =>
    have hz : ∀ w, (zeroValue 40).run Try.prog w = .ok (.agg #[.int .i64 0, .int .i64 0]) w := fun w => by kernel_rfl
    have hl : (Builtin.zeroCells (Value.agg #[.int .i64 0, .int .i64 0]).cells (n + 1)).toList.length = (n + 1) * 2 := by simp [Builtin.zeroCells, Value.cells]
    have hall : ∀ u ∈ (Builtin.zeroCells (Value.agg #[.int .i64 0, .int .i64 0]).cells (n + 1)).toList, u.oneCell' = true := by
      intro u hu
      simp [Builtin.zeroCells, Value.cells] at hu
      obtain ⟨i, hi, rfl⟩ := hu
      rcases Nat.mod_two_eq_zero_or_one i with h | h <;> simp [h, Value.oneCell']
    obtain ⟨arr', h1, h2, h3, _, _, h6⟩ := store_row Try.prog w b o _ arr e hg (by rw [hl]; exact hfit) hall
    exact ⟨arr', by simp [Builtin.clear_, run_underlying Try.underlying35, hz, h1], h2, h3, h6⟩

theorem Clip_walk (w : World) (v : Value) (l : List (Int × Int)) (h : PlAt w v l) :
    Calls Try.prog 49 #[v] w fun e w' => ∃ v', e = .returned v' ∧ PlAt w v' l ∧ w' = w ∧ v'.ownBlock = v.ownBlock := by
  rcases h.form with ⟨rfl, rfl⟩ | ⟨b, off, c, rfl, hc, hm, hb⟩
  · go_enter Try.func49, Try.ntmps49
    go_wp2_with fail
    go_ret
    exact ⟨_, rfl, PlAt.nil w, rfl, rfl⟩
  · have h' : PlAt w (.slice (some ⟨b, off, none⟩) l.length l.length) l := by
      refine ⟨h.1, ?_⟩
      rcases h.2 with ⟨e, _⟩ | ⟨b', off', c', arr, e, hg, hnc, hm', hfit, hx⟩
      · cases e
      · cases e
        exact .inr ⟨b, off, l.length, arr, rfl, hg, Nat.le_refl _, by omega, by have := Nat.mul_le_mul_right 2 hnc; omega, hx⟩
    have H := Lib.hid h'
    clear h h'
    generalize hn : l.length = n at *
    clear hn
    go_enter Try.func49, Try.ntmps49
    go_wp2_with fail
    go_ret
    exact ⟨_, rfl, H.out, rfl, rfl⟩

theorem eraseIdx_pl (l : List (Int × Int)) (i : Nat) : pl (l.eraseIdx i) = pl (l.take i) ++ pl (l.drop (i + 1)) := by
  rw [← pl_append, List.eraseIdx_eq_take_drop_succ]

set_option maxRecDepth 100000 in
set_option maxHeartbeats 1000000 in
theorem Delete_walk (w : World) (b off c i : Nat) (l : List (Int × Int)) (h : PlAt w (.slice (some ⟨b, off, none⟩) l.length c) l) (hi : i < l.length) :
    Calls Try.prog 53 #[.slice (some ⟨b, off, none⟩) l.length c, .int .i64 i, .int .i64 (i + 1)] w fun e w' => ∃ v', e = .returned v' ∧ PlAt w' v' (l.eraseIdx i) ∧ Touch [b] w w' ∧ v'.ownBlock = some b := by
  obtain ⟨arr, hg, hnc, hm, hfit, hx⟩ : ∃ arr, w.heap[b]? = some (.cells arr 40 (0, 0)) ∧ l.length ≤ c ∧ c ≤ maxLen ∧ off + c * 2 ≤ arr.size ∧ ∀ j u, (pl l)[j]? = some u → arr[off + j]? = some u := by
    rcases h.2 with ⟨e, _⟩ | ⟨b', off', c', arr, e, rest⟩
    · cases e
    · cases e; exact ⟨arr, rest⟩
  have hb : b < w.heap.size := (Array.getElem?_eq_some_iff.1 hg).1
  obtain ⟨n, hn⟩ : ∃ n, l.length = n + 1 := ⟨l.length - 1, by omega⟩
  obtain ⟨news, hnews⟩ : ∃ news, news = pl (l.drop (i + 1)) := ⟨_, rfl⟩
  have hlen : news.length = (n - i) * 2 := by rw [hnews, pl_length, List.length_drop]; omega
  -- the store of the cells that go to the left
  obtain ⟨arr1, hs1, hz1, hlo1, _, hmid1, hg1⟩ := store_row Try.prog w.drew b (off + i * 2) news arr 40 hg (by rw [hlen]; omega) (by rw [hnews]; exact pl_one _)
  obtain ⟨A, hA, hsrc⟩ : ∃ A : Addr, (if c = i + 1 then some (⟨b, off, none⟩ : Addr) else some ⟨b, off + (i + 1) * 2, none⟩) = some A ∧ ∀ t u, news[t]? = some u → w.drew.cell? (A.add t) = some u := by
    by_cases h : c = i + 1
    · refine ⟨⟨b, off, none⟩, by simp [h], fun t u hu => ?_⟩
      have h0 : news.length = 0 := by rw [hlen]; omega
      rw [List.length_eq_zero_iff.1 h0] at hu
      simp at hu
    · refine ⟨⟨b, off + (i + 1) * 2, none⟩, by simp [h], fun t u hu => ?_⟩
      rw [hnews, pl_drop, List.getElem?_drop] at hu
      rw [add_plain, World.cell?_drew, cell_of_row w b _ arr _ _ hg, Nat.add_assoc]
      exact hx _ _ hu
  obtain ⟨W1, hW1⟩ : ∃ W1, W1 = w.drew.setRow b arr1 := ⟨_, rfl⟩
  rw [← hW1] at hg1
  have s3 : Hid (∀ t, t < news.length → (w.drew.cell? ⟨b, off + i * 2 + t, none⟩).isSome = true ∧ w.drew.frozen? ⟨b, off + i * 2 + t, none⟩ = false) := by
    intro t ht
    rw [hlen] at ht
    refine ⟨?_, by show w.frozen? _ = false; simp [World.frozen?, hg]⟩
    rw [World.cell?_drew, cell_of_row w b _ arr _ _ hg, Array.getElem?_eq_getElem (by omega)]
    rfl
  have hset : w.drew.setCells b (off + i * 2) news = W1 := by
    rw [hW1]
    have e := run_storeCells_cells (P := Try.prog) b (off + i * 2) news 0 w.drew (fun j hj => by simpa using (s3.out j hj).1) (fun j hj => by simpa using (s3.out j hj).2) (by rw [hnews]; exact pl_one _)
    simp only [Nat.add_zero] at e
    rw [hs1] at e
    exact ((Result.ok.inj e).2).symm
  obtain ⟨arr2, hs2, hz2, hlo2, hg2⟩ : ∃ arr' : Array Value, (∀ ty, (Builtin.clear_ #[35] ty #[.slice (some ⟨b, off + n * 2, none⟩) 1 (c - n)]).run Try.prog W1 = .ok (.tuple #[]) (W1.setRow b arr')) ∧ arr'.size = arr1.size ∧ (∀ j, j < off + n * 2 → arr'[j]? = arr1[j]?) ∧ (W1.setRow b arr').heap[b]? = some (.cells arr' 40 (0, 0)) := by
    obtain ⟨a', h1, h2, h3, h4⟩ := clear_run W1 0 b (off + n * 2) 1 (c - n) arr1 40 hg1 (by rw [hz1]; omega)
    exact ⟨a', fun ty => h1, h2, h3, h4⟩
  have fin : Hid (PlAt (W1.setRow b arr2) (.slice (some ⟨b, off, none⟩) n c) (l.eraseIdx i) ∧ Touch [b] w (W1.setRow b arr2)) := by
    have hle : (l.eraseIdx i).length = n := by rw [List.length_eraseIdx_of_lt hi]; omega
    constructor
    · show SlAt _ _ _ _ _ _
      rw [hle]
      refine ⟨by rw [pl_length, hle], .inr ⟨b, off, c, arr2, rfl, hg2, by omega, hm, by rw [hz2, hz1]; omega, fun j u hu => ?_⟩⟩
      have hj := (List.getElem?_eq_some_iff.1 hu).1
      rw [pl_length, hle] at hj
      rw [hlo2 (off + j) (by omega)]
      rw [eraseIdx_pl] at hu
      have htl : (pl (l.take i)).length = i * 2 := by rw [pl_length, List.length_take]; omega
      by_cases hji : j < i * 2
      · rw [List.getElem?_append_left (by rw [htl]; exact hji), pl_take, List.getElem?_take_of_lt hji] at hu
        rw [hlo1 (off + j) (by omega)]
        exact hx j u hu
      · rw [List.getElem?_append_right (by rw [htl]; omega), htl, ← hnews] at hu
        have := hmid1 _ _ hu
        rw [show off + i * 2 + (j - i * 2) = off + j by omega] at this
        exact this
    · have t1 : Touch [b] w W1 := by
        rw [hW1]
        exact ⟨rfl, rfl, rfl, by simp, fun k hk hne => setRow_other w.drew b k _ (fun e => hne (by simp [e]))⟩
      exact t1.trans ⟨rfl, rfl, rfl, by simp, fun k hk hne => setRow_other W1 b k _ (fun e => hne (by simp [e]))⟩
  obtain ⟨i0, hi0, hsz0⟩ : ∃ i, Try.prog.info? 40 = some i ∧ i.size = 2 := by
    have h : (Try.prog.info? 40).map (·.size) = some 2 := by kernel_rfl
    obtain ⟨i, hi, hb⟩ := Option.map_eq_some_iff.1 h
    exact ⟨i, hi, hb⟩
  have s1 := Lib.hid hlen
  have s2 : Hid (∀ u ∈ news, u.oneCell' = true) := by rw [hnews]; exact pl_one _
  have hs := Lib.hid hsrc
  have hWr : Hid (w.drew.setCells b (off + i * 2) news = W1) := hset
  have hin : i ≤ n := by omega
  have hic : i ≤ c := by omega
  have hjc : i + 1 ≤ c := by omega
  have h0i : (0 : Int) ≤ i + 1 := by omega
  have hnc' : n + 1 ≤ c := by omega
  have e2 : c - n ≠ 0 := by omega
  have en : n + 1 - n = 1 := by omega
  rw [hn]
  clear h hx hg hlo1 hmid1 hg1 hs1 hz1 hW1 hz2 hlo2 hg2 hset hlen hsrc hnews hfit hnc hn hi e2
  go_enter Try.func53, Try.ntmps53
  go_wp2_with fail
  go_region_law (refine step_append_room rfl (.tmp 22) (.tmp 25) 35 rfl 40 i0 2 Try.underlying35 hi0 hsz0 b off i c (by simp [Act.eval, Act.put]) A (n - i) (c - (i + 1)) news (by simp [Act.eval, Act.put]) s1.out hs.out s2.out (by omega) s3.out ?_; rw [hWr.out])
  go_wp2_with fail
  go_ret
  exact ⟨_, rfl, fin.out.1, fin.out.2, rfl⟩

/-- What cmp.Or says of two whole numbers. -/
def orI (x y : Int) : Int := if x = 0 then y else x
theorem Or_walk (w : World) (b : Nat) (x y : Int) (hx : w.cell? ⟨b, 0, none⟩ = some (.int .i64 x)) (hy : w.cell? ⟨b, 1, none⟩ = some (.int .i64 y)) :
    Calls Try.prog 67 #[.slice (some ⟨b, 0, none⟩) 2 2] w fun e w' => e = .returned (.int .i64 (orI x y)) ∧ w' = w := by
  by_cases h0 : x = 0
  · subst h0
    by_cases h1 : y = 0
    · subst h1
      go_enter Try.func67, Try.ntmps67
      go_wp2_with fail
      refine wp_loop_rounds 3 ?_
      rw [rounds_succ]
      go_wp2_with fail
      rw [rounds_succ]
      go_wp2_with fail
      rw [rounds_succ]
      go_wp2_with fail
      go_ret
      exact ⟨by simp [orI], rfl⟩
    · go_enter Try.func67, Try.ntmps67
      go_wp2_with fail
      refine wp_loop_rounds 3 ?_
      rw [rounds_succ]
      go_wp2_with fail
      rw [rounds_succ]
      go_wp2_with fail
      go_ret
      exact ⟨by simp [orI], rfl⟩
  · go_enter Try.func67, Try.ntmps67
    go_wp2_with fail
    refine wp_loop_rounds 3 ?_
    rw [rounds_succ]
    go_wp2_with fail
    go_ret
    exact ⟨by simp [orI, h0], rfl⟩

/-- What cmp.Compare says of two whole numbers. -/
def cmpI (x y : Int) : Int := if x < y then -1 else if y < x then 1 else 0
theorem cmpInt (x y : Int) (w : World) : Calls Try.prog 68 #[.int .i64 x, .int .i64 y] w fun e w' => e = .returned (.int .i64 (cmpI x y)) ∧ w' = w := by
  by_cases h1 : x < y
  · rw [show cmpI x y = -1 by simp [cmpI, h1]]
    go_enter Try.func68, Try.ntmps68
    go_wp2
    go_ret
    exact ⟨rfl, rfl⟩
  · by_cases h2 : y < x
    · rw [show cmpI x y = 1 by simp [cmpI, h1, h2]]
      go_enter Try.func68, Try.ntmps68
      go_wp2
      go_ret
      exact ⟨rfl, rfl⟩
    · rw [show cmpI x y = 0 by simp [cmpI, h1, h2]]
      go_enter Try.func68, Try.ntmps68
      go_wp2
      go_ret
      exact ⟨rfl, rfl⟩

theorem new_cell (W : World) (k : Nat) (hk : W.heap.size = k) (cs : Array Value) (T : TypeId) (j : Nat) : (W.alloc (.cells cs T)).cell? ⟨k, j, none⟩ = cs[j]? := by
  subst hk
  exact World.cell?_alloc_mark W cs T (0, 0) j

/-- What back.Compare says of two places. -/
def cmpP (x y : Int × Int) : Int := orI (cmpI x.1 y.1) (cmpI x.2 y.2)

set_option maxRecDepth 100000 in
set_option maxHeartbeats 1000000 in
theorem Compare_walk (w : World) (x y : Int × Int) :
    Calls Try.prog 48 #[.agg #[.int .i64 x.1, .int .i64 x.2], .agg #[.int .i64 y.1, .int .i64 y.2]] w fun e w' => e = .returned (.int .i64 (cmpP x y)) ∧ ∃ q os', w' = Sort.grow (w.drewN q) os' := by
  obtain ⟨x1, x2⟩ := x
  obtain ⟨y1, y2⟩ := y
  unfold cmpP
  simp only
  generalize hu : cmpI x1 y1 = u
  generalize hv : cmpI x2 y2 = v
  have c1 := Lib.hid (fun W => cmpInt x1 y1 W)
  have c2 := Lib.hid (fun W => cmpInt x2 y2 W)
  rw [hu] at c1
  rw [hv] at c2
  clear hu hv
  go_enter Try.func48, Try.ntmps48
  go_wp2_with fail
  obtain ⟨W, hW⟩ : ∃ W, W = ((w.alloc (.cells #[.int .i64 x1, .int .i64 x2] 40)).alloc (.cells #[.int .i64 y1, .int .i64 y2] 40)).drew := ⟨_, rfl⟩
  have p0 : W.cell? ⟨w.heap.size, 0, none⟩ = some (.int .i64 x1) := by rw [hW]; go_simp
  have p1 : W.cell? ⟨w.heap.size, 1, none⟩ = some (.int .i64 x2) := by rw [hW]; go_simp
  have p2 : W.cell? ⟨w.heap.size + 1, 0, none⟩ = some (.int .i64 y1) := by rw [hW]; go_simp
  have p3 : W.cell? ⟨w.heap.size + 1, 1, none⟩ = some (.int .i64 y2) := by rw [hW]; go_simp
  have hs : Hid (W.heap.size = w.heap.size + 2) := by rw [hW]; show _ = _; simp
  have hWH := Lib.hid hW
  have hd : (((w.alloc (.cells #[.int .i64 x1, .int .i64 x2] 40)).alloc (.cells #[.int .i64 y1, .int .i64 y2] 40)).drew) = W := hW.symm
  clear hW
  go_region_held (fun W' => W'.cell? ⟨w.heap.size, 0, none⟩ = some (.int .i64 x1) ∧ W'.cell? ⟨w.heap.size, 1, none⟩ = some (.int .i64 x2) ∧ W'.cell? ⟨w.heap.size + 1, 0, none⟩ = some (.int .i64 y1) ∧ W'.cell? ⟨w.heap.size + 1, 1, none⟩ = some (.int .i64 y2)) (go_keep) (first
    | (go_at_call_of 68 x1; refine (c1.out _).mono ?_; rintro e w' ⟨rfl, rfl⟩)
    | (go_at_call_of 68 x2; refine (c2.out _).mono ?_; rintro e w' ⟨rfl, rfl⟩)
    | (go_at_call 67; refine (Or_walk _ _ u v (new_cell _ _ rfl _ _ _) (new_cell _ _ rfl _ _ _)).mono ?_; rintro e w' ⟨rfl, rfl⟩))
  all_goals (go_wp2_with fail; go_ret; refine ⟨rfl, 1, #[.cells #[.int .i64 x1, .int .i64 x2] 40, .cells #[.int .i64 y1, .int .i64 y2] 40, .cells #[.int .i64 u, .int .i64 v] 3], ?_⟩)
  all_goals (rw [hWH.out]; simp only [Sort.alloc_eq_grow, Sort.grow_grow]; rfl)
end Go.Proofs.Ytflbidbnbfndgaa
