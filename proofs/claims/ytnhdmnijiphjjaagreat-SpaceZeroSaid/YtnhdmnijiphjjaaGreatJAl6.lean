/- Slices of places (two whole numbers each): what lies in their cells; slices.Clip, slices.Delete, back.Compare. -/
import Derived.Test.YtnhdmnijiphjjaaGreatJAl0
import Derived.Test.YtnhdmnijiphjjaaGreatProg
import Derived.KernelRfl
import Derived.Deep.RegionWith
import Derived.Sort.Grow
import Derived.Deep.RegionLaw
import Derived.Deep.RegionHeld
import Derived.Test.YtnhdmnijiphjjaaGreatJAl5
set_option linter.unusedVariables false
set_option linter.unusedSimpArgs false
namespace Go.Proofs.YtnhdmnijiphjjaaGreat
open Go Go.RowKit
def pl (l : List (Int × Int)) : List Value := l.flatMap fun x => [.int .i64 x.1, .int .i64 x.2]
theorem Qs (x : Int × Int) (l : List (Int × Int)) : pl (x :: l) = [.int .i64 x.1, .int .i64 x.2] ++ pl l := rfl
theorem Qt (a b : List (Int × Int)) : pl (a ++ b) = pl a ++ pl b := by simp [pl]
theorem x9 (l : List (Int × Int)) : (pl l).length = l.length * 2 := by
 induction l with
 | nil => rfl
 | cons x l ih => rw [Qs, List.length_append, ih]; simp; omega
theorem zmb (l : List (Int × Int)) (j : Nat) (h : j < l.length) : (pl l)[j * 2]? = some (.int .i64 l[j].1) ∧ (pl l)[j * 2 + 1]? = some (.int .i64 l[j].2) := by
 induction l generalizing j with
 | nil => simp at h
 | cons x l ih =>
  rw [Qs]
  cases j with
  | zero => simp
  | succ j =>
   have := ih j (by simpa using h)
   rw [show (j + 1) * 2 = j * 2 + 2 by omega, show j * 2 + 2 + 1 = j * 2 + 1 + 2 by omega]
   simpa using this
theorem J6 (l : List (Int × Int)) : ∀ u ∈ pl l, u.oneCell' = true := by
 intro u hu
 simp only [pl, List.mem_flatMap] at hu
 obtain ⟨x, _, h⟩ := hu
 simp at h
 rcases h with rfl | rfl <;> rfl
theorem zmv (l : List (Int × Int)) (n : Nat) : pl (l.take n) = (pl l).take (n * 2) := by
 induction l generalizing n with
 | nil => simp [pl]
 | cons x l ih => cases n with
  | zero => simp [pl]
  | succ n => rw [List.take_succ_cons, Qs, Qs, ih, show (n + 1) * 2 = n * 2 + 2 by omega]; simp
theorem zmw (l : List (Int × Int)) (n : Nat) : pl (l.drop n) = (pl l).drop (n * 2) := by
 induction l generalizing n with
 | nil => simp [pl]
 | cons x l ih => cases n with
  | zero => simp
  | succ n => rw [List.drop_succ_cons, Qs, ih, show (n + 1) * 2 = n * 2 + 2 by omega]; simp
def PlAt (w : World) (v : Value) (l : List (Int × Int)) : Prop := SlAt w 58 2 v l.length (pl l)
theorem PlAt.nil (w : World) : PlAt w (.slice none 0 0) [] := SlAt.nil w _ _
theorem PlAt.below {w w' : World} {v : Value} {l : List (Int × Int)} (h : PlAt w v l) (hb : Below w.heap.size w w') : PlAt w' v l := SlAt.below h hb
theorem PlAt.keep {w w' : World} {v : Value} {l : List (Int × Int)} (h : PlAt w v l) (hb : ∀ b, v.ownBlock = some b → w'.heap[b]? = w.heap[b]?) : PlAt w' v l := SlAt.keep h hb
theorem PlAt.touch {w w' : World} {v : Value} {l : List (Int × Int)} {S : List Nat} (h : PlAt w v l) (t : Touch S w w') (hn : ∀ b, v.ownBlock = some b → b ∉ S) : PlAt w' v l :=
 SlAt.keep h fun b e => t.block b (SlAt.lt h b e) (hn b e)
theorem PlAt.cell {w : World} {b off c : Nat} {l : List (Int × Int)} {n : Nat} (h : PlAt w (.slice (some ⟨b, off, none⟩) n c) l) (j : Nat) (hj : j < l.length) :
  w.cell? ⟨b, off + j * 2, none⟩ = some (.int .i64 l[j].1) ∧ w.cell? ⟨b, off + j * 2 + 1, none⟩ = some (.int .i64 l[j].2) := by
 obtain ⟨g, off', c', e, _, _, hx⟩ := SlAt.cells h (by rw [x9]; omega)
 cases e
 obtain ⟨h1, h2⟩ := zmb l j hj
 exact ⟨(hx _ _ h1).1, by rw [Nat.add_assoc]; exact (hx _ _ h2).1⟩
theorem PlAt.form {w : World} {v : Value} {l : List (Int × Int)} (h : PlAt w v l) : (v = .slice none 0 0 ∧ l = []) ∨ ∃ b off c, v = .slice (some ⟨b, off, none⟩) l.length c ∧ l.length ≤ c ∧ c ≤ maxLen ∧ b < w.heap.size := by
 rcases h.2 with ⟨rfl, h2⟩ | ⟨b, off, c, arr, rfl, hg, hnc, hm, _⟩
 ·exact .inl ⟨rfl, List.eq_nil_of_length_eq_zero h2⟩
 ·exact .inr ⟨b, off, c, rfl, hnc, hm, (Array.getElem?_eq_some_iff.1 hg).1⟩
theorem zb8 (w : World) (b : Nat) (arr : Array Value) (e : TypeId) (hg : w.heap[b]? = some (.cells arr e (0, 0))) : w.setRow b arr = w := setRow_self w b arr e (0, 0) hg
theorem zb5 (P : Program) (w : World) (b o : Nat) (vs : List Value) (arr : Array Value) (e : TypeId) (hg : w.heap[b]? = some (.cells arr e (0, 0))) (hfit : o + vs.length ≤ arr.size) (h1 : ∀ u ∈ vs, u.oneCell' = true) :
  ∃ arr' : Array Value, (storeCells ⟨b, o, none⟩ vs 0).run P w = .ok () (w.setRow b arr') ∧ arr'.size = arr.size ∧ (∀ j, j < o → arr'[j]? = arr[j]?) ∧ (∀ j, o + vs.length ≤ j → arr'[j]? = arr[j]?) ∧ (∀ j u, vs[j]? = some u → arr'[o + j]? = some u) ∧ (w.setRow b arr').heap[b]? = some (.cells arr' e (0, 0)) := by
 have h := run_storeCells_at P b o e vs 0 arr w hg (by simpa using hfit) h1
 simp only [Nat.add_zero] at h
 have htl : (arr.toList.take o).length = o := by simp; omega
 refine ⟨_, h, by simp; omega, fun j hj => ?_, fun j hj => ?_, fun j u hu => ?_, setRow_heap w b arr _ e _ hg⟩
 ·rw [List.getElem?_toArray, List.append_assoc, List.getElem?_append_left (by rw [htl]; exact hj), List.getElem?_take_of_lt hj]; simp
 ·rw [List.getElem?_toArray, List.getElem?_append_right (by rw [List.length_append, htl]; exact hj), List.getElem?_drop]
  rw [List.length_append, htl]
  simp; congr 1; omega
 ·have hj := (List.getElem?_eq_some_iff.1 hu).1
  rw [List.getElem?_toArray, List.append_assoc, List.getElem?_append_right (by rw [htl]; omega), htl, List.getElem?_append_left (by omega), show o + j - o = j by omega]
  exact hu
theorem zii (w : World) (ty : TypeId) (b o n c : Nat) (arr : Array Value) (e : TypeId) (hg : w.heap[b]? = some (.cells arr e (0, 0))) (hfit : o + n * 2 ≤ arr.size) :
  ∃ arr' : Array Value, (Builtin.clear_ #[120] ty #[.slice (some ⟨b, o, none⟩) n c]).run Tryz.prog w = .ok (.tuple #[]) (w.setRow b arr') ∧ arr'.size = arr.size ∧ (∀ j, j < o → arr'[j]? = arr[j]?) ∧ (w.setRow b arr').heap[b]? = some (.cells arr' e (0, 0)) := by
 cases n with
 | zero => exact ⟨arr, by rw [zb8 w b arr e hg]; simp [Builtin.clear_, run_underlying Tryz.underlying120], rfl, fun _ _ => rfl, by rw [zb8 w b arr e hg]; exact hg⟩
 | succ n =>
  have hz : ∀ w, (zeroValue 58).run Tryz.prog w = .ok (.agg #[.int .i64 0, .int .i64 0]) w := fun w => by kernel_rfl
  have hl : (Builtin.zeroCells (Value.agg #[.int .i64 0, .int .i64 0]).cells (n + 1)).toList.length = (n + 1) * 2 := by simp [Builtin.zeroCells, Value.cells]
  have hall : ∀ u ∈ (Builtin.zeroCells (Value.agg #[.int .i64 0, .int .i64 0]).cells (n + 1)).toList, u.oneCell' = true := by
   intro u hu
   simp [Builtin.zeroCells, Value.cells] at hu
   obtain ⟨i, hi, rfl⟩ := hu
   rcases Nat.mod_two_eq_zero_or_one i with h | h <;> simp [h, Value.oneCell']
  obtain ⟨arr', h1, h2, h3, _, _, h6⟩ := zb5 Tryz.prog w b o _ arr e hg (by rw [hl]; exact hfit) hall
  exact ⟨arr', by simp [Builtin.clear_, run_underlying Tryz.underlying120, hz, h1], h2, h3, h6⟩
theorem zdf (w : World) (v : Value) (l : List (Int × Int)) (h : PlAt w v l) :
  Calls Tryz.prog 138 #[v] w fun e w' => ∃ v', e = .returned v' ∧ PlAt w v' l ∧ w' = w ∧ v'.ownBlock = v.ownBlock := by
 rcases h.form with ⟨rfl, rfl⟩ | ⟨b, off, c, rfl, hc, hm, hb⟩
 ·go_enter Tryz.func138, Tryz.ntmps138
  go_wp2_with fail
  go_ret
  exact ⟨_, rfl, PlAt.nil w, rfl, rfl⟩
 ·have h' : PlAt w (.slice (some ⟨b, off, none⟩) l.length l.length) l := by
   refine ⟨h.1, ?_⟩
   rcases h.2 with ⟨e, _⟩ | ⟨b', off', c', arr, e, hg, hnc, hm', hfit, hx⟩
   ·cases e
   ·cases e
    exact .inr ⟨b, off, l.length, arr, rfl, hg, Nat.le_refl _, by omega, by have := Nat.mul_le_mul_right 2 hnc; omega, hx⟩
  have H := Lib.hid h'
  clear h h'
  generalize hn : l.length = n at *
  clear hn
  go_enter Tryz.func138, Tryz.ntmps138
  go_wp2_with fail
  go_ret
  exact ⟨_, rfl, H.out, rfl, rfl⟩
theorem zd6 (l : List (Int × Int)) (i : Nat) : pl (l.eraseIdx i) = pl (l.take i) ++ pl (l.drop (i + 1)) := by
 rw [← Qt, List.eraseIdx_eq_take_drop_succ]
set_option maxRecDepth 100000 in
set_option maxHeartbeats 1000000 in
theorem Jf (w : World) (b off c i : Nat) (l : List (Int × Int)) (h : PlAt w (.slice (some ⟨b, off, none⟩) l.length c) l) (hi : i < l.length) :
  Calls Tryz.prog 187 #[.slice (some ⟨b, off, none⟩) l.length c, .int .i64 i, .int .i64 (i + 1)] w fun e w' => ∃ v', e = .returned v' ∧ PlAt w' v' (l.eraseIdx i) ∧ Touch [b] w w' ∧ v'.ownBlock = some b := by
 obtain ⟨arr, hg, hnc, hm, hfit, hx⟩ : ∃ arr, w.heap[b]? = some (.cells arr 58 (0, 0)) ∧ l.length ≤ c ∧ c ≤ maxLen ∧ off + c * 2 ≤ arr.size ∧ ∀ j u, (pl l)[j]? = some u → arr[off + j]? = some u := by
  rcases h.2 with ⟨e, _⟩ | ⟨b', off', c', arr, e, rest⟩
  ·cases e
  ·cases e; exact ⟨arr, rest⟩
 have hb : b < w.heap.size := (Array.getElem?_eq_some_iff.1 hg).1
 obtain ⟨n, hn⟩ : ∃ n, l.length = n + 1 := ⟨l.length - 1, by omega⟩
 obtain ⟨news, hnews⟩ : ∃ news, news = pl (l.drop (i + 1)) := ⟨_, rfl⟩
 have hlen : news.length = (n - i) * 2 := by rw [hnews, x9, List.length_drop]; omega
 -- the store of the cells that go to the left
 obtain ⟨arr1, hs1, hz1, hlo1, _, hmid1, hg1⟩ := zb5 Tryz.prog w.drew b (off + i * 2) news arr 58 hg (by rw [hlen]; omega) (by rw [hnews]; exact J6 _)
 obtain ⟨A, hA, hsrc⟩ : ∃ A : Addr, (if c = i + 1 then some (⟨b, off, none⟩ : Addr) else some ⟨b, off + (i + 1) * 2, none⟩) = some A ∧ ∀ t u, news[t]? = some u → w.drew.cell? (A.add t) = some u := by
  by_cases h : c = i + 1
  ·refine ⟨⟨b, off, none⟩, by simp [h], fun t u hu => ?_⟩
   have h0 : news.length = 0 := by rw [hlen]; omega
   rw [List.length_eq_zero_iff.1 h0] at hu
   simp at hu
  ·refine ⟨⟨b, off + (i + 1) * 2, none⟩, by simp [h], fun t u hu => ?_⟩
   rw [hnews, zmw, List.getElem?_drop] at hu
   rw [add_plain, World.cell?_drew, cell_of_row w b _ arr _ _ hg, Nat.add_assoc]
   exact hx _ _ hu
 obtain ⟨W1, hW1⟩ : ∃ W1, W1 = w.drew.setRow b arr1 := ⟨_, rfl⟩
 rw [← hW1] at hg1
 have s3 : Hid (∀ t, t < news.length → (w.drew.cell? ⟨b, off + i * 2 + t, none⟩).isSome = true ∧ w.drew.frozen? ⟨b, off + i * 2 + t, none⟩ = false) := by
  intro t ht
  rw [hlen] at ht
  refine ⟨?_, by show w.frozen? _ = false; simp [World.frozen?, hg]⟩
  rw [World.cell?_drew, cell_of_row w b _ arr _ _ hg, Array.getElem?_eq_getElem (by omega)]
  rfl
 have hset : w.drew.setCells b (off + i * 2) news = W1 := by
  rw [hW1]
  have e := run_storeCells_cells (P := Tryz.prog) b (off + i * 2) news 0 w.drew (fun j hj => by simpa using (s3.out j hj).1) (fun j hj => by simpa using (s3.out j hj).2) (by rw [hnews]; exact J6 _)
  simp only [Nat.add_zero] at e
  rw [hs1] at e
  exact ((Result.ok.inj e).2).symm
 obtain ⟨arr2, hs2, hz2, hlo2, hg2⟩ : ∃ arr' : Array Value, (∀ ty, (Builtin.clear_ #[120] ty #[.slice (some ⟨b, off + n * 2, none⟩) 1 (c - n)]).run Tryz.prog W1 = .ok (.tuple #[]) (W1.setRow b arr')) ∧ arr'.size = arr1.size ∧ (∀ j, j < off + n * 2 → arr'[j]? = arr1[j]?) ∧ (W1.setRow b arr').heap[b]? = some (.cells arr' 58 (0, 0)) := by
  obtain ⟨a', h1, h2, h3, h4⟩ := zii W1 0 b (off + n * 2) 1 (c - n) arr1 58 hg1 (by rw [hz1]; omega)
  exact ⟨a', fun ty => h1, h2, h3, h4⟩
 have fin : Hid (PlAt (W1.setRow b arr2) (.slice (some ⟨b, off, none⟩) n c) (l.eraseIdx i) ∧ Touch [b] w (W1.setRow b arr2)) := by
  have hle : (l.eraseIdx i).length = n := by rw [List.length_eraseIdx_of_lt hi]; omega
  constructor
  ·show SlAt _ _ _ _ _ _
   rw [hle]
   refine ⟨by rw [x9, hle], .inr ⟨b, off, c, arr2, rfl, hg2, by omega, hm, by rw [hz2, hz1]; omega, fun j u hu => ?_⟩⟩
   have hj := (List.getElem?_eq_some_iff.1 hu).1
   rw [x9, hle] at hj
   rw [hlo2 (off + j) (by omega)]
   rw [zd6] at hu
   have htl : (pl (l.take i)).length = i * 2 := by rw [x9, List.length_take]; omega
   by_cases hji : j < i * 2
   ·rw [List.getElem?_append_left (by rw [htl]; exact hji), zmv, List.getElem?_take_of_lt hji] at hu
    rw [hlo1 (off + j) (by omega)]
    exact hx j u hu
   ·rw [List.getElem?_append_right (by rw [htl]; omega), htl, ← hnews] at hu
    have := hmid1 _ _ hu
    rw [show off + i * 2 + (j - i * 2) = off + j by omega] at this
    exact this
  ·have t1 : Touch [b] w W1 := by
    rw [hW1]
    exact ⟨rfl, rfl, rfl, by simp, fun k hk hne => setRow_other w.drew b k _ (fun e => hne (by simp [e]))⟩
   exact t1.trans ⟨rfl, rfl, rfl, by simp, fun k hk hne => setRow_other W1 b k _ (fun e => hne (by simp [e]))⟩
 obtain ⟨i0, hi0, hsz0⟩ : ∃ i, Tryz.prog.info? 58 = some i ∧ i.size = 2 := by
  have h : (Tryz.prog.info? 58).map (·.size) = some 2 := by kernel_rfl
  obtain ⟨i, hi, hb⟩ := Option.map_eq_some_iff.1 h
  exact ⟨i, hi, hb⟩
 have s1 := Lib.hid hlen
 have s2 : Hid (∀ u ∈ news, u.oneCell' = true) := by rw [hnews]; exact J6 _
 have hs := Lib.hid hsrc
 have hWr : Hid (w.drew.setCells b (off + i * 2) news = W1) := hset
 have hin : i ≤ n := by omega
 have hic : i ≤ c := by omega
 have hjc : i + 1 ≤ c := by omega
 have h0i : (0 : Int) ≤ i + 1 := by omega
 have hnc' : n + 1 ≤ c := by omega
 have e2 : c - n ≠ 0 := by omega
 have en : n + 1 - n = 1 := by omega
 rw [hn]
 clear h hx hg hlo1 hmid1 hg1 hs1 hz1 hW1 hz2 hlo2 hg2 hset hlen hsrc hnews hfit hnc hn hi e2
 go_enter Tryz.func187, Tryz.ntmps187
 go_wp2_with fail
 go_region_law (refine step_append_room rfl (.tmp 22) (.tmp 25) 120 rfl 58 i0 2 Tryz.underlying120 hi0 hsz0 b off i c (by simp [Act.eval, Act.put]) A (n - i) (c - (i + 1)) news (by simp [Act.eval, Act.put]) s1.out hs.out s2.out (by omega) s3.out ?_; rw [hWr.out])
 go_wp2_with fail
 go_ret
 exact ⟨_, rfl, fin.out.1, fin.out.2, rfl⟩
def orI (x y : Int) : Int := if x = 0 then y else x
theorem zng (w : World) (b : Nat) (x y : Int) (hx : w.cell? ⟨b, 0, none⟩ = some (.int .i64 x)) (hy : w.cell? ⟨b, 1, none⟩ = some (.int .i64 y)) :
  Calls Tryz.prog 130 #[.slice (some ⟨b, 0, none⟩) 2 2] w fun e w' => e = .returned (.int .i64 (orI x y)) ∧ w' = w := by
 by_cases h0 : x = 0
 ·subst h0
  by_cases h1 : y = 0
  ·subst h1
   go_enter Tryz.func130, Tryz.ntmps130
   go_wp2_with fail
   refine wp_loop_rounds 3 ?_
   rw [rounds_succ]
   go_wp2_with fail
   rw [rounds_succ]
   go_wp2_with fail
   rw [rounds_succ]
   go_wp2_with fail
   go_ret
   exact ⟨by simp [orI], rfl⟩
  ·go_enter Tryz.func130, Tryz.ntmps130
   go_wp2_with fail
   refine wp_loop_rounds 3 ?_
   rw [rounds_succ]
   go_wp2_with fail
   rw [rounds_succ]
   go_wp2_with fail
   go_ret
   exact ⟨by simp [orI], rfl⟩
 ·go_enter Tryz.func130, Tryz.ntmps130
  go_wp2_with fail
  refine wp_loop_rounds 3 ?_
  rw [rounds_succ]
  go_wp2_with fail
  go_ret
  exact ⟨by simp [orI, h0], rfl⟩
def cmpI (x y : Int) : Int := if x < y then -1 else if y < x then 1 else 0
theorem zme (x y : Int) (w : World) : Calls Tryz.prog 131 #[.int .i64 x, .int .i64 y] w fun e w' => e = .returned (.int .i64 (cmpI x y)) ∧ w' = w := by
 by_cases h1 : x < y
 ·rw [show cmpI x y = -1 by simp [cmpI, h1]]
  go_enter Tryz.func131, Tryz.ntmps131
  go_wp2
  go_ret
  exact ⟨rfl, rfl⟩
 ·by_cases h2 : y < x
  ·rw [show cmpI x y = 1 by simp [cmpI, h1, h2]]
   go_enter Tryz.func131, Tryz.ntmps131
   go_wp2
   go_ret
   exact ⟨rfl, rfl⟩
  ·rw [show cmpI x y = 0 by simp [cmpI, h1, h2]]
   go_enter Tryz.func131, Tryz.ntmps131
   go_wp2
   go_ret
   exact ⟨rfl, rfl⟩
theorem zez (W : World) (k : Nat) (hk : W.heap.size = k) (cs : Array Value) (T : TypeId) (j : Nat) : (W.alloc (.cells cs T)).cell? ⟨k, j, none⟩ = cs[j]? := by
 subst hk
 exact World.cell?_alloc_mark W cs T (0, 0) j
def cmpP (x y : Int × Int) : Int := orI (cmpI x.1 y.1) (cmpI x.2 y.2)
set_option maxRecDepth 100000 in
set_option maxHeartbeats 1000000 in
theorem zde (w : World) (x y : Int × Int) :
  Calls Tryz.prog 73 #[.agg #[.int .i64 x.1, .int .i64 x.2], .agg #[.int .i64 y.1, .int .i64 y.2]] w fun e w' => e = .returned (.int .i64 (cmpP x y)) ∧ ∃ q os', w' = Sort.grow (w.drewN q) os' := by
 obtain ⟨x1, x2⟩ := x
 obtain ⟨y1, y2⟩ := y
 unfold cmpP
 simp only
 generalize hu : cmpI x1 y1 = u
 generalize hv : cmpI x2 y2 = v
 have c1 := Lib.hid (fun W => zme x1 y1 W)
 have c2 := Lib.hid (fun W => zme x2 y2 W)
 rw [hu] at c1
 rw [hv] at c2
 clear hu hv
 go_enter Tryz.func73, Tryz.ntmps73
 go_wp2_with fail
 obtain ⟨W, hW⟩ : ∃ W, W = ((w.alloc (.cells #[.int .i64 x1, .int .i64 x2] 58)).alloc (.cells #[.int .i64 y1, .int .i64 y2] 58)).drew := ⟨_, rfl⟩
 have p0 : W.cell? ⟨w.heap.size, 0, none⟩ = some (.int .i64 x1) := by rw [hW]; go_simp
 have p1 : W.cell? ⟨w.heap.size, 1, none⟩ = some (.int .i64 x2) := by rw [hW]; go_simp
 have p2 : W.cell? ⟨w.heap.size + 1, 0, none⟩ = some (.int .i64 y1) := by rw [hW]; go_simp
 have p3 : W.cell? ⟨w.heap.size + 1, 1, none⟩ = some (.int .i64 y2) := by rw [hW]; go_simp
 have hs : Hid (W.heap.size = w.heap.size + 2) := by rw [hW]; show _ = _; simp
 have hWH := Lib.hid hW
 have hd : (((w.alloc (.cells #[.int .i64 x1, .int .i64 x2] 58)).alloc (.cells #[.int .i64 y1, .int .i64 y2] 58)).drew) = W := hW.symm
 clear hW
 go_region_held (fun W' => W'.cell? ⟨w.heap.size, 0, none⟩ = some (.int .i64 x1) ∧ W'.cell? ⟨w.heap.size, 1, none⟩ = some (.int .i64 x2) ∧ W'.cell? ⟨w.heap.size + 1, 0, none⟩ = some (.int .i64 y1) ∧ W'.cell? ⟨w.heap.size + 1, 1, none⟩ = some (.int .i64 y2)) (go_keep) (first
  | (go_at_call_of 131 x1; refine (c1.out _).mono ?_; rintro e w' ⟨rfl, rfl⟩)
  | (go_at_call_of 131 x2; refine (c2.out _).mono ?_; rintro e w' ⟨rfl, rfl⟩)
  | (go_at_call 130; refine (zng _ _ u v (zez _ _ rfl _ _ _) (zez _ _ rfl _ _ _)).mono ?_; rintro e w' ⟨rfl, rfl⟩))
 all_goals (go_wp2_with fail; go_ret; refine ⟨rfl, 1, #[.cells #[.int .i64 x1, .int .i64 x2] 58, .cells #[.int .i64 y1, .int .i64 y2] 58, .cells #[.int .i64 u, .int .i64 v] 3], ?_⟩)
 all_goals (rw [hWH.out]; simp only [Sort.alloc_eq_grow, Sort.grow_grow]; rfl)
section
open Go Go.RowKit
variable {K : Int → Prop}
section
variable {κ ν : Type} [DecidableEq κ]
theorem Ze (l : List (κ × ν)) (k : κ) (v : ν) (h : (l.map (·.1)).Nodup) : ((updL l k v).map (·.1)).Nodup ∧ ∀ q, q ∈ (updL l k v).map (·.1) ↔ q = k ∨ q ∈ l.map (·.1) := by
 induction l with
 | nil => simp [updL]
 | cons x l ih =>
  rw [List.map_cons, List.nodup_cons] at h
  obtain ⟨i1, i2⟩ := ih h.2
  simp only [updL]
  split
  ·rename_i e
   subst e
   refine ⟨by rw [List.map_cons, List.nodup_cons]; exact h, fun q => by simp⟩
  ·rename_i e
   refine ⟨?_, fun q => ?_⟩
   ·rw [List.map_cons, List.nodup_cons]
    refine ⟨fun hm => ?_, i1⟩
    rcases (i2 x.1).1 hm with hm | hm
    ·exact e hm.symm
    ·exact h.1 hm
   ·rw [List.map_cons, List.mem_cons, i2, List.map_cons, List.mem_cons]
    constructor
    ·rintro (h | h | h)
     ·exact .inr (.inl h)
     ·exact .inl h
     ·exact .inr (.inr h)
    ·rintro (h | h | h)
     ·exact .inr (.inl h)
     ·exact .inl h
     ·exact .inr (.inr h)
theorem ze9 (l : List (κ × ν)) (k : κ) : List.Sublist (delL l k) l := by
 induction l with
 | nil => exact List.Sublist.refl _
 | cons x l ih =>
  simp only [delL]
  split
  ·exact List.sublist_cons_self _ _
  ·exact ih.cons_cons x
theorem zcu {l : List (κ × ν)} {k : κ} (h : k ∉ l.map (·.1)) : getL l k = none := by
 induction l with
 | nil => rfl
 | cons x l ih =>
  simp only [List.map_cons, List.mem_cons, not_or] at h
  rw [getL, if_neg h.1, ih h.2]
theorem zh3 {l : List (κ × ν)} {k : κ} (h : (l.map (·.1)).Nodup) (q : κ) : getL (delL l k) q = if q = k then none else getL l q := by
 induction l with
 | nil => simp [delL, getL]
 | cons x l ih =>
  rw [List.map_cons, List.nodup_cons] at h
  simp only [delL]
  split
  ·rename_i e
   subst e
   by_cases hq : q = x.1
   ·subst hq
    rw [if_pos rfl, zcu h.1]
   ·rw [if_neg hq, getL, if_neg hq]
  ·rename_i e
   simp only [getL, ih h.2]
   by_cases hq : q = x.1
   ·subst hq
    simp [Ne.symm e]
   ·simp [hq]
end
def idV (v : Value) : Value := v
def ja (V : List (Int × Value)) (f : Int) : Value := (getL V f).getD (.slice none 0 0)
def updF (L : Int → List (Int × Int)) (f : Int) (l : List (Int × Int)) : Int → List (Int × Int) := fun g => if g = f then l else L g
structure vo (K : Int → Prop) (w : World) (p m : Nat) (S : List Nat) (V : List (Int × Value)) (L : Int → List (Int × Int)) : Prop where
 c0 : w.cell? ⟨p, 0, none⟩ = some (.map (some m))
 map : MapAt w m xg idV V
 at_ : ∀ f, PlAt w (ja V f) (L f)
 own : ∀ f b, (ja V f).ownBlock = some b → b ∈ S ∧ b ≠ p ∧ b ≠ m
 inj : ∀ f g b, (ja V f).ownBlock = some b → (ja V g).ownBlock = some b → f = g
 pin : p ∈ S
 min : m ∈ S
 nd : (V.map (·.1)).Nodup
 keys : ∀ x ∈ V, K x.1
theorem vo.ps {w : World} {p m : Nat} {S : List Nat} {V : List (Int × Value)} {L : Int → List (Int × Int)} (h : vo K w p m S V L) : p < w.heap.size ∧ m < w.heap.size ∧ p ≠ m := by
 refine ⟨World.block_lt_of_cell? w _ h.c0, h.map.lt, fun e => ?_⟩
 obtain ⟨es, c, hb, _⟩ := h.map
 have h0 := h.c0
 subst e
 simp [World.cell?, hb] at h0
theorem vo.touch {w w' : World} {p m : Nat} {S S0 : List Nat} {V : List (Int × Value)} {L : Int → List (Int × Int)} (h : vo K w p m S V L) (t : Touch S0 w w') (hn : ∀ b ∈ S, b ∉ S0) : vo K w' p m S V L :=
 ⟨t.cell h.c0 (hn p h.pin), h.map.keep (t.block m h.ps.2.1 (hn m h.min)), fun f => (h.at_ f).touch t fun b hb => hn b (h.own f b hb).1, h.own, h.inj, h.pin, h.min, h.nd, h.keys⟩
theorem vo.below {w w' : World} {p m : Nat} {S : List Nat} {V : List (Int × Value)} {L : Int → List (Int × Int)} (h : vo K w p m S V L) (hb : Below w.heap.size w w') : vo K w' p m S V L :=
 h.touch (Touch.of_below (S := []) hb) (by simp)
theorem vo.set {w w' : World} {p m : Nat} {S : List Nat} {V V' : List (Int × Value)} {L : Int → List (Int × Int)} (h : vo K w p m S V L) {f : Int} {v' : Value} {l' : List (Int × Int)}
  (hV : ∀ g, ja V' g = if g = f then v' else ja V g) (hnd : (V'.map (·.1)).Nodup) (hkeys : ∀ x ∈ V', K x.1) (hM : MapAt w' m xg idV V') (hl : PlAt w' v' l')
  (hown : ∀ b, v'.ownBlock = some b → (ja V f).ownBlock = some b ∨ w.heap.size ≤ b)
  (hrest : ∀ j, j < w.heap.size → j ≠ m → (ja V f).ownBlock ≠ some j → w'.heap[j]? = w.heap[j]?) (ho : w'.os = w.os) (ht : w'.tape = w.tape) (hout : w'.output = w.output) (hs : w.heap.size ≤ w'.heap.size) :
  ∃ S', vo K w' p m S' V' (updF L f l') ∧ Touch S w w' ∧ ∀ b ∈ S', b ∈ S ∨ w.heap.size ≤ b := by
 obtain ⟨hp, hm, hpm⟩ := h.ps
 have hlt : ∀ g b, (ja V g).ownBlock = some b → b < w.heap.size := fun g b hb => SlAt.lt (h.at_ g) b hb
 obtain ⟨S', hS', _⟩ : ∃ S' : List Nat, (∀ b, b ∈ S' ↔ b ∈ S ∨ v'.ownBlock = some b) ∧ True := by
  cases e : v'.ownBlock with
  | none => exact ⟨S, by simp, trivial⟩
  | some b => exact ⟨b :: S, by intro c; simp [eq_comm, or_comm], trivial⟩
 refine ⟨S', ⟨?_, hM, fun g => ?_, fun g b hb => ?_, fun g g' b hb hb' => ?_, (hS' p).2 (.inl h.pin), (hS' m).2 (.inl h.min), hnd, hkeys⟩, ⟨ho, ht, hout, hs, fun j hj hn => hrest j hj (fun e => hn (e ▸ h.min)) (fun e => hn (h.own f j e).1)⟩, fun b hb => ?_⟩
 ·exact (World.cell?_of_block (w := w) (hrest p hp hpm (fun e => (h.own f p e).2.1 rfl))).trans h.c0
 ·rw [hV]
  unfold updF
  split
  ·exact hl
  ·rename_i e
   exact (h.at_ g).keep fun b hb => hrest b (hlt g b hb) (h.own g b hb).2.2 (fun e' => e (h.inj g f b hb e'))
 ·rw [hV] at hb
  split at hb
  ·refine ⟨(hS' b).2 (.inr hb), ?_⟩
   rcases hown b hb with e | e
   ·exact (h.own f b e).2
   ·omega
  ·exact ⟨(hS' b).2 (.inl (h.own g b hb).1), (h.own g b hb).2⟩
 ·have key : ∀ g b, g ≠ f → (ja V g).ownBlock = some b → v'.ownBlock = some b → False := fun g b hg hb hb' => by
   rcases hown b hb' with e | e
   ·exact hg (h.inj g f b hb e)
   ·have := hlt g b hb; omega
  rw [hV] at hb hb'
  split at hb
  ·rename_i e
   split at hb'
   ·rename_i e'
    rw [e, e']
   ·rename_i e'
    exact (key g' b e' hb' hb).elim
  ·rename_i e
   split at hb'
   ·exact (key g b e hb hb').elim
   ·exact h.inj g g' b hb hb'
 ·rcases (hS' b).1 hb with hb | hb
  ·exact .inl hb
  ·rcases hown b hb with e | e
   ·exact .inl (h.own f b e).1
   ·exact .inr e
theorem Y2 (V : List (Int × Value)) (f : Int) (v : Value) (g : Int) : ja (updL V f v) g = if g = f then v else ja V g := by
 unfold ja
 rw [yt]
 split <;> rfl
theorem zg4 {V : List (Int × Value)} (h : (V.map (·.1)).Nodup) (f : Int) (g : Int) : ja (delL V f) g = if g = f then .slice none 0 0 else ja V g := by
 unfold ja
 rw [zh3 h]
 split <;> rfl
theorem ze0 {V : List (Int × Value)} (h : ∀ x ∈ V, K x.1) (hn : (V.map (·.1)).Nodup) (f : Int) (v : Value) (hf : K f) : ∀ x ∈ updL V f v, K x.1 := by
 intro x hx
 rcases ((Ze V f v hn).2 x.1).1 (List.mem_map_of_mem hx) with e | e
 ·rw [e]; exact hf
 ·obtain ⟨y, hy, e⟩ := List.mem_map.1 e
  rw [← e]; exact h y hy
theorem zjy {V : List (Int × Value)} (h : ∀ x ∈ V, K x.1) (f : Int) : ∀ x ∈ delL V f, K x.1 := fun x hx => h x ((ze9 V f).subset hx)
theorem nd_del {V : List (Int × Value)} (h : (V.map (·.1)).Nodup) (f : Int) : ((delL V f).map (·.1)).Nodup := h.sublist ((ze9 V f).map _)
theorem zeroSl (w : World) : (zeroValue 120).run Tryz.prog w = .ok (.slice none 0 0) w := by kernel_rfl
theorem vo.look {w : World} {p m : Nat} {S : List Nat} {V : List (Int × Value)} {L : Int → List (Int × Int)} (h : vo K w p m S V L) (f : Int) :
  (Instr.lookup 212 (.map (some m)) (.int .i64 f) false).run Tryz.prog w = .ok (ja V f) w := by
 have := q8 (T := 212) Ue Tryz.underlying212 (.slice none 0 0) zeroSl h.map f false
 refine this.trans ?_
 unfold ja
 cases getL V f <;> rfl
theorem zk1 (w : World) : Calls Tryz.prog 115 #[] w fun e w' => ∃ p m, e = .returned (.pointer (some ⟨p, 0, none⟩)) ∧ vo K w' p m [p, m] [] (fun _ => []) ∧ w.heap.size ≤ p ∧ w.heap.size ≤ m ∧ Below w.heap.size w w' := by
 have hmm := @run_makeMap Tryz.prog
 go_enter Tryz.func115, Tryz.ntmps115
 go_wp2_with fail
 go_ret
 have m1 := MapAt.made (κ := Int) (ν := Value) w xg idV
 have b3 := (Below.refl (w.alloc (.map #[] 0)).heap.size _).alloc (Nat.le_refl _) (.cells #[.map (some w.heap.size)] 214)
 have hb := heap_alloc_new (w.alloc (.map #[] 0)) (.cells #[.map (some w.heap.size)] 214)
 rw [World.size_alloc] at hb
 refine ⟨w.heap.size + 1, w.heap.size, rfl, ⟨?_, m1.below b3, fun f => PlAt.nil _, fun f b hb => ?_, fun f g b hb => ?_, by simp, by simp, by simp, by simp⟩, by omega, by omega, ((Below.refl _ _).alloc (Nat.le_refl _) _).alloc (by simp) _⟩
 ·rw [cell_of_row _ _ 0 _ _ _ hb]; rfl
 ·simp [ja, getL, Value.ownBlock] at hb
 ·simp [ja, getL, Value.ownBlock] at hb
end
section
variable {κ ν : Type} [DecidableEq κ]
theorem U6 {l : List (κ × ν)} {k : κ} {v : ν} : ∀ y ∈ updL l k v, y = (k, v) ∨ y ∈ l := by
 induction l with
 | nil => intro y hy; simp [updL] at hy; exact .inl hy
 | cons x l ih =>
  intro y hy
  simp only [updL] at hy
  split at hy
  ·rcases List.mem_cons.1 hy with e | e
   ·exact .inl e
   ·exact .inr (List.mem_cons_of_mem _ e)
  ·rcases List.mem_cons.1 hy with e | e
   ·exact .inr (by rw [e]; exact List.mem_cons_self ..)
   ·rcases ih y e with e | e
    ·exact .inl e
    ·exact .inr (List.mem_cons_of_mem _ e)
theorem zjk {R : κ × ν → κ × ν → Prop} {l : List (κ × ν)} {k : κ} {v : ν} (h : l.Pairwise R) (hn : ∀ x ∈ l, R x (k, v) ∧ R (k, v) x) : (updL l k v).Pairwise R := by
 induction l with
 | nil => simp [updL]
 | cons x l ih =>
  obtain ⟨h1, h2⟩ := List.pairwise_cons.1 h
  simp only [updL]
  split
  ·exact List.pairwise_cons.2 ⟨fun y hy => (hn y (List.mem_cons_of_mem _ hy)).2, h2⟩
  ·refine List.pairwise_cons.2 ⟨fun y hy => ?_, ih h2 fun y hy => hn y (List.mem_cons_of_mem _ hy)⟩
   rcases U6 y hy with rfl | e
   ·exact (hn x (List.mem_cons_self ..)).1
   ·exact h1 y e
theorem Uw {l : List (κ × ν)} (hn : (l.map (·.1)).Nodup) {x : κ × ν} (hx : x ∈ l) : getL l x.1 = some x.2 := by
 induction l with
 | nil => cases hx
 | cons a l ih =>
  rw [List.map_cons, List.nodup_cons] at hn
  simp only [getL]
  rcases List.mem_cons.1 hx with rfl | e
  ·rw [if_pos rfl]
  ·rw [if_neg (fun e1 => hn.1 (by rw [← e1]; exact List.mem_map_of_mem e)), ih hn.2 e]
end
section
variable {O : Nat → Prop} {p sb off c mb : Nat} {V : Nat → Value} {L : List (Int × Value)} {D : z8}
theorem yx.entry {w : World} (h : yx w O p sb off c mb V L D) {x : Int × Value} (hx : x ∈ L) : ∃ j, j < 192 ∧ x.1 = (j : Nat) ∧ ∃ l, D.loose j = some l ∧ Xd w O x.2 l := by
 have hk := h.keys x hx
 refine ⟨x.1.toNat, by omega, by omega, ?_⟩
 have hl := h.loose x.1.toNat (by omega)
 have hg := Uw h.nd hx
 cases hd : D.loose x.1.toNat with
 | none =>
  rw [hd] at hl
  unfold Jd at hl
  rw [show ((x.1.toNat : Nat) : Int) = x.1 by omega, hg] at hl
  cases hl
 | some l =>
  rw [hd] at hl
  obtain ⟨v, h1, h2⟩ := hl
  rw [show ((x.1.toNat : Nat) : Int) = x.1 by omega, hg] at h1
  cases h1
  exact ⟨l, rfl, h2⟩
theorem Xd.lt {w : World} {O : Nat → Prop} {v : Value} {l : List UInt8} (h : Xd w O v l) : ∃ b, v.ownBlock = some b ∧ b < w.heap.size ∧ O b := by
 obtain ⟨_, h2, b, o, c, rfl, h4⟩ := h
 exact ⟨b, rfl, SlAt.lt h2 b rfl, h4⟩
theorem yx.write {w w2 w3 : World} (h : yx w O p sb off c mb V L D) (n : Nat) (hn : n < 192) (v : Value) (l : List UInt8) (hl : l.length = 64) (hv : ByAt w2 v l) (hb : Below w.heap.size w w2) (ho : ∀ b, v.ownBlock = some b → w.heap.size ≤ b)
  (hm : MapAt w3 mb xg id (updL L (n : Int) v)) (hg : w2.grownBy w3 (some mb)) : yx w3 (grow O w) p sb off c mb V (updL L (n : Int) v) (D.write n l) ∧ Turn O w w3 := by
 have hsb := h.sbl
 have hpm : p ≠ mb := fun e => by
  obtain ⟨es, cl, hm, _⟩ := h.map
  obtain ⟨T, hp⟩ := h.row
  rw [← e, hp] at hm
  cases hm
 have hcm : ∀ k, k < w.heap.size → k ≠ mb → w3.heap[k]? = w.heap[k]? := fun k hk hne => (hg.block k (Nat.lt_of_lt_of_le hk hb.size) (by simp; exact hne)).trans (hb.block k hk)
 have hsm : sb ≠ mb := fun e => by
  obtain ⟨es, cl, hm, _⟩ := h.map
  have := (h.cells 0 (by omega)).1
  rw [e] at this
  simp [World.cell?, hm] at this
 obtain ⟨vb, off0, c0, rfl, _, hvb, _⟩ := hv.cells (by rw [List.length_map]; omega)
 unfold ByAt at hv
 rw [hl] at hv ho hm ⊢
 have hvm : vb ≠ mb := by have := ho vb rfl; have := h.map.lt; omega
 have hvl := ho vb rfl
 have sec : ∀ v l, Xd w O v l → v.ownBlock ≠ some mb → Xd w3 (grow O w) v l := fun v l hs hne => hs.keep fun b hb' hbl hbo => ⟨.inl hbo, hcm b hbl fun e => hne (by rw [hb', e])⟩
 have zey : ∀ v l, Xd w O v l → v.ownBlock ≠ some mb := fun v l hs e => by
  obtain ⟨_, h2, b, o, c, rfl, h4⟩ := hs
  simp [Value.ownBlock] at e
  subst e
  rcases h2.2 with ⟨e, _⟩ | ⟨b', o', c', arr, e, hbb, _⟩
  ·cases e
  ·have e' := congrArg Value.ownBlock e
   simp [Value.ownBlock] at e'
   subst e'
   obtain ⟨es, cl, hm, _⟩ := h.map
   rw [hm] at hbb
   cases hbb
 have secs := fun v l hs => sec v l hs (zey v l hs)
 have hnew : Xd w3 (grow O w) (.slice (some ⟨vb, off0, none⟩) 64 c0) l := ⟨hl, by
  have := SlAt.keep (w' := w3) hv fun b hb' => by
   simp [Value.ownBlock] at hb'
   subst hb'
   exact hg.block vb hvb (by simp; exact hvm)
  unfold ByAt
  rw [hl]
  exact this, vb, off0, c0, rfl, .inr hvl⟩
 refine ⟨?_, ?_⟩
 ·refine { op := .inl h.op, os := .inl h.os, om := .inl h.om, ps := h.ps, row := h.row.keep (hcm p h.row.lt hpm), cap := h.cap, cells := fun j hj => ⟨(World.cell?_of_block (w := w) (hcm sb hsb hsm)).trans (h.cells j hj).1, (xk (a := ⟨sb, off + j, none⟩) (hcm sb hsb hsm)).trans (h.cells j hj).2⟩, sure := fun j hj => secs _ _ (h.sure j hj), map := hm, keys := fun x hx => ?_, nd := (Ze L (n : Int) _ h.nd).1, loose := fun j hj => ?_, own1 := h.own1, own2 := fun x hx => ?_, own3 := h.own3, own4 := zjk h.own4 fun x hx => ?_, n1 := h.n1, n2 := h.n2, n3 := h.n3 }
  ·rcases U6 x hx with rfl | hx
   ·exact ⟨by show (0 : Int) ≤ n; omega, by show (n : Int) < 192; omega⟩
   ·exact h.keys x hx
  ·show Jd w3 _ _ j (if j = n then some l else D.loose j)
   by_cases e : j = n
   ·subst e
    rw [if_pos rfl]
    exact ⟨_, by rw [yt, if_pos rfl], hnew⟩
   ·rw [if_neg e]
    have := h.loose j hj
    revert this
    cases D.loose j with
    | none => exact fun h => by unfold Jd; rw [yt, if_neg (by omega)]; exact h
    | some l' => exact fun ⟨v, h1, h2⟩ => ⟨v, by rw [yt, if_neg (by omega)]; exact h1, secs _ _ h2⟩
  ·rcases U6 x hx with rfl | hx
   ·have := h.row.lt
    refine ⟨by simp [Value.ownBlock]; omega, by simp [Value.ownBlock]; omega, fun j hj e => ?_⟩
    obtain ⟨b, h1, h2, _⟩ := (h.sure j hj).lt
    rw [h1] at e
    simp [Value.ownBlock] at e
    omega
   ·exact h.own2 x hx
  ·obtain ⟨_, _, _, l', _, hs⟩ := h.entry hx
   obtain ⟨b, h1, h2, _⟩ := hs.lt
   rw [h1]
   simp [Value.ownBlock]
   omega
 ·exact (Turn.of_below hb).trans (Turn.Zp hg h.om)
set_option maxRecDepth 100000 in
theorem zge (w : World) (h : yx w O p sb off c mb V L D) (ni : Int) (n : Nat) (en : ni = n) (hn : n < 192) (v : Value) (l : List UInt8) (hv : Reads w v l) (hl : l.length = 64) (hvo : ∀ b, v.ownBlock = some b → ¬ O b) :
  Calls Tryz.prog 55 #[.pointer (some ⟨p, 0, none⟩), .int .i64 ni, v] w fun e w' => e = .returned (.int .i64 D.work.2) ∧ Turn O w w' ∧ jg w' (grow O w) p (if D.work.2 = 0 then D.work.1.write n l else D.work.1) := by
 subst en
 have S := Lib.hid (Uz w h)
 have W := Lib.hid (Qg w h)
 obtain ⟨r, hr⟩ : ∃ r, D.work.2 = r := ⟨_, rfl⟩
 obtain ⟨D', hD⟩ : ∃ D', D.work.1 = D' := ⟨_, rfl⟩
 rw [hr, hD] at W
 rw [hr, hD]
 clear h hr hD
 obtain ⟨a0, c0, b0, off0, rfl, ha0, hc0⟩ := hv
 rw [hl] at ha0 hvo ⊢
 obtain rfl := ha0 (by omega)
 have HC := Lib.hid hc0
 have HO : Hid (¬ O b0) := hvo b0 rfl
 have HL := Lib.hid hl
 clear hc0 hvo hl ha0
 have i1 : (n : Int) < 192 := by omega
 have i2 : (0 : Int) ≤ n := by omega
 go_enter Tryz.func55, Tryz.ntmps55
 go_wp2_with fail
 refine S.out.mono ?_
 rintro e u ⟨rfl, hu⟩
 have hu := hu.symm
 subst hu
 clear S
 go_wp2_with fail
 refine W.out.mono ?_
 rintro e w1 ⟨rfl, hI, hT⟩
 have H1 := Lib.hid (And.intro hI hT)
 clear hI hT W
 by_cases hr : r = 0
 ·subst hr
  have c1 := H1.out.1.row.cell (i := 1) (by omega)
  dsimp only [uy] at c1
  obtain ⟨W1, hW⟩ : ∃ W1, W1 = w1.drew := ⟨_, rfl⟩
  have q0 : W1.cell? ⟨p, 1, none⟩ = some (.map (some mb)) := by rw [hW]; exact c1
  have hB1 : Hid (Below w1.heap.size w1 W1 ∧ W1.heap.size = w1.heap.size) := by rw [hW]; exact ⟨(Below.refl _ _).drew, rfl⟩
  have rd : Hid (Reads W1 (.slice (some ⟨b0, off0, none⟩) 64 c0) l) := ⟨some ⟨b0, off0, none⟩, c0, b0, off0, by rw [HL.out], fun _ => rfl, fun j u hu => by
   rw [hW]
   show w1.cell? _ = _
   exact H1.out.2.cell (HC.out j u hu) HO.out⟩
  have C : Hid (Calls Tryz.prog 100 #[.slice (some ⟨b0, off0, none⟩) 64 c0] W1 fun e w2 => ∃ a c' w3, e = .returned (.slice a 64 c') ∧ w2.cell? ⟨p, 1, none⟩ = some (.map (some mb)) ∧
    (Instr.mapUpdate 155 (.map (some mb)) (.int .i64 n) (.slice a 64 c')).run Tryz.prog w2 = .ok () w3 ∧ w3.cell? ⟨p, 1, none⟩ = some (.map (some mb)) ∧ (Turn O w w3 ∧ jg w3 (grow O w) p (D'.write n l))) := by
   refine (Xz W1 _ l rd.out (by rw [HL.out]; omega) (by rw [HL.out]; omega)).mono ?_
   rintro e w2 ⟨v', rfl, h2, h3, h4⟩
   have hb := hB1.out.1.trans (h3.mono (Nat.le_of_eq hB1.out.2.symm))
   have hI := H1.out.1
   obtain ⟨w3, hr3, M3, g3, z3⟩ := Ye (T := 155) Ue Tryz.underlying155 (hI.map.below hb) (n : Int) v'
   have hw := hI.write n hn v' l HL.out h2 hb (fun b e => by have := h4 b e; rw [hB1.out.2] at this; exact this) M3 g3
   obtain ⟨a, c', rfl, _, _⟩ := SlAt.form h2
   rw [HL.out] at *
   refine ⟨a, c', w3, rfl, h3.cell (World.block_lt_of_cell? _ _ q0) |>.trans q0, hr3, hw.1.row.cell (i := 1) (by omega), H1.out.2.trans hw.2, ⟨sb, off, c, mb, V, _, hw.1.loc fun k hk ho => ⟨?_, rfl⟩⟩⟩
   rcases ho with ho | ho
   ·exact .inl ho
   ·exact .inr (Nat.le_trans H1.out.2.size ho)
  have hd : w1.drew = W1 := hW.symm
  clear hW c1 rd hB1
  go_wp2_with fail
  go_region_held (fun W' => W'.cell? ⟨p, 1, none⟩ = some (.map (some mb))) (go_keep)
   ((go_at_call 100; refine C.out.mono ?_; rintro e w2 ⟨a, c', w3, rfl, q1, hr3, q3, HX⟩; have hX := Lib.hid HX; clear HX))
  clear hr3 q1 q0 hd q3
  go_wp2_with fail
  go_ret
  exact ⟨rfl, hX.out⟩
 ·have e1 : (r : Int) ≠ 0 := by omega
  go_wp2_with fail
  go_ret
  exact ⟨rfl, H1.out.2, ⟨sb, off, c, mb, V, L, H1.out.1.loc fun k _ ho => ⟨.inl ho, rfl⟩⟩⟩
end
def flV (V : Nat → Value) (L : List (Int × Value)) (done : List Nat) (j : Nat) : Value :=
 match idxL L (j : Int) with
 | none => V j
 | some i => if i ∈ done then ((L[i]?).map (·.2)).getD (V j) else V j
theorem zm5 (V : Nat → Value) (L : List (Int × Value)) (j : Nat) : flV V L [] j = V j := by
 unfold flV
 split <;> simp
theorem zj2 {V : Nat → Value} {L : List (Int × Value)} {done : List Nat} (hn : (L.map (·.1)).Nodup) {i n : Nat} {v : Value} (hi : L[i]? = some ((n : Int), v)) (j : Nat) : flV V L (i :: done) j = if j = n then v else flV V L done j := by
 have hx : ((n : Int), v) ∈ L := List.mem_of_getElem? hi
 have key : ∀ k, idxL L (n : Int) = some k → k = i := fun k hk => by
  obtain ⟨h1, h2, _⟩ := Zz hk
  obtain ⟨h3, h4⟩ := List.getElem?_eq_some_iff.1 hi
  have e : (L.map (·.1))[k]'(by simpa using h1) = (L.map (·.1))[i]'(by simpa using h3) := by simp [h2, h4]
  exact (List.getElem_inj hn).1 e
 by_cases e : j = n
 ·subst e
  rw [if_pos rfl]
  unfold flV
  cases hd : idxL L (j : Int) with
  | none =>
   have := Uw hn hx
   rw [(Z0 hd).1] at this
   cases this
  | some k =>
   have := key k hd
   subst this
   simp [hi]
 ·rw [if_neg e]
  unfold flV
  cases hd : idxL L (j : Int) with
  | none => rfl
  | some k =>
   have hk : k ≠ i := fun ek => by
    subst ek
    obtain ⟨h1, h2, _⟩ := Zz hd
    obtain ⟨h3, h4⟩ := List.getElem?_eq_some_iff.1 hi
    rw [h4] at h2
    have h2 : (n : Int) = j := h2
    omega
   simp [hk]
theorem zm6 {V : Nat → Value} {L : List (Int × Value)} {done : List Nat} (h : ∀ i, i < L.length → i ∈ done) (j : Nat) : flV V L done j = (getL L (j : Int)).getD (V j) := by
 unfold flV
 cases hd : idxL L (j : Int) with
 | none => rw [(Z0 hd).1]; rfl
 | some k =>
  obtain ⟨h1, _, h3, _⟩ := Zz hd
  rw [h3]
  simp [h k h1, List.getElem?_eq_getElem h1]
section
variable {O : Nat → Prop} {p sb off c mb : Nat} {V : Nat → Value} {L : List (Int × Value)} {D : z8}
theorem yx.zey {w : World} (h : yx w O p sb off c mb V L D) : p ≠ mb ∧ sb ≠ mb ∧ ∀ v l, Xd w O v l → v.ownBlock ≠ some mb := by
 obtain ⟨es, cl, hm, _⟩ := h.map
 refine ⟨fun e => ?_, fun e => ?_, fun v l hs e => ?_⟩
 ·obtain ⟨T, hp⟩ := h.row
  rw [← e, hp] at hm
  cases hm
 ·have := (h.cells 0 (by omega)).1
  rw [e] at this
  simp [World.cell?, hm] at this
 ·obtain ⟨_, h2, b, o, c, rfl, h4⟩ := hs
  simp [Value.ownBlock] at e
  subst e
  rcases h2.2 with ⟨e, _⟩ | ⟨b', o', c', arr, e, hbb, _⟩
  ·cases e
  ·have e' := congrArg Value.ownBlock e
   simp [Value.ownBlock] at e'
   subst e'
   rw [hm] at hbb
   cases hbb
theorem yx.apart4 {w : World} (h : yx w O p sb off c mb V L D) {x y : Int × Value} (hx : x ∈ L) (hy : y ∈ L) (hne : x.1 ≠ y.1) : x.2.ownBlock ≠ y.2.ownBlock := by
 obtain ⟨i, hi, rfl⟩ := List.getElem_of_mem hx
 obtain ⟨j, hj, rfl⟩ := List.getElem_of_mem hy
 have hp := List.pairwise_iff_getElem.1 h.own4
 rcases Nat.lt_trichotomy i j with e | e | e
 ·exact hp i j hi hj e
 ·subst e; exact absurd rfl hne
 ·exact Ne.symm (hp j i hj hi e)
structure FlAt (w1 W : World) (p sb off mb : Nat) (V : Nat → Value) (L : List (Int × Value)) (done : List Nat) : Prop where
 os : W.os = w1.os
 tape : W.tape = w1.tape
 output : W.output = w1.output
 size : W.heap.size = w1.heap.size + 1
 block : ∀ k, k < w1.heap.size → k ≠ sb → W.heap[k]? = w1.heap[k]?
 cells : ∀ j, j < 192 → W.cell? ⟨sb, off + j, none⟩ = some (flV V L done j) ∧ W.frozen? ⟨sb, off + j, none⟩ = false
 ran : qj W mb w1.heap.size xg id L done
theorem FlAt.end_ {w1 W W2 : World} {done : List Nat} (h : yx w1 O p sb off c mb V L D) (f : FlAt w1 W p sb off mb V L done) (hall : ∀ i, i < L.length → i ∈ done) (hm : MapAt W2 mb xg id ([] : List (Int × Value))) (hg : W.grownBy W2 (some mb)) (hs : W2.heap.size = W.heap.size) :
  yx W2 O p sb off c mb (fun (j : Nat) => (getL L (j : Int)).getD (V j)) [] D.flush ∧ Turn O w1 W2 := by
 have hsb := h.sbl
 obtain ⟨n1, n2, n3⟩ := h.zey
 have hk : ∀ k, k < w1.heap.size → k ≠ sb → k ≠ mb → W2.heap[k]? = w1.heap[k]? := fun k hk h1 h2 => (hg.block k (by rw [f.size]; omega) (by simp; exact h2)).trans (f.block k hk h1)
 have hsb2 : W2.heap[sb]? = W.heap[sb]? := hg.block sb (by rw [f.size]; omega) (by simp; exact n2)
 have sec : ∀ j : Nat, j < 192 → Xd w1 O ((getL L (j : Int)).getD (V j)) (D.cur j) ∧ ((getL L (j : Int)).getD (V j)).ownBlock ≠ some p ∧ ((getL L (j : Int)).getD (V j)).ownBlock ≠ some sb := fun j hj => by
  have hl := h.loose j hj
  unfold z8.cur
  cases hd : D.loose j with
  | none =>
   rw [hd] at hl
   unfold Jd at hl
   rw [hl]
   exact ⟨h.sure j hj, h.own1 j hj⟩
  | some l =>
   rw [hd] at hl
   obtain ⟨v, h1, h2⟩ := hl
   rw [h1]
   exact ⟨h2, (h.own2 _ (Z9 h1)).1, (h.own2 _ (Z9 h1)).2.1⟩
 refine ⟨?_, ⟨hg.os.trans f.os, hg.tape.trans f.tape, hg.output.trans f.output, by have := f.size; omega, fun k hk' ho => hk k hk' (fun e => ho (e ▸ h.os)) (fun e => ho (e ▸ h.om))⟩⟩
 refine { op := h.op, os := h.os, om := h.om, ps := h.ps, row := h.row.keep (hk p h.row.lt h.ps n1), cap := h.cap, cells := fun j hj => ?_, sure := fun j hj => ?_, map := hm, keys := fun x hx => by simp at hx, nd := by simp, loose := fun j hj => rfl, own1 := fun j hj => (sec j hj).2, own2 := fun x hx => by simp at hx, own3 := fun j k hj hk' hne => ?_, own4 := by simp, n1 := h.n1, n2 := h.n2, n3 := h.n3 }
 ·have := f.cells j hj
  rw [zm6 hall] at this
  exact ⟨(World.cell?_of_block (w := W) hsb2).trans this.1, (xk (a := ⟨sb, off + j, none⟩) hsb2).trans this.2⟩
 ·obtain ⟨s1, s2, s3⟩ := sec j hj
  exact s1.keep fun b hb hl ho => ⟨ho, hk b hl (fun e => s3 (by rw [hb, e])) (fun e => n3 _ _ s1 (by rw [hb, e]))⟩
 ·cases hj' : getL L (j : Int) with
  | none =>
   cases hk'' : getL L (k : Int) with
   | none => exact h.own3 j k hj hk' hne
   | some u => exact Ne.symm ((h.own2 _ (Z9 hk'')).2.2 j hj)
  | some v =>
   cases hk'' : getL L (k : Int) with
   | none => exact (h.own2 _ (Z9 hj')).2.2 k hk'
   | some u => exact h.apart4 (Z9 hj') (Z9 hk'') (by show (j : Int) ≠ k; omega)
theorem FlAt.start {w1 : World} (h : yx w1 O p sb off c mb V L D) {clock : Nat} (hr : qj (w1.alloc (.mapIter (some mb) clock #[] clock)) mb w1.heap.size xg id L []) : FlAt w1 (w1.alloc (.mapIter (some mb) clock #[] clock)) p sb off mb V L [] := by
 have hb := (Below.refl w1.heap.size w1).alloc (Nat.le_refl _) (.mapIter (some mb) clock #[] clock)
 have hsb := h.sbl
 refine ⟨rfl, rfl, rfl, by simp, fun k hk _ => hb.block k hk, fun j hj => ?_, hr⟩
 rw [zm5]
 exact ⟨(World.cell?_of_block (w := w1) (hb.block sb hsb)).trans (h.cells j hj).1, (xk (a := ⟨sb, off + j, none⟩) (hb.block sb hsb)).trans (h.cells j hj).2⟩
theorem FlAt.step {w1 W W1 : World} {done : List Nat} {i n : Nat} {v : Value} (h : yx w1 O p sb off c mb V L D) (f : FlAt w1 W p sb off mb V L done) (hi : L[i]? = some ((n : Int), v)) (hn : n < 192) (hr : qj W1 mb w1.heap.size xg id L (i :: done)) (hg : W.grownBy W1 (some w1.heap.size)) (hs : W1.heap.size = W.heap.size) :
  FlAt w1 (W1.setCell ⟨sb, off + n, none⟩ v) p sb off mb V L (i :: done) ∧ (W1.setCell ⟨sb, off + n, none⟩ v).rangeLeft mb w1.heap.size = W1.rangeLeft mb w1.heap.size := by
 have hsb := h.sbl
 obtain ⟨n1, n2, n3⟩ := h.zey
 have hb1 : W1.heap[sb]? = W.heap[sb]? := hg.block sb (by rw [f.size]; omega) (by simp; omega)
 have hoth : ∀ k, k ≠ sb → (W1.setCell ⟨sb, off + n, none⟩ v).heap[k]? = W1.heap[k]? := fun k hk => Below.heap_setCell W1 ⟨sb, off + n, none⟩ v k hk
 have hsz : (W1.setCell ⟨sb, off + n, none⟩ v).heap.size = W1.heap.size := by simp [World.setCell]
 refine ⟨⟨hg.os.trans f.os, hg.tape.trans f.tape, hg.output.trans f.output, by rw [hsz, hs, f.size], fun k hk hne => ?_, fun j hj => ?_, hr.keep (hoth mb (Ne.symm n2)) (hoth _ (by omega))⟩, zhr (hoth mb (Ne.symm n2)) (hoth _ (by omega))⟩
 ·exact (hoth k hne).trans ((hg.block k (by rw [f.size]; omega) (by simp; omega)).trans (f.block k hk hne))
 ·rw [zj2 h.nd hi]
  have hc : ∀ j, j < 192 → W1.cell? ⟨sb, off + j, none⟩ = some (flV V L done j) ∧ W1.frozen? ⟨sb, off + j, none⟩ = false := fun j hj => ⟨(World.cell?_of_block (w := W) hb1).trans (f.cells j hj).1, (xk (a := ⟨sb, off + j, none⟩) hb1).trans (f.cells j hj).2⟩
  by_cases e : j = n
  ·subst e
   rw [if_pos rfl]
   have := hc j hj
   refine ⟨?_, ?_⟩
   ·go_simp
   ·go_simp
  ·rw [if_neg e]
   have := hc j hj
   refine ⟨?_, ?_⟩
   ·have e2 : ¬ off + n = off + j := by omega
    have e3 := this.1
    go_simp
   ·go_simp
set_option maxRecDepth 100000 in
theorem zgp (w : World) (h : yx w O p sb off c mb V L D) :
  Calls Tryz.prog 56 #[.pointer (some ⟨p, 0, none⟩)] w fun e w' => e = .returned (.int .i64 D.work.2) ∧ Turn O w w' ∧ jg w' O p (if D.work.2 = 0 then D.work.1.flush else D.work.1) := by
 have W := Lib.hid (Qg w h)
 obtain ⟨r, hr⟩ : ∃ r, D.work.2 = r := ⟨_, rfl⟩
 obtain ⟨D', hD⟩ : ∃ D', D.work.1 = D' := ⟨_, rfl⟩
 rw [hr, hD] at W
 rw [hr, hD]
 clear h hr hD
 go_enter Tryz.func56, Tryz.ntmps56
 go_wp2_with fail
 refine W.out.mono ?_
 rintro e w1 ⟨rfl, hI, hT⟩
 have H1 := Lib.hid (And.intro hI hT)
 clear hI hT W
 by_cases hr : r = 0
 ·subst hr
  have c1 := H1.out.1.row.cell (i := 1) (by omega)
  dsimp only [uy] at c1
  obtain ⟨clock, hR0, hrun⟩ := qj.start w1 H1.out.1.map
  have hrun := hrun Tryz.prog 155 _ _ Tryz.underlying155
  have F0 := Lib.hid (FlAt.start H1.out.1 hR0)
  clear hR0
  go_wp2_with fail
  clear hrun c1
  go_loopw [4] (fun _ W => ∃ done, FlAt w1 W p sb off mb V L done) (fun _ W => W.rangeLeft mb w1.heap.size)
  case atStart => exact ⟨[], F0.out⟩
  case round =>
   obtain ⟨done, f⟩ := hrel
   rcases f.ran.next (P := Tryz.prog) 0 with ⟨hall, hrun⟩ | ⟨i, x, W1, hi, hnd, hrun, hR, hg, hsz, hlt, hen⟩
   ·obtain ⟨W2, hc, M2, g2, z2⟩ := zij (P := Tryz.prog) (T := 155) Tryz.underlying155 f.ran.map 0
    have E := Lib.hid (FlAt.end_ H1.out.1 f hall M2 g2 z2)
    have c1 : wr.cell? ⟨p, 1, none⟩ = some (.map (some mb)) := (World.cell?_of_block (w := w1) (f.block p H1.out.1.row.lt H1.out.1.ps)).trans (H1.out.1.row.cell (i := 1) (by omega))
    have HF := Lib.hid (And.intro f hall)
    clear f hall M2 g2 z2
    go_wp2_with fail
    go_ret
    exact ⟨rfl, H1.out.2.trans E.out.2, ⟨sb, off, c, mb, _, _, E.out.1⟩⟩
   ·obtain ⟨k, v⟩ := x
    have hmem : (k, v) ∈ L := List.mem_of_getElem? hi
    have hk := H1.out.1.keys _ hmem
    obtain ⟨n, rfl⟩ := Int.eq_ofNat_of_zero_le hk.1
    have hn : n < 192 := by have := hk.2; dsimp only at this; omega
    obtain ⟨l, hl, hs⟩ : ∃ l, D'.loose n = some l ∧ Xd w1 O v l := by
     obtain ⟨j, h1, h2, h3⟩ := H1.out.1.entry hmem
     have : j = n := by dsimp only at h2; omega
     subst this
     exact h3
    obtain ⟨_, hs2, b0, off0, c0, rfl, _⟩ := hs
    have S := Lib.hid (FlAt.step H1.out.1 f hi hn hR hg hsz)
    have hW1 : ∀ k, k < w1.heap.size → W1.heap[k]? = wr.heap[k]? := fun k hk => hg.block k (by rw [f.size]; omega) (by simp; omega)
    have c0' : W1.cell? ⟨p, 0, none⟩ = some (.slice (some ⟨sb, off, none⟩) 192 c) := (World.cell?_of_block (w := wr) (hW1 p H1.out.1.row.lt)).trans ((World.cell?_of_block (w := w1) (f.block p H1.out.1.row.lt H1.out.1.ps)).trans (H1.out.1.row.cell (i := 0) (by omega)))
    have c2 : W1.cell? ⟨sb, off + n, none⟩ = some (flV V L done n) := (World.cell?_of_block (w := wr) (hW1 sb H1.out.1.sbl)).trans (f.cells n hn).1
    have c3 : W1.frozen? ⟨sb, off + n, none⟩ = false := (xk (w := wr) (a := ⟨sb, off + n, none⟩) (hW1 sb H1.out.1.sbl)).trans (f.cells n hn).2
    obtain ⟨ov, hov⟩ : ∃ ov, flV V L done n = ov := ⟨_, rfl⟩
    rw [hov] at c2
    have i1 : (n : Int) < 192 := by omega
    have i2 : (0 : Int) ≤ n := by omega
    have HLT := Lib.hid hlt
    clear f hi hnd hR hg hsz hlt hmem hk hl hs2 hW1 hov
    dsimp only [xg, id] at hrun hen
    go_wp2_with fail
    go_roundw
    case rel => exact ⟨_, S.out.1⟩
    case measure => rw [S.out.2]; exact HLT.out
 ·have e1 : (r : Int) ≠ 0 := by omega
  go_wp2_with fail
  go_ret
  exact ⟨rfl, H1.out.2, ⟨sb, off, c, mb, V, L, H1.out.1⟩⟩
end
end Go.Proofs.YtnhdmnijiphjjaaGreat
