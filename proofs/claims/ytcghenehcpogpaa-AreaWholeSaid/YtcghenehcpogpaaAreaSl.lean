/- Slices of areas: what lies in their cells; slices.Clip; Find. -/
import Derived.Test.YtcghenehcpogpaaTouch
import Derived.Test.YtcghenehcpogpaaAreaLib
import Derived.Test.YtcghenehcpogpaaRd
import Derived.BigQuiet
namespace Go.Proofs.Ytcghenehcpogpaa
open Go Go.RowKit

theorem Ar.cells_len (x : Ar) : x.cells.length = 6 := rfl
theorem Ar.cells_one (x : Ar) : ∀ v ∈ x.cells, v.oneCell' = true := by intro v hv; simp [Ar.cells] at hv; rcases hv with rfl | rfl | rfl | rfl | rfl | rfl <;> rfl

/-- The cells of a list of areas. -/
def ar (l : List Ar) : List Value := l.flatMap Ar.cells
theorem ar_cons (x : Ar) (l : List Ar) : ar (x :: l) = x.cells ++ ar l := rfl
theorem ar_append (a b : List Ar) : ar (a ++ b) = ar a ++ ar b := by simp [ar]
theorem ar_length (l : List Ar) : (ar l).length = l.length * 6 := by
  induction l with
  | nil => rfl
  | cons x l ih => rw [ar_cons, List.length_append, ih, x.cells_len, List.length_cons]; omega
theorem ar_get {l : List Ar} {j : Nat} {x : Ar} (h : l[j]? = some x) {i : Nat} {v : Value} (hv : x.cells[i]? = some v) : (ar l)[j * 6 + i]? = some v := by
  have hi := (List.getElem?_eq_some_iff.1 hv).1
  rw [x.cells_len] at hi
  induction l generalizing j with
  | nil => simp at h
  | cons y l ih =>
    rw [ar_cons]
    cases j with
    | zero =>
      have : y = x := by simpa using h
      subst this
      rw [Nat.zero_mul, Nat.zero_add, List.getElem?_append_left (by rw [y.cells_len]; exact hi)]
      exact hv
    | succ j =>
      rw [List.getElem?_append_right (by rw [y.cells_len]; omega), y.cells_len, show (j + 1) * 6 + i - 6 = j * 6 + i by omega]
      exact ih (by simpa using h)
theorem ar_one (l : List Ar) : ∀ u ∈ ar l, u.oneCell' = true := by
  intro u hu
  simp only [ar, List.mem_flatMap] at hu
  obtain ⟨x, _, h⟩ := hu
  exact x.cells_one u h
theorem ar_take (l : List Ar) (n : Nat) : ar (l.take n) = (ar l).take (n * 6) := by
  induction l generalizing n with
  | nil => simp [ar]
  | cons x l ih => cases n with
    | zero => simp [ar]
    | succ n => rw [List.take_succ_cons, ar_cons, ar_cons, ih, List.take_append, List.take_of_length_le (l := x.cells) (i := (n + 1) * 6) (by rw [x.cells_len]; omega), x.cells_len, show (n + 1) * 6 - 6 = n * 6 by omega]
theorem ar_drop (l : List Ar) (n : Nat) : ar (l.drop n) = (ar l).drop (n * 6) := by
  induction l generalizing n with
  | nil => simp [ar]
  | cons x l ih => cases n with
    | zero => simp
    | succ n => rw [List.drop_succ_cons, ar_cons, ih, List.drop_append, (List.drop_eq_nil_of_le (by rw [x.cells_len]; omega) : x.cells.drop ((n + 1) * 6) = []), x.cells_len, show (n + 1) * 6 - 6 = n * 6 by omega, List.nil_append]

/-- A slice of areas. -/
def ArAt (w : World) (v : Value) (l : List Ar) : Prop := SlAt w 23 6 v l.length (ar l)

theorem ArAt.nil (w : World) : ArAt w (.slice none 0 0) [] := SlAt.nil w _ _
theorem ArAt.below {w w' : World} {v : Value} {l : List Ar} (h : ArAt w v l) (hb : Below w.heap.size w w') : ArAt w' v l := SlAt.below h hb
theorem ArAt.keep {w w' : World} {v : Value} {l : List Ar} (h : ArAt w v l) (hb : ∀ b, v.ownBlock = some b → w'.heap[b]? = w.heap[b]?) : ArAt w' v l := SlAt.keep h hb
theorem ArAt.touch {w w' : World} {v : Value} {l : List Ar} {S : List Nat} (h : ArAt w v l) (t : Touch S w w') (hn : ∀ b, v.ownBlock = some b → b ∉ S) : ArAt w' v l :=
  SlAt.keep h fun b e => t.block b (SlAt.lt h b e) (hn b e)
theorem ArAt.cell {w : World} {b off c n : Nat} {l : List Ar} (h : ArAt w (.slice (some ⟨b, off, none⟩) n c) l) {j : Nat} {x : Ar} (hx : l[j]? = some x) :
    w.cell? ⟨b, off + j * 6, none⟩ = some (.int .i64 x.from_) ∧ w.cell? ⟨b, off + j * 6 + 1, none⟩ = some (.int .i64 x.pages) ∧ w.cell? ⟨b, off + j * 6 + 2, none⟩ = some (.bool x.write) ∧ w.cell? ⟨b, off + j * 6 + 3, none⟩ = some (.int .i64 x.kind) ∧
      w.cell? ⟨b, off + j * 6 + 4, none⟩ = some (.int .i64 x.file) ∧ w.cell? ⟨b, off + j * 6 + 5, none⟩ = some (.int .i64 x.off) := by
  have hj := (List.getElem?_eq_some_iff.1 hx).1
  obtain ⟨g, off', c', e, _, _, hv⟩ := SlAt.cells h (by rw [ar_length]; omega)
  cases e
  have k : ∀ i v, x.cells[i]? = some v → w.cell? ⟨b, off + j * 6 + i, none⟩ = some v := fun i v hi => by
    rw [Nat.add_assoc]
    exact (hv _ _ (ar_get hx hi)).1
  exact ⟨k 0 _ rfl, k 1 _ rfl, k 2 _ rfl, k 3 _ rfl, k 4 _ rfl, k 5 _ rfl⟩
theorem ArAt.form {w : World} {v : Value} {l : List Ar} (h : ArAt w v l) : (v = .slice none 0 0 ∧ l = []) ∨ ∃ b off c, v = .slice (some ⟨b, off, none⟩) l.length c ∧ l.length ≤ c ∧ c ≤ maxLen ∧ b < w.heap.size := by
  rcases h.2 with ⟨rfl, h2⟩ | ⟨b, off, c, arr, rfl, hg, hnc, hm, _⟩
  · exact .inl ⟨rfl, List.eq_nil_of_length_eq_zero h2⟩
  · exact .inr ⟨b, off, c, rfl, hnc, hm, (Array.getElem?_eq_some_iff.1 hg).1⟩
theorem ArAt.addr {w : World} {a : Option Addr} {c n : Nat} {l : List Ar} (h : ArAt w (.slice a n c) l) (hl : 0 < l.length) : ∃ b off, a = some ⟨b, off, none⟩ := by
  rcases h.form with ⟨_, e⟩ | ⟨b, off, c', e, _⟩
  · rw [e] at hl; simp at hl
  · cases e; exact ⟨b, off, rfl⟩
/-- A slice of areas that is only read. -/
def ArRd (w : World) (v : Value) (l : List Ar) : Prop := SlRd w 6 v l.length (ar l)
theorem ArAt.rd {w : World} {v : Value} {l : List Ar} (h : ArAt w v l) : ArRd w v l := SlAt.rd h
theorem ArRd.nil (w : World) : ArRd w (.slice none 0 0) [] := SlRd.nil w _
theorem ArRd.below {w w' : World} {v : Value} {l : List Ar} (h : ArRd w v l) (hb : Below w.heap.size w w') : ArRd w' v l := SlRd.below h hb
theorem ArRd.fm {w : World} {v : Value} {l : List Ar} (h : ArRd w v l) : ∃ a c, v = .slice a l.length c ∧ l.length ≤ c ∧ c ≤ maxLen := SlRd.form h
theorem ArRd.cell {w : World} {b off c n : Nat} {l : List Ar} (h : ArRd w (.slice (some ⟨b, off, none⟩) n c) l) {j : Nat} {x : Ar} (hx : l[j]? = some x) :
    w.cell? ⟨b, off + j * 6, none⟩ = some (.int .i64 x.from_) ∧ w.cell? ⟨b, off + j * 6 + 1, none⟩ = some (.int .i64 x.pages) ∧ w.cell? ⟨b, off + j * 6 + 2, none⟩ = some (.bool x.write) ∧ w.cell? ⟨b, off + j * 6 + 3, none⟩ = some (.int .i64 x.kind) ∧
      w.cell? ⟨b, off + j * 6 + 4, none⟩ = some (.int .i64 x.file) ∧ w.cell? ⟨b, off + j * 6 + 5, none⟩ = some (.int .i64 x.off) := by
  have hj := (List.getElem?_eq_some_iff.1 hx).1
  obtain ⟨g, off', c', e, _, _, hv⟩ := SlRd.cells h (by rw [ar_length]; omega)
  cases e
  have k : ∀ i v, x.cells[i]? = some v → w.cell? ⟨b, off + j * 6 + i, none⟩ = some v := fun i v hi => by
    rw [Nat.add_assoc]
    exact hv _ _ (ar_get hx hi)
  exact ⟨k 0 _ rfl, k 1 _ rfl, k 2 _ rfl, k 3 _ rfl, k 4 _ rfl, k 5 _ rfl⟩
theorem ArRd.form {w : World} {v : Value} {l : List Ar} (h : ArRd w v l) : (v = .slice none 0 0 ∧ l = []) ∨ ∃ b off c, v = .slice (some ⟨b, off, none⟩) l.length c ∧ l.length ≤ c ∧ c ≤ maxLen ∧ b < w.heap.size := by
  rcases h.2 with ⟨rfl, h2⟩ | ⟨b, off, c, rfl, hnc, hm, hg, _⟩
  · exact .inl ⟨rfl, List.eq_nil_of_length_eq_zero h2⟩
  · exact .inr ⟨b, off, c, rfl, hnc, hm, hg⟩
theorem ArRd.addr {w : World} {a : Option Addr} {c n : Nat} {l : List Ar} (h : ArRd w (.slice a n c) l) (hl : 0 < l.length) : ∃ b off, a = some ⟨b, off, none⟩ := by
  rcases h.form with ⟨_, e⟩ | ⟨b, off, c', e, _⟩
  · rw [e] at hl; simp at hl
  · cases e; exact ⟨b, off, rfl⟩
theorem takeA {l : List Ar} {k : Nat} {y : Ar} (hy : l[k]? = some y) : l.take (k + 1) = l.take k ++ [y] := by
  obtain ⟨hj, rfl⟩ := List.getElem?_eq_some_iff.1 hy
  rw [List.take_succ_eq_append_getElem hj]

theorem infoArea : ∃ i, Try.prog.info? 23 = some i ∧ i.zero = some (.agg #[.int .i64 0, .int .i64 0, .bool false, .int .i64 0, .int .i64 0, .int .i64 0]) ∧ i.size = 6 ∧ i.bytes = 48 := by
  have h : (Try.prog.info? 23).map (fun i => (i.zero, i.size, i.bytes)) = some (some (.agg #[.int .i64 0, .int .i64 0, .bool false, .int .i64 0, .int .i64 0, .int .i64 0]), 6, 48) := by kernel_rfl
  obtain ⟨i, hi, hb⟩ := Option.map_eq_some_iff.1 h
  simp at hb
  exact ⟨i, hi, hb⟩

/-- The area with a page. -/
def findA (l : List Ar) (p : Int) : Option Ar := l.find? fun a => decide (a.from_ ≤ p ∧ p - a.from_ < a.pages)
theorem row_set {w : World} {p k : Nat} {V : List Value} {T : TypeId} (h : w.heap[p]? = some (.cells V.toArray T (0, 0))) (v : Value) : (w.setCell ⟨p, k, none⟩ v).heap[p]? = some (.cells (V.set k v).toArray T (0, 0)) := by
  unfold World.setCell
  simp only [Array.getElem?_modify, if_true, h]
  simp

theorem find_end {R : Ending → World → Prop} {a : Act} {W : World} {B : Nat} {x : Ar} {b : Bool} (h4 : a.tmps[4]? = some (.pointer (some ⟨B, 0, none⟩))) (h5 : a.tmps[5]? = some (.bool b)) (hd : a.defers = [])
    (hrow : W.heap[B]? = some (.cells x.cells.toArray 23 (0, 0))) (hR : R (.returned (.tuple #[x.enc, .bool b])) W) : bodyPost Try.prog Try.f17 R .ret a W := by
  have f0 : W.cell? ⟨B, 0, none⟩ = some (.int .i64 x.from_) := by rw [cell_of_row W _ 0 _ _ _ hrow]; rfl
  have f1 : W.cell? ⟨B, 1, none⟩ = some (.int .i64 x.pages) := by rw [cell_of_row W _ 1 _ _ _ hrow]; rfl
  have f2 : W.cell? ⟨B, 2, none⟩ = some (.bool x.write) := by rw [cell_of_row W _ 2 _ _ _ hrow]; rfl
  have f3 : W.cell? ⟨B, 3, none⟩ = some (.int .i64 x.kind) := by rw [cell_of_row W _ 3 _ _ _ hrow]; rfl
  have f4 : W.cell? ⟨B, 4, none⟩ = some (.int .i64 x.file) := by rw [cell_of_row W _ 4 _ _ _ hrow]; rfl
  have f5 : W.cell? ⟨B, 5, none⟩ = some (.int .i64 x.off) := by rw [cell_of_row W _ 5 _ _ _ hrow]; rfl
  refine bodyPost_ret (v := .tuple #[x.enc, .bool b]) ?_ hd hR
  unfold Ar.enc
  simp [results, Try.results17, go_sem, h4, h5, f0, f1, f2, f3, f4, f5]

set_option maxRecDepth 100000 in
set_option maxHeartbeats 2000000 in
theorem Find_walk (w : World) (v : Value) (l : List Ar) (h : ArRd w v l) (p : Int) (hl : ∀ a ∈ l, a.Sound) (hp : 0 ≤ p ∧ p < 4096) :
    Calls Try.prog 17 #[v, .int .i64 p] w fun e w' => e = .returned (.tuple #[((findA l p).getD ⟨0, 0, false, 0, 0, 0⟩).enc, .bool (findA l p).isSome]) ∧ Below w.heap.size w w' := by
  obtain ⟨a, c, rfl, hc, hm⟩ := ArRd.fm h
  have H := Lib.hid h
  have HL := Lib.hid hl
  obtain ⟨n, hn⟩ : ∃ n, n = l.length := ⟨_, rfl⟩
  rw [← hn] at hc ⊢ H
  have HN := Lib.hid hn
  have hbig : n ≤ 9223372036854775807 := by unfold maxLen at hm; omega
  clear hn h hl hm
  go_enter Try.func17, Try.ntmps17
  go_wp2_with fail
  obtain ⟨W0, hW0⟩ : ∃ W0, W0 = w.alloc (.cells #[.int .i64 0, .int .i64 0, .bool false, .int .i64 0, .int .i64 0, .int .i64 0] 23) := ⟨_, rfl⟩
  have hB0 : Hid (Below w.heap.size w W0 ∧ W0.heap.size = w.heap.size + 1 ∧ W0.heap[w.heap.size]? = some (.cells #[.int .i64 0, .int .i64 0, .bool false, .int .i64 0, .int .i64 0, .int .i64 0] 23 (0, 0))) := by
    rw [hW0]
    exact ⟨(Below.refl _ _).alloc (Nat.le_refl _) _, by simp, heap_alloc_new w _⟩
  rw [← hW0]
  clear hW0
  go_loopw [7, 10] (fun _ i wr => ∃ k : Nat, k ≤ n ∧ i = .int .i64 k ∧ Below W0.heap.size W0 wr ∧ findA l p = findA (l.drop k) p) (fun _ i _ => n - (intOf i).toNat)
  case atStart => exact ⟨0, by omega, rfl, Below.refl _ _, rfl⟩
  case round =>
    obtain ⟨k, hk, rfl, hb, hlo⟩ := hrel
    have hblk := (hb.block w.heap.size (by rw [hB0.out.2.1]; omega)).trans hB0.out.2.2
    have hlt1 : w.heap.size < wr.heap.size := (Array.getElem?_eq_some_iff.1 hblk).1
    have HBLK := Lib.hid hblk
    have HB := Lib.hid (hB0.out.1.trans (hb.mono (by rw [hB0.out.2.1]; omega)))
    have HB' := Lib.hid hb
    have HLo := Lib.hid hlo
    clear hb hlo hblk
    by_cases hlt : k < n
    · have hlt' : (k : Int) < n := by omega
      obtain ⟨y, hy⟩ : ∃ y, l[k]? = some y := ⟨_, List.getElem?_eq_getElem (by rw [← HN.out]; exact hlt)⟩
      obtain ⟨b, off, rfl⟩ := H.out.addr (by rw [← HN.out]; omega)
      obtain ⟨e0, e1, e2, e3, e4, e5⟩ := (H.out.below HB.out).cell hy
      have hs := HL.out y (List.mem_of_getElem? hy)
      have hdr : Hid (findA (l.drop k) p = if y.from_ ≤ p ∧ p - y.from_ < y.pages then some y else findA (l.drop (k + 1)) p) := by
        obtain ⟨hj, rfl⟩ := List.getElem?_eq_some_iff.1 hy
        show _ = _
        rw [List.drop_eq_getElem_cons hj]
        unfold findA
        rw [List.find?_cons]
        by_cases hc : (l[k]).from_ ≤ p ∧ p - (l[k]).from_ < (l[k]).pages
        · rw [decide_eq_true hc, if_pos hc]
        · rw [decide_eq_false hc, if_neg hc]
      obtain ⟨f, pg, wr', kd, fi, o⟩ := y
      obtain ⟨-, -, s3, s4, s5, s6, -⟩ := hs
      simp only at e0 e1 e2 e3 e4 e5 s3 s4 s5 s6 hdr
      have hw : IntKind.i64.wrap (p - f) = p - f := by simp [IntKind.wrap, IntKind.bits, IntKind.signed]; omega
      clear hy
      by_cases c1 : f ≤ p
      · by_cases c2 : p - f < pg
        · have e : findA l p = some ⟨f, pg, wr', kd, fi, o⟩ := by rw [HLo.out, hdr.out, if_pos ⟨c1, c2⟩]
          have f0 : wr.cell? ⟨w.heap.size, 0, none⟩ = some (.int .i64 0) := by rw [cell_of_row wr _ 0 _ _ _ HBLK.out]; rfl
          have f1 : wr.cell? ⟨w.heap.size, 1, none⟩ = some (.int .i64 0) := by rw [cell_of_row wr _ 1 _ _ _ HBLK.out]; rfl
          have f2 : wr.cell? ⟨w.heap.size, 2, none⟩ = some (.bool false) := by rw [cell_of_row wr _ 2 _ _ _ HBLK.out]; rfl
          have f3 : wr.cell? ⟨w.heap.size, 3, none⟩ = some (.int .i64 0) := by rw [cell_of_row wr _ 3 _ _ _ HBLK.out]; rfl
          have f4 : wr.cell? ⟨w.heap.size, 4, none⟩ = some (.int .i64 0) := by rw [cell_of_row wr _ 4 _ _ _ HBLK.out]; rfl
          have f5 : wr.cell? ⟨w.heap.size, 5, none⟩ = some (.int .i64 0) := by rw [cell_of_row wr _ 5 _ _ _ HBLK.out]; rfl
          have qf : ∀ i, wr.frozen? ⟨w.heap.size, i, none⟩ = false := fun i => by simp [World.frozen?, HBLK.out]
          have q0 := qf 0
          have q1 := qf 1
          have q2 := qf 2
          have q3 := qf 3
          have q4 := qf 4
          have q5 := qf 5
          clear qf
          go_wp2_with fail
          have hr := row_set (k := 5) (row_set (k := 4) (row_set (k := 3) (row_set (k := 2) (row_set (k := 1) (row_set (V := [.int .i64 0, .int .i64 0, .bool false, .int .i64 0, .int .i64 0, .int .i64 0]) (k := 0) HBLK.out (.int .i64 f)) (.int .i64 pg)) (.bool wr')) (.int .i64 kd)) (.int .i64 fi)) (.int .i64 o)
          have hbs := (((((HB.out.setCell (p := ⟨w.heap.size, 0, none⟩) (Nat.le_refl _) (.int .i64 f)).setCell (p := ⟨w.heap.size, 1, none⟩) (Nat.le_refl _) (.int .i64 pg)).setCell (p := ⟨w.heap.size, 2, none⟩) (Nat.le_refl _) (.bool wr')).setCell (p := ⟨w.heap.size, 3, none⟩) (Nat.le_refl _) (.int .i64 kd)).setCell (p := ⟨w.heap.size, 4, none⟩) (Nat.le_refl _) (.int .i64 fi)).setCell (p := ⟨w.heap.size, 5, none⟩) (Nat.le_refl _) (.int .i64 o)
          generalize (((((wr.setCell ⟨w.heap.size, 0, none⟩ (.int .i64 f)).setCell ⟨w.heap.size, 1, none⟩ (.int .i64 pg)).setCell ⟨w.heap.size, 2, none⟩ (.bool wr')).setCell ⟨w.heap.size, 3, none⟩ (.int .i64 kd)).setCell ⟨w.heap.size, 4, none⟩ (.int .i64 fi)).setCell ⟨w.heap.size, 5, none⟩ (.int .i64 o) = Z at hr hbs ⊢
          refine find_end (x := ⟨f, pg, wr', kd, fi, o⟩) (b := true) rfl rfl rfl ?_ ⟨by rw [e]; rfl, hbs.alloc hbs.size _⟩
          exact (Below.heap_alloc Z _ w.heap.size (Array.getElem?_eq_some_iff.1 hr).1).trans hr
        · go_wp2_with fail
          go_roundw
          case rel => exact ⟨k + 1, by omega, by go_num, HB'.out.alloc HB'.out.size _, by rw [HLo.out, hdr.out, if_neg (fun h => c2 h.2)]⟩
          case measure => simp [intOf]; omega
      · go_wp2_with fail
        go_roundw
        case rel => exact ⟨k + 1, by omega, by go_num, HB'.out.alloc HB'.out.size _, by rw [HLo.out, hdr.out, if_neg (fun h => c1 h.1)]⟩
        case measure => simp [intOf]; omega
    · have e : findA l p = none := by
        rw [HLo.out, List.drop_of_length_le (by rw [← HN.out]; omega)]
        rfl
      have f0 : wr.cell? ⟨w.heap.size, 0, none⟩ = some (.int .i64 0) := by rw [cell_of_row wr _ 0 _ _ _ HBLK.out]; rfl
      have f1 : wr.cell? ⟨w.heap.size, 1, none⟩ = some (.int .i64 0) := by rw [cell_of_row wr _ 1 _ _ _ HBLK.out]; rfl
      have f2 : wr.cell? ⟨w.heap.size, 2, none⟩ = some (.bool false) := by rw [cell_of_row wr _ 2 _ _ _ HBLK.out]; rfl
      have f3 : wr.cell? ⟨w.heap.size, 3, none⟩ = some (.int .i64 0) := by rw [cell_of_row wr _ 3 _ _ _ HBLK.out]; rfl
      have f4 : wr.cell? ⟨w.heap.size, 4, none⟩ = some (.int .i64 0) := by rw [cell_of_row wr _ 4 _ _ _ HBLK.out]; rfl
      have f5 : wr.cell? ⟨w.heap.size, 5, none⟩ = some (.int .i64 0) := by rw [cell_of_row wr _ 5 _ _ _ HBLK.out]; rfl
      have qf : ∀ i, wr.frozen? ⟨w.heap.size, i, none⟩ = false := fun i => by simp [World.frozen?, HBLK.out]
      have q0 := qf 0
      have q1 := qf 1
      have q2 := qf 2
      have q3 := qf 3
      have q4 := qf 4
      have q5 := qf 5
      clear qf
      go_wp2_with fail
      have hr := row_set (k := 5) (row_set (k := 4) (row_set (k := 3) (row_set (k := 2) (row_set (k := 1) (row_set (V := [.int .i64 0, .int .i64 0, .bool false, .int .i64 0, .int .i64 0, .int .i64 0]) (k := 0) HBLK.out (.int .i64 0)) (.int .i64 0)) (.bool false)) (.int .i64 0)) (.int .i64 0)) (.int .i64 0)
      have hbs := (((((HB.out.setCell (p := ⟨w.heap.size, 0, none⟩) (Nat.le_refl _) (.int .i64 0)).setCell (p := ⟨w.heap.size, 1, none⟩) (Nat.le_refl _) (.int .i64 0)).setCell (p := ⟨w.heap.size, 2, none⟩) (Nat.le_refl _) (.bool false)).setCell (p := ⟨w.heap.size, 3, none⟩) (Nat.le_refl _) (.int .i64 0)).setCell (p := ⟨w.heap.size, 4, none⟩) (Nat.le_refl _) (.int .i64 0)).setCell (p := ⟨w.heap.size, 5, none⟩) (Nat.le_refl _) (.int .i64 0)
      generalize (((((wr.setCell ⟨w.heap.size, 0, none⟩ (.int .i64 0)).setCell ⟨w.heap.size, 1, none⟩ (.int .i64 0)).setCell ⟨w.heap.size, 2, none⟩ (.bool false)).setCell ⟨w.heap.size, 3, none⟩ (.int .i64 0)).setCell ⟨w.heap.size, 4, none⟩ (.int .i64 0)).setCell ⟨w.heap.size, 5, none⟩ (.int .i64 0) = Z at hr hbs ⊢
      exact find_end (x := ⟨0, 0, false, 0, 0, 0⟩) (b := false) rfl rfl rfl hr ⟨by rw [e]; rfl, hbs⟩
end Go.Proofs.Ytcghenehcpogpaa
