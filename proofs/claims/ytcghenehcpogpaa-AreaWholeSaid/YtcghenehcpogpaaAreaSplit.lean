/- Areas: what is ahead of some pages, in them, and behind them. -/
import Derived.Test.YtcghenehcpogpaaAreaPart
import Derived.Deep.RegionHeld
namespace Go.Proofs.Ytcghenehcpogpaa
open Go Go.RowKit

/-- Three lists of areas, apart, in blocks from a number on. -/
structure Three (B : Nat) (w : World) (v1 v2 v3 : Value) (l1 l2 l3 : List Ar) : Prop where
  a1 : ArAt w v1 l1
  a2 : ArAt w v2 l2
  a3 : ArAt w v3 l3
  b1 : ∀ b, v1.ownBlock = some b → B ≤ b
  b2 : ∀ b, v2.ownBlock = some b → B ≤ b
  b3 : ∀ b, v3.ownBlock = some b → B ≤ b
  n12 : ∀ b, v1.ownBlock = some b → v2.ownBlock ≠ some b
  n13 : ∀ b, v1.ownBlock = some b → v3.ownBlock ≠ some b
  n23 : ∀ b, v2.ownBlock = some b → v3.ownBlock ≠ some b

theorem Three.start (B : Nat) (w : World) : Three B w (.slice none 0 0) (.slice none 0 0) (.slice none 0 0) [] [] [] :=
  ⟨ArAt.nil w, ArAt.nil w, ArAt.nil w, by simp [Value.ownBlock], by simp [Value.ownBlock], by simp [Value.ownBlock], by simp [Value.ownBlock], by simp [Value.ownBlock], by simp [Value.ownBlock]⟩
section
variable {B : Nat} {w w' : World} {v1 v2 v3 : Value} {l1 l2 l3 : List Ar}
theorem Three.below (h : Three B w v1 v2 v3 l1 l2 l3) (hb : Below w.heap.size w w') : Three B w' v1 v2 v3 l1 l2 l3 :=
  ⟨h.a1.below hb, h.a2.below hb, h.a3.below hb, h.b1, h.b2, h.b3, h.n12, h.n13, h.n23⟩
/-- The first one is grown. -/
theorem Three.first (h : Three B w v1 v2 v3 l1 l2 l3) (hB : B ≤ w.heap.size) {v' : Value} {l' : List Ar} (ha : ArAt w' v' l') (hg : w.grownBy w' v1.ownBlock) (ho : v'.ownBlock = v1.ownBlock ∨ v'.ownBlock = some w.heap.size) : Three B w' v' v2 v3 l' l2 l3 := by
  have k2 : ∀ b, v2.ownBlock = some b → b < w.heap.size ∧ v1.ownBlock ≠ some b := fun b hb => ⟨SlAt.lt h.a2 b hb, fun e => h.n12 b e hb⟩
  have k3 : ∀ b, v3.ownBlock = some b → b < w.heap.size ∧ v1.ownBlock ≠ some b := fun b hb => ⟨SlAt.lt h.a3 b hb, fun e => h.n13 b e hb⟩
  refine ⟨ha, h.a2.keep fun b hb => hg.block b (k2 b hb).1 (Ne.symm (k2 b hb).2), h.a3.keep fun b hb => hg.block b (k3 b hb).1 (Ne.symm (k3 b hb).2), fun b hb => ?_, h.b2, h.b3, fun b hb hb2 => ?_, fun b hb hb3 => ?_, h.n23⟩
  · rcases ho with e | e
    · exact h.b1 b (e.symm.trans hb)
    · rw [e] at hb; cases hb; exact hB
  · rcases ho with e | e
    · exact h.n12 b (e.symm.trans hb) hb2
    · rw [e] at hb; cases hb; exact Nat.lt_irrefl _ (k2 _ hb2).1
  · rcases ho with e | e
    · exact h.n13 b (e.symm.trans hb) hb3
    · rw [e] at hb; cases hb; exact Nat.lt_irrefl _ (k3 _ hb3).1
theorem Three.turn (h : Three B w v1 v2 v3 l1 l2 l3) : Three B w v2 v3 v1 l2 l3 l1 :=
  ⟨h.a2, h.a3, h.a1, h.b2, h.b3, h.b1, h.n23, fun b hb hb' => h.n12 b hb' hb, fun b hb hb' => h.n13 b hb' hb⟩
end

section
variable {P : Program} {w : World} {e : TypeId} {size : Nat}
/-- append of any slice to any slice, in a plain region. -/
theorem wpList_append_any {ops : Array Oper} {rest : List Oper} {o : Oper} {a : Act} {Q : Exit → Act → World → Prop} (hgd : o.guard = none) (s x : Operand) (t : TypeId)
    (ho : o.op = .call { callee := .builtin .append, args := #[s, x], argTypes := #[t, t] })
    (i : TypeInfo) (z : Value) (bytes : Nat) (ht : P.underlying t = some (.slice e)) (hi : P.info? e = some i) (hz : i.zero = some z)
    (hsize : i.size = size) (hby : i.bytes = bytes) (hzs : z.cells.size = size) (v : Value) (n : Nat) (xs : List Value) (hs : a.eval s = v) (hown : SlAt w e size v n xs)
    (sv : Value) (m : Nat) (news : List Value) (hx : a.eval x = sv) (hsrc : SlAt w e size sv m news) (h1 : ∀ u ∈ news, u.oneCell' = true) (h63 : n + m ≤ maxLen) (hbytes : (n + m) * bytes ≤ 140737488355328)
    (h : ∀ v' w', SlAt w' e size v' (n + m) (xs ++ news) → w.grownBy w' v.ownBlock → (v'.ownBlock = v.ownBlock ∨ v'.ownBlock = some w.heap.size) → wpList P ops Q rest (a.put o.dst v') w') : wpList P ops Q (o :: rest) a w := by
  have hw : Region.wanted o (yielded ops a.tmps) = true := by simp [Region.wanted, hgd]
  obtain ⟨v', w', hr, h2, h3, h4⟩ := run_append_slsl (P := P) t o.type i z bytes ht hi hz hsize hby hzs v n xs hown sv m news hsrc h1 h63 hbytes
  unfold wpList
  rw [if_pos hw]
  refine .inl ?_
  unfold Oper.wp execOp
  simp only [ho, resolve, invoke, builtin, Sem.run_bind, Sem.run_pure, Result.andThen_ok, List.map_toArray, List.map_cons, List.map_nil, hs, hx, hr]
  exact h v' w' h2 h3 h4
end

/-- What an append to the first one leaves. -/
theorem Three.app {B : Nat} {w w' : World} {v1 v2 v3 v' : Value} {l1 l2 l3 m : List Ar} {A : Nat} {o : Obj} (h : Three B w v1 v2 v3 l1 l2 l3) (hB : B ≤ w.heap.size) (hA : w.heap[A]? = some o) (hn : ∀ b, v1.ownBlock = some b → b ≠ A)
    (hs : SlAt w' 23 6 v' (l1.length + m.length) (ar l1 ++ ar m)) (hg : w.grownBy w' v1.ownBlock) (ho : v'.ownBlock = v1.ownBlock ∨ v'.ownBlock = some w.heap.size) :
    Three B w' v' v2 v3 (l1 ++ m) l2 l3 ∧ w'.heap[A]? = some o ∧ Below B w w' ∧ ∀ b, v'.ownBlock = some b → b ≠ A := by
  have hlt : A < w.heap.size := (Array.getElem?_eq_some_iff.1 hA).1
  refine ⟨h.first hB ?_ hg ho, ?_, (Below.refl B w).grown hg hB h.b1, fun b hb => ?_⟩
  · show SlAt _ _ _ _ _ _
    rw [List.length_append, ar_append]
    exact hs
  · rw [hg.block A hlt (fun e => hn A e.symm rfl)]
    exact hA
  · rcases ho with e | e
    · exact hn b (e.symm.trans hb)
    · rw [e] at hb; cases hb; omega

theorem pieceA_length (a : Ar) (lo hi : Int) : (pieceA a lo hi).length ≤ 1 := by
  unfold pieceA
  simp only
  split <;> simp
/-- Of all areas of a list the pages from one up to another one. -/
def piecesA (l : List Ar) (lo hi : Int) : List Ar := l.flatMap fun a => pieceA a lo hi
theorem piecesA_length (l : List Ar) (lo hi : Int) : (piecesA l lo hi).length ≤ l.length := by
  induction l with
  | nil => simp [piecesA]
  | cons x l ih =>
    have := pieceA_length x lo hi
    simp only [piecesA, List.flatMap_cons, List.length_append, List.length_cons] at ih ⊢
    omega

set_option maxRecDepth 100000 in
set_option maxHeartbeats 8000000 in
theorem split_walk (w : World) (v : Value) (l : List Ar) (h : ArRd w v l) (hl : ∀ a ∈ l, a.Sound) (hlen : l.length ≤ 100) (fr pg : Int) (hf : 0 ≤ fr ∧ 1 ≤ pg ∧ fr + pg ≤ 4096) :
    Calls Try.prog 28 #[v, .int .i64 fr, .int .i64 pg] w fun e w' => ∃ v1 v2 v3, e = .returned (.tuple #[v1, v2, v3]) ∧ Three w.heap.size w' v1 v2 v3 (piecesA l 0 fr) (piecesA l fr (fr + pg)) (piecesA l (fr + pg) 4096) ∧ Below w.heap.size w w' := by
  obtain ⟨a, c, rfl, hc, hm⟩ := ArRd.fm h
  obtain ⟨f0, f1, f2⟩ := hf
  have H := Lib.hid h
  have HL := Lib.hid hl
  obtain ⟨n, hn⟩ : ∃ n, n = l.length := ⟨_, rfl⟩
  rw [← hn] at hc hlen ⊢ H
  have HN := Lib.hid hn
  clear hn h hl hm
  go_enter Try.func28, Try.ntmps28
  go_wp2_with fail
  obtain ⟨i0, hi0, hz0, hs0, hb0⟩ := infoArea
  go_loopw [6, 7, 8, 10, 13] (fun v1 v2 v3 _ i wr => ∃ k : Nat, k ≤ n ∧ i = .int .i64 k ∧ Below w.heap.size w wr ∧ Three w.heap.size wr v1 v2 v3 (piecesA (l.take k) 0 fr) (piecesA (l.take k) fr (fr + pg)) (piecesA (l.take k) (fr + pg) 4096)) (fun _ _ _ _ i _ => n - (intOf i).toNat)
  case atStart => exact ⟨0, by omega, rfl, Below.refl _ _, Three.start _ _⟩
  case round =>
    obtain ⟨k, hk, rfl, hb, ht⟩ := hrel
    have HB := Lib.hid hb
    have HT := Lib.hid ht
    clear hb ht
    by_cases hlt : k < n
    · have hlt' : (k : Int) < n := by omega
      obtain ⟨y, hy⟩ : ∃ y, l[k]? = some y := ⟨_, List.getElem?_eq_getElem (by rw [← HN.out]; exact hlt)⟩
      obtain ⟨b, off, rfl⟩ := H.out.addr (by rw [← HN.out]; omega)
      obtain ⟨e0, e1, e2, e3, e4, e5⟩ := (H.out.below HB.out).cell hy
      have hsy := Lib.hid (HL.out y (List.mem_of_getElem? hy))
      have hnx : Hid (∀ lo hi, piecesA (l.take (k + 1)) lo hi = piecesA (l.take k) lo hi ++ pieceA y lo hi) := fun lo hi => by
        rw [takeA hy]
        simp [piecesA]
      have hpl : Hid (∀ lo hi, (piecesA (l.take k) lo hi).length ≤ 100) := fun lo hi => by
        have := piecesA_length (l.take k) lo hi
        rw [List.length_take] at this
        omega
      obtain ⟨f, p, wt, kd, fi, o⟩ := y
      simp only at e0 e1 e2 e3 e4 e5
      have w1 : IntKind.i64.wrap (fr + pg) = fr + pg := by simp [IntKind.wrap, IntKind.bits, IntKind.signed]; omega
      clear hy
      have ba := (Below.refl wr.heap.size wr).alloc (Nat.le_refl _) (.cells #[.int .i64 f, .int .i64 p, .bool wt, .int .i64 kd, .int .i64 fi, .int .i64 o] 23)
      have T1 := Lib.hid (HT.out.below ba)
      have B1 := Lib.hid (HB.out.trans (ba.mono HB.out.size))
      have K1 : Hid ((wr.alloc (.cells #[.int .i64 f, .int .i64 p, .bool wt, .int .i64 kd, .int .i64 fi, .int .i64 o] 23)).heap[wr.heap.size]? = some (.cells #[.int .i64 f, .int .i64 p, .bool wt, .int .i64 kd, .int .i64 fi, .int .i64 o] 23 (0, 0))) := heap_alloc_new wr _
      have n1 : Hid (∀ b, u6.ownBlock = some b → b ≠ wr.heap.size) := fun b hb => by have := SlAt.lt HT.out.a1 b hb; omega
      have n2 : Hid (∀ b, u7.ownBlock = some b → b ≠ wr.heap.size) := fun b hb => by have := SlAt.lt HT.out.a2 b hb; omega
      have n3 : Hid (∀ b, u8.ownBlock = some b → b ≠ wr.heap.size) := fun b hb => by have := SlAt.lt HT.out.a3 b hb; omega
      clear ba
      go_wp2_with fail
      generalize wr.alloc _ = W1 at *
      clear e0 e1 e2 e3 e4 e5
      refine (part_walk W1 ⟨f, p, wt, kd, fi, o⟩ 0 fr hsy.out ⟨by omega, by omega⟩ ⟨by omega, by omega⟩).mono ?_
      rintro e X1 ⟨s1, rfl, hp1, b1, ho1⟩
      have TX1 := Lib.hid (T1.out.below b1)
      have BX1 := Lib.hid (B1.out.trans (b1.mono B1.out.size))
      have KX1 := Lib.hid ((b1.block wr.heap.size (Array.getElem?_eq_some_iff.1 K1.out).1).trans K1.out)
      have PX1 := Lib.hid hp1
      have pl1 : Hid ((pieceA ⟨f, p, wt, kd, fi, o⟩ 0 fr).length ≤ 1) := pieceA_length _ _ _
      clear b1 hp1 ho1 T1 B1 K1
      go_wp2_with (at_builtin; refine wpList_append_any rfl _ _ 26 rfl i0 _ 48 Try.underlying26 hi0 hz0 hs0 hb0 rfl _ _ _ rfl TX1.out.a1 _ _ _ rfl PX1.out (ar_one _) ?d1 ?e1 ?f1)
      case d1 => have h1 := hpl.out 0 fr; have h2 := pl1.out; simp only [maxLen]; omega
      case e1 => have h1 := hpl.out 0 fr; have h2 := pl1.out; omega
      intro z1 W2 hs1 hg1 hw1
      obtain ⟨t1, k1, c1, m1⟩ := TX1.out.app BX1.out.size KX1.out n1.out hs1 hg1 hw1
      rw [← hnx.out] at t1
      have T2 := Lib.hid t1.turn
      have B2 := Lib.hid (BX1.out.trans c1)
      have K2 := Lib.hid k1
      clear t1 k1 c1 m1 hs1 hg1 hw1 TX1 BX1 KX1 PX1
      have e0 : W2.cell? ⟨wr.heap.size, 0, none⟩ = some (.int .i64 f) := by rw [cell_of_row W2 _ 0 _ _ _ K2.out]; rfl
      have e1 : W2.cell? ⟨wr.heap.size, 1, none⟩ = some (.int .i64 p) := by rw [cell_of_row W2 _ 1 _ _ _ K2.out]; rfl
      have e2 : W2.cell? ⟨wr.heap.size, 2, none⟩ = some (.bool wt) := by rw [cell_of_row W2 _ 2 _ _ _ K2.out]; rfl
      have e3 : W2.cell? ⟨wr.heap.size, 3, none⟩ = some (.int .i64 kd) := by rw [cell_of_row W2 _ 3 _ _ _ K2.out]; rfl
      have e4 : W2.cell? ⟨wr.heap.size, 4, none⟩ = some (.int .i64 fi) := by rw [cell_of_row W2 _ 4 _ _ _ K2.out]; rfl
      have e5 : W2.cell? ⟨wr.heap.size, 5, none⟩ = some (.int .i64 o) := by rw [cell_of_row W2 _ 5 _ _ _ K2.out]; rfl
      go_wp2_with fail
      clear e0 e1 e2 e3 e4 e5
      refine (part_walk W2 ⟨f, p, wt, kd, fi, o⟩ fr (fr + pg) hsy.out ⟨by omega, by omega⟩ ⟨by omega, by omega⟩).mono ?_
      rintro e X2 ⟨s2, rfl, hp2, b2, ho2⟩
      have TX2 := Lib.hid (T2.out.below b2)
      have BX2 := Lib.hid (B2.out.trans (b2.mono B2.out.size))
      have KX2 := Lib.hid ((b2.block wr.heap.size (Array.getElem?_eq_some_iff.1 K2.out).1).trans K2.out)
      have PX2 := Lib.hid hp2
      have pl2 : Hid ((pieceA ⟨f, p, wt, kd, fi, o⟩ fr (fr + pg)).length ≤ 1) := pieceA_length _ _ _
      clear b2 hp2 ho2 T2 B2 K2
      go_wp2_with (at_builtin; refine wpList_append_any rfl _ _ 26 rfl i0 _ 48 Try.underlying26 hi0 hz0 hs0 hb0 rfl _ _ _ rfl TX2.out.a1 _ _ _ rfl PX2.out (ar_one _) ?d2 ?e2 ?f2)
      case d2 => have h1 := hpl.out fr (fr + pg); have h2 := pl2.out; simp only [maxLen]; omega
      case e2 => have h1 := hpl.out fr (fr + pg); have h2 := pl2.out; omega
      intro z2 W3 hs2 hg2 hw2
      obtain ⟨t2, k2, c2, m2⟩ := TX2.out.app BX2.out.size KX2.out n2.out hs2 hg2 hw2
      rw [← hnx.out] at t2
      have T3 := Lib.hid t2.turn
      have B3 := Lib.hid (BX2.out.trans c2)
      have K3 := Lib.hid k2
      clear t2 k2 c2 m2 hs2 hg2 hw2 TX2 BX2 KX2 PX2
      have e0 : W3.cell? ⟨wr.heap.size, 0, none⟩ = some (.int .i64 f) := by rw [cell_of_row W3 _ 0 _ _ _ K3.out]; rfl
      have e1 : W3.cell? ⟨wr.heap.size, 1, none⟩ = some (.int .i64 p) := by rw [cell_of_row W3 _ 1 _ _ _ K3.out]; rfl
      have e2 : W3.cell? ⟨wr.heap.size, 2, none⟩ = some (.bool wt) := by rw [cell_of_row W3 _ 2 _ _ _ K3.out]; rfl
      have e3 : W3.cell? ⟨wr.heap.size, 3, none⟩ = some (.int .i64 kd) := by rw [cell_of_row W3 _ 3 _ _ _ K3.out]; rfl
      have e4 : W3.cell? ⟨wr.heap.size, 4, none⟩ = some (.int .i64 fi) := by rw [cell_of_row W3 _ 4 _ _ _ K3.out]; rfl
      have e5 : W3.cell? ⟨wr.heap.size, 5, none⟩ = some (.int .i64 o) := by rw [cell_of_row W3 _ 5 _ _ _ K3.out]; rfl
      go_wp2_with fail
      clear e0 e1 e2 e3 e4 e5
      refine (part_walk W3 ⟨f, p, wt, kd, fi, o⟩ (fr + pg) 4096 hsy.out ⟨by omega, by omega⟩ ⟨by omega, by omega⟩).mono ?_
      rintro e X3 ⟨s3, rfl, hp3, b3, ho3⟩
      have TX3 := Lib.hid (T3.out.below b3)
      have BX3 := Lib.hid (B3.out.trans (b3.mono B3.out.size))
      have KX3 := Lib.hid ((b3.block wr.heap.size (Array.getElem?_eq_some_iff.1 K3.out).1).trans K3.out)
      have PX3 := Lib.hid hp3
      have pl3 : Hid ((pieceA ⟨f, p, wt, kd, fi, o⟩ (fr + pg) 4096).length ≤ 1) := pieceA_length _ _ _
      clear b3 hp3 ho3 T3 B3 K3
      go_wp2_with (at_builtin; refine wpList_append_any rfl _ _ 26 rfl i0 _ 48 Try.underlying26 hi0 hz0 hs0 hb0 rfl _ _ _ rfl TX3.out.a1 _ _ _ rfl PX3.out (ar_one _) ?d3 ?e3 ?f3)
      case d3 => have h1 := hpl.out (fr + pg) 4096; have h2 := pl3.out; simp only [maxLen]; omega
      case e3 => have h1 := hpl.out (fr + pg) 4096; have h2 := pl3.out; omega
      intro z3 W4 hs3 hg3 hw3
      obtain ⟨t3, k3, c3, m3⟩ := TX3.out.app BX3.out.size KX3.out n3.out hs3 hg3 hw3
      rw [← hnx.out] at t3
      have T4 := Lib.hid t3.turn
      have B4 := Lib.hid (BX3.out.trans c3)
      have K4 := Lib.hid k3
      clear t3 k3 c3 m3 hs3 hg3 hw3 TX3 BX3 KX3 PX3
      go_wp2_with fail
      go_roundw
      case rel => exact ⟨k + 1, by omega, by go_num, B4.out, T4.out⟩
      case measure => simp [intOf]; omega
    · have e : l.take k = l := List.take_of_length_le (by rw [← HN.out]; omega)
      rw [e] at HT
      go_wp2_with fail
      exact bodyPost_ret (v := .tuple #[u6, u7, u8]) (by simp [results, Try.results28, go_sem]) rfl ⟨_, _, _, rfl, HT.out, HB.out⟩
end Go.Proofs.Ytcghenehcpogpaa
