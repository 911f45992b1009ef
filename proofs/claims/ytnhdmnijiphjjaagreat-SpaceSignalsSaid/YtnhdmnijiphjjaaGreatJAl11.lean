/- Areas: what is ahead of some pages, in them, and behind them. -/
import Derived.Test.YtnhdmnijiphjjaaGreatJAl10
import Derived.Deep.RegionHeld
import Derived.Shelf.SlGeneric
import Derived.Ground.SlgfProg
import Derived.Ground.SlgnProg
import Derived.Ground.SlsfProg
import Derived.Shelf.SlLaysE0
import Derived.Shelf.SlLaysF0
import Derived.Shelf.SlLaysH0
import Derived.Test.YtnhdmnijiphjjaaGreatProg
import Derived.Shelf.SlicesQ.IndexFunc
import Derived.Shelf.SlicesE.Clone
import Derived.Shelf.SlSortCmp.InsertionK
import Derived.Shelf.SlSortCmp.WholeK
import Derived.Deep.RegionHeldLaw
set_option linter.unusedVariables false
set_option linter.unusedSimpArgs false
namespace Go.Proofs.YtnhdmnijiphjjaaGreat
open Go Go.RowKit
structure Three (B : Nat) (w : World) (v1 v2 v3 : Value) (l1 l2 l3 : List Ar) : Prop where
 a1 : ArAt w v1 l1
 a2 : ArAt w v2 l2
 a3 : ArAt w v3 l3
 b1 : ∀ b, v1.ownBlock = some b → B ≤ b
 b2 : ∀ b, v2.ownBlock = some b → B ≤ b
 b3 : ∀ b, v3.ownBlock = some b → B ≤ b
 n12 : ∀ b, v1.ownBlock = some b → v2.ownBlock ≠ some b
 n13 : ∀ b, v1.ownBlock = some b → v3.ownBlock ≠ some b
 n23 : ∀ b, v2.ownBlock = some b → v3.ownBlock ≠ some b
theorem Three.start (B : Nat) (w : World) : Three B w (.slice none 0 0) (.slice none 0 0) (.slice none 0 0) [] [] [] :=
 ⟨ArAt.nil w, ArAt.nil w, ArAt.nil w, by simp [Value.ownBlock], by simp [Value.ownBlock], by simp [Value.ownBlock], by simp [Value.ownBlock], by simp [Value.ownBlock], by simp [Value.ownBlock]⟩
section
variable {B : Nat} {w w' : World} {v1 v2 v3 : Value} {l1 l2 l3 : List Ar}
theorem Three.below (h : Three B w v1 v2 v3 l1 l2 l3) (hb : Below w.heap.size w w') : Three B w' v1 v2 v3 l1 l2 l3 :=
 ⟨h.a1.below hb, h.a2.below hb, h.a3.below hb, h.b1, h.b2, h.b3, h.n12, h.n13, h.n23⟩
theorem Three.first (h : Three B w v1 v2 v3 l1 l2 l3) (hB : B ≤ w.heap.size) {v' : Value} {l' : List Ar} (ha : ArAt w' v' l') (hg : w.grownBy w' v1.ownBlock) (ho : v'.ownBlock = v1.ownBlock ∨ v'.ownBlock = some w.heap.size) : Three B w' v' v2 v3 l' l2 l3 := by
 have k2 : ∀ b, v2.ownBlock = some b → b < w.heap.size ∧ v1.ownBlock ≠ some b := fun b hb => ⟨SlAt.lt h.a2 b hb, fun e => h.n12 b e hb⟩
 have k3 : ∀ b, v3.ownBlock = some b → b < w.heap.size ∧ v1.ownBlock ≠ some b := fun b hb => ⟨SlAt.lt h.a3 b hb, fun e => h.n13 b e hb⟩
 refine ⟨ha, h.a2.keep fun b hb => hg.block b (k2 b hb).1 (Ne.symm (k2 b hb).2), h.a3.keep fun b hb => hg.block b (k3 b hb).1 (Ne.symm (k3 b hb).2), fun b hb => ?_, h.b2, h.b3, fun b hb hb2 => ?_, fun b hb hb3 => ?_, h.n23⟩
 ·rcases ho with e | e
  ·exact h.b1 b (e.symm.trans hb)
  ·rw [e] at hb; cases hb; exact hB
 ·rcases ho with e | e
  ·exact h.n12 b (e.symm.trans hb) hb2
  ·rw [e] at hb; cases hb; exact Nat.lt_irrefl _ (k2 _ hb2).1
 ·rcases ho with e | e
  ·exact h.n13 b (e.symm.trans hb) hb3
  ·rw [e] at hb; cases hb; exact Nat.lt_irrefl _ (k3 _ hb3).1
theorem Three.turn (h : Three B w v1 v2 v3 l1 l2 l3) : Three B w v2 v3 v1 l2 l3 l1 :=
 ⟨h.a2, h.a3, h.a1, h.b2, h.b3, h.b1, h.n23, fun b hb hb' => h.n12 b hb' hb, fun b hb hb' => h.n13 b hb' hb⟩
end
section
variable {P : Program} {w : World} {e : TypeId} {size : Nat}
theorem uq {ops : Array Oper} {rest : List Oper} {o : Oper} {a : Act} {Q : Exit → Act → World → Prop} (hgd : o.guard = none) (s x : Operand) (t : TypeId)
  (ho : o.op = .call { callee := .builtin .append, args := #[s, x], argTypes := #[t, t] })
  (i : TypeInfo) (z : Value) (bytes : Nat) (ht : P.underlying t = some (.slice e)) (hi : P.info? e = some i) (hz : i.zero = some z)
  (hsize : i.size = size) (hby : i.bytes = bytes) (hzs : z.cells.size = size) (v : Value) (n : Nat) (xs : List Value) (hs : a.eval s = v) (hown : SlAt w e size v n xs)
  (sv : Value) (m : Nat) (news : List Value) (hx : a.eval x = sv) (hsrc : SlAt w e size sv m news) (h1 : ∀ u ∈ news, u.oneCell' = true) (h63 : n + m ≤ maxLen) (hbytes : (n + m) * bytes ≤ 140737488355328)
  (h : ∀ v' w', SlAt w' e size v' (n + m) (xs ++ news) → w.grownBy w' v.ownBlock → (v'.ownBlock = v.ownBlock ∨ v'.ownBlock = some w.heap.size) → wpList P ops Q rest (a.put o.dst v') w') : wpList P ops Q (o :: rest) a w := by
 have hw : Region.wanted o (yielded ops a.tmps) = true := by simp [Region.wanted, hgd]
 obtain ⟨v', w', hr, h2, h3, h4⟩ := Y3 (P := P) t o.type i z bytes ht hi hz hsize hby hzs v n xs hown sv m news hsrc h1 h63 hbytes
 unfold wpList
 rw [if_pos hw]
 refine .inl ?_
 unfold Oper.wp execOp
 simp only [ho, resolve, invoke, builtin, Sem.run_bind, Sem.run_pure, Result.andThen_ok, List.map_toArray, List.map_cons, List.map_nil, hs, hx, hr]
 exact h v' w' h2 h3 h4
end
theorem Three.app {B : Nat} {w w' : World} {v1 v2 v3 v' : Value} {l1 l2 l3 m : List Ar} {A : Nat} {o : Obj} (h : Three B w v1 v2 v3 l1 l2 l3) (hB : B ≤ w.heap.size) (hA : w.heap[A]? = some o) (hn : ∀ b, v1.ownBlock = some b → b ≠ A)
  (hs : SlAt w' 32 6 v' (l1.length + m.length) (ar l1 ++ ar m)) (hg : w.grownBy w' v1.ownBlock) (ho : v'.ownBlock = v1.ownBlock ∨ v'.ownBlock = some w.heap.size) :
  Three B w' v' v2 v3 (l1 ++ m) l2 l3 ∧ w'.heap[A]? = some o ∧ Below B w w' ∧ ∀ b, v'.ownBlock = some b → b ≠ A := by
 have hlt : A < w.heap.size := (Array.getElem?_eq_some_iff.1 hA).1
 refine ⟨h.first hB ?_ hg ho, ?_, (Below.refl B w).grown hg hB h.b1, fun b hb => ?_⟩
 ·show SlAt _ _ _ _ _ _
  rw [List.length_append, Q8]
  exact hs
 ·rw [hg.block A hlt (fun e => hn A e.symm rfl)]
  exact hA
 ·rcases ho with e | e
  ·exact hn b (e.symm.trans hb)
  ·rw [e] at hb; cases hb; omega
theorem Zn (a : Ar) (lo hi : Int) : (xw a lo hi).length ≤ 1 := by
 unfold xw
 simp only
 split <;> simp
def zo (l : List Ar) (lo hi : Int) : List Ar := l.flatMap fun a => xw a lo hi
theorem uf (l : List Ar) (lo hi : Int) : (zo l lo hi).length ≤ l.length := by
 induction l with
 | nil => simp [zo]
 | cons x l ih =>
  have := Zn x lo hi
  simp only [zo, List.flatMap_cons, List.length_append, List.length_cons] at ih ⊢
  omega
set_option maxRecDepth 100000 in
set_option maxHeartbeats 8000000 in
theorem J2 (w : World) (v : Value) (l : List Ar) (h : ArRd w v l) (hl : ∀ a ∈ l, a.yu) (hlen : l.length ≤ 100) (fr pg : Int) (hf : 0 ≤ fr ∧ 1 ≤ pg ∧ fr + pg ≤ 4096) :
  Calls Tryz.prog 145 #[v, .int .i64 fr, .int .i64 pg] w fun e w' => ∃ v1 v2 v3, e = .returned (.tuple #[v1, v2, v3]) ∧ Three w.heap.size w' v1 v2 v3 (zo l 0 fr) (zo l fr (fr + pg)) (zo l (fr + pg) 4096) ∧ Below w.heap.size w w' := by
 obtain ⟨a, c, rfl, hc, hm⟩ := ArRd.fm h
 obtain ⟨f0, f1, f2⟩ := hf
 have H := Lib.hid h
 have HL := Lib.hid hl
 obtain ⟨n, hn⟩ : ∃ n, n = l.length := ⟨_, rfl⟩
 rw [← hn] at hc hlen ⊢ H
 have HN := Lib.hid hn
 clear hn h hl hm
 go_enter Tryz.func145, Tryz.ntmps145
 go_wp2_with fail
 obtain ⟨i0, hi0, hz0, hs0, hb0⟩ := U8
 go_loopw [6, 7, 8, 10, 13] (fun v1 v2 v3 _ i wr => ∃ k : Nat, k ≤ n ∧ i = .int .i64 k ∧ Below w.heap.size w wr ∧ Three w.heap.size wr v1 v2 v3 (zo (l.take k) 0 fr) (zo (l.take k) fr (fr + pg)) (zo (l.take k) (fr + pg) 4096)) (fun _ _ _ _ i _ => n - (intOf i).toNat)
 case atStart => exact ⟨0, by omega, rfl, Below.refl _ _, Three.start _ _⟩
 case round =>
  obtain ⟨k, hk, rfl, hb, ht⟩ := hrel
  have HB := Lib.hid hb
  have HT := Lib.hid ht
  clear hb ht
  by_cases hlt : k < n
  ·have hlt' : (k : Int) < n := by omega
   obtain ⟨y, hy⟩ : ∃ y, l[k]? = some y := ⟨_, List.getElem?_eq_getElem (by rw [← HN.out]; exact hlt)⟩
   obtain ⟨b, off, rfl⟩ := H.out.addr (by rw [← HN.out]; omega)
   obtain ⟨e0, e1, e2, e3, e4, e5⟩ := (H.out.below HB.out).cell hy
   have hsy := Lib.hid (HL.out y (List.mem_of_getElem? hy))
   have hnx : Hid (∀ lo hi, zo (l.take (k + 1)) lo hi = zo (l.take k) lo hi ++ xw y lo hi) := fun lo hi => by
    rw [takeA hy]
    simp [zo]
   have hpl : Hid (∀ lo hi, (zo (l.take k) lo hi).length ≤ 100) := fun lo hi => by
    have := uf (l.take k) lo hi
    rw [List.length_take] at this
    omega
   obtain ⟨f, p, wt, kd, fi, o⟩ := y
   simp only at e0 e1 e2 e3 e4 e5
   have w1 : IntKind.i64.wrap (fr + pg) = fr + pg := by simp [IntKind.wrap, IntKind.bits, IntKind.signed]; omega
   clear hy
   have ba := (Below.refl wr.heap.size wr).alloc (Nat.le_refl _) (.cells #[.int .i64 f, .int .i64 p, .bool wt, .int .i64 kd, .int .i64 fi, .int .i64 o] 32)
   have T1 := Lib.hid (HT.out.below ba)
   have B1 := Lib.hid (HB.out.trans (ba.mono HB.out.size))
   have K1 : Hid ((wr.alloc (.cells #[.int .i64 f, .int .i64 p, .bool wt, .int .i64 kd, .int .i64 fi, .int .i64 o] 32)).heap[wr.heap.size]? = some (.cells #[.int .i64 f, .int .i64 p, .bool wt, .int .i64 kd, .int .i64 fi, .int .i64 o] 32 (0, 0))) := heap_alloc_new wr _
   have n1 : Hid (∀ b, u6.ownBlock = some b → b ≠ wr.heap.size) := fun b hb => by have := SlAt.lt HT.out.a1 b hb; omega
   have n2 : Hid (∀ b, u7.ownBlock = some b → b ≠ wr.heap.size) := fun b hb => by have := SlAt.lt HT.out.a2 b hb; omega
   have n3 : Hid (∀ b, u8.ownBlock = some b → b ≠ wr.heap.size) := fun b hb => by have := SlAt.lt HT.out.a3 b hb; omega
   clear ba
   go_wp2_with fail
   generalize wr.alloc _ = W1 at *
   clear e0 e1 e2 e3 e4 e5
   refine (Qv W1 ⟨f, p, wt, kd, fi, o⟩ 0 fr hsy.out ⟨by omega, by omega⟩ ⟨by omega, by omega⟩).mono ?_
   rintro e X1 ⟨s1, rfl, hp1, b1, ho1⟩
   have TX1 := Lib.hid (T1.out.below b1)
   have BX1 := Lib.hid (B1.out.trans (b1.mono B1.out.size))
   have KX1 := Lib.hid ((b1.block wr.heap.size (Array.getElem?_eq_some_iff.1 K1.out).1).trans K1.out)
   have PX1 := Lib.hid hp1
   have pl1 : Hid ((xw ⟨f, p, wt, kd, fi, o⟩ 0 fr).length ≤ 1) := Zn _ _ _
   clear b1 hp1 ho1 T1 B1 K1
   go_wp2_with (at_builtin; refine uq rfl _ _ 104 rfl i0 _ 48 Tryz.underlying104 hi0 hz0 hs0 hb0 rfl _ _ _ rfl TX1.out.a1 _ _ _ rfl PX1.out (zak _) ?d1 ?e1 ?f1)
   case d1 => have h1 := hpl.out 0 fr; have h2 := pl1.out; simp only [maxLen]; omega
   case e1 => have h1 := hpl.out 0 fr; have h2 := pl1.out; omega
   intro z1 W2 hs1 hg1 hw1
   obtain ⟨t1, k1, c1, m1⟩ := TX1.out.app BX1.out.size KX1.out n1.out hs1 hg1 hw1
   rw [← hnx.out] at t1
   have T2 := Lib.hid t1.turn
   have B2 := Lib.hid (BX1.out.trans c1)
   have K2 := Lib.hid k1
   clear t1 k1 c1 m1 hs1 hg1 hw1 TX1 BX1 KX1 PX1
   have e0 : W2.cell? ⟨wr.heap.size, 0, none⟩ = some (.int .i64 f) := by rw [cell_of_row W2 _ 0 _ _ _ K2.out]; rfl
   have e1 : W2.cell? ⟨wr.heap.size, 1, none⟩ = some (.int .i64 p) := by rw [cell_of_row W2 _ 1 _ _ _ K2.out]; rfl
   have e2 : W2.cell? ⟨wr.heap.size, 2, none⟩ = some (.bool wt) := by rw [cell_of_row W2 _ 2 _ _ _ K2.out]; rfl
   have e3 : W2.cell? ⟨wr.heap.size, 3, none⟩ = some (.int .i64 kd) := by rw [cell_of_row W2 _ 3 _ _ _ K2.out]; rfl
   have e4 : W2.cell? ⟨wr.heap.size, 4, none⟩ = some (.int .i64 fi) := by rw [cell_of_row W2 _ 4 _ _ _ K2.out]; rfl
   have e5 : W2.cell? ⟨wr.heap.size, 5, none⟩ = some (.int .i64 o) := by rw [cell_of_row W2 _ 5 _ _ _ K2.out]; rfl
   go_wp2_with fail
   clear e0 e1 e2 e3 e4 e5
   refine (Qv W2 ⟨f, p, wt, kd, fi, o⟩ fr (fr + pg) hsy.out ⟨by omega, by omega⟩ ⟨by omega, by omega⟩).mono ?_
   rintro e X2 ⟨s2, rfl, hp2, b2, ho2⟩
   have TX2 := Lib.hid (T2.out.below b2)
   have BX2 := Lib.hid (B2.out.trans (b2.mono B2.out.size))
   have KX2 := Lib.hid ((b2.block wr.heap.size (Array.getElem?_eq_some_iff.1 K2.out).1).trans K2.out)
   have PX2 := Lib.hid hp2
   have pl2 : Hid ((xw ⟨f, p, wt, kd, fi, o⟩ fr (fr + pg)).length ≤ 1) := Zn _ _ _
   clear b2 hp2 ho2 T2 B2 K2
   go_wp2_with (at_builtin; refine uq rfl _ _ 104 rfl i0 _ 48 Tryz.underlying104 hi0 hz0 hs0 hb0 rfl _ _ _ rfl TX2.out.a1 _ _ _ rfl PX2.out (zak _) ?d2 ?e2 ?f2)
   case d2 => have h1 := hpl.out fr (fr + pg); have h2 := pl2.out; simp only [maxLen]; omega
   case e2 => have h1 := hpl.out fr (fr + pg); have h2 := pl2.out; omega
   intro z2 W3 hs2 hg2 hw2
   obtain ⟨t2, k2, c2, m2⟩ := TX2.out.app BX2.out.size KX2.out n2.out hs2 hg2 hw2
   rw [← hnx.out] at t2
   have T3 := Lib.hid t2.turn
   have B3 := Lib.hid (BX2.out.trans c2)
   have K3 := Lib.hid k2
   clear t2 k2 c2 m2 hs2 hg2 hw2 TX2 BX2 KX2 PX2
   have e0 : W3.cell? ⟨wr.heap.size, 0, none⟩ = some (.int .i64 f) := by rw [cell_of_row W3 _ 0 _ _ _ K3.out]; rfl
   have e1 : W3.cell? ⟨wr.heap.size, 1, none⟩ = some (.int .i64 p) := by rw [cell_of_row W3 _ 1 _ _ _ K3.out]; rfl
   have e2 : W3.cell? ⟨wr.heap.size, 2, none⟩ = some (.bool wt) := by rw [cell_of_row W3 _ 2 _ _ _ K3.out]; rfl
   have e3 : W3.cell? ⟨wr.heap.size, 3, none⟩ = some (.int .i64 kd) := by rw [cell_of_row W3 _ 3 _ _ _ K3.out]; rfl
   have e4 : W3.cell? ⟨wr.heap.size, 4, none⟩ = some (.int .i64 fi) := by rw [cell_of_row W3 _ 4 _ _ _ K3.out]; rfl
   have e5 : W3.cell? ⟨wr.heap.size, 5, none⟩ = some (.int .i64 o) := by rw [cell_of_row W3 _ 5 _ _ _ K3.out]; rfl
   go_wp2_with fail
   clear e0 e1 e2 e3 e4 e5
   refine (Qv W3 ⟨f, p, wt, kd, fi, o⟩ (fr + pg) 4096 hsy.out ⟨by omega, by omega⟩ ⟨by omega, by omega⟩).mono ?_
   rintro e X3 ⟨s3, rfl, hp3, b3, ho3⟩
   have TX3 := Lib.hid (T3.out.below b3)
   have BX3 := Lib.hid (B3.out.trans (b3.mono B3.out.size))
   have KX3 := Lib.hid ((b3.block wr.heap.size (Array.getElem?_eq_some_iff.1 K3.out).1).trans K3.out)
   have PX3 := Lib.hid hp3
   have pl3 : Hid ((xw ⟨f, p, wt, kd, fi, o⟩ (fr + pg) 4096).length ≤ 1) := Zn _ _ _
   clear b3 hp3 ho3 T3 B3 K3
   go_wp2_with (at_builtin; refine uq rfl _ _ 104 rfl i0 _ 48 Tryz.underlying104 hi0 hz0 hs0 hb0 rfl _ _ _ rfl TX3.out.a1 _ _ _ rfl PX3.out (zak _) ?d3 ?e3 ?f3)
   case d3 => have h1 := hpl.out (fr + pg) 4096; have h2 := pl3.out; simp only [maxLen]; omega
   case e3 => have h1 := hpl.out (fr + pg) 4096; have h2 := pl3.out; omega
   intro z3 W4 hs3 hg3 hw3
   obtain ⟨t3, k3, c3, m3⟩ := TX3.out.app BX3.out.size KX3.out n3.out hs3 hg3 hw3
   rw [← hnx.out] at t3
   have T4 := Lib.hid t3.turn
   have B4 := Lib.hid (BX3.out.trans c3)
   have K4 := Lib.hid k3
   clear t3 k3 c3 m3 hs3 hg3 hw3 TX3 BX3 KX3 PX3
   go_wp2_with fail
   go_roundw
   case rel => exact ⟨k + 1, by omega, by go_num, B4.out, T4.out⟩
   case measure => simp [intOf]; omega
  ·have e : l.take k = l := List.take_of_length_le (by rw [← HN.out]; omega)
   rw [e] at HT
   go_wp2_with fail
   exact bodyPost_ret (v := .tuple #[u6, u7, u8]) (by simp [results, Tryz.results145, go_sem]) rfl ⟨_, _, _, rfl, HT.out, HB.out⟩
theorem zar (w : World) (v : Value) (l : List Ar) (h : ArAt w v l) :
  Calls Tryz.prog 124 #[v] w fun e w' => ∃ v', e = .returned v' ∧ ArAt w' v' l ∧ w' = w ∧ v'.ownBlock = v.ownBlock := by
 rcases h.form with ⟨rfl, rfl⟩ | ⟨b, off, c, rfl, hc, hm, hb⟩
 ·go_enter Tryz.func124, Tryz.ntmps124
  go_wp2_with fail
  go_ret
  exact ⟨_, rfl, ArAt.nil w, rfl, rfl⟩
 ·go_enter Tryz.func124, Tryz.ntmps124
  go_wp2_with fail
  go_ret
  refine ⟨_, rfl, ?_, rfl, rfl⟩
  rcases h.2 with ⟨e, _⟩ | ⟨b', off', c', arr, e, hg, hnc, hcm, hsz, hx⟩
  ·cases e
  ·cases e
   exact ⟨h.1, .inr ⟨b, off, l.length, arr, rfl, hg, Nat.le_refl _, by omega, by omega, hx⟩⟩
theorem capA (w : World) (n : Nat) (hn : n ≤ 1000) : ArAt (w.alloc (.cells (Builtin.zeroCells #[.int .i64 0, .int .i64 0, .bool false, .int .i64 0, .int .i64 0, .int .i64 0] n ++ Builtin.zeroCells #[.int .i64 0, .int .i64 0, .bool false, .int .i64 0, .int .i64 0, .int .i64 0] (grownCap w n 0 32 - n)) 32)).drew (.slice (some ⟨w.heap.size, 0, none⟩) 0 (grownCap w n 0 32)) [] := by
 have hge := grownCap_ge w n 0 32
 have hcm := grownCap_le_maxLen w n 0 32 (by unfold maxLen; omega)
 refine ArAt.below ?_ (Below.refl _ _).drew
 refine ⟨rfl, .inr ⟨w.heap.size, 0, _, _, rfl, heap_alloc_new w _, Nat.zero_le _, hcm, ?_, fun j u hu => by simp [ar] at hu⟩⟩
 simp only [Array.size_append, size_zeroCells]
 simp
 omega
set_option maxRecDepth 100000 in
set_option maxHeartbeats 2000000 in
theorem zgn (w : World) (n : Nat) (hn : n ≤ 1000) :
  Calls Tryz.prog 223 #[.slice none 0 0, .int .i64 n] w fun e w' => ∃ v', e = .returned v' ∧ ArAt w' v' [] ∧ Below w.heap.size w w' ∧ ∀ b, v'.ownBlock = some b → w.heap.size ≤ b := by
 by_cases h0 : n = 0
 ·subst h0
  go_enter Tryz.func223, Tryz.ntmps223
  go_wp2_with fail
  go_ret
  exact ⟨_, rfl, ArAt.nil w, Below.refl _ _, by simp [Value.ownBlock]⟩
 ·have h1 : (0 : Int) < n := by omega
  have h2 : ¬ (n : Int) < 0 := by omega
  have h3 : (0 : Int) ≤ n := by omega
  have hw : IntKind.i64.wrap (n : Int) = n := by simp [IntKind.wrap, IntKind.bits, IntKind.signed]; omega
  have hby : Tryz.t32.bytes = 48 := by kernel_rfl
  have g1 : ¬ (281474976710656 : Int) < (n : Int) * (Tryz.t32.bytes : Int) := by rw [hby]; omega
  have g2 : ¬ 281474976710656 < Builtin.nextslicecap n 0 * Tryz.t32.bytes := by
   have := growslice_fits (need := n) (old := 0) (bytes := 48) (by omega) (by omega)
   rw [hby]; omega
  clear hby
  go_enter Tryz.func223, Tryz.ntmps223
  go_wp2_with fail
  all_goals go_ret
  all_goals exact ⟨_, rfl, capA w n hn, ((Below.refl _ _).alloc (Nat.le_refl _) _).drew, by intro b hb; simp [Value.ownBlock] at hb; omega⟩
structure Parts (w : World) (b off : Nat) (vs : List Value) (ls : List (List Ar)) : Prop where
 len : vs.length = ls.length
 cell : ∀ (j : Nat) (v : Value), vs[j]? = some v → w.cell? ⟨b, off + j, none⟩ = some v
 at_ : ∀ (j : Nat) (v : Value) (l : List Ar), vs[j]? = some v → ls[j]? = some l → ArAt w v l
theorem Parts.below {w w' : World} {b off : Nat} {vs : List Value} {ls : List (List Ar)} (h : Parts w b off vs ls) (hb : Below w.heap.size w w') : Parts w' b off vs ls :=
 ⟨h.len, fun j v hv => (hb.cell (World.block_lt_of_cell? _ _ (h.cell j v hv))).trans (h.cell j v hv), fun j v l hv hl => (h.at_ j v l hv hl).below hb⟩
def sumL (ls : List (List Ar)) : Nat := (ls.map List.length).sum
theorem zgz (ls : List (List Ar)) (l : List Ar) : sumL (ls ++ [l]) = sumL ls + l.length := by simp [sumL]
theorem zb4 (ls : List (List Ar)) : ls.flatten.length = sumL ls := by
 induction ls with
 | nil => rfl
 | cons x l ih => simp [sumL]
theorem Qi (ls : List (List Ar)) (k : Nat) : sumL (ls.take k) ≤ sumL ls := by
 induction ls generalizing k with
 | nil => simp [sumL]
 | cons x l ih => cases k with
  | zero => simp [sumL]
  | succ k => have := ih k; simp only [sumL, List.take_succ_cons, List.map_cons, List.sum_cons] at this ⊢; omega
set_option maxRecDepth 100000 in
set_option maxHeartbeats 4000000 in
theorem zdd (w : World) (b off c n : Nat) (vs : List Value) (ls : List (List Ar)) (h : Parts w b off vs ls) (hn : n = ls.length) (hn5 : n ≤ 5) (hlen : sumL ls ≤ 1000) :
  Calls Tryz.prog 189 #[.slice (some ⟨b, off, none⟩) n c] w fun e w' => ∃ v', e = .returned v' ∧ ArAt w' v' ls.flatten ∧ Below w.heap.size w w' ∧ ∀ b, v'.ownBlock = some b → w.heap.size ≤ b := by
 have H := Lib.hid h
 have HN := Lib.hid hn
 clear h hn
 go_enter Tryz.func189, Tryz.ntmps189
 go_wp2_with fail
 go_loopw [3, 5, 11] (fun sz _ i wr => ∃ k : Nat, k ≤ n ∧ i = .int .i64 k ∧ sz = .int .i64 (sumL (ls.take k)) ∧ wr = w) (fun _ _ i _ => n - (intOf i).toNat)
 case atStart => exact ⟨0, by omega, rfl, rfl, rfl⟩
 case round =>
  obtain ⟨k, hk, rfl, rfl, hww⟩ := hrel
  rw [hww]
  clear hww
  have hst := Qi ls k
  by_cases hlt : k < n
  ·have hlt' : (k : Int) < n := by omega
   obtain ⟨l, hl⟩ : ∃ l, ls[k]? = some l := ⟨_, List.getElem?_eq_getElem (by rw [← HN.out]; exact hlt)⟩
   obtain ⟨v, hv⟩ : ∃ v, vs[k]? = some v := ⟨_, List.getElem?_eq_getElem (by rw [H.out.len, ← HN.out]; exact hlt)⟩
   have hc := H.out.cell k v hv
   obtain ⟨av, cv, rfl, _, _⟩ := SlAt.form (H.out.at_ k v l hv hl)
   have hnx : Hid (sumL (ls.take (k + 1)) = sumL (ls.take k) + l.length) := by
    obtain ⟨hj, rfl⟩ := List.getElem?_eq_some_iff.1 hl
    show _ = _
    rw [List.take_succ_eq_append_getElem hj, zgz]
   have hll : l.length ≤ 1000 := by
    have := Qi ls (k + 1)
    rw [hnx.out] at this
    omega
   clear hv hl
   generalize sumL (ls.take k) = q at *
   generalize l.length = m at *
   have hw : IntKind.i64.wrap ((q : Int) + m) = q + m := by simp [IntKind.wrap, IntKind.bits, IntKind.signed]; omega
   have hneg : ¬ (q : Int) + m < 0 := by omega
   go_wp2_with fail
   go_roundw
   case rel => exact ⟨k + 1, by omega, by go_num, by rw [hnx.out]; simp, trivial⟩
   case measure => simp [intOf]; omega
  ·have e : ls.take k = ls := List.take_of_length_le (by rw [← HN.out]; omega)
   rw [e]
   clear hst e
   obtain ⟨q, hq⟩ : ∃ q, q = sumL ls := ⟨_, rfl⟩
   rw [← hq] at hlen ⊢
   have HQ := Lib.hid hq
   clear hq
   go_wp2_with fail
   refine (zgn _ q hlen).mono ?_
   rintro e X ⟨v0, rfl, hp0, b0, ho0⟩
   have HP0 := Lib.hid hp0
   have HB0 := Lib.hid b0
   have HO0 := Lib.hid ho0
   clear hp0 b0 ho0
   obtain ⟨i0, hi0, hz0, hs0, hb0⟩ := U8
   go_wp2_with fail
   go_loopw [6, 8, 27] (fun nv _ i wr => ∃ j : Nat, j ≤ n ∧ i = .int .i64 j ∧ ArAt wr nv (ls.take j).flatten ∧ Below w.heap.size w wr ∧ ∀ b, nv.ownBlock = some b → w.heap.size ≤ b) (fun _ _ i _ => n - (intOf i).toNat)
   case atStart => exact ⟨0, by omega, rfl, by simpa using HP0.out, HB0.out, HO0.out⟩
   case round =>
    obtain ⟨j, hj, rfl, hp, hb, ho⟩ := hrel
    have HPj := Lib.hid hp
    have HBj := Lib.hid hb
    have HOj := Lib.hid ho
    clear hp hb ho HP0 HB0 HO0
    by_cases hjt : j < n
    ·have hjt' : (j : Int) < n := by omega
     obtain ⟨l, hl⟩ : ∃ l, ls[j]? = some l := ⟨_, List.getElem?_eq_getElem (by rw [← HN.out]; exact hjt)⟩
     obtain ⟨v, hv⟩ : ∃ v, vs[j]? = some v := ⟨_, List.getElem?_eq_getElem (by rw [H.out.len, ← HN.out]; exact hjt)⟩
     have hP := H.out.below HBj.out
     have hc := hP.cell j v hv
     have HV := Lib.hid (hP.at_ j v l hv hl)
     have hnx : Hid ((ls.take (j + 1)).flatten = (ls.take j).flatten ++ l ∧ (ls.take j).flatten.length + l.length ≤ 1000) := by
      obtain ⟨hj2, rfl⟩ := List.getElem?_eq_some_iff.1 hl
      have e : (ls.take (j + 1)).flatten = (ls.take j).flatten ++ ls[j] := by rw [List.take_succ_eq_append_getElem hj2, List.flatten_append, List.flatten_cons, List.flatten_nil, List.append_nil]
      refine ⟨e, ?_⟩
      have h1 := Qi ls (j + 1)
      rw [← zb4, e, List.length_append, ← HQ.out] at h1
      omega
     obtain ⟨fl, hfl⟩ : ∃ fl, fl = (ls.take j).flatten := ⟨_, rfl⟩
     rw [← hfl] at HPj hnx
     clear hP hv hl hfl
     go_wp2_with (at_builtin; refine uq rfl _ _ 104 rfl i0 _ 48 Tryz.underlying104 hi0 hz0 hs0 hb0 rfl _ _ _ rfl HPj.out _ _ _ rfl HV.out (zak _) ?d1 ?d2 ?d3)
     case d1 => have h1 := hnx.out.2; simp only [maxLen]; omega
     case d2 => have h1 := hnx.out.2; omega
     intro z1 W1 hs1 hg1 hw1
     have HS1 := Lib.hid (And.intro hs1 (And.intro hg1 hw1))
     clear hs1 hg1 hw1
     go_wp2_with fail
     go_roundw
     case rel =>
      obtain ⟨hs1, hg1, hw1⟩ := HS1.out
      refine ⟨j + 1, by omega, by go_num, ?_, HBj.out.grown hg1 HBj.out.size HOj.out, fun b hb => ?_⟩
      ·rw [hnx.out.1]
       show SlAt _ _ _ _ _ _
       rw [List.length_append, Q8]
       exact hs1
      ·rcases hw1 with e | e
       ·exact HOj.out b (e.symm.trans hb)
       ·rw [e] at hb; cases hb; exact HBj.out.size
     case measure => simp [intOf]; omega
    ·have e : ls.take j = ls := List.take_of_length_le (by rw [← HN.out]; omega)
     rw [e] at HPj
     go_wp2_with fail
     go_ret
     exact ⟨_, rfl, HPj.out, HBj.out, HOj.out⟩
def uo (fr pg : Int) : Prop := 0 ≤ fr ∧ 1 ≤ pg ∧ fr < 4096 ∧ pg ≤ 4096 - fr
instance (fr pg : Int) : Decidable (uo fr pg) := inferInstanceAs (Decidable (_ ∧ _ ∧ _ ∧ _))
theorem Xf (w : World) (fr pg : Int) : Calls Tryz.prog 144 #[.int .i64 fr, .int .i64 pg] w fun e w' => e = .returned (.bool (decide (uo fr pg))) ∧ w' = w := by
 obtain ⟨s, hs⟩ : ∃ s, s = decide (uo fr pg) := ⟨_, rfl⟩
 have HS := Lib.hid hs
 rw [← hs]
 clear hs
 by_cases c1 : 0 ≤ fr
 ·by_cases c2 : 1 ≤ pg
  ·by_cases c3 : fr < 4096
   ·have hw : IntKind.i64.wrap (4096 - fr) = 4096 - fr := by simp [IntKind.wrap, IntKind.bits, IntKind.signed]; omega
    by_cases c4 : pg ≤ 4096 - fr
    ·obtain rfl : s = true := by rw [HS.out]; exact decide_eq_true ⟨c1, c2, c3, c4⟩
     clear HS
     go_enter Tryz.func144, Tryz.ntmps144
     go_wp2_with fail
     go_ret
     exact ⟨rfl, rfl⟩
    ·obtain rfl : s = false := by rw [HS.out]; exact decide_eq_false (fun h => c4 h.2.2.2)
     clear HS
     have c4' : 4096 - fr < pg := by omega
     go_enter Tryz.func144, Tryz.ntmps144
     go_wp2_with fail
     go_ret
     exact ⟨by first | rfl | simp, rfl⟩
   ·obtain rfl : s = false := by rw [HS.out]; exact decide_eq_false (fun h => c3 h.2.2.1)
    clear HS
    go_enter Tryz.func144, Tryz.ntmps144
    go_wp2_with fail
    go_ret
    exact ⟨rfl, rfl⟩
  ·obtain rfl : s = false := by rw [HS.out]; exact decide_eq_false (fun h => c2 h.2.1)
   clear HS
   go_enter Tryz.func144, Tryz.ntmps144
   go_wp2_with fail
   go_ret
   exact ⟨rfl, rfl⟩
 ·obtain rfl : s = false := by rw [HS.out]; exact decide_eq_false (fun h => c1 h.1)
  clear HS
  go_enter Tryz.func144, Tryz.ntmps144
  go_wp2_with fail
  go_ret
  exact ⟨rfl, rfl⟩
theorem Ut (w : World) (b off c n : Nat) (vs : List Value) (ls : List (List Ar)) (h : Parts w b off vs ls) (hn : n = ls.length) (hn5 : n ≤ 5) (hlen : sumL ls ≤ 1000) :
  Calls Tryz.prog 146 #[.slice (some ⟨b, off, none⟩) n c] w fun e w' => ∃ v' x, e = .returned (.tuple #[v', .int .i64 x]) ∧ Below w.heap.size w w' ∧ (∀ b, v'.ownBlock = some b → w.heap.size ≤ b) ∧
   (ls.flatten.length ≤ 16 → x = 0 ∧ ArAt w' v' ls.flatten) ∧ (16 < ls.flatten.length → x = 4 ∧ v' = .slice none 0 0) := by
 have hc := Lib.hid (zdd w b off c n vs ls h hn hn5 hlen)
 have hll : ls.flatten.length ≤ 1000 := by rw [zb4]; exact hlen
 obtain ⟨fl, hfl⟩ : ∃ fl, fl = ls.flatten := ⟨_, rfl⟩
 rw [← hfl] at hc hll ⊢
 clear h hn hfl hlen
 go_enter Tryz.func146, Tryz.ntmps146
 go_wp2_with fail
 refine hc.out.mono ?_
 rintro e w2 ⟨v2, rfl, hp2, b2, ho2⟩
 obtain ⟨a2, c2, rfl, _, _⟩ := SlAt.form hp2
 have HP2 := Lib.hid hp2
 have HB2 := Lib.hid b2
 have HO2 := Lib.hid ho2
 clear hp2 b2 ho2 hc
 by_cases h16 : 16 < fl.length
 ·have h16' : (16 : Int) < fl.length := by omega
  go_wp2_with fail
  exact bodyPost_ret (v := .tuple #[.slice none 0 0, .int .i64 4]) (by simp [results, Tryz.results146, go_sem]) rfl ⟨_, 4, rfl, HB2.out, by simp [Value.ownBlock], fun h => by omega, fun _ => ⟨rfl, rfl⟩⟩
 ·have h16' : ¬ (16 : Int) < fl.length := by omega
  go_wp2_with fail
  refine (zar w2 _ fl HP2.out).mono ?_
  rintro e w3 ⟨v3, rfl, hp3, rfl, ho3⟩
  obtain ⟨a3, c3, rfl, _, _⟩ := SlAt.form hp3
  have HP3 := Lib.hid hp3
  have HO3 := Lib.hid ho3
  clear hp3 ho3
  go_wp2_with fail
  exact bodyPost_ret (v := .tuple #[.slice a3 fl.length c3, .int .i64 0]) (by simp [results, Tryz.results146, go_sem]) rfl ⟨_, 0, rfl, HB2.out, fun b hb => HO2.out b (by rw [← HO3.out]; exact hb), fun _ => ⟨rfl, HP3.out⟩, fun h => by omega⟩
theorem Parts.two {w : World} {v1 v2 : Value} {l1 l2 : List Ar} (h1 : ArAt w v1 l1) (h2 : ArAt w v2 l2) (T : TypeId) : Parts (w.alloc (.cells #[v1, v2] T)) w.heap.size 0 [v1, v2] [l1, l2] := by
 have hb : Below w.heap.size w (w.alloc (.cells #[v1, v2] T)) := (Below.refl _ _).alloc (Nat.le_refl _) _
 refine ⟨rfl, fun j v hv => ?_, fun j v l hv hl => ?_⟩
 ·rw [cell_of_row _ _ _ _ _ _ (heap_alloc_new w (.cells #[v1, v2] T))]
  rw [Nat.zero_add]
  simpa using hv
 ·match j with
  | 0 => cases hv; cases hl; exact h1.below hb
  | 1 => cases hv; cases hl; exact h2.below hb
  | j + 2 => simp at hv
def cutA (l : List Ar) (fr pg : Int) : List Ar := zo l 0 fr ++ zo l (fr + pg) 4096
set_option maxRecDepth 100000 in
set_option maxHeartbeats 4000000 in
theorem zky (w : World) (v : Value) (l : List Ar) (h : ArRd w v l) (hl : ∀ a ∈ l, a.yu) (hlen : l.length ≤ 100) (fr pg : Int) :
  Calls Tryz.prog 89 #[v, .int .i64 fr, .int .i64 pg] w fun e w' => ∃ v' x, e = .returned (.tuple #[v', .int .i64 x]) ∧ Below w.heap.size w w' ∧ (∀ b, v'.ownBlock = some b → w.heap.size ≤ b) ∧
   (¬ uo fr pg → x = 1 ∧ v' = .slice none 0 0) ∧ (uo fr pg → (cutA l fr pg).length ≤ 16 → x = 0 ∧ ArAt w' v' (cutA l fr pg)) ∧ (uo fr pg → 16 < (cutA l fr pg).length → x = 4 ∧ v' = .slice none 0 0) := by
 by_cases hr : uo fr pg
 ·have hsp := Lib.hid (J2 w v l h hl hlen fr pg (by obtain ⟨r1, r2, r3, r4⟩ := hr; omega))
  have hrw := Xf w fr pg
  rw [decide_eq_true hr] at hrw
  have hcl : Hid ((zo l 0 fr).length ≤ 100 ∧ (zo l (fr + pg) 4096).length ≤ 100) := ⟨by have := uf l 0 fr; omega, by have := uf l (fr + pg) 4096; omega⟩
  have hcut : Hid (cutA l fr pg = [zo l 0 fr, zo l (fr + pg) 4096].flatten) := by show _ = _; simp [cutA]
  have HRW := Lib.hid hrw
  have HR := Lib.hid hr
  obtain ⟨av, cv, rfl, _, _⟩ := ArRd.fm h
  clear h hl hlen hrw hr
  go_enter Tryz.func89, Tryz.ntmps89
  go_wp2_with fail
  refine HRW.out.mono ?_
  rintro e w1 ⟨rfl, rfl⟩
  go_wp2_with fail
  refine hsp.out.mono ?_
  rintro e w2 ⟨v1, v2, v3, rfl, ht, b2⟩
  obtain ⟨A1, hA1⟩ : ∃ A1, A1 = zo l 0 fr := ⟨_, rfl⟩
  obtain ⟨A3, hA3⟩ : ∃ A3, A3 = zo l (fr + pg) 4096 := ⟨_, rfl⟩
  rw [← hA1, ← hA3] at ht hcl hcut
  clear hA1 hA3
  obtain ⟨a1, c1, rfl, _, _⟩ := SlAt.form ht.a1
  obtain ⟨a2, c2, rfl, _, _⟩ := SlAt.form ht.a2
  obtain ⟨a3, c3, rfl, _, _⟩ := SlAt.form ht.a3
  have HT := Lib.hid ht
  have HB := Lib.hid b2
  clear ht b2 hsp
  go_wp2_with fail
  refine (Ut _ w2.heap.size 0 2 2 _ _ (Parts.two HT.out.a1 HT.out.a3 _) rfl (by omega) (by have h := hcl.out; simp [sumL]; omega)).mono ?_
  rintro e w3 ⟨v', x, rfl, b3, ho3, hs3, hb3⟩
  rw [← hcut.out] at hs3 hb3
  have H3 := Lib.hid (And.intro b3 (And.intro ho3 (And.intro hs3 hb3)))
  clear b3 ho3 hs3 hb3
  go_wp2_with fail
  have ba : Below w1.heap.size w1 (w2.alloc (.cells #[.slice a1 A1.length c1, .slice a3 A3.length c3] 104)) := HB.out.alloc HB.out.size _
  obtain ⟨b3, ho3, hs3, hb3⟩ := H3.out
  refine bodyPost_ret (v := .tuple #[v', .int .i64 x]) (by simp [results, Tryz.results89, go_sem]) rfl ⟨v', x, rfl, ba.trans (b3.mono ba.size), fun b hb => Nat.le_trans ba.size (ho3 b hb), fun h => absurd HR.out h, fun _ h => hs3 h, fun _ h => hb3 h⟩
 ·have hrw := Xf w fr pg
  rw [decide_eq_false hr] at hrw
  have HRW := Lib.hid hrw
  have HR := Lib.hid hr
  obtain ⟨av, cv, rfl, _, _⟩ := ArRd.fm h
  clear h hl hlen hrw hr
  go_enter Tryz.func89, Tryz.ntmps89
  go_wp2_with fail
  refine HRW.out.mono ?_
  rintro e w1 ⟨rfl, rfl⟩
  go_wp2_with fail
  exact bodyPost_ret (v := .tuple #[.slice none 0 0, .int .i64 1]) (by simp [results, Tryz.results89, go_sem]) rfl ⟨_, 1, rfl, Below.refl _ _, by simp [Value.ownBlock], fun _ => ⟨rfl, rfl⟩, fun h => absurd h HR.out, fun h => absurd h HR.out⟩
end Go.Proofs.YtnhdmnijiphjjaaGreat
namespace Go.Proofs
open Go.Shelf
def YtnhdmnijiphjjaaGreat.Y8 : Go.Shelf.Ren := ⟨fun | 8 => 121 | 6 => 165 | n => n, fun | 22 => 104 | 23 => 32 | 25 => 188 | 4 => 4 | 3 => 3 | 0 => 0 | n => n, fun | n => n⟩
theorem YtnhdmnijiphjjaaGreat.Ud : Go.Proofs.SlLaysH0.n8 Tryz.prog YtnhdmnijiphjjaaGreat.Y8 := {
 mixed := by kernel_rfl
 f6 := ⟨Tryz.f165.name, by decide, Tryz.func165.trans (congrArg some (by kernel_rfl))⟩
 f8 := ⟨Tryz.f121.name, by decide, Tryz.func121.trans (congrArg some (by kernel_rfl))⟩
 t0 := Tryz.underlying0
 a0 := Tryz.isAgg0
 z0 := Tryz.sizeOf0
 v0 := Tryz.zeroValue0
 t3 := Tryz.underlying3
 a3 := Tryz.isAgg3
 z3 := Tryz.sizeOf3
 v3 := Tryz.zeroValue3
 t4 := Tryz.underlying4
 a4 := Tryz.isAgg4
 z4 := Tryz.sizeOf4
 v4 := Tryz.zeroValue4
 t22 := Tryz.underlying104
 a22 := Tryz.isAgg104
 z22 := Tryz.sizeOf104
 v22 := Tryz.zeroValue104
 t25 := Tryz.underlying188
 a25 := Tryz.isAgg188
 z25 := Tryz.sizeOf188
 v25 := Tryz.zeroValue188 }
def YtnhdmnijiphjjaaGreat.Jo : Go.Shelf.Ren := ⟨fun | 41 => 109 | n => n, fun | 22 => 104 | 23 => 32 | 4 => 4 | n => n, fun | n => n⟩
theorem YtnhdmnijiphjjaaGreat.zab : Go.Proofs.SlLaysE0.n41 Tryz.prog YtnhdmnijiphjjaaGreat.Jo := {
 mixed := by kernel_rfl
 f41 := ⟨Tryz.f109.name, by decide, Tryz.func109.trans (congrArg some (by kernel_rfl))⟩
 t4 := Tryz.underlying4
 a4 := Tryz.isAgg4
 z4 := Tryz.sizeOf4
 v4 := Tryz.zeroValue4
 t22 := Tryz.underlying104
 a22 := Tryz.isAgg104
 z22 := Tryz.sizeOf104
 v22 := Tryz.zeroValue104 }
def YtnhdmnijiphjjaaGreat.zbd : Go.Shelf.Ren := ⟨fun | 6 => 122 | 15 => 129 | 14 => 166 | 28 => 179 | 29 => 180 | 20 => 203 | 21 => 204 | 22 => 205 | 23 => 206 | 24 => 207 | 25 => 208 | 26 => 209 | 27 => 210 | 46 => 230 | 47 => 216 | 48 => 217 | 49 => 231 | 50 => 232 | 57 => 250 | n => n, fun | 22 => 104 | 24 => 32 | 25 => 191 | 3 => 3 | 39 => 195 | 0 => 0 | 53 => 254 | 55 => 145 | 4 => 4 | 46 => 248 | 45 => 247 | 50 => 126 | 5 => 5 | 9 => 9 | 66 => 281 | 70 => 285 | 76 => 299 | 77 => 167 | n => n, fun | n => n⟩
theorem YtnhdmnijiphjjaaGreat.zht : Go.Proofs.SlLaysF0.n6 Tryz.prog YtnhdmnijiphjjaaGreat.zbd := {
 mixed := by kernel_rfl
 f6 := ⟨Tryz.f122.name, by decide, Tryz.func122.trans (congrArg some (by kernel_rfl))⟩
 f14 := ⟨Tryz.f166.name, by decide, Tryz.func166.trans (congrArg some (by kernel_rfl))⟩
 f15 := Tryz.func129.trans (congrArg some (by kernel_rfl))
 f20 := ⟨Tryz.f203.name, by decide, Tryz.func203.trans (congrArg some (by kernel_rfl))⟩
 f21 := ⟨Tryz.f204.name, by decide, Tryz.func204.trans (congrArg some (by kernel_rfl))⟩
 f22 := ⟨Tryz.f205.name, by decide, Tryz.func205.trans (congrArg some (by kernel_rfl))⟩
 f23 := ⟨Tryz.f206.name, by decide, Tryz.func206.trans (congrArg some (by kernel_rfl))⟩
 f24 := ⟨Tryz.f207.name, by decide, Tryz.func207.trans (congrArg some (by kernel_rfl))⟩
 f25 := ⟨Tryz.f208.name, by decide, Tryz.func208.trans (congrArg some (by kernel_rfl))⟩
 f26 := ⟨Tryz.f209.name, by decide, Tryz.func209.trans (congrArg some (by kernel_rfl))⟩
 f27 := ⟨Tryz.f210.name, by decide, Tryz.func210.trans (congrArg some (by kernel_rfl))⟩
 f28 := Tryz.func179.trans (congrArg some (by kernel_rfl))
 f29 := Tryz.func180.trans (congrArg some (by kernel_rfl))
 f46 := ⟨Tryz.f230.name, by decide, Tryz.func230.trans (congrArg some (by kernel_rfl))⟩
 f47 := Tryz.func216.trans (congrArg some (by kernel_rfl))
 f48 := Tryz.func217.trans (congrArg some (by kernel_rfl))
 f49 := ⟨Tryz.f231.name, by decide, Tryz.func231.trans (congrArg some (by kernel_rfl))⟩
 f50 := ⟨Tryz.f232.name, by decide, Tryz.func232.trans (congrArg some (by kernel_rfl))⟩
 f57 := ⟨Tryz.f250.name, by decide, Tryz.func250.trans (congrArg some (by kernel_rfl))⟩
 t0 := Tryz.underlying0
 a0 := Tryz.isAgg0
 z0 := Tryz.sizeOf0
 v0 := Tryz.zeroValue0
 t3 := Tryz.underlying3
 a3 := Tryz.isAgg3
 z3 := Tryz.sizeOf3
 v3 := Tryz.zeroValue3
 t4 := Tryz.underlying4
 a4 := Tryz.isAgg4
 z4 := Tryz.sizeOf4
 v4 := Tryz.zeroValue4
 t5 := Tryz.underlying5
 a5 := Tryz.isAgg5
 z5 := Tryz.sizeOf5
 v5 := Tryz.zeroValue5
 t9 := Tryz.underlying9
 a9 := Tryz.isAgg9
 z9 := Tryz.sizeOf9
 v9 := Tryz.zeroValue9
 t22 := Tryz.underlying104
 a22 := Tryz.isAgg104
 z22 := Tryz.sizeOf104
 v22 := Tryz.zeroValue104
 t25 := Tryz.underlying191
 a25 := Tryz.isAgg191
 z25 := Tryz.sizeOf191
 v25 := Tryz.zeroValue191
 t39 := Tryz.underlying195
 a39 := Tryz.isAgg195
 z39 := Tryz.sizeOf195
 v39 := Tryz.zeroValue195
 t45 := Tryz.underlying247
 a45 := Tryz.isAgg247
 z45 := Tryz.sizeOf247
 v45 := Tryz.zeroValue247
 t46 := Tryz.underlying248
 a46 := Tryz.isAgg248
 z46 := Tryz.sizeOf248
 v46 := Tryz.zeroValue248
 t50 := Tryz.underlying126
 a50 := Tryz.isAgg126
 z50 := Tryz.sizeOf126
 v50 := Tryz.zeroValue126
 t53 := Tryz.underlying254
 a53 := Tryz.isAgg254
 z53 := Tryz.sizeOf254
 v53 := Tryz.zeroValue254
 t55 := Tryz.underlying145
 a55 := Tryz.isAgg145
 z55 := Tryz.sizeOf145
 v55 := Tryz.zeroValue145
 t66 := Tryz.underlying281
 a66 := Tryz.isAgg281
 z66 := Tryz.sizeOf281
 v66 := Tryz.zeroValue281
 t70 := Tryz.underlying285
 a70 := Tryz.isAgg285
 z70 := Tryz.sizeOf285
 v70 := Tryz.zeroValue285
 t76 := Tryz.underlying299
 a76 := Tryz.isAgg299
 z76 := Tryz.sizeOf299
 v76 := Tryz.zeroValue299
 t77 := Tryz.underlying167
 a77 := Tryz.isAgg167
 z77 := Tryz.sizeOf167
 v77 := Tryz.zeroValue167 }
end Go.Proofs
namespace Go.Proofs.YtnhdmnijiphjjaaGreat
open Go Go.RowKit
instance : Inhabited Ar := ⟨⟨0, 0, false, 0, 0, 0⟩⟩
def Us (a b : Ar) : Bool := decide (a.from_ < wrap64 (b.from_ + b.pages)) && decide (b.from_ < wrap64 (a.from_ + a.pages))
theorem zfs (w : World) (B : Nat) (a : Ar) (hB : B < w.heap.size) (h0 : w.cell? ⟨B, 0, none⟩ = some (.int .i64 a.from_)) (h1 : w.cell? ⟨B, 1, none⟩ = some (.int .i64 a.pages)) :
  PredBelow Tryz.prog 119 #[.pointer (some ⟨B, 0, none⟩)] (fun x : Ar => .agg x.cells.toArray) (fun x => Us a x) w := by
 intro W x hb
 have g0 := (hb.cell (p := ⟨B, 0, none⟩) hB).trans h0
 have g1 := (hb.cell (p := ⟨B, 1, none⟩) hB).trans h1
 have hBW : B < W.heap.size := Nat.lt_of_lt_of_le hB hb.size
 have HB := Lib.hid hb
 clear hb h0 h1
 obtain ⟨f, p, wt, k, fi, o⟩ := x
 obtain ⟨f1, p1, wt1, k1, fi1, o1⟩ := a
 simp only [Ar.cells] at g0 g1 ⊢
 unfold Us
 simp only
 by_cases c1 : f1 < wrap64 (f + p)
 ·rw [decide_eq_true c1, Bool.true_and]
  go_enter Tryz.func119, Tryz.ntmps119
  go_wp2_with fail
  go_ret
  exact ⟨rfl, HB.out.alloc HB.out.size _⟩
 ·rw [decide_eq_false c1, Bool.false_and]
  go_enter Tryz.func119, Tryz.ntmps119
  go_wp2_with fail
  go_ret
  exact ⟨rfl, HB.out.alloc HB.out.size _⟩
theorem ArRd.hc {w : World} {b off c n : Nat} {l : List Ar} (h : ArRd w (.slice (some ⟨b, off, none⟩) n c) l) :
  ∀ j, j < l.length → ∀ i v, (Ar.cells l[j]!)[i]? = some v → w.cell? ⟨b, off + j * 6 + i, none⟩ = some v := by
 intro j hj i v hv
 obtain ⟨g, off', c', e, _, _, hx⟩ := SlRd.cells h (by rw [vk]; omega)
 cases e
 rw [getElem!_pos l j hj] at hv
 rw [Nat.add_assoc]
 exact hx _ _ (zam (List.getElem?_eq_getElem hj) hv)
theorem Jr (w : World) (v : Value) (l : List Ar) (h : ArRd w v l) (B : Nat) (a : Ar) (hB : B < w.heap.size) (h0 : w.cell? ⟨B, 0, none⟩ = some (.int .i64 a.from_)) (h1 : w.cell? ⟨B, 1, none⟩ = some (.int .i64 a.pages)) :
  Calls Tryz.prog 121 #[v, .func (.func 119) #[] #[.pointer (some ⟨B, 0, none⟩)]] w fun e w' => e = .returned (.bool (l.any fun x => Us a x)) ∧ Below w.heap.size w w' := by
 rcases h.form with ⟨rfl, rfl⟩ | ⟨b, off, c, rfl, hcc, hm, hb⟩
 ·simp only [List.any_nil]
  go_enter Tryz.func121, Tryz.ntmps121
  go_wp2
  refine wp_loop_rounds 1 ?_
  rw [rounds_succ]
  go_wp2
  go_ret
  exact ⟨rfl, Below.refl _ _⟩
 ·have eg : ∀ args w, (callFunc 119 args).run Tryz.prog w = .ok (.enter 119 args) w := enters_of Tryz.func119 (by kernel_rfl) rfl
  have := AnyQ.slices_ContainsFunc Ud 6 (fun w => by kernel_rfl) (fun w => by kernel_rfl) Ar.cells Ar.vg (fun x => Us a x) 119 #[.pointer (some ⟨B, 0, none⟩)] eg b off l.length c l w (zfs w B a hB h0 h1) (Nat.le_refl _) (by unfold maxLen at hm; omega) hb h.hc
  rw [List.take_length] at this
  exact this
theorem zdx {w : World} {base : Nat} {v : Value} {l : List Ar} (h : w.ownsRow base 32 6 v l.length (ar l)) : ArAt w v l := by
 refine ⟨h.1, ?_⟩
 rcases h.2 with h0 | ⟨g, cap, cur, e, hg, hc, hn, hm, hs, ht⟩
 ·exact .inl h0
 ·refine .inr ⟨g, 0, cap, cur, e, hc, hn, hm, by omega, fun j u hu => ?_⟩
  rw [← ht] at hu
  have hj := (List.getElem?_eq_some_iff.1 hu).1
  rw [List.getElem?_take_of_lt (by simp at hj; omega)] at hu
  simpa using hu
theorem zed (w : World) (v : Value) (l : List Ar) (h : ArRd w v l) (hl : l.length ≤ 1000000) :
  Calls Tryz.prog 109 #[v] w fun e w' => ∃ a c, e = .returned (.slice a l.length c) ∧ Jq w.heap.size w' 32 6 (.slice a l.length c) l.length (ar l) ∧ Below w.heap.size w w' := by
 rcases h.form with ⟨rfl, rfl⟩ | ⟨b, off, c, rfl, hc, hm, hb⟩
 ·refine (AnyE.slices_Clone_nil zab 0 0 w).mono ?_
  rintro e w' ⟨rfl, rfl⟩
  exact ⟨_, _, rfl, .inl ⟨SlAt.nil w' _ _, by simp [Value.ownBlock]⟩, Below.refl _ _⟩
 ·obtain ⟨i, hi, hz, hs, hby⟩ := U8
  have := AnyE.slices_Clone zab i _ 6 48 hi hz hs hby (by rfl) (by omega) (fun w => by kernel_rfl) b off l.length c (ar l) w (vk l) (by unfold maxLen; omega) (by omega) (fun j u hu => by
   obtain ⟨g, off', c', e, _, _, hx⟩ := SlRd.cells h (by have := (List.getElem?_eq_some_iff.1 hu).1; omega)
   cases e
   exact hx j u hu) (zak l)
  refine this.mono ?_
  rintro e w' ⟨v', rfl, hown, hne, hB⟩
  have hat : ArAt w' v' l := zdx hown
  obtain ⟨a, c', rfl, _, _⟩ := SlAt.form hat
  refine ⟨a, c', rfl, .inl ⟨hat, ?_⟩, hB⟩
  intro b' hb'
  rcases hown.2 with ⟨e, _⟩ | ⟨g, cap, cur, e, hg, _⟩
  ·exact absurd e hne
  ·cases e; simp [Value.ownBlock] at hb'; omega
def Jp (x y : Int) : Int := if x < y then -1 else if y < x then 1 else 0
theorem zm8 (x y : Int) (w : World) : Calls Tryz.prog 131 #[.int .i64 x, .int .i64 y] w fun e w' => e = .returned (.int .i64 (Jp x y)) ∧ w' = w := by
 by_cases h1 : x < y
 ·rw [show Jp x y = -1 by simp [Jp, h1]]
  go_enter Tryz.func131, Tryz.ntmps131
  go_wp2
  go_ret
  exact ⟨rfl, rfl⟩
 ·by_cases h2 : y < x
  ·rw [show Jp x y = 1 by simp [Jp, h1, h2]]
   go_enter Tryz.func131, Tryz.ntmps131
   go_wp2
   go_ret
   exact ⟨rfl, rfl⟩
  ·rw [show Jp x y = 0 by simp [Jp, h1, h2]]
   go_enter Tryz.func131, Tryz.ntmps131
   go_wp2
   go_ret
   exact ⟨rfl, rfl⟩
def cmpA (x y : Ar) : Int := Jp x.from_ y.from_
theorem zbu (w : World) (x y : Ar) :
  Calls Tryz.prog 123 #[.agg x.cells.toArray, .agg y.cells.toArray] w fun e w' => e = .returned (.int .i64 (cmpA x y)) ∧ ∃ q os', w' = Sort.grow (w.drewN q) os' := by
 obtain ⟨f, p, wt, k, fi, o⟩ := x
 obtain ⟨f1, p1, wt1, k1, fi1, o1⟩ := y
 unfold cmpA
 simp only [Ar.cells]
 generalize hu : Jp f f1 = u
 have c1 := Lib.hid (fun W => zm8 f f1 W)
 rw [hu] at c1
 clear hu
 go_enter Tryz.func123, Tryz.ntmps123
 go_wp2_with fail
 refine (c1.out _).mono ?_
 rintro e w' ⟨rfl, rfl⟩
 go_wp2_with fail
 go_ret
 refine ⟨rfl, 0, #[.cells #[.int .i64 f, .int .i64 p, .bool wt, .int .i64 k, .int .i64 fi, .int .i64 o] 32, .cells #[.int .i64 f1, .int .i64 p1, .bool wt1, .int .i64 k1, .int .i64 fi1, .int .i64 o1] 32], ?_⟩
 simp only [Sort.alloc_eq_grow, Sort.grow_grow]
 rfl
theorem Vn (x y : Ar) : ltOf cmpA x y = decide (x.from_ < y.from_) := by
 unfold ltOf cmpA Jp
 congr 1
 simp only [eq_iff_iff]
 split <;> (repeat' split at *) <;> omega
theorem swoA : Sort.SWO (ltOf cmpA) where
 irrefl x := by rw [Vn]; simp
 trans x y z h1 h2 := by rw [Vn] at *; simp only [decide_eq_true_eq] at *; omega
 ntrans x y z h1 h2 := by
  rw [Vn] at *
  simp only [decide_eq_false_iff_not] at *
  omega
theorem Jj {α : Type} [Inhabited α] (enc : α → Value) (off : Nat) (d : Array α) (c : Array Value) : (Sort.putCells enc off d c).size = c.size := by simp [Sort.putCells]
theorem zh9 (l : List Ar) : Sort.flatK Ar.cells 6 l.toArray = (ar l).toArray := by
 refine Sort.ext_get! (by rw [Sort.size_flatK]; simp [vk]) fun t ht => ?_
 have ht' : t < l.length * 6 := by simpa using ht
 rw [Sort.get_flatK _ _ _ t (by simpa using ht')]
 have hq : t / 6 < l.length := by omega
 have e0 : (l.toArray)[t / 6]! = l[t / 6] := by rw [getElem!_pos _ _ (by simpa using hq)]; simp
 have hm : t % 6 < (l[t / 6]).cells.length := by rw [Ar.vg]; omega
 have h1 := zam (List.getElem?_eq_getElem hq) (List.getElem?_eq_getElem hm)
 rw [show t / 6 * 6 + t % 6 = t by omega] at h1
 rw [e0, getElem!_pos (ar l).toArray t (by simp [vk]; omega), getElem!_pos (l[t / 6]).cells (t % 6) hm]
 simp only [List.getElem_toArray]
 rw [(List.getElem?_eq_some_iff.1 h1).2]
theorem zdj {w : World} {b off c : Nat} {l l' : List Ar} (h : ArAt w (.slice (some ⟨b, off, none⟩) l.length c) l) (hl : l'.length = l.length) (n : Nat) (os : Array Obj) :
  ArAt (sortWorldK Ar.cells 6 w b off n l'.toArray os) (.slice (some ⟨b, off, none⟩) l.length c) l' ∧ Touch [b] w (sortWorldK Ar.cells 6 w b off n l'.toArray os) := by
 obtain ⟨arr, hg, hnc, hm, hfit, hx⟩ : ∃ arr, w.heap[b]? = some (.cells arr 32 (0, 0)) ∧ l.length ≤ c ∧ c ≤ maxLen ∧ off + c * 6 ≤ arr.size ∧ ∀ j u, (ar l)[j]? = some u → arr[off + j]? = some u := by
  rcases h.2 with ⟨e, _⟩ | ⟨b', off', c', arr, e, rest⟩
  ·cases e
  ·cases e; exact ⟨arr, rest⟩
 have hb : b < w.heap.size := (Array.getElem?_eq_some_iff.1 hg).1
 obtain ⟨F, hF⟩ : ∃ F, F = (ar l').toArray := ⟨_, rfl⟩
 have hFs : F.size = l.length * 6 := by rw [hF]; simp [vk, hl]
 have hheap : (sortWorldK Ar.cells 6 w b off n l'.toArray os).heap = w.heap.modify b (Sort.onCells (Sort.putCells id off F)) ++ os := by
  unfold sortWorldK Sort.putRowK
  rw [zh9, ← hF]
  rfl
 have hbk : (sortWorldK Ar.cells 6 w b off n l'.toArray os).heap[b]? = some (.cells (Sort.putCells id off F arr) 32 (0, 0)) := by
  rw [hheap, Array.getElem?_append_left (by simpa using hb), Array.getElem?_modify, if_pos rfl, hg]
  rfl
 constructor
 ·show SlAt _ _ _ _ _ _
  rw [hl]
  refine ⟨by rw [vk, hl], .inr ⟨b, off, c, _, rfl, hbk, hnc, hm, by rw [Jj]; exact hfit, fun j u hu => ?_⟩⟩
  have hj := (List.getElem?_eq_some_iff.1 hu).1
  rw [vk, hl] at hj
  have hja : off + j < arr.size := by have := Nat.mul_le_mul_right 6 hnc; omega
  simp only [Sort.putCells, Array.getElem?_mapIdx, Array.getElem?_eq_getElem hja, Option.map_some]
  rw [if_pos ⟨by omega, by rw [hFs]; omega⟩, show off + j - off = j by omega, getElem!_pos F j (by rw [hFs]; exact hj)]
  have : F[j]? = some u := by rw [hF]; simpa using hu
  rw [Array.getElem?_eq_getElem (by rw [hFs]; exact hj)] at this
  simpa using this
 ·refine ⟨rfl, rfl, rfl, by rw [hheap]; simp, fun k hk hne => ?_⟩
  rw [hheap, Array.getElem?_append_left (by simpa using hk), Array.getElem?_modify, if_neg (fun e => hne (by simp [e]))]
theorem zgj (w : World) (b off c : Nat) (l : List Ar) (h : ArAt w (.slice (some ⟨b, off, none⟩) l.length c) l) (hl : l.length ≤ 1000000) :
  Calls Tryz.prog 122 #[.slice (some ⟨b, off, none⟩) l.length c, .func (.func 123) #[] #[]] w fun e w' =>
   e = .returned (.tuple #[]) ∧ ∃ l', l'.Perm l ∧ l'.Pairwise (fun x y => ¬ y.from_ < x.from_) ∧ ArAt w' (.slice (some ⟨b, off, none⟩) l.length c) l' ∧ Touch [b] w w' := by
 have eg : ∀ args w, (callFunc 123 args).run Tryz.prog w = .ok (.enter 123 args) w := enters_of Tryz.func123 (by kernel_rfl) rfl
 have hH : Sort.HoldsK Ar.cells 6 w b off l.toArray := by
  unfold Sort.HoldsK
  rw [zh9]
  intro j hj
  have hj' : j < l.length * 6 := by simpa [vk] using hj
  obtain ⟨g, off', c', e, _, _, hx⟩ := SlAt.cells h (by rw [vk]; omega)
  cases e
  refine hx j _ ?_
  rw [getElem!_pos ((ar l).toArray) j hj]
  simp
 have hb : b < w.heap.size := SlAt.lt h b rfl
 have := AnyQ.slices_SortFunc zht 6 (fun w => by kernel_rfl) (fun w => by kernel_rfl) Ar.cells Ar.vg Ar.cells_one cmpA swoA 123 #[] b off c l.toArray w eg (fun m os dk _ x y => zbu _ x y) hH hb (by simp; omega)
 simp only [List.size_toArray] at this
 refine this.mono ?_
 rintro e w' ⟨rfl, d', n, os, hp, hs, rfl⟩
 obtain ⟨hp1, _, hp3⟩ := hp
 have hsz : d'.toList.length = l.length := by simpa using hp1
 have ed : d' = d'.toList.toArray := by simp
 have hw := zdj h hsz n os
 rw [← ed] at hw
 refine ⟨rfl, d'.toList, ?_, ?_, hw.1, hw.2⟩
 ·have e1 : d'.extract 0 l.length = d' := by rw [← hsz]; simp
  have e2 : l.toArray.extract 0 l.length = l.toArray := by simp
  rw [e1, e2] at hp3
  simpa using hp3
 ·refine List.pairwise_iff_getElem.2 fun i j hi hj hij => ?_
  have := hs i j (Nat.zero_le _) hij (by rw [← hsz]; exact hj)
  rw [Vn, getElem!_pos d' j (by simpa using hj), getElem!_pos d' i (by simpa using hi)] at this
  simpa using this
def anyA (a : Ar) (l : List Ar) : Bool := l.any fun x => Us a x
theorem zi8 (w : World) (v : Value) (l : List Ar) (h : ArRd w v l) (B : Nat) (a : Ar) (hB : B < w.heap.size) (h0 : w.cell? ⟨B, 0, none⟩ = some (.int .i64 a.from_)) (h1 : w.cell? ⟨B, 1, none⟩ = some (.int .i64 a.pages)) :
  Calls Tryz.prog 121 #[v, .func (.func 119) #[] #[.pointer (some ⟨B, 0, none⟩)]] w fun e w' => e = .returned (.bool (anyA a l)) ∧ Below w.heap.size w w' := Jr w v l h B a hB h0 h1
structure znj (w' : World) (l : List Ar) (a : Ar) (v' : Value) (x : Int) : Prop where
 arg : ¬ a.yu → x = 1 ∧ v' = .slice none 0 0
 there : a.yu → anyA a l = true → x = 3 ∧ v' = .slice none 0 0
 full : a.yu → anyA a l = false → 16 ≤ l.length → x = 4 ∧ v' = .slice none 0 0
 done : a.yu → anyA a l = false → l.length < 16 → x = 0 ∧ ∃ l', ArAt w' v' l' ∧ l'.Perm (l ++ [a]) ∧ l'.Pairwise (fun x y => ¬ y.from_ < x.from_)
set_option maxRecDepth 100000 in
set_option maxHeartbeats 2000000 in
theorem zk3 (w : World) (v : Value) (l : List Ar) (h : ArRd w v l) (a : Ar) (hwf : a.Wf) (hlen : l.length ≤ 100) :
    Calls Tryz.prog 63 #[v, a.enc] w fun e w' => ∃ v' x, e = .returned (.tuple #[v', .int .i64 x]) ∧ Below w.heap.size w w' ∧ (∀ b, v'.ownBlock = some b → w.heap.size ≤ b) ∧ znj w' l a v' x := by
  have hsw := Lib.hid (fun W => zgi W a hwf)
  obtain ⟨av, cv, rfl, _, _⟩ := ArRd.fm h
  have H := Lib.hid h
  clear h hwf
  obtain ⟨s, hs⟩ : ∃ s, s = decide a.yu := ⟨_, rfl⟩
  have HS := Lib.hid hs
  obtain ⟨m, hm⟩ : ∃ m, m = anyA a l := ⟨_, rfl⟩
  have HM := Lib.hid hm
  rw [← hs] at hsw
  have hcf := Lib.hid (fun W B k1 k2 k3 k4 => zi8 W (.slice av l.length cv) l k1 B a k2 k3 k4)
  rw [← hm] at hcf
  clear hs hm
  have hSA := Lib.hid (ArAt.zjo w w.heap.size rfl a rfl)
  have hal : Hid (ar [a] = a.cells) := by show _ = _; simp [ar]
  obtain ⟨f, p, wt, k, fi, o⟩ := a
  unfold Ar.enc at hsw ⊢
  simp only at hsw hcf ⊢
  cases s
  · have hns : Hid (¬ Ar.yu ⟨f, p, wt, k, fi, o⟩) := by have := HS.out; show ¬ _; intro hh; rw [decide_eq_true hh] at this; cases this
    go_enter Tryz.func63, Tryz.ntmps63
    go_wp2_with fail
    refine (hsw.out _).mono ?_
    rintro e w1 ⟨rfl, b1⟩
    have B1 : Hid (Below w.heap.size w w1) := ((Below.refl _ _).alloc (Nat.le_refl _) _).trans (b1.mono (by simp))
    clear b1
    go_wp2_with fail
    exact bodyPost_ret (v := .tuple #[.slice none 0 0, .int .i64 1]) (by simp [results, Tryz.results63, go_sem]) rfl ⟨_, 1, rfl, B1.out, by simp [Value.ownBlock], ⟨fun _ => ⟨rfl, rfl⟩, fun h => absurd h hns.out, fun h => absurd h hns.out, fun h => absurd h hns.out⟩⟩
  · have hys : Hid (Ar.yu ⟨f, p, wt, k, fi, o⟩) := (of_decide_eq_true (p := Ar.yu ⟨f, p, wt, k, fi, o⟩) HS.out.symm)
    clear HS
    go_enter Tryz.func63, Tryz.ntmps63
    go_wp2_with fail
    refine (hsw.out _).mono ?_
    rintro e w1 ⟨rfl, b1⟩
    have B1 : Hid (Below w.heap.size w w1) := ((Below.refl _ _).alloc (Nat.le_refl _) _).trans (b1.mono (by simp))
    have K1 : Hid (w1.heap[w.heap.size]? = some (.cells #[.int .i64 f, .int .i64 p, .bool wt, .int .i64 k, .int .i64 fi, .int .i64 o] 32 (0, 0))) := (b1.block w.heap.size (by simp)).trans (heap_alloc_new w _)
    have S1 := Lib.hid (hSA.out.below b1)
    have q0 : w1.cell? ⟨w.heap.size, 0, none⟩ = some (.int .i64 f) := by rw [cell_of_row w1 _ 0 _ _ _ K1.out]; rfl
    have q1 : w1.cell? ⟨w.heap.size, 1, none⟩ = some (.int .i64 p) := by rw [cell_of_row w1 _ 1 _ _ _ K1.out]; rfl
    have H1 := Lib.hid (H.out.below B1.out)
    clear b1 hSA
    go_wp2_with fail
    refine (hcf.out w1 w.heap.size H1.out (Array.getElem?_eq_some_iff.1 K1.out).1 q0 q1).mono ?_
    rintro e w2 ⟨rfl, b2⟩
    have B2 := Lib.hid (B1.out.trans (b2.mono B1.out.size))
    have K2 := Lib.hid ((b2.block w.heap.size (Array.getElem?_eq_some_iff.1 K1.out).1).trans K1.out)
    have S2 := Lib.hid (S1.out.below b2)
    have H2 := Lib.hid (H1.out.below b2)
    clear b2 hcf q0 q1 H1 S1 K1 B1
    cases m
    · by_cases h16 : 16 ≤ l.length
      · have h16' : (16 : Int) ≤ l.length := by omega
        go_wp2_with fail
        exact bodyPost_ret (v := .tuple #[.slice none 0 0, .int .i64 4]) (by simp [results, Tryz.results63, go_sem]) rfl ⟨_, 4, rfl, B2.out, by simp [Value.ownBlock], ⟨fun h => absurd hys.out h, fun _ h => absurd (HM.out.trans h) (by simp), fun _ _ _ => ⟨rfl, rfl⟩, fun _ _ h => absurd h (by omega)⟩⟩
      · have h16' : ¬ (16 : Int) ≤ l.length := by omega
        go_wp2_with fail
        obtain ⟨i0, hi0, hz0, hs0, hb0⟩ := U8
        obtain ⟨W, hW⟩ : ∃ W, W = w2.drew := ⟨_, rfl⟩
        have hd : w2.drew = W := hW.symm
        have HW : Hid (Below w.heap.size w W ∧ W.heap.size = w2.heap.size ∧ W.heap[w.heap.size]? = some (.cells #[.int .i64 f, .int .i64 p, .bool wt, .int .i64 k, .int .i64 fi, .int .i64 o] 32 (0, 0)) ∧ ArRd W (.slice av l.length cv) l) := by
          rw [hW]
          exact ⟨B2.out.drew, by simp, K2.out, H2.out.below (Below.refl _ _).drew⟩
        have HC : Hid (∀ X, Below W.heap.size W X → Calls Tryz.prog 109 #[.slice av l.length cv] X fun e w' => ∃ a c, e = .returned (.slice a l.length c) ∧ Jq W.heap.size w' 32 6 (.slice a l.length c) l.length (ar l) ∧ Below X.heap.size X w') := fun X hX => (zed X _ l (HW.out.2.2.2.below hX) (by omega)).mono fun e w' ⟨a, c, h1, h2, h3⟩ => ⟨a, c, h1, h2.low hX.size, h3⟩
        have HQ : Hid (∀ X, Below W.heap.size W X → X.cell? ⟨w.heap.size, 0, none⟩ = some (.int .i64 f) ∧ X.cell? ⟨w.heap.size, 1, none⟩ = some (.int .i64 p) ∧ X.cell? ⟨w.heap.size, 2, none⟩ = some (.bool wt) ∧ X.cell? ⟨w.heap.size, 3, none⟩ = some (.int .i64 k) ∧ X.cell? ⟨w.heap.size, 4, none⟩ = some (.int .i64 fi) ∧ X.cell? ⟨w.heap.size, 5, none⟩ = some (.int .i64 o)) := fun X hX => by
          have hX' := (hX.block w.heap.size (Array.getElem?_eq_some_iff.1 HW.out.2.2.1).1).trans HW.out.2.2.1
          refine ⟨?_, ?_, ?_, ?_, ?_, ?_⟩
          · rw [cell_of_row X _ 0 _ _ _ hX']; rfl
          · rw [cell_of_row X _ 1 _ _ _ hX']; rfl
          · rw [cell_of_row X _ 2 _ _ _ hX']; rfl
          · rw [cell_of_row X _ 3 _ _ _ hX']; rfl
          · rw [cell_of_row X _ 4 _ _ _ hX']; rfl
          · rw [cell_of_row X _ 5 _ _ _ hX']; rfl
        obtain ⟨p0, p1, p2, p3, p4, p5⟩ := HQ.out W (Below.refl _ _)
        clear hW H2 K2 S2
        go_region_held_law (fun W' => W'.cell? ⟨w.heap.size, 0, none⟩ = some (.int .i64 f) ∧ W'.cell? ⟨w.heap.size, 1, none⟩ = some (.int .i64 p) ∧ W'.cell? ⟨w.heap.size, 2, none⟩ = some (.bool wt) ∧ W'.cell? ⟨w.heap.size, 3, none⟩ = some (.int .i64 k) ∧ W'.cell? ⟨w.heap.size, 4, none⟩ = some (.int .i64 fi) ∧ W'.cell? ⟨w.heap.size, 5, none⟩ = some (.int .i64 o)) (go_keep) (first
          | (go_at_call 109
             refine (HC.out _ (by first | exact Below.refl _ _ | exact (Below.refl _ _).alloc (Nat.le_refl _) _)).mono ?_
             rintro e w3 ⟨a3, c3, rfl, hp3, b3⟩
             have BW3 : Hid (Below W.heap.size W w3) := by first | exact b3 | exact ((Below.refl W.heap.size W).alloc (Nat.le_refl _) _).trans (b3.mono (by simp))
             have P3 := Lib.hid hp3
             have B3 := Lib.hid b3
             obtain ⟨r0, r1, r2, r3, r4, r5⟩ := HQ.out w3 BW3.out
             clear hp3 b3)
          | (refine Qk (B := W.heap.size) (by first | exact BW3.out.size | exact Nat.le_trans BW3.out.size (by simp)) rfl (.tmp 22) (.tmp 24) 104 rfl i0 _ 48 Tryz.underlying104 hi0 hz0 hs0 hb0 rfl (.slice a3 l.length c3) l.length (ar l) (by simp [Act.eval]) (by first | exact P3.out | exact P3.out.below ((Below.refl _ _).alloc (Nat.le_refl _) _)) _ 1 (ar [⟨f, p, wt, k, fi, o⟩]) (by simp [Act.eval]; rfl) (by first | exact (ArAt.zjo w3 _ rfl ⟨f, p, wt, k, fi, o⟩ rfl).rd | exact ((ArAt.zjo W _ rfl ⟨f, p, wt, k, fi, o⟩ rfl).below B3.out).rd) (by omega) (zak _) (by simp only [maxLen]; omega) (by omega) ?_
             intro v4 w4 hs4 hg4 ho4
             have BW4 : Hid (Below W.heap.size W w4) := by first | exact BW3.out.trans hg4 | exact (BW3.out.alloc BW3.out.size _).trans hg4
             have O4 : Hid (∀ b, v4.ownBlock = some b → W.heap.size ≤ b) := ho4
             obtain ⟨b4, off4, c4, rfl⟩ : ∃ b off c, v4 = .slice (some ⟨b, off, none⟩) (l.length + 1) c := by
               rcases SlAt.form hs4 with ⟨a4, c4, e, _, _⟩
               rcases hs4.2 with ⟨_, e2⟩ | ⟨b, off, c, arr, e2, _⟩
               · simp at e2
               · exact ⟨b, off, c, e2⟩
             have P4 : Hid (ArAt w4 (.slice (some ⟨b4, off4, none⟩) (l ++ [(⟨f, p, wt, k, fi, o⟩ : Ar)]).length c4) (l ++ [(⟨f, p, wt, k, fi, o⟩ : Ar)])) := by
               show SlAt _ _ _ _ _ _
               rw [List.length_append, Q8]
               exact hs4
             obtain ⟨z0, z1, z2, z3, z4, z5⟩ := HQ.out w4 BW4.out
             clear hs4 hg4 ho4 P3 B3 BW3 r0 r1 r2 r3 r4 r5))
        all_goals go_wp2_with fail
        all_goals (
          have hS := zgj w4 b4 off4 c4 (l ++ [(⟨f, p, wt, k, fi, o⟩ : Ar)]) P4.out (by simp; omega)
          rw [List.length_append] at hS
          refine hS.mono ?_
          rintro e w5 ⟨rfl, l', hperm, hsort, hp5, t5⟩
          have B5 : Hid (Below w.heap.size w w5) := by
            have h1 := HW.out.1.trans (BW4.out.mono HW.out.1.size)
            have h2 : w.heap.size ≤ b4 := Nat.le_trans HW.out.1.size (O4.out b4 rfl)
            exact Touch.from h1 t5 (Nat.le_trans HW.out.1.size BW4.out.size) (fun b hb => by simp at hb; omega)
          have P5 := Lib.hid hp5
          have Q5 := Lib.hid (And.intro hperm hsort)
          clear hS hperm hsort hp5 t5 z0 z1 z2 z3 z4 z5 p0 p1 p2 p3 p4 p5
          go_wp2_with fail
          refine (zar w5 _ l' P5.out).mono ?_
          rintro e w6 ⟨v6, rfl, hp6, rfl, ho6⟩
          have P6 := Lib.hid hp6
          have O6 := Lib.hid ho6
          clear hp6 ho6
          go_wp2_with fail
          exact bodyPost_ret (v := .tuple #[v6, .int .i64 0]) (by simp [results, Tryz.results63, go_sem]) rfl ⟨_, 0, rfl, B5.out, fun b hb => Nat.le_trans HW.out.1.size (O4.out b (by rw [← hb, O6.out]; rfl)), ⟨fun h => absurd hys.out h, fun _ h => absurd (HM.out.trans h) (by simp), fun _ _ h => absurd h h16, fun _ _ _ => ⟨rfl, l', P6.out, Q5.out.1, Q5.out.2.imp fun h => by omega⟩⟩⟩)
    · go_wp2_with fail
      exact bodyPost_ret (v := .tuple #[.slice none 0 0, .int .i64 3]) (by simp [results, Tryz.results63, go_sem]) rfl ⟨_, 3, rfl, B2.out, by simp [Value.ownBlock], ⟨fun h => absurd hys.out h, fun _ _ => ⟨rfl, rfl⟩, fun _ h => absurd (HM.out.trans h) (by simp), fun _ h => absurd (HM.out.trans h) (by simp)⟩⟩
end Go.Proofs.YtnhdmnijiphjjaaGreat
