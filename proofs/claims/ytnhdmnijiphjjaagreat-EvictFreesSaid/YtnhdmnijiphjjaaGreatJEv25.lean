/- Plain facts of what stores leave. No program in it. -/
import Derived.Test.YtnhdmnijiphjjaaGreatJEv24
import Derived.Test.YtnhdmnijiphjjaaGreatJEv20
import Derived.Test.YtnhdmnijiphjjaaGreatJEv14
import Derived.Test.YtnhdmnijiphjjaaGreatJEv19
set_option linter.unusedVariables false
set_option linter.unusedSimpArgs false
/- Plain facts of what stores leave. No program in it. -/
namespace Go.Proofs.YtnhdmnijiphjjaaGreat
open Go Go.RowKit
section
variable {X : Abs} {a : Ar} {n page : Nat}
theorem zf2 (X : Abs) (a : Ar) (n page k : Nat) (b : List UInt8) : (X.write a n page k b).A = X.A := by unfold Abs.write; split <;> rfl
theorem Jb (X : Abs) (a : Ar) (n page k : Nat) (b : List UInt8) (m pg : Nat) : ((X.own a n page).write a n page k b).area m pg = X.area m pg := zh6 (by rw [zf2, zd4]) m pg
theorem Yq (X : Abs) (a : Ar) (n page k : Nat) (b : List UInt8) (h : a.kind = 2) :
  ((X.own a n page).write a n page k b).pv = X.pv ∧ (∀ q, ((X.own a n page).write a n page k b).file q = if q = za.keyF a page then Abs.splice (X.file q) k b else X.file q) := by
 unfold Abs.write Abs.own
 rw [if_pos h, if_pos h]
 refine ⟨rfl, fun q => ?_⟩
 show (if q = za.keyF a page then Abs.splice (X.file (za.keyF a page)) k b else X.file q) = _
 by_cases e : q = za.keyF a page
 ·rw [if_pos e, if_pos e, e]
 ·rw [if_neg e, if_neg e]
theorem zhy (h : X.pv n page = .file) : X.ct a n page = X.file (za.keyF a page) := by unfold Abs.ct; rw [h]
theorem zhx {l : List UInt8} (h : X.pv n page = .own l) : X.ct a n page = l := by unfold Abs.ct; rw [h]
theorem za6 (X : Abs) (a : Ar) (n page k : Nat) (b : List UInt8) (h : a.kind ≠ 2) :
  (∀ m pg, ((X.own a n page).write a n page k b).pv m pg = if m = n ∧ pg = page then .own (Abs.splice (X.ct a n page) k b) else X.pv m pg) ∧ ((X.own a n page).write a n page k b).file = X.file := by
 have hct : (X.Uz n page (.own (X.ct a n page))).ct a n page = X.ct a n page := by
  exact zhx (X := X.Uz n page (.own (X.ct a n page))) (if_pos ⟨rfl, rfl⟩)
 unfold Abs.write Abs.own
 rw [if_neg h, if_neg h, hct]
 refine ⟨fun m pg => ?_, rfl⟩
 show (if m = n ∧ pg = page then _ else if m = n ∧ pg = page then _ else X.pv m pg) = _
 by_cases e : m = n ∧ pg = page
 ·rw [if_pos e, if_pos e]
 ·rw [if_neg e, if_neg e, if_neg e]
theorem Uy (l b : List UInt8) : Abs.splice l 0 b = b ++ l.drop b.length := by unfold Abs.splice; simp
theorem zco (l b : List UInt8) (n : Nat) (h : n = b.length) : ((Abs.splice l 0 b).drop 0).take n = b := by
 rw [Uy, List.drop_zero, h, List.take_left']
 rfl
end
section
variable {X : Abs} {a : Ar} {n p q at_ : Nat} {b : List UInt8}
theorem zde {Y : Abs} (h1 : Y.pv n q = X.pv n q) (h2 : Y.file (za.keyF a q) = X.file (za.keyF a q)) : Y.ct a n q = X.ct a n q := by unfold Abs.ct; rw [h1, h2]
theorem Xq (X : Abs) (a : Ar) (n p q : Nat) : (X.own a n p).ct a n q = X.ct a n q := by
 unfold Abs.own
 split
 ·rfl
 ·by_cases e : q = p
  ·subst e
   exact zhx (X := X.Uz n q (.own (X.ct a n q))) (if_pos ⟨rfl, rfl⟩)
  ·exact zde (Y := X.Uz n p (.own (X.ct a n p))) (if_neg fun z => e z.2) rfl
theorem Yk (h : a.kind = 2 → X.pv n p = .file) : (X.write a n p at_ b).ct a n p = Abs.splice (X.ct a n p) at_ b := by
 unfold Abs.write
 split
 ·rename_i k
  rw [zhy (X := X) (h k), zhy (X := X.Vu (za.keyF a p) (Abs.splice (X.file (za.keyF a p)) at_ b)) (h k)]
  exact if_pos rfl
 ·exact zhx (X := X.Uz n p (.own (Abs.splice (X.ct a n p) at_ b))) (if_pos ⟨rfl, rfl⟩)
theorem Qz (h : q ≠ p) : (X.write a n p at_ b).ct a n q = X.ct a n q := by
 unfold Abs.write
 split
 ·refine zde (Y := X.Vu (za.keyF a p) (Abs.splice (X.file (za.keyF a p)) at_ b)) rfl (if_neg fun z => ?_)
  unfold za.keyF at z
  rw [Prod.mk.injEq] at z
  omega
 ·exact zde (Y := X.Uz n p (.own (Abs.splice (X.ct a n p) at_ b))) (if_neg fun z => h z.2) rfl
theorem zcp (l b : List UInt8) (at_ : Nat) (h : at_ + b.length ≤ l.length) : ((Abs.splice l at_ b).drop at_).take b.length = b := by
 unfold Abs.splice
 rw [List.drop_left' (by rw [List.length_take]; omega), List.take_left' rfl]
theorem Jd (l b : List UInt8) (at_ : Nat) (h : at_ + b.length ≤ l.length) : (Abs.splice l at_ b).length = l.length := by
 unfold Abs.splice
 simp only [List.length_append, List.length_take, List.length_drop]
 omega
end
end Go.Proofs.YtnhdmnijiphjjaaGreat
/- Pages of one area as a law reads and writes them: over one page or two. -/
namespace Go.Proofs.YtnhdmnijiphjjaaGreat
open Go Go.RowKit
def Abs.st (X : Abs) (a : Ar) (n a0 : Nat) (l : List UInt8) : Abs :=
 if a0 % 64 + l.length ≤ 64 then (X.own a n (a0 / 64)).write a n (a0 / 64) (a0 % 64) l
 else (((X.own a n (a0 / 64)).own a n (a0 / 64 + 1)).write a n (a0 / 64) (a0 % 64) (l.take (64 - a0 % 64))).write a n (a0 / 64 + 1) 0 (l.drop (64 - a0 % 64))
structure PgOk (X : Abs) (a : Ar) (n p : Nat) : Prop where
 area : X.area n p = some a
 there : X.pv n p ≠ .lost
 shared : a.kind = 2 → X.pv n p = .file
 len : (X.ct a n p).length = 64
theorem PgOk.can {X : Abs} {a : Ar} {n p : Nat} (h : PgOk X a n p) : zat X n p a := ⟨h.area, h.there⟩
section
variable {X : Abs} {a : Ar} {n p q at_ a0 : Nat} {b l : List UInt8}
theorem zcz (h : X.pv n p ≠ .lost) : (X.own a n q).pv n p ≠ .lost := by
 unfold Abs.own
 split
 ·exact h
 ·show (if n = n ∧ p = q then _ else X.pv n p) ≠ _
  split
  ·intro z; cases z
  ·exact h
theorem zab (h : X.pv n p = .file) (k : a.kind = 2) : (X.own a n q).pv n p = .file := by
 unfold Abs.own
 rw [if_pos k]
 exact h
theorem J3 (h : X.pv n p ≠ .lost) : (X.write a n q at_ b).pv n p ≠ .lost := by
 unfold Abs.write
 split
 ·exact h
 ·show (if n = n ∧ p = q then _ else X.pv n p) ≠ _
  split
  ·intro z; cases z
  ·exact h
theorem Ut (h : X.pv n p = .file) (k : a.kind = 2) : (X.write a n q at_ b).pv n p = .file := by
 unfold Abs.write
 rw [if_pos k]
 exact h
theorem PgOk.own (h : PgOk X a n p) (q : Nat) : PgOk (X.own a n q) a n p :=
 ⟨by rw [zh6 (zd4 X a n q)]; exact h.area, zcz h.there, fun k => zab (h.shared k) k, by rw [Xq]; exact h.len⟩
theorem PgOk.write (h : PgOk X a n p) (hq : q = p → at_ + b.length ≤ 64) : PgOk (X.write a n q at_ b) a n p := by
 refine ⟨by rw [zh6 (zf2 X a n q at_ b)]; exact h.area, J3 h.there, fun k => Ut (h.shared k) k, ?_⟩
 by_cases e : p = q
 ·subst e
  rw [Yk h.shared, Jd _ _ _ (by rw [h.len]; exact hq rfl)]
  exact h.len
 ·rw [Qz e]; exact h.len
theorem PgOk.st (h : PgOk X a n p) (hl : l.length ≤ 64) : PgOk (X.st a n a0 l) a n p := by
 unfold Abs.st
 split
 ·exact (h.own _).write fun _ => by omega
 ·refine (((h.own _).own _).write fun _ => ?_).write fun _ => ?_
  ·rw [List.length_take]; omega
  ·rw [List.length_drop]; omega
end
end Go.Proofs.YtnhdmnijiphjjaaGreat
/- Processes as a law has them, all told: where all lies, and each frame's use; what functions answer and leave. -/
namespace Go.Proofs.YtnhdmnijiphjjaaGreat
open Go Go.RowKit
structure AtQ (w0 : World) (V : List (Value × List Value)) (q : Sq) (x : za) (w : World) : Prop where
 st : ∃ tag, zg w tag q x ∧ (∀ b, b < w0.heap.size → tag b = 0) ∧ (∀ p ∈ V, SlRd w 1 p.1 p.2.length p.2 ∧ ∀ b, p.1.ownBlock = some b → tag b = 0)
 bel : Below w0.heap.size w0 w
section
variable {w0 w w' : World} {V : List (Value × List Value)} {q : Sq} {x : za} {C : Nat → Prop}
theorem AtQ.go (h : AtQ w0 V q x w) (hC : ¬ C 0) {F : Nat} {args : Array Value} {P : Ending → Prop} {y : za}
  (k : ∀ tag, zg w tag q x → Calls Tryz.prog F args w fun e w' => P e ∧ ∃ tag', zg w' tag' q y ∧ Step C tag w tag' w') : Calls Tryz.prog F args w fun e w' => P e ∧ AtQ w0 V q y w' := by
 obtain ⟨⟨tag, hS, low, hV⟩, hb⟩ := h
 refine (k tag hS).mono ?_
 rintro e w1 ⟨he, tag1, h1, s1⟩
 obtain ⟨a, b, c⟩ := Zc hC s1 hb low hV
 exact ⟨he, ⟨tag1, h1, a, b⟩, c⟩
theorem AtQ.below (h : AtQ w0 V q x w) (hb : Below w.heap.size w w') : AtQ w0 V q x w' := by
 obtain ⟨⟨tag, hS, low, hV⟩, hbel⟩ := h
 have s : Step (fun _ => False) tag w (retag tag w 0) w' := Step.anew hb
 obtain ⟨a, b, c⟩ := Zc (C := fun _ => False) (fun h => h) s hbel low hV
 exact ⟨⟨_, hS.step s, a, b⟩, c⟩
theorem AtQ.cells (h : AtQ w0 V q x w) (hb : Below w.heap.size w w') {v : Value} {l : List Value} (hv : SlRd w' 1 v l.length l) (ho : ∀ b, v.ownBlock = some b → b < w0.heap.size ∨ w.heap.size ≤ b) : AtQ w0 ((v, l) :: V) q x w' := by
 obtain ⟨⟨tag, hS, low, hV⟩, hbel⟩ := h
 have s : Step (fun _ => False) tag w (retag tag w 0) w' := Step.anew hb
 obtain ⟨a, b, c⟩ := Zc (C := fun _ => False) (fun h => h) s hbel low hV
 refine ⟨⟨_, hS.step s, a, fun p hp => ?_⟩, c⟩
 rcases List.mem_cons.1 hp with rfl | hp
 ·refine ⟨hv, fun b hb => ?_⟩
  rcases ho b hb with k | k
  ·exact a b k
  ·exact zx _ _ _ _ k
 ·exact b p hp
theorem AtQ.more (h : AtQ w0 V q x w) (hb : Below w.heap.size w w') {v : Value} {l : List UInt8} (hv : BRd w' v l) (ho : ∀ b, v.ownBlock = some b → b < w0.heap.size ∨ w.heap.size ≤ b) : AtQ w0 ((v, bys l) :: V) q x w' := h.cells hb (Js.1 hv) ho
theorem AtQ.kept (h : AtQ w0 V q x w) {p : Value × List Value} (hp : p ∈ V) : SlRd w 1 p.1 p.2.length p.2 := by
 obtain ⟨⟨tag, hS, low, hV⟩, hbel⟩ := h
 exact (hV p hp).1
theorem AtQ.get (h : AtQ w0 V q x w) {v : Value} {l : List UInt8} (hp : (v, bys l) ∈ V) : BRd w v l := Js.2 (h.kept hp)
theorem AtQ.arg (h : AtQ w0 V q x w) {v : Value} {l : List UInt8} (hv : BRd w0 v l) : Has w0 V w v l := .inr ⟨SlRd.below hv h.bel, fun b hb => SlRd.lt hv b hb⟩
theorem AtQ.cell (h : AtQ w0 V q x w) {i : Nat} (hi : i < 7) : w.cell? ⟨q.sp, i, none⟩ = some (Zw q i) := by
 obtain ⟨⟨tag, hS, _⟩, _⟩ := h
 exact hS.row.cell hi
theorem AtQ.load (h : AtQ w0 V q x w) (ok : Ok0 x) {n : Nat} (hn : n < 8) (hs : (x.T n).isSome = true) (a s : Int) :
  Calls Tryz.prog 20 #[ptrV q.sp, .int .i64 n, .int .i64 a, .int .i64 s] w fun e w' => ∃ v, e = .returned (.tuple #[v, .int .i64 (x.Xn n a s).1.2]) ∧ AtQ w0 ((v, bys (x.Xn n a s).1.1) :: V) q (x.Xn n a s).2 w' := by
 obtain ⟨⟨tag, hS, low, hV⟩, hbel⟩ := h
 refine (At.load' hS ok hn hs a s).mono ?_
 rintro e w1 ⟨v, tag1, rfl, hv, ho, hS1, s1⟩
 obtain ⟨a1, b1, c1⟩ := Zc CB0 s1 hbel low hV
 refine ⟨v, rfl, ⟨tag1, hS1, a1, fun p hp => ?_⟩, c1⟩
 rcases List.mem_cons.1 hp with rfl | hp
 ·exact ⟨Js.1 (SlAt.rd hv), ho⟩
 ·exact b1 p hp
theorem AtQ.store (h : AtQ w0 V q x w) (ok : Ok0 x) {n : Nat} (hn : n < 8) (hs : (x.T n).isSome = true) (a : Nat) {v : Value} {l : List UInt8} (hv : Has w0 V w v l) (hr : x.xx n a l.length = 0) :
  Calls Tryz.prog 19 #[ptrV q.sp, .int .i64 n, .int .i64 a, v] w fun e w' => e = .returned (.int .i64 (x.qx n a l).1) ∧ AtQ w0 V q (x.qx n a l).2 w' := by
 obtain ⟨⟨tag, hS, low, hV⟩, hbel⟩ := h
 obtain ⟨h1, h2⟩ := zme hv low hV
 refine (At.store' hS ok hn hs a h1 h2 hr).mono ?_
 rintro e w1 ⟨rfl, tag1, hS1, s1⟩
 obtain ⟨a1, b1, c1⟩ := Zc CB0 s1 hbel low hV
 exact ⟨rfl, ⟨tag1, hS1, a1, b1⟩, c1⟩
theorem AtQ.tree (h : AtQ w0 V q x w) (wf : WF x) (n : Nat) (hn : n < 8) (hs : (x.T n).isSome = true) :
  Calls Tryz.prog 34 #[ptrV q.sp, .int .i64 n] w (fun e w' => e = .returned (ptrV (q.U n).tp) ∧ w' = w) ∧
   ∀ w1, Below w.heap.size w w1 → ∀ page : Nat, page < 4096 → Calls Tryz.prog 35 #[ptrV (q.U n).tp, .int .i64 page] w1 fun e w2 => e = .returned (.tuple #[entV (x.ent n page), .int .i64 0]) ∧ Below w1.heap.size w1 w2 := by
 obtain ⟨⟨tag, hS, _⟩, _⟩ := h
 obtain ⟨pr, hp⟩ := Option.isSome_iff_exists.1 hs
 exact ⟨zeq hS n hn hp, fun w1 hb page hpg => zin (hS.below hb) wf n page hn hp hpg⟩
end
end Go.Proofs.YtnhdmnijiphjjaaGreat
/- Pages that go out: all who have a frame have another entry. -/
namespace Go.Proofs.YtnhdmnijiphjjaaGreat
open Go Go.RowKit
section
variable {w w' : World} {tag tag' : Nat → Nat} {q : Sq} {x : za}
def entL (b : Nat) (e : Ent) : List (Nat × Nat × Value) := [(b, 0, .int .i64 e.kind), (b, 1, .int .i64 e.n), (b, 2, .bool e.write)]
set_option maxRecDepth 100000 in
set_option maxHeartbeats 1000000 in
theorem zeo (h : zg w tag q x) (wf : WF x) (f : Nat) (e : Ent) (he : e.ok = true) :
  Calls Tryz.prog 76 #[ptrV q.sp, .int .i64 f, entV e] w fun r w' => r = .returned (.tuple #[]) ∧ ∃ tag', zg w' tag' q (x.y8 (x.B f) e) ∧ Step CA tag w tag' w' := by
 obtain ⟨w0, hw0⟩ : ∃ w0, w0 = w.alloc (.cells #[.int .i64 e.kind, .int .i64 e.n, .bool e.write] 70 (0, 0)) := ⟨_, rfl⟩
 have hb0 : Below w.heap.size w w0 := by rw [hw0]; exact (Below.refl w.heap.size w).alloc (Nat.le_refl _) _
 have nb1 : w0.heap[w.heap.size]? = some (.cells #[.int .i64 e.kind, .int .i64 e.n, .bool e.write] 70 (0, 0)) := by
  rw [hw0]; exact heap_alloc_new w _
 obtain ⟨L0, s0⟩ := h.loc0.more hb0 (entL w.heap.size e) (fun t ht => by
  simp [entL] at ht
  rcases ht with rfl | rfl | rfl
  ·exact ⟨Nat.le_refl _, zm nb1 0 rfl⟩
  ·exact ⟨Nat.le_refl _, zm nb1 1 rfl⟩
  ·exact ⟨Nat.le_refl _, zm nb1 2 rfl⟩)
 obtain ⟨tag0, ht0⟩ : ∃ tag0, tag0 = retag tag w 0 := ⟨_, rfl⟩
 rw [List.append_nil] at L0
 rw [← ht0] at L0 s0
 clear ht0 nb1 hb0
 obtain ⟨l, hl⟩ : ∃ l, l = x.B f := ⟨_, rfl⟩
 have hin : ∀ p ∈ l, InR p := by rw [hl]; exact (wf.back (f : Int)).2
 have hlen : l.length ≤ 32768 := by rw [hl]; exact qh (wf.back (f : Int)).1 (wf.back (f : Int)).2
 have g3 : w0.cell? ⟨q.sp, 3, none⟩ = some (.pointer (some ⟨q.bp, 0, none⟩)) := L0.cell (i := 3) (by omega)
 have OF : Hid (Calls Tryz.prog 87 #[.pointer (some ⟨q.bp, 0, none⟩), .int .i64 f] w0 fun r w3 => ∃ a c, r = .returned (.slice a l.length c) ∧ PlAt w3 (.slice a l.length c) l ∧
   Loc w3 (retag tag0 w0 0) q x (entL w.heap.size e) ∧ Step CA tag w (retag tag0 w0 0) w3 ∧ ∀ b, (Value.slice a l.length c).ownBlock = some b → w0.heap.size ≤ b) := by
  have OS := L0.sp.ofB (f : Int) (by rw [← hl]; omega)
  rw [← hl] at OS
  refine OS.mono ?_
  rintro r w3 ⟨a, c, rfl, hp, hb, ho⟩
  obtain ⟨L3, s3⟩ := L0.more hb [] (fun t ht => by cases ht)
  exact ⟨a, c, rfl, hp, L3, (s0.trans s3).mono fun _ h => h.elim, ho⟩
 have HO := Lib.hid (And.intro h.out wf)
 have HX := Lib.hid (And.intro hl (And.intro hin hlen))
 have HE := Lib.hid he
 have HW := Lib.hid hw0
 rw [← hl]
 clear h L0 s0 hl hin hlen wf hw0 he
 unfold ptrV entV
 rw [HW.out] at g3
 go_enter Tryz.func76, Tryz.ntmps76
 go_wp2_with fail
 rw [← HW.out]
 refine OF.out.mono ?_
 rintro r w3 ⟨a, cc, rfl, hP3, hL3, hS3, hO3⟩
 have H3 := Lib.hid (And.intro hP3 (And.intro hL3 (And.intro hS3 hO3)))
 clear hP3 hL3 hS3 hO3 OF g3
 go_wp2_with fail
 go_loopw [15] (fun iv W => ∃ (i : Nat) (tag' : Nat → Nat), i ≤ l.length ∧ iv = .int .i64 i ∧ Loc W tag' q (x.y8 (l.take i) e) (entL w.heap.size e) ∧ Step CA tag w tag' W ∧ PlAt W (.slice a l.length cc) l ∧ ∀ b, (Value.slice a l.length cc).ownBlock = some b → tag' b = 0) (fun iv _ => l.length - (intOf iv).toNat)
 case atStart =>
  exact ⟨0, _, by omega, rfl, H3.out.2.1, H3.out.2.2.1, H3.out.1, fun b hb => zx _ _ _ _ (H3.out.2.2.2 b hb)⟩
 case round =>
  obtain ⟨i, tg, hi, rfl, hLoc, hSt, hPl, hOw⟩ := hrel
  by_cases hlt : i < l.length
  ·obtain ⟨p, hp⟩ : ∃ p, l[i]? = some p := ⟨l[i], List.getElem?_eq_getElem hlt⟩
   have hpos : 0 < (pl l).length := by have := hPl.1; omega
   obtain ⟨pb, poff, pc, epv, _, _, _⟩ := SlAt.cells hPl hpos
   cases epv
   have hpe : p = l[i] := by rw [List.getElem?_eq_getElem hlt] at hp; exact (Option.some.inj hp).symm
   obtain ⟨k0, k1⟩ := PlAt.cell hPl i hlt
   rw [← hpe] at k0 k1
   obtain ⟨pe, pn, ppg⟩ := (HX.out.2.1 p (List.mem_of_getElem? hp)).plc
   have p1 : p.1 = (p.1.toNat : Int) := congrArg Prod.fst pe
   have p2 : p.2 = (p.2.toNat : Int) := congrArg Prod.snd pe
   have g0 : wr.cell? ⟨w.heap.size, 0, none⟩ = some (.int .i64 e.kind) := hLoc.get 0 rfl
   have g1 : wr.cell? ⟨w.heap.size, 1, none⟩ = some (.int .i64 e.n) := hLoc.get 1 rfl
   have g2 : wr.cell? ⟨w.heap.size, 2, none⟩ = some (.bool e.write) := hLoc.get 2 rfl
   have ga : ∀ o, (wr.alloc o).cell? ⟨w.heap.size, 0, none⟩ = some (.int .i64 e.kind) := fun o => (World.cell?_alloc_lt _ _ _ (World.block_lt_of_cell? wr _ g0)).trans g0
   have gb : ∀ o, (wr.alloc o).cell? ⟨w.heap.size, 1, none⟩ = some (.int .i64 e.n) := fun o => (World.cell?_alloc_lt _ _ _ (World.block_lt_of_cell? wr _ g1)).trans g1
   have gc : ∀ o, (wr.alloc o).cell? ⟨w.heap.size, 2, none⟩ = some (.bool e.write) := fun o => (World.cell?_alloc_lt _ _ _ (World.block_lt_of_cell? wr _ g2)).trans g2
   obtain ⟨W2, hW2⟩ : ∃ W2, W2 = wr.alloc (.cells #[.int .i64 p.1, .int .i64 p.2] 58) := ⟨_, rfl⟩
   have hbW : Below wr.heap.size wr W2 := by rw [hW2]; exact (Below.refl _ _).alloc (Nat.le_refl _) _
   have wfz := HO.out.2.y8 HO.out.1 (l.take i) (fun q hq => HX.out.2.1 q (List.mem_of_mem_take hq)) HE.out
   have PC : Hid (Calls Tryz.prog 88 #[.pointer (some ⟨q.sp, 0, none⟩), .agg #[.int .i64 p.1, .int .i64 p.2], .agg #[.int .i64 e.kind, .int .i64 e.n, .bool e.write]] W2 fun r w5 => (∃ c, r = .returned (.int .i64 c)) ∧ ∃ tag', Loc w5 tag' q (x.y8 (l.take (i + 1)) e) (entL w.heap.size e) ∧ Step CA tag w tag' w5 ∧ PlAt w5 (.slice (some ⟨pb, poff, none⟩) l.length cc) l ∧ ∀ b, (Value.slice (some ⟨pb, poff, none⟩) l.length cc).ownBlock = some b → tag' b = 0) := by
    obtain ⟨L2, s2⟩ := hLoc.more hbW [] (fun t ht => by cases ht)
    have := Z5 L2.sp wfz.1 p.1.toNat p.2.toNat pn ppg e HE.out
    rw [← p1, ← p2] at this
    refine this.mono ?_
    rintro r w5 ⟨rfl, tag5, h5, s5⟩
    have s5' : Step CA (retag tg wr 0) W2 tag5 w5 := s5.mono fun c hc => Qq pn hc
    have L5 := L2.step s5' CA0 h5
    have hOw2 : ∀ b, (Value.slice (some ⟨pb, poff, none⟩) l.length cc).ownBlock = some b → retag tg wr 0 b = 0 := fun b hb => by
     unfold retag
     split
     ·exact hOw b hb
     ·rfl
    have hP2 : PlAt W2 (.slice (some ⟨pb, poff, none⟩) l.length cc) l := SlAt.below hPl hbW
    refine ⟨⟨_, rfl⟩, tag5, ⟨?_, L5.loc⟩, (hSt.trans (s2.mono fun _ h => h.elim)).trans s5', SlAt.keep hP2 fun b hb => (s5'.keeps CA0 b (SlAt.lt hP2 b hb) (hOw2 b hb)).2, fun b hb => (s5'.keeps CA0 b (SlAt.lt hP2 b hb) (hOw2 b hb)).1⟩
    have e1 : l.take (i + 1) = l.take i ++ [p] := by rw [List.take_add_one, hp]; rfl
    rw [e1, U4]
    exact L5.sp
   have HWW := Lib.hid hW2
   have i1 : (i : Int) < l.length := by omega
   have i2 : (0 : Int) ≤ i := by omega
   have HLT := Lib.hid (And.intro hlt (And.intro hi HX.out.2.2))
   clear hLoc hSt hPl hOw hpos pe pn ppg p1 p2 hbW wfz hW2 hlt hi hpe hp H3
   go_wp2_with fail
   rw [← HWW.out]
   refine PC.out.mono ?_
   rintro r w5 ⟨⟨c, rfl⟩, h5⟩
   have H5 := Lib.hid h5
   clear h5 PC g0 g1 g2 k0 k1 ga gb gc
   have d5 : IntKind.i64.wrap ((i : Int) + 1) = i + 1 := by have := HLT.out; simp [IntKind.wrap, IntKind.bits, IntKind.signed]; omega
   clear i1 i2
   go_wp2_with fail
   go_roundw
   case rel =>
    obtain ⟨tag', a1, a2, a3, a4⟩ := H5.out
    exact ⟨i + 1, tag', HLT.out.1, by go_num, a1, a2, a3, a4⟩
   case measure => have := HLT.out.1; simp [intOf]; omega
  ·obtain rfl : i = l.length := by omega
   have H5 := Lib.hid (And.intro hLoc hSt)
   clear hLoc hSt hPl hOw H3
   go_wp2_with fail
   refine bodyPost_end (v := .tuple #[]) (by simp [results, Tryz.results76, go_sem]) rfl ⟨rfl, tg, ?_, H5.out.2⟩
   have := H5.out.1.sp
   rw [List.take_length] at this
   exact this
end
end Go.Proofs.YtnhdmnijiphjjaaGreat
/- Processes, in plain words: all who have a frame have another entry, that is no frame; a cached frame that nobody has is let go. No program in it. -/
namespace Go.Proofs.YtnhdmnijiphjjaaGreat
open Go Go.RowKit
section
variable {F : Nat → Prop} {x y : za} {f0 : Nat} {l : List (Int × Int)} {e : Int × Int → Ent}
theorem Zq.zcn (d : Zq x f0 l e y) {v : Nat} (h1 : v ≠ 1) (h2 : v ≠ 2) (h3 : v ≠ 3) (g : Nat) : y.P.use g = v ↔ x.P.use g = v := by
 by_cases k1 : x.P.use g = 1
 ·have := d.fr g k1; omega
 ·by_cases k2 : x.P.use g = 2
  ·have := d.tb g k2; omega
  ·rw [d.use g k1 k2]
   split
   ·rename_i z; have e := z.1; have := z.2.1; subst e; omega
   ·exact Iff.rfl
theorem Zq.use3 (d : Zq x f0 l e y) (g : Nat) : y.P.use g = 3 ↔ x.P.use g = 3 ∧ ¬ (g = f0 ∧ l ≠ [] ∧ y.B f0 = []) := by
 by_cases k1 : x.P.use g = 1
 ·have := d.fr g k1; omega
 ·by_cases k2 : x.P.use g = 2
  ·have := d.tb g k2; omega
  ·rw [d.use g k1 k2]
   split
   ·rename_i z
    exact ⟨fun a => by omega, fun a => absurd ⟨z.1, z.2.2⟩ a.2⟩
   ·rename_i z
    exact ⟨fun a => ⟨a, fun b => z ⟨b.1, by rw [← b.1]; exact a, b.2⟩⟩, fun a => a.1⟩
theorem Zq.proc (d : Zq x f0 l e y) {n : Nat} {pr : yf} (hp : y.T n = some pr) : ∃ p0, x.T n = some p0 ∧ p0.A = pr.A ∧ p0.Q = pr.Q := by
 have := d.procs n
 rw [hp] at this
 cases hq : x.T n with
 | none => rw [hq] at this; cases this
 | some p0 =>
  rw [hq] at this
  have := Option.some.inj this
  exact ⟨p0, rfl, (congrArg Prod.fst this).symm, (congrArg Prod.snd this).symm⟩
theorem Zq.keeps (d : Zq x f0 l e y) : uo 0 x y :=
 ⟨d.zone, by have := d.room; omega, d.bad, fun f v hv => d.zcn (by omega) (by omega) (by omega) f, fun n => by
  have := congrArg Option.isSome (d.procs n)
  simpa using this⟩
theorem Zq.nobody (d : Zq x f0 (x.B f0) e y) (hf : f0 < 1024) (he : ∀ q ∈ x.B f0, zj8 f0 (e q)) : y.B f0 = [] :=
 List.eq_nil_iff_forall_not_mem.2 fun q hq => by
  rw [d.memB f0 q hf] at hq
  split at hq
  ·rename_i z; exact (he q z).2 hq.1 hq.2
  ·rename_i z; exact z hq
structure AwayD (F : Nat → Prop) (x : za) (f0 : Nat) (e : Ent) (y : za) : Prop where
 many : Zq x f0 (x.B f0) (fun _ => e) y
 ok : OK F y
 nobody : y.B f0 = []
 others : ∀ g : Nat, g < 1024 → g ≠ f0 → y.B g = x.B g
 pv : ∀ m pg, pg < 4096 → plc m pg ∉ x.B f0 → (e.kind = 2 → y.D.cur = x.D.cur) → y.pv m pg = x.pv m pg
 here : ∀ m pg, pg < 4096 → plc m pg ∈ x.B f0 → ∀ pr a, x.T m = some pr → yc pr.A (pg : Int) = some a → y.pv m pg = y.pv1 a e ∧ x.pv m pg = if getL x.CR f0 = none then .own (x.R.read f0 0 64) else .file
 file : ∀ k, y.uw k = x.uw k
 xg : ∀ k, y.xg k = x.xg k
theorem OK.away (h : OK F x) (o : ∀ n, 8 ≤ n → x.T n = none) (hf : f0 < 1024) {e : Ent} (he : e.ok = true) (hk : e.kind ≠ 1) (h2 : e.kind = 2 → x.P.use f0 = 3) : AwayD F x f0 e (x.y8 (x.B f0) e) := by
 have hE : ∀ q ∈ x.B f0, zj8 f0 ((fun _ => e) q) := fun q _ => ⟨he, fun z => absurd z hk⟩
 have d : Zq x f0 (x.B f0) (fun _ => e) (x.y8 (x.B f0) e) := by
  rw [← zez]
  exact h.wf.putM (h.wf.back f0).1.nodup (h.zi6 hf) hE
 obtain ⟨y, hy⟩ : ∃ y, y = x.y8 (x.B f0) e := ⟨_, rfl⟩
 rw [← hy] at d ⊢
 clear hy
 have hB0 := d.nobody hf hE
 have oth : ∀ g : Nat, g < 1024 → g ≠ f0 → y.B g = x.B g := fun g hg hne => by
  refine xc (d.wf.back g).1 (h.wf.back g).1 ?_
  refine (List.perm_ext_iff_of_nodup (d.wf.back g).1.nodup (h.wf.back g).1.nodup).2 fun q => ?_
  rw [d.memB g q hg]
  split
  ·rename_i z
   exact ⟨fun a => absurd a.1 hk, fun a => absurd a ((h.zi6 hf q z).noB g hg hne)⟩
  ·exact Iff.rfl
 have hmem : ∀ m pg, pg < 4096 → plc m pg ∈ x.B f0 → m < 8 ∧ (x.ent m pg).kind = 1 ∧ (x.ent m pg).n = f0 := fun m pg hq hm => by
  have h8 : m < 8 := by
   have := (h.wf.back f0).2 _ hm
   unfold InR plc at this
   dsimp only at this
   omega
  exact ⟨h8, (h.backE f0 m pg hf h8 hq).1 hm⟩
 have hR : ∀ f i, f < 1024 → (x.P.use f = 3 ∨ x.P.use f = 4) → i < 64 → y.R.b f i = x.R.b f i := fun f i _ hu _ => d.bytes f i (by omega) (by omega)
 have hA1 : ∀ m, (y.T m).map (·.A) = (x.T m).map (·.A) := fun m => by
  have := congrArg (Option.map Prod.fst) (d.procs m)
  simpa [Option.map_map, Function.comp_def] using this
 refine ⟨d, ⟨d.wf, fun f n page hf' hn hp => ?_, fun k n page hk' hn hp => ?_, fun f hf' hne => ?_, fun f hf' hu => ?_, d.tab h.table, fun f hf' => by rw [d.zcn (by omega) (by omega) (by omega), d.keep.2.2]; exact h.cached f hf', by rw [d.keep.2.1, d.keep.2.2]; exact h.cacheE, by rw [d.keep.2.1]; exact h.cacheK, fun n pr page hp hpg => ?_⟩, hB0, oth, fun m pg hq hm hD => ?_, fun m pg hq hm pr a hp ha => ?_, fun k => jr h k d.keep.2.1 (by rw [d.keep.1]) fun f i a b c => hR f i a (.inr b) c, fun k => by unfold za.xg; rw [d.keep.2.1]⟩
 ·rw [d.memB f _ hf', d.ent n page hp]
  by_cases k : plc n page ∈ x.B f0
  ·rw [if_pos k, if_pos k]
  ·rw [if_neg k, if_neg k]; exact h.backE f n page hf' hn hp
 ·rw [d.memS k _ hk', d.ent n page hp]
  by_cases k : plc n page ∈ x.B f0
  ·rw [if_pos k, if_pos k]
  ·rw [if_neg k, if_neg k]; exact h.slotE _ n page hk' hn hp
 ·by_cases e0 : f = f0
  ·rw [e0] at hne; exact absurd hB0 hne
  ·rw [oth f hf' e0] at hne
   rcases h.useB f hf' hne with u | u
   ·left; rw [d.use3]; exact ⟨u, fun z => e0 z.1⟩
   ·right; rw [d.zcn (by omega) (by omega) (by omega)]; exact u
 ·obtain ⟨u, nz⟩ := (d.use3 f).1 hu
  rcases h.anon f hf' u with a | a
  ·by_cases e0 : f = f0
   ·rw [e0] at a; exact absurd ⟨e0, a, hB0⟩ nz
   ·rw [oth f hf' e0]; exact .inl a
  ·exact .inr a
 ·obtain ⟨p0, hp0, hA, _⟩ := d.proc hp
  have a0 := h.area n p0 page hp0 hpg
  rw [d.ent n page hpg]
  by_cases k : plc n page ∈ x.B f0
  ·obtain ⟨h8, e1, e2⟩ := hmem n page hpg k
   rw [if_pos k]
   refine ⟨fun _ => by rw [← hA]; exact a0.find (by omega), fun a _ z => absurd z hk, fun a _ _ z => absurd z hk, fun a _ z => absurd z hk, fun a ha z z2 => ?_⟩
   rw [← hA] at ha
   have u3 := h2 z
   have := a0.shared a ha e1 z2
   rw [e2] at this
   have u4 := (h.cached f0 hf).2 (by cases hc : getL x.CR (f0 : Int) with | none => exact absurd hc this | some _ => rfl)
   omega
  ·rw [if_neg k]
   exact ⟨by rw [← hA]; exact a0.find, by rw [← hA, d.keep.2.2]; exact a0.own, by rw [← hA, d.keep.2.2]; exact a0.file, by rw [← hA, d.keep.2.2]; exact a0.shared, by rw [← hA]; exact a0.slot⟩
 ·have ee : y.ent m pg = x.ent m pg := by rw [d.ent m pg hq, if_neg hm]
  by_cases h8 : m < 8
  ·exact Yf h m pg h8 hq (hA1 m) ee (fun _ => by rw [d.keep.2.2]) (fun _ => by rw [d.keep.1]) hR
  ·have q1 := o m (by omega)
   have q2 : y.T m = none := by
    have := d.procs m
    rw [q1] at this
    simpa using this
   unfold za.pv
   rw [q1, q2]
 ·obtain ⟨h8, e1, e2⟩ := hmem m pg hq hm
  have hyp : ∃ py, y.T m = some py ∧ py.A = pr.A := by
   have := d.procs m
   rw [hp] at this
   cases hq : y.T m with
   | none => rw [hq] at this; cases this
   | some py => rw [hq] at this; exact ⟨py, rfl, congrArg Prod.fst (Option.some.inj this)⟩
  obtain ⟨py, hpy, hA⟩ := hyp
  refine ⟨?_, ?_⟩
  ·rw [Ye hpy (by rw [hA]; exact ha), d.ent m pg hq, if_pos hm]
  ·rw [Ye hp ha]
   unfold za.pv1
   rw [if_neg (by omega), if_neg (by omega), if_pos e1, e2]
   simp
theorem OK.zk0 (h : OK F x) (o : ∀ n, 8 ≤ n → x.T n = none) (hf : f0 < 1024) (hB : x.B f0 = []) {k : Int × Int} (hk : getL x.CR (f0 : Int) = some k) :
  OK F ((x.yu k).vk f0) ∧ (∀ m pg, pg < 4096 → ((x.yu k).vk f0).ent m pg = x.ent m pg) ∧ (x.yu k).vk f0 = { x with P := x.P.set f0 1, CL := delL x.CL k, CR := delL x.CR f0 } ∧
   (∀ m pg, m < 8 → pg < 4096 → ((x.yu k).vk f0).pv m pg = x.pv m pg) ∧ (∀ q, ((x.yu k).vk f0).uw q = if q = k then x.D.cur (za.ym k) else x.uw q) ∧ (∀ q, ((x.yu k).vk f0).xg q = if q = k then false else x.xg q) := by
 obtain ⟨v, hv⟩ := (h.cacheE k f0).2 hk
 have hu : x.P.use f0 = 4 := (h.cached f0 hf).2 (by rw [hk]; rfl)
 have e1 : (x.yu k).vk f0 = { x with P := x.P.set f0 1, CL := delL x.CL k, CR := delL x.CR f0 } := by
  unfold za.vk za.yu zk.free
  rw [hv]
  dsimp only
  rw [if_pos (by unfold zk.used; simp; omega)]
  rfl
 obtain ⟨nd1, nd2⟩ := h.wf.nd
 have gl : ∀ q, getL (delL x.CL k) q = if q = k then none else getL x.CL q := Z7 nd1
 have gr : ∀ q, getL (delL x.CR (f0 : Int)) q = if q = (f0 : Int) then none else getL x.CR q := Z7 nd2
 have w1 : WF ((x.yu k).vk f0) ∧ ∀ m pg, pg < 4096 → ((x.yu k).vk f0).ent m pg = x.ent m pg := by
  have wc := h.wf.yu k
  have := WF.chg (y := (x.yu k).vk f0) wc (f := f0) (u := 1) (by show x.P.use f0 ≠ 2; omega) (fun _ => .inl (h.wf.uu hf (by omega))) rfl rfl rfl rfl rfl rfl (fun g => by rw [e1]; rfl) rfl (fun _ _ _ => rfl)
  exact this
 rw [e1] at w1 ⊢
 obtain ⟨z, hz⟩ : ∃ z : za, z = { x with P := x.P.set f0 1, CL := delL x.CL k, CR := delL x.CR f0 } := ⟨_, rfl⟩
 rw [← hz] at w1 ⊢
 have zT : z.T = x.T := by rw [hz]
 have zB : z.B = x.B := by rw [hz]
 have zS : z.S = x.S := by rw [hz]
 have zD : z.D = x.D := by rw [hz]
 have zR : z.R = x.R := by rw [hz]
 have zCL : z.CL = delL x.CL k := by rw [hz]
 have zCR : z.CR = delL x.CR f0 := by rw [hz]
 have zP : ∀ g, z.P.use g = if g = f0 then 1 else x.P.use g := fun g => by rw [hz]; rfl
 clear hz e1
 have notf : ∀ m pg, m < 8 → pg < 4096 → (x.ent m pg).kind = 1 → (x.ent m pg).n ≠ f0 := fun m pg hm hq e2 e3 => by
  have := (h.backE f0 m pg hf hm hq).2 ⟨e2, e3⟩
  rw [hB] at this; cases this
 refine ⟨⟨w1.1, fun f n page a b c => by rw [zB, w1.2 n page c]; exact h.backE f n page a b c, fun k n page a b c => by rw [zS, w1.2 n page c]; exact h.slotE k n page a b c, fun f a b => ?_, fun f a b => ?_, fun f a b => ?_, fun f a => ?_, fun q f => ?_, fun q v hq => ?_, fun n pr page hp hpg => ?_⟩, w1.2, rfl, fun m pg hm hq => ?_, fun q => ?_, fun q => ?_⟩
 ·rw [zB] at b
  rw [zP, if_neg]
  ·exact h.useB f a b
  ·intro e0; rw [e0] at b; exact b hB
 ·rw [zP] at b
  split at b
  ·omega
  ·rw [zB]; exact h.anon f a b
 ·rw [zP] at b
  split at b
  ·omega
  ·obtain ⟨n, pr, hp, hm⟩ := h.table f a b
   exact ⟨n, pr, by rw [zT]; exact hp, hm⟩
 ·rw [zP, zCR, gr]
  by_cases e0 : f = f0
  ·rw [if_pos e0, if_pos (by omega)]; simp
  ·rw [if_neg e0, if_neg (by omega)]; exact h.cached f a
 ·rw [zCL, zCR, gl, gr]
  by_cases e0 : q = k
  ·rw [if_pos e0]
   refine ⟨fun ⟨d, hd⟩ => (by cases hd), fun hq => ?_⟩
   split at hq
   ·cases hq
   ·rename_i z
    obtain ⟨d, hd⟩ := (h.cacheE q f).2 hq
    rw [e0, hv] at hd
    exact absurd (congrArg Prod.fst (Option.some.inj hd)).symm z
  ·rw [if_neg e0]
   by_cases e9 : f = (f0 : Int)
   ·rw [if_pos e9]
    refine ⟨fun hd => ?_, fun z => by cases z⟩
    have := (h.cacheE q f).1 hd
    rw [e9, hk] at this
    exact absurd (Option.some.inj this).symm e0
   ·rw [if_neg e9]; exact h.cacheE q f
 ·rw [zCL, gl] at hq
  split at hq
  ·cases hq
  ·exact h.cacheK q v hq
 ·rw [zT] at hp
  have a0 := h.area n pr page hp hpg
  rw [w1.2 n page hpg]
  have cr : (x.ent n page).kind = 1 → getL z.CR (x.ent n page).n = getL x.CR (x.ent n page).n := fun k1 => by
   rw [zCR, gr, if_neg]
   exact notf n page (h.Xm o hp) hpg k1
  exact ⟨a0.find, fun a b c => by rw [cr c]; exact a0.own a b c, fun a q b c => by rw [cr c]; exact a0.file a q b c, fun a b c => by rw [cr c]; exact a0.shared a b c, a0.slot⟩
 ·refine Yf h m pg hm hq (by rw [zT]) (w1.2 m pg hq) (fun k1 => ?_) (fun _ => by rw [zD]) fun f i _ _ _ => by rw [zR]
  rw [zCR, gr, if_neg (notf m pg hm hq k1)]
 ·unfold za.uw
  rw [zCL, gl, zD, zR]
  by_cases e0 : q = k
  ·rw [if_pos e0, if_pos e0, e0]
  ·rw [if_neg e0, if_neg e0]
 ·unfold za.xg
  rw [zCL, gl]
  by_cases e0 : q = k
  ·rw [if_pos e0, if_pos e0]; rfl
  ·rw [if_neg e0, if_neg e0]
end
end Go.Proofs.YtnhdmnijiphjjaaGreat
/- Pages that go out, in plain words: what processes see of it, and which frames are free behind it. No program in it. -/
namespace Go.Proofs.YtnhdmnijiphjjaaGreat
open Go Go.RowKit
section
variable {F : Nat → Prop} {x y : za}
theorem Vg : ∀ (L : List (List (Int × Int))) (i : Nat), (∃ k, Zd L i = some (i + k) ∧ k < L.length ∧ L.getD k [] = []) ∨ Zd L i = none ∧ ∀ l ∈ L, l ≠ []
 | [], i => .inr ⟨rfl, fun l hl => by cases hl⟩
 | a :: L, i => by
  unfold Zd
  by_cases h : a = []
  ·rw [if_pos h]
   exact .inl ⟨0, rfl, by simp, by simp [h]⟩
  ·rw [if_neg h]
   rcases Vg L (i + 1) with ⟨k, h1, h2, h3⟩ | ⟨h1, h2⟩
   ·exact .inl ⟨k + 1, by rw [h1]; congr 1; omega, by simp; omega, by simpa using h3⟩
   ·refine .inr ⟨h1, fun l hl => ?_⟩
    rcases List.mem_cons.1 hl with rfl | hl
    ·exact h
    ·exact h2 l hl
theorem Xk (L : List (List (Int × Int))) : (∃ k : Nat, Yo L = ((k : Int), true) ∧ k < L.length ∧ L.getD k [] = []) ∨ Yo L = (0, false) ∧ ∀ l ∈ L, l ≠ [] := by
 unfold Yo
 rcases Vg L 0 with ⟨k, h1, h2, h3⟩ | ⟨h1, h2⟩
 ·rw [h1]
  exact .inl ⟨k, by simp, h2, h3⟩
 ·rw [h1]
  exact .inr ⟨rfl, h2⟩
theorem OK.disk (h : OK F x) (D : zq) (hD : ∀ s, s < 192 → (D.cur s).length = 64) : OK F { x with D := D } :=
 ⟨h.wf.disk D hD, h.backE, h.slotE, h.useB, h.anon, h.table, h.cached, h.cacheE, h.cacheK, fun n pr page a b => ⟨(h.area n pr page a b).find, (h.area n pr page a b).own, (h.area n pr page a b).file, (h.area n pr page a b).shared, (h.area n pr page a b).slot⟩⟩
theorem Ok0.disk (h : Ok0 x) (D : zq) (hD : ∀ s, s < 192 → (D.cur s).length = 64) : Ok0 { x with D := D } := ⟨h.ok.disk D hD, h.out⟩
def Abs.Jf (X : Abs) (s : Nat) (l : List UInt8) : Abs := { X with cur := fun t => if t = s then l else X.cur t }
theorem zaz (D : zq) (s : Nat) (l : List UInt8) (t : Nat) : (D.write s l).cur t = if t = s then l else D.cur t := by
 unfold zq.write zq.cur
 dsimp only
 split
 ·rfl
 ·rfl
theorem wr_D (x : za) (s : Nat) (l : List UInt8) : x.D.work.2 = 0 → ∀ t, (x.wr s l).D.cur t = if t = s then l else x.D.cur t := fun hw t => by
 unfold za.wr
 rw [if_pos hw]
 show (x.D.work.1.write s l).cur t = _
 rw [zaz, zq.Y6]
theorem WF.wr (h : WF x) (s : Nat) {l : List UInt8} (hl : l.length = 64) : WF (x.wr s l) := by
 unfold za.wr
 refine h.disk _ fun t ht => ?_
 split
 ·rw [zaz, zq.Y6]
  split
  ·exact hl
  ·exact h.secs t ht
 ·rw [zq.Y6]; exact h.secs t ht
structure OutD (x : za) (f k : Nat) (y : za) : Prop where
 ok : Ok0 y
 abs : y.abs = x.abs.Jf (160 + k) (x.R.read f 0 64)
 keeps : uo 0 x y
 free : y.P.use f = 1
 fr : ∀ g, x.P.use g = 1 → y.P.use g = 1
 others : ∀ g, g ≠ f → x.P.use g ≠ 1 → x.P.use g ≠ 2 → y.P.use g = x.P.use g
 ent : ∀ m pg, pg < 4096 → y.ent m pg = if plc m pg ∈ x.B f then ⟨2, (k : Int), false⟩ else x.ent m pg
 slot : ∀ j, j < 32 → y.S.getD j [] = if j = k then x.B f else x.S.getD j []
 disk : y.D = x.D.work.1.write (160 + k) (x.R.read f 0 64)
 cache : y.CL = x.CL ∧ y.CR = x.CR
 backs : ∀ g : Nat, g < 1024 → y.B g = if g = f then [] else x.B g
theorem Ok0.outF (h : Ok0 x) {n page f : Nat} (hn : n < 8) (hpg : page < 4096) (he : (x.ent n page).kind = 1) (hf : (x.ent n page).n = f) (hu : x.P.use f = 3) {k : Nat} (hk : Yo x.S = ((k : Int), true)) (hk32 : k < 32) (hS : x.S.getD k [] = []) (hw : x.D.work.2 = 0) :
  (x.outF n page).1 = 0 ∧ OutD x f k (x.outF n page).2 := by
 have hf1 : f < 1024 := by
  obtain ⟨g, e1, e2, _⟩ := h.ok.frame hn hpg he
  omega
 have hlen : (x.R.read f 0 64).length = 64 := Y7 ..
 have e0 : x.outF n page = (0, (x.wr (160 + k) (x.R.read f 0 64)).y8 (x.B f) ⟨2, (k : Int), false⟩) := by
  unfold za.outF
  rw [if_neg (by omega), hk, if_neg (by simp), if_pos hw, hf]
  simp
 rw [e0]
 refine ⟨rfl, ?_⟩
 dsimp only
 have hcur := wr_D x (160 + k) (x.R.read f 0 64) hw
 have eW : x.wr (160 + k) (x.R.read f 0 64) = { x with D := x.D.work.1.write (160 + k) (x.R.read f 0 64) } := by unfold za.wr; rw [if_pos hw]
 have ok1 : Ok0 (x.wr (160 + k) (x.R.read f 0 64)) := by
  rw [eW] at hcur ⊢
  refine h.disk _ fun s hs => ?_
  have := hcur s
  dsimp only at this
  rw [this]
  split
  ·exact hlen
  ·exact h.ok.wf.secs s hs
 have d := ok1.ok.away (f0 := f) ok1.out hf1 (e := ⟨2, (k : Int), false⟩) (by simp [Ent.ok, most]; omega) (by show (2 : Nat) ≠ 1; omega) (fun _ => by rw [eW]; exact hu)
 have pvx : ∀ m pg, m < 8 → pg < 4096 → (x.wr (160 + k) (x.R.read f 0 64)).pv m pg = x.pv m pg := fun m pg hm hp => by
  refine Yf h.ok m pg hm hp (by rw [eW]) (by rw [eW]; rfl) (fun _ => by rw [eW]) (fun k2 => ?_) fun _ _ _ _ _ => by rw [eW]
  rw [hcur, if_neg]
  intro z
  have hr := (Ent.ok_n (h.ok.wf.Zy m hp)).2 k2
  have := (h.ok.slotE k m pg hk32 hm hp).2 ⟨k2, by omega⟩
  rw [hS] at this; cases this
 have fx : ∀ q, xk q → (x.wr (160 + k) (x.R.read f 0 64)).uw q = x.uw q := fun q hq => by
  refine jr h.ok q (by rw [eW]) ?_ fun _ _ _ _ _ => by rw [eW]
  rw [hcur, if_neg]
  unfold za.ym
  unfold xk at hq
  omega
 obtain ⟨x1, hx1⟩ : ∃ x1, x1 = x.wr (160 + k) (x.R.read f 0 64) := ⟨_, rfl⟩
 rw [← hx1] at d ok1 hcur pvx fx ⊢
 have q1 : x1.B = x.B ∧ x1.P = x.P ∧ x1.T = x.T ∧ x1.CL = x.CL ∧ x1.CR = x.CR ∧ x1.S = x.S ∧ x1.R = x.R ∧ x1.D = x.D.work.1.write (160 + k) (x.R.read f 0 64) := by rw [hx1, eW]; exact ⟨rfl, rfl, rfl, rfl, rfl, rfl, rfl, rfl⟩
 have qe : ∀ m pg, x1.ent m pg = x.ent m pg := fun m pg => by rw [hx1, eW]; rfl
 have qd : ∀ q, x1.xg q = x.xg q := fun q => by unfold za.xg; rw [q1.2.2.2.1]
 clear hx1 eW e0
 obtain ⟨qB, qP, qT, qC, qR, qS, qM, qD⟩ := q1
 rw [qB] at d
 obtain ⟨y, hy⟩ : ∃ y, y = x1.y8 (x.B f) ⟨2, (k : Int), false⟩ := ⟨_, rfl⟩
 rw [← hy] at d ⊢
 clear hy
 have dm := d.many
 rw [qB] at dm
 have hmem : ∀ m pg, pg < 4096 → plc m pg ∈ x.B f → m < 8 := fun m pg hq hm => by
  have := (h.ok.wf.back f).2 _ hm
  unfold InR plc at this
  dsimp only at this
  omega
 have hin : plc n page ∈ x.B f := (h.ok.backE f n page hf1 hn hpg).2 ⟨he, hf⟩
 have hcr : getL x.CR (f : Int) = none := by
  cases hc : getL x.CR (f : Int) with
  | none => rfl
  | some _ => have := (h.ok.cached f hf1).2 (by rw [hc]; rfl); omega
 have hout : ∀ m, 8 ≤ m → y.T m = none := fun m hm => by
  have := dm.procs m
  rw [qT, h.out m hm] at this
  simpa using this
 have yD : y.D = x.D.work.1.write (160 + k) (x.R.read f 0 64) := dm.keep.1.trans qD
 have ycur : ∀ t, y.D.cur t = if t = 160 + k then x.R.read f 0 64 else x.D.cur t := fun t => by rw [dm.keep.1]; exact hcur t
 refine ⟨⟨d.ok, hout⟩, ?_, ?_, ?_, fun g hg => dm.fr g (by rw [qP]; exact hg), fun g hne g1 g2 => ?_, fun m pg hq => by rw [dm.ent m pg hq, qe], fun j hj => ?_, yD, ⟨dm.keep.2.1.trans qC, dm.keep.2.2.trans qR⟩, fun g hg => ?_⟩
 ·unfold za.abs Abs.Jf
  rw [Abs.mk.injEq]
  refine ⟨funext fun m => by rw [dm.procs m, qT], ?_, ?_, funext fun q => by rw [d.xg, qd], funext fun t => ycur t⟩
  ·funext m pg
   dsimp only
   by_cases hq : pg < 4096
   ·rw [if_pos hq, if_pos hq]
    by_cases hm : plc m pg ∈ x.B f
    ·have h8 := hmem m pg hq hm
     have hE := (h.ok.backE f m pg hf1 h8 hq).1 hm
     obtain ⟨pr, hpr⟩ : ∃ pr, x.T m = some pr := by
      cases hT : x.T m with
      | none => rw [Zz hT] at hE; exact absurd hE.1 (by decide)
      | some pr => exact ⟨pr, rfl⟩
     obtain ⟨a, ha⟩ := (h.ok.area m pr pg hpr hq).find (by omega)
     obtain ⟨p1, p2⟩ := d.here m pg hq (by rw [qB]; exact hm) pr a (by rw [qT]; exact hpr) ha
     rw [qR, hcr, if_pos rfl, qM] at p2
     rw [p1, ← pvx m pg h8 hq, p2]
     unfold za.pv1
     rw [if_neg (by simp), if_pos rfl]
     simp only [Int.toNat_natCast]
     rw [ycur, if_pos rfl]
    ·by_cases h8 : m < 8
     ·rw [d.pv m pg hq (by rw [qB]; exact hm) (fun _ => dm.keep.1 ▸ rfl), pvx m pg h8 hq]
     ·unfold za.pv
      rw [hout m (by omega), h.out m (by omega)]
   ·rw [if_neg hq, if_neg hq]
  ·funext q
   dsimp only
   by_cases hq : xk q
   ·rw [if_pos hq, if_pos hq, d.file, fx q hq]
   ·rw [if_neg hq, if_neg hq]
 ·have := dm.keeps
  exact ⟨by rw [← qP]; exact this.zone, by rw [← qP]; exact this.room, by rw [← qM]; exact this.bad, fun g v hv => by rw [← qP]; exact this.fix g v hv, fun m => by rw [← qT]; exact this.some m⟩
 ·rw [dm.use f (by rw [qP]; omega) (by rw [qP]; omega), if_pos ⟨rfl, by rw [qP]; exact hu, (fun z => by rw [z] at hin; cases hin), d.nobody⟩]
 ·rw [dm.use g (by rw [qP]; exact g1) (by rw [qP]; exact g2), if_neg fun z => hne z.1, qP]
 ·refine xc (xw d.ok.wf.slots j).1 ?_ ?_
  ·split
   ·exact (h.ok.wf.back f).1
   ·exact (xw h.ok.wf.slots j).1
  ·refine (List.perm_ext_iff_of_nodup (xw d.ok.wf.slots j).1.nodup ?_).2 fun q => ?_
   ·split
    ·exact (h.ok.wf.back f).1.nodup
    ·exact (xw h.ok.wf.slots j).1.nodup
   ·rw [dm.memS j q hj, qS]
    by_cases ej : j = k
    ·rw [if_pos ej, ej, hS]
     split
     ·rename_i z; exact ⟨fun _ => z, fun _ => ⟨rfl, rfl⟩⟩
     ·rename_i z; exact ⟨fun a => (by cases a), fun a => absurd a z⟩
    ·rw [if_neg ej]
     split
     ·rename_i z
      refine ⟨fun a => absurd a.2 (by dsimp only; omega), fun a => absurd a ((h.ok.zi6 hf1 q z).noS j hj)⟩
     ·exact Iff.rfl
 ·by_cases e : g = f
  ·rw [if_pos e, e]; exact d.nobody
  ·rw [if_neg e, d.others g hg e, qB]
end
end Go.Proofs.YtnhdmnijiphjjaaGreat
