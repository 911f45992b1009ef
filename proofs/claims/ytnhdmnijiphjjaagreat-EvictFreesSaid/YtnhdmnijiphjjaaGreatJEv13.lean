/- Processes: Map: what it answers and leaves. -/
import Derived.Test.YtnhdmnijiphjjaaGreatJEv12
import Derived.Deep.RegionHeld
import Derived.WalkKit
set_option linter.unusedVariables false
set_option linter.unusedSimpArgs false
/- Processes: Map: what it answers and leaves. -/
namespace Go.Proofs.YtnhdmnijiphjjaaGreat
open Go Go.RowKit
def zkw (l : List Ar) (a : Ar) (X : Int) (l' : List Ar) : Prop :=
 (a.xm ∧ anyA a l = false ∧ l.length < 16 ∧ X = 0 ∧ l'.Perm (l ++ [a]) ∧ l'.Pairwise (fun x y => ¬ y.from_ < x.from_)) ∨
 (X ≠ 0 ∧ l' = l ∧ ((¬ a.xm ∧ X = 1) ∨ (a.xm ∧ anyA a l = true ∧ X = 3) ∨ (a.xm ∧ anyA a l = false ∧ 16 ≤ l.length ∧ X = 4)))
section
variable {w w' : World} {tag tag' : Nat → Nat} {q : Sq} {x : za}
theorem za.zix {n : Nat} {pr : yf} (h : x.T n = some pr) : x.put n pr = x := by
 unfold za.put
 cases x
 simp only [za.mk.injEq, true_and] at *
 funext m
 split
 ·rename_i e; rw [e]; exact h.symm
 ·rfl
theorem zg.jm (h : zg w tag q x) {n : Nat} {pr : yf} (hn : n < 8) (hp : x.T n = some pr) {A : List Ar} {v : Value} (hb : Below w.heap.size w w') (hv : ArAt w' v A) (ho : ∀ b, v.ownBlock = some b → w.heap.size ≤ b) :
  zg (w'.setCell ⟨(q.U n).ap, 1, none⟩ v) (retag tag w (30 + n)) q (x.put n ⟨pr.T, A, pr.Q⟩) ∧ Step (fun c => c = 20 + n) tag w (retag tag w (30 + n)) (w'.setCell ⟨(q.U n).ap, 1, none⟩ v) := by
 obtain ⟨h1, h2, ⟨av, r1, r2, r3⟩, h4, h5, h6⟩ := h.procs n pr hn hp
 have t : Turn (fun b => tag b = 20 + n) w (w'.setCell ⟨(q.U n).ap, 1, none⟩ v) := (Turn.of_below hb).set (p := ⟨(q.U n).ap, 1, none⟩) (.inl h2) v
 have s : Step (fun c => c = 20 + n) tag w (retag tag w (30 + n)) (w'.setCell ⟨(q.U n).ap, 1, none⟩ v) := ⟨fun b hb => if_pos hb, t.mono fun k _ e => e⟩
 have hT : ∀ m, (x.put n ⟨pr.T, A, pr.Q⟩).T m = if m = n then some ⟨pr.T, A, pr.Q⟩ else x.T m := fun m => rfl
 have hapl := r1.lt
 refine ⟨h.turn s (by omega) (by omega) (fun m hm => ?_) (fun m hm => ?_) (.inl ⟨by omega, rfl⟩) (.inl ⟨by omega, rfl⟩) (.inl ⟨by omega, rfl⟩) (.inl ⟨by omega, rfl⟩) (.inl ⟨by omega, rfl, rfl⟩) (.inl ⟨by omega, rfl⟩) fun m pm hm hx => ?_, s⟩
 ·rw [hT]
  split
  ·rename_i e; rw [e, hp]; rfl
  ·rfl
 ·rw [hT, if_neg (by omega)]
  exact h.out m hm
 ·rw [hT] at hx
  by_cases e : m = n
  ·rw [if_pos e] at hx
   subst e
   have e2 := Option.some.inj hx
   subst e2
   have q4 := h4.lt
   have k4 := s.keeps (c := 40 + m) (by omega)
   refine .inr ⟨h1.loc (s.keeps (by omega)), (by rw [← h2]; exact if_pos hapl), ⟨v, ?_, ?_, fun b hb => ?_⟩, h4.keep fun b hb => ?_, (k4 _ q4.1 h5).1, (k4 _ q4.2.1 h6).1⟩
   ·refine ((r1.below hb).set (i := 1) (by omega) v).congr fun i hi => ?_
    rcases (by omega : i = 0 ∨ i = 1 ∨ i = 2) with rfl | rfl | rfl <;> rfl
   ·exact SlAt.keep hv fun b hb => Below.heap_setCell w' ⟨(q.U m).ap, 1, none⟩ v b (by have := ho b hb; show b ≠ (q.U m).ap; omega)
   ·exact zx _ _ _ _ (ho b hb)
   ·rcases hb with rfl | rfl
    ·exact (k4 _ q4.1 h5).2
    ·exact (k4 _ q4.2.1 h6).2
  ·rw [if_neg e] at hx
   exact .inl ⟨⟨by omega, by omega, by omega, by omega⟩, hx⟩
set_option maxRecDepth 100000 in
theorem zj7 (h : zg w tag q x) (n : Nat) (pr : yf) (hn : n < 8) (hp : x.T n = some pr) (a : Ar) (hwf : a.Wf) (hlen : pr.A.length ≤ 100) :
  Calls Tryz.prog 18 #[ptrV q.sp, .int .i64 n, a.enc] w fun e w' => ∃ X A' tag', e = .returned (.int .i64 X) ∧ zkw pr.A a X A' ∧ zg w' tag' q (x.put n ⟨pr.T, A', pr.Q⟩) ∧ Step (fun c => c = 20 + n) tag w tag' w' := by
 have hb0 := (Below.refl w.heap.size w).alloc (Nat.le_refl _) (.cells a.cells.toArray 32 (0, 0))
 have s0 : Step (fun c => c = 20 + n) tag w (retag tag w 0) (w.alloc (.cells a.cells.toArray 32 (0, 0))) := Step.anew hb0
 have h0 : zg (w.alloc (.cells a.cells.toArray 32 (0, 0))) (retag tag w 0) q x := h.step (Step.anew hb0)
 have F := Lib.hid (ji h0 (n : Int))
 have ev : Zv q x (n : Int) = .tuple #[ptrV (q.U n).ap, .bool true] := by
  unfold Zv
  rw [show ((n : Nat) : Int).toNat = n by omega, hp]
  have : (0 : Int) ≤ n := by omega
  simp [this]
 rw [ev] at F
 obtain ⟨av, r1, r2, r3⟩ := (h0.procs n pr hn hp).row
 have c1 := r1.cell (i := 1) (by omega)
 have z1 := r1.frozen 1
 dsimp only [Y8] at c1
 obtain ⟨W, hW⟩ : ∃ W, W = (w.alloc (.cells a.cells.toArray 32 (0, 0))).drew := ⟨_, rfl⟩
 have hbW : Below (w.alloc (.cells a.cells.toArray 32 (0, 0))).heap.size (w.alloc (.cells a.cells.toArray 32 (0, 0))) W := by rw [hW]; exact (Below.refl _ _).drew
 have q1 : W.cell? ⟨(q.U n).ap, 1, none⟩ = some av := by rw [hW]; exact c1
 have hSW : zg W (retag tag w 0) q x := h0.below hbW
 have sW : Step (fun c => c = 20 + n) tag w (retag tag w 0) W := s0.trans (Step.of_below hbW)
 have nb : W.heap[w.heap.size]? = some (.cells a.cells.toArray 32 (0, 0)) := by rw [hW]; exact heap_alloc_new w _
 have d : ∀ i, W.cell? ⟨w.heap.size, i, none⟩ = a.cells.toArray[i]? := fun i => cell_of_row _ _ i _ _ _ nb
 have d0 : W.cell? ⟨w.heap.size, 0, none⟩ = some (.int .i64 a.from_) := d 0
 have d1 : W.cell? ⟨w.heap.size, 1, none⟩ = some (.int .i64 a.pages) := d 1
 have d2 : W.cell? ⟨w.heap.size, 2, none⟩ = some (.bool a.write) := d 2
 have d3 : W.cell? ⟨w.heap.size, 3, none⟩ = some (.int .i64 a.kind) := d 3
 have d4 : W.cell? ⟨w.heap.size, 4, none⟩ = some (.int .i64 a.file) := d 4
 have d5 : W.cell? ⟨w.heap.size, 5, none⟩ = some (.int .i64 a.off) := d 5
 have AD := Lib.hid (zki W av pr.A (SlAt.rd (by
  obtain ⟨av', r1', r2', _⟩ := (hSW.procs n pr hn hp).row
  have := r1'.cell (i := 1) (by omega)
  rw [q1] at this
  cases this
  exact r2')) a hwf hlen)
 have CA : Hid (Calls Tryz.prog 63 #[av, a.enc] W fun e w2 => ∃ v' X A', e = .returned (.tuple #[v', .int .i64 X]) ∧ zkw pr.A a X A' ∧ (w2.cell? ⟨(q.U n).ap, 1, none⟩ = some av ∧ w2.frozen? ⟨(q.U n).ap, 1, none⟩ = false) ∧
   (w2.cell? ⟨w.heap.size, 0, none⟩ = some (.int .i64 a.from_) ∧ w2.cell? ⟨w.heap.size, 1, none⟩ = some (.int .i64 a.pages) ∧ w2.cell? ⟨w.heap.size, 2, none⟩ = some (.bool a.write) ∧ w2.cell? ⟨w.heap.size, 3, none⟩ = some (.int .i64 a.kind) ∧ w2.cell? ⟨w.heap.size, 4, none⟩ = some (.int .i64 a.file) ∧ w2.cell? ⟨w.heap.size, 5, none⟩ = some (.int .i64 a.off)) ∧
   (∃ aa cc nn, v' = .slice aa nn cc) ∧ (X = 0 → ∃ tag', zg (w2.setCell ⟨(q.U n).ap, 1, none⟩ v') tag' q (x.put n ⟨pr.T, A', pr.Q⟩) ∧ Step (fun c => c = 20 + n) tag w tag' (w2.setCell ⟨(q.U n).ap, 1, none⟩ v')) ∧
   (X ≠ 0 → ∃ tag', zg w2 tag' q (x.put n ⟨pr.T, A', pr.Q⟩) ∧ Step (fun c => c = 20 + n) tag w tag' w2)) := by
  refine AD.out.mono ?_
  rintro e w2 ⟨v', X, rfl, hb2, ho2, hpost⟩
  have rW := (hSW.procs n pr hn hp).row
  obtain ⟨av', r1', _, _⟩ := rW
  have hcell := hb2.cell (World.block_lt_of_cell? _ _ q1)
  have hfz : w2.frozen? ⟨(q.U n).ap, 1, none⟩ = false := (Zt (a := ⟨(q.U n).ap, 1, none⟩) (hb2.block _ r1'.lt)).trans (r1'.frozen 1)
  have hd : ∀ i, w2.cell? ⟨w.heap.size, i, none⟩ = W.cell? ⟨w.heap.size, i, none⟩ := fun i => World.cell?_of_block (hb2.block _ (World.block_lt_of_cell? W ⟨w.heap.size, 0, none⟩ d0))
  have bad : X ≠ 0 → ∃ tag', zg w2 tag' q (x.put n ⟨pr.T, pr.A, pr.Q⟩) ∧ Step (fun c => c = 20 + n) tag w tag' w2 := fun _ => ⟨retag tag w 0, by
   show zg w2 (retag tag w 0) q (x.put n pr)
   rw [za.zix hp]
   exact hSW.below hb2, sW.trans (Step.of_below hb2)⟩
  by_cases hs : a.xm
  ·by_cases ha : anyA a pr.A = true
   ·obtain ⟨rfl, rfl⟩ := hpost.there hs ha
    exact ⟨_, 3, pr.A, rfl, .inr ⟨by omega, rfl, .inr (.inl ⟨hs, ha, rfl⟩)⟩, ⟨hcell.trans q1, hfz⟩, ⟨(hd 0).trans d0, (hd 1).trans d1, (hd 2).trans d2, (hd 3).trans d3, (hd 4).trans d4, (hd 5).trans d5⟩, ⟨_, _, _, rfl⟩, fun e => by omega, bad⟩
   ·have ha : anyA a pr.A = false := by cases h : anyA a pr.A <;> simp_all
    by_cases h16 : 16 ≤ pr.A.length
    ·obtain ⟨rfl, rfl⟩ := hpost.full hs ha h16
     exact ⟨_, 4, pr.A, rfl, .inr ⟨by omega, rfl, .inr (.inr ⟨hs, ha, h16, rfl⟩)⟩, ⟨hcell.trans q1, hfz⟩, ⟨(hd 0).trans d0, (hd 1).trans d1, (hd 2).trans d2, (hd 3).trans d3, (hd 4).trans d4, (hd 5).trans d5⟩, ⟨_, _, _, rfl⟩, fun e => by omega, bad⟩
    ·obtain ⟨rfl, A', hA, hperm, hsrt⟩ := hpost.done hs ha (by omega)
     obtain ⟨aa, cc, hv, _, _⟩ := SlAt.form hA
     have K := hSW.jm hn hp hb2 hA ho2
     exact ⟨v', 0, A', rfl, .inl ⟨hs, ha, by omega, rfl, hperm, hsrt⟩, ⟨hcell.trans q1, hfz⟩, ⟨(hd 0).trans d0, (hd 1).trans d1, (hd 2).trans d2, (hd 3).trans d3, (hd 4).trans d4, (hd 5).trans d5⟩, ⟨_, _, _, hv⟩, fun _ => ⟨_, K.1, sW.trans K.2⟩, fun e => absurd rfl e⟩
  ·obtain ⟨rfl, rfl⟩ := hpost.arg hs
   exact ⟨_, 1, pr.A, rfl, .inr ⟨by omega, rfl, .inl ⟨hs, rfl⟩⟩, ⟨hcell.trans q1, hfz⟩, ⟨(hd 0).trans d0, (hd 1).trans d1, (hd 2).trans d2, (hd 3).trans d3, (hd 4).trans d4, (hd 5).trans d5⟩, ⟨_, _, _, rfl⟩, fun e => by omega, bad⟩
 have hd : (w.alloc (.cells a.cells.toArray 32 (0, 0))).drew = W := hW.symm
 have ec : a.cells.toArray = #[.int .i64 a.from_, .int .i64 a.pages, .bool a.write, .int .i64 a.kind, .int .i64 a.file, .int .i64 a.off] := rfl
 obtain ⟨ava, avc, hav, _, _⟩ := SlAt.form r2
 rw [ec] at F hd c1 z1
 rw [hav] at q1 CA c1
 unfold ptrV at F ⊢
 unfold Ar.enc at CA ⊢
 clear h hp hb0 s0 h0 ev r1 r2 r3 hbW hSW sW nb d AD hW ec hwf hlen hav c1 z1
 go_enter Tryz.func18, Tryz.ntmps18
 go_wp2_with fail
 refine F.out.mono ?_
 rintro e u ⟨rfl, hu⟩
 have hu := hu.symm
 subst hu
 clear F
 go_wp2_with fail
 go_region_held (fun W' => W'.cell? ⟨(q.U n).ap, 1, none⟩ = some (.slice ava pr.A.length avc) ∧ W'.cell? ⟨w.heap.size, 0, none⟩ = some (.int .i64 a.from_) ∧ W'.cell? ⟨w.heap.size, 1, none⟩ = some (.int .i64 a.pages) ∧ W'.cell? ⟨w.heap.size, 2, none⟩ = some (.bool a.write) ∧ W'.cell? ⟨w.heap.size, 3, none⟩ = some (.int .i64 a.kind) ∧ W'.cell? ⟨w.heap.size, 4, none⟩ = some (.int .i64 a.file) ∧ W'.cell? ⟨w.heap.size, 5, none⟩ = some (.int .i64 a.off)) (go_keep)
  ((go_at_call 63; refine CA.out.mono ?_; rintro e w2 ⟨v', X, A', rfl, hAR, ⟨g1, gz⟩, ⟨g2, g3, g4, g5, g6, g7⟩, ⟨aa, cc, nn, rfl⟩, HX⟩; have hX := Lib.hid HX; have hA := Lib.hid hAR; clear HX hAR))
 clear q1 d0 d1 d2 d3 d4 d5 g2 g3 g4 g5 g6 g7 hd CA
 by_cases hX0 : X = 0
 ·subst hX0
  go_wp2_with fail
  go_ret
  obtain ⟨tag', k1, k2⟩ := hX.out.1 trivial
  exact ⟨0, rfl, A', hA.out, tag', k1, k2⟩
 ·go_wp2_with fail
  go_ret
  obtain ⟨tag', k1, k2⟩ := hX.out.2 hX0
  exact ⟨X, A', tag', rfl, hA.out, k1, k2⟩
end
end Go.Proofs.YtnhdmnijiphjjaaGreat
/- Processes: one part is another one, all others are as they were. -/
namespace Go.Proofs.YtnhdmnijiphjjaaGreat
open Go Go.RowKit
section
variable {w w' : World} {tag tag' : Nat → Nat} {q : Sq} {x : za}
theorem zdw {tag : Nat → Nat} {w : World} {c b : Nat} (h : tag b = c ∨ w.heap.size ≤ b) : retag tag w c b = c := by
 unfold retag
 split
 ·rcases h with h | h
  ·exact h
  ·omega
 ·rfl
theorem zg.back' (h : zg w tag q x) {S S' : List Nat} {V' : List (Int × Value)} {B' : Int → List (Int × Int)} (hS : ∀ b ∈ S, tag b = 4) (t : Touch S w w') (hn : ∀ b ∈ S', b ∈ S ∨ w.heap.size ≤ b) (hB : vz KF w' q.bp q.bm S' V' B') :
  zg w' (retag tag w 4) q { x with B := B' } ∧ Step (fun c => c = 4) tag w (retag tag w 4) w' := by
 have s : Step (fun c => c = 4) tag w (retag tag w 4) w' := Step.retag (Turn.touch (O := fun b => tag b = 4) t fun k hk => .inl (hS k hk)) rfl
 exact ⟨h.turn s (by omega) (by omega) (fun _ _ => rfl) h.out (.inl ⟨by omega, rfl⟩) (.inl ⟨by omega, rfl⟩) (.inl ⟨by omega, rfl⟩) (.inr ⟨S', V', hB, fun b hb => zdw ((hn b hb).imp_left (hS b))⟩) (.inl ⟨by omega, rfl, rfl⟩) (.inl ⟨by omega, rfl⟩) fun _ _ _ hx => .inl ⟨⟨by omega, by omega, by omega, by omega⟩, hx⟩, s⟩
theorem zg.swap' (h : zg w tag q x) {S S' : List Nat} {V' : List Value} {L' : List (List (Int × Int))} (hS : ∀ b ∈ S, tag b = 6) (t : Touch S w w') (hn : ∀ b ∈ S', b ∈ S ∨ w.heap.size ≤ b) (hL : q8 w' q.wp S' V' L') :
  zg w' (retag tag w 6) q { x with S := L' } ∧ Step (fun c => c = 6) tag w (retag tag w 6) w' := by
 have s : Step (fun c => c = 6) tag w (retag tag w 6) w' := Step.retag (Turn.touch (O := fun b => tag b = 6) t fun k hk => .inl (hS k hk)) rfl
 exact ⟨h.turn s (by omega) (by omega) (fun _ _ => rfl) h.out (.inl ⟨by omega, rfl⟩) (.inl ⟨by omega, rfl⟩) (.inl ⟨by omega, rfl⟩) (.inl ⟨by omega, rfl⟩) (.inl ⟨by omega, rfl, rfl⟩) (.inr ⟨S', V', hL, fun b hb => zdw ((hn b hb).imp_left (hS b))⟩) fun _ _ _ hx => .inl ⟨⟨by omega, by omega, by omega, by omega⟩, hx⟩, s⟩
theorem zg.ze1 (h : zg w tag q x) {P' : zk} (t : Turn (fun b => tag b = 2) w w') (hP : z8 w' (fun b => tag b = 2) q.pp q.fs q.fb P') : zg w' tag q { x with P := P' } ∧ Step (fun c => c = 2) tag w tag w' := by
 have s : Step (fun c => c = 2) tag w tag w' := Step.Yg (c := 2) t rfl
 exact ⟨h.turn s (by omega) (by omega) (fun _ _ => rfl) h.out (.inl ⟨by omega, rfl⟩) (.inr hP) (.inl ⟨by omega, rfl⟩) (.inl ⟨by omega, rfl⟩) (.inl ⟨by omega, rfl, rfl⟩) (.inl ⟨by omega, rfl⟩) fun _ _ _ hx => .inl ⟨⟨by omega, by omega, by omega, by omega⟩, hx⟩, s⟩
theorem zg.ram' (h : zg w tag q x) {R' : RamS} (t : Turn (fun b => tag b = 1) w w') (hR : um w' (fun b => tag b = 1) q.rp q.rb R') : zg w' tag q { x with R := R' } ∧ Step (fun c => c = 1) tag w tag w' := by
 have s : Step (fun c => c = 1) tag w tag w' := Step.Yg (c := 1) t rfl
 exact ⟨h.turn s (by omega) (by omega) (fun _ _ => rfl) h.out (.inr hR) (.inl ⟨by omega, rfl⟩) (.inl ⟨by omega, rfl⟩) (.inl ⟨by omega, rfl⟩) (.inl ⟨by omega, rfl, rfl⟩) (.inl ⟨by omega, rfl⟩) fun _ _ _ hx => .inl ⟨⟨by omega, by omega, by omega, by omega⟩, hx⟩, s⟩
theorem zg.zmk (h : zg w tag q x) {D' : zq} (t : Turn (fun b => tag b = 3) w w') (hD : Zj w' (fun b => tag b = 3) q.dp D') : zg w' tag q { x with D := D' } ∧ Step (fun c => c = 3) tag w tag w' := by
 have s : Step (fun c => c = 3) tag w tag w' := Step.Yg (c := 3) t rfl
 exact ⟨h.turn s (by omega) (by omega) (fun _ _ => rfl) h.out (.inl ⟨by omega, rfl⟩) (.inl ⟨by omega, rfl⟩) (.inr hD) (.inl ⟨by omega, rfl⟩) (.inl ⟨by omega, rfl, rfl⟩) (.inl ⟨by omega, rfl⟩) fun _ _ _ hx => .inl ⟨⟨by omega, by omega, by omega, by omega⟩, hx⟩, s⟩
theorem zg.zh1 (h : zg w tag q x) {l : zau} {r : zcj} (t : Turn (fun b => tag b = 5) w w') (hC : xn w' q.cp q.c1 q.c2 l r) : zg w' tag q { x with CL := l, CR := r } ∧ Step (fun c => c = 5) tag w tag w' := by
 have s : Step (fun c => c = 5) tag w tag w' := Step.Yg (c := 5) t rfl
 exact ⟨h.turn s (by omega) (by omega) (fun _ _ => rfl) h.out (.inl ⟨by omega, rfl⟩) (.inl ⟨by omega, rfl⟩) (.inl ⟨by omega, rfl⟩) (.inl ⟨by omega, rfl⟩) (.inr ⟨hC, h.cache.2⟩) (.inl ⟨by omega, rfl⟩) fun _ _ _ hx => .inl ⟨⟨by omega, by omega, by omega, by omega⟩, hx⟩, s⟩
end
end Go.Proofs.YtnhdmnijiphjjaaGreat
/- Processes: fresh: a frame for bytes that are 0. -/
namespace Go.Proofs.YtnhdmnijiphjjaaGreat
open Go Go.RowKit
section
variable {w w' : World} {tag tag' : Nat → Nat} {q : Sq} {x : za}
set_option maxRecDepth 100000 in
theorem zda (h : zg w tag q x) (u : Nat) (hu : 2 ≤ u ∧ u ≤ 5) (f : Nat) (hn : x.P.next true = some f) (hf : f < 1024) (hb : x.R.bad f = false) :
  Calls Tryz.prog 213 #[ptrV q.sp, .int .i64 u, .func (.func 163) #[ptrV q.rp] #[]] w fun e w' => e = .returned (.tuple #[.int .i64 f, .int .i64 0]) ∧ zg w' tag q { x with P := x.P.set f u, R := x.R.write f 0 (List.replicate 64 0) } ∧ Step (fun c => c = 1 ∨ c = 2) tag w tag w' := by
 have A : Hid (Calls Tryz.prog 43 #[.pointer (some ⟨q.pp, 0, none⟩), .int .i64 u, .int .i64 0, .bool true] w fun e w1 => e = .returned (.tuple #[.int .i64 f, .int .i64 0]) ∧ zg w1 tag q { x with P := x.P.set f u } ∧ Step (fun c => c = 2) tag w tag w1) := by
  refine (Qs w _ _ _ _ _ h.pool u u rfl hu.1 hu.2).mono ?_
  rintro e w1 ⟨rfl, h1, h2, _⟩
  rw [hn] at h1 ⊢
  have k := h.ze1 h2 h1
  exact ⟨rfl, k.1, k.2⟩
 have c2 : w.cell? ⟨q.sp, 2, none⟩ = some (.pointer (some ⟨q.pp, 0, none⟩)) := h.row.cell (i := 2) (by omega)
 unfold ptrV
 clear h
 go_enter Tryz.func213, Tryz.ntmps213
 go_wp2_with fail
 refine A.out.mono ?_
 rintro e w1 ⟨rfl, h1, s1⟩
 have Z : Hid (Calls Tryz.prog 163 #[.pointer (some ⟨q.rp, 0, none⟩), .int .i64 f] w1 fun e w2 => e = .returned (.int .i64 0) ∧ zg w2 tag q { x with P := x.P.set f u, R := x.R.write f 0 (List.replicate 64 0) } ∧ Step (fun c => c = 1 ∨ c = 2) tag w tag w2) := by
  refine (zb9 w1 _ _ _ _ h1.ram f f rfl hf hb).mono ?_
  rintro e w2 ⟨rfl, h2, h3⟩
  have k := h1.ram' h3.1 h2
  exact ⟨rfl, k.1, (s1.mono fun c hc => .inr hc).trans (k.2.mono fun c hc => .inl hc)⟩
 clear h1 s1 A c2
 go_wp2_with fail
 refine Z.out.mono ?_
 rintro e w2 ⟨rfl, h2, s2⟩
 have X := Lib.hid (And.intro h2 s2)
 clear h2 s2
 go_wp2_with fail
 exact bodyPost_ret (v := .tuple #[.int .i64 f, .int .i64 0]) (by simp [results, Tryz.results213, go_sem]) rfl ⟨rfl, X.out⟩
theorem Zu (h : zg w tag q x) (u : Nat) (hu : 2 ≤ u ∧ u ≤ 5) (hn : x.P.next true = none) (fv : Value) :
  Calls Tryz.prog 213 #[ptrV q.sp, .int .i64 u, fv] w fun e w' => e = .returned (.tuple #[.int .i64 0, .int .i64 4]) ∧ Below w.heap.size w w' := by
 have A : Hid (Calls Tryz.prog 43 #[.pointer (some ⟨q.pp, 0, none⟩), .int .i64 u, .int .i64 0, .bool true] w fun e w1 => e = .returned (.tuple #[.int .i64 0, .int .i64 4]) ∧ Below w.heap.size w w1) := by
  refine (Qs w _ _ _ _ _ h.pool u u rfl hu.1 hu.2).mono ?_
  rintro e w1 ⟨rfl, _, _, h2⟩
  rw [hn]
  exact ⟨rfl, h2 hn⟩
 have c2 : w.cell? ⟨q.sp, 2, none⟩ = some (.pointer (some ⟨q.pp, 0, none⟩)) := h.row.cell (i := 2) (by omega)
 unfold ptrV
 clear h hn
 go_enter Tryz.func213, Tryz.ntmps213
 go_wp2_with fail
 refine A.out.mono ?_
 rintro e w1 ⟨rfl, h1⟩
 have X := Lib.hid h1
 clear h1
 go_wp2_with fail
 exact bodyPost_ret (v := .tuple #[.int .i64 0, .int .i64 4]) (by simp [results, Tryz.results213, go_sem]) rfl ⟨rfl, X.out⟩
end
end Go.Proofs.YtnhdmnijiphjjaaGreat
/- A region that draws its order, walked by hand: what is taken first, with the slot that it writes. No program in it. -/
namespace Go.Proofs.YtnhdmnijiphjjaaGreat
open Go Go.RowKit
section
variable {P : Program} {md : Region.Mode} {ops : Array Oper} {Q : Exit → Act → World → Prop} {S : World → Prop} {fuel : Nat} {listed : Array Bool} {a : Act} {w : World}
theorem zn {oi : Oper} (i d : Nat) (hi : ops[i]? = some oi) (hd : oi.dst = some d) (hs : Region.noSelect ops = true) (hf : Region.free md ops listed i = true) (hr : (Region.ready md ops listed).contains i = true)
  (hQ : ∀ c a w, Q (.panic c) (a.put oi.dst undef) w → Q (.panic c) a w) (hw : Region.wanted oi (yielded ops a.tmps) = false) (hS : S w)
  (h : wpAnyH P md ops Q S fuel (listed.setIfInBounds i true) (a.put (some d) undef) w) : wpAnyH P md ops Q S (fuel + 1) listed a w :=
 wpAnyH_take (v := undef) hi hs hf hr hQ (Or.inr ⟨hw, rfl⟩) hS (by rw [hd]; exact h)
theorem zb {oi : Oper} {v : Value} (i d : Nat) (hi : ops[i]? = some oi) (hd : oi.dst = some d) (hs : Region.noSelect ops = true) (hf : Region.free md ops listed i = true) (hr : (Region.ready md ops listed).contains i = true)
  (hQ : ∀ c a w, Q (.panic c) (a.put oi.dst v) w → Q (.panic c) a w) (hy : YieldsIf P ops S oi v a) (hS : S w)
  (h : wpAnyH P md ops Q S fuel (listed.setIfInBounds i true) (a.put (some d) v) w) : wpAnyH P md ops Q S (fuel + 1) listed a w :=
 wpAnyH_take (v := v) hi hs hf hr hQ hy hS (by rw [hd]; exact h)
end
end Go.Proofs.YtnhdmnijiphjjaaGreat
