/- Processes as a law has them: where nothing lies but the space itself; what its functions answer, in plain words. -/
import Derived.Test.YtnhdmnijiphjjaaGreatJAl24
import Derived.Test.YtnhdmnijiphjjaaGreatJAl23
import Derived.Test.YtnhdmnijiphjjaaGreatJAl13
import Derived.Test.YtnhdmnijiphjjaaGreatJAl12
import Derived.Lib.SlBytesConst
import Derived.ProofKit
import Derived.WalkKit
import Derived.Deep.Slices
import Derived.Test.YtnhdmnijiphjjaaGreatJAl10
import Derived.Deep.QuietTactic
import Derived.BigQuiet
set_option linter.unusedVariables false
set_option linter.unusedSimpArgs false
namespace Go.Proofs.YtnhdmnijiphjjaaGreat
open Go Go.RowKit
def bys (l : List UInt8) : List Value := l.map bV
theorem zm9 (l : List UInt8) : (bys l).length = l.length := List.length_map ..
theorem zai {w : World} {v : Value} {l : List UInt8} : BRd w v l ↔ SlRd w 1 v (bys l).length (bys l) := by rw [zm9]; exact Iff.rfl
theorem SlRd.keepO {w w' : World} {k n : Nat} {v : Value} {xs : List Value} (h : SlRd w k v n xs) (hk : ∀ b, v.ownBlock = some b → w'.heap[b]? = w.heap[b]?) : SlRd w' k v n xs := by
 refine ⟨h.1, ?_⟩
 rcases h.2 with h0 | ⟨b, off, c, rfl, hnc, hm, hg, hx⟩
 ·exact .inl h0
 ·have e := hk b (by simp [Value.ownBlock])
  exact .inr ⟨b, off, c, rfl, hnc, hm, (Array.getElem?_eq_some_iff.1 (e.trans (Array.getElem?_eq_getElem hg))).1, fun j u hu => (World.cell?_of_block (w := w) e).trans (hx j u hu)⟩
structure At (w0 : World) (V : List (Value × List Value)) (sp : Nat) (X : Abs) (r : Nat) (w : World) : Prop where
 st : ∃ x q tag, q.sp = sp ∧ zb w tag q x ∧ (∀ b, b < w0.heap.size → tag b = 0) ∧ (∀ p ∈ V, SlRd w 1 p.1 p.2.length p.2 ∧ ∀ b, p.1.ownBlock = some b → tag b = 0) ∧ Ok0 x ∧ x.abs = X ∧ r ≤ x.P.room ∧ x.D.Calm
 bel : Below w0.heap.size w0 w
section
variable {w0 w w' : World} {V : List (Value × List Value)} {sp r : Nat} {X : Abs} {C : Nat → Prop} {tag tag' : Nat → Nat}
theorem BRd.lt {v : Value} {l : List UInt8} (h : BRd w v l) : ∀ b, v.ownBlock = some b → b < w.heap.size := SlRd.lt h
theorem vv (hC : ¬ C 0) (s : Step C tag w tag' w') (hb : Below w0.heap.size w0 w) (low : ∀ b, b < w0.heap.size → tag b = 0) (hV : ∀ p ∈ V, SlRd w 1 p.1 p.2.length p.2 ∧ ∀ b, p.1.ownBlock = some b → tag b = 0) :
  (∀ b, b < w0.heap.size → tag' b = 0) ∧ (∀ p ∈ V, SlRd w' 1 p.1 p.2.length p.2 ∧ ∀ b, p.1.ownBlock = some b → tag' b = 0) ∧ Below w0.heap.size w0 w' := by
 have hsz := hb.size
 refine ⟨fun b h => (s.keeps hC b (by omega) (low b h)).1, fun p hp => ?_, ⟨s.turn.os.trans hb.os, s.turn.tape.trans hb.tape, s.turn.output.trans hb.output, Nat.le_trans hsz s.turn.size, fun k hk => (s.keeps hC k (by omega) (low k hk)).2.trans (hb.block k hk)⟩⟩
 obtain ⟨h1, h2⟩ := hV p hp
 exact ⟨SlRd.keepO h1 fun b h => (s.keeps hC b (SlRd.lt h1 b h) (h2 b h)).2, fun b h => (s.keeps hC b (SlRd.lt h1 b h) (h2 b h)).1⟩
theorem At.below (h : At w0 V sp X r w) (hb : Below w.heap.size w w') : At w0 V sp X r w' := by
 obtain ⟨⟨x, q, tag, hq, hS, low, hV, hk, hX, hr, hc⟩, hbel⟩ := h
 have s : Step (fun _ => False) tag w (retag tag w 0) w' := Step.anew hb
 obtain ⟨a, b, c⟩ := vv (C := fun _ => False) (fun h => h) s hbel low hV
 exact ⟨⟨x, q, _, hq, hS.step s, a, b, hk, hX, hr, hc⟩, c⟩
theorem At.cells (h : At w0 V sp X r w) (hb : Below w.heap.size w w') {v : Value} {l : List Value} (hv : SlRd w' 1 v l.length l) (ho : ∀ b, v.ownBlock = some b → b < w0.heap.size ∨ w.heap.size ≤ b) : At w0 ((v, l) :: V) sp X r w' := by
 obtain ⟨⟨x, q, tag, hq, hS, low, hV, hk, hX, hr, hc⟩, hbel⟩ := h
 have s : Step (fun _ => False) tag w (retag tag w 0) w' := Step.anew hb
 obtain ⟨a, b, c⟩ := vv (C := fun _ => False) (fun h => h) s hbel low hV
 refine ⟨⟨x, q, _, hq, hS.step s, a, fun p hp => ?_, hk, hX, hr, hc⟩, c⟩
 rcases List.mem_cons.1 hp with rfl | hp
 ·refine ⟨hv, fun b hb => ?_⟩
  rcases ho b hb with k | k
  ·exact a b k
  ·exact zx _ _ _ _ k
 ·exact b p hp
theorem At.more (h : At w0 V sp X r w) (hb : Below w.heap.size w w') {v : Value} {l : List UInt8} (hv : BRd w' v l) (ho : ∀ b, v.ownBlock = some b → b < w0.heap.size ∨ w.heap.size ≤ b) : At w0 ((v, bys l) :: V) sp X r w' := h.cells hb (zai.1 hv) ho
theorem At.kept (h : At w0 V sp X r w) {p : Value × List Value} (hp : p ∈ V) : SlRd w 1 p.1 p.2.length p.2 := by
 obtain ⟨⟨x, q, tag, hq, hS, low, hV, hk, hX, hr, hc⟩, hbel⟩ := h
 exact (hV p hp).1
theorem At.get (h : At w0 V sp X r w) {v : Value} {l : List UInt8} (hp : (v, bys l) ∈ V) : BRd w v l := zai.2 (h.kept hp)
theorem At.less (h : At w0 V sp X r w) {r' : Nat} (hr : r' ≤ r) : At w0 V sp X r' w := by
 obtain ⟨⟨x, q, tag, hq, hS, low, hV, hk, hX, hr', hc⟩, hbel⟩ := h
 exact ⟨⟨x, q, tag, hq, hS, low, hV, hk, hX, by omega, hc⟩, hbel⟩
theorem At.Vq (h : At w0 V sp X r w) {k : Int × Int} (hk : jf k) : (X.file k).length = 64 := by
 obtain ⟨⟨x, q, tag, hq, hS, low, hV, ho, hX, hr, hc⟩, hbel⟩ := h
 rw [← hX]
 exact ho.Vq hk
def Has (w0 : World) (V : List (Value × List Value)) (w : World) (v : Value) (l : List UInt8) : Prop := (v, bys l) ∈ V ∨ BRd w v l ∧ ∀ b, v.ownBlock = some b → b < w0.heap.size
theorem At.arg (h : At w0 V sp X r w) {v : Value} {l : List UInt8} (hv : BRd w0 v l) : Has w0 V w v l := .inr ⟨SlRd.below hv h.bel, fun b hb => SlRd.lt hv b hb⟩
theorem CS0 (n : Nat) : ¬ CS n 0 := by unfold CS; omega
theorem At.spawn (h : At w0 V sp X (r + 1) w) (n : Nat) (hn : n < 8) (hX : X.A n = none) :
  Calls Tryz.prog 17 #[ptrV sp, .int .i64 n] w fun e w' => e = .returned (.int .i64 0) ∧ At w0 V sp (X.spawn n) r w' := by
 obtain ⟨⟨x, q, tag, rfl, hS, low, hV, hk, rfl, hr, hc⟩, hbel⟩ := h
 have hx : x.T n = none := by
  have : (x.T n).map (fun pr => (pr.A, pr.Q)) = none := hX
  simpa using this
 cases hg : x.P.next false with
 | none => have := Qx hg; omega
 | some g =>
  obtain ⟨hg1, hav, hgu⟩ := Vi hg
  refine (zgh hS n hn hx g hg hg1 (hk.ok.wf.jm hg1 (by omega))).mono ?_
  rintro e w1 ⟨rfl, tag1, u, hS1, s1⟩
  obtain ⟨a, b, c⟩ := vv (CS0 n) s1 hbel low hV
  obtain ⟨k1, k2, k3, k4⟩ := hk.spawn hn hx hg
  exact ⟨rfl, ⟨⟨x.ji n g, q.at_ n u, tag1, rfl, hS1, a, b, k1, k2, by omega, by rw [k4]; exact hc⟩, c⟩⟩
theorem At.map (h : At w0 V sp X r w) (n : Nat) {A : List Ar} {Q : List (Int × Int)} (hX : X.A n = some (A, Q)) (a : Ar) (ha : a.yu) (hwf : a.Wf) (hno : anyA a A = false) (hlen : A.length < 16) :
  Calls Tryz.prog 18 #[ptrV sp, .int .i64 n, a.enc] w fun e w' => e = .returned (.int .i64 0) ∧ At w0 V sp (X.map n a (insA A a)) r w' := by
 obtain ⟨⟨x, q, tag, rfl, hS, low, hV, hk, rfl, hr, hc⟩, hbel⟩ := h
 obtain ⟨pr, hp, he⟩ := Option.map_eq_some_iff.1 (show (x.T n).map (fun pr => (pr.A, pr.Q)) = some (A, Q) from hX)
 have hA : pr.A = A := congrArg Prod.fst he
 subst hA
 have hn := hk.ok.Zx hk.out hp
 refine (zks hS n pr hn hp a hwf (by omega)).mono ?_
 rintro e w1 ⟨Y, A', tag1, rfl, hres, hS1, s1⟩
 obtain ⟨a1, b1, c1⟩ := vv (C := fun c => c = 20 + n) (by omega) s1 hbel low hV
 rcases hres with ⟨_, _, _, rfl, hperm, hsort⟩ | ⟨_, _, ⟨q1, _⟩ | ⟨_, q1, _⟩ | ⟨_, _, q1, _⟩⟩
 ·obtain ⟨k1, k2⟩ := hk.map hp ha hno hlen hperm hsort
  have hL := zir (hk.ok.wf.jr n pr hp).1 ha hno hperm hsort
  rw [hL] at k1 k2 hS1
  exact ⟨rfl, ⟨⟨_, q, tag1, rfl, hS1, a1, b1, k1, k2, hr, hc⟩, c1⟩⟩
 ·exact absurd ha q1
 ·rw [hno] at q1; cases q1
 ·omega
theorem At.tell (h : At w0 V sp X r w) (n : Nat) {A : List Ar} {Q : List (Int × Int)} (hX : X.A n = some (A, Q)) (at_ : Int) :
  Calls Tryz.prog 22 #[ptrV sp, .int .i64 n, .int .i64 at_] w fun e w' => e = .returned (.tuple #[]) ∧ At w0 V sp (X.setQ n (Y0 Q ((n : Int), at_))) r w' := by
 obtain ⟨⟨x, q, tag, rfl, hS, low, hV, hk, rfl, hr, hc⟩, hbel⟩ := h
 obtain ⟨pr, hp, he⟩ := Option.map_eq_some_iff.1 (show (x.T n).map (fun pr => (pr.A, pr.Q)) = some (A, Q) from hX)
 have hQ : pr.Q = Q := congrArg Prod.snd he
 subst hQ
 have hn := hk.ok.Zx hk.out hp
 refine (zc7 hS n n at_ rfl pr hn hp).mono ?_
 rintro e w1 ⟨rfl, hS1, s1⟩
 obtain ⟨a1, b1, c1⟩ := vv (C := fun c => c = 40 + n) (by omega) s1 hbel low hV
 obtain ⟨k1, k2⟩ := hk.sigs hp (Y0 pr.Q ((n : Int), at_))
 exact ⟨rfl, ⟨⟨_, q, tag, rfl, hS1, a1, b1, k1, k2, hr, hc⟩, c1⟩⟩
theorem At.signal (h : At w0 V sp X r w) (n : Nat) {A : List Ar} {Q : List (Int × Int)} (hX : X.A n = some (A, Q)) :
  Calls Tryz.prog 23 #[ptrV sp, .int .i64 n] w fun e w' => e = .returned (sigR Q) ∧ At w0 V sp (X.setQ n Q.tail) r w' := by
 obtain ⟨⟨x, q, tag, rfl, hS, low, hV, hk, rfl, hr, hc⟩, hbel⟩ := h
 obtain ⟨pr, hp, he⟩ := Option.map_eq_some_iff.1 (show (x.T n).map (fun pr => (pr.A, pr.Q)) = some (A, Q) from hX)
 have hQ : pr.Q = Q := congrArg Prod.snd he
 subst hQ
 have hn := hk.ok.Zx hk.out hp
 refine (zea hS n n rfl pr hn hp).mono ?_
 rintro e w1 ⟨rfl, tag1, hS1, s1⟩
 obtain ⟨a1, b1, c1⟩ := vv (C := fun c => c = 40 + n) (by omega) s1 hbel low hV
 obtain ⟨k1, k2⟩ := hk.sigs hp pr.Q.tail
 exact ⟨rfl, ⟨⟨_, q, tag1, rfl, hS1, a1, b1, k1, k2, hr, hc⟩, c1⟩⟩
theorem At.load' {x : za} {q : Sq} {tag : Nat → Nat} (hS : zb w tag q x) (hk : Ok0 x) {n : Nat} (hn : n < 8) (hs : (x.T n).isSome = true) (a s : Int) :
  Calls Tryz.prog 20 #[ptrV q.sp, .int .i64 n, .int .i64 a, .int .i64 s] w fun e w' => ∃ v tag', e = .returned (.tuple #[v, .int .i64 (x.Ub n a s).1.2]) ∧ ByAt w' v (x.Ub n a s).1.1 ∧ (∀ b, v.ownBlock = some b → tag' b = 0) ∧ zb w' tag' q (x.Ub n a s).2 ∧ Step CB tag w tag' w' := by
 refine zkt n hn _ (zim n false) hS ⟨hk, hs⟩ a s fun h0 h1 => ?_
 have hb : 0 ≤ a ∧ 0 ≤ s ∧ s ≤ 64 ∧ a + s ≤ 262144 := by
  unfold za.x8 at h0
  split at h0
  ·omega
  ·split at h0
   ·omega
   ·omega
 obtain ⟨g1, g2, _⟩ := hk.Qu hs false (a := a.toNat) (s := s.toNat) (by omega) (by omega) h1
 exact ⟨g1, g2⟩
theorem At.zju (h : At w0 V sp X (r + 5) w) (n : Nat) {a0 s : Nat} {a : Ar} (h0 : 0 < s) (h1 : a0 % 64 + s ≤ 64) (h2 : a0 + s ≤ 262144) (hn : n < 8) (hcan : y8 X n (a0 / 64) a) :
  Calls Tryz.prog 20 #[ptrV sp, .int .i64 n, .int .i64 a0, .int .i64 s] w fun e w' => ∃ v, e = .returned (.tuple #[v, .int .i64 0]) ∧ At w0 ((v, bys (((X.ct a n (a0 / 64)).drop (a0 % 64)).take s)) :: V) sp X r w' := by
 obtain ⟨⟨x, q, tag, rfl, hS, low, hV, hk, rfl, hr, hc⟩, hbel⟩ := h
 have hs : (x.T n).isSome = true := by
  have := hcan.area
  cases hp : x.T n with
  | none => unfold Abs.area za.abs at this; dsimp only at this; rw [hp] at this; cases this
  | some _ => rfl
 obtain ⟨y, e1, k1, k2, k3, k4⟩ := hk.zju hn h0 h1 h2 hcan (by omega) hc
 have W := At.load' hS hk hn hs a0 s
 rw [e1] at W
 refine W.mono ?_
 rintro e w1 ⟨v, tag1, rfl, hv, ho, hS1, s1⟩
 obtain ⟨a1, b1, c1⟩ := vv CB0 s1 hbel low hV
 refine ⟨v, rfl, ⟨⟨y, q, tag1, rfl, hS1, a1, fun p hp => ?_, k1, k2, by have := k3.room; omega, by rw [k4]; exact hc⟩, c1⟩⟩
 rcases List.mem_cons.1 hp with rfl | hp
 ·exact ⟨zai.1 (SlAt.rd hv), ho⟩
 ·exact b1 p hp
theorem At.zjt (h : At w0 V sp X (r + 10) w) (n : Nat) {a0 s : Nat} {a a2 : Ar} (h0 : s ≤ 64) (h1 : 64 < a0 % 64 + s) (h2 : a0 + s ≤ 262144) (hcan : y8 X n (a0 / 64) a) (hcan2 : y8 X n (a0 / 64 + 1) a2) :
  Calls Tryz.prog 20 #[ptrV sp, .int .i64 n, .int .i64 a0, .int .i64 s] w fun e w' => ∃ v, e = .returned (.tuple #[v, .int .i64 0]) ∧ At w0 ((v, bys (((X.ct a n (a0 / 64)).drop (a0 % 64)).take (64 - a0 % 64) ++ (X.ct a2 n (a0 / 64 + 1)).take (s - (64 - a0 % 64)))) :: V) sp X r w' := by
 obtain ⟨⟨x, q, tag, rfl, hS, low, hV, hk, rfl, hr, hc⟩, hbel⟩ := h
 have hs : (x.T n).isSome = true := by
  have := hcan.area
  cases hp : x.T n with
  | none => unfold Abs.area za.abs at this; dsimp only at this; rw [hp] at this; cases this
  | some _ => rfl
 obtain ⟨pr, hpr⟩ := Option.isSome_iff_exists.1 hs
 have hn := hk.ok.Zx hk.out hpr
 obtain ⟨y, e1, k1, k2, k3, k4⟩ := hk.zjt h0 h1 h2 hcan hcan2 (by omega) hc
 have W := At.load' hS hk hn hs a0 s
 rw [e1] at W
 refine W.mono ?_
 rintro e w1 ⟨v, tag1, rfl, hv, ho, hS1, s1⟩
 obtain ⟨a1, b1, c1⟩ := vv CB0 s1 hbel low hV
 refine ⟨v, rfl, ⟨⟨y, q, tag1, rfl, hS1, a1, fun p hp => ?_, k1, k2, by have := k3.room; omega, by rw [k4]; exact hc⟩, c1⟩⟩
 rcases List.mem_cons.1 hp with rfl | hp
 ·exact ⟨zai.1 (SlAt.rd hv), ho⟩
 ·exact b1 p hp
theorem At.store' {x : za} {q : Sq} {tag : Nat → Nat} (hS : zb w tag q x) (hk : Ok0 x) {n : Nat} (hn : n < 8) (hs : (x.T n).isSome = true) (a : Nat) {v : Value} {l : List UInt8} (hv : BRd w v l) (ho : ∀ b, v.ownBlock = some b → tag b = 0) (hr : x.x8 n a l.length = 0) :
  Calls Tryz.prog 19 #[ptrV q.sp, .int .i64 n, .int .i64 a, v] w fun e w' => e = .returned (.int .i64 (x.Yg n a l).1) ∧ ∃ tag', zb w' tag' q (x.Yg n a l).2 ∧ Step CB tag w tag' w' := by
 obtain ⟨va, vc, rfl, _, _⟩ := SlRd.form hv
 have hb : l.length ≤ 64 ∧ a + l.length ≤ 262144 := by
  have h0 := hr
  unfold za.x8 at h0
  split at h0
  ·omega
  ·split at h0
   ·omega
   ·omega
 have R := Qo hS n a l.length
 rw [hr] at R
 have P := J7 n hn true _ (zim n true) hS ⟨hk, hs⟩ a l.length (by omega) (by omega)
 have W := zgg (tag := tag) n a va vc l R hv ho hb.1 (za.zh n true 3 x a l.length) (P.mono (by
  rintro e w1 (⟨v, tag1, rfl, h0, hv, ho, hS, hst, _⟩ | ⟨tag1, rfl, h0, hS, hst⟩)
  ·exact .inl ⟨v, tag1, rfl, h0, hv, ho, hS, hst⟩
  ·exact .inr ⟨tag1, rfl, h0, hS, hst⟩)) (fun h0 => by
   obtain ⟨_, g2, g3⟩ := hk.Qu hs true (a := a) (s := l.length) hb.1 hb.2 h0
   exact ⟨g2, g3⟩)
 have e1 : (x.Yg n a l).1 = (za.zh n true 3 x a l.length).1.2 ∧ (x.Yg n a l).2 = (if (za.zh n true 3 x a l.length).1.2 = 0 then { (za.zh n true 3 x a l.length).2 with R := za.Yr (za.zh n true 3 x a l.length).1.1 l (za.zh n true 3 x a l.length).2.R } else (za.zh n true 3 x a l.length).2) := by
  unfold za.Yg
  rw [if_pos hr]
  simp only [Int.toNat_natCast]
  by_cases z : (za.zh n true 3 x a l.length).1.2 = 0
  ·rw [if_pos z, if_pos z, z]; exact ⟨rfl, rfl⟩
  ·rw [if_neg z, if_neg z]; exact ⟨rfl, rfl⟩
 rw [e1.1, e1.2]
 exact W
theorem zbg {v : Value} {l : List UInt8} (h : Has w0 V w v l) (low : ∀ b, b < w0.heap.size → tag b = 0) (hV : ∀ p ∈ V, SlRd w 1 p.1 p.2.length p.2 ∧ ∀ b, p.1.ownBlock = some b → tag b = 0) : BRd w v l ∧ ∀ b, v.ownBlock = some b → tag b = 0 := by
 rcases h with h | ⟨h, g⟩
 ·exact ⟨zai.2 (hV _ h).1, (hV _ h).2⟩
 ·exact ⟨h, fun b hb => low b (g b hb)⟩
theorem Zt {x : za} {n : Nat} (hs : (x.T n).isSome = true) {a k : Nat} (h1 : k ≤ 64) (h2 : a + k ≤ 262144) : x.x8 n a k = 0 := by
 unfold za.x8
 rw [if_neg (by rw [Int.toNat_natCast, hs]; simp), if_neg (by omega)]
theorem At.zem (h : At w0 V sp X (r + 5) w) (n : Nat) {a0 : Nat} {v : Value} {l : List UInt8} (hv : Has w0 V w v l) {a : Ar} (h0 : 0 < l.length) (h1 : a0 % 64 + l.length ≤ 64) (h2 : a0 + l.length ≤ 262144) (hn : n < 8) (hcan : y8 X n (a0 / 64) a) (hw : a.write = true) :
  Calls Tryz.prog 19 #[ptrV sp, .int .i64 n, .int .i64 a0, v] w fun e w' => e = .returned (.int .i64 0) ∧ At w0 V sp ((X.own a n (a0 / 64)).write a n (a0 / 64) (a0 % 64) l) r w' := by
 obtain ⟨⟨x, q, tag, rfl, hS, low, hV, hk, rfl, hr, hc⟩, hbel⟩ := h
 have hs : (x.T n).isSome = true := by
  have := hcan.area
  cases hp : x.T n with
  | none => unfold Abs.area za.abs at this; dsimp only at this; rw [hp] at this; cases this
  | some _ => rfl
 obtain ⟨hv1, hv2⟩ := zbg hv low hV
 obtain ⟨y, e1, k1, k2, k3, k4⟩ := hk.zem h0 h1 h2 hcan hw (by omega) hc
 have W := At.store' hS hk hn hs a0 hv1 hv2 (Zt hs (by omega) h2)
 rw [e1] at W
 refine W.mono ?_
 rintro e w1 ⟨rfl, tag1, hS1, s1⟩
 obtain ⟨a1, b1, c1⟩ := vv CB0 s1 hbel low hV
 exact ⟨rfl, ⟨⟨y, q, tag1, rfl, hS1, a1, b1, k1, k2, by have := k3.room; omega, by rw [k4]; exact hc⟩, c1⟩⟩
theorem At.zek (h : At w0 V sp X (r + 10) w) (n : Nat) {a0 : Nat} {v : Value} {l : List UInt8} (hv : Has w0 V w v l) {a a2 : Ar} (h0 : l.length ≤ 64) (h1 : 64 < a0 % 64 + l.length) (h2 : a0 + l.length ≤ 262144) (hcan : y8 X n (a0 / 64) a) (hcan2 : y8 X n (a0 / 64 + 1) a2) (hw : a.write = true) (hw2 : a2.write = true) :
  Calls Tryz.prog 19 #[ptrV sp, .int .i64 n, .int .i64 a0, v] w fun e w' => e = .returned (.int .i64 0) ∧ At w0 V sp ((((X.own a n (a0 / 64)).own a2 n (a0 / 64 + 1)).write a n (a0 / 64) (a0 % 64) (l.take (64 - a0 % 64))).write a2 n (a0 / 64 + 1) 0 (l.drop (64 - a0 % 64))) r w' := by
 obtain ⟨⟨x, q, tag, rfl, hS, low, hV, hk, rfl, hr, hc⟩, hbel⟩ := h
 have hs : (x.T n).isSome = true := by
  have := hcan.area
  cases hp : x.T n with
  | none => unfold Abs.area za.abs at this; dsimp only at this; rw [hp] at this; cases this
  | some _ => rfl
 obtain ⟨pr, hpr⟩ := Option.isSome_iff_exists.1 hs
 have hn := hk.ok.Zx hk.out hpr
 obtain ⟨hv1, hv2⟩ := zbg hv low hV
 obtain ⟨y, e1, k1, k2, k3, k4⟩ := hk.zek h0 h1 h2 hcan hcan2 hw hw2 (by omega) hc
 have W := At.store' hS hk hn hs a0 hv1 hv2 (Zt hs (by omega) h2)
 rw [e1] at W
 refine W.mono ?_
 rintro e w1 ⟨rfl, tag1, hS1, s1⟩
 obtain ⟨a1, b1, c1⟩ := vv CB0 s1 hbel low hV
 exact ⟨rfl, ⟨⟨y, q, tag1, rfl, hS1, a1, b1, k1, k2, by have := k3.room; omega, by rw [k4]; exact hc⟩, c1⟩⟩
theorem zb.secs {q : Sq} {x : za} (h : zb w tag q x) : ∀ s, s < 192 → (x.D.cur s).length = 64 := by
 intro s hs
 obtain ⟨sb, off, c, mb, U, L, hD⟩ := h.disk
 obtain ⟨v, _, hv⟩ := U5 _ hD s hs
 exact hv.1
theorem At.fresh (w : World) (n m : Nat) (hn : n ≤ 4) (hm : m ≤ 4) :
  Calls Tryz.prog 16 #[.int .i64 n, .int .i64 m] w fun e w' => ∃ sp wp file cur, e = .returned (.tuple #[ptrV sp, ptrV wp]) ∧ At w [] sp (.start file cur) (32 * n) w' := by
 refine (zf0 w n m hn hm).mono ?_
 rintro e w1 ⟨q, tag, D, wp, rfl, hS, hb, low, hc, _, _⟩
 refine ⟨q.sp, wp, _, _, rfl, ⟨⟨_, q, tag, rfl, hS, low, fun p hp => (by cases hp), zjc _ _ (fun f => ?_) hS.secs, zg1 _ _, zfo n m (by omega), hc⟩, hb⟩⟩
 rw [zci]
 split
 ·exact .inr rfl
 ·exact .inl rfl
end
def ar19 : Ar := ⟨0, 2, true, 1, 0, 0⟩
def l19 : List UInt8 := [97, 98, 99, 100, 101, 102, 103, 104]
theorem zgd : ar19.yu := by decide
theorem znb : ar19.Wf := by unfold Ar.Wf; decide
def X19 (file : Int × Int → List UInt8) (cur : Nat → List UInt8) : Abs := ((Abs.start file cur).spawn 1).map 1 ar19 [ar19]
theorem can19 (file : Int × Int → List UInt8) (cur : Nat → List UInt8) (pg : Nat) (h : pg < 2) : y8 (X19 file cur) 1 pg ar19 := by
 refine ⟨?_, ?_⟩
 ·have : pg = 0 ∨ pg = 1 := by omega
  rcases this with rfl | rfl <;> rfl
 ·unfold X19
  rw [Abs.Vk, if_pos ⟨rfl, by omega, by unfold Ar.Has ar19; dsimp only; omega⟩]
  unfold Jn
  rw [if_pos (show ar19.kind = 1 from rfl)]
  intro h; cases h
def Y19 (file : Int × Int → List UInt8) (cur : Nat → List UInt8) : Abs := ((((X19 file cur).own ar19 1 0).own ar19 1 1).write ar19 1 0 60 (l19.take 4)).write ar19 1 1 0 (l19.drop 4)
theorem pv19 (file : Int × Int → List UInt8) (cur : Nat → List UInt8) : (Y19 file cur).pv 1 0 = .own (List.replicate 60 0 ++ [97, 98, 99, 100]) ∧ (Y19 file cur).pv 1 1 = .own ([101, 102, 103, 104] ++ List.replicate 60 0) := ⟨rfl, rfl⟩
theorem zmf (file : Int × Int → List UInt8) (cur : Nat → List UInt8) (pg : Nat) (h : pg < 2) : y8 (Y19 file cur) 1 pg ar19 := by
 have : pg = 0 ∨ pg = 1 := by omega
 refine ⟨?_, ?_⟩
 ·rcases this with rfl | rfl <;> rfl
 ·rcases this with rfl | rfl
  ·rw [(pv19 file cur).1]; intro h; cases h
  ·rw [(pv19 file cur).2]; intro h; cases h
theorem read19 (file : Int × Int → List UInt8) (cur : Nat → List UInt8) : (((Y19 file cur).ct ar19 1 (62 / 64)).drop (62 % 64)).take (64 - 62 % 64) ++ ((Y19 file cur).ct ar19 1 (62 / 64 + 1)).take (4 - (64 - 62 % 64)) = [99, 100, 101, 102] := rfl
theorem Xh (w : World) (C : Array Value) (T : TypeId) (fz : Nat × Nat) (j : Nat) : (w.alloc (.cells C T fz)).cell? ⟨w.heap.size, j, none⟩ = C[j]? := by
 have : (w.alloc (.cells C T fz)).heap[w.heap.size]? = some (.cells C T fz) := by
  show (w.heap.push _)[w.heap.size]? = _
  simp
 unfold World.cell?
 rw [this]
 simp
theorem zhv (j : Nat) : (#[.int .u8 97, .int .u8 98, .int .u8 99, .int .u8 100, .int .u8 101, .int .u8 102, .int .u8 103, .int .u8 104] : Array Value)[j]? = (l19.map bV)[j]? := by
 rw [← Array.getElem?_toList]
 rfl
set_option maxRecDepth 100000 in
set_option maxHeartbeats 1000000 in
theorem yj (w : World) : Calls Tryz.prog 15 #[] w fun e w' => e = .returned (.bool true) ∧ Below w.heap.size w w' := by
 have kc := fun (w : World) (C : Array Value) (n c : Nat) => Lib.run_convert_bytes_const (P := Tryz.prog) w 22 5 C n c Tryz.underlying22 Tryz.underlying5
 go_enter Tryz.func15, Tryz.ntmps15
 go_wp2_with fail
 refine (At.fresh w 2 2 (by omega) (by omega)).mono ?_
 rintro e w1 ⟨sp, wp, file, cur, rfl, h1⟩
 have H1 := Lib.hid (h1.less (r' := 63 + 1) (by omega))
 clear h1
 unfold ptrV at *
 go_wp2_with fail
 refine (At.spawn H1.out 1 (by omega) rfl).mono ?_
 rintro e w2 ⟨rfl, h2⟩
 have H2 := Lib.hid h2
 clear h2 H1
 go_wp2_with fail
 refine (At.map H2.out 1 (A := []) (Q := []) rfl ar19 zgd znb rfl (by simp)).mono ?_
 rintro e w3 ⟨rfl, h3⟩
 rw [U7] at h3
 have H3 : Hid (At w [] sp (X19 file cur) 63 w3) := Lib.hid h3
 clear h3 H2
 go_wp2_with fail
 have hb4 : Below w3.heap.size w3 (w3.alloc (.cells #[.int .u8 97, .int .u8 98, .int .u8 99, .int .u8 100, .int .u8 101, .int .u8 102, .int .u8 103, .int .u8 104] 5 (8, 9))) := (Below.refl _ _).alloc (Nat.le_refl _) _
 have hv4 : BRd (w3.alloc (.cells #[.int .u8 97, .int .u8 98, .int .u8 99, .int .u8 100, .int .u8 101, .int .u8 102, .int .u8 103, .int .u8 104] 5 (8, 9))) (.slice (some ⟨w3.heap.size, 0, none⟩) 8 8) l19 := by
  refine ⟨rfl, .inr ⟨w3.heap.size, 0, 8, rfl, Nat.le_refl _, by decide, by simp, fun j u hu => ?_⟩⟩
  rw [Nat.zero_add, Xh, ← hu]
  exact zhv j
 have H4 := Lib.hid (H3.out.more hb4 hv4 fun b hb => .inr (by simp [Value.ownBlock] at hb; omega))
 clear hb4 hv4
 refine (At.zek (r := 53) H4.out 1 (a0 := 60) (.inl (List.mem_cons_self ..)) (by decide) (by decide) (by decide) (can19 file cur 0 (by omega)) (can19 file cur 1 (by omega)) rfl rfl).mono ?_
 rintro e w5 ⟨rfl, h5⟩
 have H5 : Hid (At w [(.slice (some ⟨w3.heap.size, 0, none⟩) 8 8, bys l19)] sp (Y19 file cur) 53 w5) := Lib.hid h5
 clear h5 H4 H3 kc
 go_wp2_with fail
 refine (At.zjt (r := 43) H5.out 1 (a0 := 62) (s := 4) (by decide) (by decide) (by decide) (zmf file cur 0 (by omega)) (zmf file cur 1 (by omega))).mono ?_
 rintro e w6 ⟨v, rfl, h6⟩
 rw [read19] at h6
 have hv := h6.get (List.mem_cons_self ..)
 have hbel := Lib.hid h6.bel
 obtain ⟨b, off, c, hve, _, _, hx⟩ := SlRd.cells hv (by simp)
 try dsimp only at hve hx
 subst hve
 have ks : (convert 22 9 (.slice (some ⟨b, off, none⟩) 4 c)).run Tryz.prog w6 = .ok (.string ⟨#[99, 100, 101, 102]⟩) w6 := by
  have := run_convert_bytes_back (P := Tryz.prog) w6 22 9 5 ⟨b, off, none⟩ c [99, 100, 101, 102] Tryz.underlying22 Tryz.underlying5 Tryz.underlying9 (fun j hj => by
   have := hx j _ (by rw [List.getElem?_map, List.getElem?_eq_getElem hj]; rfl)
   rw [add_plain]
   exact this)
  exact this
 clear hv hx h6 H5
 go_wp2_with fail
 go_ret
 exact ⟨rfl, hbel.out⟩
end Go.Proofs.YtnhdmnijiphjjaaGreat
namespace Go.Proofs.YtnhdmnijiphjjaaGreat.Open
open Go Go.ChangeShapes Go.WideShapes Go.RowKit Go.Deep
abbrev Leaf := Option IntKind
def LeafOk : Leaf → Value → Prop
 | some k, v => ∃ n, v = .int k n ∧ (Lit.int k n).wf = true
 | none, v => ∃ b, v = .bool b
def Xe : List Leaf → List Value → Prop
 | [], [] => True
 | l :: ls, v :: vs => LeafOk l v ∧ Xe ls vs
 | _, _ => False
theorem Xe.append : ∀ {a b : List Leaf} {x y : List Value}, Xe a x → Xe b y → Xe (a ++ b) (x ++ y)
 | [], _, [], _, _, h => h
 | [], _, _ :: _, _, h, _ => h.elim
 | _ :: _, _, [], _, h, _ => h.elim
 | _ :: _, _, _ :: _, _, ⟨h, t⟩, k => ⟨h, Xe.append t k⟩
theorem Xe.length : ∀ {a : List Leaf} {x : List Value}, Xe a x → a.length = x.length
 | [], [], _ => rfl
 | [], _ :: _, h => h.elim
 | _ :: _, [], h => h.elim
 | _ :: _, _ :: _, h => congrArg (· + 1) (Xe.length h.2)
def Zg (P : Program) (g : TypeId → Option (List Leaf)) : List Field → Nat → Option (List Leaf)
 | [], _ => some []
 | f :: fs, off =>
  if f.offset = off then
   match g f.type with
   | some l => if l.length = P.cellsOf f.type then (Zg P g fs (off + l.length)).map (l ++ ·) else none
   | none => none
  else none
def Xi (P : Program) : Nat → TypeId → Option (List Leaf)
 | 0, _ => none
 | n + 1, t =>
  match P.underlying t with
  | some .bool => some [none]
  | some (.int k) => some [some k]
  | some (.struct fs) =>
   match Zg P (Xi P n) fs.toList 0 with
   | some l => if l.length = P.cellsOf t then some l else none
   | none => none
  | _ => none
section
variable {H : Type} {enc : TypeId × Value → H} {P : Program} {w : World} {base : Nat} {spare : Nat → Bool} {held : Bool}
theorem zc0 {g : TypeId → Option (List Leaf)} {n : Nat} {cs : List Value}
  (hg : ∀ t l cs x, g t = some l → DataW.trod enc P w base spare held n t cs = some x → Xe l cs) :
  ∀ (fs : List Field) (off : Nat) (l : List Leaf), Zg P g fs off = some l → (∀ f ∈ fs, ∃ x, DataW.trod enc P w base spare held n f.type ((cs.drop f.offset).take (P.cellsOf f.type)) = some x) →
   Xe l ((cs.drop off).take l.length)
 | [], _, l, h, _ => by simp [Zg] at h; subst h; simp [Xe]
 | f :: fs, off, l, h, ht => by
  unfold Zg at h
  split at h
  ·rename_i ho
   split at h
   ·rename_i l1 hl1
    split at h
    ·rename_i hlen
     obtain ⟨l2, h2, rfl⟩ := Option.map_eq_some_iff.1 h
     obtain ⟨x, hx⟩ := ht f (by simp)
     have a1 := hg _ _ _ _ hl1 hx
     have a2 := zc0 hg fs _ l2 h2 (fun f' hf' => ht f' (by simp [hf']))
     rw [ho, ← hlen] at a1
     have e : (cs.drop off).take (l1 ++ l2).length = (cs.drop off).take l1.length ++ (cs.drop (off + l1.length)).take l2.length := by
      rw [List.length_append, List.take_add, List.drop_drop]
     rw [e]
     exact a1.append a2
    ·cases h
   ·cases h
  ·cases h
theorem zcn : ∀ (m n : Nat) (t : TypeId) (l : List Leaf) (cs : List Value) (x : DataW H × List MemPlace), Xi P m t = some l → DataW.trod enc P w base spare held n t cs = some x → Xe l cs
 | 0, _, _, _, _, _, h, _ => by simp [Xi] at h
 | m + 1, n, t, l, cs, x, h, hx => by
  unfold Xi at h
  split at h
  ·rename_i hu
   obtain ⟨b, rfl, _⟩ := DataW.trod_bool hu hx
   cases h
   exact ⟨⟨b, rfl⟩, trivial⟩
  ·rename_i k hu
   obtain ⟨v, rfl, _, hw⟩ := DataW.trod_int hu hx
   cases h
   exact ⟨⟨v, rfl, hw⟩, trivial⟩
  ·rename_i fs hu
   split at h
   ·rename_i l' hl'
    split at h
    ·rename_i hlen
     cases h
     obtain ⟨xs, n', rfl, _, hcs, hsz, hf⟩ := DataW.trod_struct hu hx
     have := zc0 (enc := enc) (w := w) (base := base) (spare := spare) (held := held) (n := n') (cs := cs) (fun t l cs x h1 h2 => zcn m n' t l cs x h1 h2) fs.toList 0 l hl' (fun f hfm => by
      obtain ⟨i, hi, rfl⟩ := List.getElem_of_mem hfm
      have e := hf i (fs.toList[i]) (by simp)
      rw [e, List.getElem?_eq_getElem (by simpa [hsz] using hi)]
      exact ⟨_, rfl⟩)
     rw [List.drop_zero, List.take_of_length_le (by omega)] at this
     exact this
    ·cases h
   ·cases h
  ·cases h
def RowsAt {α : Type} (w : World) (enc : α → List Value) (k : Nat) (a : Option Addr) (len cap : Nat) (z : List α) : Prop :=
 z.length = len ∧ len ≤ cap ∧ cap ≤ maxLen ∧ ∀ i, i < len → ∃ b off, a = some ⟨b, off, none⟩ ∧ b < w.heap.size ∧ ∀ x, z[i]? = some x → ∀ j v, (enc x)[j]? = some v → w.cell? ⟨b, off + (i * k + j), none⟩ = some v
theorem zg6 {α : Type} [Inhabited α] {encα : α → List Value} {k : Nat} {t e : TypeId} {a : Option Addr} {len cap : Nat} {d : DataW H} {p : List MemPlace} {l : List Leaf} (P2 : α → Prop)
  (ht : P.underlying t = some (.slice e)) (hl : Xi P 10 e = some l) (hk : P.cellsOf e = k) (hk0 : 0 < k) (dec : ∀ cs, Xe l cs → ∃ x, cs = encα x ∧ P2 x)
  (h : DataW.Trod enc P w base spare held t (.slice a len cap) d p) : ∃ z, RowsAt w encα k a len cap z ∧ ∀ x ∈ z, P2 x := by
 obtain ⟨fuel, hf⟩ := h
 rcases open_slice ht hf with ⟨hcs, _⟩ | ⟨x, l', c', m, n, D, Pl, hcs, _, hle, hmx, hm, _, hx⟩
 ·simp [Value.cells] at hcs
  obtain ⟨rfl, rfl, rfl⟩ := hcs
  exact ⟨[], ⟨rfl, Nat.le_refl _, by unfold maxLen; omega, fun i hi => by omega⟩, by simp⟩
 ·simp [Value.cells] at hcs
  obtain ⟨rfl, rfl, rfl⟩ := hcs
  have hlm : len ≤ m := by rw [hm]; split <;> omega
  have key : ∀ i, i < len → ∃ y, P2 y ∧ (encα y).length = k ∧ ∀ j, j < k → w.cell? ((x.add (i * k)).add j) = (encα y)[j]? := fun i hi => by
   obtain ⟨cs', h1, h2⟩ := hx i (by omega)
   obtain ⟨y, rfl, hp⟩ := dec cs' (zcn 10 n e l cs' _ hl h2)
   rw [hk] at h1
   obtain ⟨_, hlen, hc⟩ := World.cells?_some h1
   exact ⟨y, hp, hlen, hc⟩
  obtain ⟨f, hf⟩ := choose_lt key
  refine ⟨(List.range len).map f, ⟨by simp, hle, hmx, fun i hi => ?_⟩, fun y hy => ?_⟩
  ·obtain ⟨hp, hlen, hc⟩ := hf i hi
   obtain ⟨_, hlen0, hc0'⟩ := hf 0 (by omega)
   have hc0 := hc0' 0 hk0
   rw [List.getElem?_eq_getElem (by omega), Nat.zero_mul] at hc0
   have e0 : (x.add 0).add 0 = x := by simp [Addr.add]
   rw [e0] at hc0
   have hsp : x.spot = none := by
    unfold World.cell? at hc0
    split at hc0
    ·split at hc0
     ·cases hc0
     ·rename_i hs; simpa using hs
    ·cases hc0
   have hb : x.block < w.heap.size := World.block_lt_of_cell? w _ hc0
   obtain ⟨b, off, sp⟩ := x
   obtain rfl : sp = none := hsp
   have ea : ∀ i, (⟨b, off, none⟩ : Addr).add i = ⟨b, off + i, none⟩ := fun i => by unfold Addr.add; split <;> simp_all
   have ea2 : ∀ i j, ((⟨b, off, none⟩ : Addr).add i).add j = ⟨b, off + i + j, none⟩ := fun i j => by rw [ea]; unfold Addr.add; split <;> simp_all
   refine ⟨b, off, rfl, hb, fun y hy j v hv => ?_⟩
   simp [hi] at hy
   subst hy
   have hj : j < k := by have := (List.getElem?_eq_some_iff.1 hv).1; omega
   have := hc j hj
   rw [ea2, hv, Nat.add_assoc] at this
   exact this
  ·obtain ⟨i, hi, rfl⟩ := List.mem_map.1 hy
   exact (hf i (List.mem_range.1 hi)).1
end
end Go.Proofs.YtnhdmnijiphjjaaGreat.Open
namespace Go.Proofs.YtnhdmnijiphjjaaGreat.Open
open Go Go.ChangeShapes Go.WideShapes Go.RowKit Go.Deep
theorem zdw {P : Program} {w : World} {r : Reach} {base : Nat} {t e : TypeId} {x : Addr} {len cap : Nat} (ht : P.underlying t = some (.slice e)) (h : Value.okWide P w r base t (.slice (some x) len cap)) : x.spot = none ∧ x.block < w.heap.size := by
 simp only [Value.okWide, ht, Cell.okWide, Cell.ok] at h
 obtain ⟨_, _, _, hs, row, cells, hsh, _⟩ := h
 refine ⟨hs, ?_⟩
 unfold World.shape? at hsh
 by_cases hb : x.block < w.heap.size
 ·exact hb
 ·rw [Array.getElem?_eq_none (by omega)] at hsh
  simp at hsh
theorem flat_get {α : Type} {enc : α → List Value} {k : Nat} (hk : ∀ x, (enc x).length = k) (hk0 : 0 < k) {z : List α} {j : Nat} {u : Value} (h : (z.flatMap enc)[j]? = some u) : ∃ x, z[j / k]? = some x ∧ (enc x)[j % k]? = some u := by
 induction z generalizing j with
 | nil => simp at h
 | cons y z ih =>
  rw [List.flatMap_cons] at h
  by_cases hj : j < k
  ·rw [List.getElem?_append_left (by rw [hk]; exact hj)] at h
   exact ⟨y, by simp [Nat.div_eq_of_lt hj], by rw [Nat.mod_eq_of_lt hj]; exact h⟩
  ·rw [List.getElem?_append_right (by rw [hk]; omega), hk] at h
   obtain ⟨x, h1, h2⟩ := ih h
   have e : j / k = (j - k) / k + 1 := by rw [Nat.div_eq_sub_div hk0 (by omega)]
   have e2 : j % k = (j - k) % k := by rw [Nat.mod_eq_sub_mod (by omega)]
   exact ⟨x, by rw [e]; simpa using h1, by rw [e2]; exact h2⟩
theorem Qq {H : Type} {enc : TypeId × Value → H} {P : Program} {w : World} {base : Nat} {spare : Nat → Bool} {held : Bool} {α : Type} [Inhabited α] {encα : α → List Value} {k : Nat} {t e : TypeId} {a : Option Addr} {len cap : Nat} {d : DataW H} {p : List MemPlace} {l : List Leaf} {r : Reach} {b0 : Nat} (P2 : α → Prop)
  (ht : P.underlying t = some (.slice e)) (hl : Xi P 10 e = some l) (hk : P.cellsOf e = k) (hk0 : 0 < k) (hek : ∀ x, (encα x).length = k) (dec : ∀ cs, Xe l cs → ∃ x, cs = encα x ∧ P2 x)
  (hv : Value.okWide P w r b0 t (.slice a len cap)) (h : DataW.Trod enc P w base spare held t (.slice a len cap) d p) : ∃ z : List α, z.length = len ∧ SlRd w k (.slice a len cap) len (z.flatMap encα) ∧ ∀ x ∈ z, P2 x := by
 obtain ⟨z, ⟨h1, h2, h3, h4⟩, h5⟩ := zg6 (encα := encα) (k := k) P2 ht hl hk hk0 dec h
 refine ⟨z, h1, ⟨?_, ?_⟩, h5⟩
 ·rw [← h1]
  clear h1 h4 h5
  induction z with
  | nil => simp
  | cons x z ih => rw [List.flatMap_cons, List.length_append, ih, hek, List.length_cons]; rw [Nat.add_mul]; omega
 ·cases a with
  | none =>
   left
   simp only [Value.okWide, ht, Cell.okWide] at hv
   cases len <;> cases cap <;> simp_all [Cell.ok]
  | some x =>
   right
   obtain ⟨b, off, sp⟩ := x
   obtain ⟨hs, hb⟩ := zdw ht hv
   obtain rfl : sp = none := hs
   refine ⟨b, off, cap, rfl, h2, h3, hb, fun j u hu => ?_⟩
   obtain ⟨y, hy1, hy2⟩ := flat_get hek hk0 hu
   have hi : j / k < len := by rw [← h1]; exact (List.getElem?_eq_some_iff.1 hy1).1
   obtain ⟨b', off', e, _, hc⟩ := h4 (j / k) hi
   cases e
   have := hc y hy1 (j % k) u hy2
   rw [show j / k * k + j % k = j by rw [Nat.mul_comm]; exact Nat.div_add_mod j k] at this
   exact this
end Go.Proofs.YtnhdmnijiphjjaaGreat.Open
namespace Go.Proofs.YtnhdmnijiphjjaaGreat
open Go Go.RowKit
def u16L (x : Int) : List Value := [.int .u16 x]
theorem zjb (x : Int) : (u16L x).length = 1 := rfl
def U16 (x : Int) : Prop := 0 ≤ x ∧ x < 65536
theorem decU16 (cs : List Value) (h : Open.Xe [some .u16] cs) : ∃ x, cs = u16L x ∧ U16 x := by
 have hlen := h.length
 rcases cs with _ | ⟨c, _ | ⟨d, cs⟩⟩ <;> simp at hlen
 obtain ⟨⟨n, rfl, hn⟩, _⟩ := h
 refine ⟨n, rfl, ?_⟩
 simp [Lit.wf] at hn
 exact ⟨hn.1, by have : n ≤ 65535 := hn.2; omega⟩
def sgs (z : List Int) (i : Nat) : List (Int × Int) := ((z.take i).map fun y => ((4 : Int), y)).take 16
theorem zjd (z : List Int) (i : Nat) (y : Int) (h : z[i]? = some y) : Y0 (sgs z i) (4, y) = sgs z (i + 1) := by
 have hi : i < z.length := (List.getElem?_eq_some_iff.1 h).1
 have hl : ((z.take i).map fun y => ((4 : Int), y)).length = i := by simp; omega
 have e : (z.take (i + 1)).map (fun y => ((4 : Int), y)) = (z.take i).map (fun y => ((4 : Int), y)) ++ [(4, y)] := by
  rw [List.take_add_one, h, List.map_append]; rfl
 unfold sgs Y0
 rw [e]
 by_cases h16 : i < 16
 ·have e2 : ((z.take i).map fun y => ((4 : Int), y)).take 16 = (z.take i).map fun y => ((4 : Int), y) := List.take_of_length_le (by omega)
  rw [e2, if_pos (by omega)]
  exact (List.take_of_length_le (by rw [List.length_append, hl]; simp; omega)).symm
 ·rw [if_neg (by rw [List.length_take]; omega), List.take_append_of_le_length (by omega)]
theorem zmo (z : List Int) (j : Nat) (y : Int) (h : z[j]? = some y) (hj : j < 16) : ∃ t, (sgs z z.length).drop j = (4, y) :: t := by
 have hi : j < z.length := (List.getElem?_eq_some_iff.1 h).1
 have e : (sgs z z.length)[j]? = some (4, y) := by
  unfold sgs
  rw [List.take_length, List.getElem?_take_of_lt hj, List.getElem?_map, h]
  rfl
 obtain ⟨hlt, he⟩ := List.getElem?_eq_some_iff.1 e
 exact ⟨_, by rw [List.drop_eq_getElem_cons hlt, he]⟩
theorem Abs.zk5 (X : Abs) (n : Nat) (Q : List (Int × Int)) : (X.setQ n Q).A n = (X.A n).map fun p => (p.1, Q) := if_pos rfl
theorem zgx (z : List Int) (i : Nat) (y : Int) (h : z[i]? = some y) : (z.flatMap u16L)[i]? = some (.int .u16 y) := by
 have : ∀ z : List Int, z.flatMap u16L = z.map (Value.int .u16) := fun z => by
  induction z with
  | nil => rfl
  | cons a z ih => rw [List.flatMap_cons, List.map_cons, ih]; rfl
 rw [this, List.getElem?_map, h]
 rfl
set_option maxRecDepth 100000 in
set_option maxHeartbeats 1000000 in
theorem zb7 (v : Value) (z : List Int) (w : World) (hr : SlRd w 1 v z.length (z.flatMap u16L)) (hu : ∀ x ∈ z, U16 x) :
  Calls Tryz.prog 4 #[v] w fun e w' => e = .returned (.bool true) ∧ Below w.heap.size w w' := by
 obtain ⟨a, c, rfl, hc1, hc2⟩ := SlRd.form hr
 obtain ⟨n, hn⟩ : ∃ n, n = z.length := ⟨_, rfl⟩
 have HR := Lib.hid hr
 have HU := Lib.hid hu
 have HN := Lib.hid hn
 rw [← hn]
 have hcap : n ≤ maxLen := by omega
 clear hr hu hc1 hc2 hn
 by_cases hlong : 60 < n
 ·have hh : (60 : Int) < n := by omega
  go_enter Tryz.func4, Tryz.ntmps4
  go_wp2_with fail
  refine (yj w).mono ?_
  rintro e w1 ⟨rfl, h1⟩
  have H1 := Lib.hid h1
  clear h1
  go_wp2_with fail
  go_ret
  exact ⟨rfl, H1.out⟩
 ·have hh : ¬ (60 : Int) < n := by omega
  go_enter Tryz.func4, Tryz.ntmps4
  go_wp2_with fail
  refine (At.fresh w 1 1 (by omega) (by omega)).mono ?_
  rintro e w1 ⟨sp, wp, file, cur, rfl, h1⟩
  have H1 := Lib.hid (h1.less (r' := 31 + 1) (by omega))
  clear h1
  unfold ptrV at *
  go_wp2_with fail
  refine (At.spawn H1.out 4 (by omega) rfl).mono ?_
  rintro e w2 ⟨rfl, h2⟩
  have H2 := Lib.hid h2
  clear h2 H1
  go_wp2_with fail
  go_loopw [5] (fun iv W => ∃ (i : Nat) (X : Abs), i ≤ n ∧ iv = .int .i64 i ∧ At w [] sp X 31 W ∧ X.A 4 = some ([], sgs z i)) (fun iv _ => n - (intOf iv).toNat)
  case atStart => exact ⟨0, _, by omega, rfl, H2.out, rfl⟩
  case round =>
   obtain ⟨i, X, hi, rfl, hX, hA⟩ := hrel
   have H3 := Lib.hid (And.intro hX hA)
   clear hX hA H2
   by_cases hlt : i < n
   ·obtain ⟨y, hy⟩ : ∃ y, z[i]? = some y := ⟨_, List.getElem?_eq_getElem (by have := HN.out; omega)⟩
    obtain ⟨y0, y1⟩ := HU.out y (List.mem_of_getElem? hy)
    obtain ⟨b, off, c', he, _, _, hx⟩ := SlRd.cells (SlRd.below HR.out H3.out.1.bel) (by rw [(HR.out).1]; have := HN.out; omega)
    cases he
    have k0 := hx i _ (zgx z i y hy)
    clear hx
    go_wp2_with fail
    refine (At.tell H3.out.1 4 H3.out.2 y).mono ?_
    rintro e w3 ⟨rfl, h3⟩
    rw [show Y0 (sgs z i) (((4 : Nat) : Int), y) = sgs z (i + 1) from zjd z i y hy] at h3
    have H4 := Lib.hid h3
    clear h3 k0
    go_wp2_with fail
    go_roundw
    case rel =>
     refine ⟨i + 1, _, by omega, by go_num, H4.out, ?_⟩
     rw [Abs.zk5, H3.out.2]
     rfl
    case measure => simp [intOf]; omega
   ·have hi' : i = n := by omega
    subst hi'
    go_wp2_with fail
    go_loopw [6, 7, 8] (fun jv xv ev W => ∃ (j : Nat) (X : Abs), j ≤ i ∧ j ≤ 16 ∧ jv = .int .i64 j ∧ At w [] sp X 31 W ∧ X.A 4 = some ([], (sgs z i).drop j)) (fun jv _ _ _ => i - (intOf jv).toNat)
    case atStart => exact ⟨0, _, by omega, by omega, rfl, H3.out.1, H3.out.2⟩
    case round =>
     obtain ⟨j, Y, hj, hj16, rfl, hX, hA⟩ := hrel
     have H4 := Lib.hid (And.intro hX hA)
     clear hX hA
     by_cases hlt : j < i ∧ j < 16
     ·obtain ⟨hlt1, hlt2⟩ := hlt
      obtain ⟨y, hy⟩ : ∃ y, z[j]? = some y := ⟨_, List.getElem?_eq_getElem (by have := HN.out; omega)⟩
      obtain ⟨y0, y1⟩ := HU.out y (List.mem_of_getElem? hy)
      obtain ⟨t, ht⟩ : ∃ t, (sgs z i).drop j = (4, y) :: t := by
       have := zmo z j y hy hlt2
       rw [← HN.out] at this
       exact this
      have hA4 : Y.A 4 = some ([], (4, y) :: t) := by rw [H4.out.2, ht]
      have hlt2' : (j : Int) < 16 := by omega
      go_wp2_with fail
      refine (At.signal H4.out.1 4 (A := []) hA4).mono ?_
      unfold sigR sigV
      rintro e w3 ⟨rfl, h3⟩
      obtain ⟨b, off, c', he, _, _, hx⟩ := SlRd.cells (SlRd.below HR.out h3.bel) (by rw [(HR.out).1]; have := HN.out; omega)
      cases he
      have k0 := hx j _ (zgx z j y hy)
      have H5 := Lib.hid h3
      clear hx h3
      go_wp2_with fail
      have a0 : (w3.alloc (.cells #[.int .i64 4, .int .i64 y] 42)).cell? ⟨w3.heap.size, 0, none⟩ = some (.int .i64 4) := Xh w3 _ _ _ 0
      have a1 : (w3.alloc (.cells #[.int .i64 4, .int .i64 y] 42)).cell? ⟨w3.heap.size, 1, none⟩ = some (.int .i64 y) := Xh w3 _ _ _ 1
      have k1 : (w3.alloc (.cells #[.int .i64 4, .int .i64 y] 42)).cell? ⟨b, off + j, none⟩ = some (.int .u16 y) := by go_simp
      have H6 := Lib.hid (H5.out.below ((Below.refl _ _).alloc (Nat.le_refl _) (.cells #[.int .i64 4, .int .i64 y] 42)))
      obtain ⟨sb, hsb⟩ : ∃ sb, sb = w3.heap.size := ⟨_, rfl⟩
      obtain ⟨W, hW⟩ : ∃ W, W = w3.alloc (.cells #[.int .i64 4, .int .i64 y] 42) := ⟨_, rfl⟩
      rw [← hW] at a0 a1 k1 H6 ⊢
      rw [← hsb] at a0 a1 ⊢
      clear hW hsb H5 k0
      go_quiet (fail)
      have H7 : Hid (At w [] sp (Y.setQ 4 ((4, y) :: t).tail) 31 (W.drewN nq)) := Lib.hid (H6.out.below ⟨rfl, rfl, rfl, Nat.le_refl _, fun _ _ => rfl⟩)
      clear H6 a0 a1 k1
      go_wp2_with fail
      go_roundw
      case rel =>
       refine ⟨j + 1, _, by omega, by omega, by go_num, H7.out, ?_⟩
       rw [Abs.zk5, hA4]
       have : (sgs z i).drop (j + 1) = t := by rw [← List.drop_drop, ht]; rfl
       rw [this]
       rfl
      case measure => simp [intOf]; omega
     ·have hend : (sgs z i).drop j = [] := by
       refine List.drop_eq_nil_of_le ?_
       unfold sgs
       rw [List.length_take, List.length_map, List.length_take]
       omega
      have hA4 : Y.A 4 = some ([], []) := by rw [H4.out.2, hend]
      have fin : ∀ (W : World), Hid (At w [] sp Y 31 W) → Hid (Calls Tryz.prog 23 #[.pointer (some ⟨sp, 0, none⟩), .int .i64 4] W fun e w' => e = .returned (.tuple #[.agg #[.int .i64 0, .int .i64 0], .int .i64 2]) ∧ Below w.heap.size w w') := fun W hW => (At.signal hW.out 4 (A := []) hA4).mono fun e w' ⟨h1, h2⟩ => ⟨h1, h2.bel⟩
      have FIN := fin _ (Lib.hid H4.out.1)
      clear fin
      have hsum : ¬ ((j : Int) < i) ∨ ((j : Int) < i ∧ ¬ (j : Int) < 16) := by omega
      rcases hsum with h1 | ⟨h1, h2⟩
      all_goals
       go_wp2_with fail
       refine FIN.out.mono ?_
       rintro e w4 ⟨rfl, h4⟩
       have H8 := Lib.hid h4
       clear h4
       go_wp2_with fail
       refine (yj _).mono ?_
       rintro e w5 ⟨rfl, h5⟩
       have H9 := Lib.hid h5
       clear h5
       go_wp2_with fail
       go_ret
       have hsz := H8.out.size
       have h5 := (Below.refl w4.heap.size w4).alloc (Nat.le_refl _) (.cells #[.int .i64 0, .int .i64 0] 42)
       exact ⟨rfl, (H8.out.trans (h5.mono hsz)).trans (H9.out.mono (by rw [World.size_alloc]; omega))⟩
set_option maxHeartbeats 1000000 in
theorem Xk (w : World) (x y : Value) (l : List UInt8) (hx : BRd w x l) (hy : BRd w y l) (hl : l.length ≤ 4096) : Calls Tryz.prog 21 #[x, y] w fun e w' => e = .returned (.bool true) ∧ Below w.heap.size w w' := by
 obtain ⟨a, c, rfl, _, _⟩ := SlRd.form hx
 obtain ⟨a2, c2, rfl, _, _⟩ := SlRd.form hy
 obtain ⟨n, hn⟩ : ∃ n, n = l.length := ⟨_, rfl⟩
 have HX := Lib.hid hx
 have HY := Lib.hid hy
 have HN := Lib.hid hn
 rw [← hn] at hl ⊢
 have hcap : n ≤ maxLen := by omega
 clear hx hy hn
 go_enter Tryz.func21, Tryz.ntmps21
 go_wp2_with fail
 go_loopw [5] (fun iv W => ∃ i : Nat, i ≤ n ∧ iv = .int .i64 i ∧ Below w.heap.size w W) (fun iv _ => n - (intOf iv).toNat)
 case atStart => exact ⟨0, by omega, rfl, Below.refl _ _⟩
 case round =>
  obtain ⟨i, hi, rfl, hb⟩ := hrel
  have HB := Lib.hid hb
  clear hb
  by_cases hlt : i < n
  ·obtain ⟨u, hu⟩ : ∃ u, l[i]? = some u := ⟨_, List.getElem?_eq_getElem (by have := HN.out; omega)⟩
   have hpos : 0 < (l.map bV).length := by rw [List.length_map]; have := HN.out; omega
   obtain ⟨b, off, c', he, _, _, hc⟩ := SlRd.cells (SlRd.below HX.out HB.out) hpos
   obtain ⟨b2, off2, c2', he2, _, _, hc2⟩ := SlRd.cells (SlRd.below HY.out HB.out) hpos
   cases he
   cases he2
   have k0 : wr.cell? ⟨b, off + i, none⟩ = some (.int .u8 u.toNat) := hc i _ (by rw [List.getElem?_map, hu]; rfl)
   have k1 : wr.cell? ⟨b2, off2 + i, none⟩ = some (.int .u8 u.toNat) := hc2 i _ (by rw [List.getElem?_map, hu]; rfl)
   clear hc hc2
   have hlt' : (i : Int) < n := by omega
   go_wp2_with fail
   go_quiet (fail)
   go_wp2_with fail
   go_roundw
   case rel => exact ⟨i + 1, by omega, by go_num, HB.out.trans ⟨rfl, rfl, rfl, Nat.le_refl _, fun _ _ => rfl⟩⟩
   case measure => simp [intOf]; omega
  ·have hlt' : ¬ (i : Int) < n := by omega
   go_wp2_with fail
   go_ret
   exact ⟨rfl, HB.out⟩
section
variable {X : Abs} {a : Ar} {n page : Nat}
theorem Vy (X : Abs) (a : Ar) (n page k : Nat) (b : List UInt8) : (X.write a n page k b).A = X.A := by unfold Abs.write; split <;> rfl
theorem uu (X : Abs) (a : Ar) (n page k : Nat) (b : List UInt8) (m pg : Nat) : ((X.own a n page).write a n page k b).area m pg = X.area m pg := zc5 (by rw [Vy, Zo]) m pg
theorem Um (X : Abs) (a : Ar) (n page k : Nat) (b : List UInt8) (h : a.kind = 2) :
  ((X.own a n page).write a n page k b).pv = X.pv ∧ (∀ q, ((X.own a n page).write a n page k b).file q = if q = za.keyF a page then Abs.splice (X.file q) k b else X.file q) := by
 unfold Abs.write Abs.own
 rw [if_pos h, if_pos h]
 refine ⟨rfl, fun q => ?_⟩
 show (if q = za.keyF a page then Abs.splice (X.file (za.keyF a page)) k b else X.file q) = _
 by_cases e : q = za.keyF a page
 ·rw [if_pos e, if_pos e, e]
 ·rw [if_neg e, if_neg e]
theorem Uh (h : X.pv n page = .file) : X.ct a n page = X.file (za.keyF a page) := by unfold Abs.ct; rw [h]
theorem zae {l : List UInt8} (h : X.pv n page = .own l) : X.ct a n page = l := by unfold Abs.ct; rw [h]
theorem zg0 (X : Abs) (a : Ar) (n page k : Nat) (b : List UInt8) (h : a.kind ≠ 2) :
  (∀ m pg, ((X.own a n page).write a n page k b).pv m pg = if m = n ∧ pg = page then .own (Abs.splice (X.ct a n page) k b) else X.pv m pg) ∧ ((X.own a n page).write a n page k b).file = X.file := by
 have hct : (X.Xt n page (.own (X.ct a n page))).ct a n page = X.ct a n page := by
  exact zae (X := X.Xt n page (.own (X.ct a n page))) (if_pos ⟨rfl, rfl⟩)
 unfold Abs.write Abs.own
 rw [if_neg h, if_neg h, hct]
 refine ⟨fun m pg => ?_, rfl⟩
 show (if m = n ∧ pg = page then _ else if m = n ∧ pg = page then _ else X.pv m pg) = _
 by_cases e : m = n ∧ pg = page
 ·rw [if_pos e, if_pos e]
 ·rw [if_neg e, if_neg e, if_neg e]
theorem Xq (l b : List UInt8) : Abs.splice l 0 b = b ++ l.drop b.length := by unfold Abs.splice; simp
theorem Qm (l b : List UInt8) (n : Nat) (h : n = b.length) : ((Abs.splice l 0 b).drop 0).take n = b := by
 rw [Xq, List.drop_zero, h, List.take_left']
 rfl
end
section
variable {X : Abs} {a : Ar} {n p q at_ : Nat} {b : List UInt8}
theorem zd8 {Y : Abs} (h1 : Y.pv n q = X.pv n q) (h2 : Y.file (za.keyF a q) = X.file (za.keyF a q)) : Y.ct a n q = X.ct a n q := by unfold Abs.ct; rw [h1, h2]
theorem zd9 (X : Abs) (a : Ar) (n p q : Nat) : (X.own a n p).ct a n q = X.ct a n q := by
 unfold Abs.own
 split
 ·rfl
 ·by_cases e : q = p
  ·subst e
   exact zae (X := X.Xt n q (.own (X.ct a n q))) (if_pos ⟨rfl, rfl⟩)
  ·exact zd8 (Y := X.Xt n p (.own (X.ct a n p))) (if_neg fun z => e z.2) rfl
theorem Zq (h : a.kind = 2 → X.pv n p = .file) : (X.write a n p at_ b).ct a n p = Abs.splice (X.ct a n p) at_ b := by
 unfold Abs.write
 split
 ·rename_i k
  rw [Uh (X := X) (h k), Uh (X := X.za0 (za.keyF a p) (Abs.splice (X.file (za.keyF a p)) at_ b)) (h k)]
  exact if_pos rfl
 ·exact zae (X := X.Xt n p (.own (Abs.splice (X.ct a n p) at_ b))) (if_pos ⟨rfl, rfl⟩)
theorem Xo (h : q ≠ p) : (X.write a n p at_ b).ct a n q = X.ct a n q := by
 unfold Abs.write
 split
 ·refine zd8 (Y := X.za0 (za.keyF a p) (Abs.splice (X.file (za.keyF a p)) at_ b)) rfl (if_neg fun z => ?_)
  unfold za.keyF at z
  rw [Prod.mk.injEq] at z
  omega
 ·exact zd8 (Y := X.Xt n p (.own (Abs.splice (X.ct a n p) at_ b))) (if_neg fun z => h z.2) rfl
theorem Xr (l b : List UInt8) (at_ : Nat) (h : at_ + b.length ≤ l.length) : ((Abs.splice l at_ b).drop at_).take b.length = b := by
 unfold Abs.splice
 rw [List.drop_left' (by rw [List.length_take]; omega), List.take_left' rfl]
theorem zfg (l b : List UInt8) (at_ : Nat) (h : at_ + b.length ≤ l.length) : (Abs.splice l at_ b).length = l.length := by
 unfold Abs.splice
 simp only [List.length_append, List.length_take, List.length_drop]
 omega
end
def byL (x : UInt8) : List Value := [bV x]
theorem zbp (x : UInt8) : (byL x).length = 1 := rfl
def AnyB (_ : UInt8) : Prop := True
theorem zj6 (cs : List Value) (h : Open.Xe [some .u8] cs) : ∃ x, cs = byL x ∧ AnyB x := by
 have hlen := h.length
 rcases cs with _ | ⟨c, _ | ⟨d, cs⟩⟩ <;> simp at hlen
 obtain ⟨⟨n, rfl, hn⟩, _⟩ := h
 simp [Lit.wf] at hn
 have h0 : 0 ≤ n := hn.1
 have h1 : n ≤ 255 := hn.2
 obtain ⟨k, rfl⟩ := Int.eq_ofNat_of_zero_le h0
 refine ⟨UInt8.ofNat k, ?_, trivial⟩
 unfold byL bV
 have : (UInt8.ofNat k).toNat = k := by simp; omega
 rw [this]
theorem BRd.of_law {w : World} {v : Value} {z : List UInt8} (h : SlRd w 1 v z.length (z.flatMap byL)) : BRd w v z := by
 have : ∀ z : List UInt8, z.flatMap byL = z.map bV := fun z => by
  induction z with
  | nil => rfl
  | cons a z ih => rw [List.flatMap_cons, List.map_cons, ih]; rfl
 rw [this] at h
 exact h
end Go.Proofs.YtnhdmnijiphjjaaGreat
