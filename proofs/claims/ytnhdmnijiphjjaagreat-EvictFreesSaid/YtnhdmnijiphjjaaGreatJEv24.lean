/- Processes, in plain words: Load and Store: what they answer and leave, without frames. No program in it. -/
import Derived.Test.YtnhdmnijiphjjaaGreatJEv23
import Derived.Test.YtnhdmnijiphjjaaGreatJEv12
import Derived.Test.YtnhdmnijiphjjaaGreatJEv13
import Derived.Test.YtnhdmnijiphjjaaGreatJEv19
import Derived.Test.YtnhdmnijiphjjaaGreatJEv18
import Derived.Test.YtnhdmnijiphjjaaGreatJEv20
import Derived.Test.YtnhdmnijiphjjaaGreatJEv14
import Derived.Test.YtnhdmnijiphjjaaGreatJEv9
import Derived.Test.YtnhdmnijiphjjaaGreatJEv17
set_option linter.unusedVariables false
set_option linter.unusedSimpArgs false
/- Processes, in plain words: Load and Store: what they answer and leave, without frames. No program in it. -/
namespace Go.Proofs.YtnhdmnijiphjjaaGreat
open Go Go.RowKit
theorem Vy (n : Nat) (wr : Bool) (x : za) (a s : Nat) (h0 : 0 < s) (h1 : a % 64 + s ≤ 64) :
  za.zh n wr 3 x a s = if (x.askF n (a / 64) wr).1.2 = 0 then (([⟨(x.askF n (a / 64) wr).1.1.toNat, a % 64, s⟩], 0), (x.askF n (a / 64) wr).2) else (([], (x.askF n (a / 64) wr).1.2), (x.askF n (a / 64) wr).2) := by
 have e1 : min s (64 - a % 64) = s := by omega
 have e2 : ∀ k y b, za.zh n wr k y b 0 = (([], 0), y) := fun k y b => by
  cases k with
  | zero => rfl
  | succ k => unfold za.zh; rw [if_pos rfl]
 conv => lhs; unfold za.zh
 rw [if_neg (by omega), e1, Nat.sub_self, e2]
 simp
theorem ze2 (n : Nat) (wr : Bool) (x : za) (a s : Nat) (h0 : s ≤ 64) (h1 : 64 < a % 64 + s) :
    za.zh n wr 3 x a s = if (x.askF n (a / 64) wr).1.2 = 0 then
      (if ((x.askF n (a / 64) wr).2.askF n (a / 64 + 1) wr).1.2 = 0 then (([⟨(x.askF n (a / 64) wr).1.1.toNat, a % 64, 64 - a % 64⟩, ⟨((x.askF n (a / 64) wr).2.askF n (a / 64 + 1) wr).1.1.toNat, 0, s - (64 - a % 64)⟩], 0), ((x.askF n (a / 64) wr).2.askF n (a / 64 + 1) wr).2)
       else (([], ((x.askF n (a / 64) wr).2.askF n (a / 64 + 1) wr).1.2), ((x.askF n (a / 64) wr).2.askF n (a / 64 + 1) wr).2))
      else (([], (x.askF n (a / 64) wr).1.2), (x.askF n (a / 64) wr).2) := by
  have e1 : min s (64 - a % 64) = 64 - a % 64 := by omega
  have e3 : (a + (64 - a % 64)) / 64 = a / 64 + 1 := by omega
  have e4 : (a + (64 - a % 64)) % 64 = 0 := by omega
  have e5 : min (s - (64 - a % 64)) (64 - 0) = s - (64 - a % 64) := by omega
  have e2 : ∀ k y b, za.zh n wr k y b 0 = (([], 0), y) := fun k y b => by
    cases k with
    | zero => rfl
    | succ k => unfold za.zh; rw [if_pos rfl]
  conv => lhs; unfold za.zh
  rw [if_neg (by omega), e1]
  have e6 : ∀ y, za.zh n wr 2 y (a + (64 - a % 64)) (s - (64 - a % 64)) = if (y.askF n (a / 64 + 1) wr).1.2 = 0 then (([⟨(y.askF n (a / 64 + 1) wr).1.1.toNat, 0, s - (64 - a % 64)⟩], 0), (y.askF n (a / 64 + 1) wr).2) else (([], (y.askF n (a / 64 + 1) wr).1.2), (y.askF n (a / 64 + 1) wr).2) := fun y => by
    conv => lhs; unfold za.zh
    rw [if_neg (by omega), e4, e5, Nat.sub_self, e2, e3]
    simp
  rw [e6]
  by_cases c1 : (x.askF n (a / 64) wr).1.2 = 0
  · rw [if_pos c1, if_pos c1]
    by_cases c2 : ((x.askF n (a / 64) wr).2.askF n (a / 64 + 1) wr).1.2 = 0
    · simp [c2]
    · simp [c2]
  · rw [if_neg c1, if_neg c1]
section
variable {F : Nat → Prop} {x y : za}
theorem Ok0.pieces (h : Ok0 x) {n : Nat} (hs : (x.T n).isSome = true) (wr : Bool) {a s : Nat} (h0 : 0 < s) (h1 : s ≤ 64) (h2 : a + s ≤ 262144) :
  ((za.zh n wr 3 x a s).1.2 ≠ 0 ∧ Ok0 (za.zh n wr 3 x a s).2 ∧ uo 10 x (za.zh n wr 3 x a s).2) ∨
  (a % 64 + s ≤ 64 ∧ ∃ f a1 y, za.zh n wr 3 x a s = (([⟨f, a % 64, s⟩], 0), y) ∧ x.abs.area n (a / 64) = some a1 ∧ Qr x n (a / 64) wr a1 (f : Nat) 0 y) ∨
  (64 < a % 64 + s ∧ ∃ f1 f2 a1 a2 y1 y, za.zh n wr 3 x a s = (([⟨f1, a % 64, 64 - a % 64⟩, ⟨f2, 0, s - (64 - a % 64)⟩], 0), y) ∧ x.abs.area n (a / 64) = some a1 ∧ x.abs.area n (a / 64 + 1) = some a2 ∧ Qr x n (a / 64) wr a1 (f1 : Nat) 0 y1 ∧ Qr y1 n (a / 64 + 1) wr a2 (f2 : Nat) 0 y) := by
 obtain ⟨pr, hp⟩ := Option.isSome_iff_exists.1 hs
 have hpg : a / 64 < 4096 := by omega
 have got : ∀ z pg, Ok0 z → (z.T n).isSome = true → pg < 4096 → (z.askF n pg wr).1.2 = 0 → ∃ f a1 prz, z.T n = some prz ∧ yc prz.A (pg : Int) = some a1 ∧ (z.askF n pg wr).1.1 = (f : Nat) ∧ Qr z n pg wr a1 (f : Nat) 0 (z.askF n pg wr).2 := fun z pg hz hzs hpg hc => by
  obtain ⟨prz, hpz⟩ := Option.isSome_iff_exists.1 hzs
  obtain ⟨f, hf⟩ := zao hz.ok.wf hpz hpg wr
  rcases hz.askF hpz hpg wr with ⟨_, e⟩ | ⟨a1, ha1, _, ⟨_, e⟩ | ⟨_, g⟩⟩
  ·rw [e] at hc; simp at hc
  ·rw [e] at hc; simp at hc
  ·rw [hc, hf] at g
   exact ⟨f, a1, prz, hpz, ha1, hf, g⟩
 have any := h.zh5 hs hpg wr
 by_cases hone : a % 64 + s ≤ 64
 ·rw [Vy n wr x a s h0 hone]
  by_cases hc : (x.askF n (a / 64) wr).1.2 = 0
  ·obtain ⟨f, a1, prz, e1, e2, e3, g⟩ := got x _ h hs hpg hc
   rw [if_pos hc, e3, Int.toNat_natCast]
   exact .inr (.inl ⟨hone, f, a1, _, rfl, by rw [Ym e1]; exact e2, g⟩)
  ·rw [if_neg hc]
   exact .inl ⟨hc, any.1, any.2.mono (by omega)⟩
 ·have hpg2 : a / 64 + 1 < 4096 := by omega
  rw [ze2 n wr x a s h1 (by omega)]
  by_cases hc : (x.askF n (a / 64) wr).1.2 = 0
  ·rw [if_pos hc]
   obtain ⟨f, a1, prz, e1, e2, e3, g⟩ := got x _ h hs hpg hc
   have hs2 : ((x.askF n (a / 64) wr).2.T n).isSome = true := by rw [any.2.some]; exact hs
   have any2 := any.1.zh5 hs2 hpg2 wr
   by_cases hc2 : ((x.askF n (a / 64) wr).2.askF n (a / 64 + 1) wr).1.2 = 0
   ·obtain ⟨f2, a2, prz2, e4, e5, e6, g2⟩ := got _ _ any.1 hs2 hpg2 hc2
    rw [if_pos hc2, e3, e6, Int.toNat_natCast, Int.toNat_natCast]
    refine .inr (.inr ⟨by omega, f, f2, a1, a2, _, _, rfl, by rw [Ym e1]; exact e2, ?_, g, g2⟩)
    have hA : (x.askF n (a / 64) wr).2.abs.A n = x.abs.A n := by
     rw [g.abs rfl]
     split
     ·unfold Abs.own; split <;> rfl
     ·rfl
    unfold Abs.area
    rw [← hA]
    exact (Ym e4).trans e5
   ·rw [if_neg hc2]
    exact .inl ⟨hc2, any2.1, any.2.trans any2.2⟩
  ·rw [if_neg hc]
   exact .inl ⟨hc, any.1, any.2.mono (by omega)⟩
theorem Qr.pcOk {n page : Nat} {wr : Bool} {a : Ar} {f : Nat} (g : Qr x n page wr a (f : Nat) 0 y) (hn : n < 8) (hpg : page < 4096) (at_ k : Nat) (h0 : 0 < k) (h1 : at_ + k ≤ 64) : PcOk y.R ⟨f, at_, k⟩ := by
 obtain ⟨f1, f2⟩ := g.frame rfl
 obtain ⟨e1, e2, e3⟩ := g.ok.ok.frame' hn hpg f1
 rw [f2, Int.toNat_natCast] at e2 e3
 exact ⟨e2, h0, h1, e3⟩
theorem Ok0.U9 (h : Ok0 x) {n : Nat} (hs : (x.T n).isSome = true) (wr : Bool) {a s : Nat} (h1 : s ≤ 64) (h2 : a + s ≤ 262144) (hc : (za.zh n wr 3 x a s).1.2 = 0) :
  (za.zh n wr 3 x a s).1.1.length ≤ 64 ∧ (∀ p ∈ (za.zh n wr 3 x a s).1.1, PcOk (za.zh n wr 3 x a s).2.R p) ∧ sumK (za.zh n wr 3 x a s).1.1 = s := by
 obtain ⟨pr, hp⟩ := Option.isSome_iff_exists.1 hs
 have hn := h.ok.Xm h.out hp
 by_cases h0 : 0 < s
 ·rcases h.pieces hs wr h0 h1 h2 with ⟨a, _⟩ | ⟨a1, f, ar, y, e, _, g⟩ | ⟨a1, f1, f2, ar1, ar2, y1, y, e, _, _, g1, g2⟩
  ·exact absurd hc a
  ·rw [e]
   dsimp only
   refine ⟨by simp, fun p hp => ?_, by simp [sumK]⟩
   simp at hp
   subst hp
   exact g.pcOk hn (by omega) _ _ h0 a1
  ·rw [e]
   dsimp only
   refine ⟨by simp, fun p hp => ?_, by simp [sumK]; omega⟩
   simp at hp
   rcases hp with rfl | rfl
   ·obtain ⟨b1, b2, b3, b4⟩ := g1.pcOk hn (by omega) (a % 64) (64 - a % 64) (by omega) (by omega)
    exact ⟨b1, b2, b3, by rw [g2.keeps.bad]; exact b4⟩
   ·exact g2.pcOk hn (by omega) 0 _ (by omega) (by omega)
 ·have : s = 0 := by omega
  subst this
  have e : za.zh n wr 3 x a 0 = (([], 0), x) := by unfold za.zh; rw [if_pos rfl]
  rw [e]
  exact ⟨by simp, fun p hp => by simp at hp, rfl⟩
theorem zdx (R : RamS) (f a k : Nat) (h : a + k ≤ 64) : R.read f a k = ((R.read f 0 64).drop a).take k := by
 refine List.ext_getElem? fun i => ?_
 by_cases hi : i < k
 ·rw [List.getElem?_take_of_lt hi, List.getElem?_drop]
  unfold RamS.read
  rw [List.getElem?_map, List.getElem?_map, List.getElem?_range hi, List.getElem?_range (by omega)]
  simp
 ·rw [List.getElem?_eq_none (by simp [RamS.read]; omega), List.getElem?_eq_none (by simp [RamS.read]; omega)]
theorem Qr.bytes {n page : Nat} {a : Ar} {f : Nat} {wr : Bool} (g : Qr x n page wr a (f : Nat) 0 y) (hn : n < 8) (hpg : page < 4096) (ha : y.abs.area n page = some a) : y.R.read f 0 64 = y.abs.ct a n page := by
 obtain ⟨f1, f2⟩ := g.frame rfl
 cases hp : y.T n with
 | none => rw [Zz hp] at f1; cases f1
 | some pr =>
  rw [Ym hp] at ha
  rw [zep g.ok.ok hn hp hpg ha f1, f2, Int.toNat_natCast]
structure zat (X : Abs) (n page : Nat) (a : Ar) : Prop where
 area : X.area n page = some a
 there : X.pv n page ≠ .lost
theorem Ok0.askOk (h : Ok0 x) {n page : Nat} (hpg : page < 4096) {a : Ar} (hc : zat x.abs n page a) {wr : Bool} (hw : wr = true → a.write = true) (hroom : 5 ≤ x.P.room) (hcalm : x.D.Calm) : (x.askF n page wr).1.2 = 0 ∧ ∀ (f : Nat) a1 y, Qr x n page wr a1 (f : Nat) 0 y → y.D = x.D := by
 have hD : ∀ (f : Nat) a1 y, Qr x n page wr a1 (f : Nat) 0 y → y.D = x.D := fun f a1 y g => by
  rcases g.disk with e | e
  ·exact e
  ·rw [e, hcalm.work]
 refine ⟨?_, hD⟩
 have har := hc.area
 cases hp : x.T n with
 | none =>
  unfold Abs.area za.abs at har
  dsimp only at har
  rw [hp] at har
  cases har
 | some pr =>
  rw [Ym hp] at har
  have hlost : x.pv n page ≠ .lost := fun e => hc.there (by show (if page < 4096 then x.pv n page else PV.none) = _; rw [if_pos hpg, e])
  rcases h.askF hp hpg wr with ⟨e, _⟩ | ⟨a1, ha1, hd, ⟨e, _⟩ | ⟨_, g⟩⟩
  ·rcases e with e | ⟨a1, e, w1, w2⟩
   ·rw [har] at e; cases e
   ·rw [har] at e; cases e
    rw [hw w1] at w2; cases w2
  ·exact absurd e hlost
  ·rcases g.code with e | ⟨_, e, _⟩ | ⟨_, e, _⟩
   ·exact e
   ·omega
   ·rw [hcalm.work] at e; exact absurd rfl e
end
end Go.Proofs.YtnhdmnijiphjjaaGreat
/- Processes, in plain words: Load and Store over two pages. No program in it. -/
namespace Go.Proofs.YtnhdmnijiphjjaaGreat
open Go Go.RowKit
section
variable {F : Nat → Prop} {x y z : za}
theorem zd4 (X : Abs) (a : Ar) (n page : Nat) : (X.own a n page).A = X.A := by unfold Abs.own; split <;> rfl
theorem zh6 {X Y : Abs} (h : X.A = Y.A) (n page : Nat) : X.area n page = Y.area n page := by unfold Abs.area; rw [h]
end
end Go.Proofs.YtnhdmnijiphjjaaGreat
/- Processes, in plain words: the start, Spawn, Map. No program in it. -/
namespace Go.Proofs.YtnhdmnijiphjjaaGreat
open Go Go.RowKit
instance (a : Ar) (p : Int) : Decidable (a.Has p) := inferInstanceAs (Decidable (_ ∧ _))
def za.qy (x : za) (n g : Nat) : za := { x with R := x.R.write g 0 (List.replicate 64 0), P := x.P.set g 2, T := fun m => if m = n then some ⟨⟨g, [g]⟩, [], []⟩ else x.T m }
def Abs.spawn (X : Abs) (n : Nat) : Abs := { X with A := fun m => if m = n then some ([], []) else X.A m }
def Qx (a : Ar) : PV := if a.kind = 1 then .own (List.replicate 64 0) else .file
def Abs.map (X : Abs) (n : Nat) (a : Ar) (L : List Ar) : Abs := { X with A := (fun m => if m = n then (X.A n).map fun p => (L, p.2) else X.A m), pv := fun m pg => if m = n ∧ pg < 4096 ∧ a.Has (pg : Int) then Qx a else X.pv m pg }
theorem Z9 {l : List Ar} (h : OkL l) {p : Int} {a : Ar} : yc l p = some a ↔ a ∈ l ∧ a.Has p := by
 constructor
 ·intro e
  have h1 := List.mem_of_find?_eq_some e
  have h2 := List.find?_some e
  simp only [decide_eq_true_eq] at h2
  exact ⟨h1, h2⟩
 ·rintro ⟨h1, h2⟩
  induction l with
  | nil => cases h1
  | cons b l ih =>
   rw [Xb]
   rcases List.mem_cons.1 h1 with rfl | h3
   ·exact if_pos h2
   ·rw [if_neg]
    ·exact ih h.tail h3
    ·intro e
     have := h.head a h3
     unfold Ar.Has at h2
     omega
theorem zhk {l l' : List Ar} {a : Ar} (h : OkL l) (h' : OkL l') (hm : ∀ b, b ∈ l' ↔ b = a ∨ b ∈ l) (hd : ∀ b ∈ l, ∀ p, a.Has p → ¬ b.Has p) (p : Int) [Decidable (a.Has p)] : yc l' p = if a.Has p then some a else yc l p := by
 split
 ·rename_i k
  exact (Z9 h').2 ⟨(hm a).2 (.inl rfl), k⟩
 ·rename_i k
  cases e : yc l p with
  | none =>
   cases e2 : yc l' p with
   | none => rfl
   | some b =>
    obtain ⟨h1, h2⟩ := (Z9 h').1 e2
    rcases (hm b).1 h1 with rfl | h3
    ·exact absurd h2 k
    ·rw [(Z9 h).2 ⟨h3, h2⟩] at e; cases e
  | some b =>
   obtain ⟨h1, h2⟩ := (Z9 h).1 e
   exact (Z9 h').2 ⟨(hm b).2 (.inr h1), h2⟩
section
variable {x y : za}
theorem zds (P : zk) (D : zq) (hP : ∀ f, P.use f = 0 ∨ P.use f = 1) (hD : ∀ s, s < 192 → (D.cur s).length = 64) : Ok0 (.start RamS.none P D) := by
 have hno : ∀ n f, ¬ za.owns (.start RamS.none P D) n f := fun n f ⟨pr, h, _⟩ => by cases h
 have hent : ∀ n page, za.ent (.start RamS.none P D) n page = Ent.none := fun n page => rfl
 refine ⟨⟨⟨fun n pr h => by (cases h), fun n m f h => absurd h (hno n f), fun n pr h => by (cases h), fun f => ⟨List.Pairwise.nil, fun p hp => by (cases hp)⟩, ⟨by simp [za.start], fun l hl => ?_⟩, fun f _ hb => by (cases hb), fun k v hk => (by simp [za.start, getL] at hk), hD, ⟨by simp [za.start], by simp [za.start]⟩⟩, fun f n page _ _ _ => ?_, fun k n page _ _ _ => ?_, fun f _ hB => absurd rfl hB, fun f _ hu => ?_, fun f _ hu => ?_, fun f _ => ?_, fun k f => by simp [za.start, getL], fun k v hk => (by simp [za.start, getL] at hk), fun n pr page h => by (cases h)⟩, fun _ _ => rfl⟩
 ·simp [za.start] at hl
  subst hl
  exact ⟨List.Pairwise.nil, fun p hp => by cases hp⟩
 ·rw [hent]
  constructor
  ·intro h; cases h
  ·rintro ⟨h, _⟩; cases h
 ·rw [hent]
  constructor
  ·intro h
   have : (List.replicate 32 ([] : List (Int × Int))).getD k [] = [] := by
    rw [List.getD_eq_getElem?_getD, List.getElem?_replicate]
    split <;> rfl
   rw [show (za.start RamS.none P D).S = List.replicate 32 [] from rfl, this] at h
   cases h
  ·rintro ⟨h, _⟩; cases h
 ·have : P.use f = 3 := hu
  rcases hP f with e | e <;> omega
 ·have : P.use f = 2 := hu
  rcases hP f with e | e <;> omega
 ·have : P.use f ≠ 4 := by rcases hP f with e | e <;> omega
  constructor
  ·intro e; exact absurd e this
  ·intro e; simp [za.start, getL] at e
theorem zgu (R : RamS) (P : zk) (g : Nat) (hg : g < 1024) (hb : R.bad g = false) (good : ∀ f, f < 1024 → P.use f = 1 → R.bad f = false) : yx ⟨R.write g 0 (List.replicate 64 0), P.set g 2, ⟨g, [g]⟩⟩ (fun p => if p = [] then some g else none) := by
 refine ⟨⟨if_pos rfl, fun p f hp => ?_, fun p q f hp hq => ?_, fun f => ?_, by simp, fun p f d hp hl hd => ?_, fun p d k hp => ?_, fun p f d hp hl hd => ?_⟩, fun f hf => ?_, fun f hf hu => ?_⟩
 ·split at hp
  ·rename_i e; cases hp; subst e; exact ⟨hg, hb, by simp, fun d hd => by cases hd⟩
  ·cases hp
 ·split at hp
  ·split at hq
   ·rename_i e1 e2; rw [e1, e2]
   ·cases hq
  ·cases hp
 ·simp only [List.mem_singleton]
  constructor
  ·rintro rfl; exact ⟨[], if_pos rfl⟩
  ·rintro ⟨p, hp⟩
   split at hp
   ·cases hp; rfl
   ·cases hp
 ·split at hp
  ·rename_i e
   cases hp
   subst e
   rw [Xj _ _ _ hd, if_neg (by simp)]
  ·cases hp
 ·rw [if_neg (by simp)] at hp; cases hp
 ·split at hp
  ·rename_i e; subst e; simp at hl
  ·cases hp
 ·simp at hf
  subst hf
  exact if_pos rfl
 ·have hu : (if f = g then 2 else P.use f) = 1 := hu
  split at hu
  ·cases hu
  ·exact good f hf hu
theorem Ok0.spawn (h : Ok0 x) {n g : Nat} (hn : n < 8) (hx : x.T n = none) (hg : x.P.next false = some g) : Ok0 (x.qy n g) ∧ (x.qy n g).abs = x.abs.spawn n ∧ x.P.room ≤ (x.qy n g).P.room + 1 ∧ (x.qy n g).D = x.D := by
 obtain ⟨hg1, hav, hgu⟩ := Yw hg
 have hbad := h.ok.wf.uu hg1 (by omega)
 have hT : ∀ m, (x.qy n g).T m = if m = n then some ⟨⟨g, [g]⟩, [], []⟩ else x.T m := fun _ => rfl
 have hu : ∀ f, (x.qy n g).P.use f = if f = g then 2 else x.P.use f := fun _ => rfl
 have hby : ∀ f i, f ≠ g → (x.qy n g).R.b f i = x.R.b f i := fun f i hf => by
  show (x.R.write g 0 _).b f i = _
  rw [uk, if_neg fun e => hf e.1]
 have hbd : (x.qy n g).R.bad = x.R.bad := rfl
 have hno : ∀ m, ¬ x.owns m g := fun m ho => by have := (h.ok.wf.y7 ho).2.1; omega
 have own : ∀ m f, (x.qy n g).owns m f ↔ (m = n ∧ f = g) ∨ x.owns m f := fun m f => by
  unfold za.owns
  rw [hT]
  by_cases e : m = n
  ·rw [if_pos e]
   constructor
   ·rintro ⟨_, e2, hf⟩
    cases e2
    simp at hf
    exact .inl ⟨e, hf⟩
   ·rintro (⟨_, rfl⟩ | ⟨pr, e2, _⟩)
    ·exact ⟨_, rfl, by simp⟩
    ·rw [e, hx] at e2; cases e2
  ·rw [if_neg e]
   constructor
   ·exact .inr
   ·rintro (⟨e2, _⟩ | a)
    ·exact absurd e2 e
    ·exact a
 have good : ∀ f, f < 1024 → x.P.use f = 1 → x.R.bad f = false := fun f hf hu => h.ok.wf.uu hf (by omega)
 have hbad6 : ∀ f, f < 1024 → (x.qy n g).R.bad f = true → (x.qy n g).P.use f = 6 := fun f hf hb => by
  rw [hbd] at hb
  rw [hu, if_neg (fun e => by rw [e, hbad] at hb; cases hb)]
  exact h.ok.wf.bad f hf hb
 have rpt : ∀ m pr, x.T m = some pr → ∃ N, yx ⟨x.R, x.P, pr.T⟩ N ∧ yx ⟨(x.qy n g).R, (x.qy n g).P, pr.T⟩ N := fun m pr hm => by
  obtain ⟨N, k⟩ := h.ok.wf.rpt m pr hm
  have ne : ∀ f ∈ pr.T.own, f ≠ g := fun f hf e => hno m ⟨pr, hm, e ▸ hf⟩
  refine ⟨N, k, k.same (fun f _ => by rw [hbd]) (fun f hf i => hby f i (ne f hf)) (fun f hf => by rw [hu, if_neg (ne f hf)]; exact (h.ok.wf.y7 ⟨pr, hm, hf⟩).2.1) fun f hf hu1 => ?_⟩
  cases hb : (x.qy n g).R.bad f with
  | false => rfl
  | true => have := hbad6 f hf hb; omega
 have ent : ∀ m page, page < 4096 → (x.qy n g).ent m page = x.ent m page := fun m page hpg => by
  by_cases e : m = n
  ·have e1 : x.ent m page = Ent.none := Zz (by rw [e]; exact hx) page
   rw [e1]
   unfold za.ent
   rw [hT, if_pos e]
   have := (zgu x.R x.P g hg1 hbad good).tree.get page hpg
   dsimp only at this ⊢
   rw [show (x.qy n g).R = x.R.write g 0 (List.replicate 64 0) from rfl, this]
   unfold mapOf
   dsimp only
   rw [if_neg (by simp [high])]
  ·unfold za.ent
   rw [hT, if_neg e]
   cases hm : x.T m with
   | none => rfl
   | some pr =>
    obtain ⟨N, k1, k2⟩ := rpt m pr hm
    dsimp only
    have a := k1.tree.get page hpg
    have b := k2.tree.get page hpg
    dsimp only at a b
    rw [a, b, Jo k1.tree fun f hf i => hby f i fun e => hno m ⟨pr, hm, e ▸ hf⟩]
 refine ⟨⟨⟨⟨fun m pr hm => ?_, fun m k f h1 h2 => ?_, fun m pr hm => ?_, h.ok.wf.back, h.ok.wf.slots, hbad6, h.ok.wf.keys, h.ok.wf.secs, h.ok.wf.nd⟩, fun f m page h1 h2 h3 => by rw [ent m page h3]; exact h.ok.backE f m page h1 h2 h3, fun k m page h1 h2 h3 => by rw [ent m page h3]; exact h.ok.slotE k m page h1 h2 h3, fun f h1 h2 => ?_, fun f h1 h2 => ?_, fun f h1 h2 => ?_, fun f h1 => ?_, h.ok.cacheE, h.ok.cacheK, fun m pr page hm hpg => ?_⟩, fun m hm => ?_⟩, ?_, ?_, rfl⟩
 ·rw [hT] at hm
  by_cases e : m = n
  ·rw [if_pos e] at hm
   cases hm
   exact ⟨_, zgu x.R x.P g hg1 hbad good⟩
  ·rw [if_neg e] at hm
   obtain ⟨N, _, k⟩ := rpt m pr hm
   exact ⟨N, k⟩
 ·rcases (own m f).1 h1 with ⟨a, b⟩ | a <;> rcases (own k f).1 h2 with ⟨c, d⟩ | c
  ·rw [a, c]
  ·rw [b] at c; exact absurd c (hno k)
  ·rw [d] at a; exact absurd a (hno m)
  ·exact h.ok.wf.apart m k f a c
 ·rw [hT] at hm
  by_cases e : m = n
  ·rw [if_pos e] at hm
   cases hm
   exact ⟨⟨fun a ha => (by cases ha), List.Pairwise.nil⟩, by simp⟩
  ·rw [if_neg e] at hm
   exact h.ok.wf.jm m pr hm
 ·have := h.ok.useB f h1 h2
  rw [hu, if_neg (fun e => by rw [e] at this; omega)]
  exact this
 ·rw [hu] at h2
  split at h2
  ·cases h2
  ·exact h.ok.anon f h1 h2
 ·rw [hu] at h2
  split at h2
  ·rename_i e; exact ⟨n, (own n f).2 (.inl ⟨rfl, e⟩)⟩
  ·obtain ⟨m, hm⟩ := h.ok.table f h1 h2
   exact ⟨m, (own m f).2 (.inr hm)⟩
 ·rw [hu]
  split
  ·rename_i e
   have := h.ok.cached f h1
   constructor
   ·intro a; cases a
   ·intro a
    have := this.2 a
    rw [e] at this; omega
  ·exact h.ok.cached f h1
 ·rw [ent m page hpg]
  rw [hT] at hm
  by_cases e : m = n
  ·rw [e, Zz hx]
   exact ⟨fun a => absurd rfl a, fun _ _ a => by (have : (0 : Nat) = 1 := a; omega), fun _ _ _ a => by (have : (0 : Nat) = 1 := a; omega), fun _ _ a => by (have : (0 : Nat) = 1 := a; omega), fun _ _ a => by (have : (0 : Nat) = 2 := a; omega)⟩
  ·rw [if_neg e] at hm
   have a := h.ok.area m pr page hm hpg
   exact ⟨a.find, a.own, a.file, a.shared, a.slot⟩
 ·rw [hT, if_neg (by omega)]
  exact h.out m hm
 ·have hrd : ∀ f, f ≠ g → (x.qy n g).R.read f 0 64 = x.R.read f 0 64 := fun f hf => Yd fun i _ => hby f i hf
  unfold za.abs Abs.spawn
  rw [Abs.mk.injEq]
  refine ⟨?_, ?_, ?_, rfl, rfl⟩
  ·funext m
   rw [hT]
   by_cases e : m = n
   ·rw [if_pos e, if_pos e]; rfl
   ·rw [if_neg e, if_neg e]
  ·funext m page
   by_cases hpg : page < 4096
   ·rw [if_pos hpg]
    dsimp only
    rw [if_pos hpg]
    unfold za.pv
    rw [hT]
    by_cases e : m = n
    ·rw [if_pos e, e, hx]
     rfl
    ·rw [if_neg e]
     cases hm : x.T m with
     | none => rfl
     | some pr =>
      dsimp only
      cases ha : yc pr.A (page : Int) with
      | none => rfl
      | some a =>
       dsimp only
       rw [ent m page hpg]
       refine Uj rfl rfl fun hk => ?_
       have hm8 := h.ok.Xm h.out hm
       obtain ⟨f, e1, e2, _, e3, _⟩ := h.ok.frame hm8 hpg hk
       rw [e1, Int.toNat_natCast]
       exact hrd f fun e => by rw [e] at e3; omega
   ·rw [if_neg hpg]
    dsimp only
    rw [if_neg hpg]
  ·funext k
   by_cases hk : xk k
   ·rw [if_pos hk]
    dsimp only
    rw [if_pos hk]
    refine jr h.ok k rfl rfl fun f i hf hu4 hi => hby f i fun e => by rw [e] at hu4; omega
   ·rw [if_neg hk]
    dsimp only
    rw [if_neg hk]
 ·exact room_le x.P g 2 (by omega) hg1
theorem Ok0.map (h : Ok0 x) {n : Nat} {pr : yf} (hp : x.T n = some pr) {a : Ar} (ha : a.xm) (hno : anyA a pr.A = false) (hlen : pr.A.length < 16) {L : List Ar} (hperm : L.Perm (pr.A ++ [a])) (hsort : L.Pairwise fun x y => ¬ y.from_ < x.from_) :
  Ok0 (x.put n ⟨pr.T, L, pr.Q⟩) ∧ (x.put n ⟨pr.T, L, pr.Q⟩).abs = x.abs.map n a L := by
 have hOk := (h.ok.wf.jm n pr hp).1
 have hL : L = insA pr.A a := zh9 hOk ha hno hperm hsort
 have hm : ∀ b, b ∈ L ↔ b = a ∨ b ∈ pr.A := fun b => by rw [hL]; exact zd9
 have hd : ∀ b ∈ pr.A, ∀ p, a.Has p → ¬ b.Has p := fun b hb p h1 h2 => by
  have hnil : ¬ X9 a b = true := fun e => by
   unfold anyA at hno
   rw [List.any_eq_false] at hno
   exact hno b hb e
  rw [Jm ha (hOk.1 b hb)] at hnil
  unfold Ar.Has at h1 h2
  omega
 have hL' : OkL L := by
  refine ⟨fun b hb => ((hm b).1 hb).elim (fun e => e ▸ ha) (hOk.1 b), ?_⟩
  have hs : L.Pairwise fun x y => x.from_ < y.from_ := by
   rw [hL]
   refine Qf (hOk.2.imp_of_mem fun {u v} hu hv huv => by have := (hOk.1 u hu).2.2.2.1; omega) fun b hb e => ?_
   have hs := ha.2.2.2.1
   have hs2 := (hOk.1 b hb).2.2.2.1
   exact hd b hb a.from_ ⟨by omega, by omega⟩ ⟨by omega, by omega⟩
  refine hs.imp_of_mem fun {u v} hu hv huv => ?_
  have su := (((hm u).1 hu).elim (fun e => e ▸ ha) (hOk.1 u) : u.xm).2.2.2.1
  have sv := (((hm v).1 hv).elim (fun e => e ▸ ha) (hOk.1 v) : v.xm).2.2.2.1
  by_cases hlt : u.from_ + u.pages ≤ v.from_
  ·exact hlt
  ·exfalso
   rcases (hm u).1 hu with rfl | hu' <;> rcases (hm v).1 hv with rfl | hv'
   ·omega
   ·exact hd v hv' v.from_ ⟨by omega, by omega⟩ ⟨by omega, by omega⟩
   ·exact hd u hu' v.from_ ⟨by omega, by omega⟩ ⟨by omega, by omega⟩
   ·have hpw := hOk.2
    obtain ⟨i, hi, rfl⟩ := List.getElem_of_mem hu'
    obtain ⟨j, hj, rfl⟩ := List.getElem_of_mem hv'
    rcases Nat.lt_trichotomy i j with hij | hij | hij
    ·have := List.pairwise_iff_getElem.1 hpw i j hi hj hij; omega
    ·subst hij; omega
    ·have := List.pairwise_iff_getElem.1 hpw j i hj hi hij; omega
 have hfind : ∀ p : Int, yc L p = if a.Has p then some a else yc pr.A p := fun p => zhk hOk hL' hm hd p
 have hlen' : L.length ≤ 16 := by rw [hperm.length_eq]; simp; omega
 have hT : ∀ m, (x.put n ⟨pr.T, L, pr.Q⟩).T m = if m = n then some ⟨pr.T, L, pr.Q⟩ else x.T m := fun _ => rfl
 have own : ∀ m f, (x.put n ⟨pr.T, L, pr.Q⟩).owns m f ↔ x.owns m f := fun m f => by
  unfold za.owns
  rw [hT]
  by_cases e : m = n
  ·rw [if_pos e, e, hp]
   constructor
   ·rintro ⟨_, e2, hf⟩; cases e2; exact ⟨pr, rfl, hf⟩
   ·rintro ⟨_, e2, hf⟩; cases e2; exact ⟨_, rfl, hf⟩
  ·rw [if_neg e]
 have ent : ∀ m page, (x.put n ⟨pr.T, L, pr.Q⟩).ent m page = x.ent m page := fun m page => by
  unfold za.ent
  rw [hT]
  by_cases e : m = n
  ·rw [if_pos e, e, hp]; rfl
  ·rw [if_neg e]; rfl
 have hnone : ∀ page : Nat, a.Has (page : Int) → yc pr.A (page : Int) = none := fun page hh => by
  cases e : yc pr.A (page : Int) with
  | none => rfl
  | some b =>
   obtain ⟨h1, h2⟩ := (Z9 hOk).1 e
   exact absurd h2 (hd b h1 _ hh)
 refine ⟨⟨⟨⟨fun m pm hm' => ?_, fun m k f h1 h2 => h.ok.wf.apart m k f ((own m f).1 h1) ((own k f).1 h2), fun m pm hm' => ?_, h.ok.wf.back, h.ok.wf.slots, h.ok.wf.bad, h.ok.wf.keys, h.ok.wf.secs, h.ok.wf.nd⟩, fun f m page h1 h2 h3 => by rw [ent]; exact h.ok.backE f m page h1 h2 h3, fun k m page h1 h2 h3 => by rw [ent]; exact h.ok.slotE k m page h1 h2 h3, h.ok.useB, h.ok.anon, fun f h1 h2 => ?_, h.ok.cached, h.ok.cacheE, h.ok.cacheK, fun m pm page hm' hpg => ?_⟩, fun m hm' => ?_⟩, ?_⟩
 ·rw [hT] at hm'
  by_cases e : m = n
  ·rw [if_pos e] at hm'
   cases hm'
   exact h.ok.wf.rpt n pr hp
  ·rw [if_neg e] at hm'
   exact h.ok.wf.rpt m pm hm'
 ·rw [hT] at hm'
  by_cases e : m = n
  ·rw [if_pos e] at hm'
   cases hm'
   exact ⟨hL', hlen'⟩
  ·rw [if_neg e] at hm'
   exact h.ok.wf.jm m pm hm'
 ·obtain ⟨m, hm'⟩ := h.ok.table f h1 h2
  exact ⟨m, (own m f).2 hm'⟩
 ·rw [ent]
  rw [hT] at hm'
  by_cases e : m = n
  ·rw [if_pos e] at hm'
   cases hm'
   rw [e]
   have k := h.ok.area n pr page hp hpg
   by_cases hh : a.Has (page : Int)
   ·have k0 : (x.ent n page).kind = 0 := by
     by_cases z : (x.ent n page).kind = 0
     ·exact z
     ·obtain ⟨b, hb⟩ := k.find z
      rw [hnone page hh] at hb
      cases hb
    exact ⟨fun z => absurd k0 z, fun _ _ z => by omega, fun _ _ _ z => by omega, fun _ _ z => by omega, fun _ _ z => by omega⟩
   ·have hf : yc L (page : Int) = yc pr.A (page : Int) := by rw [hfind, if_neg hh]
    exact ⟨by rw [hf]; exact k.find, by rw [hf]; exact k.own, by rw [hf]; exact k.file, by rw [hf]; exact k.shared, by rw [hf]; exact k.slot⟩
  ·rw [if_neg e] at hm'
   have k := h.ok.area m pm page hm' hpg
   exact ⟨k.find, k.own, k.file, k.shared, k.slot⟩
 ·rw [hT]
  by_cases e : m = n
  ·have := h.ok.Xm h.out hp; omega
  ·rw [if_neg e]; exact h.out m hm'
 ·unfold za.abs Abs.map
  rw [Abs.mk.injEq]
  refine ⟨?_, ?_, rfl, rfl, rfl⟩
  ·funext m
   rw [hT]
   by_cases e : m = n
   ·rw [if_pos e, if_pos e]; dsimp only; rw [hp]; rfl
   ·rw [if_neg e, if_neg e]
  ·funext m page
   by_cases hpg : page < 4096
   ·rw [if_pos hpg]
    dsimp only
    rw [if_pos hpg]
    unfold za.pv
    rw [hT]
    by_cases e : m = n
    ·rw [if_pos e, e, hp]
     dsimp only
     rw [hfind, ent]
     by_cases hh : a.Has (page : Int)
     ·rw [if_pos hh, if_pos ⟨rfl, hpg, hh⟩]
      dsimp only
      have k := h.ok.area n pr page hp hpg
      have k0 : (x.ent n page).kind = 0 := by
       by_cases z : (x.ent n page).kind = 0
       ·exact z
       ·obtain ⟨b, hb⟩ := k.find z
        rw [hnone page hh] at hb
        cases hb
      unfold za.pv1 Qx
      rw [k0, if_neg (by omega), if_neg (by omega), if_neg (by omega)]
     ·rw [if_neg hh, if_neg fun z => hh z.2.2]
      rfl
    ·rw [if_neg e, if_neg fun z => e z.1]
     cases x.T m with
     | none => rfl
     | some pm =>
      dsimp only
      cases yc pm.A (page : Int) with
      | none => rfl
      | some b => dsimp only; rw [ent]; rfl
   ·rw [if_neg hpg, if_neg (fun z : m = n ∧ page < 4096 ∧ a.Has (page : Int) => hpg z.2.1)]
    dsimp only
    rw [if_neg hpg]
end
end Go.Proofs.YtnhdmnijiphjjaaGreat
/- Processes, in plain words: signals; what the law's start has; how long bytes are. No program in it. -/
namespace Go.Proofs.YtnhdmnijiphjjaaGreat
open Go Go.RowKit
def Abs.setQ (X : Abs) (n : Nat) (Q : List (Int × Int)) : Abs := { X with A := fun m => if m = n then (X.A n).map fun p => (p.1, Q) else X.A m }
section
variable {x y : za}
theorem Ok0.sigs (h : Ok0 x) {n : Nat} {pr : yf} (hp : x.T n = some pr) (Q : List (Int × Int)) :
  Ok0 (x.put n ⟨pr.T, pr.A, Q⟩) ∧ (x.put n ⟨pr.T, pr.A, Q⟩).abs = x.abs.setQ n Q := by
 have hT : ∀ m, (x.put n ⟨pr.T, pr.A, Q⟩).T m = if m = n then some ⟨pr.T, pr.A, Q⟩ else x.T m := fun _ => rfl
 have own : ∀ m f, (x.put n ⟨pr.T, pr.A, Q⟩).owns m f ↔ x.owns m f := fun m f => by
  unfold za.owns
  rw [hT]
  by_cases e : m = n
  ·rw [if_pos e, e, hp]
   constructor
   ·rintro ⟨_, e2, hf⟩; cases e2; exact ⟨pr, rfl, hf⟩
   ·rintro ⟨_, e2, hf⟩; cases e2; exact ⟨_, rfl, hf⟩
  ·rw [if_neg e]
 have ent : ∀ m page, (x.put n ⟨pr.T, pr.A, Q⟩).ent m page = x.ent m page := fun m page => by
  unfold za.ent
  rw [hT]
  by_cases e : m = n
  ·rw [if_pos e, e, hp]; rfl
  ·rw [if_neg e]; rfl
 refine ⟨⟨⟨⟨fun m pm hm' => ?_, fun m k f h1 h2 => h.ok.wf.apart m k f ((own m f).1 h1) ((own k f).1 h2), fun m pm hm' => ?_, h.ok.wf.back, h.ok.wf.slots, h.ok.wf.bad, h.ok.wf.keys, h.ok.wf.secs, h.ok.wf.nd⟩, fun f m page h1 h2 h3 => by rw [ent]; exact h.ok.backE f m page h1 h2 h3, fun k m page h1 h2 h3 => by rw [ent]; exact h.ok.slotE k m page h1 h2 h3, h.ok.useB, h.ok.anon, fun f h1 h2 => ?_, h.ok.cached, h.ok.cacheE, h.ok.cacheK, fun m pm page hm' hpg => ?_⟩, fun m hm' => ?_⟩, ?_⟩
 ·rw [hT] at hm'
  by_cases e : m = n
  ·rw [if_pos e] at hm'
   cases hm'
   exact h.ok.wf.rpt n pr hp
  ·rw [if_neg e] at hm'
   exact h.ok.wf.rpt m pm hm'
 ·rw [hT] at hm'
  by_cases e : m = n
  ·rw [if_pos e] at hm'
   cases hm'
   exact h.ok.wf.jm n pr hp
  ·rw [if_neg e] at hm'
   exact h.ok.wf.jm m pm hm'
 ·obtain ⟨m, hm'⟩ := h.ok.table f h1 h2
  exact ⟨m, (own m f).2 hm'⟩
 ·rw [ent]
  rw [hT] at hm'
  by_cases e : m = n
  ·rw [if_pos e] at hm'
   cases hm'
   rw [e]
   have k := h.ok.area n pr page hp hpg
   exact ⟨k.find, k.own, k.file, k.shared, k.slot⟩
  ·rw [if_neg e] at hm'
   have k := h.ok.area m pm page hm' hpg
   exact ⟨k.find, k.own, k.file, k.shared, k.slot⟩
 ·rw [hT]
  by_cases e : m = n
  ·have := h.ok.Xm h.out hp; omega
  ·rw [if_neg e]; exact h.out m hm'
 ·unfold za.abs Abs.setQ
  rw [Abs.mk.injEq]
  refine ⟨?_, ?_, rfl, rfl, rfl⟩
  ·funext m
   rw [hT]
   by_cases e : m = n
   ·rw [if_pos e, if_pos e]; dsimp only; rw [hp]; rfl
   ·rw [if_neg e, if_neg e]
  ·funext m page
   by_cases hpg : page < 4096
   ·dsimp only
    rw [if_pos hpg, if_pos hpg]
    unfold za.pv
    rw [hT]
    by_cases e : m = n
    ·rw [if_pos e, e, hp]
     dsimp only
     rw [ent]
     rfl
    ·rw [if_neg e]
     cases x.T m with
     | none => rfl
     | some pm =>
      dsimp only
      cases yc pm.A (page : Int) with
      | none => rfl
      | some b => dsimp only; rw [ent]; rfl
   ·dsimp only
    rw [if_neg hpg, if_neg hpg]
theorem Y7 (R : RamS) (f a k : Nat) : (R.read f a k).length = k := by simp [RamS.read]
theorem Ok0.zjk (h : Ok0 x) {k : Int × Int} (hk : xk k) : (x.abs.file k).length = 64 := by
 show (if xk k then x.uw k else []).length = 64
 rw [if_pos hk]
 unfold za.uw
 split
 ·exact Y7 ..
 ·exact h.ok.wf.secs _ (Yc hk)
end
theorem zb8 (k : Nat) : ∀ N, k ≤ N → (List.range N).countP (fun f => decide (f < k)) = k
 | 0, h => by simp; omega
 | N + 1, h => by
  rw [List.range_succ, List.countP_append]
  by_cases e : k = N + 1
  ·subst e
   rw [List.countP_eq_length.2 (fun a ha => by simp at ha ⊢; omega)]
   simp
  ·rw [zb8 k N (by omega)]
   simp
   omega
def Abs.start (file : Int × Int → List UInt8) (cur : Nat → List UInt8) : Abs := ⟨fun _ => none, fun _ _ => .none, file, fun _ => false, cur⟩
theorem zf8 (P : zk) (D : zq) : (za.start RamS.none P D).abs = .start (fun k => if xk k then D.cur (za.ym k) else []) D.cur := by
 unfold za.abs Abs.start
 rw [Abs.mk.injEq]
 refine ⟨rfl, ?_, ?_, rfl, rfl⟩
 ·funext n page
  unfold za.pv
  show (if page < 4096 then PV.none else .none) = .none
  split <;> rfl
 ·funext k
  rfl
theorem zak (a : Ar) : insA [] a = [a] := rfl
theorem Abs.Jn (X : Abs) (n : Nat) (a : Ar) (L : List Ar) (m pg : Nat) : (X.map n a L).pv m pg = if m = n ∧ pg < 4096 ∧ a.Has (pg : Int) then Qx a else X.pv m pg := rfl
theorem Abs.zmp {X : Abs} {n : Nat} {p : List Ar × List (Int × Int)} (h : X.A n = some p) (pg : Nat) : X.area n pg = yc p.1 (pg : Int) := by
 unfold Abs.area; rw [h]; rfl
end Go.Proofs.YtnhdmnijiphjjaaGreat
/- Processes as a law has them: where nothing lies but the space itself; what its functions answer, in plain words. -/
namespace Go.Proofs.YtnhdmnijiphjjaaGreat
open Go Go.RowKit
def bys (l : List UInt8) : List Value := l.map bV
theorem zmn (l : List UInt8) : (bys l).length = l.length := List.length_map ..
theorem Js {w : World} {v : Value} {l : List UInt8} : BRd w v l ↔ SlRd w 1 v (bys l).length (bys l) := by rw [zmn]; exact Iff.rfl
theorem SlRd.keepO {w w' : World} {k n : Nat} {v : Value} {xs : List Value} (h : SlRd w k v n xs) (hk : ∀ b, v.ownBlock = some b → w'.heap[b]? = w.heap[b]?) : SlRd w' k v n xs := by
 refine ⟨h.1, ?_⟩
 rcases h.2 with h0 | ⟨b, off, c, rfl, hnc, hm, hg, hx⟩
 ·exact .inl h0
 ·have e := hk b (by simp [Value.ownBlock])
  exact .inr ⟨b, off, c, rfl, hnc, hm, (Array.getElem?_eq_some_iff.1 (e.trans (Array.getElem?_eq_getElem hg))).1, fun j u hu => (World.cell?_of_block (w := w) e).trans (hx j u hu)⟩
structure At (w0 : World) (V : List (Value × List Value)) (sp : Nat) (X : Abs) (r : Nat) (w : World) : Prop where
 st : ∃ x q tag, q.sp = sp ∧ zg w tag q x ∧ (∀ b, b < w0.heap.size → tag b = 0) ∧ (∀ p ∈ V, SlRd w 1 p.1 p.2.length p.2 ∧ ∀ b, p.1.ownBlock = some b → tag b = 0) ∧ Ok0 x ∧ x.abs = X ∧ r ≤ x.P.room ∧ x.D.Calm
 bel : Below w0.heap.size w0 w
section
variable {w0 w w' : World} {V : List (Value × List Value)} {sp r : Nat} {X : Abs} {C : Nat → Prop} {tag tag' : Nat → Nat}
theorem Zc (hC : ¬ C 0) (s : Step C tag w tag' w') (hb : Below w0.heap.size w0 w) (low : ∀ b, b < w0.heap.size → tag b = 0) (hV : ∀ p ∈ V, SlRd w 1 p.1 p.2.length p.2 ∧ ∀ b, p.1.ownBlock = some b → tag b = 0) :
  (∀ b, b < w0.heap.size → tag' b = 0) ∧ (∀ p ∈ V, SlRd w' 1 p.1 p.2.length p.2 ∧ ∀ b, p.1.ownBlock = some b → tag' b = 0) ∧ Below w0.heap.size w0 w' := by
 have hsz := hb.size
 refine ⟨fun b h => (s.keeps hC b (by omega) (low b h)).1, fun p hp => ?_, ⟨s.turn.os.trans hb.os, s.turn.tape.trans hb.tape, s.turn.output.trans hb.output, Nat.le_trans hsz s.turn.size, fun k hk => (s.keeps hC k (by omega) (low k hk)).2.trans (hb.block k hk)⟩⟩
 obtain ⟨h1, h2⟩ := hV p hp
 exact ⟨SlRd.keepO h1 fun b h => (s.keeps hC b (SlRd.lt h1 b h) (h2 b h)).2, fun b h => (s.keeps hC b (SlRd.lt h1 b h) (h2 b h)).1⟩
theorem At.less (h : At w0 V sp X r w) {r' : Nat} (hr : r' ≤ r) : At w0 V sp X r' w := by
 obtain ⟨⟨x, q, tag, hq, hS, low, hV, hk, hX, hr', hc⟩, hbel⟩ := h
 exact ⟨⟨x, q, tag, hq, hS, low, hV, hk, hX, by omega, hc⟩, hbel⟩
def Has (w0 : World) (V : List (Value × List Value)) (w : World) (v : Value) (l : List UInt8) : Prop := (v, bys l) ∈ V ∨ BRd w v l ∧ ∀ b, v.ownBlock = some b → b < w0.heap.size
theorem CS0 (n : Nat) : ¬ CS n 0 := by unfold CS; omega
theorem At.load' {x : za} {q : Sq} {tag : Nat → Nat} (hS : zg w tag q x) (hk : Ok0 x) {n : Nat} (hn : n < 8) (hs : (x.T n).isSome = true) (a s : Int) :
  Calls Tryz.prog 20 #[ptrV q.sp, .int .i64 n, .int .i64 a, .int .i64 s] w fun e w' => ∃ v tag', e = .returned (.tuple #[v, .int .i64 (x.Xn n a s).1.2]) ∧ ByAt w' v (x.Xn n a s).1.1 ∧ (∀ b, v.ownBlock = some b → tag' b = 0) ∧ zg w' tag' q (x.Xn n a s).2 ∧ Step CB tag w tag' w' := by
 refine zj9 n hn _ (zh3 n false) hS ⟨hk, hs⟩ a s fun h0 h1 => ?_
 have hb : 0 ≤ a ∧ 0 ≤ s ∧ s ≤ 64 ∧ a + s ≤ 262144 := by
  unfold za.xx at h0
  split at h0
  ·omega
  ·split at h0
   ·omega
   ·omega
 obtain ⟨g1, g2, _⟩ := hk.U9 hs false (a := a.toNat) (s := s.toNat) (by omega) (by omega) h1
 exact ⟨g1, g2⟩
theorem At.store' {x : za} {q : Sq} {tag : Nat → Nat} (hS : zg w tag q x) (hk : Ok0 x) {n : Nat} (hn : n < 8) (hs : (x.T n).isSome = true) (a : Nat) {v : Value} {l : List UInt8} (hv : BRd w v l) (ho : ∀ b, v.ownBlock = some b → tag b = 0) (hr : x.xx n a l.length = 0) :
  Calls Tryz.prog 19 #[ptrV q.sp, .int .i64 n, .int .i64 a, v] w fun e w' => e = .returned (.int .i64 (x.qx n a l).1) ∧ ∃ tag', zg w' tag' q (x.qx n a l).2 ∧ Step CB tag w tag' w' := by
 obtain ⟨va, vc, rfl, _, _⟩ := SlRd.form hv
 have hb : l.length ≤ 64 ∧ a + l.length ≤ 262144 := by
  have h0 := hr
  unfold za.xx at h0
  split at h0
  ·omega
  ·split at h0
   ·omega
   ·omega
 have R := U2 hS n a l.length
 rw [hr] at R
 have P := Jk n hn true _ (zh3 n true) hS ⟨hk, hs⟩ a l.length (by omega) (by omega)
 have W := zfp (tag := tag) n a va vc l R hv ho hb.1 (za.zh n true 3 x a l.length) (P.mono (by
  rintro e w1 (⟨v, tag1, rfl, h0, hv, ho, hS, hst, _⟩ | ⟨tag1, rfl, h0, hS, hst⟩)
  ·exact .inl ⟨v, tag1, rfl, h0, hv, ho, hS, hst⟩
  ·exact .inr ⟨tag1, rfl, h0, hS, hst⟩)) (fun h0 => by
   obtain ⟨_, g2, g3⟩ := hk.U9 hs true (a := a) (s := l.length) hb.1 hb.2 h0
   exact ⟨g2, g3⟩)
 have e1 : (x.qx n a l).1 = (za.zh n true 3 x a l.length).1.2 ∧ (x.qx n a l).2 = (if (za.zh n true 3 x a l.length).1.2 = 0 then { (za.zh n true 3 x a l.length).2 with R := za.Yp (za.zh n true 3 x a l.length).1.1 l (za.zh n true 3 x a l.length).2.R } else (za.zh n true 3 x a l.length).2) := by
  unfold za.qx
  rw [if_pos hr]
  simp only [Int.toNat_natCast]
  by_cases z : (za.zh n true 3 x a l.length).1.2 = 0
  ·rw [if_pos z, if_pos z, z]; exact ⟨rfl, rfl⟩
  ·rw [if_neg z, if_neg z]; exact ⟨rfl, rfl⟩
 rw [e1.1, e1.2]
 exact W
theorem zme {v : Value} {l : List UInt8} (h : Has w0 V w v l) (low : ∀ b, b < w0.heap.size → tag b = 0) (hV : ∀ p ∈ V, SlRd w 1 p.1 p.2.length p.2 ∧ ∀ b, p.1.ownBlock = some b → tag b = 0) : BRd w v l ∧ ∀ b, v.ownBlock = some b → tag b = 0 := by
 rcases h with h | ⟨h, g⟩
 ·exact ⟨Js.2 (hV _ h).1, (hV _ h).2⟩
 ·exact ⟨h, fun b hb => low b (g b hb)⟩
theorem Jg {x : za} {n : Nat} (hs : (x.T n).isSome = true) {a k : Nat} (h1 : k ≤ 64) (h2 : a + k ≤ 262144) : x.xx n a k = 0 := by
 unfold za.xx
 rw [if_neg (by rw [Int.toNat_natCast, hs]; simp), if_neg (by omega)]
theorem zg.secs {q : Sq} {x : za} (h : zg w tag q x) : ∀ s, s < 192 → (x.D.cur s).length = 64 := by
 intro s hs
 obtain ⟨sb, off, c, mb, U, L, hD⟩ := h.disk
 obtain ⟨v, _, hv⟩ := Uk _ hD s hs
 exact hv.1
end
end Go.Proofs.YtnhdmnijiphjjaaGreat
/- Processes, in plain words: many places, all of one frame, have other entries, each its own. No program in it. -/
namespace Go.Proofs.YtnhdmnijiphjjaaGreat
open Go Go.RowKit
def za.putM (x : za) (l : List (Int × Int)) (e : Int × Int → Ent) : za := l.foldl (fun y p => (y.putF p.1.toNat p.2.toNat (e p)).2) x
theorem zgk (x : za) (n page : Nat) (l : List (Int × Int)) (e : Int × Int → Ent) : x.putM (plc n page :: l) e = (x.putF n page (e (plc n page))).2.putM l e := by
 unfold za.putM
 rw [List.foldl_cons]
 have e1 : (plc n page).1.toNat = n := by unfold plc; omega
 have e2 : (plc n page).2.toNat = page := by unfold plc; dsimp only; omega
 rw [e1, e2]
theorem zez (x : za) (l : List (Int × Int)) (e : Ent) : x.putM l (fun _ => e) = x.y8 l e := rfl
structure Zq (x : za) (f0 : Nat) (l : List (Int × Int)) (e : Int × Int → Ent) (y : za) : Prop where
 wf : WF y
 ent : ∀ m pg, pg < 4096 → y.ent m pg = if plc m pg ∈ l then e (plc m pg) else x.ent m pg
 bad : y.R.bad = x.R.bad
 bytes : ∀ f i, x.P.use f ≠ 1 → x.P.use f ≠ 2 → y.R.b f i = x.R.b f i
 use : ∀ f, x.P.use f ≠ 1 → x.P.use f ≠ 2 → y.P.use f = if f = f0 ∧ x.P.use f0 = 3 ∧ l ≠ [] ∧ y.B f0 = [] then 1 else x.P.use f
 fr : ∀ f, x.P.use f = 1 → y.P.use f = 1
 tb : ∀ f, x.P.use f = 2 → y.P.use f = 1 ∨ y.P.use f = 2
 tab : (∀ f, f < 1024 → x.P.use f = 2 → ∃ n, x.owns n f) → ∀ f, f < 1024 → y.P.use f = 2 → ∃ n, y.owns n f
 zone : y.P.zone = x.P.zone ∧ y.P.iso = x.P.iso
 keep : y.D = x.D ∧ y.CL = x.CL ∧ y.CR = x.CR
 procs : ∀ m, (y.T m).map (fun pr => (pr.A, pr.Q)) = (x.T m).map (fun pr => (pr.A, pr.Q))
 memB : ∀ (f : Nat) q, f < 1024 → (q ∈ y.B f ↔ if q ∈ l then (e q).kind = 1 ∧ (e q).n = f else q ∈ x.B f)
 memS : ∀ (k : Nat) q, k < 32 → (q ∈ y.S.getD k [] ↔ if q ∈ l then (e q).kind = 2 ∧ (e q).n = k else q ∈ x.S.getD k [])
 room : x.P.room ≤ y.P.room
structure zdg (x : za) (f0 : Nat) (q : Int × Int) : Prop where
 pl : ∃ n page pr, q = plc n page ∧ n < 8 ∧ page < 4096 ∧ x.T n = some pr ∧ (x.ent n page).kind = 1 ∧ (x.ent n page).n = f0
 isB : q ∈ x.B f0
 noB : ∀ f : Nat, f < 1024 → f ≠ f0 → q ∉ x.B f
 noS : ∀ k, k < 32 → q ∉ x.S.getD k []
def zj8 (f0 : Nat) (e : Ent) : Prop := e.ok = true ∧ (e.kind = 1 → e.n ≠ f0)
section
variable {F : Nat → Prop} {x y x1 : za} {f0 : Nat} {l : List (Int × Int)} {e : Int × Int → Ent}
theorem Zq.refl (h : WF x) : Zq x f0 [] e x :=
 ⟨h, fun m pg _ => by rw [if_neg (by simp)], rfl, fun _ _ _ _ => rfl, fun f _ _ => by rw [if_neg]; exact fun z => z.2.2.1 rfl, fun _ z => z, fun _ z => .inr z, fun z => z, ⟨rfl, rfl⟩, ⟨rfl, rfl, rfl⟩, fun _ => rfl,
  fun f q _ => by rw [if_neg (by simp)], fun k q _ => by rw [if_neg (by simp)], Nat.le_refl _⟩
theorem zdg.keep {p q : Int × Int} {n page : Nat} {pr : yf} {c : Int} (h : zdg x f0 q) (d : PutD x n page pr (e p) c x1) (hp : p = plc n page) (hne : q ≠ p) : zdg x1 f0 q := by
 obtain ⟨⟨m, pg, pm, rfl, h1, h2, h3, h4, h5⟩, h6, h7, h8⟩ := h
 have hn : ¬ (m = n ∧ pg = page) := fun z => hne (by rw [hp, z.1, z.2])
 have ee : x1.ent m pg = x.ent m pg := by rw [d.ent m pg h2, if_neg fun z => hn z.2]
 refine ⟨?_, ?_, fun f hf hff => ?_, fun k hk => ?_⟩
 ·by_cases k : m = n
  ·obtain ⟨T', ht⟩ := d.this
   exact ⟨m, pg, _, rfl, h1, h2, by rw [k]; exact ht, by rw [ee]; exact h4, by rw [ee]; exact h5⟩
  ·exact ⟨m, pg, pm, rfl, h1, h2, by rw [d.oth m k]; exact h3, by rw [ee]; exact h4, by rw [ee]; exact h5⟩
 ·rw [d.memB, if_neg fun z => hne (z.2.1.trans hp.symm)]; exact h6
 ·rw [d.memB, if_neg fun z => hne (z.2.1.trans hp.symm)]; exact h7 f hf hff
 ·rw [d.memS, if_neg fun z => hne (z.2.1.trans hp.symm)]; exact h8 k hk
theorem Zq.one (h : WF x) {p : Int × Int} (hp : zdg x f0 p) (he : zj8 f0 (e p)) : Zq x f0 [p] e (x.putM [p] e) ∧ ∃ n page pr, p = plc n page ∧ PutD x n page pr (e p) 0 (x.putM [p] e) := by
 obtain ⟨⟨n, page, pr, rfl, h1, h2, h3, h4, h5⟩, h6, h7, h8⟩ := hp
 obtain ⟨e1, e2⟩ := he
 have d := h.putF h1 h3 h2 e1
 have hne : x.ent n page ≠ e (plc n page) := fun z => by rw [z] at h4 h5; exact e2 h4 h5
 have hc : (x.putF n page (e (plc n page))).1 = 0 := (d.less (.inl (by omega))).1
 have hx : x.putM [plc n page] e = (x.putF n page (e (plc n page))).2 := by rw [zgk]; rfl
 rw [hc] at d
 rw [hx]
 clear hx hc
 obtain ⟨x1, hx1⟩ : ∃ x1, x1 = (x.putF n page (e (plc n page))).2 := ⟨_, rfl⟩
 rw [← hx1] at d ⊢
 clear hx1
 obtain ⟨_, ls2, ls3⟩ := d.less (.inl (by omega))
 have own2 : ∀ f, x.P.use f ≠ 2 → ¬ x.owns n f := fun f hf ho => hf (h.y7 ho).2.1
 have mB : ∀ f : Nat, (plc n page ∈ x1.B f ↔ (e (plc n page)).kind = 1 ∧ (e (plc n page)).n = f ∨ (¬ ((x.ent n page).kind = 1 ∧ (x.ent n page).n = f) ∧ plc n page ∈ x.B f)) := fun f => by
  rw [d.memB, if_pos ⟨rfl, rfl, hne⟩]
 have B0 : x1.B f0 = [] ↔ (x.B f0).erase (plc n page) = [] := by
  have hs := h.back (f0 : Int)
  refine ⟨fun z => List.eq_nil_iff_forall_not_mem.2 fun q hq => ?_, fun z => List.eq_nil_iff_forall_not_mem.2 fun q hq => ?_⟩
  ·obtain ⟨q1, q2⟩ := (hs.1.Zf _ _).1 hq
   have : q ∈ x1.B f0 := by rw [d.memB, if_neg fun y => q1 y.2.1]; exact q2
   rw [z] at this; cases this
  ·by_cases k : q = plc n page
   ·rw [k, mB] at hq
    rcases hq with ⟨a, b⟩ | ⟨a, _⟩
    ·exact e2 a b
    ·exact a ⟨h4, h5⟩
   ·rw [d.memB, if_neg fun y => k y.2.1] at hq
    have : q ∈ (x.B f0).erase (plc n page) := (hs.1.Zf _ _).2 ⟨k, hq⟩
    rw [z] at this; cases this
 refine ⟨⟨d.wf, fun m pg hpg => ?_, d.bad, fun f i hf hf2 => d.bytes f i hf (own2 f hf2), fun f hf hf2 => ?_, fun f hf => ?_, fun f hf => ?_, fun t f hf hu => ?_, ⟨d.zone, d.iso⟩, d.keep, fun m => ?_, fun f q hf => ?_, fun k q hk => ?_, ls2⟩, n, page, pr, rfl, d⟩
 ·rw [d.ent m pg hpg]
  by_cases k : m = n ∧ pg = page
  ·rw [if_pos ⟨rfl, k⟩, if_pos (by simp [k.1, k.2]), k.1, k.2]
  ·rw [if_neg fun z => k z.2, if_neg]
   simpa [Yv] using k
 ·rw [d.use f (own2 f hf2) hf]
  refine zbw ⟨?_, ?_⟩ _ _
  ·rintro ⟨_, _, _, a, _, b, c⟩
   have hff : f = f0 := by omega
   subst hff
   exact ⟨rfl, c, by simp, B0.2 b⟩
  ·rintro ⟨rfl, a, _, b⟩
   exact ⟨rfl, h4, fun z => e2 z.1 (z.2.trans h5), h5.symm, h6, B0.1 b, a⟩
 ·rw [d.free f (.inr hf), if_neg]
  exact fun z => by have := (h.y7 (ls3 f z)).2.1; omega
 ·by_cases k : x.owns n f
  ·rw [d.free f (.inl k)]
   split
   ·exact .inr rfl
   ·exact .inl rfl
  ·rw [d.use f k (by omega)]
   split
   ·exact .inl rfl
   ·exact .inr hf
 ·by_cases k : x.owns n f ∨ x.P.use f = 1
  ·rw [d.free f k] at hu
   split at hu
   ·rename_i z; exact ⟨n, z⟩
   ·omega
  ·have k1 : ¬ x.owns n f := fun z => k (.inl z)
   rw [d.use f k1 fun z => k (.inr z)] at hu
   split at hu
   ·omega
   ·obtain ⟨m, pm, hm, hf'⟩ := t f hf hu
    have hmn : m ≠ n := fun z => k1 (by rw [← z]; exact ⟨pm, hm, hf'⟩)
    exact ⟨m, pm, by rw [d.oth m hmn]; exact hm, hf'⟩
 ·by_cases k : m = n
  ·obtain ⟨T', ht⟩ := d.this
   rw [k, ht, h3]
   rfl
  ·rw [d.oth m k]
 ·by_cases k : q = plc n page
  ·rw [if_pos (by simp [k]), k, mB]
   refine ⟨fun z => z.elim id fun z => ?_, .inl⟩
   by_cases kk : f = f0
   ·exact absurd ⟨h4, by rw [h5, kk]⟩ z.1
   ·exact absurd z.2 (h7 f hf kk)
  ·rw [if_neg (by simpa using k), d.memB, if_neg fun z => k z.2.1]
 ·by_cases kq : q = plc n page
  ·rw [if_pos (by simp [kq]), kq, d.memS, if_pos ⟨rfl, rfl, hne⟩]
   exact ⟨fun z => z.elim id fun z => absurd z.2 (h8 k hk), .inl⟩
  ·rw [if_neg (by simpa using kq), d.memS, if_neg fun z => kq z.2.1]
theorem Zq.comp {p : Int × Int} (h1 : Zq x f0 [p] e x1) (h2 : Zq x1 f0 l e y) (hB : x1.B f0 ≠ []) (hl : l ≠ []) : Zq x f0 (p :: l) e y := by
 have u1 : ∀ f, x.P.use f ≠ 1 → x.P.use f ≠ 2 → x1.P.use f = x.P.use f := fun f a b => by
  rw [h1.use f a b, if_neg]
  exact fun z => hB z.2.2.2
 have hi : ∀ {α : Type} (q : Int × Int) (a b c : α), (if q ∈ l then a else if q ∈ [p] then b else c) = if q ∈ p :: l then (if q ∈ l then a else b) else c := fun q a b c => by
  by_cases k : q ∈ l
  ·rw [if_pos k, if_pos (List.mem_cons_of_mem _ k), if_pos k]
  ·rw [if_neg k]
   by_cases k2 : q = p
   ·rw [if_pos (by simp [k2]), if_pos (by simp [k2]), if_neg k]
   ·rw [if_neg (by simpa using k2), if_neg (by simp [k2, k])]
 refine ⟨h2.wf, fun m pg hpg => ?_, h2.bad.trans h1.bad, fun f i a b => ?_, fun f a b => ?_, fun f a => h2.fr f (h1.fr f a), fun f a => ?_, fun t => h2.tab (h1.tab t), ⟨h2.zone.1.trans h1.zone.1, h2.zone.2.trans h1.zone.2⟩,
  ⟨h2.keep.1.trans h1.keep.1, h2.keep.2.1.trans h1.keep.2.1, h2.keep.2.2.trans h1.keep.2.2⟩, fun m => (h2.procs m).trans (h1.procs m), fun f q hf => ?_, fun k q hk => ?_, Nat.le_trans h1.room h2.room⟩
 ·rw [h2.ent m pg hpg, h1.ent m pg hpg, hi, ite_self]
 ·rw [h2.bytes f i (by rw [u1 f a b]; exact a) (by rw [u1 f a b]; exact b), h1.bytes f i a b]
 ·rw [h2.use f (by rw [u1 f a b]; exact a) (by rw [u1 f a b]; exact b), u1 f a b]
  by_cases k : f = f0
  ·subst k
   rw [u1 f a b]
   exact zbw ⟨fun ⟨q1, q2, _, q4⟩ => ⟨q1, q2, by simp, q4⟩, fun ⟨q1, q2, _, q4⟩ => ⟨q1, q2, hl, q4⟩⟩ _ _
  ·rw [if_neg fun z => k z.1, if_neg fun z => k z.1]
 ·rcases h1.tb f a with z | z
  ·exact .inl (h2.fr f z)
  ·exact h2.tb f z
 ·rw [h2.memB f q hf, h1.memB f q hf]
  have := hi q ((e q).kind = 1 ∧ (e q).n = (f : Int)) ((e q).kind = 1 ∧ (e q).n = (f : Int)) (q ∈ x.B f)
  rw [ite_self] at this
  rw [this]
 ·rw [h2.memS k q hk, h1.memS k q hk]
  have := hi q ((e q).kind = 2 ∧ (e q).n = (k : Int)) ((e q).kind = 2 ∧ (e q).n = (k : Int)) (q ∈ x.S.getD k [])
  rw [ite_self] at this
  rw [this]
theorem WF.putM (h : WF x) : ∀ {l : List (Int × Int)}, l.Nodup → (∀ q ∈ l, zdg x f0 q) → (∀ q ∈ l, zj8 f0 (e q)) → Zq x f0 l e (x.putM l e) := by
 intro l
 induction l generalizing x with
 | nil => exact fun _ _ _ => Zq.refl h
 | cons p l ih =>
  intro nd hl he
  obtain ⟨n1, n2⟩ := List.nodup_cons.1 nd
  obtain ⟨d, n, page, pr, ep, dd⟩ := Zq.one (e := e) h (hl p (List.mem_cons_self ..)) (he p (List.mem_cons_self ..))
  have ex : x.putM (p :: l) e = (x.putM [p] e).putM l e := rfl
  rw [ex]
  by_cases k : l = []
  ·rw [k]; exact d
  ·have hl' : ∀ q ∈ l, zdg (x.putM [p] e) f0 q := fun q hq => (hl q (List.mem_cons_of_mem _ hq)).keep dd ep fun z => n1 (z ▸ hq)
   have hd := ih d.wf n2 hl' fun q hq => he q (List.mem_cons_of_mem _ hq)
   obtain ⟨q, hq⟩ := List.exists_mem_of_ne_nil l k
   refine Zq.comp d hd (fun z => ?_) k
   have := (hl' q hq).isB
   rw [z] at this
   cases this
theorem OK.zi6 (h : OK F x) {f0 : Nat} (hf : f0 < 1024) : ∀ q ∈ x.B f0, zdg x f0 q := fun q hq => by
 obtain ⟨n, page, e, h1, h2, h3, h4⟩ := mem_B h hf hq
 have hp : ∃ pr, x.T n = some pr := by
  cases hT : x.T n with
  | none => rw [Zz hT] at h3; exact absurd h3 (by decide)
  | some pr => exact ⟨pr, rfl⟩
 obtain ⟨pr, hp⟩ := hp
 refine ⟨⟨n, page, pr, e, h1, h2, hp, h3, h4⟩, hq, fun f hf2 hne hm => ?_, fun k hk hm => ?_⟩
 ·rw [e] at hm
  have := ((h.backE f n page hf2 h1 h2).1 hm).2
  omega
 ·rw [e] at hm
  have := ((h.slotE k n page hk h1 h2).1 hm).1
  omega
end
end Go.Proofs.YtnhdmnijiphjjaaGreat
/- Pages that go out, in plain words: what each function answers and makes of a space. No program in it. -/
namespace Go.Proofs.YtnhdmnijiphjjaaGreat
open Go Go.RowKit
namespace za
def wr (x : za) (sec : Nat) (l : List UInt8) : za := { x with D := if x.D.work.2 = 0 then x.D.work.1.write sec l else x.D.work.1 }
def outF (x : za) (n page : Nat) : Int × za :=
 if (x.ent n page).kind ≠ 1 then (2, x)
 else if (Yo x.S).2 = false then (4, x)
 else if x.D.work.2 = 0 then (0, (x.wr (160 + (Yo x.S).1.toNat) (x.R.read (x.ent n page).n.toNat 0 64)).y8 (x.B (x.ent n page).n) ⟨2, (Yo x.S).1, false⟩)
 else ((x.D.work.2 : Int), x.wr (160 + (Yo x.S).1.toNat) (x.R.read (x.ent n page).n.toNat 0 64))
def cfr (x : za) (k : Int × Int) : Int := ((getL x.CL k).getD (0, false)).1
def uy (x : za) (k : Int × Int) : Int × za :=
 if x.xg k = false then (0, x)
 else if x.D.work.2 = 0 then (0, (x.wr (ym k) (x.R.read (x.cfr k).toNat 0 64)).zy k false)
 else ((x.D.work.2 : Int), x.wr (ym k) (x.R.read (x.cfr k).toNat 0 64))
def Xp (x : za) (k : Int × Int) : Int × za :=
 if (getL x.CL k).isSome = false then (2, x)
 else if (x.uy k).1 ≠ 0 then x.uy k
 else (0, ((((x.uy k).2.y8 ((x.uy k).2.B (x.cfr k)) Ent.none)).yu k).vk (x.cfr k))
end za
end Go.Proofs.YtnhdmnijiphjjaaGreat
/- Processes: what their parts answer when they are asked by others: uses, slots, tables, sectors written. -/
namespace Go.Proofs.YtnhdmnijiphjjaaGreat
open Go Go.RowKit
set_option maxRecDepth 100000 in
theorem zdf {O : Nat → Prop} {p sb off c mb : Nat} {V : Nat → Value} {L : List (Int × Value)} {D : zq} (w : World) (h : y9 w O p sb off c mb V L D) (n : Nat) (ni : Int) (en : ni = n) (hn : n < 32) (v : Value) (l : List UInt8) (hv : Reads w v l) (hl : l.length = 64) (hvo : ∀ b, v.ownBlock = some b → ¬ O b) :
  Calls Tryz.prog 75 #[.pointer (some ⟨p, 0, none⟩), .int .i64 ni, v] w fun e w' => e = .returned (.int .i64 D.work.2) ∧ Turn O w w' ∧ Zj w' (grow O w) p (if D.work.2 = 0 then D.work.1.write (160 + n) l else D.work.1) := by
 have P := Lib.hid (za8 w n ni en hn)
 obtain ⟨X, hX⟩ : ∃ X : World → Prop, X = fun w' => Turn O w w' ∧ Zj w' (grow O w) p (if D.work.2 = 0 then D.work.1.write (160 + n) l else D.work.1) := ⟨_, rfl⟩
 have R : Hid (Calls Tryz.prog 55 #[.pointer (some ⟨p, 0, none⟩), .int .i64 ((160 + n : Nat) : Int), v] w fun e w' => e = .returned (.int .i64 D.work.2) ∧ X w') := by
  rw [hX]
  exact Ju w h ((160 + n : Nat) : Int) (160 + n) rfl (by omega) v l hv hl hvo
 suffices S : Calls Tryz.prog 75 #[.pointer (some ⟨p, 0, none⟩), .int .i64 ni, v] w fun e w' => e = .returned (.int .i64 D.work.2) ∧ X w' by rw [hX] at S; exact S
 clear h en hX
 generalize ((160 + n : Nat) : Int) = q at P R
 generalize D.work.2 = r at R ⊢
 obtain ⟨a, c0, b, o, rfl, h1, h2⟩ := hv
 rw [hl] at *
 clear h1 h2 hvo hl
 go_enter Tryz.func75, Tryz.ntmps75
 go_wp2_with fail
 refine P.out.mono ?_
 rintro e u ⟨rfl, hu⟩
 have hu := hu.symm
 subst hu
 go_wp2_with fail
 refine R.out.mono ?_
 rintro e w1 ⟨rfl, h1⟩
 have H1 := Lib.hid h1
 clear h1
 go_wp2_with fail
 go_ret
 exact ⟨rfl, H1.out⟩
section
variable {w w' : World} {tag tag' : Nat → Nat} {q : Sq} {x : za}
theorem zg.disk2 (h : zg w tag q x) {D' : zq} (t : Turn (fun b => tag b = 3) w w') (hD : Zj w' (grow (fun b => tag b = 3) w) q.dp D') : zg w' (retag tag w 3) q { x with D := D' } ∧ Step (fun c => c = 3) tag w (retag tag w 3) w' := by
 have s : Step (fun c => c = 3) tag w (retag tag w 3) w' := Step.retag t rfl
 exact ⟨h.turn s (by omega) (by omega) (fun _ _ => rfl) h.out (.inl ⟨by omega, rfl⟩) (.inl ⟨by omega, rfl⟩) (.inr (hD.loc fun k _ ho => ⟨Jh ho, rfl⟩)) (.inl ⟨by omega, rfl⟩) (.inl ⟨by omega, rfl, rfl⟩) (.inl ⟨by omega, rfl⟩) fun _ _ _ hx => .inl ⟨⟨by omega, by omega, by omega, by omega⟩, hx⟩, s⟩
theorem zg.swrite (h : zg w tag q x) (k : Nat) (hk : k < 32) {v : Value} {l : List UInt8} (hv : ByAt w v l) (hl : l.length = 64) (ho : ∀ b, v.ownBlock = some b → tag b = 0) :
  Calls Tryz.prog 75 #[.pointer (some ⟨q.dp, 0, none⟩), .int .i64 k, v] w fun e w' => e = .returned (.int .i64 x.D.work.2) ∧ zg w' (retag tag w 3) q (x.wr (160 + k) l) ∧ Step (fun c => c = 3) tag w (retag tag w 3) w' := by
 obtain ⟨sb, off, c, mb, V, L, hD⟩ := h.disk
 refine (zdf w hD k k rfl hk v l hv.reads hl fun b hb e => by rw [ho b hb] at e; cases e).mono ?_
 rintro e w1 ⟨rfl, t, hD1⟩
 exact ⟨rfl, h.disk2 t hD1⟩
theorem zg.fwrite (h : zg w tag q x) {k : Int × Int} (hk : xk k) {v : Value} {l : List UInt8} (hv : ByAt w v l) (hl : l.length = 64) (ho : ∀ b, v.ownBlock = some b → tag b = 0) :
  Calls Tryz.prog 149 #[.pointer (some ⟨q.dp, 0, none⟩), .int .i64 k.1, .int .i64 k.2, v] w fun e w' => e = .returned (.int .i64 x.D.work.2) ∧ zg w' (retag tag w 3) q (x.wr (za.ym k) l) ∧ Step (fun c => c = 3) tag w (retag tag w 3) w' := by
 obtain ⟨sb, off, c, mb, V, L, hD⟩ := h.disk
 have k1 : k.1 = (k.1.toNat : Int) := by unfold xk at hk; omega
 have k2 : k.2 = (k.2.toNat : Int) := by unfold xk at hk; omega
 have hl1 : k.1.toNat < 4 := by unfold xk at hk; omega
 have hl2 : k.2.toNat < 16 := by unfold xk at hk; omega
 refine (zdi w hD k.1.toNat k.2.toNat k.1 k.2 k1 k2 hl1 hl2 v l hv.reads hl fun b hb e => by rw [ho b hb] at e; cases e).mono ?_
 rintro e w1 ⟨rfl, t, hD1⟩
 exact ⟨rfl, h.disk2 t hD1⟩
theorem zg.useP (h : zg w tag q x) (f : Nat) (hf : f < 1024) : Calls Tryz.prog 38 #[.pointer (some ⟨q.pp, 0, none⟩), .int .i64 f] w fun e w' => e = .returned (.int .i64 (x.P.use f)) ∧ w' = w :=
 zca _ _ _ _ _ _ h.pool f f rfl hf
theorem zg.freeP (h : zg w tag q x) (f : Nat) (hf : f < 1024) : Calls Tryz.prog 44 #[.pointer (some ⟨q.pp, 0, none⟩), .int .i64 f] w fun e w' => (∃ b, e = .returned (.bool b)) ∧ zg w' tag q (x.vk f) ∧ Step (fun c => c = 2) tag w tag w' := by
 by_cases hu : 2 ≤ x.P.use f ∧ x.P.use f ≤ 5
 ·have e1 : x.vk f = { x with P := x.P.set f 1 } := by
   unfold za.vk zk.free
   rw [if_pos]
   ·rfl
   ·unfold zk.used; simp; omega
  rw [e1]
  refine (Vq _ _ _ _ _ _ h.pool f f rfl hf hu.1 hu.2).mono ?_
  rintro e w' ⟨rfl, g1, g2⟩
  have g := h.ze1 g2 g1
  exact ⟨⟨_, rfl⟩, g.1, g.2⟩
 ·have e1 : x.vk f = x := by
   unfold za.vk zk.free
   rw [if_neg]
   unfold zk.used; simp; omega
  rw [e1]
  refine (zmz _ _ _ _ (zca _ _ _ _ _ _ h.pool f f rfl hf) (by omega)).mono ?_
  rintro e w' ⟨rfl, g1⟩
  have g1 := g1.symm
  subst g1
  exact ⟨⟨_, rfl⟩, h, Step.refl _ _ _⟩
theorem zg.take (h : zg w tag q x) : Calls Tryz.prog 74 #[.pointer (some ⟨q.wp, 0, none⟩)] w fun e w' => e = .returned (.tuple #[.int .i64 (Yo x.S).1, .bool (Yo x.S).2]) ∧ w' = w := by
 obtain ⟨S, V, hB, hS⟩ := h.swap
 exact zid w q.wp S V x.S hB
theorem zg.usedS (h : zg w tag q x) (wf : WF x) : Calls Tryz.prog 51 #[.pointer (some ⟨q.wp, 0, none⟩)] w fun e w' => e = .returned (.int .i64 (Xf x.S)) ∧ Below w.heap.size w w' := by
 obtain ⟨S, V, hB, hS⟩ := h.swap
 exact zib w q.wp S V x.S hB fun l hl => by have := qh (wf.slots.2 l hl).1 (wf.slots.2 l hl).2; omega
theorem zg.cdirty (h : zg w tag q x) (k : Int × Int) : Calls Tryz.prog 83 #[.pointer (some ⟨q.cp, 0, none⟩), .agg #[.int .i64 k.1, .int .i64 k.2]] w fun e w' => e = .returned (.bool (x.xg k)) ∧ Below w.heap.size w w' :=
 zfy w q.cp q.c1 q.c2 x.CL x.CR h.cache.1 k
set_option maxRecDepth 100000 in
theorem zeq (h : zg w tag q x) (n : Nat) (hn : n < 8) {pr : yf} (hp : x.T n = some pr) : Calls Tryz.prog 34 #[ptrV q.sp, .int .i64 n] w fun e w' => e = .returned (ptrV (q.U n).tp) ∧ w' = w := by
 have F := Lib.hid (ji h (n : Int))
 have ev : Zv q x (n : Int) = .tuple #[ptrV (q.U n).ap, .bool true] := by
  unfold Zv
  rw [show ((n : Nat) : Int).toNat = n by omega, hp]
  have : (0 : Int) ≤ n := by omega
  simp [this]
 rw [ev] at F
 obtain ⟨av, r1, r2, r3⟩ := (h.procs n pr hn hp).row
 have c1 := r1.cell (i := 0) (by omega)
 dsimp only [Y8] at c1
 unfold ptrV at F c1 ⊢
 clear h hp ev r1 r2 r3
 go_enter Tryz.func34, Tryz.ntmps34
 go_wp2_with fail
 refine F.out.mono ?_
 rintro e u ⟨rfl, hu⟩
 have hu := hu.symm
 subst hu
 clear F
 go_wp2_with fail
 go_ret
 exact ⟨rfl, rfl⟩
theorem zin (h : zg w tag q x) (wf : WF x) (n page : Nat) (hn : n < 8) {pr : yf} (hp : x.T n = some pr) (hpg : page < 4096) :
  Calls Tryz.prog 35 #[ptrV (q.U n).tp, .int .i64 page] w fun e w' => e = .returned (.tuple #[entV (x.ent n page), .int .i64 0]) ∧ Below w.heap.size w w' := by
 obtain ⟨N, ok⟩ := wf.rpt n pr hp
 rw [wf.Xo hp ok hpg]
 exact Xd _ _ _ _ _ (h.rpt hn hp) ok.tree page page rfl hpg
end
end Go.Proofs.YtnhdmnijiphjjaaGreat
/- Processes, in plain words: jm that are cut or protected. No program in it. -/
namespace Go.Proofs.YtnhdmnijiphjjaaGreat
open Go Go.RowKit
theorem SameP.key {a b : Ar} {wr : Bool} (h : SameP a b wr) (hk : a.kind ≠ 1) (page : Nat) : za.keyF b page = za.keyF a page := by
 unfold za.keyF
 rw [h.file]
 rcases h.off with e | e
 ·exact absurd e hk
 ·rw [Prod.mk.injEq]
  exact ⟨rfl, by omega⟩
end Go.Proofs.YtnhdmnijiphjjaaGreat
