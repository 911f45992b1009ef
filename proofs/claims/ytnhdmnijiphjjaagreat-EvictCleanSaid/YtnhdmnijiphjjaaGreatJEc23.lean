/- Processes, in plain words: Load and Store: what they answer and leave, without frames. No program in it. -/
import Derived.Test.YtnhdmnijiphjjaaGreatJEc22
import Derived.Test.YtnhdmnijiphjjaaGreatJEc12
import Derived.Test.YtnhdmnijiphjjaaGreatJEc18
import Derived.Test.YtnhdmnijiphjjaaGreatJEc19
set_option linter.unusedVariables false
set_option linter.unusedSimpArgs false
set_option maxRecDepth 100000
set_option maxHeartbeats 2000000
namespace Go.Proofs.YtnhdmnijiphjjaaGreat
open Go Go.RowKit
theorem V7 (n : Nat) (wr : Bool) (x : za) (a s : Nat) (h0 : 0 < s) (h1 : a % 64 + s ≤ 64) :
  za.zk n wr 3 x a s = if (x.askF n (a / 64) wr).1.2 = 0 then (([⟨(x.askF n (a / 64) wr).1.1.toNat, a % 64, s⟩], 0), (x.askF n (a / 64) wr).2) else (([], (x.askF n (a / 64) wr).1.2), (x.askF n (a / 64) wr).2) := by
 have e1 : min s (64 - a % 64) = s := by omega
 have e2 : ∀ k y b, za.zk n wr k y b 0 = (([], 0), y) := fun k y b => by
  cases k with
  | zero => rfl
  | succ k => unfold za.zk; rw [if_pos rfl]
 conv => lhs; unfold za.zk
 rw [if_neg (by omega), e1, Nat.sub_self, e2]
 simp
theorem zfn (n : Nat) (wr : Bool) (x : za) (a s : Nat) (h0 : s ≤ 64) (h1 : 64 < a % 64 + s) :
    za.zk n wr 3 x a s = if (x.askF n (a / 64) wr).1.2 = 0 then
      (if ((x.askF n (a / 64) wr).2.askF n (a / 64 + 1) wr).1.2 = 0 then (([⟨(x.askF n (a / 64) wr).1.1.toNat, a % 64, 64 - a % 64⟩, ⟨((x.askF n (a / 64) wr).2.askF n (a / 64 + 1) wr).1.1.toNat, 0, s - (64 - a % 64)⟩], 0), ((x.askF n (a / 64) wr).2.askF n (a / 64 + 1) wr).2)
       else (([], ((x.askF n (a / 64) wr).2.askF n (a / 64 + 1) wr).1.2), ((x.askF n (a / 64) wr).2.askF n (a / 64 + 1) wr).2))
      else (([], (x.askF n (a / 64) wr).1.2), (x.askF n (a / 64) wr).2) := by
  have e1 : min s (64 - a % 64) = 64 - a % 64 := by omega
  have e3 : (a + (64 - a % 64)) / 64 = a / 64 + 1 := by omega
  have e4 : (a + (64 - a % 64)) % 64 = 0 := by omega
  have e5 : min (s - (64 - a % 64)) (64 - 0) = s - (64 - a % 64) := by omega
  have e2 : ∀ k y b, za.zk n wr k y b 0 = (([], 0), y) := fun k y b => by
    cases k with
    | zero => rfl
    | succ k => unfold za.zk; rw [if_pos rfl]
  conv => lhs; unfold za.zk
  rw [if_neg (by omega), e1]
  have e6 : ∀ y, za.zk n wr 2 y (a + (64 - a % 64)) (s - (64 - a % 64)) = if (y.askF n (a / 64 + 1) wr).1.2 = 0 then (([⟨(y.askF n (a / 64 + 1) wr).1.1.toNat, 0, s - (64 - a % 64)⟩], 0), (y.askF n (a / 64 + 1) wr).2) else (([], (y.askF n (a / 64 + 1) wr).1.2), (y.askF n (a / 64 + 1) wr).2) := fun y => by
    conv => lhs; unfold za.zk
    rw [if_neg (by omega), e4, e5, Nat.sub_self, e2, e3]
    simp
  rw [e6]
  by_cases c1 : (x.askF n (a / 64) wr).1.2 = 0
  · rw [if_pos c1, if_pos c1]
    by_cases c2 : ((x.askF n (a / 64) wr).2.askF n (a / 64 + 1) wr).1.2 = 0
    · simp [c2]
    · simp [c2]
  · rw [if_neg c1, if_neg c1]
section
variable {F : Nat → Prop} {x y : za}
theorem Ok0.pieces (h : Ok0 x) {n : Nat} (hs : (x.T n).isSome = true) (wr : Bool) {a s : Nat} (h0 : 0 < s) (h1 : s ≤ 64) (h2 : a + s ≤ 262144) :
  ((za.zk n wr 3 x a s).1.2 ≠ 0 ∧ Ok0 (za.zk n wr 3 x a s).2 ∧ ut 10 x (za.zk n wr 3 x a s).2) ∨
  (a % 64 + s ≤ 64 ∧ ∃ f a1 y, za.zk n wr 3 x a s = (([⟨f, a % 64, s⟩], 0), y) ∧ x.abs.area n (a / 64) = some a1 ∧ Q9 x n (a / 64) wr a1 (f : Nat) 0 y) ∨
  (64 < a % 64 + s ∧ ∃ f1 f2 a1 a2 y1 y, za.zk n wr 3 x a s = (([⟨f1, a % 64, 64 - a % 64⟩, ⟨f2, 0, s - (64 - a % 64)⟩], 0), y) ∧ x.abs.area n (a / 64) = some a1 ∧ x.abs.area n (a / 64 + 1) = some a2 ∧ Q9 x n (a / 64) wr a1 (f1 : Nat) 0 y1 ∧ Q9 y1 n (a / 64 + 1) wr a2 (f2 : Nat) 0 y) := by
 obtain ⟨pr, hp⟩ := Option.isSome_iff_exists.1 hs
 have hpg : a / 64 < 4096 := by omega
 have got : ∀ z pg, Ok0 z → (z.T n).isSome = true → pg < 4096 → (z.askF n pg wr).1.2 = 0 → ∃ f a1 prz, z.T n = some prz ∧ yg prz.A (pg : Int) = some a1 ∧ (z.askF n pg wr).1.1 = (f : Nat) ∧ Q9 z n pg wr a1 (f : Nat) 0 (z.askF n pg wr).2 := fun z pg hz hzs hpg hc => by
  obtain ⟨prz, hpz⟩ := Option.isSome_iff_exists.1 hzs
  obtain ⟨f, hf⟩ := za8 hz.ok.wf hpz hpg wr
  rcases hz.askF hpz hpg wr with ⟨_, e⟩ | ⟨a1, ha1, _, ⟨_, e⟩ | ⟨_, g⟩⟩
  ·rw [e] at hc; simp at hc
  ·rw [e] at hc; simp at hc
  ·rw [hc, hf] at g
   exact ⟨f, a1, prz, hpz, ha1, hf, g⟩
 have any := h.zim hs hpg wr
 by_cases hone : a % 64 + s ≤ 64
 ·rw [V7 n wr x a s h0 hone]
  by_cases hc : (x.askF n (a / 64) wr).1.2 = 0
  ·obtain ⟨f, a1, prz, e1, e2, e3, g⟩ := got x _ h hs hpg hc
   rw [if_pos hc, e3, Int.toNat_natCast]
   exact .inr (.inl ⟨hone, f, a1, _, rfl, by rw [Xh e1]; exact e2, g⟩)
  ·rw [if_neg hc]
   exact .inl ⟨hc, any.1, any.2.mono (by omega)⟩
 ·have hpg2 : a / 64 + 1 < 4096 := by omega
  rw [zfn n wr x a s h1 (by omega)]
  by_cases hc : (x.askF n (a / 64) wr).1.2 = 0
  ·rw [if_pos hc]
   obtain ⟨f, a1, prz, e1, e2, e3, g⟩ := got x _ h hs hpg hc
   have hs2 : ((x.askF n (a / 64) wr).2.T n).isSome = true := by rw [any.2.some]; exact hs
   have any2 := any.1.zim hs2 hpg2 wr
   by_cases hc2 : ((x.askF n (a / 64) wr).2.askF n (a / 64 + 1) wr).1.2 = 0
   ·obtain ⟨f2, a2, prz2, e4, e5, e6, g2⟩ := got _ _ any.1 hs2 hpg2 hc2
    rw [if_pos hc2, e3, e6, Int.toNat_natCast, Int.toNat_natCast]
    refine .inr (.inr ⟨by omega, f, f2, a1, a2, _, _, rfl, by rw [Xh e1]; exact e2, ?_, g, g2⟩)
    have hA : (x.askF n (a / 64) wr).2.abs.A n = x.abs.A n := by
     rw [g.abs rfl]
     split
     ·unfold Abs.own; split <;> rfl
     ·rfl
    unfold Abs.area
    rw [← hA]
    exact (Xh e4).trans e5
   ·rw [if_neg hc2]
    exact .inl ⟨hc2, any2.1, any.2.trans any2.2⟩
  ·rw [if_neg hc]
   exact .inl ⟨hc, any.1, any.2.mono (by omega)⟩
theorem Q9.pcOk {n page : Nat} {wr : Bool} {a : Ar} {f : Nat} (g : Q9 x n page wr a (f : Nat) 0 y) (hn : n < 8) (hpg : page < 4096) (at_ k : Nat) (h0 : 0 < k) (h1 : at_ + k ≤ 64) : PcOk y.R ⟨f, at_, k⟩ := by
 obtain ⟨f1, f2⟩ := g.frame rfl
 obtain ⟨e1, e2, e3⟩ := g.ok.ok.frame' hn hpg f1
 rw [f2, Int.toNat_natCast] at e2 e3
 exact ⟨e2, h0, h1, e3⟩
theorem Ok0.Qm (h : Ok0 x) {n : Nat} (hs : (x.T n).isSome = true) (wr : Bool) {a s : Nat} (h1 : s ≤ 64) (h2 : a + s ≤ 262144) (hc : (za.zk n wr 3 x a s).1.2 = 0) :
  (za.zk n wr 3 x a s).1.1.length ≤ 64 ∧ (∀ p ∈ (za.zk n wr 3 x a s).1.1, PcOk (za.zk n wr 3 x a s).2.R p) ∧ sumK (za.zk n wr 3 x a s).1.1 = s := by
 obtain ⟨pr, hp⟩ := Option.isSome_iff_exists.1 hs
 have hn := h.ok.Xt h.out hp
 by_cases h0 : 0 < s
 ·rcases h.pieces hs wr h0 h1 h2 with ⟨a, _⟩ | ⟨a1, f, ar, y, e, _, g⟩ | ⟨a1, f1, f2, ar1, ar2, y1, y, e, _, _, g1, g2⟩
  ·exact absurd hc a
  ·rw [e]
   dsimp only
   refine ⟨by simp, fun p hp => ?_, by simp [sumK]⟩
   simp at hp
   subst hp
   exact g.pcOk hn (by omega) _ _ h0 a1
  ·rw [e]
   dsimp only
   refine ⟨by simp, fun p hp => ?_, by simp [sumK]; omega⟩
   simp at hp
   rcases hp with rfl | rfl
   ·obtain ⟨b1, b2, b3, b4⟩ := g1.pcOk hn (by omega) (a % 64) (64 - a % 64) (by omega) (by omega)
    exact ⟨b1, b2, b3, by rw [g2.keeps.bad]; exact b4⟩
   ·exact g2.pcOk hn (by omega) 0 _ (by omega) (by omega)
 ·have : s = 0 := by omega
  subst this
  have e : za.zk n wr 3 x a 0 = (([], 0), x) := by unfold za.zk; rw [if_pos rfl]
  rw [e]
  exact ⟨by simp, fun p hp => by simp at hp, rfl⟩
theorem zjg (R : RamS) (f a k : Nat) (h : a + k ≤ 64) : R.read f a k = ((R.read f 0 64).drop a).take k := by
 refine List.ext_getElem? fun i => ?_
 by_cases hi : i < k
 ·rw [List.getElem?_take_of_lt hi, List.getElem?_drop]
  unfold RamS.read
  rw [List.getElem?_map, List.getElem?_map, List.getElem?_range hi, List.getElem?_range (by omega)]
  simp
 ·rw [List.getElem?_eq_none (by simp [RamS.read]; omega), List.getElem?_eq_none (by simp [RamS.read]; omega)]
theorem Q9.bytes {n page : Nat} {a : Ar} {f : Nat} {wr : Bool} (g : Q9 x n page wr a (f : Nat) 0 y) (hn : n < 8) (hpg : page < 4096) (ha : y.abs.area n page = some a) : y.R.read f 0 64 = y.abs.ct a n page := by
 obtain ⟨f1, f2⟩ := g.frame rfl
 cases hp : y.T n with
 | none => rw [Z0 hp] at f1; cases f1
 | some pr =>
  rw [Xh hp] at ha
  rw [zir g.ok.ok hn hp hpg ha f1, f2, Int.toNat_natCast]
structure zbc (X : Abs) (n page : Nat) (a : Ar) : Prop where
 area : X.area n page = some a
 there : X.pv n page ≠ .lost
theorem Ok0.askOk (h : Ok0 x) {n page : Nat} (hpg : page < 4096) {a : Ar} (hc : zbc x.abs n page a) {wr : Bool} (hw : wr = true → a.write = true) (hroom : 5 ≤ x.P.room) (hcalm : x.D.Calm) : (x.askF n page wr).1.2 = 0 ∧ ∀ (f : Nat) a1 y, Q9 x n page wr a1 (f : Nat) 0 y → y.D = x.D := by
 have hD : ∀ (f : Nat) a1 y, Q9 x n page wr a1 (f : Nat) 0 y → y.D = x.D := fun f a1 y g => by
  rcases g.disk with e | e
  ·exact e
  ·rw [e, hcalm.work]
 refine ⟨?_, hD⟩
 have har := hc.area
 cases hp : x.T n with
 | none =>
  unfold Abs.area za.abs at har
  dsimp only at har
  rw [hp] at har
  cases har
 | some pr =>
  rw [Xh hp] at har
  have hlost : x.pv n page ≠ .lost := fun e => hc.there (by show (if page < 4096 then x.pv n page else PV.none) = _; rw [if_pos hpg, e])
  rcases h.askF hp hpg wr with ⟨e, _⟩ | ⟨a1, ha1, hd, ⟨e, _⟩ | ⟨_, g⟩⟩
  ·rcases e with e | ⟨a1, e, w1, w2⟩
   ·rw [har] at e; cases e
   ·rw [har] at e; cases e
    rw [hw w1] at w2; cases w2
  ·exact absurd e hlost
  ·rcases g.code with e | ⟨_, e, _⟩ | ⟨_, e, _⟩
   ·exact e
   ·omega
   ·rw [hcalm.work] at e; exact absurd rfl e
end
section
variable {F : Nat → Prop} {x y z : za}
theorem zer (X : Abs) (a : Ar) (n page : Nat) : (X.own a n page).A = X.A := by unfold Abs.own; split <;> rfl
theorem ze7 {X Y : Abs} (h : X.A = Y.A) (n page : Nat) : X.area n page = Y.area n page := by unfold Abs.area; rw [h]
end
instance (a : Ar) (p : Int) : Decidable (a.Has p) := inferInstanceAs (Decidable (_ ∧ _))
def za.qy (x : za) (n g : Nat) : za := { x with R := x.R.write g 0 (List.replicate 64 0), P := x.P.set g 2, T := fun m => if m = n then some ⟨⟨g, [g]⟩, [], []⟩ else x.T m }
def Abs.spawn (X : Abs) (n : Nat) : Abs := { X with A := fun m => if m = n then some ([], []) else X.A m }
def Jf (a : Ar) : PV := if a.kind = 1 then .own (List.replicate 64 0) else .file
def Abs.map (X : Abs) (n : Nat) (a : Ar) (L : List Ar) : Abs := { X with A := (fun m => if m = n then (X.A n).map fun p => (L, p.2) else X.A m), pv := fun m pg => if m = n ∧ pg < 4096 ∧ a.Has (pg : Int) then Jf a else X.pv m pg }
theorem Yb {l : List Ar} (h : OkL l) {p : Int} {a : Ar} : yg l p = some a ↔ a ∈ l ∧ a.Has p := by
 constructor
 ·intro e
  have h1 := List.mem_of_find?_eq_some e
  have h2 := List.find?_some e
  simp only [decide_eq_true_eq] at h2
  exact ⟨h1, h2⟩
 ·rintro ⟨h1, h2⟩
  induction l with
  | nil => cases h1
  | cons b l ih =>
   rw [Xg]
   rcases List.mem_cons.1 h1 with rfl | h3
   ·exact if_pos h2
   ·rw [if_neg]
    ·exact ih h.tail h3
    ·intro e
     have := h.head a h3
     unfold Ar.Has at h2
     omega
theorem zh4 {l l' : List Ar} {a : Ar} (h : OkL l) (h' : OkL l') (hm : ∀ b, b ∈ l' ↔ b = a ∨ b ∈ l) (hd : ∀ b ∈ l, ∀ p, a.Has p → ¬ b.Has p) (p : Int) [Decidable (a.Has p)] : yg l' p = if a.Has p then some a else yg l p := by
 split
 ·rename_i k
  exact (Yb h').2 ⟨(hm a).2 (.inl rfl), k⟩
 ·rename_i k
  cases e : yg l p with
  | none =>
   cases e2 : yg l' p with
   | none => rfl
   | some b =>
    obtain ⟨h1, h2⟩ := (Yb h').1 e2
    rcases (hm b).1 h1 with rfl | h3
    ·exact absurd h2 k
    ·rw [(Yb h).2 ⟨h3, h2⟩] at e; cases e
  | some b =>
   obtain ⟨h1, h2⟩ := (Yb h).1 e
   exact (Yb h').2 ⟨(hm b).2 (.inr h1), h2⟩
section
variable {x y : za}
theorem zef (P : zm) (D : zq) (hP : ∀ f, P.use f = 0 ∨ P.use f = 1) (hD : ∀ s, s < 192 → (D.cur s).length = 64) : Ok0 (.start RamS.none P D) := by
 have hno : ∀ n f, ¬ za.owns (.start RamS.none P D) n f := fun n f ⟨pr, h, _⟩ => by cases h
 have hent : ∀ n page, za.ent (.start RamS.none P D) n page = Ent.none := fun n page => rfl
 refine ⟨⟨⟨fun n pr h => by (cases h), fun n m f h => absurd h (hno n f), fun n pr h => by (cases h), fun f => ⟨List.Pairwise.nil, fun p hp => by (cases hp)⟩, ⟨by simp [za.start], fun l hl => ?_⟩, fun f _ hb => by (cases hb), fun k v hk => (by simp [za.start, getL] at hk), hD, ⟨by simp [za.start], by simp [za.start]⟩⟩, fun f n page _ _ _ => ?_, fun k n page _ _ _ => ?_, fun f _ hB => absurd rfl hB, fun f _ hu => ?_, fun f _ hu => ?_, fun f _ => ?_, fun k f => by simp [za.start, getL], fun k v hk => (by simp [za.start, getL] at hk), fun n pr page h => by (cases h)⟩, fun _ _ => rfl⟩
 ·simp [za.start] at hl
  subst hl
  exact ⟨List.Pairwise.nil, fun p hp => by cases hp⟩
 ·rw [hent]
  constructor
  ·intro h; cases h
  ·rintro ⟨h, _⟩; cases h
 ·rw [hent]
  constructor
  ·intro h
   have : (List.replicate 32 ([] : List (Int × Int))).getD k [] = [] := by
    rw [List.getD_eq_getElem?_getD, List.getElem?_replicate]
    split <;> rfl
   rw [show (za.start RamS.none P D).S = List.replicate 32 [] from rfl, this] at h
   cases h
  ·rintro ⟨h, _⟩; cases h
 ·have : P.use f = 3 := hu
  rcases hP f with e | e <;> omega
 ·have : P.use f = 2 := hu
  rcases hP f with e | e <;> omega
 ·have : P.use f ≠ 4 := by rcases hP f with e | e <;> omega
  constructor
  ·intro e; exact absurd e this
  ·intro e; simp [za.start, getL] at e
theorem zhf (R : RamS) (P : zm) (g : Nat) (hg : g < 1024) (hb : R.bad g = false) (good : ∀ f, f < 1024 → P.use f = 1 → R.bad f = false) : xe ⟨R.write g 0 (List.replicate 64 0), P.set g 2, ⟨g, [g]⟩⟩ (fun p => if p = [] then some g else none) := by
 refine ⟨⟨if_pos rfl, fun p f hp => ?_, fun p q f hp hq => ?_, fun f => ?_, by simp, fun p f d hp hl hd => ?_, fun p d k hp => ?_, fun p f d hp hl hd => ?_⟩, fun f hf => ?_, fun f hf hu => ?_⟩
 ·split at hp
  ·rename_i e; cases hp; subst e; exact ⟨hg, hb, by simp, fun d hd => by cases hd⟩
  ·cases hp
 ·split at hp
  ·split at hq
   ·rename_i e1 e2; rw [e1, e2]
   ·cases hq
  ·cases hp
 ·simp only [List.mem_singleton]
  constructor
  ·rintro rfl; exact ⟨[], if_pos rfl⟩
  ·rintro ⟨p, hp⟩
   split at hp
   ·cases hp; rfl
   ·cases hp
 ·split at hp
  ·rename_i e
   cases hp
   subst e
   rw [Xq _ _ _ hd, if_neg (by simp)]
  ·cases hp
 ·rw [if_neg (by simp)] at hp; cases hp
 ·split at hp
  ·rename_i e; subst e; simp at hl
  ·cases hp
 ·simp at hf
  subst hf
  exact if_pos rfl
 ·have hu : (if f = g then 2 else P.use f) = 1 := hu
  split at hu
  ·cases hu
  ·exact good f hf hu
theorem Ok0.spawn (h : Ok0 x) {n g : Nat} (hn : n < 8) (hx : x.T n = none) (hg : x.P.next false = some g) : Ok0 (x.qy n g) ∧ (x.qy n g).abs = x.abs.spawn n ∧ x.P.room ≤ (x.qy n g).P.room + 1 ∧ (x.qy n g).D = x.D := by
 obtain ⟨hg1, hav, hgu⟩ := Yy hg
 have hbad := h.ok.wf.qm hg1 (by omega)
 have hT : ∀ m, (x.qy n g).T m = if m = n then some ⟨⟨g, [g]⟩, [], []⟩ else x.T m := fun _ => rfl
 have hu : ∀ f, (x.qy n g).P.use f = if f = g then 2 else x.P.use f := fun _ => rfl
 have hby : ∀ f i, f ≠ g → (x.qy n g).R.b f i = x.R.b f i := fun f i hf => by
  show (x.R.write g 0 _).b f i = _
  rw [uk, if_neg fun e => hf e.1]
 have hbd : (x.qy n g).R.bad = x.R.bad := rfl
 have hno : ∀ m, ¬ x.owns m g := fun m ho => by have := (h.ok.wf.xh ho).2.1; omega
 have own : ∀ m f, (x.qy n g).owns m f ↔ (m = n ∧ f = g) ∨ x.owns m f := fun m f => by
  unfold za.owns
  rw [hT]
  by_cases e : m = n
  ·rw [if_pos e]
   constructor
   ·rintro ⟨_, e2, hf⟩
    cases e2
    simp at hf
    exact .inl ⟨e, hf⟩
   ·rintro (⟨_, rfl⟩ | ⟨pr, e2, _⟩)
    ·exact ⟨_, rfl, by simp⟩
    ·rw [e, hx] at e2; cases e2
  ·rw [if_neg e]
   constructor
   ·exact .inr
   ·rintro (⟨e2, _⟩ | a)
    ·exact absurd e2 e
    ·exact a
 have good : ∀ f, f < 1024 → x.P.use f = 1 → x.R.bad f = false := fun f hf hu => h.ok.wf.qm hf (by omega)
 have hbad6 : ∀ f, f < 1024 → (x.qy n g).R.bad f = true → (x.qy n g).P.use f = 6 := fun f hf hb => by
  rw [hbd] at hb
  rw [hu, if_neg (fun e => by rw [e, hbad] at hb; cases hb)]
  exact h.ok.wf.bad f hf hb
 have rpt : ∀ m pr, x.T m = some pr → ∃ N, xe ⟨x.R, x.P, pr.T⟩ N ∧ xe ⟨(x.qy n g).R, (x.qy n g).P, pr.T⟩ N := fun m pr hm => by
  obtain ⟨N, k⟩ := h.ok.wf.rpt m pr hm
  have ne : ∀ f ∈ pr.T.own, f ≠ g := fun f hf e => hno m ⟨pr, hm, e ▸ hf⟩
  refine ⟨N, k, k.same (fun f _ => by rw [hbd]) (fun f hf i => hby f i (ne f hf)) (fun f hf => by rw [hu, if_neg (ne f hf)]; exact (h.ok.wf.xh ⟨pr, hm, hf⟩).2.1) fun f hf hu1 => ?_⟩
  cases hb : (x.qy n g).R.bad f with
  | false => rfl
  | true => have := hbad6 f hf hb; omega
 have ent : ∀ m page, page < 4096 → (x.qy n g).ent m page = x.ent m page := fun m page hpg => by
  by_cases e : m = n
  ·have e1 : x.ent m page = Ent.none := Z0 (by rw [e]; exact hx) page
   rw [e1]
   unfold za.ent
   rw [hT, if_pos e]
   have := (zhf x.R x.P g hg1 hbad good).tree.get page hpg
   dsimp only at this ⊢
   rw [show (x.qy n g).R = x.R.write g 0 (List.replicate 64 0) from rfl, this]
   unfold mapOf
   dsimp only
   rw [if_neg (by simp [high])]
  ·unfold za.ent
   rw [hT, if_neg e]
   cases hm : x.T m with
   | none => rfl
   | some pr =>
    obtain ⟨N, k1, k2⟩ := rpt m pr hm
    dsimp only
    have a := k1.tree.get page hpg
    have b := k2.tree.get page hpg
    dsimp only at a b
    rw [a, b, J7 k1.tree fun f hf i => hby f i fun e => hno m ⟨pr, hm, e ▸ hf⟩]
 refine ⟨⟨⟨⟨fun m pr hm => ?_, fun m k f h1 h2 => ?_, fun m pr hm => ?_, h.ok.wf.back, h.ok.wf.slots, hbad6, h.ok.wf.keys, h.ok.wf.secs, h.ok.wf.nd⟩, fun f m page h1 h2 h3 => by rw [ent m page h3]; exact h.ok.backE f m page h1 h2 h3, fun k m page h1 h2 h3 => by rw [ent m page h3]; exact h.ok.slotE k m page h1 h2 h3, fun f h1 h2 => ?_, fun f h1 h2 => ?_, fun f h1 h2 => ?_, fun f h1 => ?_, h.ok.cacheE, h.ok.cacheK, fun m pr page hm hpg => ?_⟩, fun m hm => ?_⟩, ?_, ?_, rfl⟩
 ·rw [hT] at hm
  by_cases e : m = n
  ·rw [if_pos e] at hm
   cases hm
   exact ⟨_, zhf x.R x.P g hg1 hbad good⟩
  ·rw [if_neg e] at hm
   obtain ⟨N, _, k⟩ := rpt m pr hm
   exact ⟨N, k⟩
 ·rcases (own m f).1 h1 with ⟨a, b⟩ | a <;> rcases (own k f).1 h2 with ⟨c, d⟩ | c
  ·rw [a, c]
  ·rw [b] at c; exact absurd c (hno k)
  ·rw [d] at a; exact absurd a (hno m)
  ·exact h.ok.wf.apart m k f a c
 ·rw [hT] at hm
  by_cases e : m = n
  ·rw [if_pos e] at hm
   cases hm
   exact ⟨⟨fun a ha => (by cases ha), List.Pairwise.nil⟩, by simp⟩
  ·rw [if_neg e] at hm
   exact h.ok.wf.Zv m pr hm
 ·have := h.ok.useB f h1 h2
  rw [hu, if_neg (fun e => by rw [e] at this; omega)]
  exact this
 ·rw [hu] at h2
  split at h2
  ·cases h2
  ·exact h.ok.anon f h1 h2
 ·rw [hu] at h2
  split at h2
  ·rename_i e; exact ⟨n, (own n f).2 (.inl ⟨rfl, e⟩)⟩
  ·obtain ⟨m, hm⟩ := h.ok.table f h1 h2
   exact ⟨m, (own m f).2 (.inr hm)⟩
 ·rw [hu]
  split
  ·rename_i e
   have := h.ok.cached f h1
   constructor
   ·intro a; cases a
   ·intro a
    have := this.2 a
    rw [e] at this; omega
  ·exact h.ok.cached f h1
 ·rw [ent m page hpg]
  rw [hT] at hm
  by_cases e : m = n
  ·rw [e, Z0 hx]
   exact ⟨fun a => absurd rfl a, fun _ _ a => by (have : (0 : Nat) = 1 := a; omega), fun _ _ _ a => by (have : (0 : Nat) = 1 := a; omega), fun _ _ a => by (have : (0 : Nat) = 1 := a; omega), fun _ _ a => by (have : (0 : Nat) = 2 := a; omega)⟩
  ·rw [if_neg e] at hm
   have a := h.ok.area m pr page hm hpg
   exact ⟨a.find, a.own, a.file, a.shared, a.slot⟩
 ·rw [hT, if_neg (by omega)]
  exact h.out m hm
 ·have hrd : ∀ f, f ≠ g → (x.qy n g).R.read f 0 64 = x.R.read f 0 64 := fun f hf => Ye fun i _ => hby f i hf
  unfold za.abs Abs.spawn
  rw [Abs.mk.injEq]
  refine ⟨?_, ?_, ?_, rfl, rfl⟩
  ·funext m
   rw [hT]
   by_cases e : m = n
   ·rw [if_pos e, if_pos e]; rfl
   ·rw [if_neg e, if_neg e]
  ·funext m page
   by_cases hpg : page < 4096
   ·rw [if_pos hpg]
    dsimp only
    rw [if_pos hpg]
    unfold za.pv
    rw [hT]
    by_cases e : m = n
    ·rw [if_pos e, e, hx]
     rfl
    ·rw [if_neg e]
     cases hm : x.T m with
     | none => rfl
     | some pr =>
      dsimp only
      cases ha : yg pr.A (page : Int) with
      | none => rfl
      | some a =>
       dsimp only
       rw [ent m page hpg]
       refine Xc rfl rfl fun hk => ?_
       have hm8 := h.ok.Xt h.out hm
       obtain ⟨f, e1, e2, _, e3, _⟩ := h.ok.frame hm8 hpg hk
       rw [e1, Int.toNat_natCast]
       exact hrd f fun e => by rw [e] at e3; omega
   ·rw [if_neg hpg]
    dsimp only
    rw [if_neg hpg]
  ·funext k
   by_cases hk : xc k
   ·rw [if_pos hk]
    dsimp only
    rw [if_pos hk]
    refine jr h.ok k rfl rfl fun f i hf hu4 hi => hby f i fun e => by rw [e] at hu4; omega
   ·rw [if_neg hk]
    dsimp only
    rw [if_neg hk]
 ·exact room_le x.P g 2 (by omega) hg1
theorem Ok0.map (h : Ok0 x) {n : Nat} {pr : ym} (hp : x.T n = some pr) {a : Ar} (ha : a.xz) (hno : anyA a pr.A = false) (hlen : pr.A.length < 16) {L : List Ar} (hperm : L.Perm (pr.A ++ [a])) (hsort : L.Pairwise fun x y => ¬ y.from_ < x.from_) :
  Ok0 (x.put n ⟨pr.T, L, pr.Q⟩) ∧ (x.put n ⟨pr.T, L, pr.Q⟩).abs = x.abs.map n a L := by
 have hOk := (h.ok.wf.Zv n pr hp).1
 have hL : L = insA pr.A a := ziq hOk ha hno hperm hsort
 have hm : ∀ b, b ∈ L ↔ b = a ∨ b ∈ pr.A := fun b => by rw [hL]; exact zeu
 have hd : ∀ b ∈ pr.A, ∀ p, a.Has p → ¬ b.Has p := fun b hb p h1 h2 => by
  have hnil : ¬ Vh a b = true := fun e => by
   unfold anyA at hno
   rw [List.any_eq_false] at hno
   exact hno b hb e
  rw [J5 ha (hOk.1 b hb)] at hnil
  unfold Ar.Has at h1 h2
  omega
 have hL' : OkL L := by
  refine ⟨fun b hb => ((hm b).1 hb).elim (fun e => e ▸ ha) (hOk.1 b), ?_⟩
  have hs : L.Pairwise fun x y => x.from_ < y.from_ := by
   rw [hL]
   refine Qs (hOk.2.imp_of_mem fun {u v} hu hv huv => by have := (hOk.1 u hu).2.2.2.1; omega) fun b hb e => ?_
   have hs := ha.2.2.2.1
   have hs2 := (hOk.1 b hb).2.2.2.1
   exact hd b hb a.from_ ⟨by omega, by omega⟩ ⟨by omega, by omega⟩
  refine hs.imp_of_mem fun {u v} hu hv huv => ?_
  have su := (((hm u).1 hu).elim (fun e => e ▸ ha) (hOk.1 u) : u.xz).2.2.2.1
  have sv := (((hm v).1 hv).elim (fun e => e ▸ ha) (hOk.1 v) : v.xz).2.2.2.1
  by_cases hlt : u.from_ + u.pages ≤ v.from_
  ·exact hlt
  ·exfalso
   rcases (hm u).1 hu with rfl | hu' <;> rcases (hm v).1 hv with rfl | hv'
   ·omega
   ·exact hd v hv' v.from_ ⟨by omega, by omega⟩ ⟨by omega, by omega⟩
   ·exact hd u hu' v.from_ ⟨by omega, by omega⟩ ⟨by omega, by omega⟩
   ·have hpw := hOk.2
    obtain ⟨i, hi, rfl⟩ := List.getElem_of_mem hu'
    obtain ⟨j, hj, rfl⟩ := List.getElem_of_mem hv'
    rcases Nat.lt_trichotomy i j with hij | hij | hij
    ·have := List.pairwise_iff_getElem.1 hpw i j hi hj hij; omega
    ·subst hij; omega
    ·have := List.pairwise_iff_getElem.1 hpw j i hj hi hij; omega
 have hfind : ∀ p : Int, yg L p = if a.Has p then some a else yg pr.A p := fun p => zh4 hOk hL' hm hd p
 have hlen' : L.length ≤ 16 := by rw [hperm.length_eq]; simp; omega
 have hT : ∀ m, (x.put n ⟨pr.T, L, pr.Q⟩).T m = if m = n then some ⟨pr.T, L, pr.Q⟩ else x.T m := fun _ => rfl
 have own : ∀ m f, (x.put n ⟨pr.T, L, pr.Q⟩).owns m f ↔ x.owns m f := fun m f => by
  unfold za.owns
  rw [hT]
  by_cases e : m = n
  ·rw [if_pos e, e, hp]
   constructor
   ·rintro ⟨_, e2, hf⟩; cases e2; exact ⟨pr, rfl, hf⟩
   ·rintro ⟨_, e2, hf⟩; cases e2; exact ⟨_, rfl, hf⟩
  ·rw [if_neg e]
 have ent : ∀ m page, (x.put n ⟨pr.T, L, pr.Q⟩).ent m page = x.ent m page := fun m page => by
  unfold za.ent
  rw [hT]
  by_cases e : m = n
  ·rw [if_pos e, e, hp]; rfl
  ·rw [if_neg e]; rfl
 have hnone : ∀ page : Nat, a.Has (page : Int) → yg pr.A (page : Int) = none := fun page hh => by
  cases e : yg pr.A (page : Int) with
  | none => rfl
  | some b =>
   obtain ⟨h1, h2⟩ := (Yb hOk).1 e
   exact absurd h2 (hd b h1 _ hh)
 refine ⟨⟨⟨⟨fun m pm hm' => ?_, fun m k f h1 h2 => h.ok.wf.apart m k f ((own m f).1 h1) ((own k f).1 h2), fun m pm hm' => ?_, h.ok.wf.back, h.ok.wf.slots, h.ok.wf.bad, h.ok.wf.keys, h.ok.wf.secs, h.ok.wf.nd⟩, fun f m page h1 h2 h3 => by rw [ent]; exact h.ok.backE f m page h1 h2 h3, fun k m page h1 h2 h3 => by rw [ent]; exact h.ok.slotE k m page h1 h2 h3, h.ok.useB, h.ok.anon, fun f h1 h2 => ?_, h.ok.cached, h.ok.cacheE, h.ok.cacheK, fun m pm page hm' hpg => ?_⟩, fun m hm' => ?_⟩, ?_⟩
 ·rw [hT] at hm'
  by_cases e : m = n
  ·rw [if_pos e] at hm'
   cases hm'
   exact h.ok.wf.rpt n pr hp
  ·rw [if_neg e] at hm'
   exact h.ok.wf.rpt m pm hm'
 ·rw [hT] at hm'
  by_cases e : m = n
  ·rw [if_pos e] at hm'
   cases hm'
   exact ⟨hL', hlen'⟩
  ·rw [if_neg e] at hm'
   exact h.ok.wf.Zv m pm hm'
 ·obtain ⟨m, hm'⟩ := h.ok.table f h1 h2
  exact ⟨m, (own m f).2 hm'⟩
 ·rw [ent]
  rw [hT] at hm'
  by_cases e : m = n
  ·rw [if_pos e] at hm'
   cases hm'
   rw [e]
   have k := h.ok.area n pr page hp hpg
   by_cases hh : a.Has (page : Int)
   ·have k0 : (x.ent n page).kind = 0 := by
     by_cases z : (x.ent n page).kind = 0
     ·exact z
     ·obtain ⟨b, hb⟩ := k.find z
      rw [hnone page hh] at hb
      cases hb
    exact ⟨fun z => absurd k0 z, fun _ _ z => by omega, fun _ _ _ z => by omega, fun _ _ z => by omega, fun _ _ z => by omega⟩
   ·have hf : yg L (page : Int) = yg pr.A (page : Int) := by rw [hfind, if_neg hh]
    exact ⟨by rw [hf]; exact k.find, by rw [hf]; exact k.own, by rw [hf]; exact k.file, by rw [hf]; exact k.shared, by rw [hf]; exact k.slot⟩
  ·rw [if_neg e] at hm'
   have k := h.ok.area m pm page hm' hpg
   exact ⟨k.find, k.own, k.file, k.shared, k.slot⟩
 ·rw [hT]
  by_cases e : m = n
  ·have := h.ok.Xt h.out hp; omega
  ·rw [if_neg e]; exact h.out m hm'
 ·unfold za.abs Abs.map
  rw [Abs.mk.injEq]
  refine ⟨?_, ?_, rfl, rfl, rfl⟩
  ·funext m
   rw [hT]
   by_cases e : m = n
   ·rw [if_pos e, if_pos e]; dsimp only; rw [hp]; rfl
   ·rw [if_neg e, if_neg e]
  ·funext m page
   by_cases hpg : page < 4096
   ·rw [if_pos hpg]
    dsimp only
    rw [if_pos hpg]
    unfold za.pv
    rw [hT]
    by_cases e : m = n
    ·rw [if_pos e, e, hp]
     dsimp only
     rw [hfind, ent]
     by_cases hh : a.Has (page : Int)
     ·rw [if_pos hh, if_pos ⟨rfl, hpg, hh⟩]
      dsimp only
      have k := h.ok.area n pr page hp hpg
      have k0 : (x.ent n page).kind = 0 := by
       by_cases z : (x.ent n page).kind = 0
       ·exact z
       ·obtain ⟨b, hb⟩ := k.find z
        rw [hnone page hh] at hb
        cases hb
      unfold za.pv1 Jf
      rw [k0, if_neg (by omega), if_neg (by omega), if_neg (by omega)]
     ·rw [if_neg hh, if_neg fun z => hh z.2.2]
      rfl
    ·rw [if_neg e, if_neg fun z => e z.1]
     cases x.T m with
     | none => rfl
     | some pm =>
      dsimp only
      cases yg pm.A (page : Int) with
      | none => rfl
      | some b => dsimp only; rw [ent]; rfl
   ·rw [if_neg hpg, if_neg (fun z : m = n ∧ page < 4096 ∧ a.Has (page : Int) => hpg z.2.1)]
    dsimp only
    rw [if_neg hpg]
end
def Abs.setQ (X : Abs) (n : Nat) (Q : List (Int × Int)) : Abs := { X with A := fun m => if m = n then (X.A n).map fun p => (p.1, Q) else X.A m }
section
variable {x y : za}
theorem Ok0.sigs (h : Ok0 x) {n : Nat} {pr : ym} (hp : x.T n = some pr) (Q : List (Int × Int)) :
  Ok0 (x.put n ⟨pr.T, pr.A, Q⟩) ∧ (x.put n ⟨pr.T, pr.A, Q⟩).abs = x.abs.setQ n Q := by
 have hT : ∀ m, (x.put n ⟨pr.T, pr.A, Q⟩).T m = if m = n then some ⟨pr.T, pr.A, Q⟩ else x.T m := fun _ => rfl
 have own : ∀ m f, (x.put n ⟨pr.T, pr.A, Q⟩).owns m f ↔ x.owns m f := fun m f => by
  unfold za.owns
  rw [hT]
  by_cases e : m = n
  ·rw [if_pos e, e, hp]
   constructor
   ·rintro ⟨_, e2, hf⟩; cases e2; exact ⟨pr, rfl, hf⟩
   ·rintro ⟨_, e2, hf⟩; cases e2; exact ⟨_, rfl, hf⟩
  ·rw [if_neg e]
 have ent : ∀ m page, (x.put n ⟨pr.T, pr.A, Q⟩).ent m page = x.ent m page := fun m page => by
  unfold za.ent
  rw [hT]
  by_cases e : m = n
  ·rw [if_pos e, e, hp]; rfl
  ·rw [if_neg e]; rfl
 refine ⟨⟨⟨⟨fun m pm hm' => ?_, fun m k f h1 h2 => h.ok.wf.apart m k f ((own m f).1 h1) ((own k f).1 h2), fun m pm hm' => ?_, h.ok.wf.back, h.ok.wf.slots, h.ok.wf.bad, h.ok.wf.keys, h.ok.wf.secs, h.ok.wf.nd⟩, fun f m page h1 h2 h3 => by rw [ent]; exact h.ok.backE f m page h1 h2 h3, fun k m page h1 h2 h3 => by rw [ent]; exact h.ok.slotE k m page h1 h2 h3, h.ok.useB, h.ok.anon, fun f h1 h2 => ?_, h.ok.cached, h.ok.cacheE, h.ok.cacheK, fun m pm page hm' hpg => ?_⟩, fun m hm' => ?_⟩, ?_⟩
 ·rw [hT] at hm'
  by_cases e : m = n
  ·rw [if_pos e] at hm'
   cases hm'
   exact h.ok.wf.rpt n pr hp
  ·rw [if_neg e] at hm'
   exact h.ok.wf.rpt m pm hm'
 ·rw [hT] at hm'
  by_cases e : m = n
  ·rw [if_pos e] at hm'
   cases hm'
   exact h.ok.wf.Zv n pr hp
  ·rw [if_neg e] at hm'
   exact h.ok.wf.Zv m pm hm'
 ·obtain ⟨m, hm'⟩ := h.ok.table f h1 h2
  exact ⟨m, (own m f).2 hm'⟩
 ·rw [ent]
  rw [hT] at hm'
  by_cases e : m = n
  ·rw [if_pos e] at hm'
   cases hm'
   rw [e]
   have k := h.ok.area n pr page hp hpg
   exact ⟨k.find, k.own, k.file, k.shared, k.slot⟩
  ·rw [if_neg e] at hm'
   have k := h.ok.area m pm page hm' hpg
   exact ⟨k.find, k.own, k.file, k.shared, k.slot⟩
 ·rw [hT]
  by_cases e : m = n
  ·have := h.ok.Xt h.out hp; omega
  ·rw [if_neg e]; exact h.out m hm'
 ·unfold za.abs Abs.setQ
  rw [Abs.mk.injEq]
  refine ⟨?_, ?_, rfl, rfl, rfl⟩
  ·funext m
   rw [hT]
   by_cases e : m = n
   ·rw [if_pos e, if_pos e]; dsimp only; rw [hp]; rfl
   ·rw [if_neg e, if_neg e]
  ·funext m page
   by_cases hpg : page < 4096
   ·dsimp only
    rw [if_pos hpg, if_pos hpg]
    unfold za.pv
    rw [hT]
    by_cases e : m = n
    ·rw [if_pos e, e, hp]
     dsimp only
     rw [ent]
     rfl
    ·rw [if_neg e]
     cases x.T m with
     | none => rfl
     | some pm =>
      dsimp only
      cases yg pm.A (page : Int) with
      | none => rfl
      | some b => dsimp only; rw [ent]; rfl
   ·dsimp only
    rw [if_neg hpg, if_neg hpg]
theorem Xb (R : RamS) (f a k : Nat) : (R.read f a k).length = k := by simp [RamS.read]
theorem Ok0.zj8 (h : Ok0 x) {k : Int × Int} (hk : xc k) : (x.abs.file k).length = 64 := by
 show (if xc k then x.uo k else []).length = 64
 rw [if_pos hk]
 unfold za.uo
 split
 ·exact Xb ..
 ·exact h.ok.wf.secs _ (Zx hk)
end
theorem zco (k : Nat) : ∀ N, k ≤ N → (List.range N).countP (fun f => decide (f < k)) = k
 | 0, h => by simp; omega
 | N + 1, h => by
  rw [List.range_succ, List.countP_append]
  by_cases e : k = N + 1
  ·subst e
   rw [List.countP_eq_length.2 (fun a ha => by simp at ha ⊢; omega)]
   simp
  ·rw [zco k N (by omega)]
   simp
   omega
def Abs.start (file : Int × Int → List UInt8) (cur : Nat → List UInt8) : Abs := ⟨fun _ => none, fun _ _ => .none, file, fun _ => false, cur⟩
theorem zgv (P : zm) (D : zq) : (za.start RamS.none P D).abs = .start (fun k => if xc k then D.cur (za.yc k) else []) D.cur := by
 unfold za.abs Abs.start
 rw [Abs.mk.injEq]
 refine ⟨rfl, ?_, ?_, rfl, rfl⟩
 ·funext n page
  unfold za.pv
  show (if page < 4096 then PV.none else .none) = .none
  split <;> rfl
 ·funext k
  rfl
theorem za3 (a : Ar) : insA [] a = [a] := rfl
theorem Abs.J6 (X : Abs) (n : Nat) (a : Ar) (L : List Ar) (m pg : Nat) : (X.map n a L).pv m pg = if m = n ∧ pg < 4096 ∧ a.Has (pg : Int) then Jf a else X.pv m pg := rfl
theorem Abs.zno {X : Abs} {n : Nat} {p : List Ar × List (Int × Int)} (h : X.A n = some p) (pg : Nat) : X.area n pg = yg p.1 (pg : Int) := by
 unfold Abs.area; rw [h]; rfl
section
variable {F : Nat → Prop} {x y : za}
theorem Vn : ∀ (L : List (List (Int × Int))) (i : Nat), (∃ k, Zd L i = some (i + k) ∧ k < L.length ∧ L.getD k [] = []) ∨ Zd L i = none ∧ ∀ l ∈ L, l ≠ []
 | [], i => .inr ⟨rfl, fun l hl => by cases hl⟩
 | a :: L, i => by
  unfold Zd
  by_cases h : a = []
  ·rw [if_pos h]
   exact .inl ⟨0, rfl, by simp, by simp [h]⟩
  ·rw [if_neg h]
   rcases Vn L (i + 1) with ⟨k, h1, h2, h3⟩ | ⟨h1, h2⟩
   ·exact .inl ⟨k + 1, by rw [h1]; congr 1; omega, by simp; omega, by simpa using h3⟩
   ·refine .inr ⟨h1, fun l hl => ?_⟩
    rcases List.mem_cons.1 hl with rfl | hl
    ·exact h
    ·exact h2 l hl
theorem U8 (L : List (List (Int × Int))) : (∃ k : Nat, Yr L = ((k : Int), true) ∧ k < L.length ∧ L.getD k [] = []) ∨ Yr L = (0, false) ∧ ∀ l ∈ L, l ≠ [] := by
 unfold Yr
 rcases Vn L 0 with ⟨k, h1, h2, h3⟩ | ⟨h1, h2⟩
 ·rw [h1]
  exact .inl ⟨k, by simp, h2, h3⟩
 ·rw [h1]
  exact .inr ⟨rfl, h2⟩
theorem OK.disk (h : OK F x) (D : zq) (hD : ∀ s, s < 192 → (D.cur s).length = 64) : OK F { x with D := D } :=
 ⟨h.wf.disk D hD, h.backE, h.slotE, h.useB, h.anon, h.table, h.cached, h.cacheE, h.cacheK, fun n pr page a b => ⟨(h.area n pr page a b).find, (h.area n pr page a b).own, (h.area n pr page a b).file, (h.area n pr page a b).shared, (h.area n pr page a b).slot⟩⟩
theorem Ok0.disk (h : Ok0 x) (D : zq) (hD : ∀ s, s < 192 → (D.cur s).length = 64) : Ok0 { x with D := D } := ⟨h.ok.disk D hD, h.out⟩
def Abs.Jw (X : Abs) (s : Nat) (l : List UInt8) : Abs := { X with cur := fun t => if t = s then l else X.cur t }
theorem zbi (D : zq) (s : Nat) (l : List UInt8) (t : Nat) : (D.write s l).cur t = if t = s then l else D.cur t := by
 unfold zq.write zq.cur
 dsimp only
 split
 ·rfl
 ·rfl
theorem wr_D (x : za) (s : Nat) (l : List UInt8) : x.D.work.2 = 0 → ∀ t, (x.wr s l).D.cur t = if t = s then l else x.D.cur t := fun hw t => by
 unfold za.wr
 rw [if_pos hw]
 show (x.D.work.1.write s l).cur t = _
 rw [zbi, zq.Xa]
theorem zmo (x : za) (s : Nat) (l : List UInt8) (hw : x.D.work.2 ≠ 0) : x.wr s l = { x with D := x.D.work.1 } := by
 unfold za.wr
 rw [if_neg hw]
theorem WF.wr (h : WF x) (s : Nat) {l : List UInt8} (hl : l.length = 64) : WF (x.wr s l) := by
 unfold za.wr
 refine h.disk _ fun t ht => ?_
 split
 ·rw [zbi, zq.Xa]
  split
  ·exact hl
  ·exact h.secs t ht
 ·rw [zq.Xa]; exact h.secs t ht
structure OutD (x : za) (f k : Nat) (y : za) : Prop where
 ok : Ok0 y
 abs : y.abs = x.abs.Jw (160 + k) (x.R.read f 0 64)
 keeps : ut 0 x y
 free : y.P.use f = 1
 fr : ∀ g, x.P.use g = 1 → y.P.use g = 1
 others : ∀ g, g ≠ f → x.P.use g ≠ 1 → x.P.use g ≠ 2 → y.P.use g = x.P.use g
 ent : ∀ m pg, pg < 4096 → y.ent m pg = if plc m pg ∈ x.B f then ⟨2, (k : Int), false⟩ else x.ent m pg
 slot : ∀ j, j < 32 → y.S.getD j [] = if j = k then x.B f else x.S.getD j []
 disk : y.D = x.D.work.1.write (160 + k) (x.R.read f 0 64)
 cache : y.CL = x.CL ∧ y.CR = x.CR
 backs : ∀ g : Nat, g < 1024 → y.B g = if g = f then [] else x.B g
theorem Ok0.outF (h : Ok0 x) {n page f : Nat} (hn : n < 8) (hpg : page < 4096) (he : (x.ent n page).kind = 1) (hf : (x.ent n page).n = f) (hu : x.P.use f = 3) {k : Nat} (hk : Yr x.S = ((k : Int), true)) (hk32 : k < 32) (hS : x.S.getD k [] = []) (hw : x.D.work.2 = 0) :
  (x.outF n page).1 = 0 ∧ OutD x f k (x.outF n page).2 := by
 have hf1 : f < 1024 := by
  obtain ⟨g, e1, e2, _⟩ := h.ok.frame hn hpg he
  omega
 have hlen : (x.R.read f 0 64).length = 64 := Xb ..
 have e0 : x.outF n page = (0, (x.wr (160 + k) (x.R.read f 0 64)).xk (x.B f) ⟨2, (k : Int), false⟩) := by
  unfold za.outF
  rw [if_neg (by omega), hk, if_neg (by simp), if_pos hw, hf]
  simp
 rw [e0]
 refine ⟨rfl, ?_⟩
 dsimp only
 have hcur := wr_D x (160 + k) (x.R.read f 0 64) hw
 have eW : x.wr (160 + k) (x.R.read f 0 64) = { x with D := x.D.work.1.write (160 + k) (x.R.read f 0 64) } := by unfold za.wr; rw [if_pos hw]
 have ok1 : Ok0 (x.wr (160 + k) (x.R.read f 0 64)) := by
  rw [eW] at hcur ⊢
  refine h.disk _ fun s hs => ?_
  have := hcur s
  dsimp only at this
  rw [this]
  split
  ·exact hlen
  ·exact h.ok.wf.secs s hs
 have d := ok1.ok.away (f0 := f) ok1.out hf1 (e := ⟨2, (k : Int), false⟩) (by simp [Ent.ok, most]; omega) (by show (2 : Nat) ≠ 1; omega) (fun _ => by rw [eW]; exact hu)
 have pvx : ∀ m pg, m < 8 → pg < 4096 → (x.wr (160 + k) (x.R.read f 0 64)).pv m pg = x.pv m pg := fun m pg hm hp => by
  refine Yh h.ok m pg hm hp (by rw [eW]) (by rw [eW]; rfl) (fun _ => by rw [eW]) (fun k2 => ?_) fun _ _ _ _ _ => by rw [eW]
  rw [hcur, if_neg]
  intro z
  have hr := (Ent.ok_n (h.ok.wf.Yc m hp)).2 k2
  have := (h.ok.slotE k m pg hk32 hm hp).2 ⟨k2, by omega⟩
  rw [hS] at this; cases this
 have fx : ∀ q, xc q → (x.wr (160 + k) (x.R.read f 0 64)).uo q = x.uo q := fun q hq => by
  refine jr h.ok q (by rw [eW]) ?_ fun _ _ _ _ _ => by rw [eW]
  rw [hcur, if_neg]
  unfold za.yc
  unfold xc at hq
  omega
 obtain ⟨x1, hx1⟩ : ∃ x1, x1 = x.wr (160 + k) (x.R.read f 0 64) := ⟨_, rfl⟩
 rw [← hx1] at d ok1 hcur pvx fx ⊢
 have q1 : x1.B = x.B ∧ x1.P = x.P ∧ x1.T = x.T ∧ x1.CL = x.CL ∧ x1.CR = x.CR ∧ x1.S = x.S ∧ x1.R = x.R ∧ x1.D = x.D.work.1.write (160 + k) (x.R.read f 0 64) := by rw [hx1, eW]; exact ⟨rfl, rfl, rfl, rfl, rfl, rfl, rfl, rfl⟩
 have qe : ∀ m pg, x1.ent m pg = x.ent m pg := fun m pg => by rw [hx1, eW]; rfl
 have qd : ∀ q, x1.yt q = x.yt q := fun q => by unfold za.yt; rw [q1.2.2.2.1]
 clear hx1 eW e0
 obtain ⟨qB, qP, qT, qC, qR, qS, qM, qD⟩ := q1
 rw [qB] at d
 obtain ⟨y, hy⟩ : ∃ y, y = x1.xk (x.B f) ⟨2, (k : Int), false⟩ := ⟨_, rfl⟩
 rw [← hy] at d ⊢
 clear hy
 have dm := d.many
 rw [qB] at dm
 have hmem : ∀ m pg, pg < 4096 → plc m pg ∈ x.B f → m < 8 := fun m pg hq hm => by
  have := (h.ok.wf.back f).2 _ hm
  unfold InR plc at this
  dsimp only at this
  omega
 have hin : plc n page ∈ x.B f := (h.ok.backE f n page hf1 hn hpg).2 ⟨he, hf⟩
 have hcr : getL x.CR (f : Int) = none := by
  cases hc : getL x.CR (f : Int) with
  | none => rfl
  | some _ => have := (h.ok.cached f hf1).2 (by rw [hc]; rfl); omega
 have hout : ∀ m, 8 ≤ m → y.T m = none := fun m hm => by
  have := dm.procs m
  rw [qT, h.out m hm] at this
  simpa using this
 have yD : y.D = x.D.work.1.write (160 + k) (x.R.read f 0 64) := dm.keep.1.trans qD
 have ycur : ∀ t, y.D.cur t = if t = 160 + k then x.R.read f 0 64 else x.D.cur t := fun t => by rw [dm.keep.1]; exact hcur t
 refine ⟨⟨d.ok, hout⟩, ?_, ?_, ?_, fun g hg => dm.fr g (by rw [qP]; exact hg), fun g hne g1 g2 => ?_, fun m pg hq => by rw [dm.ent m pg hq, qe], fun j hj => ?_, yD, ⟨dm.keep.2.1.trans qC, dm.keep.2.2.trans qR⟩, fun g hg => ?_⟩
 ·unfold za.abs Abs.Jw
  rw [Abs.mk.injEq]
  refine ⟨funext fun m => by rw [dm.procs m, qT], ?_, ?_, funext fun q => by rw [d.yt, qd], funext fun t => ycur t⟩
  ·funext m pg
   dsimp only
   by_cases hq : pg < 4096
   ·rw [if_pos hq, if_pos hq]
    by_cases hm : plc m pg ∈ x.B f
    ·have h8 := hmem m pg hq hm
     have hE := (h.ok.backE f m pg hf1 h8 hq).1 hm
     obtain ⟨pr, hpr⟩ : ∃ pr, x.T m = some pr := by
      cases hT : x.T m with
      | none => rw [Z0 hT] at hE; exact absurd hE.1 (by decide)
      | some pr => exact ⟨pr, rfl⟩
     obtain ⟨a, ha⟩ := (h.ok.area m pr pg hpr hq).find (by omega)
     obtain ⟨p1, p2⟩ := d.here m pg hq (by rw [qB]; exact hm) pr a (by rw [qT]; exact hpr) ha
     rw [qR, hcr, if_pos rfl, qM] at p2
     rw [p1, ← pvx m pg h8 hq, p2]
     unfold za.pv1
     rw [if_neg (by simp), if_pos rfl]
     simp only [Int.toNat_natCast]
     rw [ycur, if_pos rfl]
    ·by_cases h8 : m < 8
     ·rw [d.pv m pg hq (by rw [qB]; exact hm) (fun _ => dm.keep.1 ▸ rfl), pvx m pg h8 hq]
     ·unfold za.pv
      rw [hout m (by omega), h.out m (by omega)]
   ·rw [if_neg hq, if_neg hq]
  ·funext q
   dsimp only
   by_cases hq : xc q
   ·rw [if_pos hq, if_pos hq, d.file, fx q hq]
   ·rw [if_neg hq, if_neg hq]
 ·have := dm.keeps
  exact ⟨by rw [← qP]; exact this.zone, by rw [← qP]; exact this.room, by rw [← qM]; exact this.bad, fun g v hv => by rw [← qP]; exact this.fix g v hv, fun m => by rw [← qT]; exact this.some m⟩
 ·rw [dm.use f (by rw [qP]; omega) (by rw [qP]; omega), if_pos ⟨rfl, by rw [qP]; exact hu, (fun z => by rw [z] at hin; cases hin), d.nobody⟩]
 ·rw [dm.use g (by rw [qP]; exact g1) (by rw [qP]; exact g2), if_neg fun z => hne z.1, qP]
 ·refine xn (x9 d.ok.wf.slots j).1 ?_ ?_
  ·split
   ·exact (h.ok.wf.back f).1
   ·exact (x9 h.ok.wf.slots j).1
  ·refine (List.perm_ext_iff_of_nodup (x9 d.ok.wf.slots j).1.nodup ?_).2 fun q => ?_
   ·split
    ·exact (h.ok.wf.back f).1.nodup
    ·exact (x9 h.ok.wf.slots j).1.nodup
   ·rw [dm.memS j q hj, qS]
    by_cases ej : j = k
    ·rw [if_pos ej, ej, hS]
     split
     ·rename_i z; exact ⟨fun _ => z, fun _ => ⟨rfl, rfl⟩⟩
     ·rename_i z; exact ⟨fun a => (by cases a), fun a => absurd a z⟩
    ·rw [if_neg ej]
     split
     ·rename_i z
      refine ⟨fun a => absurd a.2 (by dsimp only; omega), fun a => absurd a ((h.ok.zju hf1 q z).noS j hj)⟩
     ·exact Iff.rfl
 ·by_cases e : g = f
  ·rw [if_pos e, e]; exact d.nobody
  ·rw [if_neg e, d.others g hg e, qB]
end
section
variable {w w' : World} {tag tag' : Nat → Nat} {q : Sq} {x : za}
def keyL (b : Nat) (k : Int × Int) : List (Nat × Nat × Value) := [(b, 0, .int .i64 k.1), (b, 1, .int .i64 k.2)]
theorem zae (h : zb w tag q x) (wf : WF x) (k : Int × Int) (hk : xc k) (hc : x.yt k = true → ∃ f : Nat, x.cfr k = f ∧ f < 1024 ∧ x.R.bad f = false) :
  Calls Tryz.prog 97 #[ptrV q.sp, .agg #[.int .i64 k.1, .int .i64 k.2]] w fun r w' => r = .returned (.int .i64 (x.xx k).1) ∧ ∃ tag', zb w' tag' q (x.xx k).2 ∧ Step CA tag w tag' w' := by
 obtain ⟨w0, hw0⟩ : ∃ w0, w0 = w.alloc (.cells #[.int .i64 k.1, .int .i64 k.2] 133 (0, 0)) := ⟨_, rfl⟩
 have hb0 : Below w.heap.size w w0 := by rw [hw0]; exact (Below.refl w.heap.size w).alloc (Nat.le_refl _) _
 have nb1 : w0.heap[w.heap.size]? = some (.cells #[.int .i64 k.1, .int .i64 k.2] 133 (0, 0)) := by rw [hw0]; exact heap_alloc_new w _
 obtain ⟨L0, s0⟩ := h.loc0.more hb0 (keyL w.heap.size k) (fun t ht => by
  simp [keyL] at ht
  rcases ht with rfl | rfl
  ·exact ⟨Nat.le_refl _, zn nb1 0 rfl⟩
  ·exact ⟨Nat.le_refl _, zn nb1 1 rfl⟩)
 obtain ⟨tag0, ht0⟩ : ∃ tag0, tag0 = retag tag w 0 := ⟨_, rfl⟩
 rw [List.append_nil] at L0
 rw [← ht0] at L0 s0
 obtain ⟨b0, hbb⟩ : ∃ b0, b0 = w.heap.size := ⟨_, rfl⟩
 rw [← hbb] at L0
 clear ht0 nb1 hb0
 obtain ⟨R, hR⟩ : ∃ R, R = x.xx k := ⟨_, rfl⟩
 have HR := Lib.hid (And.intro hR (And.intro wf (And.intro hk hc)))
 rw [← hR]
 have d0 : w0.cell? ⟨b0, 0, none⟩ = some (.int .i64 k.1) := L0.get 0 rfl
 have d1 : w0.cell? ⟨b0, 1, none⟩ = some (.int .i64 k.2) := L0.get 1 rfl
 have d4 : w0.cell? ⟨q.sp, 4, none⟩ = some (.pointer (some ⟨q.cp, 0, none⟩)) := L0.cell (i := 4) (by omega)
 have HW := Lib.hid hw0
 have HB := Lib.hid hbb
 have H0 := Lib.hid (And.intro L0 s0)
 obtain ⟨dd, hdd⟩ : ∃ dd, dd = x.yt k := ⟨_, rfl⟩
 have DI : Hid (Calls Tryz.prog 83 #[.pointer (some ⟨q.cp, 0, none⟩), .agg #[.int .i64 k.1, .int .i64 k.2]] w0.drew fun r w1 => r = .returned (.bool dd) ∧ (w1.cell? ⟨b0, 0, none⟩ = some (.int .i64 k.1) ∧ w1.cell? ⟨b0, 1, none⟩ = some (.int .i64 k.2) ∧ w1.cell? ⟨q.sp, 4, none⟩ = some (.pointer (some ⟨q.cp, 0, none⟩))) ∧ Loc w1 tag0 q x (keyL b0 k) ∧ Step (fun _ => False) tag w tag0 w1) := by
  refine (H0.out.1.drew.sp.cdirty k).mono ?_
  rintro r w1 ⟨rfl, hb⟩
  have L1 := H0.out.1.drew.below hb
  exact ⟨by rw [hdd], ⟨L1.get 0 rfl, L1.get 1 rfl, L1.cell (i := 4) (by omega)⟩, L1, (H0.out.2.trans (Step.of_below (Below.refl _ _).drew)).trans (Step.of_below hb)⟩
 have HD := Lib.hid hdd
 clear h wf hk hc hR hw0 hbb L0 s0 hdd
 unfold ptrV
 go_enter Tryz.func97, Tryz.ntmps97
 go_wp2_with fail
 rw [← HW.out, ← HB.out]
 go_region_held (fun W' => W'.cell? ⟨b0, 0, none⟩ = some (.int .i64 k.1) ∧ W'.cell? ⟨b0, 1, none⟩ = some (.int .i64 k.2) ∧ W'.cell? ⟨q.sp, 4, none⟩ = some (.pointer (some ⟨q.cp, 0, none⟩))) (go_keep)
  ((go_at_call 83; refine DI.out.mono ?_; rintro r w1 ⟨rfl, ⟨m0, m1, m2⟩, HS⟩; have hS := Lib.hid HS; clear HS))
 clear DI d0 d1 d4
 cases dd with
 | false =>
  clear m0 m1 m2
  go_wp2_with fail
  have e0 : R = (0, x) := by rw [HR.out.1]; unfold za.xx; rw [← HD.out, if_pos rfl]
  rw [e0]
  exact bodyPost_ret (v := .int .i64 0) (by simp [results, Tryz.results97, go_sem]) rfl ⟨rfl, tag0, hS.out.1.sp, hS.out.2.mono fun _ h => h.elim⟩
 | true =>
  obtain ⟨f, hf, hf1, hfb⟩ := HR.out.2.2.2 HD.out.symm
  obtain ⟨l, hl⟩ : ∃ l, l = x.R.read f 0 64 := ⟨_, rfl⟩
  have hl64 : l.length = 64 := by rw [hl]; exact Xb ..
  obtain ⟨hs, hhs⟩ : ∃ hs, hs = (getL x.CL k).isSome := ⟨_, rfl⟩
  have FR : Hid (Calls Tryz.prog 96 #[.pointer (some ⟨q.cp, 0, none⟩), .agg #[.int .i64 k.1, .int .i64 k.2]] w1.drew fun r w2 => r = .returned (.tuple #[.int .i64 f, .bool hs]) ∧ (w2.cell? ⟨b0, 0, none⟩ = some (.int .i64 k.1) ∧ w2.cell? ⟨b0, 1, none⟩ = some (.int .i64 k.2) ∧ w2.cell? ⟨q.sp, 4, none⟩ = some (.pointer (some ⟨q.cp, 0, none⟩))) ∧ w2.cell? ⟨q.sp, 0, none⟩ = some (.pointer (some ⟨q.rp, 0, none⟩)) ∧ Loc w2 tag0 q x (keyL b0 k) ∧ Step (fun _ => False) tag w tag0 w2) := by
   refine (hS.out.1.drew.sp.Y4 k).mono ?_
   rintro r w2 ⟨rfl, hb⟩
   have L1 := hS.out.1.drew.below hb
   refine ⟨?_, ⟨L1.get 0 rfl, L1.get 1 rfl, L1.cell (i := 4) (by omega)⟩, L1.cell (i := 0) (by omega), L1, (hS.out.2.trans (Step.of_below (Below.refl _ _).drew)).trans (Step.of_below hb)⟩
   rw [hhs, ← hf]
   rfl
  have HX := Lib.hid (And.intro hf (And.intro hf1 (And.intro hfb (And.intro hl hl64))))
  clear hf hf1 hfb hl hl64 hhs
  go_wp2_with fail
  go_region_held (fun W' => W'.cell? ⟨b0, 0, none⟩ = some (.int .i64 k.1) ∧ W'.cell? ⟨b0, 1, none⟩ = some (.int .i64 k.2) ∧ W'.cell? ⟨q.sp, 4, none⟩ = some (.pointer (some ⟨q.cp, 0, none⟩))) (go_keep)
   ((go_at_call 96; refine FR.out.mono ?_; rintro r w2 ⟨rfl, ⟨n0, n1, n2⟩, n3, HS⟩; have hS2 := Lib.hid HS; clear HS))
  clear FR m0 m1 m2 n0 n1 n2
  have RD : Hid (Calls Tryz.prog 67 #[.pointer (some ⟨q.rp, 0, none⟩), .int .i64 f, .int .i64 0, .int .i64 64] w2 fun r w4 => ∃ a c tag4, r = .returned (.tuple #[.slice a 64 c, .int .i64 0]) ∧ (w4.cell? ⟨b0, 0, none⟩ = some (.int .i64 k.1) ∧ w4.cell? ⟨b0, 1, none⟩ = some (.int .i64 k.2) ∧ w4.cell? ⟨q.sp, 1, none⟩ = some (.pointer (some ⟨q.dp, 0, none⟩))) ∧
    ByAt w4 (.slice a 64 c) l ∧ Loc w4 tag4 q x (keyL b0 k) ∧ Step (fun _ => False) tag w tag4 w4 ∧ ∀ b, (Value.slice a 64 c).ownBlock = some b → tag4 b = 0) := by
   refine (Y9 _ _ _ _ _ hS2.out.1.sp.ram f 0 64 f 0 64 rfl rfl rfl HX.out.2.1 (by omega) (by omega) HX.out.2.2.1).mono ?_
   rintro r w4 ⟨v, rfl, hv, hb, ho⟩
   rw [← HX.out.2.2.2.1] at hv
   obtain ⟨a, c, rfl, _, _⟩ := SlAt.form hv
   rw [HX.out.2.2.2.2] at hv ho ⊢
   obtain ⟨L4, s4⟩ := hS2.out.1.more hb [] (fun t ht => by cases ht)
   exact ⟨a, c, _, rfl, ⟨L4.get 0 rfl, L4.get 1 rfl, L4.cell (i := 1) (by omega)⟩, hv, L4, hS2.out.2.trans s4, fun b hb => zy _ _ _ _ (ho b hb)⟩
  go_wp2_with fail
  refine RD.out.mono ?_
  rintro r w4 ⟨a, c, tag4, rfl, ⟨d0, d1, d2⟩, HS⟩
  have hS4 := Lib.hid HS
  clear HS RD n3
  obtain ⟨rr, hrr⟩ : ∃ rr, rr = x.D.work.2 := ⟨_, rfl⟩
  have WS : Hid (Calls Tryz.prog 149 #[.pointer (some ⟨q.dp, 0, none⟩), .int .i64 k.1, .int .i64 k.2, .slice a 64 c] w4.drew fun r w5 => r = .returned (.int .i64 rr) ∧ (w5.cell? ⟨b0, 0, none⟩ = some (.int .i64 k.1) ∧ w5.cell? ⟨b0, 1, none⟩ = some (.int .i64 k.2) ∧ w5.cell? ⟨q.sp, 1, none⟩ = some (.pointer (some ⟨q.dp, 0, none⟩))) ∧ ∃ tag5, w5.cell? ⟨q.sp, 4, none⟩ = some (.pointer (some ⟨q.cp, 0, none⟩)) ∧ Loc w5 tag5 q (x.wr (za.yc k) l) (keyL b0 k) ∧ Step CA tag w tag5 w5) := by
   have hv4 : ByAt w4.drew (.slice a 64 c) l := SlAt.below hS4.out.1 (Below.refl _ _).drew
   refine (hS4.out.2.1.drew.sp.fwrite HR.out.2.2.1 hv4 HX.out.2.2.2.2 hS4.out.2.2.2).mono ?_
   rintro r w5 ⟨rfl, h5, s5⟩
   have L5 := hS4.out.2.1.drew.step s5 (by omega) h5
   exact ⟨by rw [hrr], ⟨L5.get 0 rfl, L5.get 1 rfl, L5.cell (i := 1) (by omega)⟩, _, L5.cell (i := 4) (by omega), L5, ((hS4.out.2.2.1.trans (Step.of_below (Below.refl _ _).drew)).mono fun _ h => h.elim).trans (s5.mono fun c hc => by unfold CA; omega)⟩
  have HRR := Lib.hid hrr
  clear hrr
  go_wp2_with fail
  go_region_held (fun W' => W'.cell? ⟨b0, 0, none⟩ = some (.int .i64 k.1) ∧ W'.cell? ⟨b0, 1, none⟩ = some (.int .i64 k.2) ∧ W'.cell? ⟨q.sp, 1, none⟩ = some (.pointer (some ⟨q.dp, 0, none⟩))) (go_keep)
   ((go_at_call 149; refine WS.out.mono ?_; rintro r w5 ⟨rfl, ⟨n0, n1, n2⟩, tag5, n4, HS⟩; have hS5 := Lib.hid HS; clear HS))
  clear WS d0 d1 d2 n2
  have e0 : R = if rr = 0 then (0, (x.wr (za.yc k) l).zz k false) else ((rr : Int), x.wr (za.yc k) l) := by
   rw [HR.out.1, HRR.out, HX.out.2.2.2.1]
   unfold za.xx
   rw [← HD.out, if_neg (by simp), HX.out.1]
   simp only [Int.toNat_natCast]
  have HE := Lib.hid e0
  clear e0
  by_cases hr : rr = 0
  ·subst hr
   have MK : Hid (Calls Tryz.prog 86 #[.pointer (some ⟨q.cp, 0, none⟩), .agg #[.int .i64 k.1, .int .i64 k.2], .bool false] w5.drew fun r w6 => ∃ b, r = .returned (.bool b) ∧ (w6.cell? ⟨b0, 0, none⟩ = some (.int .i64 k.1) ∧ w6.cell? ⟨b0, 1, none⟩ = some (.int .i64 k.2) ∧ w6.cell? ⟨q.sp, 4, none⟩ = some (.pointer (some ⟨q.cp, 0, none⟩))) ∧ ∃ tag6, zb w6 tag6 q R.2 ∧ Step CA tag w tag6 w6) := by
    refine (hS5.out.1.drew.sp.cmark k false).mono ?_
    rintro r w6 ⟨⟨b, rfl⟩, h6, s6⟩
    have L6 := hS5.out.1.drew.step s6 (by omega) h6
    refine ⟨b, rfl, ⟨L6.get 0 rfl, L6.get 1 rfl, L6.cell (i := 4) (by omega)⟩, tag5, ?_, (hS5.out.2.trans (Step.of_below (Below.refl _ _).drew)).trans (s6.mono fun c hc => by unfold CA; omega)⟩
    rw [HE.out, if_pos rfl]
    exact h6
   go_wp2_with fail
   go_region_held (fun W' => W'.cell? ⟨b0, 0, none⟩ = some (.int .i64 k.1) ∧ W'.cell? ⟨b0, 1, none⟩ = some (.int .i64 k.2) ∧ W'.cell? ⟨q.sp, 4, none⟩ = some (.pointer (some ⟨q.cp, 0, none⟩))) (go_keep)
    ((go_at_call 86; refine MK.out.mono ?_; rintro r w6 ⟨b, rfl, ⟨m0, m1, m2⟩, HS⟩; have hS6 := Lib.hid HS; clear HS))
   clear MK n0 n1 n4 m0 m1 m2
   go_wp2_with fail
   exact bodyPost_ret (v := .int .i64 0) (by simp [results, Tryz.results97, go_sem]) rfl ⟨by rw [HE.out]; first | rw [if_pos rfl] | rw [if_pos trivial], hS6.out⟩
  ·have n2 : ((rr : Int) == 0) = false := beq_eq_false_iff_ne.2 (by omega)
   have n3 : ((rr : Int) = 0) = False := eq_false (by omega)
   have HRN := Lib.hid hr
   clear hr n0 n1 n4
   go_wp2_with fail
   exact bodyPost_ret (v := .int .i64 rr) (by simp [results, Tryz.results97, go_sem]) rfl ⟨by rw [HE.out, if_neg HRN.out], tag5, by rw [HE.out, if_neg HRN.out]; exact hS5.out.1.sp, hS5.out.2⟩
end
end Go.Proofs.YtnhdmnijiphjjaaGreat
