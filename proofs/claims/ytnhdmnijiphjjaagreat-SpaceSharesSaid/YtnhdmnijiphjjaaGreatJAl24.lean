/- Processes, in plain words: Load and Store: what they answer and leave, without frames. No program in it. -/
import Derived.Test.YtnhdmnijiphjjaaGreatJAl23
import Derived.Test.YtnhdmnijiphjjaaGreatJAl12
set_option linter.unusedVariables false
set_option linter.unusedSimpArgs false
namespace Go.Proofs.YtnhdmnijiphjjaaGreat
open Go Go.RowKit
theorem V9 (n : Nat) (wr : Bool) (x : za) (a s : Nat) (h0 : 0 < s) (h1 : a % 64 + s ≤ 64) :
  za.zh n wr 3 x a s = if (x.askF n (a / 64) wr).1.2 = 0 then (([⟨(x.askF n (a / 64) wr).1.1.toNat, a % 64, s⟩], 0), (x.askF n (a / 64) wr).2) else (([], (x.askF n (a / 64) wr).1.2), (x.askF n (a / 64) wr).2) := by
 have e1 : min s (64 - a % 64) = s := by omega
 have e2 : ∀ k y b, za.zh n wr k y b 0 = (([], 0), y) := fun k y b => by
  cases k with
  | zero => rfl
  | succ k => unfold za.zh; rw [if_pos rfl]
 conv => lhs; unfold za.zh
 rw [if_neg (by omega), e1, Nat.sub_self, e2]
 simp
theorem V8 (n : Nat) (wr : Bool) (x : za) (a s : Nat) (h0 : s ≤ 64) (h1 : 64 < a % 64 + s) :
    za.zh n wr 3 x a s = if (x.askF n (a / 64) wr).1.2 = 0 then
      (if ((x.askF n (a / 64) wr).2.askF n (a / 64 + 1) wr).1.2 = 0 then (([⟨(x.askF n (a / 64) wr).1.1.toNat, a % 64, 64 - a % 64⟩, ⟨((x.askF n (a / 64) wr).2.askF n (a / 64 + 1) wr).1.1.toNat, 0, s - (64 - a % 64)⟩], 0), ((x.askF n (a / 64) wr).2.askF n (a / 64 + 1) wr).2)
       else (([], ((x.askF n (a / 64) wr).2.askF n (a / 64 + 1) wr).1.2), ((x.askF n (a / 64) wr).2.askF n (a / 64 + 1) wr).2))
      else (([], (x.askF n (a / 64) wr).1.2), (x.askF n (a / 64) wr).2) := by
  have e1 : min s (64 - a % 64) = 64 - a % 64 := by omega
  have e3 : (a + (64 - a % 64)) / 64 = a / 64 + 1 := by omega
  have e4 : (a + (64 - a % 64)) % 64 = 0 := by omega
  have e5 : min (s - (64 - a % 64)) (64 - 0) = s - (64 - a % 64) := by omega
  have e2 : ∀ k y b, za.zh n wr k y b 0 = (([], 0), y) := fun k y b => by
    cases k with
    | zero => rfl
    | succ k => unfold za.zh; rw [if_pos rfl]
  conv => lhs; unfold za.zh
  rw [if_neg (by omega), e1]
  have e6 : ∀ y, za.zh n wr 2 y (a + (64 - a % 64)) (s - (64 - a % 64)) = if (y.askF n (a / 64 + 1) wr).1.2 = 0 then (([⟨(y.askF n (a / 64 + 1) wr).1.1.toNat, 0, s - (64 - a % 64)⟩], 0), (y.askF n (a / 64 + 1) wr).2) else (([], (y.askF n (a / 64 + 1) wr).1.2), (y.askF n (a / 64 + 1) wr).2) := fun y => by
    conv => lhs; unfold za.zh
    rw [if_neg (by omega), e4, e5, Nat.sub_self, e2, e3]
    simp
  rw [e6]
  by_cases c1 : (x.askF n (a / 64) wr).1.2 = 0
  · rw [if_pos c1, if_pos c1]
    by_cases c2 : ((x.askF n (a / 64) wr).2.askF n (a / 64 + 1) wr).1.2 = 0
    · simp [c2]
    · simp [c2]
  · rw [if_neg c1, if_neg c1]
section
variable {F : Nat → Prop} {x y : za}
theorem Ok0.pieces (h : Ok0 x) {n : Nat} (hs : (x.T n).isSome = true) (wr : Bool) {a s : Nat} (h0 : 0 < s) (h1 : s ≤ 64) (h2 : a + s ≤ 262144) :
  ((za.zh n wr 3 x a s).1.2 ≠ 0 ∧ Ok0 (za.zh n wr 3 x a s).2 ∧ uk 10 x (za.zh n wr 3 x a s).2) ∨
  (a % 64 + s ≤ 64 ∧ ∃ f a1 y, za.zh n wr 3 x a s = (([⟨f, a % 64, s⟩], 0), y) ∧ x.abs.area n (a / 64) = some a1 ∧ Vw x n (a / 64) wr a1 (f : Nat) 0 y) ∨
  (64 < a % 64 + s ∧ ∃ f1 f2 a1 a2 y1 y, za.zh n wr 3 x a s = (([⟨f1, a % 64, 64 - a % 64⟩, ⟨f2, 0, s - (64 - a % 64)⟩], 0), y) ∧ x.abs.area n (a / 64) = some a1 ∧ x.abs.area n (a / 64 + 1) = some a2 ∧ Vw x n (a / 64) wr a1 (f1 : Nat) 0 y1 ∧ Vw y1 n (a / 64 + 1) wr a2 (f2 : Nat) 0 y) := by
 obtain ⟨pr, hp⟩ := Option.isSome_iff_exists.1 hs
 have hpg : a / 64 < 4096 := by omega
 have got : ∀ z pg, Ok0 z → (z.T n).isSome = true → pg < 4096 → (z.askF n pg wr).1.2 = 0 → ∃ f a1 prz, z.T n = some prz ∧ zm prz.A (pg : Int) = some a1 ∧ (z.askF n pg wr).1.1 = (f : Nat) ∧ Vw z n pg wr a1 (f : Nat) 0 (z.askF n pg wr).2 := fun z pg hz hzs hpg hc => by
  obtain ⟨prz, hpz⟩ := Option.isSome_iff_exists.1 hzs
  obtain ⟨f, hf⟩ := Qd hz.ok.wf hpz hpg wr
  rcases hz.askF hpz hpg wr with ⟨_, e⟩ | ⟨a1, ha1, _, ⟨_, e⟩ | ⟨_, g⟩⟩
  ·rw [e] at hc; simp at hc
  ·rw [e] at hc; simp at hc
  ·rw [hc, hf] at g
   exact ⟨f, a1, prz, hpz, ha1, hf, g⟩
 have any := h.zio hs hpg wr
 by_cases hone : a % 64 + s ≤ 64
 ·rw [V9 n wr x a s h0 hone]
  by_cases hc : (x.askF n (a / 64) wr).1.2 = 0
  ·obtain ⟨f, a1, prz, e1, e2, e3, g⟩ := got x _ h hs hpg hc
   rw [if_pos hc, e3, Int.toNat_natCast]
   exact .inr (.inl ⟨hone, f, a1, _, rfl, by rw [qx e1]; exact e2, g⟩)
  ·rw [if_neg hc]
   exact .inl ⟨hc, any.1, any.2.mono (by omega)⟩
 ·have hpg2 : a / 64 + 1 < 4096 := by omega
  rw [V8 n wr x a s h1 (by omega)]
  by_cases hc : (x.askF n (a / 64) wr).1.2 = 0
  ·rw [if_pos hc]
   obtain ⟨f, a1, prz, e1, e2, e3, g⟩ := got x _ h hs hpg hc
   have hs2 : ((x.askF n (a / 64) wr).2.T n).isSome = true := by rw [any.2.some]; exact hs
   have any2 := any.1.zio hs2 hpg2 wr
   by_cases hc2 : ((x.askF n (a / 64) wr).2.askF n (a / 64 + 1) wr).1.2 = 0
   ·obtain ⟨f2, a2, prz2, e4, e5, e6, g2⟩ := got _ _ any.1 hs2 hpg2 hc2
    rw [if_pos hc2, e3, e6, Int.toNat_natCast, Int.toNat_natCast]
    refine .inr (.inr ⟨by omega, f, f2, a1, a2, _, _, rfl, by rw [qx e1]; exact e2, ?_, g, g2⟩)
    have hA : (x.askF n (a / 64) wr).2.abs.A n = x.abs.A n := by
     rw [g.abs rfl]
     split
     ·unfold Abs.own; split <;> rfl
     ·rfl
    unfold Abs.area
    rw [← hA]
    exact (qx e4).trans e5
   ·rw [if_neg hc2]
    exact .inl ⟨hc2, any2.1, any.2.trans any2.2⟩
  ·rw [if_neg hc]
   exact .inl ⟨hc, any.1, any.2.mono (by omega)⟩
theorem Vw.pcOk {n page : Nat} {wr : Bool} {a : Ar} {f : Nat} (g : Vw x n page wr a (f : Nat) 0 y) (hn : n < 8) (hpg : page < 4096) (at_ k : Nat) (h0 : 0 < k) (h1 : at_ + k ≤ 64) : PcOk y.R ⟨f, at_, k⟩ := by
 obtain ⟨f1, f2⟩ := g.frame rfl
 obtain ⟨e1, e2, e3⟩ := g.ok.ok.frame' hn hpg f1
 rw [f2, Int.toNat_natCast] at e2 e3
 exact ⟨e2, h0, h1, e3⟩
theorem Ok0.Qu (h : Ok0 x) {n : Nat} (hs : (x.T n).isSome = true) (wr : Bool) {a s : Nat} (h1 : s ≤ 64) (h2 : a + s ≤ 262144) (hc : (za.zh n wr 3 x a s).1.2 = 0) :
  (za.zh n wr 3 x a s).1.1.length ≤ 64 ∧ (∀ p ∈ (za.zh n wr 3 x a s).1.1, PcOk (za.zh n wr 3 x a s).2.R p) ∧ sumK (za.zh n wr 3 x a s).1.1 = s := by
 obtain ⟨pr, hp⟩ := Option.isSome_iff_exists.1 hs
 have hn := h.ok.Zx h.out hp
 by_cases h0 : 0 < s
 ·rcases h.pieces hs wr h0 h1 h2 with ⟨a, _⟩ | ⟨a1, f, ar, y, e, _, g⟩ | ⟨a1, f1, f2, ar1, ar2, y1, y, e, _, _, g1, g2⟩
  ·exact absurd hc a
  ·rw [e]
   dsimp only
   refine ⟨by simp, fun p hp => ?_, by simp [sumK]⟩
   simp at hp
   subst hp
   exact g.pcOk hn (by omega) _ _ h0 a1
  ·rw [e]
   dsimp only
   refine ⟨by simp, fun p hp => ?_, by simp [sumK]; omega⟩
   simp at hp
   rcases hp with rfl | rfl
   ·obtain ⟨b1, b2, b3, b4⟩ := g1.pcOk hn (by omega) (a % 64) (64 - a % 64) (by omega) (by omega)
    exact ⟨b1, b2, b3, by rw [g2.keeps.bad]; exact b4⟩
   ·exact g2.pcOk hn (by omega) 0 _ (by omega) (by omega)
 ·have : s = 0 := by omega
  subst this
  have e : za.zh n wr 3 x a 0 = (([], 0), x) := by unfold za.zh; rw [if_pos rfl]
  rw [e]
  exact ⟨by simp, fun p hp => by simp at hp, rfl⟩
theorem za3 (R : RamS) (f a k : Nat) (h : a + k ≤ 64) : R.read f a k = ((R.read f 0 64).drop a).take k := by
 refine List.ext_getElem? fun i => ?_
 by_cases hi : i < k
 ·rw [List.getElem?_take_of_lt hi, List.getElem?_drop]
  unfold RamS.read
  rw [List.getElem?_map, List.getElem?_map, List.getElem?_range hi, List.getElem?_range (by omega)]
  simp
 ·rw [List.getElem?_eq_none (by simp [RamS.read]; omega), List.getElem?_eq_none (by simp [RamS.read]; omega)]
theorem Vw.bytes {n page : Nat} {a : Ar} {f : Nat} {wr : Bool} (g : Vw x n page wr a (f : Nat) 0 y) (hn : n < 8) (hpg : page < 4096) (ha : y.abs.area n page = some a) : y.R.read f 0 64 = y.abs.ct a n page := by
 obtain ⟨f1, f2⟩ := g.frame rfl
 cases hp : y.T n with
 | none => rw [Qb hp] at f1; cases f1
 | some pr =>
  rw [qx hp] at ha
  rw [zfb g.ok.ok hn hp hpg ha f1, f2, Int.toNat_natCast]
structure y8 (X : Abs) (n page : Nat) (a : Ar) : Prop where
 area : X.area n page = some a
 there : X.pv n page ≠ .lost
theorem Ok0.zgc (h : Ok0 x) {n page : Nat} (hpg : page < 4096) {a : Ar} (hc : y8 x.abs n page a) {wr : Bool} (hw : wr = true → a.write = true) (hroom : 5 ≤ x.P.room) (hcalm : x.D.Calm) : (x.askF n page wr).1.2 = 0 ∧ ∀ (f : Nat) a1 y, Vw x n page wr a1 (f : Nat) 0 y → y.D = x.D := by
 have hD : ∀ (f : Nat) a1 y, Vw x n page wr a1 (f : Nat) 0 y → y.D = x.D := fun f a1 y g => by
  rcases g.disk with e | e
  ·exact e
  ·rw [e, hcalm.work]
 refine ⟨?_, hD⟩
 have har := hc.area
 cases hp : x.T n with
 | none =>
  unfold Abs.area za.abs at har
  dsimp only at har
  rw [hp] at har
  cases har
 | some pr =>
  rw [qx hp] at har
  have hlost : x.pv n page ≠ .lost := fun e => hc.there (by show (if page < 4096 then x.pv n page else PV.none) = _; rw [if_pos hpg, e])
  rcases h.askF hp hpg wr with ⟨e, _⟩ | ⟨a1, ha1, hd, ⟨e, _⟩ | ⟨_, g⟩⟩
  ·rcases e with e | ⟨a1, e, w1, w2⟩
   ·rw [har] at e; cases e
   ·rw [har] at e; cases e
    rw [hw w1] at w2; cases w2
  ·exact absurd e hlost
  ·rcases g.code with e | ⟨_, e, _⟩ | ⟨_, e, _⟩
   ·exact e
   ·omega
   ·rw [hcalm.work] at e; exact absurd rfl e
theorem Ok0.zju (h : Ok0 x) {n : Nat} (hn : n < 8) {a0 s : Nat} {a : Ar} (h0 : 0 < s) (h1 : a0 % 64 + s ≤ 64) (h2 : a0 + s ≤ 262144) (hc : y8 x.abs n (a0 / 64) a) (hroom : 5 ≤ x.P.room) (hcalm : x.D.Calm) :
  ∃ y, x.Ub n a0 s = ((((x.abs.ct a n (a0 / 64)).drop (a0 % 64)).take s, 0), y) ∧ Ok0 y ∧ y.abs = x.abs ∧ uk 5 x y ∧ y.D = x.D := by
 have hpg : a0 / 64 < 4096 := by omega
 have hs : (x.T n).isSome = true := by
  have := hc.area
  cases hp : x.T n with
  | none => unfold Abs.area za.abs at this; dsimp only at this; rw [hp] at this; cases this
  | some _ => rfl
 have hr : x.x8 n a0 s = 0 := by
  unfold za.x8
  rw [if_neg, if_neg (by omega)]
  rintro (k | k)
  ·omega
  ·rw [Int.toNat_natCast, hs] at k; cases k
 obtain ⟨ask0, hD⟩ := h.zgc hpg hc (wr := false) (fun e => by cases e) hroom hcalm
 unfold za.Ub
 rw [if_pos hr]
 simp only [Int.toNat_natCast]
 rcases h.pieces hs false h0 (by omega) h2 with ⟨e, _⟩ | ⟨_, f, a1, y, e, ha, g⟩ | ⟨e, _⟩
 ·rw [V9 n false x a0 s h0 h1, if_pos ask0] at e
  exact absurd rfl e
 ·rw [e]
  dsimp only
  rw [if_pos rfl]
  have haa : a1 = a := by rw [hc.area] at ha; cases ha; rfl
  subst haa
  have hab : y.abs = x.abs := g.abs rfl
  refine ⟨y, ?_, g.ok, hab, g.keeps, hD f a1 y g⟩
  have hb := g.bytes hn hpg (by rw [hab]; exact ha)
  have : Yc y.R [⟨f, a0 % 64, s⟩] = ((x.abs.ct a1 n (a0 / 64)).drop (a0 % 64)).take s := by
   unfold Yc
   simp only [List.flatMap_cons, List.flatMap_nil, List.append_nil]
   rw [za3 _ _ _ _ h1, hb, hab]
  rw [this]
 ·omega
theorem Ok0.zem (h : Ok0 x) {n : Nat} {a0 : Nat} {b : List UInt8} {a : Ar} (h0 : 0 < b.length) (h1 : a0 % 64 + b.length ≤ 64) (h2 : a0 + b.length ≤ 262144) (hc : y8 x.abs n (a0 / 64) a) (hw : a.write = true) (hroom : 5 ≤ x.P.room) (hcalm : x.D.Calm) :
  ∃ y, x.Yg n a0 b = (0, y) ∧ Ok0 y ∧ y.abs = (x.abs.own a n (a0 / 64)).write a n (a0 / 64) (a0 % 64) b ∧ uk 5 x y ∧ y.D = x.D := by
 have hpg : a0 / 64 < 4096 := by omega
 have hs : (x.T n).isSome = true := by
  have := hc.area
  cases hp : x.T n with
  | none => unfold Abs.area za.abs at this; dsimp only at this; rw [hp] at this; cases this
  | some _ => rfl
 have hr : x.x8 n a0 b.length = 0 := by
  unfold za.x8
  rw [if_neg, if_neg (by omega)]
  rintro (k | k)
  ·omega
  ·rw [Int.toNat_natCast, hs] at k; cases k
 obtain ⟨ask0, hD⟩ := h.zgc hpg hc (wr := true) (fun _ => hw) hroom hcalm
 unfold za.Yg
 rw [if_pos hr]
 simp only [Int.toNat_natCast]
 rcases h.pieces hs true h0 (by omega) h2 with ⟨e, _⟩ | ⟨_, f, a1, y, e, ha, g⟩ | ⟨e, _⟩
 ·rw [V9 n true x a0 b.length h0 h1, if_pos ask0] at e
  exact absurd rfl e
 ·rw [e]
  dsimp only
  rw [if_pos rfl]
  have haa : a1 = a := by rw [hc.area] at ha; cases ha; rfl
  subst haa
  have hab : y.abs = x.abs.own a1 n (a0 / 64) := g.abs rfl
  obtain ⟨q, hq, hm⟩ := g.mine rfl rfl
  have hqf : q = f := by omega
  subst hqf
  have hs2 : (y.T n).isSome = true := by rw [g.keeps.some]; exact hs
  obtain ⟨pr, hp⟩ := Option.isSome_iff_exists.1 hs2
  have har : zm pr.A ((a0 / 64 : Nat) : Int) = some a1 := by
   rw [← qx hp, hab, ← ha]
   unfold Abs.area Abs.own
   split <;> rfl
  obtain ⟨w1, w2, _⟩ := g.ok.wr1 hp hpg har hm (a0 % 64) b h1
  have ew : za.Yr [⟨q, a0 % 64, b.length⟩] b y.R = y.R.write q (a0 % 64) b := by simp [za.Yr]
  rw [ew]
  refine ⟨_, rfl, w1, by rw [w2, hab], ?_, hD q a1 y g⟩
  have k := g.keeps
  exact ⟨k.zone, k.room, k.bad, k.fix, k.some⟩
 ·omega
end
section
variable {F : Nat → Prop} {x y z : za}
theorem Zo (X : Abs) (a : Ar) (n page : Nat) : (X.own a n page).A = X.A := by unfold Abs.own; split <;> rfl
theorem own_pv (X : Abs) (a : Ar) (n page m pg : Nat) (h : ¬ (m = n ∧ pg = page)) : (X.own a n page).pv m pg = X.pv m pg := by
 unfold Abs.own
 split
 ·rfl
 ·exact if_neg h
theorem zc5 {X Y : Abs} (h : X.A = Y.A) (n page : Nat) : X.area n page = Y.area n page := by unfold Abs.area; rw [h]
theorem Mine.stay {n page page2 : Nat} {wr : Bool} {a a2 : Ar} {f f2 : Nat} (hm : Mine y a n page f) (hy : Ok0 y) (hn : n < 8) (hpg : page < 4096) (hne : page ≠ page2) (g : Vw y n page2 wr a2 (f2 : Nat) 0 z) : Mine z a n page f := by
 have hk := hm.ent
 obtain ⟨f', e1, e2, hmem, hu, _⟩ := hy.ok.frame hn hpg hk.1
 have hff : f' = f := by omega
 subst hff
 have hent := g.ent1 n page hpg (fun e => hne e.2) hk.1
 refine ⟨hm.lt, by rw [hent]; exact hk, fun k2 => ?_, fun k2 => ?_⟩
 ·obtain ⟨s1, s2⟩ := hm.shared k2
  refine ⟨g.cr _ _ s1, ?_⟩
  have e : z.jh (za.keyF a page) = z.abs.jh (za.keyF a page) := rfl
  rw [e, g.abs rfl]
  have e2 : y.abs.jh (za.keyF a page) = true := s2
  split
  ·unfold Abs.own
   split
   ·show (if _ then true else _) = true
    split
    ·rfl
    ·exact e2
   ·exact e2
  ·exact e2
 ·obtain ⟨s1, s2⟩ := hm.own k2
  have hu3 : y.P.use f' = 3 := by
   rcases hu with u | u
   ·exact u
   ·have := (hy.ok.cached f' e2).1 u
    rw [s1] at this
    cases this
  obtain ⟨b1, b2⟩ := g.backs n page f' hn hpg (fun e => hne e.2) e2 hu3 s2
  refine ⟨?_, b1⟩
  cases e : getL z.CR (f' : Int) with
  | none => rfl
  | some q => have := (g.ok.ok.cached f' e2).2 (by rw [e]; rfl); omega
theorem Ok0.zek (h : Ok0 x) {n : Nat} {a0 : Nat} {b : List UInt8} {a a2 : Ar} (h0 : b.length ≤ 64) (h1 : 64 < a0 % 64 + b.length) (h2 : a0 + b.length ≤ 262144) (hc : y8 x.abs n (a0 / 64) a) (hc2 : y8 x.abs n (a0 / 64 + 1) a2) (hw : a.write = true) (hw2 : a2.write = true) (hroom : 10 ≤ x.P.room) (hcalm : x.D.Calm) :
  ∃ y, x.Yg n a0 b = (0, y) ∧ Ok0 y ∧ y.abs = (((x.abs.own a n (a0 / 64)).own a2 n (a0 / 64 + 1)).write a n (a0 / 64) (a0 % 64) (b.take (64 - a0 % 64))).write a2 n (a0 / 64 + 1) 0 (b.drop (64 - a0 % 64)) ∧ uk 10 x y ∧ y.D = x.D := by
 have hpg : a0 / 64 < 4096 := by omega
 have hpg2 : a0 / 64 + 1 < 4096 := by omega
 have hs : (x.T n).isSome = true := by
  have := hc.area
  cases hp : x.T n with
  | none => unfold Abs.area za.abs at this; dsimp only at this; rw [hp] at this; cases this
  | some _ => rfl
 have hn : n < 8 := by
  obtain ⟨pr, hp⟩ := Option.isSome_iff_exists.1 hs
  exact h.ok.Zx h.out hp
 have hr : x.x8 n a0 b.length = 0 := by
  unfold za.x8
  rw [if_neg, if_neg (by omega)]
  rintro (k | k)
  ·omega
  ·rw [Int.toNat_natCast, hs] at k; cases k
 obtain ⟨ask0, hD⟩ := h.zgc hpg hc (wr := true) (fun _ => hw) (by omega) hcalm
 unfold za.Yg
 rw [if_pos hr]
 simp only [Int.toNat_natCast]
 rcases h.pieces hs true (s := b.length) (by omega) h0 h2 with ⟨e, _⟩ | ⟨e, _⟩ | ⟨_, f, f2, b1, b2, y1, y, e, ha, ha2, g, g2⟩
 ·exfalso
  rw [V8 n true x a0 b.length h0 h1, if_pos ask0] at e
  obtain ⟨f, a1, prz, e1, e2, e3, g⟩ : ∃ (f : Nat) (a1 : Ar) (prz : yf), x.T n = some prz ∧ zm prz.A ((a0 / 64 : Nat) : Int) = some a1 ∧ (x.askF n (a0 / 64) true).1.1 = (f : Nat) ∧ Vw x n (a0 / 64) true a1 (f : Nat) 0 (x.askF n (a0 / 64) true).2 := by
   obtain ⟨prz, hpz⟩ := Option.isSome_iff_exists.1 hs
   obtain ⟨f, hf⟩ := Qd h.ok.wf hpz hpg true
   rcases h.askF hpz hpg true with ⟨_, e⟩ | ⟨a1, ha1, _, ⟨_, e⟩ | ⟨_, g⟩⟩
   ·rw [e] at ask0; simp at ask0
   ·rw [e] at ask0; simp at ask0
   ·rw [ask0, hf] at g
    exact ⟨f, a1, prz, hpz, ha1, hf, g⟩
  have har : a1 = a := by have := hc.area; rw [qx e1, e2] at this; cases this; rfl
  subst har
  have hab := g.abs rfl
  rw [if_pos rfl] at hab
  have hc3 : y8 (x.askF n (a0 / 64) true).2.abs n (a0 / 64 + 1) a2 := ⟨by rw [hab, zc5 (Zo _ _ _ _)]; exact hc2.area, by rw [hab, own_pv _ _ _ _ _ _ (by omega)]; exact hc2.there⟩
  have hk := g.keeps.room
  have hD1 := hD f a1 _ g
  have := (g.ok.zgc hpg2 hc3 (wr := true) (fun _ => hw2) (by omega) (by rw [hD1]; exact hcalm)).1
  rw [if_pos this] at e
  exact e rfl
 ·omega
 ·rw [e]
  dsimp only
  rw [if_pos rfl]
  have e1 : b1 = a := by rw [hc.area] at ha; cases ha; rfl
  have e2 : b2 = a2 := by rw [hc2.area] at ha2; cases ha2; rfl
  subst e1
  subst e2
  have hab : y1.abs = x.abs.own b1 n (a0 / 64) := g.abs rfl
  have hab2 : y.abs = (x.abs.own b1 n (a0 / 64)).own b2 n (a0 / 64 + 1) := by rw [← hab]; exact g2.abs rfl
  obtain ⟨q, hq, hm⟩ := g.mine rfl rfl
  have hqf : q = f := by omega
  subst hqf
  obtain ⟨q2, hq2, hm2⟩ := g2.mine rfl rfl
  have hqf2 : q2 = f2 := by omega
  subst hqf2
  have hmy := hm.stay g.ok hn hpg (by omega) g2
  have hs2 : (y.T n).isSome = true := by rw [(g.keeps.trans g2.keeps).some]; exact hs
  obtain ⟨pr, hp⟩ := Option.isSome_iff_exists.1 hs2
  have harea : ∀ pg, y.abs.area n pg = x.abs.area n pg := fun pg => by rw [hab2]; exact zc5 ((Zo _ _ _ _).trans (Zo _ _ _ _)) _ _
  have har : zm pr.A ((a0 / 64 : Nat) : Int) = some b1 := by rw [← qx hp, harea, ha]
  have har2 : zm pr.A ((a0 / 64 + 1 : Nat) : Int) = some b2 := by rw [← qx hp, harea, ha2]
  have l1 : (b.take (64 - a0 % 64)).length = 64 - a0 % 64 := by rw [List.length_take]; omega
  have l2 : (b.drop (64 - a0 % 64)).length = b.length - (64 - a0 % 64) := by rw [List.length_drop]
  obtain ⟨w1, w2, w3⟩ := g2.ok.wr1 hp hpg har hmy (a0 % 64) (b.take (64 - a0 % 64)) (by omega)
  have hm3 : Mine { y with R := y.R.write q (a0 % 64) (b.take (64 - a0 % 64)) } b2 n (a0 / 64 + 1) q2 := ⟨hm2.lt, by rw [w3 _ _ hpg2]; exact hm2.ent, hm2.shared, hm2.own⟩
  obtain ⟨v1, v2, _⟩ := w1.wr1 (pr := pr) hp hpg2 har2 hm3 0 (b.drop (64 - a0 % 64)) (by omega)
  have ew : za.Yr [⟨q, a0 % 64, 64 - a0 % 64⟩, ⟨q2, 0, b.length - (64 - a0 % 64)⟩] b y.R = (y.R.write q (a0 % 64) (b.take (64 - a0 % 64))).write q2 0 (b.drop (64 - a0 % 64)) := by
   simp only [za.Yr]
   congr 1
   rw [List.take_of_length_le (by omega)]
  rw [ew]
  have hD1 := hD q b1 y1 g
  refine ⟨_, rfl, v1, by rw [v2, w2, hab2], ?_, ?_⟩
  ·have k := g.keeps.trans g2.keeps
   exact ⟨k.zone, k.room, k.bad, k.fix, k.some⟩
  ·show y.D = x.D
   rcases g2.disk with e | e
   ·rw [e, hD1]
   ·rw [e, hD1, hcalm.work]
theorem Ok0.zjt (h : Ok0 x) {n : Nat} {a0 s : Nat} {a a2 : Ar} (h0 : s ≤ 64) (h1 : 64 < a0 % 64 + s) (h2 : a0 + s ≤ 262144) (hc : y8 x.abs n (a0 / 64) a) (hc2 : y8 x.abs n (a0 / 64 + 1) a2) (hroom : 10 ≤ x.P.room) (hcalm : x.D.Calm) :
  ∃ y, x.Ub n a0 s = ((((x.abs.ct a n (a0 / 64)).drop (a0 % 64)).take (64 - a0 % 64) ++ (x.abs.ct a2 n (a0 / 64 + 1)).take (s - (64 - a0 % 64)), 0), y) ∧ Ok0 y ∧ y.abs = x.abs ∧ uk 10 x y ∧ y.D = x.D := by
 have hpg : a0 / 64 < 4096 := by omega
 have hpg2 : a0 / 64 + 1 < 4096 := by omega
 have hs : (x.T n).isSome = true := by
  have := hc.area
  cases hp : x.T n with
  | none => unfold Abs.area za.abs at this; dsimp only at this; rw [hp] at this; cases this
  | some _ => rfl
 have hn : n < 8 := by
  obtain ⟨pr, hp⟩ := Option.isSome_iff_exists.1 hs
  exact h.ok.Zx h.out hp
 have hr : x.x8 n a0 s = 0 := by
  unfold za.x8
  rw [if_neg, if_neg (by omega)]
  rintro (k | k)
  ·omega
  ·rw [Int.toNat_natCast, hs] at k; cases k
 obtain ⟨ask0, hD⟩ := h.zgc hpg hc (wr := false) (fun e => by cases e) (by omega) hcalm
 unfold za.Ub
 rw [if_pos hr]
 simp only [Int.toNat_natCast]
 rcases h.pieces hs false (s := s) (by omega) h0 h2 with ⟨e, _⟩ | ⟨e, _⟩ | ⟨_, f, f2, b1, b2, y1, y, e, ha, ha2, g, g2⟩
 ·exfalso
  rw [V8 n false x a0 s h0 h1, if_pos ask0] at e
  obtain ⟨f, a1, prz, e1, e2, e3, g⟩ : ∃ (f : Nat) (a1 : Ar) (prz : yf), x.T n = some prz ∧ zm prz.A ((a0 / 64 : Nat) : Int) = some a1 ∧ (x.askF n (a0 / 64) false).1.1 = (f : Nat) ∧ Vw x n (a0 / 64) false a1 (f : Nat) 0 (x.askF n (a0 / 64) false).2 := by
   obtain ⟨prz, hpz⟩ := Option.isSome_iff_exists.1 hs
   obtain ⟨f, hf⟩ := Qd h.ok.wf hpz hpg false
   rcases h.askF hpz hpg false with ⟨_, e⟩ | ⟨a1, ha1, _, ⟨_, e⟩ | ⟨_, g⟩⟩
   ·rw [e] at ask0; simp at ask0
   ·rw [e] at ask0; simp at ask0
   ·rw [ask0, hf] at g
    exact ⟨f, a1, prz, hpz, ha1, hf, g⟩
  have hab : (x.askF n (a0 / 64) false).2.abs = x.abs := g.abs rfl
  have hc3 : y8 (x.askF n (a0 / 64) false).2.abs n (a0 / 64 + 1) a2 := by rw [hab]; exact hc2
  have hk := g.keeps.room
  have hD1 := hD f a1 _ g
  have := (g.ok.zgc hpg2 hc3 (wr := false) (fun e => by cases e) (by omega) (by rw [hD1]; exact hcalm)).1
  rw [if_pos this] at e
  exact e rfl
 ·omega
 ·rw [e]
  dsimp only
  rw [if_pos rfl]
  have e1 : b1 = a := by rw [hc.area] at ha; cases ha; rfl
  have e2 : b2 = a2 := by rw [hc2.area] at ha2; cases ha2; rfl
  subst e1
  subst e2
  have hab : y1.abs = x.abs := g.abs rfl
  have hab2 : y.abs = x.abs := (g2.abs rfl).trans hab
  have hD1 := hD f b1 y1 g
  have hb2 := g2.bytes hn hpg2 (by rw [hab2]; exact ha2)
  have hb1 : y.R.read f 0 64 = x.abs.ct b1 n (a0 / 64) := by
   obtain ⟨k1, k2⟩ := g.frame rfl
   have hent := g2.ent1 n (a0 / 64) hpg (by omega) k1
   have hs2 : (y.T n).isSome = true := by rw [(g.keeps.trans g2.keeps).some]; exact hs
   obtain ⟨pr, hp⟩ := Option.isSome_iff_exists.1 hs2
   have har : zm pr.A ((a0 / 64 : Nat) : Int) = some b1 := by rw [← qx hp, hab2, ha]
   have := zfb g2.ok.ok hn hp hpg har (by rw [hent]; exact k1)
   rw [hent, k2, Int.toNat_natCast, hab2] at this
   exact this.symm
  have er : Yc y.R [⟨f, a0 % 64, 64 - a0 % 64⟩, ⟨f2, 0, s - (64 - a0 % 64)⟩] = ((x.abs.ct b1 n (a0 / 64)).drop (a0 % 64)).take (64 - a0 % 64) ++ (x.abs.ct b2 n (a0 / 64 + 1)).take (s - (64 - a0 % 64)) := by
   unfold Yc
   simp only [List.flatMap_cons, List.flatMap_nil, List.append_nil]
   rw [za3 _ _ _ _ (by omega), hb1, za3 _ f2 _ _ (by omega), hb2, hab2, List.drop_zero]
  rw [er]
  refine ⟨y, rfl, g2.ok, hab2, g.keeps.trans g2.keeps, ?_⟩
  rcases g2.disk with e | e
  ·rw [e, hD1]
  ·rw [e, hD1, hcalm.work]
end
instance (a : Ar) (p : Int) : Decidable (a.Has p) := inferInstanceAs (Decidable (_ ∧ _))
def za.ji (x : za) (n g : Nat) : za := { x with R := x.R.write g 0 (List.replicate 64 0), P := x.P.set g 2, T := fun m => if m = n then some ⟨⟨g, [g]⟩, [], []⟩ else x.T m }
def Abs.spawn (X : Abs) (n : Nat) : Abs := { X with A := fun m => if m = n then some ([], []) else X.A m }
def Jn (a : Ar) : PV := if a.kind = 1 then .own (List.replicate 64 0) else .file
def Abs.map (X : Abs) (n : Nat) (a : Ar) (L : List Ar) : Abs := { X with A := (fun m => if m = n then (X.A n).map fun p => (L, p.2) else X.A m), pv := fun m pg => if m = n ∧ pg < 4096 ∧ a.Has (pg : Int) then Jn a else X.pv m pg }
theorem Zf {l : List Ar} (h : OkL l) {p : Int} {a : Ar} : zm l p = some a ↔ a ∈ l ∧ a.Has p := by
 constructor
 ·intro e
  have h1 := List.mem_of_find?_eq_some e
  have h2 := List.find?_some e
  simp only [decide_eq_true_eq] at h2
  exact ⟨h1, h2⟩
 ·rintro ⟨h1, h2⟩
  induction l with
  | nil => cases h1
  | cons b l ih =>
   rw [Yk]
   rcases List.mem_cons.1 h1 with rfl | h3
   ·exact if_pos h2
   ·rw [if_neg]
    ·exact ih h.tail h3
    ·intro e
     have := h.head a h3
     unfold Ar.Has at h2
     omega
theorem zia {l l' : List Ar} {a : Ar} (h : OkL l) (h' : OkL l') (hm : ∀ b, b ∈ l' ↔ b = a ∨ b ∈ l) (hd : ∀ b ∈ l, ∀ p, a.Has p → ¬ b.Has p) (p : Int) [Decidable (a.Has p)] : zm l' p = if a.Has p then some a else zm l p := by
 split
 ·rename_i k
  exact (Zf h').2 ⟨(hm a).2 (.inl rfl), k⟩
 ·rename_i k
  cases e : zm l p with
  | none =>
   cases e2 : zm l' p with
   | none => rfl
   | some b =>
    obtain ⟨h1, h2⟩ := (Zf h').1 e2
    rcases (hm b).1 h1 with rfl | h3
    ·exact absurd h2 k
    ·rw [(Zf h).2 ⟨h3, h2⟩] at e; cases e
  | some b =>
   obtain ⟨h1, h2⟩ := (Zf h).1 e
   exact (Zf h').2 ⟨(hm b).2 (.inr h1), h2⟩
section
variable {x y : za}
theorem zjc (P : zk) (D : z8) (hP : ∀ f, P.use f = 0 ∨ P.use f = 1) (hD : ∀ s, s < 192 → (D.cur s).length = 64) : Ok0 (.start RamS.none P D) := by
 have hno : ∀ n f, ¬ za.owns (.start RamS.none P D) n f := fun n f ⟨pr, h, _⟩ => by cases h
 have hent : ∀ n page, za.ent (.start RamS.none P D) n page = Ent.none := fun n page => rfl
 refine ⟨⟨⟨fun n pr h => by (cases h), fun n m f h => absurd h (hno n f), fun n pr h => by (cases h), fun f => ⟨List.Pairwise.nil, fun p hp => by (cases hp)⟩, ⟨by simp [za.start], fun l hl => ?_⟩, fun f _ hb => by (cases hb), fun k v hk => (by simp [za.start, getL] at hk), hD, ⟨by simp [za.start], by simp [za.start]⟩⟩, fun f n page _ _ _ => ?_, fun k n page _ _ _ => ?_, fun f _ hB => absurd rfl hB, fun f _ hu => ?_, fun f _ hu => ?_, fun f _ => ?_, fun k f => by simp [za.start, getL], fun k v hk => (by simp [za.start, getL] at hk), fun n pr page h => by (cases h)⟩, fun _ _ => rfl⟩
 ·simp [za.start] at hl
  subst hl
  exact ⟨List.Pairwise.nil, fun p hp => by cases hp⟩
 ·rw [hent]
  constructor
  ·intro h; cases h
  ·rintro ⟨h, _⟩; cases h
 ·rw [hent]
  constructor
  ·intro h
   have : (List.replicate 32 ([] : List (Int × Int))).getD k [] = [] := by
    rw [List.getD_eq_getElem?_getD, List.getElem?_replicate]
    split <;> rfl
   rw [show (za.start RamS.none P D).S = List.replicate 32 [] from rfl, this] at h
   cases h
  ·rintro ⟨h, _⟩; cases h
 ·have : P.use f = 3 := hu
  rcases hP f with e | e <;> omega
 ·have : P.use f = 2 := hu
  rcases hP f with e | e <;> omega
 ·have : P.use f ≠ 4 := by rcases hP f with e | e <;> omega
  constructor
  ·intro e; exact absurd e this
  ·intro e; simp [za.start, getL] at e
theorem zhn (R : RamS) (P : zk) (g : Nat) (hg : g < 1024) (hb : R.bad g = false) (good : ∀ f, f < 1024 → P.use f = 1 → R.bad f = false) : yz ⟨R.write g 0 (List.replicate 64 0), P.set g 2, ⟨g, [g]⟩⟩ (fun p => if p = [] then some g else none) := by
 refine ⟨⟨if_pos rfl, fun p f hp => ?_, fun p q f hp hq => ?_, fun f => ?_, by simp, fun p f d hp hl hd => ?_, fun p d k hp => ?_, fun p f d hp hl hd => ?_⟩, fun f hf => ?_, fun f hf hu => ?_⟩
 ·split at hp
  ·rename_i e; cases hp; subst e; exact ⟨hg, hb, by simp, fun d hd => by cases hd⟩
  ·cases hp
 ·split at hp
  ·split at hq
   ·rename_i e1 e2; rw [e1, e2]
   ·cases hq
  ·cases hp
 ·simp only [List.mem_singleton]
  constructor
  ·rintro rfl; exact ⟨[], if_pos rfl⟩
  ·rintro ⟨p, hp⟩
   split at hp
   ·cases hp; rfl
   ·cases hp
 ·split at hp
  ·rename_i e
   cases hp
   subst e
   rw [Xp _ _ _ hd, if_neg (by simp)]
  ·cases hp
 ·rw [if_neg (by simp)] at hp; cases hp
 ·split at hp
  ·rename_i e; subst e; simp at hl
  ·cases hp
 ·simp at hf
  subst hf
  exact if_pos rfl
 ·have hu : (if f = g then 2 else P.use f) = 1 := hu
  split at hu
  ·cases hu
  ·exact good f hf hu
theorem Ok0.spawn (h : Ok0 x) {n g : Nat} (hn : n < 8) (hx : x.T n = none) (hg : x.P.next false = some g) : Ok0 (x.ji n g) ∧ (x.ji n g).abs = x.abs.spawn n ∧ x.P.room ≤ (x.ji n g).P.room + 1 ∧ (x.ji n g).D = x.D := by
 obtain ⟨hg1, hav, hgu⟩ := Vi hg
 have hbad := h.ok.wf.jm hg1 (by omega)
 have hT : ∀ m, (x.ji n g).T m = if m = n then some ⟨⟨g, [g]⟩, [], []⟩ else x.T m := fun _ => rfl
 have hu : ∀ f, (x.ji n g).P.use f = if f = g then 2 else x.P.use f := fun _ => rfl
 have hby : ∀ f i, f ≠ g → (x.ji n g).R.b f i = x.R.b f i := fun f i hf => by
  show (x.R.write g 0 _).b f i = _
  rw [uh, if_neg fun e => hf e.1]
 have hbd : (x.ji n g).R.bad = x.R.bad := rfl
 have hno : ∀ m, ¬ x.owns m g := fun m ho => by have := (h.ok.wf.xe ho).2.1; omega
 have own : ∀ m f, (x.ji n g).owns m f ↔ (m = n ∧ f = g) ∨ x.owns m f := fun m f => by
  unfold za.owns
  rw [hT]
  by_cases e : m = n
  ·rw [if_pos e]
   constructor
   ·rintro ⟨_, e2, hf⟩
    cases e2
    simp at hf
    exact .inl ⟨e, hf⟩
   ·rintro (⟨_, rfl⟩ | ⟨pr, e2, _⟩)
    ·exact ⟨_, rfl, by simp⟩
    ·rw [e, hx] at e2; cases e2
  ·rw [if_neg e]
   constructor
   ·exact .inr
   ·rintro (⟨e2, _⟩ | a)
    ·exact absurd e2 e
    ·exact a
 have good : ∀ f, f < 1024 → x.P.use f = 1 → x.R.bad f = false := fun f hf hu => h.ok.wf.jm hf (by omega)
 have hbad6 : ∀ f, f < 1024 → (x.ji n g).R.bad f = true → (x.ji n g).P.use f = 6 := fun f hf hb => by
  rw [hbd] at hb
  rw [hu, if_neg (fun e => by rw [e, hbad] at hb; cases hb)]
  exact h.ok.wf.bad f hf hb
 have rpt : ∀ m pr, x.T m = some pr → ∃ N, yz ⟨x.R, x.P, pr.T⟩ N ∧ yz ⟨(x.ji n g).R, (x.ji n g).P, pr.T⟩ N := fun m pr hm => by
  obtain ⟨N, k⟩ := h.ok.wf.rpt m pr hm
  have ne : ∀ f ∈ pr.T.own, f ≠ g := fun f hf e => hno m ⟨pr, hm, e ▸ hf⟩
  refine ⟨N, k, k.same (fun f _ => by rw [hbd]) (fun f hf i => hby f i (ne f hf)) (fun f hf => by rw [hu, if_neg (ne f hf)]; exact (h.ok.wf.xe ⟨pr, hm, hf⟩).2.1) fun f hf hu1 => ?_⟩
  cases hb : (x.ji n g).R.bad f with
  | false => rfl
  | true => have := hbad6 f hf hb; omega
 have ent : ∀ m page, page < 4096 → (x.ji n g).ent m page = x.ent m page := fun m page hpg => by
  by_cases e : m = n
  ·have e1 : x.ent m page = Ent.none := Qb (by rw [e]; exact hx) page
   rw [e1]
   unfold za.ent
   rw [hT, if_pos e]
   have := (zhn x.R x.P g hg1 hbad good).tree.get page hpg
   dsimp only at this ⊢
   rw [show (x.ji n g).R = x.R.write g 0 (List.replicate 64 0) from rfl, this]
   unfold mapOf
   dsimp only
   rw [if_neg (by simp [high])]
  ·unfold za.ent
   rw [hT, if_neg e]
   cases hm : x.T m with
   | none => rfl
   | some pr =>
    obtain ⟨N, k1, k2⟩ := rpt m pr hm
    dsimp only
    have a := k1.tree.get page hpg
    have b := k2.tree.get page hpg
    dsimp only at a b
    rw [a, b, zaa k1.tree fun f hf i => hby f i fun e => hno m ⟨pr, hm, e ▸ hf⟩]
 refine ⟨⟨⟨⟨fun m pr hm => ?_, fun m k f h1 h2 => ?_, fun m pr hm => ?_, h.ok.wf.back, h.ok.wf.slots, hbad6, h.ok.wf.keys, h.ok.wf.secs, h.ok.wf.nd⟩, fun f m page h1 h2 h3 => by rw [ent m page h3]; exact h.ok.backE f m page h1 h2 h3, fun k m page h1 h2 h3 => by rw [ent m page h3]; exact h.ok.slotE k m page h1 h2 h3, fun f h1 h2 => ?_, fun f h1 h2 => ?_, fun f h1 h2 => ?_, fun f h1 => ?_, h.ok.cacheE, h.ok.cacheK, fun m pr page hm hpg => ?_⟩, fun m hm => ?_⟩, ?_, ?_, rfl⟩
 ·rw [hT] at hm
  by_cases e : m = n
  ·rw [if_pos e] at hm
   cases hm
   exact ⟨_, zhn x.R x.P g hg1 hbad good⟩
  ·rw [if_neg e] at hm
   obtain ⟨N, _, k⟩ := rpt m pr hm
   exact ⟨N, k⟩
 ·rcases (own m f).1 h1 with ⟨a, b⟩ | a <;> rcases (own k f).1 h2 with ⟨c, d⟩ | c
  ·rw [a, c]
  ·rw [b] at c; exact absurd c (hno k)
  ·rw [d] at a; exact absurd a (hno m)
  ·exact h.ok.wf.apart m k f a c
 ·rw [hT] at hm
  by_cases e : m = n
  ·rw [if_pos e] at hm
   cases hm
   exact ⟨⟨fun a ha => (by cases ha), List.Pairwise.nil⟩, by simp⟩
  ·rw [if_neg e] at hm
   exact h.ok.wf.jr m pr hm
 ·have := h.ok.useB f h1 h2
  rw [hu, if_neg (fun e => by rw [e] at this; omega)]
  exact this
 ·rw [hu] at h2
  split at h2
  ·cases h2
  ·exact h.ok.anon f h1 h2
 ·rw [hu] at h2
  split at h2
  ·rename_i e; exact ⟨n, (own n f).2 (.inl ⟨rfl, e⟩)⟩
  ·obtain ⟨m, hm⟩ := h.ok.table f h1 h2
   exact ⟨m, (own m f).2 (.inr hm)⟩
 ·rw [hu]
  split
  ·rename_i e
   have := h.ok.cached f h1
   constructor
   ·intro a; cases a
   ·intro a
    have := this.2 a
    rw [e] at this; omega
  ·exact h.ok.cached f h1
 ·rw [ent m page hpg]
  rw [hT] at hm
  by_cases e : m = n
  ·rw [e, Qb hx]
   exact ⟨fun a => absurd rfl a, fun _ _ a => by (have : (0 : Nat) = 1 := a; omega), fun _ _ _ a => by (have : (0 : Nat) = 1 := a; omega), fun _ _ a => by (have : (0 : Nat) = 1 := a; omega), fun _ _ a => by (have : (0 : Nat) = 2 := a; omega)⟩
  ·rw [if_neg e] at hm
   have a := h.ok.area m pr page hm hpg
   exact ⟨a.find, a.own, a.file, a.shared, a.slot⟩
 ·rw [hT, if_neg (by omega)]
  exact h.out m hm
 ·have hrd : ∀ f, f ≠ g → (x.ji n g).R.read f 0 64 = x.R.read f 0 64 := fun f hf => Yt fun i _ => hby f i hf
  unfold za.abs Abs.spawn
  rw [Abs.mk.injEq]
  refine ⟨?_, ?_, ?_, rfl, rfl⟩
  ·funext m
   rw [hT]
   by_cases e : m = n
   ·rw [if_pos e, if_pos e]; rfl
   ·rw [if_neg e, if_neg e]
  ·funext m page
   by_cases hpg : page < 4096
   ·rw [if_pos hpg]
    dsimp only
    rw [if_pos hpg]
    unfold za.pv
    rw [hT]
    by_cases e : m = n
    ·rw [if_pos e, e, hx]
     rfl
    ·rw [if_neg e]
     cases hm : x.T m with
     | none => rfl
     | some pr =>
      dsimp only
      cases ha : zm pr.A (page : Int) with
      | none => rfl
      | some a =>
       dsimp only
       rw [ent m page hpg]
       refine U4 rfl rfl fun hk => ?_
       have hm8 := h.ok.Zx h.out hm
       obtain ⟨f, e1, e2, _, e3, _⟩ := h.ok.frame hm8 hpg hk
       rw [e1, Int.toNat_natCast]
       exact hrd f fun e => by rw [e] at e3; omega
   ·rw [if_neg hpg]
    dsimp only
    rw [if_neg hpg]
  ·funext k
   by_cases hk : jf k
   ·rw [if_pos hk]
    dsimp only
    rw [if_pos hk]
    refine Ym h.ok k rfl rfl fun f i hf hu4 hi => hby f i fun e => by rw [e] at hu4; omega
   ·rw [if_neg hk]
    dsimp only
    rw [if_neg hk]
 ·exact room_le x.P g 2 (by omega) hg1
theorem Ok0.map (h : Ok0 x) {n : Nat} {pr : yf} (hp : x.T n = some pr) {a : Ar} (ha : a.yu) (hno : anyA a pr.A = false) (hlen : pr.A.length < 16) {L : List Ar} (hperm : L.Perm (pr.A ++ [a])) (hsort : L.Pairwise fun x y => ¬ y.from_ < x.from_) :
  Ok0 (x.put n ⟨pr.T, L, pr.Q⟩) ∧ (x.put n ⟨pr.T, L, pr.Q⟩).abs = x.abs.map n a L := by
 have hOk := (h.ok.wf.jr n pr hp).1
 have hL : L = insA pr.A a := zir hOk ha hno hperm hsort
 have hm : ∀ b, b ∈ L ↔ b = a ∨ b ∈ pr.A := fun b => by rw [hL]; exact ze2
 have hd : ∀ b ∈ pr.A, ∀ p, a.Has p → ¬ b.Has p := fun b hb p h1 h2 => by
  have hnil : ¬ Us a b = true := fun e => by
   unfold anyA at hno
   rw [List.any_eq_false] at hno
   exact hno b hb e
  rw [J8 ha (hOk.1 b hb)] at hnil
  unfold Ar.Has at h1 h2
  omega
 have hL' : OkL L := by
  refine ⟨fun b hb => ((hm b).1 hb).elim (fun e => e ▸ ha) (hOk.1 b), ?_⟩
  have hs : L.Pairwise fun x y => x.from_ < y.from_ := by
   rw [hL]
   refine Q0 (hOk.2.imp_of_mem fun {u v} hu hv huv => by have := (hOk.1 u hu).2.2.2.1; omega) fun b hb e => ?_
   have hs := ha.2.2.2.1
   have hs2 := (hOk.1 b hb).2.2.2.1
   exact hd b hb a.from_ ⟨by omega, by omega⟩ ⟨by omega, by omega⟩
  refine hs.imp_of_mem fun {u v} hu hv huv => ?_
  have su := (((hm u).1 hu).elim (fun e => e ▸ ha) (hOk.1 u) : u.yu).2.2.2.1
  have sv := (((hm v).1 hv).elim (fun e => e ▸ ha) (hOk.1 v) : v.yu).2.2.2.1
  by_cases hlt : u.from_ + u.pages ≤ v.from_
  ·exact hlt
  ·exfalso
   rcases (hm u).1 hu with rfl | hu' <;> rcases (hm v).1 hv with rfl | hv'
   ·omega
   ·exact hd v hv' v.from_ ⟨by omega, by omega⟩ ⟨by omega, by omega⟩
   ·exact hd u hu' v.from_ ⟨by omega, by omega⟩ ⟨by omega, by omega⟩
   ·have hpw := hOk.2
    obtain ⟨i, hi, rfl⟩ := List.getElem_of_mem hu'
    obtain ⟨j, hj, rfl⟩ := List.getElem_of_mem hv'
    rcases Nat.lt_trichotomy i j with hij | hij | hij
    ·have := List.pairwise_iff_getElem.1 hpw i j hi hj hij; omega
    ·subst hij; omega
    ·have := List.pairwise_iff_getElem.1 hpw j i hj hi hij; omega
 have hfind : ∀ p : Int, zm L p = if a.Has p then some a else zm pr.A p := fun p => zia hOk hL' hm hd p
 have hlen' : L.length ≤ 16 := by rw [hperm.length_eq]; simp; omega
 have hT : ∀ m, (x.put n ⟨pr.T, L, pr.Q⟩).T m = if m = n then some ⟨pr.T, L, pr.Q⟩ else x.T m := fun _ => rfl
 have own : ∀ m f, (x.put n ⟨pr.T, L, pr.Q⟩).owns m f ↔ x.owns m f := fun m f => by
  unfold za.owns
  rw [hT]
  by_cases e : m = n
  ·rw [if_pos e, e, hp]
   constructor
   ·rintro ⟨_, e2, hf⟩; cases e2; exact ⟨pr, rfl, hf⟩
   ·rintro ⟨_, e2, hf⟩; cases e2; exact ⟨_, rfl, hf⟩
  ·rw [if_neg e]
 have ent : ∀ m page, (x.put n ⟨pr.T, L, pr.Q⟩).ent m page = x.ent m page := fun m page => by
  unfold za.ent
  rw [hT]
  by_cases e : m = n
  ·rw [if_pos e, e, hp]; rfl
  ·rw [if_neg e]; rfl
 have hnone : ∀ page : Nat, a.Has (page : Int) → zm pr.A (page : Int) = none := fun page hh => by
  cases e : zm pr.A (page : Int) with
  | none => rfl
  | some b =>
   obtain ⟨h1, h2⟩ := (Zf hOk).1 e
   exact absurd h2 (hd b h1 _ hh)
 refine ⟨⟨⟨⟨fun m pm hm' => ?_, fun m k f h1 h2 => h.ok.wf.apart m k f ((own m f).1 h1) ((own k f).1 h2), fun m pm hm' => ?_, h.ok.wf.back, h.ok.wf.slots, h.ok.wf.bad, h.ok.wf.keys, h.ok.wf.secs, h.ok.wf.nd⟩, fun f m page h1 h2 h3 => by rw [ent]; exact h.ok.backE f m page h1 h2 h3, fun k m page h1 h2 h3 => by rw [ent]; exact h.ok.slotE k m page h1 h2 h3, h.ok.useB, h.ok.anon, fun f h1 h2 => ?_, h.ok.cached, h.ok.cacheE, h.ok.cacheK, fun m pm page hm' hpg => ?_⟩, fun m hm' => ?_⟩, ?_⟩
 ·rw [hT] at hm'
  by_cases e : m = n
  ·rw [if_pos e] at hm'
   cases hm'
   exact h.ok.wf.rpt n pr hp
  ·rw [if_neg e] at hm'
   exact h.ok.wf.rpt m pm hm'
 ·rw [hT] at hm'
  by_cases e : m = n
  ·rw [if_pos e] at hm'
   cases hm'
   exact ⟨hL', hlen'⟩
  ·rw [if_neg e] at hm'
   exact h.ok.wf.jr m pm hm'
 ·obtain ⟨m, hm'⟩ := h.ok.table f h1 h2
  exact ⟨m, (own m f).2 hm'⟩
 ·rw [ent]
  rw [hT] at hm'
  by_cases e : m = n
  ·rw [if_pos e] at hm'
   cases hm'
   rw [e]
   have k := h.ok.area n pr page hp hpg
   by_cases hh : a.Has (page : Int)
   ·have k0 : (x.ent n page).kind = 0 := by
     by_cases z : (x.ent n page).kind = 0
     ·exact z
     ·obtain ⟨b, hb⟩ := k.find z
      rw [hnone page hh] at hb
      cases hb
    exact ⟨fun z => absurd k0 z, fun _ _ z => by omega, fun _ _ _ z => by omega, fun _ _ z => by omega, fun _ _ z => by omega⟩
   ·have hf : zm L (page : Int) = zm pr.A (page : Int) := by rw [hfind, if_neg hh]
    exact ⟨by rw [hf]; exact k.find, by rw [hf]; exact k.own, by rw [hf]; exact k.file, by rw [hf]; exact k.shared, by rw [hf]; exact k.slot⟩
  ·rw [if_neg e] at hm'
   have k := h.ok.area m pm page hm' hpg
   exact ⟨k.find, k.own, k.file, k.shared, k.slot⟩
 ·rw [hT]
  by_cases e : m = n
  ·have := h.ok.Zx h.out hp; omega
  ·rw [if_neg e]; exact h.out m hm'
 ·unfold za.abs Abs.map
  rw [Abs.mk.injEq]
  refine ⟨?_, ?_, rfl, rfl, rfl⟩
  ·funext m
   rw [hT]
   by_cases e : m = n
   ·rw [if_pos e, if_pos e]; dsimp only; rw [hp]; rfl
   ·rw [if_neg e, if_neg e]
  ·funext m page
   by_cases hpg : page < 4096
   ·rw [if_pos hpg]
    dsimp only
    rw [if_pos hpg]
    unfold za.pv
    rw [hT]
    by_cases e : m = n
    ·rw [if_pos e, e, hp]
     dsimp only
     rw [hfind, ent]
     by_cases hh : a.Has (page : Int)
     ·rw [if_pos hh, if_pos ⟨rfl, hpg, hh⟩]
      dsimp only
      have k := h.ok.area n pr page hp hpg
      have k0 : (x.ent n page).kind = 0 := by
       by_cases z : (x.ent n page).kind = 0
       ·exact z
       ·obtain ⟨b, hb⟩ := k.find z
        rw [hnone page hh] at hb
        cases hb
      unfold za.pv1 Jn
      rw [k0, if_neg (by omega), if_neg (by omega), if_neg (by omega)]
     ·rw [if_neg hh, if_neg fun z => hh z.2.2]
      rfl
    ·rw [if_neg e, if_neg fun z => e z.1]
     cases x.T m with
     | none => rfl
     | some pm =>
      dsimp only
      cases zm pm.A (page : Int) with
      | none => rfl
      | some b => dsimp only; rw [ent]; rfl
   ·rw [if_neg hpg, if_neg (fun z : m = n ∧ page < 4096 ∧ a.Has (page : Int) => hpg z.2.1)]
    dsimp only
    rw [if_neg hpg]
end
def Abs.setQ (X : Abs) (n : Nat) (Q : List (Int × Int)) : Abs := { X with A := fun m => if m = n then (X.A n).map fun p => (p.1, Q) else X.A m }
section
variable {x y : za}
theorem Ok0.sigs (h : Ok0 x) {n : Nat} {pr : yf} (hp : x.T n = some pr) (Q : List (Int × Int)) :
  Ok0 (x.put n ⟨pr.T, pr.A, Q⟩) ∧ (x.put n ⟨pr.T, pr.A, Q⟩).abs = x.abs.setQ n Q := by
 have hT : ∀ m, (x.put n ⟨pr.T, pr.A, Q⟩).T m = if m = n then some ⟨pr.T, pr.A, Q⟩ else x.T m := fun _ => rfl
 have own : ∀ m f, (x.put n ⟨pr.T, pr.A, Q⟩).owns m f ↔ x.owns m f := fun m f => by
  unfold za.owns
  rw [hT]
  by_cases e : m = n
  ·rw [if_pos e, e, hp]
   constructor
   ·rintro ⟨_, e2, hf⟩; cases e2; exact ⟨pr, rfl, hf⟩
   ·rintro ⟨_, e2, hf⟩; cases e2; exact ⟨_, rfl, hf⟩
  ·rw [if_neg e]
 have ent : ∀ m page, (x.put n ⟨pr.T, pr.A, Q⟩).ent m page = x.ent m page := fun m page => by
  unfold za.ent
  rw [hT]
  by_cases e : m = n
  ·rw [if_pos e, e, hp]; rfl
  ·rw [if_neg e]; rfl
 refine ⟨⟨⟨⟨fun m pm hm' => ?_, fun m k f h1 h2 => h.ok.wf.apart m k f ((own m f).1 h1) ((own k f).1 h2), fun m pm hm' => ?_, h.ok.wf.back, h.ok.wf.slots, h.ok.wf.bad, h.ok.wf.keys, h.ok.wf.secs, h.ok.wf.nd⟩, fun f m page h1 h2 h3 => by rw [ent]; exact h.ok.backE f m page h1 h2 h3, fun k m page h1 h2 h3 => by rw [ent]; exact h.ok.slotE k m page h1 h2 h3, h.ok.useB, h.ok.anon, fun f h1 h2 => ?_, h.ok.cached, h.ok.cacheE, h.ok.cacheK, fun m pm page hm' hpg => ?_⟩, fun m hm' => ?_⟩, ?_⟩
 ·rw [hT] at hm'
  by_cases e : m = n
  ·rw [if_pos e] at hm'
   cases hm'
   exact h.ok.wf.rpt n pr hp
  ·rw [if_neg e] at hm'
   exact h.ok.wf.rpt m pm hm'
 ·rw [hT] at hm'
  by_cases e : m = n
  ·rw [if_pos e] at hm'
   cases hm'
   exact h.ok.wf.jr n pr hp
  ·rw [if_neg e] at hm'
   exact h.ok.wf.jr m pm hm'
 ·obtain ⟨m, hm'⟩ := h.ok.table f h1 h2
  exact ⟨m, (own m f).2 hm'⟩
 ·rw [ent]
  rw [hT] at hm'
  by_cases e : m = n
  ·rw [if_pos e] at hm'
   cases hm'
   rw [e]
   have k := h.ok.area n pr page hp hpg
   exact ⟨k.find, k.own, k.file, k.shared, k.slot⟩
  ·rw [if_neg e] at hm'
   have k := h.ok.area m pm page hm' hpg
   exact ⟨k.find, k.own, k.file, k.shared, k.slot⟩
 ·rw [hT]
  by_cases e : m = n
  ·have := h.ok.Zx h.out hp; omega
  ·rw [if_neg e]; exact h.out m hm'
 ·unfold za.abs Abs.setQ
  rw [Abs.mk.injEq]
  refine ⟨?_, ?_, rfl, rfl, rfl⟩
  ·funext m
   rw [hT]
   by_cases e : m = n
   ·rw [if_pos e, if_pos e]; dsimp only; rw [hp]; rfl
   ·rw [if_neg e, if_neg e]
  ·funext m page
   by_cases hpg : page < 4096
   ·dsimp only
    rw [if_pos hpg, if_pos hpg]
    unfold za.pv
    rw [hT]
    by_cases e : m = n
    ·rw [if_pos e, e, hp]
     dsimp only
     rw [ent]
     rfl
    ·rw [if_neg e]
     cases x.T m with
     | none => rfl
     | some pm =>
      dsimp only
      cases zm pm.A (page : Int) with
      | none => rfl
      | some b => dsimp only; rw [ent]; rfl
   ·dsimp only
    rw [if_neg hpg, if_neg hpg]
theorem zjf (R : RamS) (f a k : Nat) : (R.read f a k).length = k := by simp [RamS.read]
theorem Ok0.Vq (h : Ok0 x) {k : Int × Int} (hk : jf k) : (x.abs.file k).length = 64 := by
 show (if jf k then x.Z6 k else []).length = 64
 rw [if_pos hk]
 unfold za.Z6
 split
 ·exact zjf ..
 ·exact h.ok.wf.secs _ (Vh hk)
end
theorem zhc (n f : Nat) : (Xu n).use f = if f < 32 * n then 1 else 0 := by
 induction n with
 | zero => rfl
 | succ k ih =>
  show (if 32 * k ≤ f ∧ f < 32 * k + 32 then (if (Xu k).use f = 6 then 6 else 1) else (Xu k).use f) = _
  rw [ih]
  by_cases h1 : f < 32 * k
  ·rw [if_pos h1, if_neg (by omega), if_pos (by omega)]
  ·rw [if_neg h1]
   by_cases h2 : f < 32 * (k + 1)
   ·rw [if_pos (by omega), if_pos h2]; rfl
   ·rw [if_neg (by omega), if_neg h2]
theorem zci (n m f : Nat) : (Yy n m).use f = if f < 32 * n ∨ (512 ≤ f ∧ f < 512 + 32 * m) then 1 else 0 := by
 induction m with
 | zero =>
  show (Xu n).use f = _
  rw [zhc]
  by_cases h1 : f < 32 * n
  ·rw [if_pos h1, if_pos (.inl h1)]
  ·rw [if_neg h1, if_neg (by omega)]
 | succ k ih =>
  show (if 32 * (16 + k) ≤ f ∧ f < 32 * (16 + k) + 32 then (if (Yy n k).use f = 6 then 6 else 1) else (Yy n k).use f) = _
  rw [ih]
  by_cases h1 : f < 32 * n ∨ (512 ≤ f ∧ f < 512 + 32 * k)
  ·rw [if_pos h1, if_pos (by omega : f < 32 * n ∨ (512 ≤ f ∧ f < 512 + 32 * (k + 1)))]
   split <;> rfl
  ·rw [if_neg h1]
   by_cases h2 : f < 32 * n ∨ (512 ≤ f ∧ f < 512 + 32 * (k + 1))
   ·rw [if_pos (by omega), if_pos h2]; rfl
   ·rw [if_neg (by omega), if_neg h2]
theorem zmt (n s : Nat) : (Xu n).zone s = (if s < n then 2 else 0) ∧ (Xu n).iso s = false := by
 induction n with
 | zero => exact ⟨rfl, rfl⟩
 | succ k ih =>
  refine ⟨?_, ?_⟩
  ·show (if s = k then 2 else (Xu k).zone s) = _
   rw [ih.1]
   by_cases h1 : s = k
   ·rw [if_pos h1, if_pos (by omega)]
   ·rw [if_neg h1]
    by_cases h2 : s < k
    ·rw [if_pos h2, if_pos (by omega)]
    ·rw [if_neg h2, if_neg (by omega)]
  ·show (if s = k then false else (Xu k).iso s) = _
   rw [ih.2]; split <;> rfl
theorem zmu (n m s : Nat) (hs : s < 16) : (Yy n m).zone s = (if s < n then 2 else 0) ∧ (Yy n m).iso s = false := by
 induction m with
 | zero => exact zmt n s
 | succ k ih =>
  refine ⟨?_, ?_⟩
  ·show (if s = 16 + k then 3 else (Yy n k).zone s) = _
   rw [if_neg (by omega)]; exact ih.1
  ·show (if s = 16 + k then false else (Yy n k).iso s) = _
   rw [if_neg (by omega)]; exact ih.2
theorem zc4 (k : Nat) : ∀ N, k ≤ N → (List.range N).countP (fun f => decide (f < k)) = k
 | 0, h => by simp; omega
 | N + 1, h => by
  rw [List.range_succ, List.countP_append]
  by_cases e : k = N + 1
  ·subst e
   rw [List.countP_eq_length.2 (fun a ha => by simp at ha ⊢; omega)]
   simp
  ·rw [zc4 k N (by omega)]
   simp
   omega
theorem zfo (n m : Nat) (hn : n ≤ 16) : 32 * n ≤ (Yy n m).room := by
 unfold zk.room
 rw [← zc4 (32 * n) 1024 (by omega)]
 refine List.countP_mono_left fun f hf h => ?_
 have h : f < 32 * n := by simpa using h
 unfold zk.Xm
 have z := zmu n m (f / 32) (by omega)
 rw [zci n m f, if_pos (.inl h), z.1, z.2, if_pos (by omega)]
 decide
def Abs.start (file : Int × Int → List UInt8) (cur : Nat → List UInt8) : Abs := ⟨fun _ => none, fun _ _ => .none, file, fun _ => false, cur⟩
theorem zg1 (P : zk) (D : z8) : (za.start RamS.none P D).abs = .start (fun k => if jf k then D.cur (za.vw k) else []) D.cur := by
 unfold za.abs Abs.start
 rw [Abs.mk.injEq]
 refine ⟨rfl, ?_, ?_, rfl, rfl⟩
 ·funext n page
  unfold za.pv
  show (if page < 4096 then PV.none else .none) = .none
  split <;> rfl
 ·funext k
  rfl
theorem U7 (a : Ar) : insA [] a = [a] := rfl
theorem Abs.map_A (X : Abs) (n : Nat) (a : Ar) (L : List Ar) (m : Nat) : (X.map n a L).A m = if m = n then (X.A n).map (fun p => (L, p.2)) else X.A m := rfl
theorem Abs.Vk (X : Abs) (n : Nat) (a : Ar) (L : List Ar) (m pg : Nat) : (X.map n a L).pv m pg = if m = n ∧ pg < 4096 ∧ a.Has (pg : Int) then Jn a else X.pv m pg := rfl
theorem Abs.Xw {X : Abs} {n : Nat} {p : List Ar × List (Int × Int)} (h : X.A n = some p) (pg : Nat) : X.area n pg = zm p.1 (pg : Int) := by
 unfold Abs.area; rw [h]; rfl
end Go.Proofs.YtnhdmnijiphjjaaGreat
