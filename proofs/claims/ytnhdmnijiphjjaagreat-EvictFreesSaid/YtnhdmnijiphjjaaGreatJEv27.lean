/- Processes, in plain words: a store, and a load, in one page: what they leave of all frames, and of the slots. No program in it. -/
import Derived.Test.YtnhdmnijiphjjaaGreatJEv24
import Derived.Test.YtnhdmnijiphjjaaGreatJEv19
import Derived.Test.YtnhdmnijiphjjaaGreatJEv25
import Derived.Test.YtnhdmnijiphjjaaGreatJEv26
import Derived.Test.YtnhdmnijiphjjaaGreatJEv13
import Derived.Lib.SlBytesConst
import Derived.Test.YtnhdmnijiphjjaaGreatJEv23
import Derived.Deep.QuietTactic
import Derived.BigQuiet
import Derived.ProofKit
import Derived.WalkKit
import Derived.Deep.Slices
import Derived.Test.YtnhdmnijiphjjaaGreatJEv11
set_option linter.unusedVariables false
set_option linter.unusedSimpArgs false
/- Processes, in plain words: a store, and a load, in one page: what they leave of all frames, and of the slots. No program in it. -/
namespace Go.Proofs.YtnhdmnijiphjjaaGreat
open Go Go.RowKit
section
variable {F : Nat → Prop} {x y : za}
theorem zbe (x : za) (n page : Nat) {e : Ent} (he : e.kind ≠ 2) (ho : (x.ent n page).kind ≠ 2) : (x.putF n page e).2.S = x.S := by
 unfold za.putF
 cases hp : x.T n with
 | none => rfl
 | some pr =>
  have ho2 : (jo x.R pr.T page).1.kind ≠ 2 := by unfold za.ent at ho; rw [hp] at ho; exact ho
  dsimp only
  split
  ·rfl
  ·split
   ·rfl
   ·split
    ·rfl
    ·show ((x.yz n pr _).puts e (jo x.R pr.T page).1 ((n : Int), (page : Int))).S = _
     rw [zgi, if_neg fun z => ho2 z.1]
     unfold za.put2
     rw [if_neg he]
     rfl
theorem zk1 (x : za) (n : Nat) (at_ : Int) : (x.qa n at_).S = x.S := (zf7 x n at_).2.2.2.2.1
theorem zhd (h : WF x) (u : Nat) : (x.yn u).2.S = x.S ∧ ∀ m pg, pg < 4096 → (x.yn u).2.ent m pg = x.ent m pg := by
 rcases h.yn u with ⟨_, e⟩ | ⟨f, _, e, d⟩
 ·rw [e]; exact ⟨rfl, fun _ _ _ => rfl⟩
 ·rw [e]; exact ⟨d.keep.2.2.1, d.ent⟩
theorem zjh (h : WF x) (u sec : Nat) (h2 : 2 ≤ u) (h5 : u ≤ 5) (hs : (x.D.cur sec).length = 64) : (x.zo u sec).2.S = x.S ∧ ∀ m pg, pg < 4096 → (x.zo u sec).2.ent m pg = x.ent m pg := by
 rcases h.zo u sec h2 h5 hs with ⟨_, e⟩ | ⟨f, _, _, e, d, _⟩ | ⟨f, _, hw, e, d, _⟩
 ·rw [e]; exact ⟨rfl, fun _ _ _ => rfl⟩
 ·exact ⟨d.keep.2.2.1, d.ent⟩
 ·exact ⟨d.keep.2.2.1, d.ent⟩
theorem zji (h : WF x) (g : Int) : (x.yj g).2.S = x.S ∧ ∀ m pg, pg < 4096 → (x.yj g).2.ent m pg = x.ent m pg := by
 rcases h.yj g with ⟨_, e⟩ | ⟨f, _, _, e, d, _⟩ | ⟨f, _, hw, e, d, _⟩
 ·rw [e]; exact ⟨rfl, fun _ _ _ => rfl⟩
 ·exact ⟨d.keep.2.2.1, d.ent⟩
 ·exact ⟨d.keep.2.2.1, d.ent⟩
theorem zfn (x : za) (k : Int × Int) (f : Int) : (x.ve k f).S = x.S ∧ ∀ m pg, (x.ve k f).ent m pg = x.ent m pg := by
 unfold za.ve
 split
 ·exact ⟨rfl, fun _ _ => rfl⟩
 ·exact ⟨rfl, fun _ _ => rfl⟩
theorem zmg (h : WF x) {k : Int × Int} (hk : xk k) : (x.xz k).2.S = x.S ∧ ∀ m pg, pg < 4096 → (x.xz k).2.ent m pg = x.ent m pg := by
 unfold za.xz
 cases getL x.CL k with
 | some v => exact ⟨rfl, fun _ _ _ => rfl⟩
 | none =>
  dsimp only
  have d := zjh h 4 (za.ym k) (by omega) (by omega) (h.secs _ (Yc hk))
  split
  ·obtain ⟨c1, c2⟩ := zfn (x.zo 4 (za.ym k)).2 k (x.zo 4 (za.ym k)).1.1
   exact ⟨c1.trans d.1, fun m pg hp => (c2 m pg).trans (d.2 m pg hp)⟩
  ·exact d
theorem zjj (h : WF x) {n page : Nat} {pr : yf} (hp : x.T n = some pr) (hpg : page < 4096) {a : Ar} (ha : yc pr.A (page : Int) = some a) (ho : (x.ent n page).kind ≠ 2) : (x.qz n page a).2.S = x.S := by
 unfold za.qz
 by_cases k : a.kind ≠ 1
 ·rw [if_pos k]
  have d := zmg h (V4 (h.jm n pr hp).1 ha k)
  split
  ·exact (zbe _ n page (by show (1 : Nat) ≠ 2; omega) (by rw [d.2 n page hpg]; exact ho)).trans d.1
  ·exact d.1
 ·rw [if_neg k]
  have d := zhd h 3
  split
  ·split
   ·exact (zbe _ n page (by show (1 : Nat) ≠ 2; omega) (by rw [d.2 n page hpg]; exact ho)).trans d.1
   ·rw [(Yi _ _).2.2.1]
    exact (zbe _ n page (by show (1 : Nat) ≠ 2; omega) (by rw [d.2 n page hpg]; exact ho)).trans d.1
  ·exact d.1
theorem ze0 (h : WF x) {n page : Nat} {pr : yf} (hp : x.T n = some pr) (hpg : page < 4096) {a : Ar} (ha : yc pr.A (page : Int) = some a) (ho : (x.ent n page).kind ≠ 2) : (x.zt n page a).2.S = x.S := by
 unfold za.zt
 split
 ·exact zk1 _ _ _
 ·split
  ·exact zjj h hp hpg ha ho
  ·rfl
theorem ownF_S (h : WF x) {n page : Nat} (hpg : page < 4096) (a : Ar) (f : Int) (ho : (x.ent n page).kind ≠ 2) : (x.ownF n page a f).2.S = x.S := by
 unfold za.ownF
 split
 ·unfold za.zy; rfl
 ·split
  ·exact zbe _ n page (by show (1 : Nat) ≠ 2; omega) ho
  ·have d := zji h f
   split
   ·exact (zbe _ n page (by show (1 : Nat) ≠ 2; omega) (by rw [d.2 n page hpg]; exact ho)).trans d.1
   ·exact d.1
theorem Ok0.ask_S (h : Ok0 x) {n page : Nat} {pr : yf} (hp : x.T n = some pr) (hpg : page < 4096) (wr : Bool) (ho : (x.ent n page).kind ≠ 2) : (x.askF n page wr).2.S = x.S := by
 unfold za.askF
 rw [hp]
 dsimp only
 cases ha : yc pr.A (page : Int) with
 | none => rfl
 | some a =>
  dsimp only
  have hS := ze0 h.ok.wf hp hpg ha ho
  split
  ·rfl
  ·split
   ·rename_i z
    rcases h.ok.zt h.out hp hpg ha with ⟨_, e⟩ | ⟨_, g, fr⟩
    ·rw [e] at z; simp at z
    ·exact (ownF_S g.ok.wf hpg a _ (by rw [(fr z.1).1]; omega)).trans hS
   ·exact hS
structure zmr (x : za) (n page : Nat) (a : Ar) (at_ : Nat) (b : List UInt8) (f : Nat) (y : za) : Prop where
 ok : Ok0 y
 abs : y.abs = (x.abs.own a n page).write a n page at_ b
 keeps : uo 5 x y
 disk : y.D = x.D
 mine : Mine y a n page f
 ent1 : ∀ m pg, pg < 4096 → ¬ (m = n ∧ pg = page) → (x.ent m pg).kind = 1 → y.ent m pg = x.ent m pg
 backs : ∀ (m pg g : Nat), m < 8 → pg < 4096 → ¬ (m = n ∧ pg = page) → g < 1024 → x.P.use g = 3 → x.B g = [plc m pg] → y.B g = [plc m pg] ∧ y.P.use g = 3
 cr : ∀ g k, getL x.CR g = some k → getL y.CR g = some k
 slots : (x.ent n page).kind ≠ 2 → y.S = x.S
 eq : ∃ z f' c, x.askF n page true = ((f', c), z) ∧ y.P = z.P ∧ y.B = z.B ∧ y.T = z.T ∧ y.CL = z.CL ∧ y.CR = z.CR ∧ f' = (f : Int)
theorem Ok0.zdr (h : Ok0 x) {n : Nat} {a0 : Nat} {b : List UInt8} {a : Ar} (h0 : 0 < b.length) (h1 : a0 % 64 + b.length ≤ 64) (h2 : a0 + b.length ≤ 262144) (hc : zat x.abs n (a0 / 64) a) (hw : a.write = true) (hroom : 5 ≤ x.P.room) (hcalm : x.D.Calm) :
  x.xx n a0 b.length = 0 ∧ ∃ y f, x.qx n a0 b = (0, y) ∧ zmr x n (a0 / 64) a (a0 % 64) b f y := by
 have hpg : a0 / 64 < 4096 := by omega
 have hs : (x.T n).isSome = true := by
  have := hc.area
  cases hp : x.T n with
  | none => unfold Abs.area za.abs at this; dsimp only at this; rw [hp] at this; cases this
  | some _ => rfl
 have hr : x.xx n a0 b.length = 0 := by
  unfold za.xx
  rw [if_neg, if_neg (by omega)]
  rintro (k | k)
  ·omega
  ·rw [Int.toNat_natCast, hs] at k; cases k
 refine ⟨hr, ?_⟩
 obtain ⟨ask0, hD⟩ := h.askOk hpg hc (wr := true) (fun _ => hw) hroom hcalm
 obtain ⟨pr0, hp0⟩ := Option.isSome_iff_exists.1 hs
 have hSS := h.ask_S hp0 hpg true
 have hn8 := h.ok.Xm h.out hp0
 unfold za.qx
 rw [if_pos hr]
 simp only [Int.toNat_natCast]
 have hone := Vy n true x a0 b.length h0 h1
 rw [if_pos ask0] at hone
 rcases h.pieces hs true h0 (by omega) h2 with ⟨e, _⟩ | ⟨_, f, a1, y, e, ha, g⟩ | ⟨e, _⟩
 ·rw [hone] at e
  exact absurd rfl e
 ·have hz : (x.askF n (a0 / 64) true).2 = y ∧ (x.askF n (a0 / 64) true).1.1.toNat = f := by
   rw [hone] at e
   have e1 := congrArg Prod.snd e
   have e2 := congrArg (fun z => z.1.1) e
   dsimp only at e1 e2
   exact ⟨e1, congrArg Pc.f (List.cons.inj e2).1⟩
  rw [e]
  dsimp only
  rw [if_pos rfl]
  have haa : a1 = a := by rw [hc.area] at ha; cases ha; rfl
  subst haa
  have hab : y.abs = x.abs.own a1 n (a0 / 64) := g.abs rfl
  obtain ⟨q, hq, hm⟩ := g.mine rfl rfl
  have hqf : q = f := by omega
  subst hqf
  have hs2 : (y.T n).isSome = true := by rw [g.keeps.some]; exact hs
  obtain ⟨pr, hp⟩ := Option.isSome_iff_exists.1 hs2
  have har : yc pr.A ((a0 / 64 : Nat) : Int) = some a1 := by
   rw [← Ym hp, hab, ← ha]
   unfold Abs.area Abs.own
   split <;> rfl
  obtain ⟨w1, w2, w3⟩ := g.ok.wr1 hp hpg har hm (a0 % 64) b h1
  have ew : za.Yp [⟨q, a0 % 64, b.length⟩] b y.R = y.R.write q (a0 % 64) b := by simp [za.Yp]
  rw [ew]
  have k := g.keeps
  refine ⟨_, q, rfl, w1, by rw [w2, hab], ⟨k.zone, k.room, k.bad, k.fix, k.some⟩, hD q a1 y g, ⟨hm.lt, by rw [w3 n _ hpg]; exact hm.ent, hm.shared, hm.own⟩, fun m pg hp2 hne hk => by rw [w3 m pg hp2]; exact g.ent1 m pg hp2 hne hk, g.backs, g.cr, fun z => by rw [← hz.1] ; exact hSS z, ?_⟩
  obtain ⟨⟨f1, c1⟩, z1⟩ : ∃ r, r = x.askF n (a0 / 64) true := ⟨_, rfl⟩
  have hnat := zao h.ok.wf hp0 hpg true
  obtain ⟨fn, hfn⟩ := hnat
  refine ⟨y, (x.askF n (a0 / 64) true).1.1, (x.askF n (a0 / 64) true).1.2, ?_, rfl, rfl, rfl, rfl, rfl, by have := hz.2; omega⟩
  rw [← hz.1]
 ·omega
structure zmx (x : za) (n page : Nat) (y : za) : Prop where
 ok : Ok0 y
 abs : y.abs = x.abs
 keeps : uo 5 x y
 disk : y.D = x.D
 frame : (y.ent n page).kind = 1
 ent1 : ∀ m pg, pg < 4096 → ¬ (m = n ∧ pg = page) → (x.ent m pg).kind = 1 → y.ent m pg = x.ent m pg
 backs : ∀ (m pg g : Nat), m < 8 → pg < 4096 → ¬ (m = n ∧ pg = page) → g < 1024 → x.P.use g = 3 → x.B g = [plc m pg] → y.B g = [plc m pg] ∧ y.P.use g = 3
 cr : ∀ g k, getL x.CR g = some k → getL y.CR g = some k
 slots : (x.ent n page).kind ≠ 2 → y.S = x.S
 eq : (x.askF n page false).2 = y
theorem Ok0.loadQ (h : Ok0 x) {n : Nat} (hn : n < 8) {a0 s : Nat} {a : Ar} (h0 : 0 < s) (h1 : a0 % 64 + s ≤ 64) (h2 : a0 + s ≤ 262144) (hc : zat x.abs n (a0 / 64) a) (hroom : 5 ≤ x.P.room) (hcalm : x.D.Calm) :
  ∃ y, x.Xn n a0 s = ((((x.abs.ct a n (a0 / 64)).drop (a0 % 64)).take s, 0), y) ∧ zmx x n (a0 / 64) y := by
 have hpg : a0 / 64 < 4096 := by omega
 have hs : (x.T n).isSome = true := by
  have := hc.area
  cases hp : x.T n with
  | none => unfold Abs.area za.abs at this; dsimp only at this; rw [hp] at this; cases this
  | some _ => rfl
 have hr : x.xx n a0 s = 0 := by
  unfold za.xx
  rw [if_neg, if_neg (by omega)]
  rintro (k | k)
  ·omega
  ·rw [Int.toNat_natCast, hs] at k; cases k
 obtain ⟨ask0, hD⟩ := h.askOk hpg hc (wr := false) (fun e => by cases e) hroom hcalm
 obtain ⟨pr0, hp0⟩ := Option.isSome_iff_exists.1 hs
 have hSS := h.ask_S hp0 hpg false
 unfold za.Xn
 rw [if_pos hr]
 simp only [Int.toNat_natCast]
 have hone := Vy n false x a0 s h0 h1
 rw [if_pos ask0] at hone
 rcases h.pieces hs false h0 (by omega) h2 with ⟨e, _⟩ | ⟨_, f, a1, y, e, ha, g⟩ | ⟨e, _⟩
 ·rw [hone] at e
  exact absurd rfl e
 ·have hz : (x.askF n (a0 / 64) false).2 = y := by
   rw [hone] at e
   exact congrArg Prod.snd e
  rw [e]
  dsimp only
  rw [if_pos rfl]
  have haa : a1 = a := by rw [hc.area] at ha; cases ha; rfl
  subst haa
  have hab : y.abs = x.abs := g.abs rfl
  refine ⟨y, ?_, g.ok, hab, g.keeps, hD f a1 y g, (g.frame rfl).1, g.ent1, g.backs, g.cr, fun z => by rw [← hz]; exact hSS z, hz⟩
  have hb := g.bytes hn hpg (by rw [hab]; exact ha)
  have : Z4 y.R [⟨f, a0 % 64, s⟩] = ((x.abs.ct a1 n (a0 / 64)).drop (a0 % 64)).take s := by
   unfold Z4
   simp only [List.flatMap_cons, List.flatMap_nil, List.append_nil]
   rw [zdx _ _ _ _ h1, hb, hab]
  rw [this]
 ·omega
end
end Go.Proofs.YtnhdmnijiphjjaaGreat
/- A law's start: a process with pages of its own, and pages of a file, shared, and private: its state, in plain words. -/
namespace Go.Proofs.YtnhdmnijiphjjaaGreat
open Go Go.RowKit
section
variable {w0 w w' : World} {V : List (Value × List Value)} {q : Sq} {x : za}
theorem AtQ.spawn (h : AtQ w0 V q x w) (ok : Ok0 x) (n g : Nat) (hn : n < 8) (hx : x.T n = none) (hg : x.P.next false = some g) :
  Calls Tryz.prog 17 #[ptrV q.sp, .int .i64 n] w fun e w' => e = .returned (.int .i64 0) ∧ ∃ u, AtQ w0 V (q.at_ n u) (x.qy n g) w' := by
 obtain ⟨⟨tag, hS, low, hV⟩, hb⟩ := h
 obtain ⟨hg1, hav, hgu⟩ := Yw hg
 refine (zfq hS n hn hx g hg hg1 (ok.ok.wf.uu hg1 (by omega))).mono ?_
 rintro e w1 ⟨rfl, tag1, u, hS1, s1⟩
 obtain ⟨a, b, c⟩ := Zc (CS0 n) s1 hb low hV
 exact ⟨rfl, u, ⟨tag1, hS1, a, b⟩, c⟩
theorem AtQ.map (h : AtQ w0 V q x w) (ok : Ok0 x) (n : Nat) {pr : yf} (hp : x.T n = some pr) (a : Ar) (ha : a.xm) (hwf : a.Wf) (hno : anyA a pr.A = false) (hlen : pr.A.length < 16) :
  Calls Tryz.prog 18 #[ptrV q.sp, .int .i64 n, a.enc] w fun e w' => e = .returned (.int .i64 0) ∧ AtQ w0 V q (x.put n ⟨pr.T, insA pr.A a, pr.Q⟩) w' := by
 obtain ⟨⟨tag, hS, low, hV⟩, hb⟩ := h
 have hn := ok.ok.Xm ok.out hp
 refine (zj7 hS n pr hn hp a hwf (by omega)).mono ?_
 rintro e w1 ⟨Y, A', tag1, rfl, hres, hS1, s1⟩
 obtain ⟨a1, b1, c1⟩ := Zc (C := fun c => c = 20 + n) (by omega) s1 hb low hV
 rcases hres with ⟨_, _, _, rfl, hperm, hsort⟩ | ⟨_, _, ⟨q1, _⟩ | ⟨_, q1, _⟩ | ⟨_, _, q1, _⟩⟩
 ·have hL := zh9 (ok.ok.wf.jm n pr hp).1 ha hno hperm hsort
  rw [hL] at hS1
  exact ⟨rfl, ⟨tag1, hS1, a1, b1⟩, c1⟩
 ·exact absurd ha q1
 ·rw [hno] at q1; cases q1
 ·omega
end
def je : Nat → zk
 | 0 => zk.none.on 0 2 32
 | k + 1 => (je k).on (1 + k) 3 32
theorem X7 (m f : Nat) : (je m).use f = if f < 32 * (1 + m) then 1 else 0 := by
 induction m with
 | zero =>
  show (if 32 * 0 ≤ f ∧ f < 32 * 0 + 32 then (if (0 : Nat) = 6 then 6 else 1) else 0) = _
  by_cases h : f < 32 * (1 + 0)
  ·rw [if_pos h, if_pos (by omega)]; rfl
  ·rw [if_neg h, if_neg (by omega)]
 | succ k ih =>
  show (if 32 * (1 + k) ≤ f ∧ f < 32 * (1 + k) + 32 then (if (je k).use f = 6 then 6 else 1) else (je k).use f) = _
  rw [ih]
  by_cases h1 : f < 32 * (1 + k)
  ·rw [if_pos h1, if_neg (by omega), if_pos (by omega)]
  ·rw [if_neg h1]
   by_cases h2 : f < 32 * (1 + (k + 1))
   ·rw [if_pos (by omega), if_pos h2]; rfl
   ·rw [if_neg (by omega), if_neg h2]
theorem zcy (m s : Nat) : (je m).zone s = (if s = 0 then 2 else if s < 1 + m then 3 else 0) ∧ (je m).iso s = false := by
 induction m with
 | zero =>
  refine ⟨?_, ?_⟩
  ·show (if s = 0 then 2 else 0) = _
   by_cases h : s = 0
   ·rw [if_pos h, if_pos h]
   ·rw [if_neg h, if_neg h, if_neg (by omega)]
  ·show (if s = 0 then false else false) = false
   split <;> rfl
 | succ k ih =>
  refine ⟨?_, ?_⟩
  ·show (if s = 1 + k then 3 else (je k).zone s) = _
   rw [ih.1]
   by_cases h1 : s = 1 + k
   ·rw [if_pos h1, if_neg (by omega), if_pos (by omega)]
   ·rw [if_neg h1]
    by_cases h0 : s = 0
    ·rw [if_pos h0, if_pos h0]
    ·rw [if_neg h0, if_neg h0]
     by_cases h2 : s < 1 + k
     ·rw [if_pos h2, if_pos (by omega)]
     ·rw [if_neg h2, if_neg (by omega)]
  ·show (if s = 1 + k then false else (je k).iso s) = _
   rw [ih.2]; split <;> rfl
theorem Ji (m : Nat) : 32 ≤ (je m).room := by
 unfold zk.room
 have := zb8 32 1024 (by omega)
 refine Nat.le_trans (Nat.le_of_eq this.symm) ?_
 refine List.countP_mono_left fun f hf h => ?_
 have h : f < 32 := by simpa using h
 unfold zk.Y3
 have z := zcy m (f / 32)
 rw [X7 m f, if_pos (by omega), z.1, z.2, if_pos (by omega)]
 decide
def arO : Ar := ⟨0, 8, true, 1, 0, 0⟩
def arS : Ar := ⟨8, 8, true, 2, 0, 0⟩
def arP : Ar := ⟨16, 8, true, 3, 0, 4⟩
theorem Vn : (arO.xm ∧ arO.Wf) ∧ (arS.xm ∧ arS.Wf) ∧ (arP.xm ∧ arP.Wf) :=
 ⟨⟨by decide, by unfold Ar.Wf; decide⟩, ⟨by decide, by unfold Ar.Wf; decide⟩, ⟨by decide, by unfold Ar.Wf; decide⟩⟩
theorem Zn : insA [arO] arS = [arO, arS] ∧ insA [arO, arS] arP = [arO, arS, arP] ∧ anyA arO [] = false ∧ anyA arS [arO] = false ∧ anyA arP [arO, arS] = false   := by
 refine ⟨rfl, rfl, rfl, ?_, ?_⟩ <;> unfold anyA X9 <;> simp [arO, arS, arP, wrap64]
def absK (D : zq) : Abs := ((((Abs.start (fun k => if xk k then D.cur (za.ym k) else []) D.cur).spawn 0).map 0 arO [arO]).map 0 arS [arO, arS]).map 0 arP [arO, arS, arP]
structure StK (m : Nat) (D : zq) (x : za) : Prop where
 ok : Ok0 x
 abs : x.abs = absK D
 use : ∀ f, x.P.use f = if f < 32 * (1 + m) then (if f < 32 ∧ x.P.use f = 2 then 2 else 1) else 0
 zone : x.P.zone = (je m).zone ∧ x.P.iso = (je m).iso
 room : 31 ≤ x.P.room
 disk : x.D = D
 cache : x.CL = [] ∧ x.CR = []
 back : ∀ f, x.B f = []
 slots : ∀ k, x.S.getD k [] = []
 proc : ∃ T, x.T 0 = some ⟨T, [arO, arS, arP], []⟩
 none : ∀ n, n ≠ 0 → x.T n = none
 ents : ∀ n pg, n < 8 → pg < 4096 → (x.ent n pg).kind = 0
theorem zgg (k n : Nat) : (List.replicate n ([] : List (Int × Int))).getD k [] = [] := by
 rw [List.getD_eq_getElem?_getD, List.getElem?_replicate]
 split <;> rfl
structure StI (m : Nat) (D : zq) (A : List Ar) (X : Abs) (x : za) : Prop where
 ok : Ok0 x
 abs : x.abs = X
 use : ∀ f, x.P.use f = if f < 32 * (1 + m) then (if f < 32 ∧ x.P.use f = 2 then 2 else 1) else 0
 zone : x.P.zone = (je m).zone ∧ x.P.iso = (je m).iso
 room : 31 ≤ x.P.room
 disk : x.D = D
 cache : x.CL = [] ∧ x.CR = []
 back : ∀ f, x.B f = []
 slots : ∀ k, x.S.getD k [] = []
 proc : ∃ T, x.T 0 = some ⟨T, A, []⟩
 none : ∀ n, n ≠ 0 → x.T n = none
theorem zi4 {P : zk} (h : 0 < P.room) : ∃ g, P.next false = some g := by
 cases hn : P.next false with
 | some g => exact ⟨g, rfl⟩
 | none => have := Qb hn; omega
theorem StI.start {m : Nat} {D : zq} (hD : ∀ s, s < 192 → (D.cur s).length = 64) {g : Nat} (hg : (je m).next false = some g) : StI m D [] ((Abs.start (fun k => if xk k then D.cur (za.ym k) else []) D.cur).spawn 0) ((za.start RamS.none (je m) D).qy 0 g) := by
 have ok0 := zds (je m) D (fun f => by rw [X7]; split <;> omega) hD
 have hg' : (za.start RamS.none (je m) D).P.next false = some g := hg
 obtain ⟨k1, k2, k3, k4⟩ := ok0.spawn (n := 0) (by omega) rfl hg'
 obtain ⟨hg1, hav, hgu⟩ := Yw hg
 have hg32 : g < 32 := by
  have h0 : (je m).zone (g / 32) = 2 := by
   unfold zk.Y3 at hav
   simp only [decide_eq_true_eq] at hav
   exact hav.2.1
  rw [(zcy m (g / 32)).1] at h0
  by_cases e : g / 32 = 0
  ·omega
  ·rw [if_neg e] at h0; split at h0 <;> omega
 have hu : ∀ f, ((za.start RamS.none (je m) D).qy 0 g).P.use f = if f = g then 2 else (je m).use f := fun _ => rfl
 refine ⟨k1, by rw [k2, zf8], fun f => ?_, ⟨rfl, rfl⟩, ?_, k4, ⟨rfl, rfl⟩, fun _ => rfl, fun k => zgg k 32, ⟨⟨g, [g]⟩, rfl⟩, fun n hn => if_neg hn⟩
 ·rw [hu, X7]
  by_cases e : f = g
  ·rw [if_pos e, if_pos (by omega), if_pos ⟨by omega, rfl⟩]
  ·rw [if_neg e]
   by_cases h : f < 32 * (1 + m)
   ·rw [if_pos h, if_pos h, if_neg (by omega)]
   ·rw [if_neg h, if_neg h]
 ·have := Ji m
  have k3 : (je m).room ≤ _ := k3
  omega
theorem StI.map {m : Nat} {D : zq} {A : List Ar} {X : Abs} {x : za} (h : StI m D A X x) {T : Zp} (hT : x.T 0 = some ⟨T, A, []⟩) {a : Ar} (ha : a.xm) (hno : anyA a A = false) (hlen : A.length < 16) (hperm : (insA A a).Perm (A ++ [a])) (hsort : (insA A a).Pairwise fun x y => ¬ y.from_ < x.from_) :
  StI m D (insA A a) (X.map 0 a (insA A a)) (x.put 0 ⟨T, insA A a, []⟩) := by
 obtain ⟨k1, k2⟩ := h.ok.map hT ha hno hlen hperm hsort
 refine ⟨k1, by rw [k2, h.abs], h.use, h.zone, h.room, h.disk, h.cache, h.back, h.slots, ⟨T, by simp [za.put]⟩, fun n hn => ?_⟩
 show (if n = 0 then _ else x.T n) = Option.none
 rw [if_neg hn]
 exact h.none n hn
theorem StI.done {m : Nat} {D : zq} {x : za} (h : StI m D [arO, arS, arP] (absK D) x) : StK m D x := by
 refine ⟨h.ok, h.abs, h.use, h.zone, h.room, h.disk, h.cache, h.back, h.slots, h.proc, h.none, fun n pg hn hp => ?_⟩
 have hk : (x.ent n pg).kind ≤ 3 := by
  have := h.ok.ok.wf.Zy n hp
  unfold Ent.ok at this
  simp only [Bool.and_eq_true, decide_eq_true_eq] at this
  exact this.1.1
 by_cases e0 : (x.ent n pg).kind = 0
 ·exact e0
 by_cases e1 : (x.ent n pg).kind = 1
 ·obtain ⟨f, q1, q2, q3, _⟩ := h.ok.ok.frame hn hp e1
  rw [h.back] at q3; cases q3
 by_cases e2 : (x.ent n pg).kind = 2
 ·have hr := (Ent.ok_n (h.ok.ok.wf.Zy n hp)).2 e2
  have := (h.ok.ok.slotE (x.ent n pg).n.toNat n pg (by omega) hn hp).2 ⟨e2, by omega⟩
  rw [h.slots] at this; cases this
 have e3 : (x.ent n pg).kind = 3 := by omega
 exfalso
 cases hT : x.T n with
 | none => rw [Zz hT] at e0; exact e0 rfl
 | some pr =>
  obtain ⟨a, ha⟩ := (h.ok.ok.area n pr pg hT hp).find e0
  have hpv := Ye hT ha
  unfold za.pv1 at hpv
  rw [if_pos e3] at hpv
  have hab : x.abs.pv n pg = .lost := by
   show (if pg < 4096 then x.pv n pg else .none) = _
   rw [if_pos hp, hpv]
  rw [h.abs] at hab
  unfold absK at hab
  rw [Abs.Jn] at hab
  split at hab
  ·unfold Qx at hab; split at hab <;> cases hab
  ·rw [Abs.Jn] at hab
   split at hab
   ·unfold Qx at hab; split at hab <;> cases hab
   ·rw [Abs.Jn] at hab
    split at hab
    ·unfold Qx at hab; split at hab <;> cases hab
    ·cases hab
end Go.Proofs.YtnhdmnijiphjjaaGreat
/- Law 20, in plain words: the start's pages, and what a store, and a page that goes out, leave of them. No program in it. -/
namespace Go.Proofs.YtnhdmnijiphjjaaGreat
open Go Go.RowKit
def arK (p : Nat) : Ar := if p < 8 then arO else if p < 16 then arS else arP
theorem Vo (p : Nat) : (arK p).write = true := by unfold arK; split; rfl; split <;> rfl
section
variable {X : Abs} {a b : Ar} {n m p q at_ : Nat} {l : List UInt8}
theorem PgOk.any (h : PgOk X b m q) (g : PgOk X a n p) (hl : at_ + l.length ≤ 64) : PgOk ((X.own a n p).write a n p at_ l) b m q := by
 by_cases e : m = n ∧ q = p
 ·obtain ⟨rfl, rfl⟩ := e
  have hab : b = a := by have := h.area; rw [g.area] at this; exact (Option.some.inj this).symm
  subst hab
  exact (g.own q).write fun _ => hl
 ·have hpv : ((X.own a n p).write a n p at_ l).pv m q = X.pv m q := by
   by_cases k : a.kind = 2
   ·rw [(Yq X a n p at_ l k).1]
   ·rw [(za6 X a n p at_ l k).1, if_neg e]
  refine ⟨by rw [Jb]; exact h.area, by rw [hpv]; exact h.there, fun k => by rw [hpv]; exact h.shared k, ?_⟩
  have hlen := h.len
  unfold Abs.ct at hlen ⊢
  rw [hpv]
  cases hx : X.pv m q with
  | own l' => rw [hx] at hlen; exact hlen
  | none => simp
  | lost => simp
  | file =>
   rw [hx] at hlen
   dsimp only at hlen ⊢
   by_cases k : a.kind = 2
   ·rw [(Yq X a n p at_ l k).2]
    split
    ·rename_i e2
     rw [Jd]
     ·exact hlen
     ·rw [hlen]; exact hl
    ·exact hlen
   ·rw [(za6 X a n p at_ l k).2]; exact hlen
theorem PgOk.cur (h : PgOk X a n p) (s : Nat) (l : List UInt8) : PgOk (X.Jf s l) a n p := ⟨h.area, h.there, h.shared, h.len⟩
end
theorem zia {D : zq} (hD : ∀ s, s < 192 → (D.cur s).length = 64) {p : Nat} (hp : p < 24) : PgOk (absK D) (arK p) 0 p := by
 have hf : ∀ k, (absK D).file k = if xk k then D.cur (za.ym k) else [] := fun k => rfl
 have hpv : (absK D).pv 0 p = Qx (arK p) := by
  unfold absK
  rw [Abs.Jn, Abs.Jn, Abs.Jn]
  unfold arK
  by_cases h1 : p < 8
  ·rw [if_neg (by unfold Ar.Has arP; dsimp only; omega), if_neg (by unfold Ar.Has arS; dsimp only; omega), if_pos ⟨rfl, by omega, by unfold Ar.Has arO; dsimp only; omega⟩, if_pos h1]
  ·rw [if_neg h1]
   by_cases h2 : p < 16
   ·rw [if_neg (by unfold Ar.Has arP; dsimp only; omega), if_pos ⟨rfl, by omega, by unfold Ar.Has arS; dsimp only; omega⟩, if_pos h2]
   ·rw [if_pos ⟨rfl, by omega, by unfold Ar.Has arP; dsimp only; omega⟩, if_neg h2]
 have har : (absK D).area 0 p = some (arK p) := by
  have hA : (absK D).A 0 = some ([arO, arS, arP], []) := rfl
  rw [Abs.zmp hA]
  show yc [arO, arS, arP] (p : Int) = _
  rw [Xb, Xb, Xb]
  unfold arK
  by_cases h1 : p < 8
  ·rw [if_pos h1, if_pos (by unfold arO; dsimp only; omega)]
  ·rw [if_neg h1, if_neg (by unfold arO; dsimp only; omega)]
   by_cases h2 : p < 16
   ·rw [if_pos h2, if_pos (by unfold arS; dsimp only; omega)]
   ·rw [if_neg h2, if_neg (by unfold arS; dsimp only; omega), if_pos (by unfold arP; dsimp only; omega)]
 refine ⟨har, ?_, fun k => ?_, ?_⟩
 ·rw [hpv]; unfold Qx; split <;> intro z <;> cases z
 ·rw [hpv]; unfold Qx; rw [if_neg (by omega)]
 ·unfold Abs.ct
  rw [hpv]
  unfold Qx
  by_cases k1 : (arK p).kind = 1
  ·rw [if_pos k1]; simp
  ·rw [if_neg k1]
   have h8 : ¬ p < 8 := fun z => k1 (by unfold arK; rw [if_pos z]; rfl)
   dsimp only
   have hk : xk (za.keyF (arK p) p) := by
    unfold xk za.keyF arK
    rw [if_neg h8]
    by_cases h2 : p < 16
    ·rw [if_pos h2]; unfold arS; dsimp only; omega
    ·rw [if_neg h2]; unfold arP; dsimp only; omega
   rw [hf, if_pos hk]
   exact hD _ (Yc hk)
section
variable {x y : za} {D : zq}
theorem zec : ∀ (L : List (List (Int × Int))) (k : Nat) (l : List (Int × Int)), k < L.length → l ≠ [] → (∀ j, j < L.length → L.getD j [] = if j = k then l else []) → Xf L = 1
 | [], k, l, h, _, _ => by simp at h
 | a :: L, 0, l, h, hl, hj => by
  have h0 := hj 0 (by simp)
  simp at h0
  have hr : Xf L = 0 := by
   unfold Xf
   rw [List.countP_eq_zero]
   intro z hz
   obtain ⟨i, hi, rfl⟩ := List.getElem_of_mem hz
   have := hj (i + 1) (by simp; omega)
   simp at this
   rw [List.getElem?_eq_getElem hi] at this
   simp at this
   simp [this]
  unfold Xf at hr ⊢
  rw [List.countP_cons, hr, h0]
  simp [hl]
 | a :: L, k + 1, l, h, hl, hj => by
  have h0 := hj 0 (by simp)
  simp at h0
  have ih := zec L k l (by simp at h; omega) hl fun j hj2 => by
   have := hj (j + 1) (by simp; omega)
   simpa using this
  unfold Xf at ih ⊢
  rw [List.countP_cons, ih, h0]
  simp
theorem za4 (h : WF x) (hS : ∀ k, x.S.getD k [] = []) : ∃ k : Nat, Yo x.S = ((k : Int), true) ∧ k < 32 := by
 rcases Xk x.S with ⟨k, h1, h2, _⟩ | ⟨_, h2⟩
 ·exact ⟨k, h1, by rw [h.slots.1] at h2; exact h2⟩
 ·exfalso
  have hl : 0 < x.S.length := by rw [h.slots.1]; omega
  refine h2 x.S[0] (List.getElem_mem hl) ?_
  have := hS 0
  rw [List.getD_eq_getElem?_getD, List.getElem?_eq_getElem hl] at this
  simpa using this
theorem zae (h : Ok0 x) {a : Ar} {n p f : Nat} (hn : n < 8) (hp : p < 4096) (m : Mine x a n p f) (hk : a.kind ≠ 2) : x.P.use f = 3 ∧ x.B f = [plc n p] := by
 obtain ⟨m1, m2⟩ := m.own hk
 obtain ⟨g, q1, q2, q3, q4, q5⟩ := h.ok.frame hn hp m.ent.1
 have : g = f := by have := m.ent.2; omega
 subst this
 refine ⟨?_, m2⟩
 rcases q4 with z | z
 ·exact z
 ·have := (h.ok.cached g q2).1 z
  rw [m1] at this; cases this
theorem zc2 (h : Ok0 x) {a : Ar} {n p f : Nat} (m : Mine x a n p f) (hk : a.kind = 2) : x.P.use f = 4 ∧ (getL x.CL (za.keyF a p)).isSome = true ∧ x.cfr (za.keyF a p) = f ∧ x.xg (za.keyF a p) = true := by
 obtain ⟨m1, m2⟩ := m.shared hk
 obtain ⟨d, hd⟩ := (h.ok.cacheE _ _).2 m1
 refine ⟨(h.ok.cached f m.lt).2 (by rw [m1]; rfl), by rw [hd]; rfl, ?_, m2⟩
 unfold za.cfr
 rw [hd]; rfl
end
end Go.Proofs.YtnhdmnijiphjjaaGreat
/- Law 20's start: what fresh answers and leaves. -/
namespace Go.Proofs.YtnhdmnijiphjjaaGreat
open Go Go.RowKit
theorem Vi (s : Nat) : (zq.none.cur s).length = 64 := by simp [zq.none, zq.cur]
set_option maxRecDepth 100000 in
set_option maxHeartbeats 1000000 in
theorem Zx (w : World) : Calls Tryz.prog 25 #[] w fun e w' => ∃ q x, e = .returned (ptrV q.sp) ∧ AtQ w [] q x w' ∧ StK 1 zq.none x := by
 go_enter Tryz.func25, Tryz.ntmps25
 go_wp2_with fail
 refine (ziy w).mono ?_
 rintro e w1 ⟨rfl, hp, hb, hz⟩
 obtain ⟨tag1, ht1⟩ : ∃ tag1, tag1 = retag (fun _ => 0) w 2 := ⟨_, rfl⟩
 have e1 : Hid ((∀ b, w.heap.size ≤ b → tag1 b = 2) ∧ ∀ b, b < w.heap.size → tag1 b = 0) := by rw [ht1]; exact ⟨fun b hb => zx _ _ _ _ hb, fun b hb => if_pos hb⟩
 have HP : Hid (z8 w1 (fun b => tag1 b = 2) (w.heap.size + 2) (w.heap.size + 1) w.heap.size zk.none ∧ Below w.heap.size w w1) := ⟨hp.loc fun k _ ho => ⟨e1.out.1 k ho, rfl⟩, hb⟩
 clear hp hb hz ht1
 obtain ⟨pp, hpp⟩ : ∃ pp, pp = w.heap.size + 2 := ⟨_, rfl⟩
 obtain ⟨fs, hfs⟩ : ∃ fs, fs = w.heap.size + 1 := ⟨_, rfl⟩
 obtain ⟨fb, hfb⟩ : ∃ fb, fb = w.heap.size := ⟨_, rfl⟩
 rw [← hpp, ← hfs] at HP
 rw [← hpp]
 have HP2 : Hid (z8 w1 (fun b => tag1 b = 2) pp fs fb zk.none ∧ Below w.heap.size w w1) := by rw [hfb]; exact HP
 clear hpp hfs hfb HP
 go_wp2_with fail
 refine (Qn _ _ pp fs fb _ HP2.out.1 0 2 0 2 rfl rfl (by omega) (.inl rfl) rfl).mono ?_
 rintro e w2 ⟨rfl, h1, h2⟩
 have H2 : Hid (z8 w2 (fun b => tag1 b = 2) pp fs fb (je 0) ∧ Turn (fun b => tag1 b = 2) w1 w2) := Lib.hid (And.intro h1 h2)
 clear h1 h2
 go_wp2_with fail
 refine (Qn _ _ pp fs fb _ H2.out.1 1 3 1 3 rfl rfl (by omega) (.inr rfl) (by rw [(zcy 0 1).1]; rfl)).mono ?_
 rintro e w3 ⟨rfl, h1, h2⟩
 have H3 : Hid (z8 w3 (fun b => tag1 b = 2) pp fs fb (je 1) ∧ Turn (fun b => tag1 b = 2) w1 w3) := Lib.hid (And.intro h1 (H2.out.2.trans h2))
 clear h1 h2 H2
 have hb3 : Below w.heap.size w w3 := HP2.out.2.trans (H3.out.2.Vm (fun b hb => by
  rcases Nat.lt_or_ge b w.heap.size with h | h
  ·exact absurd (e1.out.2 b h) (by omega)
  ·exact h) HP2.out.2.size)
 have HB3 := Lib.hid (And.intro hb3 e1.out.2)
 clear hb3 HP2 e1
 go_wp2_with fail
 refine (zms w3).mono ?_
 rintro e w4 ⟨rfl, hR, hb4, _⟩
 have s4 : Step (fun _ => False) tag1 w3 (retag tag1 w3 1) w4 := Step.renew 1 hb4
 have H4 : Hid (um w4 (fun b => retag tag1 w3 1 b = 1) (w3.heap.size + 1) w3.heap.size RamS.none ∧ z8 w4 (fun b => retag tag1 w3 1 b = 2) pp fs fb (je 1) ∧ Step (fun _ => False) tag1 w3 (retag tag1 w3 1) w4) := Lib.hid ⟨hR.loc fun k _ ho => ⟨zx _ _ _ _ ho, rfl⟩, H3.out.1.loc (s4.keeps id), s4⟩
 clear hR hb4 s4
 generalize w3.heap.size + 1 = rp at H4 ⊢
 generalize w3.heap.size = rb at H4
 generalize retag tag1 w3 1 = tag4 at H4
 go_wp2_with fail
 refine (zj6 w4).mono ?_
 rintro e w5 ⟨rfl, hD, hb5⟩
 have s5 : Step (fun _ => False) tag4 w4 (retag tag4 w4 3) w5 := Step.renew 3 hb5
 have H5 : Hid (um w5 (fun b => retag tag4 w4 3 b = 1) rp rb RamS.none ∧ z8 w5 (fun b => retag tag4 w4 3 b = 2) pp fs fb (je 1) ∧ Zj w5 (fun b => retag tag4 w4 3 b = 3) (w4.heap.size + 1) zq.none ∧ Step (fun _ => False) tag1 w3 (retag tag4 w4 3) w5) := Lib.hid ⟨H4.out.1.loc (s5.keeps id), H4.out.2.1.loc (s5.keeps id), hD.loc fun k _ ho => ⟨zx _ _ _ _ ho, rfl⟩, H4.out.2.2.trans s5⟩
 clear hD hb5 s5 H4
 generalize w4.heap.size + 1 = dp at H5 ⊢
 generalize retag tag4 w4 3 = tag5 at H5
 have SN := Lib.hid (zie (w := w5) (tag := tag5) rp rb pp fs fb dp H5.out.1 H5.out.2.1 H5.out.2.2.1)
 unfold ptrV at SN
 go_wp2_with fail
 refine SN.out.mono ?_
 rintro e w6 ⟨q, tag6, rfl, hS, s6⟩
 have h6 : AtQ w [] q (za.start RamS.none (je 1) zq.none) w6 := by
  have st := H5.out.2.2.2.trans s6
  have hb := HB3.out.1.trans (st.turn.below.mono HB3.out.1.size)
  exact ⟨⟨tag6, hS, fun b hb' => (st.keeps (c := 0) id b (by have := HB3.out.1.size; omega) (HB3.out.2 b hb')).1, fun p hp => by cases hp⟩, hb⟩
 have H6 := Lib.hid h6
 clear hS s6 SN h6 H5 H3 HB3
 obtain ⟨g, hg⟩ := zi4 (P := je 1) (by have := Ji 1; omega)
 have ok6 : Ok0 (za.start RamS.none (je 1) zq.none) := zds (je 1) zq.none (fun f => by rw [X7]; split <;> omega) fun s _ => Vi s
 have SP := Lib.hid (H6.out.spawn ok6 0 g (by omega) rfl hg)
 have I0 := Lib.hid (StI.start (D := zq.none) (fun s _ => Vi s) hg)
 unfold ptrV at SP
 clear hg
 go_wp2_with fail
 refine SP.out.mono ?_
 rintro e w7 ⟨rfl, u, h7⟩
 have e7 : (q.at_ 0 u).sp = q.sp := rfl
 generalize q.at_ 0 u = q7 at h7 e7
 rw [← e7]
 have H7 := Lib.hid h7
 clear h7 SP H6 ok6 e7
 obtain ⟨x7, hx7⟩ : ∃ x7, x7 = (za.start RamS.none (je 1) zq.none).qy 0 g := ⟨_, rfl⟩
 rw [← hx7] at H7 I0
 clear hx7
 obtain ⟨T, hT⟩ := I0.out.proc
 have HT := Lib.hid hT
 clear hT
 have M1 := Lib.hid (H7.out.map I0.out.ok 0 HT.out arO Vn.1.1 Vn.1.2 Zn.2.2.1 (by simp))
 rw [zak] at M1
 have I1 : Hid (StI 1 zq.none [arO] _ _) := Lib.hid (I0.out.map HT.out Vn.1.1 Zn.2.2.1 (by simp) (by rw [zak]; simp) (by rw [zak]; simp))
 go_wp2_with fail
 refine M1.out.mono ?_
 rintro e w8 ⟨rfl, h8⟩
 have H8 := Lib.hid h8
 clear h8 M1 H7
 have hT1 : (x7.put 0 ⟨T, [arO], []⟩).T 0 = some ⟨T, [arO], []⟩ := by simp [za.put]
 have M2 := Lib.hid (H8.out.map I1.out.ok 0 hT1 arS Vn.2.1.1 Vn.2.1.2 Zn.2.2.2.1 (by simp))
 have I2 := Lib.hid (I1.out.map hT1 Vn.2.1.1 Zn.2.2.2.1 (by simp) (by rw [Zn.1]; simp) (by rw [Zn.1]; simp [arO, arS]))
 rw [show insA ([arO] : List Ar) arS = [arO, arS] from Zn.1] at M2 I2
 clear hT1
 go_wp2_with fail
 refine M2.out.mono ?_
 rintro e w9 ⟨rfl, h9⟩
 have H9 := Lib.hid h9
 clear h9 M2 H8
 have hT2 : ((x7.put 0 ⟨T, [arO], []⟩).put 0 ⟨T, [arO, arS], []⟩).T 0 = some ⟨T, [arO, arS], []⟩ := by simp [za.put]
 have M3 := Lib.hid (H9.out.map I2.out.ok 0 hT2 arP Vn.2.2.1 Vn.2.2.2 Zn.2.2.2.2 (by simp))
 have I3 := Lib.hid (I2.out.map hT2 Vn.2.2.1 Zn.2.2.2.2 (by simp) (by rw [Zn.2.1]; simp) (by rw [Zn.2.1]; simp [arO, arS, arP]))
 rw [Zn.2.1] at M3 I3
 clear hT2
 go_wp2_with fail
 refine M3.out.mono ?_
 rintro e w10 ⟨rfl, h10⟩
 have H10 := Lib.hid h10
 clear h10 M3 H9
 go_wp2_with fail
 exact bodyPost_ret (v := .pointer (some ⟨q7.sp, 0, none⟩)) (by simp [results, Tryz.results25, go_sem]) rfl ⟨q7, _, rfl, H10.out, I3.out.done⟩
end Go.Proofs.YtnhdmnijiphjjaaGreat
/- What a program that does nothing does not answer: law 19's answers. -/
namespace Go.Proofs.YtnhdmnijiphjjaaGreat
open Go Go.RowKit
theorem zd7 (w : World) (C : Array Value) (T : TypeId) (fz : Nat × Nat) (j : Nat) : (w.alloc (.cells C T fz)).cell? ⟨w.heap.size, j, none⟩ = C[j]? := by
 have : (w.alloc (.cells C T fz)).heap[w.heap.size]? = some (.cells C T fz) := by
  show (w.heap.push _)[w.heap.size]? = _
  simp
 unfold World.cell?
 rw [this]
 simp
end Go.Proofs.YtnhdmnijiphjjaaGreat
/- What a program that does nothing does not answer: law 20's answers. -/
namespace Go.Proofs.YtnhdmnijiphjjaaGreat
open Go Go.RowKit
def l20 : List UInt8 := [120, 121, 122]
theorem zfo {x : za} (h : StK 1 zq.none x) : x.xx 0 5 l20.length = 0 ∧ ∃ y z v f k, x.qx 0 5 l20 = (0, y) ∧ Ok0 y ∧ (y.T 0).isSome = true ∧ ((y.ent 0 0).kind = 1 → y.P.use (y.ent 0 0).n.toNat = 3) ∧ y.outF 0 0 = (0, z) ∧ OutD y f k z ∧ Xf z.S = 1 ∧ (z.T 0).isSome = true ∧ z.Xn 0 5 3 = ((l20, 0), v) := by
 have hK : ∀ p, p < 24 → PgOk x.abs (arK p) 0 p := fun p hp => by rw [h.abs]; exact zia (fun s _ => Vi s) hp
 have hcalm : x.D.Calm := by rw [h.disk]; exact zq.zbn
 obtain ⟨r0, y, f, e1, d1⟩ := h.ok.zdr (n := 0) (a0 := 5) (b := l20) (a := arK 0) (by decide) (by decide) (by decide) (hK 0 (by omega)).can (Vo 0) (by have := h.room; omega) hcalm
 have hz0 : (5 : Nat) / 64 = 0 := by decide
 have hm0 : (5 : Nat) % 64 = 5 := by decide
 rw [hz0, hm0] at d1
 have hsy : (y.T 0).isSome = true := by
  obtain ⟨T, hT⟩ := h.proc
  rw [d1.keeps.some, hT]; rfl
 obtain ⟨u3, hB⟩ := zae d1.ok (by omega) (by omega) d1.mine (by decide)
 have hyS : y.S = x.S := d1.slots (by rw [h.ents 0 0 (by omega) (by omega)]; decide)
 have hS0 : ∀ k, y.S.getD k [] = [] := fun k => by rw [hyS]; exact h.slots k
 obtain ⟨k, hk, hk32⟩ := za4 d1.ok.ok.wf hS0
 have hyc : y.D.Calm := by rw [d1.disk]; exact hcalm
 obtain ⟨o1, o2⟩ := d1.ok.outF (by omega) (by omega) d1.mine.ent.1 d1.mine.ent.2 u3 hk hk32 (hS0 k) (by rw [hyc.work])
 obtain ⟨z, hz⟩ : ∃ z, z = (y.outF 0 0).2 := ⟨_, rfl⟩
 rw [← hz] at o2
 have hpg : PgOk y.abs (arK 0) 0 0 := by rw [d1.abs]; exact (hK 0 (by omega)).any (hK 0 (by omega)) (by decide)
 have hzp : PgOk z.abs (arK 0) 0 0 := by rw [o2.abs]; exact hpg.cur _ _
 have hzc : z.D.Calm := by
  rw [o2.disk, hyc.work]
  exact hyc
 obtain ⟨v, e3, _⟩ := o2.ok.loadQ (n := 0) (by omega) (a0 := 5) (s := 3) (by omega) (by omega) (by omega) (by rw [hz0]; exact hzp.can) (by have := o2.keeps.room; have := d1.keeps.room; have := h.room; omega) hzc
 refine ⟨r0, y, z, v, f, k, e1, d1.ok, hsy, fun _ => ?_, ?_, o2, ?_, by rw [o2.keeps.some]; exact hsy, ?_⟩
 ·rw [d1.mine.ent.2]; exact u3
 ·exact Prod.ext o1 hz.symm
 ·refine zec z.S k (y.B f) (by rw [o2.ok.ok.wf.slots.1]; exact hk32) (by rw [hB]; simp) fun j hj => ?_
  rw [o2.ok.ok.wf.slots.1] at hj
  rw [o2.slot j hj, hS0]
 ·have hct : z.abs.ct (arK 0) 0 0 = Abs.splice (x.abs.ct (arK 0) 0 0) 5 l20 := by
   rw [o2.abs]
   show y.abs.ct (arK 0) 0 0 = _
   rw [d1.abs, Yk (fun z => absurd z (by decide)), Xq]
  have e3' : z.Xn 0 5 3 = ((((z.abs.ct (arK 0) 0 (5 / 64)).drop (5 % 64)).take 3, 0), v) := e3
  rw [e3', hz0, hm0, hct]
  have := zcp (x.abs.ct (arK 0) 0 0) l20 5 (by rw [(hK 0 (by omega)).len]; decide)
  rw [show l20.length = 3 from rfl] at this
  rw [this]
theorem zg0 (j : Nat) : (#[.int .u8 120, .int .u8 121, .int .u8 122] : Array Value)[j]? = (l20.map bV)[j]? := by
 rw [← Array.getElem?_toList]
 rfl
set_option maxRecDepth 100000 in
set_option maxHeartbeats 1000000 in
theorem uj (w : World) : Calls Tryz.prog 24 #[] w fun e w' => e = .returned (.bool true) ∧ Below w.heap.size w w' := by
 have kc := fun (w : World) (C : Array Value) (n c : Nat) => Lib.run_convert_bytes_const (P := Tryz.prog) w 22 5 C n c Tryz.underlying22 Tryz.underlying5
 go_enter Tryz.func24, Tryz.ntmps24
 go_wp2_with fail
 refine (Zx w).mono ?_
 rintro e w1 ⟨q, x, rfl, h1, hx⟩
 obtain ⟨r0, y, z, v, f, k, p1, p2, p3, p4, p5, p6, p7, p8, p9⟩ := zfo hx
 have HP := Lib.hid (And.intro r0 (And.intro p1 (And.intro p2 (And.intro p3 (And.intro p4 (And.intro p5 (And.intro p6 (And.intro p7 (And.intro p8 p9)))))))))
 have HX := Lib.hid hx
 have H1 := Lib.hid h1
 clear h1 hx r0 p1 p2 p3 p4 p5 p6 p7 p8 p9
 unfold ptrV at *
 go_wp2_with fail
 have hb4 : Below w1.heap.size w1 (w1.alloc (.cells #[.int .u8 120, .int .u8 121, .int .u8 122] 5 (3, 4))) := (Below.refl _ _).alloc (Nat.le_refl _) _
 have hv4 : BRd (w1.alloc (.cells #[.int .u8 120, .int .u8 121, .int .u8 122] 5 (3, 4))) (.slice (some ⟨w1.heap.size, 0, none⟩) 3 3) l20 := by
  refine ⟨rfl, .inr ⟨w1.heap.size, 0, 3, rfl, Nat.le_refl _, by decide, by simp, fun j u hu => ?_⟩⟩
  rw [Nat.zero_add, zd7, ← hu]
  exact zg0 j
 have H4 := Lib.hid (H1.out.more hb4 hv4 fun b hb => .inr (by simp [Value.ownBlock] at hb; omega))
 clear hb4 hv4 H1
 obtain ⟨T, hT⟩ := HX.out.proc
 have ST := Lib.hid (H4.out.store HX.out.ok (n := 0) (by omega) (by rw [hT]; rfl) 5 (.inl (List.mem_cons_self ..)) HP.out.1)
 rw [show x.qx ((0 : Nat) : Int) ((5 : Nat) : Int) l20 = (0, y) from HP.out.2.1] at ST
 clear hT
 refine ST.out.mono ?_
 rintro e w5 ⟨rfl, h5⟩
 have H5 := Lib.hid h5
 clear h5 ST H4 kc
 obtain ⟨pr, hpr⟩ := Option.isSome_iff_exists.1 HP.out.2.2.2.1
 have OU := Lib.hid (H5.out.zjn HP.out.2.2.1.ok.wf 0 0 (by omega) hpr (by omega) HP.out.2.2.2.2.1)
 rw [HP.out.2.2.2.2.2.1] at OU
 clear hpr
 go_wp2_with fail
 refine OU.out.mono ?_
 rintro e w6 ⟨rfl, h6⟩
 have c5 : w6.cell? ⟨q.sp, 5, none⟩ = some (.pointer (some ⟨q.wp, 0, none⟩)) := h6.cell (i := 5) (by omega)
 have US := Lib.hid (h6.used HP.out.2.2.2.2.2.2.1.ok.ok.wf)
 rw [HP.out.2.2.2.2.2.2.2.1] at US
 clear h6 OU H5
 go_wp2_with fail
 refine US.out.mono ?_
 rintro e w7 ⟨rfl, h7⟩
 have LD := Lib.hid (h7.load HP.out.2.2.2.2.2.2.1.ok (n := 0) (by omega) HP.out.2.2.2.2.2.2.2.2.1 5 3)
 rw [show z.Xn ((0 : Nat) : Int) 5 3 = ((l20, 0), v) from HP.out.2.2.2.2.2.2.2.2.2] at LD
 clear h7 US c5
 go_wp2_with fail
 refine LD.out.mono ?_
 rintro e w8 ⟨vv, rfl, h8⟩
 have hv := h8.get (List.mem_cons_self ..)
 have hbel := Lib.hid h8.bel
 obtain ⟨b, off, c, hve, _, _, hx⟩ := SlRd.cells hv (by simp [l20])
 subst hve
 have ks : (convert 22 9 (.slice (some ⟨b, off, none⟩) l20.length c)).run Tryz.prog w8 = .ok (.string ⟨#[120, 121, 122]⟩) w8 := by
  have := run_convert_bytes_back (P := Tryz.prog) w8 22 9 5 ⟨b, off, none⟩ c [120, 121, 122] Tryz.underlying22 Tryz.underlying5 Tryz.underlying9 (fun j hj => by
   have := hx j _ (by rw [List.getElem?_map]; exact congrArg _ (List.getElem?_eq_getElem (l := l20) hj))
   rw [add_plain]
   exact this)
  exact this
 clear hv hx h8 LD HP HX
 go_wp2_with fail
 go_ret
 exact ⟨rfl, hbel.out⟩
end Go.Proofs.YtnhdmnijiphjjaaGreat
/- EvictFrees, in plain words: which frames are free behind it, and what is on the disk. No program in it. -/
namespace Go.Proofs.YtnhdmnijiphjjaaGreat
open Go Go.RowKit
theorem zq.Calm.write {D : zq} (h : D.Calm) (s : Nat) (l : List UInt8) : (D.write s l).Calm := h
theorem za7 {x : za} {n : Nat} {a : Nat} (hr : x.xx n a ([] : List UInt8).length = 0) : x.qx n a [] = (0, x) := by
 unfold za.qx
 rw [if_pos hr]
 simp only [Int.toNat_natCast, List.length_nil]
 unfold za.zh
 rw [if_pos rfl]
 rfl
theorem outK {x : za} (h : StK 1 zq.none x) : (∀ p, p < 24 → PgOk x.abs (arK p) 0 p) ∧ x.D.Calm ∧ (x.T 0).isSome = true := by
 refine ⟨fun p hp => by rw [h.abs]; exact zia (fun s _ => Vi s) hp, by rw [h.disk]; exact zq.zbn, ?_⟩
 obtain ⟨T, hT⟩ := h.proc
 rw [hT]; rfl
structure FreesD (k : Nat) (b : List UInt8) (x x1 x2 x3 x4 : za) (f g : Nat) : Prop where
 r1 : x.xx 0 ((64 * k : Nat) : Int) b.length = 0
 s1 : x.qx 0 ((64 * k : Nat) : Int) b = (0, x1)
 ok1 : Ok0 x1 ∧ (x1.T 0).isSome = true
 r2 : x1.xx 0 ((64 * (8 + k) : Nat) : Int) b.length = 0
 s2 : x1.qx 0 ((64 * (8 + k) : Nat) : Int) b = (0, x2)
 ok2 : Ok0 x2 ∧ (x2.T 0).isSome = true
 ef : (x2.ent 0 k).kind = 1 ∧ (x2.ent 0 k).n = f ∧ f < 1024 ∧ x2.P.use f = 3
 eg : (x2.ent 0 (8 + k)).n = g ∧ g < 1024
 out : x2.outF 0 k = (0, x3)
 ok3 : Ok0 x3
 hv : (getL x3.CL (0, (k : Int))).isSome = true ∧ x3.cfr (0, (k : Int)) = g ∧ x3.R.bad g = false
 drop : x3.Xp (0, (k : Int)) = (0, x4)
 ok4 : Ok0 x4 ∧ (x4.T 0).isSome = true
 none : getL x4.CL (0, (k : Int)) = none
 ent4 : (x4.ent 0 k).kind = 2
 use4 : x4.P.use f = 1 ∧ x4.P.use g = 1
 disk : x4.D.Calm ∧ ∃ t, x4.D.cur (96 + k) = b ++ t ∧ (b ++ t).length = 64
theorem zfg {x : za} (h : StK 1 zq.none x) {k : Nat} (hk : k < 8) {b : List UInt8} (hb : 0 < b.length ∧ b.length ≤ 64) : ∃ x1 x2 x3 x4 f g, FreesD k b x x1 x2 x3 x4 f g := by
 obtain ⟨hK, hcalm, hs0⟩ := outK h
 have z1 : 64 * k / 64 = k := by omega
 have z2 : 64 * k % 64 = 0 := by omega
 have z3 : 64 * (8 + k) / 64 = 8 + k := by omega
 have z4 : 64 * (8 + k) % 64 = 0 := by omega
 have hkk : (arK k).kind ≠ 2 := by unfold arK; rw [if_pos hk]; decide
 have hk8 : arK (8 + k) = arS := by unfold arK; rw [if_neg (by omega), if_pos (by omega)]
 have hkey : za.keyF arS (8 + k) = (0, (k : Int)) := by unfold za.keyF arS; refine Prod.ext rfl ?_; dsimp only; omega
 have hko : xk ((0 : Int), (k : Int)) := ⟨by dsimp only; omega, by dsimp only; omega, by dsimp only; omega, by dsimp only; omega⟩
 obtain ⟨r1, x1, f, e1, d1⟩ := h.ok.zdr (n := 0) (a0 := 64 * k) (b := b) (a := arK k) hb.1 (by rw [z2]; omega) (by omega) (by rw [z1]; exact (hK k (by omega)).can) (Vo k) (by have := h.room; omega) hcalm
 rw [z1, z2] at d1
 have hs1 : (x1.T 0).isSome = true := by rw [d1.keeps.some]; exact hs0
 obtain ⟨u1, hB1⟩ := zae d1.ok (by omega) (by omega) d1.mine hkk
 have hK1 : ∀ p, p < 24 → PgOk x1.abs (arK p) 0 p := fun p hp => by rw [d1.abs]; exact (hK p hp).any (hK k (by omega)) (by omega)
 have hc1 : x1.D.Calm := by rw [d1.disk]; exact hcalm
 obtain ⟨r2, x2, g, e2, d2⟩ := d1.ok.zdr (n := 0) (a0 := 64 * (8 + k)) (b := b) (a := arK (8 + k)) hb.1 (by rw [z4]; omega) (by omega) (by rw [z3]; exact (hK1 _ (by omega)).can) (Vo _) (by have := h.room; have := d1.keeps.room; omega) hc1
 rw [z3, z4, hk8] at d2
 have hs2 : (x2.T 0).isSome = true := by rw [d2.keeps.some]; exact hs1
 have ent2 : x2.ent 0 k = x1.ent 0 k := d2.ent1 0 k (by omega) (by omega) d1.mine.ent.1
 obtain ⟨hB2, u2⟩ := d2.backs 0 k f (by omega) (by omega) (by omega) d1.mine.lt u1 hB1
 obtain ⟨g1, g2, g3, g4⟩ := zc2 d2.ok d2.mine rfl
 rw [hkey] at g2 g3 g4
 have hgf : g ≠ f := fun e => by rw [e] at g1; omega
 have hS0 : ∀ j, x2.S.getD j [] = [] := fun j => by
  have q1 : x1.S = x.S := d1.slots (by rw [h.ents 0 k (by omega) (by omega)]; decide)
  by_cases z : (x1.ent 0 (8 + k)).kind = 2
  ·exfalso
   have hr := (Ent.ok_n (d1.ok.ok.wf.Zy 0 (page := 8 + k) (by omega))).2 z
   have := (d1.ok.ok.slotE (x1.ent 0 (8 + k)).n.toNat 0 (8 + k) (by omega) (by omega) (by omega)).2 ⟨z, by omega⟩
   rw [q1, h.slots] at this; cases this
  ·rw [d2.slots z, q1]; exact h.slots j
 obtain ⟨j, hj, hj32⟩ := za4 d2.ok.ok.wf hS0
 have hc2 : x2.D.Calm := by rw [d2.disk]; exact hc1
 obtain ⟨o1, o2⟩ := d2.ok.outF (n := 0) (page := k) (f := f) (by omega) (by omega) (by rw [ent2]; exact d1.mine.ent.1) (by rw [ent2]; exact d1.mine.ent.2) u2 hj hj32 (hS0 j) (by rw [hc2.work])
 obtain ⟨x3, h3⟩ : ∃ x3, x3 = (x2.outF 0 k).2 := ⟨_, rfl⟩
 rw [← h3] at o2
 have hCL : x3.CL = x2.CL := o2.cache.1
 have hv : (getL x3.CL (0, (k : Int))).isSome = true := by rw [hCL]; exact g2
 have hcf : x3.cfr (0, (k : Int)) = g := by unfold za.cfr at g3 ⊢; rw [hCL]; exact g3
 have hdt : x3.xg (0, (k : Int)) = true := by unfold za.xg at g4 ⊢; rw [hCL]; exact g4
 have u3g : x3.P.use g = 4 := by rw [o2.others g hgf (by omega) (by omega)]; exact g1
 have hc3 : x3.D.Calm := by rw [o2.disk, hc2.work]; exact hc2
 obtain ⟨p1, p2⟩ := o2.ok.Xp hko hv (fun _ => by rw [hc3.work]) hcf
 obtain ⟨x4, h4⟩ : ∃ x4, x4 = (x3.Xp (0, (k : Int))).2 := ⟨_, rfl⟩
 rw [← h4] at p2
 have hin : plc 0 k ∈ x2.B f := by rw [hB2]; simp
 have ent3 : x3.ent 0 k = ⟨2, (j : Int), false⟩ := by rw [o2.ent 0 k (by omega), if_pos hin]
 have hng : plc 0 k ∉ x3.B (g : Int) := fun hm => by
  have := ((o2.ok.ok.backE g 0 k d2.mine.lt (by omega) (by omega)).1 hm).1
  rw [ent3] at this; cases this
 have hc4 : x4.D.Calm := by rw [p2.disk, hdt, if_pos rfl, hc3.work]; exact hc3.write _ _
 refine ⟨x1, x2, x3, x4, f, g, r1, e1, ⟨d1.ok, hs1⟩, r2, e2, ⟨d2.ok, hs2⟩, ⟨by rw [ent2]; exact d1.mine.ent.1, by rw [ent2]; exact d1.mine.ent.2, d1.mine.lt, u2⟩, ⟨d2.mine.ent.2, d2.mine.lt⟩, Prod.ext o1 h3.symm, o2.ok, ⟨hv, hcf, o2.ok.ok.wf.uu d2.mine.lt (by omega)⟩, Prod.ext p1 h4.symm, ⟨p2.ok, by rw [p2.keeps.some, o2.keeps.some]; exact hs2⟩, by rw [p2.cl, if_pos rfl], ?_, ⟨p2.fr f o2.free, p2.free⟩, hc4, ?_⟩
 ·rw [p2.ent 0 k (by omega), if_neg hng, ent3]
 ·have hcu : x4.D.cur (96 + k) = x3.abs.file (0, (k : Int)) := by
   have e5 : x4.abs.cur (96 + k) = (x3.abs.drop (0, (k : Int))).cur (96 + k) := by rw [p2.abs]
   have e6 : x3.abs.xg (0, (k : Int)) = true := hdt
   have e7 : za.ym (0, (k : Int)) = 96 + k := by unfold za.ym; dsimp only; omega
   have e8 : (x3.abs.drop (0, (k : Int))).cur = (x3.abs.clean (0, (k : Int))).cur := rfl
   rw [e8] at e5
   unfold Abs.clean at e5
   rw [e6, if_pos rfl, e7] at e5
   refine e5.trans ?_
   show (if 96 + k = 96 + k then x3.abs.file (0, (k : Int)) else _) = _
   rw [if_pos rfl]
  have e9 : x3.abs.file (0, (k : Int)) = x2.abs.file (0, (k : Int)) := by rw [o2.abs]; rfl
  have e10 : x2.abs.file (0, (k : Int)) = Abs.splice (x1.abs.file (0, (k : Int))) 0 b := by
   rw [d2.abs, (Yq x1.abs arS 0 (8 + k) 0 b rfl).2, if_pos hkey.symm]
  rw [hcu, e9, e10, Uy]
  refine ⟨_, rfl, ?_⟩
  have := d1.ok.zjk hko
  rw [List.length_append, List.length_drop, this]
  omega
end Go.Proofs.YtnhdmnijiphjjaaGreat
/- ref01.Same at the same bytes. -/
namespace Go.Proofs.YtnhdmnijiphjjaaGreat
open Go Go.RowKit
set_option maxHeartbeats 1000000 in
theorem zes (w : World) (x y : Value) (l : List UInt8) (hx : BRd w x l) (hy : BRd w y l) (hl : l.length ≤ 4096) : Calls Tryz.prog 21 #[x, y] w fun e w' => e = .returned (.bool true) ∧ Below w.heap.size w w' := by
 obtain ⟨a, c, rfl, _, _⟩ := SlRd.form hx
 obtain ⟨a2, c2, rfl, _, _⟩ := SlRd.form hy
 obtain ⟨n, hn⟩ : ∃ n, n = l.length := ⟨_, rfl⟩
 have HX := Lib.hid hx
 have HY := Lib.hid hy
 have HN := Lib.hid hn
 rw [← hn] at hl ⊢
 have hcap : n ≤ maxLen := by omega
 clear hx hy hn
 go_enter Tryz.func21, Tryz.ntmps21
 go_wp2_with fail
 go_loopw [5] (fun iv W => ∃ i : Nat, i ≤ n ∧ iv = .int .i64 i ∧ Below w.heap.size w W) (fun iv _ => n - (intOf iv).toNat)
 case atStart => exact ⟨0, by omega, rfl, Below.refl _ _⟩
 case round =>
  obtain ⟨i, hi, rfl, hb⟩ := hrel
  have HB := Lib.hid hb
  clear hb
  by_cases hlt : i < n
  ·obtain ⟨u, hu⟩ : ∃ u, l[i]? = some u := ⟨_, List.getElem?_eq_getElem (by have := HN.out; omega)⟩
   have hpos : 0 < (l.map bV).length := by rw [List.length_map]; have := HN.out; omega
   obtain ⟨b, off, c', he, _, _, hc⟩ := SlRd.cells (SlRd.below HX.out HB.out) hpos
   obtain ⟨b2, off2, c2', he2, _, _, hc2⟩ := SlRd.cells (SlRd.below HY.out HB.out) hpos
   cases he
   cases he2
   have k0 : wr.cell? ⟨b, off + i, none⟩ = some (.int .u8 u.toNat) := hc i _ (by rw [List.getElem?_map, hu]; rfl)
   have k1 : wr.cell? ⟨b2, off2 + i, none⟩ = some (.int .u8 u.toNat) := hc2 i _ (by rw [List.getElem?_map, hu]; rfl)
   clear hc hc2
   have hlt' : (i : Int) < n := by omega
   go_wp2_with fail
   go_quiet (fail)
   go_wp2_with fail
   go_roundw
   case rel => exact ⟨i + 1, by omega, by go_num, HB.out.trans ⟨rfl, rfl, rfl, Nat.le_refl _, fun _ _ => rfl⟩⟩
   case measure => simp [intOf]; omega
  ·have hlt' : ¬ (i : Int) < n := by omega
   go_wp2_with fail
   go_ret
   exact ⟨rfl, HB.out⟩
end Go.Proofs.YtnhdmnijiphjjaaGreat
/- Arguments that are flat structs of whole numbers and bools, or slices of those: what a reading of them says of the value and of the cells. No program in it. -/
namespace Go.Proofs.YtnhdmnijiphjjaaGreat.Open
open Go Go.ChangeShapes Go.WideShapes Go.RowKit Go.Deep
abbrev Leaf := Option IntKind
def LeafOk : Leaf → Value → Prop
 | some k, v => ∃ n, v = .int k n ∧ (Lit.int k n).wf = true
 | none, v => ∃ b, v = .bool b
def Xg : List Leaf → List Value → Prop
 | [], [] => True
 | l :: ls, v :: vs => LeafOk l v ∧ Xg ls vs
 | _, _ => False
theorem Xg.append : ∀ {a b : List Leaf} {x y : List Value}, Xg a x → Xg b y → Xg (a ++ b) (x ++ y)
 | [], _, [], _, _, h => h
 | [], _, _ :: _, _, h, _ => h.elim
 | _ :: _, _, [], _, h, _ => h.elim
 | _ :: _, _, _ :: _, _, ⟨h, t⟩, k => ⟨h, Xg.append t k⟩
theorem Xg.length : ∀ {a : List Leaf} {x : List Value}, Xg a x → a.length = x.length
 | [], [], _ => rfl
 | [], _ :: _, h => h.elim
 | _ :: _, [], h => h.elim
 | _ :: _, _ :: _, h => congrArg (· + 1) (Xg.length h.2)
def Zi (P : Program) (g : TypeId → Option (List Leaf)) : List Field → Nat → Option (List Leaf)
 | [], _ => some []
 | f :: fs, off =>
  if f.offset = off then
   match g f.type with
   | some l => if l.length = P.cellsOf f.type then (Zi P g fs (off + l.length)).map (l ++ ·) else none
   | none => none
  else none
def Xa (P : Program) : Nat → TypeId → Option (List Leaf)
 | 0, _ => none
 | n + 1, t =>
  match P.underlying t with
  | some .bool => some [none]
  | some (.int k) => some [some k]
  | some (.struct fs) =>
   match Zi P (Xa P n) fs.toList 0 with
   | some l => if l.length = P.cellsOf t then some l else none
   | none => none
  | _ => none
section
variable {H : Type} {enc : TypeId × Value → H} {P : Program} {w : World} {base : Nat} {spare : Nat → Bool} {held : Bool}
theorem zb4 {g : TypeId → Option (List Leaf)} {n : Nat} {cs : List Value}
  (hg : ∀ t l cs x, g t = some l → DataW.trod enc P w base spare held n t cs = some x → Xg l cs) :
  ∀ (fs : List Field) (off : Nat) (l : List Leaf), Zi P g fs off = some l → (∀ f ∈ fs, ∃ x, DataW.trod enc P w base spare held n f.type ((cs.drop f.offset).take (P.cellsOf f.type)) = some x) →
   Xg l ((cs.drop off).take l.length)
 | [], _, l, h, _ => by simp [Zi] at h; subst h; simp [Xg]
 | f :: fs, off, l, h, ht => by
  unfold Zi at h
  split at h
  ·rename_i ho
   split at h
   ·rename_i l1 hl1
    split at h
    ·rename_i hlen
     obtain ⟨l2, h2, rfl⟩ := Option.map_eq_some_iff.1 h
     obtain ⟨x, hx⟩ := ht f (by simp)
     have a1 := hg _ _ _ _ hl1 hx
     have a2 := zb4 hg fs _ l2 h2 (fun f' hf' => ht f' (by simp [hf']))
     rw [ho, ← hlen] at a1
     have e : (cs.drop off).take (l1 ++ l2).length = (cs.drop off).take l1.length ++ (cs.drop (off + l1.length)).take l2.length := by
      rw [List.length_append, List.take_add, List.drop_drop]
     rw [e]
     exact a1.append a2
    ·cases h
   ·cases h
  ·cases h
theorem zbo : ∀ (m n : Nat) (t : TypeId) (l : List Leaf) (cs : List Value) (x : DataW H × List MemPlace), Xa P m t = some l → DataW.trod enc P w base spare held n t cs = some x → Xg l cs
 | 0, _, _, _, _, _, h, _ => by simp [Xa] at h
 | m + 1, n, t, l, cs, x, h, hx => by
  unfold Xa at h
  split at h
  ·rename_i hu
   obtain ⟨b, rfl, _⟩ := DataW.trod_bool hu hx
   cases h
   exact ⟨⟨b, rfl⟩, trivial⟩
  ·rename_i k hu
   obtain ⟨v, rfl, _, hw⟩ := DataW.trod_int hu hx
   cases h
   exact ⟨⟨v, rfl, hw⟩, trivial⟩
  ·rename_i fs hu
   split at h
   ·rename_i l' hl'
    split at h
    ·rename_i hlen
     cases h
     obtain ⟨xs, n', rfl, _, hcs, hsz, hf⟩ := DataW.trod_struct hu hx
     have := zb4 (enc := enc) (w := w) (base := base) (spare := spare) (held := held) (n := n') (cs := cs) (fun t l cs x h1 h2 => zbo m n' t l cs x h1 h2) fs.toList 0 l hl' (fun f hfm => by
      obtain ⟨i, hi, rfl⟩ := List.getElem_of_mem hfm
      have e := hf i (fs.toList[i]) (by simp)
      rw [e, List.getElem?_eq_getElem (by simpa [hsz] using hi)]
      exact ⟨_, rfl⟩)
     rw [List.drop_zero, List.take_of_length_le (by omega)] at this
     exact this
    ·cases h
   ·cases h
  ·cases h
def RowsAt {α : Type} (w : World) (enc : α → List Value) (k : Nat) (a : Option Addr) (len cap : Nat) (z : List α) : Prop :=
 z.length = len ∧ len ≤ cap ∧ cap ≤ maxLen ∧ ∀ i, i < len → ∃ b off, a = some ⟨b, off, none⟩ ∧ b < w.heap.size ∧ ∀ x, z[i]? = some x → ∀ j v, (enc x)[j]? = some v → w.cell? ⟨b, off + (i * k + j), none⟩ = some v
theorem zgc {α : Type} [Inhabited α] {encα : α → List Value} {k : Nat} {t e : TypeId} {a : Option Addr} {len cap : Nat} {d : DataW H} {p : List MemPlace} {l : List Leaf} (P2 : α → Prop)
  (ht : P.underlying t = some (.slice e)) (hl : Xa P 10 e = some l) (hk : P.cellsOf e = k) (hk0 : 0 < k) (dec : ∀ cs, Xg l cs → ∃ x, cs = encα x ∧ P2 x)
  (h : DataW.Trod enc P w base spare held t (.slice a len cap) d p) : ∃ z, RowsAt w encα k a len cap z ∧ ∀ x ∈ z, P2 x := by
 obtain ⟨fuel, hf⟩ := h
 rcases open_slice ht hf with ⟨hcs, _⟩ | ⟨x, l', c', m, n, D, Pl, hcs, _, hle, hmx, hm, _, hx⟩
 ·simp [Value.cells] at hcs
  obtain ⟨rfl, rfl, rfl⟩ := hcs
  exact ⟨[], ⟨rfl, Nat.le_refl _, by unfold maxLen; omega, fun i hi => by omega⟩, by simp⟩
 ·simp [Value.cells] at hcs
  obtain ⟨rfl, rfl, rfl⟩ := hcs
  have hlm : len ≤ m := by rw [hm]; split <;> omega
  have key : ∀ i, i < len → ∃ y, P2 y ∧ (encα y).length = k ∧ ∀ j, j < k → w.cell? ((x.add (i * k)).add j) = (encα y)[j]? := fun i hi => by
   obtain ⟨cs', h1, h2⟩ := hx i (by omega)
   obtain ⟨y, rfl, hp⟩ := dec cs' (zbo 10 n e l cs' _ hl h2)
   rw [hk] at h1
   obtain ⟨_, hlen, hc⟩ := World.cells?_some h1
   exact ⟨y, hp, hlen, hc⟩
  obtain ⟨f, hf⟩ := choose_lt key
  refine ⟨(List.range len).map f, ⟨by simp, hle, hmx, fun i hi => ?_⟩, fun y hy => ?_⟩
  ·obtain ⟨hp, hlen, hc⟩ := hf i hi
   obtain ⟨_, hlen0, hc0'⟩ := hf 0 (by omega)
   have hc0 := hc0' 0 hk0
   rw [List.getElem?_eq_getElem (by omega), Nat.zero_mul] at hc0
   have e0 : (x.add 0).add 0 = x := by simp [Addr.add]
   rw [e0] at hc0
   have hsp : x.spot = none := by
    unfold World.cell? at hc0
    split at hc0
    ·split at hc0
     ·cases hc0
     ·rename_i hs; simpa using hs
    ·cases hc0
   have hb : x.block < w.heap.size := World.block_lt_of_cell? w _ hc0
   obtain ⟨b, off, sp⟩ := x
   obtain rfl : sp = none := hsp
   have ea : ∀ i, (⟨b, off, none⟩ : Addr).add i = ⟨b, off + i, none⟩ := fun i => by unfold Addr.add; split <;> simp_all
   have ea2 : ∀ i j, ((⟨b, off, none⟩ : Addr).add i).add j = ⟨b, off + i + j, none⟩ := fun i j => by rw [ea]; unfold Addr.add; split <;> simp_all
   refine ⟨b, off, rfl, hb, fun y hy j v hv => ?_⟩
   simp [hi] at hy
   subst hy
   have hj : j < k := by have := (List.getElem?_eq_some_iff.1 hv).1; omega
   have := hc j hj
   rw [ea2, hv, Nat.add_assoc] at this
   exact this
  ·obtain ⟨i, hi, rfl⟩ := List.mem_map.1 hy
   exact (hf i (List.mem_range.1 hi)).1
end
end Go.Proofs.YtnhdmnijiphjjaaGreat.Open
/- A slice of flat structs among a law's arguments, as one that can be read. No program in it. -/
namespace Go.Proofs.YtnhdmnijiphjjaaGreat.Open
open Go Go.ChangeShapes Go.WideShapes Go.RowKit Go.Deep
theorem zc0 {P : Program} {w : World} {r : Reach} {base : Nat} {t e : TypeId} {x : Addr} {len cap : Nat} (ht : P.underlying t = some (.slice e)) (h : Value.okWide P w r base t (.slice (some x) len cap)) : x.spot = none ∧ x.block < w.heap.size := by
 simp only [Value.okWide, ht, Cell.okWide, Cell.ok] at h
 obtain ⟨_, _, _, hs, row, cells, hsh, _⟩ := h
 refine ⟨hs, ?_⟩
 unfold World.shape? at hsh
 by_cases hb : x.block < w.heap.size
 ·exact hb
 ·rw [Array.getElem?_eq_none (by omega)] at hsh
  simp at hsh
theorem flat_get {α : Type} {enc : α → List Value} {k : Nat} (hk : ∀ x, (enc x).length = k) (hk0 : 0 < k) {z : List α} {j : Nat} {u : Value} (h : (z.flatMap enc)[j]? = some u) : ∃ x, z[j / k]? = some x ∧ (enc x)[j % k]? = some u := by
 induction z generalizing j with
 | nil => simp at h
 | cons y z ih =>
  rw [List.flatMap_cons] at h
  by_cases hj : j < k
  ·rw [List.getElem?_append_left (by rw [hk]; exact hj)] at h
   exact ⟨y, by simp [Nat.div_eq_of_lt hj], by rw [Nat.mod_eq_of_lt hj]; exact h⟩
  ·rw [List.getElem?_append_right (by rw [hk]; omega), hk] at h
   obtain ⟨x, h1, h2⟩ := ih h
   have e : j / k = (j - k) / k + 1 := by rw [Nat.div_eq_sub_div hk0 (by omega)]
   have e2 : j % k = (j - k) % k := by rw [Nat.mod_eq_sub_mod (by omega)]
   exact ⟨x, by rw [e]; simpa using h1, by rw [e2]; exact h2⟩
theorem zgh {H : Type} {enc : TypeId × Value → H} {P : Program} {w : World} {base : Nat} {spare : Nat → Bool} {held : Bool} {α : Type} [Inhabited α] {encα : α → List Value} {k : Nat} {t e : TypeId} {a : Option Addr} {len cap : Nat} {d : DataW H} {p : List MemPlace} {l : List Leaf} {r : Reach} {b0 : Nat} (P2 : α → Prop)
  (ht : P.underlying t = some (.slice e)) (hl : Xa P 10 e = some l) (hk : P.cellsOf e = k) (hk0 : 0 < k) (hek : ∀ x, (encα x).length = k) (dec : ∀ cs, Xg l cs → ∃ x, cs = encα x ∧ P2 x)
  (hv : Value.okWide P w r b0 t (.slice a len cap)) (h : DataW.Trod enc P w base spare held t (.slice a len cap) d p) : ∃ z : List α, z.length = len ∧ SlRd w k (.slice a len cap) len (z.flatMap encα) ∧ ∀ x ∈ z, P2 x := by
 obtain ⟨z, ⟨h1, h2, h3, h4⟩, h5⟩ := zgc (encα := encα) (k := k) P2 ht hl hk hk0 dec h
 refine ⟨z, h1, ⟨?_, ?_⟩, h5⟩
 ·rw [← h1]
  clear h1 h4 h5
  induction z with
  | nil => simp
  | cons x z ih => rw [List.flatMap_cons, List.length_append, ih, hek, List.length_cons]; rw [Nat.add_mul]; omega
 ·cases a with
  | none =>
   left
   simp only [Value.okWide, ht, Cell.okWide] at hv
   cases len <;> cases cap <;> simp_all [Cell.ok]
  | some x =>
   right
   obtain ⟨b, off, sp⟩ := x
   obtain ⟨hs, hb⟩ := zc0 ht hv
   obtain rfl : sp = none := hs
   refine ⟨b, off, cap, rfl, h2, h3, hb, fun j u hu => ?_⟩
   obtain ⟨y, hy1, hy2⟩ := flat_get hek hk0 hu
   have hi : j / k < len := by rw [← h1]; exact (List.getElem?_eq_some_iff.1 hy1).1
   obtain ⟨b', off', e, _, hc⟩ := h4 (j / k) hi
   cases e
   have := hc y hy1 (j % k) u hy2
   rw [show j / k * k + j % k = j by rw [Nat.mul_comm]; exact Nat.div_add_mod j k] at this
   exact this
end Go.Proofs.YtnhdmnijiphjjaaGreat.Open
/- Bytes among a law's arguments. -/
namespace Go.Proofs.YtnhdmnijiphjjaaGreat
open Go Go.RowKit
def byL (x : UInt8) : List Value := [bV x]
theorem zh2 (x : UInt8) : (byL x).length = 1 := rfl
def AnyB (_ : UInt8) : Prop := True
theorem decBy (cs : List Value) (h : Open.Xg [some .u8] cs) : ∃ x, cs = byL x ∧ AnyB x := by
 have hlen := h.length
 rcases cs with _ | ⟨c, _ | ⟨d, cs⟩⟩ <;> simp at hlen
 obtain ⟨⟨n, rfl, hn⟩, _⟩ := h
 simp [Lit.wf] at hn
 have h0 : 0 ≤ n := hn.1
 have h1 : n ≤ 255 := hn.2
 obtain ⟨k, rfl⟩ := Int.eq_ofNat_of_zero_le h0
 refine ⟨UInt8.ofNat k, ?_, trivial⟩
 unfold byL bV
 have : (UInt8.ofNat k).toNat = k := by simp; omega
 rw [this]
theorem BRd.of_law {w : World} {v : Value} {z : List UInt8} (h : SlRd w 1 v z.length (z.flatMap byL)) : BRd w v z := by
 have : ∀ z : List UInt8, z.flatMap byL = z.map bV := fun z => by
  induction z with
  | nil => rfl
  | cons a z ih => rw [List.flatMap_cons, List.map_cons, ih]; rfl
 rw [this] at h
 exact h
end Go.Proofs.YtnhdmnijiphjjaaGreat
