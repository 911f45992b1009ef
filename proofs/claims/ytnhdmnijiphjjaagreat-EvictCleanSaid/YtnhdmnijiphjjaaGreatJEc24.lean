/- Pages of files, in plain words: one is written to the disk, one is in no frame: what processes see of it, and which frames are free behind it. No program in it. -/
import Derived.Test.YtnhdmnijiphjjaaGreatJEc23
import Derived.Test.YtnhdmnijiphjjaaGreatJEc17
import Derived.Test.YtnhdmnijiphjjaaGreatJEc22
import Derived.Test.YtnhdmnijiphjjaaGreatJEc12
import Derived.Test.YtnhdmnijiphjjaaGreatJEc13
import Derived.Test.YtnhdmnijiphjjaaGreatJEc15
import Derived.Test.YtnhdmnijiphjjaaGreatJEc18
set_option linter.unusedVariables false
set_option linter.unusedSimpArgs false
set_option maxRecDepth 100000
set_option maxHeartbeats 2000000
namespace Go.Proofs.YtnhdmnijiphjjaaGreat
open Go Go.RowKit
section
variable {F : Nat → Prop} {x y : za}
theorem OK.markD (h : OK F x) (k : Int × Int) (dd : Bool) (hk : ∃ v, getL x.CL k = some v) : OK F (x.zz k dd) ∧ (x.zz k dd).abs = x.abs.Za k dd ∧ (∀ n page, (x.zz k dd).ent n page = x.ent n page) ∧ ut 0 x (x.zz k dd) := by
 obtain ⟨v, hv⟩ := hk
 have w := h.wf.zz k dd
 have e : x.zz k dd = { x with CL := updL x.CL k (v.1, dd) } := by unfold za.zz; rw [hv]
 have he : ∀ n page, (x.zz k dd).ent n page = x.ent n page := fun n page => by rw [e]; rfl
 rw [e] at w he ⊢
 have hfst : ∀ q g, (∃ d, getL (updL x.CL k (v.1, dd)) q = some (g, d)) ↔ ∃ d, getL x.CL q = some (g, d) := fun q g => by
  rw [yj]
  by_cases c : q = k
  ·rw [if_pos c, c, hv]
   constructor
   ·rintro ⟨d, hd⟩
    simp at hd
    exact ⟨v.2, by rw [← hd.1]⟩
   ·rintro ⟨d, hd⟩
    simp at hd
    exact ⟨dd, by rw [hd]⟩
  ·rw [if_neg c]
 have hv2 : ∀ q w, getL (updL x.CL k (v.1, dd)) q = some w → ∃ w0, getL x.CL q = some w0 ∧ w0.1 = w.1 := fun q w hw => by
  obtain ⟨d, hd⟩ := (hfst q w.1).1 ⟨w.2, hw⟩
  exact ⟨_, hd, rfl⟩
 refine ⟨⟨w, fun f n page h1 h2 h3 => h.backE f n page h1 h2 h3, fun q n page h1 h2 h3 => h.slotE q n page h1 h2 h3, h.useB, h.anon, h.table, h.cached, fun q g => (hfst q g).trans (h.cacheE q g), fun q w hw => ?_, fun n pr page h1 h2 => by
  have a := h.area n pr page h1 h2
  rw [he n page]
  exact ⟨a.find, a.own, a.file, a.shared, a.slot⟩⟩, ?_, he, ⟨⟨rfl, rfl⟩, by dsimp only; omega, rfl, fun _ _ _ => Iff.rfl, fun _ => rfl⟩⟩
 ·obtain ⟨w0, h0, _⟩ := hv2 q w hw
  exact h.cacheK q w0 h0
 ·unfold za.abs Abs.Za
  rw [Abs.mk.injEq]
  refine ⟨rfl, rfl, ?_, ?_, rfl⟩
  ·funext q
   by_cases c : xc q
   ·rw [if_pos c]
    dsimp only
    rw [if_pos c]
    unfold za.uo
    dsimp only
    rw [yj]
    by_cases c2 : q = k
    ·rw [if_pos c2, c2, hv]
    ·rw [if_neg c2]
   ·rw [if_neg c]
    dsimp only
    rw [if_neg c]
  ·funext q
   unfold za.yt
   dsimp only
   rw [yj]
   by_cases c2 : q = k
   ·rw [if_pos c2, if_pos c2]; rfl
   ·rw [if_neg c2, if_neg c2]
def Abs.clean (X : Abs) (k : Int × Int) : Abs := if X.yt k then (X.Jw (za.yc k) (X.file k)).Za k false else X
def Abs.drop (X : Abs) (k : Int × Int) : Abs := ((X.clean k).Xr k ((X.clean k).cur (za.yc k))).Za k false
structure CleanD (x : za) (k : Int × Int) (y : za) : Prop where
 ok : Ok0 y
 abs : y.abs = x.abs.clean k
 same : y.P = x.P ∧ y.B = x.B ∧ y.S = x.S ∧ y.T = x.T ∧ y.R = x.R ∧ y.CR = x.CR
 ent : ∀ m pg, y.ent m pg = x.ent m pg
 cl : ∀ q, getL y.CL q = if q = k then (getL x.CL q).map fun v => (v.1, false) else getL x.CL q
 disk : y.D = if x.yt k then x.D.work.1.write (za.yc k) (x.R.read (x.cfr k).toNat 0 64) else x.D
theorem zj9 (x : za) {k : Int × Int} (hs : (getL x.CL k).isSome = true) : x.uo k = x.R.read (x.cfr k).toNat 0 64 := by
 unfold za.uo za.cfr
 obtain ⟨v, hv⟩ := Option.isSome_iff_exists.1 hs
 rw [hv]
 rfl
theorem Ok0.xx (h : Ok0 x) {k : Int × Int} (hk : xc k) (hs : (getL x.CL k).isSome = true) (hw : x.yt k = true → x.D.work.2 = 0) : (x.xx k).1 = 0 ∧ CleanD x k (x.xx k).2 := by
 unfold za.xx
 by_cases hd : x.yt k = false
 ·rw [if_pos hd]
  refine ⟨rfl, h, ?_, ⟨rfl, rfl, rfl, rfl, rfl, rfl⟩, fun _ _ => rfl, fun q => ?_, by rw [hd]; rfl⟩
  ·unfold Abs.clean
   have : x.abs.yt k = false := hd
   rw [this]
   rfl
  ·by_cases e : q = k
   ·rw [if_pos e]
    have hd2 : ((getL x.CL k).getD (0, false)).2 = false := hd
    rw [e]
    cases hv : getL x.CL k with
    | none => rfl
    | some v =>
     rw [hv] at hd2
     have hd3 : v.2 = false := hd2
     show some v = some (v.1, false)
     rw [← hd3]
   ·rw [if_neg e]
 ·have hdt : x.yt k = true := by simpa using hd
  have hw0 := hw hdt
  rw [if_neg hd, if_pos hw0]
  refine ⟨rfl, ?_⟩
  dsimp only
  obtain ⟨l, hl⟩ : ∃ l, l = x.R.read (x.cfr k).toNat 0 64 := ⟨_, rfl⟩
  have hl64 : l.length = 64 := by rw [hl]; exact Xb ..
  have hfile : x.uo k = l := by rw [hl]; exact zj9 x hs
  rw [← hl]
  have eW : x.wr (za.yc k) l = { x with D := x.D.work.1.write (za.yc k) l } := by unfold za.wr; rw [if_pos hw0]
  have hcur := wr_D x (za.yc k) l hw0
  have ok1 : Ok0 (x.wr (za.yc k) l) := by
   rw [eW] at hcur ⊢
   refine h.disk _ fun s hs2 => ?_
   have := hcur s
   dsimp only at this
   rw [this]
   split
   ·exact hl64
   ·exact h.ok.wf.secs s hs2
  have a1 : (x.wr (za.yc k) l).abs = x.abs.Jw (za.yc k) l := by
   unfold za.abs Abs.Jw
   rw [Abs.mk.injEq]
   refine ⟨by rw [eW], ?_, ?_, by rw [eW]; rfl, funext hcur⟩
   ·funext m pg
    dsimp only
    by_cases hq : pg < 4096
    ·rw [if_pos hq, if_pos hq]
     by_cases hm : m < 8
     ·refine Yh h.ok m pg hm hq (by rw [eW]) (by rw [eW]; rfl) (fun _ => by rw [eW]) (fun k2 => ?_) fun _ _ _ _ _ => by rw [eW]
      rw [hcur, if_neg]
      have hr := (Ent.ok_n (h.ok.wf.Yc m hq)).2 k2
      unfold za.yc
      unfold xc at hk
      omega
     ·have q1 := h.out m (by omega)
      have q2 : (x.wr (za.yc k) l).T m = none := by rw [eW]; exact q1
      unfold za.pv
      rw [q1, q2]
    ·rw [if_neg hq, if_neg hq]
   ·funext q
    dsimp only
    by_cases hq : xc q
    ·rw [if_pos hq, if_pos hq]
     by_cases e : q = k
     ·unfold za.uo
      rw [eW, e]
      obtain ⟨v, hv⟩ := Option.isSome_iff_exists.1 hs
      dsimp only
      rw [hv]
     ·refine jr h.ok q (by rw [eW]) ?_ fun _ _ _ _ _ => by rw [eW]
      rw [hcur, if_neg]
      intro z
      refine e (Prod.ext ?_ ?_)
      ·unfold za.yc at z; unfold xc at hk hq; omega
      ·unfold za.yc at z; unfold xc at hk hq; omega
    ·rw [if_neg hq, if_neg hq]
  have hv1 : ∃ v, getL (x.wr (za.yc k) l).CL k = some v := by rw [eW]; exact Option.isSome_iff_exists.1 hs
  obtain ⟨m1, m2, m3, m4⟩ := ok1.ok.markD k false hv1
  obtain ⟨v, hv⟩ := Option.isSome_iff_exists.1 hs
  have eM : (x.wr (za.yc k) l).zz k false = { x with D := x.D.work.1.write (za.yc k) l, CL := updL x.CL k (v.1, false) } := by
   unfold za.zz
   rw [eW]
   dsimp only
   rw [hv]
  refine ⟨⟨m1, ?_⟩, ?_, by rw [eM]; exact ⟨rfl, rfl, rfl, rfl, rfl, rfl⟩, fun m pg => ?_, fun q => ?_, ?_⟩
  ·rw [eM]; exact h.out
  ·rw [m2, a1]
   unfold Abs.clean
   have h1 : x.abs.yt k = true := hdt
   have h2 : x.abs.file k = l := by show (if xc k then x.uo k else []) = l; rw [if_pos hk, hfile]
   rw [h1, if_pos rfl, h2]
  ·rw [m3, eW]; rfl
  ·rw [eM]
   dsimp only
   rw [yj]
   by_cases e : q = k
   ·rw [if_pos e, if_pos e, e, hv]; rfl
   ·rw [if_neg e, if_neg e]
  ·rw [eM, hdt, if_pos rfl, hl]
structure DropD (x : za) (k : Int × Int) (f : Nat) (y : za) : Prop where
 ok : Ok0 y
 abs : y.abs = x.abs.drop k
 keeps : ut 0 x y
 free : y.P.use f = 1
 fr : ∀ g, x.P.use g = 1 → y.P.use g = 1
 others : ∀ g, g ≠ f → x.P.use g ≠ 1 → x.P.use g ≠ 2 → y.P.use g = x.P.use g
 ent : ∀ m pg, pg < 4096 → y.ent m pg = if plc m pg ∈ x.B f then Ent.none else x.ent m pg
 slots : ∀ j, j < 32 → y.S.getD j [] = x.S.getD j []
 disk : y.D = if x.yt k then x.D.work.1.write (za.yc k) (x.R.read f 0 64) else x.D
 cl : ∀ q, getL y.CL q = if q = k then none else getL x.CL q
theorem Ok0.Yo (h : Ok0 x) {k : Int × Int} (hk : xc k) (hs : (getL x.CL k).isSome = true) (hw : x.yt k = true → x.D.work.2 = 0) {f : Nat} (hf : x.cfr k = f) : (x.Yo k).1 = 0 ∧ DropD x k f (x.Yo k).2 := by
 obtain ⟨c0, c⟩ := h.xx hk hs hw
 obtain ⟨v, hv⟩ := Option.isSome_iff_exists.1 hs
 obtain ⟨g, q1, q2, q3, q4, q5⟩ := h.ok.Y4 hv
 have hvf : v.1 = (f : Int) := by unfold za.cfr at hf; rw [hv] at hf; exact hf
 have hgf : g = f := by omega
 subst hgf
 have e0 : x.Yo k = (0, ((((x.xx k).2.xk ((x.xx k).2.B (g : Int)) Ent.none)).y8 k).vz g) := by
  unfold za.Yo
  rw [if_neg (by rw [hs]; simp), if_neg (by rw [c0]; simp), hf]
 rw [e0]
 refine ⟨rfl, ?_⟩
 dsimp only
 obtain ⟨z, hz⟩ : ∃ z, z = (x.xx k).2 := ⟨_, rfl⟩
 rw [← hz] at c ⊢
 clear hz e0 c0
 obtain ⟨sP, sB, sS, sT, sR, sCR⟩ := c.same
 have hcrz : getL z.CR (g : Int) = some k := by rw [sCR, ← hvf]; exact q4
 have d := c.ok.ok.away (f0 := g) c.ok.out q2 (e := Ent.none) (by decide) (by decide) (fun z => absurd z (by decide))
 obtain ⟨y, hy⟩ : ∃ y, y = z.xk (z.B g) Ent.none := ⟨_, rfl⟩
 rw [← hy] at d ⊢
 clear hy
 have dm := d.many
 have hout : ∀ m, 8 ≤ m → y.T m = none := fun m hm => by
  have := dm.procs m
  rw [c.ok.out m hm] at this
  simpa using this
 have hcry : getL y.CR (g : Int) = some k := by rw [dm.keep.2.2]; exact hcrz
 obtain ⟨u1, u2, u3, u4, u5, u6⟩ := d.ok.zmr hout q2 d.nobody hcry
 have huse4 : z.P.use g = 4 := by rw [sP]; exact q3
 have pvs : ∀ m pg, m < 8 → pg < 4096 → y.pv m pg = z.pv m pg := fun m pg hm hq => by
  by_cases hin : plc m pg ∈ z.B g
  ·have hE := (c.ok.ok.backE g m pg q2 hm hq).1 hin
   obtain ⟨pr, hpr⟩ : ∃ pr, z.T m = some pr := by
    cases hT : z.T m with
    | none => rw [Z0 hT] at hE; exact absurd hE.1 (by decide)
    | some pr => exact ⟨pr, rfl⟩
   have hao := c.ok.ok.area m pr pg hpr hq
   obtain ⟨a, ha⟩ := hao.find (by omega)
   obtain ⟨p1, p2⟩ := d.here m pg hq hin pr a hpr ha
   rw [hcrz, if_neg (by simp)] at p2
   rw [p1, p2]
   unfold za.pv1
   rw [if_neg (by decide), if_neg (by decide), if_neg (by decide), if_neg]
   intro k1
   have := hao.own a ha hE.1 k1
   rw [hE.2, hcrz] at this
   cases this
  ·exact d.pv m pg hq hin (fun z => absurd z (by decide))
 rw [u3] at u1 u2 u4 u5 u6 ⊢
 obtain ⟨t, ht⟩ : ∃ t : za, t = { y with P := y.P.set g 1, CL := delL y.CL k, CR := delL y.CR g } := ⟨_, rfl⟩
 have tT : t.T = y.T := by rw [ht]
 have tP : ∀ j, t.P.use j = if j = g then 1 else y.P.use j := fun j => by rw [ht]; rfl
 have tZ : t.P.zone = y.P.zone ∧ t.P.iso = y.P.iso := by rw [ht]; exact ⟨rfl, rfl⟩
 have tS : t.S = y.S := by rw [ht]
 have tD : t.D = y.D := by rw [ht]
 have tR : t.R = y.R := by rw [ht]
 have tCL : t.CL = delL y.CL k := by rw [ht]
 rw [← ht] at u1 u2 u4 u5 u6 ⊢
 clear ht u3
 have hcu : z.abs.cur = z.D.cur := rfl
 have hDz : y.D = z.D := dm.keep.1
 have tPu : ∀ j, j ≠ g → x.P.use j ≠ 1 → x.P.use j ≠ 2 → t.P.use j = x.P.use j := fun j hj a b => by
  rw [tP, if_neg hj, dm.use j (by rw [sP]; exact a) (by rw [sP]; exact b), if_neg fun z => hj z.1, sP]
 have tPf : ∀ j, x.P.use j = 1 → t.P.use j = 1 := fun j a => by
  rw [tP]
  split
  ·rfl
  ·exact dm.fr j (by rw [sP]; exact a)
 refine ⟨⟨u1, fun m hm => by rw [tT]; exact hout m hm⟩, ?_, ?_, by rw [tP, if_pos rfl], tPf, tPu, fun m pg hq => ?_, fun j hj => ?_, ?_, fun q => ?_⟩
 ·unfold Abs.drop
  rw [← c.abs]
  unfold za.abs Abs.Xr Abs.Za
  rw [Abs.mk.injEq]
  refine ⟨funext fun m => by rw [tT]; exact dm.procs m, ?_, ?_, funext fun q => ?_, by rw [tD, hDz]⟩
  ·funext m pg
   dsimp only
   by_cases hq : pg < 4096
   ·rw [if_pos hq, if_pos hq]
    by_cases hm : m < 8
    ·rw [u4 m pg hm hq, pvs m pg hm hq]
    ·unfold za.pv
     rw [tT, hout m (by omega), c.ok.out m (by omega)]
   ·rw [if_neg hq, if_neg hq]
  ·funext q
   dsimp only
   by_cases hq : xc q
   ·rw [if_pos hq, if_pos hq, u5, d.file]
    by_cases e : q = k
    ·rw [if_pos e, if_pos e, hDz]
    ·rw [if_neg e, if_neg e]
   ·rw [if_neg hq, if_neg hq, if_neg]
    intro e; rw [e] at hq; exact hq hk
  ·dsimp only
   rw [u6, d.yt]
 ·have kk := dm.keeps
  refine ⟨by rw [tZ.1, tZ.2, ← sP]; exact kk.zone, ?_, by rw [tR, ← sR]; exact kk.bad, fun j v hv => ?_, fun m => by rw [tT, ← sT]; exact kk.some m⟩
  ·have := kk.room
   rw [sP] at this
   have r2 : y.P.room ≤ t.P.room := zg1 tZ fun j hj => by
    rw [tP]; split
    ·rfl
    ·exact hj
   omega
  ·by_cases e : j = g
   ·rw [tP, if_pos e, e, q3]; omega
   ·rw [tP, if_neg e, ← sP]; exact kk.fix j v hv
 ·rw [u2 m pg hq, dm.ent m pg hq, c.ent, sB]
 ·rw [tS]
  refine xn (x9 d.ok.wf.slots j).1 (x9 h.ok.wf.slots j).1 ?_
  refine (List.perm_ext_iff_of_nodup (x9 d.ok.wf.slots j).1.nodup (x9 h.ok.wf.slots j).1.nodup).2 fun q => ?_
  rw [dm.memS j q hj, sS]
  split
  ·rename_i hin
   refine ⟨fun a => absurd a.1 (by decide), fun a => ?_⟩
   have := (c.ok.ok.zju q2 q hin).noS j hj
   rw [sS] at this
   exact absurd a this
  ·exact Iff.rfl
 ·rw [tD, hDz, c.disk, hf]; simp
 ·rw [tCL, Ya d.ok.wf.nd.1, dm.keep.2.1, c.cl]
  by_cases e : q = k
  ·rw [if_pos e, if_pos e]
  ·rw [if_neg e, if_neg e, if_neg e]
end
section
variable {F : Nat → Prop} {x y : za}
theorem zbu (x : za) (n page : Nat) {e : Ent} (he : e.kind ≠ 2) (ho : (x.ent n page).kind ≠ 2) : (x.putF n page e).2.S = x.S := by
 unfold za.putF
 cases hp : x.T n with
 | none => rfl
 | some pr =>
  have ho2 : (jo x.R pr.T page).1.kind ≠ 2 := by unfold za.ent at ho; rw [hp] at ho; exact ho
  dsimp only
  split
  ·rfl
  ·split
   ·rfl
   ·split
    ·rfl
    ·show ((x.xg n pr _).puts e (jo x.R pr.T page).1 ((n : Int), (page : Int))).S = _
     rw [zg3, if_neg fun z => ho2 z.1]
     unfold za.put2
     rw [if_neg he]
     rfl
theorem zms (x : za) (n : Nat) (at_ : Int) : (x.u7 n at_).S = x.S := (zgt x n at_).2.2.2.2.1
theorem zhz (h : WF x) (u : Nat) : (x.yu u).2.S = x.S ∧ ∀ m pg, pg < 4096 → (x.yu u).2.ent m pg = x.ent m pg := by
 rcases h.yu u with ⟨_, e⟩ | ⟨f, _, e, d⟩
 ·rw [e]; exact ⟨rfl, fun _ _ _ => rfl⟩
 ·rw [e]; exact ⟨d.keep.2.2.1, d.ent⟩
theorem zj4 (h : WF x) (u sec : Nat) (h2 : 2 ≤ u) (h5 : u ≤ 5) (hs : (x.D.cur sec).length = 64) : (x.zw u sec).2.S = x.S ∧ ∀ m pg, pg < 4096 → (x.zw u sec).2.ent m pg = x.ent m pg := by
 rcases h.zw u sec h2 h5 hs with ⟨_, e⟩ | ⟨f, _, _, e, d, _⟩ | ⟨f, _, hw, e, d, _⟩
 ·rw [e]; exact ⟨rfl, fun _ _ _ => rfl⟩
 ·exact ⟨d.keep.2.2.1, d.ent⟩
 ·exact ⟨d.keep.2.2.1, d.ent⟩
theorem zj5 (h : WF x) (g : Int) : (x.yn g).2.S = x.S ∧ ∀ m pg, pg < 4096 → (x.yn g).2.ent m pg = x.ent m pg := by
 rcases h.yn g with ⟨_, e⟩ | ⟨f, _, _, e, d, _⟩ | ⟨f, _, hw, e, d, _⟩
 ·rw [e]; exact ⟨rfl, fun _ _ _ => rfl⟩
 ·exact ⟨d.keep.2.2.1, d.ent⟩
 ·exact ⟨d.keep.2.2.1, d.ent⟩
theorem zf4 (x : za) (k : Int × Int) (f : Int) : (x.vw k f).S = x.S ∧ ∀ m pg, (x.vw k f).ent m pg = x.ent m pg := by
 unfold za.vw
 split
 ·exact ⟨rfl, fun _ _ => rfl⟩
 ·exact ⟨rfl, fun _ _ => rfl⟩
theorem znc (h : WF x) {k : Int × Int} (hk : xc k) : (x.ve k).2.S = x.S ∧ ∀ m pg, pg < 4096 → (x.ve k).2.ent m pg = x.ent m pg := by
 unfold za.ve
 cases getL x.CL k with
 | some v => exact ⟨rfl, fun _ _ _ => rfl⟩
 | none =>
  dsimp only
  have d := zj4 h 4 (za.yc k) (by omega) (by omega) (h.secs _ (Zx hk))
  split
  ·obtain ⟨c1, c2⟩ := zf4 (x.zw 4 (za.yc k)).2 k (x.zw 4 (za.yc k)).1.1
   exact ⟨c1.trans d.1, fun m pg hp => (c2 m pg).trans (d.2 m pg hp)⟩
  ·exact d
theorem zj7 (h : WF x) {n page : Nat} {pr : ym} (hp : x.T n = some pr) (hpg : page < 4096) {a : Ar} (ha : yg pr.A (page : Int) = some a) (ho : (x.ent n page).kind ≠ 2) : (x.qz n page a).2.S = x.S := by
 unfold za.qz
 by_cases k : a.kind ≠ 1
 ·rw [if_pos k]
  have d := znc h (Ua (h.Zv n pr hp).1 ha k)
  split
  ·exact (zbu _ n page (by show (1 : Nat) ≠ 2; omega) (by rw [d.2 n page hpg]; exact ho)).trans d.1
  ·exact d.1
 ·rw [if_neg k]
  have d := zhz h 3
  split
  ·split
   ·exact (zbu _ n page (by show (1 : Nat) ≠ 2; omega) (by rw [d.2 n page hpg]; exact ho)).trans d.1
   ·rw [(Ym _ _).2.2.1]
    exact (zbu _ n page (by show (1 : Nat) ≠ 2; omega) (by rw [d.2 n page hpg]; exact ho)).trans d.1
  ·exact d.1
theorem zfk (h : WF x) {n page : Nat} {pr : ym} (hp : x.T n = some pr) (hpg : page < 4096) {a : Ar} (ha : yg pr.A (page : Int) = some a) (ho : (x.ent n page).kind ≠ 2) : (x.zx n page a).2.S = x.S := by
 unfold za.zx
 split
 ·exact zms _ _ _
 ·split
  ·exact zj7 h hp hpg ha ho
  ·rfl
theorem ownF_S (h : WF x) {n page : Nat} (hpg : page < 4096) (a : Ar) (f : Int) (ho : (x.ent n page).kind ≠ 2) : (x.ownF n page a f).2.S = x.S := by
 unfold za.ownF
 split
 ·unfold za.zz; rfl
 ·split
  ·exact zbu _ n page (by show (1 : Nat) ≠ 2; omega) ho
  ·have d := zj5 h f
   split
   ·exact (zbu _ n page (by show (1 : Nat) ≠ 2; omega) (by rw [d.2 n page hpg]; exact ho)).trans d.1
   ·exact d.1
theorem Ok0.ask_S (h : Ok0 x) {n page : Nat} {pr : ym} (hp : x.T n = some pr) (hpg : page < 4096) (wr : Bool) (ho : (x.ent n page).kind ≠ 2) : (x.askF n page wr).2.S = x.S := by
 unfold za.askF
 rw [hp]
 dsimp only
 cases ha : yg pr.A (page : Int) with
 | none => rfl
 | some a =>
  dsimp only
  have hS := zfk h.ok.wf hp hpg ha ho
  split
  ·rfl
  ·split
   ·rename_i z
    rcases h.ok.zx h.out hp hpg ha with ⟨_, e⟩ | ⟨_, g, fr⟩
    ·rw [e] at z; simp at z
    ·exact (ownF_S g.ok.wf hpg a _ (by rw [(fr z.1).1]; omega)).trans hS
   ·exact hS
structure znq (x : za) (n page : Nat) (a : Ar) (at_ : Nat) (b : List UInt8) (f : Nat) (y : za) : Prop where
 ok : Ok0 y
 abs : y.abs = (x.abs.own a n page).write a n page at_ b
 keeps : ut 5 x y
 disk : y.D = x.D
 mine : Mine y a n page f
 ent1 : ∀ m pg, pg < 4096 → ¬ (m = n ∧ pg = page) → (x.ent m pg).kind = 1 → y.ent m pg = x.ent m pg
 backs : ∀ (m pg g : Nat), m < 8 → pg < 4096 → ¬ (m = n ∧ pg = page) → g < 1024 → x.P.use g = 3 → x.B g = [plc m pg] → y.B g = [plc m pg] ∧ y.P.use g = 3
 cr : ∀ g k, getL x.CR g = some k → getL y.CR g = some k
 slots : (x.ent n page).kind ≠ 2 → y.S = x.S
 eq : ∃ z f' c, x.askF n page true = ((f', c), z) ∧ y.P = z.P ∧ y.B = z.B ∧ y.T = z.T ∧ y.CL = z.CL ∧ y.CR = z.CR ∧ f' = (f : Int)
theorem Ok0.zma (h : Ok0 x) {n : Nat} {a0 : Nat} {b : List UInt8} {a : Ar} (h0 : 0 < b.length) (h1 : a0 % 64 + b.length ≤ 64) (h2 : a0 + b.length ≤ 262144) (hc : zbc x.abs n (a0 / 64) a) (hw : a.write = true) (hroom : 5 ≤ x.P.room) (hcalm : x.D.Calm) :
  x.um n a0 b.length = 0 ∧ ∃ y f, x.Z9 n a0 b = (0, y) ∧ znq x n (a0 / 64) a (a0 % 64) b f y := by
 have hpg : a0 / 64 < 4096 := by omega
 have hs : (x.T n).isSome = true := by
  have := hc.area
  cases hp : x.T n with
  | none => unfold Abs.area za.abs at this; dsimp only at this; rw [hp] at this; cases this
  | some _ => rfl
 have hr : x.um n a0 b.length = 0 := by
  unfold za.um
  rw [if_neg, if_neg (by omega)]
  rintro (k | k)
  ·omega
  ·rw [Int.toNat_natCast, hs] at k; cases k
 refine ⟨hr, ?_⟩
 obtain ⟨ask0, hD⟩ := h.askOk hpg hc (wr := true) (fun _ => hw) hroom hcalm
 obtain ⟨pr0, hp0⟩ := Option.isSome_iff_exists.1 hs
 have hSS := h.ask_S hp0 hpg true
 have hn8 := h.ok.Xt h.out hp0
 unfold za.Z9
 rw [if_pos hr]
 simp only [Int.toNat_natCast]
 have hone := V7 n true x a0 b.length h0 h1
 rw [if_pos ask0] at hone
 rcases h.pieces hs true h0 (by omega) h2 with ⟨e, _⟩ | ⟨_, f, a1, y, e, ha, g⟩ | ⟨e, _⟩
 ·rw [hone] at e
  exact absurd rfl e
 ·have hz : (x.askF n (a0 / 64) true).2 = y ∧ (x.askF n (a0 / 64) true).1.1.toNat = f := by
   rw [hone] at e
   have e1 := congrArg Prod.snd e
   have e2 := congrArg (fun z => z.1.1) e
   dsimp only at e1 e2
   exact ⟨e1, congrArg Pc.f (List.cons.inj e2).1⟩
  rw [e]
  dsimp only
  rw [if_pos rfl]
  have haa : a1 = a := by rw [hc.area] at ha; cases ha; rfl
  subst haa
  have hab : y.abs = x.abs.own a1 n (a0 / 64) := g.abs rfl
  obtain ⟨q, hq, hm⟩ := g.mine rfl rfl
  have hqf : q = f := by omega
  subst hqf
  have hs2 : (y.T n).isSome = true := by rw [g.keeps.some]; exact hs
  obtain ⟨pr, hp⟩ := Option.isSome_iff_exists.1 hs2
  have har : yg pr.A ((a0 / 64 : Nat) : Int) = some a1 := by
   rw [← Xh hp, hab, ← ha]
   unfold Abs.area Abs.own
   split <;> rfl
  obtain ⟨w1, w2, w3⟩ := g.ok.wr1 hp hpg har hm (a0 % 64) b h1
  have ew : za.Yq [⟨q, a0 % 64, b.length⟩] b y.R = y.R.write q (a0 % 64) b := by simp [za.Yq]
  rw [ew]
  have k := g.keeps
  refine ⟨_, q, rfl, w1, by rw [w2, hab], ⟨k.zone, k.room, k.bad, k.fix, k.some⟩, hD q a1 y g, ⟨hm.lt, by rw [w3 n _ hpg]; exact hm.ent, hm.shared, hm.own⟩, fun m pg hp2 hne hk => by rw [w3 m pg hp2]; exact g.ent1 m pg hp2 hne hk, g.backs, g.cr, fun z => by rw [← hz.1] ; exact hSS z, ?_⟩
  obtain ⟨⟨f1, c1⟩, z1⟩ : ∃ r, r = x.askF n (a0 / 64) true := ⟨_, rfl⟩
  have hnat := za8 h.ok.wf hp0 hpg true
  obtain ⟨fn, hfn⟩ := hnat
  refine ⟨y, (x.askF n (a0 / 64) true).1.1, (x.askF n (a0 / 64) true).1.2, ?_, rfl, rfl, rfl, rfl, rfl, by have := hz.2; omega⟩
  rw [← hz.1]
 ·omega
structure znv (x : za) (n page : Nat) (y : za) : Prop where
 ok : Ok0 y
 abs : y.abs = x.abs
 keeps : ut 5 x y
 disk : y.D = x.D
 frame : (y.ent n page).kind = 1
 ent1 : ∀ m pg, pg < 4096 → ¬ (m = n ∧ pg = page) → (x.ent m pg).kind = 1 → y.ent m pg = x.ent m pg
 backs : ∀ (m pg g : Nat), m < 8 → pg < 4096 → ¬ (m = n ∧ pg = page) → g < 1024 → x.P.use g = 3 → x.B g = [plc m pg] → y.B g = [plc m pg] ∧ y.P.use g = 3
 cr : ∀ g k, getL x.CR g = some k → getL y.CR g = some k
 slots : (x.ent n page).kind ≠ 2 → y.S = x.S
 eq : (x.askF n page false).2 = y
theorem Ok0.loadQ (h : Ok0 x) {n : Nat} (hn : n < 8) {a0 s : Nat} {a : Ar} (h0 : 0 < s) (h1 : a0 % 64 + s ≤ 64) (h2 : a0 + s ≤ 262144) (hc : zbc x.abs n (a0 / 64) a) (hroom : 5 ≤ x.P.room) (hcalm : x.D.Calm) :
  ∃ y, x.Yk n a0 s = ((((x.abs.ct a n (a0 / 64)).drop (a0 % 64)).take s, 0), y) ∧ znv x n (a0 / 64) y := by
 have hpg : a0 / 64 < 4096 := by omega
 have hs : (x.T n).isSome = true := by
  have := hc.area
  cases hp : x.T n with
  | none => unfold Abs.area za.abs at this; dsimp only at this; rw [hp] at this; cases this
  | some _ => rfl
 have hr : x.um n a0 s = 0 := by
  unfold za.um
  rw [if_neg, if_neg (by omega)]
  rintro (k | k)
  ·omega
  ·rw [Int.toNat_natCast, hs] at k; cases k
 obtain ⟨ask0, hD⟩ := h.askOk hpg hc (wr := false) (fun e => by cases e) hroom hcalm
 obtain ⟨pr0, hp0⟩ := Option.isSome_iff_exists.1 hs
 have hSS := h.ask_S hp0 hpg false
 unfold za.Yk
 rw [if_pos hr]
 simp only [Int.toNat_natCast]
 have hone := V7 n false x a0 s h0 h1
 rw [if_pos ask0] at hone
 rcases h.pieces hs false h0 (by omega) h2 with ⟨e, _⟩ | ⟨_, f, a1, y, e, ha, g⟩ | ⟨e, _⟩
 ·rw [hone] at e
  exact absurd rfl e
 ·have hz : (x.askF n (a0 / 64) false).2 = y := by
   rw [hone] at e
   exact congrArg Prod.snd e
  rw [e]
  dsimp only
  rw [if_pos rfl]
  have haa : a1 = a := by rw [hc.area] at ha; cases ha; rfl
  subst haa
  have hab : y.abs = x.abs := g.abs rfl
  refine ⟨y, ?_, g.ok, hab, g.keeps, hD f a1 y g, (g.frame rfl).1, g.ent1, g.backs, g.cr, fun z => by rw [← hz]; exact hSS z, hz⟩
  have hb := g.bytes hn hpg (by rw [hab]; exact ha)
  have : Yf y.R [⟨f, a0 % 64, s⟩] = ((x.abs.ct a1 n (a0 / 64)).drop (a0 % 64)).take s := by
   unfold Yf
   simp only [List.flatMap_cons, List.flatMap_nil, List.append_nil]
   rw [zjg _ _ _ _ h1, hb, hab]
  rw [this]
 ·omega
end
def bys (l : List UInt8) : List Value := l.map bV
theorem znk (l : List UInt8) : (bys l).length = l.length := List.length_map ..
theorem ze5 {w : World} {v : Value} {l : List UInt8} : BRd w v l ↔ SlRd w 1 v (bys l).length (bys l) := by rw [znk]; exact Iff.rfl
theorem SlRd.keepO {w w' : World} {k n : Nat} {v : Value} {xs : List Value} (h : SlRd w k v n xs) (hk : ∀ b, v.ownBlock = some b → w'.heap[b]? = w.heap[b]?) : SlRd w' k v n xs := by
 refine ⟨h.1, ?_⟩
 rcases h.2 with h0 | ⟨b, off, c, rfl, hnc, hm, hg, hx⟩
 ·exact .inl h0
 ·have e := hk b (by simp [Value.ownBlock])
  exact .inr ⟨b, off, c, rfl, hnc, hm, (Array.getElem?_eq_some_iff.1 (e.trans (Array.getElem?_eq_getElem hg))).1, fun j u hu => (World.cell?_of_block (w := w) e).trans (hx j u hu)⟩
structure At (w0 : World) (V : List (Value × List Value)) (sp : Nat) (X : Abs) (r : Nat) (w : World) : Prop where
 st : ∃ x q tag, q.sp = sp ∧ zb w tag q x ∧ (∀ b, b < w0.heap.size → tag b = 0) ∧ (∀ p ∈ V, SlRd w 1 p.1 p.2.length p.2 ∧ ∀ b, p.1.ownBlock = some b → tag b = 0) ∧ Ok0 x ∧ x.abs = X ∧ r ≤ x.P.room ∧ x.D.Calm
 bel : Below w0.heap.size w0 w
section
variable {w0 w w' : World} {V : List (Value × List Value)} {sp r : Nat} {X : Abs} {C : Nat → Prop} {tag tag' : Nat → Nat}
theorem Zy (hC : ¬ C 0) (s : Step C tag w tag' w') (hb : Below w0.heap.size w0 w) (low : ∀ b, b < w0.heap.size → tag b = 0) (hV : ∀ p ∈ V, SlRd w 1 p.1 p.2.length p.2 ∧ ∀ b, p.1.ownBlock = some b → tag b = 0) :
  (∀ b, b < w0.heap.size → tag' b = 0) ∧ (∀ p ∈ V, SlRd w' 1 p.1 p.2.length p.2 ∧ ∀ b, p.1.ownBlock = some b → tag' b = 0) ∧ Below w0.heap.size w0 w' := by
 have hsz := hb.size
 refine ⟨fun b h => (s.keeps hC b (by omega) (low b h)).1, fun p hp => ?_, ⟨s.turn.os.trans hb.os, s.turn.tape.trans hb.tape, s.turn.output.trans hb.output, Nat.le_trans hsz s.turn.size, fun k hk => (s.keeps hC k (by omega) (low k hk)).2.trans (hb.block k hk)⟩⟩
 obtain ⟨h1, h2⟩ := hV p hp
 exact ⟨SlRd.keepO h1 fun b h => (s.keeps hC b (SlRd.lt h1 b h) (h2 b h)).2, fun b h => (s.keeps hC b (SlRd.lt h1 b h) (h2 b h)).1⟩
theorem At.less (h : At w0 V sp X r w) {r' : Nat} (hr : r' ≤ r) : At w0 V sp X r' w := by
 obtain ⟨⟨x, q, tag, hq, hS, low, hV, hk, hX, hr', hc⟩, hbel⟩ := h
 exact ⟨⟨x, q, tag, hq, hS, low, hV, hk, hX, by omega, hc⟩, hbel⟩
def Has (w0 : World) (V : List (Value × List Value)) (w : World) (v : Value) (l : List UInt8) : Prop := (v, bys l) ∈ V ∨ BRd w v l ∧ ∀ b, v.ownBlock = some b → b < w0.heap.size
theorem CS0 (n : Nat) : ¬ CS n 0 := by unfold CS; omega
theorem At.load' {x : za} {q : Sq} {tag : Nat → Nat} (hS : zb w tag q x) (hk : Ok0 x) {n : Nat} (hn : n < 8) (hs : (x.T n).isSome = true) (a s : Int) :
  Calls Tryz.prog 20 #[ptrV q.sp, .int .i64 n, .int .i64 a, .int .i64 s] w fun e w' => ∃ v tag', e = .returned (.tuple #[v, .int .i64 (x.Yk n a s).1.2]) ∧ ByAt w' v (x.Yk n a s).1.1 ∧ (∀ b, v.ownBlock = some b → tag' b = 0) ∧ zb w' tag' q (x.Yk n a s).2 ∧ Step CB tag w tag' w' := by
 refine zkx n hn _ (zij n false) hS ⟨hk, hs⟩ a s fun h0 h1 => ?_
 have hb : 0 ≤ a ∧ 0 ≤ s ∧ s ≤ 64 ∧ a + s ≤ 262144 := by
  unfold za.um at h0
  split at h0
  ·omega
  ·split at h0
   ·omega
   ·omega
 obtain ⟨g1, g2, _⟩ := hk.Qm hs false (a := a.toNat) (s := s.toNat) (by omega) (by omega) h1
 exact ⟨g1, g2⟩
theorem At.store' {x : za} {q : Sq} {tag : Nat → Nat} (hS : zb w tag q x) (hk : Ok0 x) {n : Nat} (hn : n < 8) (hs : (x.T n).isSome = true) (a : Nat) {v : Value} {l : List UInt8} (hv : BRd w v l) (ho : ∀ b, v.ownBlock = some b → tag b = 0) (hr : x.um n a l.length = 0) :
  Calls Tryz.prog 19 #[ptrV q.sp, .int .i64 n, .int .i64 a, v] w fun e w' => e = .returned (.int .i64 (x.Z9 n a l).1) ∧ ∃ tag', zb w' tag' q (x.Z9 n a l).2 ∧ Step CB tag w tag' w' := by
 obtain ⟨va, vc, rfl, _, _⟩ := SlRd.form hv
 have hb : l.length ≤ 64 ∧ a + l.length ≤ 262144 := by
  have h0 := hr
  unfold za.um at h0
  split at h0
  ·omega
  ·split at h0
   ·omega
   ·omega
 have R := Qf hS n a l.length
 rw [hr] at R
 have P := J3 n hn true _ (zij n true) hS ⟨hk, hs⟩ a l.length (by omega) (by omega)
 have W := zf6 (tag := tag) n a va vc l R hv ho hb.1 (za.zk n true 3 x a l.length) (P.mono (by
  rintro e w1 (⟨v, tag1, rfl, h0, hv, ho, hS, hst, _⟩ | ⟨tag1, rfl, h0, hS, hst⟩)
  ·exact .inl ⟨v, tag1, rfl, h0, hv, ho, hS, hst⟩
  ·exact .inr ⟨tag1, rfl, h0, hS, hst⟩)) (fun h0 => by
   obtain ⟨_, g2, g3⟩ := hk.Qm hs true (a := a) (s := l.length) hb.1 hb.2 h0
   exact ⟨g2, g3⟩)
 have e1 : (x.Z9 n a l).1 = (za.zk n true 3 x a l.length).1.2 ∧ (x.Z9 n a l).2 = (if (za.zk n true 3 x a l.length).1.2 = 0 then { (za.zk n true 3 x a l.length).2 with R := za.Yq (za.zk n true 3 x a l.length).1.1 l (za.zk n true 3 x a l.length).2.R } else (za.zk n true 3 x a l.length).2) := by
  unfold za.Z9
  rw [if_pos hr]
  simp only [Int.toNat_natCast]
  by_cases z : (za.zk n true 3 x a l.length).1.2 = 0
  ·rw [if_pos z, if_pos z, z]; exact ⟨rfl, rfl⟩
  ·rw [if_neg z, if_neg z]; exact ⟨rfl, rfl⟩
 rw [e1.1, e1.2]
 exact W
theorem zm7 {v : Value} {l : List UInt8} (h : Has w0 V w v l) (low : ∀ b, b < w0.heap.size → tag b = 0) (hV : ∀ p ∈ V, SlRd w 1 p.1 p.2.length p.2 ∧ ∀ b, p.1.ownBlock = some b → tag b = 0) : BRd w v l ∧ ∀ b, v.ownBlock = some b → tag b = 0 := by
 rcases h with h | ⟨h, g⟩
 ·exact ⟨ze5.2 (hV _ h).1, (hV _ h).2⟩
 ·exact ⟨h, fun b hb => low b (g b hb)⟩
theorem zb.secs {q : Sq} {x : za} (h : zb w tag q x) : ∀ s, s < 192 → (x.D.cur s).length = 64 := by
 intro s hs
 obtain ⟨sb, off, c, mb, U, L, hD⟩ := h.disk
 obtain ⟨v, _, hv⟩ := Uy _ hD s hs
 exact hv.1
end
theorem SameP.key {a b : Ar} {wr : Bool} (h : SameP a b wr) (hk : a.kind ≠ 1) (page : Nat) : za.keyF b page = za.keyF a page := by
 unfold za.keyF
 rw [h.file]
 rcases h.off with e | e
 ·exact absurd e hk
 ·rw [Prod.mk.injEq]
  exact ⟨rfl, by omega⟩
section
variable {X : Abs} {a : Ar} {n page : Nat}
theorem zgo (X : Abs) (a : Ar) (n page k : Nat) (b : List UInt8) : (X.write a n page k b).A = X.A := by unfold Abs.write; split <;> rfl
theorem zfe (X : Abs) (a : Ar) (n page k : Nat) (b : List UInt8) (m pg : Nat) : ((X.own a n page).write a n page k b).area m pg = X.area m pg := ze7 (by rw [zgo, zer]) m pg
theorem Yt (X : Abs) (a : Ar) (n page k : Nat) (b : List UInt8) (h : a.kind = 2) :
  ((X.own a n page).write a n page k b).pv = X.pv ∧ (∀ q, ((X.own a n page).write a n page k b).file q = if q = za.keyF a page then Abs.splice (X.file q) k b else X.file q) := by
 unfold Abs.write Abs.own
 rw [if_pos h, if_pos h]
 refine ⟨rfl, fun q => ?_⟩
 show (if q = za.keyF a page then Abs.splice (X.file (za.keyF a page)) k b else X.file q) = _
 by_cases e : q = za.keyF a page
 ·rw [if_pos e, if_pos e, e]
 ·rw [if_neg e, if_neg e]
theorem za6 (h : X.pv n page = .file) : X.ct a n page = X.file (za.keyF a page) := by unfold Abs.ct; rw [h]
theorem zic {l : List UInt8} (h : X.pv n page = .own l) : X.ct a n page = l := by unfold Abs.ct; rw [h]
theorem zbn (X : Abs) (a : Ar) (n page k : Nat) (b : List UInt8) (h : a.kind ≠ 2) :
  (∀ m pg, ((X.own a n page).write a n page k b).pv m pg = if m = n ∧ pg = page then .own (Abs.splice (X.ct a n page) k b) else X.pv m pg) ∧ ((X.own a n page).write a n page k b).file = X.file := by
 have hct : (X.Qc n page (.own (X.ct a n page))).ct a n page = X.ct a n page := by
  exact zic (X := X.Qc n page (.own (X.ct a n page))) (if_pos ⟨rfl, rfl⟩)
 unfold Abs.write Abs.own
 rw [if_neg h, if_neg h, hct]
 refine ⟨fun m pg => ?_, rfl⟩
 show (if m = n ∧ pg = page then _ else if m = n ∧ pg = page then _ else X.pv m pg) = _
 by_cases e : m = n ∧ pg = page
 ·rw [if_pos e, if_pos e]
 ·rw [if_neg e, if_neg e, if_neg e]
theorem zc5 (l b : List UInt8) : Abs.splice l 0 b = b ++ l.drop b.length := by unfold Abs.splice; simp
theorem zc6 (l b : List UInt8) (n : Nat) (h : n = b.length) : ((Abs.splice l 0 b).drop 0).take n = b := by
 rw [zc5, List.drop_zero, h, List.take_left']
 rfl
end
section
variable {X : Abs} {a : Ar} {n p q at_ : Nat} {b : List UInt8}
theorem zdz {Y : Abs} (h1 : Y.pv n q = X.pv n q) (h2 : Y.file (za.keyF a q) = X.file (za.keyF a q)) : Y.ct a n q = X.ct a n q := by unfold Abs.ct; rw [h1, h2]
theorem Qx (X : Abs) (a : Ar) (n p q : Nat) : (X.own a n p).ct a n q = X.ct a n q := by
 unfold Abs.own
 split
 ·rfl
 ·by_cases e : q = p
  ·subst e
   exact zic (X := X.Qc n q (.own (X.ct a n q))) (if_pos ⟨rfl, rfl⟩)
  ·exact zdz (Y := X.Qc n p (.own (X.ct a n p))) (if_neg fun z => e z.2) rfl
theorem Vr (h : a.kind = 2 → X.pv n p = .file) : (X.write a n p at_ b).ct a n p = Abs.splice (X.ct a n p) at_ b := by
 unfold Abs.write
 split
 ·rename_i k
  rw [za6 (X := X) (h k), za6 (X := X.Xr (za.keyF a p) (Abs.splice (X.file (za.keyF a p)) at_ b)) (h k)]
  exact if_pos rfl
 ·exact zic (X := X.Qc n p (.own (Abs.splice (X.ct a n p) at_ b))) (if_pos ⟨rfl, rfl⟩)
theorem Jh (h : q ≠ p) : (X.write a n p at_ b).ct a n q = X.ct a n q := by
 unfold Abs.write
 split
 ·refine zdz (Y := X.Xr (za.keyF a p) (Abs.splice (X.file (za.keyF a p)) at_ b)) rfl (if_neg fun z => ?_)
  unfold za.keyF at z
  rw [Prod.mk.injEq] at z
  omega
 ·exact zdz (Y := X.Qc n p (.own (Abs.splice (X.ct a n p) at_ b))) (if_neg fun z => h z.2) rfl
theorem zc7 (l b : List UInt8) (at_ : Nat) (h : at_ + b.length ≤ l.length) : ((Abs.splice l at_ b).drop at_).take b.length = b := by
 unfold Abs.splice
 rw [List.drop_left' (by rw [List.length_take]; omega), List.take_left' rfl]
theorem Ju (l b : List UInt8) (at_ : Nat) (h : at_ + b.length ≤ l.length) : (Abs.splice l at_ b).length = l.length := by
 unfold Abs.splice
 simp only [List.length_append, List.length_take, List.length_drop]
 omega
end
def Abs.st (X : Abs) (a : Ar) (n a0 : Nat) (l : List UInt8) : Abs :=
 if a0 % 64 + l.length ≤ 64 then (X.own a n (a0 / 64)).write a n (a0 / 64) (a0 % 64) l
 else (((X.own a n (a0 / 64)).own a n (a0 / 64 + 1)).write a n (a0 / 64) (a0 % 64) (l.take (64 - a0 % 64))).write a n (a0 / 64 + 1) 0 (l.drop (64 - a0 % 64))
structure PgOk (X : Abs) (a : Ar) (n p : Nat) : Prop where
 area : X.area n p = some a
 there : X.pv n p ≠ .lost
 shared : a.kind = 2 → X.pv n p = .file
 len : (X.ct a n p).length = 64
theorem PgOk.can {X : Abs} {a : Ar} {n p : Nat} (h : PgOk X a n p) : zbc X n p a := ⟨h.area, h.there⟩
section
variable {X : Abs} {a : Ar} {n p q at_ a0 : Nat} {b l : List UInt8}
theorem zdj (h : X.pv n p ≠ .lost) : (X.own a n q).pv n p ≠ .lost := by
 unfold Abs.own
 split
 ·exact h
 ·show (if n = n ∧ p = q then _ else X.pv n p) ≠ _
  split
  ·intro z; cases z
  ·exact h
theorem zaw (h : X.pv n p = .file) (k : a.kind = 2) : (X.own a n q).pv n p = .file := by
 unfold Abs.own
 rw [if_pos k]
 exact h
theorem zao (h : X.pv n p ≠ .lost) : (X.write a n q at_ b).pv n p ≠ .lost := by
 unfold Abs.write
 split
 ·exact h
 ·show (if n = n ∧ p = q then _ else X.pv n p) ≠ _
  split
  ·intro z; cases z
  ·exact h
theorem U5 (h : X.pv n p = .file) (k : a.kind = 2) : (X.write a n q at_ b).pv n p = .file := by
 unfold Abs.write
 rw [if_pos k]
 exact h
theorem PgOk.own (h : PgOk X a n p) (q : Nat) : PgOk (X.own a n q) a n p :=
 ⟨by rw [ze7 (zer X a n q)]; exact h.area, zdj h.there, fun k => zaw (h.shared k) k, by rw [Qx]; exact h.len⟩
theorem PgOk.write (h : PgOk X a n p) (hq : q = p → at_ + b.length ≤ 64) : PgOk (X.write a n q at_ b) a n p := by
 refine ⟨by rw [ze7 (zgo X a n q at_ b)]; exact h.area, zao h.there, fun k => U5 (h.shared k) k, ?_⟩
 by_cases e : p = q
 ·subst e
  rw [Vr h.shared, Ju _ _ _ (by rw [h.len]; exact hq rfl)]
  exact h.len
 ·rw [Jh e]; exact h.len
theorem PgOk.st (h : PgOk X a n p) (hl : l.length ≤ 64) : PgOk (X.st a n a0 l) a n p := by
 unfold Abs.st
 split
 ·exact (h.own _).write fun _ => by omega
 ·refine (((h.own _).own _).write fun _ => ?_).write fun _ => ?_
  ·rw [List.length_take]; omega
  ·rw [List.length_drop]; omega
end
structure AtQ (w0 : World) (V : List (Value × List Value)) (q : Sq) (x : za) (w : World) : Prop where
 st : ∃ tag, zb w tag q x ∧ (∀ b, b < w0.heap.size → tag b = 0) ∧ (∀ p ∈ V, SlRd w 1 p.1 p.2.length p.2 ∧ ∀ b, p.1.ownBlock = some b → tag b = 0)
 bel : Below w0.heap.size w0 w
section
variable {w0 w w' : World} {V : List (Value × List Value)} {q : Sq} {x : za} {C : Nat → Prop}
theorem AtQ.go (h : AtQ w0 V q x w) (hC : ¬ C 0) {F : Nat} {args : Array Value} {P : Ending → Prop} {y : za}
  (k : ∀ tag, zb w tag q x → Calls Tryz.prog F args w fun e w' => P e ∧ ∃ tag', zb w' tag' q y ∧ Step C tag w tag' w') : Calls Tryz.prog F args w fun e w' => P e ∧ AtQ w0 V q y w' := by
 obtain ⟨⟨tag, hS, low, hV⟩, hb⟩ := h
 refine (k tag hS).mono ?_
 rintro e w1 ⟨he, tag1, h1, s1⟩
 obtain ⟨a, b, c⟩ := Zy hC s1 hb low hV
 exact ⟨he, ⟨tag1, h1, a, b⟩, c⟩
theorem AtQ.below (h : AtQ w0 V q x w) (hb : Below w.heap.size w w') : AtQ w0 V q x w' := by
 obtain ⟨⟨tag, hS, low, hV⟩, hbel⟩ := h
 have s : Step (fun _ => False) tag w (retag tag w 0) w' := Step.anew hb
 obtain ⟨a, b, c⟩ := Zy (C := fun _ => False) (fun h => h) s hbel low hV
 exact ⟨⟨_, hS.step s, a, b⟩, c⟩
theorem AtQ.cells (h : AtQ w0 V q x w) (hb : Below w.heap.size w w') {v : Value} {l : List Value} (hv : SlRd w' 1 v l.length l) (ho : ∀ b, v.ownBlock = some b → b < w0.heap.size ∨ w.heap.size ≤ b) : AtQ w0 ((v, l) :: V) q x w' := by
 obtain ⟨⟨tag, hS, low, hV⟩, hbel⟩ := h
 have s : Step (fun _ => False) tag w (retag tag w 0) w' := Step.anew hb
 obtain ⟨a, b, c⟩ := Zy (C := fun _ => False) (fun h => h) s hbel low hV
 refine ⟨⟨_, hS.step s, a, fun p hp => ?_⟩, c⟩
 rcases List.mem_cons.1 hp with rfl | hp
 ·refine ⟨hv, fun b hb => ?_⟩
  rcases ho b hb with k | k
  ·exact a b k
  ·exact zy _ _ _ _ k
 ·exact b p hp
theorem AtQ.more (h : AtQ w0 V q x w) (hb : Below w.heap.size w w') {v : Value} {l : List UInt8} (hv : BRd w' v l) (ho : ∀ b, v.ownBlock = some b → b < w0.heap.size ∨ w.heap.size ≤ b) : AtQ w0 ((v, bys l) :: V) q x w' := h.cells hb (ze5.1 hv) ho
theorem AtQ.kept (h : AtQ w0 V q x w) {p : Value × List Value} (hp : p ∈ V) : SlRd w 1 p.1 p.2.length p.2 := by
 obtain ⟨⟨tag, hS, low, hV⟩, hbel⟩ := h
 exact (hV p hp).1
theorem AtQ.get (h : AtQ w0 V q x w) {v : Value} {l : List UInt8} (hp : (v, bys l) ∈ V) : BRd w v l := ze5.2 (h.kept hp)
theorem AtQ.arg (h : AtQ w0 V q x w) {v : Value} {l : List UInt8} (hv : BRd w0 v l) : Has w0 V w v l := .inr ⟨SlRd.below hv h.bel, fun b hb => SlRd.lt hv b hb⟩
theorem AtQ.cell (h : AtQ w0 V q x w) {i : Nat} (hi : i < 7) : w.cell? ⟨q.sp, i, none⟩ = some (Zw q i) := by
 obtain ⟨⟨tag, hS, _⟩, _⟩ := h
 exact hS.row.cell hi
theorem AtQ.load (h : AtQ w0 V q x w) (ok : Ok0 x) {n : Nat} (hn : n < 8) (hs : (x.T n).isSome = true) (a s : Int) :
  Calls Tryz.prog 20 #[ptrV q.sp, .int .i64 n, .int .i64 a, .int .i64 s] w fun e w' => ∃ v, e = .returned (.tuple #[v, .int .i64 (x.Yk n a s).1.2]) ∧ AtQ w0 ((v, bys (x.Yk n a s).1.1) :: V) q (x.Yk n a s).2 w' := by
 obtain ⟨⟨tag, hS, low, hV⟩, hbel⟩ := h
 refine (At.load' hS ok hn hs a s).mono ?_
 rintro e w1 ⟨v, tag1, rfl, hv, ho, hS1, s1⟩
 obtain ⟨a1, b1, c1⟩ := Zy CB0 s1 hbel low hV
 refine ⟨v, rfl, ⟨tag1, hS1, a1, fun p hp => ?_⟩, c1⟩
 rcases List.mem_cons.1 hp with rfl | hp
 ·exact ⟨ze5.1 (SlAt.rd hv), ho⟩
 ·exact b1 p hp
theorem AtQ.store (h : AtQ w0 V q x w) (ok : Ok0 x) {n : Nat} (hn : n < 8) (hs : (x.T n).isSome = true) (a : Nat) {v : Value} {l : List UInt8} (hv : Has w0 V w v l) (hr : x.um n a l.length = 0) :
  Calls Tryz.prog 19 #[ptrV q.sp, .int .i64 n, .int .i64 a, v] w fun e w' => e = .returned (.int .i64 (x.Z9 n a l).1) ∧ AtQ w0 V q (x.Z9 n a l).2 w' := by
 obtain ⟨⟨tag, hS, low, hV⟩, hbel⟩ := h
 obtain ⟨h1, h2⟩ := zm7 hv low hV
 refine (At.store' hS ok hn hs a h1 h2 hr).mono ?_
 rintro e w1 ⟨rfl, tag1, hS1, s1⟩
 obtain ⟨a1, b1, c1⟩ := Zy CB0 s1 hbel low hV
 exact ⟨rfl, ⟨tag1, hS1, a1, b1⟩, c1⟩
theorem AtQ.tree (h : AtQ w0 V q x w) (wf : WF x) (n : Nat) (hn : n < 8) (hs : (x.T n).isSome = true) :
  Calls Tryz.prog 34 #[ptrV q.sp, .int .i64 n] w (fun e w' => e = .returned (ptrV (q.U n).tp) ∧ w' = w) ∧
   ∀ w1, Below w.heap.size w w1 → ∀ page : Nat, page < 4096 → Calls Tryz.prog 35 #[ptrV (q.U n).tp, .int .i64 page] w1 fun e w2 => e = .returned (.tuple #[entV (x.ent n page), .int .i64 0]) ∧ Below w1.heap.size w1 w2 := by
 obtain ⟨⟨tag, hS, _⟩, _⟩ := h
 obtain ⟨pr, hp⟩ := Option.isSome_iff_exists.1 hs
 exact ⟨zfa hS n hn hp, fun w1 hb page hpg => zi7 (hS.below hb) wf n page hn hp hpg⟩
end
section
variable {w0 w w' : World} {V : List (Value × List Value)} {q : Sq} {x : za}
theorem AtQ.spawn (h : AtQ w0 V q x w) (ok : Ok0 x) (n g : Nat) (hn : n < 8) (hx : x.T n = none) (hg : x.P.next false = some g) :
  Calls Tryz.prog 17 #[ptrV q.sp, .int .i64 n] w fun e w' => e = .returned (.int .i64 0) ∧ ∃ u, AtQ w0 V (q.at_ n u) (x.qy n g) w' := by
 obtain ⟨⟨tag, hS, low, hV⟩, hb⟩ := h
 obtain ⟨hg1, hav, hgu⟩ := Yy hg
 refine (zf7 hS n hn hx g hg hg1 (ok.ok.wf.qm hg1 (by omega))).mono ?_
 rintro e w1 ⟨rfl, tag1, u, hS1, s1⟩
 obtain ⟨a, b, c⟩ := Zy (CS0 n) s1 hb low hV
 exact ⟨rfl, u, ⟨tag1, hS1, a, b⟩, c⟩
theorem AtQ.map (h : AtQ w0 V q x w) (ok : Ok0 x) (n : Nat) {pr : ym} (hp : x.T n = some pr) (a : Ar) (ha : a.xz) (hwf : a.Wf) (hno : anyA a pr.A = false) (hlen : pr.A.length < 16) :
  Calls Tryz.prog 18 #[ptrV q.sp, .int .i64 n, a.enc] w fun e w' => e = .returned (.int .i64 0) ∧ AtQ w0 V q (x.put n ⟨pr.T, insA pr.A a, pr.Q⟩) w' := by
 obtain ⟨⟨tag, hS, low, hV⟩, hb⟩ := h
 have hn := ok.ok.Xt ok.out hp
 refine (zkv hS n pr hn hp a hwf (by omega)).mono ?_
 rintro e w1 ⟨Y, A', tag1, rfl, hres, hS1, s1⟩
 obtain ⟨a1, b1, c1⟩ := Zy (C := fun c => c = 20 + n) (by omega) s1 hb low hV
 rcases hres with ⟨_, _, _, rfl, hperm, hsort⟩ | ⟨_, _, ⟨q1, _⟩ | ⟨_, q1, _⟩ | ⟨_, _, q1, _⟩⟩
 ·have hL := ziq (ok.ok.wf.Zv n pr hp).1 ha hno hperm hsort
  rw [hL] at hS1
  exact ⟨rfl, ⟨tag1, hS1, a1, b1⟩, c1⟩
 ·exact absurd ha q1
 ·rw [hno] at q1; cases q1
 ·omega
end
def jf : Nat → zm
 | 0 => zm.none.on 0 2 32
 | k + 1 => (jf k).on (1 + k) 3 32
theorem Vd (m f : Nat) : (jf m).use f = if f < 32 * (1 + m) then 1 else 0 := by
 induction m with
 | zero =>
  show (if 32 * 0 ≤ f ∧ f < 32 * 0 + 32 then (if (0 : Nat) = 6 then 6 else 1) else 0) = _
  by_cases h : f < 32 * (1 + 0)
  ·rw [if_pos h, if_pos (by omega)]; rfl
  ·rw [if_neg h, if_neg (by omega)]
 | succ k ih =>
  show (if 32 * (1 + k) ≤ f ∧ f < 32 * (1 + k) + 32 then (if (jf k).use f = 6 then 6 else 1) else (jf k).use f) = _
  rw [ih]
  by_cases h1 : f < 32 * (1 + k)
  ·rw [if_pos h1, if_neg (by omega), if_pos (by omega)]
  ·rw [if_neg h1]
   by_cases h2 : f < 32 * (1 + (k + 1))
   ·rw [if_pos (by omega), if_pos h2]; rfl
   ·rw [if_neg (by omega), if_neg h2]
theorem zdh (m s : Nat) : (jf m).zone s = (if s = 0 then 2 else if s < 1 + m then 3 else 0) ∧ (jf m).iso s = false := by
 induction m with
 | zero =>
  refine ⟨?_, ?_⟩
  ·show (if s = 0 then 2 else 0) = _
   by_cases h : s = 0
   ·rw [if_pos h, if_pos h]
   ·rw [if_neg h, if_neg h, if_neg (by omega)]
  ·show (if s = 0 then false else false) = false
   split <;> rfl
 | succ k ih =>
  refine ⟨?_, ?_⟩
  ·show (if s = 1 + k then 3 else (jf k).zone s) = _
   rw [ih.1]
   by_cases h1 : s = 1 + k
   ·rw [if_pos h1, if_neg (by omega), if_pos (by omega)]
   ·rw [if_neg h1]
    by_cases h0 : s = 0
    ·rw [if_pos h0, if_pos h0]
    ·rw [if_neg h0, if_neg h0]
     by_cases h2 : s < 1 + k
     ·rw [if_pos h2, if_pos (by omega)]
     ·rw [if_neg h2, if_neg (by omega)]
  ·show (if s = 1 + k then false else (jf k).iso s) = _
   rw [ih.2]; split <;> rfl
theorem Jz (m : Nat) : 32 ≤ (jf m).room := by
 unfold zm.room
 have := zco 32 1024 (by omega)
 refine Nat.le_trans (Nat.le_of_eq this.symm) ?_
 refine List.countP_mono_left fun f hf h => ?_
 have h : f < 32 := by simpa using h
 unfold zm.Y7
 have z := zdh m (f / 32)
 rw [Vd m f, if_pos (by omega), z.1, z.2, if_pos (by omega)]
 decide
def arO : Ar := ⟨0, 8, true, 1, 0, 0⟩
def arS : Ar := ⟨8, 8, true, 2, 0, 0⟩
def arP : Ar := ⟨16, 8, true, 3, 0, 4⟩
theorem Vv : (arO.xz ∧ arO.Wf) ∧ (arS.xz ∧ arS.Wf) ∧ (arP.xz ∧ arP.Wf) :=
 ⟨⟨by decide, by unfold Ar.Wf; decide⟩, ⟨by decide, by unfold Ar.Wf; decide⟩, ⟨by decide, by unfold Ar.Wf; decide⟩⟩
theorem Zm : insA [arO] arS = [arO, arS] ∧ insA [arO, arS] arP = [arO, arS, arP] ∧ anyA arO [] = false ∧ anyA arS [arO] = false ∧ anyA arP [arO, arS] = false   := by
 refine ⟨rfl, rfl, rfl, ?_, ?_⟩ <;> unfold anyA Vh <;> simp [arO, arS, arP, wrap64]
def absK (D : zq) : Abs := ((((Abs.start (fun k => if xc k then D.cur (za.yc k) else []) D.cur).spawn 0).map 0 arO [arO]).map 0 arS [arO, arS]).map 0 arP [arO, arS, arP]
structure StK (m : Nat) (D : zq) (x : za) : Prop where
 ok : Ok0 x
 abs : x.abs = absK D
 use : ∀ f, x.P.use f = if f < 32 * (1 + m) then (if f < 32 ∧ x.P.use f = 2 then 2 else 1) else 0
 zone : x.P.zone = (jf m).zone ∧ x.P.iso = (jf m).iso
 room : 31 ≤ x.P.room
 disk : x.D = D
 cache : x.CL = [] ∧ x.CR = []
 back : ∀ f, x.B f = []
 slots : ∀ k, x.S.getD k [] = []
 proc : ∃ T, x.T 0 = some ⟨T, [arO, arS, arP], []⟩
 none : ∀ n, n ≠ 0 → x.T n = none
 ents : ∀ n pg, n < 8 → pg < 4096 → (x.ent n pg).kind = 0
theorem zg2 (k n : Nat) : (List.replicate n ([] : List (Int × Int))).getD k [] = [] := by
 rw [List.getD_eq_getElem?_getD, List.getElem?_replicate]
 split <;> rfl
structure StI (m : Nat) (D : zq) (A : List Ar) (X : Abs) (x : za) : Prop where
 ok : Ok0 x
 abs : x.abs = X
 use : ∀ f, x.P.use f = if f < 32 * (1 + m) then (if f < 32 ∧ x.P.use f = 2 then 2 else 1) else 0
 zone : x.P.zone = (jf m).zone ∧ x.P.iso = (jf m).iso
 room : 31 ≤ x.P.room
 disk : x.D = D
 cache : x.CL = [] ∧ x.CR = []
 back : ∀ f, x.B f = []
 slots : ∀ k, x.S.getD k [] = []
 proc : ∃ T, x.T 0 = some ⟨T, A, []⟩
 none : ∀ n, n ≠ 0 → x.T n = none
theorem zjr {P : zm} (h : 0 < P.room) : ∃ g, P.next false = some g := by
 cases hn : P.next false with
 | some g => exact ⟨g, rfl⟩
 | none => have := Qn hn; omega
theorem StI.start {m : Nat} {D : zq} (hD : ∀ s, s < 192 → (D.cur s).length = 64) {g : Nat} (hg : (jf m).next false = some g) : StI m D [] ((Abs.start (fun k => if xc k then D.cur (za.yc k) else []) D.cur).spawn 0) ((za.start RamS.none (jf m) D).qy 0 g) := by
 have ok0 := zef (jf m) D (fun f => by rw [Vd]; split <;> omega) hD
 have hg' : (za.start RamS.none (jf m) D).P.next false = some g := hg
 obtain ⟨k1, k2, k3, k4⟩ := ok0.spawn (n := 0) (by omega) rfl hg'
 obtain ⟨hg1, hav, hgu⟩ := Yy hg
 have hg32 : g < 32 := by
  have h0 : (jf m).zone (g / 32) = 2 := by
   unfold zm.Y7 at hav
   simp only [decide_eq_true_eq] at hav
   exact hav.2.1
  rw [(zdh m (g / 32)).1] at h0
  by_cases e : g / 32 = 0
  ·omega
  ·rw [if_neg e] at h0; split at h0 <;> omega
 have hu : ∀ f, ((za.start RamS.none (jf m) D).qy 0 g).P.use f = if f = g then 2 else (jf m).use f := fun _ => rfl
 refine ⟨k1, by rw [k2, zgv], fun f => ?_, ⟨rfl, rfl⟩, ?_, k4, ⟨rfl, rfl⟩, fun _ => rfl, fun k => zg2 k 32, ⟨⟨g, [g]⟩, rfl⟩, fun n hn => if_neg hn⟩
 ·rw [hu, Vd]
  by_cases e : f = g
  ·rw [if_pos e, if_pos (by omega), if_pos ⟨by omega, rfl⟩]
  ·rw [if_neg e]
   by_cases h : f < 32 * (1 + m)
   ·rw [if_pos h, if_pos h, if_neg (by omega)]
   ·rw [if_neg h, if_neg h]
 ·have := Jz m
  have k3 : (jf m).room ≤ _ := k3
  omega
theorem StI.map {m : Nat} {D : zq} {A : List Ar} {X : Abs} {x : za} (h : StI m D A X x) {T : Zn} (hT : x.T 0 = some ⟨T, A, []⟩) {a : Ar} (ha : a.xz) (hno : anyA a A = false) (hlen : A.length < 16) (hperm : (insA A a).Perm (A ++ [a])) (hsort : (insA A a).Pairwise fun x y => ¬ y.from_ < x.from_) :
  StI m D (insA A a) (X.map 0 a (insA A a)) (x.put 0 ⟨T, insA A a, []⟩) := by
 obtain ⟨k1, k2⟩ := h.ok.map hT ha hno hlen hperm hsort
 refine ⟨k1, by rw [k2, h.abs], h.use, h.zone, h.room, h.disk, h.cache, h.back, h.slots, ⟨T, by simp [za.put]⟩, fun n hn => ?_⟩
 show (if n = 0 then _ else x.T n) = Option.none
 rw [if_neg hn]
 exact h.none n hn
theorem StI.done {m : Nat} {D : zq} {x : za} (h : StI m D [arO, arS, arP] (absK D) x) : StK m D x := by
 refine ⟨h.ok, h.abs, h.use, h.zone, h.room, h.disk, h.cache, h.back, h.slots, h.proc, h.none, fun n pg hn hp => ?_⟩
 have hk : (x.ent n pg).kind ≤ 3 := by
  have := h.ok.ok.wf.Yc n hp
  unfold Ent.ok at this
  simp only [Bool.and_eq_true, decide_eq_true_eq] at this
  exact this.1.1
 by_cases e0 : (x.ent n pg).kind = 0
 ·exact e0
 by_cases e1 : (x.ent n pg).kind = 1
 ·obtain ⟨f, q1, q2, q3, _⟩ := h.ok.ok.frame hn hp e1
  rw [h.back] at q3; cases q3
 by_cases e2 : (x.ent n pg).kind = 2
 ·have hr := (Ent.ok_n (h.ok.ok.wf.Yc n hp)).2 e2
  have := (h.ok.ok.slotE (x.ent n pg).n.toNat n pg (by omega) hn hp).2 ⟨e2, by omega⟩
  rw [h.slots] at this; cases this
 have e3 : (x.ent n pg).kind = 3 := by omega
 exfalso
 cases hT : x.T n with
 | none => rw [Z0 hT] at e0; exact e0 rfl
 | some pr =>
  obtain ⟨a, ha⟩ := (h.ok.ok.area n pr pg hT hp).find e0
  have hpv := Yg hT ha
  unfold za.pv1 at hpv
  rw [if_pos e3] at hpv
  have hab : x.abs.pv n pg = .lost := by
   show (if pg < 4096 then x.pv n pg else .none) = _
   rw [if_pos hp, hpv]
  rw [h.abs] at hab
  unfold absK at hab
  rw [Abs.J6] at hab
  split at hab
  ·unfold Jf at hab; split at hab <;> cases hab
  ·rw [Abs.J6] at hab
   split at hab
   ·unfold Jf at hab; split at hab <;> cases hab
   ·rw [Abs.J6] at hab
    split at hab
    ·unfold Jf at hab; split at hab <;> cases hab
    ·cases hab
def arK (p : Nat) : Ar := if p < 8 then arO else if p < 16 then arS else arP
theorem zcq (p : Nat) : (arK p).write = true := by unfold arK; split; rfl; split <;> rfl
section
variable {X : Abs} {a b : Ar} {n m p q at_ : Nat} {l : List UInt8}
theorem PgOk.any (h : PgOk X b m q) (g : PgOk X a n p) (hl : at_ + l.length ≤ 64) : PgOk ((X.own a n p).write a n p at_ l) b m q := by
 by_cases e : m = n ∧ q = p
 ·obtain ⟨rfl, rfl⟩ := e
  have hab : b = a := by have := h.area; rw [g.area] at this; exact (Option.some.inj this).symm
  subst hab
  exact (g.own q).write fun _ => hl
 ·have hpv : ((X.own a n p).write a n p at_ l).pv m q = X.pv m q := by
   by_cases k : a.kind = 2
   ·rw [(Yt X a n p at_ l k).1]
   ·rw [(zbn X a n p at_ l k).1, if_neg e]
  refine ⟨by rw [zfe]; exact h.area, by rw [hpv]; exact h.there, fun k => by rw [hpv]; exact h.shared k, ?_⟩
  have hlen := h.len
  unfold Abs.ct at hlen ⊢
  rw [hpv]
  cases hx : X.pv m q with
  | own l' => rw [hx] at hlen; exact hlen
  | none => simp
  | lost => simp
  | file =>
   rw [hx] at hlen
   dsimp only at hlen ⊢
   by_cases k : a.kind = 2
   ·rw [(Yt X a n p at_ l k).2]
    split
    ·rename_i e2
     rw [Ju]
     ·exact hlen
     ·rw [hlen]; exact hl
    ·exact hlen
   ·rw [(zbn X a n p at_ l k).2]; exact hlen
theorem PgOk.cur (h : PgOk X a n p) (s : Nat) (l : List UInt8) : PgOk (X.Jw s l) a n p := ⟨h.area, h.there, h.shared, h.len⟩
end
theorem zis {D : zq} (hD : ∀ s, s < 192 → (D.cur s).length = 64) {p : Nat} (hp : p < 24) : PgOk (absK D) (arK p) 0 p := by
 have hf : ∀ k, (absK D).file k = if xc k then D.cur (za.yc k) else [] := fun k => rfl
 have hpv : (absK D).pv 0 p = Jf (arK p) := by
  unfold absK
  rw [Abs.J6, Abs.J6, Abs.J6]
  unfold arK
  by_cases h1 : p < 8
  ·rw [if_neg (by unfold Ar.Has arP; dsimp only; omega), if_neg (by unfold Ar.Has arS; dsimp only; omega), if_pos ⟨rfl, by omega, by unfold Ar.Has arO; dsimp only; omega⟩, if_pos h1]
  ·rw [if_neg h1]
   by_cases h2 : p < 16
   ·rw [if_neg (by unfold Ar.Has arP; dsimp only; omega), if_pos ⟨rfl, by omega, by unfold Ar.Has arS; dsimp only; omega⟩, if_pos h2]
   ·rw [if_pos ⟨rfl, by omega, by unfold Ar.Has arP; dsimp only; omega⟩, if_neg h2]
 have har : (absK D).area 0 p = some (arK p) := by
  have hA : (absK D).A 0 = some ([arO, arS, arP], []) := rfl
  rw [Abs.zno hA]
  show yg [arO, arS, arP] (p : Int) = _
  rw [Xg, Xg, Xg]
  unfold arK
  by_cases h1 : p < 8
  ·rw [if_pos h1, if_pos (by unfold arO; dsimp only; omega)]
  ·rw [if_neg h1, if_neg (by unfold arO; dsimp only; omega)]
   by_cases h2 : p < 16
   ·rw [if_pos h2, if_pos (by unfold arS; dsimp only; omega)]
   ·rw [if_neg h2, if_neg (by unfold arS; dsimp only; omega), if_pos (by unfold arP; dsimp only; omega)]
 refine ⟨har, ?_, fun k => ?_, ?_⟩
 ·rw [hpv]; unfold Jf; split <;> intro z <;> cases z
 ·rw [hpv]; unfold Jf; rw [if_neg (by omega)]
 ·unfold Abs.ct
  rw [hpv]
  unfold Jf
  by_cases k1 : (arK p).kind = 1
  ·rw [if_pos k1]; simp
  ·rw [if_neg k1]
   have h8 : ¬ p < 8 := fun z => k1 (by unfold arK; rw [if_pos z]; rfl)
   dsimp only
   have hk : xc (za.keyF (arK p) p) := by
    unfold xc za.keyF arK
    rw [if_neg h8]
    by_cases h2 : p < 16
    ·rw [if_pos h2]; unfold arS; dsimp only; omega
    ·rw [if_neg h2]; unfold arP; dsimp only; omega
   rw [hf, if_pos hk]
   exact hD _ (Zx hk)
section
variable {x y : za} {D : zq}
theorem zex : ∀ (L : List (List (Int × Int))) (k : Nat) (l : List (Int × Int)), k < L.length → l ≠ [] → (∀ j, j < L.length → L.getD j [] = if j = k then l else []) → Xm L = 1
 | [], k, l, h, _, _ => by simp at h
 | a :: L, 0, l, h, hl, hj => by
  have h0 := hj 0 (by simp)
  simp at h0
  have hr : Xm L = 0 := by
   unfold Xm
   rw [List.countP_eq_zero]
   intro z hz
   obtain ⟨i, hi, rfl⟩ := List.getElem_of_mem hz
   have := hj (i + 1) (by simp; omega)
   simp at this
   rw [List.getElem?_eq_getElem hi] at this
   simp at this
   simp [this]
  unfold Xm at hr ⊢
  rw [List.countP_cons, hr, h0]
  simp [hl]
 | a :: L, k + 1, l, h, hl, hj => by
  have h0 := hj 0 (by simp)
  simp at h0
  have ih := zex L k l (by simp at h; omega) hl fun j hj2 => by
   have := hj (j + 1) (by simp; omega)
   simpa using this
  unfold Xm at ih ⊢
  rw [List.countP_cons, ih, h0]
  simp
theorem zgu (h : WF x) (hS : ∀ k, x.S.getD k [] = []) : ∃ k : Nat, Yr x.S = ((k : Int), true) ∧ k < 32 := by
 rcases U8 x.S with ⟨k, h1, h2, _⟩ | ⟨_, h2⟩
 ·exact ⟨k, h1, by rw [h.slots.1] at h2; exact h2⟩
 ·exfalso
  have hl : 0 < x.S.length := by rw [h.slots.1]; omega
  refine h2 x.S[0] (List.getElem_mem hl) ?_
  have := hS 0
  rw [List.getD_eq_getElem?_getD, List.getElem?_eq_getElem hl] at this
  simpa using this
theorem zjs (h : Ok0 x) {a : Ar} {n p f : Nat} (hn : n < 8) (hp : p < 4096) (m : Mine x a n p f) (hk : a.kind ≠ 2) : x.P.use f = 3 ∧ x.B f = [plc n p] := by
 obtain ⟨m1, m2⟩ := m.own hk
 obtain ⟨g, q1, q2, q3, q4, q5⟩ := h.ok.frame hn hp m.ent.1
 have : g = f := by have := m.ent.2; omega
 subst this
 refine ⟨?_, m2⟩
 rcases q4 with z | z
 ·exact z
 ·have := (h.ok.cached g q2).1 z
  rw [m1] at this; cases this
theorem zdn (h : Ok0 x) {a : Ar} {n p f : Nat} (m : Mine x a n p f) (hk : a.kind = 2) : x.P.use f = 4 ∧ (getL x.CL (za.keyF a p)).isSome = true ∧ x.cfr (za.keyF a p) = f ∧ x.yt (za.keyF a p) = true := by
 obtain ⟨m1, m2⟩ := m.shared hk
 obtain ⟨d, hd⟩ := (h.ok.cacheE _ _).2 m1
 refine ⟨(h.ok.cached f m.lt).2 (by rw [m1]; rfl), by rw [hd]; rfl, ?_, m2⟩
 unfold za.cfr
 rw [hd]; rfl
end
end Go.Proofs.YtnhdmnijiphjjaaGreat
