/- Processes, in plain words: a file's page, a page that has nothing, a slot's bytes: what getting its frame leaves. No program in it. -/
import Derived.Test.YtnhdmnijiphjjaaGreatJEc16
set_option linter.unusedVariables false
set_option linter.unusedSimpArgs false
set_option maxRecDepth 100000
set_option maxHeartbeats 2000000
namespace Go.Proofs.YtnhdmnijiphjjaaGreat
open Go Go.RowKit
structure Got (F : Nat → Prop) (k : Nat) (x : za) (c : Int) (y : za) : Prop where
 ok : OK F y
 same : Same x y
 keeps : ut k x y
 code : c = 0 ∨ (c = 4 ∧ x.P.room < k) ∨ (c = (x.D.work.2 : Int) ∧ x.D.work.2 ≠ 0)
 disk : y.D = x.D ∨ y.D = x.D.work.1
 stay : Stay x y
section
variable {F : Nat → Prop} {x y : za}
theorem Zx {k : Int × Int} (hk : xc k) : za.yc k < 192 := by
 unfold xc at hk
 unfold za.yc
 omega
theorem Same.out (h : Same x y) (o : ∀ n, 8 ≤ n → x.T n = none) : ∀ n, 8 ≤ n → y.T n = none := fun n hn => by
 have := h.procs n
 rw [o n hn] at this
 simpa using this
theorem Same.proc (h : Same x y) {n : Nat} {pr : ym} (hp : x.T n = some pr) : ∃ T', y.T n = some ⟨T', pr.A, pr.Q⟩ := by
 have := h.procs n
 rw [hp] at this
 obtain ⟨p', h1, h2⟩ := Option.map_eq_some_iff.1 this
 obtain ⟨a, b, c⟩ := p'
 simp only [Prod.mk.injEq] at h2
 exact ⟨a, by rw [h1, h2.1, h2.2]⟩
theorem OK.ve (h : OK F x) (o : ∀ n, 8 ≤ n → x.T n = none) {k : Int × Int} (hk : xc k) :
  Got F 1 x (x.ve k).1.2 (x.ve k).2 ∧ (x.ve k).2.T = x.T ∧ (∀ n page, page < 4096 → (x.ve k).2.ent n page = x.ent n page) ∧
   ((x.ve k).1.2 = 0 → ∃ f : Nat, (x.ve k).1.1 = f ∧ f < 1024 ∧ (x.ve k).2.P.use f = 4 ∧ getL (x.ve k).2.CR f = some k) := by
 unfold za.ve
 cases hL : getL x.CL k with
 | some v =>
  dsimp only
  obtain ⟨f, e1, e2, e3, e4, _⟩ := h.Y4 hL
  exact ⟨⟨h, Same.refl x, (ut.refl x).mono (Nat.zero_le _), .inl rfl, .inl rfl, Stay.refl x⟩, rfl, fun _ _ _ => rfl, fun _ => ⟨f, e1, e2, e3, by rw [← e1]; exact e4⟩⟩
 | none =>
  dsimp only
  rcases h.wf.zw 4 (za.yc k) (by omega) (by omega) (h.wf.secs _ (Zx hk)) with ⟨hn, e⟩ | ⟨f, hn, hw, e, d, hD⟩ | ⟨f, hn, hw, e, d, hD⟩
  ·rw [e]
   dsimp only
   rw [if_neg (by simp)]
   exact ⟨⟨h, Same.refl x, (ut.refl x).mono (Nat.zero_le _), .inr (.inl ⟨rfl, by have := Zc hn; omega⟩), .inl rfl, Stay.refl x⟩, rfl, fun _ _ _ => rfl, fun e => by simp at e⟩
  ·obtain ⟨y, hy⟩ : ∃ y, y = (x.zw 4 (za.yc k)).2 := ⟨_, rfl⟩
   rw [← hy] at d hD ⊢
   rw [e]
   dsimp only
   rw [if_pos rfl]
   clear hy
   have hC : getL x.CR f = none := by
    cases e : getL x.CR (f : Int) with
    | none => rfl
    | some v => have := (h.cached f d.was.1).2 (by rw [e]; rfl); have := d.was.2; omega
   have hB : x.B f = [] := by
    by_cases e : x.B f = []
    ·exact e
    ·have := h.useB f d.was.1 e; have := d.was.2; omega
   obtain ⟨kT, kB, kS, kC, kR⟩ := d.keep
   obtain ⟨z, hz⟩ : ∃ z, z = y.vw k (f : Int) := ⟨_, rfl⟩
   have ez : z = { y with CL := updL x.CL k ((f : Int), false), CR := updL x.CR (f : Int) k } := by
    rw [hz]
    unfold za.vw
    rw [kC, kR, hL, hC, if_neg (by simp)]
   have wz : WF z := by rw [hz]; exact d.wf.vw k f ⟨by omega, by have := d.was.1; omega⟩
   have zT : z.T = x.T := by rw [ez]; exact kT
   have zB : z.B = x.B := by rw [ez]; exact kB
   have zS : z.S = x.S := by rw [ez]; exact kS
   have zR : z.R = y.R := by rw [ez]
   have zP : z.P = y.P := by rw [ez]
   have zD : z.D = y.D := by rw [ez]
   have zL : z.CL = updL x.CL k ((f : Int), false) := by rw [ez]
   have zC : z.CR = updL x.CR (f : Int) k := by rw [ez]
   have ze : ∀ n page, page < 4096 → z.ent n page = x.ent n page := fun n page hpg => by
    rw [← d.ent n page hpg]
    unfold za.ent
    rw [zT, zR, kT]
   rw [← hz]
   clear hz ez
   have hu : ∀ g, z.P.use g = if g = f then 4 else x.P.use g := fun g => by rw [zP, d.pool]; rfl
   have own : ∀ n f, z.owns n f ↔ x.owns n f := fun n f => by unfold za.owns; rw [zT]
   have hRd : ∀ g i, g < 1024 → (x.P.use g = 3 ∨ x.P.use g = 4) → i < 64 → z.R.b g i = x.R.b g i := fun g i _ hg _ => by
    rw [zR, d.bytes, if_neg]
    rintro ⟨rfl, _⟩
    have := d.was.2; omega
   have hcr : ∀ n page, n < 8 → page < 4096 → (x.ent n page).kind = 1 → getL z.CR (x.ent n page).n = getL x.CR (x.ent n page).n := fun n page hn hpg hk1 => by
    obtain ⟨g, e1, e2, _, e3, _⟩ := h.frame hn hpg hk1
    rw [zC, yj, if_neg]
    intro e4
    have : g = f := by omega
    rw [this] at e3
    have := d.was.2; omega
   have zcur : z.D.cur = x.D.cur := by rw [zD, d.cur]
   have hRf : z.R.read f 0 64 = x.D.cur (za.yc k) := by
    refine List.ext_getElem? fun i => ?_
    unfold RamS.read
    by_cases hi : i < 64
    ·simp only [List.getElem?_map, List.getElem?_range hi, Option.map_some]
     rw [zR, d.bytes, if_pos ⟨rfl, by omega⟩, Nat.zero_add, List.getD_eq_getElem?_getD, List.getElem?_eq_getElem (by rw [d.len]; exact hi)]
     rfl
    ·rw [List.getElem?_eq_none (by simp; omega), List.getElem?_eq_none (by rw [d.len]; omega)]
   refine ⟨⟨⟨wz, fun g n page h1 h2 h3 => by rw [zB, ze n page h3]; exact h.backE g n page h1 h2 h3, fun q n page h1 h2 h3 => by rw [zS, ze n page h3]; exact h.slotE q n page h1 h2 h3, fun g h1 h2 => ?_, fun g h1 h2 => ?_, fun g h1 h2 => ?_, fun g h1 => ?_, fun q g => ?_, fun q v hq => ?_, fun n pr page h1 h2 => ?_⟩, ⟨fun n => by rw [zT], fun n page hpg => ?_, fun q hq => ?_, zcur, fun q => ?_⟩, ⟨by rw [zP, d.pool]; exact ⟨rfl, rfl⟩, by rw [zP, d.pool]; exact room_le _ _ _ (by omega) d.was.1, by rw [zR, d.bad], fun g v hv => ?_, fun n => by rw [zT]⟩, .inl rfl, .inr (by rw [zD, hD]), ⟨fun m pg hp _ => ze m pg hp, fun g _ hg _ => ⟨by rw [zB], by rw [hu, if_neg (fun e => by have := d.was.2; rw [e] at hg; omega)]; exact hg⟩, fun g q hq => by rw [zC, yj, if_neg (fun e => by rw [e, hC] at hq; cases hq)]; exact hq⟩⟩, zT, ze, fun _ => ⟨f, rfl, d.was.1, by rw [hu, if_pos rfl], by rw [zC, yj, if_pos rfl]⟩⟩
   ·rw [zB] at h2
    have : g ≠ f := fun e => h2 (by rw [e]; exact hB)
    rw [hu, if_neg this]
    exact h.useB g h1 h2
   ·rw [hu] at h2
    rw [zB]
    split at h2
    ·cases h2
    ·exact h.anon g h1 h2
   ·rw [hu] at h2
    split at h2
    ·cases h2
    ·obtain ⟨n, hn⟩ := h.table g h1 h2
     exact ⟨n, (own n g).2 hn⟩
   ·rw [hu, zC, yj]
    by_cases e : g = f
    ·rw [if_pos e, if_pos (by omega)]
     simp
    ·rw [if_neg e, if_neg (by omega)]
     exact h.cached g h1
   ·rw [zL, zC, yj, yj]
    by_cases e1 : q = k
    ·subst e1
     rw [if_pos rfl]
     by_cases e2 : g = (f : Int)
     ·rw [if_pos e2, e2]
      exact ⟨fun _ => rfl, fun _ => ⟨false, rfl⟩⟩
     ·rw [if_neg e2]
      constructor
      ·rintro ⟨d, hd⟩
       simp at hd
       exact absurd hd.1.symm e2
      ·intro hd
       obtain ⟨d, hd⟩ := (h.cacheE q g).2 hd
       rw [hL] at hd
       cases hd
    ·rw [if_neg e1]
     by_cases e2 : g = (f : Int)
     ·rw [if_pos e2]
      constructor
      ·intro hd
       have := (h.cacheE q g).1 hd
       rw [e2, hC] at this
       cases this
      ·intro hd
       simp at hd
       exact absurd hd.symm e1
     ·rw [if_neg e2]
      exact h.cacheE q g
   ·rw [zL, yj] at hq
    split at hq
    ·rename_i e; rw [e]; exact hk
    ·exact h.cacheK q v hq
   ·rw [zT] at h1
    have a := h.area n pr page h1 h2
    rw [ze n page h2]
    have cr := hcr n page (h.Xt o h1) h2
    exact ⟨a.find, fun b h3 h4 h5 => by rw [cr h4]; exact a.own b h3 h4 h5, fun b q h3 h4 h5 h6 => by rw [cr h4] at h6; exact a.file b q h3 h4 h5 h6, fun b h3 h4 h5 => by rw [cr h4]; exact a.shared b h3 h4 h5, a.slot⟩
   ·by_cases hn : n < 8
    ·exact Yh h n page hn hpg (by rw [zT]) (ze n page hpg) (hcr n page hn hpg) (fun _ => by rw [zcur]) hRd
    ·unfold za.pv
     rw [zT, o n (by omega)]
   ·by_cases e1 : q = k
    ·unfold za.uo
     rw [e1, zL, yj, if_pos rfl, hL]
     dsimp only
     rw [Int.toNat_natCast]
     exact hRf
    ·unfold za.uo
     rw [zL, yj, if_neg e1, zcur]
     cases hq2 : getL x.CL q with
     | none => rfl
     | some v =>
      dsimp only
      obtain ⟨g, e2, e3, e4, _, _⟩ := h.Y4 hq2
      rw [show v.1.toNat = g by omega]
      exact Ye fun i hi => hRd g i e3 (.inr e4) hi
   ·unfold za.yt
    rw [zL, yj]
    split
    ·rename_i e; rw [e, hL]; rfl
    ·rfl
   ·rw [hu]
    split
    ·rename_i e; have := d.was.2; rw [e]; omega
    ·exact Iff.rfl
  ·have hne : ¬ (x.zw 4 (za.yc k)).1.2 = 0 := by rw [e]; dsimp only; omega
   rw [if_neg hne]
   have kk := d.ok h
   exact ⟨⟨kk.1, kk.2, d.keeps.mono (Nat.zero_le _), .inr (.inr ⟨by rw [e], hw⟩), .inr hD, d.stay⟩, d.keep.1, d.ent, fun e => absurd e hne⟩
theorem WF.ve (h : WF x) {k : Int × Int} (hk : xc k) : WF (x.ve k).2 ∧ ((x.ve k).1.2 = 0 → ∃ f : Nat, (x.ve k).1.1 = f ∧ f < 1024) := by
 unfold za.ve
 cases hL : getL x.CL k with
 | some v =>
  have := h.keys k v hL
  exact ⟨h, fun _ => ⟨v.1.toNat, by dsimp only; omega, by omega⟩⟩
 | none =>
  dsimp only
  rcases h.zw 4 (za.yc k) (by omega) (by omega) (h.secs _ (Zx hk)) with ⟨_, e⟩ | ⟨f, _, _, e, d, _⟩ | ⟨f, _, hw, e, d, _⟩
  ·rw [e]
   dsimp only
   rw [if_neg (by simp)]
   exact ⟨h, fun e => by simp at e⟩
  ·have h0 : (x.zw 4 (za.yc k)).1.2 = 0 := by rw [e]
   rw [if_pos h0, e]
   exact ⟨d.wf.vw k f ⟨by omega, by have := d.was.1; omega⟩, fun _ => ⟨f, rfl, d.was.1⟩⟩
  ·have hne : ¬ (x.zw 4 (za.yc k)).1.2 = 0 := by rw [e]; dsimp only; omega
   rw [if_neg hne]
   exact ⟨d.wf, fun e => absurd e hne⟩
theorem Ua {pr : ym} {a : Ar} {page : Nat} (hA : OkL pr.A) (ha : yg pr.A (page : Int) = some a) (hk : a.kind ≠ 1) : xc (za.keyF a page) := by
 have h1 := List.mem_of_find?_eq_some ha
 have h2 := hA.1 a h1
 have h3 := List.find?_some ha
 simp only [decide_eq_true_eq] at h3
 unfold Ar.xz at h2
 unfold xc za.keyF
 dsimp only
 omega
theorem OK.qz (h : OK F x) (o : ∀ n, 8 ≤ n → x.T n = none) {n page : Nat} {pr : ym} (hp : x.T n = some pr) (hpg : page < 4096) {a : Ar} (ha : yg pr.A (page : Int) = some a) (he : (x.ent n page).kind = 0) :
  Got F 4 x (x.qz n page a).1.2 (x.qz n page a).2 ∧ ((x.qz n page a).1.2 = 0 → ((x.qz n page a).2.ent n page).kind = 1 ∧ ((x.qz n page a).2.ent n page).n = (x.qz n page a).1.1) := by
 have hn := h.Xt o hp
 unfold za.qz
 by_cases hk : a.kind ≠ 1
 ·rw [if_pos hk]
  have hkey := Ua (h.wf.Zv n pr hp).1 ha hk
  obtain ⟨g, gT, ge, gf⟩ := h.ve o hkey
  obtain ⟨y, hy⟩ : ∃ y, y = (x.ve (za.keyF a page)).2 := ⟨_, rfl⟩
  obtain ⟨f, c, hfc⟩ : ∃ f c, (x.ve (za.keyF a page)).1 = (f, c) := ⟨_, _, rfl⟩
  rw [← hy] at g gT ge gf ⊢
  rw [hfc] at g gf ⊢
  dsimp only at g gf ⊢
  clear hy hfc
  by_cases hc : c = 0
  ·rw [if_pos hc]
   obtain ⟨f0, rfl, hf0, hu, hcr⟩ := gf hc
   have hp' : y.T n = some pr := by rw [gT]; exact hp
   have d := g.ok.wf.putF hn hp' hpg (e := ⟨1, f0, false⟩) (by simp [Ent.ok, most]; omega)
   have hA : Vz y pr page ⟨1, f0, false⟩ := by
    refine ⟨fun _ => ⟨a, ha⟩, fun b hb _ h3 => ?_, fun b k hb _ _ h4 => ?_, fun b hb _ _ h4 => ?_, fun b hb h2 => ?_⟩
    ·rw [ha] at hb; cases hb; exact absurd h3 hk
    ·rw [ha] at hb; cases hb; dsimp only at h4; rw [hcr] at h4; cases h4; rfl
    ·dsimp only at h4; rw [hcr] at h4; cases h4
    ·cases h2
   have k := g.ok.put d hn hp' hpg (fun _ => ⟨f0, rfl, hf0, .inr hu⟩) hA
   have stz : Stay y (y.putF n page ⟨1, f0, false⟩).2 := by
    refine ⟨fun m pg hq hk1 => ?_, fun f1 hf1 hu1 _ => ?_, fun f1 k1 hk1 => by rw [d.keep.2.2]; exact hk1⟩
    ·rw [d.ent m pg hq, if_neg]
     rintro ⟨_, rfl, rfl⟩
     rw [ge _ _ hq] at hk1
     omega
    ·refine d.others g.ok.wf (.inl (by rw [ge n page hpg]; omega)) f1 hf1 hu1 (.inl ?_)
     rintro ⟨_, e9⟩
     dsimp only at e9
     have e10 : f0 = f1 := by omega
     rw [e10] at hu
     omega
   have s := g.ok.zdc d hp' hpg (fun _ b hb => ?_) (g.same.out o)
   ·refine ⟨⟨k.mono fun _ h => h.1, g.same.trans s, (g.keeps.trans (d.keeps g.ok.wf hp')), ?_, by rw [d.keep.1]; exact g.disk, g.stay.trans stz⟩, fun e => ?_⟩
    ·rcases d.code with e | e
     ·exact .inl e
     ·exact .inr (.inl ⟨e, by have := (d.full e).1; have := g.keeps.room; omega⟩)
    ·rw [d.done hpg e]
     exact ⟨rfl, rfl⟩
   ·rw [ha] at hb
    cases hb
    unfold za.pv1
    rw [ge n page hpg, he]
    dsimp only
    rw [d.keep.2.2, hcr]
    simp [hk]
  ·rw [if_neg hc]
   refine ⟨⟨g.ok, g.same, g.keeps.mono (by omega), ?_, g.disk, g.stay⟩, fun e => absurd e hc⟩
   rcases g.code with e | ⟨e, e2⟩ | e
   ·exact absurd e hc
   ·exact .inr (.inl ⟨e, by omega⟩)
   ·exact .inr (.inr e)
 ·rw [if_neg hk]
  have hk1 : a.kind = 1 := by omega
  rcases h.wf.yu 3 with ⟨hnx, e⟩ | ⟨f, hnx, e, d0⟩
  ·rw [e]
   dsimp only
   rw [if_neg (by simp)]
   exact ⟨⟨h, Same.refl x, (ut.refl x).mono (by omega), .inr (.inl ⟨rfl, by have := Zc hnx; omega⟩), .inl rfl, Stay.refl x⟩, fun e => by simp at e⟩
  ·rw [e]
   dsimp only
   rw [if_pos rfl]
   obtain ⟨k1, s1, hB, hcr, hu, hrd⟩ := d0.ok h o
   have kp1 := d0.keeps (.inl rfl)
   have e1 := d0.ent
   have st1 := d0.stay
   have kT := d0.keep.1
   have kR := d0.keep.2.2.2.2
   have kB := d0.keep.2.1
   have hf := d0.was.1
   have hf1 := d0.was.2
   have hD : (x.zcg f 3).D = x.D := rfl
   obtain ⟨y, hy⟩ : ∃ y, y = x.zcg f 3 := ⟨_, rfl⟩
   rw [← hy] at k1 s1 hu hrd kp1 e1 st1 kT kR kB hD ⊢
   clear hy d0 e
   have hp' : y.T n = some pr := by rw [kT]; exact hp
   have d := k1.wf.putF hn hp' hpg (e := ⟨1, f, a.write⟩) (by simp [Ent.ok, most]; omega)
   have hA : Vz y pr page ⟨1, f, a.write⟩ := by
    refine ⟨fun _ => ⟨a, ha⟩, fun b hb _ h3 => by dsimp only; rw [kR]; exact hcr, fun b k hb _ _ h4 => ?_, fun b hb _ h3 => ?_, fun b hb h2 => ?_⟩
    ·dsimp only at h4; rw [kR, hcr] at h4; cases h4
    ·rw [ha] at hb; cases hb; omega
    ·cases h2
   have k := k1.put d hn hp' hpg (fun _ => ⟨f, rfl, hf, .inl hu⟩) hA
   have s := k1.zdc d hp' hpg (fun _ b hb => ?_) (s1.out o)
   ·have stX : ∀ z : za, (∀ m pg, pg < 4096 → z.ent m pg = (y.putF n page ⟨1, f, a.write⟩).2.ent m pg) → z.B = (y.putF n page ⟨1, f, a.write⟩).2.B → z.CR = (y.putF n page ⟨1, f, a.write⟩).2.CR → (∀ g, g ≠ f → z.P.use g = (y.putF n page ⟨1, f, a.write⟩).2.P.use g) → Stay x z := fun z z1 z2 z3 z4 => by
     refine ⟨fun m pg hq hk2 => ?_, fun f2 hf2 hu2 hB2 => ?_, fun f2 k2 hk2 => ?_⟩
     ·rw [z1 m pg hq, d.ent m pg hq, if_neg, e1 m pg hq]
      rintro ⟨_, rfl, rfl⟩
      omega
     ·have hne : f2 ≠ f := fun e => by rw [e] at hu2; omega
      obtain ⟨b1, b2⟩ := st1.backs f2 hf2 hu2 hB2
      obtain ⟨c1, c2⟩ := d.others k1.wf (.inl (by rw [e1 n page hpg]; omega)) f2 hf2 b2 (.inl (by rintro ⟨_, e9⟩; dsimp only at e9; omega))
      rw [z2, z4 f2 hne]
      exact ⟨c1.trans b1, c2⟩
     ·rw [z3, d.keep.2.2]
      exact st1.cr f2 k2 hk2
    by_cases hc : (y.putF n page ⟨1, f, a.write⟩).1 = 0
    ·rw [if_pos hc]
     refine ⟨⟨k.mono fun g hg => ?_, s1.trans s, kp1.trans (d.keeps k1.wf hp'), .inl rfl, by rw [d.keep.1]; exact .inl hD, stX _ (fun _ _ _ => rfl) rfl rfl fun _ _ => rfl⟩, fun _ => by rw [d.done hpg hc]; exact ⟨rfl, rfl⟩⟩
     rcases hg.1 with a | a
     ·exact a
     ·exact absurd ⟨hc, rfl, by rw [a]⟩ hg.2
    ·rw [if_neg hc]
     have hc4 : (y.putF n page ⟨1, f, a.write⟩).1 = 4 := d.code.resolve_left hc
     have hu2 : (y.putF n page ⟨1, f, a.write⟩).2.P.use f = 3 := by
      rw [d.use f (fun ho => by have := (k1.wf.xh ho).2.1; omega) (by omega), if_neg fun q => hc q.1]
      exact hu
     have hB2 : (y.putF n page ⟨1, f, a.write⟩).2.B f = [] := by
      refine List.eq_nil_iff_forall_not_mem.2 fun q hq => ?_
      rw [d.memB, if_neg fun q => hc q.1, kB, hB] at hq
      cases hq
     have s2 := s1.trans s
     obtain ⟨k3, s3, kp3⟩ := (k.mono fun g hg => hg.1).zh0 hf hu2 hB2 (s2.out o)
     refine ⟨⟨k3, s2.trans s3, ((kp1.trans (d.keeps k1.wf hp')).trans kp3).mono (by omega), .inr (.inl ⟨hc4, by have := (d.full hc4).1; have := kp1.room; omega⟩), .inl ?_, stX _ (fun m pg hq => ?_) (Ym _ _).2.1 (Ym _ _).2.2.2.2.1 fun g hg => ?_⟩, fun e => absurd e hc⟩
     ·rw [(Ym _ _).2.2.2.2.2.1, d.keep.1, hD]
     ·unfold za.ent
      rw [(Ym _ _).1, (Ym _ _).2.2.2.2.2.2.1]
     ·rw [(Ym _ _).2.2.2.2.2.2.2]
      unfold zm.free
      split
      ·exact if_neg (by rw [Int.toNat_natCast]; exact hg)
      ·rfl
   ·rw [ha] at hb
    cases hb
    unfold za.pv1
    rw [e1 n page hpg, he]
    dsimp only
    have hrd2 : (y.putF n page ⟨1, f, a.write⟩).2.R.read f 0 64 = y.R.read f 0 64 := Ye fun i _ => d.bytes f i (by omega) fun ho => by have := (k1.wf.xh ho).2.1; omega
    rw [d.keep.2.2, kR, hcr, Int.toNat_natCast, hrd2, hrd]
    simp [hk1]
end
structure InI (F : Nat → Prop) (k f : Nat) (x z : za) : Prop where
 ok : OK (fun g => F g ∨ g = f) z
 same : Same x z
 keeps : ut 1 x z
 use : z.P.use f = 3
 cr : getL z.CR f = none
 rd : z.R.read f 0 64 = z.D.cur (160 + k)
 backs : ∀ g : Nat, g < 1024 → g ≠ f → x.P.use g = 3 → x.B g ≠ [] → z.B g = x.B g ∧ z.P.use g = 3
 crs : z.CR = x.CR
def InL (k f : Nat) (x z : za) (l : List (Int × Int)) : Prop :=
 ∀ p ∈ l, ∃ n page pr, p = plc n page ∧ n < 8 ∧ page < 4096 ∧ x.T n = some pr ∧ ((z.ent n page).kind = 2 ∧ (z.ent n page).n = k ∨ z.ent n page = ⟨1, (f : Int), false⟩)
section
variable {F : Nat → Prop} {x y : za}
theorem zde (z : za) (n page : Nat) (l : List (Int × Int)) (e : Ent) : z.xk (plc n page :: l) e = (z.putF n page e).2.xk l e := by
 unfold za.xk
 rw [List.foldl_cons]
 have e1 : (plc n page).1.toNat = n := by unfold plc; omega
 have e2 : (plc n page).2.toNat = page := by unfold plc; dsimp only; omega
 rw [e1, e2]
theorem InI.one {k f : Nat} (hf : f < 1024) {z : za} (h : InI F k f x z) (o : ∀ n, 8 ≤ n → x.T n = none) {n page : Nat} {pr0 : ym} (hn : n < 8) (hpg : page < 4096) (hp0 : x.T n = some pr0) (hc : (z.ent n page).kind = 2 ∧ (z.ent n page).n = k ∨ z.ent n page = ⟨1, (f : Int), false⟩) :
  InI F k f x (z.putF n page ⟨1, (f : Int), false⟩).2 ∧ (z.putF n page ⟨1, (f : Int), false⟩).1 = 0 ∧ (z.putF n page ⟨1, (f : Int), false⟩).2.D = z.D ∧ (∀ m pg, pg < 4096 → (z.putF n page ⟨1, (f : Int), false⟩).2.ent m pg = if m = n ∧ pg = page then ⟨1, (f : Int), false⟩ else z.ent m pg) := by
 obtain ⟨T0, hp⟩ := h.same.proc hp0
 have d := h.ok.wf.putF hn hp hpg (e := ⟨1, (f : Int), false⟩) (by simp [Ent.ok, most]; omega)
 have hne : (z.ent n page).kind ≠ 0 := by
  rcases hc with ⟨a, _⟩ | a
  ·omega
  ·rw [a]; simp
 obtain ⟨c0, kp⟩ := d.zhp h.ok.wf hp (.inl hne)
 have hA : Vz z ⟨T0, pr0.A, pr0.Q⟩ page ⟨1, (f : Int), false⟩ := by
  have a0 := h.ok.area n _ page hp hpg
  refine ⟨fun _ => a0.find hne, fun b hb _ h3 => h.cr, fun b q hb _ _ h4 => ?_, fun b hb _ h3 => ?_, fun b hb h2 => by cases h2⟩
  ·dsimp only at h4; rw [h.cr] at h4; cases h4
  ·rcases hc with ⟨a, _⟩ | a
   ·exact absurd h3 (a0.slot b hb a)
   ·have := a0.shared b hb (by rw [a]) h3
    rw [a] at this
    exact this
 have k1 := h.ok.put d hn hp hpg (fun _ => ⟨f, rfl, hf, .inl h.use⟩) hA
 have hns : ¬ z.owns n f := fun ho => by have := (h.ok.wf.xh ho).2.1; have := h.use; omega
 have hrd : (z.putF n page ⟨1, (f : Int), false⟩).2.R.read f 0 64 = z.R.read f 0 64 := Ye fun i _ => d.bytes f i (by have := h.use; omega) hns
 have s1 := h.ok.zdc d hp hpg (fun _ b hb => by
  rcases hc with ⟨a, a2⟩ | a
  ·unfold za.pv1
   dsimp only
   rw [d.keep.2.2, h.cr, a, a2, Int.toNat_natCast, hrd, h.rd]
   simp
  ·rw [a]
   refine Xc (by rw [d.keep.2.2]) (by rw [d.keep.1]) fun _ => ?_
   dsimp only
   rw [Int.toNat_natCast]
   exact hrd) (h.same.out o)
 have hu : (z.putF n page ⟨1, (f : Int), false⟩).2.P.use f = 3 := by
  rw [d.use f hns (by have := h.use; omega), if_neg]
  ·exact h.use
  ·rintro ⟨_, a, b, c, _⟩
   exact b ⟨rfl, c⟩
 refine ⟨⟨k1.mono fun g hg => hg.1, h.same.trans s1, (h.keeps.trans kp).mono (by omega), hu, by rw [d.keep.2.2]; exact h.cr, by rw [d.keep.1, hrd]; exact h.rd, fun g hg hgf hgu hgB => ?_, by rw [d.keep.2.2]; exact h.crs⟩, c0, d.keep.1, fun m pg hq => ?_⟩
 ·obtain ⟨b1, b2⟩ := h.backs g hg hgf hgu hgB
  have hne2 : ¬ ((1 : Nat) = 1 ∧ ((f : Int)) = (g : Int)) := by omega
  obtain ⟨c1, c2⟩ := d.others h.ok.wf (by
   rcases hc with ⟨a, _⟩ | a
   ·exact .inl (by omega)
   ·exact .inr a.symm) g hg b2 (.inl hne2)
  exact ⟨c1.trans b1, c2⟩
 ·rw [d.ent m pg hq]
  by_cases e : m = n ∧ pg = page
  ·rw [if_pos ⟨c0, e⟩, if_pos e]
  ·rw [if_neg fun a => e a.2, if_neg e]
theorem InI.go {k f : Nat} (hf : f < 1024) (o : ∀ n, 8 ≤ n → x.T n = none) (l : List (Int × Int)) : ∀ z, InI F k f x z → InL k f x z l → InI F k f x (z.xk l ⟨1, (f : Int), false⟩) ∧ (z.xk l ⟨1, (f : Int), false⟩).D = z.D ∧ ∀ n page, page < 4096 → ((z.xk l ⟨1, (f : Int), false⟩).ent n page = if plc n page ∈ l then ⟨1, (f : Int), false⟩ else z.ent n page) := by
 induction l with
 | nil => exact fun z h _ => ⟨h, rfl, fun n page _ => by rw [if_neg (by simp)]; rfl⟩
 | cons p l ih =>
  intro z h hl
  obtain ⟨n, page, pr, rfl, hn, hpg, hp, hc⟩ := hl p (List.mem_cons_self ..)
  obtain ⟨h1, c0, hD, he⟩ := h.one hf o hn hpg hp hc
  have hl1 : InL k f x (z.putF n page ⟨1, (f : Int), false⟩).2 l := fun q hq => by
   obtain ⟨m, pg, pm, rfl, hm, hpg', hpm, hcm⟩ := hl q (List.mem_cons_of_mem _ hq)
   refine ⟨m, pg, pm, rfl, hm, hpg', hpm, ?_⟩
   rw [he m pg hpg']
   split
   ·exact .inr rfl
   ·exact hcm
  obtain ⟨i1, i2, i3⟩ := ih _ h1 hl1
  rw [zde]
  refine ⟨i1, i2.trans hD, fun m pg hpg' => ?_⟩
  rw [i3 m pg hpg', he m pg hpg']
  by_cases e1 : plc m pg ∈ l
  ·rw [if_pos e1, if_pos (List.mem_cons_of_mem _ e1)]
  ·rw [if_neg e1]
   by_cases e2 : m = n ∧ pg = page
   ·rw [if_pos e2, if_pos (by rw [e2.1, e2.2]; exact List.mem_cons_self ..)]
   ·rw [if_neg e2, if_neg]
    intro e3
    rcases List.mem_cons.1 e3 with e3 | e3
    ·exact e2 (Yx.1 e3)
    ·exact e1 e3
theorem OK.inF (h : OK F x) (o : ∀ n, 8 ≤ n → x.T n = none) {n page k : Nat} (hn : n < 8) (hpg : page < 4096) (he : (x.ent n page).kind = 2) (hk : (x.ent n page).n = k) :
  Got F 1 x (x.inF k).1.2 (x.inF k).2 ∧ ((x.inF k).1.2 = 0 → ((x.inF k).2.ent n page).kind = 1 ∧ ((x.inF k).2.ent n page).n = (x.inF k).1.1) := by
 have hk32 : k < 32 := by
  have := (Ent.ok_n (h.wf.Yc n hpg)).2 he
  omega
 unfold za.inF
 rcases h.wf.zw 3 (160 + k) (by omega) (by omega) (h.wf.secs _ (by omega)) with ⟨hnx, e⟩ | ⟨f, hnx, hw, e, d, hD⟩ | ⟨f, hnx, hw, e, d, hD⟩
 ·rw [e]
  dsimp only
  rw [if_neg (by simp)]
  exact ⟨⟨h, Same.refl x, (ut.refl x).mono (by omega), .inr (.inl ⟨rfl, by have := Zc hnx; omega⟩), .inl rfl, Stay.refl x⟩, fun e => by simp at e⟩
 ·obtain ⟨k1, s1, hB, hcr, hu, hrd⟩ := d.ok h o
  have kp1 := d.keeps (.inl rfl)
  have e1 := d.ent
  have kS := d.keep.2.2.1
  have kR := d.keep.2.2.2.2
  have kT := d.keep.1
  have hf := d.was.1
  have hcur := d.cur
  have st1 := d.stay
  have hfu := d.was.2
  obtain ⟨y, hy⟩ : ∃ y, y = (x.zw 3 (160 + k)).2 := ⟨_, rfl⟩
  rw [← hy] at k1 s1 hu hrd kp1 e1 st1 kS kR kT hD hcur ⊢
  rw [e]
  dsimp only
  rw [if_pos rfl]
  clear hy d e
  have hI : InI F k f x y := ⟨k1, s1, kp1, hu, by rw [kR]; exact hcr, by rw [hrd, hcur], fun g hg _ hgu hgB => st1.backs g hg hgu hgB, kR⟩
  have hL : InL k f x y (y.S.getD k []) := fun p hp => by
   rw [kS] at hp
   obtain ⟨e2, h1, h2⟩ := ((x9 h.wf.slots k).2 p hp).plc
   rw [e2] at hp
   have h3 := (h.slotE k _ _ hk32 h1 h2).1 hp
   cases hq : x.T p.1.toNat with
   | none => rw [Z0 hq] at h3; exact absurd h3.1 (by decide)
   | some pr => exact ⟨_, _, pr, e2, h1, h2, hq, .inl (by rw [e1 _ _ h2]; exact h3)⟩
  obtain ⟨i1, i2, i3⟩ := hI.go hf o _ _ hL
  have hm : plc n page ∈ y.S.getD k [] := by rw [kS]; exact (h.slotE k n page hk32 hn hpg).2 ⟨he, hk⟩
  have hent := i3 n page hpg
  rw [if_pos hm] at hent
  refine ⟨⟨⟨i1.ok.wf, i1.ok.backE, i1.ok.slotE, i1.ok.useB, fun g hg hu3 => ?_, i1.ok.table, i1.ok.cached, i1.ok.cacheE, i1.ok.cacheK, i1.ok.area⟩, i1.same, i1.keeps, .inl rfl, .inr (by rw [i2, hD]), ⟨fun m pg hq hk1 => ?_, fun g hg hgu hgB => i1.backs g hg (fun e => by rw [e] at hgu; omega) hgu hgB, fun g q hq => by rw [i1.crs]; exact hq⟩⟩, fun _ => by rw [hent]; exact ⟨rfl, rfl⟩⟩
  rcases i1.ok.anon g hg hu3 with a | a | a
  ·exact .inl a
  ·exact .inr a
  ·left
   intro hB0
   have := (i1.ok.backE g n page hg hn hpg).2 (by rw [hent, a]; exact ⟨rfl, rfl⟩)
   rw [hB0] at this
   cases this
  ·rw [i3 m pg hq, if_neg, e1 m pg hq]
   intro hm2
   rw [kS] at hm2
   have h9 := ((x9 h.wf.slots k).2 _ hm2)
   have hm8 : m < 8 := by unfold InR plc at h9; dsimp only at h9; omega
   have := ((h.slotE k m pg hk32 hm8 hq).1 hm2).1
   omega
 ·have hne : ¬ (x.zw 3 (160 + k)).1.2 = 0 := by rw [e]; dsimp only; omega
  rw [if_neg hne]
  have kk := d.ok h
  exact ⟨⟨kk.1, kk.2, d.keeps.mono (by omega), .inr (.inr ⟨by rw [e], hw⟩), .inr hD, d.stay⟩, fun e => absurd e (by rw [‹(x.zw 3 (160 + k)).1 = _›]; dsimp only; omega)⟩
theorem zgt (x : za) (n : Nat) (at_ : Int) : (x.u7 n at_).R = x.R ∧ (x.u7 n at_).P = x.P ∧ (x.u7 n at_).D = x.D ∧ (x.u7 n at_).B = x.B ∧ (x.u7 n at_).S = x.S ∧ (x.u7 n at_).CL = x.CL ∧ (x.u7 n at_).CR = x.CR ∧
  (∀ m, (x.u7 n at_).T m = if m = n then (x.T n).map (fun pr => ⟨pr.T, pr.A, Us pr.Q ((n : Int), at_)⟩) else x.T m) := by
 unfold za.u7
 cases hp : x.T n with
 | none =>
  refine ⟨rfl, rfl, rfl, rfl, rfl, rfl, rfl, fun m => ?_⟩
  by_cases k : m = n
  ·rw [if_pos k, k, hp]; rfl
  ·rw [if_neg k]
 | some pr =>
  refine ⟨rfl, rfl, rfl, rfl, rfl, rfl, rfl, fun m => ?_⟩
  by_cases k : m = n
  ·rw [if_pos k]
   exact if_pos k
  ·rw [if_neg k]
   exact if_neg k
theorem OK.u7 (h : OK F x) (n : Nat) (at_ : Int) : OK F (x.u7 n at_) ∧ (∀ m page, page < 4096 → (x.u7 n at_).pv m page = x.pv m page) ∧ (∀ k, (x.u7 n at_).uo k = x.uo k) ∧ (∀ k, (x.u7 n at_).yt k = x.yt k) ∧ ut 0 x (x.u7 n at_) := by
 obtain ⟨w, e⟩ := h.wf.u7 n at_
 obtain ⟨hR, hP, hD, hB, hS, hC, hCR, hT⟩ := zgt x n at_
 have hA : ∀ m pm, (x.u7 n at_).T m = some pm → ∃ p0, x.T m = some p0 ∧ p0.A = pm.A ∧ p0.T = pm.T := fun m pm hm => by
  rw [hT] at hm
  by_cases k : m = n
  ·rw [if_pos k] at hm
   obtain ⟨p0, h1, h2⟩ := Option.map_eq_some_iff.1 hm
   exact ⟨p0, by rw [k]; exact h1, by rw [← h2], by rw [← h2]⟩
  ·rw [if_neg k] at hm
   exact ⟨pm, hm, rfl, rfl⟩
 have hS2 : ∀ m, ((x.u7 n at_).T m).isSome = (x.T m).isSome := fun m => by
  rw [hT]
  split
  ·rename_i k; rw [k]; cases x.T n <;> rfl
  ·rfl
 refine ⟨⟨w, fun f m page h1 h2 h3 => by rw [hB, e m page h3]; exact h.backE f m page h1 h2 h3, fun k m page h1 h2 h3 => by rw [hS, e m page h3]; exact h.slotE k m page h1 h2 h3, fun f h1 h2 => by rw [hP]; rw [hB] at h2; exact h.useB f h1 h2, fun f h1 h2 => by rw [hB]; rw [hP] at h2; exact h.anon f h1 h2, fun f h1 h2 => ?_, fun f h1 => by rw [hP, hCR]; exact h.cached f h1, by rw [hC, hCR]; exact h.cacheE, by rw [hC]; exact h.cacheK, fun m pm page h1 h2 => ?_⟩, fun m page hpg => ?_, fun k => by unfold za.uo; rw [hC, hR, hD], fun k => by unfold za.yt; rw [hC], ⟨by rw [hP]; exact ⟨rfl, rfl⟩, by rw [hP]; omega, by rw [hR], fun f v _ => by rw [hP], hS2⟩⟩
 ·rw [hP] at h2
  obtain ⟨m, p0, h3, h4⟩ := h.table f h1 h2
  by_cases k : m = n
  ·refine ⟨m, ⟨p0.T, p0.A, Us p0.Q ((n : Int), at_)⟩, ?_, h4⟩
   rw [hT, if_pos k, ← k, h3]
   rfl
  ·exact ⟨m, p0, by rw [hT, if_neg k]; exact h3, h4⟩
 ·obtain ⟨p0, h3, h4, _⟩ := hA m pm h1
  have a := h.area m p0 page h3 h2
  rw [e m page h2]
  exact ⟨by rw [← h4]; exact a.find, by rw [← h4, hCR]; exact a.own, by rw [← h4, hCR]; exact a.file, by rw [← h4, hCR]; exact a.shared, by rw [← h4]; exact a.slot⟩
 ·have hs := hS2 m
  unfold za.pv
  cases h1 : (x.u7 n at_).T m with
  | none =>
   rw [h1] at hs
   cases h2 : x.T m with
   | none => rfl
   | some _ => rw [h2] at hs; cases hs
  | some pm =>
   obtain ⟨p0, h3, h4, _⟩ := hA m pm h1
   rw [h3]
   dsimp only
   rw [h4]
   cases yg pm.A (page : Int) with
   | none => rfl
   | some a =>
    dsimp only
    rw [e m page hpg]
    exact Xc (by rw [hCR]) (by rw [hD]) fun _ => by rw [hR]
theorem OK.zx (h : OK F x) (o : ∀ n, 8 ≤ n → x.T n = none) {n page : Nat} {pr : ym} (hp : x.T n = some pr) (hpg : page < 4096) {a : Ar} (ha : yg pr.A (page : Int) = some a) :
  (x.pv n page = .lost ∧ x.zx n page a = ((0, 7), x.u7 n (page * 64))) ∨
  (x.pv n page ≠ .lost ∧ Got F 4 x (x.zx n page a).1.2 (x.zx n page a).2 ∧ ((x.zx n page a).1.2 = 0 → ((x.zx n page a).2.ent n page).kind = 1 ∧ ((x.zx n page a).2.ent n page).n = (x.zx n page a).1.1)) := by
 have hn := h.Xt o hp
 have hpv := Yg hp ha
 unfold za.zx
 by_cases k3 : (x.ent n page).kind = 3
 ·left
  rw [if_pos k3, hpv]
  unfold za.pv1
  rw [if_pos k3]
  exact ⟨rfl, rfl⟩
 ·right
  refine ⟨?_, ?_⟩
  ·rw [hpv]
   unfold za.pv1
   rw [if_neg k3]
   intro e
   split at e
   ·cases e
   ·split at e
    ·split at e <;> cases e
    ·split at e <;> cases e
  ·rw [if_neg k3]
   by_cases k2 : (x.ent n page).kind = 2
   ·rw [if_pos k2]
    have hr := (Ent.ok_n (h.wf.Yc n hpg)).2 k2
    obtain ⟨g, e⟩ := h.inF o hn hpg k2 (k := (x.ent n page).n.toNat) (by omega)
    refine ⟨⟨g.ok, g.same, g.keeps.mono (by omega), ?_, g.disk, g.stay⟩, e⟩
    rcases g.code with e | ⟨e, e2⟩ | e
    ·exact .inl e
    ·exact .inr (.inl ⟨e, by omega⟩)
    ·exact .inr (.inr e)
   ·rw [if_neg k2]
    by_cases k0 : (x.ent n page).kind = 0
    ·rw [if_pos k0]
     exact h.qz o hp hpg ha k0
    ·rw [if_neg k0]
     have hk : (x.ent n page).kind ≤ 3 := by
      have := h.wf.Yc n hpg
      unfold Ent.ok at this
      simp only [Bool.and_eq_true, decide_eq_true_eq] at this
      exact this.1.1
     exact ⟨⟨h, Same.refl x, (ut.refl x).mono (by omega), .inl rfl, .inl rfl, Stay.refl x⟩, fun _ => by dsimp only; exact ⟨by omega, rfl⟩⟩
end
section
open Go Go.RowKit
structure Abs where
 A : Nat → Option (List Ar × List (Int × Int))
 pv : Nat → Nat → PV
 file : Int × Int → List UInt8
 yt : Int × Int → Bool
 cur : Nat → List UInt8
instance (k : Int × Int) : Decidable (xc k) := inferInstanceAs (Decidable (_ ∧ _))
def za.abs (x : za) : Abs where
 A n := (x.T n).map fun pr => (pr.A, pr.Q)
 pv n page := if page < 4096 then x.pv n page else .none
 file k := if xc k then x.uo k else []
 yt := x.yt
 cur := x.D.cur
theorem Same.abs {x y : za} (h : Same x y) : y.abs = x.abs := by
 unfold za.abs
 rw [Abs.mk.injEq]
 refine ⟨funext h.procs, ?_, ?_, funext h.yt, h.cur⟩
 ·funext n page
  by_cases k : page < 4096
  ·rw [if_pos k, if_pos k, h.pv n page k]
  ·rw [if_neg k, if_neg k]
 ·funext q
  by_cases k : xc q
  ·rw [if_pos k, if_pos k, h.file q k]
  ·rw [if_neg k, if_neg k]
namespace Abs
def ct (X : Abs) (a : Ar) (n page : Nat) : List UInt8 := match X.pv n page with | .own l => l | .file => X.file (za.keyF a page) | _ => List.replicate 64 0
def Qc (X : Abs) (n page : Nat) (v : PV) : Abs := { X with pv := fun m pg => if m = n ∧ pg = page then v else X.pv m pg }
def Za (X : Abs) (k : Int × Int) (d : Bool) : Abs := { X with yt := fun q => if q = k then d else X.yt q }
def Xr (X : Abs) (k : Int × Int) (l : List UInt8) : Abs := { X with file := fun q => if q = k then l else X.file q }
def own (X : Abs) (a : Ar) (n page : Nat) : Abs := if a.kind = 2 then X.Za (za.keyF a page) true else X.Qc n page (.own (X.ct a n page))
def splice (l : List UInt8) (at_ : Nat) (b : List UInt8) : List UInt8 := l.take at_ ++ (b ++ l.drop (at_ + b.length))
def write (X : Abs) (a : Ar) (n page at_ : Nat) (b : List UInt8) : Abs := if a.kind = 2 then X.Xr (za.keyF a page) (splice (X.file (za.keyF a page)) at_ b) else X.Qc n page (.own (splice (X.ct a n page) at_ b))
end Abs
structure Mine (x : za) (a : Ar) (n page f : Nat) : Prop where
 lt : f < 1024
 ent : (x.ent n page).kind = 1 ∧ (x.ent n page).n = f
 shared : a.kind = 2 → getL x.CR (f : Int) = some (za.keyF a page) ∧ x.yt (za.keyF a page) = true
 own : a.kind ≠ 2 → getL x.CR (f : Int) = none ∧ x.B f = [plc n page]
structure Beside (n page : Nat) (x y : za) : Prop where
 ent : ∀ m pg, pg < 4096 → ¬ (m = n ∧ pg = page) → y.ent m pg = x.ent m pg
 backs : ∀ f : Nat, f < 1024 → x.P.use f = 3 → x.B f ≠ [] → (f : Int) ≠ (x.ent n page).n → y.B f = x.B f ∧ y.P.use f = 3
 cr : ∀ f k, getL x.CR f = some k → getL y.CR f = some k
theorem Beside.refl (n page : Nat) (x : za) : Beside n page x x := ⟨fun _ _ _ _ => rfl, fun _ _ h _ _ => ⟨rfl, h⟩, fun _ _ h => h⟩
section
variable {F : Nat → Prop} {x y : za}
theorem zir (h : OK F x) {n page : Nat} {pr : ym} (hn : n < 8) (hp : x.T n = some pr) (hpg : page < 4096) {a : Ar} (ha : yg pr.A (page : Int) = some a) (hk : (x.ent n page).kind = 1) : x.abs.ct a n page = x.R.read (x.ent n page).n.toNat 0 64 := by
 have hpv := Yg hp ha
 have e : x.abs.pv n page = x.pv n page := if_pos hpg
 obtain ⟨f, e1, e2, _, e3, _⟩ := h.frame hn hpg hk
 have hA := h.area n pr page hp hpg
 unfold Abs.ct
 rw [e, hpv]
 unfold za.pv1
 rw [if_neg (by omega), if_neg (by omega), if_pos hk]
 by_cases hc : getL x.CR (x.ent n page).n = none
 ·rw [if_pos hc]
 ·rw [if_neg hc]
  dsimp only
  obtain ⟨k, hck⟩ := Option.ne_none_iff_exists'.1 hc
  have hne : a.kind ≠ 1 := fun e => hc (hA.own a ha hk e)
  have hkey := hA.file a k ha hk hne hck
  subst hkey
  have hko := Ua (h.wf.Zv n pr hp).1 ha hne
  show (if xc (za.keyF a page) then x.uo (za.keyF a page) else []) = _
  rw [if_pos hko]
  unfold za.uo
  obtain ⟨d, hd⟩ := (h.cacheE _ _).2 hck
  rw [hd]
theorem OK.mark (h : OK F x) (k : Int × Int) (hk : ∃ v, getL x.CL k = some v) : OK F (x.zz k true) ∧ (x.zz k true).abs = x.abs.Za k true ∧ (∀ n page, (x.zz k true).ent n page = x.ent n page) ∧ ut 0 x (x.zz k true) := by
 obtain ⟨v, hv⟩ := hk
 have w := h.wf.zz k true
 have e : x.zz k true = { x with CL := updL x.CL k (v.1, true) } := by unfold za.zz; rw [hv]
 have he : ∀ n page, (x.zz k true).ent n page = x.ent n page := fun n page => by rw [e]; rfl
 rw [e] at w he ⊢
 have hfst : ∀ q g, (∃ d, getL (updL x.CL k (v.1, true)) q = some (g, d)) ↔ ∃ d, getL x.CL q = some (g, d) := fun q g => by
  rw [yj]
  by_cases c : q = k
  ·rw [if_pos c, c, hv]
   constructor
   ·rintro ⟨d, hd⟩
    simp at hd
    exact ⟨v.2, by rw [← hd.1]⟩
   ·rintro ⟨d, hd⟩
    simp at hd
    exact ⟨true, by rw [hd]⟩
  ·rw [if_neg c]
 have hv2 : ∀ q w, getL (updL x.CL k (v.1, true)) q = some w → ∃ w0, getL x.CL q = some w0 ∧ w0.1 = w.1 := fun q w hw => by
  obtain ⟨d, hd⟩ := (hfst q w.1).1 ⟨w.2, hw⟩
  exact ⟨_, hd, rfl⟩
 refine ⟨⟨w, fun f n page h1 h2 h3 => h.backE f n page h1 h2 h3, fun q n page h1 h2 h3 => h.slotE q n page h1 h2 h3, h.useB, h.anon, h.table, h.cached, fun q g => (hfst q g).trans (h.cacheE q g), fun q w hw => ?_, fun n pr page h1 h2 => by
  have a := h.area n pr page h1 h2
  rw [he n page]
  exact ⟨a.find, a.own, a.file, a.shared, a.slot⟩⟩, ?_, he, ⟨⟨rfl, rfl⟩, by dsimp only; omega, rfl, fun _ _ _ => Iff.rfl, fun _ => rfl⟩⟩
 ·obtain ⟨w0, h0, _⟩ := hv2 q w hw
  exact h.cacheK q w0 h0
 ·unfold za.abs Abs.Za
  rw [Abs.mk.injEq]
  refine ⟨rfl, rfl, ?_, ?_, rfl⟩
  ·funext q
   by_cases c : xc q
   ·rw [if_pos c]
    dsimp only
    rw [if_pos c]
    unfold za.uo
    dsimp only
    rw [yj]
    by_cases c2 : q = k
    ·rw [if_pos c2, c2, hv]
    ·rw [if_neg c2]
   ·rw [if_neg c]
    dsimp only
    rw [if_neg c]
  ·funext q
   unfold za.yt
   dsimp only
   rw [yj]
   by_cases c2 : q = k
   ·rw [if_pos c2, if_pos c2]; rfl
   ·rw [if_neg c2, if_neg c2]
theorem OK.zg4 (h : OK F x) {n page : Nat} {pr : ym} {e : Ent} {c : Int} (d : PutD x n page pr e c y) (hp : x.T n = some pr) (hpg : page < 4096) {a : Ar} (ha : yg pr.A (page : Int) = some a) (o : ∀ n, 8 ≤ n → x.T n = none) (hc : c = 0) (l : List UInt8) (hl : y.pv1 a e = .own l) : y.abs = x.abs.Qc n page (.own l) := by
 -- what all see but for this page
 have hR : ∀ f i, f < 1024 → (x.P.use f = 3 ∨ x.P.use f = 4) → i < 64 → y.R.b f i = x.R.b f i := fun f i hf hu hi => d.bytes f i (by omega) fun ho => by have := (h.wf.xh ho).2.1; omega
 have hA : ∀ m, (y.T m).map (fun pr => (pr.A, pr.Q)) = (x.T m).map (fun pr => (pr.A, pr.Q)) := fun m => by
  by_cases k : m = n
  ·subst k
   obtain ⟨T', ht⟩ := d.this
   rw [ht, hp]
   rfl
  ·rw [d.oth m k]
 have hA1 : ∀ m, (y.T m).map (·.A) = (x.T m).map (·.A) := fun m => by
  have := congrArg (Option.map Prod.fst) (hA m)
  simpa [Option.map_map, Function.comp_def] using this
 unfold za.abs Abs.Qc
 rw [Abs.mk.injEq]
 refine ⟨funext hA, ?_, ?_, by funext k; unfold za.yt; rw [d.keep.2.1], by rw [d.keep.1]⟩
 ·funext m pg
  by_cases k : m = n ∧ pg = page
  ·rw [if_pos k, k.1, k.2, if_pos hpg]
   obtain ⟨T', ht⟩ := d.this
   rw [Yg ht ha, d.done hpg hc]
   exact hl
  ·rw [if_neg k]
   by_cases hq : pg < 4096
   ·rw [if_pos hq]
    dsimp only
    rw [if_pos hq]
    have he : y.ent m pg = x.ent m pg := by rw [d.ent m pg hq, if_neg fun a => k a.2]
    by_cases hm : m < 8
    ·exact Yh h m pg hm hq (hA1 m) he (fun _ => by rw [d.keep.2.2]) (fun _ => by rw [d.keep.1]) hR
    ·have h1 := o m (by omega)
     have h2 : y.T m = none := by
      have := hA m
      rw [h1] at this
      simpa using this
     unfold za.pv
     rw [h1, h2]
   ·rw [if_neg hq]
    dsimp only
    rw [if_neg hq]
 ·funext k
  by_cases hk : xc k
  ·rw [if_pos hk]
   dsimp only
   rw [if_pos hk]
   exact jr h k d.keep.2.1 (by rw [d.keep.1]) fun f i a b c => hR f i a (.inr b) c
  ·rw [if_neg hk]
   dsimp only
   rw [if_neg hk]
theorem OK.ownF (h : OK F x) (o : ∀ n, 8 ≤ n → x.T n = none) {n page : Nat} {pr : ym} (hp : x.T n = some pr) (hpg : page < 4096) {a : Ar} (ha : yg pr.A (page : Int) = some a) (hk : (x.ent n page).kind = 1) {f : Nat} (hf : (x.ent n page).n = f) :
  OK F (x.ownF n page a f).2 ∧ ut 1 x (x.ownF n page a f).2 ∧ (x.ownF n page a f).2.D = x.D ∧ Beside n page x (x.ownF n page a f).2 ∧ (((x.ownF n page a f).1.2 = 4 ∧ x.P.room < 1 ∧ (x.ownF n page a f).2.abs = x.abs) ∨
   ((x.ownF n page a f).1.2 = 0 ∧ (x.ownF n page a f).2.abs = x.abs.own a n page ∧ ∃ g : Nat, (x.ownF n page a f).1.1 = g ∧ Mine (x.ownF n page a f).2 a n page g)) := by
 have hn := h.Xt o hp
 obtain ⟨f', e1, e2, hm, hu, hb⟩ := h.frame hn hpg hk
 have hff : f' = f := by omega
 subst hff
 have hA := h.area n pr page hp hpg
 have hct := zir h hn hp hpg ha hk
 rw [hf, Int.toNat_natCast] at hct
 unfold za.ownF
 by_cases k2 : a.kind = 2
 ·rw [if_pos k2]
  obtain ⟨k, hck⟩ := Option.ne_none_iff_exists'.1 (hA.shared a ha hk k2)
  have hkey := hA.file a k ha hk (by omega) hck
  rw [hf] at hck
  rw [hck]
  subst hkey
  obtain ⟨d, hd⟩ := (h.cacheE _ _).2 hck
  obtain ⟨m1, m2, m3, m4⟩ := h.mark (za.keyF a page) ⟨_, hd⟩
  have hdr : (x.zz (za.keyF a page) true).yt (za.keyF a page) = true := by
   have := congrArg (fun X : Abs => X.yt (za.keyF a page)) m2
   simpa [za.abs, Abs.Za] using this
  refine ⟨m1, m4.mono (by omega), rfl, ⟨fun m pg _ _ => m3 m pg, fun _ _ h1 _ _ => ⟨rfl, h1⟩, fun _ _ h1 => h1⟩, .inr ⟨rfl, ?_, f', rfl, ⟨e2, by dsimp only [Option.getD_some]; rw [m3]; exact ⟨hk, hf⟩, fun _ => ⟨hck, hdr⟩, fun q => absurd k2 q⟩⟩⟩
  unfold Abs.own
  rw [if_pos k2]
  exact m2
 ·rw [if_neg k2]
  by_cases k1 : getL x.CR (f' : Int) = none ∧ (x.B f').length = 1
  ·rw [if_pos k1]
   have hB1 : x.B f' = [plc n page] := by
    cases hl : x.B f' with
    | nil => rw [hl] at hm; cases hm
    | cons q l =>
     have := k1.2
     rw [hl] at this
     have hl2 : l = [] := by cases l with | nil => rfl | cons _ _ => simp at this
     subst hl2
     rw [hl] at hm
     simp at hm
     rw [hm]
   have hu3 : x.P.use f' = 3 := by
    rcases hu with hu | hu
    ·exact hu
    ·have := (h.cached f' e2).1 hu
     rw [k1.1] at this
     cases this
   have d := h.wf.putF hn hp hpg (e := ⟨1, f', true⟩) (by simp [Ent.ok, most]; omega)
   obtain ⟨c0, kp⟩ := d.zhp h.wf hp (.inl (by omega))
   have hA2 : Vz x pr page ⟨1, f', true⟩ := by
    refine ⟨fun _ => ⟨a, ha⟩, fun b hb _ h3 => k1.1, fun b q hb _ _ h4 => ?_, fun b hb _ h3 => ?_, fun b hb h2 => by cases h2⟩
    ·dsimp only at h4; rw [k1.1] at h4; cases h4
    ·rw [ha] at hb; cases hb; exact absurd h3 k2
   have k := h.put d hn hp hpg (fun _ => ⟨f', rfl, e2, .inl hu3⟩) hA2
   have hns : ¬ x.owns n f' := fun ho => by have := (h.wf.xh ho).2.1; omega
   have hrd : (x.putF n page ⟨1, f', true⟩).2.R.read f' 0 64 = x.R.read f' 0 64 := Ye fun i _ => d.bytes f' i (by omega) hns
   have bes : Beside n page x (x.putF n page ⟨1, f', true⟩).2 := by
    refine ⟨fun m pg hq hne => by rw [d.ent m pg hq, if_neg fun q => hne q.2], fun f2 hf2 hu2 hB2 hne => ?_, fun f2 q2 hq2 => by rw [d.keep.2.2]; exact hq2⟩
    have hn2 : ¬ x.owns n f2 := fun ho => by have := (h.wf.xh ho).2.1; omega
    refine ⟨?_, ?_⟩
    ·refine xn (d.wf.back f2).1 (h.wf.back f2).1 ?_
     refine (List.perm_ext_iff_of_nodup (d.wf.back f2).1.nodup (h.wf.back f2).1.nodup).2 fun q => ?_
     rw [d.memB]
     split
     ·have h1 : ¬ ((x.ent n page).kind = 1 ∧ (x.ent n page).n = f2) := fun a => hne a.2.symm
      have h2 : ¬ ((1 : Nat) = 1 ∧ (f' : Int) = f2) := fun a => hne (by omega)
      exact ⟨fun a => a.elim (fun b => absurd b h2) fun b => b.2, fun a => .inr ⟨h1, a⟩⟩
     ·exact Iff.rfl
    ·rw [d.use f2 hn2 (by omega), if_neg]
     ·exact hu2
     ·rintro ⟨_, _, _, b, _⟩
      exact hne b
   refine ⟨k.mono fun g hg => hg.1, kp.mono (by omega), d.keep.1, bes, .inr ⟨c0, ?_, f', rfl, ⟨e2, by rw [d.done hpg c0]; exact ⟨rfl, rfl⟩, fun q => absurd q k2, fun _ => ⟨by rw [d.keep.2.2]; exact k1.1, ?_⟩⟩⟩⟩
   ·unfold Abs.own
    rw [if_neg k2, hct]
    refine h.zg4 d hp hpg ha o c0 _ ?_
    unfold za.pv1
    dsimp only
    rw [d.keep.2.2, k1.1, Int.toNat_natCast, hrd]
    simp
   ·refine xn (d.wf.back _).1 (List.pairwise_singleton _ _) ?_
    refine (List.perm_ext_iff_of_nodup (d.wf.back _).1.nodup (by simp)).2 fun q => ?_
    rw [d.memB, hB1]
    split
    ·rename_i g
     simp [g.2.1]
    ·exact Iff.rfl
  ·rw [if_neg k1]
   rcases h.wf.yn (f' : Int) with ⟨hnx, e⟩ | ⟨g, hnx, hbad, e, d0, hD⟩ | ⟨g, hnx, hbad, e, d0, hD⟩
   ·rw [e]
    dsimp only
    rw [if_neg (by simp)]
    exact ⟨h, (ut.refl x).mono (by omega), rfl, Beside.refl _ _ x, .inl ⟨rfl, by have := Zc hnx; omega, rfl⟩⟩
   ·obtain ⟨q1, s1, hB, hcr, hu3, hrd⟩ := d0.ok h o
    have kp1 := d0.keeps (.inl rfl)
    have en1 := d0.ent
    have st1 := d0.stay
    have kT := d0.keep.1
    have kR := d0.keep.2.2.2.2
    have kB := d0.keep.2.1
    have hg := d0.was.1
    have hgu := d0.was.2
    rw [Int.toNat_natCast] at hrd
    obtain ⟨y, hy⟩ : ∃ y, y = (x.yn (f' : Int)).2 := ⟨_, rfl⟩
    rw [← hy] at q1 s1 hu3 hrd kp1 en1 st1 kT kR kB hD ⊢
    rw [e]
    dsimp only
    rw [if_pos rfl]
    clear hy d0 e
    have hp' : y.T n = some pr := by rw [kT]; exact hp
    have d := q1.wf.putF hn hp' hpg (e := ⟨1, g, true⟩) (by simp [Ent.ok, most]; omega)
    obtain ⟨c0, kp⟩ := d.zhp q1.wf hp' (.inl (by rw [en1 n page hpg]; omega))
    have hA2 : Vz y pr page ⟨1, g, true⟩ := by
     refine ⟨fun _ => ⟨a, ha⟩, fun b hb _ h3 => by dsimp only; rw [kR]; exact hcr, fun b q hb _ _ h4 => ?_, fun b hb _ h3 => ?_, fun b hb h2 => by cases h2⟩
     ·dsimp only at h4; rw [kR, hcr] at h4; cases h4
     ·rw [ha] at hb; cases hb; exact absurd h3 k2
    have k := q1.put d hn hp' hpg (fun _ => ⟨g, rfl, hg, .inl hu3⟩) hA2
    have hns : ¬ y.owns n g := fun ho => by have := (q1.wf.xh ho).2.1; omega
    have hrd2 : (y.putF n page ⟨1, g, true⟩).2.R.read g 0 64 = y.R.read g 0 64 := Ye fun i _ => d.bytes g i (by omega) hns
    have hgf : (y.ent n page).n ≠ (g : Int) := fun q => by
     rw [en1 n page hpg] at q
     have : f' = g := by omega
     subst this
     omega
    have bes : Beside n page x (y.putF n page ⟨1, g, true⟩).2 := by
     refine ⟨fun m pg hq hne => by rw [d.ent m pg hq, if_neg fun q => hne q.2, en1 m pg hq], fun f2 hf2 hu2 hB2 hne => ?_, fun f2 q2 hq2 => by rw [d.keep.2.2]; exact st1.cr f2 q2 hq2⟩
     obtain ⟨b1, b2⟩ := st1.backs f2 hf2 hu2 hB2
     have hne3 : f2 ≠ g := fun e => by rw [e] at hu2; omega
     have hn2 : ¬ y.owns n f2 := fun ho => by have := (q1.wf.xh ho).2.1; omega
     refine ⟨Eq.trans ?_ b1, ?_⟩
     ·refine xn (d.wf.back f2).1 (q1.wf.back f2).1 ?_
      refine (List.perm_ext_iff_of_nodup (d.wf.back f2).1.nodup (q1.wf.back f2).1.nodup).2 fun q => ?_
      rw [d.memB]
      split
      ·have h1 : ¬ ((y.ent n page).kind = 1 ∧ (y.ent n page).n = f2) := fun a => hne (by rw [← en1 n page hpg]; exact a.2.symm)
       have h2 : ¬ ((1 : Nat) = 1 ∧ (g : Int) = f2) := fun a => hne3 (by omega)
       exact ⟨fun a => a.elim (fun b => absurd b h2) fun b => b.2, fun a => .inr ⟨h1, a⟩⟩
      ·exact Iff.rfl
     ·rw [d.use f2 hn2 (by omega), if_neg]
      ·exact b2
      ·rintro ⟨_, _, _, b, _⟩
       exact hne (by rw [← en1 n page hpg]; exact b)
    refine ⟨k.mono fun z hz => ?_, (kp1.trans kp).mono (by omega), by rw [d.keep.1, hD], bes, .inr ⟨c0, ?_, g, rfl, ⟨hg, by rw [d.done hpg c0]; exact ⟨rfl, rfl⟩, fun q => absurd q k2, fun _ => ⟨by rw [d.keep.2.2, kR]; exact hcr, ?_⟩⟩⟩⟩
    ·rcases hz.1 with q | q
     ·exact q
     ·exact absurd ⟨c0, rfl, by rw [q]⟩ hz.2
    ·unfold Abs.own
     rw [if_neg k2, hct, ← s1.abs]
     refine q1.zg4 d hp' hpg ha (s1.out o) c0 _ ?_
     unfold za.pv1
     dsimp only
     rw [d.keep.2.2, kR, hcr, Int.toNat_natCast, hrd2, hrd]
     simp
    ·refine xn (d.wf.back _).1 (List.pairwise_singleton _ _) ?_
     refine (List.perm_ext_iff_of_nodup (d.wf.back _).1.nodup (by simp)).2 fun q => ?_
     rw [d.memB, kB, hB]
     split
     ·rename_i z
      simp [z.2.1]
     ·rename_i z
      constructor
      ·intro q; cases q
      ·intro q
       simp at q
       refine absurd ⟨c0, q, fun w => ?_⟩ z
       rw [w] at hgf
       exact hgf rfl
   ·rw [Int.toNat_natCast, hb] at hbad
    cases hbad
end
end
section
variable {w w' : World} {tag tag' : Nat → Nat} {q : Sq} {x : za}
theorem zkq (h : zb w tag q x) (n page : Int) (e : Ent) (hn : ¬ ((x.T n.toNat).isSome = true ∧ 0 ≤ n)) :
  Calls Tryz.prog 88 #[ptrV q.sp, .agg #[.int .i64 n, .int .i64 page], entV e] w fun r w' => r = .returned (.int .i64 2) ∧ Below w.heap.size w w' := by
 obtain ⟨w0, hw0⟩ : ∃ w0, w0 = (w.alloc (.cells #[.int .i64 n, .int .i64 page] 58 (0, 0))).alloc (.cells #[.int .i64 e.kind, .int .i64 e.n, .bool e.write] 70 (0, 0)) := ⟨_, rfl⟩
 have hb0 : Below w.heap.size w w0 := by rw [hw0]; exact ((Below.refl w.heap.size w).alloc (Nat.le_refl _) _).alloc (by simp) _
 have F := Lib.hid (Zh (h.below hb0) n)
 have ev : Z5 q x n = .tuple #[.pointer none, .bool false] := by
  unfold Z5
  rw [if_neg hn, decide_eq_false hn]
 rw [ev] at F
 have HB := Lib.hid hb0
 have HW := Lib.hid hw0
 unfold ptrV at F ⊢
 unfold entV
 clear h hb0 hw0 ev hn
 go_enter Tryz.func88, Tryz.ntmps88
 go_wp2_with fail
 rw [← HW.out]
 refine F.out.mono ?_
 rintro r u ⟨rfl, hu⟩
 have hu := hu.symm
 subst hu
 clear F
 go_wp2_with fail
 exact bodyPost_ret (v := .int .i64 2) (by simp [results, Tryz.results88, go_sem]) rfl ⟨rfl, HB.out⟩
theorem Z7 (h : zb w tag q x) (wf : WF x) (n page : Nat) (hn : n < 8) (hpg : page < 4096) (e : Ent) (he : e.ok = true) :
  Calls Tryz.prog 88 #[ptrV q.sp, .agg #[.int .i64 n, .int .i64 page], entV e] w fun r w' => r = .returned (.int .i64 (x.putF n page e).1) ∧ ∃ tag', zb w' tag' q (x.putF n page e).2 ∧ Step (CP n) tag w tag' w' := by
 cases hp : x.T n with
 | none =>
  have ev : x.putF n page e = (2, x) := by unfold za.putF; rw [hp]
  rw [ev]
  refine (zkq h (n : Int) page e (by rw [Int.toNat_natCast, hp]; simp)).mono ?_
  rintro r w1 ⟨rfl, hb⟩
  exact ⟨rfl, retag tag w 0, h.step (Step.anew hb), Step.anew hb⟩
 | some pr =>
  obtain ⟨N, ok⟩ := wf.rpt n pr hp
  have hent := wf.Xu hp ok hpg
  have hg := wf.get hp hpg
  refine (zkn h n page pr hn hp N ok hpg e he (x.ent n page) hent.symm (wf.Yc n hpg) wf.lists).mono ?_
  rintro r w1 ⟨c, x', tag1, rfl, hpost, h1, s1⟩
  have key : x.putF n page e = (c, x') := by
   unfold za.putF
   rw [hp]
   dsimp only
   rw [hg]
   dsimp only
   rw [if_neg (by simp)]
   rcases hpost with ⟨a, rfl, rfl⟩ | ⟨a, b, rfl, rfl⟩ | ⟨a, b, rfl, rfl⟩
   ·rw [if_pos a]
   ·rw [if_neg a, if_pos b]
   ·rw [if_neg a, if_neg (fun k => k b)]
  rw [key]
  exact ⟨rfl, tag1, h1, s1⟩
end
section
variable {w w' : World} {tag tag' : Nat → Nat} {q : Sq} {x : za}
theorem zey (h : zb w tag q x) (u : Nat) (hu : 2 ≤ u ∧ u ≤ 5) (f : Nat) (hn : x.P.next true = some f) (hf : f < 1024) (F : Nat) (c1 c2 : Value) (eg : ∀ args w, (callFunc F args).run Tryz.prog w = .ok (.enter F args) w) (CA : Nat → Prop) (h2 : CA 2) (Z : Int → za → Prop)
  (G : ∀ w1, zb w1 tag q { x with P := x.P.set f u } → Step (fun c => c = 2) tag w tag w1 → Calls Tryz.prog F #[.int .i64 f, c1, c2] w1 fun e w2 => ∃ c y tag2, e = .returned (.int .i64 c) ∧ zb w2 tag2 q y ∧ Step CA tag w1 tag2 w2 ∧ Z c y ∧ (c ≠ 0 → 2 ≤ y.P.use f ∧ y.P.use f ≤ 5)) :
  Calls Tryz.prog 213 #[ptrV q.sp, .int .i64 u, .func (.func F) #[] #[c1, c2]] w fun e w' => ∃ c y tag2, e = .returned (.tuple #[.int .i64 (if c = 0 then f else 0), .int .i64 c]) ∧ zb w' tag2 q (if c = 0 then y else { y with P := y.P.set f 1 }) ∧ Step CA tag w tag2 w' ∧ Z c y := by
 have A : Hid (Calls Tryz.prog 43 #[.pointer (some ⟨q.pp, 0, none⟩), .int .i64 u, .int .i64 0, .bool true] w fun e w1 => e = .returned (.tuple #[.int .i64 f, .int .i64 0]) ∧ zb w1 tag q { x with P := x.P.set f u } ∧ Step (fun c => c = 2) tag w tag w1) := by
  refine (Ja w _ _ _ _ _ h.pool u u rfl hu.1 hu.2).mono ?_
  rintro e w1 ⟨rfl, h1, h2, _⟩
  rw [hn] at h1 ⊢
  have k := h.zfm h2 h1
  exact ⟨rfl, k.1, k.2⟩
 have c2' : w.cell? ⟨q.sp, 2, none⟩ = some (.pointer (some ⟨q.pp, 0, none⟩)) := h.row.cell (i := 2) (by omega)
 have HG := Lib.hid G
 have HX := Lib.hid (And.intro hf h2)
 unfold ptrV
 clear h G hn hf h2
 go_enter Tryz.func213, Tryz.ntmps213
 go_wp2_with fail
 refine A.out.mono ?_
 rintro e w1 ⟨rfl, h1, s1⟩
 have B := Lib.hid (HG.out w1 h1 s1)
 have S1 := Lib.hid s1
 clear h1 s1 A c2' HG
 go_wp2_with fail
 refine B.out.mono ?_
 rintro e w2 ⟨c, y, tag2, rfl, hy, s2, hz, hfu⟩
 have X := Lib.hid (And.intro hy (And.intro s2 (And.intro hz hfu)))
 by_cases hc : c = 0
 ·subst hc
  clear hy s2 hz hfu
  go_wp2_with fail
  exact bodyPost_ret (v := .tuple #[.int .i64 f, .int .i64 0]) (by simp [results, Tryz.results213, go_sem]) rfl ⟨0, y, tag2, rfl, X.out.1, (S1.out.mono fun c hc => hc ▸ HX.out.2).trans X.out.2.1, X.out.2.2.1⟩
 ·have g2 : w2.cell? ⟨q.sp, 2, none⟩ = some (.pointer (some ⟨q.pp, 0, none⟩)) := hy.row.cell (i := 2) (by omega)
  have FR : Hid (Calls Tryz.prog 44 #[.pointer (some ⟨q.pp, 0, none⟩), .int .i64 f] w2 fun e w3 => e = .returned (.bool true) ∧ zb w3 tag2 q { y with P := y.P.set f 1 } ∧ Step (fun c => c = 2) tag2 w2 tag2 w3) := by
   refine (Vx _ _ _ _ _ _ hy.pool f f rfl HX.out.1 (hfu hc).1 (hfu hc).2).mono ?_
   rintro e w3 ⟨rfl, k1, k2⟩
   have k := hy.zfm k2 k1
   exact ⟨rfl, k.1, k.2⟩
  have n1 : (c == 0) = false := beq_eq_false_iff_ne.2 hc
  have HC := Lib.hid hc
  clear hy s2 hz hfu hc
  go_wp2_with fail
  refine FR.out.mono ?_
  rintro e w3 ⟨rfl, h3, s3⟩
  have H3 := Lib.hid (And.intro h3 s3)
  clear h3 s3 FR g2
  go_wp2_with fail
  exact bodyPost_ret (v := .tuple #[.int .i64 0, .int .i64 c]) (by simp [results, Tryz.results213, go_sem]) rfl ⟨c, y, tag2, by rw [if_neg HC.out], by rw [if_neg HC.out]; exact H3.out.1, ((S1.out.mono fun c hc => hc ▸ HX.out.2).trans X.out.2.1).trans (H3.out.2.mono fun c hc => hc ▸ HX.out.2), X.out.2.2.1⟩
end
structure Loc (W : World) (tag : Nat → Nat) (q : Sq) (x : za) (L : List (Nat × Nat × Value)) : Prop where
 sp : zb W tag q x
 loc : ∀ t ∈ L, tag t.1 = 0 ∧ W.cell? ⟨t.1, t.2.1, none⟩ = some t.2.2
section
variable {C : Nat → Prop} {W W' : World} {tag tag' : Nat → Nat} {q : Sq} {x x' : za} {L L' : List (Nat × Nat × Value)}
theorem Loc.step (h : Loc W tag q x L) (s : Step C tag W tag' W') (hc : ¬ C 0) (hx : zb W' tag' q x') : Loc W' tag' q x' L :=
 ⟨hx, fun t ht => by
  obtain ⟨a, b⟩ := h.loc t ht
  have k := s.keeps hc t.1 (World.block_lt_of_cell? W _ b) a
  exact ⟨k.1, (World.cell?_of_block (w := W) k.2).trans b⟩⟩
theorem Loc.below (h : Loc W tag q x L) (hb : Below W.heap.size W W') : Loc W' tag q x L := h.step (C := fun _ => False) (Step.of_below hb) id (h.sp.below hb)
theorem Loc.drew (h : Loc W tag q x L) : Loc W.drew tag q x L := h.below (Below.refl _ _).drew
theorem Loc.sub (h : Loc W tag q x L) (hs : ∀ t ∈ L', t ∈ L) : Loc W tag q x L' := ⟨h.sp, fun t ht => h.loc t (hs t ht)⟩
theorem Loc.get (h : Loc W tag q x L) (i : Nat) {b o : Nat} {v : Value} (hi : L[i]? = some (b, o, v)) : W.cell? ⟨b, o, none⟩ = some v := (h.loc _ (List.mem_of_getElem? hi)).2
theorem Loc.cell (h : Loc W tag q x L) {i : Nat} (hi : i < 7) : W.cell? ⟨q.sp, i, none⟩ = some (Zw q i) := h.sp.row.cell hi
theorem Loc.mine (h : Loc W tag q x L) {n : Nat} {pr : ym} (hn : n < 8) (hp : x.T n = some pr) : W.cell? ⟨(q.U n).ap, 0, none⟩ = some (ptrV (q.U n).tp) := by
 obtain ⟨av, r1, _⟩ := (h.sp.procs n pr hn hp).row
 exact r1.cell (i := 0) (by omega)
theorem Loc.more (h : Loc W tag q x L) (hb : Below W.heap.size W W') (M : List (Nat × Nat × Value)) (hM : ∀ t ∈ M, W.heap.size ≤ t.1 ∧ W'.cell? ⟨t.1, t.2.1, none⟩ = some t.2.2) : Loc W' (retag tag W 0) q x (M ++ L) ∧ Step (fun _ => False) tag W (retag tag W 0) W' := by
 have s : Step (fun _ => False) tag W (retag tag W 0) W' := Step.anew hb
 refine ⟨⟨h.sp.step s, fun t ht => ?_⟩, s⟩
 rcases List.mem_append.1 ht with ht | ht
 ·exact ⟨zy _ _ _ _ (hM t ht).1, (hM t ht).2⟩
 ·obtain ⟨a, b⟩ := h.loc t ht
  have k := s.keeps id t.1 (World.block_lt_of_cell? W _ b) a
  exact ⟨k.1, (World.cell?_of_block (w := W) k.2).trans b⟩
theorem zb.loc0 (h : zb W tag q x) : Loc W tag q x [] := ⟨h, fun t ht => by cases ht⟩
theorem zn {W : World} {cs : Array Value} {T : TypeId} {b : Nat} (h : W.heap[b]? = some (.cells cs T (0, 0))) (i : Nat) {v : Value} (hv : cs[i]? = some v) : W.cell? ⟨b, i, none⟩ = some v := by
 rw [cell_of_row _ _ i _ _ _ h]
 exact hv
end
end Go.Proofs.YtnhdmnijiphjjaaGreat
