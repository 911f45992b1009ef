/- Tables of pages, in plain words: a last table's number, a table more, a table less. No program in it. -/
import Derived.Test.YtnhdmnijiphjjaaGreatJEc0
import Derived.Test.YtnhdmnijiphjjaaGreatJEc1
import Derived.Deep.MidRow
import Derived.Laws.BitsAllLaws
set_option linter.unusedVariables false
set_option linter.unusedSimpArgs false
set_option maxRecDepth 100000
set_option maxHeartbeats 2000000
namespace Go.Proofs.YtnhdmnijiphjjaaGreat
open Go Go.RowKit
theorem zf0 {a b : Nat} (ha : a < 4096) (hb : b < 4096) (h : high a = high b) (h3 : digit a 3 = digit b 3) : a = b := by
 unfold high at h
 simp only [List.cons.injEq, and_true] at h
 unfold digit at h h3
 simp at h h3
 omega
theorem Xq (R : RamS) (g d : Nat) (hd : d < 8) : wordAt (R.write g 0 (List.replicate 64 0)) g d = 0 := by
 unfold wordAt
 rw [V8]
 intro b hb
 unfold RamS.read at hb
 obtain ⟨i, hi, rfl⟩ := List.mem_map.1 hb
 simp at hi
 rw [uk, if_pos ⟨rfl, by omega, by simp; omega⟩, List.getD_eq_getElem?_getD, List.getElem?_replicate]
 split <;> rfl
theorem Ue (R : RamS) (g : Nat) (l : List UInt8) (a f d : Nat) (h : f ≠ g) : wordAt (R.write g a l) f d = wordAt R f d := by
 unfold wordAt
 rw [Yp]
 exact .inl h
section
variable {R : RamS} {T : Zn} {N : List Nat → Option Nat}
theorem x8.zhj (h : x8 R T N) {p : List Nat} {f d : Nat} (hp : N p = some f) (hl : p.length = 3) (hd : d < 8) {e : Ent} (he : e.ok = true) : x8 (R.write f (8 * d) (leBytes e.num 8)) T N := by
 have hv : e.num < 2 ^ 64 := by have := (Ent.zb2 he).1; omega
 refine ⟨h.root, fun q g hq => h.lt q g hq, h.inj, h.own, h.nd, fun q g c hq hql hc => ?_, h.par, fun q g c hq hql hc => ?_⟩
 ·rw [uz R f d _ g c hv hd hc, if_neg, h.kid q g c hq hql hc]
  rintro ⟨rfl, rfl⟩
  have := h.inj q p _ hq hp
  subst this
  omega
 ·rw [uz R f d _ g c hv hd hc]
  split
  ·exact ⟨e, he, rfl⟩
  ·exact h.leaf q g c hq hql hc
theorem x8.zdr (h : x8 R T N) {f page : Nat} (hpage : page < 4096) (hp : N (high page) = some f) {e : Ent} (he : e.ok = true) (page' : Nat) (hpage' : page' < 4096) :
  mapOf (R.write f (8 * digit page 3) (leBytes e.num 8)) N page' = if page' = page then e else mapOf R N page' := by
 have hv : e.num < 2 ^ 64 := by have := (Ent.zb2 he).1; omega
 unfold mapOf
 by_cases e1 : page' = page
 ·subst e1
  rw [if_pos rfl, hp]
  try simp only
  rw [uz _ _ _ _ _ _ hv (z8 _ _) (z8 _ _), if_pos ⟨rfl, rfl⟩, Y2 he]
 ·rw [if_neg e1]
  cases hq : N (high page') with
  | none => rfl
  | some g =>
   try simp only
   rw [uz _ _ _ _ _ _ hv (z8 _ _) (z8 _ _), if_neg]
   rintro ⟨rfl, h3⟩
   exact e1 (zf0 hpage' hpage (h.inj _ _ _ hq hp) h3)
theorem x8.grow1 (h : x8 R T N) {p : List Nat} {f d g : Nat} (hp : N p = some f) (hl : p.length < 3) (hd : d < 8) (hn : N (p ++ [d]) = none) (hg : g < 1024) (hb : R.bad g = false) (ho : g ∉ T.own) :
  x8 ((R.write g 0 (List.replicate 64 0)).write f (8 * d) (leBytes (g + 1) 8)) ⟨T.root, T.own ++ [g]⟩ (fun q => if q = p ++ [d] then some g else N q) := by
 have hv : g + 1 < 2 ^ 64 := by omega
 have hno : ∀ q, N q ≠ some g := fun q e => ho ((h.own g).2 ⟨q, e⟩)
 have hfg : f ≠ g := fun e => hno p (e ▸ hp)
 have hpf := h.lt p f hp
 have hw : ∀ a c, c < 8 → wordAt ((R.write g 0 (List.replicate 64 0)).write f (8 * d) (leBytes (g + 1) 8)) a c = if a = f ∧ c = d then g + 1 else if a = g then 0 else wordAt R a c := fun a c hc => by
  rw [uz _ _ _ _ _ _ hv hd hc]
  split
  ·rfl
  ·split
   ·rename_i e; subst e; exact Xq _ _ _ hc
   ·exact Ue _ _ _ _ _ _ ‹_›
 have hkid0 : ∀ c, N (p ++ [d] ++ [c]) = none := fun c => by
  cases e : N (p ++ [d] ++ [c]) with
  | none => rfl
  | some k => obtain ⟨k', hk'⟩ := h.par _ _ _ e; rw [hn] at hk'; cases hk'
 refine ⟨?_, fun q a hq => ?_, fun q r a hq hr => ?_, fun a => ?_, ?_, fun q a c hq hql hc => ?_, fun q c a hq => ?_, fun q a c hq hql hc => ?_⟩
 ·rw [if_neg (by simp)]; exact h.root
 ·try simp only at hq
  split at hq
  ·rename_i e
   subst e
   cases hq
   refine ⟨hg, hb, by simp; omega, fun c hc => ?_⟩
   rcases List.mem_append.1 hc with hc | hc
   ·exact hpf.2.2.2 c hc
   ·simp at hc; omega
  ·exact h.lt q a hq
 ·try simp only at hq hr
  split at hq <;> split at hr
  ·rename_i e1 e2; rw [e1, e2]
  ·cases hq; exact (hno r hr).elim
  ·cases hr; exact (hno q hq).elim
  ·exact h.inj q r a hq hr
 ·rw [List.mem_append, h.own]
  constructor
  ·rintro (⟨q, hq⟩ | hq)
   ·refine ⟨q, ?_⟩
    try simp only
    rw [if_neg]
    ·exact hq
    ·rintro rfl; rw [hn] at hq; cases hq
   ·simp at hq
    subst hq
    exact ⟨p ++ [d], by simp⟩
  ·rintro ⟨q, hq⟩
   try simp only at hq
   split at hq
   ·cases hq; right; simp
   ·exact .inl ⟨q, hq⟩
 ·rw [List.nodup_append]
  exact ⟨h.nd, by simp, fun a ha b hb' e => by simp at hb'; subst hb'; subst e; exact ho ha⟩
 ·try simp only at hq
  rw [hw a c hc]
  split at hq
  ·rename_i e
   subst e
   cases hq
   rw [if_neg (fun e => hfg e.1.symm), if_pos rfl]
   try simp only
   rw [if_neg (by simp), hkid0 c]
  ·rename_i e
   have hag : a ≠ g := fun e => hno q (e ▸ hq)
   by_cases e1 : a = f ∧ c = d
   ·obtain ⟨rfl, rfl⟩ := e1
    have := h.inj q p _ hq hp
    subst this
    simp
   ·rw [if_neg e1, if_neg hag, h.kid q a c hq hql hc]
    try simp only
    rw [if_neg]
    intro e2
    have := List.append_inj' e2 rfl
    obtain ⟨rfl, e3⟩ := this
    simp at e3
    rw [hp] at hq
    cases hq
    exact e1 ⟨rfl, e3⟩
 ·try simp only at hq ⊢
  split at hq
  ·rename_i e
   have := List.append_inj' e rfl
   obtain ⟨rfl, e3⟩ := this
   refine ⟨f, ?_⟩
   rw [if_neg (by simp)]; exact hp
  ·obtain ⟨k, hk⟩ := h.par _ _ _ hq
   split
   ·exact ⟨_, rfl⟩
   ·exact ⟨k, hk⟩
 ·try simp only at hq
  rw [hw a c hc]
  split at hq
  ·cases hq
   rw [if_neg (fun e => hfg e.1.symm), if_pos rfl]
   exact ⟨Ent.none, rfl, rfl⟩
  ·have hag : a ≠ g := fun e => hno q (e ▸ hq)
   have haf : a ≠ f := fun e => by
    subst e
    have := h.inj q p _ hq hp
    subst this
    omega
   rw [if_neg (fun e => haf e.1), if_neg hag]
   exact h.leaf q a c hq hql hc
theorem x8.zhx (h : x8 R T N) {p : List Nat} {f d g : Nat} (hp : N p = some f) (hl : p.length < 3) (hd : d < 8) (hn : N (p ++ [d]) = none) (ho : g ∉ T.own) (hg : g < 1024) (page : Nat) :
  mapOf ((R.write g 0 (List.replicate 64 0)).write f (8 * d) (leBytes (g + 1) 8)) (fun q => if q = p ++ [d] then some g else N q) page = mapOf R N page := by
 have hv : g + 1 < 2 ^ 64 := by omega
 have hno : ∀ q, N q ≠ some g := fun q e => ho ((h.own g).2 ⟨q, e⟩)
 have hfg : f ≠ g := fun e => hno p (e ▸ hp)
 unfold mapOf
 try simp only
 by_cases e : high page = p ++ [d]
 ·rw [if_pos e, e, hn]
  try simp only
  rw [uz _ _ _ _ _ _ hv hd (z8 _ _), if_neg (fun e => hfg e.1.symm), Xq _ _ _ (z8 _ _)]
  rfl
 ·rw [if_neg e]
  cases hq : N (high page) with
  | none => rfl
  | some a =>
   try simp only
   have hag : a ≠ g := fun e => hno _ (e ▸ hq)
   have haf : a ≠ f := fun e => by
    subst e
    have := h.inj _ p _ hq hp
    rw [← this] at hl
    simp [high] at hl
   rw [uz _ _ _ _ _ _ hv hd (z8 _ _), if_neg (fun e => haf e.1), Ue _ _ _ _ _ _ hag]
theorem x8.cut1 (h : x8 R T N) {p : List Nat} {f d g : Nat} (hp : N p = some f) (hd : d < 8) (hn : N (p ++ [d]) = some g) (hz : ∀ c, c < 8 → wordAt R g c = 0) :
  x8 (R.write f (8 * d) (leBytes 0 8)) ⟨T.root, T.own.filter fun a => (a : Int) ≠ g⟩ (fun q => if q = p ++ [d] then none else N q) := by
 have hg := h.lt _ _ hn
 have hpl : p.length < 3 := by have := hg.2.2.1; simp at this; omega
 have hfg : f ≠ g := fun e => by
  subst e
  have := congrArg List.length (h.inj _ _ _ hp hn)
  simp at this
 have hw : ∀ a c, c < 8 → wordAt (R.write f (8 * d) (leBytes 0 8)) a c = if a = f ∧ c = d then 0 else wordAt R a c := fun a c hc => uz _ _ _ _ _ _ (by omega) hd hc
 have hkid0 : ∀ c, N (p ++ [d] ++ [c]) = none := fun c => by
  cases e : N (p ++ [d] ++ [c]) with
  | none => rfl
  | some k =>
   have hk := h.lt _ _ e
   have hc : c < 8 := hk.2.2.2 c (by simp)
   have := h.kid _ g c hn (by have := hk.2.2.1; simp at this ⊢; omega) hc
   rw [e, hz c hc] at this
   simp at this
 refine ⟨?_, fun q a hq => ?_, fun q r a hq hr => ?_, fun a => ?_, h.nd.filter _, fun q a c hq hql hc => ?_, fun q c a hq => ?_, fun q a c hq hql hc => ?_⟩
 ·rw [if_neg (by simp)]; exact h.root
 ·try simp only at hq
  split at hq
  ·cases hq
  ·exact h.lt q a hq
 ·try simp only at hq hr
  split at hq
  ·cases hq
  ·split at hr
   ·cases hr
   ·exact h.inj q r a hq hr
 ·rw [List.mem_filter, h.own]
  constructor
  ·rintro ⟨⟨q, hq⟩, hne⟩
   refine ⟨q, ?_⟩
   try simp only
   rw [if_neg]
   ·exact hq
   ·rintro rfl
    rw [hn] at hq
    cases hq
    simp at hne
  ·rintro ⟨q, hq⟩
   try simp only at hq
   split at hq
   ·cases hq
   ·rename_i e
    refine ⟨⟨q, hq⟩, ?_⟩
    simp only [decide_eq_true_eq]
    intro e'
    have : a = g := by omega
    subst this
    exact e (h.inj _ _ _ hq hn)
 ·try simp only at hq
  rw [hw a c hc]
  split at hq
  ·cases hq
  ·rename_i e
   by_cases e1 : a = f ∧ c = d
   ·obtain ⟨rfl, rfl⟩ := e1
    have := h.inj q p _ hq hp
    subst this
    simp
   ·rw [if_neg e1, h.kid q a c hq hql hc]
    try simp only
    rw [if_neg]
    intro e2
    have := List.append_inj' e2 rfl
    obtain ⟨rfl, e3⟩ := this
    simp at e3
    rw [hp] at hq
    cases hq
    exact e1 ⟨rfl, e3⟩
 ·try simp only at hq ⊢
  split at hq
  ·cases hq
  ·obtain ⟨k, hk⟩ := h.par _ _ _ hq
   split
   ·rename_i e2
    subst e2
    rw [hkid0 c] at hq
    cases hq
   ·exact ⟨k, hk⟩
 ·try simp only at hq
  rw [hw a c hc]
  split at hq
  ·cases hq
  ·have haf : a ≠ f := fun e => by
    subst e
    have := h.inj q p _ hq hp
    subst this
    omega
   rw [if_neg (fun e => haf e.1)]
   exact h.leaf q a c hq hql hc
theorem x8.zkc (h : x8 R T N) {p : List Nat} {f d g : Nat} (hp : N p = some f) (hd : d < 8) (hn : N (p ++ [d]) = some g) (hz : ∀ c, c < 8 → wordAt R g c = 0) (page : Nat) :
  mapOf (R.write f (8 * d) (leBytes 0 8)) (fun q => if q = p ++ [d] then none else N q) page = mapOf R N page := by
 have hg := h.lt _ _ hn
 have hpl : p.length < 3 := by have := hg.2.2.1; simp at this; omega
 unfold mapOf
 try simp only
 by_cases e : high page = p ++ [d]
 ·rw [if_pos e, e, hn]
  try simp only
  rw [hz _ (z8 _ _)]
  rfl
 ·rw [if_neg e]
  cases hq : N (high page) with
  | none => rfl
  | some a =>
   try simp only
   have haf : a ≠ f := fun e => by
    subst e
    have := h.inj _ p _ hq hp
    rw [← this] at hpl
    simp [high] at hpl
   rw [uz _ _ _ _ _ _ (by omega) hd (z8 _ _), if_neg (fun e => haf e.1)]
end
def zm.Y7 (P : zm) (f : Nat) : Bool := decide (P.use f = 1 ∧ P.zone (f / 32) = 2 ∧ P.iso (f / 32) = false)
def zm.room (P : zm) : Nat := (List.range 1024).countP P.Y7
theorem ja {P : zm} {z s k f : Nat} (h : P.runFrom z s k = some f) : 32 * s ≤ f ∧ f < 32 * (s + k) ∧ P.use f = 1 ∧ P.zone (f / 32) = z ∧ P.iso (f / 32) = false := by
 induction k generalizing s with
 | zero => simp [zm.runFrom] at h
 | succ k ih =>
  simp only [zm.runFrom] at h
  split at h
  ·rename_i hz
   split at h
   ·rename_i g hg
    cases h
    obtain ⟨h1, h2, h3⟩ := zch hg
    have : f / 32 = s := by omega
    rw [this]
    exact ⟨h1, by omega, by simpa using h3, hz.1, hz.2⟩
   ·obtain ⟨h1, h2, h3⟩ := ih h; exact ⟨by omega, by omega, h3⟩
  ·obtain ⟨h1, h2, h3⟩ := ih h; exact ⟨by omega, by omega, h3⟩
theorem zbr {P : zm} {z s k : Nat} (h : P.runFrom z s k = none) : ∀ f, 32 * s ≤ f → f < 32 * (s + k) → P.zone (f / 32) = z → P.iso (f / 32) = false → P.use f ≠ 1 := by
 induction k generalizing s with
 | zero => intro f h1 h2; omega
 | succ k ih =>
  simp only [zm.runFrom] at h
  intro f h1 h2 hz hi hu
  by_cases e : f / 32 = s
  ·rw [e] at hz hi
   rw [if_pos ⟨hz, hi⟩] at h
   split at h
   ·cases h
   ·rename_i hn
    have := zci hn f (by omega) (by omega)
    simp [hu] at this
  ·split at h
   ·split at h
    ·cases h
    ·exact ih h f (by omega) (by omega) hz hi hu
   ·exact ih h f (by omega) (by omega) hz hi hu
theorem Yy {P : zm} {f : Nat} (h : P.next false = some f) : f < 1024 ∧ P.Y7 f = true ∧ P.use f = 1 := by
 unfold zm.next zm.run at h
 simp only [Bool.false_eq_true, if_false] at h
 obtain ⟨_, h2, h3, h4, h5⟩ := ja h
 exact ⟨by omega, by simp [zm.Y7, h3, h4, h5], h3⟩
theorem Qn {P : zm} (h : P.next false = none) : P.room = 0 := by
 unfold zm.next zm.run at h
 simp only [Bool.false_eq_true, if_false] at h
 unfold zm.room
 rw [List.countP_eq_zero]
 intro f hf ha
 simp at hf
 simp only [zm.Y7, decide_eq_true_eq] at ha
 exact zbr h f (by omega) (by omega) ha.2.1 ha.2.2 ha.1
theorem zf1 (t t' : Nat → Bool) (f n : Nat) (hf : f < n) (ht : t f = true) (ht' : t' f = false) (h : ∀ g, g ≠ f → t' g = t g) : (List.range n).countP t = (List.range n).countP t' + 1 := by
 induction n with
 | zero => omega
 | succ n ih =>
  rw [List.range_succ, List.countP_append, List.countP_append]
  by_cases e : f = n
  ·subst e
   have : (List.range f).countP t = (List.range f).countP t' := List.countP_congr fun g hg => by simp at hg; rw [h g (by omega)]
   rw [this]
   simp [ht, ht']
  ·rw [ih (by omega)]
   have : t' n = t n := h n (Ne.symm e)
   simp [List.countP_cons, this]
   omega
theorem zei {P : zm} {f u : Nat} (hf : f < 1024) (ha : P.Y7 f = true) (hu : u ≠ 1) : P.room = (P.set f u).room + 1 := by
 unfold zm.room
 refine zf1 _ _ f 1024 hf ha (by simp [zm.Y7, zm.set, hu]) fun g hg => by simp [zm.Y7, zm.set, hg]
structure xe (x : RPT) (N : List Nat → Option Nat) : Prop where
 tree : x8 x.R x.T N
 tab : ∀ f, f ∈ x.T.own → x.P.use f = 2
 good : ∀ f, f < 1024 → x.P.use f = 1 → x.R.bad f = false
structure jw (x y : RPT) : Prop where
 root : y.T.root = x.T.root
 bad : y.R.bad = x.R.bad
 bytes : ∀ g i, x.P.use g ≠ 1 → g ∉ x.T.own → y.R.b g i = x.R.b g i
 use : ∀ g, y.P.use g = if g ∈ y.T.own then 2 else if g ∈ x.T.own then 1 else x.P.use g
 zone : y.P.zone = x.P.zone
 iso : y.P.iso = x.P.iso
 new : ∀ g, g ∈ y.T.own → g ∈ x.T.own ∨ x.P.use g = 1
theorem jw.refl {x : RPT} (h : ∀ f, f ∈ x.T.own → x.P.use f = 2) : jw x x :=
 ⟨rfl, rfl, fun _ _ _ _ => rfl, fun g => by split; exact h g ‹_›; rfl, rfl, rfl, fun _ hg => .inl hg⟩
theorem jw.trans {x y z : RPT} (h : jw x y) (k : jw y z) : jw x z := by
 have key : ∀ g, x.P.use g ≠ 1 → g ∉ x.T.own → g ∉ y.T.own ∧ y.P.use g = x.P.use g := fun g h1 h2 => by
  have h3 : g ∉ y.T.own := fun e => (h.new g e).elim h2 h1
  exact ⟨h3, by rw [h.use, if_neg h3, if_neg h2]⟩
 refine ⟨k.root.trans h.root, k.bad.trans h.bad, fun g i h1 h2 => ?_, fun g => ?_, k.zone.trans h.zone, k.iso.trans h.iso, fun g hg => ?_⟩
 ·obtain ⟨h3, h4⟩ := key g h1 h2
  rw [k.bytes g i (by rw [h4]; exact h1) h3, h.bytes g i h1 h2]
 ·rw [k.use]
  by_cases e : g ∈ z.T.own
  ·rw [if_pos e, if_pos e]
  ·rw [if_neg e, if_neg e]
   by_cases e2 : g ∈ y.T.own
   ·rw [if_pos e2]
    by_cases e3 : g ∈ x.T.own
    ·rw [if_pos e3]
    ·rw [if_neg e3]; exact ((h.new g e2).resolve_left e3).symm
   ·rw [if_neg e2, h.use, if_neg e2]
 ·rcases k.new g hg with e | e
  ·exact h.new g e
  ·rw [h.use] at e
   by_cases e2 : g ∈ x.T.own
   ·exact .inl e2
   ·right
    split at e
    ·cases e
    ·first | exact e | (rw [if_neg e2] at e; exact e)
theorem xe.step {x y : RPT} {N N' : List Nat → Option Nat} (h : xe x N) (t : jw x y) (k : x8 y.R y.T N') : xe y N' := by
 refine ⟨k, fun f hf => by rw [t.use, if_pos hf], fun f hf hu => ?_⟩
 rw [t.bad]
 rw [t.use] at hu
 split at hu
 ·cases hu
 ·split at hu
  ·rename_i e
   obtain ⟨p, hp⟩ := (h.tree.own f).1 e
   exact (h.tree.lt p f hp).2.1
  ·exact h.good f hf hu
theorem xe.table {x : RPT} {N : List Nat → Option Nat} (h : xe x N) :
  (x.table = ((0, 4), x) ∧ x.P.room = 0) ∨ ∃ g, x.P.next false = some g ∧ g < 1024 ∧ x.P.use g = 1 ∧ x.R.bad g = false ∧ g ∉ x.T.own ∧ x.P.Y7 g = true ∧
   x.table = (((g : Int), 0), ⟨x.R.write g 0 (List.replicate 64 0), x.P.set g 2, ⟨x.T.root, x.T.own ++ [g]⟩⟩) := by
 unfold RPT.table
 cases hn : x.P.next false with
 | none => exact .inl ⟨rfl, Qn hn⟩
 | some g =>
  right
  obtain ⟨h1, h2, h3⟩ := Yy hn
  have h4 := h.good g h1 h3
  have h5 : g ∉ x.T.own := fun e => by have := h.tab g e; omega
  refine ⟨g, rfl, h1, h3, h4, h5, h2, ?_⟩
  have : ramE 1024 x.R (g : Int) 0 64 = 0 := V4 (n := 1024) (R := x.R) (f := g) (a := 0) (k := 64) h1 (by omega) h4
  simp only [this, if_true]
theorem xw (page k : Nat) (hk : k < 3) : (high page).take k ++ [digit page k] = (high page).take (k + 1) := by
 have : k = 0 ∨ k = 1 ∨ k = 2 := by omega
 rcases this with rfl | rfl | rfl <;> rfl
def Xv (N : List Nat → Option Nat) (page : Nat) (list : List Int) (k : Nat) : Prop := ∀ m, m ≤ k → ∃ f, N ((high page).take m) = some f ∧ list.getD m 0 = (f : Int)
theorem xe.uu {x : RPT} {N : List Nat → Option Nat} (h : xe x N) (page : Nat) (list : List Int) (k : Nat) (hk : k ≤ 3) (hw : Xv N page list k) :
  ∃ N', xe (RPT.uu page list k x) N' ∧ jw x (RPT.uu page list k x) ∧ (∀ pg, mapOf (RPT.uu page list k x).R N' pg = mapOf x.R N pg) ∧ ∀ g, g ∈ (RPT.uu page list k x).T.own → g ∈ x.T.own := by
 induction k generalizing x N with
 | zero => exact ⟨N, h, jw.refl h.tab, fun _ => rfl, fun _ h => h⟩
 | succ k ih =>
  unfold RPT.uu
  obtain ⟨g, hg, eg⟩ := hw (k + 1) (Nat.le_refl _)
  obtain ⟨f, hf, ef⟩ := hw k (by omega)
  rw [eg, ef]
  have qg := h.tree.lt _ _ hg
  have qf := h.tree.lt _ _ hf
  split
  ·rename_i he
   rw [Qv qg.1 qg.2.1] at he
   rw [← xw page k (by omega)] at hg
   have hd := z8 page k
   have c1 := h.tree.cut1 hf hd hg he
   have c2 := h.tree.zkc hf hd hg he
   have hfg : f ≠ g := fun e => by
    subst e
    have := congrArg List.length (h.tree.inj _ _ _ hf hg)
    simp at this
   have hgo : g ∈ x.T.own := (h.tree.own g).2 ⟨_, hg⟩
   have hfo : f ∈ x.T.own := (h.tree.own f).2 ⟨_, hf⟩
   have hu : x.P.used g = true := by
    unfold zm.used
    rw [decide_eq_true_eq, Int.toNat_natCast, h.tab g hgo]
    omega
   have e2 : x.drop g = ⟨x.R, x.P.set g 1, ⟨x.T.root, x.T.own.filter fun a => (a : Int) ≠ g⟩⟩ := by
    unfold RPT.drop zm.free
    rw [if_pos hu, Int.toNat_natCast]
   rw [e2]
   try simp only
   rw [V5 qf.1 qf.2.1 hd]
   have st : jw x ⟨x.R.write f (8 * digit page k) (leBytes 0 8), x.P.set g 1, ⟨x.T.root, x.T.own.filter fun a => (a : Int) ≠ g⟩⟩ := by
    refine ⟨rfl, rfl, fun a i h1 h2 => ?_, fun a => ?_, rfl, rfl, fun a ha => ?_⟩
    ·show (x.R.write f (8 * digit page k) (leBytes 0 8)).b a i = _
     rw [uk, if_neg]
     rintro ⟨rfl, _⟩
     exact h2 hfo
    ·show (if a = g then 1 else x.P.use a) = _
     simp only [List.mem_filter, decide_eq_true_eq]
     by_cases e : a = g
     ·subst e
      simp [hgo]
     ·rw [if_neg e]
      by_cases e2 : a ∈ x.T.own
      ·rw [if_pos ⟨e2, by omega⟩]; exact h.tab a e2
      ·rw [if_neg (fun e => e2 e.1), if_neg e2]
    ·exact .inl (List.mem_filter.1 ha).1
   have ok := h.step st c1
   obtain ⟨N', i1, i2, i3, i4⟩ := ih ok (by omega) (fun m hm => by
    obtain ⟨a, ha, ea⟩ := hw m (by omega)
    refine ⟨a, ?_, ea⟩
    rw [if_neg]
    ·exact ha
    ·rw [xw page k (by omega)]
     intro e
     have := congrArg List.length e
     simp [high] at this
     omega)
   exact ⟨N', i1, st.trans i2, fun pg => (i3 pg).trans (c2 pg), fun a ha => (List.mem_filter.1 (i4 a ha)).1⟩
  ·exact ⟨N, h, jw.refl h.tab, fun _ => rfl, fun _ h => h⟩
theorem jw.room {x y : RPT} (t : jw x y) (ht : ∀ f, f ∈ x.T.own → x.P.use f = 2) (h : ∀ g, g ∈ y.T.own → g ∈ x.T.own) : x.P.room ≤ y.P.room := by
 unfold zm.room
 refine List.countP_mono_left fun g _ ha => ?_
 simp only [zm.Y7, decide_eq_true_eq] at ha ⊢
 have h1 : g ∉ x.T.own := fun e => by have := ht g e; omega
 rw [t.use, if_neg (fun e => h1 (h g e)), if_neg h1, t.zone, t.iso]
 exact ha
theorem xe.yh {x : RPT} {N : List Nat → Option Nat} (h : xe x N) (page j : Nat) (list : List Int) (hj : j ≤ 3) (hl : list.length = 4 - j) (hw : Xv N page list (3 - j)) (hn : 0 < j → N ((high page).take (4 - j)) = none) :
  (∃ l N', RPT.yh page j list x = ((l, 0), (RPT.yh page j list x).2) ∧ l.length = 4 ∧ xe (RPT.yh page j list x).2 N' ∧ jw x (RPT.yh page j list x).2 ∧ Xv N' page l 3 ∧ (∀ pg, mapOf (RPT.yh page j list x).2.R N' pg = mapOf x.R N pg) ∧ x.P.room ≤ (RPT.yh page j list x).2.P.room + j) ∨
  (∃ N', RPT.yh page j list x = (([], 4), (RPT.yh page j list x).2) ∧ x.P.room < j ∧ xe (RPT.yh page j list x).2 N' ∧ jw x (RPT.yh page j list x).2 ∧ (∀ pg, mapOf (RPT.yh page j list x).2.R N' pg = mapOf x.R N pg) ∧ x.P.room ≤ (RPT.yh page j list x).2.P.room + j) := by
 induction j generalizing x N list with
 | zero => exact .inl ⟨list, N, rfl, hl, h, jw.refl h.tab, hw, fun _ => rfl, by show x.P.room ≤ x.P.room + 0; omega⟩
 | succ j ih =>
  rcases h.table with ⟨et, er⟩ | ⟨g, _, hg, hu, hb, ho, ha, et⟩
  ·right
   have e : RPT.yh page (j + 1) list x = (([], 4), x.prune page list) := by
    unfold RPT.yh
    simp only [et]
    rfl
   rw [e]
   obtain ⟨N', i1, i2, i3, i4⟩ := h.uu page list (list.length - 1) (by omega) (fun m hm => hw m (by omega))
   exact ⟨N', rfl, by omega, i1, i2, i3, by omega⟩
  ·obtain ⟨f, hf, ef⟩ := hw (3 - (j + 1)) (Nat.le_refl _)
   have qf := h.tree.lt _ _ hf
   have hd := z8 page (3 - (j + 1))
   have hno := hn (by omega)
   have e4 : 4 - (j + 1) = 3 - (j + 1) + 1 := by omega
   rw [e4, ← xw page _ (by omega)] at hno
   have elast : list.getLast?.getD 0 = (f : Int) := by
    rw [List.getLast?_eq_getElem?, hl, ← ef, List.getD_eq_getElem?_getD]
    congr 2
    omega
   have hpl : ((high page).take (3 - (j + 1))).length < 3 := by simp [high]; omega
   have g1 := h.tree.grow1 hf hpl hd hno hg hb ho
   have g2 := h.tree.zhx hf hpl hd hno ho hg
   have hfo : f ∈ x.T.own := (h.tree.own f).2 ⟨_, hf⟩
   have hfg : f ≠ g := fun e => ho (e ▸ hfo)
   have st : jw x ⟨(x.R.write g 0 (List.replicate 64 0)).write f (8 * digit page (3 - (j + 1))) (leBytes (g + 1) 8), x.P.set g 2, ⟨x.T.root, x.T.own ++ [g]⟩⟩ := by
    refine ⟨rfl, rfl, fun a i h1 h2 => ?_, fun a => ?_, rfl, rfl, fun a ha => ?_⟩
    ·show ((x.R.write g 0 (List.replicate 64 0)).write f _ _).b a i = _
     rw [uk, if_neg, uk, if_neg]
     ·rintro ⟨rfl, _⟩; exact h1 hu
     ·rintro ⟨rfl, _⟩; exact h2 hfo
    ·show (if a = g then 2 else x.P.use a) = _
     simp only [List.mem_append, List.mem_singleton]
     by_cases e : a = g
     ·simp [e]
     ·by_cases e2 : a ∈ x.T.own
      ·simp [e, e2, h.tab a e2]
      ·simp [e, e2]
    ·rcases List.mem_append.1 ha with ha | ha
     ·exact .inl ha
     ·simp at ha; subst ha; exact .inr hu
   have ok := h.step st g1
   have e : RPT.yh page (j + 1) list x = RPT.yh page j (list ++ [(g : Int)]) ⟨(x.R.write g 0 (List.replicate 64 0)).write f (8 * digit page (3 - (j + 1))) (leBytes (g + 1) 8), x.P.set g 2, ⟨x.T.root, x.T.own ++ [g]⟩⟩ := by
    conv => lhs; unfold RPT.yh
    simp only [et, if_true, elast, Int.toNat_natCast]
    rw [V5 (R := x.R.write g 0 (List.replicate 64 0)) qf.1 (by rw [Xy]; exact qf.2.1) hd]
   rw [e]
   have r2 := ih ok (list ++ [(g : Int)]) (by omega) (by simp [hl]; omega) (fun m hm => by
     by_cases em : m = 4 - (j + 1)
     ·refine ⟨g, ?_, ?_⟩
      ·rw [em, e4, ← xw page _ (by omega)]; exact if_pos rfl
      ·rw [List.getD_eq_getElem?_getD, List.getElem?_append_right (by omega), em, hl]; simp
     ·obtain ⟨a, ha, ea⟩ := hw m (by omega)
      refine ⟨a, ?_, ?_⟩
      ·refine (if_neg ?_).trans ha
       rw [xw page _ (by omega)]
       intro e
       have := congrArg List.length e
       simp [high] at this
       omega
      ·rw [List.getD_eq_getElem?_getD, List.getElem?_append_left (by omega), ← List.getD_eq_getElem?_getD]; exact ea)
    (fun hj => by
     refine (if_neg ?_).trans ?_
     rotate_left
     ·cases e5 : N ((high page).take (4 - j)) with
      | none => rfl
      | some a =>
       rw [show 4 - j = 4 - (j + 1) + 1 by omega, ← xw page _ (by omega)] at e5
       obtain ⟨b, hb⟩ := h.tree.par _ _ _ e5
       rw [e4, ← xw page _ (by omega), hno] at hb
       cases hb
     ·rw [xw page _ (by omega)]
      intro e
      have := congrArg List.length e
      simp [high] at this
      omega)
   have hr := zei (u := 2) hg ha (by decide)
   rcases r2 with ⟨l, N', i1, i2, i3, i4, i5, i6, i7⟩ | ⟨N', i1, i2, i3, i4, i5, i6⟩
   ·refine .inl ⟨l, N', i1, i2, i3, st.trans i4, i5, fun pg => (i6 pg).trans (g2 pg), ?_⟩
    simp only at i7
    omega
   ·right
    simp only at i2 i6
    exact ⟨N', i1, by omega, i3, st.trans i4, fun pg => (i5 pg).trans (g2 pg), by omega⟩
theorem xe.setLast {x : RPT} {N : List Nat → Option Nat} (h : xe x N) {page : Nat} (hpage : page < 4096) {list : List Int} (hl : list.length = 4) (hw : Xv N page list 3) {e : Ent} (he : e.ok = true) :
  ∃ N', (x.setLast page list e.num).1 = 0 ∧ xe (x.setLast page list e.num).2 N' ∧ jw x (x.setLast page list e.num).2 ∧ (∀ pg, pg < 4096 → mapOf (x.setLast page list e.num).2.R N' pg = if pg = page then e else mapOf x.R N pg) ∧ ∀ g, g ∈ (x.setLast page list e.num).2.T.own → g ∈ x.T.own := by
 obtain ⟨f, hf, ef⟩ := hw 3 (Nat.le_refl _)
 have hf' : N (high page) = some f := hf
 have qf := h.tree.lt _ _ hf
 have hfo : f ∈ x.T.own := (h.tree.own f).2 ⟨_, hf⟩
 have c1 := h.tree.zhj hf' (by simp [high]) (z8 page 3) he
 have c2 := h.tree.zdr hpage hf' he
 have st : jw x ⟨x.R.write f (8 * digit page 3) (leBytes e.num 8), x.P, x.T⟩ := by
  refine ⟨rfl, rfl, fun a i h1 h2 => ?_, fun a => ?_, rfl, rfl, fun a ha => .inl ha⟩
  ·show (x.R.write f _ _).b a i = _
   rw [uk, if_neg]
   rintro ⟨rfl, _⟩; exact h2 hfo
  ·show x.P.use a = _
   by_cases e2 : a ∈ x.T.own
   ·rw [if_pos e2]; exact h.tab a e2
   ·rw [if_neg e2, if_neg e2]
 have ok := h.step st c1
 obtain ⟨N', i1, i2, i3, i4⟩ := ok.uu page list 3 (by omega) hw
 have e1 : x.setLast page list e.num = (0, RPT.uu page list 3 ⟨x.R.write f (8 * digit page 3) (leBytes e.num 8), x.P, x.T⟩) := by
  unfold RPT.setLast RPT.prune
  rw [ef, hl, za4 qf.1 qf.2.1 (z8 _ _), V5 qf.1 qf.2.1 (z8 _ _)]
  rfl
 rw [e1]
 exact ⟨N', rfl, i1, st.trans i2, fun pg hpg => (i3 pg).trans (c2 pg hpg), i4⟩
theorem V3 {R : RamS} {T : Zn} {N : List Nat → Option Nat} (h : x8 R T N) (page : Nat) :
  1 ≤ (wayN N T.root page).length ∧ (wayN N T.root page).length ≤ 4 ∧ Xv N page (wayN N T.root page) ((wayN N T.root page).length - 1) ∧ ((wayN N T.root page).length < 4 → N ((high page).take (wayN N T.root page).length) = none) ∧ ((wayN N T.root page).length = 4 ↔ (N (high page)).isSome = true) := by
 have hroot := h.root
 have up1 : N [digit page 0] = none → N [digit page 0, digit page 1] = none := fun h1 => by
  cases e : N [digit page 0, digit page 1] with
  | none => rfl
  | some g => obtain ⟨f, hf⟩ := h.par [digit page 0] (digit page 1) g e; rw [hf] at h1; cases h1
 have up2 : N [digit page 0, digit page 1] = none → N [digit page 0, digit page 1, digit page 2] = none := fun h1 => by
  cases e : N [digit page 0, digit page 1, digit page 2] with
  | none => rfl
  | some g => obtain ⟨f, hf⟩ := h.par [digit page 0, digit page 1] (digit page 2) g e; rw [hf] at h1; cases h1
 have t0 : (high page).take 0 = [] := rfl
 have t1 : (high page).take 1 = [digit page 0] := rfl
 have t2 : (high page).take 2 = [digit page 0, digit page 1] := rfl
 have t3 : (high page).take 3 = [digit page 0, digit page 1, digit page 2] := rfl
 unfold wayN
 cases h1 : N [digit page 0] with
 | none =>
  refine ⟨by simp, by simp, fun m hm => ?_, fun _ => by simpa [t1] using h1, by simp [high, up2 (up1 h1)]⟩
  obtain rfl : m = 0 := by simpa using hm
  exact ⟨T.root, by rw [t0]; exact hroot, rfl⟩
 | some f1 =>
  cases h2 : N [digit page 0, digit page 1] with
  | none =>
   refine ⟨by simp, by simp, fun m hm => ?_, fun _ => by simpa [t2] using h2, by simp [high, up2 h2]⟩
   simp at hm
   have : m = 0 ∨ m = 1 := by omega
   rcases this with rfl | rfl
   ·exact ⟨T.root, by rw [t0]; exact hroot, rfl⟩
   ·exact ⟨f1, by rw [t1]; exact h1, rfl⟩
  | some f2 =>
   cases h3 : N [digit page 0, digit page 1, digit page 2] with
   | none =>
    refine ⟨by simp, by simp, fun m hm => ?_, fun _ => by simpa [t3] using h3, by simp [high, h3]⟩
    simp at hm
    have : m = 0 ∨ m = 1 ∨ m = 2 := by omega
    rcases this with rfl | rfl | rfl
    ·exact ⟨T.root, by rw [t0]; exact hroot, rfl⟩
    ·exact ⟨f1, by rw [t1]; exact h1, rfl⟩
    ·exact ⟨f2, by rw [t2]; exact h2, rfl⟩
   | some f3 =>
    refine ⟨by simp, by simp, fun m hm => ?_, fun hl => by simp at hl, by simp [high, h3]⟩
    simp at hm
    have : m = 0 ∨ m = 1 ∨ m = 2 ∨ m = 3 := by omega
    rcases this with rfl | rfl | rfl | rfl
    ·exact ⟨T.root, by rw [t0]; exact hroot, rfl⟩
    ·exact ⟨f1, by rw [t1]; exact h1, rfl⟩
    ·exact ⟨f2, by rw [t2]; exact h2, rfl⟩
    ·exact ⟨f3, by rw [t3]; exact h3, rfl⟩
theorem xe.set {x : RPT} {N : List Nat → Option Nat} (h : xe x N) {page : Nat} (hpage : page < 4096) {e : Ent} (he : e.ok = true) :
    (∃ N', (x.set page e).1 = 0 ∧ xe (x.set page e).2 N' ∧ jw x (x.set page e).2 ∧ (∀ pg, pg < 4096 → mapOf (x.set page e).2.R N' pg = if pg = page then e else mapOf x.R N pg) ∧ x.P.room ≤ (x.set page e).2.P.room + 3 ∧
      ((N (high page)).isSome = true ∨ e = Ent.none → x.P.room ≤ (x.set page e).2.P.room ∧ ∀ g, g ∈ (x.set page e).2.T.own → g ∈ x.T.own)) ∨
    (∃ N', (x.set page e).1 = 4 ∧ x.P.room < 3 ∧ N (high page) = none ∧ e ≠ Ent.none ∧ xe (x.set page e).2 N' ∧ jw x (x.set page e).2 ∧ (∀ pg, mapOf (x.set page e).2.R N' pg = mapOf x.R N pg) ∧ x.P.room ≤ (x.set page e).2.P.room + 3) := by
  have hm : x.T.may page = 0 := by
    unfold Zn.may
    rw [if_neg (by omega), if_neg h.tree.own_ne]
  obtain ⟨w1, w2, w3, w4, w5⟩ := V3 h.tree page
  have hway := h.tree.way page
  have e0 : x.set page e = if (wayN N x.T.root page).length < 4 then
          if e.num = 0 then (0, x) else
          let g := RPT.yh page (4 - (wayN N x.T.root page).length) (wayN N x.T.root page) x
          if g.1.2 = 0 then g.2.setLast page g.1.1 e.num else (g.1.2, g.2)
        else x.setLast page (wayN N x.T.root page) e.num := by
    unfold RPT.set
    rw [if_pos hm, if_pos he]
    simp only [Int.toNat_natCast, hway]
    rfl
  generalize wayN N x.T.root page = l at w1 w2 w3 w4 w5 e0
  by_cases hl : l.length < 4
  · have hnone : N (high page) = none := by
      cases e5 : N (high page) with
      | none => rfl
      | some a => rw [e5] at w5; simp at w5; omega
    rw [if_pos hl] at e0
    by_cases hz : e.num = 0
    · rw [if_pos hz] at e0
      rw [e0]
      have e6 := (Ent.zay he).1 hz
      refine .inl ⟨N, rfl, h, jw.refl h.tab, fun pg hpg => ?_, by simp, fun _ => ⟨Nat.le_refl _, fun _ h => h⟩⟩
      split
      · rename_i e7
        rw [e7, e6]
        unfold mapOf
        rw [hnone]
      · rfl
    · rw [if_neg hz] at e0
      have hne : e ≠ Ent.none := fun e6 => hz ((Ent.zay he).2 e6)
      rcases h.yh page (4 - l.length) l (by omega) (by omega) (by rw [show 3 - (4 - l.length) = l.length - 1 by omega]; exact w3) (fun _ => by rw [show 4 - (4 - l.length) = l.length by omega]; exact w4 hl) with ⟨l', N', i1, i2, i3, i4, i5, i6, i7⟩ | ⟨N', i1, i2, i3, i4, i5, i6⟩
      · left
        have e1 : x.set page e = (RPT.yh page (4 - l.length) l x).2.setLast page l' e.num := by
          rw [e0]
          try simp only
          rw [i1]
          rfl
        rw [e1]
        obtain ⟨N2, j1, j2, j3, j4, j5⟩ := i3.setLast hpage i2 i5 he
        refine ⟨N2, j1, j2, i4.trans j3, fun pg hpg => ?_, ?_, fun hs => ?_⟩
        · rw [j4 pg hpg, i6]
        · have := j3.room i3.tab j5
          omega
        · rcases hs with hs | hs
          · rw [hnone] at hs; cases hs
          · exact (hne hs).elim
      · right
        have e1 : x.set page e = (4, (RPT.yh page (4 - l.length) l x).2) := by
          rw [e0]
          try simp only
          rw [i1]
          rfl
        rw [e1]
        exact ⟨N', rfl, by omega, hnone, hne, i3, i4, i5, by simp only; omega⟩
  · rw [if_neg hl] at e0
    rw [e0]
    obtain ⟨N2, j1, j2, j3, j4, j5⟩ := h.setLast (list := l) hpage (by omega) (by rw [show (3 : Nat) = l.length - 1 by omega]; exact w3) he
    have := j3.room h.tab j5
    exact .inl ⟨N2, j1, j2, j3, j4, by omega, fun _ => ⟨this, j5⟩⟩
def Zq (P : zm) (fs : Nat) : List Value := (List.range 64).map fun j => Zb P fs (1025 + j)
theorem zmu (P : zm) (fs k : Nat) (hk : k < 32) : (Zq P fs)[k * 2]? = some (.int .i64 (P.zone k)) ∧ (Zq P fs)[k * 2 + 1]? = some (.bool (P.iso k)) := by
 unfold Zq
 rw [List.getElem?_map, List.getElem?_range (by omega), List.getElem?_map, List.getElem?_range (by omega)]
 simp only [Option.map_some, Zb]
 rw [if_neg (by omega), if_neg (by omega), if_pos (by omega), if_neg (by omega), if_neg (by omega), if_neg (by omega), show (1025 + k * 2 - 1025) / 2 = k by omega, show (1025 + (k * 2 + 1) - 1025) / 2 = k by omega]
 exact ⟨rfl, rfl⟩
theorem zfu (V : List Value) (k : Nat) (a b : Value) (hk : k < 32) (ha : V[k * 2]? = some a) (hb : V[k * 2 + 1]? = some b) (W : World) : (Instr.index 163 (.agg V.toArray) (.int .i64 k)).run Tryz.prog W = .ok (.agg #[a, b]) W := by
 have z := Tryz.sizeOf162
 have g := Tryz.isAgg162
 have h0 : (0 : Int) ≤ k := by omega
 have h1 : (k : Int) < 32 := by omega
 have hx : List.take 2 (List.drop (k * 2) V) = [a, b] := by
  refine List.ext_getElem? fun j => ?_
  by_cases hj : j < 2
  ·rw [List.getElem?_take_of_lt hj, List.getElem?_drop]
   have : j = 0 ∨ j = 1 := by omega
   rcases this with rfl | rfl
   ·simpa using ha
   ·simpa using hb
  ·rw [List.getElem?_eq_none (by simp; omega), List.getElem?_eq_none (by simp; omega)]
 simp [Instr.index, run_underlying Tryz.underlying163, asIntOf, part, h0, z, g]
 rw [if_pos hk, hx]
theorem zgy : (Tryz.prog.info? 163).map (·.size) = some 64 := by kernel_rfl
theorem zbq (P : zm) (z k : Nat) (hk : k < 32) : P.runFrom z k (32 - k) = if P.zone k = z ∧ P.iso k = false then (match P.zhs k with | some f => some f | none => P.runFrom z (k + 1) (32 - (k + 1))) else P.runFrom z (k + 1) (32 - (k + 1)) := by
 rw [show 32 - k = 32 - (k + 1) + 1 by omega]
 rfl
theorem prun_walk (w : World) (O : Nat → Prop) (p fs fb : Nat) (P : zm) (h : yf w O p fs fb P) (zi : Int) (z : Nat) (ez : zi = z) :
  Calls Tryz.prog 105 #[.pointer (some ⟨p, 0, none⟩), .int .i64 0, .int .i64 zi] w fun e w' => e = .returned (runV (P.run z)) ∧ Below w.heap.size w w' := by
 subst ez
 obtain ⟨V, hV⟩ : ∃ V, Zq P fs = V := ⟨_, rfl⟩
 have hr : w.rangeAt p 1025 V := fun j v hv => by
  have hj : j < 64 := by have := (List.getElem?_eq_some_iff.1 hv).1; rw [← hV] at this; simpa [Zq] using this
  rw [h.r1.cell (by omega), ← hv, ← hV]
  simp [Zq, hj]
 have hi : (Tryz.prog.info? 163).map (·.size) = some V.length := by
  have : V.length = 64 := by rw [← hV]; simp [Zq]
  rw [this]; exact zgy
 have hat := fun k hk => zmu P fs k hk
 rw [hV] at hat
 have HAT := Lib.hid hat
 have HR := Lib.hid hr
 have HI := Lib.hid hi
 have HP := Lib.hid h
 have hp := h.r1.lt
 have hptr := h.ptr
 clear h hV hr hi hat
 go_enter Tryz.func105, Tryz.ntmps105
 go_wp2_with (refine wpList_load_mid rfl 163 (.tmp 16) rfl p 1025 rfl V _ HR.out Tryz.underlying163 rfl HI.out ?_)
 go_loopw [18] (fun i W => ∃ k : Nat, k ≤ 32 ∧ i = .int .i64 k ∧ Hid (Below w.heap.size w W) ∧ Hid (P.run z = P.runFrom z k (32 - k))) (fun i _ => 32 - (intOf i).toNat)
 case atStart => exact ⟨0, by omega, rfl, Below.refl _ _, rfl⟩
 case round =>
  obtain ⟨k, hk, rfl, hB, hF⟩ := hrel
  by_cases hlt : k < 32
  ·have h1 : (k : Int) < 32 := by omega
   have h2 : (0 : Int) ≤ k := by omega
   have hidx := zfu V k _ _ hlt (HAT.out k hlt).1 (HAT.out k hlt).2
   have hstep := zbq P z k hlt
   have hpw : wr.cell? ⟨p, 1024, none⟩ = some (.pointer (some ⟨fs, 0, none⟩)) := (hB.out.cell (World.block_lt_of_cell? _ _ hptr)).trans hptr
   have hpl : p < wr.heap.size := Nat.lt_of_lt_of_le hp hB.out.size
   by_cases hz : P.zone k = z
   ·by_cases hiso : P.iso k = false
    ·rw [if_pos ⟨hz, hiso⟩] at hstep
     have e1 : ((P.zone k : Int) != (z : Int)) = false := by rw [hz]; simp
     rw [hiso] at hidx
     have HS := Lib.hid hstep
     clear hstep hz hiso
     go_wp2_with fail
     refine (Xw _ _ k rfl hlt).mono ?_
     rintro e w3 ⟨rfl, rfl⟩
     go_wp2_with fail
     have hB2 := Lib.hid (hB.out.trans (((Below.refl wr.heap.size wr).alloc (Nat.le_refl _) (.cells #[.int .i64 (P.zone k), .bool false] 162 (0, 0))).mono hB.out.size))
     refine (zkk _ fs fb P (HP.out.r2.below hB2.out) (HP.out.r3.below hB2.out) (32 * k) (by omega) _ _ (by omega) (by omega)).mono ?_
     rintro e w4 ⟨rfl, hb4⟩
     have hB4 := Lib.hid (hB2.out.trans (hb4.mono hB2.out.size))
     clear hb4
     cases hin : P.zhs k with
     | some f =>
      have hin' : uf (fun f => P.use f == 1) (32 * k) 32 = some f := hin
      have hres : Hid (P.run z = some f) := by show _ = _; rw [hF.out, HS.out, hin]
      rw [hin']
      clear hin hin' HS
      unfold runV
      go_wp2_with fail
      exact bodyPost_ret (v := runV (some f)) (by simp [results, Tryz.results105, go_sem, runV]) rfl ⟨by rw [hres.out], hB4.out⟩
     | none =>
      have hin' : uf (fun f => P.use f == 1) (32 * k) 32 = none := hin
      have hres : Hid (P.run z = P.runFrom z (k + 1) (32 - (k + 1))) := by show _ = _; rw [hF.out, HS.out, hin]
      rw [hin']
      clear hin hin' HS
      unfold runV
      go_wp2_with fail
      go_roundw
      case rel => exact ⟨k + 1, by omega, by go_num, hB4, hres⟩
      case measure => simp [intOf]; omega
    ·rw [if_neg (fun e => hiso e.2)] at hstep
     have hres : Hid (P.run z = P.runFrom z (k + 1) (32 - (k + 1))) := by show _ = _; rw [hF.out, hstep]
     have e1 : ((P.zone k : Int) != (z : Int)) = false := by rw [hz]; simp
     have hiso' : P.iso k = true := by simpa using hiso
     rw [hiso'] at hidx
     clear hstep hz hiso hiso'
     have hB2 := Lib.hid (hB.out.trans (((Below.refl wr.heap.size wr).alloc (Nat.le_refl _) (.cells #[.int .i64 (P.zone k), .bool true] 162 (0, 0))).mono hB.out.size))
     go_wp2_with fail
     go_roundw
     case rel => exact ⟨k + 1, by omega, by go_num, hB2, hres⟩
     case measure => simp [intOf]; omega
   ·rw [if_neg (fun e => hz e.1)] at hstep
    have hres : Hid (P.run z = P.runFrom z (k + 1) (32 - (k + 1))) := by show _ = _; rw [hF.out, hstep]
    have e1 : ((P.zone k : Int) != (z : Int)) = true := by rw [bne_iff_ne]; omega
    clear hstep hz
    have hB2 := Lib.hid (hB.out.trans (((Below.refl wr.heap.size wr).alloc (Nat.le_refl _) (.cells #[.int .i64 (P.zone k), .bool (P.iso k)] 162 (0, 0))).mono hB.out.size))
    go_wp2_with fail
    go_roundw
    case rel => exact ⟨k + 1, by omega, by go_num, hB2, hres⟩
    case measure => simp [intOf]; omega
  ·obtain rfl : k = 32 := by omega
   have hres : Hid (P.run z = none) := by show _ = _; rw [hF.out]; rfl
   go_wp2_with fail
   exact bodyPost_ret (v := runV none) (by simp [results, Tryz.results105, go_sem, runV]) rfl ⟨by rw [hres.out], hB.out⟩
def zi0 (O : Nat → Prop) (w : World) (p fs fb : Nat) (P Q : zm) (k : Value) (W : World) : Prop := (k = .int .i64 0 ∧ yf W O p fs fb P ∧ Turn O w W) ∨ (k = .int .i64 1 ∧ yf W O p fs fb Q ∧ Turn O w W)
def Z4 : Option Nat → Value
 | some f => .tuple #[.int .i64 f, .int .i64 0]
 | none => .tuple #[.int .i64 0, .int .i64 4]
def zm.took (P : zm) (u : Nat) : Option Nat → zm
 | .some f => P.set f u
 | .none => P
theorem Ja (w : World) (O : Nat → Prop) (p fs fb : Nat) (P : zm) (h : yf w O p fs fb P) (ui : Int) (u : Nat) (eu : ui = u) (h2 : 2 ≤ u) (h5 : u ≤ 5) :
  Calls Tryz.prog 43 #[.pointer (some ⟨p, 0, none⟩), .int .i64 ui, .int .i64 0, .bool true] w fun e w' => e = .returned (Z4 (P.next true)) ∧ yf w' O p fs fb (P.took u (P.next true)) ∧ Turn O w w' ∧ (P.next true = none → Below w.heap.size w w') := by
 subst eu
 have i2 : ¬ (u : Int) < 2 := by omega
 have i5 : ¬ (5 : Int) < u := by omega
 have HP := Lib.hid h
 clear h
 go_enter Tryz.func43, Tryz.ntmps43
 go_wp2_with fail
 go_loopw [41] (fun i W => ∃ j : Nat, j ≤ 2 ∧ i = .int .i64 j ∧ Hid (Below w.heap.size w W) ∧ W.cell? ⟨w.heap.size, 0, none⟩ = some (.int .i64 3) ∧ W.cell? ⟨w.heap.size, 1, none⟩ = some (.int .i64 2) ∧ Hid ((1 ≤ j → P.run 3 = none) ∧ (2 ≤ j → P.run 2 = none))) (fun i _ => 2 - (intOf i).toNat)
 case atStart => exact ⟨0, by omega, rfl, (Below.refl _ _).alloc (Nat.le_refl _) _, by go_simp, by go_simp, by omega, by omega⟩
 case round =>
  obtain ⟨j, hj, rfl, hB, c0, c1, hN⟩ := hrel
  have hj' : j = 0 ∨ j = 1 ∨ j = 2 := by omega
  clear hj
  rcases hj' with rfl | rfl | rfl
  ·go_wp2_with fail
   refine (prun_walk _ O p fs fb P (HP.out.below hB.out) _ 3 rfl).mono ?_
   rintro e w3 ⟨rfl, hb3⟩
   have hB3 := Lib.hid (hB.out.trans (hb3.mono hB.out.size))
   have hlt := World.block_lt_of_cell? _ _ c0
   have d0 := (hb3.cell hlt).trans c0
   have d1 := (hb3.cell (World.block_lt_of_cell? _ _ c1)).trans c1
   clear hb3 c0 c1
   cases hr : P.run 3 with
   | some f =>
    have hnext : Hid (P.next true = some f) := by show _ = _; unfold zm.next; rw [if_pos rfl, hr]
    have hf : f < 1024 := by have := (ja hr).2.1; omega
    clear hr
    unfold runV
    go_wp2_with fail
    go_loopw [55] (zi0 O w p fs fb P (P.set f u)) (fun k _ => 1 - (intOf k).toNat)
    case atStart => exact .inl ⟨rfl, HP.out.below hB3.out, Turn.of_below hB3.out⟩
    case round =>
     rcases hrel with ⟨rfl, q1, q2⟩ | ⟨rfl, q1, q2⟩
     ·have S := Lib.hid (set_walk _ O p fs fb P q1 f u f u rfl rfl hf)
      have Q2 := Lib.hid q2
      clear q1 q2
      go_wp2_with fail
      refine S.out.mono ?_
      rintro e w5 ⟨rfl, g1, g2⟩
      have G := Lib.hid (And.intro g1 g2)
      clear g1 g2
      go_wp2_with fail
      go_roundw
      case rel => exact .inr ⟨rfl, G.out.1, Q2.out.trans G.out.2⟩
      case measure => simp [intOf]
     ·have Q := Lib.hid (And.intro q1 q2)
      clear q1 q2
      go_wp2_with fail
      exact bodyPost_ret (v := Z4 (some f)) (by simp [results, Tryz.results43, go_sem, Z4]) rfl ⟨by rw [hnext.out], by rw [hnext.out]; exact Q.out.1, Q.out.2, fun e => by rw [hnext.out] at e; cases e⟩
   | none =>
    have hres := Lib.hid hr
    clear hr
    unfold runV
    go_wp2_with fail
    go_roundw
    case rel => exact ⟨1, by omega, by go_num, hB3, d0, d1, fun _ => hres.out, by omega⟩
    case measure => simp [intOf]
  ·go_wp2_with fail
   refine (prun_walk _ O p fs fb P (HP.out.below hB.out) _ 2 rfl).mono ?_
   rintro e w3 ⟨rfl, hb3⟩
   have hB3 := Lib.hid (hB.out.trans (hb3.mono hB.out.size))
   have d0 := (hb3.cell (World.block_lt_of_cell? _ _ c0)).trans c0
   have d1 := (hb3.cell (World.block_lt_of_cell? _ _ c1)).trans c1
   clear hb3 c0 c1
   cases hr : P.run 2 with
   | some f =>
    have hnext : Hid (P.next true = some f) := by show _ = _; unfold zm.next; rw [if_pos rfl, hN.out.1 (by omega)]; exact hr
    have hf : f < 1024 := by have := (ja hr).2.1; omega
    clear hr
    unfold runV
    go_wp2_with fail
    go_loopw [55] (zi0 O w p fs fb P (P.set f u)) (fun k _ => 1 - (intOf k).toNat)
    case atStart => exact .inl ⟨rfl, HP.out.below hB3.out, Turn.of_below hB3.out⟩
    case round =>
     rcases hrel with ⟨rfl, q1, q2⟩ | ⟨rfl, q1, q2⟩
     ·have S := Lib.hid (set_walk _ O p fs fb P q1 f u f u rfl rfl hf)
      have Q2 := Lib.hid q2
      clear q1 q2
      go_wp2_with fail
      refine S.out.mono ?_
      rintro e w5 ⟨rfl, g1, g2⟩
      have G := Lib.hid (And.intro g1 g2)
      clear g1 g2
      go_wp2_with fail
      go_roundw
      case rel => exact .inr ⟨rfl, G.out.1, Q2.out.trans G.out.2⟩
      case measure => simp [intOf]
     ·have Q := Lib.hid (And.intro q1 q2)
      clear q1 q2
      go_wp2_with fail
      exact bodyPost_ret (v := Z4 (some f)) (by simp [results, Tryz.results43, go_sem, Z4]) rfl ⟨by rw [hnext.out], by rw [hnext.out]; exact Q.out.1, Q.out.2, fun e => by rw [hnext.out] at e; cases e⟩
   | none =>
    have hres := Lib.hid hr
    clear hr
    unfold runV
    go_wp2_with fail
    go_roundw
    case rel => exact ⟨2, by omega, by go_num, hB3, d0, d1, fun _ => hN.out.1 (by omega), fun _ => hres.out⟩
    case measure => simp [intOf]
  ·have hnext : Hid (P.next true = none) := by show _ = _; unfold zm.next; rw [if_pos rfl, hN.out.1 (by omega)]; exact hN.out.2 (by omega)
   go_wp2_with fail
   exact bodyPost_ret (v := Z4 none) (by simp [results, Tryz.results43, go_sem, Z4]) rfl ⟨by rw [hnext.out], by rw [hnext.out]; exact HP.out.below hB.out, Turn.of_below hB.out, fun _ => hB.out⟩
theorem zc2 (w : World) (O : Nat → Prop) (p fs fb : Nat) (P : zm) (h : yf w O p fs fb P) (ui : Int) (u : Nat) (eu : ui = u) (h2 : 2 ≤ u) (h5 : u ≤ 5) :
  Calls Tryz.prog 43 #[.pointer (some ⟨p, 0, none⟩), .int .i64 ui, .int .i64 0, .bool false] w fun e w' => e = .returned (Z4 (P.next false)) ∧ yf w' O p fs fb (P.took u (P.next false)) ∧ Turn O w w' ∧ (P.next false = none → Below w.heap.size w w') := by
 subst eu
 have i2 : ¬ (u : Int) < 2 := by omega
 have i5 : ¬ (5 : Int) < u := by omega
 have HP := Lib.hid h
 clear h
 go_enter Tryz.func43, Tryz.ntmps43
 go_wp2_with fail
 go_loopw [41] (fun i W => ∃ j : Nat, j ≤ 1 ∧ i = .int .i64 j ∧ Hid (Below w.heap.size w W) ∧ W.cell? ⟨w.heap.size, 1, none⟩ = some (.int .i64 2) ∧ Hid (1 ≤ j → P.run 2 = none)) (fun i _ => 1 - (intOf i).toNat)
 case atStart => exact ⟨0, by omega, rfl, (Below.refl _ _).alloc (Nat.le_refl _) _, by go_simp, by show _ → _; omega⟩
 case round =>
  obtain ⟨j, hj, rfl, hB, c1, hN⟩ := hrel
  have hj' : j = 0 ∨ j = 1 := by omega
  clear hj
  rcases hj' with rfl | rfl
  ·go_wp2_with fail
   refine (prun_walk _ O p fs fb P (HP.out.below hB.out) _ 2 rfl).mono ?_
   rintro e w3 ⟨rfl, hb3⟩
   have hB3 := Lib.hid (hB.out.trans (hb3.mono hB.out.size))
   have d1 := (hb3.cell (World.block_lt_of_cell? _ _ c1)).trans c1
   clear hb3 c1
   cases hr : P.run 2 with
   | some f =>
    have hnext : Hid (P.next false = some f) := by show _ = _; unfold zm.next; exact hr
    have hf : f < 1024 := by have := (ja hr).2.1; omega
    clear hr
    unfold runV
    go_wp2_with fail
    go_loopw [55] (zi0 O w p fs fb P (P.set f u)) (fun k _ => 1 - (intOf k).toNat)
    case atStart => exact .inl ⟨rfl, HP.out.below hB3.out, Turn.of_below hB3.out⟩
    case round =>
     rcases hrel with ⟨rfl, q1, q2⟩ | ⟨rfl, q1, q2⟩
     ·have S := Lib.hid (set_walk _ O p fs fb P q1 f u f u rfl rfl hf)
      have Q2 := Lib.hid q2
      clear q1 q2
      go_wp2_with fail
      refine S.out.mono ?_
      rintro e w5 ⟨rfl, g1, g2⟩
      have G := Lib.hid (And.intro g1 g2)
      clear g1 g2
      go_wp2_with fail
      go_roundw
      case rel => exact .inr ⟨rfl, G.out.1, Q2.out.trans G.out.2⟩
      case measure => simp [intOf]
     ·have Q := Lib.hid (And.intro q1 q2)
      clear q1 q2
      go_wp2_with fail
      exact bodyPost_ret (v := Z4 (some f)) (by simp [results, Tryz.results43, go_sem, Z4]) rfl ⟨by rw [hnext.out], by rw [hnext.out]; exact Q.out.1, Q.out.2, fun e => by rw [hnext.out] at e; cases e⟩
   | none =>
    have hres := Lib.hid hr
    clear hr
    unfold runV
    go_wp2_with fail
    go_roundw
    case rel => exact ⟨1, by omega, by go_num, hB3, d1, fun _ => hres.out⟩
    case measure => simp [intOf]
  ·have hnext : Hid (P.next false = none) := by show _ = _; unfold zm.next; exact hN.out (by omega)
   go_wp2_with fail
   exact bodyPost_ret (v := Z4 none) (by simp [results, Tryz.results43, go_sem, Z4]) rfl ⟨by rw [hnext.out], by rw [hnext.out]; exact HP.out.below hB.out, Turn.of_below hB.out, fun _ => hB.out⟩
theorem Jn (w : World) (a : Option Addr) (m c : Nat) (ai ni : Int) (at_ n : Nat) (ea : ai = at_) (en : ni = n) (hn : n ≤ 8) (h : at_ + n ≤ m) (hm : m ≤ 100000) :
  Calls Tryz.prog 190 #[.slice a m c, .int .i64 ai, .int .i64 ni] w fun e w' => e = .returned (.bool true) ∧ w' = w := by
 subst ea; subst en
 have i1 : (0 : Int) ≤ n := by omega
 have i2 : (n : Int) ≤ 8 := by omega
 have i3 : (0 : Int) ≤ at_ := by omega
 have i4 : (at_ : Int) ≤ m := by omega
 have i5 : (n : Int) ≤ (m : Int) - at_ := by omega
 have i6 : at_ ≤ m := by omega
 have i8 : (m : Int) ≤ 100000 := by omega
 have i7 : n ≤ m - at_ := by omega
 go_enter Tryz.func190, Tryz.ntmps190
 go_wp2_with fail
 go_ret
 exact ⟨rfl, rfl⟩
theorem zm0 (x y j : Nat) (hx : x < 256 ^ j) (hy : y < 256) (hj : j < 8) : bits .or .u64 (x : Int) (IntKind.u64.wrap (IntKind.u64.wrap (y : Int) * 2 ^ (8 * j))) = ((x + y * 256 ^ j : Nat) : Int) := by
  have e256 : (256 : Nat) ^ j = 2 ^ (8 * j) := by rw [Nat.pow_mul]
  have hp : (2 : Nat) ^ (8 * j) * 256 ≤ 2 ^ 64 := by
    rw [show (256 : Nat) = 2 ^ 8 from rfl, ← Nat.pow_add]
    exact Nat.pow_le_pow_right (by decide) (by omega)
  have hyl : y * 2 ^ (8 * j) < 18446744073709551616 := by
    have h1 : y * 2 ^ (8 * j) + 2 ^ (8 * j) ≤ 2 ^ (8 * j) * 256 := by
      rw [← Nat.succ_mul, Nat.mul_comm]
      exact Nat.mul_le_mul_left _ hy
    have : 0 < (2 : Nat) ^ (8 * j) := Nat.pow_pos (by decide)
    omega
  have e1 : IntKind.u64.wrap (y : Int) = y := by rw [IntKind.wrap_u64]; omega
  have e2 : IntKind.u64.wrap ((y : Int) * 2 ^ (8 * j)) = ((y * 2 ^ (8 * j) : Nat) : Int) := by
    rw [show ((y : Int) * 2 ^ (8 * j)) = ((y * 2 ^ (8 * j) : Nat) : Int) by push_cast; rfl, IntKind.wrap_u64]
    omega
  rw [e1, e2, e256]
  rw [e256] at hx
  have hx2 : x < 18446744073709551616 := by
    have : (2 : Nat) ^ (8 * j) ≤ 2 ^ 64 := by have : 0 < (2 : Nat) ^ (8 * j) := Nat.pow_pos (by decide)
                                              omega
    omega
  rw [u64_or_nat _ _ hx2 hyl]
  congr 1
  have := Nat.shiftLeft_add_eq_or_of_lt hx y
  rw [Nat.shiftLeft_eq] at this
  rw [Nat.or_comm, ← this, Nat.add_comm]
theorem zft (l : List UInt8) (a j : Nat) (y : UInt8) (hy : l[a + j]? = some y) : Zk ((l.drop a).take (j + 1)) = Zk ((l.drop a).take j) + y.toNat * 256 ^ j ∧ Zk ((l.drop a).take j) < 256 ^ j := by
 have hj : a + j < l.length := (List.getElem?_eq_some_iff.1 hy).1
 have hl : ((l.drop a).take j).length = j := by simp; omega
 have e : (l.drop a).take (j + 1) = (l.drop a).take j ++ [y] := by
  rw [List.take_add_one, List.getElem?_drop, hy]
  rfl
 rw [e, zfs, hl]
 exact ⟨rfl, by have := zjx ((l.drop a).take j); rw [hl] at this; exact this⟩
def numV (v : Nat) : Value := .tuple #[.int .u64 v, .bool true]
theorem zk1 (w : World) (v : Value) (l : List UInt8) (hv : Reads w v l) (at_ : Nat) (ai ni : Int) (n : Nat) (ea : ai = at_) (en : ni = n) (hn : n ≤ 8) (h : at_ + n ≤ l.length) (hlen : l.length ≤ 100000) :
  Calls Tryz.prog 147 #[v, .int .i64 ai, .int .i64 ni] w fun e w' => e = .returned (numV (Zk ((l.drop at_).take n))) ∧ w' = w := by
 obtain ⟨a, c, b0, off, rfl, ha, hx⟩ := hv
 have T := Lib.hid (Jn w a l.length c ai ni at_ n ea en hn h hlen)
 subst ea; subst en
 have HX : Hid (∀ j u, (l.map bV)[j]? = some u → w.cell? ⟨b0, off + j, none⟩ = some u) := hx
 have HL : Hid (at_ + n ≤ l.length) := h
 have HA := Lib.hid ha
 obtain ⟨m, hm⟩ : ∃ m, l.length = m := ⟨_, rfl⟩
 have HM := Lib.hid hm
 rw [hm] at h hlen T ⊢
 clear hx ha hm
 have i0 : at_ ≤ 100000 := by omega
 have i1 : (at_ : Int) ≤ 100000 := by omega
 have i2 : (0 : Int) ≤ at_ := by omega
 go_enter Tryz.func147, Tryz.ntmps147
 go_wp2_with fail
 refine T.out.mono ?_
 rintro e w1 ⟨rfl, rfl⟩
 go_wp2_with fail
 go_loop [8, 16] (fun x k => ∃ j : Nat, j ≤ n ∧ k = .int .i64 j ∧ x = .int .u64 (Zk ((l.drop at_).take j))) (fun _ k => n - (intOf k).toNat)
 case atStart => exact ⟨0, by omega, rfl, rfl⟩
 case round =>
  obtain ⟨j, hj, rfl, rfl⟩ := hrel
  by_cases hlt : j < n
  ·have h1 : (j : Int) < n := by omega
   have h2 : (j : Int) ≤ 8 := by omega
   have h3 : (0 : Int) ≤ j := by omega
   have hml : at_ + j < l.length := by rw [HM.out]; omega
   obtain ⟨y, hy⟩ : ∃ y, l[at_ + j]? = some y := ⟨_, List.getElem?_eq_getElem hml⟩
   have hc : w1.cell? ⟨b0, off + (at_ + j), none⟩ = some (.int .u8 y.toNat) := HX.out (at_ + j) _ (by simp [hy, bV])
   have h4 : (at_ : Int) + j < m := by omega
   have h5 : (0 : Int) ≤ (at_ : Int) + j := by omega
   have ha : a = some ⟨b0, off, none⟩ := HA.out (by rw [HM.out]; omega)
   subst ha
   have hst := zft l at_ j y hy
   have hres : Hid (bits .or .u64 (Zk ((l.drop at_).take j) : Int) (IntKind.u64.wrap (IntKind.u64.wrap (y.toNat : Int) * 2 ^ (8 * j))) = (Zk ((l.drop at_).take (j + 1)) : Int)) := by
    show _ = _
    rw [zm0 _ _ j hst.2 y.toNat_lt (by omega), hst.1]
   clear hst hy
   go_wp2_with fail
   exact ⟨⟨j + 1, by omega, by go_num, by rw [hres.out]⟩, by simp [intOf]; omega⟩
  ·obtain rfl : j = n := by omega
   go_wp2_with fail
   exact bodyPost_ret (v := numV (Zk ((l.drop at_).take j))) (by simp [results, Tryz.results147, go_sem, numV]) rfl ⟨rfl, rfl⟩
def putB (g : Nat → UInt8) (at_ v n i : Nat) : UInt8 := if at_ ≤ i ∧ i < at_ + n then UInt8.ofNat (v / 256 ^ (i - at_) % 256) else g i
theorem zkm (w : World) (b m c : Nat) (g : Nat → UInt8) (hr : Row w b m (fun i => bV (g i))) (at_ v : Nat) (ai vi ni : Int) (n : Nat) (ea : ai = at_) (ev : vi = v) (en : ni = n) (hn : n ≤ 8) (h : at_ + n ≤ m) (hm : m ≤ 100000) (hv : v < 18446744073709551616) :
  Calls Tryz.prog 220 #[.slice (some ⟨b, 0, none⟩) m c, .int .i64 ai, .int .u64 vi, .int .i64 ni] w fun e w' => e = .returned (.bool true) ∧ Row w' b m (fun i => bV (putB g at_ v n i)) ∧ Turn (fun k => k = b) w w' ∧ w'.heap.size = w.heap.size := by
 have T := Lib.hid (Jn w (some ⟨b, 0, none⟩) m c ai ni at_ n ea en hn h hm)
 subst ea; subst en; subst ev
 have i1 : (at_ : Int) ≤ 100000 := by omega
 have i2 : (0 : Int) ≤ at_ := by omega
 have i3 : (0 : Int) ≤ v := by omega
 have R := Lib.hid hr
 clear hr
 have e0 : (fun i => bV (putB g at_ v 0 i)) = fun i => bV (g i) := by
  funext i; unfold putB; rw [if_neg (by omega)]
 have E0 := Lib.hid e0
 clear e0
 go_enter Tryz.func220, Tryz.ntmps220
 go_wp2_with fail
 refine T.out.mono ?_
 rintro e w1 ⟨rfl, rfl⟩
 go_wp2_with fail
 go_loopw [16] (fun k W => ∃ j : Nat, j ≤ n ∧ k = .int .i64 j ∧ Hid (Row W b m (fun i => bV (putB g at_ v j i))) ∧ Hid (Turn (fun k => k = b) w1 W ∧ W.heap.size = w1.heap.size)) (fun k _ => n - (intOf k).toNat)
 case atStart => exact ⟨0, by omega, rfl, by show Row _ _ _ _; rw [E0.out]; exact R.out, Turn.refl _ _, rfl⟩
 case round =>
  obtain ⟨j, hj, rfl, hR, hT⟩ := hrel
  by_cases hlt : j < n
  ·have h1 : (j : Int) < n := by omega
   have h2 : (j : Int) ≤ 8 := by omega
   have h3 : (0 : Int) ≤ j := by omega
   have h4 : (at_ : Int) + j < m := by omega
   have h5 : (0 : Int) ≤ (at_ : Int) + j := by omega
   have hc := hR.out.cell (i := at_ + j) (by omega)
   have hfr := hR.out.frozen (at_ + j)
   go_wp2_with fail
   refine ⟨⟨j + 1, by omega, by go_num, (hR.out.set (i := at_ + j) (by omega) _).congr fun i hi => ?_, hT.out.1.set (.inl rfl) _, by simp [World.setCell, hT.out.2]⟩, by simp [intOf]; omega⟩
   by_cases e : i = at_ + j
   ·subst e
    rw [if_pos rfl]
    unfold putB bV
    rw [if_pos ⟨by omega, by omega⟩, Nat.add_sub_cancel_left]
    have e1 : (UInt8.ofNat (v / 256 ^ j % 256)).toNat = v / 256 ^ j % 256 := by simp
    rw [e1, show (256 : Nat) ^ j = 2 ^ (8 * j) by rw [Nat.pow_mul]]
    push_cast
    rfl
   ·rw [if_neg e]
    unfold putB
    by_cases e2 : at_ ≤ i ∧ i < at_ + j
    ·rw [if_pos e2, if_pos ⟨e2.1, by omega⟩]
    ·rw [if_neg e2, if_neg (by omega)]
  ·obtain rfl : j = n := by omega
   go_wp2_with fail
   go_ret
   exact ⟨rfl, hR.out, hT.out⟩
end Go.Proofs.YtnhdmnijiphjjaaGreat
