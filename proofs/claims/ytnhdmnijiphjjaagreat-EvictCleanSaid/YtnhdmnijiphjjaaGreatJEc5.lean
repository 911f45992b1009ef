/- Trees of tables in memory: Set: what it answers and leaves. -/
import Derived.Test.YtnhdmnijiphjjaaGreatJEc4
import Derived.WalkKit
import Derived.Lib.Hide
import Derived.Laws.StructEq
import Derived.Deep.QuietTactic
import Derived.Test.YtnhdmnijiphjjaaGreatJEc0
import Derived.Maps.RangeRun
import Derived.Shelf.SlIter.Collect
import Derived.Test.YtnhdmnijiphjjaaGreatProg
import Derived.KernelRfl
import Derived.Test.YtnhdmnijiphjjaaGreatJEc1
set_option linter.unusedVariables false
set_option linter.unusedSimpArgs false
set_option maxRecDepth 100000
set_option maxHeartbeats 2000000
namespace Go.Proofs.YtnhdmnijiphjjaaGreat
open Go Go.RowKit
theorem zhy (tag : Nat → Nat) (n ct : Nat) : ∃ u, 20 ≤ u ∧ u ≠ ct ∧ ∀ b, b < n → tag b ≠ u := by
 have key : ∃ M, ∀ b, b < n → tag b < M := by
  induction n with
  | zero => exact ⟨0, fun b hb => by omega⟩
  | succ n ih =>
   obtain ⟨M, hM⟩ := ih
   refine ⟨M + tag n + 1, fun b hb => ?_⟩
   by_cases e : b = n
   ·subst e; omega
   ·have := hM b (by omega); omega
 obtain ⟨M, hM⟩ := key
 exact ⟨M + ct + 20, by omega, by omega, fun b hb => by have := hM b hb; omega⟩
theorem X9 {w w' : World} {tag tag' : Nat → Nat} {ct u : Nat} (h : Step (C4 ct u) tag w tag' w') (hu : ∀ b, b < w.heap.size → tag b ≠ u) : Step (C3 ct) tag w tag' w' :=
 ⟨h.same, h.turn.mono fun k hk e => e.resolve_right (hu k hk)⟩
section
variable (w : World) (tag : Nat → Nat) (q : Rq) (x : RPT) (N : List Nat → Option Nat)
theorem zfb (h : y9 w tag q x) (ok : xe x N) (pi : Int) (page : Nat) (ep : pi = page) (hpg : page < 4096) (e : Ent) (he : e.ok = true) :
  Calls Tryz.prog 140 #[.pointer (some ⟨q.t, 0, none⟩), .int .i64 pi, entV e] w fun r w' => r = .returned (.int .i64 (x.set page e).1) ∧ ∃ tag', y9 w' tag' q (x.set page e).2 ∧ Step (C3 q.ct) tag w tag' w' := by
 subst ep
 obtain ⟨y, hy⟩ : ∃ y, x.set page e = y := ⟨_, rfl⟩
 rw [hy]
 have hset := ok.set_eq hpg he
 rw [hy] at hset
 obtain ⟨u, hu1, hu2, hu3⟩ := zhy tag w.heap.size q.ct
 have HU : Hid (∀ b, b < w.heap.size → tag b ≠ u) := hu3
 have hu : ¬ C3 q.ct u := by unfold C3; omega
 have hu0 : u ≠ 0 := by omega
 have s0 : Step (C4 q.ct u) tag w (retag tag w u) w := ⟨fun b hb => if_pos hb, Turn.refl _ _⟩
 have h0 := h.step (C := fun _ => False) (tag' := retag tag w u) ⟨fun b hb => if_pos hb, Turn.refl _ w⟩ (fun e => e) (fun e => e) (fun e => e)
 have hnew : ∀ b, w.heap.size ≤ b → retag tag w u b = u := fun b hb => Yw hb
 generalize retag tag w u = tag0 at s0 h0 hnew
 have i0 : (0 : Int) ≤ page := by omega
 have i1 : (page : Int) < 4096 := by omega
 obtain ⟨en, hen⟩ : ∃ en, e.num = en := ⟨_, rfl⟩
 have hlt := (Ent.zb2 he).1
 rw [hen] at hlt hset
 have HEN := Lib.hid hen
 have EN := Lib.hid (fun W' => zcw W' e he)
 rw [hen] at EN
 have hz : en = 0 ↔ e = Ent.none := by rw [← hen]; exact Ent.zay he
 have HZ := Lib.hid hz
 have HH := Lib.hid (And.intro h0 (And.intro ok (And.intro s0 hnew)))
 have HSET := Lib.hid hset
 clear h ok s0 h0 hnew hu3 hy hset hen hz
 have hb0 : ∀ T v1 v2 v3, Below w.heap.size w (w.alloc (.cells #[v1, v2, v3] T (0, 0))) := fun T _ _ _ => (Below.refl _ _).alloc (Nat.le_refl _) _
 have HB0 := Lib.hid hb0
 clear hb0
 have hidx := zcd page
 unfold entV at EN ⊢
 go_enter Tryz.func140, Tryz.ntmps140
 go_wp2_with fail
 refine (zhg _ tag0 q x (HH.out.1.below (HB0.out _ _ _ _)) page i0 i1 HH.out.2.1.tree.own_ne).mono ?_
 rintro e1 w1 ⟨rfl, rfl⟩
 go_wp2_with fail
 refine (EN.out _).mono ?_
 rintro e2 w2 ⟨rfl, hb2⟩
 have HB2 : Hid (Below w.heap.size w w2) := (HB0.out _ _ _ _).trans (hb2.mono (by simp))
 clear hb2
 go_wp2_with fail
 refine (zd9 w2 tag0 q x N (HH.out.1.below HB2.out) HH.out.2.1.tree page page rfl hpg).mono ?_
 rintro e3 w3 ⟨v, rfl, hs, ho, hb3⟩
 have HGS := Lib.hid (fun hl => HH.out.2.1.zfv page hl)
 have hwl := zea HH.out.2.1.tree page
 have hw3 := (V3 HH.out.2.1.tree page).2.2.1
 generalize wayN N x.T.root page = L at *
 have hli : LiAt w3 tag0 u v L := ⟨hs, fun b hb => HH.out.2.2.2 b (Nat.le_trans HB2.out.size (ho b hb))⟩
 obtain ⟨a, c0, rfl, _, _⟩ := SlAt.form hs
 have HB3 : Hid (Below w.heap.size w w3) := HB2.out.trans (hb3.mono HB2.out.size)
 have HLI0 := Lib.hid hli
 have HW3 := Lib.hid hw3
 clear hs ho hb3 hli hw3
 obtain ⟨n, hn⟩ : ∃ n, L.length = n := ⟨_, rfl⟩
 have HN := Lib.hid hn
 rw [hn] at HSET HGS HW3 hwl ⊢
 clear hn
 by_cases h4 : n < 4
 ·have i4 : (n : Int) < 4 := by omega
  by_cases hz0 : en = 0
  ·have FY : Hid (y = (0, x)) := by have := HSET.out; rw [if_pos h4, if_pos hz0] at this; exact this
   subst hz0
   go_wp2_with fail
   refine bodyPost_ret (v := .int .i64 0) (by simp [results, Tryz.results140, go_sem]) rfl ?_
   rw [FY.out]
   exact ⟨rfl, tag0, HH.out.1.below HB3.out, X9 (HH.out.2.2.1.trans (Step.of_below HB3.out)) HU.out⟩
  ·have hz1 : ((en : Int) == 0) = false := beq_eq_false_iff_ne.2 (by omega)
   have FY : Hid (y = if (RPT.yh page (4 - n) L x).1.2 = 0 then (RPT.yh page (4 - n) L x).2.setLast page (RPT.yh page (4 - n) L x).1.1 en else ((RPT.yh page (4 - n) L x).1.2, (RPT.yh page (4 - n) L x).2)) := by have := HSET.out; rw [if_pos h4, if_neg hz0] at this; exact this
   have GR := Lib.hid (zhw w3 tag0 q x N (HH.out.1.below HB3.out) HH.out.2.1 page hpg (4 - n) L _ u hu hu0 HLI0.out (HGS.out h4))
   rw [HN.out] at GR
   have GE := Lib.hid (HH.out.2.1.grow_end page (4 - n) L (HGS.out h4))
   clear hz0
   go_wp2_with fail
   refine GR.out.mono ?_
   rintro e4 w4 ⟨v4, tag4, rfl, g1, g2, g3⟩
   generalize RPT.yh page (4 - n) L x = G at *
   rcases GE.out with ⟨N', ge1, ge2, ge3, ge4⟩ | ge1
   ·obtain ⟨⟨LX, er⟩, ZX⟩ := G
    simp only at ge1 ge2 ge3 ge4 g1 g3 FY
    subst ge1
    have g3 := g3 rfl
    obtain ⟨a4, c4, rfl, _, _⟩ := SlAt.form g3.1
    have HLI : Hid (LiAt w4 tag4 u (.slice a4 4 c4) LX) := by rw [ge2] at g3; exact g3
    have HA := Lib.hid g1
    have HOK := Lib.hid ge3
    have HON := Lib.hid ge4
    have HL4 := Lib.hid ge2
    have HST := Lib.hid ((HH.out.2.2.1.trans (Step.of_below HB3.out)).trans g2)
    have HY : Hid (y = ZX.setLast page LX e.num) := by have := FY.out; rw [if_pos rfl] at this; rw [HEN.out]; exact this
    clear g1 g2 g3 ge3 ge4 FY GR GE HSET
    rw [ge2]
    clear ge2
    generalize hTG : tag4 = TG at *
    clear hTG

    obtain ⟨f, N4, p1, p2, p3, p4, p5, p6⟩ := HOK.out.Jv page LX HL4.out HON.out he
    obtain ⟨b, off, c, ev, hcell⟩ := HLI.out.at (k := 0) (by rw [HL4.out]; omega)
    rw [HL4.out] at ev
    simp only [Value.slice.injEq] at ev
    obtain ⟨rfl, _, rfl⟩ := ev
    have cf := hcell 3 f (getD_some (by rw [HL4.out]; omega) p1)
    have PP := Lib.hid (And.intro p3 (And.intro p4 (And.intro p5 p6)))
    clear hcell p1 p3 p4 p5 p6
    go_wp2_with fail
    refine (jv _ page page rfl hpg).mono ?_
    rintro e5 w5 ⟨rfl, hb5⟩
    have cf5 := (hb5.cell (World.block_lt_of_cell? _ _ cf)).trans cf
    have HB5 := Lib.hid hb5
    have hbl5 := World.block_lt_of_cell? _ _ cf5
    clear hb5 cf
    unfold digV
    have GT := Lib.hid (U1 w5 TG q ZX (HA.out.below HB5.out) f (digit page 3) f (digit page 3) rfl rfl p2 PP.out.1 (z8 _ _))
    go_wp2_with fail
    refine GT.out.mono ?_
    rintro e6 w6 ⟨rfl, hb6⟩
    have cf6 := (hb6.cell hbl5).trans cf5
    have HB6 := Lib.hid (HB5.out.trans (hb6.mono HB5.out.size))
    clear hb6 cf5
    have PT := Lib.hid (X7 w6 TG q ZX (HA.out.below HB6.out) f (digit page 3) en f (digit page 3) en rfl rfl rfl p2 PP.out.1 (z8 _ _) (by omega))
    go_wp2_with fail
    refine PT.out.mono ?_
    rintro e7 w7 ⟨rfl, t1, t2⟩
    have L7 := (HLI.out.below HB6.out).step t2 (fun e => hu (.inl e))
    rw [HEN.out] at PP
    have PR := Lib.hid (V6 w7 TG q _ N4 t1 PP.out.2.1 page hpg LX _ u hu L7 (by rw [HL4.out]; omega) (by rw [HL4.out]; omega) (by rw [HL4.out]; exact PP.out.2.2.1))
    have S7 := Lib.hid ((HST.out.trans (Step.of_below HB6.out)).trans (t2.mono (C' := C4 q.ct u) (fun c e => .inl (.inl e))))
    clear t1 t2 L7 cf6
    go_wp2_with fail
    refine PR.out.mono ?_
    rintro e8 w8 ⟨rfl, tag8, s1, s2⟩
    have FIN := Lib.hid (And.intro s1 (S7.out.trans (s2.mono (C' := C4 q.ct u) (fun c e => .inl e))))
    clear s1 s2
    go_wp2_with fail
    refine bodyPost_ret (v := .int .i64 0) (by simp [results, Tryz.results140, go_sem]) rfl ?_
    rw [HY.out, HEN.out, PP.out.2.2.2]
    exact ⟨rfl, tag8, FIN.out.1, X9 FIN.out.2 HU.out⟩
   ·obtain ⟨⟨LX, er⟩, ZX⟩ := G
    simp only at ge1 g1 g3 FY
    subst ge1
    have FIN := Lib.hid (And.intro g1 ((HH.out.2.2.1.trans (Step.of_below HB3.out)).trans g2))
    have FY2 : Hid (y = (4, ZX)) := by have := FY.out; rw [if_neg (by decide)] at this; exact this
    clear g1 g2 g3 FY GR GE
    go_wp2_with fail
    refine bodyPost_ret (v := .int .i64 4) (by simp [results, Tryz.results140, go_sem]) rfl ?_
    rw [FY2.out]
    exact ⟨rfl, tag4, FIN.out.1, X9 FIN.out.2 HU.out⟩
 ·have i4 : ¬ (n : Int) < 4 := by omega
  have hn4 : n = 4 := by omega
  subst hn4
  have HY : Hid (y = x.setLast page L e.num) := by have := HSET.out; rw [if_neg (by omega)] at this; rw [HEN.out]; exact this
  have HLI : Hid (LiAt w3 tag0 u (.slice a 4 c0) L) := by have := HLI0.out; rw [HN.out] at this; exact this
  have HA := Lib.hid (HH.out.1.below HB3.out)
  have HOK := Lib.hid HH.out.2.1
  have HON := HW3
  have HL4 := HN
  have HST := Lib.hid (HH.out.2.2.1.trans (Step.of_below HB3.out))
  clear HSET HGS HW3 hwl i4 h4

  obtain ⟨f, N4, p1, p2, p3, p4, p5, p6⟩ := HOK.out.Jv page L HL4.out HON.out he
  obtain ⟨b, off, c, ev, hcell⟩ := HLI.out.at (k := 0) (by rw [HL4.out]; omega)
  rw [HL4.out] at ev
  simp only [Value.slice.injEq] at ev
  obtain ⟨rfl, _, rfl⟩ := ev
  have cf := hcell 3 f (getD_some (by rw [HL4.out]; omega) p1)
  have PP := Lib.hid (And.intro p3 (And.intro p4 (And.intro p5 p6)))
  clear hcell p1 p3 p4 p5 p6
  go_wp2_with fail
  refine (jv _ page page rfl hpg).mono ?_
  rintro e5 w5 ⟨rfl, hb5⟩
  have cf5 := (hb5.cell (World.block_lt_of_cell? _ _ cf)).trans cf
  have HB5 := Lib.hid hb5
  have hbl5 := World.block_lt_of_cell? _ _ cf5
  clear hb5 cf
  unfold digV
  have GT := Lib.hid (U1 w5 tag0 q x (HA.out.below HB5.out) f (digit page 3) f (digit page 3) rfl rfl p2 PP.out.1 (z8 _ _))
  go_wp2_with fail
  refine GT.out.mono ?_
  rintro e6 w6 ⟨rfl, hb6⟩
  have cf6 := (hb6.cell hbl5).trans cf5
  have HB6 := Lib.hid (HB5.out.trans (hb6.mono HB5.out.size))
  clear hb6 cf5
  have PT := Lib.hid (X7 w6 tag0 q x (HA.out.below HB6.out) f (digit page 3) en f (digit page 3) en rfl rfl rfl p2 PP.out.1 (z8 _ _) (by omega))
  go_wp2_with fail
  refine PT.out.mono ?_
  rintro e7 w7 ⟨rfl, t1, t2⟩
  have L7 := (HLI.out.below HB6.out).step t2 (fun e => hu (.inl e))
  rw [HEN.out] at PP
  have PR := Lib.hid (V6 w7 tag0 q _ N4 t1 PP.out.2.1 page hpg L _ u hu L7 (by rw [HL4.out]; omega) (by rw [HL4.out]; omega) (by rw [HL4.out]; exact PP.out.2.2.1))
  have S7 := Lib.hid ((HST.out.trans (Step.of_below HB6.out)).trans (t2.mono (C' := C4 q.ct u) (fun c e => .inl (.inl e))))
  clear t1 t2 L7 cf6
  go_wp2_with fail
  refine PR.out.mono ?_
  rintro e8 w8 ⟨rfl, tag8, s1, s2⟩
  have FIN := Lib.hid (And.intro s1 (S7.out.trans (s2.mono (C' := C4 q.ct u) (fun c e => .inl e))))
  clear s1 s2
  go_wp2_with fail
  refine bodyPost_ret (v := .int .i64 0) (by simp [results, Tryz.results140, go_sem]) rfl ?_
  rw [HY.out, HEN.out, PP.out.2.2.2]
  exact ⟨rfl, tag8, FIN.out.1, X9 FIN.out.2 HU.out⟩
end
section
variable {κ ν : Type} [DecidableEq κ]
def idxL : List (κ × ν) → κ → Option Nat
 | [], _ => none
 | x :: l, k => if k = x.1 then some 0 else (idxL l k).map (· + 1)
def getL : List (κ × ν) → κ → Option ν
 | [], _ => none
 | x :: l, k => if k = x.1 then some x.2 else getL l k
def updL : List (κ × ν) → κ → ν → List (κ × ν)
 | [], k, v => [(k, v)]
 | x :: l, k, v => if k = x.1 then (k, v) :: l else x :: updL l k v
def delL : List (κ × ν) → κ → List (κ × ν)
 | [], _ => []
 | x :: l, k => if k = x.1 then l else x :: delL l k
theorem Zr {l : List (κ × ν)} {k : κ} {i : Nat} (h : idxL l k = some i) : ∃ hi : i < l.length, l[i].1 = k ∧ getL l k = some l[i].2 ∧ (∀ v, updL l k v = l.set i (k, v)) ∧ delL l k = l.eraseIdx i := by
 induction l generalizing i with
 | nil => simp [idxL] at h
 | cons x l ih =>
  simp only [idxL] at h
  split at h
  ·rename_i e
   cases h
   simp [getL, updL, delL, e]
  ·rename_i e
   obtain ⟨j, hj, rfl⟩ := Option.map_eq_some_iff.1 h
   obtain ⟨hi, h1, h2, h3, h4⟩ := ih hj
   exact ⟨by simp; omega, by simpa using h1, by simp [getL, e, h2], fun v => by simp [updL, e, h3], by simp [delL, e, h4]⟩
theorem Zt {l : List (κ × ν)} {k : κ} (h : idxL l k = none) : getL l k = none ∧ (∀ v, updL l k v = l ++ [(k, v)]) ∧ delL l k = l := by
 induction l with
 | nil => simp [getL, updL, delL]
 | cons x l ih =>
  simp only [idxL] at h
  split at h
  ·cases h
  ·rename_i e
   obtain ⟨h2, h3, h4⟩ := ih (Option.map_eq_none_iff.1 h)
   exact ⟨by simp [getL, e, h2], fun v => by simp [updL, e, h3], by simp [delL, e, h4]⟩
theorem yj {l : List (κ × ν)} {k : κ} {v : ν} (q : κ) : getL (updL l k v) q = if q = k then some v else getL l q := by
 induction l with
 | nil => simp [updL, getL]
 | cons x l ih =>
  simp only [updL]
  split
  ·rename_i e
   subst e
   by_cases hq : q = x.1 <;> simp [getL, hq]
  ·rename_i e
   simp only [getL, ih]
   by_cases hq : q = x.1
   ·subst hq
    simp [Ne.symm e]
   ·simp [hq]
end
theorem qw {α : Type} {a b : List α} {n : Nat} {f : α → α} (h : a.length ≤ n) : (a ++ b).modify n f = a ++ b.modify (n - a.length) f := by
 refine List.ext_getElem? fun j => ?_
 rw [List.getElem?_modify]
 by_cases hj : j < a.length
 ·have hne : n ≠ j := by omega
  rw [List.getElem?_append_left hj, List.getElem?_append_left hj]
  cases a[j]? <;> simp [hne]
 ·rw [List.getElem?_append_right (by omega), List.getElem?_append_right (by omega), List.getElem?_modify]
  by_cases e : n = j
  ·subst e; simp
  ·have e2 : n - a.length ≠ j - a.length := by omega
   cases b[j - a.length]? <;> simp [e, e2]
theorem Yj {α β : Type} (f : α → β) (l : List α) (i : Nat) : (l.map f).eraseIdx i = (l.eraseIdx i).map f := by
 induction l generalizing i with
 | nil => rfl
 | cons x l ih => cases i with
  | zero => rfl
  | succ i => simp [ih]
structure KeyLaw (P : Program) (K : TypeId) {κ : Type} [DecidableEq κ] (enc : κ → Value) : Prop where
 find : ∀ (k : κ) (es : List MapEntry) (ks : List κ), es.map (·.key) = ks.map enc → ∀ w, (Instr.findKey K (enc k) es).run P w = .ok (((ks.map fun x => (x, ())) |> fun l => idxL l k).bind fun i => (es[i]?).map fun e => (i, e.val)) w
 check : ∀ (k : κ) (b : Bool) w, (Instr.checkKey b 10000 K (enc k)).run P w = .ok () w
 same : ∀ k, Instr.sameBits 10000 (enc k) (enc k) = true
theorem zht {κ ν : Type} [DecidableEq κ] (l : List (κ × ν)) (k : κ) : idxL ((l.map (·.1)).map fun x => (x, ())) k = idxL l k := by
 induction l with
 | nil => rfl
 | cons x l ih => simp only [List.map_cons, idxL, ih]
def MapAt {κ ν : Type} (w : World) (m : Nat) (encK : κ → Value) (encV : ν → Value) (l : List (κ × ν)) : Prop :=
 ∃ es clock, w.heap[m]? = some (.map es clock) ∧ es.toList.map (fun e => (e.key, e.val)) = l.map (fun x => (encK x.1, encV x.2)) ∧ (∀ e ∈ es.toList, e.born < clock) ∧ (es.toList.map (·.born)).Nodup
section
variable {κ ν : Type} {w w' : World} {m : Nat} {encK : κ → Value} {encV : ν → Value} {l : List (κ × ν)}
theorem MapAt.lt (h : MapAt w m encK encV l) : m < w.heap.size := by
 obtain ⟨es, c, h1, _⟩ := h
 exact (Array.getElem?_eq_some_iff.1 h1).1
theorem MapAt.keep (h : MapAt w m encK encV l) (hb : w'.heap[m]? = w.heap[m]?) : MapAt w' m encK encV l := by
 obtain ⟨es, c, h1, h2⟩ := h
 exact ⟨es, c, hb.trans h1, h2⟩
theorem MapAt.below (h : MapAt w m encK encV l) (hb : Below w.heap.size w w') : MapAt w' m encK encV l := h.keep (hb.block m h.lt)
theorem MapAt.grown (h : MapAt w m encK encV l) {row : Option Nat} (hg : w.grownBy w' row) (hne : some m ≠ row) : MapAt w' m encK encV l := h.keep (hg.block m h.lt hne)
theorem MapAt.made (w : World) (encK : κ → Value) (encV : ν → Value) : MapAt (w.alloc (.map #[] 0)) w.heap.size encK encV [] :=
 ⟨#[], 0, heap_alloc_new w _, by simp, by simp, by simp⟩
end
section
variable {κ ν : Type} [DecidableEq κ] {P : Program} {K E T : TypeId} {encK : κ → Value} {encV : ν → Value} {l : List (κ × ν)} {w : World} {m : Nat}
omit [DecidableEq κ] in
theorem Un {es : Array MapEntry} (h : es.toList.map (fun e => (e.key, e.val)) = l.map (fun x => (encK x.1, encV x.2))) : es.toList.map (·.key) = (l.map (·.1)).map encK := by
 have := congrArg (List.map Prod.fst) h
 rw [List.map_map, List.map_map] at this
 rw [List.map_map]
 exact this
omit [DecidableEq κ] in
theorem Zp {es : Array MapEntry} (h : es.toList.map (fun e => (e.key, e.val)) = l.map (fun x => (encK x.1, encV x.2))) (i : Nat) : (es[i]?).map (fun e => (e.key, e.val)) = (l[i]?).map (fun x => (encK x.1, encV x.2)) := by
 have := congrArg (·[i]?) h
 simpa using this
theorem U2 (L : KeyLaw P K encK) {es : Array MapEntry} (h : es.toList.map (fun e => (e.key, e.val)) = l.map (fun x => (encK x.1, encV x.2))) (k : κ) (w : World) :
  (Instr.findKey K (encK k) es.toList).run P w = .ok ((idxL l k).bind fun i => (l[i]?).map fun x => (i, encV x.2)) w := by
 rw [L.find k es.toList (l.map (·.1)) (Un h) w]
 simp only [zht]
 congr 1
 cases idxL l k with
 | none => rfl
 | some i =>
  have := Zp h i
  simp only [Option.bind_some, Array.getElem?_toList]
  cases h1 : es[i]? <;> cases h2 : l[i]? <;> simp_all
theorem jc (L : KeyLaw P K encK) (hT : P.underlying T = some (.map K E)) (z : Value) (hz : ∀ w, (zeroValue E).run P w = .ok z w) (h : MapAt w m encK encV l) (k : κ) (ok : Bool) :
  (Instr.lookup T (.map (some m)) (encK k) ok).run P w = .ok (if ok then .tuple #[((getL l k).map encV).getD z, .bool (getL l k).isSome] else ((getL l k).map encV).getD z) w := by
 obtain ⟨es, c, hb, he, _⟩ := h
 have hg : (getObj m).run P w = .ok (.map es c) w := by simp [getObj, Sem.run, hb]
 have hf := U2 L he k w
 cases hi : idxL l k with
 | none =>
  rw [hi] at hf
  simp only [Option.bind_none] at hf
  rw [(Zt hi).1]
  simp [Instr.lookup, run_underlying hT, hg, L.check, hf, hz]
 | some i =>
  obtain ⟨hlt, _, h2, _⟩ := Zr hi
  rw [hi] at hf
  simp only [Option.bind_some, List.getElem?_eq_getElem hlt, Option.map_some] at hf
  rw [h2]
  simp [Instr.lookup, run_underlying hT, hg, L.check, hf]
theorem Z8 (L : KeyLaw P K encK) (hT : P.underlying T = some (.map K E)) (h : MapAt w m encK encV l) (k : κ) (v : ν) :
  ∃ w', (Instr.mapUpdate T (.map (some m)) (encK k) (encV v)).run P w = .ok () w' ∧ MapAt w' m encK encV (updL l k v) ∧ w.grownBy w' (some m) ∧ w'.heap.size = w.heap.size := by
 obtain ⟨es, c, hb, he, hborn, hnd⟩ := h
 have hlt : m < w.heap.size := (Array.getElem?_eq_some_iff.1 hb).1
 have hg : (getObj m).run P w = .ok (.map es c) w := by simp [getObj, Sem.run, hb]
 have hset : ∀ o, (setObj m o).run P w = .ok () { w with heap := w.heap.setIfInBounds m o } := fun o => by simp [setObj, Sem.run, hb]
 have hgrown : ∀ o, w.grownBy { w with heap := w.heap.setIfInBounds m o } (some m) := fun o => ⟨rfl, rfl, rfl, by simp, fun i hi hne => by simp [Array.getElem?_setIfInBounds_ne (show m ≠ i from fun e => hne (by rw [e]))]⟩
 have hblk : ∀ o, ({ w with heap := w.heap.setIfInBounds m o } : World).heap[m]? = some o := fun o => by simp [hlt]
 have hf := U2 L he k w
 cases hi : idxL l k with
 | none =>
  rw [hi] at hf
  simp only [Option.bind_none] at hf
  refine ⟨_, ?_, ⟨es.push { key := encK k, val := encV v, born := c }, c + 1, hblk _, ?_, ?_, ?_⟩, hgrown _, by simp⟩
  ·simp [Instr.mapUpdate, run_underlying hT, hg, L.check, hf, hset]
  ·rw [(Zt hi).2.1 v]; simp [he]
  ·intro e hm
   simp at hm
   rcases hm with hm | rfl
   ·have := hborn e (by simpa using hm); omega
   ·simp
  ·simp only [Array.toList_push, List.map_append, List.map_cons, List.map_nil]
   refine List.nodup_append.2 ⟨hnd, by simp, fun a ha b hb => ?_⟩
   obtain ⟨e, hm, rfl⟩ := List.mem_map.1 ha
   simp at hb
   have := hborn e hm
   omega
 | some i =>
  obtain ⟨hlt', hk, h2, h3, _⟩ := Zr hi
  rw [hi] at hf
  simp only [Option.bind_some, List.getElem?_eq_getElem hlt', Option.map_some] at hf
  have hei := Zp he i
  rw [List.getElem?_eq_getElem hlt', Option.map_some, hk] at hei
  obtain ⟨e0, he0, hee⟩ := Option.map_eq_some_iff.1 hei
  have hkey : e0.key = encK k := congrArg Prod.fst hee
  refine ⟨_, ?_, ⟨es.modify i fun e => { e with key := encK k, val := encV v }, c, hblk _, ?_, ?_, ?_⟩, hgrown _, by simp⟩
  ·simp [Instr.mapUpdate, run_underlying hT, hg, L.check, hf, Instr.keyThatStays, he0, hkey, L.same, hset]
  ·rw [h3 v, Array.toList_modify]
   refine List.ext_getElem? fun j => ?_
   have := Zp he j
   rw [List.getElem?_map, List.getElem?_modify, List.getElem?_map, List.getElem?_set]
   by_cases hj : i = j
   ·subst hj
    simp [he0, hlt']
   ·simp only [hj, if_false, Array.getElem?_toList]
    rw [← this]
    cases es[j]? <;> rfl
  ·intro e hm
   rw [Array.toList_modify] at hm
   obtain ⟨j, hj, rfl⟩ := List.getElem_of_mem hm
   have hj' : j < es.toList.length := by simpa using hj
   rw [List.getElem_modify]
   split
   ·exact hborn (es.toList[j]'hj') (List.getElem_mem _)
   ·exact hborn (es.toList[j]'hj') (List.getElem_mem _)
  ·have e1 : (es.modify i fun e => { e with key := encK k, val := encV v }).toList.map (·.born) = es.toList.map (·.born) := by
    refine List.ext_getElem? fun j => ?_
    rw [Array.toList_modify, List.getElem?_map, List.getElem?_modify, List.getElem?_map]
    split <;> cases es.toList[j]? <;> rfl
   rw [e1]; exact hnd
theorem Ub (L : KeyLaw P K encK) (hT : P.underlying T = some (.map K E)) (h : MapAt w m encK encV l) (k : κ) (ty : TypeId) (u : TypeId) :
  ∃ w', (Builtin.delete_ #[T, u] ty #[.map (some m), encK k]).run P w = .ok (.tuple #[]) w' ∧ MapAt w' m encK encV (delL l k) ∧ w.grownBy w' (some m) ∧ w'.heap.size = w.heap.size := by
 obtain ⟨es, c, hb, he, hborn, hnd⟩ := h
 have hlt : m < w.heap.size := (Array.getElem?_eq_some_iff.1 hb).1
 have hg : (getObj m).run P w = .ok (.map es c) w := by simp [getObj, Sem.run, hb]
 have hset : ∀ o, (setObj m o).run P w = .ok () { w with heap := w.heap.setIfInBounds m o } := fun o => by simp [setObj, Sem.run, hb]
 have hgrown : ∀ o, w.grownBy { w with heap := w.heap.setIfInBounds m o } (some m) := fun o => ⟨rfl, rfl, rfl, by simp, fun i hi hne => by simp [Array.getElem?_setIfInBounds_ne (show m ≠ i from fun e => hne (by rw [e]))]⟩
 have hblk : ∀ o, ({ w with heap := w.heap.setIfInBounds m o } : World).heap[m]? = some o := fun o => by simp [hlt]
 have hf := U2 L he k w
 cases hi : idxL l k with
 | none =>
  rw [hi] at hf
  simp only [Option.bind_none] at hf
  refine ⟨_, ?_, ⟨es, c, hblk _, ?_, hborn, hnd⟩, hgrown _, by simp⟩
  ·simp [Builtin.delete_, run_underlying hT, hg, L.check, hf, hset]
  ·rw [(Zt hi).2.2, he]
 | some i =>
  obtain ⟨hlt', hk, h2, _, h4⟩ := Zr hi
  rw [hi] at hf
  simp only [Option.bind_some, List.getElem?_eq_getElem hlt', Option.map_some] at hf
  have hsz : i < es.size := by have := congrArg List.length he; simp at this; omega
  have e1 : (es.eraseIdxIfInBounds i).toList = es.toList.eraseIdx i := by simp [Array.eraseIdxIfInBounds, hsz]
  refine ⟨_, ?_, ⟨es.eraseIdxIfInBounds i, c, hblk _, ?_, ?_, ?_⟩, hgrown _, by simp⟩
  ·simp [Builtin.delete_, run_underlying hT, hg, L.check, hf, hset]
  ·rw [h4, e1, ← Yj, ← Yj, he]
  ·intro e hm
   rw [e1] at hm
   exact hborn e (List.mem_of_mem_eraseIdx hm)
  ·rw [e1, ← Yj]
   exact hnd.sublist (List.eraseIdx_sublist _ _)
theorem findIdx_born {es : List MapEntry} {i : Nat} (hi : i < es.length) (hnd : (es.map (·.born)).Nodup) : es.findIdx? (fun e => ((e.born : Int) == ((es[i].born : Nat) : Int))) = some i := by
 rw [List.findIdx?_eq_some_iff_getElem]
 refine ⟨hi, by simp, fun j hj => ?_⟩
 have hne : es[j].born ≠ es[i].born := fun e => by
  have := (List.getElem_inj (xs := es.map (·.born)) (i := j) (j := i) (h₀ := by simp; omega) (h₁ := by simp; omega) hnd).1 (by simpa using e)
  omega
 simp; omega
theorem zcn (L : KeyLaw P K encK) (hT : P.underlying T = some (.map K E)) (z : Value) (hz : ∀ w, (zeroValue E).run P w = .ok z w) (h : MapAt w m encK encV l) (k : κ) :
  ∃ w1 c, (Instr.mapEntry T (.map (some m)) (encK k)).run P w = .ok (.tuple #[((getL l k).map encV).getD z, .int .i64 c]) w1 ∧ w.grownBy w1 (some m) ∧ w1.heap.size = w.heap.size ∧
   ∀ (v : ν) (u : TypeId) (w2 : World), w2.heap[m]? = w1.heap[m]? → ∃ w3, (Instr.entryStore u (.map (some m)) (.int .i64 c) (encV v)).run P w2 = .ok () w3 ∧ MapAt w3 m encK encV (updL l k v) ∧ w2.grownBy w3 (some m) ∧ w3.heap.size = w2.heap.size := by
 obtain ⟨es, c, hb, he, hborn, hnd⟩ := h
 have hlt : m < w.heap.size := (Array.getElem?_eq_some_iff.1 hb).1
 have hg : (getObj m).run P w = .ok (.map es c) w := by simp [getObj, Sem.run, hb]
 have hset : ∀ (w : World) o es c, w.heap[m]? = some (.map es c) → (setObj m o).run P w = .ok () { w with heap := w.heap.setIfInBounds m o } := fun w o es c hb => by simp [setObj, Sem.run, hb]
 have hgrown : ∀ (w : World) o, w.grownBy { w with heap := w.heap.setIfInBounds m o } (some m) := fun w o => ⟨rfl, rfl, rfl, by simp, fun i hi hne => by simp [Array.getElem?_setIfInBounds_ne (show m ≠ i from fun e => hne (by rw [e]))]⟩
 have hblk : ∀ (w : World) o, m < w.heap.size → ({ w with heap := w.heap.setIfInBounds m o } : World).heap[m]? = some o := fun w o hlt => by simp [hlt]
 have hf := U2 L he k w
 cases hi : idxL l k with
 | none =>
  rw [hi] at hf
  simp only [Option.bind_none] at hf
  refine ⟨_, (c : Int), ?_, hgrown w (.map (es.push { key := encK k, val := z, born := c }) (c + 1)), by simp, fun v u w2 h2 => ?_⟩
  ·rw [(Zt hi).1]
   simp [Instr.mapEntry, run_underlying hT, hg, L.check, hf, hz, hset w _ es c hb, goInt]
  ·rw [hblk w _ hlt] at h2
   have hlt2 : m < w2.heap.size := (Array.getElem?_eq_some_iff.1 h2).1
   have hg2 : (getObj m).run P w2 = .ok (.map (es.push { key := encK k, val := z, born := c }) (c + 1)) w2 := by simp [getObj, Sem.run, h2]
   have hidx : (es.push { key := encK k, val := z, born := c }).findIdx? (fun e => ((e.born : Int) == (c : Int))) = some es.size := by
    rw [Array.findIdx?_eq_some_iff_getElem]
    refine ⟨by simp, by simp, fun j hj => ?_⟩
    have := hborn es[j] (by simp)
    rw [Array.getElem_push_lt hj]
    simp; omega
   refine ⟨_, ?_, ⟨(es.push { key := encK k, val := z, born := c }).modify es.size fun e => { e with val := encV v }, c + 1, hblk w2 _ hlt2, ?_, ?_, ?_⟩, hgrown w2 _, by simp⟩
   ·simp [Instr.entryStore, hg2, asInt, asIntOf, hidx, hset w2 _ _ _ h2]
   ·rw [(Zt hi).2.1 v, Array.toList_modify, Array.toList_push, qw (by simp)]
    simp [he]
   ·intro e hm
    rw [Array.toList_modify, Array.toList_push, qw (by simp)] at hm
    simp at hm
    rcases hm with hm | rfl
    ·have := hborn e (by simpa using hm); omega
    ·simp
   ·rw [Array.toList_modify, Array.toList_push, qw (by simp)]
    simp only [Array.length_toList, Nat.sub_self, List.modify_zero_cons, List.map_append, List.map_cons, List.map_nil]
    refine List.nodup_append.2 ⟨hnd, by simp, fun a ha b hb => ?_⟩
    obtain ⟨e, hm, rfl⟩ := List.mem_map.1 ha
    simp at hb
    have := hborn e hm
    omega
 | some i =>
  obtain ⟨hlt', hk, h2, h3, _⟩ := Zr hi
  rw [hi] at hf
  simp only [Option.bind_some, List.getElem?_eq_getElem hlt', Option.map_some] at hf
  have hei := Zp he i
  rw [List.getElem?_eq_getElem hlt', Option.map_some, hk] at hei
  obtain ⟨e0, he0, hee⟩ := Option.map_eq_some_iff.1 hei
  have hkey : e0.key = encK k := congrArg Prod.fst hee
  have hsz : i < es.size := (Array.getElem?_eq_some_iff.1 he0).1
  have he0' : es[i] = e0 := (Array.getElem?_eq_some_iff.1 he0).2
  have hsame : (es.modify i fun e => { e with key := encK k }) = es := by
   refine Array.ext (by simp) fun j h1 h2 => ?_
   rw [Array.getElem_modify]
   split
   ·rename_i e; subst e; rw [he0', ← hkey]
   ·rfl
  refine ⟨_, (e0.born : Int), ?_, hgrown w (.map es c), by simp, fun v u w2 hw2 => ?_⟩
  ·rw [h2]
   simp [Instr.mapEntry, run_underlying hT, hg, L.check, hf, Instr.keyThatStays, he0, hkey, L.same, hset w _ es c hb, goInt, hsame]
  ·rw [hblk w _ hlt] at hw2
   have hlt2 : m < w2.heap.size := (Array.getElem?_eq_some_iff.1 hw2).1
   have hg2 : (getObj m).run P w2 = .ok (.map es c) w2 := by simp [getObj, Sem.run, hw2]
   have hidx : es.findIdx? (fun e => ((e.born : Int) == (e0.born : Int))) = some i := by
    have := findIdx_born (es := es.toList) (i := i) (by simp; exact hsz) hnd
    rw [Array.getElem_toList, he0'] at this
    rw [← this]
    obtain ⟨q⟩ := es
    exact List.findIdx?_toArray _ q
   refine ⟨_, ?_, ⟨es.modify i fun e => { e with val := encV v }, c, hblk w2 _ hlt2, ?_, ?_, ?_⟩, hgrown w2 _, by simp⟩
   ·simp [Instr.entryStore, hg2, asInt, asIntOf, hidx, hset w2 _ _ _ hw2]
   ·rw [h3 v, Array.toList_modify]
    refine List.ext_getElem? fun j => ?_
    have := Zp he j
    rw [List.getElem?_map, List.getElem?_modify, List.getElem?_map, List.getElem?_set]
    by_cases hj : i = j
    ·subst hj
     simp [he0, hlt', hkey]
    ·simp only [hj, if_false, Array.getElem?_toList]
     rw [← this]
     cases es[j]? <;> rfl
   ·intro e hm
    rw [Array.toList_modify] at hm
    obtain ⟨j, hj, rfl⟩ := List.getElem_of_mem hm
    have hj' : j < es.toList.length := by simpa using hj
    rw [List.getElem_modify]
    split
    ·exact hborn (es.toList[j]'hj') (List.getElem_mem _)
    ·exact hborn (es.toList[j]'hj') (List.getElem_mem _)
   ·have e1 : (es.modify i fun e => { e with val := encV v }).toList.map (·.born) = es.toList.map (·.born) := by
     refine List.ext_getElem? fun j => ?_
     rw [Array.toList_modify, List.getElem?_map, List.getElem?_modify, List.getElem?_map]
     split <;> cases es.toList[j]? <;> rfl
    rw [e1]; exact hnd
omit [DecidableEq κ] in
end
end Go.Proofs.YtnhdmnijiphjjaaGreat
namespace Go.Proofs.YtnhdmnijiphjjaaGreat
open Go Go.RowKit Go.Maps Go.ChangeMaps Go.MapKept
def qx {κ ν : Type} (w : World) (m r : Nat) (encK : κ → Value) (encV : ν → Value) (l : List (κ × ν)) (done : List Nat) : Prop :=
 ∃ (es : Array MapEntry) (clock : Nat) (seen : Array Nat) (since c0 : Nat), w.heap[m]? = some (.map es clock) ∧ w.heap[r]? = some (.mapIter (some m) since seen c0) ∧ es.toList.map (fun e => (e.key, e.val)) = l.map (fun x => (encK x.1, encV x.2)) ∧
  (∀ x ∈ es.toList, x.born < since) ∧ (es.toList.map (·.born)).Nodup ∧ since ≤ c0 ∧ since ≤ clock ∧ (∀ i e, es[i]? = some e → (seen.contains e.born = true ↔ i ∈ done)) ∧ (∀ i ∈ done, i < l.length) ∧ done.Nodup
section
variable {κ ν : Type} {w w' : World} {m r : Nat} {encK : κ → Value} {encV : ν → Value} {l : List (κ × ν)} {done : List Nat}
theorem qx.lts (h : qx w m r encK encV l done) : m < w.heap.size ∧ r < w.heap.size ∧ r ≠ m := by
 obtain ⟨es, clock, seen, since, c0, hm, hr, rest⟩ := h
 exact ⟨(Array.getElem?_eq_some_iff.1 hm).1, (Array.getElem?_eq_some_iff.1 hr).1, fun e => by rw [e, hm] at hr; cases hr⟩
theorem qx.keep (h : qx w m r encK encV l done) (h1 : w'.heap[m]? = w.heap[m]?) (h2 : w'.heap[r]? = w.heap[r]?) : qx w' m r encK encV l done := by
 obtain ⟨es, clock, seen, since, c0, hm, hr, rest⟩ := h
 exact ⟨es, clock, seen, since, c0, h1.trans hm, h2.trans hr, rest⟩
theorem zhi (h1 : w'.heap[m]? = w.heap[m]?) (h2 : w'.heap[r]? = w.heap[r]?) : w'.rangeLeft m r = w.rangeLeft m r := by
 simp only [World.rangeLeft, h1, h2]
theorem qx.map (h : qx w m r encK encV l done) : MapAt w m encK encV l := by
 obtain ⟨es, clock, seen, since, c0, hm, hr, hk, hb, hn, h1, h2, _⟩ := h
 exact ⟨es, clock, hm, hk, fun e he => Nat.lt_of_lt_of_le (hb e he) h2, hn⟩
theorem qx.start (w : World) (h : MapAt w m encK encV l) : ∃ clock, qx (w.alloc (.mapIter (some m) clock #[] clock)) m w.heap.size encK encV l [] ∧ ∀ (P : Program) (t k e : TypeId), P.underlying t = some (.map k e) →
  (Instr.range t (.map (some m))).run P w = .ok (.pointer (some ⟨w.heap.size, 0, none⟩)) (w.alloc (.mapIter (some m) clock #[] clock)) := by
 have hlt := h.lt
 obtain ⟨es, clock, hb, he, hborn, hnd⟩ := h
 exact ⟨clock, ⟨es, clock, #[], clock, clock, (Below.heap_alloc w _ m hlt).trans hb, heap_alloc_new w _, he, hborn, hnd, Nat.le_refl _, Nat.le_refl _, fun i e _ => by simp, by simp, by simp⟩, fun P t k e ht => run_range_map (P := P) w t k e m es clock ht hb⟩
theorem qx.next {P : Program} (h : qx w m r encK encV l done) (ty : TypeId) :
  ((∀ i, i < l.length → i ∈ done) ∧ (Instr.next (.pointer (some ⟨r, 0, none⟩)) false ty).run P w = .ok (.tuple #[.bool false]) w) ∨
  ∃ i x w1, l[i]? = some x ∧ i ∉ done ∧ (Instr.next (.pointer (some ⟨r, 0, none⟩)) false ty).run P w = .ok (.tuple #[.bool true, encK x.1, encV x.2]) w1 ∧ qx w1 m r encK encV l (i :: done) ∧ w.grownBy w1 (some r) ∧ w1.heap.size = w.heap.size ∧ w1.rangeLeft m r < w.rangeLeft m r ∧
   (Instr.entry (.pointer (some ⟨r, 0, none⟩))).run P w1 = .ok (.tuple #[encK x.1, encV x.2]) w1 := by
 have hne := h.lts.2.2
 obtain ⟨es, clock, seen, since, c0, hb, hr, hk, hold, hn, hsc, hsk, hseen, hdl, hdn⟩ := h
 have hsz : es.size = l.length := by have := congrArg List.length hk; simpa using this
 rcases run_next_at (P := P) w ty r m since c0 seen es clock hr hb hold hsc with ⟨h0, hrun⟩ | ⟨e, he, w1, hal, hrun⟩
 ·left
  refine ⟨fun i hi => ?_, hrun⟩
  have hi' : i < es.size := by omega
  exact (hseen i es[i] (Array.getElem?_eq_getElem hi')).1 (all_seen es seen h0 es[i] (by simp))
 ·right
  obtain ⟨hem, hes⟩ := mem_left he
  obtain ⟨i, hi, hie⟩ := List.getElem_of_mem hem
  have hi' : i < es.size := by simpa using hi
  have hei : es[i]? = some e := by rw [Array.getElem?_eq_getElem hi']; simpa using hie
  have hil : i < l.length := by omega
  have hpair : (e.key, e.val) = (encK l[i].1, encV l[i].2) := by
   have := Zp hk i
   rw [hei, List.getElem?_eq_getElem hil] at this
   simpa using this
  have hkey : e.key = encK l[i].1 := congrArg Prod.fst hpair
  have hval : e.val = encV l[i].2 := congrArg Prod.snd hpair
  have hnd : i ∉ done := fun hd => by
   have := (hseen i e hei).2 hd
   rw [this] at hes
   cases hes
  have hr1 : w1.heap[r]? = some (.mapIter (some m) since seen c0) := by rcases hal with rfl | rfl <;> exact hr
  have hb1 : w1.heap[m]? = some (.map es clock) := by rcases hal with rfl | rfl <;> exact hb
  have hset := MapKept.heap_set (o' := .mapIter (some m) since (seen.push e.born) clock) hr1
  have hb' : (setBlock w1 r (.mapIter (some m) since (seen.push e.born) clock)).heap[m]? = some (.map es clock) := (hset.2 m (fun e1 => hne e1.symm)).trans hb1
  have hen := run_entry_at (P := P) _ r m since seen es clock e hset.1 hb' hem hn
  rw [hkey, hval] at hrun hen
  have hsh : (setBlock w1 r (.mapIter (some m) since (seen.push e.born) clock)).rangeLeft m r < w.rangeLeft m r := by
   have hrl : w.rangeLeft m r = (leftOf es seen).size := by simp only [World.rangeLeft, hb, hr]
   rw [hrl]
   have hr2 : (setBlock w1 r (.mapIter (some m) since (seen.push e.born) clock)).heap[r]? = some (.mapIter (some m) since (seen.push e.born) clock) := hset.1
   simp only [World.rangeLeft, hb', hr2]
   exact left_shrinks es seen e he
  refine ⟨i, l[i], _, List.getElem?_eq_getElem hil, hnd, hrun, ⟨es, clock, seen.push e.born, since, clock, hb', hset.1, hk, hold, hn, hsk, hsk, fun k e' hk' => ?_, fun k hk' => ?_, List.nodup_cons.2 ⟨hnd, hdn⟩⟩, ?_, ?_, hsh, hen⟩
  ·have hkb : e'.born = e.born ↔ k = i := by
    constructor
    ·intro eb
     have hk2 : k < es.toList.length := by have := (Array.getElem?_eq_some_iff.1 hk').1; simpa using this
     have h1 : (es.toList.map (·.born))[k]'(by simpa using hk2) = (es.toList.map (·.born))[i]'(by simpa using hi) := by
      have q1 : es.toList[k]'hk2 = e' := by have := (Array.getElem?_eq_some_iff.1 hk').2; simpa using this
      simp only [List.getElem_map]
      rw [q1, hie]
      exact eb
     exact (List.getElem_inj hn).1 h1
    ·rintro rfl
     rw [hei] at hk'
     cases hk'
     rfl
   rw [List.mem_cons, ← hseen k e' hk']
   simp only [Array.contains_iff_mem, Array.mem_push]
   rw [hkb, or_comm]
  ·rcases List.mem_cons.1 hk' with rfl | hk'
   ·exact hil
   ·exact hdl k hk'
  ·rcases hal with rfl | rfl <;> exact ⟨rfl, rfl, rfl, by simp [setBlock], fun i _ hi => hset.2 i (fun e1 => hi (by rw [e1]))⟩
  ·rcases hal with rfl | rfl <;> simp [setBlock]
theorem zie {P : Program} {T K E : TypeId} (hT : P.underlying T = some (.map K E)) (h : MapAt w m encK encV l) (ty : TypeId) :
  ∃ w', (Builtin.clear_ #[T] ty #[.map (some m)]).run P w = .ok (.tuple #[]) w' ∧ MapAt w' m encK encV [] ∧ w.grownBy w' (some m) ∧ w'.heap.size = w.heap.size := by
 obtain ⟨es, c, hb, he, hborn, hnd⟩ := h
 have hlt : m < w.heap.size := (Array.getElem?_eq_some_iff.1 hb).1
 have hg : (getObj m).run P w = .ok (.map es c) w := by simp [getObj, Sem.run, hb]
 have hset : ∀ o, (setObj m o).run P w = .ok () { w with heap := w.heap.setIfInBounds m o } := fun o => by simp [setObj, Sem.run, hb]
 refine ⟨{ w with heap := w.heap.setIfInBounds m (.map #[] c) }, ?_, ⟨#[], c, by simp [hlt], by simp, by simp, by simp⟩, ⟨rfl, rfl, rfl, by simp, fun i hi hne => by simp [Array.getElem?_setIfInBounds_ne (show m ≠ i from fun e => hne (by rw [e]))]⟩, by simp⟩
 simp [Builtin.clear_, run_underlying hT, hg, hset, Result.andThen]
end
end Go.Proofs.YtnhdmnijiphjjaaGreat
namespace Go.Proofs.YtnhdmnijiphjjaaGreat
open Go Go.RowKit
def xm (x : Int) : Value := .int .i64 x
def zo (x : Int × Int) : Value := .agg #[.int .i64 x.1, .int .i64 x.2]
theorem Ug (n : Nat) (k : IntKind) (a : Int) : Instr.sameBits n (.int k a) (.int k a) = true := by cases n <;> simp [Instr.sameBits]
theorem zar (n : Nat) (k : Int × Int) : Instr.sameBits (n + 1) (zo k) (zo k) = true := by simp [zo, Instr.sameBits, Ug]
theorem zm3 {P : Program} {K : TypeId} (hK : P.underlying K = some (.int .i64)) : KeyLaw P K xm where
 find k es ks h w := by
  have key : ∀ (es : List MapEntry) (ks : List Int) (i : Nat), es.map (·.key) = ks.map xm → Instr.findNow (.int .i64) (xm k) es i = some ((idxL (ks.map fun x => (x, ())) k).bind fun j => (es[j]?).map fun e => (i + j, e.val)) := by
   intro es
   induction es with
   | nil => intro ks i h; cases ks with
    | nil => rfl
    | cons _ _ => simp at h
   | cons e es ih =>
    intro ks i h
    cases ks with
    | nil => simp at h
    | cons x ks =>
     simp only [List.map_cons, List.cons.injEq] at h
     obtain ⟨h1, h2⟩ := h
     by_cases hx : k = x
     ·subst hx
      simp [Instr.findNow, h1, xm, Instr.sameNow, idxL]
     ·have hs : Instr.sameNow (.int .i64) (xm k) e.key = some false := by rw [h1]; simp [xm, Instr.sameNow, hx]
      unfold Instr.findNow
      rw [hs]
      simp only [ih ks (i + 1) h2, List.map_cons, idxL, hx, if_false]
      cases idxL (ks.map fun x => (x, ())) k with
      | none => rfl
      | some j => simp only [Option.map_some, Option.bind_some, List.getElem?_cons_succ]; congr 2; funext e; simp; omega
  have := key es ks 0 h
  simp only [Nat.zero_add] at this
  simp [Instr.findKey, run_underlying hK, this]
 check k b w := by
  have h : ∀ n, (Instr.checkKey b (n + 1) K (xm k)).run P w = .ok () w := fun n => by simp [Instr.checkKey, run_underlying hK, xm]
  exact h 9999
 same k := Ug 10000 .i64 k
structure za9 (P : Program) (K : TypeId) : Prop where
 eq : ∀ (x y : Int × Int) w, (Op.equal K (zo x) (zo y)).run P w = .ok (x.1 == y.1 && x.2 == y.2) w
 check : ∀ (k : Int × Int) (b : Bool) w, (Instr.checkKey b 10000 K (zo k)).run P w = .ok () w
 desc : ∃ fs, P.underlying K = some (.struct fs)
theorem zj2 {P : Program} {K : TypeId} (T : za9 P K) : KeyLaw P K zo where
 find k es ks h w := by
  obtain ⟨fs, hK⟩ := T.desc
  have key : ∀ (es : List MapEntry) (ks : List (Int × Int)) (i : Nat), es.map (·.key) = ks.map zo → (Instr.findAsking K (zo k) es i).run P w = .ok ((idxL (ks.map fun x => (x, ())) k).bind fun j => (es[j]?).map fun e => (i + j, e.val)) w := by
   intro es
   induction es with
   | nil => intro ks i h; cases ks with
    | nil => simp [Instr.findAsking, idxL]
    | cons _ _ => simp at h
   | cons e es ih =>
    intro ks i h
    cases ks with
    | nil => simp at h
    | cons x ks =>
     simp only [List.map_cons, List.cons.injEq] at h
     obtain ⟨h1, h2⟩ := h
     by_cases hx : k = x
     ·subst hx
      simp [Instr.findAsking, h1, T.eq, idxL]
     ·have hs : (k.1 == x.1 && k.2 == x.2) = false := by
       rw [Bool.and_eq_false_iff]
       by_cases h3 : k.1 = x.1
       ·right; rw [beq_eq_false_iff_ne]; exact fun h4 => hx (Prod.ext h3 h4)
       ·left; rw [beq_eq_false_iff_ne]; exact h3
      simp only [Instr.findAsking, h1, Sem.run_bind, T.eq, Result.andThen_ok, hs, Bool.false_eq_true, if_false, ih ks (i + 1) h2, List.map_cons, idxL, hx]
      cases idxL (ks.map fun x => (x, ())) k with
      | none => rfl
      | some j => simp only [Option.map_some, Option.bind_some, List.getElem?_cons_succ]; congr 2; funext e; simp; omega
  have := key es ks 0 h
  simp only [Nat.zero_add] at this
  cases es with
  | nil =>
   cases ks with
   | nil => simp [Instr.findKey, run_underlying hK, Instr.findNow, idxL]
   | cons _ _ => simp at h
  | cons e es => simp [Instr.findKey, run_underlying hK, Instr.findNow, Instr.sameNow, this]
 check k b w := T.check k b w
 same k := zar 9999 k
set_option maxHeartbeats 400000 in
theorem zmz : za9 Tryz.prog 133 where
 eq x y w := by
  have u3 := Tryz.underlying3
  have a3 := Tryz.isAgg3
  have z3 := Tryz.sizeOf3
  have hS : Tryz.prog.underlying 133 = some (.struct (Tryz.prog.fieldsOf 133)) := by kernel_rfl
  have hp : Tryz.prog.stoodInHeld 133 = false := by kernel_rfl
  show (Op.equalIn (9999 + 1) 133 (zo x) (zo y)).run Tryz.prog w = _
  simp only [zo]
  rw [run_equalIn_struct w 9999 133 _ _ hS hp]
  simp only [Program.fieldsOf, Tryz.underlying133]
  go_simp
  by_cases h1 : x.fst = y.fst <;> by_cases h2 : x.snd = y.snd <;> simp [h1, h2]
 check k b w := by
  have u3 := Tryz.underlying3
  have a3 := Tryz.isAgg3
  have z3 := Tryz.sizeOf3
  have h : ∀ n, (Instr.checkKey b (n + 2) 133 (zo k)).run Tryz.prog w = .ok () w := fun n => by
   simp [Instr.checkKey, run_underlying Tryz.underlying133, zo]
   go_simp
  exact h 9998
 desc := ⟨_, Tryz.underlying133⟩
def xq (x : Int × Bool) : Value := .agg #[.int .i64 x.1, .bool x.2]
theorem zjz : KeyLaw Tryz.prog 133 zo := zj2 zmz
theorem Vk : KeyLaw Tryz.prog 3 xm := zm3 Tryz.underlying3
theorem zbf (w : World) : (zeroValue 207).run Tryz.prog w = .ok (xq (0, false)) w := by kernel_rfl
theorem zan (w : World) : (zeroValue 133).run Tryz.prog w = .ok (zo (0, 0)) w := by kernel_rfl
def xy (w : World) (p m1 m2 : Nat) (l : List ((Int × Int) × (Int × Bool))) (r : List (Int × (Int × Int))) : Prop :=
 w.cell? ⟨p, 0, none⟩ = some (.map (some m1)) ∧ w.cell? ⟨p, 1, none⟩ = some (.map (some m2)) ∧ MapAt w m1 zo xq l ∧ MapAt w m2 xm zo r ∧ m1 ≠ m2
theorem jq (w : World) (p m1 m2 : Nat) (l : List ((Int × Int) × (Int × Bool))) (r : List (Int × (Int × Int))) (h : xy w p m1 m2 l r) (k : Int × Int) :
  Calls Tryz.prog 137 #[.pointer (some ⟨p, 0, none⟩), .agg #[.int .i64 k.1, .int .i64 k.2]] w fun e w' => e = .returned (.tuple #[xq ((getL l k).getD (0, false)), .bool (getL l k).isSome]) ∧ Below w.heap.size w w' := by
 obtain ⟨h0, h1, hM, hR, hne⟩ := h
 have hp : p < w.heap.size := World.block_lt_of_cell? w _ h0
 obtain ⟨x, hx⟩ : ∃ x, x = (getL l k).getD (0, false) := ⟨_, rfl⟩
 obtain ⟨b, hb⟩ : ∃ b, b = (getL l k).isSome := ⟨_, rfl⟩
 have run : ∀ W, Below w.heap.size w W → (Instr.lookup 202 (.map (some m1)) (.agg #[.int .i64 k.1, .int .i64 k.2]) true).run Tryz.prog W = .ok (.tuple #[.agg #[.int .i64 x.1, .bool x.2], .bool b]) W := fun W hW => by
  have := jc (T := 202) zjz Tryz.underlying202 (xq (0, false)) zbf (hM.below hW) k true
  rw [if_pos rfl] at this
  rw [hb]
  refine this.trans ?_
  rw [hx]
  cases getL l k <;> rfl
 rw [← hx, ← hb]
 have HB := Lib.hid run
 clear run hx hb hM hR
 unfold xq
 go_enter Tryz.func137, Tryz.ntmps137
 go_wp2_with fail
 have hb1 : Below w.heap.size w ((w.alloc (.cells #[.int .i64 k.1, .int .i64 k.2] 133)).alloc (.cells #[.int .i64 0, .bool false] 207)) := ((Below.refl _ _).alloc (Nat.le_refl _) _).alloc (by simp) _
 have p0 : ((w.alloc (.cells #[.int .i64 k.1, .int .i64 k.2] 133)).alloc (.cells #[.int .i64 0, .bool false] 207)).cell? ⟨w.heap.size, 0, none⟩ = some (.int .i64 k.1) := by go_simp
 have p1 : ((w.alloc (.cells #[.int .i64 k.1, .int .i64 k.2] 133)).alloc (.cells #[.int .i64 0, .bool false] 207)).cell? ⟨w.heap.size, 1, none⟩ = some (.int .i64 k.2) := by go_simp
 have r0 : ((w.alloc (.cells #[.int .i64 k.1, .int .i64 k.2] 133)).alloc (.cells #[.int .i64 0, .bool false] 207)).heap[w.heap.size + 1]? = some (.cells #[.int .i64 0, .bool false] 207 (0, 0)) := by
  have := heap_alloc_new (w.alloc (.cells #[.int .i64 k.1, .int .i64 k.2] 133)) (.cells #[.int .i64 0, .bool false] 207)
  rwa [World.size_alloc] at this
 have hsz : ((w.alloc (.cells #[.int .i64 k.1, .int .i64 k.2] 133)).alloc (.cells #[.int .i64 0, .bool false] 207)).heap.size = w.heap.size + 2 := by simp
 generalize (w.alloc (.cells #[.int .i64 k.1, .int .i64 k.2] 133)).alloc (.cells #[.int .i64 0, .bool false] 207) = W at hb1 p0 p1 r0 hsz ⊢
 have g0 := (hb1.cell hp).trans h0
 have al : ∀ o (a : Addr), a.block < W.heap.size → (W.alloc o).cell? a = W.cell? a := fun o a ha => ((Below.refl _ W).alloc (Nat.le_refl _) o).cell ha
 have G0 := fun o => (al o ⟨p, 0, none⟩ (by simp; omega)).trans g0
 have P0 := fun o => (al o ⟨w.heap.size, 0, none⟩ (by simp; omega)).trans p0
 have P1 := fun o => (al o ⟨w.heap.size, 1, none⟩ (by simp; omega)).trans p1
 have e1 := HB.out W.drew hb1.drew
 have e2 := fun o => HB.out (W.alloc o).drew (hb1.alloc hb1.size o).drew
 have HBW := Lib.hid hb1
 clear al h0 h1 hb1
 have HR := Lib.hid r0
 have HS := Lib.hid hsz
 clear r0 hsz
 go_region
 have f0 : W.cell? ⟨w.heap.size + 1, 0, none⟩ = some (.int .i64 0) := by rw [cell_of_row W _ 0 _ _ _ HR.out]; rfl
 have f1 : W.cell? ⟨w.heap.size + 1, 1, none⟩ = some (.bool false) := by rw [cell_of_row W _ 1 _ _ _ HR.out]; rfl
 have q0 : W.frozen? ⟨w.heap.size + 1, 0, none⟩ = false := by simp [World.frozen?, HR.out]
 have q1 : W.frozen? ⟨w.heap.size + 1, 1, none⟩ = false := by simp [World.frozen?, HR.out]
 have hlt1 : w.heap.size + 1 < W.heap.size := by have := HS.out; omega
 clear e1 e2 G0 P0 P1 p0 p1 g0
 have hb : Below w.heap.size w W := HBW.out
 go_wp2_with fail
 refine bodyPost_ret (v := .tuple #[.agg #[.int .i64 x.1, .bool x.2], .bool b]) (by simp [results, Tryz.results137, go_sem, hlt1, f0, f1]) rfl ⟨rfl, ?_⟩
 exact (((hb.setCell (by simp) _).setCell (by simp) _).alloc (by have := hb.size; simpa using this) _).drew
section
open Go Go.RowKit
structure zq where
 sure : Nat → List UInt8
 loose : Nat → Option (List UInt8)
 first : Int
 fail : Int
 fuse : Int
 down : Bool
namespace zq
def cur (D : zq) (n : Nat) : List UInt8 := (D.loose n).getD (D.sure n)
def burn (D : zq) : zq := if D.fuse = 0 then { D with down := true } else if D.down = true then D else if D.fuse > 0 then { D with fuse := D.fuse - 1 } else D
def work (D : zq) : zq × Nat :=
 if D.burn.down = true then (D.burn, 9)
 else if D.burn.first > 0 then ({ D.burn with first := D.burn.first - 1 }, 0)
 else if D.burn.fail > 0 then ({ D.burn with fail := D.burn.fail - 1 }, 6)
 else (D.burn, 0)
def write (D : zq) (n : Nat) (l : List UInt8) : zq := { D with loose := fun k => if k = n then some l else D.loose k }
def flush (D : zq) : zq := { D with sure := D.cur, loose := fun _ => none }
def Calm (D : zq) : Prop := D.first = 0 ∧ D.fail = 0 ∧ D.fuse = -1 ∧ D.down = false
theorem Calm.work {D : zq} (h : D.Calm) : D.work = (D, 0) := by
 obtain ⟨h1, h2, h3, h4⟩ := h
 have : D.burn = D := by unfold burn; rw [if_neg (by omega), if_neg (by simp [h4]), if_neg (by omega)]
 unfold zq.work
 rw [this, if_neg (by simp [h4]), if_neg (by omega), if_neg (by omega)]
theorem Vt (D : zq) : D.burn.sure = D.sure ∧ D.burn.loose = D.loose := by
 unfold burn
 split
 ·exact ⟨rfl, rfl⟩
 ·split
  ·exact ⟨rfl, rfl⟩
  ·split <;> exact ⟨rfl, rfl⟩
theorem zbm (D : zq) : D.work.1.sure = D.sure ∧ D.work.1.loose = D.loose := by
 unfold zq.work
 split
 ·exact Vt D
 ·split
  ·exact Vt D
  ·split <;> exact Vt D
theorem Xa (D : zq) : D.work.1.cur = D.cur := by
 funext n
 unfold cur
 rw [(zbm D).1, (zbm D).2]
end zq
def Y8 (w : World) (O : Nat → Prop) (v : Value) (l : List UInt8) : Prop :=
 l.length = 64 ∧ ByAt w v l ∧ ∃ b off c, v = .slice (some ⟨b, off, none⟩) 64 c ∧ O b
theorem Y8.keep {w w' : World} {O O' : Nat → Prop} {v : Value} {l : List UInt8} (h : Y8 w O v l) (hk : ∀ b, v.ownBlock = some b → b < w.heap.size → O b → O' b ∧ w'.heap[b]? = w.heap[b]?) : Y8 w' O' v l := by
 obtain ⟨h1, h2, b, off, c, rfl, h4⟩ := h
 have hlt := SlAt.lt h2 b rfl
 exact ⟨h1, SlAt.keep h2 fun b' hb' => by simp [Value.ownBlock] at hb'; subst hb'; exact (hk b rfl hlt h4).2, b, off, c, rfl, (hk b rfl hlt h4).1⟩
def qh (sv mv : Value) (D : zq) (i : Nat) : Value :=
 match i with
 | 0 => sv
 | 1 => mv
 | 2 => .int .i64 D.first
 | 3 => .int .i64 D.fail
 | 4 => .int .i64 D.fuse
 | _ => .bool D.down
def i63 : Int := 9223372036854775807
def Q4 (w : World) (O : Nat → Prop) (L : List (Int × Value)) (j : Nat) : Option (List UInt8) → Prop
 | none => getL L (j : Int) = none
 | some l => ∃ v, getL L (j : Int) = some v ∧ Y8 w O v l
structure yw (w : World) (O : Nat → Prop) (p sb off c mb : Nat) (V : Nat → Value) (L : List (Int × Value)) (D : zq) : Prop where
 op : O p
 os : O sb
 om : O mb
 ps : p ≠ sb
 row : Row w p 6 (qh (.slice (some ⟨sb, off, none⟩) 192 c) (.map (some mb)) D)
 cap : 192 ≤ c ∧ c ≤ maxLen
 cells : ∀ j, j < 192 → w.cell? ⟨sb, off + j, none⟩ = some (V j) ∧ w.frozen? ⟨sb, off + j, none⟩ = false
 sure : ∀ j, j < 192 → Y8 w O (V j) (D.sure j)
 map : MapAt w mb xm id L
 keys : ∀ x ∈ L, 0 ≤ x.1 ∧ x.1 < 192
 nd : (L.map (·.1)).Nodup
 loose : ∀ j, j < 192 → Q4 w O L j (D.loose j)
 own1 : ∀ j, j < 192 → (V j).ownBlock ≠ some p ∧ (V j).ownBlock ≠ some sb
 own2 : ∀ x ∈ L, x.2.ownBlock ≠ some p ∧ x.2.ownBlock ≠ some sb ∧ ∀ j, j < 192 → x.2.ownBlock ≠ (V j).ownBlock
 own3 : ∀ j k, j < 192 → k < 192 → j ≠ k → (V j).ownBlock ≠ (V k).ownBlock
 own4 : L.Pairwise fun x y => x.2.ownBlock ≠ y.2.ownBlock
 n1 : 0 ≤ D.first ∧ D.first ≤ i63
 n2 : 0 ≤ D.fail ∧ D.fail ≤ i63
 n3 : -1 ≤ D.fuse ∧ D.fuse ≤ i63
def jm (w : World) (O : Nat → Prop) (p : Nat) (D : zq) : Prop := ∃ sb off c mb V L, yw w O p sb off c mb V L D
theorem Zz {κ ν : Type} [DecidableEq κ] {l : List (κ × ν)} {k : κ} {v : ν} (h : getL l k = some v) : (k, v) ∈ l := by
 induction l with
 | nil => cases h
 | cons x l ih =>
  simp only [getL] at h
  split at h
  ·rename_i e
   cases h
   subst e
   exact List.mem_cons_self ..
  ·exact List.mem_cons_of_mem _ (ih h)
section
variable {w w' : World} {O O' : Nat → Prop} {p sb off c mb : Nat} {V : Nat → Value} {L : List (Int × Value)} {D : zq}
theorem yw.sbl (h : yw w O p sb off c mb V L D) : sb < w.heap.size := World.block_lt_of_cell? _ _ (h.cells 0 (by omega)).1
theorem uh {w w' : World} {a : Addr} (h : w'.heap[a.block]? = w.heap[a.block]?) : w'.frozen? a = w.frozen? a := by
 unfold World.frozen?
 rw [h]
theorem yw.loc (h : yw w O p sb off c mb V L D) (hk : ∀ k, k < w.heap.size → O k → O' k ∧ w'.heap[k]? = w.heap[k]?) : yw w' O' p sb off c mb V L D := by
 have hsb := h.sbl
 refine { h with op := (hk p h.row.lt h.op).1, os := (hk sb hsb h.os).1, om := (hk mb h.map.lt h.om).1, row := h.row.keep (hk p h.row.lt h.op).2, cells := fun j hj => ⟨(World.cell?_of_block (w := w) (hk sb hsb h.os).2).trans (h.cells j hj).1, (uh (a := ⟨sb, off + j, none⟩) (hk sb hsb h.os).2).trans (h.cells j hj).2⟩, sure := fun j hj => (h.sure j hj).keep fun b _ hb ho => hk b hb ho, map := h.map.keep (hk mb h.map.lt h.om).2, loose := fun j hj => ?_ }
 have := h.loose j hj
 revert this
 cases D.loose j with
 | none => exact fun h => h
 | some l => exact fun ⟨v, h1, h2⟩ => ⟨v, h1, h2.keep fun b _ hb ho => hk b hb ho⟩
theorem jm.loc (h : jm w O p D) (hk : ∀ k, k < w.heap.size → O k → O' k ∧ w'.heap[k]? = w.heap[k]?) : jm w' O' p D := by
 obtain ⟨sb, off, c, mb, V, L, h⟩ := h
 exact ⟨sb, off, c, mb, V, L, h.loc hk⟩
theorem yw.ctl {D' : zq} (h : yw w O p sb off c mb V L D) (hr : Row w' p 6 (qh (.slice (some ⟨sb, off, none⟩) 192 c) (.map (some mb)) D')) (hk : ∀ k, k < w.heap.size → k ≠ p → w'.heap[k]? = w.heap[k]?)
  (e1 : D'.sure = D.sure) (e2 : D'.loose = D.loose) (n1 : 0 ≤ D'.first ∧ D'.first ≤ i63) (n2 : 0 ≤ D'.fail ∧ D'.fail ≤ i63) (n3 : -1 ≤ D'.fuse ∧ D'.fuse ≤ i63) : yw w' O p sb off c mb V L D' := by
 have hsb := h.sbl
 have hpm : mb ≠ p := fun e => by
  obtain ⟨es, cl, hm, _⟩ := h.map
  obtain ⟨T, hp⟩ := h.row
  rw [e, hp] at hm
  cases hm
 refine { h with row := hr, cells := fun j hj => ⟨(World.cell?_of_block (w := w) (hk sb hsb (Ne.symm h.ps))).trans (h.cells j hj).1, (uh (a := ⟨sb, off + j, none⟩) (hk sb hsb (Ne.symm h.ps))).trans (h.cells j hj).2⟩, sure := fun j hj => ?_, map := h.map.keep (hk mb h.map.lt hpm), loose := fun j hj => ?_, n1 := n1, n2 := n2, n3 := n3 }
 ·rw [e1]
  exact (h.sure j hj).keep fun b hb hl ho => ⟨ho, hk b hl fun e => (h.own1 j hj).1 (by rw [hb, e])⟩
 ·rw [e2]
  have := h.loose j hj
  revert this
  cases D.loose j with
  | none => exact fun h => h
  | some l => exact fun ⟨v, h1, h2⟩ => ⟨v, h1, h2.keep fun b hb hl ho => ⟨ho, hk b hl fun e => (h.own2 _ (Zz h1)).1 (by rw [hb, e])⟩⟩
theorem yw.ctl1 {D' : zq} (h : yw w O p sb off c mb V L D) (i : Nat) (v : Value) (hi : i < 6) (hv : ∀ j, j < 6 → qh (.slice (some ⟨sb, off, none⟩) 192 c) (.map (some mb)) D' j = if j = i then v else qh (.slice (some ⟨sb, off, none⟩) 192 c) (.map (some mb)) D j)
  (e1 : D'.sure = D.sure) (e2 : D'.loose = D.loose) (n1 : 0 ≤ D'.first ∧ D'.first ≤ i63) (n2 : 0 ≤ D'.fail ∧ D'.fail ≤ i63) (n3 : -1 ≤ D'.fuse ∧ D'.fuse ≤ i63) : yw (w.setCell ⟨p, i, none⟩ v) O p sb off c mb V L D' ∧ Turn O w (w.setCell ⟨p, i, none⟩ v) := by
 refine ⟨h.ctl ((h.row.set hi v).congr fun j hj => (hv j hj).symm) (fun k hk hne => Below.heap_setCell w ⟨p, i, none⟩ v k hne) e1 e2 n1 n2 n3, (Turn.refl O w).set (.inl h.op) _⟩
end
end
end Go.Proofs.YtnhdmnijiphjjaaGreat
