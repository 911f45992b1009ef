/- Law 20's start: what fresh answers and leaves. -/
import Derived.Test.YtnhdmnijiphjjaaGreatJEc24
import Derived.Test.YtnhdmnijiphjjaaGreatJEc8
import Derived.Shelf.SlIter.Collect
import Derived.Shelf.SlSortCmp.NoneTotal
import Derived.Shelf.SlGeneric
import Derived.Ground.SlgfProg
import Derived.Shelf.SlLaysH0
import Derived.Test.YtnhdmnijiphjjaaGreatProg
set_option linter.unusedVariables false
set_option linter.unusedSimpArgs false
set_option maxRecDepth 100000
set_option maxHeartbeats 2000000
namespace Go.Proofs.YtnhdmnijiphjjaaGreat
open Go Go.RowKit
theorem Vq (s : Nat) : (zq.none.cur s).length = 64 := by simp [zq.none, zq.cur]
theorem Um (w : World) : Calls Tryz.prog 25 #[] w fun e w' => ∃ q x, e = .returned (ptrV q.sp) ∧ AtQ w [] q x w' ∧ StK 1 zq.none x := by
 go_enter Tryz.func25, Tryz.ntmps25
 go_wp2_with fail
 refine (zjj w).mono ?_
 rintro e w1 ⟨rfl, hp, hb, hz⟩
 obtain ⟨tag1, ht1⟩ : ∃ tag1, tag1 = retag (fun _ => 0) w 2 := ⟨_, rfl⟩
 have e1 : Hid ((∀ b, w.heap.size ≤ b → tag1 b = 2) ∧ ∀ b, b < w.heap.size → tag1 b = 0) := by rw [ht1]; exact ⟨fun b hb => zy _ _ _ _ hb, fun b hb => if_pos hb⟩
 have HP : Hid (yf w1 (fun b => tag1 b = 2) (w.heap.size + 2) (w.heap.size + 1) w.heap.size zm.none ∧ Below w.heap.size w w1) := ⟨hp.loc fun k _ ho => ⟨e1.out.1 k ho, rfl⟩, hb⟩
 clear hp hb hz ht1
 obtain ⟨pp, hpp⟩ : ∃ pp, pp = w.heap.size + 2 := ⟨_, rfl⟩
 obtain ⟨fs, hfs⟩ : ∃ fs, fs = w.heap.size + 1 := ⟨_, rfl⟩
 obtain ⟨fb, hfb⟩ : ∃ fb, fb = w.heap.size := ⟨_, rfl⟩
 rw [← hpp, ← hfs] at HP
 rw [← hpp]
 have HP2 : Hid (yf w1 (fun b => tag1 b = 2) pp fs fb zm.none ∧ Below w.heap.size w w1) := by rw [hfb]; exact HP
 clear hpp hfs hfb HP
 go_wp2_with fail
 refine (Q3 _ _ pp fs fb _ HP2.out.1 0 2 0 2 rfl rfl (by omega) (.inl rfl) rfl).mono ?_
 rintro e w2 ⟨rfl, h1, h2⟩
 have H2 : Hid (yf w2 (fun b => tag1 b = 2) pp fs fb (jf 0) ∧ Turn (fun b => tag1 b = 2) w1 w2) := Lib.hid (And.intro h1 h2)
 clear h1 h2
 go_wp2_with fail
 refine (Q3 _ _ pp fs fb _ H2.out.1 1 3 1 3 rfl rfl (by omega) (.inr rfl) (by rw [(zdh 0 1).1]; rfl)).mono ?_
 rintro e w3 ⟨rfl, h1, h2⟩
 have H3 : Hid (yf w3 (fun b => tag1 b = 2) pp fs fb (jf 1) ∧ Turn (fun b => tag1 b = 2) w1 w3) := Lib.hid (And.intro h1 (H2.out.2.trans h2))
 clear h1 h2 H2
 have hb3 : Below w.heap.size w w3 := HP2.out.2.trans (H3.out.2.Vu (fun b hb => by
  rcases Nat.lt_or_ge b w.heap.size with h | h
  ·exact absurd (e1.out.2 b h) (by omega)
  ·exact h) HP2.out.2.size)
 have HB3 := Lib.hid (And.intro hb3 e1.out.2)
 clear hb3 HP2 e1
 go_wp2_with fail
 refine (znr w3).mono ?_
 rintro e w4 ⟨rfl, hR, hb4, _⟩
 have s4 : Step (fun _ => False) tag1 w3 (retag tag1 w3 1) w4 := Step.renew 1 hb4
 have H4 : Hid (uq w4 (fun b => retag tag1 w3 1 b = 1) (w3.heap.size + 1) w3.heap.size RamS.none ∧ yf w4 (fun b => retag tag1 w3 1 b = 2) pp fs fb (jf 1) ∧ Step (fun _ => False) tag1 w3 (retag tag1 w3 1) w4) := Lib.hid ⟨hR.loc fun k _ ho => ⟨zy _ _ _ _ ho, rfl⟩, H3.out.1.loc (s4.keeps id), s4⟩
 clear hR hb4 s4
 generalize w3.heap.size + 1 = rp at H4 ⊢
 generalize w3.heap.size = rb at H4
 generalize retag tag1 w3 1 = tag4 at H4
 go_wp2_with fail
 refine (zku w4).mono ?_
 rintro e w5 ⟨rfl, hD, hb5⟩
 have s5 : Step (fun _ => False) tag4 w4 (retag tag4 w4 3) w5 := Step.renew 3 hb5
 have H5 : Hid (uq w5 (fun b => retag tag4 w4 3 b = 1) rp rb RamS.none ∧ yf w5 (fun b => retag tag4 w4 3 b = 2) pp fs fb (jf 1) ∧ jm w5 (fun b => retag tag4 w4 3 b = 3) (w4.heap.size + 1) zq.none ∧ Step (fun _ => False) tag1 w3 (retag tag4 w4 3) w5) := Lib.hid ⟨H4.out.1.loc (s5.keeps id), H4.out.2.1.loc (s5.keeps id), hD.loc fun k _ ho => ⟨zy _ _ _ _ ho, rfl⟩, H4.out.2.2.trans s5⟩
 clear hD hb5 s5 H4
 generalize w4.heap.size + 1 = dp at H5 ⊢
 generalize retag tag4 w4 3 = tag5 at H5
 have SN := Lib.hid (zix (w := w5) (tag := tag5) rp rb pp fs fb dp H5.out.1 H5.out.2.1 H5.out.2.2.1)
 unfold ptrV at SN
 go_wp2_with fail
 refine SN.out.mono ?_
 rintro e w6 ⟨q, tag6, rfl, hS, s6⟩
 have h6 : AtQ w [] q (za.start RamS.none (jf 1) zq.none) w6 := by
  have st := H5.out.2.2.2.trans s6
  have hb := HB3.out.1.trans (st.turn.below.mono HB3.out.1.size)
  exact ⟨⟨tag6, hS, fun b hb' => (st.keeps (c := 0) id b (by have := HB3.out.1.size; omega) (HB3.out.2 b hb')).1, fun p hp => by cases hp⟩, hb⟩
 have H6 := Lib.hid h6
 clear hS s6 SN h6 H5 H3 HB3
 obtain ⟨g, hg⟩ := zjr (P := jf 1) (by have := Jz 1; omega)
 have ok6 : Ok0 (za.start RamS.none (jf 1) zq.none) := zef (jf 1) zq.none (fun f => by rw [Vd]; split <;> omega) fun s _ => Vq s
 have SP := Lib.hid (H6.out.spawn ok6 0 g (by omega) rfl hg)
 have I0 := Lib.hid (StI.start (D := zq.none) (fun s _ => Vq s) hg)
 unfold ptrV at SP
 clear hg
 go_wp2_with fail
 refine SP.out.mono ?_
 rintro e w7 ⟨rfl, u, h7⟩
 have e7 : (q.at_ 0 u).sp = q.sp := rfl
 generalize q.at_ 0 u = q7 at h7 e7
 rw [← e7]
 have H7 := Lib.hid h7
 clear h7 SP H6 ok6 e7
 obtain ⟨x7, hx7⟩ : ∃ x7, x7 = (za.start RamS.none (jf 1) zq.none).qy 0 g := ⟨_, rfl⟩
 rw [← hx7] at H7 I0
 clear hx7
 obtain ⟨T, hT⟩ := I0.out.proc
 have HT := Lib.hid hT
 clear hT
 have M1 := Lib.hid (H7.out.map I0.out.ok 0 HT.out arO Vv.1.1 Vv.1.2 Zm.2.2.1 (by simp))
 rw [za3] at M1
 have I1 : Hid (StI 1 zq.none [arO] _ _) := Lib.hid (I0.out.map HT.out Vv.1.1 Zm.2.2.1 (by simp) (by rw [za3]; simp) (by rw [za3]; simp))
 go_wp2_with fail
 refine M1.out.mono ?_
 rintro e w8 ⟨rfl, h8⟩
 have H8 := Lib.hid h8
 clear h8 M1 H7
 have hT1 : (x7.put 0 ⟨T, [arO], []⟩).T 0 = some ⟨T, [arO], []⟩ := by simp [za.put]
 have M2 := Lib.hid (H8.out.map I1.out.ok 0 hT1 arS Vv.2.1.1 Vv.2.1.2 Zm.2.2.2.1 (by simp))
 have I2 := Lib.hid (I1.out.map hT1 Vv.2.1.1 Zm.2.2.2.1 (by simp) (by rw [Zm.1]; simp) (by rw [Zm.1]; simp [arO, arS]))
 rw [show insA ([arO] : List Ar) arS = [arO, arS] from Zm.1] at M2 I2
 clear hT1
 go_wp2_with fail
 refine M2.out.mono ?_
 rintro e w9 ⟨rfl, h9⟩
 have H9 := Lib.hid h9
 clear h9 M2 H8
 have hT2 : ((x7.put 0 ⟨T, [arO], []⟩).put 0 ⟨T, [arO, arS], []⟩).T 0 = some ⟨T, [arO, arS], []⟩ := by simp [za.put]
 have M3 := Lib.hid (H9.out.map I2.out.ok 0 hT2 arP Vv.2.2.1 Vv.2.2.2 Zm.2.2.2.2 (by simp))
 have I3 := Lib.hid (I2.out.map hT2 Vv.2.2.1 Zm.2.2.2.2 (by simp) (by rw [Zm.2.1]; simp) (by rw [Zm.2.1]; simp [arO, arS, arP]))
 rw [Zm.2.1] at M3 I3
 clear hT2
 go_wp2_with fail
 refine M3.out.mono ?_
 rintro e w10 ⟨rfl, h10⟩
 have H10 := Lib.hid h10
 clear h10 M3 H9
 go_wp2_with fail
 exact bodyPost_ret (v := .pointer (some ⟨q7.sp, 0, none⟩)) (by simp [results, Tryz.results25, go_sem]) rfl ⟨q7, _, rfl, H10.out, I3.out.done⟩
theorem zq.Calm.write {D : zq} (h : D.Calm) (s : Nat) (l : List UInt8) : (D.write s l).Calm := h
theorem outK {x : za} (h : StK 1 zq.none x) : (∀ p, p < 24 → PgOk x.abs (arK p) 0 p) ∧ x.D.Calm ∧ (x.T 0).isSome = true := by
 refine ⟨fun p hp => by rw [h.abs]; exact zis (fun s _ => Vq s) hp, by rw [h.disk]; exact zq.zb3, ?_⟩
 obtain ⟨T, hT⟩ := h.proc
 rw [hT]; rfl
section
variable {x y : za} {X : Abs}
def za.yx (x : za) (l : List (Int × Int)) : za := l.foldl (fun y k => (y.xx k).2) x
def Abs.Vs (X : Abs) (l : List (Int × Int)) : Abs := l.foldl Abs.clean X
structure SyncD (x : za) (l : List (Int × Int)) (y : za) : Prop where
 ok : Ok0 y
 calm : y.D.Calm
 keys : ∀ q, (getL y.CL q).isSome = (getL x.CL q).isSome
 cfr : ∀ q, y.cfr q = x.cfr q
 abs : y.abs = x.abs.Vs l
 same : y.P = x.P ∧ y.B = x.B ∧ y.S = x.S ∧ y.T = x.T ∧ y.R = x.R ∧ y.CR = x.CR
 ent : ∀ m pg, y.ent m pg = x.ent m pg
theorem Ok0.yx : ∀ (l : List (Int × Int)) {x : za}, Ok0 x → x.D.Calm → (∀ q ∈ l, (getL x.CL q).isSome = true) → SyncD x l (x.yx l)
 | [], x, h, hc, _ => ⟨h, hc, fun _ => rfl, fun _ => rfl, rfl, ⟨rfl, rfl, rfl, rfl, rfl, rfl⟩, fun _ _ => rfl⟩
 | k :: l, x, h, hc, hl => by
  have hs := hl k (List.mem_cons_self ..)
  obtain ⟨v, hv⟩ := Option.isSome_iff_exists.1 hs
  obtain ⟨_, c⟩ := h.xx (h.ok.cacheK k v hv) hs (fun _ => by rw [hc.work])
  have hcl : ∀ q, (getL (x.xx k).2.CL q).isSome = (getL x.CL q).isSome := fun q => by
   rw [c.cl]; split
   ·cases getL x.CL q <;> rfl
   ·rfl
  have hcf : ∀ q, (x.xx k).2.cfr q = x.cfr q := fun q => by
   unfold za.cfr
   rw [c.cl]; split
   ·cases getL x.CL q <;> rfl
   ·rfl
  have hcalm : (x.xx k).2.D.Calm := by
   rw [c.disk]; split
   ·rw [hc.work]; exact hc.write _ _
   ·exact hc
  have ih := Ok0.yx l c.ok hcalm fun q hq => by rw [hcl]; exact hl q (List.mem_cons_of_mem _ hq)
  have e0 : x.yx (k :: l) = ((x.xx k).2).yx l := rfl
  rw [e0]
  obtain ⟨s1, s2, s3, s4, s5, s6⟩ := c.same
  obtain ⟨t1, t2, t3, t4, t5, t6⟩ := ih.same
  exact ⟨ih.ok, ih.calm, fun q => (ih.keys q).trans (hcl q), fun q => (ih.cfr q).trans (hcf q), by rw [ih.abs, c.abs]; rfl, ⟨t1.trans s1, t2.trans s2, t3.trans s3, t4.trans s4, t5.trans s5, t6.trans s6⟩, fun m pg => (ih.ent m pg).trans (c.ent m pg)⟩
theorem zbp {p q : Int × Int} (hp : xc p) (hq : xc q) (h : za.yc p = za.yc q) : p = q := by
 unfold xc at hp hq
 unfold za.yc at h
 exact Prod.ext (by omega) (by omega)
theorem zif (X : Abs) (k : Int × Int) (hk : xc k) : (X.clean k).pv = X.pv ∧ (X.clean k).A = X.A ∧ (X.clean k).file = X.file ∧ ∀ q, xc q → (X.clean k).yt q = (if q = k then false else X.yt q) ∧ (X.clean k).cur (za.yc q) = if q = k ∧ X.yt q = true then X.file q else X.cur (za.yc q) := by
 unfold Abs.clean
 by_cases hd : X.yt k = true
 ·rw [if_pos hd]
  refine ⟨rfl, rfl, rfl, fun q hq => ⟨rfl, ?_⟩⟩
  show (if za.yc q = za.yc k then X.file k else X.cur (za.yc q)) = _
  by_cases e : q = k
  ·rw [if_pos (by rw [e]), if_pos ⟨e, by rw [e]; exact hd⟩, e]
  ·rw [if_neg fun z => e (zbp hq hk z), if_neg fun z => e z.1]
 ·rw [if_neg hd]
  refine ⟨rfl, rfl, rfl, fun q hq => ⟨?_, ?_⟩⟩
  ·by_cases e : q = k
   ·rw [if_pos e, e]; simpa using hd
   ·rw [if_neg e]
  ·rw [if_neg]
   rintro ⟨e, z⟩
   rw [e] at z
   exact hd z
theorem zad : ∀ (l : List (Int × Int)) (X : Abs), (∀ q ∈ l, xc q) → (X.Vs l).pv = X.pv ∧ (X.Vs l).A = X.A ∧ (X.Vs l).file = X.file ∧ ∀ q, xc q → (X.Vs l).yt q = (if q ∈ l then false else X.yt q) ∧ (X.Vs l).cur (za.yc q) = if q ∈ l ∧ X.yt q = true then X.file q else X.cur (za.yc q)
 | [], X, _ => ⟨rfl, rfl, rfl, fun q _ => ⟨by rw [if_neg (by simp)]; rfl, by rw [if_neg (by simp)]; rfl⟩⟩
 | k :: l, X, hl => by
  obtain ⟨a1, a2, a3, a4⟩ := zif X k (hl k (List.mem_cons_self ..))
  obtain ⟨b1, b2, b3, b4⟩ := zad l (X.clean k) fun q hq => hl q (List.mem_cons_of_mem _ hq)
  have e0 : X.Vs (k :: l) = (X.clean k).Vs l := rfl
  rw [e0]
  refine ⟨b1.trans a1, b2.trans a2, b3.trans a3, fun q hq => ?_⟩
  obtain ⟨c1, c2⟩ := b4 q hq
  obtain ⟨d1, d2⟩ := a4 q hq
  rw [c1, c2, d1, d2, a3]
  by_cases e : q = k
  ·rw [if_pos e, if_pos (show q ∈ k :: l by rw [e]; simp)]
   refine ⟨by split <;> rfl, ?_⟩
   rw [if_neg (by simp)]
   by_cases z : X.yt q = true
   ·rw [if_pos ⟨e, z⟩, if_pos ⟨by rw [e]; simp, z⟩]
   ·rw [if_neg fun y => z y.2, if_neg fun y => z y.2]
  ·rw [if_neg e]
   have hm : q ∈ k :: l ↔ q ∈ l := by simp [e]
   refine ⟨zaa hm.symm _ _, ?_⟩
   by_cases z : q ∈ l ∧ X.yt q = true
   ·rw [if_pos z, if_pos ⟨hm.2 z.1, z.2⟩]
   ·rw [if_neg z, if_neg (fun y => e y.1), if_neg (fun y => z ⟨hm.1 y.1, y.2⟩)]
theorem Ok0.zm9 (h : Ok0 x) (hc : x.D.Calm) : Ok0 { x with D := x.D.flush } ∧ za.abs { x with D := x.D.flush } = x.abs ∧ x.D.flush.Calm := by
 have hcur : x.D.flush.cur = x.D.cur := by funext s; unfold zq.flush zq.cur; rfl
 refine ⟨h.disk _ fun s hs => by rw [hcur]; exact h.ok.wf.secs s hs, ?_, hc⟩
 have s : Same x { x with D := x.D.flush } := by
  refine ⟨fun _ => rfl, fun n page hp => ?_, fun k _ => ?_, hcur, fun _ => rfl⟩
  ·unfold za.pv
   dsimp only
   cases x.T n with
   | none => rfl
   | some pr =>
    dsimp only
    cases yg pr.A (page : Int) with
    | none => rfl
    | some a => exact Xc rfl hcur fun _ => rfl
  ·unfold za.uo
   dsimp only
   rw [hcur]
 exact s.abs
end
end Go.Proofs.YtnhdmnijiphjjaaGreat
namespace Go.Proofs.YtnhdmnijiphjjaaGreat
open Go Go.RowKit Go.Maps Go.ChangeMaps Go.MapKept
def vo (w : World) (m r : Nat) (keys ss : List (Int × Int)) : Prop :=
 ∃ (es : Array MapEntry) (clock : Nat) (seen : Array Nat) (since c0 : Nat) (T : List MapEntry), w.heap[m]? = some (.map es clock) ∧ w.heap[r]? = some (.mapIter (some m) since seen c0) ∧ es.toList.map (·.key) = keys.map zo ∧
  (∀ x ∈ es.toList, x.born < since) ∧ (es.toList.map (·.born)).Nodup ∧ since ≤ c0 ∧ since ≤ clock ∧ T.map (·.key) = ss.map zo ∧ seen.toList = T.map (·.born) ∧ (∀ e ∈ T, e ∈ es.toList) ∧ (T.map (·.born)).Nodup
theorem Ui {α β : Type} {f : α → β} {l : List α} (h : (l.map f).Nodup) : l.Nodup := by
 unfold List.Nodup at h ⊢
 rw [List.pairwise_map] at h
 exact h.imp fun hab e => hab (by rw [e])
theorem zcc {es : List MapEntry} (h : (es.map (·.born)).Nodup) {x y : MapEntry} (hx : x ∈ es) (hy : y ∈ es) (e : x.born = y.born) : x = y := by
 induction es with
 | nil => cases hx
 | cons a l ih =>
  obtain ⟨h1, h2⟩ := List.nodup_cons.1 h
  rcases List.mem_cons.1 hx with rfl | hx'
  ·rcases List.mem_cons.1 hy with rfl | hy'
   ·rfl
   ·exact absurd (by show x.born ∈ _; rw [e]; exact List.mem_map_of_mem (f := (·.born)) hy') h1
  ·rcases List.mem_cons.1 hy with rfl | hy'
   ·exact absurd (by show y.born ∈ _; rw [← e]; exact List.mem_map_of_mem (f := (·.born)) hx') h1
   ·exact ih h2 hx' hy'
theorem Vj : ∀ (l m : List Nat), l.Nodup → (∀ x ∈ l, x ∈ m) → l.length ≤ m.length
 | [], _, _, _ => Nat.zero_le _
 | x :: l, m, h, hs => by
  obtain ⟨h1, h2⟩ := List.nodup_cons.1 h
  have := Vj l (m.erase x) h2 (fun y hy => (List.mem_erase_of_ne (fun e => h1 (by rw [← e]; exact hy))).2 (hs y (by simp [hy])))
  rw [List.length_erase_of_mem (hs x (by simp))] at this
  have := List.length_pos_of_mem (hs x (by simp))
  simp only [List.length_cons]
  omega
def zk8 : Value → Int × Int
 | .agg #[.int _ a, .int _ b] => (a, b)
 | _ => (0, 0)
theorem Jq (l : List (Int × Int)) : (l.map zo).map zk8 = l := by
 rw [List.map_map]
 exact (List.map_congr_left (g := id) (fun a _ => rfl)).trans (List.map_id _)
theorem vo.done {w : World} {m r : Nat} {keys ss : List (Int × Int)} (h : vo w m r keys ss) (hl : w.rangeLeft m r = 0) : ss.Perm keys := by
 obtain ⟨es, clock, seen, since, c0, T, hm, hr, hk, hb, hn, h1, h2, hT, hs, hTe, hTn⟩ := h
 simp only [World.rangeLeft, hm, hr] at hl
 have hall := all_seen es seen hl
 have hp : T.Perm es.toList := by
  refine (List.perm_ext_iff_of_nodup (Ui hTn) (Ui hn)).2 fun e => ⟨fun he => hTe e he, fun he => ?_⟩
  have h3 := hall e he
  have h4 : e.born ∈ seen.toList := by simpa using h3
  rw [hs] at h4
  obtain ⟨y, hy, he2⟩ := List.mem_map.1 h4
  rw [zcc hn he (hTe y hy) he2.symm]
  exact hy
 have h5 := ((hp.map (·.key)).map zk8)
 rw [hT, hk, Jq, Jq] at h5
 exact h5
theorem vo.kept {w w' : World} {m r : Nat} {keys ss : List (Int × Int)} (h : vo w m r keys ss) (h1 : w'.heap[m]? = w.heap[m]?) (h2 : w'.heap[r]? = w.heap[r]?) : vo w' m r keys ss := by
 obtain ⟨es, clock, seen, since, c0, T, hm, hr, rest⟩ := h
 exact ⟨es, clock, seen, since, c0, T, h1.trans hm, h2.trans hr, rest⟩
theorem vo.of_walks {w w' : World} {m r : Nat} {keys ss : List (Int × Int)} (h : vo w m r keys ss) (hk : KeepsWalks w w') : vo w' m r keys ss := by
 obtain ⟨es, clock, seen, since, c0, T, hm, hr, rest⟩ := h
 exact ⟨es, clock, seen, since, c0, T, hk.same m _ hm rfl, hk.same r _ hr rfl, rest⟩
theorem vo.J8 {w w' : World} {m r : Nat} {keys ss : List (Int × Int)} (h : vo w m r keys ss) (hk : KeepsWalks w w') : w'.rangeLeft m r = w.rangeLeft m r := by
 obtain ⟨es, clock, seen, since, c0, T, hm, hr, rest⟩ := h
 simp only [World.rangeLeft, hm, hr, hk.same m _ hm rfl, hk.same r _ hr rfl]
theorem vo.iter_walk {w : World} {m r : Nat} {keys ss : List (Int × Int)} (h : vo w m r keys ss) : ∃ o : Obj, w.heap[r]? = some o ∧ o.isWalk = true := by
 obtain ⟨es, clock, seen, since, c0, T, hm, hr, rest⟩ := h
 exact ⟨_, hr, rfl⟩
theorem vo.lts {w : World} {m r : Nat} {keys ss : List (Int × Int)} (h : vo w m r keys ss) : m < w.heap.size ∧ r < w.heap.size ∧ r ≠ m := by
 obtain ⟨es, clock, seen, since, c0, T, hm, hr, rest⟩ := h
 exact ⟨(Array.getElem?_eq_some_iff.1 hm).1, (Array.getElem?_eq_some_iff.1 hr).1, fun e => by rw [e, hm] at hr; cases hr⟩
section
variable {F : Fence} {n : Nat} {P : Program} {ν : Type} {encV : ν → Value} {w : World} {ops : Array Oper} {rest : List Oper} {o : Oper} {a : Act} {Q : Exit → Act → World → Prop}
theorem Xp (hg : o.guard = none) (mo : Operand) (t : TypeId) (hop : o.op = Op.range t mo) (k e : TypeId) (ht : P.underlying t = some (.map k e)) (m : Nat) (l : List ((Int × Int) × ν))
  (hm : a.eval mo = .map (some m)) (h : MapAt w m zo encV l)
  (hK : ∀ w', vo w' m w.heap.size (l.map (·.1)) [] → w.grownBy w' none → w'.heap.size = w.heap.size + 1 → wpListIn F n P ops Q rest (a.put o.dst (.pointer (some ⟨w.heap.size, 0, none⟩))) w') :
  wpListIn F n P ops Q (o :: rest) a w := by
 refine wpListIn_plain hg fun K' hK' => ?_
 have hlt := h.lt
 obtain ⟨es, clock, hb, he, hborn, hnd⟩ := h
 have hrun := run_range_map (P := P) w t k e m es clock ht hb
 have hkeys : es.toList.map (·.key) = (l.map (·.1)).map zo := Un he
 have r1 : vo (w.alloc (.mapIter (some m) clock #[] clock)) m w.heap.size (l.map (·.1)) [] :=
  ⟨es, clock, #[], clock, clock, [], (Below.heap_alloc w _ m hlt).trans hb, heap_alloc_new w _, hkeys, hborn, hnd, Nat.le_refl _, Nat.le_refl _, rfl, rfl, by simp, by simp⟩
 unfold Oper.wpIn
 refine ⟨?_, ?_⟩
 ·simp [Oper.about, hop]
 ·rw [Oper.semAt_plain F _ _ (by rw [hop]; intro c hc'; cases hc')]
  simp [execOp, hop, hm, hrun, Result.andThen]
  exact hK' _ _ (hK _ r1 (World.grownBy_alloc w _ none) (by simp))
theorem X3 (hg : o.guard = none) (it : Operand) (hop : o.op = Op.next it false) (m r : Nat) (keys ss : List (Int × Int)) (hit : a.eval it = .pointer (some ⟨r, 0, none⟩)) (h : vo w m r keys ss)
  (hDone : ss.Perm keys → wpListIn F n P ops Q rest (a.put o.dst (.tuple #[.bool false])) w)
  (hMore : ∀ (x : Int × Int) (v : Value) (w' : World), ss.length < keys.length → vo w' m r keys (ss ++ [x]) → w'.rangeLeft m r < w.rangeLeft m r → w.grownBy w' (some r) → w'.heap.size = w.heap.size →
   (Instr.entry (.pointer (some ⟨r, 0, none⟩))).run P w' = .ok (.tuple #[.agg #[.int .i64 x.1, .int .i64 x.2], v]) w' → wpListIn F n P ops Q rest (a.put o.dst (.tuple #[.bool true, .agg #[.int .i64 x.1, .int .i64 x.2], v])) w') :
  wpListIn F n P ops Q (o :: rest) a w := by
 refine wpListIn_plain hg fun K' hK' => ?_
 unfold Oper.wpIn
 refine ⟨by simp [Oper.about, hop], ?_⟩
 rw [Oper.semAt_plain F _ _ (by rw [hop]; intro c hc'; cases hc')]
 have hd := h.done
 have hne := h.lts.2.2
 obtain ⟨es, clock, seen, since, c0, T, hb, hr, hk, hold, hn, hsc, hsk, hT, hs, hTe, hTn⟩ := h
 have hrl : w.rangeLeft m r = (leftOf es seen).size := by simp only [World.rangeLeft, hb, hr]
 rcases run_next_at (P := P) w o.type r m since c0 seen es clock hr hb hold hsc with ⟨h0, hrun⟩ | ⟨e, he, w1, hal, hrun⟩
 ·simp [execOp, hop, hit, hrun, Result.andThen]
  exact hK' _ _ (hDone (hd (hrl.trans h0)))
 ·obtain ⟨hem, hes⟩ := mem_left he
  have hr1 : w1.heap[r]? = some (.mapIter (some m) since seen c0) := by rcases hal with rfl | rfl <;> exact hr
  have hb1 : w1.heap[m]? = some (.map es clock) := by rcases hal with rfl | rfl <;> exact hb
  have hset := MapKept.heap_set (o' := .mapIter (some m) since (seen.push e.born) clock) hr1
  have hb' : (setBlock w1 r (.mapIter (some m) since (seen.push e.born) clock)).heap[m]? = some (.map es clock) := (hset.2 m (fun e1 => hne e1.symm)).trans hb1
  have hmk : e.key ∈ keys.map zo := by rw [← hk]; exact List.mem_map_of_mem hem
  obtain ⟨x, hx, hxe⟩ := List.mem_map.1 hmk
  have hnt : e.born ∉ T.map (·.born) := by
   rw [← hs]
   intro hc
   have : seen.contains e.born = true := by simpa using hc
   rw [this] at hes
   cases hes
  have hlen : ss.length < keys.length := by
   have h1 : (e.born :: T.map (·.born)).Nodup := List.nodup_cons.2 ⟨hnt, hTn⟩
   have h3 := Vj _ (es.toList.map (·.born)) h1 (fun y hy => by
    rcases List.mem_cons.1 hy with rfl | hy
    ·exact List.mem_map_of_mem (f := (·.born)) hem
    ·obtain ⟨z, hz, rfl⟩ := List.mem_map.1 hy
     exact List.mem_map_of_mem (f := (·.born)) (hTe z hz))
   have h4 := congrArg List.length hT
   have h5 := congrArg List.length hk
   simp at h3 h4 h5
   omega
  have hen := run_entry_at (P := P) _ r m since seen es clock e hset.1 hb' hem hn
  have hw' : w.grownBy (setBlock w1 r (.mapIter (some m) since (seen.push e.born) clock)) (some r) := by rcases hal with rfl | rfl <;> exact ⟨rfl, rfl, rfl, by simp [setBlock], fun i _ hi => hset.2 i (fun e1 => hi (by rw [e1]))⟩
  have hsz : (setBlock w1 r (.mapIter (some m) since (seen.push e.born) clock)).heap.size = w.heap.size := by rcases hal with rfl | rfl <;> simp [setBlock]
  have hR : vo (setBlock w1 r (.mapIter (some m) since (seen.push e.born) clock)) m r keys (ss ++ [x]) :=
   ⟨es, clock, seen.push e.born, since, clock, T ++ [e], hb', hset.1, hk, hold, hn, hsk, hsk, by rw [List.map_append, List.map_append, hT]; simp [hxe], by simp [hs], fun y hy => by
    rcases List.mem_append.1 hy with hy | hy
    ·exact hTe y hy
    ·rw [List.mem_singleton.1 hy]; exact hem, by
    rw [List.map_append]
    refine List.nodup_append.2 ⟨hTn, by simp, fun a ha b hb2 => ?_⟩
    intro eab
    simp at hb2
    subst hb2
    exact hnt (eab ▸ ha)⟩
  have hsh : (setBlock w1 r (.mapIter (some m) since (seen.push e.born) clock)).rangeLeft m r < w.rangeLeft m r := by
   rw [hrl]
   have hr2 : (setBlock w1 r (.mapIter (some m) since (seen.push e.born) clock)).heap[r]? = some (.mapIter (some m) since (seen.push e.born) clock) := hset.1
   simp only [World.rangeLeft, hb', hr2]
   exact left_shrinks es seen e he
  have hke : e.key = .agg #[.int .i64 x.1, .int .i64 x.2] := hxe.symm
  rw [hke] at hrun hen
  simp [execOp, hop, hit, hrun, Result.andThen]
  exact hK' _ _ (hMore x e.val _ hlen hR hsh hw' hsz hen)
end
theorem keysIter_in {ν : Type} {encV : ν → Value} (F : Fence) (n : Nat) (hf : F.fn 197) (hro : F.round = none) (hn : 1 ≤ n) (l Bm m : Nat) (L : List ((Int × Int) × ν)) (J : List (Int × Int) → World → Prop)
  (hY : ∀ pre x W, J pre W → pre.length < L.length → YieldAt F (n - 1) Tryz.prog l #[zo x] W fun e W' => e = .returned (.bool true) ∧ J (pre ++ [x]) W' ∧ KeepsWalks W W')
  (W : World) (hJ : AbidesFrom W.heap.size J) (hm : W.cell? ⟨Bm, 0, none⟩ = some (.map (some m))) (hown : MapAt W m zo encV L) (h0 : J [] W) :
  CallsIn F n Tryz.prog 197 #[.func (.yield l) #[] #[], .pointer (some ⟨Bm, 0, none⟩)] W fun e W' => (∃ v, e = .returned v) ∧ ∃ ss : List (Int × Int), ss.Perm (L.map (·.1)) ∧ J ss W' := by
 refine callsIn_of_wp Tryz.func197 rfl hf ?_ hro
 simp only [Tryz.ntmps197, List.size_toArray, List.length_cons, List.length_nil, Nat.reduceAdd, Nat.reduceSub, Array.replicate_succ, Array.replicate_zero, List.push_toArray, List.append_toArray, List.nil_append, List.cons_append]
 gi_wp2_with (first
  | (gi_at_range; refine Xp rfl _ 202 rfl 133 207 Tryz.underlying202 m L rfl hown ?_; intro w0 hrg0 hg0 hs0)
  | gi_in)
 go_frame
 gi_loopw [3] (fun _ wr => ∃ ss : List (Int × Int), vo wr m W.heap.size (L.map (·.1)) ss ∧ J ss wr) (fun _ wr => wr.rangeLeft m W.heap.size)
 case atStart => exact ⟨[], hrg0, hJ [] W w0 none h0 hg0 (fun r e => by cases e)⟩
 case round =>
  obtain ⟨ss, hrg, hJs⟩ := hrel
  gi_wp2_with (first
   | (gi_at_next; refine X3 rfl _ rfl m W.heap.size (L.map (·.1)) ss rfl hrg ?_ ?_)
   | gi_in)
  ·intro hp
   gi_wp2
   go_end0
   exact ⟨⟨_, rfl⟩, ss, hp, hJs⟩
  ·intro x1 x2 v w2 hlen hrg2 hlt hg2 hs2 hen
   have hJ2 : J ss w2 := hJ ss wr w2 (some W.heap.size) hJs hg2 (fun r e => by cases e; exact ⟨Nat.le_refl _, hrg.iter_walk⟩)
   have hl2 := hrg2.lts
   have hJ3 : J ss (w2.alloc (.cells #[.int .i64 x1, .int .i64 x2] 133)) := hJ ss w2 _ none hJ2 (World.grownBy_alloc w2 _ none) (fun r e => by cases e)
   have hrg3 : vo (w2.alloc (.cells #[.int .i64 x1, .int .i64 x2] 133)) m W.heap.size (L.map (·.1)) (ss ++ [(x1, x2)]) := hrg2.kept (Below.heap_alloc w2 _ m hl2.1) (Below.heap_alloc w2 _ _ hl2.2.1)
   have hk3 : (w2.alloc (.cells #[.int .i64 x1, .int .i64 x2] 133)).rangeLeft m W.heap.size = w2.rangeLeft m W.heap.size := hrg2.J8 (KeepsWalks.alloc _ _)
   obtain ⟨fn, tmps, assign, body, hy, hR⟩ := hY ss (x1, x2) _ hJ3 hlen
   simp only [zo] at hy
   clear hs2
   gi_wp2
   refine hR.mono ?_
   rintro e W3 ⟨rfl, hJ4, hk4⟩
   gi_wp2
   have hrg4 := hrg3.of_walks hk4
   go_roundw
   case rel => exact ⟨ss ++ [(x1, x2)], hrg4, hJ4⟩
   case measure => rw [hrg3.J8 hk4, hk3]; exact hlt
end Go.Proofs.YtnhdmnijiphjjaaGreat
namespace Go.Proofs.YtnhdmnijiphjjaaGreat
open Go Go.RowKit Go.Maps
def kc (l : List (Int × Int)) : List Value := l.flatMap fun x => [.int .i64 x.1, .int .i64 x.2]
theorem zm4 (l : List (Int × Int)) (x : Int × Int) : kc (l ++ [x]) = kc l ++ [.int .i64 x.1, .int .i64 x.2] := by simp [kc]
theorem zm5 : ∃ i, Tryz.prog.info? 133 = some i ∧ i.zero = some (.agg #[.int .i64 0, .int .i64 0]) ∧ i.size = 2 ∧ i.bytes = 16 := by
 have h : (Tryz.prog.info? 133).map (fun i => (i.zero, i.size, i.bytes)) = some (some (.agg #[.int .i64 0, .int .i64 0]), 2, 16) := by kernel_rfl
 obtain ⟨i, hi, hb⟩ := Option.map_eq_some_iff.1 h
 simp at hb
 exact ⟨i, hi, hb⟩
theorem zho {ν : Type} {encV : ν → Value} (F : Fence) (n : Nat) (hf : F.fn 197) (hro : F.round = none) (hn : 1 ≤ n) (Bm m : Nat) (L : List ((Int × Int) × ν)) (w : World) (hBm : Bm < w.heap.size)
  (hm : w.cell? ⟨Bm, 0, none⟩ = some (.map (some m))) (hown : MapAt w m zo encV L) :
  SeqGives F n Tryz.prog 197 #[.pointer (some ⟨Bm, 0, none⟩)] zo (fun ss => ss.Perm (L.map (·.1))) L.length w := fun l J W hW hJ hY h0 =>
 keysIter_in F n hf hro hn l Bm m L J hY W hJ ((hW.cell (p := ⟨Bm, 0, none⟩) hBm).trans hm) (hown.keep (hW.block m hown.lt)) h0
theorem zgc (W : World) (mb : Option Nat) : Calls Tryz.prog 157 #[.map mb] W fun e w' => e = .returned (.func (.func 197) #[] #[.pointer (some ⟨W.heap.size, 0, none⟩)]) ∧ w' = W.alloc (.cells #[.map mb] 202) := by
 go_enter Tryz.func157, Tryz.ntmps157
 go_wp2_with fail
 go_ret
 exact ⟨rfl, rfl⟩
def apAssign : Code := (Code.region 2 #[{ dst := some 5, op := Op.alloc 133, type := 0, pos := "iter.go:51", after := #[], guard := none }, { dst := none, op := Op.store 133 (Operand.tmp 5) (Operand.tmp 7), type := 0, pos := "iter.go:51", after := #[{ on := 0, ground := Ground.data }, { on := 0, ground := Ground.phase }], guard := none }] false)
def apBody : Code := (Code.block 1 (Code.region 3 #[{ dst := some 8, op := Op.load 170 (Operand.tmp 2), type := 170, pos := "iter.go:52", after := #[], guard := none }, { dst := some 9, op := Op.load 133 (Operand.tmp 5), type := 133, pos := "iter.go:52", after := #[], guard := none }, { dst := some 10, op := Op.buildSlice 170 1 #[(0, Operand.tmp 9)], type := 170, pos := "iter.go:52", after := #[{ on := 1, ground := Ground.data }], guard := none }, { dst := some 11, op := Op.call { callee := Callee.builtin Builtin.append, args := #[Operand.tmp 8, Operand.tmp 10], argTypes := #[170, 170] }, type := 170, pos := "iter.go:52", after := #[{ on := 0, ground := Ground.data }, { on := 2, ground := Ground.data }], guard := none }, { dst := none, op := Op.store 170 (Operand.tmp 2) (Operand.tmp 11), type := 0, pos := "iter.go:52", after := #[{ on := 3, ground := Ground.data }, { on := 3, ground := Ground.chain }, { on := 0, ground := Ground.phase }, { on := 1, ground := Ground.phase }, { on := 2, ground := Ground.phase }, { on := 3, ground := Ground.phase }], guard := none }] false))
def apRec (fn : FuncId) (sv : Value) (Bs D : Nat) (st : LoopState) (pend : Option Code) : Loop :=
 { state := st, pending := pend, fn, tmps := #[.slice none 0 0, sv, .pointer (some ⟨Bs, 0, none⟩), undef, .slice none 0 0, undef, sv, undef, undef, undef, undef, undef, undef], params := #[7], assign := apAssign, body := apBody, defers := D }
structure ApAt (w0 : World) (fn : FuncId) (sv : Value) (Bs l D : Nat) (ss : List (Int × Int)) (W : World) : Prop where
 box : ∃ v, W.heap[Bs]? = some (.cells #[v] 170 (0, 0)) ∧ W.ownsRow w0.heap.size 133 2 v ss.length (kc ss) ∧ (v = .slice none 0 0 ↔ ss = [])
 L : W.heap[l]? = some (.loop (apRec fn sv Bs D .ready none))
 K : W.heap[D]? = some (.deferred (some []))
 below : Below w0.heap.size w0 W
theorem ap_abides (w0 : World) (fn : FuncId) (sv : Value) (Bs l D B : Nat) (hB : w0.heap.size ≤ B) : AbidesFrom B (ApAt w0 fn sv Bs l D) := fun s W W' row h hg hrow => by
 have hrow' : ∀ r, row = some r → ∃ o : Obj, W.heap[r]? = some o ∧ o.isWalk = true := fun r e => (hrow r e).2
 obtain ⟨v, hv, hr, hn⟩ := h.box
 exact ⟨⟨v, (grownBy_keeps hg hrow' hv rfl).trans hv, ownsRow_abides_a hr hg hrow', hn⟩, (grownBy_keeps hg hrow' h.L rfl).trans h.L, (grownBy_keeps hg hrow' h.K rfl).trans h.K,
  h.below.grown hg h.below.size (fun k e => Nat.le_trans hB (hrow k e).1)⟩
theorem apYield (F : Fence) (m : Nat) (w0 : World) (fn : FuncId) (hfn : F.fn fn) (sv : Value) (Bs l D : Nat) (hBl : Bs ≠ l) (hDl : D ≠ l) (hDB : D ≠ Bs) (h0B : w0.heap.size ≤ Bs) (h0l : w0.heap.size ≤ l)
    (N : Nat) (hN : N ≤ maxLen) (hNb : N * 16 ≤ 140737488355328) (ss : List (Int × Int)) (x : Int × Int) (W : World) (h : ApAt w0 fn sv Bs l D ss W) (hlen : ss.length < N) :
    YieldAt F m Tryz.prog l #[zo x] W fun e W' => e = .returned (.bool true) ∧ ApAt w0 fn sv Bs l D (ss ++ [x]) W' ∧ KeepsWalks W W' := by
  have hne : (170 : TypeId) ≠ 133 := by decide
  obtain ⟨i0, hi, hz0, hz1, hz2⟩ := zm5
  obtain ⟨v, hv, hrow, _⟩ := h.box
  obtain ⟨x1, x2⟩ := x
  refine ⟨fn, #[.slice none 0 0, sv, .pointer (some ⟨Bs, 0, none⟩), undef, .slice none 0 0, undef, sv, zo (x1, x2), undef, undef, undef, undef, undef], apAssign, apBody, by simpa [apRec] using run_yield (P := Tryz.prog) (args := #[zo (x1, x2)]) h.L rfl, roundIn_of_wpIn hfn ?_⟩
  simp only [zo]
  have hlW : l < W.heap.size := (Array.getElem?_eq_some_iff.1 h.L).1
  have hbW := (Below.refl W.heap.size W).alloc (Nat.le_refl _) (.cells #[.int .i64 x1, .int .i64 x2] 133)
  have hLa := (hbW.block l hlW).trans h.L
  have hva := (hbW.block Bs (Array.getElem?_eq_some_iff.1 hv).1).trans hv
  have hKa := (hbW.block D (Array.getElem?_eq_some_iff.1 h.K).1).trans h.K
  have hrowa := hrow.alloc (.cells #[.int .i64 x1, .int .i64 x2] 133)
  have hba : Below w0.heap.size w0 (W.alloc (.cells #[.int .i64 x1, .int .i64 x2] 133)) := h.below.alloc h.below.size _
  have hka : KeepsWalks W (W.alloc (.cells #[.int .i64 x1, .int .i64 x2] 133)) := KeepsWalks.alloc _ _
  have hxa : (W.alloc (.cells #[.int .i64 x1, .int .i64 x2] 133)).heap[W.heap.size]? = some (.cells #[.int .i64 x1, .int .i64 x2] 133 (0, 0)) := heap_alloc_new W _
  have hbr := run_beginRound (P := Tryz.prog) hLa rfl
  obtain ⟨Wa, hWa⟩ : ∃ Wa, W.alloc (.cells #[.int .i64 x1, .int .i64 x2] 133) = Wa := ⟨_, rfl⟩
  unfold apAssign
  gi_wp2_with gi_round_op_a
  rw [hWa] at hbr hLa hva hKa hrowa hba hka hxa
  try rw [hWa]
  have hl : l < Wa.heap.size := (Array.getElem?_eq_some_iff.1 hLa).1
  have hxlt : W.heap.size < Wa.heap.size := (Array.getElem?_eq_some_iff.1 hxa).1
  have hsa : Wa.heap.size = W.heap.size + 1 := by rw [← hWa]; simp
  obtain ⟨W2, hW2⟩ : ∃ W2, Wa.putObj l (.loop { apRec fn sv Bs D .ready none with state := .busy }) = W2 := ⟨_, rfl⟩
  rw [hW2] at hbr
  have hg2 : Wa.grownBy W2 (some l) := by rw [← hW2]; exact grownBy_putObj_a _ _ _
  have hk2 : KeepsWalks W W2 := hka.trans (by rw [← hW2]; exact KeepsWalks.putObj _ hLa rfl)
  have hv2 : W2.heap[Bs]? = some (.cells #[v] 170 (0, 0)) := by rw [← hW2]; exact (World.putObj_heap_other hBl).trans hva
  have hK2 : W2.heap[D]? = some (.deferred (some [])) := by rw [← hW2]; exact (World.putObj_heap_other hDl).trans hKa
  have hL2 : W2.heap[l]? = some (.loop { apRec fn sv Bs D .ready none with state := .busy }) := by rw [← hW2]; exact World.putObj_heap_same hl
  have hx2 : W2.heap[W.heap.size]? = some (.cells #[.int .i64 x1, .int .i64 x2] 133 (0, 0)) := by rw [← hW2]; exact (World.putObj_heap_other (by omega)).trans hxa
  have hrow2 : W2.ownsRow w0.heap.size 133 2 v ss.length (kc ss) := hrowa.kept hg2 (ownsRow_ne_a hrowa hLa (fun cur e => by first | cases e | exact hne (Obj.cells.inj e).2.1))
  have hb2 : Below w0.heap.size w0 W2 := hba.grown hg2 hba.size (fun k e => by cases e; exact h0l)
  obtain ⟨hc2, hf2⟩ := cell_of_box_a hv2
  have hy0 : W2.cell? ⟨W.heap.size, 0, none⟩ = some (.int .i64 x1) := by rw [cell_of_row W2 _ 0 _ _ _ hx2]; rfl
  have hy1 : W2.cell? ⟨W.heap.size, 1, none⟩ = some (.int .i64 x2) := by rw [cell_of_row W2 _ 1 _ _ _ hx2]; rfl
  have hBlt : Bs < W2.heap.size := (Array.getElem?_eq_some_iff.1 hv2).1
  have hl2 : l < W2.heap.size := (Array.getElem?_eq_some_iff.1 hL2).1
  have hDlt : D < W2.heap.size := (Array.getElem?_eq_some_iff.1 hK2).1
  have ne_of : ∀ {j : Nat} {o : Obj}, W2.heap[j]? = some o → (∀ cur, o ≠ .cells cur 133 (0, 0)) → some j ≠ v.ownBlock := fun hj hno => by
    rcases ownsRow_ne_a hrow2 hj hno with e | e
    · rw [e]; simp
    · exact fun e' => e e'.symm
  clear hW2
  refine ⟨W2, hbr, ?_⟩
  unfold apBody
  gi_wp2_with (first
    | (gi_at_builtin; refine wpListIn_append_own _ rfl _ _ 170 rfl w0.heap.size 133 i0 (.agg #[.int .i64 0, .int .i64 0]) 2 16 Tryz.underlying170 hi hz0 hz1 hz2 rfl (by decide) _ _ _ rfl (hrow2.alloc _) ⟨W2.heap.size, 0, none⟩ 1 1 [.int .i64 x1, .int .i64 x2] rfl rfl (Y6 W2 133 [.int .i64 x1, .int .i64 x2]) (by simp [Value.oneCell']) (by omega) (by omega) (by have := hb2.size; simp; omega) ?_; intro v' w3 hown' hg3 hnil3
       have hv3 : w3.heap[Bs]? = some (.cells #[v] 170 (0, 0)) := (hg3.block Bs (by simp; omega) (ne_of hv2 (fun cur e => by first | cases e | exact hne (Obj.cells.inj e).2.1))).trans ((Below.heap_alloc _ _ Bs hBlt).trans hv2)
       obtain ⟨hc3, hf3⟩ := cell_of_box_a hv3
       obtain ⟨g', cap', cur', rfl, hbase', hgb', hr1, hr2, hr3, hr4⟩ : ∃ g' cap' cur', v' = .slice (some ⟨g', 0, none⟩) (ss.length + 1) cap' ∧ w0.heap.size ≤ g' ∧ w3.heap[g']? = some (.cells cur' 133 (0, 0)) ∧ ss.length + 1 ≤ cap' ∧ cap' ≤ maxLen ∧ cur'.size = cap' * 2 ∧ cur'.toList.take ((ss.length + 1) * 2) = kc ss ++ [.int .i64 x1, .int .i64 x2] := by
         rcases hown'.2 with ⟨_, h0⟩ | h'
         · exact absurd h0 (by omega)
         · exact h'
       go_frame)
    | gi_round_op_a)
  have hg3' : (W2.alloc (.cells #[.int .i64 x1, .int .i64 x2] 133)).grownBy w3 v.ownBlock := hg3
  have hL3 : w3.heap[l]? = some (.loop { apRec fn sv Bs D .ready none with state := .busy }) := (hg3'.block l (by simp; omega) (ne_of hL2 (fun cur e => by first | cases e | exact hne (Obj.cells.inj e).2.1))).trans ((Below.heap_alloc _ _ l hl2).trans hL2)
  have hK3 : w3.heap[D]? = some (.deferred (some [])) := (hg3'.block D (by simp; omega) (ne_of hK2 (fun cur e => by first | cases e | exact hne (Obj.cells.inj e).2.1))).trans ((Below.heap_alloc _ _ D hDlt).trans hK2)
  obtain ⟨w4, hw4⟩ : ∃ w4, w3.setCell ⟨Bs, 0, none⟩ (.slice (some ⟨g', 0, none⟩) (ss.length + 1) cap') = w4 := ⟨_, rfl⟩
  rw [hw4]
  have hg4 : w3.grownBy w4 (some Bs) := by rw [← hw4]; exact grownBy_setCell0_a _ _ _
  have hv4 : w4.heap[Bs]? = some (.cells #[.slice (some ⟨g', 0, none⟩) (ss.length + 1) cap'] 170 (0, 0)) := by rw [← hw4]; exact heap_setCell_box_a _ hv3
  have hL4 : w4.heap[l]? = some (.loop { apRec fn sv Bs D .ready none with state := .busy }) := (hg4.block l (Array.getElem?_eq_some_iff.1 hL3).1 (fun e => hBl (by cases e; rfl))).trans hL3
  have hK4 : w4.heap[D]? = some (.deferred (some [])) := (hg4.block D (Array.getElem?_eq_some_iff.1 hK3).1 (fun e => hDB (by cases e; rfl))).trans hK3
  have hrow4 := hown'.kept hg4 (ownsRow_ne_a hown' hv3 (fun cur e => by first | cases e | exact hne (Obj.cells.inj e).2.1))
  have hl4 : l < w4.heap.size := (Array.getElem?_eq_some_iff.1 hL4).1
  have hb3 : Below w0.heap.size w0 w3 := (hb2.alloc hb2.size _).grown hg3' (by have := hb2.size; simp; omega) (fun k e => (hrow2.lt k e).1)
  have hb4 : Below w0.heap.size w0 w4 := hb3.grown hg4 hb3.size (fun k e => by cases e; exact h0B)
  have hk4 : KeepsWalks W w4 := ((hk2.trans (KeepsWalks.alloc _ _)).trans (KeepsWalks.of_grownBy hg3' (ownsRow_not_walk_a (hrow2.alloc _)))).trans (by rw [← hw4]; exact KeepsWalks.setCell _ _ _)
  clear hw4
  refine ⟨_, _, run_endRound none hL4, rfl, ⟨⟨_, (World.putObj_heap_other hBl).trans hv4, ?_, by simp⟩, World.putObj_heap_same hl4, (World.putObj_heap_other hDl).trans hK4, hb4.grown (grownBy_putObj_a _ _ _) hb4.size (fun k e => by cases e; exact h0l)⟩, hk4.trans (KeepsWalks.putObj _ hL4 rfl)⟩
  have := hrow4.kept (grownBy_putObj_a w4 l (.loop { { apRec fn sv Bs D .ready none with state := .busy } with state := if (none : Option Code).isNone then .ready else .done, pending := none })) (ownsRow_ne_a hrow4 hL4 (fun cur e => by first | cases e | exact hne (Obj.cells.inj e).2.1))
  rw [zm4]
  simpa using this
theorem appendSeq_in (F : Fence) (n : Nat) (hf : F.fn 224) (hro : F.round = none) (hn : 2 ≤ n) (g : Nat) (lb : Array Value) (hFg : F.fn g) (eg : ∀ args w, (callFunc g args).run Tryz.prog w = .ok (.enter g args) w)
    (S : List (Int × Int) → Prop) (N : Nat) (hN : N ≤ maxLen) (hNb : N * 16 ≤ 140737488355328) (w : World) (hseq : SeqGives F (n - 1) Tryz.prog g lb zo S N w) :
    CallsIn F n Tryz.prog 224 #[.slice none 0 0, .func (.func g) #[] lb] w fun e w' => ∃ (v : Value) (ss : List (Int × Int)), e = .returned v ∧ S ss ∧ w'.ownsRow w.heap.size 133 2 v ss.length (kc ss) ∧ (v = .slice none 0 0 ↔ ss = []) ∧ Below w.heap.size w w' := by
  have h1 : 1 ≤ n := by omega
  have hne : (170 : TypeId) ≠ 133 := by decide
  refine callsIn_of_wp_marks Tryz.func224 rfl hf ?_ hro
  simp only [Tryz.ntmps224, List.size_toArray, List.length_cons, List.length_nil, Nat.reduceAdd, Nat.reduceSub, Array.replicate_succ, Array.replicate_zero, List.push_toArray, List.append_toArray, List.nil_append, List.cons_append]
  gi_wp2
  refine wpIn_rangeFunc ?_
  intro fn hfn
  rw [hro]
  obtain ⟨W0, hW0⟩ : ∃ W0, w.alloc (.cells #[.slice none 0 0] 170) = W0 := ⟨_, rfl⟩
  have hs0 : W0.heap.size = w.heap.size + 1 := by rw [← hW0]; simp
  have hv0 : W0.heap[w.heap.size]? = some (.cells #[.slice none 0 0] 170 (0, 0)) := by rw [← hW0]; exact World.alloc_heap_new w _
  have hb0 : Below w.heap.size w W0 := by rw [← hW0]; exact (Below.refl _ w).alloc (Nat.le_refl _) _
  rw [hW0]
  obtain ⟨W1, hW1⟩ : ∃ W1, (W0.alloc (.deferred (some []))).alloc (.loop (apRec fn (.func (.func g) #[] lb) w.heap.size W0.heap.size .ready none)) = W1 := ⟨_, rfl⟩
  have hold : ∀ k, k < W0.heap.size → W1.heap[k]? = W0.heap[k]? := fun k hk => by
    rw [← hW1]; exact (Below.heap_alloc _ _ k (by simp; omega)).trans (Below.heap_alloc _ _ k hk)
  have hb1 : Below w.heap.size w W1 := by rw [← hW1]; exact (hb0.alloc hb0.size _).alloc (by have := hb0.size; simp; omega) _
  have hs1 : W1.heap.size = W0.heap.size + 2 := by rw [← hW1]; simp
  have hM : ApAt w fn (.func (.func g) #[] lb) w.heap.size (W0.heap.size + 1) W0.heap.size [] W1 :=
    ⟨⟨_, (hold w.heap.size (by omega)).trans hv0, ⟨rfl, .inl ⟨rfl, rfl⟩⟩, by simp⟩,
     by rw [← hW1]; have := World.alloc_heap_new (W0.alloc (.deferred (some []))) (.loop (apRec fn (.func (.func g) #[] lb) w.heap.size W0.heap.size .ready none)); rwa [World.size_alloc] at this,
     by rw [← hW1]; exact (Below.heap_alloc _ _ _ (by simp)).trans (World.alloc_heap_new W0 _), hb1⟩
  refine ⟨W0.heap.size + 1, [{ target := .collected W0.heap.size, args := #[] }], W1, { target := .fn (.func g) lb, args := #[.func (.yield (W0.heap.size + 1)) #[] #[]] }, W1, g,
    #[.func (.yield (W0.heap.size + 1)) #[] #[]] ++ lb, W1, ?_, ?_, ?_, ?_, fun _ => h1, ?_⟩
  · rw [← hW1]; exact run_enterLoop_outer _ _ _ _ _
  · simp [resolve, go_sem]
  · intro f' hf'; simp [Target.leads] at hf'; subst hf'; exact hFg
  · simp [invoke, go_sem, eg]
  · refine (hseq (W0.heap.size + 1) (ApAt w fn (.func (.func g) #[] lb) w.heap.size (W0.heap.size + 1) W0.heap.size) W1 hb1 (ap_abides _ _ _ _ _ _ _ hb1.size)
      (fun pre x W hJ hl => apYield F (n - 1 - 1) w fn hfn _ w.heap.size (W0.heap.size + 1) W0.heap.size (by omega) (by omega) (by omega) (Nat.le_refl _) (by omega) N hN hNb pre x W hJ hl) hM).mono ?_
    rintro e W2 ⟨⟨v0, rfl⟩, ss, hS, h2⟩
    obtain ⟨v, hv, hrow, hnil⟩ := h2.box
    have hend := run_endLoop (P := Tryz.prog) h2.L (by simp [apRec])
    obtain ⟨W3, hW3⟩ : ∃ W3, W2.putObj (W0.heap.size + 1) (.loop { apRec fn (.func (.func g) #[] lb) w.heap.size W0.heap.size .ready none with state := .exhausted }) = W3 := ⟨_, rfl⟩
    rw [hW3] at hend
    have hg3 : W2.grownBy W3 (some (W0.heap.size + 1)) := by rw [← hW3]; exact grownBy_putObj_a _ _ _
    have hv3 : W3.heap[w.heap.size]? = some (.cells #[v] 170 (0, 0)) := by rw [← hW3]; exact (World.putObj_heap_other (by omega)).trans hv
    have hK3 : W3.heap[W0.heap.size]? = some (.deferred (some [])) := by rw [← hW3]; exact (World.putObj_heap_other (by omega)).trans h2.K
    have hrow3 := hrow.kept hg3 (ownsRow_ne_a hrow h2.L (fun cur e => by first | cases e | exact hne (Obj.cells.inj e).2.1))
    have hb3 : Below w.heap.size w W3 := h2.below.grown hg3 h2.below.size (fun k e => by cases e; omega)
    obtain ⟨hc3, hf3⟩ := cell_of_box_a hv3
    clear hW3
    refine ⟨none, W3, hend, ?_⟩
    gi_wp2
    rw [← hs0]
    refine ⟨by simp, .inl ⟨_, _, rfl, run_takeDeferred hK3, ?_⟩⟩
    exact ⟨_, results_tmp rfl _ _ _, v, ss, rfl, hS, hrow3.kept (grownBy_putObj_a _ _ _) (ownsRow_ne_a hrow3 hK3 (fun cur e => by first | cases e | exact hne (Obj.cells.inj e).2.1)), hnil, hb3.grown (grownBy_putObj_a _ _ _) hb3.size (fun k e => by cases e; omega)⟩
theorem collect_in (F : Fence) (n : Nat) (hf8 : F.fn 195) (hf : F.fn 224) (hro : F.round = none) (hn : 3 ≤ n) (g : Nat) (lb : Array Value) (hFg : F.fn g) (eg : ∀ args w, (callFunc g args).run Tryz.prog w = .ok (.enter g args) w)
  (S : List (Int × Int) → Prop) (N : Nat) (hN : N ≤ maxLen) (hNb : N * 16 ≤ 140737488355328) (w : World) (hseq : SeqGives F (n - 1 - 1) Tryz.prog g lb zo S N w) :
  CallsIn F n Tryz.prog 195 #[.func (.func g) #[] lb] w fun e w' => ∃ (v : Value) (ss : List (Int × Int)), e = .returned v ∧ S ss ∧ w'.ownsRow w.heap.size 133 2 v ss.length (kc ss) ∧ (v = .slice none 0 0 ↔ ss = []) ∧ Below w.heap.size w w' := by
 have h1 : 1 ≤ n := by omega
 refine callsIn_of_wp Tryz.func195 rfl hf8 ?_ hro
 simp only [Tryz.ntmps195, List.size_toArray, List.length_cons, List.length_nil, Nat.reduceAdd, Nat.reduceSub, Array.replicate_succ, Array.replicate_zero, List.push_toArray, List.append_toArray, List.nil_append, List.cons_append]
 gi_wp2
 refine (appendSeq_in F (n - 1) hf hro (by omega) g lb hFg eg S N hN hNb _ hseq).mono ?_
 rintro e w' ⟨v, ss, rfl, hS, hrow, hnil, hb⟩
 gi_wp2
 go_ret
 exact ⟨v, ss, rfl, hS, hrow, hnil, hb⟩
theorem zc0 {ν : Type} {encV : ν → Value} (w : World) (Bm m : Nat) (L : List ((Int × Int) × ν)) (hBm : Bm < w.heap.size) (hm : w.cell? ⟨Bm, 0, none⟩ = some (.map (some m))) (hown : MapAt w m zo encV L) (hlen : L.length ≤ 1000000) :
  Calls Tryz.prog 195 #[.func (.func 197) #[] #[.pointer (some ⟨Bm, 0, none⟩)]] w fun e w' =>
   ∃ (v : Value) (ss : List (Int × Int)), e = .returned v ∧ ss.Perm (L.map (·.1)) ∧ w'.ownsRow w.heap.size 133 2 v ss.length (kc ss) ∧ (v = .slice none 0 0 ↔ ss = []) ∧ Below w.heap.size w w' :=
 (callsIn_wide (n := 5)).1 (collect_in Fence.wide 5 trivial trivial rfl (by omega) 197 #[.pointer (some ⟨Bm, 0, none⟩)] trivial (enters_of Tryz.func197 (by kernel_rfl) rfl) _ L.length (by unfold maxLen; omega) (by omega) w
  (zho Fence.wide _ trivial rfl (by omega) Bm m L w hBm hm hown))
end Go.Proofs.YtnhdmnijiphjjaaGreat
namespace Go.Proofs.YtnhdmnijiphjjaaGreat
open Go Go.RowKit
def KeAt (w : World) (v : Value) (l : List (Int × Int)) : Prop := SlAt w 133 2 v l.length (pl l)
theorem KeAt.nil (w : World) : KeAt w (.slice none 0 0) [] := SlAt.nil w _ _
theorem KeAt.below {w w' : World} {v : Value} {l : List (Int × Int)} (h : KeAt w v l) (hb : Below w.heap.size w w') : KeAt w' v l := SlAt.below h hb
theorem KeAt.keep {w w' : World} {v : Value} {l : List (Int × Int)} (h : KeAt w v l) (hb : ∀ b, v.ownBlock = some b → w'.heap[b]? = w.heap[b]?) : KeAt w' v l := SlAt.keep h hb
theorem KeAt.cell {w : World} {b off c : Nat} {l : List (Int × Int)} {n : Nat} (h : KeAt w (.slice (some ⟨b, off, none⟩) n c) l) {j : Nat} {y : Int × Int} (hy : l[j]? = some y) :
  w.cell? ⟨b, off + j * 2, none⟩ = some (.int .i64 y.1) ∧ w.cell? ⟨b, off + j * 2 + 1, none⟩ = some (.int .i64 y.2) := by
 obtain ⟨hj, rfl⟩ := List.getElem?_eq_some_iff.1 hy
 obtain ⟨g, off', c', e, _, _, hx⟩ := SlAt.cells h (by rw [yo]; omega)
 cases e
 obtain ⟨h1, h2⟩ := zb0 l j hj
 exact ⟨(hx _ _ h1).1, by rw [Nat.add_assoc]; exact (hx _ _ h2).1⟩
theorem KeAt.form {w : World} {v : Value} {l : List (Int × Int)} (h : KeAt w v l) : (v = .slice none 0 0 ∧ l = []) ∨ ∃ b off c, v = .slice (some ⟨b, off, none⟩) l.length c ∧ l.length ≤ c ∧ c ≤ maxLen ∧ b < w.heap.size := by
 rcases h.2 with ⟨rfl, h2⟩ | ⟨b, off, c, arr, rfl, hg, hnc, hm, _⟩
 ·exact .inl ⟨rfl, List.eq_nil_of_length_eq_zero h2⟩
 ·exact .inr ⟨b, off, c, rfl, hnc, hm, (Array.getElem?_eq_some_iff.1 hg).1⟩
theorem KeAt.addr {w : World} {a : Option Addr} {c : Nat} {l : List (Int × Int)} {n : Nat} (h : KeAt w (.slice a n c) l) (hl : 0 < l.length) : ∃ b off, a = some ⟨b, off, none⟩ := by
 rcases h.form with ⟨_, e⟩ | ⟨b, off, c', e, _⟩
 ·rw [e] at hl; simp at hl
 ·cases e; exact ⟨b, off, rfl⟩
theorem zba (w : World) (x y : Int × Int) :
  Calls Tryz.prog 158 #[.agg #[.int .i64 x.1, .int .i64 x.2], .agg #[.int .i64 y.1, .int .i64 y.2]] w fun e w' => e = .returned (.int .i64 (cmpP x y)) ∧ ∃ q os', w' = Sort.grow (w.drewN q) os' := by
 obtain ⟨x1, x2⟩ := x
 obtain ⟨y1, y2⟩ := y
 unfold cmpP
 simp only
 generalize hu : cmpI x1 y1 = u
 generalize hv : cmpI x2 y2 = v
 have c1 := Lib.hid (fun W => ze4 x1 y1 W)
 have c2 := Lib.hid (fun W => ze4 x2 y2 W)
 rw [hu] at c1
 rw [hv] at c2
 clear hu hv
 go_enter Tryz.func158, Tryz.ntmps158
 go_wp2_with fail
 obtain ⟨W, hW⟩ : ∃ W, W = ((w.alloc (.cells #[.int .i64 x1, .int .i64 x2] 133)).alloc (.cells #[.int .i64 y1, .int .i64 y2] 133)).drew := ⟨_, rfl⟩
 have p0 : W.cell? ⟨w.heap.size, 0, none⟩ = some (.int .i64 x1) := by rw [hW]; go_simp
 have p1 : W.cell? ⟨w.heap.size, 1, none⟩ = some (.int .i64 x2) := by rw [hW]; go_simp
 have p2 : W.cell? ⟨w.heap.size + 1, 0, none⟩ = some (.int .i64 y1) := by rw [hW]; go_simp
 have p3 : W.cell? ⟨w.heap.size + 1, 1, none⟩ = some (.int .i64 y2) := by rw [hW]; go_simp
 have hs : Hid (W.heap.size = w.heap.size + 2) := by rw [hW]; show _ = _; simp
 have hWH := Lib.hid hW
 have hd : (((w.alloc (.cells #[.int .i64 x1, .int .i64 x2] 133)).alloc (.cells #[.int .i64 y1, .int .i64 y2] 133)).drew) = W := hW.symm
 clear hW
 go_region_held (fun W' => W'.cell? ⟨w.heap.size, 0, none⟩ = some (.int .i64 x1) ∧ W'.cell? ⟨w.heap.size, 1, none⟩ = some (.int .i64 x2) ∧ W'.cell? ⟨w.heap.size + 1, 0, none⟩ = some (.int .i64 y1) ∧ W'.cell? ⟨w.heap.size + 1, 1, none⟩ = some (.int .i64 y2)) (go_keep) (first
  | (go_at_call_of 131 x1; refine (c1.out _).mono ?_; rintro e w' ⟨rfl, rfl⟩)
  | (go_at_call_of 131 x2; refine (c2.out _).mono ?_; rintro e w' ⟨rfl, rfl⟩)
  | (go_at_call 130; refine (ziz _ _ u v (Uz _ _ rfl _ _ _) (Uz _ _ rfl _ _ _)).mono ?_; rintro e w' ⟨rfl, rfl⟩))
 all_goals (go_wp2_with fail; go_ret; refine ⟨rfl, 1, #[.cells #[.int .i64 x1, .int .i64 x2] 133, .cells #[.int .i64 y1, .int .i64 y2] 133, .cells #[.int .i64 u, .int .i64 v] 3], ?_⟩)
 all_goals (rw [hWH.out]; simp only [Sort.alloc_eq_grow, Sort.grow_grow]; rfl)
theorem zc9 {w : World} {b off c : Nat} {l l' : List (Int × Int)} (h : KeAt w (.slice (some ⟨b, off, none⟩) l.length c) l) (hl : l'.length = l.length) (n : Nat) (os : Array Obj) :
  KeAt (sortWorldK encP 2 w b off n l'.toArray os) (.slice (some ⟨b, off, none⟩) l.length c) l' ∧ Touch [b] w (sortWorldK encP 2 w b off n l'.toArray os) := by
 obtain ⟨arr, hg, hnc, hm, hfit, hx⟩ : ∃ arr, w.heap[b]? = some (.cells arr 133 (0, 0)) ∧ l.length ≤ c ∧ c ≤ maxLen ∧ off + c * 2 ≤ arr.size ∧ ∀ j u, (pl l)[j]? = some u → arr[off + j]? = some u := by
  rcases h.2 with ⟨e, _⟩ | ⟨b', off', c', arr, e, rest⟩
  ·cases e
  ·cases e; exact ⟨arr, rest⟩
 have hb : b < w.heap.size := (Array.getElem?_eq_some_iff.1 hg).1
 obtain ⟨F, hF⟩ : ∃ F, F = (pl l').toArray := ⟨_, rfl⟩
 have hFs : F.size = l.length * 2 := by rw [hF]; simp [yo, hl]
 have hheap : (sortWorldK encP 2 w b off n l'.toArray os).heap = w.heap.modify b (Sort.onCells (Sort.putCells id off F)) ++ os := by
  unfold sortWorldK Sort.putRowK
  rw [za5, ← hF]
  rfl
 have hbk : (sortWorldK encP 2 w b off n l'.toArray os).heap[b]? = some (.cells (Sort.putCells id off F arr) 133 (0, 0)) := by
  rw [hheap, Array.getElem?_append_left (by simpa using hb), Array.getElem?_modify, if_pos rfl, hg]
  rfl
 constructor
 ·show SlAt _ _ _ _ _ _
  rw [hl]
  refine ⟨by rw [yo, hl], .inr ⟨b, off, c, _, rfl, hbk, hnc, hm, by rw [Va]; exact hfit, fun j u hu => ?_⟩⟩
  have hj := (List.getElem?_eq_some_iff.1 hu).1
  rw [yo, hl] at hj
  have hja : off + j < arr.size := by have := Nat.mul_le_mul_right 2 hnc; omega
  simp only [Sort.putCells, Array.getElem?_mapIdx, Array.getElem?_eq_getElem hja, Option.map_some]
  rw [if_pos ⟨by omega, by rw [hFs]; omega⟩, show off + j - off = j by omega, getElem!_pos F j (by rw [hFs]; exact hj)]
  have : F[j]? = some u := by rw [hF]; simpa using hu
  rw [Array.getElem?_eq_getElem (by rw [hFs]; exact hj)] at this
  simpa using this
 ·refine ⟨rfl, rfl, rfl, by rw [hheap]; simp, fun k hk hne => ?_⟩
  rw [hheap, Array.getElem?_append_left (by simpa using hk), Array.getElem?_modify, if_neg (fun e => hne (by simp [e]))]
theorem zf9 (w : World) (b off c : Nat) (l : List (Int × Int)) (h : KeAt w (.slice (some ⟨b, off, none⟩) l.length c) l) (hl : l.length ≤ 1000000) :
  Calls Tryz.prog 196 #[.slice (some ⟨b, off, none⟩) l.length c, .func (.func 158) #[] #[]] w fun e w' =>
   e = .returned (.tuple #[]) ∧ ∃ l', l'.Perm l ∧ l'.Pairwise (fun x y => ¬ ltP y x) ∧ KeAt w' (.slice (some ⟨b, off, none⟩) l.length c) l' ∧ Touch [b] w w' := by
 have eg : ∀ args w, (callFunc 158 args).run Tryz.prog w = .ok (.enter 158 args) w := enters_of Tryz.func158 (by kernel_rfl) rfl
 have hH : Sort.HoldsK encP 2 w b off l.toArray := by
  unfold Sort.HoldsK
  rw [za5]
  intro j hj
  have hj' : j < l.length * 2 := by simpa [yo] using hj
  obtain ⟨g, off', c', e, _, _, hx⟩ := SlAt.cells h (by rw [yo]; omega)
  cases e
  refine hx j _ ?_
  rw [getElem!_pos ((pl l).toArray) j hj]
  simp
 have hb : b < w.heap.size := SlAt.lt h b rfl
 have := AnyQ.slices_SortFunc Qp 2 (fun w => by kernel_rfl) (fun w => by kernel_rfl) encP Vp ze2 cmpP swoP 158 #[] b off c l.toArray w eg (fun m os dk _ x y => zba _ x y) hH hb (by simp; omega)
 simp only [List.size_toArray] at this
 refine this.mono ?_
 rintro e w' ⟨rfl, d', n, os, hp, hs, rfl⟩
 obtain ⟨hp1, _, hp3⟩ := hp
 have hsz : d'.toList.length = l.length := by simpa using hp1
 have ed : d' = d'.toList.toArray := by simp
 have hw := zc9 h hsz n os
 rw [← ed] at hw
 refine ⟨rfl, d'.toList, ?_, ?_, hw.1, hw.2⟩
 ·have e1 : d'.extract 0 l.length = d' := by rw [← hsz]; simp
  have e2 : l.toArray.extract 0 l.length = l.toArray := by simp
  rw [e1, e2] at hp3
  simpa using hp3
 ·refine List.pairwise_iff_getElem.2 fun i j hi hj hij => ?_
  have := hs i j (Nat.zero_le _) hij (by rw [← hsz]; exact hj)
  rw [Y0, getElem!_pos d' j (by simpa using hj), getElem!_pos d' i (by simpa using hi)] at this
  simpa using this
def zd2 (l l' : List (Int × Int)) : Prop := l'.Perm l ∧ l'.Pairwise (fun x y => ¬ ltP y x)
theorem Qz {ν : Type} {encV : ν → Value} (w : World) (Bm m : Nat) (L : List ((Int × Int) × ν)) (hBm : Bm < w.heap.size) (hm : w.cell? ⟨Bm, 0, none⟩ = some (.map (some m))) (hown : MapAt w m zo encV L) (hlen : L.length ≤ 1000000) :
  Calls Tryz.prog 156 #[.func (.func 197) #[] #[.pointer (some ⟨Bm, 0, none⟩)], .func (.func 158) #[] #[]] w fun e w' =>
   ∃ (v : Value) (l : List (Int × Int)), e = .returned v ∧ zd2 (L.map (·.1)) l ∧ KeAt w' v l ∧ Below w.heap.size w w' ∧ ∀ b, v.ownBlock = some b → w.heap.size ≤ b := by
 have hc := Lib.hid (zc0 w Bm m L hBm hm hown hlen)
 have HL := Lib.hid hlen
 clear hBm hm hown hlen
 go_enter Tryz.func156, Tryz.ntmps156
 go_wp2_with fail
 refine hc.out.mono ?_
 rintro e w1 ⟨v, ss, rfl, hp, hrow, hnil, hb⟩
 have hss : ss.length ≤ 1000000 := by rw [hp.length_eq, List.length_map]; exact HL.out
 rcases hrow.2 with ⟨rfl, hz⟩ | ⟨g, cap, cur, rfl, hbase, hgb, r1, r2, r3, r4⟩
 ·have he : ss = [] := List.eq_nil_of_length_eq_zero hz
  subst he
  have HB := Lib.hid hb
  have HP := Lib.hid hp
  clear hrow hnil hb hp hss hc
  go_wp2_with fail
  refine (AnyF.slices_SortFunc_none Qp none 0 _ w1).mono ?_
  rintro e w2 ⟨rfl, rfl⟩
  go_wp2_with fail
  go_ret
  exact ⟨_, [], rfl, ⟨HP.out, List.Pairwise.nil⟩, KeAt.nil _, HB.out, by simp [Value.ownBlock]⟩
 ·have hat : KeAt w1 (.slice (some ⟨g, 0, none⟩) ss.length cap) ss := by
   refine ⟨hrow.1, .inr ⟨g, 0, cap, cur, rfl, hgb, r1, r2, by omega, fun j u hu => ?_⟩⟩
   have hu' : (kc ss)[j]? = some u := hu
   rw [← r4] at hu'
   have hj := (List.getElem?_eq_some_iff.1 hu').1
   rw [List.getElem?_take_of_lt (by simp at hj; omega)] at hu'
   simpa using hu'
  have HAT := Lib.hid hat
  have HB := Lib.hid hb
  have HP := Lib.hid hp
  clear hrow hnil hb hp hc hat r1 r2 r3 r4 hgb
  go_wp2_with fail
  refine (zf9 w1 g 0 cap ss HAT.out hss).mono ?_
  rintro e w2 ⟨rfl, l', hperm, hsort, hp2, t2⟩
  have HF : Hid (zd2 (L.map (·.1)) l' ∧ KeAt w2 (.slice (some ⟨g, 0, none⟩) ss.length cap) l' ∧ Below w.heap.size w w2) := ⟨⟨hperm.trans HP.out, hsort⟩, hp2, Touch.from HB.out t2 HB.out.size (fun i hi => by simp at hi; omega)⟩
  clear hperm hsort hp2 t2
  go_wp2_with fail
  go_ret
  exact ⟨_, l', rfl, HF.out.1, HF.out.2.1, HF.out.2.2, fun b hb => by simp [Value.ownBlock] at hb; omega⟩
end Go.Proofs.YtnhdmnijiphjjaaGreat
namespace Go.Proofs
open Go.Shelf
def YtnhdmnijiphjjaaGreat.Ut : Go.Shelf.Ren := ⟨fun | 6 => 194 | n => n, fun | 22 => 170 | 23 => 133 | 25 => 136 | 3 => 3 | 0 => 0 | 4 => 4 | n => n, fun | n => n⟩
theorem YtnhdmnijiphjjaaGreat.zb6 : Go.Proofs.SlLaysH0.n6 Tryz.prog YtnhdmnijiphjjaaGreat.Ut := {
 mixed := by kernel_rfl
 f6 := ⟨Tryz.f194.name, by decide, Tryz.func194.trans (congrArg some (by kernel_rfl))⟩
 t0 := Tryz.underlying0
 a0 := Tryz.isAgg0
 z0 := Tryz.sizeOf0
 v0 := Tryz.zeroValue0
 t3 := Tryz.underlying3
 a3 := Tryz.isAgg3
 z3 := Tryz.sizeOf3
 v3 := Tryz.zeroValue3
 t4 := Tryz.underlying4
 a4 := Tryz.isAgg4
 z4 := Tryz.sizeOf4
 v4 := Tryz.zeroValue4
 t22 := Tryz.underlying170
 a22 := Tryz.isAgg170
 z22 := Tryz.sizeOf170
 v22 := Tryz.zeroValue170
 t25 := Tryz.underlying136
 a25 := Tryz.isAgg136
 z25 := Tryz.sizeOf136
 v25 := Tryz.zeroValue136 }
end Go.Proofs
