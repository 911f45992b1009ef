/- EvictFull: without a slot nothing goes out, and nothing is changed. -/
import Derived.Test.YtnhdmnijiphjjaaGreatJEv27
set_option linter.unusedVariables false
set_option linter.unusedSimpArgs false
/- EvictFull: without a slot nothing goes out, and nothing is changed. -/
namespace Go.Proofs.YtnhdmnijiphjjaaGreat
open Go Go.RowKit
theorem WF.withS {x : za} (h : WF x) (S : List (List (Int × Int))) (hS : S.length = 32 ∧ ∀ l ∈ S, yo l ∧ ∀ p ∈ l, InR p) : WF { x with S := S } := ⟨h.rpt, h.apart, h.jm, h.back, hS, h.bad, h.keys, h.secs, h.nd⟩
def Zh (j : Nat) : List (List (Int × Int)) := (List.range 32).map fun i => if i < j then [plc 7 i] else []
theorem Z8 (j : Nat) : (Zh j).length = 32 := by simp [Zh]
theorem Y0 (j i : Nat) (hi : i < 32) : (Zh j)[i]? = some (if i < j then [plc 7 i] else []) := by
 unfold Zh
 rw [List.getElem?_map, List.getElem?_range hi]
 rfl
theorem zjg (j : Nat) : (Zh j).length = 32 ∧ ∀ l ∈ Zh j, yo l ∧ ∀ p ∈ l, InR p := by
 refine ⟨Z8 j, fun l hl => ?_⟩
 obtain ⟨i, hi, rfl⟩ := List.mem_map.1 hl
 have hi : i < 32 := by simpa using hi
 split
 ·exact ⟨List.pairwise_singleton _ _, fun p hp => by simp at hp; subst hp; exact zkp (by omega) (by omega)⟩
 ·exact ⟨List.Pairwise.nil, fun p hp => by cases hp⟩
theorem zhb (j : Nat) : (Zh j).set j (putP [] (plc 7 j)) = Zh (j + 1) := by
 refine List.ext_getElem? fun i => ?_
 by_cases hi : i < 32
 ·rw [List.getElem?_set, Y0 _ _ hi, Y0 _ _ hi]
  by_cases e : j = i
  ·subst e
   rw [if_pos rfl, if_pos (by rw [Z8]; exact hi), if_pos (by omega)]
   rfl
  ·rw [if_neg e]
   by_cases h2 : i < j
   ·rw [if_pos h2, if_pos (by omega)]
   ·rw [if_neg h2, if_neg (by omega)]
 ·rw [List.getElem?_eq_none (by rw [List.length_set, Z8]; omega), List.getElem?_eq_none (by rw [Z8]; omega)]
theorem zfb {L : List (List (Int × Int))} (hl : L.length = 32) (h : ∀ k, L.getD k [] = []) : L = Zh 0 := by
 refine List.ext_getElem? fun i => ?_
 by_cases hi : i < 32
 ·rw [Y0 _ _ hi, if_neg (by omega), List.getElem?_eq_getElem (by omega)]
  have := h i
  rw [List.getD_eq_getElem?_getD, List.getElem?_eq_getElem (by omega)] at this
  simpa using this
 ·rw [List.getElem?_eq_none (by omega), List.getElem?_eq_none (by rw [Z8]; omega)]
theorem zfc : (Yo (Zh 32)).2 = false := by
 rcases Xk (Zh 32) with ⟨k, _, h2, h3⟩ | ⟨h1, _⟩
 ·rw [Z8] at h2
  rw [List.getD_eq_getElem?_getD, Y0 32 k h2, if_pos h2] at h3
  cases h3
 ·rw [h1]
section
variable {w0 w w' : World} {V : List (Value × List Value)} {q : Sq} {x : za}
theorem AtQ.hold (h : AtQ w0 V q x w) (wf : WF x) (k : Nat) (hk : k < 32) (p : Int × Int) :
  Calls Tryz.prog 26 #[.pointer (some ⟨q.wp, 0, none⟩), .int .i64 k, .agg #[.int .i64 p.1, .int .i64 p.2]] w fun e w' => e = .returned (.bool true) ∧ AtQ w0 V q { x with S := x.S.set k (putP (x.S.getD k []) p) } w' := by
 refine h.go (C := fun c => c = 6) (by omega) fun tag hS => ?_
 obtain ⟨S, W, hB, ht⟩ := hS.swap
 have hl : k < x.S.length := by rw [wf.slots.1]; exact hk
 have e : x.S.getD k [] = x.S[k] := by rw [List.getD_eq_getElem?_getD, List.getElem?_eq_getElem hl]; rfl
 have hm := xw wf.slots k
 have hlen := qh hm.1 hm.2
 rw [e] at hlen hm ⊢
 refine (zce w q.wp S W x.S hB k x.S[k] (List.getElem?_eq_getElem hl) p hm.1 (by omega)).mono ?_
 rintro r w1 ⟨rfl, S', V', h1, t, hn⟩
 have kk := hS.swap' ht t hn h1
 exact ⟨rfl, _, kk.1, kk.2⟩
theorem AtQ.loadW (h : AtQ w0 V q x w) (wf : WF x) (n page : Nat) (hn : n < 8) {pr : yf} (hp : x.T n = some pr) (hpg : page < 4096) {a : Ar} (ha : yc pr.A (page : Int) = some a) {f : Nat} (he : (x.ent n page).kind = 1 ∧ (x.ent n page).n = f ∧ f < 1024 ∧ x.R.bad f = false) {a0 s : Nat} (hz : a0 / 64 = page) (h0 : 0 < s) (h1 : a0 % 64 + s ≤ 64) :
  Calls Tryz.prog 20 #[ptrV q.sp, .int .i64 n, .int .i64 a0, .int .i64 s] w fun e w' => ∃ v, e = .returned (.tuple #[v, .int .i64 0]) ∧ AtQ w0 ((v, bys (((x.R.read f 0 64).drop (a0 % 64)).take s)) :: V) q x w' := by
 obtain ⟨⟨tag, hS, low, hV⟩, hbel⟩ := h
 have hpf : ∀ b, x.zt n page b = (((f : Int), 0), x) := fun b => by
  unfold za.zt
  rw [if_neg (by omega), if_neg (by omega), if_neg (by omega), he.2.1]
 have hask : x.askF n page false = (((f : Int), 0), x) := by
  unfold za.askF
  rw [hp]
  dsimp only
  rw [ha]
  dsimp only
  rw [if_neg (by simp), if_neg (by simp), hpf]
 have hfi : Fine x n page := ⟨fun _ b _ _ _ => by rw [hpf]; exact ⟨wf, f, rfl, he.2.2.1, he.2.2.2⟩⟩
 have hrd : Z4 x.R [⟨f, a0 % 64, s⟩] = ((x.R.read f 0 64).drop (a0 % 64)).take s := by
  unfold Z4
  simp only [List.flatMap_cons, List.flatMap_nil, List.append_nil]
  exact zdx _ _ _ _ h1
 have RT := zgf hS n a0 s (by rw [hp]; rfl) (by omega) (by omega)
 refine (zcd (tag := tag) (CA := CB) n a0 s RT (fun l x' => l = [⟨f, a0 % 64, s⟩] ∧ x' = x) (fun _ _ => False) ?_ fun l x' ⟨e1, e2⟩ => ?_).mono ?_
 ·refine (U8 n false CB CB0 (fun l x' a t => x' = x ∧ (l = [] ∧ a = a0 ∧ t = s ∨ l = [⟨f, a0 % 64, s⟩] ∧ t = 0)) (fun _ _ => False) (fun W tg x' l a t hj ht hSW => ?_) hS a0 s (by omega) (by omega) ⟨rfl, .inl ⟨rfl, rfl, rfl⟩⟩).mono ?_
  ·obtain ⟨rfl, ⟨rfl, rfl, rfl⟩ | ⟨_, rfl⟩⟩ := hj
   ·rw [hz]
    refine (zem hSW wf n page pr hn hp hpg false hfi).mono ?_
    rintro e w1 ⟨rfl, tag1, h1', s1⟩
    rw [hask] at h1' ⊢
    have hm : min t (64 - a % 64) = t := by omega
    exact ⟨f, 0, x', tag1, rfl, h1', s1, fun _ => ⟨rfl, .inr ⟨by rw [hm]; rfl, by omega⟩⟩, fun z => absurd rfl z⟩
   ·omega
  ·rintro e w1 (⟨v, l, x', a', tag1, rfl, hv, ho, h1', s1, hj⟩ | ⟨c, x', tag1, rfl, hc, h1', s1, hE⟩)
   ·obtain ⟨rfl, ⟨_, _, k3⟩ | ⟨k1, _⟩⟩ := hj
    ·omega
    ·exact .inl ⟨v, l, x', tag1, rfl, hv, h1', s1, k1, rfl⟩
   ·exact absurd hE id
 ·subst e1; subst e2
  exact ⟨by simp, fun p hp => by simp at hp; subst hp; exact ⟨he.2.2.1, h0, h1, he.2.2.2⟩⟩
 ·rintro e w1 (⟨v, l, x', tag1, rfl, hv, ho, hS1, s1, rfl, rfl⟩ | ⟨c, x', tag1, rfl, hc, _, _, hE⟩)
  ·rw [hrd] at hv
   obtain ⟨a1, b1, c1⟩ := Zc CB0 s1 hbel low hV
   refine ⟨v, rfl, ⟨tag1, hS1, a1, fun p hp => ?_⟩, c1⟩
   rcases List.mem_cons.1 hp with rfl | hp
   ·exact ⟨Js.1 (SlAt.rd hv), ho⟩
   ·exact b1 p hp
  ·exact absurd hE id
end
theorem zha {x : za} (h : StK 1 zq.none x) {b : List UInt8} (hb : 0 < b.length ∧ b.length ≤ 64) : x.xx 0 ((0 : Nat) : Int) b.length = 0 ∧ ∃ (y : za) (f : Nat) (pr : yf), x.qx 0 ((0 : Nat) : Int) b = (0, y) ∧ Ok0 y ∧ y.T 0 = some pr ∧ yc pr.A ((0 : Nat) : Int) = some arO ∧ y.S = Zh 0 ∧ ((y.ent 0 0).kind = 1 ∧ (y.ent 0 0).n = f ∧ f < 1024 ∧ y.R.bad f = false) ∧ y.P.use f = 3 ∧ ((y.R.read f 0 64).drop (0 % 64)).take b.length = b := by
 obtain ⟨hK, hcalm, hs0⟩ := outK h
 have hz0 : (0 : Nat) / 64 = 0 := by decide
 have hm0 : (0 : Nat) % 64 = 0 := by decide
 obtain ⟨r0, y, f, e1, d1⟩ := h.ok.zdr (n := 0) (a0 := 0) (b := b) (a := arK 0) hb.1 (by omega) (by omega) (hK 0 (by omega)).can (Vo 0) (by have := h.room; omega) hcalm
 rw [hz0, hm0] at d1
 have hsy : (y.T 0).isSome = true := by rw [d1.keeps.some]; exact hs0
 obtain ⟨pr, hpr⟩ := Option.isSome_iff_exists.1 hsy
 obtain ⟨u3, hB⟩ := zae d1.ok (by omega) (by omega) d1.mine (by decide)
 have har : yc pr.A ((0 : Nat) : Int) = some arO := by
  rw [← Ym hpr, d1.abs, Jb]
  exact (hK 0 (by omega)).area
 have hct := zep d1.ok.ok (by omega) hpr (by omega) har d1.mine.ent.1
 rw [d1.mine.ent.2, Int.toNat_natCast, d1.abs] at hct
 have hct2 : ((x.abs.own (arK 0) 0 0).write (arK 0) 0 0 0 b).ct (arK 0) 0 0 = Abs.splice (x.abs.ct (arK 0) 0 0) 0 b := by
  rw [Yk (fun z => absurd z (by decide)), Xq]
 refine ⟨r0, y, f, pr, e1, d1.ok, hpr, har, ?_, ⟨d1.mine.ent.1, d1.mine.ent.2, d1.mine.lt, d1.ok.ok.wf.uu d1.mine.lt (by omega)⟩, u3, ?_⟩
 ·rw [d1.slots (by rw [h.ents 0 0 (by omega) (by omega)]; decide)]
  exact zfb h.ok.ok.wf.slots.1 h.slots
 ·rw [← hct]
  have hct3 : ((x.abs.own (arK 0) 0 0).write (arK 0) 0 0 0 b).ct arO 0 0 = Abs.splice (x.abs.ct (arK 0) 0 0) 0 b := hct2
  rw [hct3, hm0]
  exact zco _ _ _ rfl
set_option maxRecDepth 100000 in
set_option maxHeartbeats 2000000 in
theorem zg9 (vb : Value) (b : List UInt8) (w : World) (hb0 : BRd w vb b) (hlen : b.length ≤ 64 ∧ b.length ≠ 0) :
  Calls Tryz.prog 5 #[vb] w fun e w' => e = .returned (.bool true) ∧ Below w.heap.size w w' := by
 obtain ⟨ba, bc, rfl, hc3, hc4⟩ := SlRd.form hb0
 obtain ⟨n, hn⟩ : ∃ n, n = b.length := ⟨_, rfl⟩
 rw [← hn] at hlen hc3 ⊢
 have HB : Hid (BRd w (.slice ba n bc) b ∧ b.length = n) := ⟨by rw [hn]; exact hb0, hn.symm⟩
 have hcap : n ≤ maxLen := by omega
 clear hb0 hn hc3 hc4
 have hn64 : ¬ (64 : Int) < n := by omega
 have hn1 : ¬ ((n : Int) = 0) := by omega
 have hn2 : ((n : Int) == 0) = false := beq_eq_false_iff_ne.2 hn1
 have hnn : ¬ n = 0 := hlen.2
 go_enter Tryz.func5, Tryz.ntmps5
 go_wp2_with fail
 refine (Zx w).mono ?_
 rintro e w1 ⟨q, x, rfl, h1, hx⟩
 obtain ⟨r0, y, f, pr, p1, p2, p3, p4, p5, p6, p7, p8⟩ := zha hx (b := b) (by rw [HB.out.2]; omega)
 have FD := Lib.hid (And.intro p2 (And.intro p3 (And.intro p4 (And.intro p5 (And.intro p6 (And.intro p7 p8))))))
 have ST := Lib.hid (h1.store hx.ok (n := 0) (by omega) (outK hx).2.2 0 (h1.arg HB.out.1) r0)
 rw [show x.qx ((0 : Nat) : Int) ((0 : Nat) : Int) b = (0, y) from p1] at ST
 clear h1 hx r0 p1 p2 p3 p4 p5 p6 p7 p8
 unfold ptrV at *
 go_wp2_with fail
 refine ST.out.mono ?_
 rintro e w2 ⟨rfl, h2⟩
 have H2 : Hid (AtQ w [] q { y with S := Zh 0 } w2) := by
  have e : ({ y with S := Zh 0 } : za) = y := by rw [← FD.out.2.2.2.1]
  rw [e]; exact h2
 clear h2 ST
 go_wp2_with fail
 go_loopw [4] (fun iv W => ∃ j : Nat, j ≤ 32 ∧ iv = .int .i64 j ∧ AtQ w [] q { y with S := Zh j } W) (fun iv _ => 32 - (intOf iv).toNat)
 case atStart => exact ⟨0, by omega, rfl, H2.out⟩
 case round =>
  obtain ⟨j, hj, rfl, hA⟩ := hrel
  have HA := Lib.hid hA
  have c5 : wr.cell? ⟨q.sp, 5, none⟩ = some (.pointer (some ⟨q.wp, 0, none⟩)) := hA.cell (i := 5) (by omega)
  have hwf := Lib.hid (FD.out.1.ok.wf.withS (Zh j) (zjg j))
  clear hA H2
  by_cases hlt : j < 32
  ·have hlt' : (j : Int) < 32 := by omega
   have i0 : (0 : Int) ≤ j := by omega
   have HO : Hid (Calls Tryz.prog 26 #[.pointer (some ⟨q.wp, 0, none⟩), .int .i64 j, .agg #[.int .i64 7, .int .i64 j]] wr fun e w' => e = .returned (.bool true) ∧ AtQ w [] q { y with S := Zh (j + 1) } w') := by
    refine (HA.out.hold hwf.out j hlt (plc 7 j)).mono ?_
    rintro e w3 ⟨rfl, h3⟩
    refine ⟨rfl, ?_⟩
    have e0 : (Zh j).getD j [] = [] := by rw [List.getD_eq_getElem?_getD, Y0 j j hlt, if_neg (by omega)]; rfl
    have e1 : (Zh j).set j (putP ((Zh j).getD j []) (plc 7 j)) = Zh (j + 1) := by rw [e0, zhb j]
    rw [← e1]
    exact h3
   go_wp2_with fail
   refine HO.out.mono ?_
   rintro e w3 ⟨rfl, h3⟩
   have H3 := Lib.hid h3
   clear h3 HO c5
   have d5 : IntKind.i64.wrap ((j : Int) + 1) = j + 1 := by simp [IntKind.wrap, IntKind.bits, IntKind.signed]; omega
   go_wp2_with fail
   go_roundw
   case rel => exact ⟨j + 1, by omega, by go_num, H3.out⟩
   case measure => simp [intOf]; omega
  ·obtain rfl : j = 32 := by omega
   have OU : Hid (Calls Tryz.prog 27 #[.pointer (some ⟨q.sp, 0, none⟩), .int .i64 0, .int .i64 0] wr fun e w' => e = .returned (.int .i64 4) ∧ AtQ w [] q { y with S := Zh 32 } w') := by
    have := HA.out.zjn hwf.out 0 0 (by omega) FD.out.2.1 (by omega) fun _ => by
     show y.P.use (y.ent 0 0).n.toNat = 3
     rw [FD.out.2.2.2.2.1.2.1]; exact FD.out.2.2.2.2.2.1
    have e0 : za.outF { y with S := Zh 32 } 0 0 = (4, { y with S := Zh 32 }) := by
     unfold za.outF
     rw [if_neg, if_pos zfc]
     show ¬ (y.ent 0 0).kind ≠ 1
     rw [FD.out.2.2.2.2.1.1]; simp
    rw [e0] at this
    exact this
   clear c5
   go_wp2_with fail
   refine OU.out.mono ?_
   rintro e w4 ⟨rfl, h4⟩
   have LD : Hid (Calls Tryz.prog 20 #[.pointer (some ⟨q.sp, 0, none⟩), .int .i64 0, .int .i64 0, .int .i64 n] w4 fun e w' => ∃ v, e = .returned (.tuple #[v, .int .i64 0]) ∧ AtQ w [(v, bys b)] q { y with S := Zh 32 } w') := by
    have := h4.loadW hwf.out 0 0 (by omega) (pr := pr) FD.out.2.1 (by omega) FD.out.2.2.1 (f := f) FD.out.2.2.2.2.1 (a0 := 0) (s := n) (by decide) (by omega) (by omega)
    have e1 : ((({ y with S := Zh 32 } : za).R.read f 0 64).drop (0 % 64)).take n = b := by rw [← HB.out.2]; exact FD.out.2.2.2.2.2.2
    rw [e1] at this
    exact this
   clear h4 OU HA
   go_wp2_with fail
   refine LD.out.mono ?_
   rintro e w5 ⟨v, rfl, h5⟩
   have H5 := Lib.hid h5
   clear h5 LD
   go_wp2_with fail
   refine (uj w5).mono ?_
   rintro e w6 ⟨rfl, hb⟩
   have H6 := Lib.hid (H5.out.below hb)
   clear hb H5
   go_wp2_with fail
   refine (zes w6 v _ b (H6.out.get (List.mem_cons_self ..)) (SlRd.below HB.out.1 H6.out.bel) (by rw [HB.out.2]; omega)).mono ?_
   rintro e w7 ⟨rfl, hb⟩
   have H7 := Lib.hid (H6.out.below hb).bel
   clear hb H6
   go_wp2_with fail
   go_ret
   exact ⟨rfl, H7.out⟩
set_option maxRecDepth 100000 in
set_option maxHeartbeats 1000000 in
theorem zjf (vb : Value) (b : List UInt8) (w : World) (hb : SlRd w 1 vb b.length (b.flatMap byL)) (_ : ∀ x ∈ b, AnyB x) :
  Calls Tryz.prog 5 #[vb] w fun e w' => e = .returned (.bool true) ∧ Below w.heap.size w w' := by
 by_cases hok : b.length ≤ 64 ∧ b.length ≠ 0
 ·exact zg9 vb b w (BRd.of_law hb) hok
 ·obtain ⟨aa, ac, rfl, h1, h2⟩ := SlRd.form hb
  obtain ⟨n, hn⟩ : ∃ n, n = b.length := ⟨_, rfl⟩
  rw [← hn] at hok h1 ⊢
  have hc1 : n ≤ maxLen := by omega
  have hs : (n = 0) ∨ (n ≠ 0 ∧ 64 < n) := by omega
  clear hb hn hok
  rcases hs with rfl | ⟨h5, h6⟩
  ·go_enter Tryz.func5, Tryz.ntmps5
   go_wp2_with fail
   refine (uj w).mono ?_
   rintro e w1 ⟨rfl, hb⟩
   have HB := Lib.hid hb
   clear hb
   go_wp2_with fail
   go_ret
   exact ⟨rfl, HB.out⟩
  ·have e1 : ¬ ((n : Int) = 0) := by omega
   have e2 : ((n : Int) == 0) = false := beq_eq_false_iff_ne.2 e1
   have e3 : (64 : Int) < n := by omega
   go_enter Tryz.func5, Tryz.ntmps5
   go_wp2_with fail
   refine (uj w).mono ?_
   rintro e w1 ⟨rfl, hb⟩
   have HB := Lib.hid hb
   clear hb
   go_wp2_with fail
   go_ret
   exact ⟨rfl, HB.out⟩
end Go.Proofs.YtnhdmnijiphjjaaGreat
