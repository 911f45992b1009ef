/- SpaceDenied: what may not be written is not. -/
import Derived.Test.YtnhdmnijiphjjaaGreatJAl26
import Derived.Test.YtnhdmnijiphjjaaGreatJAl25
import Derived.Test.YtnhdmnijiphjjaaGreatJAl13
import Derived.Test.YtnhdmnijiphjjaaGreatJAl19
import Derived.Test.YtnhdmnijiphjjaaGreatJAl17
set_option linter.unusedVariables false
set_option linter.unusedSimpArgs false
namespace Go.Proofs.YtnhdmnijiphjjaaGreat
open Go Go.RowKit
def arD (kd : Int) : Ar := ⟨4, 2, true, kd, 0, 0⟩
def arD0 (kd : Int) : Ar := ⟨4, 2, false, kd, 0, 0⟩
theorem Q9 (kd : Int) (h : kd = 1 ∨ kd = 2 ∨ kd = 3) : (arD kd).yu ∧ (arD kd).Wf := by
 rcases h with rfl | rfl | rfl <;> exact ⟨by decide, by unfold Ar.Wf; decide⟩
theorem zbr (kd : Int) (h : kd = 1 ∨ kd = 2 ∨ kd = 3) : Y6 [arD kd] 4 2 false = [arD0 kd] ∧ zo [arD kd] 4 (4 + 2) ≠ [] := by
 rcases h with rfl | rfl | rfl <;> exact ⟨by decide, by decide⟩
theorem den_ok {X : Abs} {Q : List (Int × Int)} {kd : Int} (hX : X.A 0 = some ([arD kd], Q)) {p : Nat} (h : PgOk X (arD kd) 0 p) (hp : 4 ≤ p ∧ p < 6) : PgOk (X.setA 0 [arD0 kd]) (arD0 kd) 0 p ∧ (X.setA 0 [arD0 kd]).ct (arD0 kd) 0 p = X.ct (arD kd) 0 p := by
 have e1 : (X.setA 0 [arD0 kd]).ct (arD0 kd) 0 p = X.ct (arD kd) 0 p := rfl
 refine ⟨⟨?_, h.there, h.shared, by rw [e1]; exact h.len⟩, e1⟩
 have e2 : (X.setA 0 [arD0 kd]).A 0 = some ([arD0 kd], Q) := by
  show (if (0 : Nat) = 0 then (X.A 0).map (fun p => ([arD0 kd], p.2)) else X.A 0) = _
  rw [if_pos rfl, hX]; rfl
 rw [Abs.Xw e2]
 have h3 : (4 : Int) ≤ (p : Int) ∧ (p : Int) - 4 < 2 := by omega
 exact List.find?_cons_of_pos (decide_eq_true h3)
set_option maxRecDepth 100000 in
set_option maxHeartbeats 4000000 in
theorem zd7 (vb : Value) (b : List UInt8) (at_ kn : Nat) (hat : at_ < 256) (hkn : kn < 256) (w : World) (hb0 : BRd w vb b) (hlen : b.length ≤ 32 ∧ b.length ≠ 0) :
  Calls Tryz.prog 8 #[vb, .int .u8 at_, .int .u8 kn] w fun e w' => e = .returned (.bool true) ∧ Below w.heap.size w w' := by
 obtain ⟨ba, bc, rfl, hc3, hc4⟩ := SlRd.form hb0
 obtain ⟨n, hn⟩ : ∃ n, n = b.length := ⟨_, rfl⟩
 obtain ⟨hl1, hl2⟩ := hlen
 rw [← hn] at hl1 hl2 hc3 ⊢
 have HB : Hid (BRd w (.slice ba n bc) b ∧ b.length = n) := ⟨by rw [hn]; exact hb0, hn.symm⟩
 have hcap : n ≤ maxLen := by omega
 clear hb0 hn hc3 hc4
 obtain ⟨k, hk⟩ : ∃ k, k = at_ % 96 := ⟨_, rfl⟩
 obtain ⟨j, hj⟩ : ∃ j, j = kn % 3 := ⟨_, rfl⟩
 have hk96 : k < 96 := by omega
 have hj3 : j < 3 := by omega
 have hmod := Lib.hid (show (at_ : Int) % 96 = k by omega)
 have hmod2 := Lib.hid (show (kn : Int) % 3 = j by omega)
 have hm0 : 0 ≤ (at_ : Int) % 96 := by omega
 have hm1 : (at_ : Int) % 96 < 96 := by omega
 have hm2 : 0 ≤ (kn : Int) % 3 := by omega
 have hm3 : (kn : Int) % 3 < 3 := by omega
 have hp0 : (at_ : Int) < 256 := by omega
 have hp1 : (kn : Int) < 256 := by omega
 have hn0 : (n == 0) = false := beq_eq_false_iff_ne.2 hl2
 have hn1 : ¬ ((n : Int) = 0) := by omega
 have hn2 : ((n : Int) == 0) = false := beq_eq_false_iff_ne.2 hn1
 have hn64 : ¬ (32 : Int) < n := by omega
 clear hk hj
 go_enter Tryz.func8, Tryz.ntmps8
 go_wp2_with fail
 refine (At.fresh w 2 2 (by omega) (by omega)).mono ?_
 rintro e w1 ⟨sp, wp, file, cur, rfl, h1⟩
 have H1 := Lib.hid (h1.less (r' := 63 + 1) (by omega))
 clear h1
 unfold ptrV at *
 go_wp2_with fail
 rw [hmod.out]
 clear hmod hm0 hm1 hp0 hat
 refine (At.spawn H1.out 0 (by omega) rfl).mono ?_
 rintro e w2 ⟨rfl, h2⟩
 have H2 := Lib.hid h2
 clear h2 H1
 go_wp2_with fail
 rw [hmod2.out]
 clear hmod2 hm2 hm3 hp1 hkn
 obtain ⟨kd, hkd⟩ : ∃ kd, kd = 1 + (j : Int) := ⟨_, rfl⟩
 have hk3 := Lib.hid (show kd = 1 ∨ kd = 2 ∨ kd = 3 by omega)
 rw [← hkd]
 clear hkd hj3
 refine (At.map H2.out 0 (A := []) (Q := []) rfl (arD kd) (Q9 kd hk3.out).1 (Q9 kd hk3.out).2 rfl (by simp)).mono ?_
 rintro e w3 ⟨rfl, h3⟩
 rw [U7] at h3
 have hP : ∀ p, 4 ≤ p → p < 6 → PgOk (((Abs.start file cur).spawn 0).map 0 (arD kd) [arD kd]) (arD kd) 0 p := fun p p1 p2 => PgOk.new (fun q hq => H2.out.Vq hq) (Q := []) rfl (Q9 kd hk3.out).1 (by unfold Ar.Has arD; dsimp only; omega) (by omega)
 have hA : (((Abs.start file cur).spawn 0).map 0 (arD kd) [arD kd]).A 0 = some ([arD kd], []) := rfl
 generalize ((Abs.start file cur).spawn 0).map 0 (arD kd) [arD kd] = X3 at h3 hP hA
 have H3 : Hid (At w [] sp X3 (53 + 10) w3 ∧ X3.A 0 = some ([arD kd], []) ∧ ∀ p, 4 ≤ p → p < 6 → PgOk X3 (arD kd) 0 p) := Lib.hid ⟨h3, hA, hP⟩
 clear h3 hP hA H2
 go_wp2_with fail
 rw [show (256 : Int) + (k : Int) = ((256 + k : Nat) : Int) by omega]
 refine (At.storeA H3.out.1 0 (a0 := 256 + k) (H3.out.1.arg HB.out.1) (by rw [HB.out.2]; omega) (by rw [HB.out.2]; omega) (by rw [HB.out.2]; omega) (by omega) (H3.out.2.2 _ (by omega) (by omega)).can (fun z => (H3.out.2.2 _ (by omega) (by rw [HB.out.2] at z; omega)).can) rfl).mono ?_
 rintro e w4 ⟨rfl, h4⟩
 have hP : ∀ p, 4 ≤ p → p < 6 → PgOk (X3.st (arD kd) 0 (256 + k) b) (arD kd) 0 p := fun p p1 p2 => (H3.out.2.2 p p1 p2).st (by rw [HB.out.2]; omega)
 have hA : (X3.st (arD kd) 0 (256 + k) b).A 0 = some ([arD kd], []) := by rw [st_A]; exact H3.out.2.1
 have hrd : (X3.st (arD kd) 0 (256 + k) b).rd (arD kd) 0 (256 + k) n = b := by
  rw [← HB.out.2]
  exact st_rd (H3.out.2.2 _ (by omega) (by omega)) (fun z => H3.out.2.2 _ (by omega) (by rw [HB.out.2] at z; omega)) (by rw [HB.out.2]; omega)
 generalize X3.st (arD kd) 0 (256 + k) b = X4 at h4 hP hA hrd
 have H4 : Hid (At w [] sp X4 53 w4 ∧ X4.A 0 = some ([arD kd], []) ∧ (∀ p, 4 ≤ p → p < 6 → PgOk X4 (arD kd) 0 p) ∧ X4.rd (arD kd) 0 (256 + k) n = b) := Lib.hid ⟨h4, hA, hP, hrd⟩
 clear h4 hP hA hrd H3
 go_wp2_with fail
 refine (At.prot H4.out.1 0 (A := [arD kd]) (Q := []) H4.out.2.1 (fr := 4) (pg := 2) (mk := false) (by decide) (zbr kd hk3.out).2 (by rw [(zbr kd hk3.out).1]; simp)).mono ?_
 rintro e w5 ⟨rfl, h5⟩
 rw [(zbr kd hk3.out).1] at h5
 have hP : ∀ p, 4 ≤ p → p < 6 → PgOk (X4.setA 0 [arD0 kd]) (arD0 kd) 0 p := fun p p1 p2 => (den_ok H4.out.2.1 (H4.out.2.2.1 p p1 p2) ⟨p1, p2⟩).1
 have hrd : (X4.setA 0 [arD0 kd]).rd (arD0 kd) 0 (256 + k) n = b := H4.out.2.2.2
 have hA : (X4.setA 0 [arD0 kd]).A 0 = some ([arD0 kd], []) := by
  show (if (0 : Nat) = 0 then (X4.A 0).map (fun p => ([arD0 kd], p.2)) else X4.A 0) = _
  rw [if_pos rfl, H4.out.2.1]
  rfl
 generalize X4.setA 0 [arD0 kd] = X5 at h5 hP hrd hA
 have hno : X5.area 0 (128 / 64) = none := by rw [Abs.Xw hA]; rfl
 have H5 : Hid (At w [] sp X5 53 w5 ∧ (X5.A 0).isSome = true ∧ (∀ p, 4 ≤ p → p < 6 → PgOk X5 (arD0 kd) 0 p) ∧ X5.rd (arD0 kd) 0 (256 + k) n = b ∧ X5.area 0 (128 / 64) = none) := Lib.hid ⟨h5, by rw [hA]; rfl, hP, hrd, hno⟩
 clear h5 hP hA hrd hno H4
 go_wp2_with fail
 rw [show (256 : Int) + (k : Int) = ((256 + k : Nat) : Int) by omega]
 refine (At.zdi H5.out.1 0 (a0 := 256 + k) (H5.out.1.arg HB.out.1) (by omega) H5.out.2.1 (by rw [HB.out.2]; omega) (by rw [HB.out.2]; omega) (by rw [HB.out.2]; omega) (fun c hc => by rw [(H5.out.2.2.1 _ (by omega) (by omega)).area] at hc; cases hc; rfl)).mono ?_
 rintro e w6 ⟨rfl, h6⟩
 have H6 : Hid (At w [] sp X5 (43 + 10) w6) := Lib.hid h6
 clear h6
 go_wp2_with fail
 rw [show (256 : Int) + (k : Int) = ((256 + k : Nat) : Int) by omega]
 refine (At.loadA H6.out 0 (a0 := 256 + k) (s := n) (by omega) (by omega) (by omega) (by omega) (H5.out.2.2.1 _ (by omega) (by omega)).can (fun z => (H5.out.2.2.1 _ (by omega) (by omega)).can) (l := b) H5.out.2.2.2.1).mono ?_
 rintro e w7 ⟨x, rfl, h7⟩
 have H7 : Hid (At w [(x, bys b)] sp X5 43 w7) := Lib.hid h7
 clear h7 H6
 go_wp2_with fail
 refine (At.zdi H7.out 0 (a0 := 128) (H7.out.arg HB.out.1) (by omega) H5.out.2.1 (by rw [HB.out.2]; omega) (by rw [HB.out.2]; omega) (by rw [HB.out.2]; omega) (fun c hc => by rw [H5.out.2.2.2.2] at hc; cases hc)).mono ?_
 rintro e w8 ⟨rfl, h8⟩
 have H8 : Hid (At w [(x, bys b)] sp X5 43 w8) := Lib.hid h8
 clear h8 H7
 go_wp2_with fail
 refine (At.zmd H8.out 0 (a0 := 128) (s := 1) (by omega) H5.out.2.1 (by omega) (by omega) (by omega) H5.out.2.2.2.2).mono ?_
 rintro e w9 ⟨y, rfl, h9⟩
 have H9 : Hid (At w [(y, bys []), (x, bys b)] sp X5 43 w9) := Lib.hid h9
 clear h9 H8
 go_wp2_with fail
 have hb10 : Below w9.heap.size w9 (w9.alloc (.cells #[.int .u8 1, .int .u8 2] 5)) := (Below.refl _ _).alloc (Nat.le_refl _) _
 have hv10 : BRd (w9.alloc (.cells #[.int .u8 1, .int .u8 2] 5)) (.slice (some ⟨w9.heap.size, 0, none⟩) 2 2) [1, 2] := by
  refine ⟨rfl, .inr ⟨w9.heap.size, 0, 2, rfl, Nat.le_refl _, by decide, by simp, fun u v hu => ?_⟩⟩
  rw [Nat.zero_add, Xh, ← hu, ← Array.getElem?_toList]
  rfl
 have H10 := Lib.hid (H9.out.more hb10 hv10 fun b hb => .inr (by simp [Value.ownBlock] at hb; omega))
 clear hb10 hv10 H9
 refine (At.zdi H10.out 0 (a0 := 383) (.inl (List.mem_cons_self ..)) (by omega) H5.out.2.1 (by simp) (by simp) (by simp) (fun c hc => by rw [(H5.out.2.2.1 5 (by omega) (by omega)).area] at hc; cases hc; rfl)).mono ?_
 rintro e w11 ⟨rfl, h11⟩
 have hin : (x, bys b) ∈ ((.slice (some ⟨w9.heap.size, 0, none⟩) 2 2, bys [1, 2]) :: [(y, bys []), (x, bys b)] : List (Value × List Value)) := by simp
 generalize ((.slice (some ⟨w9.heap.size, 0, none⟩) 2 2, bys [1, 2]) :: [(y, bys []), (x, bys b)] : List (Value × List Value)) = VV at h11 hin
 have H11 : Hid (At w VV sp X5 43 w11 ∧ (x, bys b) ∈ VV) := Lib.hid ⟨h11, hin⟩
 clear h11 hin H10 H5
 go_wp2_with fail
 refine (yj w11).mono ?_
 rintro e w12 ⟨rfl, hb⟩
 have H12 : Hid (At w VV sp X5 43 w12 ∧ (x, bys b) ∈ VV) := Lib.hid ⟨H11.out.1.below hb, H11.out.2⟩
 clear hb H11
 go_wp2_with fail
 refine (Xk w12 x _ b (H12.out.1.get H12.out.2) (SlRd.below HB.out.1 H12.out.1.bel) (by rw [HB.out.2]; omega)).mono ?_
 rintro e w13 ⟨rfl, hb⟩
 have H13 : Hid (At w VV sp X5 43 w13) := Lib.hid (H12.out.1.below hb)
 clear hb H12
 go_wp2_with fail
 go_ret
 exact ⟨rfl, H13.out.bel⟩
set_option maxRecDepth 100000 in
set_option maxHeartbeats 1000000 in
theorem zf9 (vb : Value) (b : List UInt8) (p q : Int) (w : World) (hb : SlRd w 1 vb b.length (b.flatMap byL)) (_ : ∀ x ∈ b, AnyB x) (hp : (Lit.int .u8 p).wf = true) (hq : (Lit.int .u8 q).wf = true) :
  Calls Tryz.prog 8 #[vb, .int .u8 p, .int .u8 q] w fun e w' => e = .returned (.bool true) ∧ Below w.heap.size w w' := by
 have hp0 : 0 ≤ p ∧ p ≤ 255 := by simp [Lit.wf] at hp; exact ⟨hp.1, hp.2⟩
 have hq0 : 0 ≤ q ∧ q ≤ 255 := by simp [Lit.wf] at hq; exact ⟨hq.1, hq.2⟩
 obtain ⟨p, rfl⟩ := Int.eq_ofNat_of_zero_le hp0.1
 obtain ⟨q, rfl⟩ := Int.eq_ofNat_of_zero_le hq0.1
 by_cases hok : b.length ≤ 32 ∧ b.length ≠ 0
 ·exact zd7 vb b p q (by omega) (by omega) w (BRd.of_law hb) hok
 ·obtain ⟨aa, ac, rfl, h1, h2⟩ := SlRd.form hb
  obtain ⟨n, hn⟩ : ∃ n, n = b.length := ⟨_, rfl⟩
  rw [← hn] at hok h1 ⊢
  have hc1 : n ≤ maxLen := by omega
  have hs : (n = 0) ∨ (n ≠ 0 ∧ 32 < n) := by omega
  clear hb hn hok hp hp0 hq hq0
  rcases hs with rfl | ⟨h5, h6⟩
  ·go_enter Tryz.func8, Tryz.ntmps8
   go_wp2_with fail
   refine (yj w).mono ?_
   rintro e w1 ⟨rfl, hb⟩
   have HB := Lib.hid hb
   clear hb
   go_wp2_with fail
   go_ret
   exact ⟨rfl, HB.out⟩
  ·have e1 : ¬ ((n : Int) = 0) := by omega
   have e2 : ((n : Int) == 0) = false := beq_eq_false_iff_ne.2 e1
   have e3 : (32 : Int) < n := by omega
   go_enter Tryz.func8, Tryz.ntmps8
   go_wp2_with fail
   refine (yj w).mono ?_
   rintro e w1 ⟨rfl, hb⟩
   have HB := Lib.hid hb
   clear hb
   go_wp2_with fail
   go_ret
   exact ⟨rfl, HB.out⟩
def Abs.bare (X : Abs) (n page : Nat) : PV := match X.area n page with | some a => Jn a | none => .none
section
variable {F : Nat → Prop} {x y : za}
theorem OK.put_pv (h : OK F x) {n page : Nat} {pr : yf} {e : Ent} (d : PutD x n page pr e 0 y) (hp : x.T n = some pr) (hpg : page < 4096) (o : ∀ n, 8 ≤ n → x.T n = none) (v : PV) (hv : y.pv n page = v) : y.abs = x.abs.Xt n page v := by
 have hR : ∀ f i, f < 1024 → (x.P.use f = 3 ∨ x.P.use f = 4) → i < 64 → y.R.b f i = x.R.b f i := fun f i hf hu hi => d.bytes f i (by omega) fun ho => by have := (h.wf.xe ho).2.1; omega
 have hA : ∀ m, (y.T m).map (fun pr => (pr.A, pr.Q)) = (x.T m).map (fun pr => (pr.A, pr.Q)) := fun m => by
  by_cases k : m = n
  ·subst k
   obtain ⟨T', ht⟩ := d.this
   rw [ht, hp]
   rfl
  ·rw [d.oth m k]
 have hA1 : ∀ m, (y.T m).map (·.A) = (x.T m).map (·.A) := fun m => by
  have := congrArg (Option.map Prod.fst) (hA m)
  simpa [Option.map_map, Function.comp_def] using this
 unfold za.abs Abs.Xt
 rw [Abs.mk.injEq]
 refine ⟨funext hA, ?_, ?_, by funext k; unfold za.jh; rw [d.keep.2.1], by rw [d.keep.1]⟩
 ·funext m pg
  by_cases k : m = n ∧ pg = page
  ·rw [if_pos k, k.1, k.2, if_pos hpg]
   exact hv
  ·rw [if_neg k]
   by_cases hq : pg < 4096
   ·rw [if_pos hq]
    dsimp only
    rw [if_pos hq]
    have he : y.ent m pg = x.ent m pg := by rw [d.ent m pg hq, if_neg fun a => k a.2]
    by_cases hm : m < 8
    ·exact V5 h m pg hm hq (hA1 m) he (fun _ => by rw [d.keep.2.2]) (fun _ => by rw [d.keep.1]) hR
    ·have h1 := o m (by omega)
     have h2 : y.T m = none := by
      have := hA m
      rw [h1] at this
      simpa using this
     unfold za.pv
     rw [h1, h2]
   ·rw [if_neg hq]
    dsimp only
    rw [if_neg hq]
 ·funext k
  by_cases hk : jf k
  ·rw [if_pos hk]
   dsimp only
   rw [if_pos hk]
   exact Ym h k d.keep.2.1 (by rw [d.keep.1]) fun f i a b c => hR f i a (.inr b) c
  ·rw [if_neg hk]
   dsimp only
   rw [if_neg hk]
theorem Ok0.zg9 (h : Ok0 x) {n page : Nat} {pr : yf} (hp : x.T n = some pr) (hpg : page < 4096) :
  (x.putF n page Ent.none).1 = 0 ∧ Ok0 (x.putF n page Ent.none).2 ∧ (x.putF n page Ent.none).2.abs = x.abs.Xt n page (x.abs.bare n page) ∧ uk 0 x (x.putF n page Ent.none).2 ∧ (x.putF n page Ent.none).2.D = x.D ∧
   (∃ T', (x.putF n page Ent.none).2.T n = some ⟨T', pr.A, pr.Q⟩) ∧ ∀ pg, pg < 4096 → (x.putF n page Ent.none).2.ent n pg = if pg = page then Ent.none else x.ent n pg := by
 have hn := h.ok.Zx h.out hp
 have d := h.ok.wf.putF hn hp hpg (e := Ent.none) (by decide)
 obtain ⟨c0, kp⟩ := d.ze1 h.ok.wf hp (.inr rfl)
 rw [c0] at d
 have k := h.ok.put d hn hp hpg (fun z => (by cases z)) ⟨fun z => absurd rfl z, fun _ _ z => (by cases z), fun _ _ _ z => (by cases z), fun _ _ z => (by cases z), fun _ _ z => (by cases z)⟩
 have he : ∀ pg, pg < 4096 → (x.putF n page Ent.none).2.ent n pg = if pg = page then Ent.none else x.ent n pg := fun pg hq => by
  rw [d.ent n pg hq]
  by_cases z : pg = page
  ·rw [if_pos ⟨rfl, rfl, z⟩, if_pos z]
  ·rw [if_neg fun q => z q.2.2, if_neg z]
 refine ⟨c0, ⟨k.mono fun f hf => hf.1, fun m hm => ?_⟩, h.ok.put_pv d hp hpg h.out _ ?_, kp, d.keep.1, d.this, he⟩
 ·rw [d.oth m (by omega)]; exact h.out m hm
 ·obtain ⟨T', ht⟩ := d.this
  unfold za.pv Abs.bare
  rw [ht, qx hp]
  dsimp only
  cases zm pr.A (page : Int) with
  | none => rfl
  | some a =>
   dsimp only
   rw [he page hpg, if_pos rfl]
   rfl
def za.clrF (x : za) (n fr : Nat) : Nat → za
 | 0 => x
 | k + 1 => ((x.clrF n fr k).putF n (fr + k) Ent.none).2
def Abs.clrs (X : Abs) (n fr k : Nat) : Abs := { X with pv := fun m pg => if m = n ∧ fr ≤ pg ∧ pg < fr + k then X.bare n pg else X.pv m pg }
theorem Ok0.clr (h : Ok0 x) {n fr : Nat} {pr : yf} (hp : x.T n = some pr) : ∀ k, fr + k ≤ 4096 → Ok0 (x.clrF n fr k) ∧ (x.clrF n fr k).abs = x.abs.clrs n fr k ∧ uk 0 x (x.clrF n fr k) ∧ (x.clrF n fr k).D = x.D ∧ (∃ T', (x.clrF n fr k).T n = some ⟨T', pr.A, pr.Q⟩) ∧
  ∀ pg, pg < 4096 → (x.clrF n fr k).ent n pg = if fr ≤ pg ∧ pg < fr + k then Ent.none else x.ent n pg
 | 0, _ => by
  refine ⟨h, ?_, uk.refl x, rfl, ⟨pr.T, hp⟩, fun pg _ => by rw [if_neg (by omega)]; rfl⟩
  show x.abs = x.abs.clrs n fr 0
  unfold Abs.clrs
  have : (fun m pg => if m = n ∧ fr ≤ pg ∧ pg < fr + 0 then x.abs.bare n pg else x.abs.pv m pg) = x.abs.pv := by
   funext m pg
   rw [if_neg (by omega)]
  rw [this]
 | k + 1, hk => by
  obtain ⟨a1, a2, a3, a4, ⟨T', a5⟩, a6⟩ := Ok0.clr (fr := fr) h hp k (by omega)
  have hlt : fr + k < 4096 := by omega
  obtain ⟨_, b2, b3, b4, b5, ⟨T2, b6⟩, b7⟩ := a1.zg9 (page := fr + k) a5 hlt
  refine ⟨b2, ?_, (a3.trans b4).mono (by omega), b5.trans a4, ⟨T2, b6⟩, fun pg hq => ?_⟩
  ·show ((x.clrF n fr k).putF n (fr + k) Ent.none).2.abs = _
   rw [b3, a2]
   have hb : (x.abs.clrs n fr k).bare n (fr + k) = x.abs.bare n (fr + k) := rfl
   rw [hb]
   unfold Abs.clrs Abs.Xt
   rw [Abs.mk.injEq]
   refine ⟨rfl, ?_, rfl, rfl, rfl⟩
   funext m pg
   dsimp only
   by_cases z : m = n ∧ pg = fr + k
   ·rw [if_pos z, if_pos ⟨z.1, by omega, by omega⟩, z.2]
   ·rw [if_neg z]
    by_cases z2 : m = n ∧ fr ≤ pg ∧ pg < fr + k
    ·rw [if_pos z2, if_pos ⟨z2.1, z2.2.1, by omega⟩]
    ·rw [if_neg z2, if_neg (by omega)]
  ·show ((x.clrF n fr k).putF n (fr + k) Ent.none).2.ent n pg = _
   rw [b7 pg hq, a6 pg hq]
   by_cases z : pg = fr + k
   ·rw [if_pos z, if_pos (by omega)]
   ·rw [if_neg z]
    by_cases z2 : fr ≤ pg ∧ pg < fr + k
    ·rw [if_pos z2, if_pos (by omega)]
    ·rw [if_neg z2, if_neg (by omega)]
def Abs.zay (X : Abs) (n fr pg : Nat) (L : List Ar) : Abs := (X.clrs n fr pg).zj7 n L
theorem Ok0.zay (h : Ok0 x) {n fr pg : Nat} {pr : yf} (hp : x.T n = some pr) (hr : uo fr pg) (h16 : (cutA pr.A fr pg).length ≤ 16) {T' : Zm} (hT : (x.clrF n fr pg).T n = some ⟨T', pr.A, pr.Q⟩) :
  Ok0 ((x.clrF n fr pg).put n ⟨T', cutA pr.A fr pg, pr.Q⟩) ∧ ((x.clrF n fr pg).put n ⟨T', cutA pr.A fr pg, pr.Q⟩).abs = x.abs.zay n fr pg (cutA pr.A fr pg) ∧ x.P.room ≤ ((x.clrF n fr pg).put n ⟨T', cutA pr.A fr pg, pr.Q⟩).P.room ∧ ((x.clrF n fr pg).put n ⟨T', cutA pr.A fr pg, pr.Q⟩).D = x.D := by
 have hle : fr + pg ≤ 4096 := by obtain ⟨_, _, _, r⟩ := hr; omega
 obtain ⟨a1, a2, a3, a4, _, a6⟩ := h.clr (fr := fr) hp pg hle
 have hA := (h.ok.wf.jr n pr hp).1
 obtain ⟨b1, b2⟩ := a1.recut (pr := ⟨T', pr.A, pr.Q⟩) hT ⟨zmz hA hr, h16⟩ fun page hpg => by
  obtain ⟨c1, c2⟩ := zj3 (l := pr.A) (p := (page : Int)) (by omega) hr
  by_cases z : fr ≤ page ∧ page < fr + pg
  ·exact .inl ⟨by rw [a6 page hpg, if_pos z]; rfl, c1 (by omega)⟩
  ·rcases c2 (by omega) with ⟨e1, e2⟩ | ⟨a, b, e1, e2, e3⟩
   ·refine .inl ⟨?_, e2⟩
    by_cases y : ((x.clrF n fr pg).ent n page).kind = 0
    ·exact y
    ·obtain ⟨c, hc⟩ := (a1.ok.area n _ page hT hpg).find y
     rw [e1] at hc; cases hc
   ·exact .inr ⟨a, b, _, e1, e2, e3⟩
 have e1 : ∀ pp, ((x.clrF n fr pg).put n pp).P = (x.clrF n fr pg).P := fun _ => rfl
 have e2 : ∀ pp, ((x.clrF n fr pg).put n pp).D = (x.clrF n fr pg).D := fun _ => rfl
 refine ⟨b1, by rw [b2, a2, Abs.zay], ?_, by rw [e2, a4]⟩
 rw [e1]
 have := a3.room
 omega
end
section
variable {w w' : World} {tag tag' : Nat → Nat} {q : Sq} {x : za}
theorem zb.areas2 (h : zb w tag q x) {n : Nat} {pr : yf} (hn : n < 8) (hp : x.T n = some pr) {A : List Ar} {v : Value} (hv : ArAt w v A) (ho : ∀ b, v.ownBlock = some b → tag b = 30 + n) :
  zb (w.setCell ⟨(q.U n).ap, 1, none⟩ v) tag q (x.put n ⟨pr.T, A, pr.Q⟩) ∧ Step (fun c => c = 20 + n) tag w tag (w.setCell ⟨(q.U n).ap, 1, none⟩ v) := by
 obtain ⟨h1, h2, ⟨av, r1, r2, r3⟩, h4, h5, h6⟩ := h.procs n pr hn hp
 have t : Turn (fun b => tag b = 20 + n) w (w.setCell ⟨(q.U n).ap, 1, none⟩ v) := (Turn.refl _ w).set (p := ⟨(q.U n).ap, 1, none⟩) (.inl h2) v
 have s : Step (fun c => c = 20 + n) tag w tag (w.setCell ⟨(q.U n).ap, 1, none⟩ v) := ⟨fun b hb => rfl, t.mono fun k _ e => e⟩
 have hT : ∀ m, (x.put n ⟨pr.T, A, pr.Q⟩).T m = if m = n then some ⟨pr.T, A, pr.Q⟩ else x.T m := fun m => rfl
 have hapl := r1.lt
 refine ⟨h.turn s (by omega) (by omega) (fun m hm => ?_) (fun m hm => ?_) (.inl ⟨by omega, rfl⟩) (.inl ⟨by omega, rfl⟩) (.inl ⟨by omega, rfl⟩) (.inl ⟨by omega, rfl⟩) (.inl ⟨by omega, rfl, rfl⟩) (.inl ⟨by omega, rfl⟩) fun m pm hm hx => ?_, s⟩
 ·rw [hT]
  split
  ·rename_i e; rw [e, hp]; rfl
  ·rfl
 ·rw [hT, if_neg (by omega)]
  exact h.out m hm
 ·rw [hT] at hx
  by_cases e : m = n
  ·rw [if_pos e] at hx
   subst e
   have e2 := Option.some.inj hx
   subst e2
   have q4 := h4.lt
   have k4 := s.keeps (c := 40 + m) (by omega)
   refine .inr ⟨h1.loc (s.keeps (by omega)), h2, ⟨v, ?_, ?_, fun b hb => ho b hb⟩, h4.keep fun b hb => ?_, (k4 _ q4.1 h5).1, (k4 _ q4.2.1 h6).1⟩
   ·refine (r1.set (i := 1) (by omega) v).congr fun i hi => ?_
    rcases (by omega : i = 0 ∨ i = 1 ∨ i = 2) with rfl | rfl | rfl <;> rfl
   ·exact SlAt.keep hv fun b hb => Below.heap_setCell w ⟨(q.U m).ap, 1, none⟩ v b (by have := ho b hb; show b ≠ (q.U m).ap; intro z; rw [z] at this; omega)
   ·rcases hb with rfl | rfl
    ·exact (k4 _ q4.1 h5).2
    ·exact (k4 _ q4.2.1 h6).2
  ·rw [if_neg e] at hx
   exact .inl ⟨⟨by omega, by omega, by omega, by omega⟩, hx⟩
def CM (n c : Nat) : Prop := CP n c ∨ c = 20 + n
theorem CM0 (n : Nat) : ¬ CM n 0 := by unfold CM CP; omega
set_option maxRecDepth 100000 in
set_option maxHeartbeats 1000000 in
theorem zgf (h : zb w tag q x) (n : Nat) (pr : yf) (hn : n < 8) (hp : x.T n = some pr) (hs : ∀ a ∈ pr.A, a.yu) (hlen : pr.A.length ≤ 100) (fr pg : Nat) (hr : uo fr pg) (h16 : (cutA pr.A fr pg).length ≤ 16)
  (hK : ∀ k, k ≤ pg → WF (x.clrF n fr k) ∧ (∃ T', (x.clrF n fr k).T n = some ⟨T', pr.A, pr.Q⟩) ∧ (k < pg → ((x.clrF n fr k).putF n (fr + k) Ent.none).1 = 0)) :
  Calls Tryz.prog 32 #[ptrV q.sp, .int .i64 n, .int .i64 fr, .int .i64 pg] w fun e w' => e = .returned (.int .i64 0) ∧ ∃ T' tag', (x.clrF n fr pg).T n = some ⟨T', pr.A, pr.Q⟩ ∧ zb w' tag' q ((x.clrF n fr pg).put n ⟨T', cutA pr.A fr pg, pr.Q⟩) ∧ Step (CM n) tag w tag' w' := by
 have F := Lib.hid (qm h (n : Int))
 have ev : Zk q x (n : Int) = .tuple #[ptrV (q.U n).ap, .bool true] := by
  unfold Zk
  rw [show ((n : Nat) : Int).toNat = n by omega, hp]
  have : (0 : Int) ≤ n := by omega
  simp [this]
 rw [ev] at F
 obtain ⟨av, r1, r2, r3⟩ := (h.procs n pr hn hp).row
 have c1 := r1.cell (i := 1) (by omega)
 have z1 := r1.frozen 1
 dsimp only [Z7] at c1
 have C := Lib.hid (zky w av pr.A (SlAt.rd r2) hs hlen fr pg)
 have HR := Lib.hid (And.intro hr (And.intro h16 h))
 have HK := Lib.hid hK
 have hle : fr < 4096 ∧ fr + pg ≤ 4096 := by obtain ⟨a, b, c, d⟩ := hr; omega
 obtain ⟨ava, avc, hav, _, _⟩ := SlAt.form r2
 subst hav
 unfold ptrV at F ⊢
 clear h hp ev r1 r2 r3 hs hlen hr h16 hK
 go_enter Tryz.func32, Tryz.ntmps32
 go_wp2_with fail
 refine F.out.mono ?_
 rintro e u ⟨rfl, hu⟩
 have hu := hu.symm
 subst hu
 clear F
 go_wp2_with fail
 refine C.out.mono ?_
 rintro e w2 ⟨v', X, rfl, hb2, ho2, _, k2, _⟩
 obtain ⟨rfl, hA⟩ := k2 HR.out.1 HR.out.2.1
 obtain ⟨a2, c2, rfl, _, _⟩ := SlAt.form hA
 have s2 : Step (CM n) tag w (retag tag w (30 + n)) w2 := ⟨fun b hb => if_pos hb, Turn.of_below hb2⟩
 have hS2 : zb w2 (retag tag w (30 + n)) q x := HR.out.2.2.step ⟨fun b hb => if_pos hb, Turn.of_below hb2⟩
 have ho3 : ∀ b, (Value.slice a2 (cutA pr.A fr pg).length c2).ownBlock = some b → retag tag w (30 + n) b = 30 + n := fun b hb => zx _ _ _ _ (ho2 b hb)
 obtain ⟨tag2, ht2⟩ : ∃ tag2, tag2 = retag tag w (30 + n) := ⟨_, rfl⟩
 rw [← ht2] at s2 hS2 ho3
 obtain ⟨L, hL⟩ : ∃ L, L = cutA pr.A fr pg := ⟨_, rfl⟩
 rw [← hL] at hA ho3
 have HL := Lib.hid hL
 have H2 := Lib.hid (And.intro s2 (And.intro hS2 (And.intro ho3 hA)))
 clear s2 hS2 ho3 hA ht2 hL hb2 ho2 k2 C c1 z1
 go_wp2_with fail
 go_loopw [13, 14] (fun pv _ W => ∃ (k : Nat) (tg : Nat → Nat), k ≤ pg ∧ pv = .int .i64 ((fr + k : Nat) : Int) ∧ zb W tg q (x.clrF n fr k) ∧ Step (CM n) tag w tg W ∧ ArAt W (.slice a2 L.length c2) L ∧ ∀ b, (Value.slice a2 L.length c2).ownBlock = some b → tg b = 30 + n) (fun pv _ _ => 8192 - (intOf pv).toNat)
 case atStart => exact ⟨0, tag2, by omega, rfl, H2.out.2.1, H2.out.1, H2.out.2.2.2, H2.out.2.2.1⟩
 case round =>
  obtain ⟨k, tg, hk, rfl, hS, hst, hA, ho⟩ := hrel
  have H3 := Lib.hid (And.intro hS (And.intro hst (And.intro hA ho)))
  clear hS hst hA ho H2
  by_cases hlt : k < pg
  ·have hlt' : ((fr + k : Nat) : Int) < (fr : Int) + (pg : Int) := by omega
   go_wp2_with fail
   have P := Yd H3.out.1 (HK.out k hk).1 n (fr + k) hn (by omega) Ent.none (by decide)
   rw [(HK.out k hk).2.2 hlt] at P
   refine P.mono ?_
   rintro e w3 ⟨rfl, tg3, hS3, s3⟩
   have hst3 : Step (CM n) tag w tg3 w3 := H3.out.2.1.trans (s3.mono fun c hc => .inl hc)
   have hA3 : ArAt w3 (.slice a2 L.length c2) L := SlAt.keep H3.out.2.2.1 fun b hb => (s3.keeps (c := 30 + n) (by unfold CP; omega) b (SlAt.lt H3.out.2.2.1 b hb) (H3.out.2.2.2 b hb)).2
   have ho3 : ∀ b, (Value.slice a2 L.length c2).ownBlock = some b → tg3 b = 30 + n := fun b hb => (s3.keeps (c := 30 + n) (by unfold CP; omega) b (SlAt.lt H3.out.2.2.1 b hb) (H3.out.2.2.2 b hb)).1
   have H4 : Hid (zb w3 tg3 q (x.clrF n fr (k + 1)) ∧ Step (CM n) tag w tg3 w3 ∧ ArAt w3 (.slice a2 L.length c2) L ∧ ∀ b, (Value.slice a2 L.length c2).ownBlock = some b → tg3 b = 30 + n) := Lib.hid ⟨hS3, hst3, hA3, ho3⟩
   clear hS3 s3 hst3 hA3 ho3 P
   go_wp2_with fail
   go_roundw
   case rel => exact ⟨k + 1, tg3, by omega, by go_num, H4.out⟩
   case measure => simp [intOf]; omega
  ·have hkp : k = pg := by omega
   subst hkp
   obtain ⟨T', hT'⟩ := (HK.out k hk).2.1
   obtain ⟨av', q1, q2, q3⟩ := (H3.out.1.procs n _ hn hT').row
   have c1 := q1.cell (i := 1) (by omega)
   have z1 := q1.frozen 1
   have K := H3.out.1.areas2 hn hT' H3.out.2.2.1 H3.out.2.2.2
   have HF := Lib.hid (And.intro K.1 (And.intro K.2 hT'))
   have hlt' : ¬ ((fr + k : Nat) : Int) < (fr : Int) + (k : Int) := by omega
   clear K q1 q2 q3 hT'
   go_wp2_with fail
   go_ret
   rw [← HL.out]
   exact ⟨rfl, T', HF.out.2.2, tg, HF.out.1, H3.out.2.1.trans (HF.out.2.1.mono fun c hc => .inr hc)⟩
end
theorem CM_0 (n : Nat) : ¬ CM n 0 := CM0 n
section
variable {w0 w w' : World} {V : List (Value × List Value)} {sp r : Nat} {X : Abs}
theorem At.zay (h : At w0 V sp X r w) (n : Nat) {A : List Ar} {Q : List (Int × Int)} (hX : X.A n = some (A, Q)) {fr pg : Nat} (hr : uo fr pg) (hlen : (cutA A fr pg).length ≤ 16) :
  Calls Tryz.prog 32 #[ptrV sp, .int .i64 n, .int .i64 fr, .int .i64 pg] w fun e w' => e = .returned (.int .i64 0) ∧ At w0 V sp (X.zay n fr pg (cutA A fr pg)) r w' := by
 obtain ⟨⟨x, q, tag, rfl, hS, low, hV, hk, rfl, hr', hc⟩, hbel⟩ := h
 obtain ⟨pr, hp, he⟩ := Option.map_eq_some_iff.1 (show (x.T n).map (fun pr => (pr.A, pr.Q)) = some (A, Q) from hX)
 have hA : pr.A = A := congrArg Prod.fst he
 subst hA
 have hn := hk.ok.Zx hk.out hp
 obtain ⟨ok1, ok2⟩ := hk.ok.wf.jr n pr hp
 have hle : fr + pg ≤ 4096 := by obtain ⟨_, _, _, z⟩ := hr; omega
 refine (zgf hS n pr hn hp ok1.1 (by omega) fr pg hr hlen fun k hk2 => ?_).mono ?_
 ·obtain ⟨a1, _, _, _, ⟨T', a5⟩, _⟩ := hk.clr (fr := fr) hp k (by omega)
  exact ⟨a1.ok.wf, ⟨T', a5⟩, fun z => (a1.zg9 (page := fr + k) a5 (by omega)).1⟩
 ·rintro e w1 ⟨rfl, T', tag1, hT, hS1, s1⟩
  obtain ⟨a1, b1, c1⟩ := vv (CM_0 n) s1 hbel low hV
  obtain ⟨k1, k2, k3, k4⟩ := hk.zay hp hr hlen hT
  exact ⟨rfl, ⟨⟨_, q, tag1, rfl, hS1, a1, b1, k1, k2, by omega, by rw [k4]; exact hc⟩, c1⟩⟩
theorem At.store0 (h : At w0 V sp X r w) (n : Nat) {a0 : Nat} {v : Value} (hv : Has w0 V w v []) (hn : n < 8) (hX : (X.A n).isSome = true) (h2 : a0 ≤ 262144) :
  Calls Tryz.prog 19 #[ptrV sp, .int .i64 n, .int .i64 a0, v] w fun e w' => e = .returned (.int .i64 0) ∧ At w0 V sp X r w' := by
 obtain ⟨⟨x, q, tag, rfl, hS, low, hV, hk, rfl, hr, hc⟩, hbel⟩ := h
 have hs : (x.T n).isSome = true := by
  have : ((x.T n).map fun pr => (pr.A, pr.Q)).isSome = true := hX
  simpa using this
 obtain ⟨hv1, hv2⟩ := zbg hv low hV
 have hz : x.x8 n a0 ([] : List UInt8).length = 0 := Zt (k := 0) hs (by omega) (by omega)
 have W := At.store' hS hk hn hs a0 hv1 hv2 hz
 have e1 : x.Yg n a0 [] = (0, x) := by
  unfold za.Yg
  rw [if_pos hz]
  simp only [Int.toNat_natCast, List.length_nil]
  unfold za.zh
  rw [if_pos rfl]
  rfl
 rw [e1] at W
 refine W.mono ?_
 rintro e w1 ⟨rfl, tag1, hS1, s1⟩
 obtain ⟨a1, b1, c1⟩ := vv CB0 s1 hbel low hV
 exact ⟨rfl, ⟨⟨x, q, tag1, rfl, hS1, a1, b1, hk, rfl, hr, hc⟩, c1⟩⟩
end
theorem zj8 {a : Ar} : cutA [a] a.from_ a.pages = [] := by
 rw [List.eq_nil_iff_forall_not_mem]
 intro x hx
 unfold cutA at hx
 rcases List.mem_append.1 hx with hx | hx
 ·obtain ⟨b, hb, hx⟩ := jo.1 hx
  simp at hb
  subst hb
  have := (qz.1 hx).1
  omega
 ·obtain ⟨b, hb, hx⟩ := jo.1 hx
  simp at hb
  subst hb
  have := (qz.1 hx).1
  omega
def arZ (k p : Nat) : Ar := ⟨k, p, true, 1, 0, 0⟩
theorem Yn (k p : Nat) (h : k < 20 ∧ 1 ≤ p ∧ p ≤ 4) : (arZ k p).yu ∧ (arZ k p).Wf := by
 refine ⟨⟨by show (1 : Int) ≤ 1; omega, by show (1 : Int) ≤ 3; omega, by show (0 : Int) ≤ (k : Int); omega, by show (1 : Int) ≤ (p : Int); omega, by show (k : Int) < 4096; omega, by show (p : Int) ≤ 4096 - (k : Int); omega, .inl ⟨rfl, rfl, rfl⟩⟩, ?_⟩
 unfold Ar.Wf arZ
 simp [Lit.wf]
 have h1 : IntKind.i64.min = -9223372036854775808 := rfl
 have h2 : IntKind.i64.max = 9223372036854775807 := rfl
 try rw [h1]
 try rw [h2]
 omega
def arc (k p : Nat) : List Value := [.int .i64 k, .int .i64 p, .bool true, .int .i64 1, .int .i64 0, .int .i64 0]
theorem zbq {w0 w : World} {V : List (Value × List Value)} {sp r : Nat} {X : Abs} (h : At w0 V sp X r w) {sb k p : Nat} (hin : (.slice (some ⟨sb, 0, none⟩) 6 6, arc k p) ∈ V) :
  w.cell? ⟨sb, 0, none⟩ = some (.int .i64 k) ∧ w.cell? ⟨sb, 1, none⟩ = some (.int .i64 p) ∧ w.cell? ⟨sb, 2, none⟩ = some (.bool true) ∧ w.cell? ⟨sb, 3, none⟩ = some (.int .i64 1) ∧ w.cell? ⟨sb, 4, none⟩ = some (.int .i64 0) ∧ w.cell? ⟨sb, 5, none⟩ = some (.int .i64 0) := by
 obtain ⟨b, off, c, he, _, _, hx⟩ := SlRd.cells (h.kept hin) (by show 0 < 6; omega)
 cases he
 exact ⟨hx 0 _ rfl, hx 1 _ rfl, hx 2 _ rfl, hx 3 _ rfl, hx 4 _ rfl, hx 5 _ rfl⟩
set_option maxRecDepth 100000 in
set_option maxHeartbeats 4000000 in
theorem zgs (vb : Value) (b : List UInt8) (pa pn : Nat) (hpa : pa < 256) (hpn : pn < 256) (w : World) (hb0 : BRd w vb b) (hlen : b.length ≤ 64) :
  Calls Tryz.prog 7 #[vb, .int .u8 pa, .int .u8 pn] w fun e w' => e = .returned (.bool true) ∧ Below w.heap.size w w' := by
 obtain ⟨ba, bc, rfl, hc3, hc4⟩ := SlRd.form hb0
 obtain ⟨n, hn⟩ : ∃ n, n = b.length := ⟨_, rfl⟩
 rw [← hn] at hlen hc3 ⊢
 have HB : Hid (BRd w (.slice ba n bc) b ∧ b.length = n) := ⟨by rw [hn]; exact hb0, hn.symm⟩
 have hcap : n ≤ maxLen := by omega
 clear hb0 hn hc3 hc4
 obtain ⟨k, hk⟩ : ∃ k, k = pa % 20 := ⟨_, rfl⟩
 obtain ⟨j, hj⟩ : ∃ j, j = pn % 4 := ⟨_, rfl⟩
 have hk20 : k < 20 := by omega
 have hj4 : j < 4 := by omega
 have hmod := Lib.hid (show (pa : Int) % 20 = k by omega)
 have hmod2 := Lib.hid (show (pn : Int) % 4 = j by omega)
 have hm0 : 0 ≤ (pa : Int) % 20 := by omega
 have hm1 : (pa : Int) % 20 < 20 := by omega
 have hm2 : 0 ≤ (pn : Int) % 4 := by omega
 have hm3 : (pn : Int) % 4 < 4 := by omega
 have hp0 : (pa : Int) < 256 := by omega
 have hp1 : (pn : Int) < 256 := by omega
 have hn64 : ¬ (64 : Int) < n := by omega
 clear hk hj
 go_enter Tryz.func7, Tryz.ntmps7
 go_wp2_with fail
 refine (At.fresh w 2 2 (by omega) (by omega)).mono ?_
 rintro e w1 ⟨sp, wp, file, cur, rfl, h1⟩
 have H1 := Lib.hid (h1.less (r' := 63 + 1) (by omega))
 clear h1
 unfold ptrV at *
 go_wp2_with fail
 rw [hmod.out, hmod2.out]
 clear hmod hm0 hm1 hp0 hpa hmod2 hm2 hm3 hp1 hpn
 obtain ⟨p, hp⟩ : ∃ p, p = j + 1 := ⟨_, rfl⟩
 rw [show (j : Int) + 1 = ((p : Nat) : Int) by omega]
 have hp4 : 1 ≤ p ∧ p ≤ 4 := by omega
 have hb2 : Below w1.heap.size w1 (w1.alloc (.cells #[.int .i64 k, .int .i64 p, .bool true, .int .i64 1, .int .i64 0, .int .i64 0] 32)) := (Below.refl _ _).alloc (Nat.le_refl _) _
 have hv2 : SlRd (w1.alloc (.cells #[.int .i64 k, .int .i64 p, .bool true, .int .i64 1, .int .i64 0, .int .i64 0] 32)) 1 (.slice (some ⟨w1.heap.size, 0, none⟩) 6 6) (arc k p).length (arc k p) := by
  refine ⟨rfl, .inr ⟨w1.heap.size, 0, 6, rfl, Nat.le_refl _, by decide, by simp, fun u v hu => ?_⟩⟩
  rw [Nat.zero_add, Xh, ← hu, ← Array.getElem?_toList]
  rfl
 have h2 := H1.out.cells hb2 hv2 fun b hb => .inr (by simp [Value.ownBlock] at hb; omega)
 obtain ⟨sb, hsb⟩ : ∃ sb, sb = w1.heap.size := ⟨_, rfl⟩
 obtain ⟨W, hW⟩ : ∃ W, W = w1.alloc (.cells #[.int .i64 k, .int .i64 p, .bool true, .int .i64 1, .int .i64 0, .int .i64 0] 32) := ⟨_, rfl⟩
 rw [← hW, ← hsb] at h2
 rw [← hW, ← hsb]
 have H2 : Hid (At w [(.slice (some ⟨sb, 0, none⟩) 6 6, arc k p)] sp (.start file cur) (63 + 1) W) := Lib.hid h2
 clear hb2 hv2 h2 hsb hW H1 hp hj4
 refine (At.spawn H2.out 3 (by omega) rfl).mono ?_
 rintro e w3 ⟨rfl, h3⟩
 obtain ⟨c0, c1, c2, c3, c4, c5⟩ := zbq h3 (List.mem_cons_self ..)
 have H3 := Lib.hid h3
 clear h3 H2
 go_wp2_with fail
 refine (At.map H3.out 3 (A := []) (Q := []) rfl (arZ k p) (Yn k p ⟨hk20, hp4⟩).1 (Yn k p ⟨hk20, hp4⟩).2 rfl (by simp)).mono ?_
 rintro e w4 ⟨rfl, h4⟩
 rw [U7] at h4
 have hA1 : (((Abs.start file cur).spawn 3).map 3 (arZ k p) [arZ k p]).A 3 = some ([arZ k p], []) := rfl
 have hP1 : PgOk (((Abs.start file cur).spawn 3).map 3 (arZ k p) [arZ k p]) (arZ k p) 3 k := PgOk.new (fun q hq => H3.out.Vq hq) (Q := []) rfl (Yn k p ⟨hk20, hp4⟩).1 (by unfold Ar.Has arZ; dsimp only; omega) (by omega)
 generalize ((Abs.start file cur).spawn 3).map 3 (arZ k p) [arZ k p] = X1 at h4 hA1 hP1
 have H4 : Hid (At w [(.slice (some ⟨sb, 0, none⟩) 6 6, arc k p)] sp X1 (58 + 5) w4 ∧ X1.A 3 = some ([arZ k p], []) ∧ PgOk X1 (arZ k p) 3 k) := Lib.hid ⟨h4, hA1, hP1⟩
 clear h4 hA1 hP1 H3 c0 c1 c2 c3 c4 c5
 have ST : Hid (Calls Tryz.prog 19 #[ptrV sp, .int .i64 (3 : Nat), .int .i64 ((64 * k : Nat) : Int), .slice ba n bc] w4 fun e w' => e = .returned (.int .i64 0) ∧ ∃ X2, At w [(.slice (some ⟨sb, 0, none⟩) 6 6, arc k p)] sp X2 58 w' ∧ X2.A 3 = some ([arZ k p], [])) := by
  by_cases hz : b.length = 0
  ·have hb : b = [] := List.length_eq_zero_iff.1 hz
   have hv := H4.out.1.arg HB.out.1
   rw [hb] at hv
   refine (At.store0 H4.out.1 3 (a0 := 64 * k) hv (by omega) (by rw [H4.out.2.1]; rfl) (by omega)).mono ?_
   rintro e w5 ⟨rfl, h5⟩
   exact ⟨rfl, X1, h5.less (by omega), H4.out.2.1⟩
  ·refine (At.zej H4.out.1 3 k (H4.out.1.arg HB.out.1) (by omega) (by rw [HB.out.2]; exact hlen) (by omega) (by omega) H4.out.2.2.can rfl).mono ?_
   rintro e w5 ⟨rfl, h5⟩
   exact ⟨rfl, _, h5, by rw [Vy, Zo]; exact H4.out.2.1⟩
 unfold ptrV at ST
 go_wp2_with fail
 rw [show (64 : Int) * (k : Int) = ((64 * k : Nat) : Int) by omega]
 refine ST.out.mono ?_
 rintro e w5 ⟨rfl, X2, h5, hA2⟩
 obtain ⟨c0, c1, c2, c3, c4, c5⟩ := zbq h5 (List.mem_cons_self ..)
 have H5 := Lib.hid (And.intro h5 hA2)
 clear h5 hA2 ST H4
 go_wp2_with fail
 have hcut : cutA [arZ k p] (k : Nat) (p : Nat) = [] := zj8 (a := arZ k p)
 refine (At.zay H5.out.1 3 (A := [arZ k p]) (Q := []) H5.out.2 (fr := k) (pg := p) (by unfold uo; omega) (by rw [hcut]; simp)).mono ?_
 rintro e w6 ⟨rfl, h6⟩
 rw [hcut] at h6
 have hA3 : (X2.zay 3 k p []).A 3 = some ([], []) := by
  show (if (3 : Nat) = 3 then (X2.A 3).map (fun q => (([] : List Ar), q.2)) else X2.A 3) = _
  rw [if_pos rfl, H5.out.2]
  rfl
 generalize X2.zay 3 k p [] = X3 at h6 hA3
 have hno : X3.area 3 (64 * k / 64) = none := by rw [Abs.Xw hA3]; rfl
 have H6 := Lib.hid (And.intro h6 (And.intro hA3 hno))
 clear h6 hA3 hno hcut H5 c0 c1 c2 c3 c4 c5
 go_wp2_with fail
 rw [show (64 : Int) * (k : Int) = ((64 * k : Nat) : Int) by omega]
 refine (At.zmd H6.out.1 3 (a0 := 64 * k) (s := 1) (by omega) (by rw [H6.out.2.1]; rfl) (by omega) (by omega) (by omega) H6.out.2.2).mono ?_
 rintro e w7 ⟨y, rfl, h7⟩
 obtain ⟨c0, c1, c2, c3, c4, c5⟩ := zbq h7 (List.mem_cons_of_mem _ (List.mem_cons_self ..))
 have H7 := Lib.hid h7
 clear h7
 go_wp2_with fail
 refine (At.map H7.out 3 (A := []) (Q := []) H6.out.2.1 (arZ k p) (Yn k p ⟨hk20, hp4⟩).1 (Yn k p ⟨hk20, hp4⟩).2 rfl (by simp)).mono ?_
 rintro e w8 ⟨rfl, h8⟩
 rw [U7] at h8
 have hP4 : PgOk (X3.map 3 (arZ k p) [arZ k p]) (arZ k p) 3 k := PgOk.new (fun q hq => H7.out.Vq hq) H6.out.2.1 (Yn k p ⟨hk20, hp4⟩).1 (by unfold Ar.Has arZ; dsimp only; omega) (by omega)
 have hct : ((X3.map 3 (arZ k p) [arZ k p]).ct (arZ k p) 3 k).take 64 = List.replicate 64 0 := by
  rw [zae (l := List.replicate 64 0) (by rw [Abs.Vk, if_pos ⟨rfl, by omega, by unfold Ar.Has arZ; dsimp only; omega⟩]; rfl)]
  rfl
 generalize X3.map 3 (arZ k p) [arZ k p] = X4 at h8 hP4 hct
 generalize ((y, bys []) :: [(.slice (some ⟨sb, 0, none⟩) 6 6, arc k p)] : List (Value × List Value)) = VV at h8
 have H8 : Hid (At w VV sp X4 (53 + 5) w8 ∧ PgOk X4 (arZ k p) 3 k ∧ (X4.ct (arZ k p) 3 k).take 64 = List.replicate 64 0) := Lib.hid ⟨h8, hP4, hct⟩
 clear h8 hP4 hct H7 H6 c0 c1 c2 c3 c4 c5
 go_wp2_with fail
 rw [show (64 : Int) * (k : Int) = ((64 * k : Nat) : Int) by omega]
 refine (At.zhq H8.out.1 3 k 64 (by omega) (by omega) (by omega) (by omega) H8.out.2.1.can H8.out.2.2).mono ?_
 rintro e w9 ⟨z, rfl, h9⟩
 have H9 := Lib.hid h9
 clear h9 H8
 go_wp2_with fail
 refine (yj w9).mono ?_
 rintro e w10 ⟨rfl, hb⟩
 have H10 := Lib.hid (H9.out.below hb)
 clear hb H9
 obtain ⟨Z, hZ⟩ : ∃ Z, Z = madeCells #[.int .u8 0] 64 := ⟨_, rfl⟩
 have hZl : ∀ i, Z[i]? = ((List.replicate 64 (0 : UInt8)).map bV)[i]? := fun i => by
  by_cases h : i < 64
  ·rw [hZ, zat 64 i h, List.getElem?_map, List.getElem?_replicate, if_pos h]; rfl
  ·rw [hZ, Array.getElem?_eq_none (by rw [size_madeCells]; omega), List.getElem?_eq_none (by simp; omega)]
 have mk : ∀ w, (Instr.makeSlice 22 (.int .i64 64) (.int .i64 64)).run Tryz.prog w = .ok (.slice (some ⟨w.heap.size, 0, none⟩) 64 64) (w.alloc (.cells Z 5)) := fun w => by
  have := zbb 64 (by omega) w
  rw [← hZ] at this
  exact this
 clear hZ
 go_wp2_with fail
 have hb2 : Below w10.heap.size w10 (w10.alloc (.cells Z 5)) := (Below.refl _ _).alloc (Nat.le_refl _) _
 have hv2 : BRd (w10.alloc (.cells Z 5)) (.slice (some ⟨w10.heap.size, 0, none⟩) 64 64) (List.replicate 64 0) := by
  refine ⟨by simp, .inr ⟨w10.heap.size, 0, 64, rfl, by simp, by decide, by simp, fun u v hu => ?_⟩⟩
  rw [Nat.zero_add, Xh, ← hu, hZl]
 have H11 := Lib.hid (H10.out.more hb2 hv2 fun b hb => .inr (by simp [Value.ownBlock] at hb; omega))
 clear hb2 hv2 H10
 refine (Xk _ z _ (List.replicate 64 0) (H11.out.get (by simp)) (H11.out.get (by simp)) (by simp)).mono ?_
 rintro e w12 ⟨rfl, hb⟩
 have H12 := Lib.hid (H11.out.below hb)
 clear hb H11
 go_wp2_with fail
 go_ret
 exact ⟨rfl, H12.out.bel⟩
set_option maxRecDepth 100000 in
set_option maxHeartbeats 1000000 in
theorem zi9 (vb : Value) (b : List UInt8) (p q : Int) (w : World) (hb : SlRd w 1 vb b.length (b.flatMap byL)) (_ : ∀ x ∈ b, AnyB x) (hp : (Lit.int .u8 p).wf = true) (hq : (Lit.int .u8 q).wf = true) :
  Calls Tryz.prog 7 #[vb, .int .u8 p, .int .u8 q] w fun e w' => e = .returned (.bool true) ∧ Below w.heap.size w w' := by
 have hp0 : 0 ≤ p ∧ p ≤ 255 := by simp [Lit.wf] at hp; exact ⟨hp.1, hp.2⟩
 have hq0 : 0 ≤ q ∧ q ≤ 255 := by simp [Lit.wf] at hq; exact ⟨hq.1, hq.2⟩
 obtain ⟨p, rfl⟩ := Int.eq_ofNat_of_zero_le hp0.1
 obtain ⟨q, rfl⟩ := Int.eq_ofNat_of_zero_le hq0.1
 by_cases hok : b.length ≤ 64
 ·exact zgs vb b p q (by omega) (by omega) w (BRd.of_law hb) hok
 ·obtain ⟨aa, ac, rfl, h1, h2⟩ := SlRd.form hb
  obtain ⟨n, hn⟩ : ∃ n, n = b.length := ⟨_, rfl⟩
  rw [← hn] at hok h1 ⊢
  have hc1 : n ≤ maxLen := by omega
  have e3 : (64 : Int) < n := by omega
  clear hb hn hok hp hp0 hq hq0
  go_enter Tryz.func7, Tryz.ntmps7
  go_wp2_with fail
  refine (yj w).mono ?_
  rintro e w1 ⟨rfl, hb⟩
  have HB := Lib.hid hb
  clear hb
  go_wp2_with fail
  go_ret
  exact ⟨rfl, HB.out⟩
end Go.Proofs.YtnhdmnijiphjjaaGreat
