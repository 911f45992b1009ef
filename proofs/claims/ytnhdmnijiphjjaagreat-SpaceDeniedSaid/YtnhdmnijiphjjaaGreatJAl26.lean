/- SpaceShares: shared and private pages of a file. -/
import Derived.Test.YtnhdmnijiphjjaaGreatJAl25
import Derived.Test.YtnhdmnijiphjjaaGreatJAl24
import Derived.Test.YtnhdmnijiphjjaaGreatJAl17
import Derived.Test.YtnhdmnijiphjjaaGreatJAl13
set_option linter.unusedVariables false
set_option linter.unusedSimpArgs false
namespace Go.Proofs.YtnhdmnijiphjjaaGreat
open Go Go.RowKit
def spn (X : Abs) : Nat → Abs
 | 0 => X
 | i + 1 => (spn X i).spawn i
theorem spn_A (file : Int × Int → List UInt8) (cur : Nat → List UInt8) (i m : Nat) : (spn (Abs.start file cur) i).A m = if m < i then some ([], []) else none := by
 induction i with
 | zero => rfl
 | succ i ih =>
  show (if m = i then some ([], []) else (spn (Abs.start file cur) i).A m) = _
  rw [ih]
  by_cases h1 : m = i
  ·rw [if_pos h1, if_pos (by omega)]
  ·rw [if_neg h1]
   by_cases h2 : m < i
   ·rw [if_pos h2, if_pos (by omega)]
   ·rw [if_neg h2, if_neg (by omega)]
def arS (from_ kind : Int) : Ar := ⟨from_, 16, true, kind, 2, 0⟩
theorem Yo (f k : Int) (hf : f = 0 ∨ f = 32 ∨ f = 64) (hk : k = 2 ∨ k = 3) : (arS f k).yu ∧ (arS f k).Wf := by
 rcases hf with rfl | rfl | rfl <;> rcases hk with rfl | rfl <;> exact ⟨by decide, by unfold Ar.Wf; decide⟩
def XS (file : Int × Int → List UInt8) (cur : Nat → List UInt8) : Abs := (((spn (Abs.start file cur) 3).map 0 (arS 0 2) [arS 0 2]).map 1 (arS 32 2) [arS 32 2]).map 2 (arS 64 3) [arS 64 3]
theorem zke (file : Int × Int → List UInt8) (cur : Nat → List UInt8) (k : Nat) (hk : k < 16) :
  ((XS file cur).area 0 k = some (arS 0 2) ∧ (XS file cur).area 1 (32 + k) = some (arS 32 2) ∧ (XS file cur).area 2 (64 + k) = some (arS 64 3)) ∧
  ((XS file cur).pv 0 k = .file ∧ (XS file cur).pv 1 (32 + k) = .file ∧ (XS file cur).pv 2 (64 + k) = .file) := by
 have hf : ∀ (f kd : Int) (pg : Nat), f ≤ pg → (pg : Int) - f < 16 → zm [arS f kd] (pg : Int) = some (arS f kd) := fun f kd pg h1 h2 => by
  unfold zm
  have h3 : f ≤ (pg : Int) ∧ (pg : Int) - f < 16 := ⟨h1, h2⟩
  exact List.find?_cons_of_pos (decide_eq_true h3)
 refine ⟨⟨?_, ?_, ?_⟩, ?_, ?_, ?_⟩
 ·refine (Abs.Xw (p := ([arS 0 2], [])) rfl k).trans (hf 0 2 k (by omega) (by omega))
 ·refine (Abs.Xw (p := ([arS 32 2], [])) rfl (32 + k)).trans (hf 32 2 (32 + k) (by omega) (by omega))
 ·refine (Abs.Xw (p := ([arS 64 3], [])) rfl (64 + k)).trans (hf 64 3 (64 + k) (by omega) (by omega))
 ·unfold XS
  rw [Abs.Vk, if_neg (by omega), Abs.Vk, if_neg (by omega), Abs.Vk, if_pos ⟨rfl, by omega, by unfold Ar.Has arS; dsimp only; omega⟩]
  rfl
 ·unfold XS
  rw [Abs.Vk, if_neg (by omega), Abs.Vk, if_pos ⟨rfl, by omega, by unfold Ar.Has arS; dsimp only; omega⟩]
  rfl
 ·unfold XS
  rw [Abs.Vk, if_pos ⟨rfl, by omega, by unfold Ar.Has arS; dsimp only; omega⟩]
  rfl
theorem keys (k : Nat) : za.keyF (arS 0 2) k = (2, (k : Int)) ∧ za.keyF (arS 32 2) (32 + k) = (2, (k : Int)) ∧ za.keyF (arS 64 3) (64 + k) = (2, (k : Int)) := by
 unfold za.keyF arS
 dsimp only
 refine ⟨?_, ?_, ?_⟩ <;> (rw [Prod.mk.injEq]; exact ⟨rfl, by omega⟩)
structure Fct (k : Nat) (F : List UInt8) (p2 : PV) (X : Abs) : Prop where
 a0 : X.area 0 k = some (arS 0 2)
 a1 : X.area 1 (32 + k) = some (arS 32 2)
 a2 : X.area 2 (64 + k) = some (arS 64 3)
 v0 : X.pv 0 k = .file
 v1 : X.pv 1 (32 + k) = .file
 v2 : X.pv 2 (64 + k) = p2
 file : X.file (2, (k : Int)) = F
theorem Fct.start (file : Int × Int → List UInt8) (cur : Nat → List UInt8) {k : Nat} (hk : k < 16) : Fct k ((XS file cur).file (2, (k : Int))) .file (XS file cur) := by
 obtain ⟨⟨a, b, c⟩, d, e, f⟩ := zke file cur k hk
 exact ⟨a, b, c, d, e, f, rfl⟩
section
variable {k : Nat} {F : List UInt8} {p2 : PV} {X : Abs}
theorem Fct.sh0 (h : Fct k F p2 X) (l : List UInt8) : Fct k (Abs.splice F 0 l) p2 ((X.own (arS 0 2) 0 k).write (arS 0 2) 0 k 0 l) := by
 obtain ⟨e1, e2⟩ := Um X (arS 0 2) 0 k 0 l rfl
 refine ⟨by rw [uu]; exact h.a0, by rw [uu]; exact h.a1, by rw [uu]; exact h.a2, by rw [e1]; exact h.v0, by rw [e1]; exact h.v1, by rw [e1]; exact h.v2, ?_⟩
 rw [e2, if_pos (keys k).1.symm, h.file]
theorem Fct.sh1 (h : Fct k F p2 X) (l : List UInt8) : Fct k (Abs.splice F 0 l) p2 ((X.own (arS 32 2) 1 (32 + k)).write (arS 32 2) 1 (32 + k) 0 l) := by
 obtain ⟨e1, e2⟩ := Um X (arS 32 2) 1 (32 + k) 0 l rfl
 refine ⟨by rw [uu]; exact h.a0, by rw [uu]; exact h.a1, by rw [uu]; exact h.a2, by rw [e1]; exact h.v0, by rw [e1]; exact h.v1, by rw [e1]; exact h.v2, ?_⟩
 rw [e2, if_pos (keys k).2.1.symm, h.file]
theorem Fct.ct0 (h : Fct k F p2 X) : X.ct (arS 0 2) 0 k = F := by rw [Uh h.v0, (keys k).1, h.file]
theorem Fct.ct1 (h : Fct k F p2 X) : X.ct (arS 32 2) 1 (32 + k) = F := by rw [Uh h.v1, (keys k).2.1, h.file]
theorem Fct.ct2 (h : Fct k F .file X) : X.ct (arS 64 3) 2 (64 + k) = F := by rw [Uh h.v2, (keys k).2.2, h.file]
theorem Fct.pr2 (h : Fct k F .file X) (l : List UInt8) : Fct k F (.own (Abs.splice F 0 l)) ((X.own (arS 64 3) 2 (64 + k)).write (arS 64 3) 2 (64 + k) 0 l) := by
 obtain ⟨e1, e2⟩ := zg0 X (arS 64 3) 2 (64 + k) 0 l (by show (3 : Int) ≠ 2; omega)
 refine ⟨by rw [uu]; exact h.a0, by rw [uu]; exact h.a1, by rw [uu]; exact h.a2, by rw [e1, if_neg (by omega)]; exact h.v0, by rw [e1, if_neg (by omega)]; exact h.v1, by rw [e1, if_pos ⟨rfl, rfl⟩, h.ct2], by rw [e2]; exact h.file⟩
theorem Fct.can0 (h : Fct k F p2 X) : y8 X 0 k (arS 0 2) := ⟨h.a0, by rw [h.v0]; intro z; cases z⟩
theorem Fct.can1 (h : Fct k F p2 X) : y8 X 1 (32 + k) (arS 32 2) := ⟨h.a1, by rw [h.v1]; intro z; cases z⟩
theorem Fct.can2 (h : Fct k F p2 X) (hp : p2 ≠ .lost) : y8 X 2 (64 + k) (arS 64 3) := ⟨h.a2, by rw [h.v2]; exact hp⟩
end
theorem zb6 (F a : List UInt8) (h : 0 < a.length) : Abs.splice (Abs.splice F 0 a) 0 (a.take 1) = Abs.splice F 0 a := by
 cases a with
 | nil => simp at h
 | cons x a =>
  rw [Xq, Xq]
  simp
theorem At.zhq {w0 w : World} {V : List (Value × List Value)} {sp r : Nat} {X : Abs} (h : At w0 V sp X (r + 5) w) (n pg s : Nat) {a : Ar} (h0 : 0 < s) (h1 : s ≤ 64) (hpg : pg < 4096) (hn : n < 8) (hc : y8 X n pg a) {l : List UInt8} (hl : (X.ct a n pg).take s = l) :
  Calls Tryz.prog 20 #[ptrV sp, .int .i64 n, .int .i64 ((64 * pg : Nat) : Int), .int .i64 s] w fun e w' => ∃ v, e = .returned (.tuple #[v, .int .i64 0]) ∧ At w0 ((v, bys l) :: V) sp X r w' := by
 have e1 : 64 * pg / 64 = pg := by omega
 have e2 : 64 * pg % 64 = 0 := by omega
 have := At.zju h n (a0 := 64 * pg) (s := s) h0 (by omega) (by omega) hn (by rw [e1]; exact hc)
 rw [e1, e2, List.drop_zero, hl] at this
 exact this
theorem At.zej {w0 w : World} {V : List (Value × List Value)} {sp r : Nat} {X : Abs} (h : At w0 V sp X (r + 5) w) (n pg : Nat) {a : Ar} {v : Value} {l : List UInt8} (hv : Has w0 V w v l) (h0 : 0 < l.length) (h1 : l.length ≤ 64) (hpg : pg < 4096) (hn : n < 8) (hc : y8 X n pg a) (hw : a.write = true) :
  Calls Tryz.prog 19 #[ptrV sp, .int .i64 n, .int .i64 ((64 * pg : Nat) : Int), v] w fun e w' => e = .returned (.int .i64 0) ∧ At w0 V sp ((X.own a n pg).write a n pg 0 l) r w' := by
 have e1 : 64 * pg / 64 = pg := by omega
 have e2 : 64 * pg % 64 = 0 := by omega
 have := At.zem h n (a0 := 64 * pg) hv h0 (by omega) (by omega) hn (by rw [e1]; exact hc) hw
 rw [e1, e2] at this
 exact this
set_option maxRecDepth 100000 in
set_option maxHeartbeats 4000000 in
theorem zdk (va : Value) (a : List UInt8) (vb : Value) (b : List UInt8) (pg : Nat) (hpg : pg < 256) (w : World) (ha0 : BRd w va a) (hb0 : BRd w vb b) (hlen : a.length ≤ 64 ∧ a.length ≠ 0 ∧ b.length = a.length) :
  Calls Tryz.prog 3 #[va, vb, .int .u8 pg] w fun e w' => e = .returned (.bool true) ∧ Below w.heap.size w w' := by
 obtain ⟨aa, ac, rfl, hc1, hc2⟩ := SlRd.form ha0
 obtain ⟨ba, bc, rfl, hc3, hc4⟩ := SlRd.form hb0
 obtain ⟨n, hn⟩ : ∃ n, n = a.length := ⟨_, rfl⟩
 obtain ⟨hl1, hl2, hl3⟩ := hlen
 rw [hl3] at hc3 ⊢
 rw [← hn] at hl1 hl2 hc1 hc3 ⊢
 have HA : Hid (BRd w (.slice aa n ac) a ∧ a.length = n ∧ b.length = n ∧ BRd w (.slice ba n bc) b) := ⟨by rw [hn]; exact ha0, hn.symm, by rw [hl3, hn], by rw [hn, ← hl3]; exact hb0⟩
 have hcap : n ≤ maxLen := by omega
 clear ha0 hb0 hl3 hn hc1 hc2 hc3 hc4
 obtain ⟨k, hk⟩ : ∃ k, k = pg % 16 := ⟨_, rfl⟩
 have hk16 : k < 16 := by omega
 have hmod := Lib.hid (show (pg : Int) % 16 = k by omega)
 have hm0 : 0 ≤ (pg : Int) % 16 := by omega
 have hm1 : (pg : Int) % 16 < 16 := by omega
 have hp0 : (pg : Int) < 256 := by omega
 have hn0 : (n == 0) = false := beq_eq_false_iff_ne.2 hl2
 have hn1 : ¬ ((n : Int) = 0) := by omega
 have hn64 : ¬ (64 : Int) < n := by omega
 go_enter Tryz.func3, Tryz.ntmps3
 go_wp2_with fail
 refine (At.fresh w 3 3 (by omega) (by omega)).mono ?_
 rintro e w1 ⟨sp, wp, file, cur, rfl, h1⟩
 have H1 := Lib.hid (h1.less (r' := 93 + 3) (by omega))
 clear h1
 unfold ptrV at *
 clear hk
 go_wp2_with fail
 rw [hmod.out]
 clear hmod hm0 hm1 hp0 hpg
 go_loopw [10] (fun iv W => ∃ i : Nat, i ≤ 3 ∧ iv = .int .i64 i ∧ At w [] sp (spn (.start file cur) i) (93 + (3 - i)) W) (fun iv _ => 3 - (intOf iv).toNat)
 case atStart => exact ⟨0, by omega, rfl, H1.out⟩
 case round =>
  obtain ⟨i, hi, rfl, hA⟩ := hrel
  have H2 := Lib.hid hA
  clear hA H1
  by_cases hlt : i < 3
  ·have hlt' : (i : Int) < 3 := by omega
   go_wp2_with fail
   refine (At.spawn (r := 93 + (3 - (i + 1))) (H2.out.less (by omega)) i (by omega) (by rw [spn_A, if_neg (by omega)])).mono ?_
   rintro e w2 ⟨rfl, h2⟩
   have H3 := Lib.hid h2
   clear h2
   go_wp2_with fail
   go_roundw
   case rel => exact ⟨i + 1, by omega, by go_num, H3.out⟩
   case measure => simp [intOf]; omega
  ·have hi3 : i = 3 := by omega
   subst hi3
   have H3 : Hid (At w [] sp (spn (.start file cur) 3) 93 wr) := Lib.hid H2.out
   clear H2
   go_wp2_with fail
   refine (At.map H3.out 0 (A := []) (Q := []) rfl (arS 0 2) (Yo 0 2 (.inl rfl) (.inl rfl)).1 (Yo 0 2 (.inl rfl) (.inl rfl)).2 rfl (by simp)).mono ?_
   rintro e w3 ⟨rfl, h3⟩
   have H4 := Lib.hid h3
   clear h3 H3
   go_wp2_with fail
   refine (At.map H4.out 1 (A := []) (Q := []) rfl (arS 32 2) (Yo 32 2 (.inr (.inl rfl)) (.inl rfl)).1 (Yo 32 2 (.inr (.inl rfl)) (.inl rfl)).2 rfl (by simp)).mono ?_
   rintro e w4 ⟨rfl, h4⟩
   have H5 := Lib.hid h4
   clear h4 H4
   go_wp2_with fail
   refine (At.map H5.out 2 (A := []) (Q := []) rfl (arS 64 3) (Yo 64 3 (.inr (.inr rfl)) (.inr rfl)).1 (Yo 64 3 (.inr (.inr rfl)) (.inr rfl)).2 rfl (by simp)).mono ?_
   rintro e w5 ⟨rfl, h5⟩
   have h6 : At w [] sp (XS file cur) 93 w5 := h5
   have hF := Fct.start file cur hk16
   obtain ⟨F, hFF⟩ : ∃ F, F = (XS file cur).file (2, (k : Int)) := ⟨_, rfl⟩
   rw [← hFF] at hF
   generalize XS file cur = X at h6 hF
   have H6 : Hid (At w [] sp X (88 + 5) w5 ∧ Fct k F .file X) := Lib.hid ⟨h6, hF⟩
   clear h5 H5 hFF hF h6
   go_wp2_with fail
   rw [show (64 : Int) * (k : Int) = ((64 * k : Nat) : Int) by omega]
   refine (At.zej H6.out.1 0 k (H6.out.1.arg HA.out.1) (by rw [HA.out.2.1]; omega) (by rw [HA.out.2.1]; exact hl1) (by omega) (by omega) H6.out.2.can0 rfl).mono ?_
   rintro e w6 ⟨rfl, h7⟩
   have hF7 := H6.out.2.sh0 a
   generalize (X.own (arS 0 2) 0 k).write (arS 0 2) 0 k 0 a = X7 at h7 hF7
   obtain ⟨F7, hF7e⟩ : ∃ F7, F7 = Abs.splice F 0 a := ⟨_, rfl⟩
   rw [← hF7e] at hF7
   have H7 : Hid (At w [] sp X7 (83 + 5) w6 ∧ Fct k F7 .file X7 ∧ F7.take n = a ∧ F7 = Abs.splice F 0 a) := Lib.hid ⟨h7, hF7, by rw [hF7e]; exact Qm F a n HA.out.2.1.symm, hF7e⟩
   clear h7 hF7 hF7e H6
   go_wp2_with fail
   rw [show (64 : Int) * (32 + (k : Int)) = ((64 * (32 + k) : Nat) : Int) by omega]
   refine (At.zhq H7.out.1 1 (32 + k) n (by omega) hl1 (by omega) (by omega) H7.out.2.1.can1 (l := a) (by rw [H7.out.2.1.ct1]; exact H7.out.2.2.1)).mono ?_
   rintro e w7 ⟨x, rfl, h8⟩
   have H8 : Hid (At w [(x, bys a)] sp X7 (78 + 5) w7) := Lib.hid h8
   clear h8
   go_wp2_with fail
   rw [show (64 : Int) * (64 + (k : Int)) = ((64 * (64 + k) : Nat) : Int) by omega]
   refine (At.zhq H8.out 2 (64 + k) n (by omega) hl1 (by omega) (by omega) (H7.out.2.1.can2 (by intro z; cases z)) (l := a) (by rw [H7.out.2.1.ct2]; exact H7.out.2.2.1)).mono ?_
   rintro e w8 ⟨y, rfl, h9⟩
   have H9 : Hid (At w [(y, bys a), (x, bys a)] sp X7 (73 + 5) w8) := Lib.hid h9
   clear h9 H8
   have hsp := BRd.split (w := w) (a := aa) (c := ac) (l := a) (by rw [HA.out.2.1]; exact HA.out.1) 1 (by omega) (by rw [HA.out.2.1]; omega)
   have ks : ∀ W, (Instr.slice 22 (.slice aa n ac) none (some (.int .i64 1)) none).run Tryz.prog W = .ok (.slice aa 1 ac) W := fun W => by
    have := hsp.2.1 W
    rw [HA.out.2.1] at this
    exact this
   have HS : Hid (BRd w (.slice aa 1 ac) (a.take 1) ∧ (a.take 1).length = 1) := Lib.hid ⟨hsp.1, by rw [List.length_take, HA.out.2.1]; omega⟩
   clear hsp
   go_wp2_with fail
   rw [show (64 : Int) * (64 + (k : Int)) = ((64 * (64 + k) : Nat) : Int) by omega]
   refine (At.zej H9.out 2 (64 + k) (H9.out.arg (w0 := w) (v := .slice aa 1 ac) (l := a.take 1) HS.out.1) (by rw [HS.out.2]; omega) (by rw [HS.out.2]; omega) (by omega) (by omega) (H7.out.2.1.can2 (by intro z; cases z)) rfl).mono ?_
   rintro e w9 ⟨rfl, h10⟩
   have hF8 := H7.out.2.1.pr2 (a.take 1)
   rw [H7.out.2.2.2, zb6 F a (by rw [HA.out.2.1]; omega), ← H7.out.2.2.2] at hF8
   generalize (X7.own (arS 64 3) 2 (64 + k)).write (arS 64 3) 2 (64 + k) 0 (a.take 1) = X8 at h10 hF8
   have H10 : Hid (At w [(y, bys a), (x, bys a)] sp X8 (68 + 5) w9 ∧ Fct k F7 (.own F7) X8 ∧ F7.take n = a) := Lib.hid ⟨h10, hF8, H7.out.2.2.1⟩
   clear h10 hF8 H9 H7 ks HS
   go_wp2_with fail
   rw [show (64 : Int) * (32 + (k : Int)) = ((64 * (32 + k) : Nat) : Int) by omega]
   refine (At.zej H10.out.1 1 (32 + k) (H10.out.1.arg HA.out.2.2.2) (by rw [HA.out.2.2.1]; omega) (by rw [HA.out.2.2.1]; exact hl1) (by omega) (by omega) H10.out.2.1.can1 rfl).mono ?_
   rintro e w10 ⟨rfl, h11⟩
   have hF9 := H10.out.2.1.sh1 b
   generalize (X8.own (arS 32 2) 1 (32 + k)).write (arS 32 2) 1 (32 + k) 0 b = X9 at h11 hF9
   obtain ⟨F9, hF9e⟩ : ∃ F9, F9 = Abs.splice F7 0 b := ⟨_, rfl⟩
   rw [← hF9e] at hF9
   have H11 : Hid (At w [(y, bys a), (x, bys a)] sp X9 (63 + 5) w10 ∧ Fct k F9 (.own F7) X9 ∧ F7.take n = a ∧ F9.take n = b) := Lib.hid ⟨h11, hF9, H10.out.2.2, by rw [hF9e]; exact Qm F7 b n HA.out.2.2.1.symm⟩
   clear h11 hF9 hF9e H10
   go_wp2_with fail
   rw [show (64 : Int) * (k : Int) = ((64 * k : Nat) : Int) by omega]
   refine (At.zhq H11.out.1 0 k n (by omega) hl1 (by omega) (by omega) H11.out.2.1.can0 (l := b) (by rw [H11.out.2.1.ct0]; exact H11.out.2.2.2)).mono ?_
   rintro e w11 ⟨z, rfl, h12⟩
   have H12 : Hid (At w [(z, bys b), (y, bys a), (x, bys a)] sp X9 (58 + 5) w11) := Lib.hid h12
   clear h12
   go_wp2_with fail
   rw [show (64 : Int) * (64 + (k : Int)) = ((64 * (64 + k) : Nat) : Int) by omega]
   refine (At.zhq H12.out 2 (64 + k) n (by omega) hl1 (by omega) (by omega) (H11.out.2.1.can2 (by intro z; cases z)) (l := a) (by rw [zae H11.out.2.1.v2]; exact H11.out.2.2.1)).mono ?_
   rintro e w12 ⟨u, rfl, h13⟩
   have H13 : Hid (At w [(u, bys a), (z, bys b), (y, bys a), (x, bys a)] sp X9 58 w12) := Lib.hid h13
   clear h13 H12 H11
   go_wp2_with fail
   refine (yj w12).mono ?_
   rintro e w13 ⟨rfl, hb⟩
   have H14 : Hid (At w [(u, bys a), (z, bys b), (y, bys a), (x, bys a)] sp X9 58 w13) := Lib.hid (H13.out.below hb)
   clear hb H13
   go_wp2_with fail
   refine (Xk w13 x _ a (H14.out.get (by simp)) (SlRd.below HA.out.1 H14.out.bel) (by rw [HA.out.2.1]; omega)).mono ?_
   rintro e w14 ⟨rfl, hb⟩
   have H15 : Hid (At w [(u, bys a), (z, bys b), (y, bys a), (x, bys a)] sp X9 58 w14) := Lib.hid (H14.out.below hb)
   clear hb H14
   go_wp2_with fail
   refine (Xk w14 y _ a (H15.out.get (by simp)) (SlRd.below HA.out.1 H15.out.bel) (by rw [HA.out.2.1]; omega)).mono ?_
   rintro e w15 ⟨rfl, hb⟩
   have H16 : Hid (At w [(u, bys a), (z, bys b), (y, bys a), (x, bys a)] sp X9 58 w15) := Lib.hid (H15.out.below hb)
   clear hb H15
   go_wp2_with fail
   refine (Xk w15 z _ b (H16.out.get (by simp)) (SlRd.below HA.out.2.2.2 H16.out.bel) (by rw [HA.out.2.2.1]; omega)).mono ?_
   rintro e w16 ⟨rfl, hb⟩
   have H17 : Hid (At w [(u, bys a), (z, bys b), (y, bys a), (x, bys a)] sp X9 58 w16) := Lib.hid (H16.out.below hb)
   clear hb H16
   go_wp2_with fail
   refine (Xk w16 u _ a (H17.out.get (by simp)) (SlRd.below HA.out.1 H17.out.bel) (by rw [HA.out.2.1]; omega)).mono ?_
   rintro e w17 ⟨rfl, hb⟩
   have H18 : Hid (At w [(u, bys a), (z, bys b), (y, bys a), (x, bys a)] sp X9 58 w17) := Lib.hid (H17.out.below hb)
   clear hb H17
   go_wp2_with fail
   go_ret
   exact ⟨rfl, H18.out.bel⟩
set_option maxRecDepth 100000 in
set_option maxHeartbeats 1000000 in
theorem zfj (va : Value) (a : List UInt8) (vb : Value) (b : List UInt8) (pg : Int) (w : World) (ha : SlRd w 1 va a.length (a.flatMap byL)) (_ : ∀ x ∈ a, AnyB x) (hb : SlRd w 1 vb b.length (b.flatMap byL)) (_ : ∀ x ∈ b, AnyB x) (hp : (Lit.int .u8 pg).wf = true) :
  Calls Tryz.prog 3 #[va, vb, .int .u8 pg] w fun e w' => e = .returned (.bool true) ∧ Below w.heap.size w w' := by
 have hp0 : 0 ≤ pg ∧ pg ≤ 255 := by simp [Lit.wf] at hp; exact ⟨hp.1, hp.2⟩
 obtain ⟨p, rfl⟩ := Int.eq_ofNat_of_zero_le hp0.1
 by_cases hok : a.length ≤ 64 ∧ a.length ≠ 0 ∧ b.length = a.length
 ·exact zdk va a vb b p (by omega) w (BRd.of_law ha) (BRd.of_law hb) hok
 ·obtain ⟨aa, ac, rfl, h1, h2⟩ := SlRd.form ha
  obtain ⟨ba, bc, rfl, h3, h4⟩ := SlRd.form hb
  obtain ⟨n, hn⟩ : ∃ n, n = a.length := ⟨_, rfl⟩
  obtain ⟨m, hm⟩ : ∃ m, m = b.length := ⟨_, rfl⟩
  rw [← hn] at hok h1 ⊢
  rw [← hm] at hok h3 ⊢
  have hc1 : n ≤ maxLen := by omega
  have hc2 : m ≤ maxLen := by omega
  have hs : (n = 0) ∨ (n ≠ 0 ∧ 64 < n) ∨ (n ≠ 0 ∧ ¬ 64 < n ∧ m ≠ n) := by omega
  clear ha hb hn hm hok hp hp0
  rcases hs with rfl | ⟨h5, h6⟩ | ⟨h5, h6, h7⟩
  ·go_enter Tryz.func3, Tryz.ntmps3
   go_wp2_with fail
   refine (yj w).mono ?_
   rintro e w1 ⟨rfl, hb⟩
   have HB := Lib.hid hb
   clear hb
   go_wp2_with fail
   go_ret
   exact ⟨rfl, HB.out⟩
  ·have e1 : ¬ ((n : Int) = 0) := by omega
   have e2 : ((n : Int) == 0) = false := beq_eq_false_iff_ne.2 e1
   have e3 : (64 : Int) < n := by omega
   go_enter Tryz.func3, Tryz.ntmps3
   go_wp2_with fail
   refine (yj w).mono ?_
   rintro e w1 ⟨rfl, hb⟩
   have HB := Lib.hid hb
   clear hb
   go_wp2_with fail
   go_ret
   exact ⟨rfl, HB.out⟩
  ·have e1 : ¬ ((n : Int) = 0) := by omega
   have e2 : ((n : Int) == 0) = false := beq_eq_false_iff_ne.2 e1
   have e3 : ¬ (64 : Int) < n := by omega
   have e4 : ((m : Int) == (n : Int)) = false := beq_eq_false_iff_ne.2 (by omega)
   have e5 : ¬ ((m : Int) = (n : Int)) := by omega
   go_enter Tryz.func3, Tryz.ntmps3
   go_wp2_with fail
   refine (yj w).mono ?_
   rintro e w1 ⟨rfl, hb⟩
   have HB := Lib.hid hb
   clear hb
   go_wp2_with fail
   go_ret
   exact ⟨rfl, HB.out⟩
theorem Yi {l : List Ar} (h : OkL l) {lo hi : Int} (h0 : 0 ≤ lo) (h1 : hi ≤ 4096) : OkL (zo l lo hi) ∧ ∀ x ∈ zo l lo hi, lo ≤ x.from_ ∧ x.from_ + x.pages ≤ hi := by
 refine ⟨⟨za7 h.1 h0 h1, ?_⟩, fun x hx => ?_⟩
 ·induction l with
  | nil => exact List.Pairwise.nil
  | cons a l ih =>
   rw [Ur, List.pairwise_append]
   refine ⟨?_, ih h.tail, fun x hx y hy => ?_⟩
   ·unfold xw
    dsimp only
    split
    ·exact List.Pairwise.nil
    ·exact List.pairwise_singleton _ _
   ·obtain ⟨b, hb, hy⟩ := jo.1 hy
    have := h.head b hb
    obtain ⟨k1, rfl⟩ := qz.1 hx
    obtain ⟨k2, rfl⟩ := qz.1 hy
    dsimp only
    omega
 ·obtain ⟨a, _, hx⟩ := jo.1 hx
  obtain ⟨k, rfl⟩ := qz.1 hx
  dsimp only
  omega
theorem Ua {A B : List Ar} (h : OkL A) (k : OkL B) {m : Int} (h1 : ∀ x ∈ A, x.from_ + x.pages ≤ m) (h2 : ∀ x ∈ B, m ≤ x.from_) : OkL (A ++ B) := by
 refine ⟨fun a ha => (List.mem_append.1 ha).elim (h.1 a) (k.1 a), List.pairwise_append.2 ⟨h.2, k.2, fun x hx y hy => ?_⟩⟩
 have := h1 x hx
 have := h2 y hy
 omega
theorem zjr {l : List Ar} (h : OkL l) (b : Bool) : OkL (l.map (Ar.mark b)) := by
 refine ⟨fun a ha => ?_, ?_⟩
 ·obtain ⟨c, hc, rfl⟩ := List.mem_map.1 ha
  exact h.1 c hc
 ·rw [List.pairwise_map]
  exact h.2
theorem zmz {l : List Ar} (h : OkL l) {fr pg : Int} (hr : uo fr pg) : OkL (cutA l fr pg) := by
 obtain ⟨r1, r2, r3, r4⟩ := hr
 obtain ⟨a1, a2⟩ := Yi h (lo := 0) (hi := fr) (by omega) (by omega)
 obtain ⟨b1, b2⟩ := Yi h (lo := fr + pg) (hi := 4096) (by omega) (by omega)
 exact Ua a1 b1 (m := fr) (fun x hx => (a2 x hx).2) fun x hx => by have := (b2 x hx).1; omega
theorem zjq {l : List Ar} (h : OkL l) {fr pg : Int} (hr : uo fr pg) (mk : Bool) : OkL (Y6 l fr pg mk) := by
 obtain ⟨r1, r2, r3, r4⟩ := hr
 obtain ⟨a1, a2⟩ := Yi h (lo := 0) (hi := fr) (by omega) (by omega)
 obtain ⟨c1, c2⟩ := Yi h (lo := fr) (hi := fr + pg) (by omega) (by omega)
 obtain ⟨b1, b2⟩ := Yi h (lo := fr + pg) (hi := 4096) (by omega) (by omega)
 refine Ua (Ua a1 (zjr c1 mk) (m := fr) (fun x hx => (a2 x hx).2) fun x hx => ?_) b1 (m := fr + pg) (fun x hx => ?_) fun x hx => (b2 x hx).1
 ·obtain ⟨c, hc, rfl⟩ := List.mem_map.1 hx
  exact (c2 c hc).1
 ·rcases List.mem_append.1 hx with hx | hx
  ·have := (a2 x hx).2; omega
  ·obtain ⟨c, hc, rfl⟩ := List.mem_map.1 hx
   exact (c2 c hc).2
theorem zf4 {l : List Ar} {fr pg p : Int} (b : Bool) (hp : 0 ≤ p ∧ p < 4096) (hr : uo fr pg) :
  (zm l p = none ∧ zm (Y6 l fr pg b) p = none) ∨ ∃ x y, zm l p = some x ∧ zm (Y6 l fr pg b) p = some y ∧ zeb x y (if fr ≤ p ∧ p < fr + pg then b else x.write) := by
 obtain ⟨r1, r2, r3, r4⟩ := hr
 unfold Y6
 rw [Ya, Ya, zf5]
 by_cases h1 : p < fr
 ·rw [qw (l := l) (lo := fr + pg) (hi := 4096) (by omega), qw (l := l) (lo := fr) (hi := fr + pg) (by omega), Option.map_none, Option.or_none, Option.or_none]
  rcases Vp (l := l) (p := p) (lo := 0) (hi := fr) ⟨hp.1, h1⟩ with h | ⟨x, y, h2, h3, h4⟩
  ·exact .inl h
  ·exact .inr ⟨x, y, h2, h3, by rw [if_neg (by omega)]; exact h4⟩
 ·by_cases h2 : p < fr + pg
  ·rw [qw (l := l) (lo := fr + pg) (hi := 4096) (by omega), qw (l := l) (lo := 0) (hi := fr) (by omega), Option.none_or, Option.or_none]
   rcases Vp (l := l) (p := p) (lo := fr) (hi := fr + pg) (by omega) with ⟨h3, h4⟩ | ⟨x, y, h3, h4, h5⟩
   ·exact .inl ⟨h3, by rw [h4]; rfl⟩
   ·exact .inr ⟨x, y.mark b, h3, by rw [h4]; rfl, by rw [if_pos (by omega)]; exact ⟨h5.kind, h5.file, rfl, h5.off⟩⟩
  ·rw [qw (l := l) (lo := fr) (hi := fr + pg) (by omega), qw (l := l) (lo := 0) (hi := fr) (by omega), Option.map_none, Option.none_or, Option.none_or]
   rcases Vp (l := l) (p := p) (lo := fr + pg) (hi := 4096) (by omega) with h | ⟨x, y, h2, h3, h4⟩
   ·exact .inl h
   ·exact .inr ⟨x, y, h2, h3, by rw [if_neg (by omega)]; exact h4⟩
theorem zeb.key {a b : Ar} {wr : Bool} (h : zeb a b wr) (hk : a.kind ≠ 1) (page : Nat) : za.keyF b page = za.keyF a page := by
 unfold za.keyF
 rw [h.file]
 rcases h.off with e | e
 ·exact absurd e hk
 ·rw [Prod.mk.injEq]
  exact ⟨rfl, by omega⟩
def Abs.setA (X : Abs) (n : Nat) (L : List Ar) : Abs := { X with A := fun m => if m = n then (X.A n).map fun p => (L, p.2) else X.A m }
def Abs.zj7 (X : Abs) (n : Nat) (L : List Ar) : Abs := { X with A := (fun m => if m = n then (X.A n).map fun p => (L, p.2) else X.A m), pv := fun m pg => if m = n ∧ zm L (pg : Int) = none then .none else X.pv m pg }
section
variable {x y : za}
theorem Ok0.recut (h : Ok0 x) {n : Nat} {pr : yf} (hp : x.T n = some pr) {L : List Ar} (hL : OkL L ∧ L.length ≤ 16)
  (hs : ∀ page : Nat, page < 4096 → ((x.ent n page).kind = 0 ∧ zm L (page : Int) = none) ∨ ∃ a b wr, zm pr.A (page : Int) = some a ∧ zm L (page : Int) = some b ∧ zeb a b wr) :
  Ok0 (x.put n ⟨pr.T, L, pr.Q⟩) ∧ (x.put n ⟨pr.T, L, pr.Q⟩).abs = x.abs.zj7 n L := by
 have hT : ∀ m, (x.put n ⟨pr.T, L, pr.Q⟩).T m = if m = n then some ⟨pr.T, L, pr.Q⟩ else x.T m := fun _ => rfl
 have own : ∀ m f, (x.put n ⟨pr.T, L, pr.Q⟩).owns m f ↔ x.owns m f := fun m f => by
  unfold za.owns
  rw [hT]
  by_cases e : m = n
  ·rw [if_pos e, e, hp]
   constructor
   ·rintro ⟨_, e2, hf⟩; cases e2; exact ⟨pr, rfl, hf⟩
   ·rintro ⟨_, e2, hf⟩; cases e2; exact ⟨_, rfl, hf⟩
  ·rw [if_neg e]
 have ent : ∀ m page, (x.put n ⟨pr.T, L, pr.Q⟩).ent m page = x.ent m page := fun m page => by
  unfold za.ent
  rw [hT]
  by_cases e : m = n
  ·rw [if_pos e, e, hp]; rfl
  ·rw [if_neg e]; rfl
 refine ⟨⟨⟨⟨fun m pm hm' => ?_, fun m k f h1 h2 => h.ok.wf.apart m k f ((own m f).1 h1) ((own k f).1 h2), fun m pm hm' => ?_, h.ok.wf.back, h.ok.wf.slots, h.ok.wf.bad, h.ok.wf.keys, h.ok.wf.secs, h.ok.wf.nd⟩, fun f m page h1 h2 h3 => by rw [ent]; exact h.ok.backE f m page h1 h2 h3, fun k m page h1 h2 h3 => by rw [ent]; exact h.ok.slotE k m page h1 h2 h3, h.ok.useB, h.ok.anon, fun f h1 h2 => ?_, h.ok.cached, h.ok.cacheE, h.ok.cacheK, fun m pm page hm' hpg => ?_⟩, fun m hm' => ?_⟩, ?_⟩
 ·rw [hT] at hm'
  by_cases e : m = n
  ·rw [if_pos e] at hm'
   cases hm'
   exact h.ok.wf.rpt n pr hp
  ·rw [if_neg e] at hm'
   exact h.ok.wf.rpt m pm hm'
 ·rw [hT] at hm'
  by_cases e : m = n
  ·rw [if_pos e] at hm'
   cases hm'
   exact hL
  ·rw [if_neg e] at hm'
   exact h.ok.wf.jr m pm hm'
 ·obtain ⟨m, hm'⟩ := h.ok.table f h1 h2
  exact ⟨m, (own m f).2 hm'⟩
 ·rw [ent]
  rw [hT] at hm'
  by_cases e : m = n
  ·rw [if_pos e] at hm'
   cases hm'
   rw [e]
   have k := h.ok.area n pr page hp hpg
   rcases hs page hpg with ⟨e1, e2⟩ | ⟨a, b, wr, e1, e2, sp⟩
   ·refine ⟨fun z => ?_, fun c hc => ?_, fun c _ hc => ?_, fun c hc => ?_, fun c hc => ?_⟩
    ·exact absurd e1 z
    all_goals (dsimp only at hc; rw [e2] at hc; cases hc)
   ·refine ⟨fun _ => ⟨b, e2⟩, fun c hc h1 h2 => ?_, fun c q hc h1 h2 h3 => ?_, fun c hc h1 h2 => ?_, fun c hc h1 => ?_⟩
    all_goals (dsimp only at hc; rw [e2] at hc; cases hc)
    ·exact k.own a e1 h1 (sp.kind.trans h2)
    ·have h2' : a.kind ≠ 1 := fun z => h2 (sp.kind ▸ z)
     rw [sp.key h2']
     exact k.file a q e1 h1 h2' h3
    ·exact k.shared a e1 h1 (sp.kind.trans h2)
    ·rw [← sp.kind]
     exact k.slot a e1 h1
  ·rw [if_neg e] at hm'
   have k := h.ok.area m pm page hm' hpg
   exact ⟨k.find, k.own, k.file, k.shared, k.slot⟩
 ·rw [hT]
  by_cases e : m = n
  ·have := h.ok.Zx h.out hp; omega
  ·rw [if_neg e]; exact h.out m hm'
 ·unfold za.abs Abs.zj7
  rw [Abs.mk.injEq]
  refine ⟨?_, ?_, rfl, rfl, rfl⟩
  ·funext m
   rw [hT]
   by_cases e : m = n
   ·rw [if_pos e, if_pos e]; dsimp only; rw [hp]; rfl
   ·rw [if_neg e, if_neg e]
  ·funext m page
   by_cases hpg : page < 4096
   ·dsimp only
    rw [if_pos hpg, if_pos hpg]
    unfold za.pv
    rw [hT]
    by_cases e : m = n
    ·rw [if_pos e, e, hp]
     dsimp only
     rw [ent]
     rcases hs page hpg with ⟨e1, e2⟩ | ⟨a, b, wr, e1, e2, sp⟩
     ·rw [e2, if_pos ⟨rfl, rfl⟩]
     ·rw [e1, e2, if_neg (fun z => by cases z.2)]
      dsimp only
      unfold za.pv1
      rw [sp.kind]
      rfl
    ·rw [if_neg e, if_neg fun z => e z.1]
     cases x.T m with
     | none => rfl
     | some pm =>
      dsimp only
      cases zm pm.A (page : Int) with
      | none => rfl
      | some b => dsimp only; rw [ent]; rfl
   ·dsimp only
    rw [if_neg hpg, if_neg hpg]
    split <;> rfl
theorem Ok0.relist (h : Ok0 x) {n : Nat} {pr : yf} (hp : x.T n = some pr) {L : List Ar} (hL : OkL L ∧ L.length ≤ 16)
  (hs : ∀ page : Nat, page < 4096 → (zm pr.A (page : Int) = none ∧ zm L (page : Int) = none) ∨ ∃ a b wr, zm pr.A (page : Int) = some a ∧ zm L (page : Int) = some b ∧ zeb a b wr) :
  Ok0 (x.put n ⟨pr.T, L, pr.Q⟩) ∧ (x.put n ⟨pr.T, L, pr.Q⟩).abs = x.abs.setA n L := by
 obtain ⟨a, b⟩ := h.recut hp hL fun page hpg => by
  rcases hs page hpg with ⟨e1, e2⟩ | e
  ·refine .inl ⟨?_, e2⟩
   by_cases z : (x.ent n page).kind = 0
   ·exact z
   ·obtain ⟨c, hc⟩ := (h.ok.area n pr page hp hpg).find z
    rw [e1] at hc; cases hc
  ·exact .inr e
 refine ⟨a, b.trans ?_⟩
 unfold Abs.zj7 Abs.setA
 rw [Abs.mk.injEq]
 refine ⟨rfl, ?_, rfl, rfl, rfl⟩
 funext m page
 by_cases z : m = n ∧ zm L (page : Int) = none
 ·rw [if_pos z, z.1]
  show PV.none = if page < 4096 then x.pv n page else PV.none
  split
  ·rename_i hpg
   unfold za.pv
   rw [hp]
   dsimp only
   rcases hs page hpg with ⟨e1, e2⟩ | ⟨a, b, _, e1, e2, _⟩
   ·rw [e1]
   ·rw [z.2] at e2; cases e2
  ·rfl
 ·rw [if_neg z]
end
theorem ArAt.mark {w : World} {b off c : Nat} {l : List Ar} {n : Nat} (h : ArAt w (.slice (some ⟨b, off, none⟩) n c) l) {k : Nat} {x : Ar} (hx : l[k]? = some x) (v : Bool) :
  ArAt (w.setCell ⟨b, off + k * 6 + 2, none⟩ (.bool v)) (.slice (some ⟨b, off, none⟩) n c) (l.set k (x.mark v)) := by
 have hk := (List.getElem?_eq_some_iff.1 hx).1
 refine ⟨?_, ?_⟩
 ·rw [vk]
 ·rcases h.2 with ⟨e, _⟩ | ⟨g, off', c', arr, e, hg, hnc, hm, hs, hxs⟩
  ·cases e
  ·cases e
   refine .inr ⟨b, off, c, arr.set! (off + k * 6 + 2) (.bool v), by rw [List.length_set], ?_, by rw [List.length_set]; exact hnc, hm, by simp; omega, fun j u hu => ?_⟩
   ·unfold World.setCell
    simp [Array.getElem?_modify, hg]
   ·have hj := (List.getElem?_eq_some_iff.1 hu).1
    rw [vk, List.length_set] at hj
    have hq : j / 6 < l.length := by omega
    have hr : j % 6 < 6 := by omega
    have hj6 : j = j / 6 * 6 + j % 6 := by omega
    have hle : (ar l)[j]? = (l[j / 6]).cells[j % 6]? := by
     have h1 := zam (List.getElem?_eq_getElem hq) (List.getElem?_eq_getElem (l := (l[j / 6]).cells) (i := j % 6) (by rw [Ar.vg]; exact hr))
     rw [← hj6] at h1
     rw [h1, List.getElem?_eq_getElem (by rw [Ar.vg]; exact hr)]
    have hq' : j / 6 < (l.set k (x.mark v)).length := by simpa using hq
    have hle' : (ar (l.set k (x.mark v)))[j]? = ((l.set k (x.mark v))[j / 6]).cells[j % 6]? := by
     have h1 := zam (List.getElem?_eq_getElem hq') (List.getElem?_eq_getElem (l := ((l.set k (x.mark v))[j / 6]).cells) (i := j % 6) (by rw [Ar.vg]; exact hr))
     rw [← hj6] at h1
     rw [h1, List.getElem?_eq_getElem (by rw [Ar.vg]; exact hr)]
    rw [hle'] at hu
    have hsz : off + j < arr.size := by have := Nat.mul_le_mul_right 6 hnc; omega
    rw [Array.set!_eq_setIfInBounds, Array.getElem?_setIfInBounds]
    by_cases hjk : j / 6 = k
    ·have e1 : (l.set k (x.mark v))[j / 6] = x.mark v := by simp [hjk]
     rw [e1] at hu
     have e0 : l[j / 6] = x := by have := hx; rw [← hjk, List.getElem?_eq_getElem hq] at this; exact Option.some.inj this
     rw [e0] at hle
     by_cases h2 : j % 6 = 2
     ·rw [if_pos (by omega), if_pos (by omega)]
      rw [h2] at hu
      simpa [Ar.mark, Ar.cells] using hu
     ·rw [if_neg (by omega)]
      refine hxs j u (hle.trans ?_)
      rw [← hu]
      have : j % 6 = 0 ∨ j % 6 = 1 ∨ j % 6 = 3 ∨ j % 6 = 4 ∨ j % 6 = 5 := by omega
      rcases this with e | e | e | e | e <;> rw [e] <;> rfl
    ·rw [if_neg (by omega)]
     have e1 : (l.set k (x.mark v))[j / 6] = l[j / 6] := List.getElem_set_ne (fun e => hjk e.symm) _
     rw [e1] at hu
     exact hxs j u (hle.trans hu)
theorem ArAt.okSet {w : World} {b off c : Nat} {l : List Ar} {n : Nat} (h : ArAt w (.slice (some ⟨b, off, none⟩) n c) l) {k : Nat} (hk : k < l.length) (i : Nat) : w.frozen? ⟨b, off + k * 6 + i, none⟩ = false := by
 rcases h.2 with ⟨e, _⟩ | ⟨g, off', c', arr, e, hg, _⟩
 ·cases e
 ·cases e
  simp [World.frozen?, hg]
theorem Parts.three {w : World} {v1 v2 v3 : Value} {l1 l2 l3 : List Ar} (h1 : ArAt w v1 l1) (h2 : ArAt w v2 l2) (h3 : ArAt w v3 l3) (T : TypeId) : Parts (w.alloc (.cells #[v1, v2, v3] T)) w.heap.size 0 [v1, v2, v3] [l1, l2, l3] := by
 have hb : Below w.heap.size w (w.alloc (.cells #[v1, v2, v3] T)) := (Below.refl _ _).alloc (Nat.le_refl _) _
 refine ⟨rfl, fun j v hv => ?_, fun j v l hv hl => ?_⟩
 ·rw [cell_of_row _ _ _ _ _ _ (heap_alloc_new w (.cells #[v1, v2, v3] T))]
  rw [Nat.zero_add]
  simpa using hv
 ·match j with
  | 0 => cases hv; cases hl; exact h1.below hb
  | 1 => cases hv; cases hl; exact h2.below hb
  | 2 => cases hv; cases hl; exact h3.below hb
  | j + 3 => simp at hv
def Yx (l : List Ar) (b : Bool) (k : Nat) : List Ar := (l.take k).map (Ar.mark b) ++ l.drop k
theorem zfu (l : List Ar) (b : Bool) (k : Nat) : (Yx l b k).length = l.length := by simp [Yx]; omega
theorem J9 {l : List Ar} {b : Bool} {k : Nat} : (Yx l b k)[k]? = l[k]? := by
 unfold Yx
 by_cases hk : k < l.length
 ·rw [List.getElem?_append_right (by simp; omega)]
  simp [Nat.min_eq_left (Nat.le_of_lt hk)]
 ·rw [List.getElem?_eq_none (by simp; omega), List.getElem?_eq_none (by omega)]
theorem zft {l : List Ar} {b : Bool} {k : Nat} {x : Ar} (hx : l[k]? = some x) : (Yx l b k).set k (x.mark b) = Yx l b (k + 1) := by
 obtain ⟨hk, rfl⟩ := List.getElem?_eq_some_iff.1 hx
 unfold Yx
 have hl : ((l.take k).map (Ar.mark b)).length = k := by simp; omega
 rw [List.set_append_right k _ (by omega), hl, Nat.sub_self, List.drop_eq_getElem_cons hk, List.set_cons_zero, List.take_succ_eq_append_getElem hk, List.map_append]
 simp
theorem zfv (l : List Ar) (b : Bool) : Yx l b l.length = l.map (Ar.mark b) := by simp [Yx]
set_option maxRecDepth 100000 in
set_option maxHeartbeats 4000000 in
theorem zbs (w : World) (v : Value) (l : List Ar) (h : ArRd w v l) (hl : ∀ a ∈ l, a.yu) (hlen : l.length ≤ 100) (fr pg : Int) (mk : Bool) :
  Calls Tryz.prog 90 #[v, .int .i64 fr, .int .i64 pg, .bool mk] w fun e w' => ∃ v' x, e = .returned (.tuple #[v', .int .i64 x]) ∧ Below w.heap.size w w' ∧ (∀ b, v'.ownBlock = some b → w.heap.size ≤ b) ∧
   (¬ uo fr pg → x = 1 ∧ v' = .slice none 0 0) ∧ (uo fr pg → zo l fr (fr + pg) = [] → x = 2 ∧ v' = .slice none 0 0) ∧
   (uo fr pg → zo l fr (fr + pg) ≠ [] → (Y6 l fr pg mk).length ≤ 16 → x = 0 ∧ ArAt w' v' (Y6 l fr pg mk)) ∧
   (uo fr pg → zo l fr (fr + pg) ≠ [] → 16 < (Y6 l fr pg mk).length → x = 4 ∧ v' = .slice none 0 0) := by
 by_cases hr : uo fr pg
 ·have hsp := Lib.hid (J2 w v l h hl hlen fr pg (by obtain ⟨r1, r2, r3, r4⟩ := hr; omega))
  have hrw := Xf w fr pg
  rw [decide_eq_true hr] at hrw
  have hcl : Hid ((zo l 0 fr).length ≤ 100 ∧ (zo l fr (fr + pg)).length ≤ 100 ∧ (zo l (fr + pg) 4096).length ≤ 100) := ⟨by have := uf l 0 fr; omega, by have := uf l fr (fr + pg); omega, by have := uf l (fr + pg) 4096; omega⟩
  have hcut : Hid (Y6 l fr pg mk = [zo l 0 fr, (zo l fr (fr + pg)).map (Ar.mark mk), zo l (fr + pg) 4096].flatten) := by show _ = _; simp [Y6]
  have HRW := Lib.hid hrw
  have HR := Lib.hid hr
  obtain ⟨av, cv, rfl, _, _⟩ := ArRd.fm h
  clear h hl hlen hrw hr
  obtain ⟨PR, hPR⟩ : ∃ PR, PR = Y6 l fr pg mk := ⟨_, rfl⟩
  rw [← hPR] at hcut ⊢
  clear hPR
  obtain ⟨A1, hA1⟩ : ∃ A1, A1 = zo l 0 fr := ⟨_, rfl⟩
  obtain ⟨A2, hA2⟩ : ∃ A2, A2 = zo l fr (fr + pg) := ⟨_, rfl⟩
  obtain ⟨A3, hA3⟩ : ∃ A3, A3 = zo l (fr + pg) 4096 := ⟨_, rfl⟩
  rw [← hA1, ← hA2, ← hA3] at hsp hcl hcut
  rw [← hA2]
  clear hA1 hA2 hA3
  go_enter Tryz.func90, Tryz.ntmps90
  go_wp2_with fail
  refine HRW.out.mono ?_
  rintro e w1 ⟨rfl, rfl⟩
  go_wp2_with fail
  refine hsp.out.mono ?_
  rintro e w2 ⟨v1, v2, v3, rfl, ht, b2⟩
  obtain ⟨a1, c1, rfl, _, _⟩ := SlAt.form ht.a1
  obtain ⟨a2, c2, rfl, _, _⟩ := SlAt.form ht.a2
  obtain ⟨a3, c3, rfl, _, _⟩ := SlAt.form ht.a3
  have HT := Lib.hid ht
  have HB := Lib.hid b2
  clear ht b2 hsp
  by_cases h0 : A2.length = 0
  ·have h0' : Hid (A2 = []) := List.eq_nil_of_length_eq_zero h0
   have h0i : ((A2.length : Nat) : Int) = 0 := by omega
   go_wp2_with fail
   exact bodyPost_ret (v := .tuple #[.slice none 0 0, .int .i64 2]) (by simp [results, Tryz.results90, go_sem]) rfl ⟨_, 2, rfl, HB.out, fun b hb => by simp [Value.ownBlock] at hb, fun h => absurd HR.out h, fun _ _ => ⟨rfl, rfl⟩, fun _ h => absurd h0'.out h, fun _ h => absurd h0'.out h⟩
  ·have h0' : Hid (A2 ≠ []) := fun e => h0 (by rw [e]; rfl)
   obtain ⟨b, off, rfl⟩ := HT.out.a2.addr (by omega)
   obtain ⟨n, hn⟩ : ∃ n, n = A2.length := ⟨_, rfl⟩
   have HN := Lib.hid hn
   rw [← hn] at h0 HT ⊢
   have hnz : (n == 0) = false := by simpa using h0
   clear hn
   have h0i : ¬ ((n : Nat) : Int) = 0 := by omega
   have h0l : n ≤ 100 := by rw [HN.out]; exact hcl.out.2.1
   go_wp2_with fail
   go_loopw [31, 13] (fun i _ wr => ∃ k : Nat, k ≤ n ∧ i = .int .i64 k ∧ Touch [b] w2 wr ∧ ArAt wr (.slice (some ⟨b, off, none⟩) n c2) (Yx A2 mk k)) (fun i _ _ => n - (intOf i).toNat)
   case atStart => exact ⟨0, by omega, rfl, Touch.refl _ _, by simpa [Yx] using HT.out.a2⟩
   case round =>
    obtain ⟨k, hk, rfl, htc, hat⟩ := hrel
    have HTC := Lib.hid htc
    have HAT := Lib.hid hat
    clear htc hat
    by_cases hlt : k < n
    ·have hlt' : (k : Int) < n := by omega
     obtain ⟨x, hx⟩ : ∃ x, A2[k]? = some x := ⟨_, List.getElem?_eq_getElem (by rw [← HN.out]; exact hlt)⟩
     have HX := Lib.hid hx
     have hset := HAT.out.mark (J9.trans hx) mk
     rw [zft hx] at hset
     have HSET := Lib.hid hset
     have hfz := HAT.out.okSet (k := k) (by rw [zfu, ← HN.out]; exact hlt) 2
     obtain ⟨e0, e1, e2, e3, e4, e5⟩ := HAT.out.cell (J9.trans hx)
     clear hset hx e0 e1 e3 e4 e5
     go_wp2_with fail
     go_roundw
     case rel => exact ⟨k + 1, by omega, by go_num, HTC.out.set (by simp) _, HSET.out⟩
     case measure => simp [intOf]; omega
    ·have e : Yx A2 mk k = A2.map (Ar.mark mk) := by
      rw [show k = A2.length by rw [← HN.out]; omega]
      exact zfv A2 mk
     rw [e] at HAT
     have p1 : ArAt wr (.slice a1 A1.length c1) A1 := HT.out.a1.touch HTC.out (fun q hq hm => by simp at hm; subst hm; exact HT.out.n12 _ hq rfl)
     have p3 : ArAt wr (.slice a3 A3.length c3) A3 := HT.out.a3.touch HTC.out (fun q hq hm => by simp at hm; subst hm; exact HT.out.n23 _ rfl hq)
     have bw : Below w1.heap.size w1 wr := Touch.from HB.out HTC.out HB.out.size (fun q hq => by simp at hq; subst hq; exact HT.out.b2 _ rfl)
     have P1 := Lib.hid p1
     have P3 := Lib.hid p3
     have BW := Lib.hid bw
     clear p1 p3 bw e
     go_wp2_with fail
     have hml : (A2.map (Ar.mark mk)).length = n := by rw [List.length_map, ← HN.out]
     refine (Ut _ wr.heap.size 0 3 3 _ _ (Parts.three P1.out HAT.out P3.out _) rfl (by omega) (by have h := hcl.out; simp [sumL]; omega)).mono ?_
     rintro e w3 ⟨v', x, rfl, b3, ho3, hs3, hb3⟩
     rw [← hcut.out] at hs3 hb3
     have H3 := Lib.hid (And.intro b3 (And.intro hs3 (And.intro hb3 ho3)))
     clear b3 ho3 hs3 hb3 hml
     go_wp2_with fail
     have ba := BW.out.alloc BW.out.size (.cells #[.slice a1 A1.length c1, .slice (some ⟨b, off, none⟩) n c2, .slice a3 A3.length c3] 104)
     obtain ⟨b3, hs3, hb3, ho3⟩ := H3.out
     refine bodyPost_ret (v := .tuple #[v', .int .i64 x]) (by simp [results, Tryz.results90, go_sem]) rfl ⟨v', x, rfl, ba.trans (b3.mono ba.size), fun b hb => by have := ho3 b hb; have := ba.size; omega, fun h => absurd HR.out h, fun _ h => absurd h h0'.out, fun _ _ h => hs3 h, fun _ _ h => hb3 h⟩
 ·have hrw := Xf w fr pg
  rw [decide_eq_false hr] at hrw
  have HRW := Lib.hid hrw
  have HR := Lib.hid hr
  obtain ⟨av, cv, rfl, _, _⟩ := ArRd.fm h
  clear h hl hlen hrw hr
  go_enter Tryz.func90, Tryz.ntmps90
  go_wp2_with fail
  refine HRW.out.mono ?_
  rintro e w1 ⟨rfl, rfl⟩
  go_wp2_with fail
  exact bodyPost_ret (v := .tuple #[.slice none 0 0, .int .i64 1]) (by simp [results, Tryz.results90, go_sem]) rfl ⟨_, 1, rfl, Below.refl _ _, fun b hb => by simp [Value.ownBlock] at hb, fun _ => ⟨rfl, rfl⟩, fun h => absurd h HR.out, fun h => absurd h HR.out, fun h => absurd h HR.out⟩
def Jm (l : List Ar) (fr pg : Int) (mk : Bool) : Int × List Ar :=
 if uo fr pg then (if zo l fr (fr + pg) = [] then (2, l) else if (Y6 l fr pg mk).length ≤ 16 then (0, Y6 l fr pg mk) else (4, l)) else (1, l)
section
variable {w w' : World} {tag tag' : Nat → Nat} {q : Sq} {x : za}
set_option maxRecDepth 100000 in
set_option maxHeartbeats 1000000 in
theorem zix (h : zb w tag q x) (n : Nat) (pr : yf) (hn : n < 8) (hp : x.T n = some pr) (hs : ∀ a ∈ pr.A, a.yu) (hlen : pr.A.length ≤ 100) (fr pg : Int) (mk : Bool) :
  Calls Tryz.prog 33 #[ptrV q.sp, .int .i64 n, .int .i64 fr, .int .i64 pg, .bool mk] w fun e w' => e = .returned (.int .i64 (Jm pr.A fr pg mk).1) ∧ ∃ tag', zb w' tag' q (x.put n ⟨pr.T, (Jm pr.A fr pg mk).2, pr.Q⟩) ∧ Step (fun c => c = 20 + n) tag w tag' w' := by
 have F := Lib.hid (qm h (n : Int))
 have ev : Zk q x (n : Int) = .tuple #[ptrV (q.U n).ap, .bool true] := by
  unfold Zk
  rw [show ((n : Nat) : Int).toNat = n by omega, hp]
  have : (0 : Int) ≤ n := by omega
  simp [this]
 rw [ev] at F
 obtain ⟨av, r1, r2, r3⟩ := (h.procs n pr hn hp).row
 have c1 := r1.cell (i := 1) (by omega)
 have z1 := r1.frozen 1
 dsimp only [Z7] at c1
 have P : Hid (Calls Tryz.prog 90 #[av, .int .i64 fr, .int .i64 pg, .bool mk] w fun e w2 => ∃ a2 n2 c2 X, e = .returned (.tuple #[.slice a2 n2 c2, .int .i64 X]) ∧ X = (Jm pr.A fr pg mk).1 ∧ (w2.cell? ⟨(q.U n).ap, 1, none⟩ = some av ∧ w2.frozen? ⟨(q.U n).ap, 1, none⟩ = false) ∧
   (X = 0 → ∃ tag', zb (w2.setCell ⟨(q.U n).ap, 1, none⟩ (.slice a2 n2 c2)) tag' q (x.put n ⟨pr.T, (Jm pr.A fr pg mk).2, pr.Q⟩) ∧ Step (fun c => c = 20 + n) tag w tag' (w2.setCell ⟨(q.U n).ap, 1, none⟩ (.slice a2 n2 c2))) ∧
   (X ≠ 0 → ∃ tag', zb w2 tag' q (x.put n ⟨pr.T, (Jm pr.A fr pg mk).2, pr.Q⟩) ∧ Step (fun c => c = 20 + n) tag w tag' w2)) := by
  refine (zbs w av pr.A (SlAt.rd r2) hs hlen fr pg mk).mono ?_
  rintro e w2 ⟨v', X, rfl, hb2, ho2, k1, k2, k3, k4⟩
  have hfz : w2.cell? ⟨(q.U n).ap, 1, none⟩ = some av ∧ w2.frozen? ⟨(q.U n).ap, 1, none⟩ = false := ⟨(hb2.cell (World.block_lt_of_cell? _ _ c1)).trans c1, (xk (a := ⟨(q.U n).ap, 1, none⟩) (hb2.block _ r1.lt)).trans (r1.frozen 1)⟩
  have bad : ∃ tag', zb w2 tag' q (x.put n ⟨pr.T, pr.A, pr.Q⟩) ∧ Step (fun c => c = 20 + n) tag w tag' w2 := ⟨tag, by
   show zb w2 tag q (x.put n pr)
   rw [za.zes hp]
   exact h.below hb2, Step.of_below hb2⟩
  unfold Jm
  by_cases hr : uo fr pg
  ·rw [if_pos hr]
   by_cases h0 : zo pr.A fr (fr + pg) = []
   ·rw [if_pos h0]
    obtain ⟨rfl, rfl⟩ := k2 hr h0
    exact ⟨_, _, _, 2, rfl, rfl, hfz, fun e => by omega, fun _ => bad⟩
   ·rw [if_neg h0]
    by_cases h16 : (Y6 pr.A fr pg mk).length ≤ 16
    ·rw [if_pos h16]
     obtain ⟨rfl, hA⟩ := k3 hr h0 h16
     obtain ⟨aa, cc, rfl, _, _⟩ := SlAt.form hA
     have K := h.jr hn hp hb2 hA ho2
     exact ⟨_, _, _, 0, rfl, rfl, hfz, fun _ => ⟨_, K.1, K.2⟩, fun e => absurd rfl e⟩
    ·rw [if_neg h16]
     obtain ⟨rfl, rfl⟩ := k4 hr h0 (by omega)
     exact ⟨_, _, _, 4, rfl, rfl, hfz, fun e => by omega, fun _ => bad⟩
  ·rw [if_neg hr]
   obtain ⟨rfl, rfl⟩ := k1 hr
   exact ⟨_, _, _, 1, rfl, rfl, hfz, fun e => by omega, fun _ => bad⟩
 obtain ⟨X0, hX0⟩ : ∃ X0, X0 = (Jm pr.A fr pg mk).1 := ⟨_, rfl⟩
 obtain ⟨Y, hY⟩ : ∃ Y, Y = x.put n ⟨pr.T, (Jm pr.A fr pg mk).2, pr.Q⟩ := ⟨_, rfl⟩
 rw [← hX0, ← hY] at P ⊢
 obtain ⟨ava, avc, hav, _, _⟩ := SlAt.form r2
 subst hav
 unfold ptrV at F ⊢
 clear h hp ev r1 r2 r3 hs hlen hX0 hY
 go_enter Tryz.func33, Tryz.ntmps33
 go_wp2_with fail
 refine F.out.mono ?_
 rintro e u ⟨rfl, hu⟩
 have hu := hu.symm
 subst hu
 clear F
 go_wp2_with fail
 refine P.out.mono ?_
 rintro e w2 ⟨a2, n2, c2, X, rfl, rfl, ⟨gc, gz⟩, HX⟩
 have hX := Lib.hid HX
 clear HX P c1 z1
 by_cases hX0 : X = 0
 ·subst hX0
  go_wp2_with fail
  go_ret
  exact ⟨rfl, by first | exact hX.out.1 trivial | exact hX.out.1 rfl⟩
 ·go_wp2_with fail
  go_ret
  exact ⟨rfl, hX.out.2 hX0⟩
end
section
variable {w0 w w' : World} {V : List (Value × List Value)} {sp r : Nat} {X : Abs}
theorem At.prot (h : At w0 V sp X r w) (n : Nat) {A : List Ar} {Q : List (Int × Int)} (hX : X.A n = some (A, Q)) {fr pg : Int} {mk : Bool} (hr : uo fr pg) (hne : zo A fr (fr + pg) ≠ []) (hlen : (Y6 A fr pg mk).length ≤ 16) :
  Calls Tryz.prog 33 #[ptrV sp, .int .i64 n, .int .i64 fr, .int .i64 pg, .bool mk] w fun e w' => e = .returned (.int .i64 0) ∧ At w0 V sp (X.setA n (Y6 A fr pg mk)) r w' := by
 obtain ⟨⟨x, q, tag, rfl, hS, low, hV, hk, rfl, hr', hc⟩, hbel⟩ := h
 obtain ⟨pr, hp, he⟩ := Option.map_eq_some_iff.1 (show (x.T n).map (fun pr => (pr.A, pr.Q)) = some (A, Q) from hX)
 have hA : pr.A = A := congrArg Prod.fst he
 subst hA
 have hn := hk.ok.Zx hk.out hp
 obtain ⟨ok1, ok2⟩ := hk.ok.wf.jr n pr hp
 have hR : Jm pr.A fr pg mk = (0, Y6 pr.A fr pg mk) := by
  unfold Jm
  rw [if_pos hr, if_neg hne, if_pos hlen]
 have W := zix hS n pr hn hp ok1.1 (by omega) fr pg mk
 rw [hR] at W
 refine W.mono ?_
 rintro e w1 ⟨rfl, tag1, hS1, s1⟩
 obtain ⟨a1, b1, c1⟩ := vv (C := fun c => c = 20 + n) (by omega) s1 hbel low hV
 obtain ⟨k1, k2⟩ := hk.relist hp ⟨zjq ok1 hr mk, hlen⟩ fun page hpg => by
  rcases zf4 (l := pr.A) (p := (page : Int)) mk (by omega) hr with h | ⟨a, b, h1, h2, h3⟩
  ·exact .inl h
  ·exact .inr ⟨a, b, _, h1, h2, h3⟩
 exact ⟨rfl, ⟨⟨_, q, tag1, rfl, hS1, a1, b1, k1, k2, hr', hc⟩, c1⟩⟩
theorem zcj {x : za} (h : Ok0 x) {n : Nat} (hs : (x.T n).isSome = true) (wr : Bool) {a s : Nat} (h0 : 0 < s) (h2 : a + s ≤ 262144) (hd : ∀ b, x.abs.area n (a / 64) = some b → wr = true ∧ b.write = false) : za.zh n wr 3 x a s = (([], 11), x) := by
 obtain ⟨pr, hp⟩ := Option.isSome_iff_exists.1 hs
 have e : x.askF n (a / 64) wr = ((0, 11), x) := by
  rcases h.askF hp (page := a / 64) (by omega) wr with ⟨_, e⟩ | ⟨b, hb, hno, _⟩
  ·exact e
  ·exact absurd (hd b (by rw [qx hp]; exact hb)) hno
 unfold za.zh
 rw [if_neg (by omega), e]
 rfl
theorem At.zdi (h : At w0 V sp X r w) (n : Nat) {a0 : Nat} {v : Value} {l : List UInt8} (hv : Has w0 V w v l) (hn : n < 8) (hX : (X.A n).isSome = true) (h0 : 0 < l.length) (h1 : l.length ≤ 64) (h2 : a0 + l.length ≤ 262144) (hd : ∀ b, X.area n (a0 / 64) = some b → b.write = false) :
  Calls Tryz.prog 19 #[ptrV sp, .int .i64 n, .int .i64 a0, v] w fun e w' => e = .returned (.int .i64 11) ∧ At w0 V sp X r w' := by
 obtain ⟨⟨x, q, tag, rfl, hS, low, hV, hk, rfl, hr, hc⟩, hbel⟩ := h
 have hs : (x.T n).isSome = true := by
  have : ((x.T n).map fun pr => (pr.A, pr.Q)).isSome = true := hX
  simpa using this
 obtain ⟨hv1, hv2⟩ := zbg hv low hV
 have W := At.store' hS hk hn hs a0 hv1 hv2 (Zt hs h1 h2)
 have e1 : x.Yg n a0 l = (11, x) := by
  unfold za.Yg
  rw [if_pos (Zt hs h1 h2)]
  simp only [Int.toNat_natCast]
  rw [zcj hk hs true h0 h2 fun b hb => ⟨rfl, hd b hb⟩]
  rfl
 rw [e1] at W
 refine W.mono ?_
 rintro e w1 ⟨rfl, tag1, hS1, s1⟩
 obtain ⟨a1, b1, c1⟩ := vv CB0 s1 hbel low hV
 exact ⟨rfl, ⟨⟨x, q, tag1, rfl, hS1, a1, b1, hk, rfl, hr, hc⟩, c1⟩⟩
theorem At.zmd (h : At w0 V sp X r w) (n : Nat) {a0 s : Nat} (hn : n < 8) (hX : (X.A n).isSome = true) (h0 : 0 < s) (h1 : s ≤ 64) (h2 : a0 + s ≤ 262144) (hd : X.area n (a0 / 64) = none) :
  Calls Tryz.prog 20 #[ptrV sp, .int .i64 n, .int .i64 a0, .int .i64 s] w fun e w' => ∃ v, e = .returned (.tuple #[v, .int .i64 11]) ∧ At w0 ((v, bys []) :: V) sp X r w' := by
 obtain ⟨⟨x, q, tag, rfl, hS, low, hV, hk, rfl, hr, hc⟩, hbel⟩ := h
 have hs : (x.T n).isSome = true := by
  have : ((x.T n).map fun pr => (pr.A, pr.Q)).isSome = true := hX
  simpa using this
 have W := At.load' hS hk hn hs a0 s
 have e1 : x.Ub n a0 s = (([], 11), x) := by
  unfold za.Ub
  rw [if_pos (Zt hs h1 h2)]
  simp only [Int.toNat_natCast]
  rw [zcj hk hs false h0 h2 fun b hb => by rw [hd] at hb; cases hb]
  rfl
 rw [e1] at W
 refine W.mono ?_
 rintro e w1 ⟨v, tag1, rfl, hv, ho, hS1, s1⟩
 obtain ⟨a1, b1, c1⟩ := vv CB0 s1 hbel low hV
 refine ⟨v, rfl, ⟨⟨x, q, tag1, rfl, hS1, a1, fun p hp => ?_, hk, rfl, hr, hc⟩, c1⟩⟩
 rcases List.mem_cons.1 hp with rfl | hp
 ·exact ⟨zai.1 (SlAt.rd hv), ho⟩
 ·exact b1 p hp
end
def Abs.rd (X : Abs) (a : Ar) (n a0 s : Nat) : List UInt8 :=
 if a0 % 64 + s ≤ 64 then ((X.ct a n (a0 / 64)).drop (a0 % 64)).take s
 else ((X.ct a n (a0 / 64)).drop (a0 % 64)).take (64 - a0 % 64) ++ (X.ct a n (a0 / 64 + 1)).take (s - (64 - a0 % 64))
def Abs.st (X : Abs) (a : Ar) (n a0 : Nat) (l : List UInt8) : Abs :=
 if a0 % 64 + l.length ≤ 64 then (X.own a n (a0 / 64)).write a n (a0 / 64) (a0 % 64) l
 else (((X.own a n (a0 / 64)).own a n (a0 / 64 + 1)).write a n (a0 / 64) (a0 % 64) (l.take (64 - a0 % 64))).write a n (a0 / 64 + 1) 0 (l.drop (64 - a0 % 64))
structure PgOk (X : Abs) (a : Ar) (n p : Nat) : Prop where
 area : X.area n p = some a
 there : X.pv n p ≠ .lost
 shared : a.kind = 2 → X.pv n p = .file
 len : (X.ct a n p).length = 64
theorem PgOk.can {X : Abs} {a : Ar} {n p : Nat} (h : PgOk X a n p) : y8 X n p a := ⟨h.area, h.there⟩
section
variable {X : Abs} {a : Ar} {n p q at_ a0 : Nat} {b l : List UInt8}
theorem zdv (h : X.pv n p ≠ .lost) : (X.own a n q).pv n p ≠ .lost := by
 unfold Abs.own
 split
 ·exact h
 ·show (if n = n ∧ p = q then _ else X.pv n p) ≠ _
  split
  ·intro z; cases z
  ·exact h
theorem za8 (h : X.pv n p = .file) (k : a.kind = 2) : (X.own a n q).pv n p = .file := by
 unfold Abs.own
 rw [if_pos k]
 exact h
theorem zav (h : X.pv n p ≠ .lost) : (X.write a n q at_ b).pv n p ≠ .lost := by
 unfold Abs.write
 split
 ·exact h
 ·show (if n = n ∧ p = q then _ else X.pv n p) ≠ _
  split
  ·intro z; cases z
  ·exact h
theorem Qf (h : X.pv n p = .file) (k : a.kind = 2) : (X.write a n q at_ b).pv n p = .file := by
 unfold Abs.write
 rw [if_pos k]
 exact h
theorem PgOk.own (h : PgOk X a n p) (q : Nat) : PgOk (X.own a n q) a n p :=
 ⟨by rw [zc5 (Zo X a n q)]; exact h.area, zdv h.there, fun k => za8 (h.shared k) k, by rw [zd9]; exact h.len⟩
theorem PgOk.write (h : PgOk X a n p) (hq : q = p → at_ + b.length ≤ 64) : PgOk (X.write a n q at_ b) a n p := by
 refine ⟨by rw [zc5 (Vy X a n q at_ b)]; exact h.area, zav h.there, fun k => Qf (h.shared k) k, ?_⟩
 by_cases e : p = q
 ·subst e
  rw [Zq h.shared, zfg _ _ _ (by rw [h.len]; exact hq rfl)]
  exact h.len
 ·rw [Xo e]; exact h.len
theorem PgOk.st (h : PgOk X a n p) (hl : l.length ≤ 64) : PgOk (X.st a n a0 l) a n p := by
 unfold Abs.st
 split
 ·exact (h.own _).write fun _ => by omega
 ·refine (((h.own _).own _).write fun _ => ?_).write fun _ => ?_
  ·rw [List.length_take]; omega
  ·rw [List.length_drop]; omega
theorem st_A : (X.st a n a0 l).A = X.A := by
 unfold Abs.st
 split
 ·rw [Vy, Zo]
 ·rw [Vy, Vy, Zo, Zo]
theorem st_rd (h : PgOk X a n (a0 / 64)) (h2 : 64 < a0 % 64 + l.length → PgOk X a n (a0 / 64 + 1)) (hl : l.length ≤ 64) : (X.st a n a0 l).rd a n a0 l.length = l := by
 unfold Abs.rd Abs.st
 by_cases k : a0 % 64 + l.length ≤ 64
 ·rw [if_pos k, if_pos k, Zq (h.own _).shared]
  exact Xr _ _ _ (by rw [(h.own _).len]; exact k)
 ·rw [if_neg k, if_neg k]
  have g := h2 (by omega)
  have o1 := (h.own (a0 / 64)).own (a0 / 64 + 1)
  have o2 := (g.own (a0 / 64)).own (a0 / 64 + 1)
  have t1 : (l.take (64 - a0 % 64)).length = 64 - a0 % 64 := by rw [List.length_take]; omega
  have t2 : (l.drop (64 - a0 % 64)).length = l.length - (64 - a0 % 64) := List.length_drop ..
  have w2 := o2.write (q := a0 / 64) (at_ := a0 % 64) (b := l.take (64 - a0 % 64)) fun z => by omega
  have e1 : (((X.own a n (a0 / 64)).own a n (a0 / 64 + 1)).write a n (a0 / 64) (a0 % 64) (l.take (64 - a0 % 64))).ct a n (a0 / 64) = Abs.splice (((X.own a n (a0 / 64)).own a n (a0 / 64 + 1)).ct a n (a0 / 64)) (a0 % 64) (l.take (64 - a0 % 64)) := Zq o1.shared
  rw [Xo (show a0 / 64 ≠ a0 / 64 + 1 by omega), e1, Zq w2.shared]
  have r1 := Xr (((X.own a n (a0 / 64)).own a n (a0 / 64 + 1)).ct a n (a0 / 64)) (l.take (64 - a0 % 64)) (a0 % 64) (by rw [o1.len]; omega)
  rw [t1] at r1
  rw [r1]
  have r2 := Xr ((((X.own a n (a0 / 64)).own a n (a0 / 64 + 1)).write a n (a0 / 64) (a0 % 64) (l.take (64 - a0 % 64))).ct a n (a0 / 64 + 1)) (l.drop (64 - a0 % 64)) 0 (by rw [w2.len]; omega)
  rw [t2, List.drop_zero] at r2
  rw [r2]
  exact List.take_append_drop _ _
end
section
variable {w0 w : World} {V : List (Value × List Value)} {sp r : Nat} {X : Abs}
theorem At.loadA (h : At w0 V sp X (r + 10) w) (n : Nat) {a0 s : Nat} {a : Ar} (h0 : 0 < s) (h1 : s ≤ 64) (h2 : a0 + s ≤ 262144) (hn : n < 8) (hp : y8 X n (a0 / 64) a) (hp2 : 64 < a0 % 64 + s → y8 X n (a0 / 64 + 1) a) {l : List UInt8} (hl : X.rd a n a0 s = l) :
  Calls Tryz.prog 20 #[ptrV sp, .int .i64 n, .int .i64 a0, .int .i64 s] w fun e w' => ∃ v, e = .returned (.tuple #[v, .int .i64 0]) ∧ At w0 ((v, bys l) :: V) sp X r w' := by
 subst hl
 unfold Abs.rd
 by_cases k : a0 % 64 + s ≤ 64
 ·rw [if_pos k]
  exact At.zju (r := r) (h.less (by omega)) n h0 k h2 hn hp
 ·rw [if_neg k]
  exact At.zjt h n h1 (by omega) h2 hp (hp2 (by omega))
theorem At.storeA (h : At w0 V sp X (r + 10) w) (n : Nat) {a0 : Nat} {v : Value} {l : List UInt8} (hv : Has w0 V w v l) {a : Ar} (h0 : 0 < l.length) (h1 : l.length ≤ 64) (h2 : a0 + l.length ≤ 262144) (hn : n < 8) (hp : y8 X n (a0 / 64) a) (hp2 : 64 < a0 % 64 + l.length → y8 X n (a0 / 64 + 1) a) (hw : a.write = true) :
  Calls Tryz.prog 19 #[ptrV sp, .int .i64 n, .int .i64 a0, v] w fun e w' => e = .returned (.int .i64 0) ∧ At w0 V sp (X.st a n a0 l) r w' := by
 unfold Abs.st
 by_cases k : a0 % 64 + l.length ≤ 64
 ·rw [if_pos k]
  exact At.zem (r := r) (h.less (by omega)) n hv h0 k h2 hn hp hw
 ·rw [if_neg k]
  exact At.zek h n hv h1 (by omega) h2 hp (hp2 (by omega)) hw hw
theorem PgOk.new (hf : ∀ k, jf k → (X.file k).length = 64) {n : Nat} {Q : List (Int × Int)} (hX : X.A n = some ([], Q)) {a : Ar} (ha : a.yu) {p : Nat} (hp : a.Has (p : Int)) (hpg : p < 4096) : PgOk (X.map n a [a]) a n p := by
 have e1 : (X.map n a [a]).pv n p = Jn a := by rw [Abs.Vk, if_pos ⟨rfl, hpg, hp⟩]
 have e2 : (X.map n a [a]).area n p = some a := by
  rw [Abs.Xw (p := ([a], Q)) (by rw [Abs.map_A, if_pos rfl, hX]; rfl)]
  exact (Zf ⟨fun b hb => by simp at hb; subst hb; exact ha, List.pairwise_singleton _ _⟩).2 ⟨by simp, hp⟩
 refine ⟨e2, ?_, fun k => ?_, ?_⟩
 ·rw [e1]
  unfold Jn
  split <;> (intro z; cases z)
 ·rw [e1]
  unfold Jn
  rw [if_neg (by omega)]
 ·by_cases k : a.kind = 1
  ·rw [zae (l := List.replicate 64 0) (by rw [e1]; unfold Jn; rw [if_pos k])]
   simp
  ·rw [Uh (by rw [e1]; unfold Jn; rw [if_neg k])]
   refine hf _ (Uf (pr := ⟨⟨0, []⟩, [a], []⟩) ⟨fun b hb => by simp at hb; subst hb; exact ha, List.pairwise_singleton _ _⟩ ?_ k)
   exact (Zf ⟨fun b hb => by simp at hb; subst hb; exact ha, List.pairwise_singleton _ _⟩).2 ⟨by simp, hp⟩
end
end Go.Proofs.YtnhdmnijiphjjaaGreat
