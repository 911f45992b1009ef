/- Entries as numbers: Encode and Decode of what may be: what each answers. -/
import Derived.Test.YtnhdmnijiphjjaaGreatJEc2
import Derived.Deep.MidRow
import Derived.Stop.BytesEq
import Derived.BigFrame
import Derived.Shelf.SlGeneric
import Derived.Ground.SlgfProg
import Derived.Shelf.SlLaysH
import Derived.Test.YtnhdmnijiphjjaaGreatProg
import Derived.Shelf.SlicesE.DeleteFunc
import Derived.Deep.RegionHeld
set_option linter.unusedVariables false
set_option linter.unusedSimpArgs false
set_option maxRecDepth 100000
set_option maxHeartbeats 2000000
namespace Go.Proofs.YtnhdmnijiphjjaaGreat
open Go Go.RowKit
def entV (e : Ent) : Value := .agg #[.int .i64 e.kind, .int .i64 e.n, .bool e.write]
theorem Yz (w : World) (k : Int) (m : Int) (hm : k = 0 ∧ m = 1 ∨ k = 1 ∧ m = 1024 ∨ k = 2 ∧ m = 32 ∨ k = 3 ∧ m = 1) : Calls Tryz.prog 191 #[.int .i64 k] w fun e w' => e = .returned (.int .i64 m) ∧ w' = w := by
 rcases hm with ⟨rfl, rfl⟩ | ⟨rfl, rfl⟩ | ⟨rfl, rfl⟩ | ⟨rfl, rfl⟩
 all_goals
  go_enter Tryz.func191, Tryz.ntmps191
  go_wp2_with fail
  go_ret
  exact ⟨rfl, rfl⟩
theorem Ent.cases {e : Ent} (h : e.ok = true) : e = ⟨0, 0, false⟩ ∨ (∃ (n : Nat) (b : Bool), n < 1024 ∧ e = ⟨1, n, b⟩) ∨ (∃ n : Nat, n < 32 ∧ e = ⟨2, n, false⟩) ∨ e = ⟨3, 0, false⟩ := by
 obtain ⟨k, n, b⟩ := e
 simp only [Ent.ok, most, Bool.and_eq_true, decide_eq_true_eq, Bool.or_eq_true, Bool.not_eq_true', beq_iff_eq] at h
 obtain ⟨⟨h1, h2, h3⟩, h4⟩ := h
 obtain ⟨n, rfl⟩ := Int.eq_ofNat_of_zero_le h2
 have : k = 0 ∨ k = 1 ∨ k = 2 ∨ k = 3 := by omega
 rcases this with rfl | rfl | rfl | rfl
 ·left; simp at h3 h4; simp [h4]; omega
 ·right; left; simp at h3; exact ⟨n, b, by omega, rfl⟩
 ·right; right; left; simp at h3 h4; exact ⟨n, by omega, by simp [h4]⟩
 ·right; right; right; simp at h3 h4; simp [h4]; omega
theorem zcw (w : World) (e : Ent) (h : e.ok = true) : Calls Tryz.prog 148 #[entV e] w fun r w' => r = .returned (.tuple #[.int .u64 e.num, .int .i64 0]) ∧ Below w.heap.size w w' := by
 have hb : ∀ n, Below w.heap.size w ((w.alloc (.cells #[.int .i64 e.kind, .int .i64 e.n, .bool e.write] 70 (0, 0))).drewN n) := fun n => below_drewN' ((Below.refl _ _).alloc (Nat.le_refl _) _) n
 have HB := Lib.hid hb
 clear hb
 rcases Ent.cases h with rfl | ⟨n, b, hn, rfl⟩ | ⟨n, hn, rfl⟩ | rfl
 ·clear h
  go_enter Tryz.func148, Tryz.ntmps148
  unfold entV
  go_wp2_with fail
  go_quiet ((go_at_call 191; exact Calls.quiet_of_same (Yz _ 0 1 (by omega))))
  go_wp2_with fail
  exact bodyPost_ret (v := .tuple #[.int .u64 0, .int .i64 0]) (by simp [results, Tryz.results148, go_sem]) rfl ⟨rfl, HB.out _⟩
 ·clear h
  have i1 : (n : Int) < 1024 := by omega
  have i2 : (0 : Int) ≤ n := by omega
  have i3 : decide ((n : Int) < 0) = false := by simp
  have i4 : decide ((1024 : Int) ≤ n) = false := by simp; omega
  have hW2 : Hid (bits .or .u64 (1 + 4 * (n : Int)) 1099511627776 = ((1 + 4 * n + 2 ^ 40 : Nat) : Int)) := by
   show _ = _
   have e1 : bits .or .u64 ((1 + 4 * n : Nat) : Int) ((1099511627776 : Nat) : Int) = ((1 + 4 * n ||| 1099511627776 : Nat) : Int) := u64_or_nat _ _ (by omega) (by omega)
   have e2 := Nat.shiftLeft_add_eq_or_of_lt (show 1 + 4 * n < 2 ^ 40 by omega) 1
   rw [Nat.shiftLeft_eq] at e2
   have e0 : (1 + 4 * (n : Int)) = ((1 + 4 * n : Nat) : Int) := by omega
   rw [e0]
   refine e1.trans ?_
   rw [Nat.or_comm]
   have e4 : (1 * 2 ^ 40 : Nat) = 1099511627776 := by decide
   rw [e4] at e2
   rw [← e2]
   congr 1
   omega
  cases b
  ·go_enter Tryz.func148, Tryz.ntmps148
   unfold entV
   go_wp2_with fail
   go_quiet ((go_at_call 191; exact Calls.quiet_of_same (Yz _ 1 1024 (by omega))))
   go_wp2_with fail
   exact bodyPost_ret (v := .tuple #[.int .u64 (1 + 4 * n), .int .i64 0]) (by simp [results, Tryz.results148, go_sem]) rfl ⟨by unfold Ent.num; simp, HB.out _⟩
  ·go_enter Tryz.func148, Tryz.ntmps148
   unfold entV
   go_wp2_with fail
   go_quiet ((go_at_call 191; exact Calls.quiet_of_same (Yz _ 1 1024 (by omega))))
   go_wp2_with fail
   rw [hW2.out]
   exact bodyPost_ret (v := .tuple #[.int .u64 ((1 + 4 * n + 2 ^ 40 : Nat) : Int), .int .i64 0]) (by simp [results, Tryz.results148, go_sem]) rfl ⟨by unfold Ent.num; simp, HB.out _⟩
 ·clear h
  have i1 : (n : Int) < 32 := by omega
  have i2 : (0 : Int) ≤ n := by omega
  have i3 : decide ((n : Int) < 0) = false := by simp
  have i4 : decide ((32 : Int) ≤ n) = false := by simp; omega
  go_enter Tryz.func148, Tryz.ntmps148
  unfold entV
  go_wp2_with fail
  go_quiet ((go_at_call 191; exact Calls.quiet_of_same (Yz _ 2 32 (by omega))))
  go_wp2_with fail
  exact bodyPost_ret (v := .tuple #[.int .u64 (2 + 4 * n), .int .i64 0]) (by simp [results, Tryz.results148, go_sem]) rfl ⟨by unfold Ent.num; simp, HB.out _⟩
 ·clear h
  go_enter Tryz.func148, Tryz.ntmps148
  unfold entV
  go_wp2_with fail
  go_quiet ((go_at_call 191; exact Calls.quiet_of_same (Yz _ 3 1 (by omega))))
  go_wp2_with fail
  exact bodyPost_ret (v := .tuple #[.int .u64 3, .int .i64 0]) (by simp [results, Tryz.results148, go_sem]) rfl ⟨rfl, HB.out _⟩
theorem zja (w : World) (e : Ent) (h : e.ok = true) (v : Int) (hv : v = e.num) : Calls Tryz.prog 95 #[.int .u64 v] w fun r w' => r = .returned (.tuple #[entV e, .int .i64 0]) ∧ Below w.heap.size w w' := by
 subst hv
 have E := Lib.hid (fun W => zcw W e h)
 have hlt := Ent.zb2 h
 have h0 : (0 : Int) ≤ e.num := by omega
 obtain ⟨m, hm⟩ : ∃ m, m = e.kind + 4 * e.n.toNat := ⟨_, rfl⟩
 have hnum : e.num = m + if e.write then 2 ^ 40 else 0 := by rw [hm]; rfl
 have hm4 : m < 4096 := by omega
 have hk : e.kind ≤ 3 ∧ 0 ≤ e.n := by
  simp only [Ent.ok, Bool.and_eq_true, decide_eq_true_eq] at h
  omega
 have k1 : ((m : Int) % 4) = e.kind := by omega
 have k2 : ((m : Int) / 4) = e.n := by omega
 have hn : bits .andNot .u64 (e.num : Int) 1099511627776 = (m : Int) := by
  have h1 : bits .andNot .u64 (e.num : Int) ((1099511627776 : Nat) : Int) = ((e.num &&& (18446744073709551615 - 1099511627776) : Nat) : Int) := u64_andNot_nat _ _ (by omega) (by omega)
  refine h1.trans ?_
  congr 1
  refine Nat.eq_of_testBit_eq fun i => ?_
  rw [Nat.testBit_and, hnum]
  have hbits : (18446744073709551615 - 1099511627776 : Nat).testBit i = (decide (i < 64) && !decide (i = 40)) := by
   have : (18446744073709551615 - 1099511627776 : Nat) = (2 ^ 64 - 1) ^^^ 2 ^ 40 := by decide
   rw [this, Nat.testBit_xor, Nat.testBit_two_pow_sub_one, Nat.testBit_two_pow]
   by_cases e1 : i = 40
   ·subst e1; decide
   ·simp [e1, Ne.symm e1]
  rw [hbits]
  have hmi : 12 ≤ i → m.testBit i = false := fun h => Nat.testBit_lt_two_pow (Nat.lt_of_lt_of_le hm4 (by rw [show 4096 = 2 ^ 12 from rfl]; exact Nat.pow_le_pow_right (by decide) h))
  have hadd : (m + if e.write = true then 2 ^ 40 else 0).testBit i = (m.testBit i || (e.write && decide (i = 40))) := by
   cases e.write
   ·simp
   ·simp only [if_true]
    rw [Nat.add_comm, show (2 ^ 40 + m) = 2 ^ 40 ||| m by
     have := Nat.shiftLeft_add_eq_or_of_lt (show m < 2 ^ 40 by omega) 1
     rw [Nat.shiftLeft_eq, Nat.one_mul] at this
     exact this, Nat.testBit_or, Nat.testBit_two_pow, Bool.or_comm]
    simp [eq_comm]
  rw [hadd]
  by_cases h12 : 12 ≤ i
  ·rw [hmi h12]
   by_cases e1 : i = 40
   ·simp [e1]
   ·simp [e1]
  ·have e1 : i ≠ 40 := by omega
   have e2 : i < 64 := by omega
   simp [e1, e2]
 have hw : (bits .and .u64 (e.num : Int) 1099511627776 != 0) = e.write := by
  have h1 : bits .and .u64 (e.num : Int) ((1099511627776 : Nat) : Int) = ((e.num &&& 1099511627776 : Nat) : Int) := u64_and_nat _ _ (by omega) (by omega)
  have h2 : bits .and .u64 (e.num : Int) 1099511627776 = ((e.num &&& 1099511627776 : Nat) : Int) := h1
  rw [h2]
  have h3 : e.num &&& 1099511627776 = if e.write then 2 ^ 40 else 0 := by
   have := Jr m hm4 e.write
   rw [← hnum] at this
   refine Nat.eq_of_testBit_eq fun i => ?_
   rw [Nat.testBit_and, show (1099511627776 : Nat) = 2 ^ 40 from rfl, Nat.testBit_two_pow]
   by_cases e1 : 40 = i
   ·subst e1
    rw [this]
    cases e.write
    ·rfl
    ·rw [if_pos rfl, Nat.testBit_two_pow]; rfl
   ·rw [decide_eq_false e1, Bool.and_false]
    cases e.write
    ·rw [if_neg (by decide)]; simp
    ·rw [if_pos rfl, Nat.testBit_two_pow, decide_eq_false e1]
  rw [h3]
  cases e.write <;> rfl
 clear hlt hnum hm
 have K1 := Lib.hid k1
 have K2 := Lib.hid k2
 have i1 : (0 : Int) ≤ m := by omega
 have i2 : (m : Int) < 4096 := by omega
 have i3 : (0 : Int) ≤ (m : Int) % 4 := by omega
 have i4 : (0 : Int) ≤ (m : Int) / 4 := by omega
 have i5 : (m : Int) / 4 < 4096 := by omega
 have i6 : (m : Int) % 4 < 4 := by omega
 clear k1 k2 h hm4 hk
 generalize e.num = v at *
 go_enter Tryz.func95, Tryz.ntmps95
 go_wp2_with fail
 rw [K1.out, K2.out]
 refine (E.out _).mono ?_
 rintro r w3 ⟨rfl, hb⟩
 have c0 : w3.cell? ⟨w.heap.size + 1, 0, none⟩ = some (.int .i64 e.kind) := (hb.cell (p := ⟨w.heap.size + 1, 0, none⟩) (by simp)).trans (by go_simp)
 have c1 : w3.cell? ⟨w.heap.size + 1, 1, none⟩ = some (.int .i64 e.n) := (hb.cell (p := ⟨w.heap.size + 1, 1, none⟩) (by simp)).trans (by go_simp)
 have c2 : w3.cell? ⟨w.heap.size + 1, 2, none⟩ = some (.bool e.write) := (hb.cell (p := ⟨w.heap.size + 1, 2, none⟩) (by simp)).trans (by go_simp)
 have d0 : w3.cell? ⟨w.heap.size, 0, none⟩ = some (.int .i64 0) := (hb.cell (p := ⟨w.heap.size, 0, none⟩) (by simp; omega)).trans (by go_simp)
 have d1 : w3.cell? ⟨w.heap.size, 1, none⟩ = some (.int .i64 0) := (hb.cell (p := ⟨w.heap.size, 1, none⟩) (by simp; omega)).trans (by go_simp)
 have d2 : w3.cell? ⟨w.heap.size, 2, none⟩ = some (.bool false) := (hb.cell (p := ⟨w.heap.size, 2, none⟩) (by simp; omega)).trans (by go_simp)
 have f0 : w3.frozen? ⟨w.heap.size, 0, none⟩ = false := (hb.frozen (p := ⟨w.heap.size, 0, none⟩) (by simp; omega)).trans (by go_simp)
 have f1 : w3.frozen? ⟨w.heap.size, 1, none⟩ = false := (hb.frozen (p := ⟨w.heap.size, 1, none⟩) (by simp; omega)).trans (by go_simp)
 have f2 : w3.frozen? ⟨w.heap.size, 2, none⟩ = false := (hb.frozen (p := ⟨w.heap.size, 2, none⟩) (by simp; omega)).trans (by go_simp)
 have hB : Below w.heap.size w w3 := (((Below.refl w.heap.size w).alloc (Nat.le_refl _) _).alloc (by simp) _).trans (hb.mono (by simp; omega))
 have HB := Lib.hid hB
 clear hb hB
 go_wp2_with fail
 exact bodyPost_ret (v := .tuple #[.agg #[.int .i64 e.kind, .int .i64 e.n, .bool e.write], .int .i64 0]) (by simp [results, Tryz.results95, go_sem, d0, d1, d2, f0, f1, f2]) rfl ⟨rfl, ((HB.out.setCell (Nat.le_refl _) _).setCell (Nat.le_refl _) _).setCell (Nat.le_refl _) _⟩
structure Step (C : Nat → Prop) (tag : Nat → Nat) (w : World) (tag' : Nat → Nat) (w' : World) : Prop where
 same : ∀ b, b < w.heap.size → tag' b = tag b
 turn : Turn (fun b => C (tag b)) w w'
section
variable {C C' : Nat → Prop} {tag tag' tag2 : Nat → Nat} {w w' w2 : World}
theorem Step.refl (C : Nat → Prop) (tag : Nat → Nat) (w : World) : Step C tag w tag w := ⟨fun _ _ => rfl, Turn.refl _ _⟩
theorem Step.trans (h : Step C tag w tag' w') (k : Step C tag' w' tag2 w2) : Step C tag w tag2 w2 := by
 refine ⟨fun b hb => (k.same b (Nat.lt_of_lt_of_le hb h.turn.size)).trans (h.same b hb), ?_⟩
 refine ⟨k.turn.os.trans h.turn.os, k.turn.tape.trans h.turn.tape, k.turn.output.trans h.turn.output, Nat.le_trans h.turn.size k.turn.size, fun i hi hn => ?_⟩
 refine (k.turn.block i (Nat.lt_of_lt_of_le hi h.turn.size) ?_).trans (h.turn.block i hi hn)
 rw [h.same i hi]
 exact hn
theorem Step.mono (h : Step C tag w tag' w') (hc : ∀ c, C c → C' c) : Step C' tag w tag' w' := ⟨h.same, h.turn.mono fun k _ hk => hc _ hk⟩
theorem Step.of_below (h : Below w.heap.size w w') : Step C tag w tag w' := ⟨fun _ _ => rfl, Turn.of_below h⟩
theorem Step.Yi {c : Nat} (h : Turn (fun b => tag b = c) w w') (hc : C c) : Step C tag w tag w' := ⟨fun _ _ => rfl, h.mono fun k _ e => by rw [e]; exact hc⟩
theorem Step.keeps (h : Step C tag w tag' w') {c : Nat} (hc : ¬ C c) : ∀ k, k < w.heap.size → tag k = c → tag' k = c ∧ w'.heap[k]? = w.heap[k]? :=
 fun k hk e => ⟨(h.same k hk).trans e, h.turn.block k hk (by rw [e]; exact hc)⟩
end
def retag (tag : Nat → Nat) (w : World) (c : Nat) : Nat → Nat := fun b => if b < w.heap.size then tag b else c
theorem Step.retag {C : Nat → Prop} {tag : Nat → Nat} {w w' : World} {c : Nat} (h : Turn (fun b => tag b = c) w w') (hc : C c) : Step C tag w (retag tag w c) w' :=
 ⟨fun b hb => if_pos hb, h.mono fun k _ e => by rw [e]; exact hc⟩
theorem Jy {tag : Nat → Nat} {w : World} {c b : Nat} (h : grow (fun b => tag b = c) w b) : Go.Proofs.YtnhdmnijiphjjaaGreat.retag tag w c b = c := by
 unfold Go.Proofs.YtnhdmnijiphjjaaGreat.retag
 split
 ·rcases h with h | h
  ·exact h
  ·omega
 ·rfl
def nV (n : Nat) : Value := .int .i64 n
def zed (rp pp root : Nat) (sv : Value) : Nat → Value
 | 0 => .pointer (some ⟨rp, 0, none⟩)
 | 1 => .pointer (some ⟨pp, 0, none⟩)
 | 2 => .int .i64 root
 | _ => sv
def Yd (w : World) (O : Nat → Prop) (t rp pp : Nat) (T : Zn) : Prop :=
 ∃ sv, O t ∧ Row w t 4 (zed rp pp T.root sv) ∧ SlAt w 3 1 sv T.own.length (T.own.map nV) ∧ ∀ b, sv.ownBlock = some b → O b ∧ b ≠ t
theorem Yd.loc {w w' : World} {O O' : Nat → Prop} {t rp pp : Nat} {T : Zn} (h : Yd w O t rp pp T) (hk : ∀ k, k < w.heap.size → O k → O' k ∧ w'.heap[k]? = w.heap[k]?) : Yd w' O' t rp pp T := by
 obtain ⟨sv, h1, h2, h3, h4⟩ := h
 exact ⟨sv, (hk t h2.lt h1).1, h2.keep (hk t h2.lt h1).2, h3.keep fun b hb => (hk b (h3.lt b hb) (h4 b hb).1).2, fun b hb => ⟨(hk b (h3.lt b hb) (h4 b hb).1).1, (h4 b hb).2⟩⟩
structure Rq where
 rp : Nat
 rb : Nat
 pp : Nat
 fs : Nat
 fb : Nat
 t : Nat
 ct : Nat
structure y9 (w : World) (tag : Nat → Nat) (q : Rq) (x : RPT) : Prop where
 ram : uq w (fun b => tag b = 1) q.rp q.rb x.R
 pool : yf w (fun b => tag b = 2) q.pp q.fs q.fb x.P
 tree : Yd w (fun b => tag b = q.ct) q.t q.rp q.pp x.T
 ct : 10 ≤ q.ct
section
variable {w w' : World} {tag tag' : Nat → Nat} {q : Rq} {x : RPT}
theorem y9.step {C : Nat → Prop} (h : y9 w tag q x) (s : Step C tag w tag' w') (h1 : ¬ C 1) (h2 : ¬ C 2) (h3 : ¬ C q.ct) : y9 w' tag' q x :=
 ⟨h.ram.loc (s.keeps h1), h.pool.loc (s.keeps h2), h.tree.loc (s.keeps h3), h.ct⟩
theorem y9.below (h : y9 w tag q x) (hb : Below w.heap.size w w') : y9 w' tag q x := h.step (C := fun _ => False) (Step.of_below hb) (fun h => h) (fun h => h) (fun h => h)
theorem y9.ptr0 (h : y9 w tag q x) : w.cell? ⟨q.t, 0, none⟩ = some (.pointer (some ⟨q.rp, 0, none⟩)) := by
 obtain ⟨sv, _, h2, _⟩ := h.tree
 exact h2.cell (by omega)
theorem y9.ptr1 (h : y9 w tag q x) : w.cell? ⟨q.t, 1, none⟩ = some (.pointer (some ⟨q.pp, 0, none⟩)) := by
 obtain ⟨sv, _, h2, _⟩ := h.tree
 exact h2.cell (by omega)
theorem y9.ptr2 (h : y9 w tag q x) : w.cell? ⟨q.t, 2, none⟩ = some (.int .i64 x.T.root) := by
 obtain ⟨sv, _, h2, _⟩ := h.tree
 exact h2.cell (by omega)
theorem y9.ramTo (h : y9 w tag q x) {R' : RamS} (hr : uq w' (fun b => tag b = 1) q.rp q.rb R') (t : Turn (fun b => tag b = 1) w w') : y9 w' tag q ⟨R', x.P, x.T⟩ ∧ Step (fun c => c = 1) tag w tag w' := by
 have s : Step (fun c => c = 1) tag w tag w' := Step.Yi t rfl
 exact ⟨⟨hr, h.pool.loc (s.keeps (by decide)), h.tree.loc (s.keeps (by have := h.ct; omega)), h.ct⟩, s⟩
theorem y9.zme (h : y9 w tag q x) {P' : zm} (hr : yf w' (fun b => tag b = 2) q.pp q.fs q.fb P') (t : Turn (fun b => tag b = 2) w w') : y9 w' tag q ⟨x.R, P', x.T⟩ ∧ Step (fun c => c = 2) tag w tag w' := by
 have s : Step (fun c => c = 2) tag w tag w' := Step.Yi t rfl
 exact ⟨⟨h.ram.loc (s.keeps (by decide)), hr, h.tree.loc (s.keeps (by have := h.ct; omega)), h.ct⟩, s⟩
end
section
variable (w : World) (tag : Nat → Nat) (q : Rq) (x : RPT)
theorem U1 (h : y9 w tag q x) (fi di : Int) (f d : Nat) (ef : fi = f) (ed : di = d) (hf : f < 1024) (hb : x.R.bad f = false) (hd : d < 8) :
  Calls Tryz.prog 93 #[.pointer (some ⟨q.t, 0, none⟩), .int .i64 fi, .int .i64 di] w fun e w' => e = .returned (.tuple #[.int .u64 (wordAt x.R f d), .int .i64 0]) ∧ Below w.heap.size w w' := by
 subst ef; subst ed
 have hp := h.ptr0
 have A := Lib.hid (Y9 w _ _ _ _ h.ram f ((d : Int) * 8) 8 f (8 * d) 8 rfl (by omega) rfl hf (by omega) (by omega) hb)
 have i1 : (0 : Int) ≤ d := by omega
 have i2 : (d : Int) < 8 := by omega
 clear h hb
 go_enter Tryz.func93, Tryz.ntmps93
 go_wp2_with fail
 refine A.out.mono ?_
 rintro e w1 ⟨v, rfl, h1, h2, -⟩
 have hl : (x.R.read f (8 * d) 8).length = 8 := by simp [RamS.read]
 have G := Lib.hid (zk1 w1 v _ h1.reads 0 0 8 8 rfl rfl (by omega) (by omega) (by omega))
 have H2 := Lib.hid h2
 have hn : Hid (Zk (((x.R.read f (8 * d) 8).drop 0).take 8) = wordAt x.R f d) := by
  show _ = _
  unfold wordAt
  rw [List.drop_zero, List.take_of_length_le (by omega)]
 clear h1 h2 hl
 go_wp2_with fail
 refine G.out.mono ?_
 rw [hn.out]
 rintro e w2 ⟨rfl, rfl⟩
 unfold numV
 go_wp2_with fail
 exact bodyPost_ret (v := .tuple #[.int .u64 (wordAt x.R f d), .int .i64 0]) (by simp [results, Tryz.results93, go_sem]) rfl ⟨rfl, H2.out⟩
theorem X7 (h : y9 w tag q x) (fi di vi : Int) (f d v : Nat) (ef : fi = f) (ed : di = d) (ev : vi = v) (hf : f < 1024) (hb : x.R.bad f = false) (hd : d < 8) (hv : v < 18446744073709551616) :
  Calls Tryz.prog 184 #[.pointer (some ⟨q.t, 0, none⟩), .int .i64 fi, .int .i64 di, .int .u64 vi] w fun e w' => e = .returned (.tuple #[]) ∧ y9 w' tag q ⟨x.R.write f (8 * d) (leBytes v 8), x.P, x.T⟩ ∧ Step (fun c => c = 1) tag w tag w' := by
 subst ef; subst ed; subst ev
 have hp := h.ptr0
 have hpl := World.block_lt_of_cell? _ _ hp
 have H := Lib.hid h
 have i1 : (0 : Int) ≤ d := by omega
 have i2 : (d : Int) < 8 := by omega
 obtain ⟨Z, hZ⟩ : ∃ Z, madeCells #[.int .u8 0] 8 = Z := ⟨_, rfl⟩
 have mk : ∀ w, (Instr.makeSlice 22 (.int .i64 8) (.int .i64 8)).run Tryz.prog w = .ok (.slice (some ⟨w.heap.size, 0, none⟩) 8 8) (w.alloc (.cells Z 5)) := fun w => by
  have := zdp 8 (by omega) w
  rw [hZ] at this
  exact this
 have HZ : Hid (Z.size = 8 ∧ ∀ i, i < 8 → Z[i]? = some (bV 0)) := by
  subst hZ
  exact ⟨size_madeCells _ _, fun i hi => zc3 _ _ hi⟩
 clear hZ h
 go_enter Tryz.func184, Tryz.ntmps184
 go_wp2_with fail
 have R1 := Row.new w 8 (fun i => bV ((fun _ => (0 : UInt8)) i)) Z 5 HZ.out.1 HZ.out.2
 refine (zkm _ w.heap.size 8 8 (fun _ => 0) R1 0 v 0 v 8 8 rfl rfl rfl (by omega) (by omega) (by omega) hv).mono ?_
 rintro e w1 ⟨rfl, r1, t1, z1⟩
 have hb1 : Below w.heap.size w w1 := ((Below.refl _ _).alloc (Nat.le_refl _) _).trans (t1.Vu (B := w.heap.size) (fun i hi => by omega) (by simp))
 have hp1 := (hb1.cell (p := ⟨q.t, 0, none⟩) hpl).trans hp
 have hrd : Reads w1 (.slice (some ⟨w.heap.size, 0, none⟩) 8 8) (leBytes v 8) := by
  refine ⟨some ⟨w.heap.size, 0, none⟩, 8, w.heap.size, 0, by rw [uj], fun _ => rfl, fun j u hu => ?_⟩
  have hj : j < 8 := by have := (List.getElem?_eq_some_iff.1 hu).1; simpa [uj] using this
  rw [Nat.zero_add, r1.cell hj, ← hu, List.getElem?_map, leBytes_getElem? v 8 j hj]
  unfold putB
  rw [if_pos ⟨by omega, by omega⟩]
  rfl
 have A := Lib.hid (Xi w1 _ _ _ _ (H.out.below hb1).ram _ _ hrd f ((d : Int) * 8) f (8 * d) rfl (by omega) hf (by rw [uj]; omega) (by rw [uj]; omega) hb)
 have HB := Lib.hid hb1
 clear r1 t1 z1 hb1 hrd R1
 go_wp2_with fail
 refine A.out.mono ?_
 rintro e w2 ⟨rfl, h2, h3, -⟩
 have K := (H.out.below HB.out).ramTo h2 h3
 have KK := Lib.hid (And.intro K.1 ((Step.of_below HB.out).trans K.2))
 clear h2 h3 K
 go_wp2_with fail
 exact bodyPost_end (v := .tuple #[]) (by simp [results, Tryz.results184, go_sem]) rfl ⟨rfl, KK.out⟩
end
def digV (page : Nat) : Value := .agg #[.int .i64 (digit page 0), .int .i64 (digit page 1), .int .i64 (digit page 2), .int .i64 (digit page 3)]
def Qw (page j i : Nat) : Value := .int .i64 (if 3 < i + j then (digit page i : Nat) else 0 : Nat)
def DigRel (w : World) (page : Nat) (s0 s4 : Value) (W : World) : Prop :=
 ∃ j p : Nat, j ≤ 4 ∧ p = page / 8 ^ j ∧ s4 = .int .i64 (3 - (j : Int)) ∧ s0 = .int .i64 p ∧ Hid (Row W (w.heap.size + 1) 4 (Qw page j) ∧ Row W w.heap.size 4 (fun _ => .int .i64 0) ∧ Below w.heap.size w W)
theorem U3 (page j : Nat) (hj : j < 4) (i : Nat) (hi : i < 4) : (if i = 3 - j then (.int .i64 (((page / 8 ^ j : Nat) : Int) % 8) : Value) else Qw page j i) = Qw page (j + 1) i := by
 unfold Qw
 by_cases e : i = 3 - j
 ·have h1 : 3 < i + (j + 1) := by omega
  simp only [if_pos e, if_pos h1]
  unfold digit
  rw [e, show 3 - (3 - j) = j by omega]
  rfl
 ·simp only [if_neg e]
  by_cases e2 : 3 < i + j
  ·have h1 : 3 < i + (j + 1) := by omega
   simp only [if_pos e2, if_pos h1]
  ·have h1 : ¬ 3 < i + (j + 1) := by omega
   simp only [if_neg e2, if_neg h1]
theorem jv (w : World) (pi : Int) (page : Nat) (ep : pi = page) (hp : page < 4096) :
  Calls Tryz.prog 94 #[.int .i64 pi] w fun e w' => e = .returned (digV page) ∧ Below w.heap.size w w' := by
 subst ep
 have i0 : (0 : Int) ≤ page := by omega
 go_enter Tryz.func94, Tryz.ntmps94
 go_wp2_with fail
 go_loopw [0, 4] (DigRel w page) (fun _ k _ => (intOf k + 1).toNat)
 case atStart =>
  refine ⟨0, page, by omega, by simp, rfl, rfl, ?_, ?_, ?_⟩
  ·have := Row.new (w.alloc (.cells #[.int .i64 0, .int .i64 0, .int .i64 0, .int .i64 0] 148)) 4 (Qw page 0) #[.int .i64 0, .int .i64 0, .int .i64 0, .int .i64 0] 148 rfl (fun i hi => by
    have : i = 0 ∨ i = 1 ∨ i = 2 ∨ i = 3 := by omega
    rcases this with rfl | rfl | rfl | rfl <;> rfl)
   rw [World.size_alloc] at this
   exact this
  ·exact (Row.new w 4 (fun _ => .int .i64 0) #[.int .i64 0, .int .i64 0, .int .i64 0, .int .i64 0] 148 rfl (fun i hi => by
    have : i = 0 ∨ i = 1 ∨ i = 2 ∨ i = 3 := by omega
    rcases this with rfl | rfl | rfl | rfl <;> rfl)).alloc _
  ·exact ((Below.refl _ _).alloc (Nat.le_refl _) _).alloc (by simp) _
 case round =>
  obtain ⟨j, p, hj, hpj, rfl, rfl, hH⟩ := hrel
  have hpp : p ≤ page := by rw [hpj]; exact Nat.div_le_self _ _
  have j1 : (0 : Int) ≤ p := by omega
  have j2 : (p : Int) < 4096 := by omega
  have HP := Lib.hid hpj
  clear hpj
  have hj' : j = 0 ∨ j = 1 ∨ j = 2 ∨ j = 3 ∨ j = 4 := by omega
  rcases hj' with rfl | rfl | rfl | rfl | rfl
  ·have hc := hH.out.1.cell (i := 3) (by omega)
   have hf := hH.out.1.frozen 3
   go_wp2_with fail
   go_roundw
   case rel => exact ⟨1, p / 8, by omega, by rw [HP.out, Nat.div_div_eq_div_mul], rfl, by go_num, (hH.out.1.set (i := 3) (by omega) _).congr (fun i hi => by rw [HP.out]; exact U3 page 0 (by omega) i hi), hH.out.2.1.other (by simp) _, hH.out.2.2.setCell (by simp) _⟩
   case measure => simp [intOf]
  ·have hc := hH.out.1.cell (i := 2) (by omega)
   have hf := hH.out.1.frozen 2
   go_wp2_with fail
   go_roundw
   case rel => exact ⟨2, p / 8, by omega, by rw [HP.out, Nat.div_div_eq_div_mul], rfl, by go_num, (hH.out.1.set (i := 2) (by omega) _).congr (fun i hi => by rw [HP.out]; exact U3 page 1 (by omega) i hi), hH.out.2.1.other (by simp) _, hH.out.2.2.setCell (by simp) _⟩
   case measure => simp [intOf]
  ·have hc := hH.out.1.cell (i := 1) (by omega)
   have hf := hH.out.1.frozen 1
   go_wp2_with fail
   go_roundw
   case rel => exact ⟨3, p / 8, by omega, by rw [HP.out, Nat.div_div_eq_div_mul], rfl, by go_num, (hH.out.1.set (i := 1) (by omega) _).congr (fun i hi => by rw [HP.out]; exact U3 page 2 (by omega) i hi), hH.out.2.1.other (by simp) _, hH.out.2.2.setCell (by simp) _⟩
   case measure => simp [intOf]
  ·have hc := hH.out.1.cell (i := 0) (by omega)
   have hf := hH.out.1.frozen 0
   go_wp2_with fail
   go_roundw
   case rel => exact ⟨4, p / 8, by omega, by rw [HP.out, Nat.div_div_eq_div_mul], rfl, by go_num, (hH.out.1.set (i := 0) (by omega) _).congr (fun i hi => by rw [HP.out]; exact U3 page 3 (by omega) i hi), hH.out.2.1.other (by simp) _, hH.out.2.2.setCell (by simp) _⟩
   case measure => simp [intOf]
  ·have c0 : wr.cell? ⟨w.heap.size + 1, 0, none⟩ = some (.int .i64 (digit page 0)) := hH.out.1.cell (i := 0) (by omega)
   have c1 : wr.cell? ⟨w.heap.size + 1, 1, none⟩ = some (.int .i64 (digit page 1)) := hH.out.1.cell (i := 1) (by omega)
   have c2 : wr.cell? ⟨w.heap.size + 1, 2, none⟩ = some (.int .i64 (digit page 2)) := hH.out.1.cell (i := 2) (by omega)
   have c3 : wr.cell? ⟨w.heap.size + 1, 3, none⟩ = some (.int .i64 (digit page 3)) := hH.out.1.cell (i := 3) (by omega)
   have d0 := hH.out.2.1.cell (i := 0) (by omega)
   have d1 := hH.out.2.1.cell (i := 1) (by omega)
   have d2 := hH.out.2.1.cell (i := 2) (by omega)
   have d3 := hH.out.2.1.cell (i := 3) (by omega)
   have f0 := hH.out.2.1.frozen 0
   have f1 := hH.out.2.1.frozen 1
   have f2 := hH.out.2.1.frozen 2
   have f3 := hH.out.2.1.frozen 3
   go_wp2_with fail
   have hB := hH.out.2.2
   clear hH HP
   exact bodyPost_ret (v := digV page) (by simp [results, Tryz.results94, go_sem, d0, d1, d2, d3, f0, f1, f2, f3, digV]) rfl ⟨rfl, (((hB.setCell (Nat.le_refl _) _).setCell (Nat.le_refl _) _).setCell (Nat.le_refl _) _).setCell (Nat.le_refl _) _⟩
theorem Yd.own {w : World} {O : Nat → Prop} {t rp pp : Nat} {T : Zn} (h : Yd w O t rp pp T) : ∃ a c, w.cell? ⟨t, 3, none⟩ = some (.slice a T.own.length c) := by
 obtain ⟨sv, _, h2, h3, _⟩ := h
 obtain ⟨a, c, rfl, _, _⟩ := SlAt.form h3
 exact ⟨a, c, h2.cell (by omega)⟩
theorem znn : (Tryz.prog.info? 91).map (·.size) = some 64 := by kernel_rfl
theorem zmn : #[Value.int .u8 0, Value.int .u8 0, Value.int .u8 0, Value.int .u8 0, Value.int .u8 0, Value.int .u8 0, Value.int .u8 0, Value.int .u8 0, Value.int .u8 0, Value.int .u8 0, Value.int .u8 0, Value.int .u8 0, Value.int .u8 0, Value.int .u8 0, Value.int .u8 0, Value.int .u8 0, Value.int .u8 0, Value.int .u8 0, Value.int .u8 0, Value.int .u8 0, Value.int .u8 0, Value.int .u8 0, Value.int .u8 0, Value.int .u8 0, Value.int .u8 0, Value.int .u8 0, Value.int .u8 0, Value.int .u8 0, Value.int .u8 0, Value.int .u8 0, Value.int .u8 0, Value.int .u8 0, Value.int .u8 0, Value.int .u8 0, Value.int .u8 0, Value.int .u8 0, Value.int .u8 0, Value.int .u8 0, Value.int .u8 0, Value.int .u8 0, Value.int .u8 0, Value.int .u8 0, Value.int .u8 0, Value.int .u8 0, Value.int .u8 0, Value.int .u8 0, Value.int .u8 0, Value.int .u8 0, Value.int .u8 0, Value.int .u8 0, Value.int .u8 0, Value.int .u8 0, Value.int .u8 0, Value.int .u8 0, Value.int .u8 0, Value.int .u8 0, Value.int .u8 0, Value.int .u8 0, Value.int .u8 0, Value.int .u8 0, Value.int .u8 0, Value.int .u8 0, Value.int .u8 0, Value.int .u8 0] = ((List.replicate 64 (0 : UInt8)).map bV).toArray := rfl
section
variable (w : World) (tag : Nat → Nat) (q : Rq) (x : RPT)
theorem zhg (h : y9 w tag q x) (pi : Int) (h0 : 0 ≤ pi) (h1 : pi < 4096) (hn : x.T.own ≠ []) :
  Calls Tryz.prog 91 #[.pointer (some ⟨q.t, 0, none⟩), .int .i64 pi] w fun e w' => e = .returned (.int .i64 0) ∧ w' = w := by
 obtain ⟨a, c, hc⟩ := h.tree.own
 have hl : 0 < x.T.own.length := List.length_pos_iff.2 hn
 generalize x.T.own.length = n at hc hl
 have i1 : ((n : Int) == 0) = false := beq_eq_false_iff_ne.2 (by omega)
 clear h hn
 go_enter Tryz.func91, Tryz.ntmps91
 go_wp2_with fail
 go_ret
 exact ⟨rfl, rfl⟩
theorem zfz (h : y9 w tag q x) (fi : Int) (f : Nat) (ef : fi = f) (hf : f < 1024) (hb : x.R.bad f = false) :
  Calls Tryz.prog 221 #[.pointer (some ⟨q.t, 0, none⟩), .int .i64 fi] w fun e w' => e = .returned (.bool (Y3 x.R f)) ∧ Below w.heap.size w w' := by
 subst ef
 have hp := h.ptr0
 have A := Lib.hid (Y9 w _ _ _ _ h.ram f 0 64 f 0 64 rfl rfl rfl hf (by omega) (by omega) hb)
 clear h
 go_enter Tryz.func221, Tryz.ntmps221
 go_wp2_with fail
 refine A.out.mono ?_
 rintro e w1 ⟨v, rfl, h1, h2, -⟩
 obtain ⟨a, c, b0, off, rfl, ha, hx⟩ := h1.reads
 have hl : (x.R.read f 0 64).length = 64 := by simp [RamS.read]
 have ha := ha (by omega)
 subst ha
 rw [hl]
 have hr : w1.rangeAt b0 off ((x.R.read f 0 64).map bV) := fun j v hv => hx j v hv
 have hI : (Tryz.prog.info? 91).map (·.size) = some ((x.R.read f 0 64).map bV).length := by rw [List.length_map, hl]; exact znn
 have harr : (Instr.arrayAt 91 (.slice (some ⟨b0, off, none⟩) 64 c)).run Tryz.prog w1 = .ok (.pointer (some ⟨b0, off, none⟩)) w1 := by
  simp [Instr.arrayAt, run_underlying Tryz.underlying91]
 have heq : (Op.equalIn 10000 91 (.agg ((x.R.read f 0 64).map bV).toArray) (.agg #[Value.int .u8 0, Value.int .u8 0, Value.int .u8 0, Value.int .u8 0, Value.int .u8 0, Value.int .u8 0, Value.int .u8 0, Value.int .u8 0, Value.int .u8 0, Value.int .u8 0, Value.int .u8 0, Value.int .u8 0, Value.int .u8 0, Value.int .u8 0, Value.int .u8 0, Value.int .u8 0, Value.int .u8 0, Value.int .u8 0, Value.int .u8 0, Value.int .u8 0, Value.int .u8 0, Value.int .u8 0, Value.int .u8 0, Value.int .u8 0, Value.int .u8 0, Value.int .u8 0, Value.int .u8 0, Value.int .u8 0, Value.int .u8 0, Value.int .u8 0, Value.int .u8 0, Value.int .u8 0, Value.int .u8 0, Value.int .u8 0, Value.int .u8 0, Value.int .u8 0, Value.int .u8 0, Value.int .u8 0, Value.int .u8 0, Value.int .u8 0, Value.int .u8 0, Value.int .u8 0, Value.int .u8 0, Value.int .u8 0, Value.int .u8 0, Value.int .u8 0, Value.int .u8 0, Value.int .u8 0, Value.int .u8 0, Value.int .u8 0, Value.int .u8 0, Value.int .u8 0, Value.int .u8 0, Value.int .u8 0, Value.int .u8 0, Value.int .u8 0, Value.int .u8 0, Value.int .u8 0, Value.int .u8 0, Value.int .u8 0, Value.int .u8 0, Value.int .u8 0, Value.int .u8 0, Value.int .u8 0])).run Tryz.prog w1 = .ok (Y3 x.R f) w1 := by
  have hm : Y3 x.R f = (x.R.read f 0 64 == List.replicate 64 (0 : UInt8)) := by
   have h0 : ramE 1024 x.R f 0 64 = 0 := V4 (n := 1024) (R := x.R) (f := f) (a := 0) (k := 64) hf (by omega) hb
   unfold Y3
   rw [h0]
   simp only [decide_true, Bool.true_and, Int.toNat_natCast]
   rw [Bool.eq_iff_iff, beq_iff_eq, List.all_eq_true]
   constructor
   ·intro hall
    refine List.eq_replicate_iff.2 ⟨hl, fun b hb => ?_⟩
    simpa using hall b hb
   ·intro e b hb
    rw [e] at hb
    simp [List.eq_of_mem_replicate hb]
  rw [zmn, hm]
  exact run_equalIn_bytes w1 9998 91 5 64 Tryz.underlying91 Tryz.underlying5 (fun w => by obtain ⟨i, hi, hs, _⟩ := zev; simp [sizeOf, typeInfo, hi, hs]) _ _ hl (by simp)
 have H2 := Lib.hid h2
 have HR := Lib.hid hr
 have HI := Lib.hid hI
 generalize (x.R.read f 0 64).map bV = L at *
 obtain ⟨r, hrr⟩ : ∃ r, Y3 x.R f = r := ⟨_, rfl⟩
 rw [hrr] at heq
 have HRR := Lib.hid hrr
 clear hrr
 clear hx hl hr h1 h2 ha hI
 go_wp2_with (refine BigFrame.wpList_want rfl (fun K hK => wp_load_mid 91 (.tmp 20) rfl b0 off rfl L _ HR.out Tryz.underlying91 rfl HI.out (hK _ _ ?_)))
 go_ret
 rw [HRR.out]
 exact ⟨rfl, H2.out⟩
end
theorem zdt : ∃ i, Tryz.prog.info? 3 = some i ∧ i.zero = some (.int .i64 0) ∧ i.size = 1 ∧ i.bytes = 8 := by
 have h : (Tryz.prog.info? 3).map (fun i => (i.size, i.bytes)) = some (1, 8) := by kernel_rfl
 have hz : (Tryz.prog.info? 3).bind (·.zero) = some (.int .i64 0) := by kernel_rfl
 obtain ⟨i, hi, hb⟩ := Option.map_eq_some_iff.1 h
 rw [hi] at hz
 simp at hb
 exact ⟨i, hi, hz, hb⟩
theorem Yd.zmf {w w1 : World} {O : Nat → Prop} {t rp pp : Nat} {T : Zn} {sv v' : Value} {l : List Nat} (h1 : O t) (h2 : Row w t 4 (zed rp pp T.root sv)) (hB : Turn (fun b => O b ∧ b ≠ t) w w1)
  (hs : SlAt w1 3 1 v' l.length (l.map nV)) (ho : ∀ b, v'.ownBlock = some b → (O b ∧ b ≠ t) ∨ w.heap.size ≤ b) :
  Yd ((w1.setCell ⟨t, 3, none⟩ v')) (grow O w) t rp pp ⟨T.root, l⟩ ∧ Turn O w (w1.setCell ⟨t, 3, none⟩ v') := by
 have ht := h2.lt
 have e : w1.heap[t]? = w.heap[t]? := hB.block t ht (fun e => e.2 rfl)
 have hne : ∀ b, v'.ownBlock = some b → b ≠ t := fun b hb => (ho b hb).elim (fun e => e.2) (fun e => by omega)
 refine ⟨⟨v', .inl h1, ?_, hs.keep fun b hb => Below.heap_setCell w1 ⟨t, 3, none⟩ v' b (hne b hb), fun b hb => ⟨(ho b hb).elim (fun e => .inl e.1) .inr, hne b hb⟩⟩, ?_⟩
 ·refine ((h2.keep e).set (i := 3) (by omega) v').congr fun i hi => ?_
  have : i = 0 ∨ i = 1 ∨ i = 2 ∨ i = 3 := by omega
  rcases this with rfl | rfl | rfl | rfl <;> rfl
 ·exact (hB.mono fun k _ hk => hk.1).set (.inl h1) _
section
variable (w : World) (tag : Nat → Nat) (q : Rq) (x : RPT)
theorem y9.zk9 {w w' : World} {tag : Nat → Nat} {q : Rq} {x : RPT} (h : y9 w tag q x) {T' : Zn} (ht : Yd w' (grow (fun b => tag b = q.ct) w) q.t q.rp q.pp T') (t : Turn (fun b => tag b = q.ct) w w') :
  ∃ tag', y9 w' tag' q ⟨x.R, x.P, T'⟩ ∧ Step (fun c => c = q.ct) tag w tag' w' := by
 have s : Step (fun c => c = q.ct) tag w (retag tag w q.ct) w' := Step.retag t rfl
 refine ⟨retag tag w q.ct, ⟨h.ram.loc (s.keeps (by have := h.ct; omega)), h.pool.loc (s.keeps (by have := h.ct; omega)), ht.loc fun k _ ho => ⟨Jy ho, rfl⟩, h.ct⟩, s⟩
theorem zfd (h : y9 w tag q x) (hn : x.P.next false = none) :
  Calls Tryz.prog 118 #[.pointer (some ⟨q.t, 0, none⟩)] w fun e w' => e = .returned (.tuple #[.int .i64 0, .int .i64 4]) ∧ Below w.heap.size w w' := by
 have hp := h.ptr1
 have A := Lib.hid (zc2 w _ _ _ _ _ h.pool 2 2 rfl (by omega) (by omega))
 rw [hn] at A
 clear h hn
 go_enter Tryz.func118, Tryz.ntmps118
 go_wp2_with fail
 refine A.out.mono ?_
 rintro e w1 ⟨rfl, h1, h2, h3⟩
 have K : Hid (Below w.heap.size w w1) := by first | exact h3 | exact h3 rfl | exact h3 trivial
 clear h1 h2 h3
 unfold Z4
 go_wp2_with fail
 exact bodyPost_ret (v := .tuple #[.int .i64 0, .int .i64 4]) (by simp [results, Tryz.results118, go_sem]) rfl ⟨rfl, K.out⟩
theorem Js (h : y9 w tag q x) (g : Nat) (hn : x.P.next false = some g) (hg : g < 1024) (hb : x.R.bad g = false) (hlen : x.T.own.length ≤ 2000) :
  Calls Tryz.prog 118 #[.pointer (some ⟨q.t, 0, none⟩)] w fun e w' => e = .returned (.tuple #[.int .i64 g, .int .i64 0]) ∧
   ∃ tag', y9 w' tag' q ⟨x.R.write g 0 (List.replicate 64 0), x.P.set g 2, ⟨x.T.root, x.T.own ++ [g]⟩⟩ ∧ Step (fun c => c = 1 ∨ c = 2 ∨ c = q.ct) tag w tag' w' := by
 have hp := h.ptr1
 have A := Lib.hid (zc2 w _ _ _ _ _ h.pool 2 2 rfl (by omega) (by omega))
 rw [hn] at A
 have H := Lib.hid h
 have HI := Lib.hid zdt
 clear h hn
 go_enter Tryz.func118, Tryz.ntmps118
 go_wp2_with fail
 refine A.out.mono ?_
 rintro e w1 ⟨rfl, h1, h2, -⟩
 have K := H.out.zme h1 h2
 have hp0 := K.1.ptr0
 have Z := Lib.hid (zcr w1 _ _ _ _ K.1.ram g g rfl hg hb)
 have KK := Lib.hid K
 clear h1 h2 K
 unfold Z4
 go_wp2_with fail
 refine Z.out.mono ?_
 rintro e w2 ⟨rfl, h1, h2, -⟩
 have K2 := KK.out.1.ramTo h1 h2
 have S2 := Lib.hid ((KK.out.2.mono (C' := fun c => c = 1 ∨ c = 2 ∨ c = q.ct) (fun c e => .inr (.inl e))).trans (K2.2.mono (fun c e => .inl e)))
 obtain ⟨sv, o1, o2, o3, o4⟩ := K2.1.tree
 have c3 : w2.cell? ⟨q.t, 3, none⟩ = some sv := o2.cell (i := 3) (by omega)
 have f3 := o2.frozen 3
 have htl := o2.lt
 obtain ⟨a, c, rfl, _, _⟩ := SlAt.form o3
 have O := Lib.hid (And.intro o1 (And.intro o2 (And.intro o3 o4)))
 have HK2 := Lib.hid K2.1
 clear h1 h2 K2 o1 o2 o3 o4
 obtain ⟨inf, hI⟩ := HI.out
 have HI2 := Lib.hid hI
 clear hI
 have hs0 : Hid (SlAt (w2.alloc (.cells #[.int .i64 g] 3)) 3 1 (.slice a x.T.own.length c) x.T.own.length (x.T.own.map nV)) := SlAt.below O.out.2.2.1 ((Below.refl _ _).alloc (Nat.le_refl _) _)
 have C2 : Hid (∀ j u, [nV g][j]? = some u → (w2.alloc (.cells #[.int .i64 g] 3)).cell? ((⟨w2.heap.size, 0, none⟩ : Addr).add j) = some u) := fun j u hu => by
  have : j = 0 := by have := (List.getElem?_eq_some_iff.1 hu).1; simp at this; omega
  subst this
  simp at hu
  subst hu
  rw [add_plain, cell_of_row _ _ _ _ _ _ (heap_alloc_new w2 (.cells #[.int .i64 g] 3))]
  rfl
 generalize hnl : x.T.own.length = n at *
 have HNL := Lib.hid hnl
 clear hnl
 go_wp2_with (at_builtin; refine vg _ rfl _ _ 79 rfl 3 inf _ 1 8 Tryz.underlying79 HI2.out.1 HI2.out.2.1 HI2.out.2.2.1 HI2.out.2.2.2 rfl _ _ _ rfl hs0.out ⟨w2.heap.size, 0, none⟩ 1 1 [nV g] rfl rfl C2.out ?c3 ?c4 ?c5 ?c6)
 case c3 => intro u hu; simp at hu; subst hu; rfl
 case c4 => unfold maxLen; omega
 case c5 => omega
 intro v' w4 hs hgr ho
 have hT : Turn (fun b => tag b = q.ct ∧ b ≠ q.t) w2 w4 := ((Turn.refl _ w2).alloc _).trans (Turn.uw hgr (fun m hm => .inl (O.out.2.2.2 m hm)))
 have c3' := hT.cell c3 (fun e => e.2 rfl)
 have f3' : w4.frozen? ⟨q.t, 3, none⟩ = false := (O.out.2.1.keep (hT.block q.t htl (fun e => e.2 rfl))).frozen 3
 have hs' : SlAt w4 3 1 v' (x.T.own ++ [g]).length ((x.T.own ++ [g]).map nV) := by
  rw [List.length_append, HNL.out, List.map_append]; exact hs
 obtain ⟨a', c', rfl, _, _⟩ := SlAt.form hs
 have fin := Yd.zmf (O := fun b => tag b = q.ct) (t := q.t) (w := w2) O.out.1 O.out.2.1 hT hs' (fun b hb => by
  rcases ho with e | e
  ·rw [e] at hb; exact .inl (O.out.2.2.2 b hb)
  ·rw [e] at hb; cases hb; right; omega)
 obtain ⟨tag', k1, k2⟩ := y9.zk9 HK2.out fin.1 fin.2
 have FIN : Hid (y9 (w4.setCell ⟨q.t, 3, none⟩ (.slice a' (n + 1) c')) tag' q ⟨x.R.write g 0 (List.replicate 64 0), x.P.set g 2, ⟨x.T.root, x.T.own ++ [g]⟩⟩ ∧ Step (fun c => c = 1 ∨ c = 2 ∨ c = q.ct) tag w tag' (w4.setCell ⟨q.t, 3, none⟩ (.slice a' (n + 1) c'))) := ⟨k1, S2.out.trans (k2.mono (fun c e => .inr (.inr e)))⟩
 clear hT hs hs' hgr ho fin k1 k2 c3
 go_wp2_with fail
 exact bodyPost_ret (v := .tuple #[.int .i64 g, .int .i64 0]) (by simp [results, Tryz.results118, go_sem]) rfl ⟨rfl, tag', FIN.out⟩
end
theorem y9.fresh {w : World} {tag : Nat → Nat} {rp rb pp fs fb ct : Nat} {R : RamS} {P : zm} (hr : uq w (fun b => tag b = 1) rp rb R) (hp : yf w (fun b => tag b = 2) pp fs fb P) (hc : 10 ≤ ct) (T : TypeId) :
  y9 (w.alloc (.cells #[.pointer (some ⟨rp, 0, none⟩), .pointer (some ⟨pp, 0, none⟩), .int .i64 0, .slice none 0 0] T (0, 0))) (retag tag w ct) ⟨rp, rb, pp, fs, fb, w.heap.size, ct⟩ ⟨R, P, ⟨0, []⟩⟩ ∧
   Step (fun c => c = ct) tag w (retag tag w ct) (w.alloc (.cells #[.pointer (some ⟨rp, 0, none⟩), .pointer (some ⟨pp, 0, none⟩), .int .i64 0, .slice none 0 0] T (0, 0))) := by
 have s : Step (fun c => c = ct) tag w (retag tag w ct) (w.alloc (.cells #[.pointer (some ⟨rp, 0, none⟩), .pointer (some ⟨pp, 0, none⟩), .int .i64 0, .slice none 0 0] T (0, 0))) := Step.retag ((Turn.refl _ w).alloc _) rfl
 refine ⟨⟨hr.loc (s.keeps (by omega)), hp.loc (s.keeps (by omega)), ⟨.slice none 0 0, ?_, ?_, SlAt.nil _ _ _, fun b hb => by simp [Value.ownBlock] at hb⟩, hc⟩, s⟩
 ·show retag tag w ct w.heap.size = ct
  unfold retag
  rw [if_neg (by omega)]
 ·exact Row.new w 4 _ _ T rfl fun i hi => by
   have : i = 0 ∨ i = 1 ∨ i = 2 ∨ i = 3 := by omega
   rcases this with rfl | rfl | rfl | rfl <;> rfl
section
variable (w : World) (tag : Nat → Nat) (rp rb pp fs fb ct : Nat) (R : RamS) (P : zm)
theorem zgs (hr : uq w (fun b => tag b = 1) rp rb R) (hp : yf w (fun b => tag b = 2) pp fs fb P) (hc : 10 ≤ ct) (g : Nat) (hn : P.next false = some g) (hg : g < 1024) (hb : R.bad g = false) :
  Calls Tryz.prog 60 #[.pointer (some ⟨rp, 0, none⟩), .pointer (some ⟨pp, 0, none⟩)] w fun e w' => ∃ t tag', e = .returned (.tuple #[.pointer (some ⟨t, 0, none⟩), .int .i64 0]) ∧
   y9 w' tag' ⟨rp, rb, pp, fs, fb, t, ct⟩ ⟨R.write g 0 (List.replicate 64 0), P.set g 2, ⟨g, [g]⟩⟩ ∧ Step (fun c => c = 1 ∨ c = 2 ∨ c = ct) tag w tag' w' := by
 have H1 := Lib.hid (fun T => y9.fresh hr hp hc T)
 clear hp hr
 go_enter Tryz.func60, Tryz.ntmps60
 go_wp2_with fail
 refine (Js _ _ _ _ (H1.out 183).1 g hn hg hb (by simp)).mono ?_
 rintro e w2 ⟨rfl, tag', h3, h4⟩
 have f2 : w2.frozen? ⟨w.heap.size, 2, none⟩ = false := by obtain ⟨sv, _, r, _⟩ := h3.tree; exact r.frozen 2
 have c2 : w2.cell? ⟨w.heap.size, 2, none⟩ = some (.int .i64 (0 : Nat)) := h3.ptr2
 have S := Lib.hid (((H1.out 183).2.mono (C' := fun c => c = 1 ∨ c = 2 ∨ c = ct) (fun c e => .inr (.inr e))).trans h4)
 have K : Hid (y9 (w2.setCell ⟨w.heap.size, 2, none⟩ (.int .i64 g)) tag' ⟨rp, rb, pp, fs, fb, w.heap.size, ct⟩ ⟨R.write g 0 (List.replicate 64 0), P.set g 2, ⟨g, [g]⟩⟩ ∧ Step (fun c => c = 1 ∨ c = 2 ∨ c = ct) tag w tag' (w2.setCell ⟨w.heap.size, 2, none⟩ (.int .i64 g))) := by
  obtain ⟨sv, o1, o2, o3, o4⟩ := h3.tree
  have s : Step (fun c => c = ct) tag' w2 tag' (w2.setCell ⟨w.heap.size, 2, none⟩ (.int .i64 g)) := Step.Yi ((Turn.refl _ w2).set (.inl o1) _) rfl
  refine ⟨⟨h3.ram.loc (s.keeps (by omega)), h3.pool.loc (s.keeps (by omega)), ⟨sv, o1, ?_, o3.keep fun b hb => Below.heap_setCell _ _ _ _ (o4 b hb).2, o4⟩, hc⟩, S.out.trans (s.mono fun c e => .inr (.inr e))⟩
  refine (o2.set (i := 2) (by omega) _).congr fun i hi => ?_
  have : i = 0 ∨ i = 1 ∨ i = 2 ∨ i = 3 := by omega
  rcases this with rfl | rfl | rfl | rfl <;> rfl
 clear h3 h4
 go_wp2_with fail
 exact bodyPost_ret (v := .tuple #[.pointer (some ⟨w.heap.size, 0, none⟩), .int .i64 0]) (by simp [results, Tryz.results60, go_sem]) rfl ⟨_, tag', rfl, K.out⟩
end
end Go.Proofs.YtnhdmnijiphjjaaGreat
namespace Go.Proofs
open Go.Shelf
def YtnhdmnijiphjjaaGreat.Qq : Go.Shelf.Ren := ⟨fun | 10 => 238 | 6 => 253 | n => n, fun | 22 => 79 | 23 => 3 | 25 => 65 | 3 => 3 | 4 => 4 | 0 => 0 | n => n, fun | n => n⟩
theorem YtnhdmnijiphjjaaGreat.zds : Go.Proofs.SlLaysH.n10 Tryz.prog YtnhdmnijiphjjaaGreat.Qq := {
 mixed := by kernel_rfl
 f6 := ⟨Tryz.f253.name, by decide, Tryz.func253.trans (congrArg some (by kernel_rfl))⟩
 f10 := ⟨Tryz.f238.name, by decide, Tryz.func238.trans (congrArg some (by kernel_rfl))⟩
 t0 := Tryz.underlying0
 a0 := Tryz.isAgg0
 z0 := Tryz.sizeOf0
 v0 := Tryz.zeroValue0
 t3 := Tryz.underlying3
 a3 := Tryz.isAgg3
 z3 := Tryz.sizeOf3
 v3 := Tryz.zeroValue3
 t4 := Tryz.underlying4
 a4 := Tryz.isAgg4
 z4 := Tryz.sizeOf4
 v4 := Tryz.zeroValue4
 t22 := Tryz.underlying79
 a22 := Tryz.isAgg79
 z22 := Tryz.sizeOf79
 v22 := Tryz.zeroValue79
 a23 := Tryz.isAgg3
 z23 := Tryz.sizeOf3
 t25 := Tryz.underlying65
 a25 := Tryz.isAgg65
 z25 := Tryz.sizeOf65
 v25 := Tryz.zeroValue65 }
end Go.Proofs
namespace Go.Proofs.YtnhdmnijiphjjaaGreat
open Go Go.RowKit Go.Sort
theorem SlAt.putRow {w : World} {b off c n : Nat} {xs : List Value} (h : SlAt w 3 1 (.slice (some ⟨b, off, none⟩) n c) n xs) (q : Nat) (d : Array Int) (hd : d.size = n) (m : Nat) (hm : m ≤ n) (ys : List Value) (hy : ys.length = m)
  (he : ∀ (j : Nat) (u : Value), ys[j]? = some u → u = Value.int .i64 d[j]!) :
  SlAt (Sort.putRow (Value.int .i64) (Sort.ahead w q) b off d) 3 1 (.slice (some ⟨b, off, none⟩) m c) m ys ∧ w.grownBy (Sort.putRow (Value.int .i64) (Sort.ahead w q) b off d) (some b) := by
 rcases h.2 with ⟨e, _⟩ | ⟨b', off', c', arr, e, hg, hnc, hcm, hsz, hx⟩
 ·cases e
 ·cases e
  refine ⟨⟨by omega, .inr ⟨b, off, c, putCells (Value.int .i64) off d arr, rfl, ?_, by omega, hcm, by simp [putCells]; omega, fun j u hu => ?_⟩⟩, ⟨rfl, rfl, rfl, by simp [Sort.putRow, mapBlock, Sort.ahead], fun k hk hne => ?_⟩⟩
  ·unfold Sort.putRow mapBlock
   simp only [Array.getElem?_modify, if_true]
   show (w.heap[b]?).map _ = _
   rw [hg]
   rfl
  ·have hj := (List.getElem?_eq_some_iff.1 hu).1
   have := hnc
   unfold putCells
   rw [Array.getElem?_mapIdx, Array.getElem?_eq_getElem (by omega), Option.map_some, if_pos ⟨by omega, by omega⟩, he j u hu, Nat.add_sub_cancel_left]
  ·unfold Sort.putRow mapBlock
   simp only [Array.getElem?_modify]
   rw [if_neg (fun e => hne (by rw [e]))]
   rfl
theorem zac (f x : Int) (B : Nat) (W : World) (hc : W.cell? ⟨B, 0, none⟩ = some (.int .i64 f)) :
  FnGives Tryz.prog 239 #[.pointer (some ⟨B, 0, none⟩)] #[.int .i64 x] (.bool (decide (x = f))) W := by
 show Calls Tryz.prog 239 #[.int .i64 x, .pointer (some ⟨B, 0, none⟩)] W _
 have e : (x == f) = decide (x = f) := by rw [Bool.eq_iff_iff]; simp
 rw [← e]
 go_enter Tryz.func239, Tryz.ntmps239
 go_wp2
 go_ret
 exact ⟨rfl, 0, rfl⟩
theorem zcy (w : World) (sv : Value) (l : List Nat) (h : SlAt w 3 1 sv l.length (l.map nV)) (h0 : l ≠ []) (hlen : l.length ≤ 100000) (B : Nat) (f : Int) (hB : B < w.heap.size) (hne : sv.ownBlock ≠ some B) (hc : w.cell? ⟨B, 0, none⟩ = some (.int .i64 f)) :
  Calls Tryz.prog 238 #[sv, .func (.func 239) #[] #[.pointer (some ⟨B, 0, none⟩)]] w fun e w' =>
   ∃ v', e = .returned v' ∧ SlAt w' 3 1 v' (l.filter fun (g : Nat) => decide ((g : Int) ≠ f)).length ((l.filter fun (g : Nat) => decide ((g : Int) ≠ f)).map nV) ∧ v'.ownBlock = sv.ownBlock ∧ w.grownBy w' sv.ownBlock := by
 have hp : 0 < (l.map nV).length := by simp; exact List.length_pos_iff.2 h0
 obtain ⟨b, off, c, rfl, hnc, hb, hx⟩ := SlAt.cells h hp
 have eg : ∀ args w, (callFunc 239 args).run Tryz.prog w = .ok (.enter 239 args) w := enters_of Tryz.func239 (by kernel_rfl) rfl
 obtain ⟨d, hd⟩ : ∃ d : Array Int, d = (l.map fun (n : Nat) => (n : Int)).toArray := ⟨_, rfl⟩
 have hds : d.size = l.length := by rw [hd]; simp
 have hH : Holds (Value.int .i64) w b off d := fun j hj => by
  have hj' : j < l.length := by omega
  obtain ⟨h1, h2⟩ := hx j (nV l[j]) (by simp [hj'])
  refine ⟨?_, h2⟩
  rw [h1, getElem!_pos d j hj]
  subst hd
  simp [nV]
 have hcon := AnyE.slices_DeleteFunc zds (Value.int .i64) (fun _ => rfl) (fun x => decide (x = f)) 239 #[.pointer (some ⟨B, 0, none⟩)] eg 0 Tryz.zeroValue3 b off c d w
  (fun W x hb' => zac f x B W ((hb'.cell (p := ⟨B, 0, none⟩) hB).trans hc))
  (fun n os dk x _ => zac f x B _ (by
   have hBb : B ≠ b := fun e => hne (by rw [e]; rfl)
   unfold sortWorld
   rw [Sort.cell?_grow _ _ _ (by show B < (Sort.putRow _ _ _ _ _).heap.size; rw [Sort.size_putRow]; exact hB), Sort.cell?_putRow_other _ _ b off _ _ (Or.inl hBb)]
   exact hc)) hH (by omega) (by omega)
 change Calls Tryz.prog 238 _ _ _ at hcon
 rw [hds] at hcon
 refine hcon.mono ?_
 rintro e w' ⟨rfl, q, rfl⟩
 have hfil : d.toList.filter (fun x => !decide (x = f)) = (l.filter fun (g : Nat) => decide ((g : Int) ≠ f)).map fun (n : Nat) => (n : Int) := by
  rw [hd, List.toList_toArray, List.filter_map]
  congr 1
  refine List.filter_congr fun g _ => ?_
  simp
 have hle : (l.filter fun (g : Nat) => decide ((g : Int) ≠ f)).length ≤ l.length := List.length_filter_le _ _
 rw [hfil, List.length_map]
 generalize l.filter (fun (g : Nat) => decide ((g : Int) ≠ f)) = m at hle ⊢
 have fin := SlAt.putRow h q ((m.map fun (n : Nat) => (n : Int)) ++ List.replicate (l.length - m.length) 0).toArray (by simp; omega) m.length hle (m.map nV) (by simp) (fun j u hu => by
  have hj : j < m.length := by have := (List.getElem?_eq_some_iff.1 hu).1; simpa using this
  rw [List.getElem?_map, List.getElem?_eq_getElem hj] at hu
  simp at hu
  rw [← hu, getElem!_pos _ j (by simp; omega)]
  simp [nV, hj])
 exact ⟨_, rfl, fin.1, rfl, fin.2⟩
end Go.Proofs.YtnhdmnijiphjjaaGreat
namespace Go.Proofs.YtnhdmnijiphjjaaGreat
open Go Go.RowKit
theorem X8 (C : Nat → Prop) (tag : Nat → Nat) (w : World) : Step C tag w (retag tag w 0) w := ⟨fun _ hb => if_pos hb, Turn.refl _ _⟩
theorem Yw {tag : Nat → Nat} {w : World} {c b : Nat} (h : w.heap.size ≤ b) : retag tag w c b = c := if_neg (by omega)
theorem y9.norm {w : World} {tag : Nat → Nat} {q : Rq} {x : RPT} (h : y9 w tag q x) : y9 w (retag tag w 0) q x :=
 h.step (C := fun _ => False) (X8 _ tag w) (fun h => h) (fun h => h) (fun h => h)
section
variable (w : World) (tag : Nat → Nat) (q : Rq) (x : RPT)
theorem zib (h : y9 w tag q x) (fi : Int) (g : Nat) (ef : fi = g) (hg : g < 1024) (hu : x.P.use g = 2) (hne : x.T.own ≠ []) (hlen : x.T.own.length ≤ 2000) :
  Calls Tryz.prog 222 #[.pointer (some ⟨q.t, 0, none⟩), .int .i64 fi] w fun e w' => e = .returned (.tuple #[]) ∧
   ∃ tag', y9 w' tag' q ⟨x.R, x.P.set g 1, ⟨x.T.root, x.T.own.filter fun (a : Nat) => decide ((a : Int) ≠ (g : Int))⟩⟩ ∧ Step (fun c => c = 2 ∨ c = q.ct) tag w tag' w' := by
 subst ef
 have hp := h.ptr1
 have hpl := World.block_lt_of_cell? _ _ hp
 have hB0 : Below w.heap.size w (w.alloc (.cells #[.int .i64 g] 3 (0, 0))) := (Below.refl _ _).alloc (Nat.le_refl _) _
 obtain ⟨tag0, ht0⟩ : ∃ tag0, retag tag w 0 = tag0 := ⟨_, rfl⟩
 have h := h.norm
 have s0 : Step (fun c => c = 2 ∨ c = q.ct) tag w tag0 w := by rw [← ht0]; exact X8 _ tag w
 have hnew : tag0 w.heap.size = 0 := by rw [← ht0]; exact Yw (Nat.le_refl _)
 rw [ht0] at h
 have H := Lib.hid h
 have S0 := Lib.hid s0
 have HN := Lib.hid hnew
 have HB0 := Lib.hid hB0
 clear h hB0 s0 hnew ht0
 go_enter Tryz.func222, Tryz.ntmps222
 go_wp2_with fail
 obtain ⟨W, hW⟩ : ∃ W, W = (w.alloc (.cells #[.int .i64 g] 3)).drew := ⟨_, rfl⟩
 have q0 : W.cell? ⟨q.t, 1, none⟩ = some (.pointer (some ⟨q.pp, 0, none⟩)) := by rw [hW]; go_simp
 have q1 : W.cell? ⟨w.heap.size, 0, none⟩ = some (.int .i64 g) := by rw [hW]; go_simp
 have HBW : Hid (Below w.heap.size w W ∧ W.heap.size = w.heap.size + 1) := by
  rw [hW]
  exact ⟨HB0.out.drew, by show (w.alloc _).heap.size = _; simp⟩
 have hd : (w.alloc (.cells #[.int .i64 g] 3)).drew = W := hW.symm
 clear hW
 have HW := Lib.hid (H.out.below HBW.out.1)
 have F := Lib.hid (fun W' (hb : Below W.heap.size W W') => Vx W' _ _ _ _ _ (HW.out.below hb).pool g g rfl hg (by rw [hu]; omega) (by rw [hu]; omega))
 go_region_held (fun W' => W'.cell? ⟨q.t, 1, none⟩ = some (.pointer (some ⟨q.pp, 0, none⟩)) ∧ W'.cell? ⟨w.heap.size, 0, none⟩ = some (.int .i64 g)) (go_keep)
  ((go_at_call 44; refine (F.out _ (Below.refl _ _)).mono ?_; rintro e w2 ⟨rfl, h3, h4⟩; have K := Lib.hid (HW.out.zme h3 h4); have q0' := K.out.1.ptr1; have q1' := h4.cell q1 (by show ¬ tag0 w.heap.size = 2; rw [HN.out]; decide); clear h3 h4))
 obtain ⟨sv, o1, o2, o3, o4⟩ := K.out.1.tree
 have c3 : w2.cell? ⟨q.t, 3, none⟩ = some sv := o2.cell (i := 3) (by omega)
 have htl := o2.lt
 obtain ⟨a, c, rfl, _, _⟩ := SlAt.form o3
 have hb2 : w.heap.size < w2.heap.size := World.block_lt_of_cell? _ _ q1'
 have DD := Lib.hid (zcy w2 _ _ o3 hne (by simp only at hlen ⊢; omega) w.heap.size g hb2 (fun e => by have h5 : tag0 w.heap.size = q.ct := (o4 _ e).1; rw [HN.out] at h5; have := H.out.ct; omega) q1')
 have O := Lib.hid (And.intro o1 (And.intro o2 (And.intro o3 o4)))
 clear o1 o2 o3 o4
 go_wp2_with fail
 refine DD.out.mono ?_
 rintro e w4 ⟨v', rfl, hs, ho, hgr⟩
 obtain ⟨m, hm⟩ : ∃ m, x.T.own.filter (fun (a : Nat) => decide ((a : Int) ≠ (g : Int))) = m := ⟨_, rfl⟩
 change SlAt w4 3 1 v' (x.T.own.filter (fun (a : Nat) => decide ((a : Int) ≠ (g : Int)))).length ((x.T.own.filter (fun (a : Nat) => decide ((a : Int) ≠ (g : Int)))).map nV) at hs
 rw [hm] at hs
 have HM := Lib.hid hm
 clear hm
 have hT : Turn (fun b => tag0 b = q.ct ∧ b ≠ q.t) w2 w4 := Turn.uw hgr (fun m hm => .inl (O.out.2.2.2 m hm))
 have c3' := hT.cell c3 (fun e => e.2 rfl)
 have f3' : w4.frozen? ⟨q.t, 3, none⟩ = false := (O.out.2.1.keep (hT.block q.t htl (fun e => e.2 rfl))).frozen 3
 obtain ⟨a', c', rfl, _, _⟩ := SlAt.form hs
 have fin := Yd.zmf (O := fun b => tag0 b = q.ct) (t := q.t) (w := w2) O.out.1 O.out.2.1 hT hs (fun b hb => .inl (O.out.2.2.2 b (ho ▸ hb)))
 obtain ⟨tag', k1, k2⟩ := y9.zk9 K.out.1 fin.1 fin.2
 have S : Hid (Step (fun c => c = 2 ∨ c = q.ct) tag w tag0 w2) := (S0.out.trans (Step.of_below HBW.out.1)).trans (K.out.2.mono fun c e => .inl e)
 have FIN := Lib.hid (And.intro k1 (S.out.trans (k2.mono fun c e => .inr e)))
 clear hT hs ho hgr fin k1 k2 c3
 go_wp2_with fail
 exact bodyPost_end (v := .tuple #[]) (by simp [results, Tryz.results222, go_sem]) rfl ⟨rfl, tag', by rw [HM.out]; exact FIN.out⟩
end
end Go.Proofs.YtnhdmnijiphjjaaGreat
