/- The cache's keys: slices.DeleteFunc by the closure of Keys, slices.Clip; Keys. -/
import Derived.Test.YtnhdmnijiphjjaaGreatJEc25
import Derived.Shelf.SlicesQ.IndexFunc
import Derived.Test.YtnhdmnijiphjjaaGreatJEc18
import Derived.Test.YtnhdmnijiphjjaaGreatJEc19
import Derived.Test.YtnhdmnijiphjjaaGreatJEc23
import Derived.Test.YtnhdmnijiphjjaaGreatJEc13
import Derived.Test.YtnhdmnijiphjjaaGreatJEc24
import Derived.Lib.SlBytesConst
set_option linter.unusedVariables false
set_option linter.unusedSimpArgs false
set_option maxRecDepth 100000
set_option maxHeartbeats 2000000
namespace Go.Proofs.YtnhdmnijiphjjaaGreat
open Go Go.RowKit
def jb (file : Int) (x : Int × Int) : Bool := decide (0 ≤ file) && decide (x.1 ≠ file)
theorem J4 (w : World) (B : Nat) (file : Int) (hB : B < w.heap.size) (hc : w.cell? ⟨B, 0, none⟩ = some (.int .i64 file)) :
  PredBelow Tryz.prog 153 #[.pointer (some ⟨B, 0, none⟩)] (fun x : Int × Int => .agg (encP x).toArray) (jb file) w := by
 intro W x hb
 have hc' := (hb.cell (p := ⟨B, 0, none⟩) hB).trans hc
 have hBW : B < W.heap.size := Nat.lt_of_lt_of_le hB hb.size
 have HB := Lib.hid hb
 clear hb hc
 simp only [encP]
 obtain ⟨x1, x2⟩ := x
 unfold jb
 simp only
 by_cases h0 : 0 ≤ file
 ·rw [decide_eq_true h0, Bool.true_and]
  by_cases h1 : x1 = file
  ·have h1' : (x1 == file) = true := by simpa using h1
   go_enter Tryz.func153, Tryz.ntmps153
   go_wp2_with fail
   go_ret
   exact ⟨by simp [h1], HB.out.alloc HB.out.size _⟩
  ·have h1' : (x1 == file) = false := by simpa using h1
   go_enter Tryz.func153, Tryz.ntmps153
   go_wp2_with fail
   go_ret
   exact ⟨by simp [h1], HB.out.alloc HB.out.size _⟩
 ·rw [decide_eq_false h0, Bool.false_and]
  go_enter Tryz.func153, Tryz.ntmps153
  go_wp2_with fail
  go_ret
  exact ⟨rfl, HB.out.alloc HB.out.size _⟩
theorem zd5 (w : World) (v : Value) (l : List (Int × Int)) (h : KeAt w v l) (B : Nat) (file : Int) (hB : B < w.heap.size) (hc : w.cell? ⟨B, 0, none⟩ = some (.int .i64 file)) :
  Calls Tryz.prog 194 #[v, .func (.func 153) #[] #[.pointer (some ⟨B, 0, none⟩)]] w fun e w' => e = .returned (.int .i64 (Lib.idxBy (fun _ y => jb file y) l default)) ∧ Below w.heap.size w w' := by
 rcases h.form with ⟨rfl, rfl⟩ | ⟨b, off, c, rfl, hcc, hm, hb⟩
 ·go_enter Tryz.func194, Tryz.ntmps194
  go_wp2
  refine wp_loop_rounds 1 ?_
  rw [rounds_succ]
  go_wp2
  go_ret
  exact ⟨rfl, Below.refl _ _⟩
 ·have eg : ∀ args w, (callFunc 153 args).run Tryz.prog w = .ok (.enter 153 args) w := enters_of Tryz.func153 (by kernel_rfl) rfl
  have := AnyQ.slices_IndexFunc zb6 2 (fun w => by kernel_rfl) (fun w => by kernel_rfl) encP Vp (jb file) 153 #[.pointer (some ⟨B, 0, none⟩)] eg b off l.length c l w (J4 w B file hB hc) (Nat.le_refl _) (by unfold maxLen at hm; omega) hb (fun j hj i v hv => by
   rw [getElem!_pos l j hj] at hv
   obtain ⟨h1, h2⟩ := h.cell (List.getElem?_eq_getElem hj)
   match i with
   | 0 => cases hv; exact h1
   | 1 => cases hv; exact h2
   | i + 2 => simp [encP] at hv)
  rw [List.take_length] at this
  exact this
theorem zgj (w : World) (v : Value) (l : List (Int × Int)) (h : KeAt w v l) :
  Calls Tryz.prog 154 #[v] w fun e w' => ∃ v', e = .returned v' ∧ KeAt w' v' l ∧ w' = w ∧ v'.ownBlock = v.ownBlock := by
 rcases h.form with ⟨rfl, rfl⟩ | ⟨b, off, c, rfl, hc, hm, hb⟩
 ·go_enter Tryz.func154, Tryz.ntmps154
  go_wp2_with fail
  go_ret
  exact ⟨_, rfl, KeAt.nil w, rfl, rfl⟩
 ·go_enter Tryz.func154, Tryz.ntmps154
  go_wp2_with fail
  go_ret
  refine ⟨_, rfl, ?_, rfl, rfl⟩
  rcases h.2 with ⟨e, _⟩ | ⟨b', off', c', arr, e, hg, hnc, hcm, hsz, hx⟩
  ·cases e
  ·cases e
   exact ⟨h.1, .inr ⟨b, off, l.length, arr, rfl, hg, Nat.le_refl _, by omega, by omega, hx⟩⟩
theorem zdu (q : Int × Int → Bool) (l : List (Int × Int)) : (Lib.idxBy (fun _ y => q y) l default = -1 ∧ ∀ x ∈ l, q x = false) ∨ ∃ (k : Nat) (x : Int × Int), l[k]? = some x ∧ Lib.idxBy (fun _ y => q y) l default = (k : Int) ∧ q x = true ∧ ∀ y ∈ l.take k, q y = false := by
 have key : ∀ (l : List (Int × Int)) (i : Nat), (Lib.idxByFrom (fun _ y => q y) default l i = -1 ∧ ∀ x ∈ l, q x = false) ∨ ∃ (k : Nat) (x : Int × Int), l[k]? = some x ∧ Lib.idxByFrom (fun _ y => q y) default l i = ((i + k : Nat) : Int) ∧ q x = true ∧ ∀ y ∈ l.take k, q y = false := by
  intro l
  induction l with
  | nil => exact fun i => .inl ⟨rfl, by simp⟩
  | cons a l ih =>
   intro i
   unfold Lib.idxByFrom
   by_cases h : q a = true
   ·rw [if_pos h]
    exact .inr ⟨0, a, rfl, by simp, h, by simp⟩
   ·rw [if_neg h]
    have h' : q a = false := by simpa using h
    rcases ih (i + 1) with ⟨h1, h2⟩ | ⟨k, x, h1, h2, h3, h4⟩
    ·exact .inl ⟨h1, fun x hx => (List.mem_cons.1 hx).elim (fun e => e ▸ h') (fun hx => h2 x hx)⟩
    ·refine .inr ⟨k + 1, x, by simpa using h1, by rw [h2]; congr 1; omega, h3, fun y hy => ?_⟩
     rw [List.take_succ_cons] at hy
     rcases List.mem_cons.1 hy with rfl | hy
     ·exact h'
     ·exact h4 y hy
 have := key l 0
 simp only [Nat.zero_add] at this
 exact this
theorem KeAt.put {w : World} {b off c : Nat} {l : List (Int × Int)} {n : Nat} (h : KeAt w (.slice (some ⟨b, off, none⟩) n c) l) {k : Nat} (hk : k < l.length) (x : Int × Int) :
  KeAt ((w.setCell ⟨b, off + k * 2, none⟩ (.int .i64 x.1)).setCell ⟨b, off + k * 2 + 1, none⟩ (.int .i64 x.2)) (.slice (some ⟨b, off, none⟩) n c) (l.set k x) := by
 refine ⟨by rw [yo], ?_⟩
 rcases h.2 with ⟨e, _⟩ | ⟨g, off', c', arr, e, hg, hnc, hm, hs, hxs⟩
 ·cases e
 ·cases e
  refine .inr ⟨b, off, c, (arr.set! (off + k * 2) (.int .i64 x.1)).set! (off + k * 2 + 1) (.int .i64 x.2), by rw [List.length_set], ?_, by rw [List.length_set]; exact hnc, hm, by simp; omega, fun j u hu => ?_⟩
  ·unfold World.setCell
   simp [Array.getElem?_modify, hg]
  ·have hj := (List.getElem?_eq_some_iff.1 hu).1
   rw [yo, List.length_set] at hj
   have hq : j / 2 < l.length := by omega
   have hq' : j / 2 < (l.set k x).length := by simpa using hq
   have hsz : off + j < arr.size := by have := Nat.mul_le_mul_right 2 hnc; omega
   obtain ⟨g1, g2⟩ := zb0 _ _ hq
   obtain ⟨k1, k2⟩ := zb0 _ _ hq'
   rw [Array.set!_eq_setIfInBounds, Array.set!_eq_setIfInBounds, Array.getElem?_setIfInBounds, Array.getElem?_setIfInBounds]
   by_cases hjk : j / 2 = k
   ·have e1 : (l.set k x)[j / 2] = x := by simp [hjk]
    rw [e1] at k1 k2
    rcases Nat.mod_two_eq_zero_or_one j with hm2 | hm2
    ·have ej : j = j / 2 * 2 := by omega
     rw [← ej, hu] at k1
     rw [if_neg (by omega), if_pos (by omega), if_pos (by omega)]
     exact k1.symm
    ·have ej : j = j / 2 * 2 + 1 := by omega
     rw [← ej, hu] at k2
     rw [if_pos (by omega), if_pos (by simp; omega)]
     exact k2.symm
   ·have e1 : (l.set k x)[j / 2] = l[j / 2] := List.getElem_set_ne (fun e => hjk e.symm) _
    rw [e1] at k1 k2
    rw [if_neg (by omega), if_neg (by omega)]
    rcases Nat.mod_two_eq_zero_or_one j with hm2 | hm2
    ·have ej : j = j / 2 * 2 := by omega
     rw [← ej] at k1 g1
     exact hxs j u (by rw [g1, ← k1]; exact hu)
    ·have ej : j = j / 2 * 2 + 1 := by omega
     rw [← ej] at k2 g2
     exact hxs j u (by rw [g2, ← k2]; exact hu)
theorem KeAt.okSet {w : World} {b off c : Nat} {l : List (Int × Int)} {n : Nat} (h : KeAt w (.slice (some ⟨b, off, none⟩) n c) l) (i : Nat) (hl : 0 < l.length) : w.frozen? ⟨b, off + i, none⟩ = false := by
 rcases h.2 with ⟨e, _⟩ | ⟨g, off', c', arr, e, hg, _⟩
 ·cases e
 ·cases e
  simp [World.frozen?, hg]
theorem zf2 (w : World) (ty : TypeId) (b o n c : Nat) (arr : Array Value) (e : TypeId) (hg : w.heap[b]? = some (.cells arr e (0, 0))) (hfit : o + n * 2 ≤ arr.size) :
  ∃ arr' : Array Value, (Builtin.clear_ #[170] ty #[.slice (some ⟨b, o, none⟩) n c]).run Tryz.prog w = .ok (.tuple #[]) (w.setRow b arr') ∧ arr'.size = arr.size ∧ (∀ j, j < o → arr'[j]? = arr[j]?) ∧ (w.setRow b arr').heap[b]? = some (.cells arr' e (0, 0)) := by
 cases n with
 | zero => exact ⟨arr, by rw [Vb w b arr e hg]; simp [Builtin.clear_, run_underlying Tryz.underlying170], rfl, fun _ _ => rfl, by rw [Vb w b arr e hg]; exact hg⟩
 | succ n =>
  have hz : ∀ w, (zeroValue 133).run Tryz.prog w = .ok (.agg #[.int .i64 0, .int .i64 0]) w := fun w => by kernel_rfl
  have hl : (Builtin.zeroCells (Value.agg #[.int .i64 0, .int .i64 0]).cells (n + 1)).toList.length = (n + 1) * 2 := by simp [Builtin.zeroCells, Value.cells]
  have hall : ∀ u ∈ (Builtin.zeroCells (Value.agg #[.int .i64 0, .int .i64 0]).cells (n + 1)).toList, u.oneCell' = true := by
   intro u hu
   simp [Builtin.zeroCells, Value.cells] at hu
   obtain ⟨i, hi, rfl⟩ := hu
   rcases Nat.mod_two_eq_zero_or_one i with h | h <;> simp [h, Value.oneCell']
  obtain ⟨arr', h1, h2, h3, _, _, h6⟩ := Qa Tryz.prog w b o _ arr e hg (by rw [hl]; exact hfit) hall
  exact ⟨arr', by simp [Builtin.clear_, run_underlying Tryz.underlying170, hz, h1], h2, h3, h6⟩
theorem takeK {l : List (Int × Int)} {k : Nat} {y : Int × Int} (hy : l[k]? = some y) : l.take (k + 1) = l.take k ++ [y] := by
 obtain ⟨hj, rfl⟩ := List.getElem?_eq_some_iff.1 hy
 rw [List.take_succ_eq_append_getElem hj]
theorem Qu {q : Int × Int → Bool} {l : List (Int × Int)} (h : ∀ x ∈ l, q x = false) : l.filter (fun x => !q x) = l := List.filter_eq_self.2 fun x hx => by rw [h x hx]; rfl
set_option maxHeartbeats 4000000 in
theorem zcx (w : World) (v : Value) (l : List (Int × Int)) (h : KeAt w v l) (hlen : l.length ≤ 1000000) (B : Nat) (file : Int) (hB : B < w.heap.size) (hc : w.cell? ⟨B, 0, none⟩ = some (.int .i64 file)) (hne : ∀ b, v.ownBlock = some b → b ≠ B) :
  Calls Tryz.prog 155 #[v, .func (.func 153) #[] #[.pointer (some ⟨B, 0, none⟩)]] w fun e w' => ∃ v', e = .returned v' ∧ KeAt w' v' (l.filter fun x => !jb file x) ∧ Touch v.ownBlock.toList w w' ∧ v'.ownBlock = v.ownBlock := by
 have hidx := Lib.hid (zd5 w v l h B file hB hc)
 rcases zdu (jb file) l with ⟨h1, h2⟩ | ⟨k0, x0, hk0, h1, h2, h3⟩
 ·rw [h1] at hidx
  rw [Qu h2]
  have H := Lib.hid h
  obtain ⟨av, cv, rfl, _, _⟩ := SlAt.form h
  clear h hlen hB hc hne h1 h2
  go_enter Tryz.func155, Tryz.ntmps155
  go_wp2_with fail
  refine hidx.out.mono ?_
  rintro e w1 ⟨rfl, b1⟩
  have HB := Lib.hid b1
  clear b1
  go_wp2_with fail
  go_ret
  exact ⟨_, rfl, H.out.below HB.out, Touch.of_below HB.out, rfl⟩
 ·rw [h1] at hidx
  have hkl : k0 < l.length := (List.getElem?_eq_some_iff.1 hk0).1
  rcases h.form with ⟨rfl, rfl⟩ | ⟨b, off, c, rfl, hcc, hm, hbs⟩
  ·simp at hkl
  ·obtain ⟨n, hn⟩ : ∃ n, n = l.length := ⟨_, rfl⟩
   have HN := Lib.hid hn
   have H := Lib.hid h
   have hbB : b ≠ B := hne b rfl
   have HC := Lib.hid hc
   have hst : Hid ((l.take k0) = (l.take (k0 + 1)).filter (fun x => !jb file x)) := by
    show _ = _
    rw [takeK hk0, List.filter_append, Qu h3]
    simp [h2]
   rw [← hn] at hlen hkl hcc H ⊢
   rw [← hn] at hidx
   clear h h1 h2 h3 hc hne hn
   have hk0i : ¬ ((k0 : Int) = -1) := by omega
   have hk0b : ((k0 : Int) == -1) = false := by simp
   have hkw : IntKind.i64.wrap ((k0 : Int) + 1) = k0 + 1 := by simp [IntKind.wrap, IntKind.bits, IntKind.signed]; omega
   go_enter Tryz.func155, Tryz.ntmps155
   go_wp2_with fail
   refine hidx.out.mono ?_
   rintro e w1 ⟨rfl, b1⟩
   have B1 := Lib.hid b1
   clear b1
   go_wp2_with fail
   go_loopw [5, 6, 7] (fun i j _ wr => ∃ (ki kj : Nat) (M : List (Int × Int)), ki < kj ∧ kj ≤ n ∧ i = .int .i64 ki ∧ j = .int .i64 kj ∧ M.length = n ∧ Touch [b] w wr ∧ KeAt wr (.slice (some ⟨b, off, none⟩) n c) M ∧ M.take ki = (l.take kj).filter (fun x => !jb file x) ∧ M.drop kj = l.drop kj) (fun _ j _ _ => n - (intOf j).toNat)
   case atStart => exact ⟨k0, k0 + 1, l, by omega, by omega, rfl, by simp, HN.out.symm, Touch.of_below B1.out, H.out.below B1.out, hst.out, rfl⟩
   case round =>
    obtain ⟨ki, kj, M, hij, hjn, rfl, rfl, hml, htc, hat, htk, hdr⟩ := hrel
    have HML := Lib.hid hml
    have HTC := Lib.hid htc
    have HAT := Lib.hid hat
    have HTK := Lib.hid htk
    have HDR := Lib.hid hdr
    have HCB := (htc.cell HC.out (by simp; exact Ne.symm hbB))
    have hbw : b < wr.heap.size := Nat.lt_of_lt_of_le hbs htc.size
    have HCB' := Lib.hid HCB
    have hBw : B < wr.heap.size := Nat.lt_of_lt_of_le hB htc.size
    clear hml htc hat htk hdr HCB
    by_cases hlt : kj < n
    ·have hlt' : (kj : Int) < n := by omega
     obtain ⟨y, hy⟩ : ∃ y, l[kj]? = some y := ⟨_, List.getElem?_eq_getElem (by rw [← HN.out]; exact hlt)⟩
     have hMy : M[kj]? = some y := by
      have := congrArg (fun z => z[0]?) HDR.out
      simpa [List.getElem?_drop, hy] using this
     have HY := Lib.hid hy
     obtain ⟨e0, e1⟩ := HAT.out.cell hMy
     have hnxt : Hid ((l.take (kj + 1)).filter (fun x => !jb file x) = (l.take kj).filter (fun x => !jb file x) ++ (if jb file y then [] else [y])) := by
      show _ = _
      rw [takeK hy, List.filter_append]
      cases hq : jb file y <;> simp [hq]
     have hdn : Hid (M.drop (kj + 1) = l.drop (kj + 1)) := by
      show _ = _
      rw [← List.drop_drop, ← List.drop_drop, HDR.out]
     obtain ⟨y1, y2⟩ := y
     simp only at e0 e1
     clear hy hMy
     have hpr := Lib.hid (fun W (hb : Below wr.heap.size wr W) => (J4 W B file (Nat.lt_of_lt_of_le hBw hb.size) ((hb.cell (p := ⟨B, 0, none⟩) hBw).trans HCB'.out)) W (y1, y2) (Below.refl _ _))
     have BA := (Below.refl wr.heap.size wr).alloc (Nat.le_refl _) (.cells #[.int .i64 y1, .int .i64 y2] 133)
     have BA' := Lib.hid BA
     have KA : Hid ((wr.alloc (.cells #[.int .i64 y1, .int .i64 y2] 133)).heap[wr.heap.size]? = some (.cells #[.int .i64 y1, .int .i64 y2] 133 (0, 0))) := heap_alloc_new wr _
     clear BA
     simp only [encP] at hpr
     cases hq : jb file (y1, y2)
     ·rw [hq] at hpr hnxt
      go_wp2_with fail
      refine (hpr.out _ BA'.out).mono ?_
      rintro e W2 ⟨rfl, b2⟩
      have B2 := Lib.hid (BA'.out.trans (b2.mono BA'.out.size))
      have K2 := Lib.hid ((b2.block wr.heap.size (by simp)).trans KA.out)
      clear b2 BA' KA e0 e1
      have f0 : W2.cell? ⟨wr.heap.size, 0, none⟩ = some (.int .i64 y1) := by rw [cell_of_row W2 _ 0 _ _ _ K2.out]; rfl
      have f1 : W2.cell? ⟨wr.heap.size, 1, none⟩ = some (.int .i64 y2) := by rw [cell_of_row W2 _ 1 _ _ _ K2.out]; rfl
      have A2 := Lib.hid (HAT.out.below B2.out)
      have hkiM : ki < M.length := by rw [HML.out]; omega
      have PUT := Lib.hid (A2.out.put hkiM (y1, y2))
      obtain ⟨z, hz⟩ : ∃ z, M[ki]? = some z := ⟨_, List.getElem?_eq_getElem hkiM⟩
      obtain ⟨d0, d1⟩ := A2.out.cell hz
      have q0 := A2.out.okSet (ki * 2) (by omega)
      have q1 := A2.out.okSet (ki * 2 + 1) (by omega)
      rw [← Nat.add_assoc] at q1
      have hkn : (ki : Int) < n := by omega
      go_wp2_with fail
      go_roundw
      case rel =>
       refine ⟨ki + 1, kj + 1, M.set ki (y1, y2), by omega, by omega, by go_num, by go_num, by rw [List.length_set]; exact HML.out, ?_, PUT.out, ?_, ?_⟩
       ·exact ((HTC.out.trans (Touch.of_below B2.out)).set (by simp) _).set (by simp) _
       ·rw [hnxt.out, ← HTK.out]
        simp only [Bool.false_eq_true, if_false]
        rw [List.take_succ_eq_append_getElem (by rw [List.length_set]; exact hkiM), List.take_set_of_le (Nat.le_refl _)]
        simp
       ·rw [List.drop_set, if_pos (by omega), hdn.out]
      case measure => simp [intOf]; omega
     ·rw [hq] at hpr hnxt
      go_wp2_with fail
      refine (hpr.out _ BA'.out).mono ?_
      rintro e W2 ⟨rfl, b2⟩
      have B2 := Lib.hid (BA'.out.trans (b2.mono BA'.out.size))
      clear b2 BA' KA e0 e1
      go_wp2_with fail
      go_roundw
      case rel =>
       refine ⟨ki, kj + 1, M, by omega, by omega, rfl, by go_num, HML.out, HTC.out.trans (Touch.of_below B2.out), HAT.out.below B2.out, ?_, hdn.out⟩
       rw [hnxt.out, HTK.out]
       simp
      case measure => simp [intOf]; omega
    ·have hjn' : kj = n := by omega
     subst hjn'
     have hfl : Hid (M.take ki = l.filter (fun x => !jb file x)) := by
      show _ = _
      rw [HTK.out, List.take_of_length_le (by rw [← HN.out]; exact Nat.le_refl _)]
     have hltn : ¬ (kj : Int) < kj := by omega
     obtain ⟨arr, hg, hnc, hcm, hfit, hx⟩ : ∃ arr, wr.heap[b]? = some (.cells arr 133 (0, 0)) ∧ M.length ≤ c ∧ c ≤ maxLen ∧ off + c * 2 ≤ arr.size ∧ ∀ j u, (pl M)[j]? = some u → arr[off + j]? = some u := by
      rcases HAT.out.2 with ⟨e, _⟩ | ⟨b', off', c', arr, e, rest⟩
      ·cases e
      ·cases e; exact ⟨arr, rest⟩
     rw [HML.out] at hnc
     obtain ⟨arr2, hs2, hz2, hlo2, hg2⟩ : ∃ arr' : Array Value, (∀ ty, (Builtin.clear_ #[170] ty #[.slice (some ⟨b, off + ki * 2, none⟩) (kj - ki) (c - ki)]).run Tryz.prog wr = .ok (.tuple #[]) (wr.setRow b arr')) ∧ arr'.size = arr.size ∧ (∀ j, j < off + ki * 2 → arr'[j]? = arr[j]?) ∧ (wr.setRow b arr').heap[b]? = some (.cells arr' 133 (0, 0)) := by
      obtain ⟨a', h1, h2, h3, h4⟩ := zf2 wr 0 b (off + ki * 2) (kj - ki) (c - ki) arr 133 hg (by omega)
      exact ⟨a', fun ty => h1, h2, h3, h4⟩
     have fin : Hid (KeAt (wr.setRow b arr2) (.slice (some ⟨b, off, none⟩) ki c) (l.filter fun x => !jb file x) ∧ Touch [b] w (wr.setRow b arr2)) := by
      have hle : (l.filter fun x => !jb file x).length = ki := by rw [← hfl.out, List.length_take, HML.out]; omega
      constructor
      ·show SlAt _ _ _ _ _ _
       rw [hle]
       refine ⟨by rw [yo, hle], .inr ⟨b, off, c, arr2, rfl, hg2, by omega, hcm, by rw [hz2]; exact hfit, fun j u hu => ?_⟩⟩
       have hj := (List.getElem?_eq_some_iff.1 hu).1
       rw [yo, hle] at hj
       rw [hlo2 (off + j) (by omega)]
       rw [← hfl.out, zg8, List.getElem?_take_of_lt hj] at hu
       exact hx j u hu
      ·exact HTC.out.trans ⟨rfl, rfl, rfl, by simp, fun k hk hne => setRow_other wr b k _ (fun e => hne (by simp [e]))⟩
     have c1 : ki ≤ kj := by omega
     have c2 : ki ≤ c := by omega
     have c3 : ¬ c = ki := by omega
     have c4 : (0 : Int) ≤ ki := by omega
     have c5 : (ki : Int) ≤ kj := by omega
     clear hx hg hz2 hlo2 hg2 hfit
     go_wp2_with fail
     go_ret
     exact ⟨_, rfl, fin.out.1, fin.out.2, rfl⟩
theorem zkz (w : World) (p m1 m2 : Nat) (l : Jm) (r : zbd) (h : xy w p m1 m2 l r) (hlen : l.length ≤ 1000000) (file : Int) :
  Calls Tryz.prog 108 #[.pointer (some ⟨p, 0, none⟩), .int .i64 file] w fun e w' => ∃ (v : Value) (ks : List (Int × Int)), e = .returned v ∧ zd2 (l.map (·.1)) ks ∧ KeAt w' v (ks.filter fun x => !jb file x) ∧ Below w.heap.size w w' ∧ ∀ b, v.ownBlock = some b → w.heap.size ≤ b := by
 have b1 : Below w.heap.size w (w.alloc (.cells #[.int .i64 file] 3)) := (Below.refl _ _).alloc (Nat.le_refl _) _
 have HA := Lib.hid (h.below b1)
 have hps := h.ps
 have HB1 := Lib.hid b1
 have HB : Hid ((w.alloc (.cells #[.int .i64 file] 3)).cell? ⟨w.heap.size, 0, none⟩ = some (.int .i64 file)) := by show _ = _; go_simp
 obtain ⟨c0, c1, hM, hR, hne⟩ := h.below b1
 have S1 : Hid ((w.alloc (.cells #[.int .i64 file] 3)).heap.size = w.heap.size + 1) := by show _ = _; simp
 clear h b1 hM hR c1 hne
 go_enter Tryz.func108, Tryz.ntmps108
 go_wp2_with fail
 generalize w.alloc _ = W1 at *
 refine (zgc W1 (some m1)).mono ?_
 rintro e w2 ⟨rfl, rfl⟩
 have B2 : Hid (Below W1.heap.size W1 (W1.alloc (.cells #[.map (some m1)] 202))) := (Below.refl _ _).alloc (Nat.le_refl _) _
 have M2 : Hid ((W1.alloc (.cells #[.map (some m1)] 202)).cell? ⟨W1.heap.size, 0, none⟩ = some (.map (some m1))) := by show _ = _; go_simp
 have S2 : Hid ((W1.alloc (.cells #[.map (some m1)] 202)).heap.size = W1.heap.size + 1) := by show _ = _; simp
 have HA2 := Lib.hid (HA.out.below B2.out)
 clear c0
 go_wp2_with fail
 generalize W1.alloc _ = W2 at *
 obtain ⟨_, _, hM2, _, _⟩ := HA2.out
 refine (Qz W2 W1.heap.size m1 l (by rw [S2.out]; omega) M2.out hM2 hlen).mono ?_
 rintro e w3 ⟨v, ks, rfl, hs, hk, b3, ho3⟩
 have HS := Lib.hid hs
 have HK := Lib.hid hk
 have B3 := Lib.hid b3
 have O3 := Lib.hid ho3
 have hkl : ks.length ≤ 1000000 := by rw [hs.1.length_eq, List.length_map]; exact hlen
 have HB3 := (b3.cell (p := ⟨w.heap.size, 0, none⟩) (by rw [S2.out, S1.out]; show w.heap.size < _; omega)).trans ((B2.out.cell (p := ⟨w.heap.size, 0, none⟩) (by rw [S1.out]; show w.heap.size < _; omega)).trans HB.out)
 have hlt3 : w.heap.size < w3.heap.size := World.block_lt_of_cell? _ _ HB3
 have BW : Hid (Below w.heap.size w w3) := HB1.out.trans ((B2.out.trans (b3.mono B2.out.size)).mono HB1.out.size)
 clear hs hk b3 ho3 hM2
 go_wp2_with fail
 refine (zcx w3 v ks HK.out hkl w.heap.size file hlt3 HB3 (fun b hb => by have := O3.out b hb; rw [S2.out, S1.out] at this; omega)).mono ?_
 rintro e w4 ⟨v4, rfl, hk4, t4, ho4⟩
 have HF : Hid (KeAt w4 v4 (ks.filter fun x => !jb file x) ∧ Below w.heap.size w w4 ∧ v4.ownBlock = v.ownBlock) := ⟨hk4, Touch.from BW.out t4 BW.out.size (fun i hi => by
  have hi' : v.ownBlock = some i := by simpa using hi
  have := O3.out i hi'
  rw [S2.out, S1.out] at this
  omega), ho4⟩
 clear hk4 t4 ho4 HB3
 go_wp2_with fail
 refine (zgj w4 v4 _ HF.out.1).mono ?_
 rintro e w5 ⟨v5, rfl, hk5, rfl, ho5⟩
 have H5 := Lib.hid (And.intro hk5 ho5)
 clear hk5 ho5
 go_wp2_with fail
 go_ret
 exact ⟨_, ks, rfl, HS.out, H5.out.1, HF.out.2.1, fun b hb => by have := O3.out b (by rw [← HF.out.2.2, ← H5.out.2]; exact hb); rw [S2.out, S1.out] at this; omega⟩
section
variable {w w' : World} {tag tag' : Nat → Nat} {q : Sq} {x : za}
theorem zkt (h : zb w tag q x) (wf : WF x) (n page : Nat) (hn : n < 8) {pr : ym} (hp : x.T n = some pr) (hpg : page < 4096) (hu : (x.ent n page).kind = 1 → x.P.use (x.ent n page).n.toNat = 3) :
  Calls Tryz.prog 27 #[ptrV q.sp, .int .i64 n, .int .i64 page] w fun r w' => r = .returned (.int .i64 (x.outF n page).1) ∧ ∃ tag', zb w' tag' q (x.outF n page).2 ∧ Step CA tag w tag' w' := by
 obtain ⟨R, hR⟩ : ∃ R, R = x.outF n page := ⟨_, rfl⟩
 have TR := Lib.hid (zfa h n hn hp)
 have GE := Lib.hid (zi7 h wf n page hn hp hpg)
 have hok := wf.Yc n hpg
 obtain ⟨⟨ek, ef, ew⟩, he⟩ : ∃ e, e = x.ent n page := ⟨_, rfl⟩
 rw [← he] at hu hok GE
 unfold entV at GE
 dsimp only at hu GE
 have HR := Lib.hid hR
 have HX := Lib.hid (And.intro h (And.intro wf (And.intro he (And.intro hu hok))))
 rw [← hR]
 clear h wf hp hpg hn hR he hu hok
 unfold ptrV at TR GE ⊢
 go_enter Tryz.func27, Tryz.ntmps27
 go_wp2_with fail
 refine TR.out.mono ?_
 rintro r u ⟨rfl, hu⟩
 have hu := hu.symm
 subst hu
 clear TR
 go_wp2_with fail
 refine GE.out.mono ?_
 rintro r w1 ⟨rfl, hb1⟩
 have b2 : Below w.heap.size w (w1.alloc (.cells #[.int .i64 ek, .int .i64 ef, .bool ew] 70)) := hb1.trans (((Below.refl _ _).alloc (Nat.le_refl _) _).mono hb1.size)
 have nb := heap_alloc_new w1 (.cells #[.int .i64 ek, .int .i64 ef, .bool ew] 70)
 obtain ⟨L2, s2⟩ := HX.out.1.loc0.more b2 (entL w1.heap.size ⟨ek, ef, ew⟩) (fun t ht => by
  simp [entL] at ht
  rcases ht with rfl | rfl | rfl
  ·exact ⟨hb1.size, zn nb 0 rfl⟩
  ·exact ⟨hb1.size, zn nb 1 rfl⟩
  ·exact ⟨hb1.size, zn nb 2 rfl⟩)
 rw [List.append_nil] at L2
 clear hb1 GE nb b2
 go_wp2_with fail
 obtain ⟨eb, heb⟩ : ∃ eb, eb = w1.heap.size := ⟨_, rfl⟩
 obtain ⟨W2, hW2⟩ : ∃ W2, W2 = w1.alloc (.cells #[.int .i64 ek, .int .i64 ef, .bool ew] 70) := ⟨_, rfl⟩
 obtain ⟨tag2, htag⟩ : ∃ tag2, tag2 = retag tag w 0 := ⟨_, rfl⟩
 rw [← hW2, ← heb, ← htag] at L2
 rw [← hW2, ← htag] at s2
 rw [← hW2, ← heb]
 clear hW2 heb htag
 have d0 : W2.cell? ⟨eb, 0, none⟩ = some (.int .i64 ek) := L2.get 0 rfl
 have d1 : W2.cell? ⟨eb, 1, none⟩ = some (.int .i64 ef) := L2.get 1 rfl
 have d2 : W2.cell? ⟨q.sp, 2, none⟩ = some (.pointer (some ⟨q.pp, 0, none⟩)) := L2.cell (i := 2) (by omega)
 have H2 := Lib.hid (And.intro L2 s2)
 clear L2 s2
 by_cases hk : ek = 1
 ·subst hk
  have hf := (Ent.ok_n HX.out.2.2.2.2).1 rfl
  dsimp only at hf
  obtain ⟨f, rfl⟩ := Int.eq_ofNat_of_zero_le hf.1
  have hf1 : f < 1024 := by omega
  have USE : Hid (Calls Tryz.prog 38 #[.pointer (some ⟨q.pp, 0, none⟩), .int .i64 f] W2.drew fun r w' => r = .returned (.int .i64 3) ∧ w' = W2.drew) := by
   have := H2.out.1.drew.sp.useP f hf1
   rw [show x.P.use f = 3 from HX.out.2.2.2.1 rfl] at this
   exact this
  have HF := Lib.hid hf1
  have d0 : W2.cell? ⟨eb, 0, none⟩ = some (.int .i64 1) := d0
  clear hf hf1
  refine wp_region_held_drew (S := (fun X => X.cell? ⟨q.sp, 2, none⟩ = some (.pointer (some ⟨q.pp, 0, none⟩)) ∧ X.cell? ⟨eb, 0, none⟩ = some (.int .i64 1) ∧ X.cell? ⟨eb, 1, none⟩ = some (.int .i64 f))) (by kernel_rfl) ⟨d2, d0, d1⟩ (fun hHeld => ?_)
  refine zg 0 23 rfl rfl hHeld ?_
  simp only [Act.put, zh]
  refine zg 1 24 rfl rfl hHeld ?_
  simp only [Act.put, zh]
  refine zg 2 25 rfl rfl hHeld ?_
  simp only [Act.put, zh]
  refine zg 3 26 rfl rfl hHeld ?_
  simp only [Act.put, zh]
  refine zg 4 27 rfl rfl hHeld ?_
  simp only [Act.put, zh]
  refine zg 5 28 rfl rfl hHeld ?_
  simp only [Act.put, zh]
  refine zg 6 29 rfl rfl hHeld ?_
  simp only [Act.put, zh]
  refine zg 7 30 rfl rfl hHeld ?_
  simp only [Act.put, zh]
  refine zg 8 31 rfl rfl hHeld ?_
  simp only [Act.put, zh]
  refine zg 9 32 rfl rfl hHeld ?_
  simp only [Act.put, zh]
  refine zg 10 33 rfl rfl hHeld ?_
  simp only [Act.put, zh]
  refine zg 11 34 rfl rfl hHeld ?_
  simp only [Act.put, zh]
  refine zg 12 35 rfl rfl hHeld ?_
  simp only [Act.put, zh]
  refine zg 13 36 rfl rfl hHeld ?_
  simp only [Act.put, zh]
  refine wpAnyH_ready (rs := [14]) (by kernel_rfl) (by simp) ?_
  refine AllReadyH.cons rfl (fun K hK => ?_) AllReadyH.nil
  go_simp
  go_wp2_with (go_at_call 38; refine USE.out.mono ?_; rintro r w4 ⟨rfl, hw4⟩)
  have hw4 := hw4.symm
  subst hw4
  refine hK.out _ _ ⟨d2, d0, d1⟩ (fun hHeld => ?_)
  clear hK K
  refine zg 15 38 rfl rfl hHeld ?_
  simp only [Act.put, zh]
  refine zg 16 39 rfl rfl hHeld ?_
  simp only [Act.put, zh]
  refine wpAnyH_done (by kernel_rfl) ?_ _
  clear USE d0 d1 d2
  have L3 := H2.out.1.drew
  have d5 : W2.drew.cell? ⟨q.sp, 5, none⟩ = some (.pointer (some ⟨q.wp, 0, none⟩)) := L3.cell (i := 5) (by omega)
  have d3 : W2.drew.cell? ⟨q.sp, 0, none⟩ = some (.pointer (some ⟨q.rp, 0, none⟩)) := L3.cell (i := 0) (by omega)
  have d1 : W2.drew.cell? ⟨eb, 1, none⟩ = some (.int .i64 f) := L3.get 1 rfl
  have s3 : Step (fun _ => False) tag w tag2 W2.drew := H2.out.2.trans (Step.of_below (Below.refl _ _).drew)
  obtain ⟨W3, hW3⟩ : ∃ W3, W3 = W2.drew := ⟨_, rfl⟩
  rw [← hW3] at L3 d5 d3 d1 s3 ⊢
  have H3 := Lib.hid (And.intro L3 s3)
  have TK := Lib.hid L3.sp.take
  clear L3 s3 H2 hW3
  rcases U8 x.S with ⟨k, hk, hk32, _⟩ | ⟨hk, _⟩
  ·rw [hk] at TK
   have hk32 : k < 32 := by rw [HX.out.2.1.slots.1] at hk32; exact hk32
   have HK := Lib.hid (And.intro hk hk32)
   clear hk hk32
   go_wp2_with fail
   all_goals (
    refine TK.out.mono ?_
    rintro r u ⟨rfl, hu⟩
    have hu := hu.symm
    subst hu
    clear TK)
   go_wp2_with fail
   obtain ⟨l, hl⟩ : ∃ l, l = x.R.read f 0 64 := ⟨_, rfl⟩
   have hl64 : l.length = 64 := by rw [hl]; exact Xb ..
   have RD : Hid (Calls Tryz.prog 67 #[.pointer (some ⟨q.rp, 0, none⟩), .int .i64 f, .int .i64 0, .int .i64 64] W3.drew fun r w4 => ∃ a c tag4, r = .returned (.tuple #[.slice a 64 c, .int .i64 0]) ∧ (w4.cell? ⟨q.sp, 0, none⟩ = some (.pointer (some ⟨q.rp, 0, none⟩)) ∧ w4.cell? ⟨eb, 1, none⟩ = some (.int .i64 f)) ∧
     ByAt w4 (.slice a 64 c) l ∧ Loc w4 tag4 q x (entL eb ⟨1, (f : Int), ew⟩) ∧ Step (fun _ => False) tag w tag4 w4 ∧ ∀ b, (Value.slice a 64 c).ownBlock = some b → tag4 b = 0) := by
    have hu3 : x.P.use f = 3 := HX.out.2.2.2.1 trivial
    refine (Y9 _ _ _ _ _ H3.out.1.drew.sp.ram f 0 64 f 0 64 rfl rfl rfl HF.out (by omega) (by omega) (HX.out.2.1.qm HF.out (by omega))).mono ?_
    rintro r w4 ⟨v, rfl, hv, hb, ho⟩
    rw [← hl] at hv
    obtain ⟨a, c, rfl, _, _⟩ := SlAt.form hv
    rw [hl64] at hv ho ⊢
    obtain ⟨L4, s4⟩ := H3.out.1.drew.more hb [] (fun t ht => by cases ht)
    exact ⟨a, c, _, rfl, ⟨L4.cell (i := 0) (by omega), L4.get 1 rfl⟩, hv, L4, (H3.out.2.trans (Step.of_below (Below.refl _ _).drew)).trans s4, fun b hb => zy _ _ _ _ (ho b hb)⟩
   have HL := Lib.hid (And.intro hl hl64)
   clear hl hl64 d5 H3 hw4 hu
   go_region_held (fun W' => W'.cell? ⟨q.sp, 0, none⟩ = some (.pointer (some ⟨q.rp, 0, none⟩)) ∧ W'.cell? ⟨eb, 1, none⟩ = some (.int .i64 f)) (go_keep)
    ((go_at_call 67; refine RD.out.mono ?_; rintro r w4 ⟨a, c, tag4, rfl, ⟨m0, m1⟩, HS⟩; have hS := Lib.hid HS; clear HS))
   clear RD d1 d3 m0
   have g1 : w4.cell? ⟨q.sp, 1, none⟩ = some (.pointer (some ⟨q.dp, 0, none⟩)) := hS.out.2.1.cell (i := 1) (by omega)
   obtain ⟨rr, hrr⟩ : ∃ rr, rr = x.D.work.2 := ⟨_, rfl⟩
   have WS : Hid (Calls Tryz.prog 75 #[.pointer (some ⟨q.dp, 0, none⟩), .int .i64 k, .slice a 64 c] w4 fun r w5 => r = .returned (.int .i64 rr) ∧ ∃ tag5, w5.cell? ⟨eb, 1, none⟩ = some (.int .i64 f) ∧ zb w5 tag5 q (x.wr (160 + k) l) ∧ Step CA tag w tag5 w5) := by
    refine (hS.out.2.1.sp.swrite k HK.out.2 hS.out.1 HL.out.2 hS.out.2.2.2).mono ?_
    rintro r w5 ⟨rfl, h5, s5⟩
    have L5 := hS.out.2.1.step s5 (by omega) h5
    exact ⟨by rw [hrr], _, L5.get 1 rfl, h5, (hS.out.2.2.1.mono fun _ h => h.elim).trans (s5.mono fun c hc => by unfold CA; omega)⟩
   have HRR := Lib.hid hrr
   clear hrr
   go_wp2_with fail
   refine WS.out.mono ?_
   rintro r w5 ⟨rfl, tag5, n1, h5⟩
   have H5 := Lib.hid h5
   clear h5 WS g1 m1
   have wf5 := HX.out.2.1.wr (160 + k) HL.out.2
   have e0 : R = if rr = 0 then (0, (x.wr (160 + k) l).xk (x.B f) ⟨2, (k : Int), false⟩) else ((rr : Int), x.wr (160 + k) l) := by
    rw [HR.out, HRR.out, HL.out.1]
    unfold za.outF
    rw [← HX.out.2.2.1, if_neg (by simp), HK.out.1, if_neg (by simp)]
    simp only [Int.toNat_natCast]
   have HE := Lib.hid e0
   have HW := Lib.hid wf5
   clear e0 wf5
   by_cases hr : rr = 0
   ·subst hr
    have AL : Hid (Calls Tryz.prog 76 #[.pointer (some ⟨q.sp, 0, none⟩), .int .i64 f, .agg #[.int .i64 2, .int .i64 k, .bool false]] w5 fun r w6 => r = .returned (.tuple #[]) ∧ ∃ tag6, zb w6 tag6 q R.2 ∧ Step CA tag w tag6 w6) := by
     rw [HE.out, if_pos rfl]
     refine (ze9 H5.out.1 HW.out f ⟨2, (k : Int), false⟩ (by have := HK.out.2; simp [Ent.ok, most]; omega)).mono ?_
     rintro r w6 ⟨rfl, tag6, h6, s6⟩
     exact ⟨rfl, tag6, h6, H5.out.2.trans s6⟩
    go_wp2_with fail
    refine AL.out.mono ?_
    rintro r w6 ⟨rfl, h6⟩
    have H6 := Lib.hid h6
    clear h6 AL n1
    go_wp2_with fail
    exact bodyPost_ret (v := .int .i64 0) (by simp [results, Tryz.results27, go_sem]) rfl ⟨by rw [HE.out, if_pos trivial], H6.out⟩
   ·have n2 : ((rr : Int) == 0) = false := beq_eq_false_iff_ne.2 (by omega)
    have n3 : ((rr : Int) = 0) = False := eq_false (by omega)
    have HRN := Lib.hid hr
    clear hr
    go_wp2_with fail
    exact bodyPost_ret (v := .int .i64 rr) (by simp [results, Tryz.results27, go_sem]) rfl ⟨by rw [HE.out, if_neg HRN.out], tag5, by rw [HE.out, if_neg HRN.out]; exact H5.out.1, H5.out.2⟩
  ·rw [hk] at TK
   have HK := Lib.hid hk
   clear hk
   go_wp2_with fail
   all_goals (
    refine TK.out.mono ?_
    rintro r u ⟨rfl, hu⟩
    have hu := hu.symm
    subst hu
    clear TK)
   go_wp2_with fail
   have e0 : R = (4, x) := by rw [HR.out]; unfold za.outF; rw [← HX.out.2.2.1, if_neg (by simp), HK.out, if_pos rfl]
   rw [e0]
   exact bodyPost_ret (v := .int .i64 4) (by simp [results, Tryz.results27, go_sem]) rfl ⟨rfl, tag2, H3.out.1.sp, H3.out.2.mono fun _ h => h.elim⟩
 ·have e1 : ((ek : Int) == 1) = false := beq_eq_false_iff_ne.2 (by omega)
  have e2 : ((ek : Int) = 1) = False := eq_false (by omega)
  have e3 : ((ek : Int) != 1) = true := by rw [bne, e1]; rfl
  have HK := Lib.hid hk
  clear hk
  refine wp_region_held_drew (S := (fun X => X.cell? ⟨q.sp, 2, none⟩ = some (.pointer (some ⟨q.pp, 0, none⟩)) ∧ X.cell? ⟨eb, 0, none⟩ = some (.int .i64 ek) ∧ X.cell? ⟨eb, 1, none⟩ = some (.int .i64 ef))) (by kernel_rfl) ⟨d2, d0, d1⟩ (fun hHeld => ?_)
  refine zg 0 23 rfl rfl hHeld ?_
  simp only [Act.put, zh]
  refine zg 1 24 rfl rfl hHeld ?_
  simp only [Act.put, zh]
  refine zg 2 25 rfl rfl hHeld ?_
  simp only [Act.put, zh]
  refine zg 3 26 rfl rfl hHeld ?_
  simp only [Act.put, zh]
  refine zg 4 27 rfl rfl hHeld ?_
  simp only [Act.put, zh]
  refine zg 5 28 rfl rfl hHeld ?_
  simp only [Act.put, zh]
  refine zg 6 29 rfl rfl hHeld ?_
  simp only [Act.put, zh]
  refine zg 7 30 rfl rfl hHeld ?_
  simp only [Act.put, zh]
  refine zt 8 31 rfl rfl (by kernel_rfl) (by kernel_rfl) (by kernel_rfl) (fun _ _ _ h => h) (by rfl) hHeld ?_
  simp only [Act.put, zh]
  refine zt 9 32 rfl rfl (by kernel_rfl) (by kernel_rfl) (by kernel_rfl) (fun _ _ _ h => h) (by rfl) hHeld ?_
  simp only [Act.put, zh]
  refine zt 10 33 rfl rfl (by kernel_rfl) (by kernel_rfl) (by kernel_rfl) (fun _ _ _ h => h) (by rfl) hHeld ?_
  simp only [Act.put, zh]
  refine zt 11 34 rfl rfl (by kernel_rfl) (by kernel_rfl) (by kernel_rfl) (fun _ _ _ h => h) (by rfl) hHeld ?_
  simp only [Act.put, zh]
  refine zt 12 35 rfl rfl (by kernel_rfl) (by kernel_rfl) (by kernel_rfl) (fun _ _ _ h => h) (by rfl) hHeld ?_
  simp only [Act.put, zh]
  refine zt 13 36 rfl rfl (by kernel_rfl) (by kernel_rfl) (by kernel_rfl) (fun _ _ _ h => h) (by rfl) hHeld ?_
  simp only [Act.put, zh]
  refine zt 14 37 rfl rfl (by kernel_rfl) (by kernel_rfl) (by kernel_rfl) (fun _ _ _ h => h) (by rfl) hHeld ?_
  simp only [Act.put, zh]
  refine zt 15 38 rfl rfl (by kernel_rfl) (by kernel_rfl) (by kernel_rfl) (fun _ _ _ h => h) (by rfl) hHeld ?_
  simp only [Act.put, zh]
  refine zg 16 39 rfl rfl hHeld ?_
  simp only [Act.put, zh]
  refine wpAnyH_done (by kernel_rfl) ?_ _
  go_wp2_with fail
  exact bodyPost_ret (v := .int .i64 2) (by simp [results, Tryz.results27, go_sem]) rfl ⟨by rw [HR.out]; unfold za.outF; rw [← HX.out.2.2.1, if_pos HK.out], tag2, by rw [HR.out]; unfold za.outF; rw [← HX.out.2.2.1, if_pos HK.out]; exact H2.out.1.drew.sp, (H2.out.2.trans (Step.of_below (Below.refl _ _).drew)).mono fun _ h => h.elim⟩
end
section
variable {w w' : World} {tag tag' : Nat → Nat} {q : Sq} {x : za}
theorem WF.xx (wf : WF x) (k : Int × Int) : WF (x.xx k).2 := by
 unfold za.xx
 split
 ·exact wf
 ·have := wf.wr (za.yc k) (l := x.R.read (x.cfr k).toNat 0 64) (Xb ..)
  split
  ·exact this.zz k false
  ·exact this
theorem zgh (h : zb w tag q x) (wf : WF x) (n page : Nat) (hn : n < 4) (hpg : page < 16) (f : Nat) (hv : (getL x.CL ((n : Int), (page : Int))).isSome = true) (hf : x.cfr ((n : Int), (page : Int)) = f) (hf1 : f < 1024) (hfb : x.R.bad f = false) :
  Calls Tryz.prog 36 #[ptrV q.sp, .int .i64 n, .int .i64 page] w fun r w' => r = .returned (.int .i64 (x.Yo ((n : Int), (page : Int))).1) ∧ ∃ tag', zb w' tag' q (x.Yo ((n : Int), (page : Int))).2 ∧ Step CA tag w tag' w' := by
 have hk : xc ((n : Int), (page : Int)) := ⟨by dsimp only; omega, by dsimp only; omega, by dsimp only; omega, by dsimp only; omega⟩
 obtain ⟨R, hR⟩ : ∃ R, R = x.Yo ((n : Int), (page : Int)) := ⟨_, rfl⟩
 rw [← hR]
 have b2 : Below w.heap.size w (w.alloc (.cells #[.int .i64 n, .int .i64 page] 133)) := (Below.refl _ _).alloc (Nat.le_refl _) _
 have nb := heap_alloc_new w (.cells #[.int .i64 n, .int .i64 page] 133)
 obtain ⟨L2, s2⟩ := h.loc0.more b2 (keyL w.heap.size ((n : Int), (page : Int))) (fun t ht => by
  simp [keyL] at ht
  rcases ht with rfl | rfl
  ·exact ⟨Nat.le_refl _, zn nb 0 rfl⟩
  ·exact ⟨Nat.le_refl _, zn nb 1 rfl⟩)
 rw [List.append_nil] at L2
 have i0 : (0 : Int) ≤ n := by omega
 have i1 : (n : Int) < 4 := by omega
 have i2 : (0 : Int) ≤ page := by omega
 have i3 : (page : Int) < 16 := by omega
 have HR := Lib.hid (And.intro hR (And.intro wf (And.intro hk (And.intro hv (And.intro hf (And.intro hf1 hfb))))))
 clear b2 nb h hR wf hk hv hf hf1 hfb hn hpg
 unfold ptrV
 go_enter Tryz.func36, Tryz.ntmps36
 go_wp2_with fail
 obtain ⟨eb, heb⟩ : ∃ eb, eb = w.heap.size := ⟨_, rfl⟩
 obtain ⟨W2, hW2⟩ : ∃ W2, W2 = w.alloc (.cells #[.int .i64 n, .int .i64 page] 133) := ⟨_, rfl⟩
 obtain ⟨tag2, htag⟩ : ∃ tag2, tag2 = retag tag w 0 := ⟨_, rfl⟩
 rw [← hW2, ← heb, ← htag] at L2
 rw [← hW2, ← htag] at s2
 rw [← hW2, ← heb]
 clear hW2 heb htag i0 i1 i2 i3
 have d0 : W2.cell? ⟨eb, 0, none⟩ = some (.int .i64 n) := L2.get 0 rfl
 have d1 : W2.cell? ⟨eb, 1, none⟩ = some (.int .i64 page) := L2.get 1 rfl
 have d2 : W2.cell? ⟨q.sp, 4, none⟩ = some (.pointer (some ⟨q.cp, 0, none⟩)) := L2.cell (i := 4) (by omega)
 have H2 := Lib.hid (And.intro L2 s2)
 clear L2 s2
 have FR : Hid (Calls Tryz.prog 96 #[.pointer (some ⟨q.cp, 0, none⟩), .agg #[.int .i64 n, .int .i64 page]] W2.drew fun r w2 => r = .returned (.tuple #[.int .i64 f, .bool true]) ∧ (w2.cell? ⟨eb, 0, none⟩ = some (.int .i64 n) ∧ w2.cell? ⟨eb, 1, none⟩ = some (.int .i64 page) ∧ w2.cell? ⟨q.sp, 4, none⟩ = some (.pointer (some ⟨q.cp, 0, none⟩))) ∧ Loc w2 tag2 q x (keyL eb ((n : Int), (page : Int))) ∧ Step (fun _ => False) tag w tag2 w2) := by
  refine (H2.out.1.drew.sp.Y4 ((n : Int), (page : Int))).mono ?_
  rintro r w2 ⟨rfl, hb⟩
  have L1 := H2.out.1.drew.below hb
  refine ⟨?_, ⟨L1.get 0 rfl, L1.get 1 rfl, L1.cell (i := 4) (by omega)⟩, L1, (H2.out.2.trans (Step.of_below (Below.refl _ _).drew)).trans (Step.of_below hb)⟩
  rw [HR.out.2.2.2.1, ← HR.out.2.2.2.2.1]
  rfl
 go_region_held (fun W' => W'.cell? ⟨eb, 0, none⟩ = some (.int .i64 n) ∧ W'.cell? ⟨eb, 1, none⟩ = some (.int .i64 page) ∧ W'.cell? ⟨q.sp, 4, none⟩ = some (.pointer (some ⟨q.cp, 0, none⟩))) (go_keep)
  ((go_at_call 96; refine FR.out.mono ?_; rintro r w2 ⟨rfl, ⟨n0, n1, n2⟩, HS⟩; have hS := Lib.hid HS; clear HS))
 clear FR d0 d1 d2 n2
 obtain ⟨c, hc⟩ : ∃ c, c = (x.xx ((n : Int), (page : Int))).1 := ⟨_, rfl⟩
 obtain ⟨y, hy⟩ : ∃ y, y = (x.xx ((n : Int), (page : Int))).2 := ⟨_, rfl⟩
 have CL : Hid (Calls Tryz.prog 97 #[.pointer (some ⟨q.sp, 0, none⟩), .agg #[.int .i64 n, .int .i64 page]] w2 fun r w3 => r = .returned (.int .i64 c) ∧ ∃ tag3, Loc w3 tag3 q y (keyL eb ((n : Int), (page : Int))) ∧ Step CA tag w tag3 w3) := by
  refine (zae hS.out.1.sp HR.out.2.1 ((n : Int), (page : Int)) HR.out.2.2.1 fun _ => ⟨f, HR.out.2.2.2.2⟩).mono ?_
  rintro r w3 ⟨rfl, tag3, h3, s3⟩
  rw [← hy] at h3
  exact ⟨by rw [hc], tag3, hS.out.1.step s3 CA0 h3, (hS.out.2.mono fun _ h => h.elim).trans s3⟩
 have hwy : WF y := by rw [hy]; exact HR.out.2.1.xx _
 have e0 : R = if c = 0 then (0, ((y.xk (y.B f) Ent.none).y8 ((n : Int), (page : Int))).vz f) else (c, y) := by
  rw [HR.out.1]
  unfold za.Yo
  rw [HR.out.2.2.2.1, if_neg (by simp), HR.out.2.2.2.2.1, ← hy, ← hc]
  by_cases k : c = 0
  ·rw [if_pos k, if_neg (by simpa using k)]
  ·rw [if_neg k, if_pos k]
   exact Prod.ext hc.symm hy.symm
 have HE := Lib.hid (And.intro e0 hwy)
 clear hc hy e0 hwy
 go_wp2_with fail
 refine CL.out.mono ?_
 rintro r w3 ⟨rfl, tag3, h3⟩
 have H3 := Lib.hid h3
 clear h3 CL n0 n1
 by_cases hc : c = 0
 ·subst hc
  have AL : Hid (Calls Tryz.prog 76 #[.pointer (some ⟨q.sp, 0, none⟩), .int .i64 f, .agg #[.int .i64 0, .int .i64 0, .bool false]] w3 fun r w6 => r = .returned (.tuple #[]) ∧ ∃ tag6, Loc w6 tag6 q (y.xk (y.B f) Ent.none) (keyL eb ((n : Int), (page : Int))) ∧ Step CA tag w tag6 w6) := by
   refine (ze9 H3.out.1.sp HE.out.2 f Ent.none (by decide)).mono ?_
   rintro r w6 ⟨rfl, tag6, h6, s6⟩
   exact ⟨rfl, tag6, H3.out.1.step s6 CA0 h6, H3.out.2.trans s6⟩
  go_wp2_with fail
  refine AL.out.mono ?_
  rintro r w4 ⟨rfl, tag4, h4⟩
  have H4 := Lib.hid h4
  clear h4 AL
  have d0 : w4.cell? ⟨eb, 0, none⟩ = some (.int .i64 n) := H4.out.1.get 0 rfl
  have d1 : w4.cell? ⟨eb, 1, none⟩ = some (.int .i64 page) := H4.out.1.get 1 rfl
  have d2 : w4.cell? ⟨q.sp, 4, none⟩ = some (.pointer (some ⟨q.cp, 0, none⟩)) := H4.out.1.cell (i := 4) (by omega)
  have DR : Hid (Calls Tryz.prog 84 #[.pointer (some ⟨q.cp, 0, none⟩), .agg #[.int .i64 n, .int .i64 page]] w4.drew fun r w6 => ∃ b, r = .returned (.bool b) ∧ (w6.cell? ⟨eb, 0, none⟩ = some (.int .i64 n) ∧ w6.cell? ⟨eb, 1, none⟩ = some (.int .i64 page) ∧ w6.cell? ⟨q.sp, 4, none⟩ = some (.pointer (some ⟨q.cp, 0, none⟩))) ∧ w6.cell? ⟨q.sp, 2, none⟩ = some (.pointer (some ⟨q.pp, 0, none⟩)) ∧ zb w6 tag4 q ((y.xk (y.B f) Ent.none).y8 ((n : Int), (page : Int))) ∧ Step CA tag w tag4 w6) := by
   refine (H4.out.1.drew.sp.cdrop ((n : Int), (page : Int))).mono ?_
   rintro r w6 ⟨⟨b, rfl⟩, h6, s6⟩
   have L6 := H4.out.1.drew.step s6 (by omega) h6
   exact ⟨b, rfl, ⟨L6.get 0 rfl, L6.get 1 rfl, L6.cell (i := 4) (by omega)⟩, L6.cell (i := 2) (by omega), h6, (H4.out.2.trans (Step.of_below (Below.refl _ _).drew)).trans (s6.mono fun c hc => by unfold CA; omega)⟩
  go_wp2_with fail
  go_region_held (fun W' => W'.cell? ⟨eb, 0, none⟩ = some (.int .i64 n) ∧ W'.cell? ⟨eb, 1, none⟩ = some (.int .i64 page) ∧ W'.cell? ⟨q.sp, 4, none⟩ = some (.pointer (some ⟨q.cp, 0, none⟩))) (go_keep)
   ((go_at_call 84; refine DR.out.mono ?_; rintro r w6 ⟨b, rfl, ⟨m0, m1, m2⟩, m3, HS⟩; have hS6 := Lib.hid HS; clear HS))
  clear DR d0 d1 d2 m0 m1 m2
  have FP : Hid (Calls Tryz.prog 44 #[.pointer (some ⟨q.pp, 0, none⟩), .int .i64 f] w6 fun r w7 => ∃ b, r = .returned (.bool b) ∧ ∃ tag7, zb w7 tag7 q R.2 ∧ Step CA tag w tag7 w7) := by
   refine (hS6.out.1.freeP f HR.out.2.2.2.2.2.1).mono ?_
   rintro r w7 ⟨⟨b, rfl⟩, h7, s7⟩
   refine ⟨b, rfl, tag4, ?_, hS6.out.2.trans (s7.mono fun c hc => by unfold CA; omega)⟩
   rw [HE.out.1]
   first | rw [if_pos rfl] | rw [if_pos trivial]
   exact h7
  go_wp2_with fail
  refine FP.out.mono ?_
  rintro r w7 ⟨b2, rfl, h7⟩
  have H7 := Lib.hid h7
  clear h7 FP m3
  go_wp2_with fail
  exact bodyPost_ret (v := .int .i64 0) (by simp [results, Tryz.results36, go_sem]) rfl ⟨by rw [HE.out.1]; first | rw [if_pos rfl] | rw [if_pos trivial], H7.out⟩
 ·have n2 : (c == 0) = false := beq_eq_false_iff_ne.2 hc
  have n3 : (c = 0) = False := eq_false hc
  have HRN := Lib.hid hc
  clear hc
  go_wp2_with fail
  exact bodyPost_ret (v := .int .i64 c) (by simp [results, Tryz.results36, go_sem]) rfl ⟨by rw [HE.out.1, if_neg HRN.out], tag3, by rw [HE.out.1, if_neg HRN.out]; exact H3.out.1.sp, H3.out.2⟩
theorem Drop_walk0 (h : zb w tag q x) (n page : Nat) (hn : n < 4) (hpg : page < 16) (hv : getL x.CL ((n : Int), (page : Int)) = none) :
  Calls Tryz.prog 36 #[ptrV q.sp, .int .i64 n, .int .i64 page] w fun r w' => r = .returned (.int .i64 2) ∧ Below w.heap.size w w' := by
 have b2 : Below w.heap.size w (w.alloc (.cells #[.int .i64 n, .int .i64 page] 133)) := (Below.refl _ _).alloc (Nat.le_refl _) _
 have nb := heap_alloc_new w (.cells #[.int .i64 n, .int .i64 page] 133)
 obtain ⟨L2, s2⟩ := h.loc0.more b2 (keyL w.heap.size ((n : Int), (page : Int))) (fun t ht => by
  simp [keyL] at ht
  rcases ht with rfl | rfl
  ·exact ⟨Nat.le_refl _, zn nb 0 rfl⟩
  ·exact ⟨Nat.le_refl _, zn nb 1 rfl⟩)
 rw [List.append_nil] at L2
 have i0 : (0 : Int) ≤ n := by omega
 have i1 : (n : Int) < 4 := by omega
 have i2 : (0 : Int) ≤ page := by omega
 have i3 : (page : Int) < 16 := by omega
 have HR := Lib.hid (And.intro hv b2)
 clear b2 nb h hv hn hpg s2
 unfold ptrV
 go_enter Tryz.func36, Tryz.ntmps36
 go_wp2_with fail
 obtain ⟨eb, heb⟩ : ∃ eb, eb = w.heap.size := ⟨_, rfl⟩
 obtain ⟨W2, hW2⟩ : ∃ W2, W2 = w.alloc (.cells #[.int .i64 n, .int .i64 page] 133) := ⟨_, rfl⟩
 rw [← hW2] at HR
 rw [← hW2, ← heb] at L2
 rw [← hW2]
 have HB := Lib.hid heb
 rw [← heb]
 clear hW2 heb i0 i1 i2 i3
 have d0 : W2.cell? ⟨eb, 0, none⟩ = some (.int .i64 n) := L2.get 0 rfl
 have d1 : W2.cell? ⟨eb, 1, none⟩ = some (.int .i64 page) := L2.get 1 rfl
 have d2 : W2.cell? ⟨q.sp, 4, none⟩ = some (.pointer (some ⟨q.cp, 0, none⟩)) := L2.cell (i := 4) (by omega)
 have FR : Hid (Calls Tryz.prog 96 #[.pointer (some ⟨q.cp, 0, none⟩), .agg #[.int .i64 n, .int .i64 page]] W2.drew fun r w2 => r = .returned (.tuple #[.int .i64 0, .bool false]) ∧ (w2.cell? ⟨eb, 0, none⟩ = some (.int .i64 n) ∧ w2.cell? ⟨eb, 1, none⟩ = some (.int .i64 page) ∧ w2.cell? ⟨q.sp, 4, none⟩ = some (.pointer (some ⟨q.cp, 0, none⟩))) ∧ Below w.heap.size w w2) := by
  refine (L2.drew.sp.Y4 ((n : Int), (page : Int))).mono ?_
  rintro r w2 ⟨rfl, hb⟩
  have L1 := L2.drew.below hb
  refine ⟨?_, ⟨L1.get 0 rfl, L1.get 1 rfl, L1.cell (i := 4) (by omega)⟩, HR.out.2.trans (((Below.refl _ _).drew.trans hb).mono HR.out.2.size)⟩
  rw [HR.out.1]
  rfl
 clear L2
 go_region_held (fun W' => W'.cell? ⟨eb, 0, none⟩ = some (.int .i64 n) ∧ W'.cell? ⟨eb, 1, none⟩ = some (.int .i64 page) ∧ W'.cell? ⟨q.sp, 4, none⟩ = some (.pointer (some ⟨q.cp, 0, none⟩))) (go_keep)
  ((go_at_call 96; refine FR.out.mono ?_; rintro r w2 ⟨rfl, ⟨n0, n1, n2⟩, HS⟩; have hS := Lib.hid HS; clear HS))
 clear FR d0 d1 d2 n2 n0 n1
 go_wp2_with fail
 exact bodyPost_ret (v := .int .i64 2) (by simp [results, Tryz.results36, go_sem]) rfl ⟨rfl, hS.out⟩
end
section
variable {w0 w w' : World} {V : List (Value × List Value)} {q : Sq} {x : za}
theorem AtQ.evOut (h : AtQ w0 V q x w) (wf : WF x) (n page : Nat) (hn : n < 8) {pr : ym} (hp : x.T n = some pr) (hpg : page < 4096) (hu : (x.ent n page).kind = 1 → x.P.use (x.ent n page).n.toNat = 3) :
  Calls Tryz.prog 27 #[ptrV q.sp, .int .i64 n, .int .i64 page] w fun e w' => e = .returned (.int .i64 (x.outF n page).1) ∧ AtQ w0 V q (x.outF n page).2 w' :=
 h.go CA0 fun _ hS => zkt hS wf n page hn hp hpg hu
theorem AtQ.zmh (h : AtQ w0 V q x w) (wf : WF x) (n page : Nat) (hn : n < 4) (hpg : page < 16) (f : Nat) (hv : (getL x.CL ((n : Int), (page : Int))).isSome = true) (hf : x.cfr ((n : Int), (page : Int)) = f) (hf1 : f < 1024) (hfb : x.R.bad f = false) :
  Calls Tryz.prog 36 #[ptrV q.sp, .int .i64 n, .int .i64 page] w fun e w' => e = .returned (.int .i64 (x.Yo ((n : Int), (page : Int))).1) ∧ AtQ w0 V q (x.Yo ((n : Int), (page : Int))).2 w' :=
 h.go CA0 fun _ hS => zgh hS wf n page hn hpg f hv hf hf1 hfb
theorem AtQ.used (h : AtQ w0 V q x w) (wf : WF x) : Calls Tryz.prog 51 #[.pointer (some ⟨q.wp, 0, none⟩)] w fun e w' => e = .returned (.int .i64 (Xm x.S)) ∧ AtQ w0 V q x w' := by
 obtain ⟨tag, hS, _⟩ := h.st
 refine (hS.usedS wf).mono ?_
 rintro e w1 ⟨rfl, hb⟩
 exact ⟨rfl, h.below hb⟩
end
section
variable {w w' : World} {tag tag' : Nat → Nat} {q : Sq} {x : za}
theorem za7 (x : za) (l : List (Int × Int)) (k : Int × Int) : x.yx (l ++ [k]) = ((x.yx l).xx k).2 := by
 unfold za.yx
 rw [List.foldl_append]
 rfl
def U4 (x : za) (n : Nat) (l : List (Int × Int)) : Prop := ∀ k, k ∈ l ↔ (getL x.CL k).isSome = true ∧ k.1 = (n : Int)
theorem ziw (h : zb w tag q x) (ok : Ok0 x) (hc : x.D.Calm) (n : Nat) (hn : n < 4) :
  Calls Tryz.prog 48 #[ptrV q.sp, .int .i64 n] w fun r w' => r = .returned (.int .i64 0) ∧ ∃ l tag', U4 x n l ∧ zb w' tag' q { x.yx l with D := (x.yx l).D.flush } ∧ Step CA tag w tag' w' := by
 have c4 : w.cell? ⟨q.sp, 4, none⟩ = some (.pointer (some ⟨q.cp, 0, none⟩)) := h.row.cell (i := 4) (by omega)
 have hlen : x.CL.length ≤ 1000000 := by
  have hinj : ((x.CL.map (·.1)).map za.yc).Nodup := by
   unfold List.Nodup
   rw [List.pairwise_map]
   refine List.Pairwise.imp_of_mem (fun {a b} ha hb hne e => ?_) ok.ok.wf.nd.1
   have ka : ∀ k ∈ x.CL.map (·.1), xc k := fun k hk => by
    obtain ⟨v, hv⟩ := Option.isSome_iff_exists.1 (Vg.1 hk)
    exact ok.ok.cacheK k v hv
   exact hne (zbp (ka a ha) (ka b hb) e)
  have := Ve 192 _ hinj fun f hf => by
   obtain ⟨k, hk, rfl⟩ := List.mem_map.1 hf
   obtain ⟨v, hv⟩ := Option.isSome_iff_exists.1 (Vg.1 hk)
   exact Zx (ok.ok.cacheK k v hv)
  simp at this
  omega
 have i0 : (0 : Int) ≤ n := by omega
 have i1 : (n : Int) < 4 := by omega
 have KE : Hid (Calls Tryz.prog 108 #[.pointer (some ⟨q.cp, 0, none⟩), .int .i64 n] w fun r w1 => ∃ a c l, r = .returned (.slice a l.length c) ∧ U4 x n l ∧ KeAt w1 (.slice a l.length c) l ∧ l.length ≤ 1000000 ∧
   zb w1 (retag tag w 0) q x ∧ Step (fun _ => False) tag w (retag tag w 0) w1 ∧ ∀ b, (Value.slice a l.length c).ownBlock = some b → retag tag w 0 b = 0) := by
  refine (zkz w q.cp q.c1 q.c2 x.CL x.CR h.cache.1 hlen n).mono ?_
  rintro r w1 ⟨v, ks, rfl, hs, hk, hb, ho⟩
  obtain ⟨a, c, rfl, _, _⟩ := SlAt.form hk
  have s : Step (fun _ => False) tag w (retag tag w 0) w1 := Step.anew hb
  refine ⟨a, c, _, rfl, fun k => ?_, hk, ?_, h.step s, s, fun b hb2 => ?_⟩
  ·rw [List.mem_filter, hs.1.mem_iff, Vg]
   unfold jb
   have e0 : decide (0 ≤ (n : Int)) = true := decide_eq_true i0
   rw [e0]
   simp
  ·have h1 := List.length_filter_le (fun y => !jb n y) ks
   have h2 := hs.1.length_eq
   simp at h2
   omega
  ·exact zy _ _ _ _ (ho b hb2)
 obtain ⟨tag0, ht0⟩ : ∃ tag0, tag0 = retag tag w 0 := ⟨_, rfl⟩
 rw [← ht0] at KE
 have HO := Lib.hid (And.intro ok hc)
 clear h ok hc hlen hn ht0
 unfold ptrV
 go_enter Tryz.func48, Tryz.ntmps48
 go_wp2_with fail
 refine KE.out.mono ?_
 rintro r w1 ⟨a, c, l, rfl, hf, hk, hl, h1, s1, ho⟩
 have HK := Lib.hid (And.intro hf hl)
 have HL : ∀ m, m ⊆ l → SyncD x m (x.yx m) := fun m hm => HO.out.1.yx m HO.out.2 fun q hq => ((hf q).1 (hm hq)).1
 have HLL := Lib.hid HL
 have H1 := Lib.hid (And.intro h1 (And.intro s1 (And.intro hk ho)))
 clear hf hl h1 s1 ho hk KE HL c4
 go_wp2_with fail
 go_loopw [25] (fun iv W => ∃ (i : Nat) (tag' : Nat → Nat), i ≤ l.length ∧ iv = .int .i64 i ∧ zb W tag' q (x.yx (l.take i)) ∧ Step CA tag w tag' W ∧ KeAt W (.slice a l.length c) l ∧ ∀ b, (Value.slice a l.length c).ownBlock = some b → tag' b = 0) (fun iv _ => l.length - (intOf iv).toNat)
 case atStart => exact ⟨0, tag0, by omega, rfl, H1.out.1, H1.out.2.1.mono fun _ h => h.elim, H1.out.2.2.1, H1.out.2.2.2⟩
 case round =>
  obtain ⟨i, tg, hi, rfl, hS, hSt, hPl, hOw⟩ := hrel
  clear H1
  by_cases hlt : i < l.length
  ·obtain ⟨p, hp⟩ : ∃ p, l[i]? = some p := ⟨l[i], List.getElem?_eq_getElem hlt⟩
   obtain ⟨pb, poff, e0⟩ := KeAt.addr hPl (by omega)
   subst e0
   obtain ⟨k0, k1⟩ := KeAt.cell hPl hp
   have hmem := List.mem_of_getElem? hp
   obtain ⟨p1, p2⟩ := p
   have hks := (HK.out.1 (p1, p2)).1 hmem
   obtain ⟨v, hv⟩ := Option.isSome_iff_exists.1 hks.1
   have D0 := HLL.out (l.take i) (List.take_subset i l)
   have hko := HO.out.1.ok.cacheK (p1, p2) v hv
   obtain ⟨f, q1, q2, q3, q4, q5⟩ := HO.out.1.ok.Y4 hv
   have hb2 := (Below.refl wr.heap.size wr).alloc (Nat.le_refl _) (.cells #[.int .i64 p1, .int .i64 p2] 133)
   have CLN : Hid (Calls Tryz.prog 97 #[.pointer (some ⟨q.sp, 0, none⟩), .agg #[.int .i64 p1, .int .i64 p2]] (wr.alloc (.cells #[.int .i64 p1, .int .i64 p2] 133)) fun r w3 => r = .returned (.int .i64 0) ∧ ∃ tag3, zb w3 tag3 q (x.yx (l.take (i + 1))) ∧ Step CA tag w tag3 w3 ∧ KeAt w3 (.slice (some ⟨pb, poff, none⟩) l.length c) l ∧ ∀ b, (Value.slice (some ⟨pb, poff, none⟩) l.length c).ownBlock = some b → tag3 b = 0) := by
    have s2 : Step (fun _ => False) tg wr (retag tg wr 0) (wr.alloc (.cells #[.int .i64 p1, .int .i64 p2] 133)) := Step.anew hb2
    have hS2 := hS.step s2
    have hcf : (x.yx (l.take i)).cfr (p1, p2) = f := by rw [D0.cfr]; unfold za.cfr; rw [hv]; exact q1
    refine (zae hS2 D0.ok.ok.wf (p1, p2) hko fun _ => ⟨f, hcf, q2, by rw [D0.same.2.2.2.2.1]; exact q5⟩).mono ?_
    rintro r w3 ⟨rfl, tag3, h3, s3⟩
    have e1 : l.take (i + 1) = l.take i ++ [(p1, p2)] := by rw [List.take_add_one, hp]; rfl
    rw [e1, za7]
    have e2 : ((x.yx (l.take i)).xx (p1, p2)).1 = 0 := (D0.ok.xx hko (by rw [D0.keys]; exact hks.1) (fun _ => by rw [D0.calm.work])).1
    have hPl2 : KeAt (wr.alloc (.cells #[.int .i64 p1, .int .i64 p2] 133)) (.slice (some ⟨pb, poff, none⟩) l.length c) l := hPl.below hb2
    have hOw2 : ∀ b, (Value.slice (some ⟨pb, poff, none⟩) l.length c).ownBlock = some b → retag tg wr 0 b = 0 := fun b hb => by
     unfold retag
     split
     ·exact hOw b hb
     ·rfl
    refine ⟨by rw [e2], tag3, h3, (hSt.trans (s2.mono fun _ h => h.elim)).trans s3, hPl2.keep fun b hb => (s3.keeps CA0 b (SlAt.lt hPl2 b hb) (hOw2 b hb)).2, fun b hb => (s3.keeps CA0 b (SlAt.lt hPl2 b hb) (hOw2 b hb)).1⟩
   have j1 : (i : Int) < l.length := by omega
   have j2 : (0 : Int) ≤ i := by omega
   have HLT := Lib.hid (And.intro hlt (And.intro hi HK.out.2))
   dsimp only at k0 k1
   clear hS hSt hPl hOw hb2 hlt hi hp hmem hks hv D0 hko q1 q2 q3 q4 q5
   go_wp2_with fail
   refine CLN.out.mono ?_
   rintro r w3 ⟨rfl, tag3, h3⟩
   have H3 := Lib.hid h3
   clear h3 CLN k0 k1
   have d5 : IntKind.i64.wrap ((i : Int) + 1) = i + 1 := by have := HLT.out; simp [IntKind.wrap, IntKind.bits, IntKind.signed]; omega
   clear j1 j2
   go_wp2_with fail
   go_roundw
   case rel => exact ⟨i + 1, tag3, HLT.out.1, by go_num, H3.out⟩
   case measure => have := HLT.out.1; simp [intOf]; omega
  ·obtain rfl : i = l.length := by omega
   rw [List.take_length] at hS
   have D0 := HLL.out l (List.Subset.refl l)
   have c1 : wr.cell? ⟨q.sp, 1, none⟩ = some (.pointer (some ⟨q.dp, 0, none⟩)) := hS.row.cell (i := 1) (by omega)
   have FL : Hid (Calls Tryz.prog 56 #[.pointer (some ⟨q.dp, 0, none⟩)] wr fun e w' => e = .returned (.int .i64 0) ∧ zb w' tg q { x.yx l with D := (x.yx l).D.flush } ∧ Step CA tag w tg w') := by
    refine hS.flush.mono ?_
    rintro e w3 ⟨rfl, h3, s3⟩
    rw [D0.calm.work] at h3 ⊢
    exact ⟨rfl, h3, hSt.trans (s3.mono fun c hc => by unfold CA; omega)⟩
   clear hS hSt hPl hOw D0
   go_wp2_with fail
   refine FL.out.mono ?_
   rintro r w3 ⟨rfl, h3⟩
   have H3 := Lib.hid h3
   clear h3 FL c1
   go_wp2_with fail
   exact bodyPost_ret (v := .int .i64 0) (by simp [results, Tryz.results48, go_sem]) rfl ⟨rfl, l, tg, HK.out.1, H3.out⟩
end
def zq.failing (D : zq) (c : Nat) : zq := { D with first := 0, fail := (c : Int) }
theorem zi8 {O : Nat → Prop} {p sb off c mb : Nat} {V : Nat → Value} {L : List (Int × Value)} {D : zq} (w : World) (h : yw w O p sb off c mb V L D) (k : Nat) (hk : k ≤ 1) :
  Calls Tryz.prog 47 #[.pointer (some ⟨p, 0, none⟩), .int .i64 0, .int .i64 k] w fun e w' => e = .returned (.tuple #[]) ∧ yw w' O p sb off c mb V L (D.failing k) ∧ Turn O w w' := by
 obtain ⟨h1, t1⟩ := h.ctl1 (D' := { D with first := 0 }) 2 (.int .i64 0) (by omega) (fun j hj => by
  rcases (by omega : j = 0 ∨ j = 1 ∨ j = 2 ∨ j = 3 ∨ j = 4 ∨ j = 5) with rfl | rfl | rfl | rfl | rfl | rfl <;> rfl) rfl rfl (by unfold i63; dsimp only; omega) h.n2 h.n3
 obtain ⟨h2, t2⟩ := h1.ctl1 (D' := D.failing k) 3 (.int .i64 k) (by omega) (fun j hj => by
  rcases (by omega : j = 0 ∨ j = 1 ∨ j = 2 ∨ j = 3 ∨ j = 4 ∨ j = 5) with rfl | rfl | rfl | rfl | rfl | rfl <;> rfl) rfl rfl (by unfold i63; dsimp only [zq.failing]; omega) (by unfold i63; dsimp only [zq.failing]; omega) h.n3
 have c2 := h.row.cell (i := 2) (by omega)
 have z2 := h.row.frozen 2
 have c3 := h1.row.cell (i := 3) (by omega)
 have z3 := h1.row.frozen 3
 have HF := Lib.hid (And.intro h2 (t1.trans t2))
 clear h h1 h2 t1 t2
 rcases (by omega : k = 0 ∨ k = 1) with rfl | rfl
 ·go_enter Tryz.func47, Tryz.ntmps47
  go_wp2_with fail
  exact bodyPost_end (v := .tuple #[]) (by simp [results, Tryz.results47, go_sem]) rfl ⟨rfl, HF.out⟩
 ·go_enter Tryz.func47, Tryz.ntmps47
  go_wp2_with fail
  exact bodyPost_end (v := .tuple #[]) (by simp [results, Tryz.results47, go_sem]) rfl ⟨rfl, HF.out⟩
section
variable {w0 w w' : World} {V : List (Value × List Value)} {q : Sq} {x : za}
theorem AtQ.fail (h : AtQ w0 V q x w) (k : Nat) (hk : k ≤ 1) : Calls Tryz.prog 47 #[.pointer (some ⟨q.dp, 0, none⟩), .int .i64 0, .int .i64 k] w fun e w' => e = .returned (.tuple #[]) ∧ AtQ w0 V q { x with D := x.D.failing k } w' := by
 refine h.go (C := fun c => c = 3) (by omega) fun tag hS => ?_
 obtain ⟨sb, off, c, mb, W, L, hD⟩ := hS.disk
 refine (zi8 w hD k hk).mono ?_
 rintro e w1 ⟨rfl, h1, t1⟩
 have kk := hS.zkb t1 ⟨sb, off, c, mb, W, L, h1⟩
 exact ⟨rfl, tag, kk.1, kk.2⟩
end
theorem zjv (w : World) (C : Array Value) (T : TypeId) (fz : Nat × Nat) (j : Nat) : (w.alloc (.cells C T fz)).cell? ⟨w.heap.size, j, none⟩ = C[j]? := by
 have : (w.alloc (.cells C T fz)).heap[w.heap.size]? = some (.cells C T fz) := by
  show (w.heap.push _)[w.heap.size]? = _
  simp
 unfold World.cell?
 rw [this]
 simp
end Go.Proofs.YtnhdmnijiphjjaaGreat
