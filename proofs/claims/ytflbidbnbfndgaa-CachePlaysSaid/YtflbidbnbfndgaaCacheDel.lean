/- The cache's keys: slices.DeleteFunc by the closure of Keys, slices.Clip; Keys. -/
import Derived.Test.YtflbidbnbfndgaaCacheSort
import Derived.Test.YtflbidbnbfndgaaShelfIdx
import Derived.Shelf.SlicesQ.IndexFunc
namespace Go.Proofs.Ytflbidbnbfndgaa
open Go Go.RowKit

/-- The closure of Keys: is it another file's? -/
def otherF (file : Int) (x : Int × Int) : Bool := decide (0 ≤ file) && decide (x.1 ≠ file)

set_option maxRecDepth 100000 in
theorem other_pred (w : World) (B : Nat) (file : Int) (hB : B < w.heap.size) (hc : w.cell? ⟨B, 0, none⟩ = some (.int .i64 file)) :
    PredBelow Try.prog 54 #[.pointer (some ⟨B, 0, none⟩)] (fun x : Int × Int => .agg (encP x).toArray) (otherF file) w := by
  intro W x hb
  have hc' := (hb.cell (p := ⟨B, 0, none⟩) hB).trans hc
  have hBW : B < W.heap.size := Nat.lt_of_lt_of_le hB hb.size
  have HB := Lib.hid hb
  clear hb hc
  simp only [encP]
  obtain ⟨x1, x2⟩ := x
  unfold otherF
  simp only
  by_cases h0 : 0 ≤ file
  · rw [decide_eq_true h0, Bool.true_and]
    by_cases h1 : x1 = file
    · have h1' : (x1 == file) = true := by simpa using h1
      go_enter Try.func54, Try.ntmps54
      go_wp2_with fail
      go_ret
      exact ⟨by simp [h1], HB.out.alloc HB.out.size _⟩
    · have h1' : (x1 == file) = false := by simpa using h1
      go_enter Try.func54, Try.ntmps54
      go_wp2_with fail
      go_ret
      exact ⟨by simp [h1], HB.out.alloc HB.out.size _⟩
  · rw [decide_eq_false h0, Bool.false_and]
    go_enter Try.func54, Try.ntmps54
    go_wp2_with fail
    go_ret
    exact ⟨rfl, HB.out.alloc HB.out.size _⟩

theorem IndexK_walk (w : World) (v : Value) (l : List (Int × Int)) (h : KeAt w v l) (B : Nat) (file : Int) (hB : B < w.heap.size) (hc : w.cell? ⟨B, 0, none⟩ = some (.int .i64 file)) :
    Calls Try.prog 69 #[v, .func (.func 54) #[] #[.pointer (some ⟨B, 0, none⟩)]] w fun e w' => e = .returned (.int .i64 (Lib.idxBy (fun _ y => otherF file y) l default)) ∧ Below w.heap.size w w' := by
  rcases h.form with ⟨rfl, rfl⟩ | ⟨b, off, c, rfl, hcc, hm, hb⟩
  · go_enter Try.func69, Try.ntmps69
    go_wp2
    refine wp_loop_rounds 1 ?_
    rw [rounds_succ]
    go_wp2
    go_ret
    exact ⟨rfl, Below.refl _ _⟩
  · have eg : ∀ args w, (callFunc 54 args).run Try.prog w = .ok (.enter 54 args) w := enters_of Try.func54 (by kernel_rfl) rfl
    have := AnyQ.slices_IndexFunc laysIndexKey 2 (fun w => by kernel_rfl) (fun w => by kernel_rfl) encP encP_len (otherF file) 54 #[.pointer (some ⟨B, 0, none⟩)] eg b off l.length c l w (other_pred w B file hB hc) (Nat.le_refl _) (by unfold maxLen at hm; omega) hb (fun j hj i v hv => by
      rw [getElem!_pos l j hj] at hv
      obtain ⟨h1, h2⟩ := h.cell (List.getElem?_eq_getElem hj)
      match i with
      | 0 => cases hv; exact h1
      | 1 => cases hv; exact h2
      | i + 2 => simp [encP] at hv)
    rw [List.take_length] at this
    exact this

theorem ClipK_walk (w : World) (v : Value) (l : List (Int × Int)) (h : KeAt w v l) :
    Calls Try.prog 55 #[v] w fun e w' => ∃ v', e = .returned v' ∧ KeAt w' v' l ∧ w' = w ∧ v'.ownBlock = v.ownBlock := by
  rcases h.form with ⟨rfl, rfl⟩ | ⟨b, off, c, rfl, hc, hm, hb⟩
  · go_enter Try.func55, Try.ntmps55
    go_wp2_with fail
    go_ret
    exact ⟨_, rfl, KeAt.nil w, rfl, rfl⟩
  · go_enter Try.func55, Try.ntmps55
    go_wp2_with fail
    go_ret
    refine ⟨_, rfl, ?_, rfl, rfl⟩
    rcases h.2 with ⟨e, _⟩ | ⟨b', off', c', arr, e, hg, hnc, hcm, hsz, hx⟩
    · cases e
    · cases e
      exact ⟨h.1, .inr ⟨b, off, l.length, arr, rfl, hg, Nat.le_refl _, by omega, by omega, hx⟩⟩

theorem idxBy_cases (q : Int × Int → Bool) (l : List (Int × Int)) : (Lib.idxBy (fun _ y => q y) l default = -1 ∧ ∀ x ∈ l, q x = false) ∨ ∃ (k : Nat) (x : Int × Int), l[k]? = some x ∧ Lib.idxBy (fun _ y => q y) l default = (k : Int) ∧ q x = true ∧ ∀ y ∈ l.take k, q y = false := by
  have key : ∀ (l : List (Int × Int)) (i : Nat), (Lib.idxByFrom (fun _ y => q y) default l i = -1 ∧ ∀ x ∈ l, q x = false) ∨ ∃ (k : Nat) (x : Int × Int), l[k]? = some x ∧ Lib.idxByFrom (fun _ y => q y) default l i = ((i + k : Nat) : Int) ∧ q x = true ∧ ∀ y ∈ l.take k, q y = false := by
    intro l
    induction l with
    | nil => exact fun i => .inl ⟨rfl, by simp⟩
    | cons a l ih =>
      intro i
      unfold Lib.idxByFrom
      by_cases h : q a = true
      · rw [if_pos h]
        exact .inr ⟨0, a, rfl, by simp, h, by simp⟩
      · rw [if_neg h]
        have h' : q a = false := by simpa using h
        rcases ih (i + 1) with ⟨h1, h2⟩ | ⟨k, x, h1, h2, h3, h4⟩
        · exact .inl ⟨h1, fun x hx => (List.mem_cons.1 hx).elim (fun e => e ▸ h') (fun hx => h2 x hx)⟩
        · refine .inr ⟨k + 1, x, by simpa using h1, by rw [h2]; congr 1; omega, h3, fun y hy => ?_⟩
          rw [List.take_succ_cons] at hy
          rcases List.mem_cons.1 hy with rfl | hy
          · exact h'
          · exact h4 y hy
  have := key l 0
  simp only [Nat.zero_add] at this
  exact this

/-- One stored into its place. -/
theorem KeAt.put {w : World} {b off c : Nat} {l : List (Int × Int)} {n : Nat} (h : KeAt w (.slice (some ⟨b, off, none⟩) n c) l) {k : Nat} (hk : k < l.length) (x : Int × Int) :
    KeAt ((w.setCell ⟨b, off + k * 2, none⟩ (.int .i64 x.1)).setCell ⟨b, off + k * 2 + 1, none⟩ (.int .i64 x.2)) (.slice (some ⟨b, off, none⟩) n c) (l.set k x) := by
  refine ⟨by rw [pl_length], ?_⟩
  rcases h.2 with ⟨e, _⟩ | ⟨g, off', c', arr, e, hg, hnc, hm, hs, hxs⟩
  · cases e
  · cases e
    refine .inr ⟨b, off, c, (arr.set! (off + k * 2) (.int .i64 x.1)).set! (off + k * 2 + 1) (.int .i64 x.2), by rw [List.length_set], ?_, by rw [List.length_set]; exact hnc, hm, by simp; omega, fun j u hu => ?_⟩
    · unfold World.setCell
      simp [Array.getElem?_modify, hg]
    · have hj := (List.getElem?_eq_some_iff.1 hu).1
      rw [pl_length, List.length_set] at hj
      have hq : j / 2 < l.length := by omega
      have hq' : j / 2 < (l.set k x).length := by simpa using hq
      have hsz : off + j < arr.size := by have := Nat.mul_le_mul_right 2 hnc; omega
      obtain ⟨g1, g2⟩ := pl_get _ _ hq
      obtain ⟨k1, k2⟩ := pl_get _ _ hq'
      rw [Array.set!_eq_setIfInBounds, Array.set!_eq_setIfInBounds, Array.getElem?_setIfInBounds, Array.getElem?_setIfInBounds]
      by_cases hjk : j / 2 = k
      · have e1 : (l.set k x)[j / 2] = x := by simp [hjk]
        rw [e1] at k1 k2
        rcases Nat.mod_two_eq_zero_or_one j with hm2 | hm2
        · have ej : j = j / 2 * 2 := by omega
          rw [← ej, hu] at k1
          rw [if_neg (by omega), if_pos (by omega), if_pos (by omega)]
          exact k1.symm
        · have ej : j = j / 2 * 2 + 1 := by omega
          rw [← ej, hu] at k2
          rw [if_pos (by omega), if_pos (by simp; omega)]
          exact k2.symm
      · have e1 : (l.set k x)[j / 2] = l[j / 2] := List.getElem_set_ne (fun e => hjk e.symm) _
        rw [e1] at k1 k2
        rw [if_neg (by omega), if_neg (by omega)]
        rcases Nat.mod_two_eq_zero_or_one j with hm2 | hm2
        · have ej : j = j / 2 * 2 := by omega
          rw [← ej] at k1 g1
          exact hxs j u (by rw [g1, ← k1]; exact hu)
        · have ej : j = j / 2 * 2 + 1 := by omega
          rw [← ej] at k2 g2
          exact hxs j u (by rw [g2, ← k2]; exact hu)
theorem KeAt.okSet {w : World} {b off c : Nat} {l : List (Int × Int)} {n : Nat} (h : KeAt w (.slice (some ⟨b, off, none⟩) n c) l) (i : Nat) (hl : 0 < l.length) : w.frozen? ⟨b, off + i, none⟩ = false := by
  rcases h.2 with ⟨e, _⟩ | ⟨g, off', c', arr, e, hg, _⟩
  · cases e
  · cases e
    simp [World.frozen?, hg]

/-- 'clear' of a slice of keys: a row of the block's cells is turned, all others stay. -/
theorem clearK_run (w : World) (ty : TypeId) (b o n c : Nat) (arr : Array Value) (e : TypeId) (hg : w.heap[b]? = some (.cells arr e (0, 0))) (hfit : o + n * 2 ≤ arr.size) :
    ∃ arr' : Array Value, (Builtin.clear_ #[52] ty #[.slice (some ⟨b, o, none⟩) n c]).run Try.prog w = .ok (.tuple #[]) (w.setRow b arr') ∧ arr'.size = arr.size ∧ (∀ j, j < o → arr'[j]? = arr[j]?) ∧ (w.setRow b arr').heap[b]? = some (.cells arr' e (0, 0)) := by
  cases n with
  | zero => exact ⟨arr, by rw [setRow_id w b arr e hg]; simp [Builtin.clear_, run_underlying Try.underlying52], rfl, fun _ _ => rfl, by rw [setRow_id w b arr e hg]; exact hg⟩
  | succ n =>
    have hz : ∀ w, (zeroValue 23).run Try.prog w = .ok (.agg #[.int .i64 0, .int .i64 0]) w := fun w => by kernel_rfl
    have hl : (Builtin.zeroCells (Value.agg #[.int .i64 0, .int .i64 0]).cells (n + 1)).toList.length = (n + 1) * 2 := by simp [Builtin.zeroCells, Value.cells]
    have hall : ∀ u ∈ (Builtin.zeroCells (Value.agg #[.int .i64 0, .int .i64 0]).cells (n + 1)).toList, u.oneCell' = true := by
      intro u hu
      simp [Builtin.zeroCells, Value.cells] at hu
      obtain ⟨i, hi, rfl⟩ := hu
      rcases Nat.mod_two_eq_zero_or_one i with h | h <;> simp [h, Value.oneCell']
    obtain ⟨arr', h1, h2, h3, _, _, h6⟩ := store_row Try.prog w b o _ arr e hg (by rw [hl]; exact hfit) hall
    exact ⟨arr', by simp [Builtin.clear_, run_underlying Try.underlying52, hz, h1], h2, h3, h6⟩


theorem takeK {l : List (Int × Int)} {k : Nat} {y : Int × Int} (hy : l[k]? = some y) : l.take (k + 1) = l.take k ++ [y] := by
  obtain ⟨hj, rfl⟩ := List.getElem?_eq_some_iff.1 hy
  rw [List.take_succ_eq_append_getElem hj]
theorem filter_none {q : Int × Int → Bool} {l : List (Int × Int)} (h : ∀ x ∈ l, q x = false) : l.filter (fun x => !q x) = l := List.filter_eq_self.2 fun x hx => by rw [h x hx]; rfl

set_option maxRecDepth 100000 in
set_option maxHeartbeats 4000000 in
theorem DeleteK_walk (w : World) (v : Value) (l : List (Int × Int)) (h : KeAt w v l) (hlen : l.length ≤ 1000000) (B : Nat) (file : Int) (hB : B < w.heap.size) (hc : w.cell? ⟨B, 0, none⟩ = some (.int .i64 file)) (hne : ∀ b, v.ownBlock = some b → b ≠ B) :
    Calls Try.prog 56 #[v, .func (.func 54) #[] #[.pointer (some ⟨B, 0, none⟩)]] w fun e w' => ∃ v', e = .returned v' ∧ KeAt w' v' (l.filter fun x => !otherF file x) ∧ Touch v.ownBlock.toList w w' ∧ v'.ownBlock = v.ownBlock := by
  have hidx := Lib.hid (IndexK_walk w v l h B file hB hc)
  rcases idxBy_cases (otherF file) l with ⟨h1, h2⟩ | ⟨k0, x0, hk0, h1, h2, h3⟩
  · rw [h1] at hidx
    rw [filter_none h2]
    have H := Lib.hid h
    obtain ⟨av, cv, rfl, _, _⟩ := SlAt.form h
    clear h hlen hB hc hne h1 h2
    go_enter Try.func56, Try.ntmps56
    go_wp2_with fail
    refine hidx.out.mono ?_
    rintro e w1 ⟨rfl, b1⟩
    have HB := Lib.hid b1
    clear b1
    go_wp2_with fail
    go_ret
    exact ⟨_, rfl, H.out.below HB.out, Touch.of_below HB.out, rfl⟩
  · rw [h1] at hidx
    have hkl : k0 < l.length := (List.getElem?_eq_some_iff.1 hk0).1
    rcases h.form with ⟨rfl, rfl⟩ | ⟨b, off, c, rfl, hcc, hm, hbs⟩
    · simp at hkl
    · obtain ⟨n, hn⟩ : ∃ n, n = l.length := ⟨_, rfl⟩
      have HN := Lib.hid hn
      have H := Lib.hid h
      have hbB : b ≠ B := hne b rfl
      have HC := Lib.hid hc
      have hst : Hid ((l.take k0) = (l.take (k0 + 1)).filter (fun x => !otherF file x)) := by
        show _ = _
        rw [takeK hk0, List.filter_append, filter_none h3]
        simp [h2]
      rw [← hn] at hlen hkl hcc H ⊢
      rw [← hn] at hidx
      clear h h1 h2 h3 hc hne hn
      have hk0i : ¬ ((k0 : Int) = -1) := by omega
      have hk0b : ((k0 : Int) == -1) = false := by simp
      have hkw : IntKind.i64.wrap ((k0 : Int) + 1) = k0 + 1 := by simp [IntKind.wrap, IntKind.bits, IntKind.signed]; omega
      go_enter Try.func56, Try.ntmps56
      go_wp2_with fail
      refine hidx.out.mono ?_
      rintro e w1 ⟨rfl, b1⟩
      have B1 := Lib.hid b1
      clear b1
      go_wp2_with fail
      go_loopw [5, 6, 7] (fun i j _ wr => ∃ (ki kj : Nat) (M : List (Int × Int)), ki < kj ∧ kj ≤ n ∧ i = .int .i64 ki ∧ j = .int .i64 kj ∧ M.length = n ∧ Touch [b] w wr ∧ KeAt wr (.slice (some ⟨b, off, none⟩) n c) M ∧ M.take ki = (l.take kj).filter (fun x => !otherF file x) ∧ M.drop kj = l.drop kj) (fun _ j _ _ => n - (intOf j).toNat)
      case atStart => exact ⟨k0, k0 + 1, l, by omega, by omega, rfl, by simp, HN.out.symm, Touch.of_below B1.out, H.out.below B1.out, hst.out, rfl⟩
      case round =>
        obtain ⟨ki, kj, M, hij, hjn, rfl, rfl, hml, htc, hat, htk, hdr⟩ := hrel
        have HML := Lib.hid hml
        have HTC := Lib.hid htc
        have HAT := Lib.hid hat
        have HTK := Lib.hid htk
        have HDR := Lib.hid hdr
        have HCB := (htc.cell HC.out (by simp; exact Ne.symm hbB))
        have hbw : b < wr.heap.size := Nat.lt_of_lt_of_le hbs htc.size
        have HCB' := Lib.hid HCB
        have hBw : B < wr.heap.size := Nat.lt_of_lt_of_le hB htc.size
        clear hml htc hat htk hdr HCB
        by_cases hlt : kj < n
        · have hlt' : (kj : Int) < n := by omega
          obtain ⟨y, hy⟩ : ∃ y, l[kj]? = some y := ⟨_, List.getElem?_eq_getElem (by rw [← HN.out]; exact hlt)⟩
          have hMy : M[kj]? = some y := by
            have := congrArg (fun z => z[0]?) HDR.out
            simpa [List.getElem?_drop, hy] using this
          have HY := Lib.hid hy
          obtain ⟨e0, e1⟩ := HAT.out.cell hMy
          have hnxt : Hid ((l.take (kj + 1)).filter (fun x => !otherF file x) = (l.take kj).filter (fun x => !otherF file x) ++ (if otherF file y then [] else [y])) := by
            show _ = _
            rw [takeK hy, List.filter_append]
            cases hq : otherF file y <;> simp [hq]
          have hdn : Hid (M.drop (kj + 1) = l.drop (kj + 1)) := by
            show _ = _
            rw [← List.drop_drop, ← List.drop_drop, HDR.out]
          obtain ⟨y1, y2⟩ := y
          simp only at e0 e1
          clear hy hMy
          have hpr := Lib.hid (fun W (hb : Below wr.heap.size wr W) => (other_pred W B file (Nat.lt_of_lt_of_le hBw hb.size) ((hb.cell (p := ⟨B, 0, none⟩) hBw).trans HCB'.out)) W (y1, y2) (Below.refl _ _))
          have BA := (Below.refl wr.heap.size wr).alloc (Nat.le_refl _) (.cells #[.int .i64 y1, .int .i64 y2] 23)
          have BA' := Lib.hid BA
          have KA : Hid ((wr.alloc (.cells #[.int .i64 y1, .int .i64 y2] 23)).heap[wr.heap.size]? = some (.cells #[.int .i64 y1, .int .i64 y2] 23 (0, 0))) := heap_alloc_new wr _
          clear BA
          simp only [encP] at hpr
          cases hq : otherF file (y1, y2)
          · rw [hq] at hpr hnxt
            go_wp2_with fail
            refine (hpr.out _ BA'.out).mono ?_
            rintro e W2 ⟨rfl, b2⟩
            have B2 := Lib.hid (BA'.out.trans (b2.mono BA'.out.size))
            have K2 := Lib.hid ((b2.block wr.heap.size (by simp)).trans KA.out)
            clear b2 BA' KA e0 e1
            have f0 : W2.cell? ⟨wr.heap.size, 0, none⟩ = some (.int .i64 y1) := by rw [cell_of_row W2 _ 0 _ _ _ K2.out]; rfl
            have f1 : W2.cell? ⟨wr.heap.size, 1, none⟩ = some (.int .i64 y2) := by rw [cell_of_row W2 _ 1 _ _ _ K2.out]; rfl
            have A2 := Lib.hid (HAT.out.below B2.out)
            have hkiM : ki < M.length := by rw [HML.out]; omega
            have PUT := Lib.hid (A2.out.put hkiM (y1, y2))
            obtain ⟨z, hz⟩ : ∃ z, M[ki]? = some z := ⟨_, List.getElem?_eq_getElem hkiM⟩
            obtain ⟨d0, d1⟩ := A2.out.cell hz
            have q0 := A2.out.okSet (ki * 2) (by omega)
            have q1 := A2.out.okSet (ki * 2 + 1) (by omega)
            rw [← Nat.add_assoc] at q1
            have hkn : (ki : Int) < n := by omega
            go_wp2_with fail
            go_roundw
            case rel =>
              refine ⟨ki + 1, kj + 1, M.set ki (y1, y2), by omega, by omega, by go_num, by go_num, by rw [List.length_set]; exact HML.out, ?_, PUT.out, ?_, ?_⟩
              · exact ((HTC.out.trans (Touch.of_below B2.out)).set (by simp) _).set (by simp) _
              · rw [hnxt.out, ← HTK.out]
                simp only [Bool.false_eq_true, if_false]
                rw [List.take_succ_eq_append_getElem (by rw [List.length_set]; exact hkiM), List.take_set_of_le (Nat.le_refl _)]
                simp
              · rw [List.drop_set, if_pos (by omega), hdn.out]
            case measure => simp [intOf]; omega
          · rw [hq] at hpr hnxt
            go_wp2_with fail
            refine (hpr.out _ BA'.out).mono ?_
            rintro e W2 ⟨rfl, b2⟩
            have B2 := Lib.hid (BA'.out.trans (b2.mono BA'.out.size))
            clear b2 BA' KA e0 e1
            go_wp2_with fail
            go_roundw
            case rel =>
              refine ⟨ki, kj + 1, M, by omega, by omega, rfl, by go_num, HML.out, HTC.out.trans (Touch.of_below B2.out), HAT.out.below B2.out, ?_, hdn.out⟩
              rw [hnxt.out, HTK.out]
              simp
            case measure => simp [intOf]; omega
        · have hjn' : kj = n := by omega
          subst hjn'
          have hfl : Hid (M.take ki = l.filter (fun x => !otherF file x)) := by
            show _ = _
            rw [HTK.out, List.take_of_length_le (by rw [← HN.out]; exact Nat.le_refl _)]
          have hltn : ¬ (kj : Int) < kj := by omega
          obtain ⟨arr, hg, hnc, hcm, hfit, hx⟩ : ∃ arr, wr.heap[b]? = some (.cells arr 23 (0, 0)) ∧ M.length ≤ c ∧ c ≤ maxLen ∧ off + c * 2 ≤ arr.size ∧ ∀ j u, (pl M)[j]? = some u → arr[off + j]? = some u := by
            rcases HAT.out.2 with ⟨e, _⟩ | ⟨b', off', c', arr, e, rest⟩
            · cases e
            · cases e; exact ⟨arr, rest⟩
          rw [HML.out] at hnc
          obtain ⟨arr2, hs2, hz2, hlo2, hg2⟩ : ∃ arr' : Array Value, (∀ ty, (Builtin.clear_ #[52] ty #[.slice (some ⟨b, off + ki * 2, none⟩) (kj - ki) (c - ki)]).run Try.prog wr = .ok (.tuple #[]) (wr.setRow b arr')) ∧ arr'.size = arr.size ∧ (∀ j, j < off + ki * 2 → arr'[j]? = arr[j]?) ∧ (wr.setRow b arr').heap[b]? = some (.cells arr' 23 (0, 0)) := by
            obtain ⟨a', h1, h2, h3, h4⟩ := clearK_run wr 0 b (off + ki * 2) (kj - ki) (c - ki) arr 23 hg (by omega)
            exact ⟨a', fun ty => h1, h2, h3, h4⟩
          have fin : Hid (KeAt (wr.setRow b arr2) (.slice (some ⟨b, off, none⟩) ki c) (l.filter fun x => !otherF file x) ∧ Touch [b] w (wr.setRow b arr2)) := by
            have hle : (l.filter fun x => !otherF file x).length = ki := by rw [← hfl.out, List.length_take, HML.out]; omega
            constructor
            · show SlAt _ _ _ _ _ _
              rw [hle]
              refine ⟨by rw [pl_length, hle], .inr ⟨b, off, c, arr2, rfl, hg2, by omega, hcm, by rw [hz2]; exact hfit, fun j u hu => ?_⟩⟩
              have hj := (List.getElem?_eq_some_iff.1 hu).1
              rw [pl_length, hle] at hj
              rw [hlo2 (off + j) (by omega)]
              rw [← hfl.out, pl_take, List.getElem?_take_of_lt hj] at hu
              exact hx j u hu
            · exact HTC.out.trans ⟨rfl, rfl, rfl, by simp, fun k hk hne => setRow_other wr b k _ (fun e => hne (by simp [e]))⟩
          have c1 : ki ≤ kj := by omega
          have c2 : ki ≤ c := by omega
          have c3 : ¬ c = ki := by omega
          have c4 : (0 : Int) ≤ ki := by omega
          have c5 : (ki : Int) ≤ kj := by omega
          clear hx hg hz2 hlo2 hg2 hfit
          go_wp2_with fail
          go_ret
          exact ⟨_, rfl, fin.out.1, fin.out.2, rfl⟩
end Go.Proofs.Ytflbidbnbfndgaa
