/- CachePlays: the law's walk. -/
import Derived.Test.YtflbidbnbfndgaaCachePlaysLib
import Derived.Test.YtflbidbnbfndgaaCachePut
import Derived.Test.YtflbidbnbfndgaaOpenRd
import Derived.Deep.DeepCutAuto
import Derived.Deep.CutBlock
import Derived.Deep.LoopGhost
import Derived.BigQuiet
namespace Go.Proofs.Ytflbidbnbfndgaa
open Go Go.RowKit

/-- What happens. -/
structure CAct where
  wh : Int
  f : Int
  k1 : Int
  k2 : Int
  d : Bool
instance : Inhabited CAct := ⟨⟨0, 0, 0, 0, false⟩⟩
def CAct.cells (x : CAct) : List Value := [.int .i64 x.wh, .int .i64 x.f, .int .i64 x.k1, .int .i64 x.k2, .bool x.d]
theorem CAct.cells_len (x : CAct) : x.cells.length = 5 := rfl
def CActOk (_ : CAct) : Prop := True
theorem decCAct (cs : List Value) (h : Open.AllOk [some .i64, some .i64, some .i64, some .i64, none] cs) : ∃ x : CAct, cs = x.cells ∧ CActOk x := by
  have hlen := h.length
  simp only [List.length_cons, List.length_nil] at hlen
  obtain ⟨c0, c1, c2, c3, c4, rfl⟩ : ∃ c0 c1 c2 c3 c4, cs = [c0, c1, c2, c3, c4] := by
    rcases cs with _ | ⟨c0, _ | ⟨c1, _ | ⟨c2, _ | ⟨c3, _ | ⟨c4, _ | ⟨c5, cs⟩⟩⟩⟩⟩⟩ <;> simp at hlen
    exact ⟨_, _, _, _, _, rfl⟩
  obtain ⟨⟨y0, rfl, _⟩, ⟨y1, rfl, _⟩, ⟨y2, rfl, _⟩, ⟨y3, rfl, _⟩, ⟨y4, rfl⟩, _⟩ := h
  exact ⟨⟨y0, y1, y2, y3, y4⟩, rfl, trivial⟩
theorem cact_get {z : List CAct} {j : Nat} {x : CAct} (hx : z[j]? = some x) {i : Nat} {v : Value} (hv : x.cells[i]? = some v) : (z.flatMap CAct.cells)[j * 5 + i]? = some v := by
  have hi := (List.getElem?_eq_some_iff.1 hv).1
  rw [x.cells_len] at hi
  induction z generalizing j with
  | nil => simp at hx
  | cons y l ih =>
    rw [List.flatMap_cons]
    cases j with
    | zero =>
      obtain rfl : y = x := by simpa using hx
      rw [Nat.zero_mul, Nat.zero_add, List.getElem?_append_left (by rw [y.cells_len]; exact hi)]
      exact hv
    | succ j =>
      rw [List.getElem?_append_right (by rw [y.cells_len]; omega), y.cells_len, show (j + 1) * 5 + i - 5 = j * 5 + i by omega]
      exact ih (by simpa using hx)

/-- Two pages: the same? -/
theorem key_eql (y z : Int × Int) (W : World) : Sem.run Try.prog (binOp .eql 23 (.agg #[.int .i64 y.1, .int .i64 y.2]) (.agg #[.int .i64 z.1, .int .i64 z.2])) W = .ok (.bool (decide (y = z))) W := by
  have e := pairKey.eq y z W
  rw [show (decide (y = z)) = (y.1 == z.1 && y.2 == z.2) by
    obtain ⟨x1, x2⟩ := y
    obtain ⟨y1, y2⟩ := z
    by_cases h1 : x1 = y1 <;> by_cases h2 : x2 = y2 <;> simp [h1, h2]]
  simp only [encPair] at e
  simp [binOp, e]
theorem key_neq (y z : Int × Int) (W : World) : Sem.run Try.prog (binOp .neq 23 (.agg #[.int .i64 y.1, .int .i64 y.2]) (.agg #[.int .i64 z.1, .int .i64 z.2])) W = .ok (.bool (!decide (y = z))) W := by
  have e := pairKey.eq y z W
  rw [show (decide (y = z)) = (y.1 == z.1 && y.2 == z.2) by
    obtain ⟨x1, x2⟩ := y
    obtain ⟨y1, y2⟩ := z
    by_cases h1 : x1 = y1 <;> by_cases h2 : x2 = y2 <;> simp [h1, h2]]
  simp only [encPair] at e
  simp [binOp, e]
theorem key_guard (op : BinOp) (a b : Operand) (y z : Int × Int) (W : World) : Sem.run Try.prog (eqGuard op 23 a b (.agg #[.int .i64 y.1, .int .i64 y.2]) (.agg #[.int .i64 z.1, .int .i64 z.2])) W = .ok () W := by
  have hg : Try.prog.eqGuardType Try.prog.depth 23 = false := by kernel_rfl
  cases op <;> simp [eqGuard, hg]

theorem grown_setCell (W : World) (b o : Nat) (v : Value) : W.grownBy (W.setCell ⟨b, o, none⟩ v) (some b) :=
  ⟨rfl, rfl, rfl, by simp [World.setCell], fun i _ h => Below.heap_setCell W ⟨b, o, none⟩ v i (fun e => h (by rw [e]))⟩
theorem one_int (l : List Int) : ∀ u ∈ l.map (fun x : Int => Value.int .i64 x), u.oneCell' = true := by
  intro u hu
  obtain ⟨x, _, rfl⟩ := List.mem_map.1 hu
  rfl
theorem one_bool (l : List Bool) : ∀ u ∈ l.map (fun x : Bool => Value.bool x), u.oneCell' = true := by
  intro u hu
  obtain ⟨x, _, rfl⟩ := List.mem_map.1 hu
  rfl

theorem filt_next {p : Int × Int → Bool} {l : List (Int × Int)} {i : Nat} {y : Int × Int} (h : l[i]? = some y) : ((l.take (i + 1)).filter p).length = ((l.take i).filter p).length + (if p y = true then 1 else 0) := by
  rw [takeK h, List.filter_append, List.length_append]
  cases hp : p y <;> simp [hp]

abbrev Plays (w wr : World) (S : St) (vk vf vd : Value) : Prop :=
  PlayAt w.heap.size w wr (w.heap.size + 2) w.heap.size (w.heap.size + 1) S (stR S) vk (stK S) vf (stF S) vd (stD S)

set_option maxHeartbeats 16000000 in
set_option maxRecDepth 100000 in
theorem plays_walk (v : Value) (z : List CAct) (file : Int) (w : World) (hr : SlRd w 5 v z.length (z.flatMap CAct.cells)) (_ : ∀ x ∈ z, CActOk x) (_ : (Lit.int .i64 file).wf = true) :
    Calls Try.prog 8 #[v, .int .i64 file] w fun e w' => e = .returned (.bool true) ∧ Below w.heap.size w w' := by
  obtain ⟨av, cv, rfl, hcv, _⟩ := SlRd.form hr
  have HR := Lib.hid hr
  clear hr
  obtain ⟨n, hn⟩ : ∃ n, n = z.length := ⟨_, rfl⟩
  rw [← hn] at HR hcv ⊢
  have HN := Lib.hid hn
  clear hn
  by_cases h80 : n ≤ 80
  · have h80i : ¬ (80 : Int) < n := by omega
    have h80b : decide ((80 : Int) < (n : Int)) = false := decide_eq_false h80i
    go_enter Try.func8, Try.ntmps8
    go_wp2_with fail
    refine (New_cache w).mono ?_
    rintro e w1 ⟨rfl, b1, C1⟩
    have P1 : Hid (Plays w w1 [] (.slice none 0 0) (.slice none 0 0) (.slice none 0 0)) := ⟨b1, C1, KeAt.nil _, SlAt.nil _ _ _, SlAt.nil _ _ _, by simp [Value.ownBlock], by simp [Value.ownBlock], by simp [Value.ownBlock], by omega⟩
    clear b1 C1
    go_wp2_with fail
    go_loopg [6, 7, 8, 9] n (fun g vk vf vd i wr => ∃ (k : Nat) (S : St), k ≤ n ∧ g = n - k ∧ i = .int .i64 k ∧ S.length ≤ k ∧ stOk S ∧ Plays w wr S vk vf vd)
    case atStart => exact ⟨0, [], by omega, by omega, rfl, by simp, ⟨by simp [stK], by simp [stF]⟩, P1.out⟩
    case round =>
      obtain ⟨k, S, hk, hgk, rfl, hsl, hok, hpl⟩ := hrel
      have HOK := Lib.hid hok
      have HPL := Lib.hid hpl
      clear hok hpl P1
      by_cases hlt : k < n
      · have hlt' : (k : Int) < n := by omega
        obtain ⟨x, hx⟩ : ∃ x, z[k]? = some x := ⟨_, List.getElem?_eq_getElem (by rw [← HN.out]; exact hlt)⟩
        obtain ⟨b, off, rfl⟩ : ∃ b off, av = some ⟨b, off, none⟩ := by
          obtain ⟨b, off, c, e, _⟩ := SlRd.cells HR.out (by rw [HR.out.1]; omega)
          cases e
          exact ⟨b, off, rfl⟩
        have hcl : ∀ i u, x.cells[i]? = some u → wr.cell? ⟨b, off + k * 5 + i, none⟩ = some u := fun i u hu => by
          obtain ⟨b', off', c', e, _, _, hx'⟩ := SlRd.cells (HR.out.below HPL.out.below) (by rw [HR.out.1]; omega)
          cases e
          rw [Nat.add_assoc]
          exact hx' _ _ (cact_get hx hu)
        obtain ⟨wh, fi, k1, k2, dt⟩ := x
        have e0 := hcl 0 _ rfl
        have e1 := hcl 1 _ rfl
        have e2 := hcl 2 _ rfl
        have e3 := hcl 3 _ rfl
        have e4 := hcl 4 _ rfl
        simp only [Nat.add_zero] at e0 e1 e2 e3 e4
        clear hcl hx
        have PW := Lib.hid (HPL.out.next HPL.out.below.size ((Below.refl wr.heap.size wr).alloc (Nat.le_refl _) (.cells #[.int .i64 wh, .int .i64 fi, .int .i64 k1, .int .i64 k2, .bool dt] 60)))
        have KW : Hid ((wr.alloc (.cells #[.int .i64 wh, .int .i64 fi, .int .i64 k1, .int .i64 k2, .bool dt] 60)).heap[wr.heap.size]? = some (.cells #[.int .i64 wh, .int .i64 fi, .int .i64 k1, .int .i64 k2, .bool dt] 60 (0, 0))) := heap_alloc_new wr _
        have hlK : (stK S).length = S.length := by simp [stK]
        have hlF : (stF S).length = S.length := by simp [stF]
        have hlD : (stD S).length = S.length := by simp [stD]
        obtain ⟨q, hq⟩ : ∃ q, q = S.length := ⟨_, rfl⟩
        have HQ := Lib.hid hq
        obtain ⟨ak, ck, hvk, hck, hckm⟩ := SlAt.form HPL.out.k
        obtain ⟨af, cf, hvf, hcf, hcfm⟩ := SlAt.form HPL.out.f
        obtain ⟨ad, cd, hvd, hcd, hcdm⟩ := SlAt.form HPL.out.d
        rw [hlK, ← hq] at hvk hck
        rw [hlF, ← hq] at hvf hcf
        rw [hlD, ← hq] at hvd hcd
        subst hvk hvf hvd
        have hsl' : q ≤ k := by rw [hq]; exact hsl
        have HLS : Hid ((stK S).length = q ∧ (stF S).length = q ∧ (stD S).length = q) := ⟨hlK.trans hq.symm, hlF.trans hq.symm, hlD.trans hq.symm⟩
        have hAB : Hid (w.heap.size ≤ wr.heap.size) := HPL.out.below.size
        clear hlK hlF hlD hq hsl
        go_wp2_with fail
        generalize wr.heap.size = A at *
        generalize wr.alloc _ = W1 at *
        clear e0 e1 e2 e3 e4 HPL
        have hq80 : q ≤ 80 := by omega
        go_loopw [11, 12, 13] (fun at_ bz kk wq => ∃ j : Nat, j ≤ q ∧ kk = .int .i64 j ∧ Below W1.heap.size W1 wq ∧ bz = .bool (decide (fi ∈ (stF S).take j)) ∧ ((∃ t : Nat, t < j ∧ (stK S)[t]? = some (k1, k2) ∧ at_ = .int .i64 t) ∨ (at_ = .int .i64 (-1) ∧ (k1, k2) ∉ (stK S).take j))) (fun _ _ kk _ => q - (intOf kk).toNat)
        case atStart => exact ⟨0, by omega, rfl, Below.refl _ _, by simp, .inr ⟨rfl, by simp⟩⟩
        case round =>
          obtain ⟨j, hj, rfl, hbq, rfl, hat⟩ := hrel
          have HBQ := Lib.hid hbq
          have HAT := Lib.hid hat
          clear hbq hat
          by_cases hjq : j < q
          · have hjq' : (j : Int) < q := by omega
            obtain ⟨⟨yk, yf, yd⟩, hy⟩ : ∃ y, S[j]? = some y := ⟨_, List.getElem?_eq_getElem (by have := HLS.out.1; simp [stK] at this; omega)⟩
            have hyk : (stK S)[j]? = some yk := by simp [stK, hy]
            have hyf : (stF S)[j]? = some yf := by simp [stF, hy]
            obtain ⟨bk, ok, rfl⟩ := SlAt.addrOf PW.out.k (by rw [pl_length, HLS.out.1]; omega)
            obtain ⟨bf, of, rfl⟩ := SlAt.addrOf PW.out.f (by rw [List.length_map, HLS.out.2.1]; omega)
            obtain ⟨e0, e1⟩ := (PW.out.k.below HBQ.out).cell hyk
            obtain ⟨e2, -⟩ := IsAt.cell (SlAt.below PW.out.f HBQ.out) hyf
            have KQ := Lib.hid ((HBQ.out.block A (Array.getElem?_eq_some_iff.1 KW.out).1).trans KW.out)
            have f1 : wr.cell? ⟨A, 1, none⟩ = some (.int .i64 fi) := by rw [cell_of_row wr _ 1 _ _ _ KQ.out]; rfl
            have f2 : wr.cell? ⟨A, 2, none⟩ = some (.int .i64 k1) := by rw [cell_of_row wr _ 2 _ _ _ KQ.out]; rfl
            have f3 : wr.cell? ⟨A, 3, none⟩ = some (.int .i64 k2) := by rw [cell_of_row wr _ 3 _ _ _ KQ.out]; rfl
            have hj0 : (0 : Int) ≤ j := by omega
            have heq := key_eql yk (k1, k2)
            have hgd := fun op a b => key_guard op a b yk (k1, k2)
            have HYK := Lib.hid hyk
            have hbn : Hid (decide (fi ∈ (stF S).take (j + 1)) = (decide (fi ∈ (stF S).take j) || decide (yf = fi))) := by
              show _ = _
              obtain ⟨hl, hyf'⟩ := List.getElem?_eq_some_iff.1 hyf
              rw [List.take_succ_eq_append_getElem hl, hyf']
              by_cases h2 : yf = fi
              · simp [h2]
              · have h2' : ¬ fi = yf := fun e => h2 e.symm
                by_cases h1 : fi ∈ (stF S).take j <;> simp [h1, h2, h2']
            have han : Hid ((yk = (k1, k2) → (∃ t : Nat, t < j + 1 ∧ (stK S)[t]? = some (k1, k2) ∧ Value.int .i64 j = .int .i64 t)) ∧ (yk ≠ (k1, k2) → ((∃ t : Nat, t < j + 1 ∧ (stK S)[t]? = some (k1, k2) ∧ u11 = .int .i64 t) ∨ (u11 = .int .i64 (-1) ∧ (k1, k2) ∉ (stK S).take (j + 1))))) := by
              refine ⟨fun e => ⟨j, by omega, by rw [HYK.out, e], rfl⟩, fun hne => ?_⟩
              rcases HAT.out with ⟨t, h1, h2, h3⟩ | ⟨h1, h2⟩
              · exact .inl ⟨t, by omega, h2, h3⟩
              · refine .inr ⟨h1, ?_⟩
                rw [takeK HYK.out, List.mem_append, List.mem_singleton]
                rintro (h | h)
                · exact h2 h
                · exact hne h.symm
            obtain ⟨y1, y2⟩ := yk
            simp only at e0 e1 heq hgd
            generalize decide (fi ∈ (stF S).take j) = bz at *
            obtain ⟨bn, hbt⟩ : ∃ bn, decide (fi ∈ (stF S).take (j + 1)) = bn := ⟨_, rfl⟩
            rw [hbt] at hbn
            have HBT := Lib.hid hbt
            clear hbt
            clear hy hyk hyf
            by_cases hyz : (y1, y2) = (k1, k2)
            · rw [decide_eq_true hyz] at heq
              as_aux_lemma =>
                cases bz
                · by_cases hff : yf = fi
                  · have hfb : (yf == fi) = true := by simpa using hff
                    obtain rfl : bn = true := by have := hbn.out; simp [hff] at this; exact this
                    go_wp2_with fail
                    go_quiet (fail)
                    go_wp2_with fail
                    go_quiet (fail)
                    go_wp2_with fail
                    go_roundw
                    case rel => exact ⟨j + 1, by omega, by go_num, below_drewN' HBQ.out _, congrArg Value.bool HBT.out.symm, .inl (han.out.1 hyz)⟩
                    case measure => simp [intOf]; omega
                  · have hfb : (yf == fi) = false := by simpa using hff
                    obtain rfl : bn = false := by have := hbn.out; simp [hff] at this; exact this
                    go_wp2_with fail
                    go_quiet (fail)
                    go_wp2_with fail
                    go_quiet (fail)
                    go_wp2_with fail
                    go_roundw
                    case rel => exact ⟨j + 1, by omega, by go_num, below_drewN' HBQ.out _, congrArg Value.bool HBT.out.symm, .inl (han.out.1 hyz)⟩
                    case measure => simp [intOf]; omega
                · obtain rfl : bn = true := by have := hbn.out; simp at this; exact this
                  go_wp2_with fail
                  go_quiet (fail)
                  go_wp2_with fail
                  go_quiet (fail)
                  go_wp2_with fail
                  go_roundw
                  case rel => exact ⟨j + 1, by omega, by go_num, below_drewN' HBQ.out _, congrArg Value.bool HBT.out.symm, .inl (han.out.1 hyz)⟩
                  case measure => simp [intOf]; omega
            · rw [decide_eq_false hyz] at heq
              as_aux_lemma =>
                cases bz
                · by_cases hff : yf = fi
                  · have hfb : (yf == fi) = true := by simpa using hff
                    obtain rfl : bn = true := by have := hbn.out; simp [hff] at this; exact this
                    go_wp2_with fail
                    go_quiet (fail)
                    go_wp2_with fail
                    go_quiet (fail)
                    go_wp2_with fail
                    go_roundw
                    case rel => exact ⟨j + 1, by omega, by go_num, below_drewN' HBQ.out _, congrArg Value.bool HBT.out.symm, han.out.2 hyz⟩
                    case measure => simp [intOf]; omega
                  · have hfb : (yf == fi) = false := by simpa using hff
                    obtain rfl : bn = false := by have := hbn.out; simp [hff] at this; exact this
                    go_wp2_with fail
                    go_quiet (fail)
                    go_wp2_with fail
                    go_quiet (fail)
                    go_wp2_with fail
                    go_roundw
                    case rel => exact ⟨j + 1, by omega, by go_num, below_drewN' HBQ.out _, congrArg Value.bool HBT.out.symm, han.out.2 hyz⟩
                    case measure => simp [intOf]; omega
                · obtain rfl : bn = true := by have := hbn.out; simp at this; exact this
                  go_wp2_with fail
                  go_quiet (fail)
                  go_wp2_with fail
                  go_quiet (fail)
                  go_wp2_with fail
                  go_roundw
                  case rel => exact ⟨j + 1, by omega, by go_num, below_drewN' HBQ.out _, congrArg Value.bool HBT.out.symm, han.out.2 hyz⟩
                  case measure => simp [intOf]; omega
          · have hjqn : ¬ (j : Int) < q := by omega
            have ejq : j = q := by omega
            subst ejq
            have PQ := Lib.hid (PW.out.next PW.out.below.size HBQ.out)
            have KQ := Lib.hid ((HBQ.out.block A (Array.getElem?_eq_some_iff.1 KW.out).1).trans KW.out)
            have HAT2 : Hid ((∃ t : Nat, t < j ∧ (stK S)[t]? = some (k1, k2) ∧ u11 = .int .i64 t) ∨ (u11 = .int .i64 (-1) ∧ (k1, k2) ∉ stK S)) := by
              rcases HAT.out with h | ⟨h1, h2⟩
              · exact .inl h
              · exact .inr ⟨h1, by rwa [List.take_of_length_le (by rw [HLS.out.1]; exact Nat.le_refl _)] at h2⟩
            have HBZ : Hid (decide (fi ∈ (stF S).take j) = decide (fi ∈ stF S)) := by rw [List.take_of_length_le (by rw [HLS.out.2.1]; exact Nat.le_refl _)]; rfl
            rw [HBZ.out]
            clear HAT HBZ PW KW HBQ
            have f0 : wr.cell? ⟨A, 0, none⟩ = some (.int .i64 wh) := by rw [cell_of_row wr _ 0 _ _ _ KQ.out]; rfl
            have f1 : wr.cell? ⟨A, 1, none⟩ = some (.int .i64 fi) := by rw [cell_of_row wr _ 1 _ _ _ KQ.out]; rfl
            have f2 : wr.cell? ⟨A, 2, none⟩ = some (.int .i64 k1) := by rw [cell_of_row wr _ 2 _ _ _ KQ.out]; rfl
            have f3 : wr.cell? ⟨A, 3, none⟩ = some (.int .i64 k2) := by rw [cell_of_row wr _ 3 _ _ _ KQ.out]; rfl
            have f4 : wr.cell? ⟨A, 4, none⟩ = some (.bool dt) := by rw [cell_of_row wr _ 4 _ _ _ KQ.out]; rfl
            go_upto_block 4 with fail
            go_cut [6, 7, 8, 11, 12, 14] (fun vk vf vd _ _ _ wx => ∃ S' : St, stOk S' ∧ S'.length ≤ k + 1 ∧ Plays w wx S' vk vf vd)
            case first =>
              by_cases hw0 : wh = 0
              · subst hw0
                as_aux_lemma =>
                  rcases HAT2.out with ⟨t, ht, hkt, rfl⟩ | ⟨rfl, hnk⟩
                  · have ht0 : ¬ (t : Int) < 0 := by omega
                    obtain ⟨e3, he3⟩ : ∃ e, S[t]? = some ((k1, k2), e) := by
                      simp only [stK, List.getElem?_map, Option.map_eq_some_iff] at hkt
                      obtain ⟨⟨a, e⟩, h1, h2⟩ := hkt
                      simp only at h2
                      subst h2
                      exact ⟨e, h1⟩
                    have hput := Lib.hid (Put_there wr _ _ _ S (stR S) PQ.out.cache (k1, k2) fi (by rw [(get_at HOK.out.1 he3).1]; rfl))
                    clear hkt he3
                    go_wp2_with fail
                    refine hput.out.mono ?_
                    rintro e w2 ⟨rfl, b2⟩
                    have B2 := Lib.hid (PQ.out.next PQ.out.below.size b2)
                    clear b2 hput
                    go_wp2_with fail
                    go_meet
                    case rel => exact ⟨S, HOK.out, by have := HLS.out.1; simp [stK] at this; omega, B2.out⟩
                  · have hg1 : Hid (getL S (k1, k2) = none) := getL_none.2 hnk
                    have hfl : (stR S).map (·.1) = stF S := by unfold stR stF; rw [List.map_map]; rfl
                    by_cases hff : fi ∈ stF S
                    · have hffb : decide (fi ∈ stF S) = true := decide_eq_true hff
                      rw [hffb]
                      have hput := Lib.hid (Put_used wr _ _ _ S (stR S) PQ.out.cache (k1, k2) fi (by rw [hg1.out]; rfl) (by
                        cases hgf : getL (stR S) fi with
                        | some _ => rfl
                        | none => exact absurd (hfl ▸ hff) (getL_none.1 hgf)))
                      clear hnk hfl hff hffb
                      go_wp2_with fail
                      refine hput.out.mono ?_
                      rintro e w2 ⟨rfl, b2⟩
                      have B2 := Lib.hid (PQ.out.next PQ.out.below.size b2)
                      clear b2 hput
                      go_wp2_with fail
                      go_meet
                      case rel => exact ⟨S, HOK.out, by have := HLS.out.1; simp [stK] at this; omega, B2.out⟩
                    · have hffb : decide (fi ∈ stF S) = false := decide_eq_false hff
                      rw [hffb]
                      obtain ⟨p1, p2, p3, p4, p5⟩ := st_put HOK.out hnk hff
                      have hput := Lib.hid (Put_new wr _ _ _ S (stR S) PQ.out.cache (k1, k2) fi p4 p5)
                      rw [p2, p3] at hput
                      have HP1 := Lib.hid p1
                      clear hnk hfl hff hffb p1 p2 p3 p4 p5 hg1
                      go_wp2_with fail
                      refine hput.out.mono ?_
                      rintro e w2 ⟨rfl, t2, c2⟩
                      have B2 := Lib.hid (PQ.out.touch PQ.out.below.size t2 c2)
                      have hKA : Hid (w2.heap[A]? = some (.cells #[.int .i64 0, .int .i64 fi, .int .i64 k1, .int .i64 k2, .bool dt] 60 (0, 0))) := (t2.block A (Array.getElem?_eq_some_iff.1 KQ.out).1 (by
                        obtain ⟨⟨_, _, g1⟩, _, _, g2⟩ := PQ.out.maps
                        intro hm
                        simp at hm
                        rcases hm with e | e
                        · rw [← e, KQ.out] at g1; cases g1
                        · rw [← e, KQ.out] at g2; cases g2)).trans KQ.out
                      clear t2 c2 hput
                      have d1 : w2.cell? ⟨A, 1, none⟩ = some (.int .i64 fi) := by rw [cell_of_row w2 _ 1 _ _ _ hKA.out]; rfl
                      have d2 : w2.cell? ⟨A, 2, none⟩ = some (.int .i64 k1) := by rw [cell_of_row w2 _ 2 _ _ _ hKA.out]; rfl
                      have d3 : w2.cell? ⟨A, 3, none⟩ = some (.int .i64 k2) := by rw [cell_of_row w2 _ 3 _ _ _ hKA.out]; rfl
                      have hS0 : ∀ W : World, W.heap[A]? = some (.cells #[.int .i64 0, .int .i64 fi, .int .i64 k1, .int .i64 k2, .bool dt] 60 (0, 0)) → (W.cell? ⟨A, 1, none⟩ = some (.int .i64 fi) ∧ W.cell? ⟨A, 2, none⟩ = some (.int .i64 k1) ∧ W.cell? ⟨A, 3, none⟩ = some (.int .i64 k2)) := fun W h => ⟨by rw [cell_of_row W _ 1 _ _ _ h]; rfl, by rw [cell_of_row W _ 2 _ _ _ h]; rfl, by rw [cell_of_row W _ 3 _ _ _ h]; rfl⟩
                      have HS0 := Lib.hid hS0
                      clear hS0
                      go_wp2_with fail
                      refine wp_region_held_drew (S := fun X => X.cell? ⟨A, 1, none⟩ = some (.int .i64 fi) ∧ X.cell? ⟨A, 2, none⟩ = some (.int .i64 k1) ∧ X.cell? ⟨A, 3, none⟩ = some (.int .i64 k2)) (by kernel_rfl) ⟨d1, d2, d3⟩ (fun hHeld => ?_)
                      refine hand_take (v := ?vqa0) 0 84 rfl rfl (by kernel_rfl) (by kernel_rfl) (by kernel_rfl) (fun _ _ _ h => h) (Or.inl ⟨by rfl, ?hyqa0⟩) hHeld ?restqa0
                      case hyqa0 => ((intro w hSw; (try dsimp only at hSw); go_simp) <;> with_reducible rfl)
                      case' restqa0 => (simp only [Act.put, List.setIfInBounds_toArray, List.set_cons_zero, List.set_cons_succ])
                      refine hand_take (v := ?vqa1) 1 85 rfl rfl (by kernel_rfl) (by kernel_rfl) (by kernel_rfl) (fun _ _ _ h => h) (Or.inl ⟨by rfl, ?hyqa1⟩) hHeld ?restqa1
                      case hyqa1 => ((intro w hSw; (try dsimp only at hSw); go_simp) <;> with_reducible rfl)
                      case' restqa1 => (simp only [Act.put, List.setIfInBounds_toArray, List.set_cons_zero, List.set_cons_succ])
                      refine hand_take (v := ?vqa2) 2 86 rfl rfl (by kernel_rfl) (by kernel_rfl) (by kernel_rfl) (fun _ _ _ h => h) (Or.inl ⟨by rfl, ?hyqa2⟩) hHeld ?restqa2
                      case hyqa2 => ((intro w hSw; (try dsimp only at hSw); go_simp) <;> with_reducible rfl)
                      case' restqa2 => (simp only [Act.put, List.setIfInBounds_toArray, List.set_cons_zero, List.set_cons_succ])
                      refine hand_take (v := ?vqa5) 5 89 rfl rfl (by kernel_rfl) (by kernel_rfl) (by kernel_rfl) (fun _ _ _ h => h) (Or.inl ⟨by rfl, ?hyqa5⟩) hHeld ?restqa5
                      case hyqa5 => ((intro w hSw; (try dsimp only at hSw); go_simp) <;> with_reducible rfl)
                      case' restqa5 => (simp only [Act.put, List.setIfInBounds_toArray, List.set_cons_zero, List.set_cons_succ])
                      refine hand_take (v := ?vqa6) 6 90 rfl rfl (by kernel_rfl) (by kernel_rfl) (by kernel_rfl) (fun _ _ _ h => h) (Or.inl ⟨by rfl, ?hyqa6⟩) hHeld ?restqa6
                      case hyqa6 => ((intro w hSw; (try dsimp only at hSw); go_simp) <;> with_reducible rfl)
                      case' restqa6 => (simp only [Act.put, List.setIfInBounds_toArray, List.set_cons_zero, List.set_cons_succ])
                      refine hand_take (v := ?vqa7) 7 91 rfl rfl (by kernel_rfl) (by kernel_rfl) (by kernel_rfl) (fun _ _ _ h => h) (Or.inl ⟨by rfl, ?hyqa7⟩) hHeld ?restqa7
                      case hyqa7 => ((intro w hSw; (try dsimp only at hSw); go_simp) <;> with_reducible rfl)
                      case' restqa7 => (simp only [Act.put, List.setIfInBounds_toArray, List.set_cons_zero, List.set_cons_succ])
                      refine hand_take (v := ?vqa10) 10 94 rfl rfl (by kernel_rfl) (by kernel_rfl) (by kernel_rfl) (fun _ _ _ h => h) (Or.inl ⟨by rfl, ?hyqa10⟩) hHeld ?restqa10
                      case hyqa10 => ((intro w hSw; (try dsimp only at hSw); go_simp) <;> with_reducible rfl)
                      case' restqa10 => (simp only [Act.put, List.setIfInBounds_toArray, List.set_cons_zero, List.set_cons_succ])
                      rcases (show True from trivial) with _
                      refine put_chains (w := w) (p := w.heap.size + 2) (m1 := w.heap.size) (m2 := w.heap.size + 1) (L := S ++ [((k1, k2), fi, false)]) (R := stR (S ++ [((k1, k2), fi, false)])) (A := A) (arr := #[.int .i64 0, .int .i64 fi, .int .i64 k1, .int .i64 k2, .bool dt]) (vk := .slice ak j ck) (K := stK S) (y := (k1, k2)) (vf := .slice af j cf) (F := stF S) (f := fi) (vd := .slice ad j cd) (D := stD S)
                        (Lst := fun i j k => #[true, true, true, decide (0 < i), decide (1 < i), true, true, true, decide (0 < j), decide (1 < j), true, decide (0 < k), decide (1 < k), false, false, false]) rfl rfl rfl rfl rfl rfl ?hr ?h0 ?h1 ?h2 HS0.out ?hsz ?hlK ?hlF ?hlD rfl rfl rfl rfl rfl ?hst ?hf
                      case hr =>
                        intro i j k hi hj hk h6 r1 r2
                        rcases (by omega : i = 0 ∨ i = 1 ∨ i = 2) with rfl | rfl | rfl <;> rcases (by omega : j = 0 ∨ j = 1 ∨ j = 2) with rfl | rfl | rfl <;> rcases (by omega : k = 0 ∨ k = 1 ∨ k = 2) with rfl | rfl | rfl <;> first | omega | kernel_rfl
                      case h0 =>
                        intro i j k hi hj hk
                        rcases (by omega : i = 0 ∨ i = 1) with rfl | rfl <;> rcases (by omega : j = 0 ∨ j = 1 ∨ j = 2) with rfl | rfl | rfl <;> rcases (by omega : k = 0 ∨ k = 1 ∨ k = 2) with rfl | rfl | rfl <;> kernel_rfl
                      case h1 =>
                        intro i j k hi hj hk
                        rcases (by omega : j = 0 ∨ j = 1) with rfl | rfl <;> rcases (by omega : i = 0 ∨ i = 1 ∨ i = 2) with rfl | rfl | rfl <;> rcases (by omega : k = 0 ∨ k = 1 ∨ k = 2) with rfl | rfl | rfl <;> kernel_rfl
                      case h2 =>
                        intro i j k hi hj hk
                        rcases (by omega : k = 0 ∨ k = 1) with rfl | rfl <;> rcases (by omega : j = 0 ∨ j = 1 ∨ j = 2) with rfl | rfl | rfl <;> rcases (by omega : i = 0 ∨ i = 1 ∨ i = 2) with rfl | rfl | rfl <;> kernel_rfl
                      case hsz => exact (by decide : 96 < 291)
                      case hlK => rw [HLS.out.1]; omega
                      case hlF => rw [HLS.out.2.1]; omega
                      case hlD => rw [HLS.out.2.2]; omega
                      case hst => exact ⟨Agree.refl _ _, hKA.out, B2.out.next B2.out.below.size (Below.drew (Below.refl _ _)), (fun e => absurd e (by decide)), (fun e => absurd e (by decide)), (fun e => absurd e (by decide))⟩
                      case hf =>
                        intro a W h
                        obtain ⟨x87, h87⟩ : ∃ x, x = a.eval (.tmp 87) := ⟨_, rfl⟩
                        obtain ⟨x88, h88⟩ : ∃ x, x = a.eval (.tmp 88) := ⟨_, rfl⟩
                        obtain ⟨x92, h92⟩ : ∃ x, x = a.eval (.tmp 92) := ⟨_, rfl⟩
                        obtain ⟨x93, h93⟩ : ∃ x, x = a.eval (.tmp 93) := ⟨_, rfl⟩
                        obtain ⟨x95, h95⟩ : ∃ x, x = a.eval (.tmp 95) := ⟨_, rfl⟩
                        obtain ⟨x96, h96⟩ : ∃ x, x = a.eval (.tmp 96) := ⟨_, rfl⟩
                        have hp := h.play
                        rw [cur_2, cur_2, cur_2, cur_2, cur_2, cur_2, ← h88, ← h93, ← h96] at hp
                        have HPF : Hid (Plays w W (S ++ [((k1, k2), fi, false)]) x88 x93 x96) := by
                          show PlayAt _ _ _ _ _ _ _ _ _ _ _ _ _ _
                          simpa [stK, stF, stD] using hp
                        have hHeld := HS0.out W h.row
                        have ha := h.ag.fold
                        simp only [List.foldl, ← h87, ← h88, ← h92, ← h93, ← h95, ← h96] at ha
                        clear h87 h88 h92 h93 h95 h96 h hp
                        subst ha
                        simp only [Act.put, List.setIfInBounds_toArray, List.set_cons_zero, List.set_cons_succ]
                        refine hand_take (v := ?vqb13) 13 6 rfl rfl (by kernel_rfl) (by kernel_rfl) (by kernel_rfl) (fun _ _ _ h => h) (Or.inl ⟨by rfl, ?hyqb13⟩) hHeld ?restqb13
                        case hyqb13 => ((intro w hSw; (try dsimp only at hSw); go_simp) <;> with_reducible rfl)
                        case' restqb13 => (simp only [Act.put, List.setIfInBounds_toArray, List.set_cons_zero, List.set_cons_succ])
                        refine hand_take (v := ?vqb14) 14 7 rfl rfl (by kernel_rfl) (by kernel_rfl) (by kernel_rfl) (fun _ _ _ h => h) (Or.inl ⟨by rfl, ?hyqb14⟩) hHeld ?restqb14
                        case hyqb14 => ((intro w hSw; (try dsimp only at hSw); go_simp) <;> with_reducible rfl)
                        case' restqb14 => (simp only [Act.put, List.setIfInBounds_toArray, List.set_cons_zero, List.set_cons_succ])
                        refine hand_take (v := ?vqb15) 15 8 rfl rfl (by kernel_rfl) (by kernel_rfl) (by kernel_rfl) (fun _ _ _ h => h) (Or.inl ⟨by rfl, ?hyqb15⟩) hHeld ?restqb15
                        case hyqb15 => ((intro w hSw; (try dsimp only at hSw); go_simp) <;> with_reducible rfl)
                        case' restqb15 => (simp only [Act.put, List.setIfInBounds_toArray, List.set_cons_zero, List.set_cons_succ])
                        refine wpAnyH_done (by kernel_rfl) ?_ _
                        go_wp2_with fail
                        go_meet
                        case rel => exact ⟨S ++ [((k1, k2), fi, false)], HP1.out, by have := HLS.out.1; simp [stK] at this; simp; omega, HPF.out⟩
              · have hw0b : (wh == 0) = false := by simpa using hw0
                by_cases hw1 : wh = 1
                · subst hw1
                  as_aux_lemma =>
                    rcases HAT2.out with ⟨t, ht, hkt, rfl⟩ | ⟨rfl, hnk⟩
                    · have ht0 : ¬ (t : Int) < 0 := by omega
                      have ht1 : (0 : Int) ≤ t := by omega
                      have ht2 : (t : Int) < j := by omega
                      obtain ⟨fo, d0, he3⟩ : ∃ fo d0, S[t]? = some ((k1, k2), (fo, d0)) := by
                        simp only [stK, List.getElem?_map, Option.map_eq_some_iff] at hkt
                        obtain ⟨⟨a, e, d⟩, h1, h2⟩ := hkt
                        simp only at h2
                        subst h2
                        exact ⟨e, d, h1⟩
                      obtain ⟨p1, p2, p3, p4, p5, p6, p7⟩ := st_mark HOK.out he3 dt
                      have hdt : (stD S)[t]? = some d0 := by simp [stD, he3]
                      have hmk := Mark_walk wr _ _ _ S (stR S) PQ.out.cache (k1, k2) dt
                      simp only [p2] at hmk
                      rw [p3] at hmk
                      have HMK := Lib.hid hmk
                      have HP1 := Lib.hid p1
                      have HP4 := Lib.hid p4
                      have HP5 := Lib.hid p5
                      have HP6 := Lib.hid p6
                      have HP7 := Lib.hid p7
                      have HDT := Lib.hid hdt
                      obtain ⟨bd, od, rfl⟩ := SlAt.addrOf PQ.out.d (by rw [List.length_map, HLS.out.2.2]; omega)
                      clear hkt he3 p1 p2 p3 p4 p5 p6 p7 hdt hmk
                      go_wp2_with fail
                      refine HMK.out.mono ?_
                      rintro e w2 ⟨rfl, t2, c2⟩
                      have t3 : Touch [w.heap.size, w.heap.size + 1] wr w2 := t2.mono (fun k _ hk => by simp at hk ⊢; exact .inl hk)
                      have B2 := Lib.hid (PQ.out.touch PQ.out.below.size t3 c2)
                      have hKA : Hid (w2.heap[A]? = some (.cells #[.int .i64 1, .int .i64 fi, .int .i64 k1, .int .i64 k2, .bool dt] 60 (0, 0))) := (t3.block A (Array.getElem?_eq_some_iff.1 KQ.out).1 (by
                        obtain ⟨⟨_, _, g1⟩, _, _, g2⟩ := PQ.out.maps
                        intro hm
                        simp at hm
                        rcases hm with e | e
                        · rw [← e, KQ.out] at g1; cases g1
                        · rw [← e, KQ.out] at g2; cases g2)).trans KQ.out
                      have d4 : w2.cell? ⟨A, 4, none⟩ = some (.bool dt) := by rw [cell_of_row w2 _ 4 _ _ _ hKA.out]; rfl
                      obtain ⟨c0, c1⟩ := BsAt.cell B2.out.d HDT.out
                      clear t2 t3 c2 HMK
                      go_wp2_with fail
                      go_meet
                      case rel =>
                        refine ⟨S.set t ((k1, k2), (fo, dt)), HP1.out, by have := HLS.out.1; simp [stK] at this; simp; omega, ?_⟩
                        show PlayAt _ _ _ _ _ _ _ _ _ _ _ _ _ _
                        rw [HP4.out, HP5.out, HP6.out, HP7.out]
                        have B3 := B2.out
                        exact B3.growD B3.below.size (BsAt.set B3.d (by rw [HLS.out.2.2]; exact ht) dt) (grown_setCell _ _ _ _) (.inl rfl)
                    · have hg1 : getL S (k1, k2) = none := getL_none.2 hnk
                      have hmk := Mark_walk wr _ _ _ S (stR S) PQ.out.cache (k1, k2) dt
                      simp only [hg1] at hmk
                      have HMK := Lib.hid hmk
                      clear hnk hg1 hmk
                      go_wp2_with fail
                      refine HMK.out.mono ?_
                      rintro e w2 ⟨rfl, t2, c2⟩
                      have t3 : Touch [w.heap.size, w.heap.size + 1] wr w2 := t2.mono (fun k _ hk => by simp at hk ⊢; exact .inl hk)
                      have B2 := Lib.hid (PQ.out.touch PQ.out.below.size t3 c2)
                      clear t2 t3 c2 HMK
                      go_wp2_with fail
                      go_meet
                      case rel => exact ⟨S, HOK.out, by have := HLS.out.1; simp [stK] at this; omega, B2.out⟩
                · have hw1b : (wh == 1) = false := by simpa using hw1
                  by_cases hw2 : wh = 2
                  · subst hw2
                    rcases HAT2.out with ⟨t, ht, hkt, rfl⟩ | ⟨rfl, hnk⟩
                    · have ht0 : ¬ (t : Int) < 0 := by omega
                      have ht1 : (0 : Int) ≤ t := by omega
                      have ht2 : (t : Int) < j := by omega
                      obtain ⟨fo, d0, he3⟩ : ∃ fo d0, S[t]? = some ((k1, k2), (fo, d0)) := by
                        simp only [stK, List.getElem?_map, Option.map_eq_some_iff] at hkt
                        obtain ⟨⟨a, e, d⟩, h1, h2⟩ := hkt
                        simp only at h2
                        subst h2
                        exact ⟨e, d, h1⟩
                      obtain ⟨p1, p2, p3, p4, p5, p6, p7⟩ := st_drop HOK.out he3
                      have hmk := Drop_walk wr _ _ _ S (stR S) PQ.out.cache (k1, k2)
                      simp only [p2] at hmk
                      rw [p3, p4] at hmk
                      have HMK := Lib.hid hmk
                      have HP1 := Lib.hid p1
                      have HP5 := Lib.hid p5
                      have HP6 := Lib.hid p6
                      have HP7 := Lib.hid p7
                      obtain ⟨bk, ok, rfl⟩ := SlAt.addrOf PQ.out.k (by rw [pl_length, HLS.out.1]; omega)
                      obtain ⟨bf, of, rfl⟩ := SlAt.addrOf PQ.out.f (by rw [List.length_map, HLS.out.2.1]; omega)
                      obtain ⟨bd, od, rfl⟩ := SlAt.addrOf PQ.out.d (by rw [List.length_map, HLS.out.2.2]; omega)
                      have hlen : Hid ((S.eraseIdx t).length ≤ k + 1) := by
                        show _ ≤ _
                        have := HLS.out.1
                        simp [stK] at this
                        rw [List.length_eraseIdx]
                        split <;> omega
                      clear hkt he3 p1 p2 p3 p4 p5 p6 p7 hmk
                      go_wp2_with fail
                      refine HMK.out.mono ?_
                      rintro e w2 ⟨rfl, t2, c2⟩
                      have B2 := Lib.hid (PQ.out.touch PQ.out.below.size t2 c2)
                      have hk2 : (t : Int) + 1 ≤ j := by omega
                      have hk1 : (0 : Int) ≤ (t : Int) + 1 := by omega
                      have hkw : IntKind.i64.wrap ((t : Int) + 1) = t + 1 := by simp [IntKind.wrap, IntKind.bits, IntKind.signed]; omega
                      have hkn : ((t : Int) + 1).toNat = t + 1 := by omega
                      clear t2 c2 HMK f0 f1 f2 f3 f4
                      go_wp2_with fail
                      obtain ⟨i2, hi2, hz2, hs2, hb2⟩ := infoKey
                      obtain ⟨W2, hW2⟩ : ∃ W, W = w2.drew := ⟨_, rfl⟩
                      have PP2 := Lib.hid (B2.out.next B2.out.below.size (Below.drew (Below.refl _ _)))
                      rw [← hW2] at PP2
                      have SA2 := Lib.hid (SlAt.lit0 W2 23 2)
                      have BA2 : Hid (Below W2.heap.size W2 (W2.alloc (.cells #[] 23))) := (Below.refl _ _).alloc (Nat.le_refl _) _
                      have hd2 : w2.drew = W2 := hW2.symm
                      have HC2 : Hid (SlAt W2 23 2 (.slice (some ⟨bk, ok, none⟩) j ck) j (pl (stK S))) := by
                        have h := PP2.out.k
                        unfold KeAt at h
                        rwa [HLS.out.1] at h
                      have src2 : Hid (∀ X, Below W2.heap.size W2 X → SlAt X 23 2 (.slice (some ⟨bk, ok, none⟩) t ck) t ((pl (stK S)).take (t * 2))) := fun X hX => SlAt.take (SlAt.below HC2.out hX) t (Nat.le_of_lt ht)
                      obtain ⟨A2, hA2⟩ : ∃ A : Addr, (if ck = t + 1 then (some ⟨bk, ok, none⟩ : Option Addr) else some ⟨bk, ok + (t + 1) * 2, none⟩) = some A := by split <;> exact ⟨_, rfl⟩
                      have srd2 : Hid (∀ X, Below W2.heap.size W2 X → SlAt X 23 2 (.slice (some A2) (j - (t + 1)) (ck - (t + 1))) (j - (t + 1)) ((pl (stK S)).drop ((t + 1) * 2))) := fun X hX => SlAt.cut (SlAt.below HC2.out hX) (t + 1) ht (by simpa using hA2)
                      have hkc2 : t ≤ ck := by omega
                      have hkd2 : t + 1 ≤ ck := by omega
                      clear hW2
                      go_region_law (first
                        | (refine step_append_sl rfl (.tmp 126) (.tmp 129) 52 rfl i2 _ 16 Try.underlying52 hi2 hz2 hs2 hb2 rfl (.slice (some ⟨W2.heap.size, 0, none⟩) 0 0) 0 [] rfl SA2.out (.slice (some ⟨bk, ok, none⟩) t ck) t ((pl (stK S)).take (t * 2)) rfl (src2.out _ BA2.out) (fun u hu => pl_one _ u (List.mem_of_mem_take hu)) (by simp only [maxLen]; omega) (by omega) ?_
                           intro v1 wm hs1 hg1 ho1
                           have hv1 : Hid (∀ b, v1.ownBlock = some b → W2.heap.size ≤ b) := by
                             intro b hb
                             rcases ho1 with e | e <;> rw [e] at hb <;> simp [Value.ownBlock] at hb <;> omega
                           have hbw2 := Lib.hid (BA2.out.grown hg1 BA2.out.size (fun q hq => by simp [Value.ownBlock] at hq; omega))
                           have HS1 := Lib.hid hs1
                           clear hs1 hg1 ho1)
                        | (refine step_append_sl rfl (.tmp 130) (.tmp 134) 52 rfl i2 _ 16 Try.underlying52 hi2 hz2 hs2 hb2 rfl v1 (0 + t) ([] ++ (pl (stK S)).take (t * 2)) rfl HS1.out _ (j - (t + 1)) ((pl (stK S)).drop ((t + 1) * 2)) rfl (srd2.out _ hbw2.out) (fun u hu => pl_one _ u (List.mem_of_mem_drop hu)) (by simp only [maxLen]; omega) (by omega) ?_
                           intro v3 w3 hs3 hg3 ho3
                           have B3 : Hid (PlayAt w.heap.size w w3 (w.heap.size + 2) w.heap.size (w.heap.size + 1) (S.eraseIdx t) (stR (S.eraseIdx t)) v3 ((stK S).take t ++ (stK S).drop (t + 1)) (.slice (some ⟨bf, of, none⟩) j cf) (stF S) (.slice (some ⟨bd, od, none⟩) j cd) (stD S)) := by
                             refine PP2.out.newK PP2.out.below.size ?_ (hbw2.out.grown hg3 hbw2.out.size hv1.out) (fun b hb => ?_)
                             · show SlAt _ _ _ _ _ _
                               have : ((stK S).take t ++ (stK S).drop (t + 1)).length = 0 + t + (j - (t + 1)) := by
                                 have := HLS.out.1
                                 simp [List.length_take, List.length_drop, this]
                                 omega
                               rw [this, pl_append]
                               simpa [pl_take, pl_drop] using hs3
                             · rcases ho3 with e | e
                               · exact hv1.out b (e.symm.trans hb)
                               · rw [e] at hb
                                 have hb := Option.some.inj hb
                                 have := hbw2.out.size
                                 omega
                           clear hs3 hg3 ho3 hv1 hbw2 HS1))
                      go_wp2_with fail
                      obtain ⟨i3, hi3, hz3, hs3, hb3⟩ := infoInt
                      obtain ⟨W3, hW3⟩ : ∃ W, W = w3.drew := ⟨_, rfl⟩
                      have PP3 := Lib.hid (B3.out.next B3.out.below.size (Below.drew (Below.refl _ _)))
                      rw [← hW3] at PP3
                      have SA3 := Lib.hid (SlAt.lit0 W3 3 1)
                      have BA3 : Hid (Below W3.heap.size W3 (W3.alloc (.cells #[] 3))) := (Below.refl _ _).alloc (Nat.le_refl _) _
                      have hd3 : w3.drew = W3 := hW3.symm
                      have HC3 : Hid (SlAt W3 3 1 (.slice (some ⟨bf, of, none⟩) j cf) j ((stF S).map (fun x : Int => Value.int .i64 x))) := by
                        have h := PP3.out.f
                        unfold IsAt at h
                        rwa [HLS.out.2.1] at h
                      have src3 : Hid (∀ X, Below W3.heap.size W3 X → SlAt X 3 1 (.slice (some ⟨bf, of, none⟩) t cf) t (((stF S).map (fun x : Int => Value.int .i64 x)).take (t * 1))) := fun X hX => SlAt.take (SlAt.below HC3.out hX) t (Nat.le_of_lt ht)
                      obtain ⟨A3, hA3⟩ : ∃ A : Addr, (if cf = t + 1 then (some ⟨bf, of, none⟩ : Option Addr) else some ⟨bf, of + (t + 1), none⟩) = some A := by split <;> exact ⟨_, rfl⟩
                      have srd3 : Hid (∀ X, Below W3.heap.size W3 X → SlAt X 3 1 (.slice (some A3) (j - (t + 1)) (cf - (t + 1))) (j - (t + 1)) (((stF S).map (fun x : Int => Value.int .i64 x)).drop ((t + 1) * 1))) := fun X hX => SlAt.cut (SlAt.below HC3.out hX) (t + 1) ht (by simpa using hA3)
                      have hkc3 : t ≤ cf := by omega
                      have hkd3 : t + 1 ≤ cf := by omega
                      clear hW3
                      go_region_law (first
                        | (refine step_append_sl rfl (.tmp 136) (.tmp 139) 57 rfl i3 _ 8 Try.underlying57 hi3 hz3 hs3 hb3 rfl (.slice (some ⟨W3.heap.size, 0, none⟩) 0 0) 0 [] rfl SA3.out (.slice (some ⟨bf, of, none⟩) t cf) t (((stF S).map (fun x : Int => Value.int .i64 x)).take (t * 1)) rfl (src3.out _ BA3.out) (fun u hu => one_int _ u (List.mem_of_mem_take hu)) (by simp only [maxLen]; omega) (by omega) ?_
                           intro v1 wm hs1 hg1 ho1
                           have hv1 : Hid (∀ b, v1.ownBlock = some b → W3.heap.size ≤ b) := by
                             intro b hb
                             rcases ho1 with e | e <;> rw [e] at hb <;> simp [Value.ownBlock] at hb <;> omega
                           have hbw2 := Lib.hid (BA3.out.grown hg1 BA3.out.size (fun q hq => by simp [Value.ownBlock] at hq; omega))
                           have HS1 := Lib.hid hs1
                           clear hs1 hg1 ho1)
                        | (refine step_append_sl rfl (.tmp 140) (.tmp 144) 57 rfl i3 _ 8 Try.underlying57 hi3 hz3 hs3 hb3 rfl v1 (0 + t) ([] ++ ((stF S).map (fun x : Int => Value.int .i64 x)).take (t * 1)) rfl HS1.out _ (j - (t + 1)) (((stF S).map (fun x : Int => Value.int .i64 x)).drop ((t + 1) * 1)) rfl (srd3.out _ hbw2.out) (fun u hu => one_int _ u (List.mem_of_mem_drop hu)) (by simp only [maxLen]; omega) (by omega) ?_
                           intro v4 w4 hs3 hg3 ho3
                           have B4 : Hid (PlayAt w.heap.size w w4 (w.heap.size + 2) w.heap.size (w.heap.size + 1) (S.eraseIdx t) (stR (S.eraseIdx t)) v3 ((stK S).take t ++ (stK S).drop (t + 1)) v4 ((stF S).take t ++ (stF S).drop (t + 1)) (.slice (some ⟨bd, od, none⟩) j cd) (stD S)) := by
                             refine PP3.out.newF PP3.out.below.size ?_ (hbw2.out.grown hg3 hbw2.out.size hv1.out) (fun b hb => ?_)
                             · show SlAt _ _ _ _ _ _
                               have : ((stF S).take t ++ (stF S).drop (t + 1)).length = 0 + t + (j - (t + 1)) := by
                                 have := HLS.out.2.1
                                 simp [List.length_take, List.length_drop, this]
                                 omega
                               rw [this, List.map_append]
                               simpa [List.map_take, List.map_drop] using hs3
                             · rcases ho3 with e | e
                               · exact hv1.out b (e.symm.trans hb)
                               · rw [e] at hb
                                 have hb := Option.some.inj hb
                                 have := hbw2.out.size
                                 omega
                           clear hs3 hg3 ho3 hv1 hbw2 HS1))
                      go_wp2_with fail
                      obtain ⟨i4, hi4, hz4, hs4, hb4⟩ := infoBool
                      obtain ⟨W4, hW4⟩ : ∃ W, W = w4.drew := ⟨_, rfl⟩
                      have PP4 := Lib.hid (B4.out.next B4.out.below.size (Below.drew (Below.refl _ _)))
                      rw [← hW4] at PP4
                      have SA4 := Lib.hid (SlAt.lit0 W4 4 1)
                      have BA4 : Hid (Below W4.heap.size W4 (W4.alloc (.cells #[] 4))) := (Below.refl _ _).alloc (Nat.le_refl _) _
                      have hd4 : w4.drew = W4 := hW4.symm
                      have HC4 : Hid (SlAt W4 4 1 (.slice (some ⟨bd, od, none⟩) j cd) j ((stD S).map (fun x : Bool => Value.bool x))) := by
                        have h := PP4.out.d
                        unfold BsAt at h
                        rwa [HLS.out.2.2] at h
                      have src4 : Hid (∀ X, Below W4.heap.size W4 X → SlAt X 4 1 (.slice (some ⟨bd, od, none⟩) t cd) t (((stD S).map (fun x : Bool => Value.bool x)).take (t * 1))) := fun X hX => SlAt.take (SlAt.below HC4.out hX) t (Nat.le_of_lt ht)
                      obtain ⟨A4, hA4⟩ : ∃ A : Addr, (if cd = t + 1 then (some ⟨bd, od, none⟩ : Option Addr) else some ⟨bd, od + (t + 1), none⟩) = some A := by split <;> exact ⟨_, rfl⟩
                      have srd4 : Hid (∀ X, Below W4.heap.size W4 X → SlAt X 4 1 (.slice (some A4) (j - (t + 1)) (cd - (t + 1))) (j - (t + 1)) (((stD S).map (fun x : Bool => Value.bool x)).drop ((t + 1) * 1))) := fun X hX => SlAt.cut (SlAt.below HC4.out hX) (t + 1) ht (by simpa using hA4)
                      have hkc4 : t ≤ cd := by omega
                      have hkd4 : t + 1 ≤ cd := by omega
                      clear hW4
                      go_region_law (first
                        | (refine step_append_sl rfl (.tmp 146) (.tmp 149) 58 rfl i4 _ 1 Try.underlying58 hi4 hz4 hs4 hb4 rfl (.slice (some ⟨W4.heap.size, 0, none⟩) 0 0) 0 [] rfl SA4.out (.slice (some ⟨bd, od, none⟩) t cd) t (((stD S).map (fun x : Bool => Value.bool x)).take (t * 1)) rfl (src4.out _ BA4.out) (fun u hu => one_bool _ u (List.mem_of_mem_take hu)) (by simp only [maxLen]; omega) (by omega) ?_
                           intro v1 wm hs1 hg1 ho1
                           have hv1 : Hid (∀ b, v1.ownBlock = some b → W4.heap.size ≤ b) := by
                             intro b hb
                             rcases ho1 with e | e <;> rw [e] at hb <;> simp [Value.ownBlock] at hb <;> omega
                           have hbw2 := Lib.hid (BA4.out.grown hg1 BA4.out.size (fun q hq => by simp [Value.ownBlock] at hq; omega))
                           have HS1 := Lib.hid hs1
                           clear hs1 hg1 ho1)
                        | (refine step_append_sl rfl (.tmp 150) (.tmp 154) 58 rfl i4 _ 1 Try.underlying58 hi4 hz4 hs4 hb4 rfl v1 (0 + t) ([] ++ ((stD S).map (fun x : Bool => Value.bool x)).take (t * 1)) rfl HS1.out _ (j - (t + 1)) (((stD S).map (fun x : Bool => Value.bool x)).drop ((t + 1) * 1)) rfl (srd4.out _ hbw2.out) (fun u hu => one_bool _ u (List.mem_of_mem_drop hu)) (by simp only [maxLen]; omega) (by omega) ?_
                           intro v5 w5 hs3 hg3 ho3
                           have B5 : Hid (PlayAt w.heap.size w w5 (w.heap.size + 2) w.heap.size (w.heap.size + 1) (S.eraseIdx t) (stR (S.eraseIdx t)) v3 ((stK S).take t ++ (stK S).drop (t + 1)) v4 ((stF S).take t ++ (stF S).drop (t + 1)) v5 ((stD S).take t ++ (stD S).drop (t + 1))) := by
                             refine PP4.out.newD PP4.out.below.size ?_ (hbw2.out.grown hg3 hbw2.out.size hv1.out) (fun b hb => ?_)
                             · show SlAt _ _ _ _ _ _
                               have : ((stD S).take t ++ (stD S).drop (t + 1)).length = 0 + t + (j - (t + 1)) := by
                                 have := HLS.out.2.2
                                 simp [List.length_take, List.length_drop, this]
                                 omega
                               rw [this, List.map_append]
                               simpa [List.map_take, List.map_drop] using hs3
                             · rcases ho3 with e | e
                               · exact hv1.out b (e.symm.trans hb)
                               · rw [e] at hb
                                 have hb := Option.some.inj hb
                                 have := hbw2.out.size
                                 omega
                           clear hs3 hg3 ho3 hv1 hbw2 HS1))
                      go_wp2_with fail
                      go_wp2_with fail
                      go_meet
                      case rel =>
                        refine ⟨S.eraseIdx t, HP1.out, hlen.out, ?_⟩
                        show PlayAt _ _ _ _ _ _ _ _ _ _ _ _ _ _
                        rw [HP5.out, HP6.out, HP7.out]
                        exact B5.out
                    · have hg1 : getL S (k1, k2) = none := getL_none.2 hnk
                      have hmk := Drop_walk wr _ _ _ S (stR S) PQ.out.cache (k1, k2)
                      simp only [hg1] at hmk
                      have HMK := Lib.hid hmk
                      clear hnk hg1 hmk
                      go_wp2_with fail
                      refine HMK.out.mono ?_
                      rintro e w2 ⟨rfl, t2, c2⟩
                      have B2 := Lib.hid (PQ.out.touch PQ.out.below.size t2 c2)
                      clear t2 c2 HMK
                      go_wp2_with fail
                      go_meet
                      case rel => exact ⟨S, HOK.out, by have := HLS.out.1; simp [stK] at this; omega, B2.out⟩
                  · have hw2b : (wh == 2) = false := by simpa using hw2
                    go_wp2_with fail
                    go_meet
                    case rel => exact ⟨S, HOK.out, by have := HLS.out.1; simp [stK] at this; omega, PQ.out⟩
            case rest =>
              as_aux_lemma =>
                obtain ⟨S2, hok2, hlen2, hpl2⟩ := hcut
                have HOK2 := Lib.hid hok2
                have HPL2 := Lib.hid hpl2
                clear hok2 hpl2 HAT2 PQ KQ f0 f1 f2 f3 f4 HLS HOK hck hckm hcf hcfm hcd hcdm
                have hlK : (stK S2).length = S2.length := by simp [stK]
                have hlF : (stF S2).length = S2.length := by simp [stF]
                have hlD : (stD S2).length = S2.length := by simp [stD]
                obtain ⟨m, hm⟩ : ∃ m, m = S2.length := ⟨_, rfl⟩
                obtain ⟨ak2, ck2, hvk, hck2, hckm2⟩ := SlAt.form HPL2.out.k
                obtain ⟨af2, cf2, hvf, hcf2, hcfm2⟩ := SlAt.form HPL2.out.f
                obtain ⟨ad2, cd2, hvd, hcd2, hcdm2⟩ := SlAt.form HPL2.out.d
                rw [hlK, ← hm] at hvk hck2
                rw [hlF, ← hm] at hvf hcf2
                rw [hlD, ← hm] at hvd hcd2
                subst hvk hvf hvd
                have hmk : m ≤ k + 1 := by omega
                have HM : Hid (S2.length = m ∧ (stK S2).length = m ∧ (stF S2).length = m ∧ (stD S2).length = m) := ⟨hm.symm, hlK.trans hm.symm, hlF.trans hm.symm, hlD.trans hm.symm⟩
                clear hlK hlF hlD hm hlen2
                go_wp2_with fail
                go_loopw [15] (fun kk wq => ∃ i : Nat, i ≤ m ∧ kk = .int .i64 i ∧ Below wc.heap.size wc wq) (fun kk _ => m - (intOf kk).toNat)
                case atStart => exact ⟨0, by omega, rfl, Below.refl _ _⟩
                case round =>
                  obtain ⟨i, hi, rfl, hbq⟩ := hrel
                  have HBQ := Lib.hid hbq
                  clear hbq
                  by_cases him : i < m
                  · have him' : (i : Int) < m := by omega
                    have hi0 : (0 : Int) ≤ i := by omega
                    obtain ⟨⟨⟨y1, y2⟩, yf, yd⟩, hy⟩ : ∃ y, S2[i]? = some y := ⟨_, List.getElem?_eq_getElem (by rw [HM.out.1]; exact him)⟩
                    have hyk : (stK S2)[i]? = some (y1, y2) := by simp [stK, hy]
                    have hyf : (stF S2)[i]? = some yf := by simp [stF, hy]
                    have hyd : (stD S2)[i]? = some yd := by simp [stD, hy]
                    obtain ⟨bk, ok, rfl⟩ := SlAt.addrOf HPL2.out.k (by rw [pl_length, HM.out.2.1]; omega)
                    obtain ⟨bf, of, rfl⟩ := SlAt.addrOf HPL2.out.f (by rw [List.length_map, HM.out.2.2.1]; omega)
                    obtain ⟨bd, od, rfl⟩ := SlAt.addrOf HPL2.out.d (by rw [List.length_map, HM.out.2.2.2]; omega)
                    have PQ := Lib.hid (HPL2.out.next HPL2.out.below.size HBQ.out)
                    have hcl : Hid (∀ X, Below wr.heap.size wr X → X.cell? ⟨bk, ok + i * 2, none⟩ = some (.int .i64 y1) ∧ X.cell? ⟨bk, ok + i * 2 + 1, none⟩ = some (.int .i64 y2) ∧ X.cell? ⟨bf, of + i, none⟩ = some (.int .i64 yf) ∧ X.cell? ⟨bd, od + i, none⟩ = some (.bool yd)) := fun X hX => by
                      obtain ⟨e0, e1⟩ := (PQ.out.k.below hX).cell hyk
                      obtain ⟨e2, -⟩ := IsAt.cell (SlAt.below PQ.out.f hX) hyf
                      obtain ⟨e3, -⟩ := BsAt.cell (SlAt.below PQ.out.d hX) hyd
                      exact ⟨e0, e1, e2, e3⟩
                    have hg := (get_at HOK2.out.1 hy).1
                    have hrr : (stR S2)[i]? = some (yf, (y1, y2)) := by unfold stR; rw [List.getElem?_map, hy]; rfl
                    have hgr := (get_at (stOk_r HOK2.out) hrr).1
                    simp only at hg hgr
                    have hfr := Frame_walk wr _ _ _ S2 (stR S2) PQ.out.cache (y1, y2)
                    rw [hg] at hfr
                    have HFR := Lib.hid hfr
                    have HOF : Hid (∀ X, Below wr.heap.size wr X → Calls Try.prog 21 #[.pointer (some ⟨w.heap.size + 2, 0, none⟩), .int .i64 yf] X fun e w' => e = .returned (.tuple #[.agg #[.int .i64 y1, .int .i64 y2], .bool true]) ∧ Below X.heap.size X w') := fun X hX => by
                      have h := Of_walk X _ _ _ S2 (stR S2) (PQ.out.cache.below hX) yf
                      rw [hgr] at h
                      exact h
                    have HDI : Hid (∀ X, Below wr.heap.size wr X → Calls Try.prog 23 #[.pointer (some ⟨w.heap.size + 2, 0, none⟩), .agg #[.int .i64 y1, .int .i64 y2]] X fun e w' => e = .returned (.bool yd) ∧ Below X.heap.size X w') := fun X hX => by
                      have h := Dirty_walk X _ _ _ S2 (stR S2) (PQ.out.cache.below hX) (y1, y2)
                      rw [hg] at h
                      exact h
                    have HBS := Lib.hid PQ.out.below.size
                    clear hy hyk hyf hyd hg hrr hgr hfr PQ
                    obtain ⟨e0, e1, e2, e3⟩ := hcl.out wr (Below.refl _ _)
                    go_wp2_with fail
                    refine HFR.out.mono ?_
                    rintro e w3 ⟨rfl, b3⟩
                    have B3 := Lib.hid b3
                    clear e0 e1 e2 e3 b3 HFR
                    obtain ⟨e0, e1, e2, e3⟩ := hcl.out w3 B3.out
                    go_wp2_with fail
                    refine (HOF.out w3 B3.out).mono ?_
                    rintro e w4 ⟨rfl, b4⟩
                    have B4 := Lib.hid (B3.out.trans (b4.mono B3.out.size))
                    clear e0 e1 e2 e3 b4 HOF B3
                    obtain ⟨e0, e1, e2, e3⟩ := hcl.out w4 B4.out
                    go_wp2_with fail
                    have b5 := B4.out.alloc B4.out.size (.cells #[.int .i64 y1, .int .i64 y2] 23)
                    have hG : (w4.alloc (.cells #[.int .i64 y1, .int .i64 y2] 23)).cell? ⟨w4.heap.size, 0, none⟩ = some (.int .i64 y1) ∧ (w4.alloc (.cells #[.int .i64 y1, .int .i64 y2] 23)).cell? ⟨w4.heap.size, 1, none⟩ = some (.int .i64 y2) := by constructor <;> go_simp
                    clear e0 e1 e2 e3 B4
                    generalize w4.alloc (.cells #[.int .i64 y1, .int .i64 y2] 23) = W at *
                    generalize w4.heap.size = G at *
                    have B5 := Lib.hid b5
                    have HG := Lib.hid hG
                    clear b5 hG
                    obtain ⟨e0, e1, e2, e3⟩ := hcl.out W B5.out
                    have hneq := key_neq (y1, y2) (y1, y2)
                    rw [decide_eq_true rfl, Bool.not_true] at hneq
                    have hgd := fun op a b => key_guard op a b (y1, y2) (y1, y2)
                    simp only at hneq hgd
                    refine wp_region_held_drew (S := (fun X => X.cell? ⟨bk, ok + i * 2, none⟩ = some (.int .i64 y1) ∧ X.cell? ⟨bk, ok + i * 2 + 1, none⟩ = some (.int .i64 y2) ∧ X.cell? ⟨bf, of + i, none⟩ = some (.int .i64 yf) ∧ X.cell? ⟨bd, od + i, none⟩ = some (.bool yd) ∧ X.cell? ⟨G, 0, none⟩ = some (.int .i64 y1) ∧ X.cell? ⟨G, 1, none⟩ = some (.int .i64 y2))) (by kernel_rfl) ⟨e0, e1, e2, e3, HG.out.1, HG.out.2⟩ (fun hHeld => ?_)
                    refine hand_take (v := ?vqc0) 0 180 rfl rfl (by kernel_rfl) (by kernel_rfl) (by kernel_rfl) (fun _ _ _ h => h) (Or.inl ⟨by rfl, ?hyqc0⟩) hHeld ?restqc0
                    case hyqc0 => ((intro w hSw; (try dsimp only at hSw); go_simp) <;> with_reducible rfl)
                    case' restqc0 => (simp only [Act.put, List.setIfInBounds_toArray, List.set_cons_zero, List.set_cons_succ])
                    refine hand_take (v := ?vqc1) 1 181 rfl rfl (by kernel_rfl) (by kernel_rfl) (by kernel_rfl) (fun _ _ _ h => h) (Or.inl ⟨by rfl, ?hyqc1⟩) hHeld ?restqc1
                    case hyqc1 => ((intro w hSw; (try dsimp only at hSw); go_simp) <;> with_reducible rfl)
                    case' restqc1 => (simp only [Act.put, List.setIfInBounds_toArray, List.set_cons_zero, List.set_cons_succ])
                    refine hand_take (v := ?vqc2) 2 182 rfl rfl (by kernel_rfl) (by kernel_rfl) (by kernel_rfl) (fun _ _ _ h => h) (Or.inl ⟨by rfl, ?hyqc2⟩) hHeld ?restqc2
                    case hyqc2 => ((intro w hSw; (try dsimp only at hSw); go_simp) <;> with_reducible rfl)
                    case' restqc2 => (simp only [Act.put, List.setIfInBounds_toArray, List.set_cons_zero, List.set_cons_succ])
                    refine hand_take (v := ?vqc3) 3 183 rfl rfl (by kernel_rfl) (by kernel_rfl) (by kernel_rfl) (fun _ _ _ h => h) (Or.inl ⟨by rfl, ?hyqc3⟩) hHeld ?restqc3
                    case hyqc3 => ((intro w hSw; (try dsimp only at hSw); go_simp) <;> with_reducible rfl)
                    case' restqc3 => (simp only [Act.put, List.setIfInBounds_toArray, List.set_cons_zero, List.set_cons_succ])
                    refine hand_take (v := ?vqc4) 4 184 rfl rfl (by kernel_rfl) (by kernel_rfl) (by kernel_rfl) (fun _ _ _ h => h) (Or.inl ⟨by rfl, ?hyqc4⟩) hHeld ?restqc4
                    case hyqc4 => ((intro w hSw; (try dsimp only at hSw); go_simp) <;> with_reducible rfl)
                    case' restqc4 => (simp only [Act.put, List.setIfInBounds_toArray, List.set_cons_zero, List.set_cons_succ])
                    refine hand_take (v := ?vqc5) 5 185 rfl rfl (by kernel_rfl) (by kernel_rfl) (by kernel_rfl) (fun _ _ _ h => h) (Or.inl ⟨by rfl, ?hyqc5⟩) hHeld ?restqc5
                    case hyqc5 => ((intro w hSw; (try dsimp only at hSw); go_simp) <;> with_reducible rfl)
                    case' restqc5 => (simp only [Act.put, List.setIfInBounds_toArray, List.set_cons_zero, List.set_cons_succ])
                    refine hand_take (v := ?vqc6) 6 186 rfl rfl (by kernel_rfl) (by kernel_rfl) (by kernel_rfl) (fun _ _ _ h => h) (Or.inl ⟨by rfl, ?hyqc6⟩) hHeld ?restqc6
                    case hyqc6 => ((intro w hSw; (try dsimp only at hSw); go_simp) <;> with_reducible rfl)
                    case' restqc6 => (simp only [Act.put, List.setIfInBounds_toArray, List.set_cons_zero, List.set_cons_succ])
                    refine hand_take (v := ?vqc7) 7 187 rfl rfl (by kernel_rfl) (by kernel_rfl) (by kernel_rfl) (fun _ _ _ h => h) (Or.inl ⟨by rfl, ?hyqc7⟩) hHeld ?restqc7
                    case hyqc7 => ((intro w hSw; (try dsimp only at hSw); go_simp) <;> with_reducible rfl)
                    case' restqc7 => (simp only [Act.put, List.setIfInBounds_toArray, List.set_cons_zero, List.set_cons_succ])
                    refine hand_take (v := ?vqc8) 8 188 rfl rfl (by kernel_rfl) (by kernel_rfl) (by kernel_rfl) (fun _ _ _ h => h) (Or.inl ⟨by rfl, ?hyqc8⟩) hHeld ?restqc8
                    case hyqc8 => ((intro w hSw; (try dsimp only at hSw); go_simp) <;> with_reducible rfl)
                    case' restqc8 => (simp only [Act.put, List.setIfInBounds_toArray, List.set_cons_zero, List.set_cons_succ])
                    refine hand_take (v := ?vqc9) 9 189 rfl rfl (by kernel_rfl) (by kernel_rfl) (by kernel_rfl) (fun _ _ _ h => h) (Or.inl ⟨by rfl, ?hyqc9⟩) hHeld ?restqc9
                    case hyqc9 => ((intro w hSw; (try dsimp only at hSw); go_simp) <;> with_reducible rfl)
                    case' restqc9 => (simp only [Act.put, List.setIfInBounds_toArray, List.set_cons_zero, List.set_cons_succ])
                    refine hand_take (v := ?vqc10) 10 190 rfl rfl (by kernel_rfl) (by kernel_rfl) (by kernel_rfl) (fun _ _ _ h => h) (Or.inl ⟨by rfl, ?hyqc10⟩) hHeld ?restqc10
                    case hyqc10 => ((intro w hSw; (try dsimp only at hSw); go_simp) <;> with_reducible rfl)
                    case' restqc10 => (simp only [Act.put, List.setIfInBounds_toArray, List.set_cons_zero, List.set_cons_succ])
                    refine hand_take (v := ?vqc11) 11 191 rfl rfl (by kernel_rfl) (by kernel_rfl) (by kernel_rfl) (fun _ _ _ h => h) (Or.inl ⟨by rfl, ?hyqc11⟩) hHeld ?restqc11
                    case hyqc11 => ((intro w hSw; (try dsimp only at hSw); go_simp) <;> with_reducible rfl)
                    case' restqc11 => (simp only [Act.put, List.setIfInBounds_toArray, List.set_cons_zero, List.set_cons_succ])
                    refine hand_take (v := ?vqc12) 12 192 rfl rfl (by kernel_rfl) (by kernel_rfl) (by kernel_rfl) (fun _ _ _ h => h) (Or.inl ⟨by rfl, ?hyqc12⟩) hHeld ?restqc12
                    case hyqc12 => ((intro w hSw; (try dsimp only at hSw); go_simp) <;> with_reducible rfl)
                    case' restqc12 => (simp only [Act.put, List.setIfInBounds_toArray, List.set_cons_zero, List.set_cons_succ])
                    refine hand_take (v := ?vqc13) 13 193 rfl rfl (by kernel_rfl) (by kernel_rfl) (by kernel_rfl) (fun _ _ _ h => h) (Or.inl ⟨by rfl, ?hyqc13⟩) hHeld ?restqc13
                    case hyqc13 => ((intro w hSw; (try dsimp only at hSw); go_simp) <;> with_reducible rfl)
                    case' restqc13 => (simp only [Act.put, List.setIfInBounds_toArray, List.set_cons_zero, List.set_cons_succ])
                    refine hand_take (v := ?vqc14) 14 194 rfl rfl (by kernel_rfl) (by kernel_rfl) (by kernel_rfl) (fun _ _ _ h => h) (Or.inl ⟨by rfl, ?hyqc14⟩) hHeld ?restqc14
                    case hyqc14 => ((intro w hSw; (try dsimp only at hSw); go_simp) <;> with_reducible rfl)
                    case' restqc14 => (simp only [Act.put, List.setIfInBounds_toArray, List.set_cons_zero, List.set_cons_succ])
                    refine hand_take (v := ?vqc15) 15 195 rfl rfl (by kernel_rfl) (by kernel_rfl) (by kernel_rfl) (fun _ _ _ h => h) (Or.inl ⟨by rfl, ?hyqc15⟩) hHeld ?restqc15
                    case hyqc15 => ((intro w hSw; (try dsimp only at hSw); go_simp) <;> with_reducible rfl)
                    case' restqc15 => (simp only [Act.put, List.setIfInBounds_toArray, List.set_cons_zero, List.set_cons_succ])
                    refine hand_take (v := ?vqc16) 16 196 rfl rfl (by kernel_rfl) (by kernel_rfl) (by kernel_rfl) (fun _ _ _ h => h) (Or.inl ⟨by rfl, ?hyqc16⟩) hHeld ?restqc16
                    case hyqc16 => ((intro w hSw; (try dsimp only at hSw); go_simp) <;> with_reducible rfl)
                    case' restqc16 => (simp only [Act.put, List.setIfInBounds_toArray, List.set_cons_zero, List.set_cons_succ])
                    refine hand_take (v := ?vqc17) 17 197 rfl rfl (by kernel_rfl) (by kernel_rfl) (by kernel_rfl) (fun _ _ _ h => h) (Or.inl ⟨by rfl, ?hyqc17⟩) hHeld ?restqc17
                    case hyqc17 => ((intro w hSw; (try dsimp only at hSw); go_simp) <;> with_reducible rfl)
                    case' restqc17 => (simp only [Act.put, List.setIfInBounds_toArray, List.set_cons_zero, List.set_cons_succ])
                    refine hand_take (v := ?vqc18) 18 198 rfl rfl (by kernel_rfl) (by kernel_rfl) (by kernel_rfl) (fun _ _ _ h => h) (Or.inl ⟨by rfl, ?hyqc18⟩) hHeld ?restqc18
                    case hyqc18 => ((intro w hSw; (try dsimp only at hSw); go_simp) <;> with_reducible rfl)
                    case' restqc18 => (simp only [Act.put, List.setIfInBounds_toArray, List.set_cons_zero, List.set_cons_succ])
                    refine hand_take (v := ?vqc19) 19 199 rfl rfl (by kernel_rfl) (by kernel_rfl) (by kernel_rfl) (fun _ _ _ h => h) (Or.inl ⟨by rfl, ?hyqc19⟩) hHeld ?restqc19
                    case hyqc19 => ((intro w hSw; (try dsimp only at hSw); go_simp) <;> with_reducible rfl)
                    case' restqc19 => (simp only [Act.put, List.setIfInBounds_toArray, List.set_cons_zero, List.set_cons_succ])
                    refine hand_take (v := ?vqc20) 20 200 rfl rfl (by kernel_rfl) (by kernel_rfl) (by kernel_rfl) (fun _ _ _ h => h) (Or.inl ⟨by rfl, ?hyqc20⟩) hHeld ?restqc20
                    case hyqc20 => ((intro w hSw; (try dsimp only at hSw); go_simp) <;> with_reducible rfl)
                    case' restqc20 => (simp only [Act.put, List.setIfInBounds_toArray, List.set_cons_zero, List.set_cons_succ])
                    refine hand_take (v := ?vqc21) 21 201 rfl rfl (by kernel_rfl) (by kernel_rfl) (by kernel_rfl) (fun _ _ _ h => h) (Or.inl ⟨by rfl, ?hyqc21⟩) hHeld ?restqc21
                    case hyqc21 => ((intro w hSw; (try dsimp only at hSw); go_simp) <;> with_reducible rfl)
                    case' restqc21 => (simp only [Act.put, List.setIfInBounds_toArray, List.set_cons_zero, List.set_cons_succ])
                    refine hand_take (v := ?vqc22) 22 202 rfl rfl (by kernel_rfl) (by kernel_rfl) (by kernel_rfl) (fun _ _ _ h => h) (Or.inl ⟨by rfl, ?hyqc22⟩) hHeld ?restqc22
                    case hyqc22 => ((intro w hSw; (try dsimp only at hSw); go_simp) <;> with_reducible rfl)
                    case' restqc22 => (simp only [Act.put, List.setIfInBounds_toArray, List.set_cons_zero, List.set_cons_succ])
                    refine hand_take (v := ?vqc23) 23 203 rfl rfl (by kernel_rfl) (by kernel_rfl) (by kernel_rfl) (fun _ _ _ h => h) (Or.inl ⟨by rfl, ?hyqc23⟩) hHeld ?restqc23
                    case hyqc23 => ((intro w hSw; (try dsimp only at hSw); go_simp) <;> with_reducible rfl)
                    case' restqc23 => (simp only [Act.put, List.setIfInBounds_toArray, List.set_cons_zero, List.set_cons_succ])
                    refine hand_take (v := ?vqc24) 24 204 rfl rfl (by kernel_rfl) (by kernel_rfl) (by kernel_rfl) (fun _ _ _ h => h) (Or.inl ⟨by rfl, ?hyqc24⟩) hHeld ?restqc24
                    case hyqc24 => ((intro w hSw; (try dsimp only at hSw); go_simp) <;> with_reducible rfl)
                    case' restqc24 => (simp only [Act.put, List.setIfInBounds_toArray, List.set_cons_zero, List.set_cons_succ])
                    refine hand_take (v := ?vqc25) 25 205 rfl rfl (by kernel_rfl) (by kernel_rfl) (by kernel_rfl) (fun _ _ _ h => h) (Or.inl ⟨by rfl, ?hyqc25⟩) hHeld ?restqc25
                    case hyqc25 => ((intro w hSw; (try dsimp only at hSw); go_simp) <;> with_reducible rfl)
                    case' restqc25 => (simp only [Act.put, List.setIfInBounds_toArray, List.set_cons_zero, List.set_cons_succ])
                    refine hand_take (v := ?vqc26) 26 206 rfl rfl (by kernel_rfl) (by kernel_rfl) (by kernel_rfl) (fun _ _ _ h => h) (Or.inl ⟨by rfl, ?hyqc26⟩) hHeld ?restqc26
                    case hyqc26 => ((intro w hSw; (try dsimp only at hSw); go_simp) <;> with_reducible rfl)
                    case' restqc26 => (simp only [Act.put, List.setIfInBounds_toArray, List.set_cons_zero, List.set_cons_succ])
                    refine hand_take (v := ?vqc27) 27 207 rfl rfl (by kernel_rfl) (by kernel_rfl) (by kernel_rfl) (fun _ _ _ h => h) (Or.inl ⟨by rfl, ?hyqc27⟩) hHeld ?restqc27
                    case hyqc27 => ((intro w hSw; (try dsimp only at hSw); go_simp) <;> with_reducible rfl)
                    case' restqc27 => (simp only [Act.put, List.setIfInBounds_toArray, List.set_cons_zero, List.set_cons_succ])
                    refine hand_take (v := ?vqc29) 29 209 rfl rfl (by kernel_rfl) (by kernel_rfl) (by kernel_rfl) (fun _ _ _ h => h) (Or.inl ⟨by rfl, ?hyqc29⟩) hHeld ?restqc29
                    case hyqc29 => ((intro w hSw; (try dsimp only at hSw); go_simp) <;> with_reducible rfl)
                    case' restqc29 => (simp only [Act.put, List.setIfInBounds_toArray, List.set_cons_zero, List.set_cons_succ])
                    refine hand_take (v := ?vqc30) 30 210 rfl rfl (by kernel_rfl) (by kernel_rfl) (by kernel_rfl) (fun _ _ _ h => h) (Or.inl ⟨by rfl, ?hyqc30⟩) hHeld ?restqc30
                    case hyqc30 => ((intro w hSw; (try dsimp only at hSw); go_simp) <;> with_reducible rfl)
                    case' restqc30 => (simp only [Act.put, List.setIfInBounds_toArray, List.set_cons_zero, List.set_cons_succ])
                    refine hand_take (v := ?vqc31) 31 211 rfl rfl (by kernel_rfl) (by kernel_rfl) (by kernel_rfl) (fun _ _ _ h => h) (Or.inl ⟨by rfl, ?hyqc31⟩) hHeld ?restqc31
                    case hyqc31 => ((intro w hSw; (try dsimp only at hSw); go_simp) <;> with_reducible rfl)
                    case' restqc31 => (simp only [Act.put, List.setIfInBounds_toArray, List.set_cons_zero, List.set_cons_succ])
                    refine hand_take (v := ?vqc32) 32 212 rfl rfl (by kernel_rfl) (by kernel_rfl) (by kernel_rfl) (fun _ _ _ h => h) (Or.inl ⟨by rfl, ?hyqc32⟩) hHeld ?restqc32
                    case hyqc32 => ((intro w hSw; (try dsimp only at hSw); go_simp) <;> with_reducible rfl)
                    case' restqc32 => (simp only [Act.put, List.setIfInBounds_toArray, List.set_cons_zero, List.set_cons_succ])
                    refine wpAnyH_ready (rs := [28]) (by kernel_rfl) (by simp) ?_
                    refine AllReadyH.cons rfl (fun K hK => ?_) AllReadyH.nil
                    go_simp
                    go_wp2_with (go_at_call 23; refine (HDI.out _ B5.out.drew).mono ?_; rintro e X1 ⟨rfl, b1⟩)
                    have HB1 := Lib.hid (B5.out.drew.trans (b1.mono B5.out.drew.size))
                    obtain ⟨r0, r1, r2, r3⟩ := hcl.out X1 HB1.out
                    have r4 := (b1.cell (World.block_lt_of_cell? W _ HG.out.1)).trans HG.out.1
                    have r5 := (b1.cell (World.block_lt_of_cell? W _ HG.out.2)).trans HG.out.2
                    clear b1
                    refine hK.out _ _ ⟨r0, r1, r2, r3, r4, r5⟩ (fun hHeld => ?_)
                    clear hK K
                    refine hand_take (v := ?vqc33) 33 213 rfl rfl (by kernel_rfl) (by kernel_rfl) (by kernel_rfl) (fun _ _ _ h => h) (Or.inl ⟨by rfl, ?hyqc33⟩) hHeld ?restqc33
                    case hyqc33 => ((intro w hSw; (try dsimp only at hSw); go_simp) <;> with_reducible rfl)
                    case' restqc33 => (simp only [Act.put, List.setIfInBounds_toArray, List.set_cons_zero, List.set_cons_succ])
                    refine hand_take (v := ?vqc34) 34 214 rfl rfl (by kernel_rfl) (by kernel_rfl) (by kernel_rfl) (fun _ _ _ h => h) (Or.inl ⟨by rfl, ?hyqc34⟩) hHeld ?restqc34
                    case hyqc34 => ((intro w hSw; (try dsimp only at hSw); go_simp) <;> with_reducible rfl)
                    case' restqc34 => (simp only [Act.put, List.setIfInBounds_toArray, List.set_cons_zero, List.set_cons_succ])
                    refine wpAnyH_done (by kernel_rfl) ?_ _
                    go_wp2_with fail
                    go_roundw
                    case rel => exact ⟨i + 1, by omega, by go_num, HBQ.out.trans (HB1.out.mono HBQ.out.size)⟩
                    case measure => simp [intOf]; omega
                  · have himn : ¬ (i : Int) < m := by omega
                    have eim : i = m := by omega
                    subst eim
                    have PF := Lib.hid (HPL2.out.next HPL2.out.below.size HBQ.out)
                    go_wp2_with fail
                    go_roundg (n - (k + 1))
                    case measure => omega
                    case rel => exact ⟨k + 1, S2, by omega, rfl, by go_num, by rw [HM.out.1]; exact hmk, HOK2.out, PF.out⟩
      · have hltn : ¬ (k : Int) < n := by omega
        as_aux_lemma =>
          have hlK : (stK S).length = S.length := by simp [stK]
          obtain ⟨q, hq⟩ : ∃ q, q = S.length := ⟨_, rfl⟩
          obtain ⟨ak3, ck3, hvk, hck3, hckm3⟩ := SlAt.form HPL.out.k
          rw [hlK, ← hq] at hvk hck3
          subst hvk
          have HQL : Hid ((stK S).length = q) := hlK.trans hq.symm
          have HSL : Hid (S.length = q) := hq.symm
          have hq80 : q ≤ 80 := by omega
          clear hlK hq hsl
          go_wp2_with fail
          refine (Keys_cache wr _ _ _ S (stR S) HPL.out.cache (by rw [HSL.out]; omega) file).mono ?_
          rintro e w2 ⟨vl, ks, rfl, hs, hk2, b2⟩
          obtain ⟨L, hL⟩ : ∃ L, L = ks.filter (fun x => !otherF file x) := ⟨_, rfl⟩
          rw [← hL] at hk2
          have hperm : L.Perm ((stK S).filter (fun x => !otherF file x)) := by rw [hL]; exact hs.1.filter _
          have HLEN : Hid (L.length = ((stK S).filter (fun x => !otherF file x)).length) := hperm.length_eq
          have HMEM : Hid (∀ x ∈ L, x ∈ stK S ∧ otherF file x = false) := fun x hx => by
            have h := hperm.mem_iff.1 hx
            rw [List.mem_filter] at h
            exact ⟨h.1, by simpa using h.2⟩
          have HSRT : Hid (SortedP L) := by
            show L.Pairwise _
            rw [hL]
            refine List.Pairwise.filter _ ?_
            have hnd := hs.1.nodup_iff.2 HOK.out.1
            exact (hs.2.and hnd).imp fun {a b} ⟨h1, h2⟩ => by
              rcases ltP.tri a b with h | h | h
              · exact h
              · exact absurd h h2
              · exact absurd h h1
          obtain ⟨al, cl, rfl, hcl, hclm⟩ := SlAt.form hk2
          obtain ⟨m, hm⟩ : ∃ m, m = L.length := ⟨_, rfl⟩
          have HKS := Lib.hid hk2
          have HM := Lib.hid hm
          have hm80 : m ≤ 80 := by
            rw [hm, hperm.length_eq]
            exact Nat.le_trans (List.length_filter_le _ _) (by rw [HQL.out]; exact hq80)
          have P2 := Lib.hid (HPL.out.next HPL.out.below.size b2)
          rw [← hm] at HKS hcl ⊢
          clear hs hk2 b2 hL hperm hm
          go_wp2_with fail
          go_loopw [20, 22] (fun nn kk wq => ∃ i : Nat, i ≤ q ∧ kk = .int .i64 i ∧ nn = .int .i64 (((((stK S).take i).filter (fun x => !otherF file x)).length : Nat) : Int) ∧ Below w2.heap.size w2 wq) (fun _ kk _ => q - (intOf kk).toNat)
          case atStart => exact ⟨0, by omega, rfl, by simp, Below.refl _ _⟩
          case round =>
            obtain ⟨i, hi, rfl, rfl, hbq⟩ := hrel
            have HBQ := Lib.hid hbq
            clear hbq
            obtain ⟨c, hc⟩ : ∃ c, c = (((stK S).take i).filter (fun x => !otherF file x)).length := ⟨_, rfl⟩
            rw [← hc]
            have hc80 : c ≤ 80 := by
              rw [hc]
              exact Nat.le_trans (List.length_filter_le _ _) (by rw [List.length_take]; omega)
            have HC := Lib.hid hc
            clear hc
            by_cases hiq : i < q
            · have hiq' : (i : Int) < q := by omega
              have hi0 : (0 : Int) ≤ i := by omega
              obtain ⟨⟨y1, y2⟩, hy⟩ : ∃ y, (stK S)[i]? = some y := ⟨_, List.getElem?_eq_getElem (by rw [HQL.out]; exact hiq)⟩
              obtain ⟨bk, ok, rfl⟩ := SlAt.addrOf HPL.out.k (by rw [pl_length, HQL.out]; omega)
              obtain ⟨e0, e1⟩ := (P2.out.k.below HBQ.out).cell hy
              have hwc : IntKind.i64.wrap ((c : Int) + 1) = c + 1 := by simp [IntKind.wrap, IntKind.bits, IntKind.signed]; omega
              have hnx := filt_next (p := fun x => !otherF file x) hy
              rw [← HC.out] at hnx
              have HN1 := Lib.hid hnx
              simp only at e0 e1
              clear hy hnx
              by_cases hf : file < 0
              · have hfb : decide (file < 0) = true := decide_eq_true hf
                have HNX : Hid ((((stK S).take (i + 1)).filter (fun x => !otherF file x)).length = c + 1) := by
                  show _ = _
                  rw [HN1.out]
                  have ho : otherF file (y1, y2) = false := by unfold otherF; rw [decide_eq_false (by omega), Bool.false_and]
                  simp [ho]
                go_wp2_with fail
                go_roundw
                case rel => exact ⟨i + 1, by omega, by go_num, by rw [HNX.out]; simp, HBQ.out⟩
                case measure => simp [intOf]; omega
              · have hfb : decide (file < 0) = false := decide_eq_false hf
                by_cases hyf : y1 = file
                · have hyb : (y1 == file) = true := by simpa using hyf
                  have HNX : Hid ((((stK S).take (i + 1)).filter (fun x => !otherF file x)).length = c + 1) := by
                    show _ = _
                    rw [HN1.out]
                    have ho : otherF file (y1, y2) = false := by unfold otherF; simp [hyf]
                    simp [ho]
                  clear hyf
                  go_wp2_with fail
                  go_roundw
                  case rel => exact ⟨i + 1, by omega, by go_num, by rw [HNX.out]; simp, HBQ.out⟩
                  case measure => simp [intOf]; omega
                · have hyb : (y1 == file) = false := by simpa using hyf
                  have HNX : Hid ((((stK S).take (i + 1)).filter (fun x => !otherF file x)).length = c) := by
                    show _ = _
                    rw [HN1.out]
                    have ho : otherF file (y1, y2) = true := by unfold otherF; simp [hyf]; omega
                    simp [ho]
                  go_wp2_with fail
                  go_roundw
                  case rel => exact ⟨i + 1, by omega, by go_num, by rw [HNX.out], HBQ.out⟩
                  case measure => simp [intOf]; omega
            · have hiqn : ¬ (i : Int) < q := by omega
              have hcm : c = m := by rw [HC.out, HM.out, HLEN.out, List.take_of_length_le (by rw [HQL.out]; omega)]
              rw [hcm]
              clear hcm HC
              go_wp2_with fail
              go_loopw [23] (fun kk wq => ∃ i : Nat, i ≤ m ∧ kk = .int .i64 i ∧ Below w2.heap.size w2 wq) (fun kk _ => m - (intOf kk).toNat)
              case atStart => exact ⟨0, by omega, rfl, HBQ.out⟩
              case round =>
                obtain ⟨t, ht, rfl, hbq⟩ := hrel
                have HB5 := Lib.hid hbq
                clear hbq
                by_cases htm : t < m
                · have htm' : (t : Int) < m := by omega
                  have k0 : (0 : Int) ≤ t := by omega
                  obtain ⟨⟨x1, x2⟩, hx⟩ : ∃ x, L[t]? = some x := ⟨_, List.getElem?_eq_getElem (by rw [← HM.out]; exact htm)⟩
                  obtain ⟨bl, ol, rfl⟩ := HKS.out.addr (by rw [← HM.out]; omega)
                  have hmx := HMEM.out _ (List.mem_of_getElem? hx)
                  obtain ⟨⟨ef, ed⟩, he⟩ : ∃ e, getL S (x1, x2) = some e := by
                    cases h : getL S (x1, x2) with
                    | some e => exact ⟨e, rfl⟩
                    | none => exact absurd hmx.1 (getL_none.1 h)
                  have hfr := Frame_walk wr _ _ _ S (stR S) (P2.out.next P2.out.below.size HB5.out).cache (x1, x2)
                  rw [he] at hfr
                  have HFR := Lib.hid hfr
                  have HX := Lib.hid hx
                  have HMX := Lib.hid hmx.2
                  have hcl : Hid (∀ X, Below w2.heap.size w2 X → X.cell? ⟨bl, ol + t * 2, none⟩ = some (.int .i64 x1) ∧ X.cell? ⟨bl, ol + t * 2 + 1, none⟩ = some (.int .i64 x2)) := fun X hX => (HKS.out.below hX).cell HX.out
                  clear hx hmx he hfr
                  obtain ⟨e0, e1⟩ := hcl.out wr HB5.out
                  go_wp2_with fail
                  refine HFR.out.mono ?_
                  rintro e w5 ⟨rfl, b5⟩
                  have B5 := Lib.hid (HB5.out.trans (b5.mono HB5.out.size))
                  clear e0 e1 b5 HFR
                  go_wp2_with fail
                  by_cases hf : 0 ≤ file
                  · have hfb : decide (0 ≤ file) = true := decide_eq_true hf
                    have hxf : x1 = file := by
                      have h := HMX.out
                      unfold otherF at h
                      rw [hfb, Bool.true_and] at h
                      simpa using h
                    have hxb : (x1 != file) = false := by simp [hxf]
                    clear hxf
                    by_cases ht1 : 0 < t
                    · have ht1' : (0 : Int) < t := by omega
                      have ht1b : decide ((0 : Int) < t) = true := decide_eq_true ht1'
                      have ht1c : decide (0 < t) = true := decide_eq_true ht1
                      obtain ⟨⟨z1, z2⟩, hz⟩ : ∃ z, L[t - 1]? = some z := ⟨_, List.getElem?_eq_getElem (by rw [← HM.out]; omega)⟩
                      have hlt : ltP (z1, z2) (x1, x2) := by
                        obtain ⟨h1, g1⟩ := List.getElem?_eq_some_iff.1 hz
                        obtain ⟨h2, g2⟩ := List.getElem?_eq_some_iff.1 HX.out
                        rw [← g1, ← g2]
                        exact List.pairwise_iff_getElem.1 HSRT.out (t - 1) t h1 h2 (by omega)
                      have hcz : Hid (∀ X, Below w2.heap.size w2 X → X.cell? ⟨bl, ol + (t - 1) * 2, none⟩ = some (.int .i64 z1) ∧ X.cell? ⟨bl, ol + (t - 1) * 2 + 1, none⟩ = some (.int .i64 z2)) := fun X hX => (HKS.out.below hX).cell hz
                      have hls := fun W => less_walk W (z1, z2) (x1, x2)
                      rw [decide_eq_true hlt] at hls
                      have HLS := Lib.hid hls
                      have k1 : (1 : Int) ≤ (t : Int) := by omega
                      have kw : IntKind.i64.wrap ((t : Int) - 1) = (t : Int) - 1 := by simp [IntKind.wrap, IntKind.bits, IntKind.signed]; omega
                      have kp : (0 : Int) ≤ (t : Int) - 1 := by omega
                      have kt : ((t : Int) - 1).toNat = t - 1 := by omega
                      have kl : (t : Int) - 1 < m := by omega
                      clear hz hlt hls
                      obtain ⟨e0, e1⟩ := hcl.out w5 B5.out
                      obtain ⟨e2, e3⟩ := hcz.out w5 B5.out
                      refine wp_region_held_drew (S := (fun X => X.cell? ⟨bl, ol + t * 2, none⟩ = some (.int .i64 x1) ∧ X.cell? ⟨bl, ol + t * 2 + 1, none⟩ = some (.int .i64 x2) ∧ X.cell? ⟨bl, ol + (t - 1) * 2, none⟩ = some (.int .i64 z1) ∧ X.cell? ⟨bl, ol + (t - 1) * 2 + 1, none⟩ = some (.int .i64 z2))) (by kernel_rfl) ⟨e0, e1, e2, e3⟩ (fun hHeld => ?_)
                      refine hand_take (v := ?vqe110) 0 252 rfl rfl (by kernel_rfl) (by kernel_rfl) (by kernel_rfl) (fun _ _ _ h => h) (Or.inl ⟨by rfl, ?hyqe110⟩) hHeld ?restqe110
                      case hyqe110 => ((intro w hSw; (try dsimp only at hSw); go_simp) <;> with_reducible rfl)
                      case' restqe110 => (simp only [Act.put, List.setIfInBounds_toArray, List.set_cons_zero, List.set_cons_succ])
                      refine hand_take (v := ?vqe111) 1 253 rfl rfl (by kernel_rfl) (by kernel_rfl) (by kernel_rfl) (fun _ _ _ h => h) (Or.inl ⟨by rfl, ?hyqe111⟩) hHeld ?restqe111
                      case hyqe111 => ((intro w hSw; (try dsimp only at hSw); go_simp) <;> with_reducible rfl)
                      case' restqe111 => (simp only [Act.put, List.setIfInBounds_toArray, List.set_cons_zero, List.set_cons_succ])
                      refine hand_take (v := ?vqe112) 2 254 rfl rfl (by kernel_rfl) (by kernel_rfl) (by kernel_rfl) (fun _ _ _ h => h) (Or.inl ⟨by rfl, ?hyqe112⟩) hHeld ?restqe112
                      case hyqe112 => ((intro w hSw; (try dsimp only at hSw); go_simp) <;> with_reducible rfl)
                      case' restqe112 => (simp only [Act.put, List.setIfInBounds_toArray, List.set_cons_zero, List.set_cons_succ])
                      refine hand_take (v := ?vqe113) 3 255 rfl rfl (by kernel_rfl) (by kernel_rfl) (by kernel_rfl) (fun _ _ _ h => h) (Or.inl ⟨by rfl, ?hyqe113⟩) hHeld ?restqe113
                      case hyqe113 => ((intro w hSw; (try dsimp only at hSw); go_simp) <;> with_reducible rfl)
                      case' restqe113 => (simp only [Act.put, List.setIfInBounds_toArray, List.set_cons_zero, List.set_cons_succ])
                      refine hand_take (v := ?vqe114) 4 256 rfl rfl (by kernel_rfl) (by kernel_rfl) (by kernel_rfl) (fun _ _ _ h => h) (Or.inl ⟨by rfl, ?hyqe114⟩) hHeld ?restqe114
                      case hyqe114 => ((intro w hSw; (try dsimp only at hSw); go_simp) <;> with_reducible rfl)
                      case' restqe114 => (simp only [Act.put, List.setIfInBounds_toArray, List.set_cons_zero, List.set_cons_succ])
                      refine hand_take (v := ?vqe115) 5 257 rfl rfl (by kernel_rfl) (by kernel_rfl) (by kernel_rfl) (fun _ _ _ h => h) (Or.inl ⟨by rfl, ?hyqe115⟩) hHeld ?restqe115
                      case hyqe115 => ((intro w hSw; (try dsimp only at hSw); go_simp) <;> with_reducible rfl)
                      case' restqe115 => (simp only [Act.put, List.setIfInBounds_toArray, List.set_cons_zero, List.set_cons_succ])
                      refine hand_take (v := ?vqe116) 6 258 rfl rfl (by kernel_rfl) (by kernel_rfl) (by kernel_rfl) (fun _ _ _ h => h) (Or.inl ⟨by rfl, ?hyqe116⟩) hHeld ?restqe116
                      case hyqe116 => ((intro w hSw; (try dsimp only at hSw); go_simp) <;> with_reducible rfl)
                      case' restqe116 => (simp only [Act.put, List.setIfInBounds_toArray, List.set_cons_zero, List.set_cons_succ])
                      refine hand_take (v := ?vqe117) 7 259 rfl rfl (by kernel_rfl) (by kernel_rfl) (by kernel_rfl) (fun _ _ _ h => h) (Or.inl ⟨by rfl, ?hyqe117⟩) hHeld ?restqe117
                      case hyqe117 => ((intro w hSw; (try dsimp only at hSw); go_simp) <;> with_reducible rfl)
                      case' restqe117 => (simp only [Act.put, List.setIfInBounds_toArray, List.set_cons_zero, List.set_cons_succ])
                      refine hand_take (v := ?vqe118) 8 260 rfl rfl (by kernel_rfl) (by kernel_rfl) (by kernel_rfl) (fun _ _ _ h => h) (Or.inl ⟨by rfl, ?hyqe118⟩) hHeld ?restqe118
                      case hyqe118 => ((intro w hSw; (try dsimp only at hSw); go_simp) <;> with_reducible rfl)
                      case' restqe118 => (simp only [Act.put, List.setIfInBounds_toArray, List.set_cons_zero, List.set_cons_succ])
                      refine hand_take (v := ?vqe119) 9 261 rfl rfl (by kernel_rfl) (by kernel_rfl) (by kernel_rfl) (fun _ _ _ h => h) (Or.inl ⟨by rfl, ?hyqe119⟩) hHeld ?restqe119
                      case hyqe119 => ((intro w hSw; (try dsimp only at hSw); go_simp) <;> with_reducible rfl)
                      case' restqe119 => (simp only [Act.put, List.setIfInBounds_toArray, List.set_cons_zero, List.set_cons_succ])
                      refine hand_take (v := ?vqe1110) 10 262 rfl rfl (by kernel_rfl) (by kernel_rfl) (by kernel_rfl) (fun _ _ _ h => h) (Or.inl ⟨by rfl, ?hyqe1110⟩) hHeld ?restqe1110
                      case hyqe1110 => ((intro w hSw; (try dsimp only at hSw); go_simp) <;> with_reducible rfl)
                      case' restqe1110 => (simp only [Act.put, List.setIfInBounds_toArray, List.set_cons_zero, List.set_cons_succ])
                      refine hand_take (v := ?vqe1111) 11 263 rfl rfl (by kernel_rfl) (by kernel_rfl) (by kernel_rfl) (fun _ _ _ h => h) (Or.inl ⟨by rfl, ?hyqe1111⟩) hHeld ?restqe1111
                      case hyqe1111 => ((intro w hSw; (try dsimp only at hSw); go_simp) <;> with_reducible rfl)
                      case' restqe1111 => (simp only [Act.put, List.setIfInBounds_toArray, List.set_cons_zero, List.set_cons_succ])
                      refine hand_take (v := ?vqe1112) 12 264 rfl rfl (by kernel_rfl) (by kernel_rfl) (by kernel_rfl) (fun _ _ _ h => h) (Or.inl ⟨by rfl, ?hyqe1112⟩) hHeld ?restqe1112
                      case hyqe1112 => ((intro w hSw; (try dsimp only at hSw); go_simp) <;> with_reducible rfl)
                      case' restqe1112 => (simp only [Act.put, List.setIfInBounds_toArray, List.set_cons_zero, List.set_cons_succ])
                      refine hand_take (v := ?vqe1113) 13 265 rfl rfl (by kernel_rfl) (by kernel_rfl) (by kernel_rfl) (fun _ _ _ h => h) (Or.inl ⟨by rfl, ?hyqe1113⟩) hHeld ?restqe1113
                      case hyqe1113 => ((intro w hSw; (try dsimp only at hSw); go_simp) <;> with_reducible rfl)
                      case' restqe1113 => (simp only [Act.put, List.setIfInBounds_toArray, List.set_cons_zero, List.set_cons_succ])
                      refine hand_take (v := ?vqe1114) 14 266 rfl rfl (by kernel_rfl) (by kernel_rfl) (by kernel_rfl) (fun _ _ _ h => h) (Or.inl ⟨by rfl, ?hyqe1114⟩) hHeld ?restqe1114
                      case hyqe1114 => ((intro w hSw; (try dsimp only at hSw); go_simp) <;> with_reducible rfl)
                      case' restqe1114 => (simp only [Act.put, List.setIfInBounds_toArray, List.set_cons_zero, List.set_cons_succ])
                      refine wpAnyH_ready (rs := [15]) (by kernel_rfl) (by simp) ?_
                      refine AllReadyH.cons rfl (fun K hK => ?_) AllReadyH.nil
                      go_simp
                      go_wp2_with (go_at_call 38; refine (HLS.out _).mono ?_; rintro e X1 ⟨rfl, b1⟩)
                      have HB1 := Lib.hid (B5.out.drew.trans (b1.mono B5.out.drew.size))
                      obtain ⟨r0, r1⟩ := hcl.out X1 HB1.out
                      obtain ⟨r2, r3⟩ := hcz.out X1 HB1.out
                      clear b1
                      refine hK.out _ _ ⟨r0, r1, r2, r3⟩ (fun hHeld => ?_)
                      clear hK K
                      refine hand_take (v := ?vqe1116) 16 268 rfl rfl (by kernel_rfl) (by kernel_rfl) (by kernel_rfl) (fun _ _ _ h => h) (Or.inl ⟨by rfl, ?hyqe1116⟩) hHeld ?restqe1116
                      case hyqe1116 => ((intro w hSw; (try dsimp only at hSw); go_simp) <;> with_reducible rfl)
                      case' restqe1116 => (simp only [Act.put, List.setIfInBounds_toArray, List.set_cons_zero, List.set_cons_succ])
                      refine hand_take (v := ?vqe1117) 17 269 rfl rfl (by kernel_rfl) (by kernel_rfl) (by kernel_rfl) (fun _ _ _ h => h) (Or.inl ⟨by rfl, ?hyqe1117⟩) hHeld ?restqe1117
                      case hyqe1117 => ((intro w hSw; (try dsimp only at hSw); go_simp) <;> with_reducible rfl)
                      case' restqe1117 => (simp only [Act.put, List.setIfInBounds_toArray, List.set_cons_zero, List.set_cons_succ])
                      refine hand_take (v := ?vqe1118) 18 270 rfl rfl (by kernel_rfl) (by kernel_rfl) (by kernel_rfl) (fun _ _ _ h => h) (Or.inl ⟨by rfl, ?hyqe1118⟩) hHeld ?restqe1118
                      case hyqe1118 => ((intro w hSw; (try dsimp only at hSw); go_simp) <;> with_reducible rfl)
                      case' restqe1118 => (simp only [Act.put, List.setIfInBounds_toArray, List.set_cons_zero, List.set_cons_succ])
                      refine hand_take (v := ?vqe1119) 19 271 rfl rfl (by kernel_rfl) (by kernel_rfl) (by kernel_rfl) (fun _ _ _ h => h) (Or.inl ⟨by rfl, ?hyqe1119⟩) hHeld ?restqe1119
                      case hyqe1119 => ((intro w hSw; (try dsimp only at hSw); go_simp) <;> with_reducible rfl)
                      case' restqe1119 => (simp only [Act.put, List.setIfInBounds_toArray, List.set_cons_zero, List.set_cons_succ])
                      refine hand_take (v := ?vqe1120) 20 272 rfl rfl (by kernel_rfl) (by kernel_rfl) (by kernel_rfl) (fun _ _ _ h => h) (Or.inl ⟨by rfl, ?hyqe1120⟩) hHeld ?restqe1120
                      case hyqe1120 => ((intro w hSw; (try dsimp only at hSw); go_simp) <;> with_reducible rfl)
                      case' restqe1120 => (simp only [Act.put, List.setIfInBounds_toArray, List.set_cons_zero, List.set_cons_succ])
                      refine hand_take (v := ?vqe1121) 21 273 rfl rfl (by kernel_rfl) (by kernel_rfl) (by kernel_rfl) (fun _ _ _ h => h) (Or.inl ⟨by rfl, ?hyqe1121⟩) hHeld ?restqe1121
                      case hyqe1121 => ((intro w hSw; (try dsimp only at hSw); go_simp) <;> with_reducible rfl)
                      case' restqe1121 => (simp only [Act.put, List.setIfInBounds_toArray, List.set_cons_zero, List.set_cons_succ])
                      refine hand_take (v := ?vqe1122) 22 274 rfl rfl (by kernel_rfl) (by kernel_rfl) (by kernel_rfl) (fun _ _ _ h => h) (Or.inl ⟨by rfl, ?hyqe1122⟩) hHeld ?restqe1122
                      case hyqe1122 => ((intro w hSw; (try dsimp only at hSw); go_simp) <;> with_reducible rfl)
                      case' restqe1122 => (simp only [Act.put, List.setIfInBounds_toArray, List.set_cons_zero, List.set_cons_succ])
                      refine hand_take (v := ?vqe1123) 23 275 rfl rfl (by kernel_rfl) (by kernel_rfl) (by kernel_rfl) (fun _ _ _ h => h) (Or.inl ⟨by rfl, ?hyqe1123⟩) hHeld ?restqe1123
                      case hyqe1123 => ((intro w hSw; (try dsimp only at hSw); go_simp) <;> with_reducible rfl)
                      case' restqe1123 => (simp only [Act.put, List.setIfInBounds_toArray, List.set_cons_zero, List.set_cons_succ])
                      refine hand_take (v := ?vqe1124) 24 276 rfl rfl (by kernel_rfl) (by kernel_rfl) (by kernel_rfl) (fun _ _ _ h => h) (Or.inl ⟨by rfl, ?hyqe1124⟩) hHeld ?restqe1124
                      case hyqe1124 => ((intro w hSw; (try dsimp only at hSw); go_simp) <;> with_reducible rfl)
                      case' restqe1124 => (simp only [Act.put, List.setIfInBounds_toArray, List.set_cons_zero, List.set_cons_succ])
                      refine hand_take (v := ?vqe1125) 25 277 rfl rfl (by kernel_rfl) (by kernel_rfl) (by kernel_rfl) (fun _ _ _ h => h) (Or.inl ⟨by rfl, ?hyqe1125⟩) hHeld ?restqe1125
                      case hyqe1125 => ((intro w hSw; (try dsimp only at hSw); go_simp) <;> with_reducible rfl)
                      case' restqe1125 => (simp only [Act.put, List.setIfInBounds_toArray, List.set_cons_zero, List.set_cons_succ])
                      refine hand_take (v := ?vqe1126) 26 278 rfl rfl (by kernel_rfl) (by kernel_rfl) (by kernel_rfl) (fun _ _ _ h => h) (Or.inl ⟨by rfl, ?hyqe1126⟩) hHeld ?restqe1126
                      case hyqe1126 => ((intro w hSw; (try dsimp only at hSw); go_simp) <;> with_reducible rfl)
                      case' restqe1126 => (simp only [Act.put, List.setIfInBounds_toArray, List.set_cons_zero, List.set_cons_succ])
                      refine hand_take (v := ?vqe1127) 27 279 rfl rfl (by kernel_rfl) (by kernel_rfl) (by kernel_rfl) (fun _ _ _ h => h) (Or.inl ⟨by rfl, ?hyqe1127⟩) hHeld ?restqe1127
                      case hyqe1127 => ((intro w hSw; (try dsimp only at hSw); go_simp) <;> with_reducible rfl)
                      case' restqe1127 => (simp only [Act.put, List.setIfInBounds_toArray, List.set_cons_zero, List.set_cons_succ])
                      refine hand_take (v := ?vqe1128) 28 280 rfl rfl (by kernel_rfl) (by kernel_rfl) (by kernel_rfl) (fun _ _ _ h => h) (Or.inl ⟨by rfl, ?hyqe1128⟩) hHeld ?restqe1128
                      case hyqe1128 => ((intro w hSw; (try dsimp only at hSw); go_simp) <;> with_reducible rfl)
                      case' restqe1128 => (simp only [Act.put, List.setIfInBounds_toArray, List.set_cons_zero, List.set_cons_succ])
                      refine hand_take (v := ?vqe1129) 29 281 rfl rfl (by kernel_rfl) (by kernel_rfl) (by kernel_rfl) (fun _ _ _ h => h) (Or.inl ⟨by rfl, ?hyqe1129⟩) hHeld ?restqe1129
                      case hyqe1129 => ((intro w hSw; (try dsimp only at hSw); go_simp) <;> with_reducible rfl)
                      case' restqe1129 => (simp only [Act.put, List.setIfInBounds_toArray, List.set_cons_zero, List.set_cons_succ])
                      refine hand_take (v := ?vqe1130) 30 282 rfl rfl (by kernel_rfl) (by kernel_rfl) (by kernel_rfl) (fun _ _ _ h => h) (Or.inl ⟨by rfl, ?hyqe1130⟩) hHeld ?restqe1130
                      case hyqe1130 => ((intro w hSw; (try dsimp only at hSw); go_simp) <;> with_reducible rfl)
                      case' restqe1130 => (simp only [Act.put, List.setIfInBounds_toArray, List.set_cons_zero, List.set_cons_succ])
                      refine hand_take (v := ?vqe1131) 31 283 rfl rfl (by kernel_rfl) (by kernel_rfl) (by kernel_rfl) (fun _ _ _ h => h) (Or.inl ⟨by rfl, ?hyqe1131⟩) hHeld ?restqe1131
                      case hyqe1131 => ((intro w hSw; (try dsimp only at hSw); go_simp) <;> with_reducible rfl)
                      case' restqe1131 => (simp only [Act.put, List.setIfInBounds_toArray, List.set_cons_zero, List.set_cons_succ])
                      refine wpAnyH_done (by kernel_rfl) ?_ _
                      go_wp2_with fail
                      go_roundw
                      case rel => exact ⟨t + 1, by omega, by go_num, HB1.out⟩
                      case measure => simp [intOf]; omega
                    · have ht1' : ¬ (0 : Int) < t := by omega
                      have ht1b : decide ((0 : Int) < t) = false := decide_eq_false ht1'
                      have ht1c : decide (0 < t) = false := decide_eq_false ht1
                      obtain ⟨e0, e1⟩ := hcl.out w5 B5.out
                      refine wp_region_held_drew (S := (fun X => X.cell? ⟨bl, ol + t * 2, none⟩ = some (.int .i64 x1) ∧ X.cell? ⟨bl, ol + t * 2 + 1, none⟩ = some (.int .i64 x2))) (by kernel_rfl) ⟨e0, e1⟩ (fun hHeld => ?_)
                      refine hand_take (v := ?vqe010) 0 252 rfl rfl (by kernel_rfl) (by kernel_rfl) (by kernel_rfl) (fun _ _ _ h => h) (Or.inl ⟨by rfl, ?hyqe010⟩) hHeld ?restqe010
                      case hyqe010 => ((intro w hSw; (try dsimp only at hSw); go_simp) <;> with_reducible rfl)
                      case' restqe010 => (simp only [Act.put, List.setIfInBounds_toArray, List.set_cons_zero, List.set_cons_succ])
                      refine hand_take (v := ?vqe011) 1 253 rfl rfl (by kernel_rfl) (by kernel_rfl) (by kernel_rfl) (fun _ _ _ h => h) (Or.inl ⟨by rfl, ?hyqe011⟩) hHeld ?restqe011
                      case hyqe011 => ((intro w hSw; (try dsimp only at hSw); go_simp) <;> with_reducible rfl)
                      case' restqe011 => (simp only [Act.put, List.setIfInBounds_toArray, List.set_cons_zero, List.set_cons_succ])
                      refine hand_take (v := ?vqe012) 2 254 rfl rfl (by kernel_rfl) (by kernel_rfl) (by kernel_rfl) (fun _ _ _ h => h) (Or.inl ⟨by rfl, ?hyqe012⟩) hHeld ?restqe012
                      case hyqe012 => ((intro w hSw; (try dsimp only at hSw); go_simp) <;> with_reducible rfl)
                      case' restqe012 => (simp only [Act.put, List.setIfInBounds_toArray, List.set_cons_zero, List.set_cons_succ])
                      refine hand_take (v := ?vqe013) 3 255 rfl rfl (by kernel_rfl) (by kernel_rfl) (by kernel_rfl) (fun _ _ _ h => h) (Or.inl ⟨by rfl, ?hyqe013⟩) hHeld ?restqe013
                      case hyqe013 => ((intro w hSw; (try dsimp only at hSw); go_simp) <;> with_reducible rfl)
                      case' restqe013 => (simp only [Act.put, List.setIfInBounds_toArray, List.set_cons_zero, List.set_cons_succ])
                      refine hand_take (v := ?vqe014) 4 256 rfl rfl (by kernel_rfl) (by kernel_rfl) (by kernel_rfl) (fun _ _ _ h => h) (Or.inl ⟨by rfl, ?hyqe014⟩) hHeld ?restqe014
                      case hyqe014 => ((intro w hSw; (try dsimp only at hSw); go_simp) <;> with_reducible rfl)
                      case' restqe014 => (simp only [Act.put, List.setIfInBounds_toArray, List.set_cons_zero, List.set_cons_succ])
                      refine hand_take (v := ?vqe015) 5 257 rfl rfl (by kernel_rfl) (by kernel_rfl) (by kernel_rfl) (fun _ _ _ h => h) (Or.inl ⟨by rfl, ?hyqe015⟩) hHeld ?restqe015
                      case hyqe015 => ((intro w hSw; (try dsimp only at hSw); go_simp) <;> with_reducible rfl)
                      case' restqe015 => (simp only [Act.put, List.setIfInBounds_toArray, List.set_cons_zero, List.set_cons_succ])
                      refine hand_off 6 258 rfl rfl (by kernel_rfl) (by kernel_rfl) (by kernel_rfl) (fun _ _ _ h => h) (by rfl) hHeld ?_
                      simp only [Act.put, List.setIfInBounds_toArray, List.set_cons_zero, List.set_cons_succ]
                      refine hand_off 7 259 rfl rfl (by kernel_rfl) (by kernel_rfl) (by kernel_rfl) (fun _ _ _ h => h) (by rfl) hHeld ?_
                      simp only [Act.put, List.setIfInBounds_toArray, List.set_cons_zero, List.set_cons_succ]
                      refine hand_off 8 260 rfl rfl (by kernel_rfl) (by kernel_rfl) (by kernel_rfl) (fun _ _ _ h => h) (by rfl) hHeld ?_
                      simp only [Act.put, List.setIfInBounds_toArray, List.set_cons_zero, List.set_cons_succ]
                      refine hand_off 9 261 rfl rfl (by kernel_rfl) (by kernel_rfl) (by kernel_rfl) (fun _ _ _ h => h) (by rfl) hHeld ?_
                      simp only [Act.put, List.setIfInBounds_toArray, List.set_cons_zero, List.set_cons_succ]
                      refine hand_off 10 262 rfl rfl (by kernel_rfl) (by kernel_rfl) (by kernel_rfl) (fun _ _ _ h => h) (by rfl) hHeld ?_
                      simp only [Act.put, List.setIfInBounds_toArray, List.set_cons_zero, List.set_cons_succ]
                      refine hand_off 11 263 rfl rfl (by kernel_rfl) (by kernel_rfl) (by kernel_rfl) (fun _ _ _ h => h) (by rfl) hHeld ?_
                      simp only [Act.put, List.setIfInBounds_toArray, List.set_cons_zero, List.set_cons_succ]
                      refine hand_off 12 264 rfl rfl (by kernel_rfl) (by kernel_rfl) (by kernel_rfl) (fun _ _ _ h => h) (by rfl) hHeld ?_
                      simp only [Act.put, List.setIfInBounds_toArray, List.set_cons_zero, List.set_cons_succ]
                      refine hand_off 13 265 rfl rfl (by kernel_rfl) (by kernel_rfl) (by kernel_rfl) (fun _ _ _ h => h) (by rfl) hHeld ?_
                      simp only [Act.put, List.setIfInBounds_toArray, List.set_cons_zero, List.set_cons_succ]
                      refine hand_off 14 266 rfl rfl (by kernel_rfl) (by kernel_rfl) (by kernel_rfl) (fun _ _ _ h => h) (by rfl) hHeld ?_
                      simp only [Act.put, List.setIfInBounds_toArray, List.set_cons_zero, List.set_cons_succ]
                      refine hand_off 15 267 rfl rfl (by kernel_rfl) (by kernel_rfl) (by kernel_rfl) (fun _ _ _ h => h) (by rfl) hHeld ?_
                      simp only [Act.put, List.setIfInBounds_toArray, List.set_cons_zero, List.set_cons_succ]
                      refine hand_off 16 268 rfl rfl (by kernel_rfl) (by kernel_rfl) (by kernel_rfl) (fun _ _ _ h => h) (by rfl) hHeld ?_
                      simp only [Act.put, List.setIfInBounds_toArray, List.set_cons_zero, List.set_cons_succ]
                      refine hand_take (v := ?vqe0117) 17 269 rfl rfl (by kernel_rfl) (by kernel_rfl) (by kernel_rfl) (fun _ _ _ h => h) (Or.inl ⟨by rfl, ?hyqe0117⟩) hHeld ?restqe0117
                      case hyqe0117 => ((intro w hSw; (try dsimp only at hSw); go_simp) <;> with_reducible rfl)
                      case' restqe0117 => (simp only [Act.put, List.setIfInBounds_toArray, List.set_cons_zero, List.set_cons_succ])
                      refine hand_take (v := ?vqe0118) 18 270 rfl rfl (by kernel_rfl) (by kernel_rfl) (by kernel_rfl) (fun _ _ _ h => h) (Or.inl ⟨by rfl, ?hyqe0118⟩) hHeld ?restqe0118
                      case hyqe0118 => ((intro w hSw; (try dsimp only at hSw); go_simp) <;> with_reducible rfl)
                      case' restqe0118 => (simp only [Act.put, List.setIfInBounds_toArray, List.set_cons_zero, List.set_cons_succ])
                      refine hand_take (v := ?vqe0119) 19 271 rfl rfl (by kernel_rfl) (by kernel_rfl) (by kernel_rfl) (fun _ _ _ h => h) (Or.inl ⟨by rfl, ?hyqe0119⟩) hHeld ?restqe0119
                      case hyqe0119 => ((intro w hSw; (try dsimp only at hSw); go_simp) <;> with_reducible rfl)
                      case' restqe0119 => (simp only [Act.put, List.setIfInBounds_toArray, List.set_cons_zero, List.set_cons_succ])
                      refine hand_take (v := ?vqe0120) 20 272 rfl rfl (by kernel_rfl) (by kernel_rfl) (by kernel_rfl) (fun _ _ _ h => h) (Or.inl ⟨by rfl, ?hyqe0120⟩) hHeld ?restqe0120
                      case hyqe0120 => ((intro w hSw; (try dsimp only at hSw); go_simp) <;> with_reducible rfl)
                      case' restqe0120 => (simp only [Act.put, List.setIfInBounds_toArray, List.set_cons_zero, List.set_cons_succ])
                      refine hand_take (v := ?vqe0121) 21 273 rfl rfl (by kernel_rfl) (by kernel_rfl) (by kernel_rfl) (fun _ _ _ h => h) (Or.inl ⟨by rfl, ?hyqe0121⟩) hHeld ?restqe0121
                      case hyqe0121 => ((intro w hSw; (try dsimp only at hSw); go_simp) <;> with_reducible rfl)
                      case' restqe0121 => (simp only [Act.put, List.setIfInBounds_toArray, List.set_cons_zero, List.set_cons_succ])
                      refine hand_take (v := ?vqe0122) 22 274 rfl rfl (by kernel_rfl) (by kernel_rfl) (by kernel_rfl) (fun _ _ _ h => h) (Or.inl ⟨by rfl, ?hyqe0122⟩) hHeld ?restqe0122
                      case hyqe0122 => ((intro w hSw; (try dsimp only at hSw); go_simp) <;> with_reducible rfl)
                      case' restqe0122 => (simp only [Act.put, List.setIfInBounds_toArray, List.set_cons_zero, List.set_cons_succ])
                      refine hand_take (v := ?vqe0123) 23 275 rfl rfl (by kernel_rfl) (by kernel_rfl) (by kernel_rfl) (fun _ _ _ h => h) (Or.inl ⟨by rfl, ?hyqe0123⟩) hHeld ?restqe0123
                      case hyqe0123 => ((intro w hSw; (try dsimp only at hSw); go_simp) <;> with_reducible rfl)
                      case' restqe0123 => (simp only [Act.put, List.setIfInBounds_toArray, List.set_cons_zero, List.set_cons_succ])
                      refine hand_take (v := ?vqe0124) 24 276 rfl rfl (by kernel_rfl) (by kernel_rfl) (by kernel_rfl) (fun _ _ _ h => h) (Or.inl ⟨by rfl, ?hyqe0124⟩) hHeld ?restqe0124
                      case hyqe0124 => ((intro w hSw; (try dsimp only at hSw); go_simp) <;> with_reducible rfl)
                      case' restqe0124 => (simp only [Act.put, List.setIfInBounds_toArray, List.set_cons_zero, List.set_cons_succ])
                      refine hand_take (v := ?vqe0125) 25 277 rfl rfl (by kernel_rfl) (by kernel_rfl) (by kernel_rfl) (fun _ _ _ h => h) (Or.inl ⟨by rfl, ?hyqe0125⟩) hHeld ?restqe0125
                      case hyqe0125 => ((intro w hSw; (try dsimp only at hSw); go_simp) <;> with_reducible rfl)
                      case' restqe0125 => (simp only [Act.put, List.setIfInBounds_toArray, List.set_cons_zero, List.set_cons_succ])
                      refine hand_take (v := ?vqe0126) 26 278 rfl rfl (by kernel_rfl) (by kernel_rfl) (by kernel_rfl) (fun _ _ _ h => h) (Or.inl ⟨by rfl, ?hyqe0126⟩) hHeld ?restqe0126
                      case hyqe0126 => ((intro w hSw; (try dsimp only at hSw); go_simp) <;> with_reducible rfl)
                      case' restqe0126 => (simp only [Act.put, List.setIfInBounds_toArray, List.set_cons_zero, List.set_cons_succ])
                      refine hand_take (v := ?vqe0127) 27 279 rfl rfl (by kernel_rfl) (by kernel_rfl) (by kernel_rfl) (fun _ _ _ h => h) (Or.inl ⟨by rfl, ?hyqe0127⟩) hHeld ?restqe0127
                      case hyqe0127 => ((intro w hSw; (try dsimp only at hSw); go_simp) <;> with_reducible rfl)
                      case' restqe0127 => (simp only [Act.put, List.setIfInBounds_toArray, List.set_cons_zero, List.set_cons_succ])
                      refine hand_take (v := ?vqe0128) 28 280 rfl rfl (by kernel_rfl) (by kernel_rfl) (by kernel_rfl) (fun _ _ _ h => h) (Or.inl ⟨by rfl, ?hyqe0128⟩) hHeld ?restqe0128
                      case hyqe0128 => ((intro w hSw; (try dsimp only at hSw); go_simp) <;> with_reducible rfl)
                      case' restqe0128 => (simp only [Act.put, List.setIfInBounds_toArray, List.set_cons_zero, List.set_cons_succ])
                      refine hand_take (v := ?vqe0129) 29 281 rfl rfl (by kernel_rfl) (by kernel_rfl) (by kernel_rfl) (fun _ _ _ h => h) (Or.inl ⟨by rfl, ?hyqe0129⟩) hHeld ?restqe0129
                      case hyqe0129 => ((intro w hSw; (try dsimp only at hSw); go_simp) <;> with_reducible rfl)
                      case' restqe0129 => (simp only [Act.put, List.setIfInBounds_toArray, List.set_cons_zero, List.set_cons_succ])
                      refine hand_take (v := ?vqe0130) 30 282 rfl rfl (by kernel_rfl) (by kernel_rfl) (by kernel_rfl) (fun _ _ _ h => h) (Or.inl ⟨by rfl, ?hyqe0130⟩) hHeld ?restqe0130
                      case hyqe0130 => ((intro w hSw; (try dsimp only at hSw); go_simp) <;> with_reducible rfl)
                      case' restqe0130 => (simp only [Act.put, List.setIfInBounds_toArray, List.set_cons_zero, List.set_cons_succ])
                      refine hand_take (v := ?vqe0131) 31 283 rfl rfl (by kernel_rfl) (by kernel_rfl) (by kernel_rfl) (fun _ _ _ h => h) (Or.inl ⟨by rfl, ?hyqe0131⟩) hHeld ?restqe0131
                      case hyqe0131 => ((intro w hSw; (try dsimp only at hSw); go_simp) <;> with_reducible rfl)
                      case' restqe0131 => (simp only [Act.put, List.setIfInBounds_toArray, List.set_cons_zero, List.set_cons_succ])
                      refine wpAnyH_done (by kernel_rfl) ?_ _
                      go_wp2_with fail
                      go_roundw
                      case rel => exact ⟨t + 1, by omega, by go_num, B5.out.drew⟩
                      case measure => simp [intOf]; omega
                  · have hfb : decide (0 ≤ file) = false := decide_eq_false hf
                    by_cases ht1 : 0 < t
                    · have ht1' : (0 : Int) < t := by omega
                      have ht1b : decide ((0 : Int) < t) = true := decide_eq_true ht1'
                      have ht1c : decide (0 < t) = true := decide_eq_true ht1
                      obtain ⟨⟨z1, z2⟩, hz⟩ : ∃ z, L[t - 1]? = some z := ⟨_, List.getElem?_eq_getElem (by rw [← HM.out]; omega)⟩
                      have hlt : ltP (z1, z2) (x1, x2) := by
                        obtain ⟨h1, g1⟩ := List.getElem?_eq_some_iff.1 hz
                        obtain ⟨h2, g2⟩ := List.getElem?_eq_some_iff.1 HX.out
                        rw [← g1, ← g2]
                        exact List.pairwise_iff_getElem.1 HSRT.out (t - 1) t h1 h2 (by omega)
                      have hcz : Hid (∀ X, Below w2.heap.size w2 X → X.cell? ⟨bl, ol + (t - 1) * 2, none⟩ = some (.int .i64 z1) ∧ X.cell? ⟨bl, ol + (t - 1) * 2 + 1, none⟩ = some (.int .i64 z2)) := fun X hX => (HKS.out.below hX).cell hz
                      have hls := fun W => less_walk W (z1, z2) (x1, x2)
                      rw [decide_eq_true hlt] at hls
                      have HLS := Lib.hid hls
                      have k1 : (1 : Int) ≤ (t : Int) := by omega
                      have kw : IntKind.i64.wrap ((t : Int) - 1) = (t : Int) - 1 := by simp [IntKind.wrap, IntKind.bits, IntKind.signed]; omega
                      have kp : (0 : Int) ≤ (t : Int) - 1 := by omega
                      have kt : ((t : Int) - 1).toNat = t - 1 := by omega
                      have kl : (t : Int) - 1 < m := by omega
                      clear hz hlt hls
                      obtain ⟨e0, e1⟩ := hcl.out w5 B5.out
                      obtain ⟨e2, e3⟩ := hcz.out w5 B5.out
                      refine wp_region_held_drew (S := (fun X => X.cell? ⟨bl, ol + t * 2, none⟩ = some (.int .i64 x1) ∧ X.cell? ⟨bl, ol + t * 2 + 1, none⟩ = some (.int .i64 x2) ∧ X.cell? ⟨bl, ol + (t - 1) * 2, none⟩ = some (.int .i64 z1) ∧ X.cell? ⟨bl, ol + (t - 1) * 2 + 1, none⟩ = some (.int .i64 z2))) (by kernel_rfl) ⟨e0, e1, e2, e3⟩ (fun hHeld => ?_)
                      refine hand_take (v := ?vqe100) 0 252 rfl rfl (by kernel_rfl) (by kernel_rfl) (by kernel_rfl) (fun _ _ _ h => h) (Or.inl ⟨by rfl, ?hyqe100⟩) hHeld ?restqe100
                      case hyqe100 => ((intro w hSw; (try dsimp only at hSw); go_simp) <;> with_reducible rfl)
                      case' restqe100 => (simp only [Act.put, List.setIfInBounds_toArray, List.set_cons_zero, List.set_cons_succ])
                      refine hand_take (v := ?vqe101) 1 253 rfl rfl (by kernel_rfl) (by kernel_rfl) (by kernel_rfl) (fun _ _ _ h => h) (Or.inl ⟨by rfl, ?hyqe101⟩) hHeld ?restqe101
                      case hyqe101 => ((intro w hSw; (try dsimp only at hSw); go_simp) <;> with_reducible rfl)
                      case' restqe101 => (simp only [Act.put, List.setIfInBounds_toArray, List.set_cons_zero, List.set_cons_succ])
                      refine hand_take (v := ?vqe102) 2 254 rfl rfl (by kernel_rfl) (by kernel_rfl) (by kernel_rfl) (fun _ _ _ h => h) (Or.inl ⟨by rfl, ?hyqe102⟩) hHeld ?restqe102
                      case hyqe102 => ((intro w hSw; (try dsimp only at hSw); go_simp) <;> with_reducible rfl)
                      case' restqe102 => (simp only [Act.put, List.setIfInBounds_toArray, List.set_cons_zero, List.set_cons_succ])
                      refine hand_take (v := ?vqe103) 3 255 rfl rfl (by kernel_rfl) (by kernel_rfl) (by kernel_rfl) (fun _ _ _ h => h) (Or.inl ⟨by rfl, ?hyqe103⟩) hHeld ?restqe103
                      case hyqe103 => ((intro w hSw; (try dsimp only at hSw); go_simp) <;> with_reducible rfl)
                      case' restqe103 => (simp only [Act.put, List.setIfInBounds_toArray, List.set_cons_zero, List.set_cons_succ])
                      refine hand_take (v := ?vqe104) 4 256 rfl rfl (by kernel_rfl) (by kernel_rfl) (by kernel_rfl) (fun _ _ _ h => h) (Or.inl ⟨by rfl, ?hyqe104⟩) hHeld ?restqe104
                      case hyqe104 => ((intro w hSw; (try dsimp only at hSw); go_simp) <;> with_reducible rfl)
                      case' restqe104 => (simp only [Act.put, List.setIfInBounds_toArray, List.set_cons_zero, List.set_cons_succ])
                      refine hand_take (v := ?vqe105) 5 257 rfl rfl (by kernel_rfl) (by kernel_rfl) (by kernel_rfl) (fun _ _ _ h => h) (Or.inl ⟨by rfl, ?hyqe105⟩) hHeld ?restqe105
                      case hyqe105 => ((intro w hSw; (try dsimp only at hSw); go_simp) <;> with_reducible rfl)
                      case' restqe105 => (simp only [Act.put, List.setIfInBounds_toArray, List.set_cons_zero, List.set_cons_succ])
                      refine hand_take (v := ?vqe106) 6 258 rfl rfl (by kernel_rfl) (by kernel_rfl) (by kernel_rfl) (fun _ _ _ h => h) (Or.inl ⟨by rfl, ?hyqe106⟩) hHeld ?restqe106
                      case hyqe106 => ((intro w hSw; (try dsimp only at hSw); go_simp) <;> with_reducible rfl)
                      case' restqe106 => (simp only [Act.put, List.setIfInBounds_toArray, List.set_cons_zero, List.set_cons_succ])
                      refine hand_take (v := ?vqe107) 7 259 rfl rfl (by kernel_rfl) (by kernel_rfl) (by kernel_rfl) (fun _ _ _ h => h) (Or.inl ⟨by rfl, ?hyqe107⟩) hHeld ?restqe107
                      case hyqe107 => ((intro w hSw; (try dsimp only at hSw); go_simp) <;> with_reducible rfl)
                      case' restqe107 => (simp only [Act.put, List.setIfInBounds_toArray, List.set_cons_zero, List.set_cons_succ])
                      refine hand_take (v := ?vqe108) 8 260 rfl rfl (by kernel_rfl) (by kernel_rfl) (by kernel_rfl) (fun _ _ _ h => h) (Or.inl ⟨by rfl, ?hyqe108⟩) hHeld ?restqe108
                      case hyqe108 => ((intro w hSw; (try dsimp only at hSw); go_simp) <;> with_reducible rfl)
                      case' restqe108 => (simp only [Act.put, List.setIfInBounds_toArray, List.set_cons_zero, List.set_cons_succ])
                      refine hand_take (v := ?vqe109) 9 261 rfl rfl (by kernel_rfl) (by kernel_rfl) (by kernel_rfl) (fun _ _ _ h => h) (Or.inl ⟨by rfl, ?hyqe109⟩) hHeld ?restqe109
                      case hyqe109 => ((intro w hSw; (try dsimp only at hSw); go_simp) <;> with_reducible rfl)
                      case' restqe109 => (simp only [Act.put, List.setIfInBounds_toArray, List.set_cons_zero, List.set_cons_succ])
                      refine hand_take (v := ?vqe1010) 10 262 rfl rfl (by kernel_rfl) (by kernel_rfl) (by kernel_rfl) (fun _ _ _ h => h) (Or.inl ⟨by rfl, ?hyqe1010⟩) hHeld ?restqe1010
                      case hyqe1010 => ((intro w hSw; (try dsimp only at hSw); go_simp) <;> with_reducible rfl)
                      case' restqe1010 => (simp only [Act.put, List.setIfInBounds_toArray, List.set_cons_zero, List.set_cons_succ])
                      refine hand_take (v := ?vqe1011) 11 263 rfl rfl (by kernel_rfl) (by kernel_rfl) (by kernel_rfl) (fun _ _ _ h => h) (Or.inl ⟨by rfl, ?hyqe1011⟩) hHeld ?restqe1011
                      case hyqe1011 => ((intro w hSw; (try dsimp only at hSw); go_simp) <;> with_reducible rfl)
                      case' restqe1011 => (simp only [Act.put, List.setIfInBounds_toArray, List.set_cons_zero, List.set_cons_succ])
                      refine hand_take (v := ?vqe1012) 12 264 rfl rfl (by kernel_rfl) (by kernel_rfl) (by kernel_rfl) (fun _ _ _ h => h) (Or.inl ⟨by rfl, ?hyqe1012⟩) hHeld ?restqe1012
                      case hyqe1012 => ((intro w hSw; (try dsimp only at hSw); go_simp) <;> with_reducible rfl)
                      case' restqe1012 => (simp only [Act.put, List.setIfInBounds_toArray, List.set_cons_zero, List.set_cons_succ])
                      refine hand_take (v := ?vqe1013) 13 265 rfl rfl (by kernel_rfl) (by kernel_rfl) (by kernel_rfl) (fun _ _ _ h => h) (Or.inl ⟨by rfl, ?hyqe1013⟩) hHeld ?restqe1013
                      case hyqe1013 => ((intro w hSw; (try dsimp only at hSw); go_simp) <;> with_reducible rfl)
                      case' restqe1013 => (simp only [Act.put, List.setIfInBounds_toArray, List.set_cons_zero, List.set_cons_succ])
                      refine hand_take (v := ?vqe1014) 14 266 rfl rfl (by kernel_rfl) (by kernel_rfl) (by kernel_rfl) (fun _ _ _ h => h) (Or.inl ⟨by rfl, ?hyqe1014⟩) hHeld ?restqe1014
                      case hyqe1014 => ((intro w hSw; (try dsimp only at hSw); go_simp) <;> with_reducible rfl)
                      case' restqe1014 => (simp only [Act.put, List.setIfInBounds_toArray, List.set_cons_zero, List.set_cons_succ])
                      refine wpAnyH_ready (rs := [15]) (by kernel_rfl) (by simp) ?_
                      refine AllReadyH.cons rfl (fun K hK => ?_) AllReadyH.nil
                      go_simp
                      go_wp2_with (go_at_call 38; refine (HLS.out _).mono ?_; rintro e X1 ⟨rfl, b1⟩)
                      have HB1 := Lib.hid (B5.out.drew.trans (b1.mono B5.out.drew.size))
                      obtain ⟨r0, r1⟩ := hcl.out X1 HB1.out
                      obtain ⟨r2, r3⟩ := hcz.out X1 HB1.out
                      clear b1
                      refine hK.out _ _ ⟨r0, r1, r2, r3⟩ (fun hHeld => ?_)
                      clear hK K
                      refine hand_take (v := ?vqe1016) 16 268 rfl rfl (by kernel_rfl) (by kernel_rfl) (by kernel_rfl) (fun _ _ _ h => h) (Or.inl ⟨by rfl, ?hyqe1016⟩) hHeld ?restqe1016
                      case hyqe1016 => ((intro w hSw; (try dsimp only at hSw); go_simp) <;> with_reducible rfl)
                      case' restqe1016 => (simp only [Act.put, List.setIfInBounds_toArray, List.set_cons_zero, List.set_cons_succ])
                      refine hand_take (v := ?vqe1017) 17 269 rfl rfl (by kernel_rfl) (by kernel_rfl) (by kernel_rfl) (fun _ _ _ h => h) (Or.inl ⟨by rfl, ?hyqe1017⟩) hHeld ?restqe1017
                      case hyqe1017 => ((intro w hSw; (try dsimp only at hSw); go_simp) <;> with_reducible rfl)
                      case' restqe1017 => (simp only [Act.put, List.setIfInBounds_toArray, List.set_cons_zero, List.set_cons_succ])
                      refine hand_take (v := ?vqe1018) 18 270 rfl rfl (by kernel_rfl) (by kernel_rfl) (by kernel_rfl) (fun _ _ _ h => h) (Or.inl ⟨by rfl, ?hyqe1018⟩) hHeld ?restqe1018
                      case hyqe1018 => ((intro w hSw; (try dsimp only at hSw); go_simp) <;> with_reducible rfl)
                      case' restqe1018 => (simp only [Act.put, List.setIfInBounds_toArray, List.set_cons_zero, List.set_cons_succ])
                      refine hand_take (v := ?vqe1019) 19 271 rfl rfl (by kernel_rfl) (by kernel_rfl) (by kernel_rfl) (fun _ _ _ h => h) (Or.inl ⟨by rfl, ?hyqe1019⟩) hHeld ?restqe1019
                      case hyqe1019 => ((intro w hSw; (try dsimp only at hSw); go_simp) <;> with_reducible rfl)
                      case' restqe1019 => (simp only [Act.put, List.setIfInBounds_toArray, List.set_cons_zero, List.set_cons_succ])
                      refine hand_take (v := ?vqe1020) 20 272 rfl rfl (by kernel_rfl) (by kernel_rfl) (by kernel_rfl) (fun _ _ _ h => h) (Or.inl ⟨by rfl, ?hyqe1020⟩) hHeld ?restqe1020
                      case hyqe1020 => ((intro w hSw; (try dsimp only at hSw); go_simp) <;> with_reducible rfl)
                      case' restqe1020 => (simp only [Act.put, List.setIfInBounds_toArray, List.set_cons_zero, List.set_cons_succ])
                      refine hand_take (v := ?vqe1021) 21 273 rfl rfl (by kernel_rfl) (by kernel_rfl) (by kernel_rfl) (fun _ _ _ h => h) (Or.inl ⟨by rfl, ?hyqe1021⟩) hHeld ?restqe1021
                      case hyqe1021 => ((intro w hSw; (try dsimp only at hSw); go_simp) <;> with_reducible rfl)
                      case' restqe1021 => (simp only [Act.put, List.setIfInBounds_toArray, List.set_cons_zero, List.set_cons_succ])
                      refine hand_take (v := ?vqe1022) 22 274 rfl rfl (by kernel_rfl) (by kernel_rfl) (by kernel_rfl) (fun _ _ _ h => h) (Or.inl ⟨by rfl, ?hyqe1022⟩) hHeld ?restqe1022
                      case hyqe1022 => ((intro w hSw; (try dsimp only at hSw); go_simp) <;> with_reducible rfl)
                      case' restqe1022 => (simp only [Act.put, List.setIfInBounds_toArray, List.set_cons_zero, List.set_cons_succ])
                      refine hand_off 23 275 rfl rfl (by kernel_rfl) (by kernel_rfl) (by kernel_rfl) (fun _ _ _ h => h) (by rfl) hHeld ?_
                      simp only [Act.put, List.setIfInBounds_toArray, List.set_cons_zero, List.set_cons_succ]
                      refine hand_off 24 276 rfl rfl (by kernel_rfl) (by kernel_rfl) (by kernel_rfl) (fun _ _ _ h => h) (by rfl) hHeld ?_
                      simp only [Act.put, List.setIfInBounds_toArray, List.set_cons_zero, List.set_cons_succ]
                      refine hand_off 25 277 rfl rfl (by kernel_rfl) (by kernel_rfl) (by kernel_rfl) (fun _ _ _ h => h) (by rfl) hHeld ?_
                      simp only [Act.put, List.setIfInBounds_toArray, List.set_cons_zero, List.set_cons_succ]
                      refine hand_off 26 278 rfl rfl (by kernel_rfl) (by kernel_rfl) (by kernel_rfl) (fun _ _ _ h => h) (by rfl) hHeld ?_
                      simp only [Act.put, List.setIfInBounds_toArray, List.set_cons_zero, List.set_cons_succ]
                      refine hand_off 27 279 rfl rfl (by kernel_rfl) (by kernel_rfl) (by kernel_rfl) (fun _ _ _ h => h) (by rfl) hHeld ?_
                      simp only [Act.put, List.setIfInBounds_toArray, List.set_cons_zero, List.set_cons_succ]
                      refine hand_off 28 280 rfl rfl (by kernel_rfl) (by kernel_rfl) (by kernel_rfl) (fun _ _ _ h => h) (by rfl) hHeld ?_
                      simp only [Act.put, List.setIfInBounds_toArray, List.set_cons_zero, List.set_cons_succ]
                      refine hand_off 29 281 rfl rfl (by kernel_rfl) (by kernel_rfl) (by kernel_rfl) (fun _ _ _ h => h) (by rfl) hHeld ?_
                      simp only [Act.put, List.setIfInBounds_toArray, List.set_cons_zero, List.set_cons_succ]
                      refine hand_take (v := ?vqe1030) 30 282 rfl rfl (by kernel_rfl) (by kernel_rfl) (by kernel_rfl) (fun _ _ _ h => h) (Or.inl ⟨by rfl, ?hyqe1030⟩) hHeld ?restqe1030
                      case hyqe1030 => ((intro w hSw; (try dsimp only at hSw); go_simp) <;> with_reducible rfl)
                      case' restqe1030 => (simp only [Act.put, List.setIfInBounds_toArray, List.set_cons_zero, List.set_cons_succ])
                      refine hand_take (v := ?vqe1031) 31 283 rfl rfl (by kernel_rfl) (by kernel_rfl) (by kernel_rfl) (fun _ _ _ h => h) (Or.inl ⟨by rfl, ?hyqe1031⟩) hHeld ?restqe1031
                      case hyqe1031 => ((intro w hSw; (try dsimp only at hSw); go_simp) <;> with_reducible rfl)
                      case' restqe1031 => (simp only [Act.put, List.setIfInBounds_toArray, List.set_cons_zero, List.set_cons_succ])
                      refine wpAnyH_done (by kernel_rfl) ?_ _
                      go_wp2_with fail
                      go_roundw
                      case rel => exact ⟨t + 1, by omega, by go_num, HB1.out⟩
                      case measure => simp [intOf]; omega
                    · have ht1' : ¬ (0 : Int) < t := by omega
                      have ht1b : decide ((0 : Int) < t) = false := decide_eq_false ht1'
                      have ht1c : decide (0 < t) = false := decide_eq_false ht1
                      obtain ⟨e0, e1⟩ := hcl.out w5 B5.out
                      refine wp_region_held_drew (S := (fun X => X.cell? ⟨bl, ol + t * 2, none⟩ = some (.int .i64 x1) ∧ X.cell? ⟨bl, ol + t * 2 + 1, none⟩ = some (.int .i64 x2))) (by kernel_rfl) ⟨e0, e1⟩ (fun hHeld => ?_)
                      refine hand_take (v := ?vqe000) 0 252 rfl rfl (by kernel_rfl) (by kernel_rfl) (by kernel_rfl) (fun _ _ _ h => h) (Or.inl ⟨by rfl, ?hyqe000⟩) hHeld ?restqe000
                      case hyqe000 => ((intro w hSw; (try dsimp only at hSw); go_simp) <;> with_reducible rfl)
                      case' restqe000 => (simp only [Act.put, List.setIfInBounds_toArray, List.set_cons_zero, List.set_cons_succ])
                      refine hand_take (v := ?vqe001) 1 253 rfl rfl (by kernel_rfl) (by kernel_rfl) (by kernel_rfl) (fun _ _ _ h => h) (Or.inl ⟨by rfl, ?hyqe001⟩) hHeld ?restqe001
                      case hyqe001 => ((intro w hSw; (try dsimp only at hSw); go_simp) <;> with_reducible rfl)
                      case' restqe001 => (simp only [Act.put, List.setIfInBounds_toArray, List.set_cons_zero, List.set_cons_succ])
                      refine hand_take (v := ?vqe002) 2 254 rfl rfl (by kernel_rfl) (by kernel_rfl) (by kernel_rfl) (fun _ _ _ h => h) (Or.inl ⟨by rfl, ?hyqe002⟩) hHeld ?restqe002
                      case hyqe002 => ((intro w hSw; (try dsimp only at hSw); go_simp) <;> with_reducible rfl)
                      case' restqe002 => (simp only [Act.put, List.setIfInBounds_toArray, List.set_cons_zero, List.set_cons_succ])
                      refine hand_take (v := ?vqe003) 3 255 rfl rfl (by kernel_rfl) (by kernel_rfl) (by kernel_rfl) (fun _ _ _ h => h) (Or.inl ⟨by rfl, ?hyqe003⟩) hHeld ?restqe003
                      case hyqe003 => ((intro w hSw; (try dsimp only at hSw); go_simp) <;> with_reducible rfl)
                      case' restqe003 => (simp only [Act.put, List.setIfInBounds_toArray, List.set_cons_zero, List.set_cons_succ])
                      refine hand_take (v := ?vqe004) 4 256 rfl rfl (by kernel_rfl) (by kernel_rfl) (by kernel_rfl) (fun _ _ _ h => h) (Or.inl ⟨by rfl, ?hyqe004⟩) hHeld ?restqe004
                      case hyqe004 => ((intro w hSw; (try dsimp only at hSw); go_simp) <;> with_reducible rfl)
                      case' restqe004 => (simp only [Act.put, List.setIfInBounds_toArray, List.set_cons_zero, List.set_cons_succ])
                      refine hand_take (v := ?vqe005) 5 257 rfl rfl (by kernel_rfl) (by kernel_rfl) (by kernel_rfl) (fun _ _ _ h => h) (Or.inl ⟨by rfl, ?hyqe005⟩) hHeld ?restqe005
                      case hyqe005 => ((intro w hSw; (try dsimp only at hSw); go_simp) <;> with_reducible rfl)
                      case' restqe005 => (simp only [Act.put, List.setIfInBounds_toArray, List.set_cons_zero, List.set_cons_succ])
                      refine hand_off 6 258 rfl rfl (by kernel_rfl) (by kernel_rfl) (by kernel_rfl) (fun _ _ _ h => h) (by rfl) hHeld ?_
                      simp only [Act.put, List.setIfInBounds_toArray, List.set_cons_zero, List.set_cons_succ]
                      refine hand_off 7 259 rfl rfl (by kernel_rfl) (by kernel_rfl) (by kernel_rfl) (fun _ _ _ h => h) (by rfl) hHeld ?_
                      simp only [Act.put, List.setIfInBounds_toArray, List.set_cons_zero, List.set_cons_succ]
                      refine hand_off 8 260 rfl rfl (by kernel_rfl) (by kernel_rfl) (by kernel_rfl) (fun _ _ _ h => h) (by rfl) hHeld ?_
                      simp only [Act.put, List.setIfInBounds_toArray, List.set_cons_zero, List.set_cons_succ]
                      refine hand_off 9 261 rfl rfl (by kernel_rfl) (by kernel_rfl) (by kernel_rfl) (fun _ _ _ h => h) (by rfl) hHeld ?_
                      simp only [Act.put, List.setIfInBounds_toArray, List.set_cons_zero, List.set_cons_succ]
                      refine hand_off 10 262 rfl rfl (by kernel_rfl) (by kernel_rfl) (by kernel_rfl) (fun _ _ _ h => h) (by rfl) hHeld ?_
                      simp only [Act.put, List.setIfInBounds_toArray, List.set_cons_zero, List.set_cons_succ]
                      refine hand_off 11 263 rfl rfl (by kernel_rfl) (by kernel_rfl) (by kernel_rfl) (fun _ _ _ h => h) (by rfl) hHeld ?_
                      simp only [Act.put, List.setIfInBounds_toArray, List.set_cons_zero, List.set_cons_succ]
                      refine hand_off 12 264 rfl rfl (by kernel_rfl) (by kernel_rfl) (by kernel_rfl) (fun _ _ _ h => h) (by rfl) hHeld ?_
                      simp only [Act.put, List.setIfInBounds_toArray, List.set_cons_zero, List.set_cons_succ]
                      refine hand_off 13 265 rfl rfl (by kernel_rfl) (by kernel_rfl) (by kernel_rfl) (fun _ _ _ h => h) (by rfl) hHeld ?_
                      simp only [Act.put, List.setIfInBounds_toArray, List.set_cons_zero, List.set_cons_succ]
                      refine hand_off 14 266 rfl rfl (by kernel_rfl) (by kernel_rfl) (by kernel_rfl) (fun _ _ _ h => h) (by rfl) hHeld ?_
                      simp only [Act.put, List.setIfInBounds_toArray, List.set_cons_zero, List.set_cons_succ]
                      refine hand_off 15 267 rfl rfl (by kernel_rfl) (by kernel_rfl) (by kernel_rfl) (fun _ _ _ h => h) (by rfl) hHeld ?_
                      simp only [Act.put, List.setIfInBounds_toArray, List.set_cons_zero, List.set_cons_succ]
                      refine hand_off 16 268 rfl rfl (by kernel_rfl) (by kernel_rfl) (by kernel_rfl) (fun _ _ _ h => h) (by rfl) hHeld ?_
                      simp only [Act.put, List.setIfInBounds_toArray, List.set_cons_zero, List.set_cons_succ]
                      refine hand_take (v := ?vqe0017) 17 269 rfl rfl (by kernel_rfl) (by kernel_rfl) (by kernel_rfl) (fun _ _ _ h => h) (Or.inl ⟨by rfl, ?hyqe0017⟩) hHeld ?restqe0017
                      case hyqe0017 => ((intro w hSw; (try dsimp only at hSw); go_simp) <;> with_reducible rfl)
                      case' restqe0017 => (simp only [Act.put, List.setIfInBounds_toArray, List.set_cons_zero, List.set_cons_succ])
                      refine hand_take (v := ?vqe0018) 18 270 rfl rfl (by kernel_rfl) (by kernel_rfl) (by kernel_rfl) (fun _ _ _ h => h) (Or.inl ⟨by rfl, ?hyqe0018⟩) hHeld ?restqe0018
                      case hyqe0018 => ((intro w hSw; (try dsimp only at hSw); go_simp) <;> with_reducible rfl)
                      case' restqe0018 => (simp only [Act.put, List.setIfInBounds_toArray, List.set_cons_zero, List.set_cons_succ])
                      refine hand_take (v := ?vqe0019) 19 271 rfl rfl (by kernel_rfl) (by kernel_rfl) (by kernel_rfl) (fun _ _ _ h => h) (Or.inl ⟨by rfl, ?hyqe0019⟩) hHeld ?restqe0019
                      case hyqe0019 => ((intro w hSw; (try dsimp only at hSw); go_simp) <;> with_reducible rfl)
                      case' restqe0019 => (simp only [Act.put, List.setIfInBounds_toArray, List.set_cons_zero, List.set_cons_succ])
                      refine hand_take (v := ?vqe0020) 20 272 rfl rfl (by kernel_rfl) (by kernel_rfl) (by kernel_rfl) (fun _ _ _ h => h) (Or.inl ⟨by rfl, ?hyqe0020⟩) hHeld ?restqe0020
                      case hyqe0020 => ((intro w hSw; (try dsimp only at hSw); go_simp) <;> with_reducible rfl)
                      case' restqe0020 => (simp only [Act.put, List.setIfInBounds_toArray, List.set_cons_zero, List.set_cons_succ])
                      refine hand_take (v := ?vqe0021) 21 273 rfl rfl (by kernel_rfl) (by kernel_rfl) (by kernel_rfl) (fun _ _ _ h => h) (Or.inl ⟨by rfl, ?hyqe0021⟩) hHeld ?restqe0021
                      case hyqe0021 => ((intro w hSw; (try dsimp only at hSw); go_simp) <;> with_reducible rfl)
                      case' restqe0021 => (simp only [Act.put, List.setIfInBounds_toArray, List.set_cons_zero, List.set_cons_succ])
                      refine hand_take (v := ?vqe0022) 22 274 rfl rfl (by kernel_rfl) (by kernel_rfl) (by kernel_rfl) (fun _ _ _ h => h) (Or.inl ⟨by rfl, ?hyqe0022⟩) hHeld ?restqe0022
                      case hyqe0022 => ((intro w hSw; (try dsimp only at hSw); go_simp) <;> with_reducible rfl)
                      case' restqe0022 => (simp only [Act.put, List.setIfInBounds_toArray, List.set_cons_zero, List.set_cons_succ])
                      refine hand_off 23 275 rfl rfl (by kernel_rfl) (by kernel_rfl) (by kernel_rfl) (fun _ _ _ h => h) (by rfl) hHeld ?_
                      simp only [Act.put, List.setIfInBounds_toArray, List.set_cons_zero, List.set_cons_succ]
                      refine hand_off 24 276 rfl rfl (by kernel_rfl) (by kernel_rfl) (by kernel_rfl) (fun _ _ _ h => h) (by rfl) hHeld ?_
                      simp only [Act.put, List.setIfInBounds_toArray, List.set_cons_zero, List.set_cons_succ]
                      refine hand_off 25 277 rfl rfl (by kernel_rfl) (by kernel_rfl) (by kernel_rfl) (fun _ _ _ h => h) (by rfl) hHeld ?_
                      simp only [Act.put, List.setIfInBounds_toArray, List.set_cons_zero, List.set_cons_succ]
                      refine hand_off 26 278 rfl rfl (by kernel_rfl) (by kernel_rfl) (by kernel_rfl) (fun _ _ _ h => h) (by rfl) hHeld ?_
                      simp only [Act.put, List.setIfInBounds_toArray, List.set_cons_zero, List.set_cons_succ]
                      refine hand_off 27 279 rfl rfl (by kernel_rfl) (by kernel_rfl) (by kernel_rfl) (fun _ _ _ h => h) (by rfl) hHeld ?_
                      simp only [Act.put, List.setIfInBounds_toArray, List.set_cons_zero, List.set_cons_succ]
                      refine hand_off 28 280 rfl rfl (by kernel_rfl) (by kernel_rfl) (by kernel_rfl) (fun _ _ _ h => h) (by rfl) hHeld ?_
                      simp only [Act.put, List.setIfInBounds_toArray, List.set_cons_zero, List.set_cons_succ]
                      refine hand_off 29 281 rfl rfl (by kernel_rfl) (by kernel_rfl) (by kernel_rfl) (fun _ _ _ h => h) (by rfl) hHeld ?_
                      simp only [Act.put, List.setIfInBounds_toArray, List.set_cons_zero, List.set_cons_succ]
                      refine hand_take (v := ?vqe0030) 30 282 rfl rfl (by kernel_rfl) (by kernel_rfl) (by kernel_rfl) (fun _ _ _ h => h) (Or.inl ⟨by rfl, ?hyqe0030⟩) hHeld ?restqe0030
                      case hyqe0030 => ((intro w hSw; (try dsimp only at hSw); go_simp) <;> with_reducible rfl)
                      case' restqe0030 => (simp only [Act.put, List.setIfInBounds_toArray, List.set_cons_zero, List.set_cons_succ])
                      refine hand_take (v := ?vqe0031) 31 283 rfl rfl (by kernel_rfl) (by kernel_rfl) (by kernel_rfl) (fun _ _ _ h => h) (Or.inl ⟨by rfl, ?hyqe0031⟩) hHeld ?restqe0031
                      case hyqe0031 => ((intro w hSw; (try dsimp only at hSw); go_simp) <;> with_reducible rfl)
                      case' restqe0031 => (simp only [Act.put, List.setIfInBounds_toArray, List.set_cons_zero, List.set_cons_succ])
                      refine wpAnyH_done (by kernel_rfl) ?_ _
                      go_wp2_with fail
                      go_roundw
                      case rel => exact ⟨t + 1, by omega, by go_num, B5.out.drew⟩
                      case measure => simp [intOf]; omega
                · have htmn : ¬ (t : Int) < m := by omega
                  go_wp2_with fail
                  refine (cacheAnswers wr).mono ?_
                  rintro e w6 ⟨rfl, b6⟩
                  have B6 : Hid (Below w.heap.size w w6) := P2.out.below.trans ((HB5.out.trans (b6.mono HB5.out.size)).mono P2.out.below.size)
                  clear b6
                  go_wp2_with fail
                  go_ret
                  exact ⟨by simp, B6.out⟩
  · have h80i : (80 : Int) < n := by omega
    go_enter Try.func8, Try.ntmps8
    go_wp2_with fail
    refine (cacheAnswers w).mono ?_
    rintro e w1 ⟨rfl, b1⟩
    go_wp2_with fail
    go_ret
    exact ⟨rfl, b1⟩
end Go.Proofs.Ytflbidbnbfndgaa
