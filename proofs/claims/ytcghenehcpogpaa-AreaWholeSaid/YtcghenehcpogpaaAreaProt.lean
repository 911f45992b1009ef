/- Areas: Protect. -/
import Derived.Test.YtcghenehcpogpaaAreaPure2
namespace Go.Proofs.Ytcghenehcpogpaa
open Go Go.RowKit

/-- One with another Write, in its place. -/
theorem ArAt.mark {w : World} {b off c : Nat} {l : List Ar} {n : Nat} (h : ArAt w (.slice (some ⟨b, off, none⟩) n c) l) {k : Nat} {x : Ar} (hx : l[k]? = some x) (v : Bool) :
    ArAt (w.setCell ⟨b, off + k * 6 + 2, none⟩ (.bool v)) (.slice (some ⟨b, off, none⟩) n c) (l.set k (x.mark v)) := by
  have hk := (List.getElem?_eq_some_iff.1 hx).1
  refine ⟨?_, ?_⟩
  · rw [ar_length]
  · rcases h.2 with ⟨e, _⟩ | ⟨g, off', c', arr, e, hg, hnc, hm, hs, hxs⟩
    · cases e
    · cases e
      refine .inr ⟨b, off, c, arr.set! (off + k * 6 + 2) (.bool v), by rw [List.length_set], ?_, by rw [List.length_set]; exact hnc, hm, by simp; omega, fun j u hu => ?_⟩
      · unfold World.setCell
        simp [Array.getElem?_modify, hg]
      · have hj := (List.getElem?_eq_some_iff.1 hu).1
        rw [ar_length, List.length_set] at hj
        have hq : j / 6 < l.length := by omega
        have hr : j % 6 < 6 := by omega
        have hj6 : j = j / 6 * 6 + j % 6 := by omega
        have hle : (ar l)[j]? = (l[j / 6]).cells[j % 6]? := by
          have h1 := ar_get (List.getElem?_eq_getElem hq) (List.getElem?_eq_getElem (l := (l[j / 6]).cells) (i := j % 6) (by rw [Ar.cells_len]; exact hr))
          rw [← hj6] at h1
          rw [h1, List.getElem?_eq_getElem (by rw [Ar.cells_len]; exact hr)]
        have hq' : j / 6 < (l.set k (x.mark v)).length := by simpa using hq
        have hle' : (ar (l.set k (x.mark v)))[j]? = ((l.set k (x.mark v))[j / 6]).cells[j % 6]? := by
          have h1 := ar_get (List.getElem?_eq_getElem hq') (List.getElem?_eq_getElem (l := ((l.set k (x.mark v))[j / 6]).cells) (i := j % 6) (by rw [Ar.cells_len]; exact hr))
          rw [← hj6] at h1
          rw [h1, List.getElem?_eq_getElem (by rw [Ar.cells_len]; exact hr)]
        rw [hle'] at hu
        have hsz : off + j < arr.size := by have := Nat.mul_le_mul_right 6 hnc; omega
        rw [Array.set!_eq_setIfInBounds, Array.getElem?_setIfInBounds]
        by_cases hjk : j / 6 = k
        · have e1 : (l.set k (x.mark v))[j / 6] = x.mark v := by simp [hjk]
          rw [e1] at hu
          have e0 : l[j / 6] = x := by have := hx; rw [← hjk, List.getElem?_eq_getElem hq] at this; exact Option.some.inj this
          rw [e0] at hle
          by_cases h2 : j % 6 = 2
          · rw [if_pos (by omega), if_pos (by omega)]
            rw [h2] at hu
            simpa [Ar.mark, Ar.cells] using hu
          · rw [if_neg (by omega)]
            refine hxs j u (hle.trans ?_)
            rw [← hu]
            have : j % 6 = 0 ∨ j % 6 = 1 ∨ j % 6 = 3 ∨ j % 6 = 4 ∨ j % 6 = 5 := by omega
            rcases this with e | e | e | e | e <;> rw [e] <;> rfl
        · rw [if_neg (by omega)]
          have e1 : (l.set k (x.mark v))[j / 6] = l[j / 6] := List.getElem_set_ne (fun e => hjk e.symm) _
          rw [e1] at hu
          exact hxs j u (hle.trans hu)
theorem ArAt.okSet {w : World} {b off c : Nat} {l : List Ar} {n : Nat} (h : ArAt w (.slice (some ⟨b, off, none⟩) n c) l) {k : Nat} (hk : k < l.length) (i : Nat) : w.frozen? ⟨b, off + k * 6 + i, none⟩ = false := by
  rcases h.2 with ⟨e, _⟩ | ⟨g, off', c', arr, e, hg, _⟩
  · cases e
  · cases e
    simp [World.frozen?, hg]

theorem Parts.three {w : World} {v1 v2 v3 : Value} {l1 l2 l3 : List Ar} (h1 : ArAt w v1 l1) (h2 : ArAt w v2 l2) (h3 : ArAt w v3 l3) (T : TypeId) : Parts (w.alloc (.cells #[v1, v2, v3] T)) w.heap.size 0 [v1, v2, v3] [l1, l2, l3] := by
  have hb : Below w.heap.size w (w.alloc (.cells #[v1, v2, v3] T)) := (Below.refl _ _).alloc (Nat.le_refl _) _
  refine ⟨rfl, fun j v hv => ?_, fun j v l hv hl => ?_⟩
  · rw [cell_of_row _ _ _ _ _ _ (heap_alloc_new w (.cells #[v1, v2, v3] T))]
    rw [Nat.zero_add]
    simpa using hv
  · match j with
    | 0 => cases hv; cases hl; exact h1.below hb
    | 1 => cases hv; cases hl; exact h2.below hb
    | 2 => cases hv; cases hl; exact h3.below hb
    | j + 3 => simp at hv

/-- The first ones with another Write. -/
def markTo (l : List Ar) (b : Bool) (k : Nat) : List Ar := (l.take k).map (Ar.mark b) ++ l.drop k
theorem markTo_len (l : List Ar) (b : Bool) (k : Nat) : (markTo l b k).length = l.length := by simp [markTo]; omega
theorem markTo_get {l : List Ar} {b : Bool} {k : Nat} : (markTo l b k)[k]? = l[k]? := by
  unfold markTo
  by_cases hk : k < l.length
  · rw [List.getElem?_append_right (by simp; omega)]
    simp [Nat.min_eq_left (Nat.le_of_lt hk)]
  · rw [List.getElem?_eq_none (by simp; omega), List.getElem?_eq_none (by omega)]
theorem markTo_set {l : List Ar} {b : Bool} {k : Nat} {x : Ar} (hx : l[k]? = some x) : (markTo l b k).set k (x.mark b) = markTo l b (k + 1) := by
  obtain ⟨hk, rfl⟩ := List.getElem?_eq_some_iff.1 hx
  unfold markTo
  have hl : ((l.take k).map (Ar.mark b)).length = k := by simp; omega
  rw [List.set_append_right k _ (by omega), hl, Nat.sub_self, List.drop_eq_getElem_cons hk, List.set_cons_zero, List.take_succ_eq_append_getElem hk, List.map_append]
  simp
theorem markTo_all (l : List Ar) (b : Bool) : markTo l b l.length = l.map (Ar.mark b) := by simp [markTo]

set_option maxRecDepth 100000 in
set_option maxHeartbeats 4000000 in
theorem Protect_walk (w : World) (v : Value) (l : List Ar) (h : ArRd w v l) (hl : ∀ a ∈ l, a.Sound) (hlen : l.length ≤ 100) (fr pg : Int) (mk : Bool) :
    Calls Try.prog 18 #[v, .int .i64 fr, .int .i64 pg, .bool mk] w fun e w' => ∃ v' x, e = .returned (.tuple #[v', .int .i64 x]) ∧ Below w.heap.size w w' ∧
      (¬ RightA fr pg → x = 1 ∧ v' = .slice none 0 0) ∧ (RightA fr pg → piecesA l fr (fr + pg) = [] → x = 2 ∧ v' = .slice none 0 0) ∧
      (RightA fr pg → piecesA l fr (fr + pg) ≠ [] → (protA l fr pg mk).length ≤ 16 → x = 0 ∧ ArAt w' v' (protA l fr pg mk)) ∧
      (RightA fr pg → piecesA l fr (fr + pg) ≠ [] → 16 < (protA l fr pg mk).length → x = 4 ∧ v' = .slice none 0 0) := by
  by_cases hr : RightA fr pg
  · have hsp := Lib.hid (split_walk w v l h hl hlen fr pg (by obtain ⟨r1, r2, r3, r4⟩ := hr; omega))
    have hrw := right_walk w fr pg
    rw [decide_eq_true hr] at hrw
    have hcl : Hid ((piecesA l 0 fr).length ≤ 100 ∧ (piecesA l fr (fr + pg)).length ≤ 100 ∧ (piecesA l (fr + pg) 4096).length ≤ 100) := ⟨by have := piecesA_length l 0 fr; omega, by have := piecesA_length l fr (fr + pg); omega, by have := piecesA_length l (fr + pg) 4096; omega⟩
    have hcut : Hid (protA l fr pg mk = [piecesA l 0 fr, (piecesA l fr (fr + pg)).map (Ar.mark mk), piecesA l (fr + pg) 4096].flatten) := by show _ = _; simp [protA]
    have HRW := Lib.hid hrw
    have HR := Lib.hid hr
    obtain ⟨av, cv, rfl, _, _⟩ := ArRd.fm h
    clear h hl hlen hrw hr
    obtain ⟨PR, hPR⟩ : ∃ PR, PR = protA l fr pg mk := ⟨_, rfl⟩
    rw [← hPR] at hcut ⊢
    clear hPR
    obtain ⟨A1, hA1⟩ : ∃ A1, A1 = piecesA l 0 fr := ⟨_, rfl⟩
    obtain ⟨A2, hA2⟩ : ∃ A2, A2 = piecesA l fr (fr + pg) := ⟨_, rfl⟩
    obtain ⟨A3, hA3⟩ : ∃ A3, A3 = piecesA l (fr + pg) 4096 := ⟨_, rfl⟩
    rw [← hA1, ← hA2, ← hA3] at hsp hcl hcut
    rw [← hA2]
    clear hA1 hA2 hA3
    go_enter Try.func18, Try.ntmps18
    go_wp2_with fail
    refine HRW.out.mono ?_
    rintro e w1 ⟨rfl, rfl⟩
    go_wp2_with fail
    refine hsp.out.mono ?_
    rintro e w2 ⟨v1, v2, v3, rfl, ht, b2⟩
    obtain ⟨a1, c1, rfl, _, _⟩ := SlAt.form ht.a1
    obtain ⟨a2, c2, rfl, _, _⟩ := SlAt.form ht.a2
    obtain ⟨a3, c3, rfl, _, _⟩ := SlAt.form ht.a3
    have HT := Lib.hid ht
    have HB := Lib.hid b2
    clear ht b2 hsp
    by_cases h0 : A2.length = 0
    · have h0' : Hid (A2 = []) := List.eq_nil_of_length_eq_zero h0
      have h0i : ((A2.length : Nat) : Int) = 0 := by omega
      go_wp2_with fail
      exact bodyPost_ret (v := .tuple #[.slice none 0 0, .int .i64 2]) (by simp [results, Try.results18, go_sem]) rfl ⟨_, 2, rfl, HB.out, fun h => absurd HR.out h, fun _ _ => ⟨rfl, rfl⟩, fun _ h => absurd h0'.out h, fun _ h => absurd h0'.out h⟩
    · have h0' : Hid (A2 ≠ []) := fun e => h0 (by rw [e]; rfl)
      obtain ⟨b, off, rfl⟩ := HT.out.a2.addr (by omega)
      obtain ⟨n, hn⟩ : ∃ n, n = A2.length := ⟨_, rfl⟩
      have HN := Lib.hid hn
      rw [← hn] at h0 HT ⊢
      have hnz : (n == 0) = false := by simpa using h0
      clear hn
      have h0i : ¬ ((n : Nat) : Int) = 0 := by omega
      have h0l : n ≤ 100 := by rw [HN.out]; exact hcl.out.2.1
      go_wp2_with fail
      go_loopw [31, 13] (fun i _ wr => ∃ k : Nat, k ≤ n ∧ i = .int .i64 k ∧ Touch [b] w2 wr ∧ ArAt wr (.slice (some ⟨b, off, none⟩) n c2) (markTo A2 mk k)) (fun i _ _ => n - (intOf i).toNat)
      case atStart => exact ⟨0, by omega, rfl, Touch.refl _ _, by simpa [markTo] using HT.out.a2⟩
      case round =>
        obtain ⟨k, hk, rfl, htc, hat⟩ := hrel
        have HTC := Lib.hid htc
        have HAT := Lib.hid hat
        clear htc hat
        by_cases hlt : k < n
        · have hlt' : (k : Int) < n := by omega
          obtain ⟨x, hx⟩ : ∃ x, A2[k]? = some x := ⟨_, List.getElem?_eq_getElem (by rw [← HN.out]; exact hlt)⟩
          have HX := Lib.hid hx
          have hset := HAT.out.mark (markTo_get.trans hx) mk
          rw [markTo_set hx] at hset
          have HSET := Lib.hid hset
          have hfz := HAT.out.okSet (k := k) (by rw [markTo_len, ← HN.out]; exact hlt) 2
          obtain ⟨e0, e1, e2, e3, e4, e5⟩ := HAT.out.cell (markTo_get.trans hx)
          clear hset hx e0 e1 e3 e4 e5
          go_wp2_with fail
          go_roundw
          case rel => exact ⟨k + 1, by omega, by go_num, HTC.out.set (by simp) _, HSET.out⟩
          case measure => simp [intOf]; omega
        · have e : markTo A2 mk k = A2.map (Ar.mark mk) := by
            rw [show k = A2.length by rw [← HN.out]; omega]
            exact markTo_all A2 mk
          rw [e] at HAT
          have p1 : ArAt wr (.slice a1 A1.length c1) A1 := HT.out.a1.touch HTC.out (fun q hq hm => by simp at hm; subst hm; exact HT.out.n12 _ hq rfl)
          have p3 : ArAt wr (.slice a3 A3.length c3) A3 := HT.out.a3.touch HTC.out (fun q hq hm => by simp at hm; subst hm; exact HT.out.n23 _ rfl hq)
          have bw : Below w1.heap.size w1 wr := Touch.from HB.out HTC.out HB.out.size (fun q hq => by simp at hq; subst hq; exact HT.out.b2 _ rfl)
          have P1 := Lib.hid p1
          have P3 := Lib.hid p3
          have BW := Lib.hid bw
          clear p1 p3 bw e
          go_wp2_with fail
          have hml : (A2.map (Ar.mark mk)).length = n := by rw [List.length_map, ← HN.out]
          refine (limited_walk _ wr.heap.size 0 3 3 _ _ (Parts.three P1.out HAT.out P3.out _) rfl (by omega) (by have h := hcl.out; simp [sumL]; omega)).mono ?_
          rintro e w3 ⟨v', x, rfl, b3, ho3, hs3, hb3⟩
          rw [← hcut.out] at hs3 hb3
          have H3 := Lib.hid (And.intro b3 (And.intro hs3 hb3))
          clear b3 ho3 hs3 hb3 hml
          go_wp2_with fail
          have ba := BW.out.alloc BW.out.size (.cells #[.slice a1 A1.length c1, .slice (some ⟨b, off, none⟩) n c2, .slice a3 A3.length c3] 26)
          obtain ⟨b3, hs3, hb3⟩ := H3.out
          refine bodyPost_ret (v := .tuple #[v', .int .i64 x]) (by simp [results, Try.results18, go_sem]) rfl ⟨v', x, rfl, ba.trans (b3.mono ba.size), fun h => absurd HR.out h, fun _ h => absurd h h0'.out, fun _ _ h => hs3 h, fun _ _ h => hb3 h⟩
  · have hrw := right_walk w fr pg
    rw [decide_eq_false hr] at hrw
    have HRW := Lib.hid hrw
    have HR := Lib.hid hr
    obtain ⟨av, cv, rfl, _, _⟩ := ArRd.fm h
    clear h hl hlen hrw hr
    go_enter Try.func18, Try.ntmps18
    go_wp2_with fail
    refine HRW.out.mono ?_
    rintro e w1 ⟨rfl, rfl⟩
    go_wp2_with fail
    exact bodyPost_ret (v := .tuple #[.slice none 0 0, .int .i64 1]) (by simp [results, Try.results18, go_sem]) rfl ⟨_, 1, rfl, Below.refl _ _, fun _ => ⟨rfl, rfl⟩, fun h => absurd h HR.out, fun h => absurd h HR.out, fun h => absurd h HR.out⟩
end Go.Proofs.Ytcghenehcpogpaa
