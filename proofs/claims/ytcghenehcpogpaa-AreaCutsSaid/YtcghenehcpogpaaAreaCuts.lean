/- AreaCuts: the law's walk. -/
import Derived.Test.YtcghenehcpogpaaAreaAdds
namespace Go.Proofs.Ytcghenehcpogpaa
open Go Go.RowKit

theorem fold_len (xs A : List Ar) : (xs.foldl insA A).length = A.length + xs.length := by
  induction xs generalizing A with
  | nil => simp
  | cons x xs ih => rw [List.foldl_cons, ih, (insA_perm A x).length_eq]; simp; omega
/-- Of a list the first ones, with another Write, put into another one. -/
def putTo (OUT IN : List Ar) (mk : Bool) (k : Nat) : List Ar := ((IN.take k).map (Ar.mark mk)).foldl insA OUT
theorem putTo_next {OUT IN : List Ar} {mk : Bool} {k : Nat} {x : Ar} (hx : IN[k]? = some x) : putTo OUT IN mk (k + 1) = insA (putTo OUT IN mk k) (x.mark mk) := by
  obtain ⟨hk, rfl⟩ := List.getElem?_eq_some_iff.1 hx
  unfold putTo
  rw [List.take_succ_eq_append_getElem hk, List.map_append, List.foldl_append]
  rfl
theorem putTo_len (OUT IN : List Ar) (mk : Bool) (k : Nat) : (putTo OUT IN mk k).length ≤ OUT.length + IN.length := by
  unfold putTo
  rw [fold_len, List.length_map, List.length_take]
  omega
theorem markTo_next {l : List Ar} {b : Bool} {k : Nat} {x : Ar} (hx : l[k]? = some x) : (markTo l b (k + 1))[k]? = some (x.mark b) := by
  obtain ⟨hk, rfl⟩ := List.getElem?_eq_some_iff.1 hx
  unfold markTo
  rw [List.getElem?_append_left (by simp; omega), List.getElem?_map, List.getElem?_take_of_lt (by omega), List.getElem?_eq_getElem hk]
  rfl

set_option linter.unusedVariables false in
set_option maxRecDepth 100000 in
set_option maxHeartbeats 4000000 in
theorem cuts_long (v : Value) (l : List Ar) (fr pg : Int) (mk : Bool) (w : World) (hr : ArRd w v l) (hlen : 16 < l.length) :
    Calls Try.prog 6 #[v, .int .i64 fr, .int .i64 pg, .bool mk] w fun e w' => e = .returned (.bool true) ∧ Below w.heap.size w w' := by
  obtain ⟨av, cv, rfl, _, _⟩ := ArRd.fm hr
  have h40 : (16 : Int) < l.length := by omega
  clear hr
  go_enter Try.func6, Try.ntmps6
  go_wp2_with fail
  refine (ans_tail w (Below.refl _ _) (Nat.le_refl _)).mono ?_
  rintro e w1 ⟨rfl, b1⟩
  go_wp2_with fail
  go_ret
  exact ⟨rfl, b1⟩

set_option linter.unusedVariables false in
set_option maxRecDepth 100000 in
set_option maxHeartbeats 4000000 in
theorem cuts_bad (v : Value) (l : List Ar) (fr pg : Int) (mk : Bool) (w : World) (hr : ArRd w v l) (hwl : ∀ a ∈ l, a.Wf) (hlen : l.length ≤ 16) (hok : ¬ OkL l) :
    Calls Try.prog 6 #[v, .int .i64 fr, .int .i64 pg, .bool mk] w fun e w' => e = .returned (.bool true) ∧ Below w.heap.size w w' := by
  have HOK := Lib.hid hok
  have hli := Lib.hid (List_ref w v l hr hwl)
  obtain ⟨av, cv, rfl, _, _⟩ := ArRd.fm hr
  have h40 : ¬ (16 : Int) < l.length := by omega
  clear hr hok hwl
  go_enter Try.func6, Try.ntmps6
  go_wp2_with fail
  refine hli.out.mono ?_
  rintro e w1 ⟨b, rfl, hb, b1⟩
  obtain rfl : b = false := by
    cases b
    · rfl
    · exact absurd ((okTo_iff l).1 (hb.1 rfl)) HOK.out
  clear hb
  go_wp2_with fail
  refine (ans_tail w1 b1 b1.size).mono ?_
  rintro e w2 ⟨rfl, b2⟩
  go_wp2_with fail
  go_ret
  exact ⟨rfl, b2⟩

set_option linter.unusedVariables false in
set_option maxRecDepth 100000 in
set_option maxHeartbeats 4000000 in
theorem cuts_right (v : Value) (l : List Ar) (fr pg : Int) (mk : Bool) (w : World) (hr : ArRd w v l) (hwl : ∀ a ∈ l, a.Wf) (hlen : l.length ≤ 16) (hok : OkL l) (hrr : ¬ RightA fr pg) :
    Calls Try.prog 6 #[v, .int .i64 fr, .int .i64 pg, .bool mk] w fun e w' => e = .returned (.bool true) ∧ Below w.heap.size w w' := by
  have hli := Lib.hid (List_ref w v l hr hwl)
  have HOK := Lib.hid hok
  obtain ⟨av, cv, rfl, _, _⟩ := ArRd.fm hr
  have HR := Lib.hid hr
  have h40 : ¬ (16 : Int) < l.length := by omega
  clear hr hwl hok
  have hdr : decide (RightA fr pg) = false := decide_eq_false hrr
  have HRR := Lib.hid hrr
  clear hrr
  go_enter Try.func6, Try.ntmps6
  go_wp2_with fail
  refine hli.out.mono ?_
  rintro e w1 ⟨b, rfl, hb, b1⟩
  obtain rfl : b = true := hb.2 ((okTo_iff l).2 HOK.out)
  have B1 := Lib.hid b1
  clear hb b1 hli
  go_wp2_with fail
  refine (Cut_walk w1 _ l (HR.out.below B1.out) HOK.out.1 (by omega) fr pg).mono ?_
  rintro e w2 ⟨vm, xm, rfl, b2, _, hc1, hc2, hc3⟩
  have B2 := Lib.hid (B1.out.trans (b2.mono B1.out.size))
  obtain ⟨rfl, rfl⟩ := hc1 HRR.out
  clear hc1 hc2 hc3
  clear b2
  go_wp2_with fail
  refine (Protect_walk w2 _ l (HR.out.below B2.out) HOK.out.1 (by omega) fr pg mk).mono ?_
  rintro e w3 ⟨vn, xn, rfl, b3, hd1, hd2, hd3, hd4⟩
  have B3 := Lib.hid (B2.out.trans (b3.mono B2.out.size))
  obtain ⟨rfl, rfl⟩ := hd1 HRR.out
  clear hd1 hd2 hd3 hd4 b3
  go_wp2_with fail
  refine (Right_ref w3 fr pg).mono ?_
  rintro e w3 ⟨rfl, rfl⟩
  rw [hdr]
  go_wp2_with fail
  refine (ans_tail w3 B3.out B3.out.size).mono ?_
  rintro e w4 ⟨rfl, b4⟩
  go_wp2_with fail
  go_ret
  exact ⟨by simp, b4⟩

set_option linter.unusedVariables false in
set_option maxRecDepth 100000 in
set_option maxHeartbeats 4000000 in
theorem cuts_small_none (v : Value) (l : List Ar) (fr pg : Int) (mk : Bool) (w : World) (hr : ArRd w v l) (hwl : ∀ a ∈ l, a.Wf) (hlen : l.length ≤ 16) (hok : OkL l) (hrr : RightA fr pg) (ho16 : (cutA l fr pg).length ≤ 16) (hin : piecesA l fr (fr + pg) = []) :
    Calls Try.prog 6 #[v, .int .i64 fr, .int .i64 pg, .bool mk] w fun e w' => e = .returned (.bool true) ∧ Below w.heap.size w w' := by
  have hli := Lib.hid (List_ref w v l hr hwl)
  have HOK := Lib.hid hok
  obtain ⟨av, cv, rfl, _, _⟩ := ArRd.fm hr
  have HR := Lib.hid hr
  have h40 : ¬ (16 : Int) < l.length := by omega
  clear hr hwl hok
  have hdr : decide (RightA fr pg) = true := decide_eq_true hrr
  have HRR := Lib.hid hrr
  have HIN := Lib.hid hin
  have HO16 := Lib.hid ho16
  have HCUT : Hid (cutA l fr pg = refOut l fr pg) := cutA_ref HOK.out (by obtain ⟨_, r2, _, _⟩ := hrr; omega)
  have HFOLD : Hid (putTo (refOut l fr pg) (piecesA l fr (fr + pg)) mk (piecesA l fr (fr + pg)).length = protA l fr pg mk) := by
    show putTo _ _ _ _ = _
    unfold putTo
    rw [List.take_length]
    exact fold_protect HOK.out (by obtain ⟨_, r2, _, _⟩ := hrr; omega) mk
  have HF : Hid (0 ≤ fr ∧ 1 ≤ pg ∧ fr + pg ≤ 4096) := by obtain ⟨r1, r2, r3, r4⟩ := hrr; exact ⟨r1, r2, by omega⟩
  have HLENS : Hid ((refOut l fr pg).length ≤ 32 ∧ (piecesA l fr (fr + pg)).length ≤ 16) := by
    have h1 := refOut_length l fr pg
    have h2 := piecesA_length l fr (fr + pg)
    exact ⟨by omega, by omega⟩
  clear hrr hin ho16
  go_enter Try.func6, Try.ntmps6
  go_wp2_with fail
  refine hli.out.mono ?_
  rintro e w1 ⟨b, rfl, hb, b1⟩
  obtain rfl : b = true := hb.2 ((okTo_iff l).2 HOK.out)
  have B1 := Lib.hid b1
  clear hb b1 hli
  go_wp2_with fail
  refine (Cut_walk w1 _ l (HR.out.below B1.out) HOK.out.1 (by omega) fr pg).mono ?_
  rintro e w2 ⟨vm, xm, rfl, b2, _, hc1, hc2, hc3⟩
  have B2 := Lib.hid (B1.out.trans (b2.mono B1.out.size))
  obtain ⟨rfl, hat⟩ := hc2 HRR.out HO16.out
  rw [HCUT.out] at hat
  have AM2 := Lib.hid hat
  obtain ⟨am, cm, rfl, _, _⟩ := SlAt.form hat
  clear hat hc1 hc2 hc3
  clear b2
  go_wp2_with fail
  refine (Protect_walk w2 _ l (HR.out.below B2.out) HOK.out.1 (by omega) fr pg mk).mono ?_
  rintro e w3 ⟨vn, xn, rfl, b3, hd1, hd2, hd3, hd4⟩
  have B3 := Lib.hid (B2.out.trans (b3.mono B2.out.size))
  have AM3 := Lib.hid (AM2.out.below b3)
  obtain ⟨rfl, rfl⟩ := hd2 HRR.out HIN.out
  clear hd1 hd2 hd3 hd4 b3
  go_wp2_with fail
  refine (Right_ref w3 fr pg).mono ?_
  rintro e w3 ⟨rfl, rfl⟩
  rw [hdr]
  go_wp2_with fail
  refine (Cut_ref w3 _ l (HR.out.below B3.out) HOK.out.1 (by omega) fr pg HF.out).mono ?_
  rintro e w4 ⟨vo, vi, rfl, ht, b4⟩
  have B4 := Lib.hid b4
  obtain ⟨OUT, hOUT⟩ : ∃ OUT, OUT = refOut l fr pg := ⟨_, rfl⟩
  obtain ⟨IN, hINN⟩ : ∃ IN, IN = piecesA l fr (fr + pg) := ⟨_, rfl⟩
  rw [← hOUT, ← hINN] at ht HFOLD HLENS
  rw [← hINN] at HIN
  rw [← hOUT] at AM3 ⊢
  have AM4 := Lib.hid (AM3.out.below B4.out)
  have HO := Lib.hid (show cutA l fr pg = OUT from HCUT.out.trans hOUT.symm)
  rw [HO.out] at HO16
  have HT := Lib.hid ht
  obtain ⟨ao, co, rfl, _, _⟩ := SlAt.form ht.a1
  obtain ⟨ai, ci, rfl, _, _⟩ := SlAt.form ht.a2
  clear ht b4 hOUT hINN
  have ho1 : ¬ (16 : Int) < OUT.length := by have := HO16.out; omega
  have ho2 : ¬ 16 < OUT.length := by have := HO16.out; omega
  have ho3 : decide ((16 : Int) < (OUT.length : Int)) = false := decide_eq_false ho1
  go_wp2_with fail
  refine (Areas_ref w4 _ _ OUT OUT AM4.out.rd HT.out.a1.rd).mono ?_
  rintro e w5 ⟨rfl, b5⟩
  rw [decide_eq_true rfl]
  have B5 := Lib.hid (B4.out.trans (b5.mono B4.out.size))
  have T5 := Lib.hid (HT.out.below b5)
  clear b5
  obtain rfl : IN = [] := HIN.out
  go_wp2_with fail
  have BW := Lib.hid (B3.out.trans (B5.out.mono B3.out.size))
  refine (ans_tail w5 BW.out BW.out.size).mono ?_
  rintro e w6 ⟨rfl, b6⟩
  go_wp2_with fail
  go_ret
  exact ⟨by simp, b6⟩

set_option linter.unusedVariables false in
set_option maxRecDepth 100000 in
set_option maxHeartbeats 4000000 in
theorem cuts_small_pbig (v : Value) (l : List Ar) (fr pg : Int) (mk : Bool) (w : World) (hr : ArRd w v l) (hwl : ∀ a ∈ l, a.Wf) (hlen : l.length ≤ 16) (hok : OkL l) (hrr : RightA fr pg) (ho16 : (cutA l fr pg).length ≤ 16) (hin : piecesA l fr (fr + pg) ≠ []) (hpr : 16 < (protA l fr pg mk).length) :
    Calls Try.prog 6 #[v, .int .i64 fr, .int .i64 pg, .bool mk] w fun e w' => e = .returned (.bool true) ∧ Below w.heap.size w w' := by
  have hli := Lib.hid (List_ref w v l hr hwl)
  have HOK := Lib.hid hok
  obtain ⟨av, cv, rfl, _, _⟩ := ArRd.fm hr
  have HR := Lib.hid hr
  have h40 : ¬ (16 : Int) < l.length := by omega
  clear hr hwl hok
  have hdr : decide (RightA fr pg) = true := decide_eq_true hrr
  have HRR := Lib.hid hrr
  have HIN := Lib.hid hin
  have HO16 := Lib.hid ho16
  have HCUT : Hid (cutA l fr pg = refOut l fr pg) := cutA_ref HOK.out (by obtain ⟨_, r2, _, _⟩ := hrr; omega)
  have HFOLD : Hid (putTo (refOut l fr pg) (piecesA l fr (fr + pg)) mk (piecesA l fr (fr + pg)).length = protA l fr pg mk) := by
    show putTo _ _ _ _ = _
    unfold putTo
    rw [List.take_length]
    exact fold_protect HOK.out (by obtain ⟨_, r2, _, _⟩ := hrr; omega) mk
  have HF : Hid (0 ≤ fr ∧ 1 ≤ pg ∧ fr + pg ≤ 4096) := by obtain ⟨r1, r2, r3, r4⟩ := hrr; exact ⟨r1, r2, by omega⟩
  have HLENS : Hid ((refOut l fr pg).length ≤ 32 ∧ (piecesA l fr (fr + pg)).length ≤ 16) := by
    have h1 := refOut_length l fr pg
    have h2 := piecesA_length l fr (fr + pg)
    exact ⟨by omega, by omega⟩
  have HPR := Lib.hid hpr
  clear hpr
  clear hrr hin ho16
  go_enter Try.func6, Try.ntmps6
  go_wp2_with fail
  refine hli.out.mono ?_
  rintro e w1 ⟨b, rfl, hb, b1⟩
  obtain rfl : b = true := hb.2 ((okTo_iff l).2 HOK.out)
  have B1 := Lib.hid b1
  clear hb b1 hli
  go_wp2_with fail
  refine (Cut_walk w1 _ l (HR.out.below B1.out) HOK.out.1 (by omega) fr pg).mono ?_
  rintro e w2 ⟨vm, xm, rfl, b2, _, hc1, hc2, hc3⟩
  have B2 := Lib.hid (B1.out.trans (b2.mono B1.out.size))
  obtain ⟨rfl, hat⟩ := hc2 HRR.out HO16.out
  rw [HCUT.out] at hat
  have AM2 := Lib.hid hat
  obtain ⟨am, cm, rfl, _, _⟩ := SlAt.form hat
  clear hat hc1 hc2 hc3
  clear b2
  go_wp2_with fail
  refine (Protect_walk w2 _ l (HR.out.below B2.out) HOK.out.1 (by omega) fr pg mk).mono ?_
  rintro e w3 ⟨vn, xn, rfl, b3, hd1, hd2, hd3, hd4⟩
  have B3 := Lib.hid (B2.out.trans (b3.mono B2.out.size))
  have AM3 := Lib.hid (AM2.out.below b3)
  obtain ⟨rfl, rfl⟩ := hd4 HRR.out HIN.out HPR.out
  clear hd1 hd2 hd3 hd4 b3
  go_wp2_with fail
  refine (Right_ref w3 fr pg).mono ?_
  rintro e w3 ⟨rfl, rfl⟩
  rw [hdr]
  go_wp2_with fail
  refine (Cut_ref w3 _ l (HR.out.below B3.out) HOK.out.1 (by omega) fr pg HF.out).mono ?_
  rintro e w4 ⟨vo, vi, rfl, ht, b4⟩
  have B4 := Lib.hid b4
  obtain ⟨OUT, hOUT⟩ : ∃ OUT, OUT = refOut l fr pg := ⟨_, rfl⟩
  obtain ⟨IN, hINN⟩ : ∃ IN, IN = piecesA l fr (fr + pg) := ⟨_, rfl⟩
  rw [← hOUT, ← hINN] at ht HFOLD HLENS
  rw [← hINN] at HIN
  rw [← hOUT] at AM3 ⊢
  have AM4 := Lib.hid (AM3.out.below B4.out)
  have HO := Lib.hid (show cutA l fr pg = OUT from HCUT.out.trans hOUT.symm)
  rw [HO.out] at HO16
  have HT := Lib.hid ht
  obtain ⟨ao, co, rfl, _, _⟩ := SlAt.form ht.a1
  obtain ⟨ai, ci, rfl, _, _⟩ := SlAt.form ht.a2
  clear ht b4 hOUT hINN
  have ho1 : ¬ (16 : Int) < OUT.length := by have := HO16.out; omega
  have ho2 : ¬ 16 < OUT.length := by have := HO16.out; omega
  have ho3 : decide ((16 : Int) < (OUT.length : Int)) = false := decide_eq_false ho1
  go_wp2_with fail
  refine (Areas_ref w4 _ _ OUT OUT AM4.out.rd HT.out.a1.rd).mono ?_
  rintro e w5 ⟨rfl, b5⟩
  rw [decide_eq_true rfl]
  have B5 := Lib.hid (B4.out.trans (b5.mono B4.out.size))
  have T5 := Lib.hid (HT.out.below b5)
  clear b5
  have hn0 : 0 < IN.length := List.length_pos_iff.2 HIN.out
  obtain ⟨bi, offi, rfl⟩ := HT.out.a2.addr hn0
  obtain ⟨n, hn⟩ : ∃ n, n = IN.length := ⟨_, rfl⟩
  have HN := Lib.hid hn
  rw [← hn] at hn0 T5 HFOLD ⊢
  clear hn
  have hnz : (n == 0) = false := by have : n ≠ 0 := by omega
                                    simpa using this
  have hni : ¬ ((n : Nat) : Int) = 0 := by omega
  have hnn : ¬ n = 0 := by omega
  have hn16 : n ≤ 16 := by rw [HN.out]; exact HLENS.out.2
  have hnq : (((n : Nat) : Int) == 0) = false := by simpa using hnn
  go_wp2_with fail
  go_loopw [13, 15] (fun vo i wr => ∃ k : Nat, k ≤ n ∧ i = .int .i64 k ∧ Below w3.heap.size w3 wr ∧ ArAt wr (.slice (some ⟨bi, offi, none⟩) n ci) (markTo IN mk k) ∧ ArAt wr vo (putTo OUT IN mk k) ∧ ∀ b, vo.ownBlock = some b → w3.heap.size ≤ b ∧ b ≠ bi) (fun _ i _ => n - (intOf i).toNat)
  case atStart => exact ⟨0, by omega, rfl, B5.out, by simpa [markTo] using T5.out.a2, by simpa [putTo] using T5.out.a1, fun b hb => ⟨T5.out.b1 b hb, fun e => T5.out.n12 b hb (by rw [e]; rfl)⟩⟩
  case round =>
    obtain ⟨k, hk, rfl, hbr, hmr, hor, hno⟩ := hrel
    have HBR := Lib.hid hbr
    have HMR := Lib.hid hmr
    have HOR := Lib.hid hor
    have HNO := Lib.hid hno
    clear hbr hmr hor hno
    by_cases hlt : k < n
    · have hlt' : (k : Int) < n := by omega
      obtain ⟨x, hx⟩ : ∃ x, IN[k]? = some x := ⟨_, List.getElem?_eq_getElem (by rw [← HN.out]; exact hlt)⟩
      have HX := Lib.hid hx
      have hset := HMR.out.mark (markTo_get.trans hx) mk
      rw [markTo_set hx] at hset
      have HSET := Lib.hid hset
      have hfz := HMR.out.okSet (k := k) (by rw [markTo_len, ← HN.out]; exact hlt) 2
      obtain ⟨e0, e1, e2, e3, e4, e5⟩ := HMR.out.cell (markTo_get.trans hx)
      clear hset hx e0 e1 e3 e4 e5
      obtain ⟨aq, cq, rfl, _, _⟩ := SlAt.form HOR.out
      have BS : Hid (Below w3.heap.size w3 (wr.setCell ⟨bi, offi + k * 6 + 2, none⟩ (.bool mk))) := HBR.out.setCell (T5.out.b2 bi rfl) _
      have OS : Hid (ArAt (wr.setCell ⟨bi, offi + k * 6 + 2, none⟩ (.bool mk)) (.slice aq (putTo OUT IN mk k).length cq) (putTo OUT IN mk k)) := HOR.out.keep fun b hb => Below.heap_setCell wr _ _ b (fun e => (HNO.out b hb).2 e)
      obtain ⟨g0, g1, g2, g3, g4, g5⟩ := HSET.out.cell (markTo_next HX.out)
      obtain ⟨f, p, wt, kd, fi, o⟩ := x
      simp only [Ar.mark] at g0 g1 g2 g3 g4 g5
      go_wp2_with fail
      clear e2 hfz
      generalize wr.setCell _ _ = W at *
      clear g0 g1 g2 g3 g4 g5
      refine (Insert_ref W _ _ OS.out.rd (by have := putTo_len OUT IN mk k; have h2 := HLENS.out; omega) ⟨f, p, mk, kd, fi, o⟩).mono ?_
      rintro e w6 ⟨v6, rfl, a6, b6, o6⟩
      have HZ := Lib.hid (And.intro a6 (And.intro b6 o6))
      clear a6 b6 o6
      go_wp2_with fail
      go_roundw
      case rel =>
        obtain ⟨a6, b6, o6⟩ := HZ.out
        refine ⟨k + 1, by omega, by go_num, BS.out.trans (b6.mono BS.out.size), HSET.out.below b6, ?_, fun b hb => ⟨Nat.le_trans BS.out.size (o6 b hb), fun e => ?_⟩⟩
        · rw [putTo_next HX.out]
          exact a6
        · have h1 := o6 b hb
          have h2 := SlAt.lt HSET.out bi rfl
          omega
      case measure => simp [intOf]; omega
    · obtain rfl : k = n := by omega
      rw [HFOLD.out] at HOR
      obtain ⟨aq, cq, rfl, _, _⟩ := SlAt.form HOR.out
      have BW := Lib.hid (B3.out.trans (HBR.out.mono B3.out.size))
      obtain ⟨np, hnp⟩ : ∃ np, np = (protA l fr pg mk).length := ⟨_, rfl⟩
      have HPI : (16 : Int) < np := by have := HPR.out; omega
      have HPI2 : 16 < np := by have := HPR.out; omega
      rw [← hnp] at *
      go_wp2_with fail
      refine (ans_tail wr BW.out BW.out.size).mono ?_
      rintro e w6 ⟨rfl, b6⟩
      go_wp2_with fail
      go_ret
      exact ⟨by simp, b6⟩

set_option linter.unusedVariables false in
set_option maxRecDepth 100000 in
set_option maxHeartbeats 4000000 in
theorem cuts_small_psmall (v : Value) (l : List Ar) (fr pg : Int) (mk : Bool) (w : World) (hr : ArRd w v l) (hwl : ∀ a ∈ l, a.Wf) (hlen : l.length ≤ 16) (hok : OkL l) (hrr : RightA fr pg) (ho16 : (cutA l fr pg).length ≤ 16) (hin : piecesA l fr (fr + pg) ≠ []) (hpr : (protA l fr pg mk).length ≤ 16) :
    Calls Try.prog 6 #[v, .int .i64 fr, .int .i64 pg, .bool mk] w fun e w' => e = .returned (.bool true) ∧ Below w.heap.size w w' := by
  have hli := Lib.hid (List_ref w v l hr hwl)
  have HOK := Lib.hid hok
  obtain ⟨av, cv, rfl, _, _⟩ := ArRd.fm hr
  have HR := Lib.hid hr
  have h40 : ¬ (16 : Int) < l.length := by omega
  clear hr hwl hok
  have hdr : decide (RightA fr pg) = true := decide_eq_true hrr
  have HRR := Lib.hid hrr
  have HIN := Lib.hid hin
  have HO16 := Lib.hid ho16
  have HCUT : Hid (cutA l fr pg = refOut l fr pg) := cutA_ref HOK.out (by obtain ⟨_, r2, _, _⟩ := hrr; omega)
  have HFOLD : Hid (putTo (refOut l fr pg) (piecesA l fr (fr + pg)) mk (piecesA l fr (fr + pg)).length = protA l fr pg mk) := by
    show putTo _ _ _ _ = _
    unfold putTo
    rw [List.take_length]
    exact fold_protect HOK.out (by obtain ⟨_, r2, _, _⟩ := hrr; omega) mk
  have HF : Hid (0 ≤ fr ∧ 1 ≤ pg ∧ fr + pg ≤ 4096) := by obtain ⟨r1, r2, r3, r4⟩ := hrr; exact ⟨r1, r2, by omega⟩
  have HLENS : Hid ((refOut l fr pg).length ≤ 32 ∧ (piecesA l fr (fr + pg)).length ≤ 16) := by
    have h1 := refOut_length l fr pg
    have h2 := piecesA_length l fr (fr + pg)
    exact ⟨by omega, by omega⟩
  have HPR := Lib.hid hpr
  clear hpr
  clear hrr hin ho16
  go_enter Try.func6, Try.ntmps6
  go_wp2_with fail
  refine hli.out.mono ?_
  rintro e w1 ⟨b, rfl, hb, b1⟩
  obtain rfl : b = true := hb.2 ((okTo_iff l).2 HOK.out)
  have B1 := Lib.hid b1
  clear hb b1 hli
  go_wp2_with fail
  refine (Cut_walk w1 _ l (HR.out.below B1.out) HOK.out.1 (by omega) fr pg).mono ?_
  rintro e w2 ⟨vm, xm, rfl, b2, _, hc1, hc2, hc3⟩
  have B2 := Lib.hid (B1.out.trans (b2.mono B1.out.size))
  obtain ⟨rfl, hat⟩ := hc2 HRR.out HO16.out
  rw [HCUT.out] at hat
  have AM2 := Lib.hid hat
  obtain ⟨am, cm, rfl, _, _⟩ := SlAt.form hat
  clear hat hc1 hc2 hc3
  clear b2
  go_wp2_with fail
  refine (Protect_walk w2 _ l (HR.out.below B2.out) HOK.out.1 (by omega) fr pg mk).mono ?_
  rintro e w3 ⟨vn, xn, rfl, b3, hd1, hd2, hd3, hd4⟩
  have B3 := Lib.hid (B2.out.trans (b3.mono B2.out.size))
  have AM3 := Lib.hid (AM2.out.below b3)
  obtain ⟨rfl, han⟩ := hd3 HRR.out HIN.out HPR.out
  have AN3 := Lib.hid han
  obtain ⟨an, cn, rfl, _, _⟩ := SlAt.form han
  clear han hd1 hd2 hd3 hd4 b3
  go_wp2_with fail
  refine (Right_ref w3 fr pg).mono ?_
  rintro e w3 ⟨rfl, rfl⟩
  rw [hdr]
  go_wp2_with fail
  refine (Cut_ref w3 _ l (HR.out.below B3.out) HOK.out.1 (by omega) fr pg HF.out).mono ?_
  rintro e w4 ⟨vo, vi, rfl, ht, b4⟩
  have B4 := Lib.hid b4
  obtain ⟨OUT, hOUT⟩ : ∃ OUT, OUT = refOut l fr pg := ⟨_, rfl⟩
  obtain ⟨IN, hINN⟩ : ∃ IN, IN = piecesA l fr (fr + pg) := ⟨_, rfl⟩
  rw [← hOUT, ← hINN] at ht HFOLD HLENS
  rw [← hINN] at HIN
  rw [← hOUT] at AM3 ⊢
  have AM4 := Lib.hid (AM3.out.below B4.out)
  have HO := Lib.hid (show cutA l fr pg = OUT from HCUT.out.trans hOUT.symm)
  rw [HO.out] at HO16
  have HT := Lib.hid ht
  obtain ⟨ao, co, rfl, _, _⟩ := SlAt.form ht.a1
  obtain ⟨ai, ci, rfl, _, _⟩ := SlAt.form ht.a2
  clear ht b4 hOUT hINN
  have ho1 : ¬ (16 : Int) < OUT.length := by have := HO16.out; omega
  have ho2 : ¬ 16 < OUT.length := by have := HO16.out; omega
  have ho3 : decide ((16 : Int) < (OUT.length : Int)) = false := decide_eq_false ho1
  go_wp2_with fail
  refine (Areas_ref w4 _ _ OUT OUT AM4.out.rd HT.out.a1.rd).mono ?_
  rintro e w5 ⟨rfl, b5⟩
  rw [decide_eq_true rfl]
  have B5 := Lib.hid (B4.out.trans (b5.mono B4.out.size))
  have T5 := Lib.hid (HT.out.below b5)
  clear b5
  have hn0 : 0 < IN.length := List.length_pos_iff.2 HIN.out
  obtain ⟨bi, offi, rfl⟩ := HT.out.a2.addr hn0
  obtain ⟨n, hn⟩ : ∃ n, n = IN.length := ⟨_, rfl⟩
  have HN := Lib.hid hn
  rw [← hn] at hn0 T5 HFOLD ⊢
  clear hn
  have hnz : (n == 0) = false := by have : n ≠ 0 := by omega
                                    simpa using this
  have hni : ¬ ((n : Nat) : Int) = 0 := by omega
  have hnn : ¬ n = 0 := by omega
  have hn16 : n ≤ 16 := by rw [HN.out]; exact HLENS.out.2
  have hnq : (((n : Nat) : Int) == 0) = false := by simpa using hnn
  go_wp2_with fail
  go_loopw [13, 15] (fun vo i wr => ∃ k : Nat, k ≤ n ∧ i = .int .i64 k ∧ Below w3.heap.size w3 wr ∧ ArAt wr (.slice (some ⟨bi, offi, none⟩) n ci) (markTo IN mk k) ∧ ArAt wr vo (putTo OUT IN mk k) ∧ ∀ b, vo.ownBlock = some b → w3.heap.size ≤ b ∧ b ≠ bi) (fun _ i _ => n - (intOf i).toNat)
  case atStart => exact ⟨0, by omega, rfl, B5.out, by simpa [markTo] using T5.out.a2, by simpa [putTo] using T5.out.a1, fun b hb => ⟨T5.out.b1 b hb, fun e => T5.out.n12 b hb (by rw [e]; rfl)⟩⟩
  case round =>
    obtain ⟨k, hk, rfl, hbr, hmr, hor, hno⟩ := hrel
    have HBR := Lib.hid hbr
    have HMR := Lib.hid hmr
    have HOR := Lib.hid hor
    have HNO := Lib.hid hno
    clear hbr hmr hor hno
    by_cases hlt : k < n
    · have hlt' : (k : Int) < n := by omega
      obtain ⟨x, hx⟩ : ∃ x, IN[k]? = some x := ⟨_, List.getElem?_eq_getElem (by rw [← HN.out]; exact hlt)⟩
      have HX := Lib.hid hx
      have hset := HMR.out.mark (markTo_get.trans hx) mk
      rw [markTo_set hx] at hset
      have HSET := Lib.hid hset
      have hfz := HMR.out.okSet (k := k) (by rw [markTo_len, ← HN.out]; exact hlt) 2
      obtain ⟨e0, e1, e2, e3, e4, e5⟩ := HMR.out.cell (markTo_get.trans hx)
      clear hset hx e0 e1 e3 e4 e5
      obtain ⟨aq, cq, rfl, _, _⟩ := SlAt.form HOR.out
      have BS : Hid (Below w3.heap.size w3 (wr.setCell ⟨bi, offi + k * 6 + 2, none⟩ (.bool mk))) := HBR.out.setCell (T5.out.b2 bi rfl) _
      have OS : Hid (ArAt (wr.setCell ⟨bi, offi + k * 6 + 2, none⟩ (.bool mk)) (.slice aq (putTo OUT IN mk k).length cq) (putTo OUT IN mk k)) := HOR.out.keep fun b hb => Below.heap_setCell wr _ _ b (fun e => (HNO.out b hb).2 e)
      obtain ⟨g0, g1, g2, g3, g4, g5⟩ := HSET.out.cell (markTo_next HX.out)
      obtain ⟨f, p, wt, kd, fi, o⟩ := x
      simp only [Ar.mark] at g0 g1 g2 g3 g4 g5
      go_wp2_with fail
      clear e2 hfz
      generalize wr.setCell _ _ = W at *
      clear g0 g1 g2 g3 g4 g5
      refine (Insert_ref W _ _ OS.out.rd (by have := putTo_len OUT IN mk k; have h2 := HLENS.out; omega) ⟨f, p, mk, kd, fi, o⟩).mono ?_
      rintro e w6 ⟨v6, rfl, a6, b6, o6⟩
      have HZ := Lib.hid (And.intro a6 (And.intro b6 o6))
      clear a6 b6 o6
      go_wp2_with fail
      go_roundw
      case rel =>
        obtain ⟨a6, b6, o6⟩ := HZ.out
        refine ⟨k + 1, by omega, by go_num, BS.out.trans (b6.mono BS.out.size), HSET.out.below b6, ?_, fun b hb => ⟨Nat.le_trans BS.out.size (o6 b hb), fun e => ?_⟩⟩
        · rw [putTo_next HX.out]
          exact a6
        · have h1 := o6 b hb
          have h2 := SlAt.lt HSET.out bi rfl
          omega
      case measure => simp [intOf]; omega
    · obtain rfl : k = n := by omega
      rw [HFOLD.out] at HOR
      obtain ⟨aq, cq, rfl, _, _⟩ := SlAt.form HOR.out
      have BW := Lib.hid (B3.out.trans (HBR.out.mono B3.out.size))
      have HPI : ¬ (16 : Int) < (protA l fr pg mk).length := by have := HPR.out; omega
      have HPI2 : ¬ 16 < (protA l fr pg mk).length := by have := HPR.out; omega
      go_wp2_with fail
      refine (answersA wr).mono ?_
      rintro e w6 ⟨rfl, b6⟩
      have B6 := Lib.hid (BW.out.trans (b6.mono BW.out.size))
      have A6 := Lib.hid (HOR.out.below b6)
      have AN6 := Lib.hid ((AN3.out.below HBR.out).below b6)
      clear b6
      go_wp2_with fail
      refine (Areas_ref w6 _ _ _ _ AN6.out.rd A6.out.rd).mono ?_
      rintro e w7 ⟨rfl, b7⟩
      rw [decide_eq_true rfl]
      have B7 := Lib.hid (B6.out.trans (b7.mono B6.out.size))
      clear b7
      go_wp2_with fail
      go_ret
      exact ⟨by simp, B7.out⟩

set_option linter.unusedVariables false in
set_option maxRecDepth 100000 in
set_option maxHeartbeats 4000000 in
theorem cuts_big_none (v : Value) (l : List Ar) (fr pg : Int) (mk : Bool) (w : World) (hr : ArRd w v l) (hwl : ∀ a ∈ l, a.Wf) (hlen : l.length ≤ 16) (hok : OkL l) (hrr : RightA fr pg) (ho16 : 16 < (cutA l fr pg).length) (hin : piecesA l fr (fr + pg) = []) :
    Calls Try.prog 6 #[v, .int .i64 fr, .int .i64 pg, .bool mk] w fun e w' => e = .returned (.bool true) ∧ Below w.heap.size w w' := by
  have hli := Lib.hid (List_ref w v l hr hwl)
  have HOK := Lib.hid hok
  obtain ⟨av, cv, rfl, _, _⟩ := ArRd.fm hr
  have HR := Lib.hid hr
  have h40 : ¬ (16 : Int) < l.length := by omega
  clear hr hwl hok
  have hdr : decide (RightA fr pg) = true := decide_eq_true hrr
  have HRR := Lib.hid hrr
  have HIN := Lib.hid hin
  have HO16 := Lib.hid ho16
  have HCUT : Hid (cutA l fr pg = refOut l fr pg) := cutA_ref HOK.out (by obtain ⟨_, r2, _, _⟩ := hrr; omega)
  have HFOLD : Hid (putTo (refOut l fr pg) (piecesA l fr (fr + pg)) mk (piecesA l fr (fr + pg)).length = protA l fr pg mk) := by
    show putTo _ _ _ _ = _
    unfold putTo
    rw [List.take_length]
    exact fold_protect HOK.out (by obtain ⟨_, r2, _, _⟩ := hrr; omega) mk
  have HF : Hid (0 ≤ fr ∧ 1 ≤ pg ∧ fr + pg ≤ 4096) := by obtain ⟨r1, r2, r3, r4⟩ := hrr; exact ⟨r1, r2, by omega⟩
  have HLENS : Hid ((refOut l fr pg).length ≤ 32 ∧ (piecesA l fr (fr + pg)).length ≤ 16) := by
    have h1 := refOut_length l fr pg
    have h2 := piecesA_length l fr (fr + pg)
    exact ⟨by omega, by omega⟩
  clear hrr hin ho16
  go_enter Try.func6, Try.ntmps6
  go_wp2_with fail
  refine hli.out.mono ?_
  rintro e w1 ⟨b, rfl, hb, b1⟩
  obtain rfl : b = true := hb.2 ((okTo_iff l).2 HOK.out)
  have B1 := Lib.hid b1
  clear hb b1 hli
  go_wp2_with fail
  refine (Cut_walk w1 _ l (HR.out.below B1.out) HOK.out.1 (by omega) fr pg).mono ?_
  rintro e w2 ⟨vm, xm, rfl, b2, _, hc1, hc2, hc3⟩
  have B2 := Lib.hid (B1.out.trans (b2.mono B1.out.size))
  obtain ⟨rfl, rfl⟩ := hc3 HRR.out HO16.out
  clear hc1 hc2 hc3
  clear b2
  go_wp2_with fail
  refine (Protect_walk w2 _ l (HR.out.below B2.out) HOK.out.1 (by omega) fr pg mk).mono ?_
  rintro e w3 ⟨vn, xn, rfl, b3, hd1, hd2, hd3, hd4⟩
  have B3 := Lib.hid (B2.out.trans (b3.mono B2.out.size))
  obtain ⟨rfl, rfl⟩ := hd2 HRR.out HIN.out
  clear hd1 hd2 hd3 hd4 b3
  go_wp2_with fail
  refine (Right_ref w3 fr pg).mono ?_
  rintro e w3 ⟨rfl, rfl⟩
  rw [hdr]
  go_wp2_with fail
  refine (Cut_ref w3 _ l (HR.out.below B3.out) HOK.out.1 (by omega) fr pg HF.out).mono ?_
  rintro e w4 ⟨vo, vi, rfl, ht, b4⟩
  have B4 := Lib.hid b4
  obtain ⟨OUT, hOUT⟩ : ∃ OUT, OUT = refOut l fr pg := ⟨_, rfl⟩
  obtain ⟨IN, hINN⟩ : ∃ IN, IN = piecesA l fr (fr + pg) := ⟨_, rfl⟩
  rw [← hOUT, ← hINN] at ht HFOLD HLENS
  rw [← hINN] at HIN
  skip
  have HO := Lib.hid (show cutA l fr pg = OUT from HCUT.out.trans hOUT.symm)
  rw [HO.out] at HO16
  have HT := Lib.hid ht
  obtain ⟨ao, co, rfl, _, _⟩ := SlAt.form ht.a1
  obtain ⟨ai, ci, rfl, _, _⟩ := SlAt.form ht.a2
  clear ht b4 hOUT hINN
  have ho1 : (16 : Int) < OUT.length := by have := HO16.out; omega
  have ho2 : 16 < OUT.length := HO16.out
  have ho3 : decide ((16 : Int) < (OUT.length : Int)) = true := decide_eq_true ho1
  have B5 := B4
  have T5 := HT
  obtain ⟨w5, hw5⟩ : ∃ w5, w5 = w4 := ⟨_, rfl⟩
  rw [← hw5] at B5 T5 ⊢
  clear hw5
  obtain rfl : IN = [] := HIN.out
  go_wp2_with fail
  have BW := Lib.hid (B3.out.trans (B5.out.mono B3.out.size))
  refine (ans_tail w5 BW.out BW.out.size).mono ?_
  rintro e w6 ⟨rfl, b6⟩
  go_wp2_with fail
  go_ret
  exact ⟨by simp, b6⟩

set_option linter.unusedVariables false in
set_option maxRecDepth 100000 in
set_option maxHeartbeats 4000000 in
theorem cuts_big_pbig (v : Value) (l : List Ar) (fr pg : Int) (mk : Bool) (w : World) (hr : ArRd w v l) (hwl : ∀ a ∈ l, a.Wf) (hlen : l.length ≤ 16) (hok : OkL l) (hrr : RightA fr pg) (ho16 : 16 < (cutA l fr pg).length) (hin : piecesA l fr (fr + pg) ≠ []) (hpr : 16 < (protA l fr pg mk).length) :
    Calls Try.prog 6 #[v, .int .i64 fr, .int .i64 pg, .bool mk] w fun e w' => e = .returned (.bool true) ∧ Below w.heap.size w w' := by
  have hli := Lib.hid (List_ref w v l hr hwl)
  have HOK := Lib.hid hok
  obtain ⟨av, cv, rfl, _, _⟩ := ArRd.fm hr
  have HR := Lib.hid hr
  have h40 : ¬ (16 : Int) < l.length := by omega
  clear hr hwl hok
  have hdr : decide (RightA fr pg) = true := decide_eq_true hrr
  have HRR := Lib.hid hrr
  have HIN := Lib.hid hin
  have HO16 := Lib.hid ho16
  have HCUT : Hid (cutA l fr pg = refOut l fr pg) := cutA_ref HOK.out (by obtain ⟨_, r2, _, _⟩ := hrr; omega)
  have HFOLD : Hid (putTo (refOut l fr pg) (piecesA l fr (fr + pg)) mk (piecesA l fr (fr + pg)).length = protA l fr pg mk) := by
    show putTo _ _ _ _ = _
    unfold putTo
    rw [List.take_length]
    exact fold_protect HOK.out (by obtain ⟨_, r2, _, _⟩ := hrr; omega) mk
  have HF : Hid (0 ≤ fr ∧ 1 ≤ pg ∧ fr + pg ≤ 4096) := by obtain ⟨r1, r2, r3, r4⟩ := hrr; exact ⟨r1, r2, by omega⟩
  have HLENS : Hid ((refOut l fr pg).length ≤ 32 ∧ (piecesA l fr (fr + pg)).length ≤ 16) := by
    have h1 := refOut_length l fr pg
    have h2 := piecesA_length l fr (fr + pg)
    exact ⟨by omega, by omega⟩
  have HPR := Lib.hid hpr
  clear hpr
  clear hrr hin ho16
  go_enter Try.func6, Try.ntmps6
  go_wp2_with fail
  refine hli.out.mono ?_
  rintro e w1 ⟨b, rfl, hb, b1⟩
  obtain rfl : b = true := hb.2 ((okTo_iff l).2 HOK.out)
  have B1 := Lib.hid b1
  clear hb b1 hli
  go_wp2_with fail
  refine (Cut_walk w1 _ l (HR.out.below B1.out) HOK.out.1 (by omega) fr pg).mono ?_
  rintro e w2 ⟨vm, xm, rfl, b2, _, hc1, hc2, hc3⟩
  have B2 := Lib.hid (B1.out.trans (b2.mono B1.out.size))
  obtain ⟨rfl, rfl⟩ := hc3 HRR.out HO16.out
  clear hc1 hc2 hc3
  clear b2
  go_wp2_with fail
  refine (Protect_walk w2 _ l (HR.out.below B2.out) HOK.out.1 (by omega) fr pg mk).mono ?_
  rintro e w3 ⟨vn, xn, rfl, b3, hd1, hd2, hd3, hd4⟩
  have B3 := Lib.hid (B2.out.trans (b3.mono B2.out.size))
  obtain ⟨rfl, rfl⟩ := hd4 HRR.out HIN.out HPR.out
  clear hd1 hd2 hd3 hd4 b3
  go_wp2_with fail
  refine (Right_ref w3 fr pg).mono ?_
  rintro e w3 ⟨rfl, rfl⟩
  rw [hdr]
  go_wp2_with fail
  refine (Cut_ref w3 _ l (HR.out.below B3.out) HOK.out.1 (by omega) fr pg HF.out).mono ?_
  rintro e w4 ⟨vo, vi, rfl, ht, b4⟩
  have B4 := Lib.hid b4
  obtain ⟨OUT, hOUT⟩ : ∃ OUT, OUT = refOut l fr pg := ⟨_, rfl⟩
  obtain ⟨IN, hINN⟩ : ∃ IN, IN = piecesA l fr (fr + pg) := ⟨_, rfl⟩
  rw [← hOUT, ← hINN] at ht HFOLD HLENS
  rw [← hINN] at HIN
  skip
  have HO := Lib.hid (show cutA l fr pg = OUT from HCUT.out.trans hOUT.symm)
  rw [HO.out] at HO16
  have HT := Lib.hid ht
  obtain ⟨ao, co, rfl, _, _⟩ := SlAt.form ht.a1
  obtain ⟨ai, ci, rfl, _, _⟩ := SlAt.form ht.a2
  clear ht b4 hOUT hINN
  have ho1 : (16 : Int) < OUT.length := by have := HO16.out; omega
  have ho2 : 16 < OUT.length := HO16.out
  have ho3 : decide ((16 : Int) < (OUT.length : Int)) = true := decide_eq_true ho1
  have B5 := B4
  have T5 := HT
  obtain ⟨w5, hw5⟩ : ∃ w5, w5 = w4 := ⟨_, rfl⟩
  rw [← hw5] at B5 T5 ⊢
  clear hw5
  have hn0 : 0 < IN.length := List.length_pos_iff.2 HIN.out
  obtain ⟨bi, offi, rfl⟩ := HT.out.a2.addr hn0
  obtain ⟨n, hn⟩ : ∃ n, n = IN.length := ⟨_, rfl⟩
  have HN := Lib.hid hn
  rw [← hn] at hn0 T5 HFOLD ⊢
  clear hn
  have hnz : (n == 0) = false := by have : n ≠ 0 := by omega
                                    simpa using this
  have hni : ¬ ((n : Nat) : Int) = 0 := by omega
  have hnn : ¬ n = 0 := by omega
  have hn16 : n ≤ 16 := by rw [HN.out]; exact HLENS.out.2
  have hnq : (((n : Nat) : Int) == 0) = false := by simpa using hnn
  go_wp2_with fail
  go_loopw [13, 15] (fun vo i wr => ∃ k : Nat, k ≤ n ∧ i = .int .i64 k ∧ Below w3.heap.size w3 wr ∧ ArAt wr (.slice (some ⟨bi, offi, none⟩) n ci) (markTo IN mk k) ∧ ArAt wr vo (putTo OUT IN mk k) ∧ ∀ b, vo.ownBlock = some b → w3.heap.size ≤ b ∧ b ≠ bi) (fun _ i _ => n - (intOf i).toNat)
  case atStart => exact ⟨0, by omega, rfl, B5.out, by simpa [markTo] using T5.out.a2, by simpa [putTo] using T5.out.a1, fun b hb => ⟨T5.out.b1 b hb, fun e => T5.out.n12 b hb (by rw [e]; rfl)⟩⟩
  case round =>
    obtain ⟨k, hk, rfl, hbr, hmr, hor, hno⟩ := hrel
    have HBR := Lib.hid hbr
    have HMR := Lib.hid hmr
    have HOR := Lib.hid hor
    have HNO := Lib.hid hno
    clear hbr hmr hor hno
    by_cases hlt : k < n
    · have hlt' : (k : Int) < n := by omega
      obtain ⟨x, hx⟩ : ∃ x, IN[k]? = some x := ⟨_, List.getElem?_eq_getElem (by rw [← HN.out]; exact hlt)⟩
      have HX := Lib.hid hx
      have hset := HMR.out.mark (markTo_get.trans hx) mk
      rw [markTo_set hx] at hset
      have HSET := Lib.hid hset
      have hfz := HMR.out.okSet (k := k) (by rw [markTo_len, ← HN.out]; exact hlt) 2
      obtain ⟨e0, e1, e2, e3, e4, e5⟩ := HMR.out.cell (markTo_get.trans hx)
      clear hset hx e0 e1 e3 e4 e5
      obtain ⟨aq, cq, rfl, _, _⟩ := SlAt.form HOR.out
      have BS : Hid (Below w3.heap.size w3 (wr.setCell ⟨bi, offi + k * 6 + 2, none⟩ (.bool mk))) := HBR.out.setCell (T5.out.b2 bi rfl) _
      have OS : Hid (ArAt (wr.setCell ⟨bi, offi + k * 6 + 2, none⟩ (.bool mk)) (.slice aq (putTo OUT IN mk k).length cq) (putTo OUT IN mk k)) := HOR.out.keep fun b hb => Below.heap_setCell wr _ _ b (fun e => (HNO.out b hb).2 e)
      obtain ⟨g0, g1, g2, g3, g4, g5⟩ := HSET.out.cell (markTo_next HX.out)
      obtain ⟨f, p, wt, kd, fi, o⟩ := x
      simp only [Ar.mark] at g0 g1 g2 g3 g4 g5
      go_wp2_with fail
      clear e2 hfz
      generalize wr.setCell _ _ = W at *
      clear g0 g1 g2 g3 g4 g5
      refine (Insert_ref W _ _ OS.out.rd (by have := putTo_len OUT IN mk k; have h2 := HLENS.out; omega) ⟨f, p, mk, kd, fi, o⟩).mono ?_
      rintro e w6 ⟨v6, rfl, a6, b6, o6⟩
      have HZ := Lib.hid (And.intro a6 (And.intro b6 o6))
      clear a6 b6 o6
      go_wp2_with fail
      go_roundw
      case rel =>
        obtain ⟨a6, b6, o6⟩ := HZ.out
        refine ⟨k + 1, by omega, by go_num, BS.out.trans (b6.mono BS.out.size), HSET.out.below b6, ?_, fun b hb => ⟨Nat.le_trans BS.out.size (o6 b hb), fun e => ?_⟩⟩
        · rw [putTo_next HX.out]
          exact a6
        · have h1 := o6 b hb
          have h2 := SlAt.lt HSET.out bi rfl
          omega
      case measure => simp [intOf]; omega
    · obtain rfl : k = n := by omega
      rw [HFOLD.out] at HOR
      obtain ⟨aq, cq, rfl, _, _⟩ := SlAt.form HOR.out
      have BW := Lib.hid (B3.out.trans (HBR.out.mono B3.out.size))
      obtain ⟨np, hnp⟩ : ∃ np, np = (protA l fr pg mk).length := ⟨_, rfl⟩
      have HPI : (16 : Int) < np := by have := HPR.out; omega
      have HPI2 : 16 < np := by have := HPR.out; omega
      rw [← hnp] at *
      go_wp2_with fail
      refine (ans_tail wr BW.out BW.out.size).mono ?_
      rintro e w6 ⟨rfl, b6⟩
      go_wp2_with fail
      go_ret
      exact ⟨by simp, b6⟩

set_option linter.unusedVariables false in
set_option maxRecDepth 100000 in
set_option maxHeartbeats 4000000 in
theorem cuts_big_psmall (v : Value) (l : List Ar) (fr pg : Int) (mk : Bool) (w : World) (hr : ArRd w v l) (hwl : ∀ a ∈ l, a.Wf) (hlen : l.length ≤ 16) (hok : OkL l) (hrr : RightA fr pg) (ho16 : 16 < (cutA l fr pg).length) (hin : piecesA l fr (fr + pg) ≠ []) (hpr : (protA l fr pg mk).length ≤ 16) :
    Calls Try.prog 6 #[v, .int .i64 fr, .int .i64 pg, .bool mk] w fun e w' => e = .returned (.bool true) ∧ Below w.heap.size w w' := by
  have hli := Lib.hid (List_ref w v l hr hwl)
  have HOK := Lib.hid hok
  obtain ⟨av, cv, rfl, _, _⟩ := ArRd.fm hr
  have HR := Lib.hid hr
  have h40 : ¬ (16 : Int) < l.length := by omega
  clear hr hwl hok
  have hdr : decide (RightA fr pg) = true := decide_eq_true hrr
  have HRR := Lib.hid hrr
  have HIN := Lib.hid hin
  have HO16 := Lib.hid ho16
  have HCUT : Hid (cutA l fr pg = refOut l fr pg) := cutA_ref HOK.out (by obtain ⟨_, r2, _, _⟩ := hrr; omega)
  have HFOLD : Hid (putTo (refOut l fr pg) (piecesA l fr (fr + pg)) mk (piecesA l fr (fr + pg)).length = protA l fr pg mk) := by
    show putTo _ _ _ _ = _
    unfold putTo
    rw [List.take_length]
    exact fold_protect HOK.out (by obtain ⟨_, r2, _, _⟩ := hrr; omega) mk
  have HF : Hid (0 ≤ fr ∧ 1 ≤ pg ∧ fr + pg ≤ 4096) := by obtain ⟨r1, r2, r3, r4⟩ := hrr; exact ⟨r1, r2, by omega⟩
  have HLENS : Hid ((refOut l fr pg).length ≤ 32 ∧ (piecesA l fr (fr + pg)).length ≤ 16) := by
    have h1 := refOut_length l fr pg
    have h2 := piecesA_length l fr (fr + pg)
    exact ⟨by omega, by omega⟩
  have HPR := Lib.hid hpr
  clear hpr
  clear hrr hin ho16
  go_enter Try.func6, Try.ntmps6
  go_wp2_with fail
  refine hli.out.mono ?_
  rintro e w1 ⟨b, rfl, hb, b1⟩
  obtain rfl : b = true := hb.2 ((okTo_iff l).2 HOK.out)
  have B1 := Lib.hid b1
  clear hb b1 hli
  go_wp2_with fail
  refine (Cut_walk w1 _ l (HR.out.below B1.out) HOK.out.1 (by omega) fr pg).mono ?_
  rintro e w2 ⟨vm, xm, rfl, b2, _, hc1, hc2, hc3⟩
  have B2 := Lib.hid (B1.out.trans (b2.mono B1.out.size))
  obtain ⟨rfl, rfl⟩ := hc3 HRR.out HO16.out
  clear hc1 hc2 hc3
  clear b2
  go_wp2_with fail
  refine (Protect_walk w2 _ l (HR.out.below B2.out) HOK.out.1 (by omega) fr pg mk).mono ?_
  rintro e w3 ⟨vn, xn, rfl, b3, hd1, hd2, hd3, hd4⟩
  have B3 := Lib.hid (B2.out.trans (b3.mono B2.out.size))
  obtain ⟨rfl, han⟩ := hd3 HRR.out HIN.out HPR.out
  have AN3 := Lib.hid han
  obtain ⟨an, cn, rfl, _, _⟩ := SlAt.form han
  clear han hd1 hd2 hd3 hd4 b3
  go_wp2_with fail
  refine (Right_ref w3 fr pg).mono ?_
  rintro e w3 ⟨rfl, rfl⟩
  rw [hdr]
  go_wp2_with fail
  refine (Cut_ref w3 _ l (HR.out.below B3.out) HOK.out.1 (by omega) fr pg HF.out).mono ?_
  rintro e w4 ⟨vo, vi, rfl, ht, b4⟩
  have B4 := Lib.hid b4
  obtain ⟨OUT, hOUT⟩ : ∃ OUT, OUT = refOut l fr pg := ⟨_, rfl⟩
  obtain ⟨IN, hINN⟩ : ∃ IN, IN = piecesA l fr (fr + pg) := ⟨_, rfl⟩
  rw [← hOUT, ← hINN] at ht HFOLD HLENS
  rw [← hINN] at HIN
  skip
  have HO := Lib.hid (show cutA l fr pg = OUT from HCUT.out.trans hOUT.symm)
  rw [HO.out] at HO16
  have HT := Lib.hid ht
  obtain ⟨ao, co, rfl, _, _⟩ := SlAt.form ht.a1
  obtain ⟨ai, ci, rfl, _, _⟩ := SlAt.form ht.a2
  clear ht b4 hOUT hINN
  have ho1 : (16 : Int) < OUT.length := by have := HO16.out; omega
  have ho2 : 16 < OUT.length := HO16.out
  have ho3 : decide ((16 : Int) < (OUT.length : Int)) = true := decide_eq_true ho1
  have B5 := B4
  have T5 := HT
  obtain ⟨w5, hw5⟩ : ∃ w5, w5 = w4 := ⟨_, rfl⟩
  rw [← hw5] at B5 T5 ⊢
  clear hw5
  have hn0 : 0 < IN.length := List.length_pos_iff.2 HIN.out
  obtain ⟨bi, offi, rfl⟩ := HT.out.a2.addr hn0
  obtain ⟨n, hn⟩ : ∃ n, n = IN.length := ⟨_, rfl⟩
  have HN := Lib.hid hn
  rw [← hn] at hn0 T5 HFOLD ⊢
  clear hn
  have hnz : (n == 0) = false := by have : n ≠ 0 := by omega
                                    simpa using this
  have hni : ¬ ((n : Nat) : Int) = 0 := by omega
  have hnn : ¬ n = 0 := by omega
  have hn16 : n ≤ 16 := by rw [HN.out]; exact HLENS.out.2
  have hnq : (((n : Nat) : Int) == 0) = false := by simpa using hnn
  go_wp2_with fail
  go_loopw [13, 15] (fun vo i wr => ∃ k : Nat, k ≤ n ∧ i = .int .i64 k ∧ Below w3.heap.size w3 wr ∧ ArAt wr (.slice (some ⟨bi, offi, none⟩) n ci) (markTo IN mk k) ∧ ArAt wr vo (putTo OUT IN mk k) ∧ ∀ b, vo.ownBlock = some b → w3.heap.size ≤ b ∧ b ≠ bi) (fun _ i _ => n - (intOf i).toNat)
  case atStart => exact ⟨0, by omega, rfl, B5.out, by simpa [markTo] using T5.out.a2, by simpa [putTo] using T5.out.a1, fun b hb => ⟨T5.out.b1 b hb, fun e => T5.out.n12 b hb (by rw [e]; rfl)⟩⟩
  case round =>
    obtain ⟨k, hk, rfl, hbr, hmr, hor, hno⟩ := hrel
    have HBR := Lib.hid hbr
    have HMR := Lib.hid hmr
    have HOR := Lib.hid hor
    have HNO := Lib.hid hno
    clear hbr hmr hor hno
    by_cases hlt : k < n
    · have hlt' : (k : Int) < n := by omega
      obtain ⟨x, hx⟩ : ∃ x, IN[k]? = some x := ⟨_, List.getElem?_eq_getElem (by rw [← HN.out]; exact hlt)⟩
      have HX := Lib.hid hx
      have hset := HMR.out.mark (markTo_get.trans hx) mk
      rw [markTo_set hx] at hset
      have HSET := Lib.hid hset
      have hfz := HMR.out.okSet (k := k) (by rw [markTo_len, ← HN.out]; exact hlt) 2
      obtain ⟨e0, e1, e2, e3, e4, e5⟩ := HMR.out.cell (markTo_get.trans hx)
      clear hset hx e0 e1 e3 e4 e5
      obtain ⟨aq, cq, rfl, _, _⟩ := SlAt.form HOR.out
      have BS : Hid (Below w3.heap.size w3 (wr.setCell ⟨bi, offi + k * 6 + 2, none⟩ (.bool mk))) := HBR.out.setCell (T5.out.b2 bi rfl) _
      have OS : Hid (ArAt (wr.setCell ⟨bi, offi + k * 6 + 2, none⟩ (.bool mk)) (.slice aq (putTo OUT IN mk k).length cq) (putTo OUT IN mk k)) := HOR.out.keep fun b hb => Below.heap_setCell wr _ _ b (fun e => (HNO.out b hb).2 e)
      obtain ⟨g0, g1, g2, g3, g4, g5⟩ := HSET.out.cell (markTo_next HX.out)
      obtain ⟨f, p, wt, kd, fi, o⟩ := x
      simp only [Ar.mark] at g0 g1 g2 g3 g4 g5
      go_wp2_with fail
      clear e2 hfz
      generalize wr.setCell _ _ = W at *
      clear g0 g1 g2 g3 g4 g5
      refine (Insert_ref W _ _ OS.out.rd (by have := putTo_len OUT IN mk k; have h2 := HLENS.out; omega) ⟨f, p, mk, kd, fi, o⟩).mono ?_
      rintro e w6 ⟨v6, rfl, a6, b6, o6⟩
      have HZ := Lib.hid (And.intro a6 (And.intro b6 o6))
      clear a6 b6 o6
      go_wp2_with fail
      go_roundw
      case rel =>
        obtain ⟨a6, b6, o6⟩ := HZ.out
        refine ⟨k + 1, by omega, by go_num, BS.out.trans (b6.mono BS.out.size), HSET.out.below b6, ?_, fun b hb => ⟨Nat.le_trans BS.out.size (o6 b hb), fun e => ?_⟩⟩
        · rw [putTo_next HX.out]
          exact a6
        · have h1 := o6 b hb
          have h2 := SlAt.lt HSET.out bi rfl
          omega
      case measure => simp [intOf]; omega
    · obtain rfl : k = n := by omega
      rw [HFOLD.out] at HOR
      obtain ⟨aq, cq, rfl, _, _⟩ := SlAt.form HOR.out
      have BW := Lib.hid (B3.out.trans (HBR.out.mono B3.out.size))
      have HPI : ¬ (16 : Int) < (protA l fr pg mk).length := by have := HPR.out; omega
      have HPI2 : ¬ 16 < (protA l fr pg mk).length := by have := HPR.out; omega
      go_wp2_with fail
      refine (answersA wr).mono ?_
      rintro e w6 ⟨rfl, b6⟩
      have B6 := Lib.hid (BW.out.trans (b6.mono BW.out.size))
      have A6 := Lib.hid (HOR.out.below b6)
      have AN6 := Lib.hid ((AN3.out.below HBR.out).below b6)
      clear b6
      go_wp2_with fail
      refine (Areas_ref w6 _ _ _ _ AN6.out.rd A6.out.rd).mono ?_
      rintro e w7 ⟨rfl, b7⟩
      rw [decide_eq_true rfl]
      have B7 := Lib.hid (B6.out.trans (b7.mono B6.out.size))
      clear b7
      go_wp2_with fail
      go_ret
      exact ⟨by simp, B7.out⟩

theorem cuts_row (v : Value) (l : List Ar) (fr pg : Int) (mk : Bool) (w : World) (hr : SlRd w 6 v l.length (l.flatMap Ar.cells)) (hwl : ∀ a ∈ l, a.Wf) (_ : (Lit.int .i64 fr).wf = true) (_ : (Lit.int .i64 pg).wf = true) :
    Calls Try.prog 6 #[v, .int .i64 fr, .int .i64 pg, .bool mk] w fun e w' => e = .returned (.bool true) ∧ Below w.heap.size w w' := by
  by_cases hlen : l.length ≤ 16
  · by_cases hok : OkL l
    · by_cases hrr : RightA fr pg
      · by_cases ho : (cutA l fr pg).length ≤ 16
        · by_cases hin : piecesA l fr (fr + pg) = []
          · exact cuts_small_none v l fr pg mk w hr hwl hlen hok hrr ho hin
          · by_cases h16 : (protA l fr pg mk).length ≤ 16
            · exact cuts_small_psmall v l fr pg mk w hr hwl hlen hok hrr ho hin h16
            · exact cuts_small_pbig v l fr pg mk w hr hwl hlen hok hrr ho hin (by omega)
        · by_cases hin : piecesA l fr (fr + pg) = []
          · exact cuts_big_none v l fr pg mk w hr hwl hlen hok hrr (by omega) hin
          · by_cases h16 : (protA l fr pg mk).length ≤ 16
            · exact cuts_big_psmall v l fr pg mk w hr hwl hlen hok hrr (by omega) hin h16
            · exact cuts_big_pbig v l fr pg mk w hr hwl hlen hok hrr (by omega) hin (by omega)
      · exact cuts_right v l fr pg mk w hr hwl hlen hok hrr
    · exact cuts_bad v l fr pg mk w hr hwl hlen hok
  · exact cuts_long v l fr pg mk w hr (by omega)
end Go.Proofs.Ytcghenehcpogpaa
