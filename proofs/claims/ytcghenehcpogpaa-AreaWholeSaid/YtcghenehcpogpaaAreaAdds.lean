/- AreaAdds: the law's walk. -/
import Derived.Test.YtcghenehcpogpaaAreaAns
import Derived.Test.YtcghenehcpogpaaAreaProt
import Derived.Test.YtcghenehcpogpaaAreaRefEq
import Derived.Test.YtcghenehcpogpaaOpen
namespace Go.Proofs.Ytcghenehcpogpaa
open Go Go.RowKit

theorem decAr (cs : List Value) (h : Open.AllOk [some .i64, some .i64, none, some .i64, some .i64, some .i64] cs) : ∃ x : Ar, cs = x.cells ∧ x.Wf := by
  have hlen := h.length
  simp only [List.length_cons, List.length_nil] at hlen
  obtain ⟨c0, c1, c2, c3, c4, c5, rfl⟩ : ∃ c0 c1 c2 c3 c4 c5, cs = [c0, c1, c2, c3, c4, c5] := by
    rcases cs with _ | ⟨c0, _ | ⟨c1, _ | ⟨c2, _ | ⟨c3, _ | ⟨c4, _ | ⟨c5, _ | ⟨c6, cs⟩⟩⟩⟩⟩⟩⟩ <;> simp at hlen
    exact ⟨_, _, _, _, _, _, rfl⟩
  obtain ⟨⟨y0, rfl, u0⟩, ⟨y1, rfl, u1⟩, ⟨y2, rfl⟩, ⟨y3, rfl, u3⟩, ⟨y4, rfl, u4⟩, ⟨y5, rfl, u5⟩, _⟩ := h
  exact ⟨⟨y0, y1, y2, y3, y4, y5⟩, rfl, u0, u1, u3, u4, u5⟩

/-- The law's answers, as the only thing that is left. -/
theorem ans_tail {B : Nat} {w : World} (W : World) (h : Below B w W) (hB : B ≤ W.heap.size) : Calls Try.prog 8 #[] W fun e w' => e = .returned (.bool true) ∧ Below B w w' :=
  (answersA W).mono fun _ _ ⟨h1, h2⟩ => ⟨h1, h.trans (h2.mono hB)⟩
set_option maxRecDepth 100000 in
set_option maxHeartbeats 4000000 in
theorem adds_arg_hi (v : Value) (l : List Ar) (w : World) (hr : ArRd w v l) (hwl : ∀ a ∈ l, a.Wf) (a : Ar) (hw : a.Wf) (hlen : l.length ≤ 40) (hok : OkL l) (hl16 : 16 ≤ l.length) (hso : ¬ a.Sound) :
    Calls Try.prog 4 #[v, a.enc] w fun e w' => e = .returned (.bool true) ∧ Below w.heap.size w w' := by
  have hs := Lib.hid (fun W => Sound_ref W a hw)
  have hli := Lib.hid (List_ref w v l hr hwl)
  have HOK := Lib.hid hok
  have hadd := Lib.hid (fun W (h : ArRd W v l) => Add_walk W v l h a hw (by omega))
  have HWL := Lib.hid hwl
  rw [decide_eq_false hso] at hs
  have HSO := Lib.hid hso
  obtain ⟨av, cv, rfl, _, _⟩ := ArRd.fm hr
  have HR := Lib.hid hr
  clear hr hwl hw hok
  obtain ⟨i0, hi0, hz0, hs0, hb0⟩ := infoArea
  obtain ⟨f, p, wt, k, fi, o⟩ := a
  unfold Ar.enc at hs hadd ⊢
  simp only at hs hadd ⊢
  have h40 : ¬ (40 : Int) < l.length := by omega
  have h16 : (16 : Int) ≤ l.length := by omega
  go_enter Try.func4, Try.ntmps4
  go_wp2_with fail
  have B0 : Hid (Below w.heap.size w (w.alloc (.cells #[.int .i64 f, .int .i64 p, .bool wt, .int .i64 k, .int .i64 fi, .int .i64 o] 23))) := (Below.refl _ _).alloc (Nat.le_refl _) _
  have K0 : Hid ((w.alloc (.cells #[.int .i64 f, .int .i64 p, .bool wt, .int .i64 k, .int .i64 fi, .int .i64 o] 23)).heap[w.heap.size]? = some (.cells #[.int .i64 f, .int .i64 p, .bool wt, .int .i64 k, .int .i64 fi, .int .i64 o] 23 (0, 0))) := heap_alloc_new w _
  have S0 : Hid ((w.alloc (.cells #[.int .i64 f, .int .i64 p, .bool wt, .int .i64 k, .int .i64 fi, .int .i64 o] 23)).heap.size = w.heap.size + 1) := by show _ = _; simp
  generalize w.alloc _ = W0 at *
  refine (List_ref W0 _ l (HR.out.below B0.out) HWL.out).mono ?_
  rintro e w1 ⟨b, rfl, hb, b1⟩
  obtain rfl : b = true := hb.2 ((okTo_iff l).2 HOK.out)
  have B1 := Lib.hid (B0.out.trans (b1.mono B0.out.size))
  have K1 := Lib.hid ((b1.block w.heap.size (by rw [S0.out]; omega)).trans K0.out)
  clear hb b1
  go_wp2_with (at_builtin; refine wpList_append_rd rfl _ _ 26 rfl i0 _ 48 Try.underlying26 hi0 hz0 hs0 hb0 rfl _ 0 [] rfl (SlAt.lit0 w1 23 6) _ _ _ rfl (SlRd.below (SlRd.below HR.out B1.out) ((Below.refl _ _).alloc (Nat.le_refl _) _)) (ar_one _) ?d1 ?d2 ?d3)
  case d1 => simp only [maxLen]; omega
  case d2 => omega
  intro v2 w2 hs2 hg2 ho2
  have B2 : Hid (Below w.heap.size w w2) := (B1.out.alloc B1.out.size _).grown hg2 (by have := B1.out.size; simp; omega) (by intro b hb; simp [Value.ownBlock] at hb; have := B1.out.size; omega)
  have K2 : Hid (w2.heap[w.heap.size]? = _) := ((hg2.block w.heap.size (by have := (Array.getElem?_eq_some_iff.1 K1.out).1; simp; omega) (by simp [Value.ownBlock]; have := (Array.getElem?_eq_some_iff.1 K1.out).1; omega)).trans (Below.heap_alloc w1 _ w.heap.size (Array.getElem?_eq_some_iff.1 K1.out).1)).trans K1.out
  have L2 : Hid (ArRd w2 v2 l) := by
    show ArRd w2 v2 l
    have : SlAt w2 23 6 v2 l.length (ar l) := by simpa using hs2
    exact SlAt.rd this
  clear hs2 hg2 ho2
  obtain ⟨e0, e1, e2, e3, e4, e5⟩ := area_cells K2.out
  go_wp2_with fail
  clear e0 e1 e2 e3 e4 e5
  refine (hadd.out w2 (HR.out.below B2.out)).mono ?_
  rintro e w3 ⟨vm, xm, rfl, b3, hown, hp⟩
  have B3 := Lib.hid (B2.out.trans (b3.mono B2.out.size))
  have K3 := Lib.hid ((b3.block w.heap.size (Array.getElem?_eq_some_iff.1 K2.out).1).trans K2.out)
  have L3 := Lib.hid (L2.out.below b3)
  obtain ⟨rfl, rfl⟩ := hp.arg HSO.out
  clear hp
  clear b3 hown
  obtain ⟨aq, cq, hq, _, _⟩ := ArRd.fm L3.out
  subst hq
  obtain ⟨e0, e1, e2, e3, e4, e5⟩ := area_cells K3.out
  go_wp2_with fail
  refine (hs.out w3).mono ?_
  rintro e w4 ⟨rfl, b4⟩
  have B4 := Lib.hid (B3.out.trans (b4.mono B3.out.size))
  have K4 := Lib.hid ((b4.block w.heap.size (Array.getElem?_eq_some_iff.1 K3.out).1).trans K3.out)
  have L4 := Lib.hid (L3.out.below b4)
  clear b4 e0 e1 e2 e3 e4 e5
  go_wp2_with fail
  refine (Areas_ref w4 _ _ l l (HR.out.below B4.out) L4.out).mono ?_
  rintro e w6 ⟨rfl, b6⟩
  rw [decide_eq_true rfl]
  have B6 := Lib.hid (B4.out.trans (b6.mono B4.out.size))
  have M6 := Lib.hid b6
  clear b6
  go_wp2_with fail
  refine (ans_tail w6 B6.out B6.out.size).mono ?_
  rintro e w7 ⟨rfl, b7⟩
  have B7 := Lib.hid b7
  clear b7
  go_wp2_with fail
  go_ret
  exact ⟨by simp, B7.out⟩
set_option maxRecDepth 100000 in
set_option maxHeartbeats 4000000 in
theorem adds_arg_lo (v : Value) (l : List Ar) (w : World) (hr : ArRd w v l) (hwl : ∀ a ∈ l, a.Wf) (a : Ar) (hw : a.Wf) (hlen : l.length ≤ 40) (hok : OkL l) (hl16 : l.length < 16) (hso : ¬ a.Sound) :
    Calls Try.prog 4 #[v, a.enc] w fun e w' => e = .returned (.bool true) ∧ Below w.heap.size w w' := by
  have hs := Lib.hid (fun W => Sound_ref W a hw)
  have hli := Lib.hid (List_ref w v l hr hwl)
  have HOK := Lib.hid hok
  have hadd := Lib.hid (fun W (h : ArRd W v l) => Add_walk W v l h a hw (by omega))
  have HWL := Lib.hid hwl
  rw [decide_eq_false hso] at hs
  have HSO := Lib.hid hso
  obtain ⟨av, cv, rfl, _, _⟩ := ArRd.fm hr
  have HR := Lib.hid hr
  clear hr hwl hw hok
  obtain ⟨i0, hi0, hz0, hs0, hb0⟩ := infoArea
  obtain ⟨f, p, wt, k, fi, o⟩ := a
  unfold Ar.enc at hs hadd ⊢
  simp only at hs hadd ⊢
  have h40 : ¬ (40 : Int) < l.length := by omega
  have h16 : ¬ (16 : Int) ≤ l.length := by omega
  go_enter Try.func4, Try.ntmps4
  go_wp2_with fail
  have B0 : Hid (Below w.heap.size w (w.alloc (.cells #[.int .i64 f, .int .i64 p, .bool wt, .int .i64 k, .int .i64 fi, .int .i64 o] 23))) := (Below.refl _ _).alloc (Nat.le_refl _) _
  have K0 : Hid ((w.alloc (.cells #[.int .i64 f, .int .i64 p, .bool wt, .int .i64 k, .int .i64 fi, .int .i64 o] 23)).heap[w.heap.size]? = some (.cells #[.int .i64 f, .int .i64 p, .bool wt, .int .i64 k, .int .i64 fi, .int .i64 o] 23 (0, 0))) := heap_alloc_new w _
  have S0 : Hid ((w.alloc (.cells #[.int .i64 f, .int .i64 p, .bool wt, .int .i64 k, .int .i64 fi, .int .i64 o] 23)).heap.size = w.heap.size + 1) := by show _ = _; simp
  generalize w.alloc _ = W0 at *
  refine (List_ref W0 _ l (HR.out.below B0.out) HWL.out).mono ?_
  rintro e w1 ⟨b, rfl, hb, b1⟩
  obtain rfl : b = true := hb.2 ((okTo_iff l).2 HOK.out)
  have B1 := Lib.hid (B0.out.trans (b1.mono B0.out.size))
  have K1 := Lib.hid ((b1.block w.heap.size (by rw [S0.out]; omega)).trans K0.out)
  clear hb b1
  go_wp2_with (at_builtin; refine wpList_append_rd rfl _ _ 26 rfl i0 _ 48 Try.underlying26 hi0 hz0 hs0 hb0 rfl _ 0 [] rfl (SlAt.lit0 w1 23 6) _ _ _ rfl (SlRd.below (SlRd.below HR.out B1.out) ((Below.refl _ _).alloc (Nat.le_refl _) _)) (ar_one _) ?d1 ?d2 ?d3)
  case d1 => simp only [maxLen]; omega
  case d2 => omega
  intro v2 w2 hs2 hg2 ho2
  have B2 : Hid (Below w.heap.size w w2) := (B1.out.alloc B1.out.size _).grown hg2 (by have := B1.out.size; simp; omega) (by intro b hb; simp [Value.ownBlock] at hb; have := B1.out.size; omega)
  have K2 : Hid (w2.heap[w.heap.size]? = _) := ((hg2.block w.heap.size (by have := (Array.getElem?_eq_some_iff.1 K1.out).1; simp; omega) (by simp [Value.ownBlock]; have := (Array.getElem?_eq_some_iff.1 K1.out).1; omega)).trans (Below.heap_alloc w1 _ w.heap.size (Array.getElem?_eq_some_iff.1 K1.out).1)).trans K1.out
  have L2 : Hid (ArRd w2 v2 l) := by
    show ArRd w2 v2 l
    have : SlAt w2 23 6 v2 l.length (ar l) := by simpa using hs2
    exact SlAt.rd this
  clear hs2 hg2 ho2
  obtain ⟨e0, e1, e2, e3, e4, e5⟩ := area_cells K2.out
  go_wp2_with fail
  clear e0 e1 e2 e3 e4 e5
  refine (hadd.out w2 (HR.out.below B2.out)).mono ?_
  rintro e w3 ⟨vm, xm, rfl, b3, hown, hp⟩
  have B3 := Lib.hid (B2.out.trans (b3.mono B2.out.size))
  have K3 := Lib.hid ((b3.block w.heap.size (Array.getElem?_eq_some_iff.1 K2.out).1).trans K2.out)
  have L3 := Lib.hid (L2.out.below b3)
  obtain ⟨rfl, rfl⟩ := hp.arg HSO.out
  clear hp
  clear b3 hown
  obtain ⟨aq, cq, hq, _, _⟩ := ArRd.fm L3.out
  subst hq
  obtain ⟨e0, e1, e2, e3, e4, e5⟩ := area_cells K3.out
  go_wp2_with fail
  refine (hs.out w3).mono ?_
  rintro e w4 ⟨rfl, b4⟩
  have B4 := Lib.hid (B3.out.trans (b4.mono B3.out.size))
  have K4 := Lib.hid ((b4.block w.heap.size (Array.getElem?_eq_some_iff.1 K3.out).1).trans K3.out)
  have L4 := Lib.hid (L3.out.below b4)
  clear b4 e0 e1 e2 e3 e4 e5
  go_wp2_with fail
  refine (Areas_ref w4 _ _ l l (HR.out.below B4.out) L4.out).mono ?_
  rintro e w6 ⟨rfl, b6⟩
  rw [decide_eq_true rfl]
  have B6 := Lib.hid (B4.out.trans (b6.mono B4.out.size))
  have M6 := Lib.hid b6
  clear b6
  go_wp2_with fail
  refine (ans_tail w6 B6.out B6.out.size).mono ?_
  rintro e w7 ⟨rfl, b7⟩
  have B7 := Lib.hid b7
  clear b7
  go_wp2_with fail
  go_ret
  exact ⟨by simp, B7.out⟩
set_option maxRecDepth 100000 in
set_option maxHeartbeats 4000000 in
theorem adds_there_hi (v : Value) (l : List Ar) (w : World) (hr : ArRd w v l) (hwl : ∀ a ∈ l, a.Wf) (a : Ar) (hw : a.Wf) (hlen : l.length ≤ 40) (hok : OkL l) (hl16 : 16 ≤ l.length) (hso : a.Sound) (hm : anyA a l = true) :
    Calls Try.prog 4 #[v, a.enc] w fun e w' => e = .returned (.bool true) ∧ Below w.heap.size w w' := by
  have hs := Lib.hid (fun W => Sound_ref W a hw)
  have hli := Lib.hid (List_ref w v l hr hwl)
  have HOK := Lib.hid hok
  have hadd := Lib.hid (fun W (h : ArRd W v l) => Add_walk W v l h a hw (by omega))
  have HWL := Lib.hid hwl
  rw [decide_eq_true hso] at hs
  have HSO := Lib.hid hso
  have HM := Lib.hid hm
  have HF : Hid (0 ≤ a.from_ ∧ 1 ≤ a.pages ∧ a.from_ + a.pages ≤ 4096) := by obtain ⟨_, _, s3, s4, s5, s6, _⟩ := hso; exact ⟨s3, s4, by omega⟩
  have hpn : (0 : Int) < (piecesA l a.from_ (a.from_ + a.pages)).length := by
    have := List.length_pos_iff.2 ((anyA_iff hok.1 hso).1 hm)
    omega
  obtain ⟨av, cv, rfl, _, _⟩ := ArRd.fm hr
  have HR := Lib.hid hr
  clear hr hwl hw hok
  obtain ⟨i0, hi0, hz0, hs0, hb0⟩ := infoArea
  obtain ⟨f, p, wt, k, fi, o⟩ := a
  unfold Ar.enc at hs hadd ⊢
  simp only at hs hadd ⊢
  have h40 : ¬ (40 : Int) < l.length := by omega
  simp only at HF hpn
  obtain ⟨PA, hPA⟩ : ∃ PA, PA = piecesA l f (f + p) := ⟨_, rfl⟩
  rw [← hPA] at hpn
  have h16 : (16 : Int) ≤ l.length := by omega
  go_enter Try.func4, Try.ntmps4
  go_wp2_with fail
  have B0 : Hid (Below w.heap.size w (w.alloc (.cells #[.int .i64 f, .int .i64 p, .bool wt, .int .i64 k, .int .i64 fi, .int .i64 o] 23))) := (Below.refl _ _).alloc (Nat.le_refl _) _
  have K0 : Hid ((w.alloc (.cells #[.int .i64 f, .int .i64 p, .bool wt, .int .i64 k, .int .i64 fi, .int .i64 o] 23)).heap[w.heap.size]? = some (.cells #[.int .i64 f, .int .i64 p, .bool wt, .int .i64 k, .int .i64 fi, .int .i64 o] 23 (0, 0))) := heap_alloc_new w _
  have S0 : Hid ((w.alloc (.cells #[.int .i64 f, .int .i64 p, .bool wt, .int .i64 k, .int .i64 fi, .int .i64 o] 23)).heap.size = w.heap.size + 1) := by show _ = _; simp
  generalize w.alloc _ = W0 at *
  refine (List_ref W0 _ l (HR.out.below B0.out) HWL.out).mono ?_
  rintro e w1 ⟨b, rfl, hb, b1⟩
  obtain rfl : b = true := hb.2 ((okTo_iff l).2 HOK.out)
  have B1 := Lib.hid (B0.out.trans (b1.mono B0.out.size))
  have K1 := Lib.hid ((b1.block w.heap.size (by rw [S0.out]; omega)).trans K0.out)
  clear hb b1
  go_wp2_with (at_builtin; refine wpList_append_rd rfl _ _ 26 rfl i0 _ 48 Try.underlying26 hi0 hz0 hs0 hb0 rfl _ 0 [] rfl (SlAt.lit0 w1 23 6) _ _ _ rfl (SlRd.below (SlRd.below HR.out B1.out) ((Below.refl _ _).alloc (Nat.le_refl _) _)) (ar_one _) ?d1 ?d2 ?d3)
  case d1 => simp only [maxLen]; omega
  case d2 => omega
  intro v2 w2 hs2 hg2 ho2
  have B2 : Hid (Below w.heap.size w w2) := (B1.out.alloc B1.out.size _).grown hg2 (by have := B1.out.size; simp; omega) (by intro b hb; simp [Value.ownBlock] at hb; have := B1.out.size; omega)
  have K2 : Hid (w2.heap[w.heap.size]? = _) := ((hg2.block w.heap.size (by have := (Array.getElem?_eq_some_iff.1 K1.out).1; simp; omega) (by simp [Value.ownBlock]; have := (Array.getElem?_eq_some_iff.1 K1.out).1; omega)).trans (Below.heap_alloc w1 _ w.heap.size (Array.getElem?_eq_some_iff.1 K1.out).1)).trans K1.out
  have L2 : Hid (ArRd w2 v2 l) := by
    show ArRd w2 v2 l
    have : SlAt w2 23 6 v2 l.length (ar l) := by simpa using hs2
    exact SlAt.rd this
  clear hs2 hg2 ho2
  obtain ⟨e0, e1, e2, e3, e4, e5⟩ := area_cells K2.out
  go_wp2_with fail
  clear e0 e1 e2 e3 e4 e5
  refine (hadd.out w2 (HR.out.below B2.out)).mono ?_
  rintro e w3 ⟨vm, xm, rfl, b3, hown, hp⟩
  have B3 := Lib.hid (B2.out.trans (b3.mono B2.out.size))
  have K3 := Lib.hid ((b3.block w.heap.size (Array.getElem?_eq_some_iff.1 K2.out).1).trans K2.out)
  have L3 := Lib.hid (L2.out.below b3)
  obtain ⟨rfl, rfl⟩ := hp.there HSO.out HM.out
  clear hp
  clear b3 hown
  obtain ⟨aq, cq, hq, _, _⟩ := ArRd.fm L3.out
  subst hq
  obtain ⟨e0, e1, e2, e3, e4, e5⟩ := area_cells K3.out
  go_wp2_with fail
  refine (hs.out w3).mono ?_
  rintro e w4 ⟨rfl, b4⟩
  have B4 := Lib.hid (B3.out.trans (b4.mono B3.out.size))
  have K4 := Lib.hid ((b4.block w.heap.size (Array.getElem?_eq_some_iff.1 K3.out).1).trans K3.out)
  have L4 := Lib.hid (L3.out.below b4)
  clear b4 e0 e1 e2 e3 e4 e5
  obtain ⟨e0, e1, e2, e3, e4, e5⟩ := area_cells K4.out
  go_wp2_with fail
  refine (Cut_ref w4 _ l (HR.out.below B4.out) HOK.out.1 (by omega) f p HF.out).mono ?_
  rintro e w5 ⟨vo, vi, rfl, ht, b5⟩
  have B5 := Lib.hid (B4.out.trans (b5.mono B4.out.size))
  have K5 := Lib.hid ((b5.block w.heap.size (Array.getElem?_eq_some_iff.1 K4.out).1).trans K4.out)
  have L5 := Lib.hid (L4.out.below b5)
  have M5 := Lib.hid (b5)
  rw [← hPA] at ht
  obtain ⟨ao, co, hvo, _, _⟩ := SlAt.form ht.a1
  obtain ⟨ai, ci, hvi, _, _⟩ := SlAt.form ht.a2
  subst hvo hvi
  clear ht b5 e0 e1 e2 e3 e4 e5
  generalize PA.length = m at *
  have hpm : 0 < m := by omega
  go_wp2_with fail
  refine (Areas_ref w5 _ _ l l (HR.out.below B5.out) L5.out).mono ?_
  rintro e w6 ⟨rfl, b6⟩
  rw [decide_eq_true rfl]
  have B6 := Lib.hid (B5.out.trans (b6.mono B5.out.size))
  have M6 := Lib.hid b6
  clear b6
  go_wp2_with fail
  refine (ans_tail w6 B6.out B6.out.size).mono ?_
  rintro e w7 ⟨rfl, b7⟩
  have B7 := Lib.hid b7
  clear b7
  go_wp2_with fail
  go_ret
  exact ⟨by simp, B7.out⟩
set_option maxRecDepth 100000 in
set_option maxHeartbeats 4000000 in
theorem adds_there_lo (v : Value) (l : List Ar) (w : World) (hr : ArRd w v l) (hwl : ∀ a ∈ l, a.Wf) (a : Ar) (hw : a.Wf) (hlen : l.length ≤ 40) (hok : OkL l) (hl16 : l.length < 16) (hso : a.Sound) (hm : anyA a l = true) :
    Calls Try.prog 4 #[v, a.enc] w fun e w' => e = .returned (.bool true) ∧ Below w.heap.size w w' := by
  have hs := Lib.hid (fun W => Sound_ref W a hw)
  have hli := Lib.hid (List_ref w v l hr hwl)
  have HOK := Lib.hid hok
  have hadd := Lib.hid (fun W (h : ArRd W v l) => Add_walk W v l h a hw (by omega))
  have HWL := Lib.hid hwl
  rw [decide_eq_true hso] at hs
  have HSO := Lib.hid hso
  have HM := Lib.hid hm
  have HF : Hid (0 ≤ a.from_ ∧ 1 ≤ a.pages ∧ a.from_ + a.pages ≤ 4096) := by obtain ⟨_, _, s3, s4, s5, s6, _⟩ := hso; exact ⟨s3, s4, by omega⟩
  have hpn : (0 : Int) < (piecesA l a.from_ (a.from_ + a.pages)).length := by
    have := List.length_pos_iff.2 ((anyA_iff hok.1 hso).1 hm)
    omega
  obtain ⟨av, cv, rfl, _, _⟩ := ArRd.fm hr
  have HR := Lib.hid hr
  clear hr hwl hw hok
  obtain ⟨i0, hi0, hz0, hs0, hb0⟩ := infoArea
  obtain ⟨f, p, wt, k, fi, o⟩ := a
  unfold Ar.enc at hs hadd ⊢
  simp only at hs hadd ⊢
  have h40 : ¬ (40 : Int) < l.length := by omega
  simp only at HF hpn
  obtain ⟨PA, hPA⟩ : ∃ PA, PA = piecesA l f (f + p) := ⟨_, rfl⟩
  rw [← hPA] at hpn
  have h16 : ¬ (16 : Int) ≤ l.length := by omega
  go_enter Try.func4, Try.ntmps4
  go_wp2_with fail
  have B0 : Hid (Below w.heap.size w (w.alloc (.cells #[.int .i64 f, .int .i64 p, .bool wt, .int .i64 k, .int .i64 fi, .int .i64 o] 23))) := (Below.refl _ _).alloc (Nat.le_refl _) _
  have K0 : Hid ((w.alloc (.cells #[.int .i64 f, .int .i64 p, .bool wt, .int .i64 k, .int .i64 fi, .int .i64 o] 23)).heap[w.heap.size]? = some (.cells #[.int .i64 f, .int .i64 p, .bool wt, .int .i64 k, .int .i64 fi, .int .i64 o] 23 (0, 0))) := heap_alloc_new w _
  have S0 : Hid ((w.alloc (.cells #[.int .i64 f, .int .i64 p, .bool wt, .int .i64 k, .int .i64 fi, .int .i64 o] 23)).heap.size = w.heap.size + 1) := by show _ = _; simp
  generalize w.alloc _ = W0 at *
  refine (List_ref W0 _ l (HR.out.below B0.out) HWL.out).mono ?_
  rintro e w1 ⟨b, rfl, hb, b1⟩
  obtain rfl : b = true := hb.2 ((okTo_iff l).2 HOK.out)
  have B1 := Lib.hid (B0.out.trans (b1.mono B0.out.size))
  have K1 := Lib.hid ((b1.block w.heap.size (by rw [S0.out]; omega)).trans K0.out)
  clear hb b1
  go_wp2_with (at_builtin; refine wpList_append_rd rfl _ _ 26 rfl i0 _ 48 Try.underlying26 hi0 hz0 hs0 hb0 rfl _ 0 [] rfl (SlAt.lit0 w1 23 6) _ _ _ rfl (SlRd.below (SlRd.below HR.out B1.out) ((Below.refl _ _).alloc (Nat.le_refl _) _)) (ar_one _) ?d1 ?d2 ?d3)
  case d1 => simp only [maxLen]; omega
  case d2 => omega
  intro v2 w2 hs2 hg2 ho2
  have B2 : Hid (Below w.heap.size w w2) := (B1.out.alloc B1.out.size _).grown hg2 (by have := B1.out.size; simp; omega) (by intro b hb; simp [Value.ownBlock] at hb; have := B1.out.size; omega)
  have K2 : Hid (w2.heap[w.heap.size]? = _) := ((hg2.block w.heap.size (by have := (Array.getElem?_eq_some_iff.1 K1.out).1; simp; omega) (by simp [Value.ownBlock]; have := (Array.getElem?_eq_some_iff.1 K1.out).1; omega)).trans (Below.heap_alloc w1 _ w.heap.size (Array.getElem?_eq_some_iff.1 K1.out).1)).trans K1.out
  have L2 : Hid (ArRd w2 v2 l) := by
    show ArRd w2 v2 l
    have : SlAt w2 23 6 v2 l.length (ar l) := by simpa using hs2
    exact SlAt.rd this
  clear hs2 hg2 ho2
  obtain ⟨e0, e1, e2, e3, e4, e5⟩ := area_cells K2.out
  go_wp2_with fail
  clear e0 e1 e2 e3 e4 e5
  refine (hadd.out w2 (HR.out.below B2.out)).mono ?_
  rintro e w3 ⟨vm, xm, rfl, b3, hown, hp⟩
  have B3 := Lib.hid (B2.out.trans (b3.mono B2.out.size))
  have K3 := Lib.hid ((b3.block w.heap.size (Array.getElem?_eq_some_iff.1 K2.out).1).trans K2.out)
  have L3 := Lib.hid (L2.out.below b3)
  obtain ⟨rfl, rfl⟩ := hp.there HSO.out HM.out
  clear hp
  clear b3 hown
  obtain ⟨aq, cq, hq, _, _⟩ := ArRd.fm L3.out
  subst hq
  obtain ⟨e0, e1, e2, e3, e4, e5⟩ := area_cells K3.out
  go_wp2_with fail
  refine (hs.out w3).mono ?_
  rintro e w4 ⟨rfl, b4⟩
  have B4 := Lib.hid (B3.out.trans (b4.mono B3.out.size))
  have K4 := Lib.hid ((b4.block w.heap.size (Array.getElem?_eq_some_iff.1 K3.out).1).trans K3.out)
  have L4 := Lib.hid (L3.out.below b4)
  clear b4 e0 e1 e2 e3 e4 e5
  obtain ⟨e0, e1, e2, e3, e4, e5⟩ := area_cells K4.out
  go_wp2_with fail
  refine (Cut_ref w4 _ l (HR.out.below B4.out) HOK.out.1 (by omega) f p HF.out).mono ?_
  rintro e w5 ⟨vo, vi, rfl, ht, b5⟩
  have B5 := Lib.hid (B4.out.trans (b5.mono B4.out.size))
  have K5 := Lib.hid ((b5.block w.heap.size (Array.getElem?_eq_some_iff.1 K4.out).1).trans K4.out)
  have L5 := Lib.hid (L4.out.below b5)
  have M5 := Lib.hid (b5)
  rw [← hPA] at ht
  obtain ⟨ao, co, hvo, _, _⟩ := SlAt.form ht.a1
  obtain ⟨ai, ci, hvi, _, _⟩ := SlAt.form ht.a2
  subst hvo hvi
  clear ht b5 e0 e1 e2 e3 e4 e5
  generalize PA.length = m at *
  have hpm : 0 < m := by omega
  go_wp2_with fail
  refine (Areas_ref w5 _ _ l l (HR.out.below B5.out) L5.out).mono ?_
  rintro e w6 ⟨rfl, b6⟩
  rw [decide_eq_true rfl]
  have B6 := Lib.hid (B5.out.trans (b6.mono B5.out.size))
  have M6 := Lib.hid b6
  clear b6
  go_wp2_with fail
  refine (ans_tail w6 B6.out B6.out.size).mono ?_
  rintro e w7 ⟨rfl, b7⟩
  have B7 := Lib.hid b7
  clear b7
  go_wp2_with fail
  go_ret
  exact ⟨by simp, B7.out⟩
set_option maxRecDepth 100000 in
set_option maxHeartbeats 4000000 in
theorem adds_full (v : Value) (l : List Ar) (w : World) (hr : ArRd w v l) (hwl : ∀ a ∈ l, a.Wf) (a : Ar) (hw : a.Wf) (hlen : l.length ≤ 40) (hok : OkL l) (hso : a.Sound) (hm : anyA a l = false) (hl16 : 16 ≤ l.length) :
    Calls Try.prog 4 #[v, a.enc] w fun e w' => e = .returned (.bool true) ∧ Below w.heap.size w w' := by
  have hs := Lib.hid (fun W => Sound_ref W a hw)
  have hli := Lib.hid (List_ref w v l hr hwl)
  have HOK := Lib.hid hok
  have hadd := Lib.hid (fun W (h : ArRd W v l) => Add_walk W v l h a hw (by omega))
  have HWL := Lib.hid hwl
  rw [decide_eq_true hso] at hs
  have HSO := Lib.hid hso
  have HM := Lib.hid hm
  have HF : Hid (0 ≤ a.from_ ∧ 1 ≤ a.pages ∧ a.from_ + a.pages ≤ 4096) := by obtain ⟨_, _, s3, s4, s5, s6, _⟩ := hso; exact ⟨s3, s4, by omega⟩
  have hpn : piecesA l a.from_ (a.from_ + a.pages) = [] := by
    exact Classical.byContradiction fun h => absurd ((anyA_iff hok.1 hso).2 h) (by rw [hm]; exact Bool.false_ne_true)
  obtain ⟨av, cv, rfl, _, _⟩ := ArRd.fm hr
  have HR := Lib.hid hr
  clear hr hwl hw hok
  obtain ⟨i0, hi0, hz0, hs0, hb0⟩ := infoArea
  obtain ⟨f, p, wt, k, fi, o⟩ := a
  unfold Ar.enc at hs hadd ⊢
  simp only at hs hadd ⊢
  have h40 : ¬ (40 : Int) < l.length := by omega
  simp only at HF hpn
  have h16 : (16 : Int) ≤ l.length := by omega
  have HPN := Lib.hid hpn
  clear hpn
  go_enter Try.func4, Try.ntmps4
  go_wp2_with fail
  have B0 : Hid (Below w.heap.size w (w.alloc (.cells #[.int .i64 f, .int .i64 p, .bool wt, .int .i64 k, .int .i64 fi, .int .i64 o] 23))) := (Below.refl _ _).alloc (Nat.le_refl _) _
  have K0 : Hid ((w.alloc (.cells #[.int .i64 f, .int .i64 p, .bool wt, .int .i64 k, .int .i64 fi, .int .i64 o] 23)).heap[w.heap.size]? = some (.cells #[.int .i64 f, .int .i64 p, .bool wt, .int .i64 k, .int .i64 fi, .int .i64 o] 23 (0, 0))) := heap_alloc_new w _
  have S0 : Hid ((w.alloc (.cells #[.int .i64 f, .int .i64 p, .bool wt, .int .i64 k, .int .i64 fi, .int .i64 o] 23)).heap.size = w.heap.size + 1) := by show _ = _; simp
  generalize w.alloc _ = W0 at *
  refine (List_ref W0 _ l (HR.out.below B0.out) HWL.out).mono ?_
  rintro e w1 ⟨b, rfl, hb, b1⟩
  obtain rfl : b = true := hb.2 ((okTo_iff l).2 HOK.out)
  have B1 := Lib.hid (B0.out.trans (b1.mono B0.out.size))
  have K1 := Lib.hid ((b1.block w.heap.size (by rw [S0.out]; omega)).trans K0.out)
  clear hb b1
  go_wp2_with (at_builtin; refine wpList_append_rd rfl _ _ 26 rfl i0 _ 48 Try.underlying26 hi0 hz0 hs0 hb0 rfl _ 0 [] rfl (SlAt.lit0 w1 23 6) _ _ _ rfl (SlRd.below (SlRd.below HR.out B1.out) ((Below.refl _ _).alloc (Nat.le_refl _) _)) (ar_one _) ?d1 ?d2 ?d3)
  case d1 => simp only [maxLen]; omega
  case d2 => omega
  intro v2 w2 hs2 hg2 ho2
  have B2 : Hid (Below w.heap.size w w2) := (B1.out.alloc B1.out.size _).grown hg2 (by have := B1.out.size; simp; omega) (by intro b hb; simp [Value.ownBlock] at hb; have := B1.out.size; omega)
  have K2 : Hid (w2.heap[w.heap.size]? = _) := ((hg2.block w.heap.size (by have := (Array.getElem?_eq_some_iff.1 K1.out).1; simp; omega) (by simp [Value.ownBlock]; have := (Array.getElem?_eq_some_iff.1 K1.out).1; omega)).trans (Below.heap_alloc w1 _ w.heap.size (Array.getElem?_eq_some_iff.1 K1.out).1)).trans K1.out
  have L2 : Hid (ArRd w2 v2 l) := by
    show ArRd w2 v2 l
    have : SlAt w2 23 6 v2 l.length (ar l) := by simpa using hs2
    exact SlAt.rd this
  clear hs2 hg2 ho2
  obtain ⟨e0, e1, e2, e3, e4, e5⟩ := area_cells K2.out
  go_wp2_with fail
  clear e0 e1 e2 e3 e4 e5
  refine (hadd.out w2 (HR.out.below B2.out)).mono ?_
  rintro e w3 ⟨vm, xm, rfl, b3, hown, hp⟩
  have B3 := Lib.hid (B2.out.trans (b3.mono B2.out.size))
  have K3 := Lib.hid ((b3.block w.heap.size (Array.getElem?_eq_some_iff.1 K2.out).1).trans K2.out)
  have L3 := Lib.hid (L2.out.below b3)
  obtain ⟨rfl, rfl⟩ := hp.full HSO.out HM.out hl16
  clear hp
  clear b3 hown
  obtain ⟨aq, cq, hq, _, _⟩ := ArRd.fm L3.out
  subst hq
  obtain ⟨e0, e1, e2, e3, e4, e5⟩ := area_cells K3.out
  go_wp2_with fail
  refine (hs.out w3).mono ?_
  rintro e w4 ⟨rfl, b4⟩
  have B4 := Lib.hid (B3.out.trans (b4.mono B3.out.size))
  have K4 := Lib.hid ((b4.block w.heap.size (Array.getElem?_eq_some_iff.1 K3.out).1).trans K3.out)
  have L4 := Lib.hid (L3.out.below b4)
  clear b4 e0 e1 e2 e3 e4 e5
  obtain ⟨e0, e1, e2, e3, e4, e5⟩ := area_cells K4.out
  go_wp2_with fail
  refine (Cut_ref w4 _ l (HR.out.below B4.out) HOK.out.1 (by omega) f p HF.out).mono ?_
  rintro e w5 ⟨vo, vi, rfl, ht, b5⟩
  have B5 := Lib.hid (B4.out.trans (b5.mono B4.out.size))
  have K5 := Lib.hid ((b5.block w.heap.size (Array.getElem?_eq_some_iff.1 K4.out).1).trans K4.out)
  have L5 := Lib.hid (L4.out.below b5)
  have M5 := Lib.hid (b5)
  rw [HPN.out] at ht
  obtain ⟨ao, co, hvo, _, _⟩ := SlAt.form ht.a1
  obtain ⟨ai, ci, hvi, _, _⟩ := SlAt.form ht.a2
  subst hvo hvi
  clear ht b5 e0 e1 e2 e3 e4 e5
  go_wp2_with fail
  refine (Areas_ref w5 _ _ l l (HR.out.below B5.out) L5.out).mono ?_
  rintro e w6 ⟨rfl, b6⟩
  rw [decide_eq_true rfl]
  have B6 := Lib.hid (B5.out.trans (b6.mono B5.out.size))
  have M6 := Lib.hid b6
  clear b6
  go_wp2_with fail
  refine (ans_tail w6 B6.out B6.out.size).mono ?_
  rintro e w7 ⟨rfl, b7⟩
  have B7 := Lib.hid b7
  clear b7
  go_wp2_with fail
  go_ret
  exact ⟨by simp, B7.out⟩
set_option maxRecDepth 100000 in
set_option maxHeartbeats 4000000 in
theorem adds_done (v : Value) (l : List Ar) (w : World) (hr : ArRd w v l) (hwl : ∀ a ∈ l, a.Wf) (a : Ar) (hw : a.Wf) (hlen : l.length ≤ 40) (hok : OkL l) (hso : a.Sound) (hm : anyA a l = false) (hl16 : l.length < 16) :
    Calls Try.prog 4 #[v, a.enc] w fun e w' => e = .returned (.bool true) ∧ Below w.heap.size w w' := by
  have hs := Lib.hid (fun W => Sound_ref W a hw)
  have hli := Lib.hid (List_ref w v l hr hwl)
  have HOK := Lib.hid hok
  have hadd := Lib.hid (fun W (h : ArRd W v l) => Add_walk W v l h a hw (by omega))
  have HWL := Lib.hid hwl
  rw [decide_eq_true hso] at hs
  have HSO := Lib.hid hso
  have HM := Lib.hid hm
  have HF : Hid (0 ≤ a.from_ ∧ 1 ≤ a.pages ∧ a.from_ + a.pages ≤ 4096) := by obtain ⟨_, _, s3, s4, s5, s6, _⟩ := hso; exact ⟨s3, s4, by omega⟩
  have hpn : piecesA l a.from_ (a.from_ + a.pages) = [] := by
    exact Classical.byContradiction fun h => absurd ((anyA_iff hok.1 hso).2 h) (by rw [hm]; exact Bool.false_ne_true)
  have HADD : Hid (∀ l' : List Ar, l'.Perm (l ++ [a]) → (l'.Pairwise fun x y => ¬ y.from_ < x.from_) → l' = insA l a) := fun l' h1 h2 => add_ins hok hso hm h1 h2
  obtain ⟨av, cv, rfl, _, _⟩ := ArRd.fm hr
  have HR := Lib.hid hr
  clear hr hwl hw hok
  obtain ⟨i0, hi0, hz0, hs0, hb0⟩ := infoArea
  obtain ⟨f, p, wt, k, fi, o⟩ := a
  unfold Ar.enc at hs hadd ⊢
  simp only at hs hadd ⊢
  have h40 : ¬ (40 : Int) < l.length := by omega
  simp only at HF hpn
  have h16 : ¬ (16 : Int) ≤ l.length := by omega
  have HPN := Lib.hid hpn
  clear hpn
  go_enter Try.func4, Try.ntmps4
  go_wp2_with fail
  have B0 : Hid (Below w.heap.size w (w.alloc (.cells #[.int .i64 f, .int .i64 p, .bool wt, .int .i64 k, .int .i64 fi, .int .i64 o] 23))) := (Below.refl _ _).alloc (Nat.le_refl _) _
  have K0 : Hid ((w.alloc (.cells #[.int .i64 f, .int .i64 p, .bool wt, .int .i64 k, .int .i64 fi, .int .i64 o] 23)).heap[w.heap.size]? = some (.cells #[.int .i64 f, .int .i64 p, .bool wt, .int .i64 k, .int .i64 fi, .int .i64 o] 23 (0, 0))) := heap_alloc_new w _
  have S0 : Hid ((w.alloc (.cells #[.int .i64 f, .int .i64 p, .bool wt, .int .i64 k, .int .i64 fi, .int .i64 o] 23)).heap.size = w.heap.size + 1) := by show _ = _; simp
  generalize w.alloc _ = W0 at *
  refine (List_ref W0 _ l (HR.out.below B0.out) HWL.out).mono ?_
  rintro e w1 ⟨b, rfl, hb, b1⟩
  obtain rfl : b = true := hb.2 ((okTo_iff l).2 HOK.out)
  have B1 := Lib.hid (B0.out.trans (b1.mono B0.out.size))
  have K1 := Lib.hid ((b1.block w.heap.size (by rw [S0.out]; omega)).trans K0.out)
  clear hb b1
  go_wp2_with (at_builtin; refine wpList_append_rd rfl _ _ 26 rfl i0 _ 48 Try.underlying26 hi0 hz0 hs0 hb0 rfl _ 0 [] rfl (SlAt.lit0 w1 23 6) _ _ _ rfl (SlRd.below (SlRd.below HR.out B1.out) ((Below.refl _ _).alloc (Nat.le_refl _) _)) (ar_one _) ?d1 ?d2 ?d3)
  case d1 => simp only [maxLen]; omega
  case d2 => omega
  intro v2 w2 hs2 hg2 ho2
  have B2 : Hid (Below w.heap.size w w2) := (B1.out.alloc B1.out.size _).grown hg2 (by have := B1.out.size; simp; omega) (by intro b hb; simp [Value.ownBlock] at hb; have := B1.out.size; omega)
  have K2 : Hid (w2.heap[w.heap.size]? = _) := ((hg2.block w.heap.size (by have := (Array.getElem?_eq_some_iff.1 K1.out).1; simp; omega) (by simp [Value.ownBlock]; have := (Array.getElem?_eq_some_iff.1 K1.out).1; omega)).trans (Below.heap_alloc w1 _ w.heap.size (Array.getElem?_eq_some_iff.1 K1.out).1)).trans K1.out
  have L2 : Hid (ArRd w2 v2 l) := by
    show ArRd w2 v2 l
    have : SlAt w2 23 6 v2 l.length (ar l) := by simpa using hs2
    exact SlAt.rd this
  clear hs2 hg2 ho2
  obtain ⟨e0, e1, e2, e3, e4, e5⟩ := area_cells K2.out
  go_wp2_with fail
  clear e0 e1 e2 e3 e4 e5
  refine (hadd.out w2 (HR.out.below B2.out)).mono ?_
  rintro e w3 ⟨vm, xm, rfl, b3, hown, hp⟩
  have B3 := Lib.hid (B2.out.trans (b3.mono B2.out.size))
  have K3 := Lib.hid ((b3.block w.heap.size (Array.getElem?_eq_some_iff.1 K2.out).1).trans K2.out)
  have L3 := Lib.hid (L2.out.below b3)
  obtain ⟨rfl, l', ha', h1', h2'⟩ := hp.done HSO.out HM.out hl16
  obtain rfl := HADD.out l' h1' (h2'.imp fun h => by omega)
  have A3 := Lib.hid ha'
  obtain ⟨am, cm, rfl, _, _⟩ := SlAt.form ha'
  clear hp ha' h1' h2'
  clear b3 hown
  obtain ⟨aq, cq, hq, _, _⟩ := ArRd.fm L3.out
  subst hq
  obtain ⟨e0, e1, e2, e3, e4, e5⟩ := area_cells K3.out
  go_wp2_with fail
  refine (hs.out w3).mono ?_
  rintro e w4 ⟨rfl, b4⟩
  have B4 := Lib.hid (B3.out.trans (b4.mono B3.out.size))
  have K4 := Lib.hid ((b4.block w.heap.size (Array.getElem?_eq_some_iff.1 K3.out).1).trans K3.out)
  have L4 := Lib.hid (L3.out.below b4)
  have A4 := Lib.hid (A3.out.below b4)
  clear b4 e0 e1 e2 e3 e4 e5
  obtain ⟨e0, e1, e2, e3, e4, e5⟩ := area_cells K4.out
  go_wp2_with fail
  refine (Cut_ref w4 _ l (HR.out.below B4.out) HOK.out.1 (by omega) f p HF.out).mono ?_
  rintro e w5 ⟨vo, vi, rfl, ht, b5⟩
  have B5 := Lib.hid (B4.out.trans (b5.mono B4.out.size))
  have K5 := Lib.hid ((b5.block w.heap.size (Array.getElem?_eq_some_iff.1 K4.out).1).trans K4.out)
  have L5 := Lib.hid (L4.out.below b5)
  have M5 := Lib.hid (b5)
  rw [HPN.out] at ht
  have A5 := Lib.hid (A4.out.below b5)
  obtain ⟨ao, co, hvo, _, _⟩ := SlAt.form ht.a1
  obtain ⟨ai, ci, hvi, _, _⟩ := SlAt.form ht.a2
  subst hvo hvi
  clear ht b5 e0 e1 e2 e3 e4 e5
  go_wp2_with fail
  refine (Areas_ref w5 _ _ l l (HR.out.below B5.out) L5.out).mono ?_
  rintro e w6 ⟨rfl, b6⟩
  rw [decide_eq_true rfl]
  have B6 := Lib.hid (B5.out.trans (b6.mono B5.out.size))
  have M6 := Lib.hid b6
  have A6 := Lib.hid (A5.out.below b6)
  have K6 := Lib.hid ((b6.block w.heap.size (Array.getElem?_eq_some_iff.1 K5.out).1).trans K5.out)
  clear b6
  go_wp2_with fail
  refine (answersA w6).mono ?_
  rintro e w7 ⟨rfl, b7⟩
  have B7 := Lib.hid (B6.out.trans (b7.mono B6.out.size))
  have A7 := Lib.hid (A6.out.below b7)
  have K7 := Lib.hid ((b7.block w.heap.size (Array.getElem?_eq_some_iff.1 K6.out).1).trans K6.out)
  clear b7
  obtain ⟨e0, e1, e2, e3, e4, e5⟩ := area_cells K7.out
  go_wp2_with fail
  refine (Insert_ref w7 _ l (HR.out.below B7.out) (by omega) ⟨f, p, wt, k, fi, o⟩).mono ?_
  rintro e w8 ⟨v8, rfl, a8, b8, _⟩
  have B8 := Lib.hid (B7.out.trans (b8.mono B7.out.size))
  have A8 := Lib.hid (A7.out.below b8)
  have N8 := Lib.hid a8
  clear a8 b8 e0 e1 e2 e3 e4 e5
  go_wp2_with fail
  refine (Areas_ref w8 _ _ _ _ A8.out.rd N8.out.rd).mono ?_
  rintro e w9 ⟨rfl, b9⟩
  rw [decide_eq_true rfl]
  have B9 := Lib.hid (B8.out.trans (b9.mono B8.out.size))
  clear b9
  go_wp2_with fail
  go_ret
  exact ⟨rfl, B9.out⟩
set_option maxRecDepth 100000 in
set_option maxHeartbeats 4000000 in
theorem adds_long (v : Value) (l : List Ar) (w : World) (hr : ArRd w v l) (a : Ar) (hlen : 40 < l.length) :
    Calls Try.prog 4 #[v, a.enc] w fun e w' => e = .returned (.bool true) ∧ Below w.heap.size w w' := by
  obtain ⟨av, cv, rfl, _, _⟩ := ArRd.fm hr
  obtain ⟨f, p, wt, k, fi, o⟩ := a
  unfold Ar.enc
  simp only
  have h40 : (40 : Int) < l.length := by omega
  clear hr
  go_enter Try.func4, Try.ntmps4
  go_wp2_with fail
  have B0 : Hid (Below w.heap.size w (w.alloc (.cells #[.int .i64 f, .int .i64 p, .bool wt, .int .i64 k, .int .i64 fi, .int .i64 o] 23))) := (Below.refl _ _).alloc (Nat.le_refl _) _
  generalize w.alloc _ = W0 at *
  refine (ans_tail W0 B0.out B0.out.size).mono ?_
  rintro e w1 ⟨rfl, b1⟩
  go_wp2_with fail
  go_ret
  exact ⟨rfl, b1⟩

set_option maxRecDepth 100000 in
set_option maxHeartbeats 4000000 in
theorem adds_bad (v : Value) (l : List Ar) (w : World) (hr : ArRd w v l) (hwl : ∀ a ∈ l, a.Wf) (a : Ar) (hlen : l.length ≤ 40) (hok : ¬ OkL l) :
    Calls Try.prog 4 #[v, a.enc] w fun e w' => e = .returned (.bool true) ∧ Below w.heap.size w w' := by
  have HOK := Lib.hid hok
  have HWL := Lib.hid hwl
  obtain ⟨av, cv, rfl, _, _⟩ := ArRd.fm hr
  have HR := Lib.hid hr
  obtain ⟨f, p, wt, k, fi, o⟩ := a
  unfold Ar.enc
  simp only
  have h40 : ¬ (40 : Int) < l.length := by omega
  clear hr hok hwl
  go_enter Try.func4, Try.ntmps4
  go_wp2_with fail
  have B0 : Hid (Below w.heap.size w (w.alloc (.cells #[.int .i64 f, .int .i64 p, .bool wt, .int .i64 k, .int .i64 fi, .int .i64 o] 23))) := (Below.refl _ _).alloc (Nat.le_refl _) _
  generalize w.alloc _ = W0 at *
  refine (List_ref W0 _ l (HR.out.below B0.out) HWL.out).mono ?_
  rintro e w1 ⟨b, rfl, hb, b1⟩
  obtain rfl : b = false := by
    cases b
    · rfl
    · exact absurd ((okTo_iff l).1 (hb.1 rfl)) HOK.out
  have B1 := Lib.hid (B0.out.trans (b1.mono B0.out.size))
  clear hb b1
  go_wp2_with fail
  refine (ans_tail w1 B1.out B1.out.size).mono ?_
  rintro e w2 ⟨rfl, b2⟩
  go_wp2_with fail
  go_ret
  exact ⟨rfl, b2⟩

theorem adds_row (v : Value) (l : List Ar) (f p : Int) (wt : Bool) (k fi o : Int) (w : World) (hr : SlRd w 6 v l.length (l.flatMap Ar.cells)) (hwl : ∀ a ∈ l, a.Wf) (h1 : (Lit.int .i64 f).wf = true) (h2 : (Lit.int .i64 p).wf = true) (h3 : (Lit.int .i64 k).wf = true) (h4 : (Lit.int .i64 fi).wf = true) (h5 : (Lit.int .i64 o).wf = true) :
    Calls Try.prog 4 #[v, .agg #[.int .i64 f, .int .i64 p, .bool wt, .int .i64 k, .int .i64 fi, .int .i64 o]] w fun e w' => e = .returned (.bool true) ∧ Below w.heap.size w w' := by
  have hw : Ar.Wf ⟨f, p, wt, k, fi, o⟩ := ⟨h1, h2, h3, h4, h5⟩
  have e : (Value.agg #[.int .i64 f, .int .i64 p, .bool wt, .int .i64 k, .int .i64 fi, .int .i64 o]) = Ar.enc ⟨f, p, wt, k, fi, o⟩ := rfl
  rw [e]
  by_cases hlen : l.length ≤ 40
  · by_cases hok : OkL l
    · by_cases hso : Ar.Sound ⟨f, p, wt, k, fi, o⟩
      · cases hm : anyA ⟨f, p, wt, k, fi, o⟩ l
        · by_cases h16 : 16 ≤ l.length
          · exact adds_full v l w hr hwl _ hw hlen hok hso hm h16
          · exact adds_done v l w hr hwl _ hw hlen hok hso hm (by omega)
        · by_cases h16 : 16 ≤ l.length
          · exact adds_there_hi v l w hr hwl _ hw hlen hok h16 hso hm
          · exact adds_there_lo v l w hr hwl _ hw hlen hok (by omega) hso hm
      · by_cases h16 : 16 ≤ l.length
        · exact adds_arg_hi v l w hr hwl _ hw hlen hok h16 hso
        · exact adds_arg_lo v l w hr hwl _ hw hlen hok (by omega) hso
    · exact adds_bad v l w hr hwl ⟨f, p, wt, k, fi, o⟩ hlen hok
  · exact adds_long v l w hr ⟨f, p, wt, k, fi, o⟩ (by omega)
end Go.Proofs.Ytcghenehcpogpaa
