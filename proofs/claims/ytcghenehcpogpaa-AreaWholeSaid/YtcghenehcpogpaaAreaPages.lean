/- AreaPages: the law's walk. -/
import Derived.Test.YtcghenehcpogpaaAreaAdds
namespace Go.Proofs.Ytcghenehcpogpaa
open Go Go.RowKit

theorem cutA_sound {l : List Ar} (h : ∀ a ∈ l, a.Sound) {fr pg : Int} (hr : RightA fr pg) : ∀ a ∈ cutA l fr pg, a.Sound := by
  obtain ⟨r1, r2, r3, r4⟩ := hr
  intro a ha
  unfold cutA at ha
  rcases List.mem_append.1 ha with ha | ha
  · exact piecesA_sound h (by omega) (by omega) a ha
  · exact piecesA_sound h (by omega) (by omega) a ha

set_option maxRecDepth 100000 in
set_option maxHeartbeats 4000000 in
theorem pages_long (v : Value) (l : List Ar) (fr pg q : Int) (w : World) (hr : ArRd w v l) (hlen : 16 < l.length) :
    Calls Try.prog 5 #[v, .int .i64 fr, .int .i64 pg, .int .u16 q] w fun e w' => e = .returned (.bool true) ∧ Below w.heap.size w w' := by
  obtain ⟨av, cv, rfl, _, _⟩ := ArRd.fm hr
  have h40 : (16 : Int) < l.length := by omega
  clear hr
  go_enter Try.func5, Try.ntmps5
  go_wp2_with fail
  refine (ans_tail w (Below.refl _ _) (Nat.le_refl _)).mono ?_
  rintro e w1 ⟨rfl, b1⟩
  go_wp2_with fail
  go_ret
  exact ⟨rfl, b1⟩

set_option maxRecDepth 100000 in
set_option maxHeartbeats 4000000 in
theorem pages_bad (v : Value) (l : List Ar) (fr pg q : Int) (w : World) (hr : ArRd w v l) (hwl : ∀ a ∈ l, a.Wf) (hlen : l.length ≤ 16) (hok : ¬ OkL l) :
    Calls Try.prog 5 #[v, .int .i64 fr, .int .i64 pg, .int .u16 q] w fun e w' => e = .returned (.bool true) ∧ Below w.heap.size w w' := by
  have HOK := Lib.hid hok
  have hli := Lib.hid (List_ref w v l hr hwl)
  obtain ⟨av, cv, rfl, _, _⟩ := ArRd.fm hr
  have h40 : ¬ (16 : Int) < l.length := by omega
  clear hr hok hwl
  go_enter Try.func5, Try.ntmps5
  go_wp2_with fail
  refine hli.out.mono ?_
  rintro e w1 ⟨b, rfl, hb, b1⟩
  obtain rfl : b = false := by
    cases b
    · rfl
    · exact absurd ((okTo_iff l).1 (hb.1 rfl)) HOK.out
  clear hb
  go_wp2_with fail
  refine (ans_tail w1 b1 b1.size).mono ?_
  rintro e w2 ⟨rfl, b2⟩
  go_wp2_with fail
  go_ret
  exact ⟨rfl, b2⟩

set_option maxRecDepth 100000 in
set_option maxHeartbeats 4000000 in
theorem pages_right (v : Value) (l : List Ar) (fr pg q : Int) (w : World) (hr : ArRd w v l) (hwl : ∀ a ∈ l, a.Wf) (hlen : l.length ≤ 16) (hok : OkL l) (hq : 0 ≤ q ∧ q < 65536) (hfr : (Lit.int .i64 fr).wf = true) (hpg : (Lit.int .i64 pg).wf = true) (hrr : ¬ RightA fr pg) :
    Calls Try.prog 5 #[v, .int .i64 fr, .int .i64 pg, .int .u16 q] w fun e w' => e = .returned (.bool true) ∧ Below w.heap.size w w' := by
  have hli := Lib.hid (List_ref w v l hr hwl)
  have HOK := Lib.hid hok
  obtain ⟨av, cv, rfl, _, _⟩ := ArRd.fm hr
  have HR := Lib.hid hr
  have h40 : ¬ (16 : Int) < l.length := by omega
  obtain ⟨q0, q1⟩ := hq
  clear hr hwl hok
  have HRR := Lib.hid hrr
  clear hrr
  go_enter Try.func5, Try.ntmps5
  go_wp2_with fail
  refine hli.out.mono ?_
  rintro e w1 ⟨b, rfl, hb, b1⟩
  obtain rfl : b = true := hb.2 ((okTo_iff l).2 HOK.out)
  have B1 := Lib.hid b1
  clear hb b1 hli
  go_wp2_with fail
  refine (Cut_walk w1 _ l (HR.out.below B1.out) HOK.out.1 (by omega) fr pg).mono ?_
  rintro e w2 ⟨vm, xm, rfl, b2, _, hc1, hc2, hc3⟩
  have B2 := Lib.hid (B1.out.trans (b2.mono B1.out.size))
  obtain ⟨rfl, rfl⟩ := hc1 HRR.out
  clear hc1 hc2 hc3 b2
  go_wp2_with fail
  refine (ans_tail w2 B2.out B2.out.size).mono ?_
  rintro e w3 ⟨rfl, b3⟩
  go_wp2_with fail
  go_ret
  exact ⟨rfl, b3⟩

set_option maxRecDepth 100000 in
set_option maxHeartbeats 4000000 in
theorem pages_full (v : Value) (l : List Ar) (fr pg q : Int) (w : World) (hr : ArRd w v l) (hwl : ∀ a ∈ l, a.Wf) (hlen : l.length ≤ 16) (hok : OkL l) (hq : 0 ≤ q ∧ q < 65536) (hfr : (Lit.int .i64 fr).wf = true) (hpg : (Lit.int .i64 pg).wf = true) (hrr : RightA fr pg) (h16 : 16 < (cutA l fr pg).length) :
    Calls Try.prog 5 #[v, .int .i64 fr, .int .i64 pg, .int .u16 q] w fun e w' => e = .returned (.bool true) ∧ Below w.heap.size w w' := by
  have hli := Lib.hid (List_ref w v l hr hwl)
  have HOK := Lib.hid hok
  obtain ⟨av, cv, rfl, _, _⟩ := ArRd.fm hr
  have HR := Lib.hid hr
  have h40 : ¬ (16 : Int) < l.length := by omega
  obtain ⟨q0, q1⟩ := hq
  clear hr hwl hok
  have HRR := Lib.hid hrr
  have H16 := Lib.hid h16
  clear hrr h16
  go_enter Try.func5, Try.ntmps5
  go_wp2_with fail
  refine hli.out.mono ?_
  rintro e w1 ⟨b, rfl, hb, b1⟩
  obtain rfl : b = true := hb.2 ((okTo_iff l).2 HOK.out)
  have B1 := Lib.hid b1
  clear hb b1 hli
  go_wp2_with fail
  refine (Cut_walk w1 _ l (HR.out.below B1.out) HOK.out.1 (by omega) fr pg).mono ?_
  rintro e w2 ⟨vm, xm, rfl, b2, _, hc1, hc2, hc3⟩
  have B2 := Lib.hid (B1.out.trans (b2.mono B1.out.size))
  obtain ⟨rfl, rfl⟩ := hc3 HRR.out H16.out
  clear hc1 hc2 hc3 b2
  go_wp2_with fail
  refine (ans_tail w2 B2.out B2.out.size).mono ?_
  rintro e w3 ⟨rfl, b3⟩
  go_wp2_with fail
  go_ret
  exact ⟨rfl, b3⟩

set_option maxRecDepth 100000 in
set_option maxHeartbeats 4000000 in
theorem pages_in (v : Value) (l : List Ar) (fr pg q : Int) (w : World) (hr : ArRd w v l) (hwl : ∀ a ∈ l, a.Wf) (hlen : l.length ≤ 16) (hok : OkL l) (hq : 0 ≤ q ∧ q < 65536) (hfr : (Lit.int .i64 fr).wf = true) (hpg : (Lit.int .i64 pg).wf = true) (hrr : RightA fr pg) (h16 : (cutA l fr pg).length ≤ 16) (hin : fr ≤ q % 4096 ∧ q % 4096 < fr + pg) :
    Calls Try.prog 5 #[v, .int .i64 fr, .int .i64 pg, .int .u16 q] w fun e w' => e = .returned (.bool true) ∧ Below w.heap.size w w' := by
  have hli := Lib.hid (List_ref w v l hr hwl)
  have HOK := Lib.hid hok
  obtain ⟨av, cv, rfl, _, _⟩ := ArRd.fm hr
  have HR := Lib.hid hr
  have h40 : ¬ (16 : Int) < l.length := by omega
  obtain ⟨q0, q1⟩ := hq
  clear hr hwl hok
  have HRR := Lib.hid hrr
  have HL16 := Lib.hid h16
  have HP1 : Hid (0 ≤ q % 4096 ∧ q % 4096 < 4096) := by show _ ∧ _; omega
  have hfa := Lib.hid (fun W (h : ArRd W (.slice av l.length cv) l) => Find_walk W _ l h (q % 4096) HOK.out.1 HP1.out)
  have hfb := Lib.hid (fun W v (h : ArRd W v (cutA l fr pg)) => Find_walk W v _ h (q % 4096) (cutA_sound HOK.out.1 hrr) HP1.out)
  obtain ⟨r1, r2, r3, r4⟩ := hrr
  obtain ⟨pp, hpp⟩ : ∃ pp, pp = q % 4096 := ⟨_, rfl⟩
  have hp0 : 0 ≤ pp ∧ pp < 4096 := by rw [hpp]; exact HP1.out
  have t1 : q.tmod 4096 = pp := by rw [hpp, Int.tmod_eq_emod_of_nonneg q0]
  have t2 : IntKind.u16.wrap pp = pp := by simp [IntKind.wrap, IntKind.bits, IntKind.signed]; omega
  have t3 : IntKind.i64.wrap pp = pp := by simp [IntKind.wrap, IntKind.bits, IntKind.signed]; omega
  have t4 : IntKind.i64.wrap (fr + pg) = fr + pg := by simp [IntKind.wrap, IntKind.bits, IntKind.signed]; omega
  rw [← hpp] at hfa hfb
  have hn : findA (cutA l fr pg) pp = none := by rw [hpp]; exact (find_cut HP1.out HRR.out).1 hin
  rw [hn] at hfb
  obtain ⟨i1, i2⟩ := hin
  rw [← hpp] at i1 i2
  obtain ⟨x, hx⟩ : ∃ x, (findA l pp).getD ⟨0, 0, false, 0, 0, 0⟩ = x := ⟨_, rfl⟩
  obtain ⟨yy, hyy⟩ : ∃ yy, (findA l pp).isSome = yy := ⟨_, rfl⟩
  rw [hx, hyy] at hfa
  clear hn hpp hx hyy
  simp only [Option.getD_none, Option.isSome_none, Ar.enc] at hfa hfb
  obtain ⟨f, p, wt, k, fi, o⟩ := x
  simp only at hfa
  clear hfr hpg h16
  go_enter Try.func5, Try.ntmps5
  go_wp2_with fail
  refine hli.out.mono ?_
  rintro e w1 ⟨b, rfl, hb, b1⟩
  obtain rfl : b = true := hb.2 ((okTo_iff l).2 HOK.out)
  have B1 := Lib.hid b1
  clear hb b1 hli
  go_wp2_with fail
  refine (Cut_walk w1 _ l (HR.out.below B1.out) HOK.out.1 (by omega) fr pg).mono ?_
  rintro e w2 ⟨vm, xm, rfl, b2, _, hc1, hc2, hc3⟩
  have B2 := Lib.hid (B1.out.trans (b2.mono B1.out.size))
  obtain ⟨rfl, hat⟩ := hc2 HRR.out HL16.out
  have A2 := Lib.hid hat.rd
  clear hc1 hc2 hc3 b2
  obtain ⟨am, cm, rfl, _, _⟩ := SlAt.form hat
  clear hat
  go_wp2_with fail
  refine (hfa.out w2 (HR.out.below B2.out)).mono ?_
  rintro e w3 ⟨rfl, b3⟩
  have B3 := Lib.hid (B2.out.trans (b3.mono B2.out.size))
  have A3 := Lib.hid (A2.out.below b3)
  clear b3
  have BA := Lib.hid (B3.out.alloc B3.out.size (.cells #[.int .i64 f, .int .i64 p, .bool wt, .int .i64 k, .int .i64 fi, .int .i64 o] 23))
  have KA : Hid ((w3.alloc (.cells #[.int .i64 f, .int .i64 p, .bool wt, .int .i64 k, .int .i64 fi, .int .i64 o] 23)).heap[w3.heap.size]? = some (.cells #[.int .i64 f, .int .i64 p, .bool wt, .int .i64 k, .int .i64 fi, .int .i64 o] 23 (0, 0))) := heap_alloc_new w3 _
  have AA := Lib.hid (A3.out.below ((Below.refl _ _).alloc (Nat.le_refl _) (.cells #[.int .i64 f, .int .i64 p, .bool wt, .int .i64 k, .int .i64 fi, .int .i64 o] 23)))
  go_wp2_with fail
  generalize w3.alloc _ = W3 at *
  refine (hfb.out W3 _ AA.out).mono ?_
  rintro e w4 ⟨rfl, b4⟩
  have B4 := Lib.hid (BA.out.trans (b4.mono BA.out.size))
  have K4 := Lib.hid ((b4.block w3.heap.size (Array.getElem?_eq_some_iff.1 KA.out).1).trans KA.out)
  have N4 : Hid (w3.heap.size < w4.heap.size) := (Array.getElem?_eq_some_iff.1 K4.out).1
  clear b4 BA KA AA A3
  have BB := Lib.hid (B4.out.alloc B4.out.size (.cells #[.int .i64 0, .int .i64 0, .bool false, .int .i64 0, .int .i64 0, .int .i64 0] 23))
  have KB : Hid ((w4.alloc (.cells #[.int .i64 0, .int .i64 0, .bool false, .int .i64 0, .int .i64 0, .int .i64 0] 23)).heap[w4.heap.size]? = some (.cells #[.int .i64 0, .int .i64 0, .bool false, .int .i64 0, .int .i64 0, .int .i64 0] 23 (0, 0))) := heap_alloc_new w4 _
  have KC : Hid ((w4.alloc (.cells #[.int .i64 0, .int .i64 0, .bool false, .int .i64 0, .int .i64 0, .int .i64 0] 23)).heap[w3.heap.size]? = _) := (Below.heap_alloc w4 _ w3.heap.size N4.out).trans K4.out
  go_wp2_with fail
  generalize w4.alloc _ = W4 at *
  refine (answersA W4).mono ?_
  rintro e w5 ⟨rfl, b5⟩
  have B5 := Lib.hid (BB.out.trans (b5.mono BB.out.size))
  obtain ⟨e0, e1, e2, e3, e4, e5⟩ := area_cells ((b5.block w4.heap.size (Array.getElem?_eq_some_iff.1 KB.out).1).trans KB.out)
  obtain ⟨f0, f1, f2, f3, f4, f5⟩ := area_cells ((b5.block w3.heap.size (Array.getElem?_eq_some_iff.1 KC.out).1).trans KC.out)
  clear b5
  go_wp2_with fail
  go_ret
  exact ⟨by simp, B5.out⟩

set_option maxRecDepth 100000 in
set_option maxHeartbeats 4000000 in
theorem pages_none_lo (v : Value) (l : List Ar) (fr pg q : Int) (w : World) (hr : ArRd w v l) (hwl : ∀ a ∈ l, a.Wf) (hlen : l.length ≤ 16) (hok : OkL l) (hq : 0 ≤ q ∧ q < 65536) (hfr : (Lit.int .i64 fr).wf = true) (hpg : (Lit.int .i64 pg).wf = true) (hrr : RightA fr pg) (h16 : (cutA l fr pg).length ≤ 16) (hin : q % 4096 < fr) (hnn : findA l (q % 4096) = none ∧ findA (cutA l fr pg) (q % 4096) = none) :
    Calls Try.prog 5 #[v, .int .i64 fr, .int .i64 pg, .int .u16 q] w fun e w' => e = .returned (.bool true) ∧ Below w.heap.size w w' := by
  have hli := Lib.hid (List_ref w v l hr hwl)
  have HOK := Lib.hid hok
  obtain ⟨av, cv, rfl, _, _⟩ := ArRd.fm hr
  have HR := Lib.hid hr
  have h40 : ¬ (16 : Int) < l.length := by omega
  obtain ⟨q0, q1⟩ := hq
  clear hr hwl hok
  have HRR := Lib.hid hrr
  have HL16 := Lib.hid h16
  have HP1 : Hid (0 ≤ q % 4096 ∧ q % 4096 < 4096) := by show _ ∧ _; omega
  have hfa := Lib.hid (fun W (h : ArRd W (.slice av l.length cv) l) => Find_walk W _ l h (q % 4096) HOK.out.1 HP1.out)
  have hfb := Lib.hid (fun W v (h : ArRd W v (cutA l fr pg)) => Find_walk W v _ h (q % 4096) (cutA_sound HOK.out.1 hrr) HP1.out)
  obtain ⟨r1, r2, r3, r4⟩ := hrr
  obtain ⟨pp, hpp⟩ : ∃ pp, pp = q % 4096 := ⟨_, rfl⟩
  have hp0 : 0 ≤ pp ∧ pp < 4096 := by rw [hpp]; exact HP1.out
  have t1 : q.tmod 4096 = pp := by rw [hpp, Int.tmod_eq_emod_of_nonneg q0]
  have t2 : IntKind.u16.wrap pp = pp := by simp [IntKind.wrap, IntKind.bits, IntKind.signed]; omega
  have t3 : IntKind.i64.wrap pp = pp := by simp [IntKind.wrap, IntKind.bits, IntKind.signed]; omega
  have t4 : IntKind.i64.wrap (fr + pg) = fr + pg := by simp [IntKind.wrap, IntKind.bits, IntKind.signed]; omega
  rw [← hpp] at hfa hfb
  obtain ⟨hn1, hn2⟩ := hnn
  rw [← hpp] at hn1 hn2 hin
  rw [hn1] at hfa
  rw [hn2] at hfb
  clear hpp hn1 hn2
  have i1 : ¬ fr ≤ pp := by omega
  simp only [Option.getD_none, Option.isSome_none, Ar.enc] at hfa hfb
  clear hfr hpg h16
  go_enter Try.func5, Try.ntmps5
  go_wp2_with fail
  refine hli.out.mono ?_
  rintro e w1 ⟨b, rfl, hb, b1⟩
  obtain rfl : b = true := hb.2 ((okTo_iff l).2 HOK.out)
  have B1 := Lib.hid b1
  clear hb b1 hli
  go_wp2_with fail
  refine (Cut_walk w1 _ l (HR.out.below B1.out) HOK.out.1 (by omega) fr pg).mono ?_
  rintro e w2 ⟨vm, xm, rfl, b2, _, hc1, hc2, hc3⟩
  have B2 := Lib.hid (B1.out.trans (b2.mono B1.out.size))
  obtain ⟨rfl, hat⟩ := hc2 HRR.out HL16.out
  have A2 := Lib.hid hat.rd
  clear hc1 hc2 hc3 b2
  obtain ⟨am, cm, rfl, _, _⟩ := SlAt.form hat
  clear hat
  go_wp2_with fail
  refine (hfa.out w2 (HR.out.below B2.out)).mono ?_
  rintro e w3 ⟨rfl, b3⟩
  have B3 := Lib.hid (B2.out.trans (b3.mono B2.out.size))
  have A3 := Lib.hid (A2.out.below b3)
  clear b3
  have BA := Lib.hid (B3.out.alloc B3.out.size (.cells #[.int .i64 0, .int .i64 0, .bool false, .int .i64 0, .int .i64 0, .int .i64 0] 23))
  have KA : Hid ((w3.alloc (.cells #[.int .i64 0, .int .i64 0, .bool false, .int .i64 0, .int .i64 0, .int .i64 0] 23)).heap[w3.heap.size]? = some (.cells #[.int .i64 0, .int .i64 0, .bool false, .int .i64 0, .int .i64 0, .int .i64 0] 23 (0, 0))) := heap_alloc_new w3 _
  have AA := Lib.hid (A3.out.below ((Below.refl _ _).alloc (Nat.le_refl _) (.cells #[.int .i64 0, .int .i64 0, .bool false, .int .i64 0, .int .i64 0, .int .i64 0] 23)))
  go_wp2_with fail
  generalize w3.alloc _ = W3 at *
  refine (hfb.out W3 _ AA.out).mono ?_
  rintro e w4 ⟨rfl, b4⟩
  have B4 := Lib.hid (BA.out.trans (b4.mono BA.out.size))
  have K4 := Lib.hid ((b4.block w3.heap.size (Array.getElem?_eq_some_iff.1 KA.out).1).trans KA.out)
  have N4 : Hid (w3.heap.size < w4.heap.size) := (Array.getElem?_eq_some_iff.1 K4.out).1
  clear b4 BA KA AA A3
  have BB := Lib.hid (B4.out.alloc B4.out.size (.cells #[.int .i64 0, .int .i64 0, .bool false, .int .i64 0, .int .i64 0, .int .i64 0] 23))
  have KB : Hid ((w4.alloc (.cells #[.int .i64 0, .int .i64 0, .bool false, .int .i64 0, .int .i64 0, .int .i64 0] 23)).heap[w4.heap.size]? = some (.cells #[.int .i64 0, .int .i64 0, .bool false, .int .i64 0, .int .i64 0, .int .i64 0] 23 (0, 0))) := heap_alloc_new w4 _
  have KC : Hid ((w4.alloc (.cells #[.int .i64 0, .int .i64 0, .bool false, .int .i64 0, .int .i64 0, .int .i64 0] 23)).heap[w3.heap.size]? = _) := (Below.heap_alloc w4 _ w3.heap.size N4.out).trans K4.out
  go_wp2_with fail
  generalize w4.alloc _ = W4 at *
  refine (answersA W4).mono ?_
  rintro e w5 ⟨rfl, b5⟩
  have B5 := Lib.hid (BB.out.trans (b5.mono BB.out.size))
  obtain ⟨e0, e1, e2, e3, e4, e5⟩ := area_cells ((b5.block w4.heap.size (Array.getElem?_eq_some_iff.1 KB.out).1).trans KB.out)
  obtain ⟨f0, f1, f2, f3, f4, f5⟩ := area_cells ((b5.block w3.heap.size (Array.getElem?_eq_some_iff.1 KC.out).1).trans KC.out)
  clear b5
  go_wp2_with fail
  go_ret
  exact ⟨by simp, B5.out⟩

set_option maxRecDepth 100000 in
set_option maxHeartbeats 4000000 in
theorem pages_some_lo (v : Value) (l : List Ar) (fr pg q : Int) (w : World) (hr : ArRd w v l) (hwl : ∀ a ∈ l, a.Wf) (hlen : l.length ≤ 16) (hok : OkL l) (hq : 0 ≤ q ∧ q < 65536) (hfr : (Lit.int .i64 fr).wf = true) (hpg : (Lit.int .i64 pg).wf = true) (hrr : RightA fr pg) (h16 : (cutA l fr pg).length ≤ 16) (hin : q % 4096 < fr) (a b : Ar) (hna : findA l (q % 4096) = some a) (hnb : findA (cutA l fr pg) (q % 4096) = some b) (hsp : SameP a b a.write) :
    Calls Try.prog 5 #[v, .int .i64 fr, .int .i64 pg, .int .u16 q] w fun e w' => e = .returned (.bool true) ∧ Below w.heap.size w w' := by
  have hli := Lib.hid (List_ref w v l hr hwl)
  have HOK := Lib.hid hok
  obtain ⟨av, cv, rfl, _, _⟩ := ArRd.fm hr
  have HR := Lib.hid hr
  have h40 : ¬ (16 : Int) < l.length := by omega
  obtain ⟨q0, q1⟩ := hq
  clear hr hwl hok
  have HRR := Lib.hid hrr
  have HL16 := Lib.hid h16
  have HP1 : Hid (0 ≤ q % 4096 ∧ q % 4096 < 4096) := by show _ ∧ _; omega
  have hfa := Lib.hid (fun W (h : ArRd W (.slice av l.length cv) l) => Find_walk W _ l h (q % 4096) HOK.out.1 HP1.out)
  have hfb := Lib.hid (fun W v (h : ArRd W v (cutA l fr pg)) => Find_walk W v _ h (q % 4096) (cutA_sound HOK.out.1 hrr) HP1.out)
  obtain ⟨r1, r2, r3, r4⟩ := hrr
  obtain ⟨pp, hpp⟩ : ∃ pp, pp = q % 4096 := ⟨_, rfl⟩
  have hp0 : 0 ≤ pp ∧ pp < 4096 := by rw [hpp]; exact HP1.out
  have t1 : q.tmod 4096 = pp := by rw [hpp, Int.tmod_eq_emod_of_nonneg q0]
  have t2 : IntKind.u16.wrap pp = pp := by simp [IntKind.wrap, IntKind.bits, IntKind.signed]; omega
  have t3 : IntKind.i64.wrap pp = pp := by simp [IntKind.wrap, IntKind.bits, IntKind.signed]; omega
  have t4 : IntKind.i64.wrap (fr + pg) = fr + pg := by simp [IntKind.wrap, IntKind.bits, IntKind.signed]; omega
  rw [← hpp] at hfa hfb
  rw [← hpp] at hna hnb hin
  rw [hna] at hfa
  rw [hnb] at hfb
  have hsa := HOK.out.1 a (List.mem_of_find?_eq_some hna)
  have hsb := cutA_sound HOK.out.1 HRR.out b (List.mem_of_find?_eq_some hnb)
  clear hpp hna hnb
  have i1 : ¬ fr ≤ pp := by omega
  simp only [Option.getD_some, Option.isSome_some, Ar.enc] at hfa hfb
  obtain ⟨f, p, wt, k, fi, o⟩ := a
  obtain ⟨f', p', wt', k', fi', o'⟩ := b
  obtain ⟨h1, h2, h3, h4⟩ := hsp
  obtain ⟨_, _, sa1, sa2, sa3, sa4, sa5⟩ := hsa
  obtain ⟨_, _, sb1, sb2, sb3, sb4, sb5⟩ := hsb
  simp only at h1 h2 h3 h4 hfa hfb sa1 sa2 sa3 sa4 sa5 sb1 sb2 sb3 sb4 sb5
  subst h1 h2 h3
  have w1 : IntKind.i64.wrap (o + pp) = o + pp := by simp [IntKind.wrap, IntKind.bits, IntKind.signed]; omega
  have w2 : IntKind.i64.wrap (o' + pp) = o' + pp := by simp [IntKind.wrap, IntKind.bits, IntKind.signed]; omega
  have w3' : IntKind.i64.wrap (o + pp - f) = o + pp - f := by simp [IntKind.wrap, IntKind.bits, IntKind.signed]; omega
  have w4' : IntKind.i64.wrap (o' + pp - f') = o' + pp - f' := by simp [IntKind.wrap, IntKind.bits, IntKind.signed]; omega
  have hk1 : (k == 1) = true ∨ (k == 1) = false ∧ o + pp - f = o' + pp - f' := by
    by_cases hk : k = 1
    · exact .inl (by simpa using hk)
    · exact .inr ⟨by simpa using hk, by omega⟩
  clear sa1 sa2 sa3 sa4 sa5 sb1 sb2 sb3 sb4 sb5 h4
  clear hfr hpg h16
  go_enter Try.func5, Try.ntmps5
  go_wp2_with fail
  refine hli.out.mono ?_
  rintro e w1 ⟨b, rfl, hb, b1⟩
  obtain rfl : b = true := hb.2 ((okTo_iff l).2 HOK.out)
  have B1 := Lib.hid b1
  clear hb b1 hli
  go_wp2_with fail
  refine (Cut_walk w1 _ l (HR.out.below B1.out) HOK.out.1 (by omega) fr pg).mono ?_
  rintro e w2 ⟨vm, xm, rfl, b2, _, hc1, hc2, hc3⟩
  have B2 := Lib.hid (B1.out.trans (b2.mono B1.out.size))
  obtain ⟨rfl, hat⟩ := hc2 HRR.out HL16.out
  have A2 := Lib.hid hat.rd
  clear hc1 hc2 hc3 b2
  obtain ⟨am, cm, rfl, _, _⟩ := SlAt.form hat
  clear hat
  go_wp2_with fail
  refine (hfa.out w2 (HR.out.below B2.out)).mono ?_
  rintro e w3 ⟨rfl, b3⟩
  have B3 := Lib.hid (B2.out.trans (b3.mono B2.out.size))
  have A3 := Lib.hid (A2.out.below b3)
  clear b3
  have BA := Lib.hid (B3.out.alloc B3.out.size (.cells #[.int .i64 f, .int .i64 p, .bool wt', .int .i64 k, .int .i64 fi, .int .i64 o] 23))
  have KA : Hid ((w3.alloc (.cells #[.int .i64 f, .int .i64 p, .bool wt', .int .i64 k, .int .i64 fi, .int .i64 o] 23)).heap[w3.heap.size]? = some (.cells #[.int .i64 f, .int .i64 p, .bool wt', .int .i64 k, .int .i64 fi, .int .i64 o] 23 (0, 0))) := heap_alloc_new w3 _
  have AA := Lib.hid (A3.out.below ((Below.refl _ _).alloc (Nat.le_refl _) (.cells #[.int .i64 f, .int .i64 p, .bool wt', .int .i64 k, .int .i64 fi, .int .i64 o] 23)))
  go_wp2_with fail
  generalize w3.alloc _ = W3 at *
  refine (hfb.out W3 _ AA.out).mono ?_
  rintro e w4 ⟨rfl, b4⟩
  have B4 := Lib.hid (BA.out.trans (b4.mono BA.out.size))
  have K4 := Lib.hid ((b4.block w3.heap.size (Array.getElem?_eq_some_iff.1 KA.out).1).trans KA.out)
  have N4 : Hid (w3.heap.size < w4.heap.size) := (Array.getElem?_eq_some_iff.1 K4.out).1
  clear b4 BA KA AA A3
  have BB := Lib.hid (B4.out.alloc B4.out.size (.cells #[.int .i64 f', .int .i64 p', .bool wt', .int .i64 k, .int .i64 fi, .int .i64 o'] 23))
  have KB : Hid ((w4.alloc (.cells #[.int .i64 f', .int .i64 p', .bool wt', .int .i64 k, .int .i64 fi, .int .i64 o'] 23)).heap[w4.heap.size]? = some (.cells #[.int .i64 f', .int .i64 p', .bool wt', .int .i64 k, .int .i64 fi, .int .i64 o'] 23 (0, 0))) := heap_alloc_new w4 _
  have KC : Hid ((w4.alloc (.cells #[.int .i64 f', .int .i64 p', .bool wt', .int .i64 k, .int .i64 fi, .int .i64 o'] 23)).heap[w3.heap.size]? = _) := (Below.heap_alloc w4 _ w3.heap.size N4.out).trans K4.out
  go_wp2_with fail
  generalize w4.alloc _ = W4 at *
  refine (answersA W4).mono ?_
  rintro e w5 ⟨rfl, b5⟩
  have B5 := Lib.hid (BB.out.trans (b5.mono BB.out.size))
  obtain ⟨e0, e1, e2, e3, e4, e5⟩ := area_cells ((b5.block w4.heap.size (Array.getElem?_eq_some_iff.1 KB.out).1).trans KB.out)
  obtain ⟨f0, f1, f2, f3, f4, f5⟩ := area_cells ((b5.block w3.heap.size (Array.getElem?_eq_some_iff.1 KC.out).1).trans KC.out)
  clear b5
  rcases hk1 with hk1 | ⟨hk1, hk2⟩
  · go_wp2_with fail
    go_ret
    exact ⟨by simp, B5.out⟩
  · go_wp2_with fail
    go_ret
    exact ⟨by simp [hk2], B5.out⟩

set_option maxRecDepth 100000 in
set_option maxHeartbeats 4000000 in
theorem pages_none_hi (v : Value) (l : List Ar) (fr pg q : Int) (w : World) (hr : ArRd w v l) (hwl : ∀ a ∈ l, a.Wf) (hlen : l.length ≤ 16) (hok : OkL l) (hq : 0 ≤ q ∧ q < 65536) (hfr : (Lit.int .i64 fr).wf = true) (hpg : (Lit.int .i64 pg).wf = true) (hrr : RightA fr pg) (h16 : (cutA l fr pg).length ≤ 16) (hin : fr + pg ≤ q % 4096) (hnn : findA l (q % 4096) = none ∧ findA (cutA l fr pg) (q % 4096) = none) :
    Calls Try.prog 5 #[v, .int .i64 fr, .int .i64 pg, .int .u16 q] w fun e w' => e = .returned (.bool true) ∧ Below w.heap.size w w' := by
  have hli := Lib.hid (List_ref w v l hr hwl)
  have HOK := Lib.hid hok
  obtain ⟨av, cv, rfl, _, _⟩ := ArRd.fm hr
  have HR := Lib.hid hr
  have h40 : ¬ (16 : Int) < l.length := by omega
  obtain ⟨q0, q1⟩ := hq
  clear hr hwl hok
  have HRR := Lib.hid hrr
  have HL16 := Lib.hid h16
  have HP1 : Hid (0 ≤ q % 4096 ∧ q % 4096 < 4096) := by show _ ∧ _; omega
  have hfa := Lib.hid (fun W (h : ArRd W (.slice av l.length cv) l) => Find_walk W _ l h (q % 4096) HOK.out.1 HP1.out)
  have hfb := Lib.hid (fun W v (h : ArRd W v (cutA l fr pg)) => Find_walk W v _ h (q % 4096) (cutA_sound HOK.out.1 hrr) HP1.out)
  obtain ⟨r1, r2, r3, r4⟩ := hrr
  obtain ⟨pp, hpp⟩ : ∃ pp, pp = q % 4096 := ⟨_, rfl⟩
  have hp0 : 0 ≤ pp ∧ pp < 4096 := by rw [hpp]; exact HP1.out
  have t1 : q.tmod 4096 = pp := by rw [hpp, Int.tmod_eq_emod_of_nonneg q0]
  have t2 : IntKind.u16.wrap pp = pp := by simp [IntKind.wrap, IntKind.bits, IntKind.signed]; omega
  have t3 : IntKind.i64.wrap pp = pp := by simp [IntKind.wrap, IntKind.bits, IntKind.signed]; omega
  have t4 : IntKind.i64.wrap (fr + pg) = fr + pg := by simp [IntKind.wrap, IntKind.bits, IntKind.signed]; omega
  rw [← hpp] at hfa hfb
  obtain ⟨hn1, hn2⟩ := hnn
  rw [← hpp] at hn1 hn2 hin
  rw [hn1] at hfa
  rw [hn2] at hfb
  clear hpp hn1 hn2
  have i1 : fr ≤ pp := by omega
  have i2 : ¬ pp < fr + pg := by omega
  simp only [Option.getD_none, Option.isSome_none, Ar.enc] at hfa hfb
  clear hfr hpg h16
  go_enter Try.func5, Try.ntmps5
  go_wp2_with fail
  refine hli.out.mono ?_
  rintro e w1 ⟨b, rfl, hb, b1⟩
  obtain rfl : b = true := hb.2 ((okTo_iff l).2 HOK.out)
  have B1 := Lib.hid b1
  clear hb b1 hli
  go_wp2_with fail
  refine (Cut_walk w1 _ l (HR.out.below B1.out) HOK.out.1 (by omega) fr pg).mono ?_
  rintro e w2 ⟨vm, xm, rfl, b2, _, hc1, hc2, hc3⟩
  have B2 := Lib.hid (B1.out.trans (b2.mono B1.out.size))
  obtain ⟨rfl, hat⟩ := hc2 HRR.out HL16.out
  have A2 := Lib.hid hat.rd
  clear hc1 hc2 hc3 b2
  obtain ⟨am, cm, rfl, _, _⟩ := SlAt.form hat
  clear hat
  go_wp2_with fail
  refine (hfa.out w2 (HR.out.below B2.out)).mono ?_
  rintro e w3 ⟨rfl, b3⟩
  have B3 := Lib.hid (B2.out.trans (b3.mono B2.out.size))
  have A3 := Lib.hid (A2.out.below b3)
  clear b3
  have BA := Lib.hid (B3.out.alloc B3.out.size (.cells #[.int .i64 0, .int .i64 0, .bool false, .int .i64 0, .int .i64 0, .int .i64 0] 23))
  have KA : Hid ((w3.alloc (.cells #[.int .i64 0, .int .i64 0, .bool false, .int .i64 0, .int .i64 0, .int .i64 0] 23)).heap[w3.heap.size]? = some (.cells #[.int .i64 0, .int .i64 0, .bool false, .int .i64 0, .int .i64 0, .int .i64 0] 23 (0, 0))) := heap_alloc_new w3 _
  have AA := Lib.hid (A3.out.below ((Below.refl _ _).alloc (Nat.le_refl _) (.cells #[.int .i64 0, .int .i64 0, .bool false, .int .i64 0, .int .i64 0, .int .i64 0] 23)))
  go_wp2_with fail
  generalize w3.alloc _ = W3 at *
  refine (hfb.out W3 _ AA.out).mono ?_
  rintro e w4 ⟨rfl, b4⟩
  have B4 := Lib.hid (BA.out.trans (b4.mono BA.out.size))
  have K4 := Lib.hid ((b4.block w3.heap.size (Array.getElem?_eq_some_iff.1 KA.out).1).trans KA.out)
  have N4 : Hid (w3.heap.size < w4.heap.size) := (Array.getElem?_eq_some_iff.1 K4.out).1
  clear b4 BA KA AA A3
  have BB := Lib.hid (B4.out.alloc B4.out.size (.cells #[.int .i64 0, .int .i64 0, .bool false, .int .i64 0, .int .i64 0, .int .i64 0] 23))
  have KB : Hid ((w4.alloc (.cells #[.int .i64 0, .int .i64 0, .bool false, .int .i64 0, .int .i64 0, .int .i64 0] 23)).heap[w4.heap.size]? = some (.cells #[.int .i64 0, .int .i64 0, .bool false, .int .i64 0, .int .i64 0, .int .i64 0] 23 (0, 0))) := heap_alloc_new w4 _
  have KC : Hid ((w4.alloc (.cells #[.int .i64 0, .int .i64 0, .bool false, .int .i64 0, .int .i64 0, .int .i64 0] 23)).heap[w3.heap.size]? = _) := (Below.heap_alloc w4 _ w3.heap.size N4.out).trans K4.out
  go_wp2_with fail
  generalize w4.alloc _ = W4 at *
  refine (answersA W4).mono ?_
  rintro e w5 ⟨rfl, b5⟩
  have B5 := Lib.hid (BB.out.trans (b5.mono BB.out.size))
  obtain ⟨e0, e1, e2, e3, e4, e5⟩ := area_cells ((b5.block w4.heap.size (Array.getElem?_eq_some_iff.1 KB.out).1).trans KB.out)
  obtain ⟨f0, f1, f2, f3, f4, f5⟩ := area_cells ((b5.block w3.heap.size (Array.getElem?_eq_some_iff.1 KC.out).1).trans KC.out)
  clear b5
  go_wp2_with fail
  go_ret
  exact ⟨by simp, B5.out⟩

set_option maxRecDepth 100000 in
set_option maxHeartbeats 4000000 in
theorem pages_some_hi (v : Value) (l : List Ar) (fr pg q : Int) (w : World) (hr : ArRd w v l) (hwl : ∀ a ∈ l, a.Wf) (hlen : l.length ≤ 16) (hok : OkL l) (hq : 0 ≤ q ∧ q < 65536) (hfr : (Lit.int .i64 fr).wf = true) (hpg : (Lit.int .i64 pg).wf = true) (hrr : RightA fr pg) (h16 : (cutA l fr pg).length ≤ 16) (hin : fr + pg ≤ q % 4096) (a b : Ar) (hna : findA l (q % 4096) = some a) (hnb : findA (cutA l fr pg) (q % 4096) = some b) (hsp : SameP a b a.write) :
    Calls Try.prog 5 #[v, .int .i64 fr, .int .i64 pg, .int .u16 q] w fun e w' => e = .returned (.bool true) ∧ Below w.heap.size w w' := by
  have hli := Lib.hid (List_ref w v l hr hwl)
  have HOK := Lib.hid hok
  obtain ⟨av, cv, rfl, _, _⟩ := ArRd.fm hr
  have HR := Lib.hid hr
  have h40 : ¬ (16 : Int) < l.length := by omega
  obtain ⟨q0, q1⟩ := hq
  clear hr hwl hok
  have HRR := Lib.hid hrr
  have HL16 := Lib.hid h16
  have HP1 : Hid (0 ≤ q % 4096 ∧ q % 4096 < 4096) := by show _ ∧ _; omega
  have hfa := Lib.hid (fun W (h : ArRd W (.slice av l.length cv) l) => Find_walk W _ l h (q % 4096) HOK.out.1 HP1.out)
  have hfb := Lib.hid (fun W v (h : ArRd W v (cutA l fr pg)) => Find_walk W v _ h (q % 4096) (cutA_sound HOK.out.1 hrr) HP1.out)
  obtain ⟨r1, r2, r3, r4⟩ := hrr
  obtain ⟨pp, hpp⟩ : ∃ pp, pp = q % 4096 := ⟨_, rfl⟩
  have hp0 : 0 ≤ pp ∧ pp < 4096 := by rw [hpp]; exact HP1.out
  have t1 : q.tmod 4096 = pp := by rw [hpp, Int.tmod_eq_emod_of_nonneg q0]
  have t2 : IntKind.u16.wrap pp = pp := by simp [IntKind.wrap, IntKind.bits, IntKind.signed]; omega
  have t3 : IntKind.i64.wrap pp = pp := by simp [IntKind.wrap, IntKind.bits, IntKind.signed]; omega
  have t4 : IntKind.i64.wrap (fr + pg) = fr + pg := by simp [IntKind.wrap, IntKind.bits, IntKind.signed]; omega
  rw [← hpp] at hfa hfb
  rw [← hpp] at hna hnb hin
  rw [hna] at hfa
  rw [hnb] at hfb
  have hsa := HOK.out.1 a (List.mem_of_find?_eq_some hna)
  have hsb := cutA_sound HOK.out.1 HRR.out b (List.mem_of_find?_eq_some hnb)
  clear hpp hna hnb
  have i1 : fr ≤ pp := by omega
  have i2 : ¬ pp < fr + pg := by omega
  simp only [Option.getD_some, Option.isSome_some, Ar.enc] at hfa hfb
  obtain ⟨f, p, wt, k, fi, o⟩ := a
  obtain ⟨f', p', wt', k', fi', o'⟩ := b
  obtain ⟨h1, h2, h3, h4⟩ := hsp
  obtain ⟨_, _, sa1, sa2, sa3, sa4, sa5⟩ := hsa
  obtain ⟨_, _, sb1, sb2, sb3, sb4, sb5⟩ := hsb
  simp only at h1 h2 h3 h4 hfa hfb sa1 sa2 sa3 sa4 sa5 sb1 sb2 sb3 sb4 sb5
  subst h1 h2 h3
  have w1 : IntKind.i64.wrap (o + pp) = o + pp := by simp [IntKind.wrap, IntKind.bits, IntKind.signed]; omega
  have w2 : IntKind.i64.wrap (o' + pp) = o' + pp := by simp [IntKind.wrap, IntKind.bits, IntKind.signed]; omega
  have w3' : IntKind.i64.wrap (o + pp - f) = o + pp - f := by simp [IntKind.wrap, IntKind.bits, IntKind.signed]; omega
  have w4' : IntKind.i64.wrap (o' + pp - f') = o' + pp - f' := by simp [IntKind.wrap, IntKind.bits, IntKind.signed]; omega
  have hk1 : (k == 1) = true ∨ (k == 1) = false ∧ o + pp - f = o' + pp - f' := by
    by_cases hk : k = 1
    · exact .inl (by simpa using hk)
    · exact .inr ⟨by simpa using hk, by omega⟩
  clear sa1 sa2 sa3 sa4 sa5 sb1 sb2 sb3 sb4 sb5 h4
  clear hfr hpg h16
  go_enter Try.func5, Try.ntmps5
  go_wp2_with fail
  refine hli.out.mono ?_
  rintro e w1 ⟨b, rfl, hb, b1⟩
  obtain rfl : b = true := hb.2 ((okTo_iff l).2 HOK.out)
  have B1 := Lib.hid b1
  clear hb b1 hli
  go_wp2_with fail
  refine (Cut_walk w1 _ l (HR.out.below B1.out) HOK.out.1 (by omega) fr pg).mono ?_
  rintro e w2 ⟨vm, xm, rfl, b2, _, hc1, hc2, hc3⟩
  have B2 := Lib.hid (B1.out.trans (b2.mono B1.out.size))
  obtain ⟨rfl, hat⟩ := hc2 HRR.out HL16.out
  have A2 := Lib.hid hat.rd
  clear hc1 hc2 hc3 b2
  obtain ⟨am, cm, rfl, _, _⟩ := SlAt.form hat
  clear hat
  go_wp2_with fail
  refine (hfa.out w2 (HR.out.below B2.out)).mono ?_
  rintro e w3 ⟨rfl, b3⟩
  have B3 := Lib.hid (B2.out.trans (b3.mono B2.out.size))
  have A3 := Lib.hid (A2.out.below b3)
  clear b3
  have BA := Lib.hid (B3.out.alloc B3.out.size (.cells #[.int .i64 f, .int .i64 p, .bool wt', .int .i64 k, .int .i64 fi, .int .i64 o] 23))
  have KA : Hid ((w3.alloc (.cells #[.int .i64 f, .int .i64 p, .bool wt', .int .i64 k, .int .i64 fi, .int .i64 o] 23)).heap[w3.heap.size]? = some (.cells #[.int .i64 f, .int .i64 p, .bool wt', .int .i64 k, .int .i64 fi, .int .i64 o] 23 (0, 0))) := heap_alloc_new w3 _
  have AA := Lib.hid (A3.out.below ((Below.refl _ _).alloc (Nat.le_refl _) (.cells #[.int .i64 f, .int .i64 p, .bool wt', .int .i64 k, .int .i64 fi, .int .i64 o] 23)))
  go_wp2_with fail
  generalize w3.alloc _ = W3 at *
  refine (hfb.out W3 _ AA.out).mono ?_
  rintro e w4 ⟨rfl, b4⟩
  have B4 := Lib.hid (BA.out.trans (b4.mono BA.out.size))
  have K4 := Lib.hid ((b4.block w3.heap.size (Array.getElem?_eq_some_iff.1 KA.out).1).trans KA.out)
  have N4 : Hid (w3.heap.size < w4.heap.size) := (Array.getElem?_eq_some_iff.1 K4.out).1
  clear b4 BA KA AA A3
  have BB := Lib.hid (B4.out.alloc B4.out.size (.cells #[.int .i64 f', .int .i64 p', .bool wt', .int .i64 k, .int .i64 fi, .int .i64 o'] 23))
  have KB : Hid ((w4.alloc (.cells #[.int .i64 f', .int .i64 p', .bool wt', .int .i64 k, .int .i64 fi, .int .i64 o'] 23)).heap[w4.heap.size]? = some (.cells #[.int .i64 f', .int .i64 p', .bool wt', .int .i64 k, .int .i64 fi, .int .i64 o'] 23 (0, 0))) := heap_alloc_new w4 _
  have KC : Hid ((w4.alloc (.cells #[.int .i64 f', .int .i64 p', .bool wt', .int .i64 k, .int .i64 fi, .int .i64 o'] 23)).heap[w3.heap.size]? = _) := (Below.heap_alloc w4 _ w3.heap.size N4.out).trans K4.out
  go_wp2_with fail
  generalize w4.alloc _ = W4 at *
  refine (answersA W4).mono ?_
  rintro e w5 ⟨rfl, b5⟩
  have B5 := Lib.hid (BB.out.trans (b5.mono BB.out.size))
  obtain ⟨e0, e1, e2, e3, e4, e5⟩ := area_cells ((b5.block w4.heap.size (Array.getElem?_eq_some_iff.1 KB.out).1).trans KB.out)
  obtain ⟨f0, f1, f2, f3, f4, f5⟩ := area_cells ((b5.block w3.heap.size (Array.getElem?_eq_some_iff.1 KC.out).1).trans KC.out)
  clear b5
  rcases hk1 with hk1 | ⟨hk1, hk2⟩
  · go_wp2_with fail
    go_ret
    exact ⟨by simp, B5.out⟩
  · go_wp2_with fail
    go_ret
    exact ⟨by simp [hk2], B5.out⟩

theorem pages_row (v : Value) (l : List Ar) (fr pg q : Int) (w : World) (hr : SlRd w 6 v l.length (l.flatMap Ar.cells)) (hwl : ∀ a ∈ l, a.Wf) (hfr : (Lit.int .i64 fr).wf = true) (hpg : (Lit.int .i64 pg).wf = true) (hq : (Lit.int .u16 q).wf = true) :
    Calls Try.prog 5 #[v, .int .i64 fr, .int .i64 pg, .int .u16 q] w fun e w' => e = .returned (.bool true) ∧ Below w.heap.size w w' := by
  have hq' : 0 ≤ q ∧ q < 65536 := by simp [Lit.wf, IntKind.min, IntKind.max, IntKind.signed, IntKind.bits] at hq; omega
  by_cases hlen : l.length ≤ 16
  · by_cases hok : OkL l
    · by_cases hrr : RightA fr pg
      · by_cases h16 : (cutA l fr pg).length ≤ 16
        · have hc := find_cut (l := l) (fr := fr) (pg := pg) (p := q % 4096) (by omega) hrr
          by_cases h1 : q % 4096 < fr
          · rcases hc.2 (by omega) with hn | ⟨a, b, ha, hb, hs⟩
            · exact pages_none_lo v l fr pg q w hr hwl hlen hok hq' hfr hpg hrr h16 h1 hn
            · exact pages_some_lo v l fr pg q w hr hwl hlen hok hq' hfr hpg hrr h16 h1 a b ha hb hs
          · by_cases h2 : fr + pg ≤ q % 4096
            · rcases hc.2 (by omega) with hn | ⟨a, b, ha, hb, hs⟩
              · exact pages_none_hi v l fr pg q w hr hwl hlen hok hq' hfr hpg hrr h16 h2 hn
              · exact pages_some_hi v l fr pg q w hr hwl hlen hok hq' hfr hpg hrr h16 h2 a b ha hb hs
            · exact pages_in v l fr pg q w hr hwl hlen hok hq' hfr hpg hrr h16 (by omega)
        · exact pages_full v l fr pg q w hr hwl hlen hok hq' hfr hpg hrr (by omega)
      · exact pages_right v l fr pg q w hr hwl hlen hok hq' hfr hpg hrr
    · exact pages_bad v l fr pg q w hr hwl hlen hok
  · exact pages_long v l fr pg q w hr (by omega)
end Go.Proofs.Ytcghenehcpogpaa
