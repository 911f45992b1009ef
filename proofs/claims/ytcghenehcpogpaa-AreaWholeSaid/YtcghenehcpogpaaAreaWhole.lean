/- AreaWhole: the law's walk. -/
import Derived.Test.YtcghenehcpogpaaAreaPages
namespace Go.Proofs.Ytcghenehcpogpaa
open Go Go.RowKit

theorem protA_sound {l : List Ar} (h : ∀ a ∈ l, a.Sound) {fr pg : Int} (hr : RightA fr pg) (b : Bool) : ∀ a ∈ protA l fr pg b, a.Sound := by
  obtain ⟨r1, r2, r3, r4⟩ := hr
  intro a ha
  unfold protA at ha
  rcases List.mem_append.1 ha with ha | ha
  · rcases List.mem_append.1 ha with ha | ha
    · exact piecesA_sound h (by omega) (by omega) a ha
    · obtain ⟨z, hz, rfl⟩ := List.mem_map.1 ha
      exact piecesA_sound h (by omega) (by omega) z hz
  · exact piecesA_sound h (by omega) (by omega) a ha

set_option linter.unusedVariables false in
set_option maxRecDepth 100000 in
set_option maxHeartbeats 4000000 in
theorem whole_long (v : Value) (l : List Ar) (fr pg q : Int) (w : World) (hr : ArRd w v l) (hlen : 5 < l.length) :
    Calls Try.prog 7 #[v, .int .i64 fr, .int .i64 pg, .int .u16 q] w fun e w' => e = .returned (.bool true) ∧ Below w.heap.size w w' := by
  obtain ⟨av, cv, rfl, _, _⟩ := ArRd.fm hr
  have h40 : (5 : Int) < l.length := by omega
  clear hr
  go_enter Try.func7, Try.ntmps7
  go_wp2_with fail
  refine (ans_tail w (Below.refl _ _) (Nat.le_refl _)).mono ?_
  rintro e w1 ⟨rfl, b1⟩
  go_wp2_with fail
  go_ret
  exact ⟨rfl, b1⟩

set_option linter.unusedVariables false in
set_option maxRecDepth 100000 in
set_option maxHeartbeats 4000000 in
theorem whole_bad (v : Value) (l : List Ar) (fr pg q : Int) (w : World) (hr : ArRd w v l) (hwl : ∀ a ∈ l, a.Wf) (hlen : l.length ≤ 5) (hok : ¬ OkL l) :
    Calls Try.prog 7 #[v, .int .i64 fr, .int .i64 pg, .int .u16 q] w fun e w' => e = .returned (.bool true) ∧ Below w.heap.size w w' := by
  have HOK := Lib.hid hok
  have hli := Lib.hid (List_ref w v l hr hwl)
  obtain ⟨av, cv, rfl, _, _⟩ := ArRd.fm hr
  have h40 : ¬ (5 : Int) < l.length := by omega
  clear hr hok hwl
  go_enter Try.func7, Try.ntmps7
  go_wp2_with fail
  refine hli.out.mono ?_
  rintro e w1 ⟨b, rfl, hb, b1⟩
  obtain rfl : b = false := by
    cases b
    · rfl
    · exact absurd ((okTo_iff l).1 (hb.1 rfl)) HOK.out
  clear hb
  go_wp2_with fail
  refine (ans_tail w1 b1 b1.size).mono ?_
  rintro e w2 ⟨rfl, b2⟩
  go_wp2_with fail
  go_ret
  exact ⟨rfl, b2⟩

set_option linter.unusedVariables false in
set_option maxRecDepth 100000 in
set_option maxHeartbeats 4000000 in
theorem whole_right (v : Value) (l : List Ar) (fr pg q : Int) (w : World) (hr : ArRd w v l) (hwl : ∀ a ∈ l, a.Wf) (hlen : l.length ≤ 5) (hok : OkL l) (hq : 0 ≤ q ∧ q < 65536) (hrr : ¬ RightA fr pg) :
    Calls Try.prog 7 #[v, .int .i64 fr, .int .i64 pg, .int .u16 q] w fun e w' => e = .returned (.bool true) ∧ Below w.heap.size w w' := by
  have hli := Lib.hid (List_ref w v l hr hwl)
  have HOK := Lib.hid hok
  obtain ⟨av, cv, rfl, _, _⟩ := ArRd.fm hr
  have HR := Lib.hid hr
  have h40 : ¬ (5 : Int) < l.length := by omega
  obtain ⟨q0, q1⟩ := hq
  clear hr hwl hok
  have hdr : decide (RightA fr pg) = false := decide_eq_false hrr
  go_enter Try.func7, Try.ntmps7
  go_wp2_with fail
  refine hli.out.mono ?_
  rintro e w1 ⟨b, rfl, hb, b1⟩
  obtain rfl : b = true := hb.2 ((okTo_iff l).2 HOK.out)
  have B1 := Lib.hid b1
  clear hb b1 hli
  go_wp2_with fail
  refine (Right_ref w1 fr pg).mono ?_
  rintro e w1 ⟨rfl, rfl⟩
  rw [hdr]
  go_wp2_with fail
  refine (ans_tail w1 B1.out B1.out.size).mono ?_
  rintro e w2 ⟨rfl, b2⟩
  go_wp2_with fail
  go_ret
  exact ⟨rfl, b2⟩

set_option linter.unusedVariables false in
set_option maxRecDepth 100000 in
set_option maxHeartbeats 4000000 in
theorem whole_none (v : Value) (l : List Ar) (fr pg q : Int) (w : World) (hr : ArRd w v l) (hwl : ∀ a ∈ l, a.Wf) (hlen : l.length ≤ 5) (hok : OkL l) (hq : 0 ≤ q ∧ q < 65536) (hrr : RightA fr pg) (hin : piecesA l fr (fr + pg) = []) :
    Calls Try.prog 7 #[v, .int .i64 fr, .int .i64 pg, .int .u16 q] w fun e w' => e = .returned (.bool true) ∧ Below w.heap.size w w' := by
  have hli := Lib.hid (List_ref w v l hr hwl)
  have HOK := Lib.hid hok
  obtain ⟨av, cv, rfl, _, _⟩ := ArRd.fm hr
  have HR := Lib.hid hr
  have h40 : ¬ (5 : Int) < l.length := by omega
  obtain ⟨q0, q1⟩ := hq
  clear hr hwl hok
  have hdr : decide (RightA fr pg) = true := decide_eq_true hrr
  have HRR := Lib.hid hrr
  have HIN := Lib.hid hin
  clear hrr hin
  go_enter Try.func7, Try.ntmps7
  go_wp2_with fail
  refine hli.out.mono ?_
  rintro e w1 ⟨b, rfl, hb, b1⟩
  obtain rfl : b = true := hb.2 ((okTo_iff l).2 HOK.out)
  have B1 := Lib.hid b1
  clear hb b1 hli
  go_wp2_with fail
  refine (Right_ref w1 fr pg).mono ?_
  rintro e w1 ⟨rfl, rfl⟩
  rw [hdr]
  go_wp2_with fail
  refine (Cut_walk w1 _ l (HR.out.below B1.out) HOK.out.1 (by omega) 0 4096).mono ?_
  rintro e w2 ⟨vm, xm, rfl, b2, _, hc1, hc2, hc3⟩
  rw [cut_all] at hc2
  have B2 := Lib.hid (B1.out.trans (b2.mono B1.out.size))
  obtain ⟨rfl, hat⟩ := hc2 (by unfold RightA; omega) (by simp)
  obtain ⟨am, cm, rfl, _, _⟩ := SlAt.form hat
  clear hat hc1 hc2 hc3 b2
  go_wp2_with fail
  refine (Protect_walk w2 _ l (HR.out.below B2.out) HOK.out.1 (by omega) fr pg false).mono ?_
  rintro e w3 ⟨vm, xm, rfl, b3, hc1, hc2, hc3, hc4⟩
  have B3 := Lib.hid (B2.out.trans (b3.mono B2.out.size))
  obtain ⟨rfl, rfl⟩ := hc2 HRR.out HIN.out
  clear hc1 hc2 hc3 hc4 b3
  go_wp2_with fail
  refine (ans_tail w3 B3.out B3.out.size).mono ?_
  rintro e w4 ⟨rfl, b4⟩
  go_wp2_with fail
  go_ret
  exact ⟨rfl, b4⟩

set_option linter.unusedVariables false in
set_option maxRecDepth 100000 in
set_option maxHeartbeats 4000000 in
theorem whole_full (v : Value) (l : List Ar) (fr pg q : Int) (w : World) (hr : ArRd w v l) (hwl : ∀ a ∈ l, a.Wf) (hlen : l.length ≤ 5) (hok : OkL l) (hq : 0 ≤ q ∧ q < 65536) (hrr : RightA fr pg) (hin : piecesA l fr (fr + pg) ≠ []) (h16 : 16 < (protA l fr pg false).length) :
    Calls Try.prog 7 #[v, .int .i64 fr, .int .i64 pg, .int .u16 q] w fun e w' => e = .returned (.bool true) ∧ Below w.heap.size w w' := by
  have hli := Lib.hid (List_ref w v l hr hwl)
  have HOK := Lib.hid hok
  obtain ⟨av, cv, rfl, _, _⟩ := ArRd.fm hr
  have HR := Lib.hid hr
  have h40 : ¬ (5 : Int) < l.length := by omega
  obtain ⟨q0, q1⟩ := hq
  clear hr hwl hok
  have hdr : decide (RightA fr pg) = true := decide_eq_true hrr
  have HRR := Lib.hid hrr
  have HIN := Lib.hid hin
  have H16 := Lib.hid h16
  clear hrr hin h16
  go_enter Try.func7, Try.ntmps7
  go_wp2_with fail
  refine hli.out.mono ?_
  rintro e w1 ⟨b, rfl, hb, b1⟩
  obtain rfl : b = true := hb.2 ((okTo_iff l).2 HOK.out)
  have B1 := Lib.hid b1
  clear hb b1 hli
  go_wp2_with fail
  refine (Right_ref w1 fr pg).mono ?_
  rintro e w1 ⟨rfl, rfl⟩
  rw [hdr]
  go_wp2_with fail
  refine (Cut_walk w1 _ l (HR.out.below B1.out) HOK.out.1 (by omega) 0 4096).mono ?_
  rintro e w2 ⟨vm, xm, rfl, b2, _, hc1, hc2, hc3⟩
  rw [cut_all] at hc2
  have B2 := Lib.hid (B1.out.trans (b2.mono B1.out.size))
  obtain ⟨rfl, hat⟩ := hc2 (by unfold RightA; omega) (by simp)
  obtain ⟨am, cm, rfl, _, _⟩ := SlAt.form hat
  clear hat hc1 hc2 hc3 b2
  go_wp2_with fail
  refine (Protect_walk w2 _ l (HR.out.below B2.out) HOK.out.1 (by omega) fr pg false).mono ?_
  rintro e w3 ⟨vm, xm, rfl, b3, hc1, hc2, hc3, hc4⟩
  have B3 := Lib.hid (B2.out.trans (b3.mono B2.out.size))
  obtain ⟨rfl, rfl⟩ := hc4 HRR.out HIN.out H16.out
  clear hc1 hc2 hc3 hc4 b3
  go_wp2_with fail
  refine (ans_tail w3 B3.out B3.out.size).mono ?_
  rintro e w4 ⟨rfl, b4⟩
  go_wp2_with fail
  go_ret
  exact ⟨rfl, b4⟩

set_option linter.unusedVariables false in
set_option maxRecDepth 100000 in
set_option maxHeartbeats 4000000 in
theorem whole_n_lo (v : Value) (l : List Ar) (fr pg q : Int) (w : World) (hr : ArRd w v l) (hwl : ∀ a ∈ l, a.Wf) (hlen : l.length ≤ 5) (hok : OkL l) (hq : 0 ≤ q ∧ q < 65536) (hrr : RightA fr pg) (hin : piecesA l fr (fr + pg) ≠ []) (h16 : (protA l fr pg false).length ≤ 16) (hreg : q % 4096 < fr) (hfind : findA l (q % 4096) = none ∧ findA (protA l fr pg false) (q % 4096) = none) :
    Calls Try.prog 7 #[v, .int .i64 fr, .int .i64 pg, .int .u16 q] w fun e w' => e = .returned (.bool true) ∧ Below w.heap.size w w' := by
  have hli := Lib.hid (List_ref w v l hr hwl)
  have HOK := Lib.hid hok
  obtain ⟨av, cv, rfl, _, _⟩ := ArRd.fm hr
  have HR := Lib.hid hr
  have h40 : ¬ (5 : Int) < l.length := by omega
  obtain ⟨q0, q1⟩ := hq
  clear hr hwl hok
  have hdr : decide (RightA fr pg) = true := decide_eq_true hrr
  have HRR := Lib.hid hrr
  have HIN := Lib.hid hin
  have HL16 := Lib.hid h16
  have HP1 : Hid (0 ≤ q % 4096 ∧ q % 4096 < 4096) := by show _ ∧ _; omega
  have hfa := Lib.hid (fun W (h : ArRd W (.slice av l.length cv) l) => Find_walk W _ l h (q % 4096) HOK.out.1 HP1.out)
  have hfb := Lib.hid (fun W v (h : ArRd W v (protA l fr pg false)) => Find_walk W v _ h (q % 4096) (protA_sound HOK.out.1 hrr false) HP1.out)
  obtain ⟨r1, r2, r3, r4⟩ := hrr
  obtain ⟨pp, hpp⟩ : ∃ pp, pp = q % 4096 := ⟨_, rfl⟩
  have hp0 : 0 ≤ pp ∧ pp < 4096 := by rw [hpp]; exact HP1.out
  have t1 : q.tmod 4096 = pp := by rw [hpp, Int.tmod_eq_emod_of_nonneg q0]
  have t2 : IntKind.u16.wrap pp = pp := by simp [IntKind.wrap, IntKind.bits, IntKind.signed]; omega
  have t3 : IntKind.i64.wrap pp = pp := by simp [IntKind.wrap, IntKind.bits, IntKind.signed]; omega
  have t4 : IntKind.i64.wrap (fr + pg) = fr + pg := by simp [IntKind.wrap, IntKind.bits, IntKind.signed]; omega
  rw [← hpp] at hfa hfb hfind hreg
  have i1 : ¬ fr ≤ pp := by omega
  rw [hfind.1] at hfa
  rw [hfind.2] at hfb
  simp only [Option.getD_none, Option.isSome_none, Ar.enc] at hfa hfb
  clear hin h16 hfind hpp
  go_enter Try.func7, Try.ntmps7
  go_wp2_with fail
  refine hli.out.mono ?_
  rintro e w1 ⟨b, rfl, hb, b1⟩
  obtain rfl : b = true := hb.2 ((okTo_iff l).2 HOK.out)
  have B1 := Lib.hid b1
  clear hb b1 hli
  go_wp2_with fail
  refine (Right_ref w1 fr pg).mono ?_
  rintro e w1 ⟨rfl, rfl⟩
  rw [hdr]
  go_wp2_with fail
  refine (Cut_walk w1 _ l (HR.out.below B1.out) HOK.out.1 (by omega) 0 4096).mono ?_
  rintro e w2 ⟨vm, xm, rfl, b2, _, hc1, hc2, hc3⟩
  rw [cut_all] at hc2
  have B2 := Lib.hid (B1.out.trans (b2.mono B1.out.size))
  obtain ⟨rfl, hat⟩ := hc2 (by unfold RightA; omega) (by simp)
  obtain ⟨am, cm, rfl, _, _⟩ := SlAt.form hat
  clear hat hc1 hc2 hc3 b2
  go_wp2_with fail
  refine (Protect_walk w2 _ l (HR.out.below B2.out) HOK.out.1 (by omega) fr pg false).mono ?_
  rintro e w3 ⟨vm, xm, rfl, b3, hc1, hc2, hc3, hc4⟩
  have B3 := Lib.hid (B2.out.trans (b3.mono B2.out.size))
  obtain ⟨rfl, hat⟩ := hc3 HRR.out HIN.out HL16.out
  have A2 := Lib.hid hat.rd
  clear hc1 hc2 hc3 hc4 b3
  obtain ⟨ap, cp, rfl, _, _⟩ := SlAt.form hat
  clear hat
  go_wp2_with fail
  refine (hfa.out w3 (HR.out.below B3.out)).mono ?_
  rintro e w4 ⟨rfl, b4⟩
  have B4 := Lib.hid (B3.out.trans (b4.mono B3.out.size))
  have A4 := Lib.hid (A2.out.below b4)
  clear b4
  have BA := Lib.hid (B4.out.alloc B4.out.size (.cells #[.int .i64 0, .int .i64 0, .bool false, .int .i64 0, .int .i64 0, .int .i64 0] 23))
  have KA : Hid ((w4.alloc (.cells #[.int .i64 0, .int .i64 0, .bool false, .int .i64 0, .int .i64 0, .int .i64 0] 23)).heap[w4.heap.size]? = some (.cells #[.int .i64 0, .int .i64 0, .bool false, .int .i64 0, .int .i64 0, .int .i64 0] 23 (0, 0))) := heap_alloc_new w4 _
  have AA := Lib.hid (A4.out.below ((Below.refl _ _).alloc (Nat.le_refl _) (.cells #[.int .i64 0, .int .i64 0, .bool false, .int .i64 0, .int .i64 0, .int .i64 0] 23)))
  go_wp2_with fail
  generalize w4.alloc _ = W4 at *
  refine (hfb.out W4 _ AA.out).mono ?_
  rintro e w5 ⟨rfl, b5⟩
  have B5 := Lib.hid (BA.out.trans (b5.mono BA.out.size))
  have K5 := Lib.hid ((b5.block w4.heap.size (Array.getElem?_eq_some_iff.1 KA.out).1).trans KA.out)
  have N5 : Hid (w4.heap.size < w5.heap.size) := (Array.getElem?_eq_some_iff.1 K5.out).1
  clear b5 BA KA AA A4
  have BB := Lib.hid (B5.out.alloc B5.out.size (.cells #[.int .i64 0, .int .i64 0, .bool false, .int .i64 0, .int .i64 0, .int .i64 0] 23))
  have KB : Hid ((w5.alloc (.cells #[.int .i64 0, .int .i64 0, .bool false, .int .i64 0, .int .i64 0, .int .i64 0] 23)).heap[w5.heap.size]? = some (.cells #[.int .i64 0, .int .i64 0, .bool false, .int .i64 0, .int .i64 0, .int .i64 0] 23 (0, 0))) := heap_alloc_new w5 _
  have KC : Hid ((w5.alloc (.cells #[.int .i64 0, .int .i64 0, .bool false, .int .i64 0, .int .i64 0, .int .i64 0] 23)).heap[w4.heap.size]? = _) := (Below.heap_alloc w5 _ w4.heap.size N5.out).trans K5.out
  go_wp2_with fail
  generalize w5.alloc _ = W5 at *
  refine (answersA W5).mono ?_
  rintro e w6 ⟨rfl, b6⟩
  have B6 := Lib.hid (BB.out.trans (b6.mono BB.out.size))
  obtain ⟨e0, e1, e2, e3, e4, e5⟩ := area_cells ((b6.block w5.heap.size (Array.getElem?_eq_some_iff.1 KB.out).1).trans KB.out)
  obtain ⟨f0, f1, f2, f3, f4, f5⟩ := area_cells ((b6.block w4.heap.size (Array.getElem?_eq_some_iff.1 KC.out).1).trans KC.out)
  clear b6
  go_wp2_with fail
  go_ret
  exact ⟨by simp, B6.out⟩

set_option linter.unusedVariables false in
set_option maxRecDepth 100000 in
set_option maxHeartbeats 4000000 in
theorem whole_s_lo (v : Value) (l : List Ar) (fr pg q : Int) (w : World) (hr : ArRd w v l) (hwl : ∀ a ∈ l, a.Wf) (hlen : l.length ≤ 5) (hok : OkL l) (hq : 0 ≤ q ∧ q < 65536) (hrr : RightA fr pg) (hin : piecesA l fr (fr + pg) ≠ []) (h16 : (protA l fr pg false).length ≤ 16) (hreg : q % 4096 < fr) (a b : Ar) (hfind : findA l (q % 4096) = some a ∧ findA (protA l fr pg false) (q % 4096) = some b) (h1 : a.kind = b.kind) (h2 : b.write = a.write) :
    Calls Try.prog 7 #[v, .int .i64 fr, .int .i64 pg, .int .u16 q] w fun e w' => e = .returned (.bool true) ∧ Below w.heap.size w w' := by
  have hli := Lib.hid (List_ref w v l hr hwl)
  have HOK := Lib.hid hok
  obtain ⟨av, cv, rfl, _, _⟩ := ArRd.fm hr
  have HR := Lib.hid hr
  have h40 : ¬ (5 : Int) < l.length := by omega
  obtain ⟨q0, q1⟩ := hq
  clear hr hwl hok
  have hdr : decide (RightA fr pg) = true := decide_eq_true hrr
  have HRR := Lib.hid hrr
  have HIN := Lib.hid hin
  have HL16 := Lib.hid h16
  have HP1 : Hid (0 ≤ q % 4096 ∧ q % 4096 < 4096) := by show _ ∧ _; omega
  have hfa := Lib.hid (fun W (h : ArRd W (.slice av l.length cv) l) => Find_walk W _ l h (q % 4096) HOK.out.1 HP1.out)
  have hfb := Lib.hid (fun W v (h : ArRd W v (protA l fr pg false)) => Find_walk W v _ h (q % 4096) (protA_sound HOK.out.1 hrr false) HP1.out)
  obtain ⟨r1, r2, r3, r4⟩ := hrr
  obtain ⟨pp, hpp⟩ : ∃ pp, pp = q % 4096 := ⟨_, rfl⟩
  have hp0 : 0 ≤ pp ∧ pp < 4096 := by rw [hpp]; exact HP1.out
  have t1 : q.tmod 4096 = pp := by rw [hpp, Int.tmod_eq_emod_of_nonneg q0]
  have t2 : IntKind.u16.wrap pp = pp := by simp [IntKind.wrap, IntKind.bits, IntKind.signed]; omega
  have t3 : IntKind.i64.wrap pp = pp := by simp [IntKind.wrap, IntKind.bits, IntKind.signed]; omega
  have t4 : IntKind.i64.wrap (fr + pg) = fr + pg := by simp [IntKind.wrap, IntKind.bits, IntKind.signed]; omega
  rw [← hpp] at hfa hfb hfind hreg
  have i1 : ¬ fr ≤ pp := by omega
  rw [hfind.1] at hfa
  rw [hfind.2] at hfb
  simp only [Option.getD_some, Option.isSome_some, Ar.enc] at hfa hfb
  obtain ⟨f, p, wt, k, fi, o⟩ := a
  obtain ⟨f', p', wt', k', fi', o'⟩ := b
  simp only at h1 h2 hfa hfb
  have h2 := h2.symm
  subst h1 h2
  clear hin h16 hfind hpp
  go_enter Try.func7, Try.ntmps7
  go_wp2_with fail
  refine hli.out.mono ?_
  rintro e w1 ⟨b, rfl, hb, b1⟩
  obtain rfl : b = true := hb.2 ((okTo_iff l).2 HOK.out)
  have B1 := Lib.hid b1
  clear hb b1 hli
  go_wp2_with fail
  refine (Right_ref w1 fr pg).mono ?_
  rintro e w1 ⟨rfl, rfl⟩
  rw [hdr]
  go_wp2_with fail
  refine (Cut_walk w1 _ l (HR.out.below B1.out) HOK.out.1 (by omega) 0 4096).mono ?_
  rintro e w2 ⟨vm, xm, rfl, b2, _, hc1, hc2, hc3⟩
  rw [cut_all] at hc2
  have B2 := Lib.hid (B1.out.trans (b2.mono B1.out.size))
  obtain ⟨rfl, hat⟩ := hc2 (by unfold RightA; omega) (by simp)
  obtain ⟨am, cm, rfl, _, _⟩ := SlAt.form hat
  clear hat hc1 hc2 hc3 b2
  go_wp2_with fail
  refine (Protect_walk w2 _ l (HR.out.below B2.out) HOK.out.1 (by omega) fr pg false).mono ?_
  rintro e w3 ⟨vm, xm, rfl, b3, hc1, hc2, hc3, hc4⟩
  have B3 := Lib.hid (B2.out.trans (b3.mono B2.out.size))
  obtain ⟨rfl, hat⟩ := hc3 HRR.out HIN.out HL16.out
  have A2 := Lib.hid hat.rd
  clear hc1 hc2 hc3 hc4 b3
  obtain ⟨ap, cp, rfl, _, _⟩ := SlAt.form hat
  clear hat
  go_wp2_with fail
  refine (hfa.out w3 (HR.out.below B3.out)).mono ?_
  rintro e w4 ⟨rfl, b4⟩
  have B4 := Lib.hid (B3.out.trans (b4.mono B3.out.size))
  have A4 := Lib.hid (A2.out.below b4)
  clear b4
  have BA := Lib.hid (B4.out.alloc B4.out.size (.cells #[.int .i64 f, .int .i64 p, .bool wt, .int .i64 k, .int .i64 fi, .int .i64 o] 23))
  have KA : Hid ((w4.alloc (.cells #[.int .i64 f, .int .i64 p, .bool wt, .int .i64 k, .int .i64 fi, .int .i64 o] 23)).heap[w4.heap.size]? = some (.cells #[.int .i64 f, .int .i64 p, .bool wt, .int .i64 k, .int .i64 fi, .int .i64 o] 23 (0, 0))) := heap_alloc_new w4 _
  have AA := Lib.hid (A4.out.below ((Below.refl _ _).alloc (Nat.le_refl _) (.cells #[.int .i64 f, .int .i64 p, .bool wt, .int .i64 k, .int .i64 fi, .int .i64 o] 23)))
  go_wp2_with fail
  generalize w4.alloc _ = W4 at *
  refine (hfb.out W4 _ AA.out).mono ?_
  rintro e w5 ⟨rfl, b5⟩
  have B5 := Lib.hid (BA.out.trans (b5.mono BA.out.size))
  have K5 := Lib.hid ((b5.block w4.heap.size (Array.getElem?_eq_some_iff.1 KA.out).1).trans KA.out)
  have N5 : Hid (w4.heap.size < w5.heap.size) := (Array.getElem?_eq_some_iff.1 K5.out).1
  clear b5 BA KA AA A4
  have BB := Lib.hid (B5.out.alloc B5.out.size (.cells #[.int .i64 f', .int .i64 p', .bool wt, .int .i64 k, .int .i64 fi', .int .i64 o'] 23))
  have KB : Hid ((w5.alloc (.cells #[.int .i64 f', .int .i64 p', .bool wt, .int .i64 k, .int .i64 fi', .int .i64 o'] 23)).heap[w5.heap.size]? = some (.cells #[.int .i64 f', .int .i64 p', .bool wt, .int .i64 k, .int .i64 fi', .int .i64 o'] 23 (0, 0))) := heap_alloc_new w5 _
  have KC : Hid ((w5.alloc (.cells #[.int .i64 f', .int .i64 p', .bool wt, .int .i64 k, .int .i64 fi', .int .i64 o'] 23)).heap[w4.heap.size]? = _) := (Below.heap_alloc w5 _ w4.heap.size N5.out).trans K5.out
  go_wp2_with fail
  generalize w5.alloc _ = W5 at *
  refine (answersA W5).mono ?_
  rintro e w6 ⟨rfl, b6⟩
  have B6 := Lib.hid (BB.out.trans (b6.mono BB.out.size))
  obtain ⟨e0, e1, e2, e3, e4, e5⟩ := area_cells ((b6.block w5.heap.size (Array.getElem?_eq_some_iff.1 KB.out).1).trans KB.out)
  obtain ⟨f0, f1, f2, f3, f4, f5⟩ := area_cells ((b6.block w4.heap.size (Array.getElem?_eq_some_iff.1 KC.out).1).trans KC.out)
  clear b6
  cases wt
  · go_wp2_with fail
    go_ret
    exact ⟨by first | (simp; done) | (simp; omega), B6.out⟩
  · go_wp2_with fail
    go_ret
    exact ⟨by first | (simp; done) | (simp; omega), B6.out⟩

set_option linter.unusedVariables false in
set_option maxRecDepth 100000 in
set_option maxHeartbeats 4000000 in
theorem whole_n_in (v : Value) (l : List Ar) (fr pg q : Int) (w : World) (hr : ArRd w v l) (hwl : ∀ a ∈ l, a.Wf) (hlen : l.length ≤ 5) (hok : OkL l) (hq : 0 ≤ q ∧ q < 65536) (hrr : RightA fr pg) (hin : piecesA l fr (fr + pg) ≠ []) (h16 : (protA l fr pg false).length ≤ 16) (hreg : fr ≤ q % 4096 ∧ q % 4096 < fr + pg) (hfind : findA l (q % 4096) = none ∧ findA (protA l fr pg false) (q % 4096) = none) :
    Calls Try.prog 7 #[v, .int .i64 fr, .int .i64 pg, .int .u16 q] w fun e w' => e = .returned (.bool true) ∧ Below w.heap.size w w' := by
  have hli := Lib.hid (List_ref w v l hr hwl)
  have HOK := Lib.hid hok
  obtain ⟨av, cv, rfl, _, _⟩ := ArRd.fm hr
  have HR := Lib.hid hr
  have h40 : ¬ (5 : Int) < l.length := by omega
  obtain ⟨q0, q1⟩ := hq
  clear hr hwl hok
  have hdr : decide (RightA fr pg) = true := decide_eq_true hrr
  have HRR := Lib.hid hrr
  have HIN := Lib.hid hin
  have HL16 := Lib.hid h16
  have HP1 : Hid (0 ≤ q % 4096 ∧ q % 4096 < 4096) := by show _ ∧ _; omega
  have hfa := Lib.hid (fun W (h : ArRd W (.slice av l.length cv) l) => Find_walk W _ l h (q % 4096) HOK.out.1 HP1.out)
  have hfb := Lib.hid (fun W v (h : ArRd W v (protA l fr pg false)) => Find_walk W v _ h (q % 4096) (protA_sound HOK.out.1 hrr false) HP1.out)
  obtain ⟨r1, r2, r3, r4⟩ := hrr
  obtain ⟨pp, hpp⟩ : ∃ pp, pp = q % 4096 := ⟨_, rfl⟩
  have hp0 : 0 ≤ pp ∧ pp < 4096 := by rw [hpp]; exact HP1.out
  have t1 : q.tmod 4096 = pp := by rw [hpp, Int.tmod_eq_emod_of_nonneg q0]
  have t2 : IntKind.u16.wrap pp = pp := by simp [IntKind.wrap, IntKind.bits, IntKind.signed]; omega
  have t3 : IntKind.i64.wrap pp = pp := by simp [IntKind.wrap, IntKind.bits, IntKind.signed]; omega
  have t4 : IntKind.i64.wrap (fr + pg) = fr + pg := by simp [IntKind.wrap, IntKind.bits, IntKind.signed]; omega
  rw [← hpp] at hfa hfb hfind hreg
  obtain ⟨i1, i2⟩ := hreg
  rw [hfind.1] at hfa
  rw [hfind.2] at hfb
  simp only [Option.getD_none, Option.isSome_none, Ar.enc] at hfa hfb
  clear hin h16 hfind hpp
  go_enter Try.func7, Try.ntmps7
  go_wp2_with fail
  refine hli.out.mono ?_
  rintro e w1 ⟨b, rfl, hb, b1⟩
  obtain rfl : b = true := hb.2 ((okTo_iff l).2 HOK.out)
  have B1 := Lib.hid b1
  clear hb b1 hli
  go_wp2_with fail
  refine (Right_ref w1 fr pg).mono ?_
  rintro e w1 ⟨rfl, rfl⟩
  rw [hdr]
  go_wp2_with fail
  refine (Cut_walk w1 _ l (HR.out.below B1.out) HOK.out.1 (by omega) 0 4096).mono ?_
  rintro e w2 ⟨vm, xm, rfl, b2, _, hc1, hc2, hc3⟩
  rw [cut_all] at hc2
  have B2 := Lib.hid (B1.out.trans (b2.mono B1.out.size))
  obtain ⟨rfl, hat⟩ := hc2 (by unfold RightA; omega) (by simp)
  obtain ⟨am, cm, rfl, _, _⟩ := SlAt.form hat
  clear hat hc1 hc2 hc3 b2
  go_wp2_with fail
  refine (Protect_walk w2 _ l (HR.out.below B2.out) HOK.out.1 (by omega) fr pg false).mono ?_
  rintro e w3 ⟨vm, xm, rfl, b3, hc1, hc2, hc3, hc4⟩
  have B3 := Lib.hid (B2.out.trans (b3.mono B2.out.size))
  obtain ⟨rfl, hat⟩ := hc3 HRR.out HIN.out HL16.out
  have A2 := Lib.hid hat.rd
  clear hc1 hc2 hc3 hc4 b3
  obtain ⟨ap, cp, rfl, _, _⟩ := SlAt.form hat
  clear hat
  go_wp2_with fail
  refine (hfa.out w3 (HR.out.below B3.out)).mono ?_
  rintro e w4 ⟨rfl, b4⟩
  have B4 := Lib.hid (B3.out.trans (b4.mono B3.out.size))
  have A4 := Lib.hid (A2.out.below b4)
  clear b4
  have BA := Lib.hid (B4.out.alloc B4.out.size (.cells #[.int .i64 0, .int .i64 0, .bool false, .int .i64 0, .int .i64 0, .int .i64 0] 23))
  have KA : Hid ((w4.alloc (.cells #[.int .i64 0, .int .i64 0, .bool false, .int .i64 0, .int .i64 0, .int .i64 0] 23)).heap[w4.heap.size]? = some (.cells #[.int .i64 0, .int .i64 0, .bool false, .int .i64 0, .int .i64 0, .int .i64 0] 23 (0, 0))) := heap_alloc_new w4 _
  have AA := Lib.hid (A4.out.below ((Below.refl _ _).alloc (Nat.le_refl _) (.cells #[.int .i64 0, .int .i64 0, .bool false, .int .i64 0, .int .i64 0, .int .i64 0] 23)))
  go_wp2_with fail
  generalize w4.alloc _ = W4 at *
  refine (hfb.out W4 _ AA.out).mono ?_
  rintro e w5 ⟨rfl, b5⟩
  have B5 := Lib.hid (BA.out.trans (b5.mono BA.out.size))
  have K5 := Lib.hid ((b5.block w4.heap.size (Array.getElem?_eq_some_iff.1 KA.out).1).trans KA.out)
  have N5 : Hid (w4.heap.size < w5.heap.size) := (Array.getElem?_eq_some_iff.1 K5.out).1
  clear b5 BA KA AA A4
  have BB := Lib.hid (B5.out.alloc B5.out.size (.cells #[.int .i64 0, .int .i64 0, .bool false, .int .i64 0, .int .i64 0, .int .i64 0] 23))
  have KB : Hid ((w5.alloc (.cells #[.int .i64 0, .int .i64 0, .bool false, .int .i64 0, .int .i64 0, .int .i64 0] 23)).heap[w5.heap.size]? = some (.cells #[.int .i64 0, .int .i64 0, .bool false, .int .i64 0, .int .i64 0, .int .i64 0] 23 (0, 0))) := heap_alloc_new w5 _
  have KC : Hid ((w5.alloc (.cells #[.int .i64 0, .int .i64 0, .bool false, .int .i64 0, .int .i64 0, .int .i64 0] 23)).heap[w4.heap.size]? = _) := (Below.heap_alloc w5 _ w4.heap.size N5.out).trans K5.out
  go_wp2_with fail
  generalize w5.alloc _ = W5 at *
  refine (answersA W5).mono ?_
  rintro e w6 ⟨rfl, b6⟩
  have B6 := Lib.hid (BB.out.trans (b6.mono BB.out.size))
  obtain ⟨e0, e1, e2, e3, e4, e5⟩ := area_cells ((b6.block w5.heap.size (Array.getElem?_eq_some_iff.1 KB.out).1).trans KB.out)
  obtain ⟨f0, f1, f2, f3, f4, f5⟩ := area_cells ((b6.block w4.heap.size (Array.getElem?_eq_some_iff.1 KC.out).1).trans KC.out)
  clear b6
  go_wp2_with fail
  go_ret
  exact ⟨by simp, B6.out⟩

set_option linter.unusedVariables false in
set_option maxRecDepth 100000 in
set_option maxHeartbeats 4000000 in
theorem whole_s_in (v : Value) (l : List Ar) (fr pg q : Int) (w : World) (hr : ArRd w v l) (hwl : ∀ a ∈ l, a.Wf) (hlen : l.length ≤ 5) (hok : OkL l) (hq : 0 ≤ q ∧ q < 65536) (hrr : RightA fr pg) (hin : piecesA l fr (fr + pg) ≠ []) (h16 : (protA l fr pg false).length ≤ 16) (hreg : fr ≤ q % 4096 ∧ q % 4096 < fr + pg) (a b : Ar) (hfind : findA l (q % 4096) = some a ∧ findA (protA l fr pg false) (q % 4096) = some b) (h1 : a.kind = b.kind) (h2 : b.write = false) :
    Calls Try.prog 7 #[v, .int .i64 fr, .int .i64 pg, .int .u16 q] w fun e w' => e = .returned (.bool true) ∧ Below w.heap.size w w' := by
  have hli := Lib.hid (List_ref w v l hr hwl)
  have HOK := Lib.hid hok
  obtain ⟨av, cv, rfl, _, _⟩ := ArRd.fm hr
  have HR := Lib.hid hr
  have h40 : ¬ (5 : Int) < l.length := by omega
  obtain ⟨q0, q1⟩ := hq
  clear hr hwl hok
  have hdr : decide (RightA fr pg) = true := decide_eq_true hrr
  have HRR := Lib.hid hrr
  have HIN := Lib.hid hin
  have HL16 := Lib.hid h16
  have HP1 : Hid (0 ≤ q % 4096 ∧ q % 4096 < 4096) := by show _ ∧ _; omega
  have hfa := Lib.hid (fun W (h : ArRd W (.slice av l.length cv) l) => Find_walk W _ l h (q % 4096) HOK.out.1 HP1.out)
  have hfb := Lib.hid (fun W v (h : ArRd W v (protA l fr pg false)) => Find_walk W v _ h (q % 4096) (protA_sound HOK.out.1 hrr false) HP1.out)
  obtain ⟨r1, r2, r3, r4⟩ := hrr
  obtain ⟨pp, hpp⟩ : ∃ pp, pp = q % 4096 := ⟨_, rfl⟩
  have hp0 : 0 ≤ pp ∧ pp < 4096 := by rw [hpp]; exact HP1.out
  have t1 : q.tmod 4096 = pp := by rw [hpp, Int.tmod_eq_emod_of_nonneg q0]
  have t2 : IntKind.u16.wrap pp = pp := by simp [IntKind.wrap, IntKind.bits, IntKind.signed]; omega
  have t3 : IntKind.i64.wrap pp = pp := by simp [IntKind.wrap, IntKind.bits, IntKind.signed]; omega
  have t4 : IntKind.i64.wrap (fr + pg) = fr + pg := by simp [IntKind.wrap, IntKind.bits, IntKind.signed]; omega
  rw [← hpp] at hfa hfb hfind hreg
  obtain ⟨i1, i2⟩ := hreg
  rw [hfind.1] at hfa
  rw [hfind.2] at hfb
  simp only [Option.getD_some, Option.isSome_some, Ar.enc] at hfa hfb
  obtain ⟨f, p, wt, k, fi, o⟩ := a
  obtain ⟨f', p', wt', k', fi', o'⟩ := b
  simp only at h1 h2 hfa hfb
  have h2 := h2.symm
  subst h1 h2
  clear hin h16 hfind hpp
  go_enter Try.func7, Try.ntmps7
  go_wp2_with fail
  refine hli.out.mono ?_
  rintro e w1 ⟨b, rfl, hb, b1⟩
  obtain rfl : b = true := hb.2 ((okTo_iff l).2 HOK.out)
  have B1 := Lib.hid b1
  clear hb b1 hli
  go_wp2_with fail
  refine (Right_ref w1 fr pg).mono ?_
  rintro e w1 ⟨rfl, rfl⟩
  rw [hdr]
  go_wp2_with fail
  refine (Cut_walk w1 _ l (HR.out.below B1.out) HOK.out.1 (by omega) 0 4096).mono ?_
  rintro e w2 ⟨vm, xm, rfl, b2, _, hc1, hc2, hc3⟩
  rw [cut_all] at hc2
  have B2 := Lib.hid (B1.out.trans (b2.mono B1.out.size))
  obtain ⟨rfl, hat⟩ := hc2 (by unfold RightA; omega) (by simp)
  obtain ⟨am, cm, rfl, _, _⟩ := SlAt.form hat
  clear hat hc1 hc2 hc3 b2
  go_wp2_with fail
  refine (Protect_walk w2 _ l (HR.out.below B2.out) HOK.out.1 (by omega) fr pg false).mono ?_
  rintro e w3 ⟨vm, xm, rfl, b3, hc1, hc2, hc3, hc4⟩
  have B3 := Lib.hid (B2.out.trans (b3.mono B2.out.size))
  obtain ⟨rfl, hat⟩ := hc3 HRR.out HIN.out HL16.out
  have A2 := Lib.hid hat.rd
  clear hc1 hc2 hc3 hc4 b3
  obtain ⟨ap, cp, rfl, _, _⟩ := SlAt.form hat
  clear hat
  go_wp2_with fail
  refine (hfa.out w3 (HR.out.below B3.out)).mono ?_
  rintro e w4 ⟨rfl, b4⟩
  have B4 := Lib.hid (B3.out.trans (b4.mono B3.out.size))
  have A4 := Lib.hid (A2.out.below b4)
  clear b4
  have BA := Lib.hid (B4.out.alloc B4.out.size (.cells #[.int .i64 f, .int .i64 p, .bool wt, .int .i64 k, .int .i64 fi, .int .i64 o] 23))
  have KA : Hid ((w4.alloc (.cells #[.int .i64 f, .int .i64 p, .bool wt, .int .i64 k, .int .i64 fi, .int .i64 o] 23)).heap[w4.heap.size]? = some (.cells #[.int .i64 f, .int .i64 p, .bool wt, .int .i64 k, .int .i64 fi, .int .i64 o] 23 (0, 0))) := heap_alloc_new w4 _
  have AA := Lib.hid (A4.out.below ((Below.refl _ _).alloc (Nat.le_refl _) (.cells #[.int .i64 f, .int .i64 p, .bool wt, .int .i64 k, .int .i64 fi, .int .i64 o] 23)))
  go_wp2_with fail
  generalize w4.alloc _ = W4 at *
  refine (hfb.out W4 _ AA.out).mono ?_
  rintro e w5 ⟨rfl, b5⟩
  have B5 := Lib.hid (BA.out.trans (b5.mono BA.out.size))
  have K5 := Lib.hid ((b5.block w4.heap.size (Array.getElem?_eq_some_iff.1 KA.out).1).trans KA.out)
  have N5 : Hid (w4.heap.size < w5.heap.size) := (Array.getElem?_eq_some_iff.1 K5.out).1
  clear b5 BA KA AA A4
  have BB := Lib.hid (B5.out.alloc B5.out.size (.cells #[.int .i64 f', .int .i64 p', .bool false, .int .i64 k, .int .i64 fi', .int .i64 o'] 23))
  have KB : Hid ((w5.alloc (.cells #[.int .i64 f', .int .i64 p', .bool false, .int .i64 k, .int .i64 fi', .int .i64 o'] 23)).heap[w5.heap.size]? = some (.cells #[.int .i64 f', .int .i64 p', .bool false, .int .i64 k, .int .i64 fi', .int .i64 o'] 23 (0, 0))) := heap_alloc_new w5 _
  have KC : Hid ((w5.alloc (.cells #[.int .i64 f', .int .i64 p', .bool false, .int .i64 k, .int .i64 fi', .int .i64 o'] 23)).heap[w4.heap.size]? = _) := (Below.heap_alloc w5 _ w4.heap.size N5.out).trans K5.out
  go_wp2_with fail
  generalize w5.alloc _ = W5 at *
  refine (answersA W5).mono ?_
  rintro e w6 ⟨rfl, b6⟩
  have B6 := Lib.hid (BB.out.trans (b6.mono BB.out.size))
  obtain ⟨e0, e1, e2, e3, e4, e5⟩ := area_cells ((b6.block w5.heap.size (Array.getElem?_eq_some_iff.1 KB.out).1).trans KB.out)
  obtain ⟨f0, f1, f2, f3, f4, f5⟩ := area_cells ((b6.block w4.heap.size (Array.getElem?_eq_some_iff.1 KC.out).1).trans KC.out)
  clear b6
  cases wt
  · go_wp2_with fail
    go_ret
    exact ⟨by first | (simp; done) | (simp; omega), B6.out⟩
  · go_wp2_with fail
    go_ret
    exact ⟨by first | (simp; done) | (simp; omega), B6.out⟩

set_option linter.unusedVariables false in
set_option maxRecDepth 100000 in
set_option maxHeartbeats 4000000 in
theorem whole_n_hi (v : Value) (l : List Ar) (fr pg q : Int) (w : World) (hr : ArRd w v l) (hwl : ∀ a ∈ l, a.Wf) (hlen : l.length ≤ 5) (hok : OkL l) (hq : 0 ≤ q ∧ q < 65536) (hrr : RightA fr pg) (hin : piecesA l fr (fr + pg) ≠ []) (h16 : (protA l fr pg false).length ≤ 16) (hreg : fr + pg ≤ q % 4096) (hfind : findA l (q % 4096) = none ∧ findA (protA l fr pg false) (q % 4096) = none) :
    Calls Try.prog 7 #[v, .int .i64 fr, .int .i64 pg, .int .u16 q] w fun e w' => e = .returned (.bool true) ∧ Below w.heap.size w w' := by
  have hli := Lib.hid (List_ref w v l hr hwl)
  have HOK := Lib.hid hok
  obtain ⟨av, cv, rfl, _, _⟩ := ArRd.fm hr
  have HR := Lib.hid hr
  have h40 : ¬ (5 : Int) < l.length := by omega
  obtain ⟨q0, q1⟩ := hq
  clear hr hwl hok
  have hdr : decide (RightA fr pg) = true := decide_eq_true hrr
  have HRR := Lib.hid hrr
  have HIN := Lib.hid hin
  have HL16 := Lib.hid h16
  have HP1 : Hid (0 ≤ q % 4096 ∧ q % 4096 < 4096) := by show _ ∧ _; omega
  have hfa := Lib.hid (fun W (h : ArRd W (.slice av l.length cv) l) => Find_walk W _ l h (q % 4096) HOK.out.1 HP1.out)
  have hfb := Lib.hid (fun W v (h : ArRd W v (protA l fr pg false)) => Find_walk W v _ h (q % 4096) (protA_sound HOK.out.1 hrr false) HP1.out)
  obtain ⟨r1, r2, r3, r4⟩ := hrr
  obtain ⟨pp, hpp⟩ : ∃ pp, pp = q % 4096 := ⟨_, rfl⟩
  have hp0 : 0 ≤ pp ∧ pp < 4096 := by rw [hpp]; exact HP1.out
  have t1 : q.tmod 4096 = pp := by rw [hpp, Int.tmod_eq_emod_of_nonneg q0]
  have t2 : IntKind.u16.wrap pp = pp := by simp [IntKind.wrap, IntKind.bits, IntKind.signed]; omega
  have t3 : IntKind.i64.wrap pp = pp := by simp [IntKind.wrap, IntKind.bits, IntKind.signed]; omega
  have t4 : IntKind.i64.wrap (fr + pg) = fr + pg := by simp [IntKind.wrap, IntKind.bits, IntKind.signed]; omega
  rw [← hpp] at hfa hfb hfind hreg
  have i1 : fr ≤ pp := by omega
  have i2 : ¬ pp < fr + pg := by omega
  rw [hfind.1] at hfa
  rw [hfind.2] at hfb
  simp only [Option.getD_none, Option.isSome_none, Ar.enc] at hfa hfb
  clear hin h16 hfind hpp
  go_enter Try.func7, Try.ntmps7
  go_wp2_with fail
  refine hli.out.mono ?_
  rintro e w1 ⟨b, rfl, hb, b1⟩
  obtain rfl : b = true := hb.2 ((okTo_iff l).2 HOK.out)
  have B1 := Lib.hid b1
  clear hb b1 hli
  go_wp2_with fail
  refine (Right_ref w1 fr pg).mono ?_
  rintro e w1 ⟨rfl, rfl⟩
  rw [hdr]
  go_wp2_with fail
  refine (Cut_walk w1 _ l (HR.out.below B1.out) HOK.out.1 (by omega) 0 4096).mono ?_
  rintro e w2 ⟨vm, xm, rfl, b2, _, hc1, hc2, hc3⟩
  rw [cut_all] at hc2
  have B2 := Lib.hid (B1.out.trans (b2.mono B1.out.size))
  obtain ⟨rfl, hat⟩ := hc2 (by unfold RightA; omega) (by simp)
  obtain ⟨am, cm, rfl, _, _⟩ := SlAt.form hat
  clear hat hc1 hc2 hc3 b2
  go_wp2_with fail
  refine (Protect_walk w2 _ l (HR.out.below B2.out) HOK.out.1 (by omega) fr pg false).mono ?_
  rintro e w3 ⟨vm, xm, rfl, b3, hc1, hc2, hc3, hc4⟩
  have B3 := Lib.hid (B2.out.trans (b3.mono B2.out.size))
  obtain ⟨rfl, hat⟩ := hc3 HRR.out HIN.out HL16.out
  have A2 := Lib.hid hat.rd
  clear hc1 hc2 hc3 hc4 b3
  obtain ⟨ap, cp, rfl, _, _⟩ := SlAt.form hat
  clear hat
  go_wp2_with fail
  refine (hfa.out w3 (HR.out.below B3.out)).mono ?_
  rintro e w4 ⟨rfl, b4⟩
  have B4 := Lib.hid (B3.out.trans (b4.mono B3.out.size))
  have A4 := Lib.hid (A2.out.below b4)
  clear b4
  have BA := Lib.hid (B4.out.alloc B4.out.size (.cells #[.int .i64 0, .int .i64 0, .bool false, .int .i64 0, .int .i64 0, .int .i64 0] 23))
  have KA : Hid ((w4.alloc (.cells #[.int .i64 0, .int .i64 0, .bool false, .int .i64 0, .int .i64 0, .int .i64 0] 23)).heap[w4.heap.size]? = some (.cells #[.int .i64 0, .int .i64 0, .bool false, .int .i64 0, .int .i64 0, .int .i64 0] 23 (0, 0))) := heap_alloc_new w4 _
  have AA := Lib.hid (A4.out.below ((Below.refl _ _).alloc (Nat.le_refl _) (.cells #[.int .i64 0, .int .i64 0, .bool false, .int .i64 0, .int .i64 0, .int .i64 0] 23)))
  go_wp2_with fail
  generalize w4.alloc _ = W4 at *
  refine (hfb.out W4 _ AA.out).mono ?_
  rintro e w5 ⟨rfl, b5⟩
  have B5 := Lib.hid (BA.out.trans (b5.mono BA.out.size))
  have K5 := Lib.hid ((b5.block w4.heap.size (Array.getElem?_eq_some_iff.1 KA.out).1).trans KA.out)
  have N5 : Hid (w4.heap.size < w5.heap.size) := (Array.getElem?_eq_some_iff.1 K5.out).1
  clear b5 BA KA AA A4
  have BB := Lib.hid (B5.out.alloc B5.out.size (.cells #[.int .i64 0, .int .i64 0, .bool false, .int .i64 0, .int .i64 0, .int .i64 0] 23))
  have KB : Hid ((w5.alloc (.cells #[.int .i64 0, .int .i64 0, .bool false, .int .i64 0, .int .i64 0, .int .i64 0] 23)).heap[w5.heap.size]? = some (.cells #[.int .i64 0, .int .i64 0, .bool false, .int .i64 0, .int .i64 0, .int .i64 0] 23 (0, 0))) := heap_alloc_new w5 _
  have KC : Hid ((w5.alloc (.cells #[.int .i64 0, .int .i64 0, .bool false, .int .i64 0, .int .i64 0, .int .i64 0] 23)).heap[w4.heap.size]? = _) := (Below.heap_alloc w5 _ w4.heap.size N5.out).trans K5.out
  go_wp2_with fail
  generalize w5.alloc _ = W5 at *
  refine (answersA W5).mono ?_
  rintro e w6 ⟨rfl, b6⟩
  have B6 := Lib.hid (BB.out.trans (b6.mono BB.out.size))
  obtain ⟨e0, e1, e2, e3, e4, e5⟩ := area_cells ((b6.block w5.heap.size (Array.getElem?_eq_some_iff.1 KB.out).1).trans KB.out)
  obtain ⟨f0, f1, f2, f3, f4, f5⟩ := area_cells ((b6.block w4.heap.size (Array.getElem?_eq_some_iff.1 KC.out).1).trans KC.out)
  clear b6
  go_wp2_with fail
  go_ret
  exact ⟨by simp, B6.out⟩

set_option linter.unusedVariables false in
set_option maxRecDepth 100000 in
set_option maxHeartbeats 4000000 in
theorem whole_s_hi (v : Value) (l : List Ar) (fr pg q : Int) (w : World) (hr : ArRd w v l) (hwl : ∀ a ∈ l, a.Wf) (hlen : l.length ≤ 5) (hok : OkL l) (hq : 0 ≤ q ∧ q < 65536) (hrr : RightA fr pg) (hin : piecesA l fr (fr + pg) ≠ []) (h16 : (protA l fr pg false).length ≤ 16) (hreg : fr + pg ≤ q % 4096) (a b : Ar) (hfind : findA l (q % 4096) = some a ∧ findA (protA l fr pg false) (q % 4096) = some b) (h1 : a.kind = b.kind) (h2 : b.write = a.write) :
    Calls Try.prog 7 #[v, .int .i64 fr, .int .i64 pg, .int .u16 q] w fun e w' => e = .returned (.bool true) ∧ Below w.heap.size w w' := by
  have hli := Lib.hid (List_ref w v l hr hwl)
  have HOK := Lib.hid hok
  obtain ⟨av, cv, rfl, _, _⟩ := ArRd.fm hr
  have HR := Lib.hid hr
  have h40 : ¬ (5 : Int) < l.length := by omega
  obtain ⟨q0, q1⟩ := hq
  clear hr hwl hok
  have hdr : decide (RightA fr pg) = true := decide_eq_true hrr
  have HRR := Lib.hid hrr
  have HIN := Lib.hid hin
  have HL16 := Lib.hid h16
  have HP1 : Hid (0 ≤ q % 4096 ∧ q % 4096 < 4096) := by show _ ∧ _; omega
  have hfa := Lib.hid (fun W (h : ArRd W (.slice av l.length cv) l) => Find_walk W _ l h (q % 4096) HOK.out.1 HP1.out)
  have hfb := Lib.hid (fun W v (h : ArRd W v (protA l fr pg false)) => Find_walk W v _ h (q % 4096) (protA_sound HOK.out.1 hrr false) HP1.out)
  obtain ⟨r1, r2, r3, r4⟩ := hrr
  obtain ⟨pp, hpp⟩ : ∃ pp, pp = q % 4096 := ⟨_, rfl⟩
  have hp0 : 0 ≤ pp ∧ pp < 4096 := by rw [hpp]; exact HP1.out
  have t1 : q.tmod 4096 = pp := by rw [hpp, Int.tmod_eq_emod_of_nonneg q0]
  have t2 : IntKind.u16.wrap pp = pp := by simp [IntKind.wrap, IntKind.bits, IntKind.signed]; omega
  have t3 : IntKind.i64.wrap pp = pp := by simp [IntKind.wrap, IntKind.bits, IntKind.signed]; omega
  have t4 : IntKind.i64.wrap (fr + pg) = fr + pg := by simp [IntKind.wrap, IntKind.bits, IntKind.signed]; omega
  rw [← hpp] at hfa hfb hfind hreg
  have i1 : fr ≤ pp := by omega
  have i2 : ¬ pp < fr + pg := by omega
  rw [hfind.1] at hfa
  rw [hfind.2] at hfb
  simp only [Option.getD_some, Option.isSome_some, Ar.enc] at hfa hfb
  obtain ⟨f, p, wt, k, fi, o⟩ := a
  obtain ⟨f', p', wt', k', fi', o'⟩ := b
  simp only at h1 h2 hfa hfb
  have h2 := h2.symm
  subst h1 h2
  clear hin h16 hfind hpp
  go_enter Try.func7, Try.ntmps7
  go_wp2_with fail
  refine hli.out.mono ?_
  rintro e w1 ⟨b, rfl, hb, b1⟩
  obtain rfl : b = true := hb.2 ((okTo_iff l).2 HOK.out)
  have B1 := Lib.hid b1
  clear hb b1 hli
  go_wp2_with fail
  refine (Right_ref w1 fr pg).mono ?_
  rintro e w1 ⟨rfl, rfl⟩
  rw [hdr]
  go_wp2_with fail
  refine (Cut_walk w1 _ l (HR.out.below B1.out) HOK.out.1 (by omega) 0 4096).mono ?_
  rintro e w2 ⟨vm, xm, rfl, b2, _, hc1, hc2, hc3⟩
  rw [cut_all] at hc2
  have B2 := Lib.hid (B1.out.trans (b2.mono B1.out.size))
  obtain ⟨rfl, hat⟩ := hc2 (by unfold RightA; omega) (by simp)
  obtain ⟨am, cm, rfl, _, _⟩ := SlAt.form hat
  clear hat hc1 hc2 hc3 b2
  go_wp2_with fail
  refine (Protect_walk w2 _ l (HR.out.below B2.out) HOK.out.1 (by omega) fr pg false).mono ?_
  rintro e w3 ⟨vm, xm, rfl, b3, hc1, hc2, hc3, hc4⟩
  have B3 := Lib.hid (B2.out.trans (b3.mono B2.out.size))
  obtain ⟨rfl, hat⟩ := hc3 HRR.out HIN.out HL16.out
  have A2 := Lib.hid hat.rd
  clear hc1 hc2 hc3 hc4 b3
  obtain ⟨ap, cp, rfl, _, _⟩ := SlAt.form hat
  clear hat
  go_wp2_with fail
  refine (hfa.out w3 (HR.out.below B3.out)).mono ?_
  rintro e w4 ⟨rfl, b4⟩
  have B4 := Lib.hid (B3.out.trans (b4.mono B3.out.size))
  have A4 := Lib.hid (A2.out.below b4)
  clear b4
  have BA := Lib.hid (B4.out.alloc B4.out.size (.cells #[.int .i64 f, .int .i64 p, .bool wt, .int .i64 k, .int .i64 fi, .int .i64 o] 23))
  have KA : Hid ((w4.alloc (.cells #[.int .i64 f, .int .i64 p, .bool wt, .int .i64 k, .int .i64 fi, .int .i64 o] 23)).heap[w4.heap.size]? = some (.cells #[.int .i64 f, .int .i64 p, .bool wt, .int .i64 k, .int .i64 fi, .int .i64 o] 23 (0, 0))) := heap_alloc_new w4 _
  have AA := Lib.hid (A4.out.below ((Below.refl _ _).alloc (Nat.le_refl _) (.cells #[.int .i64 f, .int .i64 p, .bool wt, .int .i64 k, .int .i64 fi, .int .i64 o] 23)))
  go_wp2_with fail
  generalize w4.alloc _ = W4 at *
  refine (hfb.out W4 _ AA.out).mono ?_
  rintro e w5 ⟨rfl, b5⟩
  have B5 := Lib.hid (BA.out.trans (b5.mono BA.out.size))
  have K5 := Lib.hid ((b5.block w4.heap.size (Array.getElem?_eq_some_iff.1 KA.out).1).trans KA.out)
  have N5 : Hid (w4.heap.size < w5.heap.size) := (Array.getElem?_eq_some_iff.1 K5.out).1
  clear b5 BA KA AA A4
  have BB := Lib.hid (B5.out.alloc B5.out.size (.cells #[.int .i64 f', .int .i64 p', .bool wt, .int .i64 k, .int .i64 fi', .int .i64 o'] 23))
  have KB : Hid ((w5.alloc (.cells #[.int .i64 f', .int .i64 p', .bool wt, .int .i64 k, .int .i64 fi', .int .i64 o'] 23)).heap[w5.heap.size]? = some (.cells #[.int .i64 f', .int .i64 p', .bool wt, .int .i64 k, .int .i64 fi', .int .i64 o'] 23 (0, 0))) := heap_alloc_new w5 _
  have KC : Hid ((w5.alloc (.cells #[.int .i64 f', .int .i64 p', .bool wt, .int .i64 k, .int .i64 fi', .int .i64 o'] 23)).heap[w4.heap.size]? = _) := (Below.heap_alloc w5 _ w4.heap.size N5.out).trans K5.out
  go_wp2_with fail
  generalize w5.alloc _ = W5 at *
  refine (answersA W5).mono ?_
  rintro e w6 ⟨rfl, b6⟩
  have B6 := Lib.hid (BB.out.trans (b6.mono BB.out.size))
  obtain ⟨e0, e1, e2, e3, e4, e5⟩ := area_cells ((b6.block w5.heap.size (Array.getElem?_eq_some_iff.1 KB.out).1).trans KB.out)
  obtain ⟨f0, f1, f2, f3, f4, f5⟩ := area_cells ((b6.block w4.heap.size (Array.getElem?_eq_some_iff.1 KC.out).1).trans KC.out)
  clear b6
  cases wt
  · go_wp2_with fail
    go_ret
    exact ⟨by first | (simp; done) | (simp; omega), B6.out⟩
  · go_wp2_with fail
    go_ret
    exact ⟨by first | (simp; done) | (simp; omega), B6.out⟩

theorem whole_row (v : Value) (l : List Ar) (fr pg q : Int) (w : World) (hr : SlRd w 6 v l.length (l.flatMap Ar.cells)) (hwl : ∀ a ∈ l, a.Wf) (hfr : (Lit.int .i64 fr).wf = true) (hpg : (Lit.int .i64 pg).wf = true) (hq : (Lit.int .u16 q).wf = true) :
    Calls Try.prog 7 #[v, .int .i64 fr, .int .i64 pg, .int .u16 q] w fun e w' => e = .returned (.bool true) ∧ Below w.heap.size w w' := by
  have hq' : 0 ≤ q ∧ q < 65536 := by simp [Lit.wf, IntKind.min, IntKind.max, IntKind.signed, IntKind.bits] at hq; omega
  by_cases hlen : l.length ≤ 5
  · by_cases hok : OkL l
    · by_cases hrr : RightA fr pg
      · by_cases hin : piecesA l fr (fr + pg) = []
        · exact whole_none v l fr pg q w hr hwl hlen hok hq' hrr hin
        · by_cases h16 : (protA l fr pg false).length ≤ 16
          · have hc := find_prot (l := l) (fr := fr) (pg := pg) (p := q % 4096) false (by omega) hrr
            by_cases h1 : q % 4096 < fr
            · rcases hc with hn | ⟨a, b, ha, hb, hs, ht⟩
              · exact whole_n_lo v l fr pg q w hr hwl hlen hok hq' hrr hin h16 h1 hn
              · rw [if_neg (by omega)] at ht
                exact whole_s_lo v l fr pg q w hr hwl hlen hok hq' hrr hin h16 h1 a b ⟨ha, hb⟩ hs ht
            · by_cases h2 : fr + pg ≤ q % 4096
              · rcases hc with hn | ⟨a, b, ha, hb, hs, ht⟩
                · exact whole_n_hi v l fr pg q w hr hwl hlen hok hq' hrr hin h16 h2 hn
                · rw [if_neg (by omega)] at ht
                  exact whole_s_hi v l fr pg q w hr hwl hlen hok hq' hrr hin h16 h2 a b ⟨ha, hb⟩ hs ht
              · rcases hc with hn | ⟨a, b, ha, hb, hs, ht⟩
                · exact whole_n_in v l fr pg q w hr hwl hlen hok hq' hrr hin h16 (by omega) hn
                · rw [if_pos (by omega)] at ht
                  exact whole_s_in v l fr pg q w hr hwl hlen hok hq' hrr hin h16 (by omega) a b ⟨ha, hb⟩ hs ht
          · exact whole_full v l fr pg q w hr hwl hlen hok hq' hrr hin (by omega)
      · exact whole_right v l fr pg q w hr hwl hlen hok hq' hrr
    · exact whole_bad v l fr pg q w hr hwl hlen hok
  · exact whole_long v l fr pg q w hr (by omega)
end Go.Proofs.Ytcghenehcpogpaa
