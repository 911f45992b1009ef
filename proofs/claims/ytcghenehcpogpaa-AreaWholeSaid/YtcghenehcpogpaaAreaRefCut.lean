/- The reference's areas: Cut. -/
import Derived.Test.YtcghenehcpogpaaAreaSplit
namespace Go.Proofs.Ytcghenehcpogpaa
open Go Go.RowKit

/-- The reference's order of what is left. -/
def refOut (l : List Ar) (fr pg : Int) : List Ar := l.flatMap fun a => pieceA a 0 fr ++ pieceA a (fr + pg) 4096
theorem refOut_length (l : List Ar) (fr pg : Int) : (refOut l fr pg).length ≤ 2 * l.length := by
  induction l with
  | nil => simp [refOut]
  | cons x l ih =>
    have h1 := pieceA_length x 0 fr
    have h2 := pieceA_length x (fr + pg) 4096
    simp only [refOut, List.flatMap_cons, List.length_append, List.length_cons] at ih ⊢
    omega

/-- What an append to the first of three lists leaves. -/
theorem Three.add {B : Nat} {w w' : World} {v1 v2 v3 v' : Value} {l1 l2 l3 m : List Ar} (h : Three B w v1 v2 v3 l1 l2 l3) (hB : B ≤ w.heap.size)
    (hs : SlAt w' 23 6 v' (l1.length + m.length) (ar l1 ++ ar m)) (hg : w.grownBy w' v1.ownBlock) (ho : v'.ownBlock = v1.ownBlock ∨ v'.ownBlock = some w.heap.size) :
    Three B w' v' v2 v3 (l1 ++ m) l2 l3 ∧ Below B w w' := by
  refine ⟨h.first hB ?_ hg ho, (Below.refl B w).grown hg hB h.b1⟩
  show SlAt _ _ _ _ _ _
  rw [List.length_append, ar_append]
  exact hs

set_option maxRecDepth 100000 in
set_option maxHeartbeats 8000000 in
theorem Cut_ref (w : World) (v : Value) (l : List Ar) (h : ArRd w v l) (hl : ∀ a ∈ l, a.Sound) (hlen : l.length ≤ 100) (fr pg : Int) (hf : 0 ≤ fr ∧ 1 ≤ pg ∧ fr + pg ≤ 4096) :
    Calls Try.prog 13 #[v, .int .i64 fr, .int .i64 pg] w fun e w' => ∃ v1 v2, e = .returned (.tuple #[v1, v2]) ∧ Three w.heap.size w' v1 v2 (.slice none 0 0) (refOut l fr pg) (piecesA l fr (fr + pg)) [] ∧ Below w.heap.size w w' := by
  obtain ⟨a, c, rfl, hc, hm⟩ := ArRd.fm h
  obtain ⟨f0, f1, f2⟩ := hf
  have H := Lib.hid h
  have HL := Lib.hid hl
  obtain ⟨n, hn⟩ : ∃ n, n = l.length := ⟨_, rfl⟩
  rw [← hn] at hc hlen ⊢ H
  have HN := Lib.hid hn
  clear hn h hl hm
  go_enter Try.func13, Try.ntmps13
  go_wp2_with fail
  obtain ⟨i0, hi0, hz0, hs0, hb0⟩ := infoArea
  go_loopw [8, 9, 10] (fun v1 v2 i wr => ∃ k : Nat, k ≤ n ∧ i = .int .i64 k ∧ Below w.heap.size w wr ∧ Three w.heap.size wr v1 v2 (.slice none 0 0) (refOut (l.take k) fr pg) (piecesA (l.take k) fr (fr + pg)) []) (fun _ _ i _ => n - (intOf i).toNat)
  case atStart => exact ⟨0, by omega, rfl, Below.refl _ _, Three.start _ _⟩
  case round =>
    obtain ⟨k, hk, rfl, hb, ht⟩ := hrel
    have HB := Lib.hid hb
    have HT := Lib.hid ht
    clear hb ht
    by_cases hlt : k < n
    · have hlt' : (k : Int) < n := by omega
      obtain ⟨y, hy⟩ : ∃ y, l[k]? = some y := ⟨_, List.getElem?_eq_getElem (by rw [← HN.out]; exact hlt)⟩
      obtain ⟨b, off, rfl⟩ := H.out.addr (by rw [← HN.out]; omega)
      have HQ : Hid (∀ X, Below w.heap.size w X → _) := fun X hX => (H.out.below hX).cell hy
      have hsy := Lib.hid (HL.out y (List.mem_of_getElem? hy))
      have hnx : Hid (refOut (l.take (k + 1)) fr pg = refOut (l.take k) fr pg ++ pieceA y 0 fr ++ pieceA y (fr + pg) 4096 ∧ piecesA (l.take (k + 1)) fr (fr + pg) = piecesA (l.take k) fr (fr + pg) ++ pieceA y fr (fr + pg)) := by
        rw [takeA hy]
        exact ⟨by simp [refOut], by simp [piecesA]⟩
      have hpl : Hid ((refOut (l.take k) fr pg).length ≤ 200 ∧ (piecesA (l.take k) fr (fr + pg)).length ≤ 100) := by
        have h1 := refOut_length (l.take k) fr pg
        have h2 := piecesA_length (l.take k) fr (fr + pg)
        rw [List.length_take] at h1 h2
        constructor <;> omega
      obtain ⟨R0, hR0⟩ : ∃ R0, R0 = refOut (l.take k) fr pg := ⟨_, rfl⟩
      obtain ⟨P0, hP0⟩ : ∃ P0, P0 = piecesA (l.take k) fr (fr + pg) := ⟨_, rfl⟩
      rw [← hR0, ← hP0] at hnx hpl HT
      clear hR0 hP0
      obtain ⟨f, p, wt, kd, fi, o⟩ := y
      simp only at HQ
      have w1 : IntKind.i64.wrap (fr + pg) = fr + pg := by simp [IntKind.wrap, IntKind.bits, IntKind.signed]; omega
      clear hy
      obtain ⟨e0, e1, e2, e3, e4, e5⟩ := HQ.out wr HB.out
      go_wp2_with fail
      clear e0 e1 e2 e3 e4 e5
      refine (piece_ref wr ⟨f, p, wt, kd, fi, o⟩ 0 fr hsy.out ⟨by omega, by omega⟩ ⟨by omega, by omega⟩).mono ?_
      rintro e X1 ⟨s1, rfl, hp1, b1, ho1⟩
      have TX1 := Lib.hid (HT.out.below b1)
      have BX1 := Lib.hid (HB.out.trans (b1.mono HB.out.size))
      have PX1 := Lib.hid hp1
      have pl1 : Hid ((pieceA ⟨f, p, wt, kd, fi, o⟩ 0 fr).length ≤ 1) := pieceA_length _ _ _
      clear b1 hp1 ho1
      go_wp2_with (at_builtin; refine wpList_append_any rfl _ _ 26 rfl i0 _ 48 Try.underlying26 hi0 hz0 hs0 hb0 rfl _ _ _ rfl TX1.out.a1 _ _ _ rfl PX1.out (ar_one _) ?d1 ?e1 ?f1)
      case d1 => have h1 := hpl.out.1; have h2 := pl1.out; simp only [maxLen]; omega
      case e1 => have h1 := hpl.out.1; have h2 := pl1.out; omega
      intro z1 W2 hs1 hg1 hw1
      obtain ⟨t1, c1⟩ := TX1.out.add BX1.out.size hs1 hg1 hw1
      have T2 := Lib.hid t1.turn
      have B2 := Lib.hid (BX1.out.trans c1)
      clear t1 c1 hs1 hg1 hw1 TX1 BX1 PX1
      obtain ⟨e0, e1, e2, e3, e4, e5⟩ := HQ.out W2 B2.out
      go_wp2_with fail
      clear e0 e1 e2 e3 e4 e5
      refine (piece_ref W2 ⟨f, p, wt, kd, fi, o⟩ fr (fr + pg) hsy.out ⟨by omega, by omega⟩ ⟨by omega, by omega⟩).mono ?_
      rintro e X2 ⟨s2, rfl, hp2, b2, ho2⟩
      have TX2 := Lib.hid (T2.out.below b2)
      have BX2 := Lib.hid (B2.out.trans (b2.mono B2.out.size))
      have PX2 := Lib.hid hp2
      have pl2 : Hid ((pieceA ⟨f, p, wt, kd, fi, o⟩ fr (fr + pg)).length ≤ 1) := pieceA_length _ _ _
      clear b2 hp2 ho2 T2 B2
      go_wp2_with (at_builtin; refine wpList_append_any rfl _ _ 26 rfl i0 _ 48 Try.underlying26 hi0 hz0 hs0 hb0 rfl _ _ _ rfl TX2.out.a1 _ _ _ rfl PX2.out (ar_one _) ?d2 ?e2 ?f2)
      case d2 => have h1 := hpl.out.2; have h2 := pl2.out; simp only [maxLen]; omega
      case e2 => have h1 := hpl.out.2; have h2 := pl2.out; omega
      intro z2 W3 hs2 hg2 hw2
      obtain ⟨t2, c2⟩ := TX2.out.add BX2.out.size hs2 hg2 hw2
      rw [← hnx.out.2] at t2
      have T3 := Lib.hid t2.turn.turn
      have B3 := Lib.hid (BX2.out.trans c2)
      clear t2 c2 hs2 hg2 hw2 TX2 BX2 PX2
      obtain ⟨e0, e1, e2, e3, e4, e5⟩ := HQ.out W3 B3.out
      go_wp2_with fail
      clear e0 e1 e2 e3 e4 e5
      refine (piece_ref W3 ⟨f, p, wt, kd, fi, o⟩ (fr + pg) 4096 hsy.out ⟨by omega, by omega⟩ ⟨by omega, by omega⟩).mono ?_
      rintro e X3 ⟨s3, rfl, hp3, b3, ho3⟩
      have TX3 := Lib.hid (T3.out.below b3)
      have BX3 := Lib.hid (B3.out.trans (b3.mono B3.out.size))
      have PX3 := Lib.hid hp3
      have pl3 : Hid ((pieceA ⟨f, p, wt, kd, fi, o⟩ (fr + pg) 4096).length ≤ 1) := pieceA_length _ _ _
      clear b3 hp3 ho3 T3 B3
      go_wp2_with (at_builtin; refine wpList_append_any rfl _ _ 26 rfl i0 _ 48 Try.underlying26 hi0 hz0 hs0 hb0 rfl _ _ _ rfl TX3.out.a1 _ _ _ rfl PX3.out (ar_one _) ?d3 ?e3 ?f3)
      case d3 => have h1 := hpl.out.1; have h2 := pl3.out; have h3 := pl1.out; simp only [maxLen, List.length_append]; omega
      case e3 => have h1 := hpl.out.1; have h2 := pl3.out; have h3 := pl1.out; simp only [List.length_append]; omega
      intro z3 W4 hs3 hg3 hw3
      rw [← List.length_append] at hs3
      obtain ⟨t3, c3⟩ := TX3.out.add BX3.out.size hs3 hg3 hw3
      rw [← hnx.out.1] at t3
      have T4 := Lib.hid t3
      have B4 := Lib.hid (BX3.out.trans c3)
      clear t3 c3 hs3 hg3 hw3 TX3 BX3 PX3
      go_wp2_with fail
      go_roundw
      case rel => exact ⟨k + 1, by omega, by go_num, B4.out, T4.out⟩
      case measure => simp [intOf]; omega
    · have e : l.take k = l := List.take_of_length_le (by rw [← HN.out]; omega)
      rw [e] at HT
      go_wp2_with fail
      exact bodyPost_ret (v := .tuple #[u8, u9]) (by simp [results, Try.results13, go_sem]) rfl ⟨_, _, rfl, HT.out, HB.out⟩
end Go.Proofs.Ytcghenehcpogpaa
