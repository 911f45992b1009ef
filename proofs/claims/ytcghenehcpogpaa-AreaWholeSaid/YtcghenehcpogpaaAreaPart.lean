/- Areas: the piece of one between two pages; the program's 'part' and the reference's 'piece'. -/
import Derived.Test.YtcghenehcpogpaaAreaSl
namespace Go.Proofs.Ytcghenehcpogpaa
open Go Go.RowKit

/-- Of an area the pages from one up to another one. -/
def pieceA (a : Ar) (lo hi : Int) : List Ar :=
  let f := max lo a.from_
  let e := min hi (a.from_ + a.pages)
  if e ≤ f then [] else [⟨f, e - f, a.write, a.kind, a.file, if a.kind = 1 then a.off else a.off + f - a.from_⟩]

theorem ArAt.one (w : World) (x : Ar) : ArAt (w.alloc (.cells x.cells.toArray 23)) (.slice (some ⟨w.heap.size, 0, none⟩) 1 1) [x] :=
  ⟨rfl, .inr ⟨w.heap.size, 0, 1, _, rfl, heap_alloc_new w _, Nat.le_refl _, by simp [maxLen], by simp [Ar.cells_len], fun j u hu => by simpa [ar] using hu⟩⟩

theorem ArAt.oneAt (w : World) (n : Nat) (hn : w.heap.size = n) (x : Ar) {vs : Array Value} (hv : vs = x.cells.toArray) : ArAt (w.alloc (.cells vs 23)) (.slice (some ⟨n, 0, none⟩) 1 1) [x] := by
  subst hv
  subst hn
  exact ArAt.one w x

theorem ArAt.two (w : World) (A B : Obj) (x : Ar) {vs : Array Value} (hv : vs = x.cells.toArray) : ArAt (((w.alloc A).alloc B).alloc (.cells vs 23)) (.slice (some ⟨w.heap.size + 1 + 1, 0, none⟩) 1 1) [x] := by
  subst hv
  have := ArAt.one ((w.alloc A).alloc B) x
  rwa [World.size_alloc, World.size_alloc] at this

/-- The end of 'part'. -/
theorem part_fin {w Z : World} {x : Ar} {vs : Array Value} (hv : vs = x.cells.toArray) (hb : Below w.heap.size w Z) (hsz : Z.heap.size = w.heap.size + 1) :
    ArAt (Z.alloc (.cells vs 23)) (.slice (some ⟨w.heap.size + 1, 0, none⟩) 1 1) [x] ∧ Below w.heap.size w (Z.alloc (.cells vs 23)) ∧ ∀ b, (Value.slice (some ⟨w.heap.size + 1, 0, none⟩) 1 1).ownBlock = some b → w.heap.size ≤ b :=
  ⟨ArAt.oneAt Z _ hsz x hv, hb.alloc hb.size _, by intro b hb; simp [Value.ownBlock] at hb; omega⟩

set_option maxRecDepth 100000 in
set_option maxHeartbeats 8000000 in
theorem piece_ref (w : World) (a : Ar) (lo hi : Int) (hs : a.Sound) (hlo : 0 ≤ lo ∧ lo ≤ 4096) (hhi : 0 ≤ hi ∧ hi ≤ 4096) :
    Calls Try.prog 26 #[a.enc, .int .i64 lo, .int .i64 hi] w fun e w' => ∃ v', e = .returned v' ∧ ArAt w' v' (pieceA a lo hi) ∧ Below w.heap.size w w' ∧ ∀ b, v'.ownBlock = some b → w.heap.size ≤ b := by
  obtain ⟨f, p, wr, k, fi, o⟩ := a
  obtain ⟨s1, s2, s3, s4, s5, s6, s7⟩ := hs
  simp only at s1 s2 s3 s4 s5 s6 s7
  obtain ⟨l0, l1⟩ := hlo
  obtain ⟨h0, h1⟩ := hhi
  have so : 0 ≤ o ∧ o < 16 := by omega
  obtain ⟨o0, o1⟩ := so
  obtain ⟨r, hr⟩ : ∃ r, r = pieceA ⟨f, p, wr, k, fi, o⟩ lo hi := ⟨_, rfl⟩
  have HR := Lib.hid hr
  rw [← hr]
  clear hr s7
  unfold Ar.enc
  simp only
  have w1 : IntKind.i64.wrap (f + p) = f + p := by simp [IntKind.wrap, IntKind.bits, IntKind.signed]; omega
  by_cases c1 : lo < f
  · have d1 : max lo f = f := by omega
    by_cases c2 : f + p < hi
    · have d2 : min hi (f + p) = (f + p) := by omega
      by_cases c3 : (f + p) ≤ f
      · exact absurd c3 (by omega)
      · have c3' : f < (f + p) := by omega
        have c3n : ¬ (f + p) ≤ f := c3
        have w2 : IntKind.i64.wrap ((f + p) - f) = (f + p) - f := by simp [IntKind.wrap, IntKind.bits, IntKind.signed]; omega
        have w3 : IntKind.i64.wrap (o + f) = o + f := by simp [IntKind.wrap, IntKind.bits, IntKind.signed]; omega
        have w8 : IntKind.i64.wrap o = o := by simp [IntKind.wrap, IntKind.bits, IntKind.signed]; omega
        have w9 : IntKind.i64.wrap (0 : Int) = 0 := rfl
        by_cases ck : k = 1
        · have hrr : r = [⟨f, (f + p) - f, wr, k, fi, o⟩] := by rw [HR.out]; unfold pieceA; simp only [d1, d2]; rw [if_neg c3, if_pos ck]
          have cb : (k != 1) = false := by simpa using ck
          subst hrr
          clear HR d1 d2
          go_enter Try.func26, Try.ntmps26
          go_wp2_with fail
          go_ret
          exact ⟨_, rfl, ArAt.two w _ _ _ rfl, (((Below.refl _ _).alloc (Nat.le_refl _) _).alloc (by simp) _).alloc (by simp; omega) _, by intro b hb; simp [Value.ownBlock] at hb; omega⟩
        · have hrr : r = [⟨f, (f + p) - f, wr, k, fi, o⟩] := by rw [HR.out]; unfold pieceA; simp only [d1, d2]; rw [if_neg c3, if_neg ck]; rw [show o + f - f = o by omega]
          have cb : (k != 1) = true := by simpa using ck
          subst hrr
          clear HR d1 d2
          go_enter Try.func26, Try.ntmps26
          go_wp2_with fail
          go_ret
          exact ⟨_, rfl, ArAt.two w _ _ _ rfl, (((Below.refl _ _).alloc (Nat.le_refl _) _).alloc (by simp) _).alloc (by simp; omega) _, by intro b hb; simp [Value.ownBlock] at hb; omega⟩
    · have d2 : min hi (f + p) = hi := by omega
      have c2' : hi ≤ f + p := by omega
      by_cases c3 : hi ≤ f
      · have hrr : r = [] := by rw [HR.out]; unfold pieceA; simp only [d1, d2]; rw [if_pos c3]
        subst hrr
        clear HR
        go_enter Try.func26, Try.ntmps26
        go_wp2_with fail
        go_ret
        exact ⟨_, rfl, ArAt.nil _, by repeat (first | exact Below.refl _ _ | exact (Below.refl _ _).alloc (Nat.le_refl _) _ | exact ((Below.refl _ _).alloc (Nat.le_refl _) _).alloc (by simp) _), by simp [Value.ownBlock]⟩
      · have c3' : f < hi := by omega
        have c3n : ¬ hi ≤ f := c3
        have w2 : IntKind.i64.wrap (hi - f) = hi - f := by simp [IntKind.wrap, IntKind.bits, IntKind.signed]; omega
        have w3 : IntKind.i64.wrap (o + f) = o + f := by simp [IntKind.wrap, IntKind.bits, IntKind.signed]; omega
        have w8 : IntKind.i64.wrap o = o := by simp [IntKind.wrap, IntKind.bits, IntKind.signed]; omega
        have w9 : IntKind.i64.wrap (0 : Int) = 0 := rfl
        by_cases ck : k = 1
        · have hrr : r = [⟨f, hi - f, wr, k, fi, o⟩] := by rw [HR.out]; unfold pieceA; simp only [d1, d2]; rw [if_neg c3, if_pos ck]
          have cb : (k != 1) = false := by simpa using ck
          subst hrr
          clear HR d1 d2
          go_enter Try.func26, Try.ntmps26
          go_wp2_with fail
          go_ret
          exact ⟨_, rfl, ArAt.two w _ _ _ rfl, (((Below.refl _ _).alloc (Nat.le_refl _) _).alloc (by simp) _).alloc (by simp; omega) _, by intro b hb; simp [Value.ownBlock] at hb; omega⟩
        · have hrr : r = [⟨f, hi - f, wr, k, fi, o⟩] := by rw [HR.out]; unfold pieceA; simp only [d1, d2]; rw [if_neg c3, if_neg ck]; rw [show o + f - f = o by omega]
          have cb : (k != 1) = true := by simpa using ck
          subst hrr
          clear HR d1 d2
          go_enter Try.func26, Try.ntmps26
          go_wp2_with fail
          go_ret
          exact ⟨_, rfl, ArAt.two w _ _ _ rfl, (((Below.refl _ _).alloc (Nat.le_refl _) _).alloc (by simp) _).alloc (by simp; omega) _, by intro b hb; simp [Value.ownBlock] at hb; omega⟩
  · have d1 : max lo f = lo := by omega
    have c1' : f ≤ lo := by omega
    by_cases c2 : f + p < hi
    · have d2 : min hi (f + p) = (f + p) := by omega
      by_cases c3 : (f + p) ≤ lo
      · have hrr : r = [] := by rw [HR.out]; unfold pieceA; simp only [d1, d2]; rw [if_pos c3]
        subst hrr
        clear HR
        go_enter Try.func26, Try.ntmps26
        go_wp2_with fail
        go_ret
        exact ⟨_, rfl, ArAt.nil _, by repeat (first | exact Below.refl _ _ | exact (Below.refl _ _).alloc (Nat.le_refl _) _ | exact ((Below.refl _ _).alloc (Nat.le_refl _) _).alloc (by simp) _), by simp [Value.ownBlock]⟩
      · have c3' : lo < (f + p) := by omega
        have c3n : ¬ (f + p) ≤ lo := c3
        have w2 : IntKind.i64.wrap ((f + p) - lo) = (f + p) - lo := by simp [IntKind.wrap, IntKind.bits, IntKind.signed]; omega
        have w3 : IntKind.i64.wrap (o + lo) = o + lo := by simp [IntKind.wrap, IntKind.bits, IntKind.signed]; omega
        have w4 : IntKind.i64.wrap (o + lo - f) = o + lo - f := by simp [IntKind.wrap, IntKind.bits, IntKind.signed]; omega
        have w5 : IntKind.i64.wrap (lo - f) = lo - f := by simp [IntKind.wrap, IntKind.bits, IntKind.signed]; omega
        have w6 : IntKind.i64.wrap (o + (lo - f)) = o + (lo - f) := by simp [IntKind.wrap, IntKind.bits, IntKind.signed]; omega
        have w7 : o + (lo - f) = o + lo - f := by omega
        by_cases ck : k = 1
        · have hrr : r = [⟨lo, (f + p) - lo, wr, k, fi, o⟩] := by rw [HR.out]; unfold pieceA; simp only [d1, d2]; rw [if_neg c3, if_pos ck]
          have cb : (k != 1) = false := by simpa using ck
          subst hrr
          clear HR d1 d2
          go_enter Try.func26, Try.ntmps26
          go_wp2_with fail
          go_ret
          exact ⟨_, rfl, ArAt.two w _ _ _ rfl, (((Below.refl _ _).alloc (Nat.le_refl _) _).alloc (by simp) _).alloc (by simp; omega) _, by intro b hb; simp [Value.ownBlock] at hb; omega⟩
        · have hrr : r = [⟨lo, (f + p) - lo, wr, k, fi, o + lo - f⟩] := by rw [HR.out]; unfold pieceA; simp only [d1, d2]; rw [if_neg c3, if_neg ck]
          have cb : (k != 1) = true := by simpa using ck
          subst hrr
          clear HR d1 d2
          go_enter Try.func26, Try.ntmps26
          go_wp2_with fail
          go_ret
          exact ⟨_, rfl, ArAt.two w _ _ _ rfl, (((Below.refl _ _).alloc (Nat.le_refl _) _).alloc (by simp) _).alloc (by simp; omega) _, by intro b hb; simp [Value.ownBlock] at hb; omega⟩
    · have d2 : min hi (f + p) = hi := by omega
      have c2' : hi ≤ f + p := by omega
      by_cases c3 : hi ≤ lo
      · have hrr : r = [] := by rw [HR.out]; unfold pieceA; simp only [d1, d2]; rw [if_pos c3]
        subst hrr
        clear HR
        go_enter Try.func26, Try.ntmps26
        go_wp2_with fail
        go_ret
        exact ⟨_, rfl, ArAt.nil _, by repeat (first | exact Below.refl _ _ | exact (Below.refl _ _).alloc (Nat.le_refl _) _ | exact ((Below.refl _ _).alloc (Nat.le_refl _) _).alloc (by simp) _), by simp [Value.ownBlock]⟩
      · have c3' : lo < hi := by omega
        have c3n : ¬ hi ≤ lo := c3
        have w2 : IntKind.i64.wrap (hi - lo) = hi - lo := by simp [IntKind.wrap, IntKind.bits, IntKind.signed]; omega
        have w3 : IntKind.i64.wrap (o + lo) = o + lo := by simp [IntKind.wrap, IntKind.bits, IntKind.signed]; omega
        have w4 : IntKind.i64.wrap (o + lo - f) = o + lo - f := by simp [IntKind.wrap, IntKind.bits, IntKind.signed]; omega
        have w5 : IntKind.i64.wrap (lo - f) = lo - f := by simp [IntKind.wrap, IntKind.bits, IntKind.signed]; omega
        have w6 : IntKind.i64.wrap (o + (lo - f)) = o + (lo - f) := by simp [IntKind.wrap, IntKind.bits, IntKind.signed]; omega
        have w7 : o + (lo - f) = o + lo - f := by omega
        by_cases ck : k = 1
        · have hrr : r = [⟨lo, hi - lo, wr, k, fi, o⟩] := by rw [HR.out]; unfold pieceA; simp only [d1, d2]; rw [if_neg c3, if_pos ck]
          have cb : (k != 1) = false := by simpa using ck
          subst hrr
          clear HR d1 d2
          go_enter Try.func26, Try.ntmps26
          go_wp2_with fail
          go_ret
          exact ⟨_, rfl, ArAt.two w _ _ _ rfl, (((Below.refl _ _).alloc (Nat.le_refl _) _).alloc (by simp) _).alloc (by simp; omega) _, by intro b hb; simp [Value.ownBlock] at hb; omega⟩
        · have hrr : r = [⟨lo, hi - lo, wr, k, fi, o + lo - f⟩] := by rw [HR.out]; unfold pieceA; simp only [d1, d2]; rw [if_neg c3, if_neg ck]
          have cb : (k != 1) = true := by simpa using ck
          subst hrr
          clear HR d1 d2
          go_enter Try.func26, Try.ntmps26
          go_wp2_with fail
          go_ret
          exact ⟨_, rfl, ArAt.two w _ _ _ rfl, (((Below.refl _ _).alloc (Nat.le_refl _) _).alloc (by simp) _).alloc (by simp; omega) _, by intro b hb; simp [Value.ownBlock] at hb; omega⟩

set_option maxRecDepth 100000 in
set_option maxHeartbeats 8000000 in
theorem part_walk (w : World) (a : Ar) (lo hi : Int) (hs : a.Sound) (hlo : 0 ≤ lo ∧ lo ≤ 4096) (hhi : 0 ≤ hi ∧ hi ≤ 4096) :
    Calls Try.prog 34 #[a.enc, .int .i64 lo, .int .i64 hi] w fun e w' => ∃ v', e = .returned v' ∧ ArAt w' v' (pieceA a lo hi) ∧ Below w.heap.size w w' ∧ ∀ b, v'.ownBlock = some b → w.heap.size ≤ b := by
  obtain ⟨f, p, wr, k, fi, o⟩ := a
  obtain ⟨s1, s2, s3, s4, s5, s6, s7⟩ := hs
  simp only at s1 s2 s3 s4 s5 s6 s7
  obtain ⟨l0, l1⟩ := hlo
  obtain ⟨h0, h1⟩ := hhi
  have so : 0 ≤ o ∧ o < 16 := by omega
  obtain ⟨o0, o1⟩ := so
  obtain ⟨r, hr⟩ : ∃ r, r = pieceA ⟨f, p, wr, k, fi, o⟩ lo hi := ⟨_, rfl⟩
  have HR := Lib.hid hr
  rw [← hr]
  clear hr s7
  unfold Ar.enc
  simp only
  have w1 : IntKind.i64.wrap (f + p) = f + p := by simp [IntKind.wrap, IntKind.bits, IntKind.signed]; omega
  by_cases c1 : lo < f
  · have d1 : max lo f = f := by omega
    by_cases c2 : f + p < hi
    · have d2 : min hi (f + p) = (f + p) := by omega
      by_cases c3 : (f + p) ≤ f
      · exact absurd c3 (by omega)
      · have c3' : f < (f + p) := by omega
        have c3n : ¬ (f + p) ≤ f := c3
        have w2 : IntKind.i64.wrap ((f + p) - f) = (f + p) - f := by simp [IntKind.wrap, IntKind.bits, IntKind.signed]; omega
        have w3 : IntKind.i64.wrap (o + f) = o + f := by simp [IntKind.wrap, IntKind.bits, IntKind.signed]; omega
        have w8 : IntKind.i64.wrap o = o := by simp [IntKind.wrap, IntKind.bits, IntKind.signed]; omega
        have w9 : IntKind.i64.wrap (0 : Int) = 0 := rfl
        by_cases ck : k = 1
        · have hrr : r = [⟨f, (f + p) - f, wr, k, fi, o⟩] := by rw [HR.out]; unfold pieceA; simp only [d1, d2]; rw [if_neg c3, if_pos ck]
          have cb : (k != 1) = false := by simpa using ck
          subst hrr
          clear HR d1 d2
          go_enter Try.func34, Try.ntmps34
          go_wp2_with fail
          go_quiet (fail)
          go_wp2_with fail
          all_goals go_ret
          all_goals exact ⟨.slice (some ⟨w.heap.size + 1, 0, none⟩) 1 1, rfl, part_fin (w := w) (by first | rfl | (subst ck; rfl)) (by (repeat (refine Below.setCell ?_ (by exact Nat.le_refl _) _)); exact below_drewN' ((Below.refl _ _).alloc (Nat.le_refl _) _) nq) (by simp [World.setCell])⟩
        · have hrr : r = [⟨f, (f + p) - f, wr, k, fi, o⟩] := by rw [HR.out]; unfold pieceA; simp only [d1, d2]; rw [if_neg c3, if_neg ck]; rw [show o + f - f = o by omega]
          have cb : (k != 1) = true := by simpa using ck
          subst hrr
          clear HR d1 d2
          go_enter Try.func34, Try.ntmps34
          go_wp2_with fail
          go_quiet (fail)
          go_wp2_with fail
          all_goals go_ret
          all_goals exact ⟨.slice (some ⟨w.heap.size + 1, 0, none⟩) 1 1, rfl, part_fin (w := w) (by first | rfl | (subst ck; rfl)) (by (repeat (refine Below.setCell ?_ (by exact Nat.le_refl _) _)); exact below_drewN' ((Below.refl _ _).alloc (Nat.le_refl _) _) nq) (by simp [World.setCell])⟩
    · have d2 : min hi (f + p) = hi := by omega
      have c2' : hi ≤ f + p := by omega
      by_cases c3 : hi ≤ f
      · have hrr : r = [] := by rw [HR.out]; unfold pieceA; simp only [d1, d2]; rw [if_pos c3]
        subst hrr
        clear HR
        go_enter Try.func34, Try.ntmps34
        go_wp2_with fail
        go_quiet (fail)
        go_wp2_with fail
        go_ret
        exact ⟨_, rfl, ArAt.nil _, by repeat (first | exact below_drewN' ((Below.refl _ _).alloc (Nat.le_refl _) _) nq | exact Below.refl _ _ | exact (Below.refl _ _).alloc (Nat.le_refl _) _ | exact ((Below.refl _ _).alloc (Nat.le_refl _) _).alloc (by simp) _), by simp [Value.ownBlock]⟩
      · have c3' : f < hi := by omega
        have c3n : ¬ hi ≤ f := c3
        have w2 : IntKind.i64.wrap (hi - f) = hi - f := by simp [IntKind.wrap, IntKind.bits, IntKind.signed]; omega
        have w3 : IntKind.i64.wrap (o + f) = o + f := by simp [IntKind.wrap, IntKind.bits, IntKind.signed]; omega
        have w8 : IntKind.i64.wrap o = o := by simp [IntKind.wrap, IntKind.bits, IntKind.signed]; omega
        have w9 : IntKind.i64.wrap (0 : Int) = 0 := rfl
        by_cases ck : k = 1
        · have hrr : r = [⟨f, hi - f, wr, k, fi, o⟩] := by rw [HR.out]; unfold pieceA; simp only [d1, d2]; rw [if_neg c3, if_pos ck]
          have cb : (k != 1) = false := by simpa using ck
          subst hrr
          clear HR d1 d2
          go_enter Try.func34, Try.ntmps34
          go_wp2_with fail
          go_quiet (fail)
          go_wp2_with fail
          all_goals go_ret
          all_goals exact ⟨.slice (some ⟨w.heap.size + 1, 0, none⟩) 1 1, rfl, part_fin (w := w) (by first | rfl | (subst ck; rfl)) (by (repeat (refine Below.setCell ?_ (by exact Nat.le_refl _) _)); exact below_drewN' ((Below.refl _ _).alloc (Nat.le_refl _) _) nq) (by simp [World.setCell])⟩
        · have hrr : r = [⟨f, hi - f, wr, k, fi, o⟩] := by rw [HR.out]; unfold pieceA; simp only [d1, d2]; rw [if_neg c3, if_neg ck]; rw [show o + f - f = o by omega]
          have cb : (k != 1) = true := by simpa using ck
          subst hrr
          clear HR d1 d2
          go_enter Try.func34, Try.ntmps34
          go_wp2_with fail
          go_quiet (fail)
          go_wp2_with fail
          all_goals go_ret
          all_goals exact ⟨.slice (some ⟨w.heap.size + 1, 0, none⟩) 1 1, rfl, part_fin (w := w) (by first | rfl | (subst ck; rfl)) (by (repeat (refine Below.setCell ?_ (by exact Nat.le_refl _) _)); exact below_drewN' ((Below.refl _ _).alloc (Nat.le_refl _) _) nq) (by simp [World.setCell])⟩
  · have d1 : max lo f = lo := by omega
    have c1' : f ≤ lo := by omega
    by_cases c2 : f + p < hi
    · have d2 : min hi (f + p) = (f + p) := by omega
      by_cases c3 : (f + p) ≤ lo
      · have hrr : r = [] := by rw [HR.out]; unfold pieceA; simp only [d1, d2]; rw [if_pos c3]
        subst hrr
        clear HR
        go_enter Try.func34, Try.ntmps34
        go_wp2_with fail
        go_quiet (fail)
        go_wp2_with fail
        go_ret
        exact ⟨_, rfl, ArAt.nil _, by repeat (first | exact below_drewN' ((Below.refl _ _).alloc (Nat.le_refl _) _) nq | exact Below.refl _ _ | exact (Below.refl _ _).alloc (Nat.le_refl _) _ | exact ((Below.refl _ _).alloc (Nat.le_refl _) _).alloc (by simp) _), by simp [Value.ownBlock]⟩
      · have c3' : lo < (f + p) := by omega
        have c3n : ¬ (f + p) ≤ lo := c3
        have w2 : IntKind.i64.wrap ((f + p) - lo) = (f + p) - lo := by simp [IntKind.wrap, IntKind.bits, IntKind.signed]; omega
        have w3 : IntKind.i64.wrap (o + lo) = o + lo := by simp [IntKind.wrap, IntKind.bits, IntKind.signed]; omega
        have w4 : IntKind.i64.wrap (o + lo - f) = o + lo - f := by simp [IntKind.wrap, IntKind.bits, IntKind.signed]; omega
        have w5 : IntKind.i64.wrap (lo - f) = lo - f := by simp [IntKind.wrap, IntKind.bits, IntKind.signed]; omega
        have w6 : IntKind.i64.wrap (o + (lo - f)) = o + (lo - f) := by simp [IntKind.wrap, IntKind.bits, IntKind.signed]; omega
        have w7 : o + (lo - f) = o + lo - f := by omega
        by_cases ck : k = 1
        · have hrr : r = [⟨lo, (f + p) - lo, wr, k, fi, o⟩] := by rw [HR.out]; unfold pieceA; simp only [d1, d2]; rw [if_neg c3, if_pos ck]
          have cb : (k != 1) = false := by simpa using ck
          subst hrr
          clear HR d1 d2
          go_enter Try.func34, Try.ntmps34
          go_wp2_with fail
          go_quiet (fail)
          go_wp2_with fail
          all_goals go_ret
          all_goals exact ⟨.slice (some ⟨w.heap.size + 1, 0, none⟩) 1 1, rfl, part_fin (w := w) (by first | rfl | (subst ck; rfl)) (by (repeat (refine Below.setCell ?_ (by exact Nat.le_refl _) _)); exact below_drewN' ((Below.refl _ _).alloc (Nat.le_refl _) _) nq) (by simp [World.setCell])⟩
        · have hrr : r = [⟨lo, (f + p) - lo, wr, k, fi, o + lo - f⟩] := by rw [HR.out]; unfold pieceA; simp only [d1, d2]; rw [if_neg c3, if_neg ck]
          have cb : (k != 1) = true := by simpa using ck
          subst hrr
          clear HR d1 d2
          go_enter Try.func34, Try.ntmps34
          go_wp2_with fail
          go_quiet (fail)
          go_wp2_with fail
          all_goals go_ret
          all_goals exact ⟨.slice (some ⟨w.heap.size + 1, 0, none⟩) 1 1, rfl, part_fin (w := w) (by first | rfl | (subst ck; rfl)) (by (repeat (refine Below.setCell ?_ (by exact Nat.le_refl _) _)); exact below_drewN' ((Below.refl _ _).alloc (Nat.le_refl _) _) nq) (by simp [World.setCell])⟩
    · have d2 : min hi (f + p) = hi := by omega
      have c2' : hi ≤ f + p := by omega
      by_cases c3 : hi ≤ lo
      · have hrr : r = [] := by rw [HR.out]; unfold pieceA; simp only [d1, d2]; rw [if_pos c3]
        subst hrr
        clear HR
        go_enter Try.func34, Try.ntmps34
        go_wp2_with fail
        go_quiet (fail)
        go_wp2_with fail
        go_ret
        exact ⟨_, rfl, ArAt.nil _, by repeat (first | exact below_drewN' ((Below.refl _ _).alloc (Nat.le_refl _) _) nq | exact Below.refl _ _ | exact (Below.refl _ _).alloc (Nat.le_refl _) _ | exact ((Below.refl _ _).alloc (Nat.le_refl _) _).alloc (by simp) _), by simp [Value.ownBlock]⟩
      · have c3' : lo < hi := by omega
        have c3n : ¬ hi ≤ lo := c3
        have w2 : IntKind.i64.wrap (hi - lo) = hi - lo := by simp [IntKind.wrap, IntKind.bits, IntKind.signed]; omega
        have w3 : IntKind.i64.wrap (o + lo) = o + lo := by simp [IntKind.wrap, IntKind.bits, IntKind.signed]; omega
        have w4 : IntKind.i64.wrap (o + lo - f) = o + lo - f := by simp [IntKind.wrap, IntKind.bits, IntKind.signed]; omega
        have w5 : IntKind.i64.wrap (lo - f) = lo - f := by simp [IntKind.wrap, IntKind.bits, IntKind.signed]; omega
        have w6 : IntKind.i64.wrap (o + (lo - f)) = o + (lo - f) := by simp [IntKind.wrap, IntKind.bits, IntKind.signed]; omega
        have w7 : o + (lo - f) = o + lo - f := by omega
        by_cases ck : k = 1
        · have hrr : r = [⟨lo, hi - lo, wr, k, fi, o⟩] := by rw [HR.out]; unfold pieceA; simp only [d1, d2]; rw [if_neg c3, if_pos ck]
          have cb : (k != 1) = false := by simpa using ck
          subst hrr
          clear HR d1 d2
          go_enter Try.func34, Try.ntmps34
          go_wp2_with fail
          go_quiet (fail)
          go_wp2_with fail
          all_goals go_ret
          all_goals exact ⟨.slice (some ⟨w.heap.size + 1, 0, none⟩) 1 1, rfl, part_fin (w := w) (by first | rfl | (subst ck; rfl)) (by (repeat (refine Below.setCell ?_ (by exact Nat.le_refl _) _)); exact below_drewN' ((Below.refl _ _).alloc (Nat.le_refl _) _) nq) (by simp [World.setCell])⟩
        · have hrr : r = [⟨lo, hi - lo, wr, k, fi, o + lo - f⟩] := by rw [HR.out]; unfold pieceA; simp only [d1, d2]; rw [if_neg c3, if_neg ck]
          have cb : (k != 1) = true := by simpa using ck
          subst hrr
          clear HR d1 d2
          go_enter Try.func34, Try.ntmps34
          go_wp2_with fail
          go_quiet (fail)
          go_wp2_with fail
          all_goals go_ret
          all_goals exact ⟨.slice (some ⟨w.heap.size + 1, 0, none⟩) 1 1, rfl, part_fin (w := w) (by first | rfl | (subst ck; rfl)) (by (repeat (refine Below.setCell ?_ (by exact Nat.le_refl _) _)); exact below_drewN' ((Below.refl _ _).alloc (Nat.le_refl _) _) nq) (by simp [World.setCell])⟩
end Go.Proofs.Ytcghenehcpogpaa
