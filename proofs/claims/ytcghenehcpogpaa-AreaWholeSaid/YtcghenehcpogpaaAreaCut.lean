/- Areas: limited, Cut. -/
import Derived.Test.YtcghenehcpogpaaAreaConcat
namespace Go.Proofs.Ytcghenehcpogpaa
open Go Go.RowKit

/-- May pages be told so? -/
def RightA (fr pg : Int) : Prop := 0 ≤ fr ∧ 1 ≤ pg ∧ fr < 4096 ∧ pg ≤ 4096 - fr
instance (fr pg : Int) : Decidable (RightA fr pg) := inferInstanceAs (Decidable (_ ∧ _ ∧ _ ∧ _))

theorem right_walk (w : World) (fr pg : Int) : Calls Try.prog 27 #[.int .i64 fr, .int .i64 pg] w fun e w' => e = .returned (.bool (decide (RightA fr pg))) ∧ w' = w := by
  obtain ⟨s, hs⟩ : ∃ s, s = decide (RightA fr pg) := ⟨_, rfl⟩
  have HS := Lib.hid hs
  rw [← hs]
  clear hs
  by_cases c1 : 0 ≤ fr
  · by_cases c2 : 1 ≤ pg
    · by_cases c3 : fr < 4096
      · have hw : IntKind.i64.wrap (4096 - fr) = 4096 - fr := by simp [IntKind.wrap, IntKind.bits, IntKind.signed]; omega
        by_cases c4 : pg ≤ 4096 - fr
        · obtain rfl : s = true := by rw [HS.out]; exact decide_eq_true ⟨c1, c2, c3, c4⟩
          clear HS
          go_enter Try.func27, Try.ntmps27
          go_wp2_with fail
          go_ret
          exact ⟨rfl, rfl⟩
        · obtain rfl : s = false := by rw [HS.out]; exact decide_eq_false (fun h => c4 h.2.2.2)
          clear HS
          have c4' : 4096 - fr < pg := by omega
          go_enter Try.func27, Try.ntmps27
          go_wp2_with fail
          go_ret
          exact ⟨by first | rfl | simp, rfl⟩
      · obtain rfl : s = false := by rw [HS.out]; exact decide_eq_false (fun h => c3 h.2.2.1)
        clear HS
        go_enter Try.func27, Try.ntmps27
        go_wp2_with fail
        go_ret
        exact ⟨rfl, rfl⟩
    · obtain rfl : s = false := by rw [HS.out]; exact decide_eq_false (fun h => c2 h.2.1)
      clear HS
      go_enter Try.func27, Try.ntmps27
      go_wp2_with fail
      go_ret
      exact ⟨rfl, rfl⟩
  · obtain rfl : s = false := by rw [HS.out]; exact decide_eq_false (fun h => c1 h.1)
    clear HS
    go_enter Try.func27, Try.ntmps27
    go_wp2_with fail
    go_ret
    exact ⟨rfl, rfl⟩

theorem limited_walk (w : World) (b off c n : Nat) (vs : List Value) (ls : List (List Ar)) (h : Parts w b off vs ls) (hn : n = ls.length) (hn5 : n ≤ 5) (hlen : sumL ls ≤ 1000) :
    Calls Try.prog 29 #[.slice (some ⟨b, off, none⟩) n c] w fun e w' => ∃ v' x, e = .returned (.tuple #[v', .int .i64 x]) ∧ Below w.heap.size w w' ∧ (∀ b, v'.ownBlock = some b → w.heap.size ≤ b) ∧
      (ls.flatten.length ≤ 16 → x = 0 ∧ ArAt w' v' ls.flatten) ∧ (16 < ls.flatten.length → x = 4 ∧ v' = .slice none 0 0) := by
  have hc := Lib.hid (ConcatA_walk w b off c n vs ls h hn hn5 hlen)
  have hll : ls.flatten.length ≤ 1000 := by rw [sumL_flat]; exact hlen
  obtain ⟨fl, hfl⟩ : ∃ fl, fl = ls.flatten := ⟨_, rfl⟩
  rw [← hfl] at hc hll ⊢
  clear h hn hfl hlen
  go_enter Try.func29, Try.ntmps29
  go_wp2_with fail
  refine hc.out.mono ?_
  rintro e w2 ⟨v2, rfl, hp2, b2, ho2⟩
  obtain ⟨a2, c2, rfl, _, _⟩ := SlAt.form hp2
  have HP2 := Lib.hid hp2
  have HB2 := Lib.hid b2
  have HO2 := Lib.hid ho2
  clear hp2 b2 ho2 hc
  by_cases h16 : 16 < fl.length
  · have h16' : (16 : Int) < fl.length := by omega
    go_wp2_with fail
    exact bodyPost_ret (v := .tuple #[.slice none 0 0, .int .i64 4]) (by simp [results, Try.results29, go_sem]) rfl ⟨_, 4, rfl, HB2.out, by simp [Value.ownBlock], fun h => by omega, fun _ => ⟨rfl, rfl⟩⟩
  · have h16' : ¬ (16 : Int) < fl.length := by omega
    go_wp2_with fail
    refine (ClipA_walk w2 _ fl HP2.out).mono ?_
    rintro e w3 ⟨v3, rfl, hp3, rfl, ho3⟩
    obtain ⟨a3, c3, rfl, _, _⟩ := SlAt.form hp3
    have HP3 := Lib.hid hp3
    have HO3 := Lib.hid ho3
    clear hp3 ho3
    go_wp2_with fail
    exact bodyPost_ret (v := .tuple #[.slice a3 fl.length c3, .int .i64 0]) (by simp [results, Try.results29, go_sem]) rfl ⟨_, 0, rfl, HB2.out, fun b hb => HO2.out b (by rw [← HO3.out]; exact hb), fun _ => ⟨rfl, HP3.out⟩, fun h => by omega⟩

theorem Parts.two {w : World} {v1 v2 : Value} {l1 l2 : List Ar} (h1 : ArAt w v1 l1) (h2 : ArAt w v2 l2) (T : TypeId) : Parts (w.alloc (.cells #[v1, v2] T)) w.heap.size 0 [v1, v2] [l1, l2] := by
  have hb : Below w.heap.size w (w.alloc (.cells #[v1, v2] T)) := (Below.refl _ _).alloc (Nat.le_refl _) _
  refine ⟨rfl, fun j v hv => ?_, fun j v l hv hl => ?_⟩
  · rw [cell_of_row _ _ _ _ _ _ (heap_alloc_new w (.cells #[v1, v2] T))]
    rw [Nat.zero_add]
    simpa using hv
  · match j with
    | 0 => cases hv; cases hl; exact h1.below hb
    | 1 => cases hv; cases hl; exact h2.below hb
    | j + 2 => simp at hv

/-- A list without some pages: what is ahead, and what is behind. -/
def cutA (l : List Ar) (fr pg : Int) : List Ar := piecesA l 0 fr ++ piecesA l (fr + pg) 4096

set_option maxRecDepth 100000 in
set_option maxHeartbeats 4000000 in
theorem Cut_walk (w : World) (v : Value) (l : List Ar) (h : ArRd w v l) (hl : ∀ a ∈ l, a.Sound) (hlen : l.length ≤ 100) (fr pg : Int) :
    Calls Try.prog 16 #[v, .int .i64 fr, .int .i64 pg] w fun e w' => ∃ v' x, e = .returned (.tuple #[v', .int .i64 x]) ∧ Below w.heap.size w w' ∧ (∀ b, v'.ownBlock = some b → w.heap.size ≤ b) ∧
      (¬ RightA fr pg → x = 1 ∧ v' = .slice none 0 0) ∧ (RightA fr pg → (cutA l fr pg).length ≤ 16 → x = 0 ∧ ArAt w' v' (cutA l fr pg)) ∧ (RightA fr pg → 16 < (cutA l fr pg).length → x = 4 ∧ v' = .slice none 0 0) := by
  by_cases hr : RightA fr pg
  · have hsp := Lib.hid (split_walk w v l h hl hlen fr pg (by obtain ⟨r1, r2, r3, r4⟩ := hr; omega))
    have hrw := right_walk w fr pg
    rw [decide_eq_true hr] at hrw
    have hcl : Hid ((piecesA l 0 fr).length ≤ 100 ∧ (piecesA l (fr + pg) 4096).length ≤ 100) := ⟨by have := piecesA_length l 0 fr; omega, by have := piecesA_length l (fr + pg) 4096; omega⟩
    have hcut : Hid (cutA l fr pg = [piecesA l 0 fr, piecesA l (fr + pg) 4096].flatten) := by show _ = _; simp [cutA]
    have HRW := Lib.hid hrw
    have HR := Lib.hid hr
    obtain ⟨av, cv, rfl, _, _⟩ := ArRd.fm h
    clear h hl hlen hrw hr
    go_enter Try.func16, Try.ntmps16
    go_wp2_with fail
    refine HRW.out.mono ?_
    rintro e w1 ⟨rfl, rfl⟩
    go_wp2_with fail
    refine hsp.out.mono ?_
    rintro e w2 ⟨v1, v2, v3, rfl, ht, b2⟩
    obtain ⟨A1, hA1⟩ : ∃ A1, A1 = piecesA l 0 fr := ⟨_, rfl⟩
    obtain ⟨A3, hA3⟩ : ∃ A3, A3 = piecesA l (fr + pg) 4096 := ⟨_, rfl⟩
    rw [← hA1, ← hA3] at ht hcl hcut
    clear hA1 hA3
    obtain ⟨a1, c1, rfl, _, _⟩ := SlAt.form ht.a1
    obtain ⟨a2, c2, rfl, _, _⟩ := SlAt.form ht.a2
    obtain ⟨a3, c3, rfl, _, _⟩ := SlAt.form ht.a3
    have HT := Lib.hid ht
    have HB := Lib.hid b2
    clear ht b2 hsp
    go_wp2_with fail
    refine (limited_walk _ w2.heap.size 0 2 2 _ _ (Parts.two HT.out.a1 HT.out.a3 _) rfl (by omega) (by have h := hcl.out; simp [sumL]; omega)).mono ?_
    rintro e w3 ⟨v', x, rfl, b3, ho3, hs3, hb3⟩
    rw [← hcut.out] at hs3 hb3
    have H3 := Lib.hid (And.intro b3 (And.intro ho3 (And.intro hs3 hb3)))
    clear b3 ho3 hs3 hb3
    go_wp2_with fail
    have ba : Below w1.heap.size w1 (w2.alloc (.cells #[.slice a1 A1.length c1, .slice a3 A3.length c3] 26)) := HB.out.alloc HB.out.size _
    obtain ⟨b3, ho3, hs3, hb3⟩ := H3.out
    refine bodyPost_ret (v := .tuple #[v', .int .i64 x]) (by simp [results, Try.results16, go_sem]) rfl ⟨v', x, rfl, ba.trans (b3.mono ba.size), fun b hb => Nat.le_trans ba.size (ho3 b hb), fun h => absurd HR.out h, fun _ h => hs3 h, fun _ h => hb3 h⟩
  · have hrw := right_walk w fr pg
    rw [decide_eq_false hr] at hrw
    have HRW := Lib.hid hrw
    have HR := Lib.hid hr
    obtain ⟨av, cv, rfl, _, _⟩ := ArRd.fm h
    clear h hl hlen hrw hr
    go_enter Try.func16, Try.ntmps16
    go_wp2_with fail
    refine HRW.out.mono ?_
    rintro e w1 ⟨rfl, rfl⟩
    go_wp2_with fail
    exact bodyPost_ret (v := .tuple #[.slice none 0 0, .int .i64 1]) (by simp [results, Try.results16, go_sem]) rfl ⟨_, 1, rfl, Below.refl _ _, by simp [Value.ownBlock], fun _ => ⟨rfl, rfl⟩, fun h => absurd h HR.out, fun h => absurd h HR.out⟩
end Go.Proofs.Ytcghenehcpogpaa
