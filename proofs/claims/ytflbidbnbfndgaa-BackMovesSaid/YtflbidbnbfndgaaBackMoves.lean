/- BackMoves. -/
import Derived.Test.YtflbidbnbfndgaaBackAns
import Derived.Test.YtflbidbnbfndgaaSwapShared
namespace Go.Proofs.Ytflbidbnbfndgaa
open Go Go.RowKit

theorem BTwo.put {B : Nat} {w : World} {p : Nat} {L : Int → List (Int × Int)} {v : Value} {l : List (Int × Int)} (h : BTwo B w p L v l) (hB : B ≤ w.heap.size) (x : Int × Int) (hs : SortedP l) (hlen : l.length ≤ 100000) :
    Calls Try.prog 27 #[v, .agg #[.int .i64 x.1, .int .i64 x.2]] w fun e w' => ∃ v', e = .returned v' ∧ BTwo B w' p L v' (putP l x) ∧ Below w.heap.size w w' := by
  obtain ⟨m, S, V, h1, h2, h3, h4⟩ := h
  refine (Put_ref w v l h3 hs hlen x).mono ?_
  rintro e w' ⟨v', rfl, hp, hb, ho⟩
  refine ⟨v', rfl, ⟨m, S, V, h1.below hb, fun i hi => ⟨(h2 i hi).1, Nat.lt_of_lt_of_le (h2 i hi).2 hb.size⟩, hp, fun b hbo => ?_⟩, hb⟩
  rcases ho with rfl | ho
  · exact h4 b hbo
  · have := ho b hbo
    exact ⟨by omega, fun hm => by have := (h2 b hm).2; omega⟩

theorem mem_foldP (l m : List (Int × Int)) (x : Int × Int) : x ∈ l.foldl putP m ↔ x ∈ l ∨ x ∈ m := by
  induction l generalizing m with
  | nil => simp
  | cons y l ih =>
    rw [List.foldl_cons, ih, mem_putP, List.mem_cons]
    constructor
    · rintro (h | h | h)
      · exact .inl (.inr h)
      · exact .inl (.inl h)
      · exact .inr h
    · rintro ((h | h) | h)
      · exact .inr (.inl h)
      · exact .inl h
      · exact .inr (.inr h)
theorem sorted_ext {a b : List (Int × Int)} (ha : SortedP a) (hb : SortedP b) (h : ∀ x, x ∈ a ↔ x ∈ b) : a = b :=
  sortedP_unique ha hb ((List.perm_ext_iff_of_nodup ha.nodup hb.nodup).2 h)
theorem moved_same (A B : List (Int × Int)) : (allP A).foldl putP (allP B) = B.foldl putP (allP A) := by
  refine sorted_ext (foldP_sorted _ _ (allP_sorted B)) (foldP_sorted _ _ (allP_sorted A)) fun x => ?_
  rw [mem_foldP, mem_foldP]
  unfold allP
  rw [mem_foldP, mem_foldP]
  simp
  exact or_comm
theorem allP_ne {l : List (Int × Int)} (h : l ≠ []) : allP l ≠ [] := by
  obtain ⟨x, hx⟩ := List.exists_mem_of_ne_nil l h
  intro e
  have := (mem_foldP l [] x).2 (.inl hx)
  unfold allP at e
  rw [e] at this
  exact absurd this (by simp)
theorem take_of_length {l : List (Int × Int)} {n : Nat} (h : l.length = n) : l.take n = l := List.take_of_length_le (by omega)

def F2 (A B : List (Int × Int)) : Int → List (Int × Int) := updF (updF noF 1 A) 2 B
theorem F2_1 (A B : List (Int × Int)) : F2 A B 1 = A := by simp [F2, updF]
theorem F2_2 (A B : List (Int × Int)) : F2 A B 2 = B := by simp [F2, updF]
theorem F2_set (A B C : List (Int × Int)) : updF (F2 A B) 2 C = F2 A C := updF_twice _ _ _ _
theorem F2_move (A B C : List (Int × Int)) : updF (updF (F2 A B) 1 []) 2 C = F2 [] C := by
  funext g
  simp only [F2, updF]
  split
  · rfl
  · split <;> simp [*]

theorem small_walk (a : Option Addr) (len cap : Nat) (a' : Option Addr) (len' cap' : Nat) (w : World) (h : len = 0 ∨ 40 < len ∨ 40 < len') :
    Calls Try.prog 4 #[.slice a len cap, .slice a' len' cap'] w fun e w' => e = .returned (.bool true) ∧ Below w.heap.size w w' := by
  by_cases h1 : (len : Int) = 0
  · clear h
    go_enter Try.func4, Try.ntmps4
    go_wp2_with fail
    refine (backAnswers _).mono ?_
    rintro e w1 ⟨rfl, b1⟩
    have HB := Lib.hid b1
    clear b1
    go_wp2_with fail
    go_ret
    exact ⟨rfl, HB.out⟩
  · by_cases h2 : (40 : Int) < len
    · clear h
      go_enter Try.func4, Try.ntmps4
      go_wp2_with fail
      refine (backAnswers _).mono ?_
      rintro e w1 ⟨rfl, b1⟩
      have HB := Lib.hid b1
      clear b1
      go_wp2_with fail
      go_ret
      exact ⟨rfl, HB.out⟩
    · have h3 : (40 : Int) < len' := by omega
      clear h
      go_enter Try.func4, Try.ntmps4
      go_wp2_with fail
      refine (backAnswers _).mono ?_
      rintro e w1 ⟨rfl, b1⟩
      have HB := Lib.hid b1
      clear b1
      go_wp2_with fail
      go_ret
      exact ⟨rfl, HB.out⟩

set_option maxRecDepth 100000 in
set_option maxHeartbeats 1000000 in
theorem moves_walk (a : Option Addr) (len cap : Nat) (z : List (Int × Int)) (a' : Option Addr) (len' cap' : Nat) (z' : List (Int × Int)) (w : World) (hz : Open.RowsAt w encP 2 a len cap z) (hz' : Open.RowsAt w encP 2 a' len' cap' z') :
    Calls Try.prog 4 #[.slice a len cap, .slice a' len' cap'] w fun e w' => e = .returned (.bool true) ∧ Below w.heap.size w w' := by
  by_cases h0 : len = 0 ∨ 40 < len ∨ 40 < len'
  · exact small_walk a len cap a' len' cap' w h0
  · have h1 : ¬ (len : Int) = 0 := by omega
    have h2 : ¬ (40 : Int) < len := by omega
    have h3 : ¬ (40 : Int) < len' := by omega
    have h40 : len ≤ 40 := by omega
    have h40' : len' ≤ 40 := by omega
    have HZ := Lib.hid hz
    have HZ' := Lib.hid hz'
    have hne : len ≠ 0 := by omega
    clear h0 hz hz'
    go_enter Try.func4, Try.ntmps4
    go_wp2_with fail
    refine (BNew_in w).mono ?_
    rintro e w1 ⟨p, rfl, hS1, b1⟩
    have HB1 := Lib.hid b1
    have H1 : Hid (BTwo w.heap.size w1 p (updF noF 1 (allP (z.take 0))) (.slice none 0 0) (allP (z.take 0))) := by
      rw [updF_same noF 1 (show allP (z.take 0) = noF 1 from rfl)]
      exact hS1
    clear hS1 b1
    go_wp2_with fail
    go_loopw [6, 7] (fun al i wr => ∃ j : Nat, j ≤ len ∧ i = .int .i64 j ∧ BTwo w.heap.size wr p (updF noF 1 (allP (z.take j))) al (allP (z.take j)) ∧ Below w.heap.size w wr) (fun _ i _ => len - (intOf i).toNat)
    case atStart => exact ⟨0, by omega, rfl, H1.out, HB1.out⟩
    case round =>
      obtain ⟨j, hj, rfl, hT, hb⟩ := hrel
      clear H1 HB1
      have HT := Lib.hid hT
      have HB := Lib.hid hb
      clear hT hb
      by_cases hlt : j < len
      · obtain ⟨b, off, x, rfl, hx, e0, e1⟩ := rowP_cell HZ.out HB.out j hlt
        have hlt' : (j : Int) < len := by omega
        have hm : (allP (z.take j)).length ≤ 100000 := Nat.le_trans (allP_length _) (by rw [List.length_take]; omega)
        have hnx : Hid (allP (z.take (j + 1)) = putP (allP (z.take j)) x) := by
          obtain ⟨hjz, rfl⟩ := List.getElem?_eq_some_iff.1 hx
          show _ = _
          rw [List.take_succ_eq_append_getElem hjz, allP_snoc]
        have HX := Lib.hid hx
        have HM := Lib.hid hm
        clear hx hm
        go_wp2_with fail
        have ea := HT.out.add HB.out.size 1 x (by rw [updF_at]; exact allP_sorted _) (by rw [updF_at]; exact HM.out)
        rw [updF_at, updF_twice, ← hnx.out] at ea
        refine ea.mono ?_
        clear ea
        rintro e w2 ⟨rfl, h2, b2⟩
        have HT2 := Lib.hid h2
        have HB2 := Lib.hid (HB.out.trans b2)
        clear h2 b2 e0 e1
        obtain ⟨b', off', x', hab, hx', e0, e1⟩ := rowP_cell HZ.out HB2.out j hlt
        cases hab
        obtain rfl : x' = x := by have := hx'.symm.trans HX.out; exact Option.some.inj this
        clear hx'
        go_wp2_with fail
        refine (HT2.out.put HB2.out.size x' (allP_sorted _) HM.out).mono ?_
        rw [← hnx.out]
        rintro e w3 ⟨v3, rfl, h3, b3⟩
        have HT3 := Lib.hid h3
        have HB3 := Lib.hid (HB2.out.trans (b3.mono HB2.out.size))
        clear h3 b3
        go_wp2_with fail
        go_roundw
        case rel => exact ⟨j + 1, by omega, by go_num, HT3.out, HB3.out⟩
        case measure => simp [intOf]; omega
      · obtain rfl : j = len := by omega
        rw [take_of_length HZ.out.1] at HT
        obtain ⟨A, hA⟩ : ∃ A, A = allP z := ⟨_, rfl⟩
        have HA := Lib.hid hA
        rw [← hA] at HT
        clear hA hlt
        have H2 : Hid (BTwo w.heap.size wr p (F2 A (allP (z'.take 0))) u6 ((z'.take 0).foldl putP A)) := by
          unfold F2
          rw [updF_same (updF noF 1 A) 2 (show allP (z'.take 0) = updF noF 1 A 2 from rfl)]
          exact HT.out
        clear HT
        have HAl : Hid (A.length ≤ 40 ∧ SortedP A ∧ A ≠ []) := by
          rw [HA.out]
          exact ⟨Nat.le_trans (allP_length z) (by rw [HZ.out.1]; exact h40), allP_sorted z, allP_ne (fun e => hne (by rw [← HZ.out.1, e]; rfl))⟩
        have HBr := Lib.hid HB.out
        clear HB
        go_wp2_with fail
        go_loopw [6, 8] (fun al i wq => ∃ j : Nat, j ≤ len' ∧ i = .int .i64 j ∧ BTwo w.heap.size wq p (F2 A (allP (z'.take j))) al ((z'.take j).foldl putP A) ∧ Below w.heap.size w wq) (fun _ i _ => len' - (intOf i).toNat)
        case atStart => exact ⟨0, by omega, rfl, H2.out, HBr.out⟩
        case round =>
          obtain ⟨j', hj', rfl, hT, hb⟩ := hrel
          clear H2 HBr
          have HT := Lib.hid hT
          have HB := Lib.hid hb
          clear hT hb
          by_cases hlt : j' < len'
          · obtain ⟨b, off, x, rfl, hx, e0, e1⟩ := rowP_cell HZ'.out HB.out j' hlt
            have hlt' : (j' : Int) < len' := by omega
            have hlz : (z'.take j').length ≤ 40 := by rw [List.length_take]; omega
            have hm : (allP (z'.take j')).length ≤ 100000 := Nat.le_trans (allP_length _) (by omega)
            have hm2 : ((z'.take j').foldl putP A).length ≤ 100000 := Nat.le_trans (foldP_length _ _) (by have := HAl.out.1; omega)
            have hnx : Hid (allP (z'.take (j' + 1)) = putP (allP (z'.take j')) x ∧ (z'.take (j' + 1)).foldl putP A = putP ((z'.take j').foldl putP A) x) := by
              obtain ⟨hjz, rfl⟩ := List.getElem?_eq_some_iff.1 hx
              show _ ∧ _
              rw [List.take_succ_eq_append_getElem hjz, allP_snoc, List.foldl_append]
              exact ⟨rfl, rfl⟩
            have HX := Lib.hid hx
            have HM := Lib.hid (And.intro hm hm2)
            clear hx hm hm2 hlz
            go_wp2_with fail
            have ea := HT.out.add HB.out.size 2 x (by rw [F2_2]; exact allP_sorted _) (by rw [F2_2]; exact HM.out.1)
            rw [F2_2, F2_set, ← hnx.out.1] at ea
            refine ea.mono ?_
            clear ea
            rintro e w2 ⟨rfl, h2, b2⟩
            have HT2 := Lib.hid h2
            have HB2 := Lib.hid (HB.out.trans b2)
            clear h2 b2 e0 e1
            obtain ⟨b', off', x', hab, hx', e0, e1⟩ := rowP_cell HZ'.out HB2.out j' hlt
            cases hab
            obtain rfl : x' = x := by have := hx'.symm.trans HX.out; exact Option.some.inj this
            clear hx'
            go_wp2_with fail
            refine (HT2.out.put HB2.out.size x' (foldP_sorted _ _ HAl.out.2.1) HM.out.2).mono ?_
            rw [← hnx.out.2]
            rintro e w3 ⟨v3, rfl, h3, b3⟩
            have HT3 := Lib.hid h3
            have HB3 := Lib.hid (HB2.out.trans (b3.mono HB2.out.size))
            clear h3 b3
            go_wp2_with fail
            go_roundw
            case rel => exact ⟨j' + 1, by omega, by go_num, HT3.out, HB3.out⟩
            case measure => simp [intOf]; omega
          · obtain rfl : j' = len' := by omega
            rw [take_of_length HZ'.out.1] at HT
            have hsame : Hid (A.foldl putP (allP z') = z'.foldl putP A) := by
              show _ = _
              rw [HA.out]
              exact moved_same z z'
            have hBl : Hid ((allP z').length ≤ 40 ∧ SortedP (allP z')) := ⟨Nat.le_trans (allP_length z') (by rw [HZ'.out.1]; exact h40'), allP_sorted z'⟩
            obtain ⟨M, hM⟩ : ∃ M, M = z'.foldl putP A := ⟨_, rfl⟩
            obtain ⟨Bq, hBq⟩ : ∃ Bq, Bq = allP z' := ⟨_, rfl⟩
            have hMl : Hid (M.length ≤ 100) := by
              show _ ≤ _
              rw [hM]
              exact Nat.le_trans (foldP_length _ _) (by have := HAl.out.1; have := HZ'.out.1; omega)
            rw [← hM, ← hBq] at HT hsame
            rw [← hBq] at hBl
            clear hM hBq hlt
            go_wp2_with fail
            refine (backAnswers _).mono ?_
            rintro e w2 ⟨rfl, b2⟩
            have HT2 := Lib.hid (HT.out.below b2)
            have HB2 := Lib.hid (HB.out.trans (b2.mono HB.out.size))
            clear b2 HT HB
            go_wp2_with fail
            have em := HT2.out.move HB2.out.size 1 2 (by rw [F2_2]; exact hBl.out.2) (by rw [F2_1, F2_2]; have := HAl.out.1; have := hBl.out.1; omega) (by rw [F2_1]; exact HAl.out.2.2) (by omega)
            rw [F2_move, F2_1, F2_2, hsame.out] at em
            refine em.mono ?_
            clear em
            rintro e w3 ⟨rfl, h3, b3⟩
            have HT3 := Lib.hid h3
            have HB3 := Lib.hid (HB2.out.trans b3)
            clear h3 b3 HT2 HB2
            go_wp2_with fail
            have eo := HT3.out.of 2 (by rw [F2_2]; have := hMl.out; omega)
            rw [F2_2] at eo
            refine eo.mono ?_
            clear eo
            rintro e w4 ⟨v4, rfl, hp4, h4, b4⟩
            have HT4 := Lib.hid h4
            have HP4 := Lib.hid hp4
            have HB4 := Lib.hid (HB3.out.trans (b4.mono HB3.out.size))
            clear h4 b4 hp4 HT3 HB3
            go_wp2_with fail
            have ep := Places_ref w4 v4 u6 M M HP4.out HT4.out.list
            rw [decide_eq_true rfl] at ep
            refine ep.mono ?_
            clear ep
            rintro e w5 ⟨rfl, b5⟩
            have HT5 := Lib.hid (HT4.out.below b5)
            have HB5 := Lib.hid (HB4.out.trans (b5.mono HB4.out.size))
            clear b5 HT4 HB4 HP4
            go_wp2_with fail
            have eo := HT5.out.of 1 (by rw [F2_1]; simp)
            rw [F2_1] at eo
            refine eo.mono ?_
            clear eo
            rintro e w6 ⟨v6, rfl, hp6, h6, b6⟩
            obtain ⟨a6, c6, rfl, _, _⟩ := SlAt.form hp6
            have HT6 := Lib.hid h6
            have HB6 := Lib.hid (HB5.out.trans (b6.mono HB5.out.size))
            clear h6 b6 hp6 HT5 HB5
            go_wp2_with fail
            refine (HT6.out.move_no 1 2 (by rw [F2_1]; simp) (.inl (F2_1 _ _))).mono ?_
            rintro e w7 ⟨rfl, h7, b7⟩
            have HT7 := Lib.hid h7
            have HB7 := Lib.hid (HB6.out.trans (b7.mono HB6.out.size))
            clear h7 b7 HT6 HB6
            go_wp2_with fail
            refine (HT7.out.move_no 2 2 (by rw [F2_2]; have := hMl.out; omega) (.inr rfl)).mono ?_
            rintro e w8 ⟨rfl, h8, b8⟩
            have HB8 := Lib.hid (HB7.out.trans (b8.mono HB7.out.size))
            clear h8 b8 HT7 HB7
            go_wp2_with fail
            go_ret
            exact ⟨rfl, HB8.out⟩

theorem backMoves_row (a : Option Addr) (len cap : Nat) (z : List (Int × Int)) (a' : Option Addr) (len' cap' : Nat) (z' : List (Int × Int)) (w : World) (hz : Open.RowsAt w encP 2 a len cap z) (_ : ∀ x ∈ z, wfP x) (hz' : Open.RowsAt w encP 2 a' len' cap' z') (_ : ∀ x ∈ z', wfP x) :
    Calls Try.prog 4 #[.slice a len cap, .slice a' len' cap'] w fun e w' => e = .returned (.bool true) ∧ Below w.heap.size w w' := moves_walk a len cap z a' len' cap' z' w hz hz'
end Go.Proofs.Ytflbidbnbfndgaa
