/- SwapShared. -/
import Derived.Test.YtflbidbnbfndgaaSwapTwo
import Derived.Test.YtflbidbnbfndgaaOpen
import Derived.OpenShut
import Derived.Deep.RegionHeld
namespace Go.Proofs.Ytflbidbnbfndgaa
open Go Go.RowKit

theorem rowP_cell {w w' : World} {a : Option Addr} {len cap : Nat} {z : List (Int × Int)} (h : Open.RowsAt w encP 2 a len cap z) (hb : Below w.heap.size w w') (i : Nat) (hi : i < len) :
    ∃ b off x, a = some ⟨b, off, none⟩ ∧ z[i]? = some x ∧ w'.cell? ⟨b, off + i * 2, none⟩ = some (.int .i64 x.1) ∧ w'.cell? ⟨b, off + i * 2 + 1, none⟩ = some (.int .i64 x.2) := by
  obtain ⟨hz, _, _, hc⟩ := h
  obtain ⟨b, off, ha, hlt, hv⟩ := hc i hi
  have hx : z[i]? = some z[i] := List.getElem?_eq_getElem (by omega)
  have h0 := hv _ hx 0 _ rfl
  have h1 := hv _ hx 1 _ rfl
  rw [Nat.add_zero] at h0
  refine ⟨b, off, z[i], ha, hx, (hb.cell hlt).trans h0, ?_⟩
  rw [Nat.add_assoc]
  exact (hb.cell hlt).trans h1

/-- All places of a list, in order, each once. -/
def allP (l : List (Int × Int)) : List (Int × Int) := l.foldl putP []
theorem allP_snoc (l : List (Int × Int)) (x : Int × Int) : allP (l ++ [x]) = putP (allP l) x := by simp [allP]
theorem allP_sorted (l : List (Int × Int)) : SortedP (allP l) := by
  have key : ∀ (l m : List (Int × Int)), SortedP m → SortedP (l.foldl putP m) := by
    intro l
    induction l with
    | nil => intro m h; exact h
    | cons x l ih => intro m h; exact ih _ (putP_sorted h x)
  exact key l [] List.Pairwise.nil
theorem allP_length (l : List (Int × Int)) : (allP l).length ≤ l.length := by
  have key : ∀ (l m : List (Int × Int)), (l.foldl putP m).length ≤ m.length + l.length := by
    intro l
    induction l with
    | nil => intro m; simp
    | cons x l ih =>
      intro m
      have := ih (putP m x)
      have := putP_length m x
      simp only [List.foldl_cons, List.length_cons]
      omega
  have := key l []
  simp only [List.length_nil, Nat.zero_add] at this
  exact this

theorem take_one (x : Int × Int) (l : List (Int × Int)) : takeR (noL.set 0 (x :: l)) = (1, true) := by
  simp [takeR, noL, freeFrom, List.replicate]
theorem held_one (x : Int × Int) (l : List (Int × Int)) : heldN (noL.set 0 (x :: l)) = 1 := by
  simp [heldN, noL, List.replicate]
theorem first_get (l : List (Int × Int)) : (noL.set 0 l)[0]? = some l := by rw [List.getElem?_set_self (by rw [noL, List.length_replicate]; omega)]

theorem Two.used_one {B : Nat} {w : World} {p : Nat} {v : Value} {M l : List (Int × Int)} {x : Int × Int} (h : Two B w p (noL.set 0 (x :: l)) v M) (hl : l.length ≤ 1000) :
    Calls Try.prog 35 #[.pointer (some ⟨p, 0, none⟩)] w fun e w' => e = .returned (.int .i64 1) ∧ Two B w' p (noL.set 0 (x :: l)) v M ∧ Below w.heap.size w w' := by
  have h0 := Used_in h.one (by
    intro m hm
    rcases List.mem_or_eq_of_mem_set hm with hm | rfl
    · simp [noL] at hm; subst hm; simp
    · simp; omega)
  rw [held_one] at h0
  exact h0.mono fun _ _ ⟨he, _, hb⟩ => ⟨he, h.below hb, hb⟩
theorem Two.release_yes {B : Nat} {w : World} {p : Nat} {v : Value} {M l : List (Int × Int)} {x : Int × Int} (h : Two B w p (noL.set 0 (x :: l)) v M) (hB : B ≤ w.heap.size) (hl : l.length ≤ 1000) :
    Calls Try.prog 36 #[.pointer (some ⟨p, 0, none⟩), .int .i64 0, .agg #[.int .i64 x.1, .int .i64 x.2]] w fun e w' => e = .returned (.bool true) ∧ Two B w' p (noL.set 0 l) v M ∧ Below B w w' := by
  have h0 := h.release hB 0 0 rfl (x :: l) (first_get _) x (by simp; omega)
  rw [List.set_set, List.erase_cons_head] at h0
  exact h0.mono fun _ _ ⟨he, h1⟩ => ⟨by rw [he]; simp, h1⟩
theorem Two.release_no {B : Nat} {w : World} {p : Nat} {v : Value} {M l : List (Int × Int)} {x : Int × Int} (h : Two B w p (noL.set 0 l) v M) (hB : B ≤ w.heap.size) (hl : l.length ≤ 1000) (hx : x ∉ l) :
    Calls Try.prog 36 #[.pointer (some ⟨p, 0, none⟩), .int .i64 0, .agg #[.int .i64 x.1, .int .i64 x.2]] w fun e w' => e = .returned (.bool false) ∧ Two B w' p (noL.set 0 l) v M ∧ Below B w w' := by
  have h0 := h.release hB 0 0 rfl l (first_get _) x (by omega)
  rw [List.set_set, List.erase_of_not_mem hx] at h0
  exact h0.mono fun _ _ ⟨he, h1⟩ => ⟨by rw [he]; simp [hx], h1⟩

set_option maxRecDepth 100000 in
set_option maxHeartbeats 1000000 in
theorem shared_walk (a : Option Addr) (len cap : Nat) (z : List (Int × Int)) (w : World) (hz : Open.RowsAt w encP 2 a len cap z) :
    Calls Try.prog 6 #[.slice a len cap] w fun e w' => e = .returned (.bool true) ∧ Below w.heap.size w w' := by
  have HZ := Lib.hid hz
  clear hz
  by_cases h0 : len = 0 ∨ 40 < len
  · have h0' : (len : Int) = 0 ∨ (40 : Int) < len := by omega
    by_cases h1 : (len : Int) = 0
    · go_enter Try.func6, Try.ntmps6
      go_wp2_with fail
      refine (swapAnswers _).mono ?_
      rintro e w1 ⟨rfl, b1⟩
      have HB := Lib.hid b1
      clear b1
      go_wp2_with fail
      go_ret
      exact ⟨rfl, HB.out⟩
    · have h2 : (40 : Int) < len := by omega
      go_enter Try.func6, Try.ntmps6
      go_wp2_with fail
      refine (swapAnswers _).mono ?_
      rintro e w1 ⟨rfl, b1⟩
      have HB := Lib.hid b1
      clear b1
      go_wp2_with fail
      go_ret
      exact ⟨rfl, HB.out⟩
  · have h1 : ¬ (len : Int) = 0 := by omega
    have h2 : ¬ (40 : Int) < len := by omega
    have h40 : len ≤ 40 := by omega
    clear h0
    go_enter Try.func6, Try.ntmps6
    go_wp2_with fail
    refine (New_in w).mono ?_
    rintro e w1 ⟨rfl, hS1, b1⟩
    have H1 := Lib.hid hS1
    have HB1 := Lib.hid b1
    clear hS1 b1
    go_wp2_with fail
    have T1 : Hid (Two w.heap.size w1 w.heap.size (noL.set 0 (allP (z.take 0))) (.slice none 0 0) (allP (z.take 0))) := by
      obtain ⟨S, V, h1, h2⟩ := H1.out
      have e : noL.set 0 (allP (z.take 0)) = noL := set_same (by rw [noL, List.getElem?_replicate, if_pos (by omega)]; rfl)
      rw [e]
      exact ⟨_, V, h1.small, fun i hi => by simp at hi; exact ⟨h2 i hi.1, hi.2⟩, PlAt.nil _, by simp [Value.ownBlock]⟩
    clear H1
    go_loopw [4, 5] (fun al i wr => ∃ j : Nat, j ≤ len ∧ i = .int .i64 j ∧ Two w.heap.size wr w.heap.size (noL.set 0 (allP (z.take j))) al (allP (z.take j)) ∧ Below w.heap.size w wr) (fun _ i _ => len - (intOf i).toNat)
    case atStart => exact ⟨0, by omega, rfl, T1.out, HB1.out⟩
    case round =>
      obtain ⟨j, hj, rfl, hT, hb⟩ := hrel
      clear T1 HB1
      have HT := Lib.hid hT
      have HB := Lib.hid hb
      clear hT hb
      by_cases hlt : j < len
      · obtain ⟨b, off, x, rfl, hx, e0, e1⟩ := rowP_cell HZ.out HB.out j hlt
        have hlt' : (j : Int) < len := by omega
        have hm : (allP (z.take j)).length ≤ 100000 := Nat.le_trans (allP_length _) (by rw [List.length_take]; omega)
        have hnx : Hid (allP (z.take (j + 1)) = putP (allP (z.take j)) x) := by
          obtain ⟨hjz, rfl⟩ := List.getElem?_eq_some_iff.1 hx
          show _ = _
          rw [List.take_succ_eq_append_getElem hjz, allP_snoc]
        have HX := Lib.hid hx
        have HM := Lib.hid hm
        clear hx hm
        go_wp2_with fail
        refine (HT.out.hold HB.out.size 0 _ rfl (allP (z.take j)) (by rw [List.getElem?_set_self (by rw [noL, List.length_replicate]; omega)]) x (allP_sorted _) HM.out).mono ?_
        rw [List.set_set, ← hnx.out]
        rintro e w2 ⟨rfl, h2, b2⟩
        have HT2 := Lib.hid h2
        have HB2 := Lib.hid (HB.out.trans b2)
        clear h2 b2 e0 e1
        obtain ⟨b', off', x', hab, hx', e0, e1⟩ := rowP_cell HZ.out HB2.out j hlt
        cases hab
        obtain rfl : x' = x := by have := hx'.symm.trans HX.out; exact Option.some.inj this
        clear hx'
        go_wp2_with fail
        refine (HT2.out.put HB2.out.size x' (allP_sorted _) HM.out).mono ?_
        rw [← hnx.out]
        rintro e w3 ⟨v3, rfl, h3, b3⟩
        have HT3 := Lib.hid h3
        have HB3 := Lib.hid (HB2.out.trans (b3.mono HB2.out.size))
        clear h3 b3
        go_wp2_with fail
        go_roundw
        case rel => exact ⟨j + 1, by omega, by go_num, HT3.out, HB3.out⟩
        case measure => simp [intOf]; omega
      · obtain rfl : j = len := by omega
        have ez : z.take j = z := List.take_of_length_le (by rw [HZ.out.1]; exact Nat.le_refl _)
        rw [ez] at HT
        obtain ⟨a2, c2, ha2, _, _⟩ := SlAt.form HT.out.list
        obtain ⟨M, hM⟩ : ∃ M, M = allP z := ⟨_, rfl⟩
        rw [← hM] at HT ha2
        subst ha2
        clear ez hlt
        go_wp2_with fail
        have hMl : Hid (M.length ≤ 40) := by rw [hM]; exact Nat.le_trans (allP_length z) (by rw [HZ.out.1]; exact h40)
        have hMs : Hid (SortedP M) := by rw [hM]; exact allP_sorted z
        clear hM
        have HT0 : Hid (Two w.heap.size wr w.heap.size (noL.set 0 (M.drop 0)) (.slice a2 M.length c2) M) := HT.out
        obtain ⟨n, hn⟩ : ∃ n, n = M.length := ⟨_, rfl⟩
        rw [← hn] at HT0 hMl ⊢
        have HN := Lib.hid hn
        clear HT hn
        go_loopw [6, 7, 8] (fun i _ _ wq => ∃ k : Nat, k ≤ n ∧ i = .int .i64 k ∧ Two w.heap.size wq w.heap.size (noL.set 0 (M.drop k)) (.slice a2 n c2) M ∧ Below w.heap.size w wq) (fun i _ _ _ => n - (intOf i).toNat)
        case atStart => exact ⟨0, by omega, rfl, HT0.out, HB.out⟩
        case round =>
          obtain ⟨k, hk, rfl, hT, hb⟩ := hrel
          clear HT0 HB
          have HT := Lib.hid hT
          have HB := Lib.hid hb
          clear hT hb
          by_cases hlt : k < n
          · have hn40 : n ≤ 40 := hMl.out
            have hlt' : (k : Int) < n := by omega
            obtain ⟨x, hx⟩ : ∃ x, M[k]? = some x := ⟨_, List.getElem?_eq_getElem (by rw [← HN.out]; exact hlt)⟩
            obtain ⟨b2, off2, rfl⟩ := HT.out.list.addr (by rw [← HN.out]; omega)
            have hdr : M.drop k = x :: M.drop (k + 1) := by
              obtain ⟨hkM, rfl⟩ := List.getElem?_eq_some_iff.1 hx
              exact List.drop_eq_getElem_cons hkM
            rw [hdr] at HT
            have hnot : Hid (x ∉ M.drop (k + 1)) := by
              have := List.Pairwise.sublist (List.drop_sublist k M) hMs.out
              rw [hdr] at this
              exact fun hm => ltP.irrefl x ((List.pairwise_cons.1 this).1 x hm)
            have hdl : Hid ((M.drop (k + 1)).length ≤ 1000) := by show _ ≤ _; rw [List.length_drop, ← HN.out]; have := hMl.out; omega
            have HX := Lib.hid hx
            clear hx hdr
            go_wp2_with fail
            refine (Take_in HT.out.one).mono ?_
            rw [take_one]
            rintro e w2 ⟨rfl, rfl⟩
            go_wp2_with fail
            refine (HT.out.used_one hdl.out).mono ?_
            rintro e w4 ⟨rfl, h4, b4⟩
            obtain ⟨e0, e1⟩ := h4.list.cellAt HX.out
            have HW4 := Lib.hid (And.intro h4 (HB.out.trans (b4.mono HB.out.size)))
            clear h4 b4 HT HB
            go_wp2_with fail
            refine (HW4.out.1.release_yes HW4.out.2.size hdl.out).mono ?_
            rintro e w5 ⟨rfl, h5, b5⟩
            obtain ⟨f0, f1⟩ := h5.list.cellAt HX.out
            have HW5 := Lib.hid (And.intro h5 (HW4.out.2.trans b5))
            clear h5 b5 HW4 e0 e1
            go_wp2_with fail
            refine (HW5.out.1.release_no HW5.out.2.size hdl.out hnot.out).mono ?_
            rintro e w6 ⟨rfl, h6, b6⟩
            have HW6 := Lib.hid (And.intro h6 (HW5.out.2.trans b6))
            clear h6 b6 HW5 f0 f1
            go_wp2_with fail
            go_roundw
            case rel => exact ⟨k + 1, by omega, by go_num, HW6.out.1, HW6.out.2⟩
            case measure => simp [intOf]; omega
          · obtain rfl : k = n := by omega
            have hdr : M.drop k = [] := List.drop_eq_nil_of_le (by rw [← HN.out]; exact Nat.le_refl _)
            have e0 : noL.set 0 ([] : List (Int × Int)) = noL := set_same (by rw [noL, List.getElem?_replicate, if_pos (by omega)])
            rw [hdr, e0] at HT
            clear hdr e0 hlt
            go_wp2_with fail
            refine (Take_in HT.out.one).mono ?_
            rw [show takeR noL = (0, true) by decide]
            rintro e w2 ⟨rfl, rfl⟩
            go_wp2_with fail
            refine (swapAnswers _).mono ?_
            rintro e w3 ⟨rfl, b3⟩
            have HB3 := Lib.hid (HB.out.trans (b3.mono HB.out.size))
            have HT3 := Lib.hid (HT.out.below b3)
            clear b3
            go_wp2_with fail
            refine (Used_in HT3.out.one (by simp [noL])).mono ?_
            rw [heldN_noL]
            rintro e w4 ⟨rfl, -, b4⟩
            have HB4 := Lib.hid (HB3.out.trans (b4.mono HB3.out.size))
            clear b4
            go_wp2_with fail
            go_ret
            exact ⟨rfl, HB4.out⟩

/-- A place's numbers are Go's. -/
def wfP (x : Int × Int) : Prop := (Lit.int .i64 x.1).wf = true ∧ (Lit.int .i64 x.2).wf = true
theorem decP (cs : List Value) (h : Open.AllOk [some .i64, some .i64] cs) : ∃ x, cs = encP x ∧ wfP x := by
  have hlen := h.length
  simp only [List.length_cons, List.length_nil] at hlen
  obtain ⟨c0, c1, rfl⟩ : ∃ c0 c1, cs = [c0, c1] := by
    rcases cs with _ | ⟨c0, _ | ⟨c1, _ | ⟨c2, cs⟩⟩⟩ <;> simp at hlen
    exact ⟨_, _, rfl⟩
  obtain ⟨⟨y0, rfl, u0⟩, ⟨y1, rfl, u1⟩, _⟩ := h
  exact ⟨(y0, y1), rfl, u0, u1⟩

theorem swapShared_row (a : Option Addr) (len cap : Nat) (z : List (Int × Int)) (w : World) (hz : Open.RowsAt w encP 2 a len cap z) (_ : ∀ x ∈ z, wfP x) :
    Calls Try.prog 6 #[.slice a len cap] w fun e w' => e = .returned (.bool true) ∧ Below w.heap.size w w' := shared_walk a len cap z w hz
end Go.Proofs.Ytflbidbnbfndgaa
