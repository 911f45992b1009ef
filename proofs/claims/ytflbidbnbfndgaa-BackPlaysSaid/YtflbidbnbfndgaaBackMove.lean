/- Back's Move. -/
import Derived.Test.YtflbidbnbfndgaaBack
import Derived.Test.YtflbidbnbfndgaaRefEq
namespace Go.Proofs.Ytflbidbnbfndgaa
open Go Go.RowKit

variable {K : Int → Prop}

theorem BMove_no (w : World) (p m : Nat) (S : List Nat) (V : List (Int × Value)) (L : Int → List (Int × Int)) (h : BackAt K w p m S V L) (f g : Int) (hlen : (L f).length ≤ 1000000) (hno : L f = [] ∨ f = g) :
    Calls Try.prog 28 #[.pointer (some ⟨p, 0, none⟩), .int .i64 f, .int .i64 g] w fun e w' => e = .returned (.bool false) ∧ Below w.heap.size w w' := by
  have hof := BOf_walk w p m S V L h f hlen
  generalize L f = l at hof hno
  have HO := Lib.hid hof
  have HN := Lib.hid hno
  clear hof hno h
  go_enter Try.func28, Try.ntmps28
  go_wp2_with fail
  refine HO.out.mono ?_
  rintro e w2 ⟨v2, rfl, hp2, hb2, ho2⟩
  obtain ⟨a, c, rfl, _, _⟩ := SlAt.form hp2
  have HB := Lib.hid hb2
  clear hp2 hb2 ho2
  by_cases he : l = []
  · subst he
    go_wp2_with fail
    go_ret
    exact ⟨rfl, HB.out⟩
  · have hne : ¬ ((l.length : Int) = 0) := fun e => he (List.eq_nil_of_length_eq_zero (by omega))
    have hfg : f = g := HN.out.resolve_left he
    subst hfg
    go_wp2_with fail
    go_ret
    exact ⟨rfl, HB.out⟩

theorem BackAt.small {w : World} {p m : Nat} {S : List Nat} {V : List (Int × Value)} {L : Int → List (Int × Int)} (h : BackAt K w p m S V L) : BackAt K w p m (S.filter (fun j => decide (j < w.heap.size))) V L := by
  obtain ⟨hp, hm, _⟩ := h.ps
  exact ⟨h.c0, h.map, h.at_, fun f b hb => ⟨by simp [(h.own f b hb).1, SlAt.lt (h.at_ f) b hb], (h.own f b hb).2⟩, h.inj, by simp [h.pin, hp], by simp [h.min, hm], h.nd, h.keys⟩
theorem foldP_sorted (l m : List (Int × Int)) (h : SortedP m) : SortedP (l.foldl putP m) := by
  induction l generalizing m with
  | nil => exact h
  | cons x l ih => exact ih _ (putP_sorted h x)
theorem foldP_length (l m : List (Int × Int)) : (l.foldl putP m).length ≤ m.length + l.length := by
  induction l generalizing m with
  | nil => simp
  | cons x l ih =>
    have := ih (putP m x)
    have := putP_length m x
    simp only [List.foldl_cons, List.length_cons]
    omega
theorem updF_at (L : Int → List (Int × Int)) (f : Int) (l : List (Int × Int)) : updF L f l f = l := by unfold updF; rw [if_pos rfl]

set_option maxRecDepth 100000 in
set_option maxHeartbeats 1000000 in
theorem BMove_yes0 (w : World) (p m : Nat) (S : List Nat) (V : List (Int × Value)) (L : Int → List (Int × Int)) (h : BackAt K w p m S V L) (f g : Int) (hs : SortedP (L g)) (hlen : (L f).length ≤ 1000 ∧ (L g).length ≤ 1000) (hne : L f ≠ []) (hfg : f ≠ g) (hK : K g) (hsm : ∀ b ∈ S, b < w.heap.size) :
    Calls Try.prog 28 #[.pointer (some ⟨p, 0, none⟩), .int .i64 f, .int .i64 g] w fun e w' => e = .returned (.bool true) ∧ ∃ S' V', BackAt K w' p m S' V' (updF (updF L f []) g ((L f).foldl putP (L g))) ∧ Touch S w w' ∧ ∀ b ∈ S', b ∈ S ∨ w.heap.size ≤ b := by
  have hof := BOf_walk w p m S V L h f (by omega)
  obtain ⟨l, hl⟩ : ∃ l, l = L f := ⟨_, rfl⟩
  rw [← hl] at hof hne hlen ⊢
  have HO := Lib.hid hof
  have H := Lib.hid h
  have HL := Lib.hid hl
  have HS := Lib.hid hs
  clear hof h hl hs
  go_enter Try.func28, Try.ntmps28
  go_wp2_with fail
  refine HO.out.mono ?_
  rintro e w2 ⟨v2, rfl, hp2, hb2, ho2⟩
  obtain ⟨a, c, rfl, hnc, _⟩ := SlAt.form hp2
  have hB2 := H.out.below hb2
  have q0 := hB2.c0
  obtain ⟨w3, hr3, M3, g3, z3⟩ := delete_run (T := 87) lawOf Try.underlying87 hB2.map f 0 3
  rw [show encInt f = .int .i64 f from rfl] at hr3
  obtain ⟨S3, h31, h32, h33⟩ := hB2.set (f := f) (v' := .slice none 0 0) (l' := []) (slotB_del hB2.nd f) (nd_del hB2.nd f) (keys_del hB2.keys f) M3 (PlAt.nil _) (fun b hb => by simp [Value.ownBlock] at hb)
    (fun j hj hjm _ => g3.block j hj (by simp; exact hjm)) g3.os g3.tape g3.output (by omega)
  have HP3 : Hid (PlAt w3 (.slice a l.length c) l) := hp2.keep fun b hb => g3.block b (SlAt.lt hp2 b hb) (fun e => by
    have := ho2 b hb
    have := H.out.ps.2.1
    cases e
    omega)
  have HOW : Hid (∀ b, (Value.slice a l.length c).ownBlock = some b → w.heap.size ≤ b ∧ b < w2.heap.size) := fun b hb => ⟨ho2 b hb, SlAt.lt hp2 b hb⟩
  have HB2 := Lib.hid hb2
  have H31 := Lib.hid h31
  have H32 := Lib.hid h32
  have H33 := Lib.hid h33
  have G3 := Lib.hid g3
  clear hp2 hb2 ho2 hB2 M3 g3 z3 h31 h32 h33
  have hne' : ¬ ((l.length : Int) = 0) := fun e => hne (List.eq_nil_of_length_eq_zero (by omega))
  have hT0 := Lib.hid ((Touch.of_below HB2.out).trans H32.out)
  have hL1 := hlen.1
  have hq1 : ((l.length : Int) == 0) = false := by simpa using hne'
  have hq2 : (f == g) = false := by simpa using hfg
  go_wp2_with fail
  go_loopw [9, 28] (fun _ i wr => ∃ k : Nat, k ≤ l.length ∧ i = .int .i64 k ∧ ∃ S' V', BackAt K wr p m S' V' (updF (updF L f []) g ((l.take k).foldl putP (L g))) ∧ Touch S w wr ∧ (∀ b ∈ S', b ∈ S ∨ w.heap.size ≤ b) ∧ PlAt wr (.slice a l.length c) l ∧ ∀ b, (Value.slice a l.length c).ownBlock = some b → b ∉ S') (fun _ i _ => l.length - (intOf i).toNat)
  case atStart =>
    refine ⟨0, by omega, rfl, S3, delL V f, ?_, hT0.out, fun b hb => (H33.out b hb).imp id (fun e => by have := HB2.out.size; omega), HP3.out, fun b hb hm => ?_⟩
    · have e : updF (updF L f []) g ((l.take 0).foldl putP (L g)) = updF L f [] := updF_same _ g (by
        simp only [List.take_zero, List.foldl_nil]
        unfold updF
        rw [if_neg (Ne.symm hfg)])
      rw [e]
      exact H31.out
    · have h1 := HOW.out b hb
      rcases H33.out b hm with e | e
      · have := hsm b e; omega
      · omega
  case round =>
    obtain ⟨k, hk, rfl, S', V', hA, hT, hN, hP, hO⟩ := hrel
    have HA := Lib.hid hA
    have HT := Lib.hid hT
    have HN := Lib.hid hN
    have HP := Lib.hid hP
    have HO' := Lib.hid hO
    clear hA hT hN hP hO
    by_cases hlt : k < l.length
    · have hlt' : (k : Int) < l.length := by omega
      obtain ⟨y, hy⟩ : ∃ y, l[k]? = some y := ⟨_, List.getElem?_eq_getElem hlt⟩
      obtain ⟨b, off, rfl⟩ := HP.out.addr (by omega)
      obtain ⟨e0, e1⟩ := HP.out.cellAt hy
      obtain ⟨y1, y2⟩ := y
      simp only at e0 e1
      have HY := Lib.hid hy
      clear hy
      have hadd := Lib.hid (fun W (hW : Below wr.heap.size wr W) => BAdd_walk W p m S' V' _ (HA.out.below hW) g (y1, y2) (by rw [updF_at]; exact foldP_sorted _ _ HS.out) (by
        rw [updF_at]
        have := foldP_length (l.take k) (L g)
        rw [List.length_take] at this
        omega) hK)
      go_wp2_with fail
      refine (hadd.out _ ((Below.refl _ _).alloc (Nat.le_refl _) _)).mono ?_
      rintro e w5 ⟨rfl, S5, V5, h51, h52, h53⟩
      have H51 := Lib.hid h51
      have H52 := Lib.hid ((Touch.of_below (S := S') ((Below.refl _ wr).alloc (Nat.le_refl _) (.cells #[.int .i64 y1, .int .i64 y2] 40))).trans h52)
      have H53 := Lib.hid h53
      clear h51 h52 h53
      go_wp2_with fail
      go_roundw
      case rel =>
        have hsz : wr.heap.size ≤ (wr.alloc (.cells #[.int .i64 y1, .int .i64 y2] 40)).heap.size := by simp
        refine ⟨k + 1, by omega, by go_num, S5, V5, ?_, HT.out.next H52.out HN.out, fun b hb => ?_, HP.out.touch H52.out HO'.out, fun b hb hm => ?_⟩
        · have h := H51.out
          rw [updF_at, updF_twice] at h
          rw [take_next HY.out, List.foldl_append]
          exact h
        · rcases H53.out b hb with e | e
          · exact HN.out b e
          · have := HT.out.size; omega
        · rcases H53.out b hm with e | e
          · exact HO'.out b hb e
          · have := SlAt.lt HP.out b hb; omega
      case measure => simp [intOf]; omega
    · have e : l.take k = l := List.take_of_length_le (by omega)
      rw [e] at HA
      go_wp2_with fail
      go_ret
      exact ⟨rfl, S', V', HA.out, HT.out, HN.out⟩

theorem BMove_yes (w : World) (p m : Nat) (S : List Nat) (V : List (Int × Value)) (L : Int → List (Int × Int)) (h : BackAt K w p m S V L) (f g : Int) (hs : SortedP (L g)) (hlen : (L f).length ≤ 1000 ∧ (L g).length ≤ 1000) (hne : L f ≠ []) (hfg : f ≠ g) (hK : K g) :
    Calls Try.prog 28 #[.pointer (some ⟨p, 0, none⟩), .int .i64 f, .int .i64 g] w fun e w' => e = .returned (.bool true) ∧ ∃ S' V', BackAt K w' p m S' V' (updF (updF L f []) g ((L f).foldl putP (L g))) ∧ Touch S w w' ∧ ∀ b ∈ S', b ∈ S ∨ w.heap.size ≤ b := by
  refine (BMove_yes0 w p m _ V L h.small f g hs hlen hne hfg hK (fun b hb => by simp at hb; exact hb.2)).mono ?_
  rintro e w' ⟨rfl, S', V', h1, h2, h3⟩
  exact ⟨rfl, S', V', h1, h2.mono (fun b _ hb => by simp at hb; exact hb.1), fun b hb => (h3 b hb).imp (fun e => by simp at e; exact e.1) id⟩
end Go.Proofs.Ytflbidbnbfndgaa
