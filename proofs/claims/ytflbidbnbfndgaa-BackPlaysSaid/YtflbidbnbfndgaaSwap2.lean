/- Swap's other functions: Of, Release, Take, Used. -/
import Derived.Test.YtflbidbnbfndgaaSwap
import Derived.Deep.MidRow
namespace Go.Proofs.Ytflbidbnbfndgaa
open Go Go.RowKit

theorem Hold_no (w : World) (p : Nat) (n : Int) (hn : n < 0 ∨ 32 ≤ n) (x : Int × Int) :
    Calls Try.prog 33 #[.pointer (some ⟨p, 0, none⟩), .int .i64 n, .agg #[.int .i64 x.1, .int .i64 x.2]] w fun e w' => e = .returned (.bool false) ∧ Below w.heap.size w w' := by
  go_enter Try.func33, Try.ntmps33
  go_wp2_with fail
  refine (there_no _ _ n hn).mono ?_
  rintro e w1 ⟨rfl, rfl⟩
  go_wp2_with fail
  go_ret
  exact ⟨rfl, (Below.refl _ _).alloc (Nat.le_refl _) _⟩

theorem Release_no (w : World) (p : Nat) (n : Int) (hn : n < 0 ∨ 32 ≤ n) (x : Int × Int) :
    Calls Try.prog 36 #[.pointer (some ⟨p, 0, none⟩), .int .i64 n, .agg #[.int .i64 x.1, .int .i64 x.2]] w fun e w' => e = .returned (.bool false) ∧ Below w.heap.size w w' := by
  go_enter Try.func36, Try.ntmps36
  go_wp2_with fail
  refine (there_no _ _ n hn).mono ?_
  rintro e w1 ⟨rfl, rfl⟩
  go_wp2_with fail
  go_ret
  exact ⟨rfl, (Below.refl _ _).alloc (Nat.le_refl _) _⟩

theorem Of_walk' (w : World) (p : Nat) (S : List Nat) (V : List Value) (L : List (List (Int × Int))) (h : SwapAt w p S V L) (k : Nat) (l : List (Int × Int)) (hl : L[k]? = some l) (hlen : l.length ≤ 1000000) :
    Calls Try.prog 40 #[.pointer (some ⟨p, 0, none⟩), .int .i64 k] w fun e w' => ∃ v', e = .returned v' ∧ PlAt w' v' l ∧ Below w.heap.size w w' ∧ ∀ b, v'.ownBlock = some b → w.heap.size ≤ b := by
  have hk : k < 32 := by have := (List.getElem?_eq_some_iff.1 hl).1; rw [h.lenL] at this; exact this
  obtain ⟨v, hv⟩ : ∃ v, V[k]? = some v := ⟨_, List.getElem?_eq_getElem (by rw [h.lenV]; exact hk)⟩
  obtain ⟨T, hblk⟩ := h.blk
  have hp : p < w.heap.size := (Array.getElem?_eq_some_iff.1 hblk).1
  have hc : w.cell? ⟨p, k, none⟩ = some v := by rw [cell_of_row w p k _ _ _ hblk]; simpa using hv
  have cl := Lib.hid (fun W (hW : Below w.heap.size w W) => Clone_walk W v l ((h.at_ k v l hv hl).below hW) hlen)
  have hk0 : (0 : Int) ≤ k := by omega
  have hk1 : (k : Int) < 32 := by omega
  clear h hblk
  go_enter Try.func40, Try.ntmps40
  go_wp2_with fail
  refine (there_yes _ _ k hk).mono ?_
  rintro e w1 ⟨rfl, rfl⟩
  go_wp2_with fail
  refine (cl.out _ (Below.refl _ _)).mono ?_
  rintro e w2 ⟨v2, rfl, hp2, hb2, ho2⟩
  have H2 := Lib.hid (And.intro hp2 (And.intro hb2 ho2))
  clear hp2 hb2 ho2
  go_wp2_with fail
  refine (Clip_walk w2 v2 l H2.out.1).mono ?_
  rintro e w3 ⟨v3, rfl, hp3, rfl, ho3⟩
  have H3 := Lib.hid (And.intro hp3 ho3)
  clear hp3 ho3
  go_wp2_with fail
  go_ret
  exact ⟨v3, rfl, H3.out.1, H2.out.2.1, fun b hb => H2.out.2.2 b (by rw [← H3.out.2]; exact hb)⟩

/-- An element of the array of slots. -/
theorem index_run (V : List Value) (k : Nat) (v : Value) (hk : (k : Int) < 32) (hv : V[k]? = some v) (W : World) : (Instr.index 63 (.agg V.toArray) (.int .i64 k)).run Try.prog W = .ok v W := by
  have z := Try.sizeOf35
  have a := Try.isAgg35
  have h0 : (0 : Int) ≤ k := by omega
  have hva : V.toArray[k]? = some v := by simpa using hv
  simp [Instr.index, run_underlying Try.underlying63, asIntOf, part, h0, z, a, hv]
  intro h
  omega

/-- The first list that is empty, from a number on. -/
def freeFrom : List (List (Int × Int)) → Nat → Option Nat
  | [], _ => none
  | l :: r, i => if l = [] then some i else freeFrom r (i + 1)
/-- What Take answers. -/
def takeR (L : List (List (Int × Int))) : Int × Bool := match freeFrom L 0 with
  | some i => (i, true)
  | none => (0, false)

theorem freeFrom_drop (L : List (List (Int × Int))) (k : Nat) (h : ∀ j l, j < k → L[j]? = some l → l ≠ []) (i : Nat) : freeFrom L i = freeFrom (L.drop k) (i + k) := by
  induction k generalizing L i with
  | zero => simp
  | succ k ih =>
    cases L with
    | nil => simp [freeFrom]
    | cons x L =>
      have h0 := h 0 x (by omega) rfl
      rw [freeFrom, if_neg h0, List.drop_succ_cons, ih L (fun j l hj hl => h (j + 1) l (by omega) (by simpa using hl)) (i + 1)]
      congr 1; omega

set_option maxRecDepth 100000 in
set_option maxHeartbeats 400000 in
theorem Take_walk (w : World) (p : Nat) (S : List Nat) (V : List Value) (L : List (List (Int × Int))) (h : SwapAt w p S V L) :
    Calls Try.prog 32 #[.pointer (some ⟨p, 0, none⟩)] w fun e w' => e = .returned (.tuple #[.int .i64 (takeR L).1, .bool (takeR L).2]) ∧ w' = w := by
  obtain ⟨T, hblk⟩ := h.blk
  have hr : w.rangeAt p 0 V := fun j v hv => by rw [Nat.zero_add, cell_of_row w p j _ _ _ hblk]; simpa using hv
  have hi : (Try.prog.info? 63).map (·.size) = some V.length := by rw [h.lenV]; kernel_rfl
  have hR := Lib.hid hr
  have hI := Lib.hid hi
  have H := Lib.hid h
  clear hr hi hblk h
  go_enter Try.func32, Try.ntmps32
  go_wp2_with (refine wpList_load_mid rfl 63 (.tmp 10) rfl p 0 rfl V _ hR.out Try.underlying63 rfl hI.out ?_)
  go_loopw [4, 5, 12] (fun _ _ i wr => ∃ k : Nat, k ≤ 32 ∧ i = .int .i64 k ∧ wr = w ∧ ∀ j l, j < k → L[j]? = some l → l ≠ []) (fun _ _ i _ => 32 - (intOf i).toNat)
  case atStart => exact ⟨0, by omega, rfl, rfl, fun j l hj => absurd hj (Nat.not_lt_zero _)⟩
  case round =>
    obtain ⟨k, hk, rfl, rfl, hlo⟩ := hrel
    have HL := Lib.hid hlo
    clear hlo
    by_cases hlt : k < 32
    · obtain ⟨v, hv⟩ : ∃ v, V[k]? = some v := ⟨_, List.getElem?_eq_getElem (by rw [H.out.lenV]; exact hlt)⟩
      obtain ⟨l, hl⟩ : ∃ l, L[k]? = some l := ⟨_, List.getElem?_eq_getElem (by rw [H.out.lenL]; exact hlt)⟩
      obtain ⟨a, c, rfl, _, _⟩ := SlAt.form (H.out.at_ k v l hv hl)
      have h1 : (k : Int) < 32 := by omega
      have h2 : (0 : Int) ≤ k := by omega
      have hidx := index_run V k _ h1 hv
      by_cases he : l = []
      · subst he
        go_wp2_with fail
        have e : takeR L = ((k : Int), true) := by
          unfold takeR
          rw [freeFrom_drop L k HL.out 0, List.drop_eq_getElem_cons (by rw [H.out.lenL]; exact hlt)]
          have : L[k]'(by rw [H.out.lenL]; exact hlt) = [] := (List.getElem?_eq_some_iff.1 hl).2
          rw [this, freeFrom, if_pos rfl]
          simp
        exact bodyPost_ret (v := .tuple #[.int .i64 k, .bool true]) (by simp [results, Try.results32, go_sem]) rfl ⟨by rw [e], rfl⟩
      · have hne : ¬ ((l.length : Int) = 0) := by
          intro e
          exact he (List.eq_nil_of_length_eq_zero (by omega))
        go_wp2_with fail
        go_roundw
        case rel =>
          refine ⟨k + 1, by omega, by go_num, trivial, fun j m hj hm => ?_⟩
          by_cases hjk : j = k
          · subst hjk; rw [hl] at hm; cases hm; exact he
          · exact HL.out j m (by omega) hm
        case measure => simp [intOf]; omega
    · go_wp2_with fail
      have e : takeR L = (0, false) := by
        unfold takeR
        rw [freeFrom_drop L k HL.out 0, List.drop_eq_nil_of_le (by rw [H.out.lenL]; omega)]
        rfl
      exact bodyPost_ret (v := .tuple #[.int .i64 0, .bool false]) (by simp [results, Try.results32, go_sem]) rfl ⟨by rw [e], rfl⟩

end Go.Proofs.Ytflbidbnbfndgaa
