/- SwapPlays. -/
import Derived.Test.YtflbidbnbfndgaaSwapPair
import Derived.Test.YtflbidbnbfndgaaInts
import Derived.OpenShut
import Derived.Deep.RegionHeld
namespace Go.Proofs.Ytflbidbnbfndgaa
open Go Go.RowKit

theorem SwapAt.fresh (w : World) (T : TypeId) : SwapAt (w.alloc (.cells (List.replicate 32 (.slice none 0 0)).toArray T)) w.heap.size [w.heap.size] (List.replicate 32 (.slice none 0 0)) noL := by
  refine ⟨⟨_, heap_alloc_new w _⟩, by simp, by simp [noL], ?_, ?_, ?_, by simp⟩
  · intro i v l hv hl
    simp only [noL, List.getElem?_replicate] at hv hl
    split at hv
    · rw [if_pos ‹_›] at hl; cases hv; cases hl; exact PlAt.nil _
    · cases hv
  · intro i v b hv hb
    simp only [List.getElem?_replicate] at hv
    split at hv
    · cases hv; simp [Value.ownBlock] at hb
    · cases hv
  · intro i j u v b hu hv hb
    simp only [List.getElem?_replicate] at hu
    split at hu
    · cases hu; simp [Value.ownBlock] at hb
    · cases hu

theorem Pair.start {w w1 : World} {p : Nat} (h : SwapIn w.heap.size w1 p noL) (hb : Below w.heap.size w w1) (T : TypeId) :
    Pair w.heap.size (w1.heap.size + 1) (w1.alloc (.cells (List.replicate 32 (.slice none 0 0)).toArray T)) p w1.heap.size noL noL := by
  obtain ⟨S, V, h1, h2⟩ := h
  have ba : Below w1.heap.size w1 (w1.alloc (.cells (List.replicate 32 (.slice none 0 0)).toArray T)) := (Below.refl _ _).alloc (Nat.le_refl _) _
  refine ⟨_, V, _, _, h1.small.below ba, SwapAt.fresh w1 T, fun i hi => ?_, fun i hi => ?_, fun i hi hm => ?_⟩
  · simp only [List.mem_filter, decide_eq_true_eq] at hi
    exact ⟨h2 i hi.1, Nat.lt_of_lt_of_le hi.2 ba.size, by omega⟩
  · rw [List.mem_singleton] at hi
    subst hi
    exact ⟨hb.size, by rw [World.size_alloc]; exact Nat.lt_succ_self _, by omega⟩
  · simp only [List.mem_filter, decide_eq_true_eq] at hi
    rw [List.mem_singleton] at hm
    omega

/-- The first list that is empty; -1: none. -/
def firstI (L : List (List (Int × Int))) : Int := match freeFrom L 0 with
  | some i => i
  | none => -1
theorem freeFrom_append (a : List (List (Int × Int))) (l : List (Int × Int)) (i : Nat) : freeFrom (a ++ [l]) i = match freeFrom a i with | some j => some j | none => if l = [] then some (i + a.length) else none := by
  induction a generalizing i with
  | nil => simp [freeFrom]
  | cons x a ih =>
    simp only [List.cons_append, freeFrom, List.length_cons]
    split
    · rfl
    · rw [ih, show i + 1 + a.length = i + (a.length + 1) by omega]
theorem freeFrom_lt {a : List (List (Int × Int))} {i j : Nat} (h : freeFrom a i = some j) : j < i + a.length := by
  induction a generalizing i with
  | nil => simp [freeFrom] at h
  | cons x a ih =>
    simp only [freeFrom] at h
    rw [List.length_cons]
    split at h
    · cases h; omega
    · have := ih h; omega
theorem firstI_bounds (L : List (List (Int × Int))) : -1 ≤ firstI L ∧ firstI L < (L.length : Int) + 1 := by
  unfold firstI
  split
  · rename_i j h
    have := freeFrom_lt h
    omega
  · omega

/-- Lists that are in order, and not long. -/
def Fine (L : List (List (Int × Int))) (i : Nat) : Prop := ∀ l ∈ L, SortedP l ∧ l.length ≤ i
theorem Fine.start : Fine noL 0 := by
  intro l hl
  simp [noL] at hl
  subst hl
  exact ⟨List.Pairwise.nil, by simp⟩
theorem Fine.up {L : List (List (Int × Int))} {i : Nat} (h : Fine L i) : Fine L (i + 1) := fun l hl => ⟨(h l hl).1, Nat.le_succ_of_le (h l hl).2⟩
theorem Fine.put {L : List (List (Int × Int))} {i : Nat} (h : Fine L i) (k : Nat) {l : List (Int × Int)} (hl : L[k]? = some l) (x : Int × Int) : Fine (L.set k (putP l x)) (i + 1) := by
  intro m hm
  rcases List.mem_or_eq_of_mem_set hm with hm | rfl
  · exact h.up m hm
  · have := h l (List.mem_of_getElem? hl)
    have := putP_length l x
    exact ⟨putP_sorted ‹_ ∧ _›.1 x, by omega⟩
theorem Fine.out {L : List (List (Int × Int))} {i : Nat} (h : Fine L i) (k : Nat) {l : List (Int × Int)} (hl : L[k]? = some l) (x : Int × Int) : Fine (L.set k (l.erase x)) (i + 1) := by
  intro m hm
  rcases List.mem_or_eq_of_mem_set hm with hm | rfl
  · exact h.up m hm
  · have h0 := h l (List.mem_of_getElem? hl)
    have := List.length_erase_le (a := x) (l := l)
    exact ⟨erase_sorted h0.1 x, by omega⟩

set_option maxRecDepth 100000 in
set_option maxHeartbeats 8000000 in
theorem plays_walk (a : Option Addr) (len cap : Nat) (z : List SAct) (proc : Int) (w : World) (hz : Open.RowsAt w encS 4 a len cap z) :
    Calls Try.prog 10 #[.slice a len cap, .int .i64 proc] w fun e w' => e = .returned (.bool true) ∧ Below w.heap.size w w' := by
  have HZ := Lib.hid hz
  clear hz
  by_cases h0 : (100 : Int) < len
  · go_enter Try.func10, Try.ntmps10
    go_wp2_with fail
    refine (swapAnswers _).mono ?_
    rintro e w1 ⟨rfl, b1⟩
    have HB := Lib.hid b1
    clear b1
    go_wp2_with fail
    go_ret
    exact ⟨rfl, HB.out⟩
  · have h100 : len ≤ 100 := by omega
    go_enter Try.func10, Try.ntmps10
    go_wp2_with fail
    refine (New_in w).mono ?_
    rintro e w1 ⟨rfl, hS1, b1⟩
    have H1 := Lib.hid hS1
    have HB1 := Lib.hid b1
    clear hS1 b1
    go_wp2_with fail
    have hP0 : Hid (Pair w.heap.size (w1.heap.size + 1) (w1.alloc (.cells #[.slice none 0 0, .slice none 0 0, .slice none 0 0, .slice none 0 0, .slice none 0 0, .slice none 0 0, .slice none 0 0, .slice none 0 0, .slice none 0 0, .slice none 0 0, .slice none 0 0, .slice none 0 0, .slice none 0 0, .slice none 0 0, .slice none 0 0, .slice none 0 0, .slice none 0 0, .slice none 0 0, .slice none 0 0, .slice none 0 0, .slice none 0 0, .slice none 0 0, .slice none 0 0, .slice none 0 0, .slice none 0 0, .slice none 0 0, .slice none 0 0, .slice none 0 0, .slice none 0 0, .slice none 0 0, .slice none 0 0, .slice none 0 0] 63)) w.heap.size w1.heap.size noL noL) := Pair.start H1.out HB1.out 63
    have hB0 : Hid (Below w.heap.size w (w1.alloc (.cells #[.slice none 0 0, .slice none 0 0, .slice none 0 0, .slice none 0 0, .slice none 0 0, .slice none 0 0, .slice none 0 0, .slice none 0 0, .slice none 0 0, .slice none 0 0, .slice none 0 0, .slice none 0 0, .slice none 0 0, .slice none 0 0, .slice none 0 0, .slice none 0 0, .slice none 0 0, .slice none 0 0, .slice none 0 0, .slice none 0 0, .slice none 0 0, .slice none 0 0, .slice none 0 0, .slice none 0 0, .slice none 0 0, .slice none 0 0, .slice none 0 0, .slice none 0 0, .slice none 0 0, .slice none 0 0, .slice none 0 0, .slice none 0 0] 63))) := HB1.out.alloc HB1.out.size _
    generalize w1.alloc _ = X0 at *
    generalize w1.heap.size = q at *
    clear H1 HB1
    go_loopw [7] (fun i wr => ∃ k : Nat, k ≤ len ∧ i = .int .i64 k ∧ Below w.heap.size w wr ∧ ∃ L d, Pair w.heap.size d wr w.heap.size q L L ∧ Fine L k) (fun i _ => len - (intOf i).toNat)
    case atStart => exact ⟨0, by omega, rfl, hB0.out, noL, _, hP0.out, Fine.start⟩
    case round =>
      obtain ⟨k, hk, rfl, hb, L, d, hP, hF⟩ := hrel
      have HB := Lib.hid hb
      have HP := Lib.hid hP
      have HF := Lib.hid hF
      clear hb hP hF hP0 hB0
      by_cases hlt : k < len
      · obtain ⟨b, off, ⟨hld, sl, x1, x2⟩, rfl, hx, e0, e1, e2, e3⟩ := rowS_cell HZ.out HB.out k hlt
        have hlt' : (k : Int) < len := by omega
        simp only at e0 e1 e2 e3
        have hLl := HP.out.lens.1
        have HLL := Lib.hid hLl
        clear hx hLl
        by_cases hs : 0 ≤ sl ∧ sl < 32
        · obtain ⟨hs0, hs1⟩ := hs
          obtain ⟨s, rfl⟩ := Int.eq_ofNat_of_zero_le hs0
          obtain ⟨l, hl⟩ : ∃ l, L[s]? = some l := ⟨_, List.getElem?_eq_getElem (by rw [HLL.out]; omega)⟩
          have hfl : Hid (SortedP l ∧ l.length ≤ 100) := by have := HF.out l (List.mem_of_getElem? hl); exact ⟨this.1, by omega⟩
          cases hld with
          | true =>
            have ba := (Below.refl wr.heap.size wr).alloc (Nat.le_refl _) (.cells #[.bool true, .int .i64 s, .int .i64 x1, .int .i64 x2] 65)
            have HP1 := Lib.hid (HP.out.next ba wr.heap.size (Nat.le_refl _))
            have HBa := Lib.hid (HB.out.trans (ba.mono HB.out.size))
            have hblk : Hid ((wr.alloc (.cells #[.bool true, .int .i64 s, .int .i64 x1, .int .i64 x2] 65)).heap[wr.heap.size]? = some (.cells #[.bool true, .int .i64 s, .int .i64 x1, .int .i64 x2] 65 (0, 0))) := heap_alloc_new wr _
            have hlow : Hid (wr.heap.size < (wr.alloc (.cells #[.bool true, .int .i64 s, .int .i64 x1, .int .i64 x2] 65)).heap.size) := by show _ < _; simp
            clear ba
            go_wp2_with fail
            generalize wr.alloc _ = W1 at *
            refine (HP1.out.hold HBa.out.size hlow.out s l hl (x1, x2) hfl.out.1 (by have := hfl.out.2; omega)).mono ?_
            rintro e w2 ⟨rfl, h2, b2, k2⟩
            have HP2 := Lib.hid h2
            have HB2 := Lib.hid (HBa.out.trans b2)
            have hblk2 := Lib.hid (k2.trans hblk.out)
            clear h2 b2 k2 e0 e1 e2 e3 HP1 HBa hblk
            go_wp2_with fail
            obtain ⟨v, hv, c0, f0, hq, hst⟩ := HP2.out.list (Array.getElem?_eq_some_iff.1 hblk2.out).1 s l hl
            have g1 : w2.cell? ⟨wr.heap.size, 1, none⟩ = some (.int .i64 s) := by rw [cell_of_row w2 _ 1 _ _ _ hblk2.out]; rfl
            have g2 : w2.cell? ⟨wr.heap.size, 2, none⟩ = some (.int .i64 x1) := by rw [cell_of_row w2 _ 2 _ _ _ hblk2.out]; rfl
            have g3 : w2.cell? ⟨wr.heap.size, 3, none⟩ = some (.int .i64 x2) := by rw [cell_of_row w2 _ 3 _ _ _ hblk2.out]; rfl
            have hA0 : wr.heap.size < w2.heap.size := World.block_lt_of_cell? _ _ g1
            have hput : Hid (Calls Try.prog 27 #[v, .agg #[.int .i64 x1, .int .i64 x2]] w2.drew fun e w3 => ∃ a' m' c', e = .returned (.slice a' m' c') ∧ w3.cell? ⟨wr.heap.size, 1, none⟩ = some (.int .i64 s) ∧ w3.cell? ⟨q, s, none⟩ = some v ∧ w3.frozen? ⟨q, s, none⟩ = false ∧
                Pair w.heap.size wr.heap.size (w3.setCell ⟨q, s, none⟩ (.slice a' m' c')) w.heap.size q (L.set s (putP l (x1, x2))) (L.set s (putP l (x1, x2))) ∧ Below w.heap.size w (w3.setCell ⟨q, s, none⟩ (.slice a' m' c'))) := by
              refine (Put_ref w2.drew v l (hv.below (Below.refl _ _).drew) hfl.out.1 (by have := hfl.out.2; omega) (x1, x2)).mono ?_
              rintro e w3 ⟨v', rfl, hp, hb, ho⟩
              have hb' : Below w2.heap.size w2 w3 := (Below.refl _ _).drew.trans hb
              obtain ⟨h1, h2, _⟩ := hst w3 v' _ hb' hp ho
              obtain ⟨a', c', rfl, _, _⟩ := SlAt.form hp
              refine ⟨a', _, c', rfl, (hb'.cell (p := ⟨wr.heap.size, 1, none⟩) hA0).trans g1, (hb'.cell (p := ⟨q, s, none⟩) hq).trans c0, ?_, h1, HB2.out.trans (h2 HB2.out.size)⟩
              have := hb'.block q hq
              simp only [World.frozen?] at f0 ⊢
              rw [this]
              exact f0
            obtain ⟨av, cv, rfl, _, _⟩ := SlAt.form hv
            clear hv hst HP2 HB2 hblk2
            go_region_with (go_at_call 27; refine hput.out.mono ?_; rintro e w3 ⟨a', m', c', rfl, j1, j2, j3, hP3, hB3⟩; have HP3 := Lib.hid hP3; have HB3 := Lib.hid hB3; clear hP3 hB3)
            all_goals
              go_wp2_with fail
              go_roundw
              case rel => exact ⟨k + 1, by omega, by go_num, HB3.out, _, _, HP3.out, HF.out.put s hl (x1, x2)⟩
              case measure => simp [intOf]; omega
          | false =>
            have ba := (Below.refl wr.heap.size wr).alloc (Nat.le_refl _) (.cells #[.bool false, .int .i64 s, .int .i64 x1, .int .i64 x2] 65)
            have HP1 := Lib.hid (HP.out.next ba wr.heap.size (Nat.le_refl _))
            have HBa := Lib.hid (HB.out.trans (ba.mono HB.out.size))
            have hblk : Hid ((wr.alloc (.cells #[.bool false, .int .i64 s, .int .i64 x1, .int .i64 x2] 65)).heap[wr.heap.size]? = some (.cells #[.bool false, .int .i64 s, .int .i64 x1, .int .i64 x2] 65 (0, 0))) := heap_alloc_new wr _
            clear ba
            go_wp2_with fail
            generalize wr.alloc _ = w2 at *
            obtain ⟨v, hv, c0, f0, hq, hst⟩ := HP1.out.list (Array.getElem?_eq_some_iff.1 hblk.out).1 s l hl
            have g1 : w2.cell? ⟨wr.heap.size, 1, none⟩ = some (.int .i64 s) := by rw [cell_of_row w2 _ 1 _ _ _ hblk.out]; rfl
            have g2 : w2.cell? ⟨wr.heap.size, 2, none⟩ = some (.int .i64 x1) := by rw [cell_of_row w2 _ 2 _ _ _ hblk.out]; rfl
            have g3 : w2.cell? ⟨wr.heap.size, 3, none⟩ = some (.int .i64 x2) := by rw [cell_of_row w2 _ 3 _ _ _ hblk.out]; rfl
            have hA0 : wr.heap.size < w2.heap.size := World.block_lt_of_cell? _ _ g1
            obtain ⟨yes, hyes⟩ : ∃ yes, yes = decide ((x1, x2) ∈ l) := ⟨_, rfl⟩
            have HY := Lib.hid hyes
            have hput : Hid (Calls Try.prog 39 #[v, .agg #[.int .i64 x1, .int .i64 x2]] w2.drew fun e w3 => ∃ a' m' c', e = .returned (.tuple #[.slice a' m' c', .bool yes]) ∧ w3.cell? ⟨wr.heap.size, 1, none⟩ = some (.int .i64 s) ∧ w3.cell? ⟨q, s, none⟩ = some v ∧ w3.frozen? ⟨q, s, none⟩ = false ∧
                Pair w.heap.size wr.heap.size (w3.setCell ⟨q, s, none⟩ (.slice a' m' c')) w.heap.size q L (L.set s (l.erase (x1, x2))) ∧ Below w.heap.size w (w3.setCell ⟨q, s, none⟩ (.slice a' m' c')) ∧
                (w3.setCell ⟨q, s, none⟩ (.slice a' m' c')).heap[wr.heap.size]? = some (.cells #[.bool false, .int .i64 s, .int .i64 x1, .int .i64 x2] 65 (0, 0))) := by
              refine (Out_ref w2.drew v l (hv.below (Below.refl _ _).drew) (by have := hfl.out.2; omega) (x1, x2)).mono ?_
              rintro e w3 ⟨v', rfl, hp, hb, ho⟩
              have hb' : Below w2.heap.size w2 w3 := (Below.refl _ _).drew.trans hb
              obtain ⟨h1, h2, h3⟩ := hst w3 v' _ hb' hp ho
              obtain ⟨a', c', rfl, _, _⟩ := SlAt.form hp
              refine ⟨a', _, c', by rw [hyes], (hb'.cell (p := ⟨wr.heap.size, 1, none⟩) hA0).trans g1, (hb'.cell (p := ⟨q, s, none⟩) hq).trans c0, ?_, h1, HBa.out.trans (h2 HBa.out.size), h3.trans ((hb'.block wr.heap.size hA0).trans hblk.out)⟩
              have := hb'.block q hq
              simp only [World.frozen?] at f0 ⊢
              rw [this]
              exact f0
            obtain ⟨av, cv, rfl, _, _⟩ := SlAt.form hv
            clear hv hst HP1 HBa hblk hyes
            go_region_with (go_at_call 39; refine hput.out.mono ?_; rintro e w3 ⟨a', m', c', rfl, j1, j2, j3, hP3, hB3, hK3⟩; have HP3 := Lib.hid hP3; have HB3 := Lib.hid hB3; have HK3 := Lib.hid hK3; clear hP3 hB3 hK3)
            all_goals generalize w3.setCell ⟨q, s, none⟩ (.slice a' m' c') = w4 at *
            all_goals
              have g1' : w4.cell? ⟨wr.heap.size, 1, none⟩ = some (.int .i64 s) := by rw [cell_of_row w4 _ 1 _ _ _ HK3.out]; rfl
              have g2' : w4.cell? ⟨wr.heap.size, 2, none⟩ = some (.int .i64 x1) := by rw [cell_of_row w4 _ 2 _ _ _ HK3.out]; rfl
              have g3' : w4.cell? ⟨wr.heap.size, 3, none⟩ = some (.int .i64 x2) := by rw [cell_of_row w4 _ 3 _ _ _ HK3.out]; rfl
              clear j1 j2 j3 g1 g2 g3 c0 f0 hput
              go_wp2_with fail
              have er := HP3.out.release HB3.out.size (World.block_lt_of_cell? _ _ g1') s l hl (x1, x2) (by have := hfl.out.2; omega)
              rw [← HY.out] at er
              refine er.mono ?_
              clear er
              rintro e w5 ⟨rfl, h5, b5, -⟩
              have HP5 := Lib.hid h5
              have HB5 := Lib.hid (HB3.out.trans b5)
              clear h5 b5
              go_wp2_with fail
              go_roundw
              case rel => exact ⟨k + 1, by omega, by go_num, HB5.out, _, _, HP5.out, HF.out.out s hl (x1, x2)⟩
              case measure => simp [intOf]; omega
        · have hn : sl < 0 ∨ 32 ≤ sl := by omega
          by_cases hn0 : sl < 0
          · have hn0' : ¬ (0 : Int) ≤ sl := by omega
            cases hld with
            | true =>
              have ba := (Below.refl wr.heap.size wr).alloc (Nat.le_refl _) (.cells #[.bool true, .int .i64 sl, .int .i64 x1, .int .i64 x2] 65)
              have HP1 := Lib.hid (HP.out.below ba)
              have HBa := Lib.hid (HB.out.trans (ba.mono HB.out.size))
              clear ba
              go_wp2_with fail
              refine (Hold_no _ _ _ hn (x1, x2)).mono ?_
              rintro e w2 ⟨rfl, b2⟩
              have HP2 := Lib.hid (HP1.out.below b2)
              have HB2 := Lib.hid (HBa.out.trans (b2.mono HBa.out.size))
              clear b2
              go_wp2_with fail
              go_roundw
              case rel => exact ⟨k + 1, by omega, by go_num, HB2.out, _, _, HP2.out, HF.out.up⟩
              case measure => simp [intOf]; omega
            | false =>
              have ba := (Below.refl wr.heap.size wr).alloc (Nat.le_refl _) (.cells #[.bool false, .int .i64 sl, .int .i64 x1, .int .i64 x2] 65)
              have HP1 := Lib.hid (HP.out.below ba)
              have HBa := Lib.hid (HB.out.trans (ba.mono HB.out.size))
              clear ba
              go_wp2_with fail
              refine (Release_no _ _ _ hn (x1, x2)).mono ?_
              rintro e w2 ⟨rfl, b2⟩
              have HP2 := Lib.hid (HP1.out.below b2)
              have HB2 := Lib.hid (HBa.out.trans (b2.mono HBa.out.size))
              clear b2
              go_wp2_with fail
              go_roundw
              case rel => exact ⟨k + 1, by omega, by go_num, HB2.out, _, _, HP2.out, HF.out.up⟩
              case measure => simp [intOf]; omega
          · have hn1 : (0 : Int) ≤ sl := by omega
            have hn2 : ¬ sl < 32 := by omega
            cases hld with
            | true =>
              have ba := (Below.refl wr.heap.size wr).alloc (Nat.le_refl _) (.cells #[.bool true, .int .i64 sl, .int .i64 x1, .int .i64 x2] 65)
              have HP1 := Lib.hid (HP.out.below ba)
              have HBa := Lib.hid (HB.out.trans (ba.mono HB.out.size))
              clear ba
              go_wp2_with fail
              refine (Hold_no _ _ _ hn (x1, x2)).mono ?_
              rintro e w2 ⟨rfl, b2⟩
              have HP2 := Lib.hid (HP1.out.below b2)
              have HB2 := Lib.hid (HBa.out.trans (b2.mono HBa.out.size))
              clear b2
              go_wp2_with fail
              go_roundw
              case rel => exact ⟨k + 1, by omega, by go_num, HB2.out, _, _, HP2.out, HF.out.up⟩
              case measure => simp [intOf]; omega
            | false =>
              have ba := (Below.refl wr.heap.size wr).alloc (Nat.le_refl _) (.cells #[.bool false, .int .i64 sl, .int .i64 x1, .int .i64 x2] 65)
              have HP1 := Lib.hid (HP.out.below ba)
              have HBa := Lib.hid (HB.out.trans (ba.mono HB.out.size))
              clear ba
              go_wp2_with fail
              refine (Release_no _ _ _ hn (x1, x2)).mono ?_
              rintro e w2 ⟨rfl, b2⟩
              have HP2 := Lib.hid (HP1.out.below b2)
              have HB2 := Lib.hid (HBa.out.trans (b2.mono HBa.out.size))
              clear b2
              go_wp2_with fail
              go_roundw
              case rel => exact ⟨k + 1, by omega, by go_num, HB2.out, _, _, HP2.out, HF.out.up⟩
              case measure => simp [intOf]; omega
      · have HFF : Hid (Fine L 100) := fun l hl => ⟨(HF.out l hl).1, by have := (HF.out l hl).2; omega⟩
        have HLL : Hid (L.length = 32) := HP.out.lens.1
        clear HF HZ
        generalize wr = X at *
        have hqr : Hid (∀ (n : Nat) (l : List (Int × Int)), L[n]? = some l → ∃ v, PlAt X v l ∧ X.cell? ⟨q, n, none⟩ = some v) := fun n l h => HP.out.cell n l h
        obtain ⟨i0, hi0, hi1, hi2, hi3⟩ := infoInt
        go_wp2_with fail
        go_loopw [11, 12, 13, 14] (fun us fi o i wq => ∃ n : Nat, n ≤ 32 ∧ i = .int .i64 n ∧ us = .int .i64 (heldN (L.take n)) ∧ fi = .int .i64 (firstI (L.take n)) ∧ Below X.heap.size X wq ∧ IntsAt wq o (slotsFrom proc (L.take n) 0) ∧ ∀ b, o.ownBlock = some b → X.heap.size ≤ b) (fun _ _ _ i _ => 32 - (intOf i).toNat)
        case atStart => exact ⟨0, by omega, rfl, rfl, rfl, Below.refl _ _, SlAt.nil _ _ _, by simp [Value.ownBlock]⟩
        case round =>
          obtain ⟨n, hn, rfl, rfl, rfl, hb, ho, how⟩ := hrel
          have HBq := Lib.hid hb
          have HO := Lib.hid ho
          have HW := Lib.hid how
          clear hb ho how
          by_cases hln : n < 32
          · obtain ⟨l, hl⟩ : ∃ l, L[n]? = some l := ⟨_, List.getElem?_eq_getElem (by rw [HLL.out]; exact hln)⟩
            have h1 : (n : Int) < 32 := by omega
            have h2 : (0 : Int) ≤ n := by omega
            obtain ⟨v, hv, hc⟩ := hqr.out n l hl
            have hfl : Hid (l.length ≤ 100) := (HFF.out l (List.mem_of_getElem? hl)).2
            have htake : Hid (L.take (n + 1) = L.take n ++ [l]) := by
              obtain ⟨hj, rfl⟩ := List.getElem?_eq_some_iff.1 hl
              show _ = _
              rw [List.take_succ_eq_append_getElem hj]
            have hlt2 : Hid ((L.take n).length = n) := by show _ = _; rw [List.length_take, HLL.out]; omega
            have hsl : Hid ((slotsFrom proc (L.take n) 0).length ≤ 32) := by
              have := slotsFrom_length proc (L.take n) 0
              rw [hlt2.out] at this; exact Nat.le_trans this (by omega)
            have hhe : heldN (L.take n) ≤ 32 := by
              have h1 : heldN (L.take n) ≤ (L.take n).length := List.countP_le_length
              rw [hlt2.out] at h1; omega
            have hf1 := firstI_bounds (L.take n)
            rw [hlt2.out] at hf1
            obtain ⟨us, hus⟩ : ∃ us, us = heldN (L.take n) := ⟨_, rfl⟩
            obtain ⟨fi, hfi⟩ : ∃ fi, fi = firstI (L.take n) := ⟨_, rfl⟩
            rw [← hus] at hhe ⊢
            rw [← hfi] at hf1 ⊢
            have HUS := Lib.hid hus
            have HFI := Lib.hid hfi
            clear hus hfi
            have HP1 := Lib.hid (HP.out.below HBq.out)
            have hlen : l.length ≤ 100 := hfl.out
            go_wp2_with fail
            obtain ⟨W1, hW1⟩ : ∃ W1, W1 = wr.drew := ⟨_, rfl⟩
            have HBW : Hid (Below X.heap.size X W1) := by rw [hW1]; exact HBq.out.drew
            have c1 : W1.cell? ⟨q, n, none⟩ = some v := (HBW.out.cell (p := ⟨q, n, none⟩) (World.block_lt_of_cell? X _ hc)).trans hc
            have HP2 : Hid (Pair w.heap.size d W1 w.heap.size q L L) := HP.out.below HBW.out
            have HO1 : Hid (IntsAt W1 u13 (slotsFrom proc (L.take n) 0)) := by rw [hW1]; exact SlAt.below HO.out (Below.refl _ _).drew
            have HV := Lib.hid hv
            have HC := Lib.hid hc
            have HL := Lib.hid hl
            have hd : wr.drew = W1 := hW1.symm
            clear hW1 hv hc hl HP1 HO HBq
            go_region_held (fun W' => W'.cell? ⟨q, n, none⟩ = some v) (go_keep)
              (first
                | (go_at_call 40; refine (HP2.out.of n l HL.out (by omega)).mono ?_; rintro e w2 ⟨v2, rfl, hp2, b2⟩; have c2 := (b2.cell (World.block_lt_of_cell? _ _ c1)).trans c1; have HV2 := Lib.hid hp2; have HB2 := Lib.hid (HBW.out.trans (b2.mono HBW.out.size)); have HO2 := Lib.hid (SlAt.below HO1.out b2); clear hp2 b2 HP2)
                | (go_at_call 29; have ep := Places_ref _ v2 v l l HV2.out (HV.out.below HB2.out); rw [decide_eq_true rfl] at ep; refine ep.mono ?_; clear ep; rintro e w3 ⟨rfl, b3⟩; have c3 := (b3.cell (World.block_lt_of_cell? _ _ c2)).trans c2; have HB3 := Lib.hid (HB2.out.trans (b3.mono HB2.out.size)); have HO3 := Lib.hid (SlAt.below HO2.out b3); clear b3 HV2))
            clear c1 c2 HB2 HO2 HO1 HBW hd
            obtain ⟨av, cv, rfl, _, _⟩ := SlAt.form HV.out
            have c3 := (HB3.out.cell (World.block_lt_of_cell? _ _ HC.out)).trans HC.out
            generalize hnl' : l.length = nl at *
            have hnl := hnl'.symm
            clear hnl'
            have HNL := Lib.hid hnl
            have hcase : ((0 : Int) < nl ∧ Hid (heldN (L.take (n + 1)) = us + 1 ∧ firstI (L.take (n + 1)) = fi)) ∨ (¬ (0 : Int) < nl ∧ fi < 0 ∧ Hid (heldN (L.take (n + 1)) = us ∧ firstI (L.take (n + 1)) = n)) ∨ (¬ (0 : Int) < nl ∧ ¬ fi < 0 ∧ Hid (heldN (L.take (n + 1)) = us ∧ firstI (L.take (n + 1)) = fi)) := by
              have hfa := freeFrom_append (L.take n) l 0
              rw [← htake.out, hlt2.out] at hfa
              by_cases hz : l = []
              · have h0 : ¬ (0 : Int) < nl := by rw [hnl, hz]; simp
                have hu : heldN (L.take (n + 1)) = us := by rw [htake.out, HUS.out]; simp [heldN, hz]
                rw [if_pos hz] at hfa
                by_cases hf : fi < 0
                · refine .inr (.inl ⟨h0, hf, hu, ?_⟩)
                  rw [HFI.out] at hf
                  unfold firstI at hf ⊢
                  rw [hfa]
                  split at hf
                  · omega
                  · simp
                · refine .inr (.inr ⟨h0, hf, hu, ?_⟩)
                  have hf' := hf
                  rw [HFI.out] at hf' ⊢
                  unfold firstI at hf' ⊢
                  rw [hfa]
                  split at hf'
                  · rfl
                  · omega
              · have h0 : (0 : Int) < nl := by
                  have : l.length ≠ 0 := fun e => hz (List.eq_nil_of_length_eq_zero e)
                  omega
                refine .inl ⟨h0, by rw [htake.out, HUS.out]; simp [heldN, hz], ?_⟩
                rw [if_neg hz] at hfa
                rw [HFI.out]
                unfold firstI
                rw [hfa]
                cases freeFrom (L.take n) 0 <;> rfl
            clear hnl
            rcases hcase with ⟨hz, hU⟩ | ⟨hz, hf, hU⟩ | ⟨hz, hf, hU⟩
            · have hzN : 0 < nl := by omega
              go_wp2_with fail
              go_loopw [15, 16] (fun has kk wq => ∃ j : Nat, j ≤ nl ∧ kk = .int .i64 j ∧ has = .bool ((l.take j).any (fun x => decide (x.1 = proc))) ∧ Below X.heap.size X wq ∧ IntsAt wq u13 (slotsFrom proc (L.take n) 0)) (fun _ kk _ => nl - (intOf kk).toNat)
              case atStart => exact ⟨0, by omega, rfl, rfl, HB3.out, HO3.out⟩
              case round =>
                obtain ⟨j, hj, rfl, rfl, hb, ho⟩ := hrel
                have HBj := Lib.hid hb
                have HOj := Lib.hid ho
                clear hb ho c3 HB3 HO3
                have c3 := (HBj.out.cell (World.block_lt_of_cell? _ _ HC.out)).trans HC.out
                by_cases hjl : j < nl
                · have hjl' : (j : Int) < nl := by omega
                  obtain ⟨y, hy⟩ : ∃ y, l[j]? = some y := ⟨_, List.getElem?_eq_getElem (by rw [← HNL.out]; exact hjl)⟩
                  obtain ⟨b, off, rfl⟩ := HV.out.addr (by rw [← HNL.out]; omega)
                  obtain ⟨e0, e1⟩ := PlAt.cellAt (HV.out.below HBj.out) hy
                  obtain ⟨y1, y2⟩ := y
                  simp only at e0 e1
                  have hany : Hid ((l.take (j + 1)).any (fun x => decide (x.1 = proc)) = ((l.take j).any (fun x => decide (x.1 = proc)) || decide (y1 = proc))) := by
                    show _ = _
                    rw [take_next hy, List.any_append]
                    simp
                  clear hy
                  generalize (l.take j).any (fun x => decide (x.1 = proc)) = yes at *
                  cases yes with
                  | true =>
                    go_wp2_with fail
                    go_roundw
                    case rel => exact ⟨j + 1, by omega, by go_num, by rw [hany.out]; rfl, HBj.out, HOj.out⟩
                    case measure => simp [intOf]; omega
                  | false =>
                    go_wp2_with fail
                    go_roundw
                    case rel =>
                      refine ⟨j + 1, by omega, by go_num, ?_, HBj.out, HOj.out⟩
                      rw [hany.out]
                      by_cases e : y1 = proc <;> simp [e]
                    case measure => simp [intOf]; omega
                · have ej : l.take j = l := List.take_of_length_le (by rw [← HNL.out]; omega)
                  rw [ej]
                  obtain ⟨yes, hyes⟩ : ∃ yes, yes = l.any (fun x => decide (x.1 = proc)) := ⟨_, rfl⟩
                  rw [← hyes]
                  have HYS : Hid (slotsFrom proc (L.take (n + 1)) 0 = slotsFrom proc (L.take n) 0 ++ if yes = true then [(n : Int)] else []) := by
                    show _ = _
                    rw [htake.out, slotsFrom_append, hlt2.out, hyes]
                    simp
                  clear hyes ej
                  cases yes with
                  | true =>
                    go_wp2_with (at_builtin; refine wpList_append_sl _ rfl _ _ 57 rfl 3 i0 _ 1 8 Try.underlying57 hi0 hi1 hi2 hi3 rfl _ _ _ rfl (SlAt.below HOj.out ((Below.refl _ _).alloc (Nat.le_refl _) _)) ⟨wr.heap.size, 0, none⟩ 1 1 [.int .i64 n] rfl rfl (fun j u hu => cells_new wr 3 [.int .i64 n] j u hu) ?c2 ?c3 ?c4 ?c5)
                    case c2 => simp [Value.oneCell']
                    case c3 => have := hsl.out; simp only [maxLen]; omega
                    case c4 => have := hsl.out; omega
                    case c5 =>
                      intro v' w5 hsl3 hg3 ho3
                      have HG := Lib.hid (And.intro hsl3 (And.intro hg3 ho3))
                      clear hsl3 hg3 ho3
                      go_wp2_with fail
                      go_roundw
                      case rel =>
                        obtain ⟨hsl3, hg3, ho3⟩ := HG.out
                        refine ⟨n + 1, by omega, by go_num, (by first | (rw [hU.out.1]; done) | (rw [hU.out.1]; go_num)), (by rw [hU.out.2]), ?_, ?_, ?_⟩
                        · exact (HBj.out.alloc HBj.out.size _).grown hg3 (by simp; have := HBj.out.size; omega) HW.out
                        · rw [HYS.out, if_pos (by trivial)]
                          show SlAt _ _ _ _ _ _
                          rw [List.length_append, List.map_append]
                          simpa using hsl3
                        · intro b hb
                          rcases ho3 with e | e
                          · exact HW.out b (e.symm.trans hb)
                          · rw [e] at hb; have : _ = b := Option.some.inj hb; have := HBj.out.size; omega
                      case measure => simp [intOf]; omega
                  | false =>
                    go_wp2_with fail
                    go_roundw
                    case rel =>
                      refine ⟨n + 1, by omega, by go_num, (by first | (rw [hU.out.1]; done) | (rw [hU.out.1]; go_num)), (by rw [hU.out.2]), HBj.out, ?_, HW.out⟩
                      rw [HYS.out]
                      simp only [Bool.false_eq_true, if_false, List.append_nil]
                      exact HOj.out
                    case measure => simp [intOf]; omega
            · obtain rfl : nl = 0 := by omega
              clear hz
              go_wp2_with fail
              go_loopw [15, 16] (fun has kk wq => ∃ j : Nat, j ≤ 0 ∧ kk = .int .i64 j ∧ has = .bool ((l.take j).any (fun x => decide (x.1 = proc))) ∧ Below X.heap.size X wq ∧ IntsAt wq u13 (slotsFrom proc (L.take n) 0)) (fun _ kk _ => 0 - (intOf kk).toNat)
              case atStart => exact ⟨0, by omega, rfl, rfl, HB3.out, HO3.out⟩
              case round =>
                obtain ⟨j, hj, rfl, rfl, hb, ho⟩ := hrel
                have HBj := Lib.hid hb
                have HOj := Lib.hid ho
                clear hb ho c3 HB3 HO3
                have c3 := (HBj.out.cell (World.block_lt_of_cell? _ _ HC.out)).trans HC.out
                obtain rfl : j = 0 := by omega
                have ej : l.take 0 = l := List.take_of_length_le (by rw [← HNL.out]; exact Nat.le_refl _)
                rw [ej]
                obtain ⟨yes, hyes⟩ : ∃ yes, yes = l.any (fun x => decide (x.1 = proc)) := ⟨_, rfl⟩
                rw [← hyes]
                have HYS : Hid (slotsFrom proc (L.take (n + 1)) 0 = slotsFrom proc (L.take n) 0 ++ if yes = true then [(n : Int)] else []) := by
                  show _ = _
                  rw [htake.out, slotsFrom_append, hlt2.out, hyes]
                  simp
                clear hyes ej
                cases yes with
                | true =>
                  go_wp2_with (at_builtin; refine wpList_append_sl _ rfl _ _ 57 rfl 3 i0 _ 1 8 Try.underlying57 hi0 hi1 hi2 hi3 rfl _ _ _ rfl (SlAt.below HOj.out ((Below.refl _ _).alloc (Nat.le_refl _) _)) ⟨wr.heap.size, 0, none⟩ 1 1 [.int .i64 n] rfl rfl (fun j u hu => cells_new wr 3 [.int .i64 n] j u hu) ?c2 ?c3 ?c4 ?c5)
                  case c2 => simp [Value.oneCell']
                  case c3 => have := hsl.out; simp only [maxLen]; omega
                  case c4 => have := hsl.out; omega
                  case c5 =>
                    intro v' w5 hsl3 hg3 ho3
                    have HG := Lib.hid (And.intro hsl3 (And.intro hg3 ho3))
                    clear hsl3 hg3 ho3
                    go_wp2_with fail
                    go_roundw
                    case rel =>
                      obtain ⟨hsl3, hg3, ho3⟩ := HG.out
                      refine ⟨n + 1, by omega, by go_num, (by first | (rw [hU.out.1]; done) | (rw [hU.out.1]; go_num)), (by rw [hU.out.2]), ?_, ?_, ?_⟩
                      · exact (HBj.out.alloc HBj.out.size _).grown hg3 (by simp; have := HBj.out.size; omega) HW.out
                      · rw [HYS.out, if_pos (by trivial)]
                        show SlAt _ _ _ _ _ _
                        rw [List.length_append, List.map_append]
                        simpa using hsl3
                      · intro b hb
                        rcases ho3 with e | e
                        · exact HW.out b (e.symm.trans hb)
                        · rw [e] at hb; have : _ = b := Option.some.inj hb; have := HBj.out.size; omega
                    case measure => simp [intOf]; omega
                | false =>
                  go_wp2_with fail
                  go_roundw
                  case rel =>
                    refine ⟨n + 1, by omega, by go_num, (by first | (rw [hU.out.1]; done) | (rw [hU.out.1]; go_num)), (by rw [hU.out.2]), HBj.out, ?_, HW.out⟩
                    rw [HYS.out]
                    simp only [Bool.false_eq_true, if_false, List.append_nil]
                    exact HOj.out
                  case measure => simp [intOf]; omega
            · obtain rfl : nl = 0 := by omega
              clear hz
              go_wp2_with fail
              go_loopw [15, 16] (fun has kk wq => ∃ j : Nat, j ≤ 0 ∧ kk = .int .i64 j ∧ has = .bool ((l.take j).any (fun x => decide (x.1 = proc))) ∧ Below X.heap.size X wq ∧ IntsAt wq u13 (slotsFrom proc (L.take n) 0)) (fun _ kk _ => 0 - (intOf kk).toNat)
              case atStart => exact ⟨0, by omega, rfl, rfl, HB3.out, HO3.out⟩
              case round =>
                obtain ⟨j, hj, rfl, rfl, hb, ho⟩ := hrel
                have HBj := Lib.hid hb
                have HOj := Lib.hid ho
                clear hb ho c3 HB3 HO3
                have c3 := (HBj.out.cell (World.block_lt_of_cell? _ _ HC.out)).trans HC.out
                obtain rfl : j = 0 := by omega
                have ej : l.take 0 = l := List.take_of_length_le (by rw [← HNL.out]; exact Nat.le_refl _)
                rw [ej]
                obtain ⟨yes, hyes⟩ : ∃ yes, yes = l.any (fun x => decide (x.1 = proc)) := ⟨_, rfl⟩
                rw [← hyes]
                have HYS : Hid (slotsFrom proc (L.take (n + 1)) 0 = slotsFrom proc (L.take n) 0 ++ if yes = true then [(n : Int)] else []) := by
                  show _ = _
                  rw [htake.out, slotsFrom_append, hlt2.out, hyes]
                  simp
                clear hyes ej
                cases yes with
                | true =>
                  go_wp2_with (at_builtin; refine wpList_append_sl _ rfl _ _ 57 rfl 3 i0 _ 1 8 Try.underlying57 hi0 hi1 hi2 hi3 rfl _ _ _ rfl (SlAt.below HOj.out ((Below.refl _ _).alloc (Nat.le_refl _) _)) ⟨wr.heap.size, 0, none⟩ 1 1 [.int .i64 n] rfl rfl (fun j u hu => cells_new wr 3 [.int .i64 n] j u hu) ?c2 ?c3 ?c4 ?c5)
                  case c2 => simp [Value.oneCell']
                  case c3 => have := hsl.out; simp only [maxLen]; omega
                  case c4 => have := hsl.out; omega
                  case c5 =>
                    intro v' w5 hsl3 hg3 ho3
                    have HG := Lib.hid (And.intro hsl3 (And.intro hg3 ho3))
                    clear hsl3 hg3 ho3
                    go_wp2_with fail
                    go_roundw
                    case rel =>
                      obtain ⟨hsl3, hg3, ho3⟩ := HG.out
                      refine ⟨n + 1, by omega, by go_num, (by first | (rw [hU.out.1]; done) | (rw [hU.out.1]; go_num)), (by rw [hU.out.2]), ?_, ?_, ?_⟩
                      · exact (HBj.out.alloc HBj.out.size _).grown hg3 (by simp; have := HBj.out.size; omega) HW.out
                      · rw [HYS.out, if_pos (by trivial)]
                        show SlAt _ _ _ _ _ _
                        rw [List.length_append, List.map_append]
                        simpa using hsl3
                      · intro b hb
                        rcases ho3 with e | e
                        · exact HW.out b (e.symm.trans hb)
                        · rw [e] at hb; have : _ = b := Option.some.inj hb; have := HBj.out.size; omega
                    case measure => simp [intOf]; omega
                | false =>
                  go_wp2_with fail
                  go_roundw
                  case rel =>
                    refine ⟨n + 1, by omega, by go_num, (by first | (rw [hU.out.1]; done) | (rw [hU.out.1]; go_num)), (by rw [hU.out.2]), HBj.out, ?_, HW.out⟩
                    rw [HYS.out]
                    simp only [Bool.false_eq_true, if_false, List.append_nil]
                    exact HOj.out
                  case measure => simp [intOf]; omega
          · have en : L.take n = L := List.take_of_length_le (by rw [HLL.out]; omega)
            rw [en] at HO ⊢
            obtain ⟨us, hus⟩ : ∃ us, us = heldN L := ⟨_, rfl⟩
            obtain ⟨fi, hfi⟩ : ∃ fi, fi = firstI L := ⟨_, rfl⟩
            rw [← hus, ← hfi]
            have hTK : Hid ((takeR L).2 = decide (0 ≤ fi) ∧ (0 ≤ fi → (takeR L).1 = fi)) := by
              show _ ∧ _
              rw [hfi]
              unfold takeR firstI
              cases freeFrom L 0 <;> simp
            have hlenL : Hid (∀ l ∈ L, l.length ≤ 1000000) := fun l hl => by have := (HFF.out l hl).2; omega
            have HP1 := Lib.hid (HP.out.below HBq.out)
            have HUS := Lib.hid hus
            clear hus hfi
            go_wp2_with fail
            refine (Take_in HP1.out.one).mono ?_
            obtain ⟨tn, htn⟩ : ∃ tn, tn = (takeR L).1 := ⟨_, rfl⟩
            obtain ⟨ok, hok⟩ : ∃ ok, ok = (takeR L).2 := ⟨_, rfl⟩
            rw [← htn, ← hok]
            have hT2 : Hid (ok = decide (0 ≤ fi) ∧ (0 ≤ fi → tn = fi)) := by rw [htn, hok]; exact hTK.out
            clear htn hok
            have HPQ := Lib.hid HP1.out
            have HBZ : Hid (Below w.heap.size w wr) := HB.out.trans (HBq.out.mono HB.out.size)
            clear HP1 HB HBq
            rintro e w2 ⟨rfl, rfl⟩
            by_cases hfi : 0 ≤ fi
            · obtain rfl : ok = true := by rw [hT2.out.1]; exact decide_eq_true hfi
              obtain rfl : tn = fi := hT2.out.2 hfi
              go_wp2_with fail
              refine (swapAnswers _).mono ?_
              rintro e w3 ⟨rfl, b3⟩
              have HP3 := Lib.hid (HPQ.out.below b3)
              have HO3 := Lib.hid (SlAt.below HO.out b3)
              have HB3 := Lib.hid (HBZ.out.trans (b3.mono HBZ.out.size))
              clear b3
              go_wp2_with fail
              have eu := Used_in HP3.out.one hlenL.out
              rw [← HUS.out] at eu
              refine eu.mono ?_
              clear eu
              rintro e w4 ⟨rfl, -, b4⟩
              have HP4 := Lib.hid (HP3.out.below b4)
              have HO4 := Lib.hid (SlAt.below HO3.out b4)
              have HB4 := Lib.hid (HB3.out.trans (b4.mono HB3.out.size))
              clear b4 HP3 HO3 HB3
              go_wp2_with fail
              refine (HP4.out.slots proc).mono ?_
              rintro e w5 ⟨v5, rfl, hv5, b5⟩
              have HV5 := Lib.hid hv5
              have HO5 := Lib.hid (SlAt.below HO4.out b5)
              have HB5 := Lib.hid (HB4.out.trans (b5.mono HB4.out.size))
              clear b5 hv5 HP4 HO4 HB4
              go_wp2_with fail
              have ei := Ints_ref w5 v5 u13 _ _ HV5.out HO5.out
              rw [decide_eq_true rfl] at ei
              refine ei.mono ?_
              clear ei
              rintro e w6 ⟨rfl, b6⟩
              have HB6 := Lib.hid (HB5.out.trans (b6.mono HB5.out.size))
              clear b6
              go_wp2_with fail
              go_ret
              exact ⟨by first | rfl | (show Ending.returned (Value.bool (!decide (0 ≤ fi))) = _; rw [decide_eq_false (by omega)]; rfl), HB6.out⟩
            · obtain rfl : ok = false := by rw [hT2.out.1]; exact decide_eq_false hfi
              go_wp2_with fail
              refine (swapAnswers _).mono ?_
              rintro e w3 ⟨rfl, b3⟩
              have HP3 := Lib.hid (HPQ.out.below b3)
              have HO3 := Lib.hid (SlAt.below HO.out b3)
              have HB3 := Lib.hid (HBZ.out.trans (b3.mono HBZ.out.size))
              clear b3
              go_wp2_with fail
              have eu := Used_in HP3.out.one hlenL.out
              rw [← HUS.out] at eu
              refine eu.mono ?_
              clear eu
              rintro e w4 ⟨rfl, -, b4⟩
              have HP4 := Lib.hid (HP3.out.below b4)
              have HO4 := Lib.hid (SlAt.below HO3.out b4)
              have HB4 := Lib.hid (HB3.out.trans (b4.mono HB3.out.size))
              clear b4 HP3 HO3 HB3
              go_wp2_with fail
              refine (HP4.out.slots proc).mono ?_
              rintro e w5 ⟨v5, rfl, hv5, b5⟩
              have HV5 := Lib.hid hv5
              have HO5 := Lib.hid (SlAt.below HO4.out b5)
              have HB5 := Lib.hid (HB4.out.trans (b5.mono HB4.out.size))
              clear b5 hv5 HP4 HO4 HB4
              go_wp2_with fail
              have ei := Ints_ref w5 v5 u13 _ _ HV5.out HO5.out
              rw [decide_eq_true rfl] at ei
              refine ei.mono ?_
              clear ei
              rintro e w6 ⟨rfl, b6⟩
              have HB6 := Lib.hid (HB5.out.trans (b6.mono HB5.out.size))
              clear b6
              go_wp2_with fail
              go_ret
              exact ⟨by first | rfl | (show Ending.returned (Value.bool (!decide (0 ≤ fi))) = _; rw [decide_eq_false (by omega)]; rfl), HB6.out⟩

theorem swapPlays_row (a : Option Addr) (len cap : Nat) (z : List SAct) (proc : Int) (w : World) (hz : Open.RowsAt w encS 4 a len cap z) (_ : ∀ x ∈ z, wfS x) (_ : (Lit.int .i64 proc).wf = true) :
    Calls Try.prog 10 #[.slice a len cap, .int .i64 proc] w fun e w' => e = .returned (.bool true) ∧ Below w.heap.size w w' := plays_walk a len cap z proc w hz
end Go.Proofs.Ytflbidbnbfndgaa
