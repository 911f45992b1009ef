/- SwapOnce. -/
import Derived.Test.YtflbidbnbfndgaaSwapAns
import Derived.Test.YtflbidbnbfndgaaInts
import Derived.Test.YtflbidbnbfndgaaRefEq
import Derived.OpenShut
import Derived.Deep.RegionHeld
namespace Go.Proofs.Ytflbidbnbfndgaa
open Go Go.RowKit

theorem slotsFrom_none (proc : Int) (n i : Nat) : slotsFrom proc (List.replicate n []) i = [] := by
  induction n generalizing i with
  | zero => rfl
  | succ n ih => simp [List.replicate_succ, slotsFrom, ih]
theorem slotsFrom_set (proc : Int) (l : List (Int × Int)) (n k i : Nat) (hk : k < n) : slotsFrom proc ((List.replicate n []).set k l) i = if l.any (fun x => decide (x.1 = proc)) then [((i + k : Nat) : Int)] else [] := by
  induction n generalizing k i with
  | zero => omega
  | succ n ih =>
    cases k with
    | zero =>
      simp only [List.replicate_succ, List.set_cons_zero, slotsFrom, slotsFrom_none]
      simp
    | succ k =>
      simp only [List.replicate_succ, List.set_cons_succ, slotsFrom, ih k (i + 1) (by omega), List.any_nil]
      simp only [Bool.false_eq_true, if_false]
      rw [show i + 1 + k = i + (k + 1) by omega]

theorem IntsAt.lit (w : World) (k : Int) : IntsAt (w.alloc (.cells #[.int .i64 k] 3)) (.slice (Option.some ⟨w.heap.size, 0, none⟩) 1 1) [k] :=
  ⟨rfl, .inr ⟨w.heap.size, 0, 1, _, rfl, heap_alloc_new w _, Nat.le_refl _, by simp [maxLen], by simp, fun j u hu => by simpa using hu⟩⟩

/-- A swap in blocks from a number on, but for one block. -/
def SwapIn2 (B b : Nat) (w : World) (p : Nat) (L : List (List (Int × Int))) : Prop := ∃ S V, SwapAt w p S V L ∧ ∀ i ∈ S, B ≤ i ∧ i ≠ b
theorem SwapIn2.below {B b : Nat} {w w' : World} {p : Nat} {L : List (List (Int × Int))} (h : SwapIn2 B b w p L) (hb : Below w.heap.size w w') : SwapIn2 B b w' p L := by
  obtain ⟨S, V, h1, h2⟩ := h
  exact ⟨S, V, h1.below hb, h2⟩
theorem SwapIn2.one {B b : Nat} {w : World} {p : Nat} {L : List (List (Int × Int))} (h : SwapIn2 B b w p L) : SwapIn B w p L := by
  obtain ⟨S, V, h1, h2⟩ := h
  exact ⟨S, V, h1, fun i hi => (h2 i hi).1⟩

theorem Of_in2 {B : Nat} {w : World} {p : Nat} {L : List (List (Int × Int))} (h : SwapIn B w p L) (k : Nat) (i : Int) (hi : i = k) (l : List (Int × Int)) (hl : L[k]? = some l) (hlen : l.length ≤ 1000000) :
    Calls Try.prog 40 #[.pointer (some ⟨p, 0, none⟩), .int .i64 i] w fun e w' => ∃ v', e = .returned v' ∧ PlAt w' v' l ∧ Below w.heap.size w w' ∧ ∀ b, v'.ownBlock = some b → SwapIn2 B b w' p L := by
  obtain ⟨S, V, h1, h2⟩ := h
  subst hi
  refine (Of_walk' w p S V L h1 k l hl hlen).mono ?_
  rintro e w' ⟨v', rfl, hp, hb, ho⟩
  refine ⟨v', rfl, hp, hb, fun b hbo => ?_⟩
  obtain ⟨T, hblk⟩ := h1.blk
  have hpw : p < w.heap.size := (Array.getElem?_eq_some_iff.1 hblk).1
  have hS : SwapAt w p (S.filter (fun j => decide (j < w.heap.size))) V L := by
    refine ⟨⟨T, hblk⟩, h1.lenV, h1.lenL, h1.at_, fun i v b hv hb => ?_, h1.inj, by simp [h1.pin, hpw]⟩
    have hiL : i < L.length := by rw [h1.lenL, ← h1.lenV]; exact (List.getElem?_eq_some_iff.1 hv).1
    have := SlAt.lt (h1.at_ i v _ hv (List.getElem?_eq_getElem hiL)) b hb
    exact ⟨by simp [(h1.own i v b hv hb).1, this], (h1.own i v b hv hb).2⟩
  refine ⟨_, V, hS.below hb, fun i hi => ?_⟩
  simp at hi
  have := ho b hbo
  exact ⟨h2 i hi.1, by omega⟩

theorem Slots_in2 {B b : Nat} {w : World} {p : Nat} {L : List (List (Int × Int))} (h : SwapIn2 B b w p L) (proc : Int) :
    Calls Try.prog 42 #[.pointer (some ⟨p, 0, none⟩), .int .i64 proc] w fun e w' => ∃ v, e = .returned v ∧ IntsAt w' v (slotsFrom proc L 0) ∧ SwapIn2 B b w' p L ∧ Below w.heap.size w w' := by
  obtain ⟨S, V, h1, h2⟩ := h
  exact (Slots_walk w p S V L h1 proc).mono fun _ _ ⟨v', he, hp, hb⟩ => ⟨v', he, hp, ⟨S, V, h1.below hb, h2⟩, hb⟩

theorem Release_in2 {B b : Nat} {w : World} {p : Nat} {L : List (List (Int × Int))} (h : SwapIn2 B b w p L) (hB : B ≤ w.heap.size) (hb : b < w.heap.size) (k : Nat) (l : List (Int × Int)) (hl : L[k]? = some l) (x : Int × Int) (hlen : l.length ≤ 100000) :
    Calls Try.prog 36 #[.pointer (some ⟨p, 0, none⟩), .int .i64 k, .agg #[.int .i64 x.1, .int .i64 x.2]] w fun e w' => e = .returned (.bool (decide (x ∈ l))) ∧ SwapIn2 B b w' p (L.set k (l.erase x)) ∧ Below B w w' ∧ w'.heap[b]? = w.heap[b]? := by
  obtain ⟨S, V, h1, h2⟩ := h
  refine (Release_walk w p S V L h1 k l hl x hlen).mono ?_
  rintro e w' ⟨rfl, S', V', h3, h4, h5⟩
  exact ⟨rfl, ⟨S', V', h3, fun i hi => (h5 i hi).elim (h2 i) (fun e => ⟨by omega, by omega⟩)⟩, h4.belowFrom (fun i hi => (h2 i hi).1) hB, h4.block b hb (fun e => (h2 b e).2 rfl)⟩

theorem rel_yes {B b : Nat} {w : World} {p k : Nat} {x : Int × Int} (hk : k < 32) (h : SwapIn2 B b w p (noL.set k [x])) (hB : B ≤ w.heap.size) (hb : b < w.heap.size) :
    Calls Try.prog 36 #[.pointer (some ⟨p, 0, none⟩), .int .i64 k, .agg #[.int .i64 x.1, .int .i64 x.2]] w fun e w' => e = .returned (.bool true) ∧ SwapIn2 B b w' p noL ∧ Below B w w' ∧ w'.heap[b]? = w.heap[b]? := by
  have h0 := Release_in2 h hB hb k [x] (by rw [List.getElem?_set_self (by rw [noL, List.length_replicate]; exact hk)]) x (by simp)
  have e : (noL.set k [x]).set k ([x].erase x) = noL := by
    rw [List.set_set, List.erase_cons_head]
    exact set_same (by rw [noL, List.getElem?_replicate, if_pos hk])
  rw [e] at h0
  refine h0.mono ?_
  rintro e w' ⟨rfl, h1⟩
  exact ⟨by simp, h1⟩
theorem rel_no {B b : Nat} {w : World} {p k : Nat} {x : Int × Int} (hk : k < 32) (h : SwapIn2 B b w p noL) (hB : B ≤ w.heap.size) (hb : b < w.heap.size) :
    Calls Try.prog 36 #[.pointer (some ⟨p, 0, none⟩), .int .i64 k, .agg #[.int .i64 x.1, .int .i64 x.2]] w fun e w' => e = .returned (.bool false) ∧ SwapIn2 B b w' p noL ∧ Below B w w' ∧ w'.heap[b]? = w.heap[b]? := by
  have h0 := Release_in2 h hB hb k [] (by rw [noL, List.getElem?_replicate, if_pos hk]) x (by simp)
  have e : noL.set k (([] : List (Int × Int)).erase x) = noL := set_same (by rw [noL, List.getElem?_replicate, if_pos hk]; rfl)
  rw [e] at h0
  refine h0.mono ?_
  rintro e w' ⟨rfl, h1⟩
  exact ⟨by simp, h1⟩

/-- Who holds what behind so many rounds. -/
def onceL (k : Nat) (x : Int × Int) (i : Nat) : List (List (Int × Int)) := if i = 0 then noL else noL.set k [x]

set_option maxRecDepth 100000 in
set_option maxHeartbeats 1000000 in
theorem once_walk (x : Int × Int) (s n : Nat) (hs : s < 256) (hn : n < 256) (w : World) : Calls Try.prog 12 #[.agg #[.int .i64 x.1, .int .i64 x.2], .int .u8 s, .int .u8 n] w fun e w' => e = .returned (.bool true) ∧ Below w.heap.size w w' := by
  obtain ⟨x1, x2⟩ := x
  simp only
  go_enter Try.func12, Try.ntmps12
  go_wp2_with fail
  have q0 : (w.alloc (.cells #[.int .i64 x1, .int .i64 x2] 40)).cell? ⟨w.heap.size, 0, none⟩ = some (.int .i64 x1) := by go_simp
  have q1 : (w.alloc (.cells #[.int .i64 x1, .int .i64 x2] 40)).cell? ⟨w.heap.size, 1, none⟩ = some (.int .i64 x2) := by go_simp
  have HB0 := Lib.hid ((Below.refl w.heap.size w).alloc (Nat.le_refl _) (.cells #[.int .i64 x1, .int .i64 x2] 40))
  have hz : Hid ((w.alloc (.cells #[.int .i64 x1, .int .i64 x2] 40)).heap.size = w.heap.size + 1) := by show _ = _; simp
  generalize hB : w.alloc (.cells #[.int .i64 x1, .int .i64 x2] 40) = W at *
  clear hB
  have Q0 := Lib.hid q0
  have Q1 := Lib.hid q1
  clear q0 q1
  refine (New_in W).mono ?_
  rintro e w1 ⟨rfl, h1, b1⟩
  have H1 := Lib.hid h1
  have HBW := Lib.hid b1
  clear h1 b1
  go_wp2_with fail
  obtain ⟨k, hk, hk32⟩ : ∃ k : Nat, (s : Int) % 32 = k ∧ k < 32 := ⟨s % 32, by omega, by omega⟩
  obtain ⟨m, hm, hm4⟩ : ∃ m : Nat, (n : Int) % 4 = m ∧ m < 4 := ⟨n % 4, by omega, by omega⟩
  rw [hk]
  have hlenL : ∀ i, (onceL k (x1, x2) i).length = 32 := fun i => by unfold onceL; split <;> simp [noL]
  have hgetL : ∀ i, (onceL k (x1, x2) i)[k]? = some (if i = 0 then [] else [(x1, x2)]) := fun i => by
    unfold onceL; split
    · rw [noL, List.getElem?_replicate, if_pos hk32]
    · rw [List.getElem?_set_self (by rw [noL, List.length_replicate]; exact hk32)]
  have hnextL : ∀ i, (onceL k (x1, x2) i).set k (putP (if i = 0 then [] else [(x1, x2)]) (x1, x2)) = onceL k (x1, x2) (i + 1) := fun i => by
    unfold onceL
    by_cases h : i = 0
    · simp [h, putP, insP]
    · simp [h, putP]
  have HG := Lib.hid hgetL
  have HX := Lib.hid hnextL
  clear hk hlenL hgetL hnextL
  go_loopw [9] (fun i wr => ∃ j : Nat, j ≤ m + 1 ∧ i = .int .i64 j ∧ SwapIn W.heap.size wr W.heap.size (onceL k (x1, x2) j) ∧ Below W.heap.size W wr) (fun i _ => 5 - (intOf i).toNat)
  case atStart => exact ⟨0, by omega, rfl, H1.out, HBW.out⟩
  case round =>
    obtain ⟨j, hj, rfl, hS, hb⟩ := hrel
    clear H1 HBW
    have q0 := (hb.cell (World.block_lt_of_cell? _ _ Q0.out)).trans Q0.out
    have q1 := (hb.cell (World.block_lt_of_cell? _ _ Q1.out)).trans Q1.out
    have HB := Lib.hid hb
    have HS := Lib.hid hS
    clear hb hS
    by_cases hlt : j ≤ m
    · have hlt' : (j : Int) ≤ m := by omega
      go_wp2_with fail
      refine (Hold_in HS.out HB.out.size k _ rfl _ (HG.out j) (x1, x2) (by split <;> simp [SortedP]) (by split <;> simp)).mono ?_
      rw [HX.out]
      rintro e w2 ⟨rfl, h2, b2⟩
      have H2 := Lib.hid h2
      have HB2 := Lib.hid (HB.out.trans b2)
      clear h2 b2 q0 q1
      go_wp2_with fail
      go_roundw
      case rel => exact ⟨j + 1, by omega, by go_num, H2.out, HB2.out⟩
      case measure => simp [intOf]; omega
    · have hlt' : ¬ (j : Int) ≤ m := by omega
      have hj0 : onceL k (x1, x2) j = noL.set k [(x1, x2)] := by unfold onceL; rw [if_neg (by omega)]
      rw [hj0] at HS
      have hk0 : Hid ((noL.set k [(x1, x2)])[k]? = some [(x1, x2)]) := by
        have := HG.out j
        rw [hj0, if_neg (by omega)] at this
        exact this
      clear HG HX hj0 hlt
      go_wp2_with fail
      refine (Of_in2 HS.out k _ rfl [(x1, x2)] hk0.out (by simp)).mono ?_
      rintro e w2 ⟨v2, rfl, hp2, b2, hS2⟩
      obtain ⟨a2, c2, rfl, _, _⟩ := SlAt.form hp2
      obtain ⟨bb, off, rfl⟩ := hp2.addr (by simp)
      have q0 := (b2.cell (World.block_lt_of_cell? _ _ q0)).trans q0
      have q1 := (b2.cell (World.block_lt_of_cell? _ _ q1)).trans q1
      have HB2 := Lib.hid (HB.out.trans (b2.mono HB.out.size))
      have HS2 := Lib.hid (hS2 bb rfl)
      have HP2 := Lib.hid hp2
      clear hp2 hS2 b2
      go_wp2_with fail
      refine (Slots_in2 HS2.out x1).mono ?_
      have hsl : slotsFrom x1 (noL.set k [(x1, x2)]) 0 = [(k : Int)] := by
        rw [noL, slotsFrom_set x1 [(x1, x2)] 32 k 0 hk32]
        simp
      rw [hsl]
      rintro e w3 ⟨v3, rfl, hi3, hS3, b3⟩
      have q0 := (b3.cell (World.block_lt_of_cell? _ _ q0)).trans q0
      have q1 := (b3.cell (World.block_lt_of_cell? _ _ q1)).trans q1
      have HB3 := Lib.hid (HB2.out.trans (b3.mono HB2.out.size))
      have HS3 := Lib.hid hS3
      have HP3 := Lib.hid (HP2.out.below b3)
      have HI3 := Lib.hid hi3
      clear hS3 b3 hi3 hsl
      go_wp2_with fail
      obtain ⟨e0, e1⟩ := HP3.out.cellAt (j := 0) (y := (x1, x2)) rfl
      simp only [Nat.zero_mul, Nat.add_zero] at e0 e1
      have heq := eql_run (x1, x2) (x1, x2)
      rw [decide_eq_true rfl] at heq
      have hgd := fun op a b => guard_run op a b (x1, x2) (x1, x2)
      simp only at heq hgd
      obtain ⟨W3, hW3⟩ : ∃ W3, W3 = w3.drew := ⟨_, rfl⟩
      have q0 : W3.cell? ⟨w.heap.size, 0, none⟩ = some (.int .i64 x1) := by rw [hW3]; exact q0
      have q1 : W3.cell? ⟨w.heap.size, 1, none⟩ = some (.int .i64 x2) := by rw [hW3]; exact q1
      have e0 : W3.cell? ⟨bb, off, none⟩ = some (.int .i64 x1) := by rw [hW3]; exact e0
      have e1 : W3.cell? ⟨bb, off + 1, none⟩ = some (.int .i64 x2) := by rw [hW3]; exact e1
      have HW3 : Hid (Below W.heap.size W W3 ∧ SwapIn2 W.heap.size bb W3 W.heap.size (noL.set k [(x1, x2)]) ∧ IntsAt W3 v3 [(k : Int)]) := by
        rw [hW3]
        exact ⟨HB3.out.drew, HS3.out.below (Below.refl _ _).drew, SlAt.below HI3.out (Below.refl _ _).drew⟩
      have hlow : Hid (w.heap.size < W.heap.size) := by have := hz.out; show _ < _; omega
      have hd : w3.drew = W3 := hW3.symm
      clear hW3 HB3 HS3 HP3 HI3 HP2 HS2 HB2 HS HB
      go_region_held (fun W' => W'.cell? ⟨w.heap.size, 0, none⟩ = some (.int .i64 x1) ∧ W'.cell? ⟨w.heap.size, 1, none⟩ = some (.int .i64 x2) ∧ W'.cell? ⟨bb, off, none⟩ = some (.int .i64 x1) ∧ W'.cell? ⟨bb, off + 1, none⟩ = some (.int .i64 x2)) (go_keep)
        (first
          | (go_at_call 34; (refine (swapAnswers _).mono ?_; rintro e w4 ⟨rfl, b4⟩; have q0' := (b4.cell (World.block_lt_of_cell? _ _ q0)).trans q0; have q1' := (b4.cell (World.block_lt_of_cell? _ _ q1)).trans q1; have e0' := (b4.cell (World.block_lt_of_cell? _ _ e0)).trans e0; have e1' := (b4.cell (World.block_lt_of_cell? _ _ e1)).trans e1; have HW4 := Lib.hid (And.intro (HW3.out.1.trans (b4.mono HW3.out.1.size)) (And.intro (HW3.out.2.1.below b4) (SlAt.below HW3.out.2.2 b4))); clear b4))
          | (go_at_call 41; (refine (Ints_ref _ _ _ [(k : Int)] [(k : Int)] (SlAt.below HW4.out.2.2 ((Below.refl _ _).alloc (Nat.le_refl _) _)) (IntsAt.lit _ _)).mono ?_; rw [decide_eq_true rfl]; rintro e w5 ⟨rfl, b5⟩; have ba := (Below.refl w4.heap.size w4).alloc (Nat.le_refl _) (.cells #[.int .i64 k] 3); have b45 := ba.trans (b5.mono ba.size); have q0'' := (b45.cell (World.block_lt_of_cell? _ _ q0')).trans q0'; have q1'' := (b45.cell (World.block_lt_of_cell? _ _ q1')).trans q1'; have e0'' := (b45.cell (World.block_lt_of_cell? _ _ e0')).trans e0'; have e1'' := (b45.cell (World.block_lt_of_cell? _ _ e1')).trans e1'; have HW5 := Lib.hid (And.intro (HW4.out.1.trans (b45.mono HW4.out.1.size)) (HW4.out.2.1.below b45)); clear b45 ba b5 HW4))
          | (go_at_call 36; (first
              | (refine (rel_yes (x := (x1, x2)) hk32 HW5.out.2 HW5.out.1.size (World.block_lt_of_cell? _ _ e0'')).mono ?_; rintro e w6 ⟨rfl, h6, b6, k6⟩; have f0 := (World.cell?_of_block (a := ⟨bb, off, none⟩) k6).trans e0''; have f1 := (World.cell?_of_block (a := ⟨bb, off + 1, none⟩) k6).trans e1''; have r0 := (b6.cell (p := ⟨w.heap.size, 0, none⟩) hlow.out).trans q0''; have r1 := (b6.cell (p := ⟨w.heap.size, 1, none⟩) hlow.out).trans q1''; have HW6 := Lib.hid (And.intro (HW5.out.1.trans b6) h6); clear b6 h6 k6 HW5)
              | (refine (rel_no (x := (x1, x2)) hk32 HW6.out.2 HW6.out.1.size (World.block_lt_of_cell? _ _ f0)).mono ?_; rintro e w7 ⟨rfl, h7, b7, k7⟩; have f0' := (World.cell?_of_block (a := ⟨bb, off, none⟩) k7).trans f0; have f1' := (World.cell?_of_block (a := ⟨bb, off + 1, none⟩) k7).trans f1; have r0' := (b7.cell (p := ⟨w.heap.size, 0, none⟩) hlow.out).trans r0; have r1' := (b7.cell (p := ⟨w.heap.size, 1, none⟩) hlow.out).trans r1; have HW7 := Lib.hid (And.intro (HW6.out.1.trans b7) h7); clear b7 h7 k7 HW6)))
          | (go_at_call 35; (refine (Used_in HW7.out.2.one (by simp [noL])).mono ?_; rw [heldN_noL]; rintro e w8 ⟨rfl, -, b8⟩; have s0 := (b8.cell (World.block_lt_of_cell? _ _ r0')).trans r0'; have s1 := (b8.cell (World.block_lt_of_cell? _ _ r1')).trans r1'; have g0 := (b8.cell (World.block_lt_of_cell? _ _ f0')).trans f0'; have g1 := (b8.cell (World.block_lt_of_cell? _ _ f1')).trans f1'; have HW8 := Lib.hid (HW7.out.1.trans (b8.mono HW7.out.1.size)); clear b8 HW7))
          | (go_at_call 33; (first
              | (have h8 := HW8.out; refine (Hold_no _ _ _ (by omega) (x1, x2)).mono ?_; rintro e w9 ⟨rfl, b9⟩; have s0' := (b9.cell (World.block_lt_of_cell? _ _ s0)).trans s0; have s1' := (b9.cell (World.block_lt_of_cell? _ _ s1)).trans s1; have g0' := (b9.cell (World.block_lt_of_cell? _ _ g0)).trans g0; have g1' := (b9.cell (World.block_lt_of_cell? _ _ g1)).trans g1; have HW9 := Lib.hid (HW8.out.trans (b9.mono HW8.out.size)); clear b9 HW8 h8)
              | (have h9 := HW9.out; refine (Hold_no _ _ _ (by omega) (x1, x2)).mono ?_; rintro e w10 ⟨rfl, b10⟩; have s0'' := (b10.cell (World.block_lt_of_cell? _ _ s0')).trans s0'; have s1'' := (b10.cell (World.block_lt_of_cell? _ _ s1')).trans s1'; have g0'' := (b10.cell (World.block_lt_of_cell? _ _ g0')).trans g0'; have g1'' := (b10.cell (World.block_lt_of_cell? _ _ g1')).trans g1'; have HW10 := Lib.hid (HW9.out.trans (b10.mono HW9.out.size)); clear b10 HW9 h9))))
      go_wp2_with fail
      go_ret
      exact ⟨rfl, HB0.out.trans (HW10.out.mono HB0.out.size)⟩

theorem swapOnce_row (x1 x2 s n : Int) (w : World) (_ : (Lit.int .i64 x1).wf = true) (_ : (Lit.int .i64 x2).wf = true) (hs : (Lit.int .u8 s).wf = true) (hn : (Lit.int .u8 n).wf = true) :
    Calls Try.prog 12 #[.agg [.int .i64 x1, .int .i64 x2].toArray, .int .u8 s, .int .u8 n] w fun e w' => e = .returned (.bool true) ∧ Below w.heap.size w w' := by
  have h := bounds_u8 hs
  have k := bounds_u8 hn
  obtain ⟨s, rfl⟩ := Int.eq_ofNat_of_zero_le h.1
  obtain ⟨n, rfl⟩ := Int.eq_ofNat_of_zero_le k.1
  exact once_walk (x1, x2) s n (by omega) (by omega) w
end Go.Proofs.Ytflbidbnbfndgaa
