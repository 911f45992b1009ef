/- BackOnce. -/
import Derived.Test.YtflbidbnbfndgaaBackFrames
import Derived.Test.YtflbidbnbfndgaaRefEq
import Derived.OpenShut
import Derived.Deep.RegionHeld
namespace Go.Proofs.Ytflbidbnbfndgaa
open Go Go.RowKit

variable {K : Int → Prop}

theorem nodup_length {l D : List Int} (h : l.Nodup) (hs : ∀ x ∈ l, x ∈ D) : l.length ≤ D.length := by
  induction l generalizing D with
  | nil => simp
  | cons x l ih =>
    rw [List.nodup_cons] at h
    have hx := hs x List.mem_cons_self
    have := ih (D := D.erase x) h.2 (fun y hy => (List.mem_erase_of_ne (fun e => by subst e; exact h.1 hy)).2 (hs y (List.mem_cons_of_mem _ hy)))
    rw [List.length_erase_of_mem hx] at this
    have := List.length_pos_of_mem hx
    rw [List.length_cons]
    omega
theorem asc_unique {a b : List Int} (ha : a.Pairwise (· < ·)) (hb : b.Pairwise (· < ·)) (h : ∀ x, x ∈ a ↔ x ∈ b) : a = b := by
  have na : a.Nodup := ha.imp (fun {x y} h e => by omega)
  have nb : b.Nodup := hb.imp (fun {x y} h e => by omega)
  exact ((List.perm_ext_iff_of_nodup na nb).2 h).eq_of_pairwise (fun x y _ _ h1 h2 => by omega) ha hb
theorem ascI_lt {l : List Int} (h : l.Nodup) : (ascI l).Pairwise (· < ·) := by
  have h1 : (ascI l).Pairwise (fun a b => decide (a ≤ b) = true) := List.pairwise_mergeSort (fun a b c h1 h2 => by simp only [decide_eq_true_eq] at *; omega) (fun a b => by simp only [Bool.or_eq_true, decide_eq_true_eq]; omega) l
  have h2 : (ascI l).Nodup := (List.mergeSort_perm l _).nodup_iff.2 h
  exact (h1.and h2).imp (fun {a b} ⟨h3, h4⟩ => by simp only [decide_eq_true_eq] at h3; omega)
theorem getL_mem {V : List (Int × Value)} {f : Int} (h : getL V f ≠ none) : f ∈ V.map (·.1) := Classical.byContradiction fun hn => h (getL_none hn)

/-- The frames of a process, whatever the map's own order: those of a list that holds all keys. -/
theorem frames_of_keys {w : World} {p m : Nat} {S : List Nat} {V : List (Int × Value)} {L : Int → List (Int × Int)} (h : BackAt K w p m S V L) (D : List Int) (hD : D.Pairwise (· < ·)) (hKD : ∀ f, K f → f ∈ D) (proc : Int) :
    framesOf proc L (ascI (V.map (·.1))) = framesOf proc L D := by
  unfold framesOf
  refine asc_unique ((ascI_lt h.nd).filter _) (hD.filter _) fun f => ?_
  rw [List.mem_filter, List.mem_filter]
  constructor
  · rintro ⟨h1, h2⟩
    obtain ⟨x, hx, rfl⟩ := List.mem_map.1 ((List.mergeSort_perm _ _).mem_iff.1 h1)
    exact ⟨hKD _ (h.keys x hx), h2⟩
  · rintro ⟨_, h2⟩
    refine ⟨(List.mergeSort_perm _ _).mem_iff.2 (getL_mem fun e => ?_), h2⟩
    have hp := h.at_ f
    unfold slotB at hp
    rw [e] at hp
    have hl : L f = [] := by
      rcases hp.form with ⟨_, e2⟩ | ⟨b, off, c, e2, _⟩
      · exact e2
      · cases e2
    rw [hl] at h2
    cases h2

theorem BTwo.frames {B : Nat} {w : World} {p : Nat} {L : Int → List (Int × Int)} {v : Value} {l : List (Int × Int)} (h : BTwo K B w p L v l) (hK : ∀ f, K f → (Lit.int .i64 f).wf = true) (D : List Int) (hD : D.Pairwise (· < ·)) (hKD : ∀ f, K f → f ∈ D) (hlen : D.length ≤ 1000000) (proc : Int) :
    Calls Try.prog 44 #[.pointer (some ⟨p, 0, none⟩), .int .i64 proc] w fun e w' => ∃ v', e = .returned v' ∧ IntsAt w' v' (framesOf proc L D) ∧ BTwo K B w' p L v l ∧ Below w.heap.size w w' := by
  have h0 := h
  obtain ⟨m, S, V, h1, h2, h3, h4⟩ := h
  have hV : V.length ≤ 1000000 := by
    have := nodup_length (l := V.map (·.1)) (D := D) h1.nd (fun x hx => by obtain ⟨y, hy, rfl⟩ := List.mem_map.1 hx; exact hKD _ (h1.keys y hy))
    rw [List.length_map] at this
    omega
  refine (Frames_walk w p m S V L h1 hK hV proc).mono ?_
  rintro e w' ⟨v', rfl, h5, h6⟩
  rw [frames_of_keys h1 D hD hKD] at h5
  exact ⟨v', rfl, h5, h0.below h6, h6⟩

theorem BTwo.of2 {B : Nat} {w : World} {p : Nat} {L : Int → List (Int × Int)} {v : Value} {l : List (Int × Int)} (h : BTwo K B w p L v l) (hB : B ≤ w.heap.size) (f : Int) (hlen : (L f).length ≤ 1000000) :
    Calls Try.prog 30 #[.pointer (some ⟨p, 0, none⟩), .int .i64 f] w fun e w' => ∃ v', e = .returned v' ∧ BTwo K B w' p L v' (L f) ∧ Below w.heap.size w w' := by
  obtain ⟨m, S, V, h1, h2, h3, h4⟩ := h
  refine (BOf_walk w p m S V L h1 f hlen).mono ?_
  rintro e w' ⟨v', rfl, h5, h6, h7⟩
  exact ⟨v', rfl, ⟨m, S, V, h1.below h6, fun i hi => ⟨(h2 i hi).1, Nat.lt_of_lt_of_le (h2 i hi).2 h6.size⟩, h5, fun b hb => ⟨by have := h7 b hb; omega, fun hm => by have := h7 b hb; have := (h2 b hm).2; omega⟩⟩, h6⟩

theorem IntsAt.lit' (w : World) (k : Int) : IntsAt (w.alloc (.cells #[.int .i64 k] 3)) (.slice (Option.some ⟨w.heap.size, 0, none⟩) 1 1) [k] :=
  ⟨rfl, .inr ⟨w.heap.size, 0, 1, _, rfl, heap_alloc_new w _, Nat.le_refl _, by simp [maxLen], by simp, fun j u hu => by simpa using hu⟩⟩

/-- Who has what behind so many rounds. -/
def onceF (f : Int) (x : Int × Int) (i : Nat) : Int → List (Int × Int) := if i = 0 then noF else updF noF f [x]

theorem drop_yes {B : Nat} {w : World} {p : Nat} {v : Value} {l : List (Int × Int)} {f : Int} {x : Int × Int} (h : BTwo K B w p (updF noF f [x]) v l) (hB : B ≤ w.heap.size) (hK : K f) :
    Calls Try.prog 43 #[.pointer (some ⟨p, 0, none⟩), .int .i64 f, .agg #[.int .i64 x.1, .int .i64 x.2]] w fun e w' => e = .returned (.bool true) ∧ BTwo K B w' p noF v l ∧ Below B w w' := by
  have h0 := h.drop hB f x (by rw [updF_at]; simp) hK
  rw [updF_at, updF_twice, List.erase_cons_head, updF_same noF f (show ([] : List (Int × Int)) = noF f from rfl)] at h0
  refine h0.mono ?_
  rintro e w' ⟨rfl, h1⟩
  exact ⟨by simp, h1⟩
theorem drop_no {B : Nat} {w : World} {p : Nat} {v : Value} {l : List (Int × Int)} {f : Int} {x : Int × Int} (h : BTwo K B w p noF v l) (hB : B ≤ w.heap.size) (hK : K f) :
    Calls Try.prog 43 #[.pointer (some ⟨p, 0, none⟩), .int .i64 f, .agg #[.int .i64 x.1, .int .i64 x.2]] w fun e w' => e = .returned (.bool false) ∧ BTwo K B w' p noF v l ∧ Below B w w' := by
  have h0 := h.drop hB f x (by simp [noF]) hK
  rw [updF_same noF f (show (noF f).erase x = noF f from rfl)] at h0
  refine h0.mono ?_
  rintro e w' ⟨rfl, h1⟩
  exact ⟨by simp [noF], h1⟩

set_option maxRecDepth 100000 in
set_option maxHeartbeats 1000000 in
theorem onceB_walk (x : Int × Int) (f : Int) (n : Nat) (hf : (Lit.int .i64 f).wf = true) (hn : n < 256) (w : World) : Calls Try.prog 15 #[.agg #[.int .i64 x.1, .int .i64 x.2], .int .i64 f, .int .u8 n] w fun e w' => e = .returned (.bool true) ∧ Below w.heap.size w w' := by
  obtain ⟨x1, x2⟩ := x
  simp only
  have HF := Lib.hid hf
  clear hf
  go_enter Try.func15, Try.ntmps15
  go_wp2_with fail
  have q0 : (w.alloc (.cells #[.int .i64 x1, .int .i64 x2] 40)).cell? ⟨w.heap.size, 0, none⟩ = some (.int .i64 x1) := by go_simp
  have q1 : (w.alloc (.cells #[.int .i64 x1, .int .i64 x2] 40)).cell? ⟨w.heap.size, 1, none⟩ = some (.int .i64 x2) := by go_simp
  have HB0 := Lib.hid ((Below.refl w.heap.size w).alloc (Nat.le_refl _) (.cells #[.int .i64 x1, .int .i64 x2] 40))
  have hz : Hid ((w.alloc (.cells #[.int .i64 x1, .int .i64 x2] 40)).heap.size = w.heap.size + 1) := by show _ = _; simp
  generalize hB : w.alloc (.cells #[.int .i64 x1, .int .i64 x2] 40) = W at *
  clear hB
  have Q0 := Lib.hid q0
  have Q1 := Lib.hid q1
  clear q0 q1
  refine (BNew_in (K := fun g => g = f) W).mono ?_
  rintro e w1 ⟨p, rfl, h1, b1⟩
  have H1 := Lib.hid h1
  have HBW := Lib.hid b1
  clear h1 b1
  obtain ⟨m, hm, hm4⟩ : ∃ m : Nat, (n : Int) % 5 = m ∧ m < 5 := ⟨n % 5, by omega, by omega⟩
  have hgetL : ∀ i, onceF f (x1, x2) i f = if i = 0 then [] else [(x1, x2)] := fun i => by
    unfold onceF; split
    · rfl
    · rw [updF_at]
  have hnextL : ∀ i, updF (onceF f (x1, x2) i) f (putP (if i = 0 then [] else [(x1, x2)]) (x1, x2)) = onceF f (x1, x2) (i + 1) := fun i => by
    unfold onceF
    by_cases h : i = 0
    · simp [h, putP, insP]
    · simp [h, putP, updF_twice]
  have HG := Lib.hid hgetL
  have HX := Lib.hid hnextL
  clear hgetL hnextL
  go_wp2_with fail
  go_loopw [8] (fun i wr => ∃ j : Nat, j ≤ m + 1 ∧ i = .int .i64 j ∧ BTwo (fun g => g = f) W.heap.size wr p (onceF f (x1, x2) j) (.slice none 0 0) [] ∧ Below W.heap.size W wr) (fun i _ => 6 - (Go.RowKit.intOf i).toNat)
  case atStart => exact ⟨0, by omega, rfl, H1.out, HBW.out⟩
  case round =>
    obtain ⟨j, hj, rfl, hS, hb⟩ := hrel
    clear H1 HBW
    have q0 := (hb.cell (World.block_lt_of_cell? _ _ Q0.out)).trans Q0.out
    have q1 := (hb.cell (World.block_lt_of_cell? _ _ Q1.out)).trans Q1.out
    have HB := Lib.hid hb
    have HS := Lib.hid hS
    clear hb hS
    by_cases hlt : j ≤ m
    · have hlt' : (j : Int) ≤ m := by omega
      go_wp2_with fail
      have ea := HS.out.add HB.out.size f (x1, x2) (by rw [HG.out]; split <;> simp [SortedP]) (by rw [HG.out]; split <;> simp) rfl
      rw [HG.out, HX.out] at ea
      refine ea.mono ?_
      clear ea
      rintro e w2 ⟨rfl, h2, b2⟩
      have H2 := Lib.hid h2
      have HB2 := Lib.hid (HB.out.trans b2)
      clear h2 b2 q0 q1
      go_wp2_with fail
      go_roundw
      case rel => exact ⟨j + 1, by omega, by go_num, H2.out, HB2.out⟩
      case measure => simp [Go.RowKit.intOf]; omega
    · have hlt' : ¬ (j : Int) ≤ m := by omega
      have hj0 : onceF f (x1, x2) j = updF noF f [(x1, x2)] := by unfold onceF; rw [if_neg (by omega)]
      rw [hj0] at HS
      clear HG HX hj0 hlt
      go_wp2_with fail
      have eo := HS.out.of2 HB.out.size f (by rw [updF_at]; simp)
      rw [updF_at] at eo
      refine eo.mono ?_
      clear eo
      rintro e w2 ⟨v2, rfl, hS2, b2⟩
      obtain ⟨a2, c2, rfl, _, _⟩ := SlAt.form hS2.list
      obtain ⟨bb, off, rfl⟩ := PlAt.addr hS2.list (by simp)
      have q0 := (b2.cell (World.block_lt_of_cell? _ _ q0)).trans q0
      have q1 := (b2.cell (World.block_lt_of_cell? _ _ q1)).trans q1
      have HB2 := Lib.hid (HB.out.trans (b2.mono HB.out.size))
      have HS2 := Lib.hid hS2
      clear hS2 b2
      go_wp2_with fail
      have ef := HS2.out.frames (fun g e => by rw [e]; exact HF.out) [f] (by simp) (fun g e => by rw [e]; simp) (by simp) x1
      have hsl : framesOf x1 (updF noF f [(x1, x2)]) [f] = [f] := by
        unfold framesOf
        simp [updF_at]
      rw [hsl] at ef
      refine ef.mono ?_
      clear ef
      rintro e w3 ⟨v3, rfl, hi3, hS3, b3⟩
      have q0 := (b3.cell (World.block_lt_of_cell? _ _ q0)).trans q0
      have q1 := (b3.cell (World.block_lt_of_cell? _ _ q1)).trans q1
      have HB3 := Lib.hid (HB2.out.trans (b3.mono HB2.out.size))
      have HS3 := Lib.hid hS3
      have HI3 := Lib.hid hi3
      clear hS3 b3 hi3 hsl
      go_wp2_with fail
      obtain ⟨e0, e1⟩ := PlAt.cellAt HS3.out.list (j := 0) (y := (x1, x2)) rfl
      simp only [Nat.zero_mul, Nat.add_zero] at e0 e1
      have heq := eql_run (x1, x2) (x1, x2)
      rw [decide_eq_true rfl] at heq
      have hgd := fun op a b => guard_run op a b (x1, x2) (x1, x2)
      simp only at heq hgd
      obtain ⟨W3, hW3⟩ : ∃ W3, W3 = w3.drew := ⟨_, rfl⟩
      have q0 : W3.cell? ⟨w.heap.size, 0, none⟩ = some (.int .i64 x1) := by rw [hW3]; exact q0
      have q1 : W3.cell? ⟨w.heap.size, 1, none⟩ = some (.int .i64 x2) := by rw [hW3]; exact q1
      have e0 : W3.cell? ⟨bb, off, none⟩ = some (.int .i64 x1) := by rw [hW3]; exact e0
      have e1 : W3.cell? ⟨bb, off + 1, none⟩ = some (.int .i64 x2) := by rw [hW3]; exact e1
      have HW3 : Hid (Below W.heap.size W W3 ∧ BTwo (fun g => g = f) W.heap.size W3 p (updF noF f [(x1, x2)]) (.slice (some ⟨bb, off, none⟩) [(x1, x2)].length c2) [(x1, x2)] ∧ IntsAt W3 v3 [f]) := by
        rw [hW3]
        exact ⟨HB3.out.drew, HS3.out.below (Below.refl _ _).drew, SlAt.below HI3.out (Below.refl _ _).drew⟩
      have hlow : Hid (w.heap.size < W.heap.size) := by have := hz.out; show _ < _; omega
      have hd : w3.drew = W3 := hW3.symm
      have cellOf : Hid (∀ X L, BTwo (fun g => g = f) W.heap.size X p L (.slice (some ⟨bb, off, none⟩) [(x1, x2)].length c2) [(x1, x2)] → X.cell? ⟨bb, off, none⟩ = some (.int .i64 x1) ∧ X.cell? ⟨bb, off + 1, none⟩ = some (.int .i64 x2)) := fun X L h => by
        have := PlAt.cellAt h.list (j := 0) (y := (x1, x2)) rfl
        simpa only [Nat.zero_mul, Nat.add_zero] using this
      clear hW3 HB3 HS3 HI3 HS2 HB2 HS HB
      go_region_held (fun W' => W'.cell? ⟨w.heap.size, 0, none⟩ = some (.int .i64 x1) ∧ W'.cell? ⟨w.heap.size, 1, none⟩ = some (.int .i64 x2) ∧ W'.cell? ⟨bb, off, none⟩ = some (.int .i64 x1) ∧ W'.cell? ⟨bb, off + 1, none⟩ = some (.int .i64 x2)) (go_keep)
        (first
          | (go_at_call 24; (refine (backAnswers _).mono ?_; rintro e w4 ⟨rfl, b4⟩; have q0' := (b4.cell (World.block_lt_of_cell? _ _ q0)).trans q0; have q1' := (b4.cell (World.block_lt_of_cell? _ _ q1)).trans q1; have e0' := (b4.cell (World.block_lt_of_cell? _ _ e0)).trans e0; have e1' := (b4.cell (World.block_lt_of_cell? _ _ e1)).trans e1; have HW4 := Lib.hid (And.intro (HW3.out.1.trans (b4.mono HW3.out.1.size)) (And.intro (HW3.out.2.1.below b4) (SlAt.below HW3.out.2.2 b4))); clear b4))
          | (go_at_call 41; (refine (Ints_ref _ _ _ [f] [f] (SlAt.below HW4.out.2.2 ((Below.refl _ _).alloc (Nat.le_refl _) _)) (IntsAt.lit' _ _)).mono ?_; rw [decide_eq_true rfl]; rintro e w5 ⟨rfl, b5⟩; have ba := (Below.refl w4.heap.size w4).alloc (Nat.le_refl _) (.cells #[.int .i64 f] 3); have b45 := ba.trans (b5.mono ba.size); have q0'' := (b45.cell (World.block_lt_of_cell? _ _ q0')).trans q0'; have q1'' := (b45.cell (World.block_lt_of_cell? _ _ q1')).trans q1'; have e0'' := (b45.cell (World.block_lt_of_cell? _ _ e0')).trans e0'; have e1'' := (b45.cell (World.block_lt_of_cell? _ _ e1')).trans e1'; have HW5 := Lib.hid (And.intro (HW4.out.1.trans (b45.mono HW4.out.1.size)) (HW4.out.2.1.below b45)); clear b45 ba b5 HW4))
          | (go_at_call 43; (first
              | (refine (drop_yes (x := (x1, x2)) HW5.out.2 HW5.out.1.size rfl).mono ?_; rintro e w6 ⟨rfl, h6, b6⟩; obtain ⟨f0, f1⟩ := cellOf.out _ _ h6; have r0 := (b6.cell (p := ⟨w.heap.size, 0, none⟩) hlow.out).trans q0''; have r1 := (b6.cell (p := ⟨w.heap.size, 1, none⟩) hlow.out).trans q1''; have HW6 := Lib.hid (And.intro (HW5.out.1.trans b6) h6); clear b6 h6 HW5)
              | (refine (drop_no (x := (x1, x2)) HW6.out.2 HW6.out.1.size rfl).mono ?_; rintro e w7 ⟨rfl, h7, b7⟩; obtain ⟨f0', f1'⟩ := cellOf.out _ _ h7; have r0' := (b7.cell (p := ⟨w.heap.size, 0, none⟩) hlow.out).trans r0; have r1' := (b7.cell (p := ⟨w.heap.size, 1, none⟩) hlow.out).trans r1; have HW7 := Lib.hid (And.intro (HW6.out.1.trans b7) h7); clear b7 h7 HW6)))
          | (go_at_call 30; (refine (HW7.out.2.of f (by simp [noF])).mono ?_; rintro e w8 ⟨v8, rfl, hp8, h8, b8⟩; obtain ⟨a8, c8, rfl, _, _⟩ := SlAt.form hp8; simp only [noF, List.length_nil]; have s0 := (b8.cell (World.block_lt_of_cell? _ _ r0')).trans r0'; have s1 := (b8.cell (World.block_lt_of_cell? _ _ r1')).trans r1'; obtain ⟨g0, g1⟩ := cellOf.out _ _ h8; have HW8 := Lib.hid (And.intro (HW7.out.1.trans (b8.mono HW7.out.1.size)) h8); clear b8 h8 hp8 HW7))
          | (go_at_call 44; (refine (HW8.out.2.frames (fun g e => by rw [e]; exact HF.out) [f] (by simp) (fun g e => by rw [e]; simp) (by simp) x1).mono ?_; rintro e w9 ⟨v9, rfl, hi9, h9, b9⟩; obtain ⟨a9, c9, rfl, _, _⟩ := SlAt.form hi9; simp only [framesOf, noF, List.any_nil, List.filter_cons, List.filter_nil, Bool.false_eq_true, if_false, List.length_nil]; have s0' := (b9.cell (World.block_lt_of_cell? _ _ s0)).trans s0; have s1' := (b9.cell (World.block_lt_of_cell? _ _ s1)).trans s1; obtain ⟨g0', g1'⟩ := cellOf.out _ _ h9; have HW9 := Lib.hid (And.intro (HW8.out.1.trans (b9.mono HW8.out.1.size)) h9); clear b9 h9 hi9 HW8))
          | (go_at_call 28; (refine (HW9.out.2.move_no f _ (by simp [noF]) (.inl rfl)).mono ?_; rintro e w10 ⟨rfl, h10, b10⟩; have s0'' := (b10.cell (World.block_lt_of_cell? _ _ s0')).trans s0'; have s1'' := (b10.cell (World.block_lt_of_cell? _ _ s1')).trans s1'; obtain ⟨g0'', g1''⟩ := cellOf.out _ _ h10; have HW10 := Lib.hid (HW9.out.1.trans (b10.mono HW9.out.1.size)); clear b10 h10 HW9)))
      go_wp2_with fail
      go_ret
      exact ⟨rfl, HB0.out.trans (HW10.out.mono HB0.out.size)⟩

theorem backOnce_row (x1 x2 f n : Int) (w : World) (_ : (Lit.int .i64 x1).wf = true) (_ : (Lit.int .i64 x2).wf = true) (hf : (Lit.int .i64 f).wf = true) (hn : (Lit.int .u8 n).wf = true) :
    Calls Try.prog 15 #[.agg [.int .i64 x1, .int .i64 x2].toArray, .int .i64 f, .int .u8 n] w fun e w' => e = .returned (.bool true) ∧ Below w.heap.size w w' := by
  have k := bounds_u8 hn
  obtain ⟨n, rfl⟩ := Int.eq_ofNat_of_zero_le k.1
  exact onceB_walk (x1, x2) f n hf (by omega) w
end Go.Proofs.Ytflbidbnbfndgaa
