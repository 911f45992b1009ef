/- SignalPlays answers true for every room and every list of acts; no conditions. -/
import Derived.Test.YtfjknnejafdfpaaSigFull
import Derived.Test.YtfjknnejafdfpaaSigOrder
import Derived.Test.YtfjknnejafdfpaaHeap
namespace Go.Proofs.Ytfjknnejafdfpaa
open Go Go.RowKit Go.Conc

/-- The cells of signals. -/
def sc (l : List (Int × Int)) : List Value := l.flatMap fun x => [.int .i64 x.1, .int .i64 x.2]
theorem sc_cons (x : Int × Int) (l : List (Int × Int)) : sc (x :: l) = .int .i64 x.1 :: .int .i64 x.2 :: sc l := rfl
theorem sc_snoc (x : Int × Int) (l : List (Int × Int)) : sc (l ++ [x]) = sc l ++ [.int .i64 x.1, .int .i64 x.2] := by simp [sc]

theorem infoSig : (Try.prog.info? 29).map (fun i => (i.zero, i.size, i.bytes)) = some (some (.agg #[.int .i64 0, .int .i64 0]), 2, 16) := by kernel_rfl

theorem capOf_nonneg (m : Int) : (0 : Int) ≤ capOf m := by omega

/-- What holds at the loop's head. -/
def PlayInv (w : World) (cap : Nat) (l : List (Int × Int)) (a : Option Addr) (n c : Nat) (wr : World) : Prop :=
  SlAt wr 29 2 (.slice a n c) l.length (sc l) ∧ (∀ b, (Value.slice a n c).ownBlock = some b → w.heap.size + 2 ≤ b) ∧ l.length ≤ cap ∧ Below w.heap.size w wr ∧ QAt wr (w.heap.size + 1) w.heap.size cap l ∧ w.heap.size + 2 ≤ wr.heap.size

section
variable {w : World} {cap : Nat} {l : List (Int × Int)} {a : Option Addr} {n c : Nat} {wr w' : World}
theorem PlayInv.below (h : PlayInv w cap l a n c wr) (hb : Below wr.heap.size wr w') : PlayInv w cap l a n c w' := by
  obtain ⟨h1, h2, h3, h4, h5, h6⟩ := h
  exact ⟨h1.below hb, h2, h3, h4.trans (hb.mono h4.size), h5.below hb, Nat.le_trans h6 hb.size⟩
theorem PlayInv.taken {y : Int × Int} (h : PlayInv w cap (y :: l) a n c wr) (hg : wr.grownBy w' (some w.heap.size)) (_ : QAt w' (w.heap.size + 1) w.heap.size cap l) :
    SlAt w' 29 2 (.slice a n c) (y :: l).length (sc (y :: l)) ∧ (∀ b, (Value.slice a n c).ownBlock = some b → w.heap.size + 2 ≤ b) ∧ Below w.heap.size w w' ∧ w.heap.size + 2 ≤ w'.heap.size := by
  obtain ⟨h1, h2, h3, h4, h5, h6⟩ := h
  refine ⟨h1.grown hg ?_, h2, h4.grown hg h4.size (fun k hk => by cases hk; exact Nat.le_refl _), Nat.le_trans h6 hg.size⟩
  cases e : (Value.slice a n c).ownBlock with
  | none => exact .inl rfl
  | some b => have := h2 b e; exact .inr (by simp; omega)
end

set_option maxHeartbeats 1600000 in
set_option maxRecDepth 100000 in
theorem plays_walk (most : Int) (a : Option Addr) (len cap0 : Nat) (z : List Int) (w : World) (hz : Open.RowsAt w encI 1 a len cap0 z) (hzw : ∀ x ∈ z, wfI x) :
    Calls Try.prog 3 #[.int .i64 most, .slice a len cap0] w fun e w' => e = .returned (.bool true) ∧ Below w.heap.size w w' := by
  have hlen := hz.1
  have hmx : len ≤ 9223372036854775807 := by have := hz.2.1; have := hz.2.2.1; unfold maxLen at this; omega
  have HZ := Lib.hid hz
  have HW := Lib.hid hzw
  clear hz hzw
  have HL := Lib.hid hlen
  clear hlen
  by_cases hbig : 200 < len
  · go_enter Try.func3, Try.ntmps3
    go_wp2_with fail
    refine (sigAnswers _).mono ?_
    rintro e w1 ⟨rfl, b1⟩
    go_wp2_with fail
    go_ret
    exact ⟨rfl, b1⟩
  obtain ⟨i0, hi, hz0, hz1, hz2⟩ := info_parts infoSig
  have HI := Lib.hid hi
  have HI0 := Lib.hid hz0
  have HI1 := Lib.hid hz1
  have HI2 := Lib.hid hz2
  clear hi hz0 hz1 hz2
  have hc16 := capOf_le most
  go_enter Try.func3, Try.ntmps3
  go_wp2_with fail
  refine (New_at _ most).mono ?_
  rintro e w1 ⟨rfl, b1, q1⟩
  have hs1 : w.heap.size + 2 ≤ w1.heap.size := by have := q1.lt; omega
  have HB := Lib.hid b1
  clear b1
  go_wp2_with fail
  refine (Cut_cap most _).mono ?_
  rintro e w1' ⟨rfl, rfl⟩
  generalize capOf most = cap at hc16 q1 ⊢
  go_wp2_with fail
  go_loopw [7, 8] (fun v i wr => ∃ (j : Nat) (l : List (Int × Int)) (a : Option Addr) (n c : Nat), j ≤ len ∧ i = .int .i64 j ∧ v = .slice a n c ∧ n ≤ l.length ∧ l.length ≤ n ∧ PlayInv w cap l a n c wr) (fun _ i _ => len - (intOf i).toNat)
  case atStart => exact ⟨0, [], none, 0, 0, by omega, rfl, rfl, by simp, by simp, SlAt.nil _ _ _, by simp [Value.ownBlock], by simp, HB.out, q1, hs1⟩
  case round =>
    clear HB q1 hs1
    obtain ⟨j, l, al, n, c, hj, rfl, rfl, hn1, hn2, hI⟩ := hrel
    have HV := Lib.hid hI
    clear hI
    by_cases hlt : j < len
    · obtain ⟨b, off, rfl, hcell⟩ := rowI_cell HZ.out HV.out.2.2.2.1 j hlt
      obtain ⟨x, hx⟩ : ∃ x, z.getD j 0 = x := ⟨_, rfl⟩
      have HX := Lib.hid hx
      rw [hx] at hcell
      clear hx
      by_cases hneg : x < 0
      · rcases l with _ | ⟨y, l⟩
        · obtain rfl : n = 0 := by simpa using hn1
          clear hn1 hn2
          go_wp2_with fail
          refine (Take_none _ _ _ _ HV.out.2.2.2.2.1).mono ?_
          rintro e w2 ⟨rfl, b2, q2⟩
          have HB2 := Lib.hid b2
          clear b2
          unfold sigV
          go_wp2_with fail
          go_quiet (fail)
          go_wp2_with fail
          refine (Len_at _ _ _ _ _ (q2.below (below_drewN' ((Below.refl _ _).alloc (Nat.le_refl _) _) nq))).mono ?_
          rintro e w4 ⟨rfl, rfl⟩
          go_wp2_with fail
          go_roundw
          case rel => exact ⟨j + 1, [], al, 0, c, by omega, by go_num, rfl, by simp, by simp, (HV.out.below HB2.out).below (below_drewN' ((Below.refl _ _).alloc (Nat.le_refl _) _) nq)⟩
          case measure => simp [intOf]; omega
        · obtain ⟨m, rfl⟩ : ∃ m, n = m + 1 := ⟨n - 1, by simp at hn1 hn2; omega⟩
          have hm1 : m ≤ l.length := by simp at hn1; omega
          have hm2 : l.length ≤ m := by simp at hn2; omega
          clear hn1 hn2
          obtain rfl : m = l.length := by omega
          clear hm1 hm2
          go_wp2_with fail
          refine (Take_some _ _ _ _ _ y HV.out.2.2.2.2.1).mono ?_
          rintro e w2 ⟨rfl, g2, q2⟩
          obtain ⟨hS, hO, hB, hZ⟩ := HV.out.taken g2 q2
          obtain ⟨b', off', c', e1, hnc, hblt, hcs⟩ := hS.cells (by simp [sc])
          cases e1
          have k0 := (hcs 0 _ (by simp [sc]; rfl)).1
          have k1 := (hcs 1 _ (by simp [sc]; rfl)).1
          rw [Nat.add_zero] at k0
          obtain ⟨a', hS', hO', hrun0⟩ := hS.drop 1 (by simp)
          have hrun : ∀ w1, (Instr.slice 27 (.slice (some ⟨b', off', none⟩) (l.length + 1) c) (some (.int .i64 1)) none none).run Try.prog w1 = .ok (.slice a' l.length (c - 1)) w1 := hrun0 Try.prog 27 i0 Try.underlying27 HI.out HI1.out
          change SlAt w2 29 2 (.slice a' l.length (c - 1)) l.length (sc l) at hS'
          change (Value.slice a' l.length (c - 1)).ownBlock = some b' at hO'
          have HSL := Lib.hid hS'
          have HO2 := Lib.hid hO'
          have HO1 := Lib.hid hO
          have HB2 := Lib.hid hB
          have HZ2 := Lib.hid hZ
          have HL2 : l.length + 1 ≤ c := by simpa using hnc
          have HG2 := Lib.hid g2
          clear hS hS' hO' hO hB hZ hcs hrun0 g2 hnc
          unfold sigV
          go_wp2_with fail
          have hpos : (0 : Int) < (l.length : Int) + 1 := by omega
          go_quiet (fail)
          go_wp2_with fail
          refine (Len_at _ _ _ _ _ (q2.below (below_drewN' ((Below.refl _ _).alloc (Nat.le_refl _) _) nq))).mono ?_
          rintro e w4 ⟨rfl, rfl⟩
          go_wp2_with fail
          have hb3 := below_drewN' ((Below.refl w2.heap.size w2).alloc (Nat.le_refl _) (.cells #[.int .i64 y.1, .int .i64 y.2] 29)) nq
          go_roundw
          case rel =>
            refine ⟨j + 1, l, a', l.length, c - 1, by omega, by go_num, rfl, by omega, by omega, HSL.out.below hb3, ?_, ?_, HB2.out.trans (hb3.mono HB2.out.size), q2.below hb3, Nat.le_trans HZ2.out hb3.size⟩
            · intro b2 hb2; rw [HO2.out] at hb2; exact HO1.out b2 hb2
            · have := HV.out.2.2.1; simp at this; omega
          case measure => simp [intOf]; omega
      · obtain rfl : n = l.length := by omega
        clear hn1 hn2
        have hneg' : 0 ≤ x := by omega
        clear hneg
        have hl16 : l.length ≤ 16 := by have := HV.out.2.2.1; omega
        by_cases hr : l.length < cap
        · go_wp2_with fail
          have HV2 := Lib.hid (HV.out.below ((Below.refl _ _).alloc (Nat.le_refl _) (.cells #[.int .i64 j, .int .i64 x] 29)))
          refine (Put_room _ _ _ _ l ((j : Int), x) HV2.out.2.2.2.2.1 hr).mono ?_
          rintro e w2 ⟨rfl, g2, q2⟩
          have hne : wr.heap.size ≠ w.heap.size := by have := HV.out.2.2.2.2.2; omega
          have k0 : w2.cell? ⟨wr.heap.size, 0, none⟩ = some (.int .i64 j) := (World.cell?_of_block (w := wr.alloc (.cells #[.int .i64 j, .int .i64 x] 29)) (g2.block wr.heap.size (by simp) (by simp; exact hne))).trans (by go_simp)
          have k1 : w2.cell? ⟨wr.heap.size, 1, none⟩ = some (.int .i64 x) := (World.cell?_of_block (w := wr.alloc (.cells #[.int .i64 j, .int .i64 x] 29)) (g2.block wr.heap.size (by simp) (by simp; exact hne))).trans (by go_simp)
          have hS : SlAt w2 29 2 (.slice al l.length c) l.length (sc l) := HV2.out.1.grown g2 (by
            cases e : (Value.slice al l.length c).ownBlock with
            | none => exact .inl rfl
            | some b2 => have := HV2.out.2.1 b2 e; exact .inr (by simp; omega))
          have hB : Below w.heap.size w w2 := HV2.out.2.2.2.1.grown g2 HV2.out.2.2.2.1.size (fun k hk => by cases hk; exact Nat.le_refl _)
          have hZ : w.heap.size + 2 ≤ w2.heap.size := Nat.le_trans HV2.out.2.2.2.2.2 g2.size
          have HSL := Lib.hid hS
          have HB2 := Lib.hid hB
          have HZ2 := Lib.hid hZ
          have HG2 := Lib.hid g2
          clear hS hB hZ g2
          go_wp2_with (at_builtin; refine wpList_append_sl _ rfl _ _ 27 rfl 29 i0 _ 2 16 Try.underlying27 HI.out HI0.out HI1.out HI2.out rfl _ _ _ rfl (HSL.out.below ((Below.refl _ _).alloc (Nat.le_refl _) _)) ⟨w2.heap.size, 0, none⟩ 1 1 [.int .i64 j, .int .i64 x] rfl rfl ?c1 ?c2 ?c3 ?c4 ?c5)
          case c1 => exact cells_new w2 _ [.int .i64 j, .int .i64 x]
          case c2 => intro u hu; simp at hu; rcases hu with rfl | rfl <;> rfl
          case c3 => unfold maxLen; omega
          case c4 => omega
          case c5 =>
            intro v3 w3 hS3 hg3 hown3
            have hb2 : Below w2.heap.size w2 (w2.alloc (.cells #[.int .i64 j, .int .i64 x] 29)) := (Below.refl _ _).alloc (Nat.le_refl _) _
            have hrow : ∀ b, (Value.slice al l.length c).ownBlock = some b → w.heap.size + 2 ≤ b := HV.out.2.1
            have hS3' : SlAt w3 29 2 v3 (l ++ [((j : Int), x)]).length (sc (l ++ [((j : Int), x)])) := by
              rw [sc_snoc, List.length_append]; exact hS3
            have hO3 : ∀ b, v3.ownBlock = some b → w.heap.size + 2 ≤ b := fun b2 hb => by
              rcases hown3 with e | e
              · rw [e] at hb; exact hrow b2 hb
              · rw [e] at hb; cases hb; have := HZ2.out; simp; omega
            have hB3 : Below w.heap.size w w3 := (HB2.out.trans (hb2.mono HB2.out.size)).grown hg3 (by have := HB2.out.size; simp; omega) (fun k hk => by have := hrow k hk; omega)
            have q3 : QAt w3 (w.heap.size + 1) w.heap.size cap (l ++ [((j : Int), x)]) := (q2.below hb2).keep fun k hk => hg3.block k (by have := q2.lt; simp; omega) (fun e => by have := hrow k e.symm; omega)
            have hZ3 : w.heap.size + 2 ≤ w3.heap.size := Nat.le_trans HZ2.out (Nat.le_trans hb2.size hg3.size)
            obtain ⟨a3, c3, rfl, _, _⟩ := hS3'.form
            have HS3 := Lib.hid hS3'
            have HO3 := Lib.hid hO3
            have HB3 := Lib.hid hB3
            have HZ3 := Lib.hid hZ3
            clear hS3 hS3' hg3 hown3 hb2 hrow hO3 hB3 hZ3
            go_wp2_with fail
            refine (Len_at _ _ _ _ _ q3).mono ?_
            rintro e w4 ⟨rfl, rfl⟩
            go_wp2_with fail
            go_roundw
            case rel => exact ⟨j + 1, l ++ [((j : Int), x)], a3, l.length + 1, c3, by omega, by go_num, rfl, by simp, by simp, by simpa using HS3.out, by simpa using HO3.out, by simp; omega, HB3.out, q3, HZ3.out⟩
            case measure => simp [intOf]; omega
        · go_wp2_with fail
          have HV2 := Lib.hid (HV.out.below ((Below.refl _ _).alloc (Nat.le_refl _) (.cells #[.int .i64 j, .int .i64 x] 29)))
          refine (Put_full _ _ _ _ l ((j : Int), x) HV2.out.2.2.2.2.1 (by omega)).mono ?_
          rintro e w2 ⟨rfl, b2, q2⟩
          have HV3 := Lib.hid (HV2.out.below b2)
          clear b2
          go_wp2_with fail
          refine (Len_at _ _ _ _ _ q2).mono ?_
          rintro e w4 ⟨rfl, rfl⟩
          go_wp2_with fail
          go_roundw
          case rel => exact ⟨j + 1, l, al, l.length, c, by omega, by go_num, rfl, by omega, by omega, HV3.out⟩
          case measure => simp [intOf]; omega
    · go_wp2_with fail
      refine (sigAnswers _).mono ?_
      rintro e w2 ⟨rfl, b2⟩
      have hB := HV.out.2.2.2.1
      have HB2 := Lib.hid (hB.trans (b2.mono hB.size))
      clear b2 hB
      go_wp2_with fail
      go_ret
      exact ⟨rfl, HB2.out⟩
theorem plays_row (most : Int) (a : Option Addr) (len cap0 : Nat) (z : List Int) (w : World) (_ : (Lit.int .i64 most).wf = true) (hz : Open.RowsAt w encI 1 a len cap0 z) (hzw : ∀ x ∈ z, wfI x) :
    Calls Try.prog 3 #[.int .i64 most, .slice a len cap0] w fun e w' => e = .returned (.bool true) ∧ Below w.heap.size w w' := plays_walk most a len cap0 z w hz hzw
end Go.Proofs.Ytfjknnejafdfpaa
