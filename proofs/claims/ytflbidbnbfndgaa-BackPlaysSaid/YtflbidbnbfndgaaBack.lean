/- Back's Add. -/
import Derived.Test.YtflbidbnbfndgaaBackDrop
import Derived.Test.YtflbidbnbfndgaaSwap
namespace Go.Proofs.Ytflbidbnbfndgaa
open Go Go.RowKit

variable {K : Int → Prop}

theorem updF_same (L : Int → List (Int × Int)) (f : Int) {l : List (Int × Int)} (h : l = L f) : updF L f l = L := by
  funext g
  unfold updF
  split
  · rename_i e; rw [e]; exact h
  · rfl

set_option maxRecDepth 100000 in
set_option maxHeartbeats 1000000 in
theorem BAdd_walk (w : World) (p m : Nat) (S : List Nat) (V : List (Int × Value)) (L : Int → List (Int × Int)) (h : BackAt K w p m S V L) (f : Int) (x : Int × Int) (hs : SortedP (L f)) (hlen : (L f).length ≤ 100000) (hK : K f) :
    Calls Try.prog 26 #[.pointer (some ⟨p, 0, none⟩), .int .i64 f, .agg #[.int .i64 x.1, .int .i64 x.2]] w fun e w' => e = .returned (.tuple #[]) ∧ ∃ S' V', BackAt K w' p m S' V' (updF L f (putP (L f) x)) ∧ Touch S w w' ∧ ∀ b ∈ S', b ∈ S ∨ w.heap.size ≤ b := by
  obtain ⟨hp, hm, hpm⟩ := h.ps
  have hc := h.c0
  obtain ⟨v, hv⟩ : ∃ v, v = slotB V f := ⟨_, rfl⟩
  obtain ⟨l, hl⟩ : ∃ l, l = L f := ⟨_, rfl⟩
  have hlook : ∀ W, Below w.heap.size w W → (Instr.lookup 87 (.map (some m)) (.int .i64 f) false).run Try.prog W = .ok v W := fun W hW => by rw [hv]; exact (h.below hW).look f
  have hpl : PlAt w v l := by rw [hv, hl]; exact h.at_ f
  rw [← hl] at hlen hs ⊢
  have H := Lib.hid h
  have HPL := Lib.hid hpl
  have HV := Lib.hid hv
  have HL := Lib.hid hlook
  have HLL := Lib.hid hl
  clear h hpl hv hlook hl
  go_enter Try.func26, Try.ntmps26
  go_wp2_with fail
  obtain ⟨W, hW⟩ : ∃ W, W = (w.alloc (.cells #[.int .i64 x.1, .int .i64 x.2] 40)).drew := ⟨_, rfl⟩
  have q0 : W.cell? ⟨p, 0, none⟩ = some (.map (some m)) := by rw [hW]; go_simp
  have q1 : W.cell? ⟨w.heap.size, 0, none⟩ = some (.int .i64 x.1) := by rw [hW]; go_simp
  have q2 : W.cell? ⟨w.heap.size, 1, none⟩ = some (.int .i64 x.2) := by rw [hW]; go_simp
  have hBW : Hid (Below w.heap.size w W ∧ W.heap.size = w.heap.size + 1) := by
    rw [hW]
    exact ⟨((Below.refl _ _).alloc (Nat.le_refl _) _).drew, by show (w.alloc _).heap.size = _; simp⟩
  have hd : (w.alloc (.cells #[.int .i64 x.1, .int .i64 x.2] 40)).drew = W := hW.symm
  have hlk := HL.out W hBW.out.1
  clear hW hc
  have cC : Hid (∀ W', Below w.heap.size w W' → Calls Try.prog 46 #[v, .agg #[.int .i64 x.1, .int .i64 x.2]] W' fun e w' => e = .returned (.bool (decide (x ∈ l))) ∧ Below W'.heap.size W' w') := fun W' hb => Contains_walk W' v l (HPL.out.below hb) x
  by_cases hx : x ∈ l
  · rw [decide_eq_true hx] at cC
    have hput : putP l x = l := by unfold putP; rw [if_pos hx]
    go_region_held (fun W' => W'.cell? ⟨p, 0, none⟩ = some (.map (some m)) ∧ W'.cell? ⟨w.heap.size, 0, none⟩ = some (.int .i64 x.1) ∧ W'.cell? ⟨w.heap.size, 1, none⟩ = some (.int .i64 x.2)) (go_keep)
      ((go_at_call 46; refine (cC.out _ hBW.out.1).mono ?_; rintro e w2 ⟨rfl, hb2⟩; have hb3 := Lib.hid hb2; have q0' := (hb2.cell (World.block_lt_of_cell? _ _ q0)).trans q0; have q1' := (hb2.cell (World.block_lt_of_cell? _ _ q1)).trans q1; have q2' := (hb2.cell (World.block_lt_of_cell? _ _ q2)).trans q2; clear hb2))
    have hB2 := Lib.hid (hBW.out.1.trans (hb3.out.mono (by rw [hBW.out.2]; omega)))
    go_wp2_with fail
    refine bodyPost_ret (v := .tuple #[]) (by simp [results, Try.results26, go_sem]) rfl ⟨rfl, ?_⟩
    rw [hput, updF_same L f HLL.out]
    exact ⟨S, V, H.out.below hB2.out, Touch.of_below hB2.out, fun b hb => .inl hb⟩
  · rw [decide_eq_false hx] at cC
    go_region_held (fun W' => W'.cell? ⟨p, 0, none⟩ = some (.map (some m)) ∧ W'.cell? ⟨w.heap.size, 0, none⟩ = some (.int .i64 x.1) ∧ W'.cell? ⟨w.heap.size, 1, none⟩ = some (.int .i64 x.2)) (go_keep)
      ((go_at_call 46; refine (cC.out _ hBW.out.1).mono ?_; rintro e w2 ⟨rfl, hb2⟩; have hb3 := Lib.hid hb2; have q0' := (hb2.cell (World.block_lt_of_cell? _ _ q0)).trans q0; have q1' := (hb2.cell (World.block_lt_of_cell? _ _ q1)).trans q1; have q2' := (hb2.cell (World.block_lt_of_cell? _ _ q2)).trans q2; clear hb2))
    have hB2 := Lib.hid (hBW.out.1.trans (hb3.out.mono (by rw [hBW.out.2]; omega)))
    clear q0 q1 q2 cC hlk
    go_wp2_with fail
    obtain ⟨W2, hW2⟩ : ∃ W2, W2 = w2.drew := ⟨_, rfl⟩
    have hB3 : Hid (Below w.heap.size w W2) := by rw [hW2]; exact hB2.out.drew
    have r0 : W2.cell? ⟨p, 0, none⟩ = some (.map (some m)) := by rw [hW2]; go_simp
    have r1 : W2.cell? ⟨w.heap.size, 0, none⟩ = some (.int .i64 x.1) := by rw [hW2]; go_simp
    have r2 : W2.cell? ⟨w.heap.size, 1, none⟩ = some (.int .i64 x.2) := by rw [hW2]; go_simp
    have hd2 : w2.drew = W2 := hW2.symm
    have hlk2 := HL.out W2 hB3.out
    clear hW2 q0' q1' q2'
    obtain ⟨W3, hW3⟩ : ∃ W3, W3 = W2.alloc (.cells #[.int .i64 x.1, .int .i64 x.2] 40) := ⟨_, rfl⟩
    have hb3' : Hid (Below W2.heap.size W2 W3) := by rw [hW3]; exact (Below.refl _ _).alloc (Nat.le_refl _) _
    have hlk3 := HL.out W3 (hB3.out.trans (hb3'.out.mono hB3.out.size))
    have r30 := (hb3'.out.cell (World.block_lt_of_cell? _ _ r0)).trans r0
    have r31 := (hb3'.out.cell (World.block_lt_of_cell? _ _ r1)).trans r1
    have r32 := (hb3'.out.cell (World.block_lt_of_cell? _ _ r2)).trans r2
    have hd3 : W2.alloc (.cells #[.int .i64 x.1, .int .i64 x.2] 40) = W3 := hW3.symm
    obtain ⟨i0, hi0, hz0, hs0, hby0⟩ := infoPlace
    have hB4 := Lib.hid (hB3.out.trans (hb3'.out.mono hB3.out.size))
    obtain ⟨v', w3, hr, hsl, hgr, hown⟩ := run_append_sl (P := Try.prog) W3 35 35 40 i0 _ 2 16 Try.underlying35 hi0 hz0 hs0 hby0 rfl v l.length (pl l) (HPL.out.below hB4.out) ⟨W2.heap.size, 0, none⟩ 1 1 (pl [x]) rfl (by
        rw [hW3]
        intro j u hu
        exact cells_new W2 40 (pl [x]) j u hu) (pl_one [x]) (by simp only [maxLen]; omega) (by omega)
    have hp3 : PlAt w3 v' (l ++ [x]) := by
      show SlAt _ _ _ _ _ _
      rw [pl_append, List.length_append]
      exact hsl
    have hownv : ∀ b, v.ownBlock = some b → b ∈ S ∧ b ≠ p ∧ b ≠ m := fun b hb => H.out.own f b (by rw [← HV.out]; exact hb)
    have hps3 := (H.out.below hB4.out).ps
    have hm3 : MapAt w3 m encInt idV V := (H.out.below hB4.out).map.keep (hgr.block m hps3.2.1 (fun e => (hownv m e.symm).2.2 rfl))
    have r40 : w3.cell? ⟨p, 0, none⟩ = some (.map (some m)) := (World.cell?_of_block (w := W3) (hgr.block p hps3.1 (fun e => (hownv p e.symm).2.1 rfl))).trans r30
    have hW3lt : w.heap.size < W3.heap.size := World.block_lt_of_cell? _ _ r31
    have r41 : w3.cell? ⟨w.heap.size, 0, none⟩ = some (.int .i64 x.1) := (World.cell?_of_block (w := W3) (hgr.block w.heap.size hW3lt (fun e => by have := SlAt.lt HPL.out w.heap.size e.symm; omega))).trans r31
    have r42 : w3.cell? ⟨w.heap.size, 1, none⟩ = some (.int .i64 x.2) := (World.cell?_of_block (w := W3) (hgr.block w.heap.size hW3lt (fun e => by have := SlAt.lt HPL.out w.heap.size e.symm; omega))).trans r32
    obtain ⟨w4, hr4, M4, g4, z4⟩ := update_run (T := 87) lawOf Try.underlying87 hm3 f v'
    obtain ⟨b, off, c, rfl, hbw⟩ : ∃ b off c, v' = .slice (some ⟨b, off, none⟩) (l.length + 1) c ∧ b < w3.heap.size := by
      rcases hp3.form with ⟨_, e⟩ | ⟨b, off, c, e, _, _, hb⟩
      · simp at e
      · exact ⟨b, off, c, by simpa using e, hb⟩
    have hbnew : v.ownBlock = some b ∨ w.heap.size ≤ b := by
      rcases hown with e | e
      · left; rw [← e]; rfl
      · right
        have : b = W3.heap.size := by simpa [Value.ownBlock] using e
        have := hB4.out.size
        omega
    have hbm : b ≠ m := by
      rcases hbnew with e | e
      · exact (hownv b e).2.2
      · omega
    have hg4p : ∀ j, j < w3.heap.size → j ≠ m → w4.heap[j]? = w3.heap[j]? := fun j hj hjm => g4.block j hj (by simp; exact hjm)
    obtain ⟨S1, hA1, hT1, hN1⟩ := H.out.set (f := f) (v' := .slice (some ⟨b, off, none⟩) (l.length + 1) c) (l' := l ++ [x]) (slotB_upd V f _) (keys_updL V f _ H.out.nd).1 (keys_upd H.out.keys H.out.nd f _ hK) M4
      (hp3.keep fun b' hb' => by
        have : b' = b := by simpa [Value.ownBlock] using hb'.symm
        subst this
        exact hg4p b' hbw hbm)
      (fun b' hb' => by
        have : b' = b := by simpa [Value.ownBlock] using hb'.symm
        subst this
        rw [← HV.out]; exact hbnew)
      (fun j hj hjm hjv => by
        have h1 : j < W3.heap.size := Nat.lt_of_lt_of_le hj hB4.out.size
        rw [hg4p j (Nat.lt_of_lt_of_le h1 hgr.size) hjm, hgr.block j h1 (fun e => hjv (by rw [← HV.out]; exact e.symm)), hB4.out.block j hj])
      (g4.os.trans (hgr.os.trans hB4.out.os)) (g4.tape.trans (hgr.tape.trans hB4.out.tape)) (g4.output.trans (hgr.output.trans hB4.out.output))
      (by have := g4.size; have := hgr.size; have := hB4.out.size; omega)
    have k0 := hA1.c0
    have k1 : w4.cell? ⟨w.heap.size, 0, none⟩ = some (.int .i64 x.1) := (World.cell?_of_block (w := w3) (hg4p w.heap.size (World.block_lt_of_cell? _ _ r41) (show w.heap.size ≠ m by omega))).trans r41
    have k2 : w4.cell? ⟨w.heap.size, 1, none⟩ = some (.int .i64 x.2) := (World.cell?_of_block (w := w3) (hg4p w.heap.size (World.block_lt_of_cell? _ _ r41) (show w.heap.size ≠ m by omega))).trans r42
    have HA1 := Lib.hid hA1
    have HT1 := Lib.hid hT1
    have HN1 := Lib.hid hN1
    unfold idV encInt at hr4
    rw [hW3] at hr
    have HP3 := Lib.hid hp3
    have HBM := Lib.hid hbm
    clear hA1 hT1 hN1 hp3 hsl hgr hown hownv hm3 M4 g4 z4 hg4p hps3 hbnew hW3lt hbm hbw
    rw [← hW3] at hr
    clear hW3 hp hm hpm
    have hslot : slotB (updL V f (.slice (some ⟨b, off, none⟩) (l.length + 1) c)) f = .slice (some ⟨b, off, none⟩) (l.length + 1) c := by rw [slotB_upd, if_pos rfl]
    have hlk4 : (Instr.lookup 87 (.map (some m)) (.int .i64 f) false).run Try.prog w4 = .ok (.slice (some ⟨b, off, none⟩) (l.length + 1) c) w4 := by
      have := HA1.out.look f
      rwa [hslot] at this
    have fin : Hid (Calls Try.prog 47 #[.slice (some ⟨b, off, none⟩) (l.length + 1) c, .func (.func 48) #[] #[]] w4 fun e w5 =>
        e = .returned (.tuple #[]) ∧ ∃ S' V', BackAt K w5 p m S' V' (updF L f (putP l x)) ∧ Touch S w w5 ∧ ∀ b ∈ S', b ∈ S ∨ w.heap.size ≤ b) := by
      have hp4 : PlAt w4 (.slice (some ⟨b, off, none⟩) (l ++ [x]).length c) (l ++ [x]) := by
        have h := HA1.out.at_ f
        rw [hslot] at h
        unfold updF at h
        rw [if_pos rfl] at h
        rw [List.length_append]
        exact h
      have hS := Sort_walk w4 b off c (l ++ [x]) hp4 (by simp; omega)
      rw [List.length_append] at hS
      refine hS.mono ?_
      rintro e w5 ⟨rfl, l', hperm, hsort, hp5, t5⟩
      refine ⟨rfl, ?_⟩
      rw [← sort_add hs hx hperm hsort]
      have hps := HA1.out.ps
      have hbS := HA1.out.own f b (by rw [hslot]; rfl)
      obtain ⟨S'', h1, h2, h3⟩ := HA1.out.set (f := f) (v' := .slice (some ⟨b, off, none⟩) (l.length + 1) c) (l' := l') (V' := updL V f (.slice (some ⟨b, off, none⟩) (l.length + 1) c))
        (fun g => by
          rw [slotB_upd]
          split <;> rfl) HA1.out.nd HA1.out.keys (HA1.out.map.keep (t5.block m hps.2.1 (by simp; exact fun e => hbS.2.2 e.symm))) hp5 (fun b' hb' => .inl (by rw [hslot]; exact hb'))
        (fun j hj _ hjv => t5.block j hj (by
          simp only [List.mem_singleton]
          intro e
          rw [hslot] at hjv
          exact hjv (by rw [e]; rfl))) t5.os t5.tape t5.output t5.size
      rw [updF_twice] at h1
      refine ⟨S'', _, h1, HT1.out.next h2 HN1.out, fun b hb => ?_⟩
      rcases h3 b hb with e | e
      · exact HN1.out b e
      · have := HT1.out.size; omega
    clear hslot
    have HR := Lib.hid hr
    clear hr
    go_region_law (refine step_append_run rfl (.tmp 28) (.tmp 30) 35 rfl v _ _ w3 (by simp [Act.eval]) (by simp [Act.eval]) HR.out ?_)
    all_goals (go_wp2_with fail; refine fin.out.mono ?_; rintro e w5 ⟨rfl, hx5⟩; have HX5 := Lib.hid hx5; clear hx5; go_wp2_with fail; exact bodyPost_end (v := .tuple #[]) (by simp [results, Try.results26, go_sem]) rfl ⟨rfl, HX5.out⟩)
end Go.Proofs.Ytflbidbnbfndgaa
