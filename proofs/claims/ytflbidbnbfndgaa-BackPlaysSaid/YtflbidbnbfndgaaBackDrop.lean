/- Back's Drop. -/
import Derived.Test.YtflbidbnbfndgaaBackOf
import Derived.Test.YtflbidbnbfndgaaPlaceOrd
namespace Go.Proofs.Ytflbidbnbfndgaa
open Go Go.RowKit

variable {K : Int → Prop}

theorem Touch.next {S S' : List Nat} {a b c : World} (h : Touch S a b) (k : Touch S' b c) (hs : ∀ i ∈ S', i ∈ S ∨ a.heap.size ≤ i) : Touch S a c :=
  ⟨k.os.trans h.os, k.tape.trans h.tape, k.output.trans h.output, Nat.le_trans h.size k.size, fun i hi hn => (k.block i (Nat.lt_of_lt_of_le hi h.size) (fun e => (hs i e).elim hn (by omega))).trans (h.block i hi hn)⟩
theorem updF_twice (L : Int → List (Int × Int)) (f : Int) (l l' : List (Int × Int)) : updF (updF L f l) f l' = updF L f l' := by
  funext g
  unfold updF
  split <;> rfl

set_option maxHeartbeats 1000000 in
set_option maxRecDepth 100000 in
theorem BDrop_walk (w : World) (p m : Nat) (S : List Nat) (V : List (Int × Value)) (L : Int → List (Int × Int)) (h : BackAt K w p m S V L) (f : Int) (x : Int × Int) (hlen : (L f).length ≤ 100000) (hK : K f) :
    Calls Try.prog 43 #[.pointer (some ⟨p, 0, none⟩), .int .i64 f, .agg #[.int .i64 x.1, .int .i64 x.2]] w fun e w' => e = .returned (.bool (decide (x ∈ L f))) ∧ ∃ S' V', BackAt K w' p m S' V' (updF L f ((L f).erase x)) ∧ Touch S w w' ∧ ∀ b ∈ S', b ∈ S ∨ w.heap.size ≤ b := by
  obtain ⟨hp, hm, hpm⟩ := h.ps
  have hc := h.c0
  obtain ⟨v, hv⟩ : ∃ v, v = slotB V f := ⟨_, rfl⟩
  obtain ⟨l, hl⟩ : ∃ l, l = L f := ⟨_, rfl⟩
  have hlook : ∀ W, Below w.heap.size w W → (Instr.lookup 87 (.map (some m)) (.int .i64 f) false).run Try.prog W = .ok v W := fun W hW => by rw [hv]; exact (h.below hW).look f
  have hpl : PlAt w v l := by rw [hv, hl]; exact h.at_ f
  rw [← hl] at hlen ⊢
  have H := Lib.hid h
  have HPL := Lib.hid hpl
  have HV := Lib.hid hv
  have HL := Lib.hid hlook
  have HLL := Lib.hid hl
  clear h hpl hv hlook hl
  go_enter Try.func43, Try.ntmps43
  go_wp2_with fail
  obtain ⟨W, hW⟩ : ∃ W, W = (w.alloc (.cells #[.int .i64 x.1, .int .i64 x.2] 40)).drew := ⟨_, rfl⟩
  have q0 : W.cell? ⟨p, 0, none⟩ = some (.map (some m)) := by rw [hW]; go_simp
  have q1 : W.cell? ⟨w.heap.size, 0, none⟩ = some (.int .i64 x.1) := by rw [hW]; go_simp
  have q2 : W.cell? ⟨w.heap.size, 1, none⟩ = some (.int .i64 x.2) := by rw [hW]; go_simp
  have hBW : Hid (Below w.heap.size w W ∧ W.heap.size = w.heap.size + 1) := by
    rw [hW]
    exact ⟨((Below.refl _ _).alloc (Nat.le_refl _) _).drew, by show (w.alloc _).heap.size = _; simp⟩
  have hd : (w.alloc (.cells #[.int .i64 x.1, .int .i64 x.2] 40)).drew = W := hW.symm
  have hlk := HL.out W hBW.out.1
  clear hW hc
  have cC : Hid (∀ W', Below w.heap.size w W' → Calls Try.prog 52 #[v, .agg #[.int .i64 x.1, .int .i64 x.2]] W' fun e w' => e = .returned (.int .i64 (posP l x)) ∧ Below W'.heap.size W' w') := fun W' hb => Index_walk W' v l (HPL.out.below hb) x
  by_cases hx : x ∈ l
  · have hpos : posP l x = (l.idxOf x : Int) := by unfold posP; rw [if_pos hx]
    rw [hpos] at cC
    have hi := List.idxOf_lt_length_of_mem hx
    obtain ⟨i, hie⟩ : ∃ i, i = l.idxOf x := ⟨_, rfl⟩
    rw [← hie] at cC hi
    have HI := Lib.hid hie
    clear hie
    go_region_held (fun W' => W'.cell? ⟨p, 0, none⟩ = some (.map (some m)) ∧ W'.cell? ⟨w.heap.size, 0, none⟩ = some (.int .i64 x.1) ∧ W'.cell? ⟨w.heap.size, 1, none⟩ = some (.int .i64 x.2)) (go_keep)
      ((go_at_call 52; refine (cC.out _ hBW.out.1).mono ?_; rintro e w2 ⟨rfl, hb2⟩; have hb3 := Lib.hid hb2; have q0' := (hb2.cell (World.block_lt_of_cell? _ _ q0)).trans q0; have q1' := (hb2.cell (World.block_lt_of_cell? _ _ q1)).trans q1; have q2' := (hb2.cell (World.block_lt_of_cell? _ _ q2)).trans q2; clear hb2))
    have hB2 := Lib.hid (hBW.out.1.trans (hb3.out.mono (by rw [hBW.out.2]; omega)))
    clear q0 q1 q2 cC hlk
    have hi0 : (0 : Int) ≤ i := by omega
    go_wp2_with fail
    obtain ⟨b, off, c, rfl, hbw⟩ : ∃ b off c, v = .slice (some ⟨b, off, none⟩) l.length c ∧ b < w.heap.size := by
      rcases HPL.out.form with ⟨_, e⟩ | ⟨b, off, c, e, _, _, hb⟩
      · rw [e] at hx; simp at hx
      · exact ⟨b, off, c, e, hb⟩
    obtain ⟨W2, hW2⟩ : ∃ W2, W2 = w2.drew := ⟨_, rfl⟩
    have hB3 : Hid (Below w.heap.size w W2) := by rw [hW2]; exact hB2.out.drew
    have r0 : W2.cell? ⟨p, 0, none⟩ = some (.map (some m)) := by rw [hW2]; go_simp
    have hd2 : w2.drew = W2 := hW2.symm
    have hlk2 := HL.out W2 hB3.out
    clear hW2 q0' q1' q2'
    have hown := H.out.own f b (by rw [← HV.out]; rfl)
    obtain ⟨n', hn'⟩ : ∃ n', n' = (l.erase x).length := ⟨_, rfl⟩
    have HN := Lib.hid hn'
    have hdel : Hid (Calls Try.prog 53 #[.slice (some ⟨b, off, none⟩) l.length c, .int .i64 i, .int .i64 (i + 1)] W2 fun e w3 => ∃ a c' w4, e = .returned (.slice a n' c') ∧ w3.cell? ⟨p, 0, none⟩ = some (.map (some m)) ∧
        (Instr.mapUpdate 87 (.map (some m)) (.int .i64 f) (.slice a n' c')).run Try.prog w3 = .ok () w4 ∧ w4.cell? ⟨p, 0, none⟩ = some (.map (some m)) ∧
        ∃ S' V', slotB V' f = .slice a n' c' ∧ BackAt K w4 p m S' V' (updF L f (l.erase x)) ∧ Touch S w w4 ∧ ∀ b ∈ S', b ∈ S ∨ w.heap.size ≤ b) := by
      have hb2 := H.out.below hB3.out
      have hpw2 := hb2.ps
      refine (Delete_walk W2 b off c i l (HPL.out.below hB3.out) hi).mono ?_
      rintro e w3 ⟨v', rfl, hp3, t3, ho3⟩
      rw [HI.out, erase_at] at hp3
      obtain ⟨a', c', ev, _, _⟩ := SlAt.form hp3
      rw [← hn'] at ev
      have hm3 : MapAt w3 m encInt idV V := hb2.map.keep (t3.block m hpw2.2.1 (by simp; exact fun e => hown.2.2 e.symm))
      obtain ⟨w4, hr4, M4, g4, z4⟩ := update_run (T := 87) lawOf Try.underlying87 hm3 f v'
      rw [show idV v' = v' from rfl, ev] at hr4
      have ho' : v'.ownBlock = some b := ho3
      have hlt3 : b < w3.heap.size := Nat.lt_of_lt_of_le (Nat.lt_of_lt_of_le hbw hB3.out.size) t3.size
      obtain ⟨S', h1, h2, h3⟩ := H.out.set (f := f) (v' := v') (l' := l.erase x) (slotB_upd V f v') (keys_updL V f v' H.out.nd).1 (keys_upd H.out.keys H.out.nd f v' hK) M4
        (hp3.keep fun b' hb' => by
          rw [ho'] at hb'
          cases hb'
          exact g4.block b hlt3 (by simp; exact hown.2.2))
        (fun b' hb' => .inl (by rw [ho'] at hb'; rw [← HV.out]; exact hb'))
        (fun j hj hjm hjv => by
          rw [g4.block j (Nat.lt_of_lt_of_le (Nat.lt_of_lt_of_le hj hB3.out.size) t3.size) (by simp; exact hjm), t3.block j (Nat.lt_of_lt_of_le hj hB3.out.size) (by
            simp only [List.mem_singleton]
            exact fun e => hjv (by rw [← HV.out, e]; rfl)), hB3.out.block j hj])
        (g4.os.trans (t3.os.trans hB3.out.os)) (g4.tape.trans (t3.tape.trans hB3.out.tape)) (g4.output.trans (t3.output.trans hB3.out.output))
        (by have := g4.size; have := t3.size; have := hB3.out.size; omega)
      exact ⟨a', c', w4, by rw [ev], t3.cell r0 (by simp; exact fun e => hown.2.1 e.symm), hr4, h1.c0, S', _, by rw [slotB_upd, if_pos rfl, ev], h1, h2, h3⟩
    clear hn'
    have hw : IntKind.i64.wrap ((i : Int) + 1) = i + 1 := by simp [IntKind.wrap, IntKind.bits, IntKind.signed]; omega
    go_region_held (fun W' => W'.cell? ⟨p, 0, none⟩ = some (.map (some m))) (go_keep)
      ((go_at_call 53; refine hdel.out.mono ?_; rintro e w3 ⟨a', c', w4, rfl, r3, hr4, r4, HX⟩; have hX := Lib.hid HX; clear HX))
    clear hr4 r3 r0 hlk2 hd2 hd
    obtain ⟨S', V', hs', hB', hT', hN'⟩ := hX.out
    have HB' := Lib.hid hB'
    have HT' := Lib.hid hT'
    have HN' := Lib.hid hN'
    clear hX hdel
    have hlk4 : (Instr.lookup 87 (.map (some m)) (.int .i64 f) false).run Try.prog w4 = .ok (.slice a' n' c') w4 := by rw [← hs']; exact hB'.look f
    clear hs' hB' hT' hN'
    by_cases hz : n' = 0
    · have hz' : (n' : Int) = 0 := by omega
      have he : Hid (l.erase x = []) := List.eq_nil_of_length_eq_zero (by rw [← HN.out]; exact hz)
      obtain ⟨w5, hr5, M5, g5, z5⟩ := delete_run (T := 87) lawOf Try.underlying87 HB'.out.map f 0 3
      rw [show encInt f = .int .i64 f from rfl] at hr5
      have fin : Hid (∃ S'', BackAt K w5 p m S'' (delL V' f) (updF L f (l.erase x)) ∧ Touch S w w5 ∧ ∀ b ∈ S'', b ∈ S ∨ w.heap.size ≤ b) := by
        obtain ⟨S'', h1, h2, h3⟩ := HB'.out.set (f := f) (v' := .slice none 0 0) (l' := []) (slotB_del HB'.out.nd f) (nd_del HB'.out.nd f) (keys_del HB'.out.keys f) M5 (PlAt.nil _) (fun b hb => by simp [Value.ownBlock] at hb)
          (fun j hj hjm _ => g5.block j hj (by simp; exact hjm)) g5.os g5.tape g5.output (by omega)
        rw [updF_twice, ← he.out] at h1
        refine ⟨S'', h1, HT'.out.next h2 HN'.out, fun b hb => ?_⟩
        rcases h3 b hb with e | e
        · exact HN'.out b e
        · have := HT'.out.size; omega
      clear M5 g5 z5
      go_wp2_with fail
      go_ret
      obtain ⟨S'', h1, h2, h3⟩ := fin.out
      exact ⟨by simp [hx], S'', _, h1, h2, h3⟩
    · have hz' : ¬ (n' : Int) = 0 := by omega
      go_wp2_with fail
      go_ret
      exact ⟨by simp [hx], S', V', HB'.out, HT'.out, HN'.out⟩
  · have hpos : posP l x = -1 := by unfold posP; rw [if_neg hx]
    rw [hpos] at cC
    go_region_held (fun W' => W'.cell? ⟨p, 0, none⟩ = some (.map (some m)) ∧ W'.cell? ⟨w.heap.size, 0, none⟩ = some (.int .i64 x.1) ∧ W'.cell? ⟨w.heap.size, 1, none⟩ = some (.int .i64 x.2)) (go_keep)
      ((go_at_call 52; refine (cC.out _ hBW.out.1).mono ?_; rintro e w2 ⟨rfl, hb2⟩; have hb3 := Lib.hid hb2; have q0' := (hb2.cell (World.block_lt_of_cell? _ _ q0)).trans q0; have q1' := (hb2.cell (World.block_lt_of_cell? _ _ q1)).trans q1; have q2' := (hb2.cell (World.block_lt_of_cell? _ _ q2)).trans q2; clear hb2))
    have hB2 := Lib.hid (hBW.out.1.trans (hb3.out.mono (by rw [hBW.out.2]; omega)))
    go_wp2_with fail
    go_ret
    have e : updF L f (l.erase x) = L := by
      rw [List.erase_of_not_mem hx]
      funext g
      unfold updF
      split
      · rename_i e; rw [e]; exact HLL.out
      · rfl
    rw [e]
    exact ⟨by simp [hx], S, V, H.out.below hB2.out, Touch.of_below hB2.out, fun b hb => .inl hb⟩
end Go.Proofs.Ytflbidbnbfndgaa
