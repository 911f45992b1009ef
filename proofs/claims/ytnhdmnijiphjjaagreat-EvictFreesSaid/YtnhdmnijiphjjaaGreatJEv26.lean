/- Pages that go out: Out: a page's own bytes go to a slot. -/
import Derived.Test.YtnhdmnijiphjjaaGreatJEv24
import Derived.Test.YtnhdmnijiphjjaaGreatJEv25
import Derived.Test.YtnhdmnijiphjjaaGreatJEv13
set_option linter.unusedVariables false
set_option linter.unusedSimpArgs false
/- Pages that go out: Out: a page's own bytes go to a slot. -/
namespace Go.Proofs.YtnhdmnijiphjjaaGreat
open Go Go.RowKit
section
variable {w w' : World} {tag tag' : Nat → Nat} {q : Sq} {x : za}
set_option maxRecDepth 100000 in
set_option maxHeartbeats 1000000 in
theorem zj5 (h : zg w tag q x) (wf : WF x) (n page : Nat) (hn : n < 8) {pr : yf} (hp : x.T n = some pr) (hpg : page < 4096) (hu : (x.ent n page).kind = 1 → x.P.use (x.ent n page).n.toNat = 3) :
  Calls Tryz.prog 27 #[ptrV q.sp, .int .i64 n, .int .i64 page] w fun r w' => r = .returned (.int .i64 (x.outF n page).1) ∧ ∃ tag', zg w' tag' q (x.outF n page).2 ∧ Step CA tag w tag' w' := by
 obtain ⟨R, hR⟩ : ∃ R, R = x.outF n page := ⟨_, rfl⟩
 have TR := Lib.hid (zeq h n hn hp)
 have GE := Lib.hid (zin h wf n page hn hp hpg)
 have hok := wf.Zy n hpg
 obtain ⟨⟨ek, ef, ew⟩, he⟩ : ∃ e, e = x.ent n page := ⟨_, rfl⟩
 rw [← he] at hu hok GE
 unfold entV at GE
 dsimp only at hu GE
 have HR := Lib.hid hR
 have HX := Lib.hid (And.intro h (And.intro wf (And.intro he (And.intro hu hok))))
 rw [← hR]
 clear h wf hp hpg hn hR he hu hok
 unfold ptrV at TR GE ⊢
 go_enter Tryz.func27, Tryz.ntmps27
 go_wp2_with fail
 refine TR.out.mono ?_
 rintro r u ⟨rfl, hu⟩
 have hu := hu.symm
 subst hu
 clear TR
 go_wp2_with fail
 refine GE.out.mono ?_
 rintro r w1 ⟨rfl, hb1⟩
 have b2 : Below w.heap.size w (w1.alloc (.cells #[.int .i64 ek, .int .i64 ef, .bool ew] 70)) := hb1.trans (((Below.refl _ _).alloc (Nat.le_refl _) _).mono hb1.size)
 have nb := heap_alloc_new w1 (.cells #[.int .i64 ek, .int .i64 ef, .bool ew] 70)
 obtain ⟨L2, s2⟩ := HX.out.1.loc0.more b2 (entL w1.heap.size ⟨ek, ef, ew⟩) (fun t ht => by
  simp [entL] at ht
  rcases ht with rfl | rfl | rfl
  ·exact ⟨hb1.size, zm nb 0 rfl⟩
  ·exact ⟨hb1.size, zm nb 1 rfl⟩
  ·exact ⟨hb1.size, zm nb 2 rfl⟩)
 rw [List.append_nil] at L2
 clear hb1 GE nb b2
 go_wp2_with fail
 obtain ⟨eb, heb⟩ : ∃ eb, eb = w1.heap.size := ⟨_, rfl⟩
 obtain ⟨W2, hW2⟩ : ∃ W2, W2 = w1.alloc (.cells #[.int .i64 ek, .int .i64 ef, .bool ew] 70) := ⟨_, rfl⟩
 obtain ⟨tag2, htag⟩ : ∃ tag2, tag2 = retag tag w 0 := ⟨_, rfl⟩
 rw [← hW2, ← heb, ← htag] at L2
 rw [← hW2, ← htag] at s2
 rw [← hW2, ← heb]
 clear hW2 heb htag
 have d0 : W2.cell? ⟨eb, 0, none⟩ = some (.int .i64 ek) := L2.get 0 rfl
 have d1 : W2.cell? ⟨eb, 1, none⟩ = some (.int .i64 ef) := L2.get 1 rfl
 have d2 : W2.cell? ⟨q.sp, 2, none⟩ = some (.pointer (some ⟨q.pp, 0, none⟩)) := L2.cell (i := 2) (by omega)
 have H2 := Lib.hid (And.intro L2 s2)
 clear L2 s2
 by_cases hk : ek = 1
 ·subst hk
  have hf := (Ent.ok_n HX.out.2.2.2.2).1 rfl
  dsimp only at hf
  obtain ⟨f, rfl⟩ := Int.eq_ofNat_of_zero_le hf.1
  have hf1 : f < 1024 := by omega
  have USE : Hid (Calls Tryz.prog 38 #[.pointer (some ⟨q.pp, 0, none⟩), .int .i64 f] W2.drew fun r w' => r = .returned (.int .i64 3) ∧ w' = W2.drew) := by
   have := H2.out.1.drew.sp.useP f hf1
   rw [show x.P.use f = 3 from HX.out.2.2.2.1 rfl] at this
   exact this
  have HF := Lib.hid hf1
  have d0 : W2.cell? ⟨eb, 0, none⟩ = some (.int .i64 1) := d0
  clear hf hf1
  refine wp_region_held_drew (S := (fun X => X.cell? ⟨q.sp, 2, none⟩ = some (.pointer (some ⟨q.pp, 0, none⟩)) ∧ X.cell? ⟨eb, 0, none⟩ = some (.int .i64 1) ∧ X.cell? ⟨eb, 1, none⟩ = some (.int .i64 f))) (by kernel_rfl) ⟨d2, d0, d1⟩ (fun hHeld => ?_)
  refine zb (v := ?va0) 0 23 rfl rfl (by kernel_rfl) (by kernel_rfl) (by kernel_rfl) (fun _ _ _ h => h) (Or.inl ⟨by rfl, ?hya0⟩) hHeld ?resta0
  case hya0 => ((intro w hSw; (try dsimp only at hSw); go_simp) <;> with_reducible rfl)
  case' resta0 => (simp only [Act.put, List.setIfInBounds_toArray, List.set_cons_zero, List.set_cons_succ])
  refine zb (v := ?va1) 1 24 rfl rfl (by kernel_rfl) (by kernel_rfl) (by kernel_rfl) (fun _ _ _ h => h) (Or.inl ⟨by rfl, ?hya1⟩) hHeld ?resta1
  case hya1 => ((intro w hSw; (try dsimp only at hSw); go_simp) <;> with_reducible rfl)
  case' resta1 => (simp only [Act.put, List.setIfInBounds_toArray, List.set_cons_zero, List.set_cons_succ])
  refine zb (v := ?va2) 2 25 rfl rfl (by kernel_rfl) (by kernel_rfl) (by kernel_rfl) (fun _ _ _ h => h) (Or.inl ⟨by rfl, ?hya2⟩) hHeld ?resta2
  case hya2 => ((intro w hSw; (try dsimp only at hSw); go_simp) <;> with_reducible rfl)
  case' resta2 => (simp only [Act.put, List.setIfInBounds_toArray, List.set_cons_zero, List.set_cons_succ])
  refine zb (v := ?va3) 3 26 rfl rfl (by kernel_rfl) (by kernel_rfl) (by kernel_rfl) (fun _ _ _ h => h) (Or.inl ⟨by rfl, ?hya3⟩) hHeld ?resta3
  case hya3 => ((intro w hSw; (try dsimp only at hSw); go_simp) <;> with_reducible rfl)
  case' resta3 => (simp only [Act.put, List.setIfInBounds_toArray, List.set_cons_zero, List.set_cons_succ])
  refine zb (v := ?va4) 4 27 rfl rfl (by kernel_rfl) (by kernel_rfl) (by kernel_rfl) (fun _ _ _ h => h) (Or.inl ⟨by rfl, ?hya4⟩) hHeld ?resta4
  case hya4 => ((intro w hSw; (try dsimp only at hSw); go_simp) <;> with_reducible rfl)
  case' resta4 => (simp only [Act.put, List.setIfInBounds_toArray, List.set_cons_zero, List.set_cons_succ])
  refine zb (v := ?va5) 5 28 rfl rfl (by kernel_rfl) (by kernel_rfl) (by kernel_rfl) (fun _ _ _ h => h) (Or.inl ⟨by rfl, ?hya5⟩) hHeld ?resta5
  case hya5 => ((intro w hSw; (try dsimp only at hSw); go_simp) <;> with_reducible rfl)
  case' resta5 => (simp only [Act.put, List.setIfInBounds_toArray, List.set_cons_zero, List.set_cons_succ])
  refine zb (v := ?va6) 6 29 rfl rfl (by kernel_rfl) (by kernel_rfl) (by kernel_rfl) (fun _ _ _ h => h) (Or.inl ⟨by rfl, ?hya6⟩) hHeld ?resta6
  case hya6 => ((intro w hSw; (try dsimp only at hSw); go_simp) <;> with_reducible rfl)
  case' resta6 => (simp only [Act.put, List.setIfInBounds_toArray, List.set_cons_zero, List.set_cons_succ])
  refine zb (v := ?va7) 7 30 rfl rfl (by kernel_rfl) (by kernel_rfl) (by kernel_rfl) (fun _ _ _ h => h) (Or.inl ⟨by rfl, ?hya7⟩) hHeld ?resta7
  case hya7 => ((intro w hSw; (try dsimp only at hSw); go_simp) <;> with_reducible rfl)
  case' resta7 => (simp only [Act.put, List.setIfInBounds_toArray, List.set_cons_zero, List.set_cons_succ])
  refine zb (v := ?va8) 8 31 rfl rfl (by kernel_rfl) (by kernel_rfl) (by kernel_rfl) (fun _ _ _ h => h) (Or.inl ⟨by rfl, ?hya8⟩) hHeld ?resta8
  case hya8 => ((intro w hSw; (try dsimp only at hSw); go_simp) <;> with_reducible rfl)
  case' resta8 => (simp only [Act.put, List.setIfInBounds_toArray, List.set_cons_zero, List.set_cons_succ])
  refine zb (v := ?va9) 9 32 rfl rfl (by kernel_rfl) (by kernel_rfl) (by kernel_rfl) (fun _ _ _ h => h) (Or.inl ⟨by rfl, ?hya9⟩) hHeld ?resta9
  case hya9 => ((intro w hSw; (try dsimp only at hSw); go_simp) <;> with_reducible rfl)
  case' resta9 => (simp only [Act.put, List.setIfInBounds_toArray, List.set_cons_zero, List.set_cons_succ])
  refine zb (v := ?va10) 10 33 rfl rfl (by kernel_rfl) (by kernel_rfl) (by kernel_rfl) (fun _ _ _ h => h) (Or.inl ⟨by rfl, ?hya10⟩) hHeld ?resta10
  case hya10 => ((intro w hSw; (try dsimp only at hSw); go_simp) <;> with_reducible rfl)
  case' resta10 => (simp only [Act.put, List.setIfInBounds_toArray, List.set_cons_zero, List.set_cons_succ])
  refine zb (v := ?va11) 11 34 rfl rfl (by kernel_rfl) (by kernel_rfl) (by kernel_rfl) (fun _ _ _ h => h) (Or.inl ⟨by rfl, ?hya11⟩) hHeld ?resta11
  case hya11 => ((intro w hSw; (try dsimp only at hSw); go_simp) <;> with_reducible rfl)
  case' resta11 => (simp only [Act.put, List.setIfInBounds_toArray, List.set_cons_zero, List.set_cons_succ])
  refine zb (v := ?va12) 12 35 rfl rfl (by kernel_rfl) (by kernel_rfl) (by kernel_rfl) (fun _ _ _ h => h) (Or.inl ⟨by rfl, ?hya12⟩) hHeld ?resta12
  case hya12 => ((intro w hSw; (try dsimp only at hSw); go_simp) <;> with_reducible rfl)
  case' resta12 => (simp only [Act.put, List.setIfInBounds_toArray, List.set_cons_zero, List.set_cons_succ])
  refine zb (v := ?va13) 13 36 rfl rfl (by kernel_rfl) (by kernel_rfl) (by kernel_rfl) (fun _ _ _ h => h) (Or.inl ⟨by rfl, ?hya13⟩) hHeld ?resta13
  case hya13 => ((intro w hSw; (try dsimp only at hSw); go_simp) <;> with_reducible rfl)
  case' resta13 => (simp only [Act.put, List.setIfInBounds_toArray, List.set_cons_zero, List.set_cons_succ])
  refine wpAnyH_ready (rs := [14]) (by kernel_rfl) (by simp) ?_
  refine AllReadyH.cons rfl (fun K hK => ?_) AllReadyH.nil
  go_simp
  go_wp2_with (go_at_call 38; refine USE.out.mono ?_; rintro r w4 ⟨rfl, hw4⟩)
  have hw4 := hw4.symm
  subst hw4
  refine hK.out _ _ ⟨d2, d0, d1⟩ (fun hHeld => ?_)
  clear hK K
  refine zb (v := ?va15) 15 38 rfl rfl (by kernel_rfl) (by kernel_rfl) (by kernel_rfl) (fun _ _ _ h => h) (Or.inl ⟨by rfl, ?hya15⟩) hHeld ?resta15
  case hya15 => ((intro w hSw; (try dsimp only at hSw); go_simp) <;> with_reducible rfl)
  case' resta15 => (simp only [Act.put, List.setIfInBounds_toArray, List.set_cons_zero, List.set_cons_succ])
  refine zb (v := ?va16) 16 39 rfl rfl (by kernel_rfl) (by kernel_rfl) (by kernel_rfl) (fun _ _ _ h => h) (Or.inl ⟨by rfl, ?hya16⟩) hHeld ?resta16
  case hya16 => ((intro w hSw; (try dsimp only at hSw); go_simp) <;> with_reducible rfl)
  case' resta16 => (simp only [Act.put, List.setIfInBounds_toArray, List.set_cons_zero, List.set_cons_succ])
  refine wpAnyH_done (by kernel_rfl) ?_ _
  clear USE d0 d1 d2
  have L3 := H2.out.1.drew
  have d5 : W2.drew.cell? ⟨q.sp, 5, none⟩ = some (.pointer (some ⟨q.wp, 0, none⟩)) := L3.cell (i := 5) (by omega)
  have d3 : W2.drew.cell? ⟨q.sp, 0, none⟩ = some (.pointer (some ⟨q.rp, 0, none⟩)) := L3.cell (i := 0) (by omega)
  have d1 : W2.drew.cell? ⟨eb, 1, none⟩ = some (.int .i64 f) := L3.get 1 rfl
  have s3 : Step (fun _ => False) tag w tag2 W2.drew := H2.out.2.trans (Step.of_below (Below.refl _ _).drew)
  obtain ⟨W3, hW3⟩ : ∃ W3, W3 = W2.drew := ⟨_, rfl⟩
  rw [← hW3] at L3 d5 d3 d1 s3 ⊢
  have H3 := Lib.hid (And.intro L3 s3)
  have TK := Lib.hid L3.sp.take
  clear L3 s3 H2 hW3
  rcases Xk x.S with ⟨k, hk, hk32, _⟩ | ⟨hk, _⟩
  ·rw [hk] at TK
   have hk32 : k < 32 := by rw [HX.out.2.1.slots.1] at hk32; exact hk32
   have HK := Lib.hid (And.intro hk hk32)
   clear hk hk32
   go_wp2_with fail
   all_goals (
    refine TK.out.mono ?_
    rintro r u ⟨rfl, hu⟩
    have hu := hu.symm
    subst hu
    clear TK)
   go_wp2_with fail
   obtain ⟨l, hl⟩ : ∃ l, l = x.R.read f 0 64 := ⟨_, rfl⟩
   have hl64 : l.length = 64 := by rw [hl]; exact Y7 ..
   have RD : Hid (Calls Tryz.prog 67 #[.pointer (some ⟨q.rp, 0, none⟩), .int .i64 f, .int .i64 0, .int .i64 64] W3.drew fun r w4 => ∃ a c tag4, r = .returned (.tuple #[.slice a 64 c, .int .i64 0]) ∧ (w4.cell? ⟨q.sp, 0, none⟩ = some (.pointer (some ⟨q.rp, 0, none⟩)) ∧ w4.cell? ⟨eb, 1, none⟩ = some (.int .i64 f)) ∧
     ByAt w4 (.slice a 64 c) l ∧ Loc w4 tag4 q x (entL eb ⟨1, (f : Int), ew⟩) ∧ Step (fun _ => False) tag w tag4 w4 ∧ ∀ b, (Value.slice a 64 c).ownBlock = some b → tag4 b = 0) := by
    have hu3 : x.P.use f = 3 := HX.out.2.2.2.1 trivial
    refine (Y4 _ _ _ _ _ H3.out.1.drew.sp.ram f 0 64 f 0 64 rfl rfl rfl HF.out (by omega) (by omega) (HX.out.2.1.uu HF.out (by omega))).mono ?_
    rintro r w4 ⟨v, rfl, hv, hb, ho⟩
    rw [← hl] at hv
    obtain ⟨a, c, rfl, _, _⟩ := SlAt.form hv
    rw [hl64] at hv ho ⊢
    obtain ⟨L4, s4⟩ := H3.out.1.drew.more hb [] (fun t ht => by cases ht)
    exact ⟨a, c, _, rfl, ⟨L4.cell (i := 0) (by omega), L4.get 1 rfl⟩, hv, L4, (H3.out.2.trans (Step.of_below (Below.refl _ _).drew)).trans s4, fun b hb => zx _ _ _ _ (ho b hb)⟩
   have HL := Lib.hid (And.intro hl hl64)
   clear hl hl64 d5 H3 hw4 hu
   go_region_held (fun W' => W'.cell? ⟨q.sp, 0, none⟩ = some (.pointer (some ⟨q.rp, 0, none⟩)) ∧ W'.cell? ⟨eb, 1, none⟩ = some (.int .i64 f)) (go_keep)
    ((go_at_call 67; refine RD.out.mono ?_; rintro r w4 ⟨a, c, tag4, rfl, ⟨m0, m1⟩, HS⟩; have hS := Lib.hid HS; clear HS))
   clear RD d1 d3 m0
   have g1 : w4.cell? ⟨q.sp, 1, none⟩ = some (.pointer (some ⟨q.dp, 0, none⟩)) := hS.out.2.1.cell (i := 1) (by omega)
   obtain ⟨rr, hrr⟩ : ∃ rr, rr = x.D.work.2 := ⟨_, rfl⟩
   have WS : Hid (Calls Tryz.prog 75 #[.pointer (some ⟨q.dp, 0, none⟩), .int .i64 k, .slice a 64 c] w4 fun r w5 => r = .returned (.int .i64 rr) ∧ ∃ tag5, w5.cell? ⟨eb, 1, none⟩ = some (.int .i64 f) ∧ zg w5 tag5 q (x.wr (160 + k) l) ∧ Step CA tag w tag5 w5) := by
    refine (hS.out.2.1.sp.swrite k HK.out.2 hS.out.1 HL.out.2 hS.out.2.2.2).mono ?_
    rintro r w5 ⟨rfl, h5, s5⟩
    have L5 := hS.out.2.1.step s5 (by omega) h5
    exact ⟨by rw [hrr], _, L5.get 1 rfl, h5, (hS.out.2.2.1.mono fun _ h => h.elim).trans (s5.mono fun c hc => by unfold CA; omega)⟩
   have HRR := Lib.hid hrr
   clear hrr
   go_wp2_with fail
   refine WS.out.mono ?_
   rintro r w5 ⟨rfl, tag5, n1, h5⟩
   have H5 := Lib.hid h5
   clear h5 WS g1 m1
   have wf5 := HX.out.2.1.wr (160 + k) HL.out.2
   have e0 : R = if rr = 0 then (0, (x.wr (160 + k) l).y8 (x.B f) ⟨2, (k : Int), false⟩) else ((rr : Int), x.wr (160 + k) l) := by
    rw [HR.out, HRR.out, HL.out.1]
    unfold za.outF
    rw [← HX.out.2.2.1, if_neg (by simp), HK.out.1, if_neg (by simp)]
    simp only [Int.toNat_natCast]
   have HE := Lib.hid e0
   have HW := Lib.hid wf5
   clear e0 wf5
   by_cases hr : rr = 0
   ·subst hr
    have AL : Hid (Calls Tryz.prog 76 #[.pointer (some ⟨q.sp, 0, none⟩), .int .i64 f, .agg #[.int .i64 2, .int .i64 k, .bool false]] w5 fun r w6 => r = .returned (.tuple #[]) ∧ ∃ tag6, zg w6 tag6 q R.2 ∧ Step CA tag w tag6 w6) := by
     rw [HE.out, if_pos rfl]
     refine (zeo H5.out.1 HW.out f ⟨2, (k : Int), false⟩ (by have := HK.out.2; simp [Ent.ok, most]; omega)).mono ?_
     rintro r w6 ⟨rfl, tag6, h6, s6⟩
     exact ⟨rfl, tag6, h6, H5.out.2.trans s6⟩
    go_wp2_with fail
    refine AL.out.mono ?_
    rintro r w6 ⟨rfl, h6⟩
    have H6 := Lib.hid h6
    clear h6 AL n1
    go_wp2_with fail
    exact bodyPost_ret (v := .int .i64 0) (by simp [results, Tryz.results27, go_sem]) rfl ⟨by rw [HE.out, if_pos trivial], H6.out⟩
   ·have n2 : ((rr : Int) == 0) = false := beq_eq_false_iff_ne.2 (by omega)
    have n3 : ((rr : Int) = 0) = False := eq_false (by omega)
    have HRN := Lib.hid hr
    clear hr
    go_wp2_with fail
    exact bodyPost_ret (v := .int .i64 rr) (by simp [results, Tryz.results27, go_sem]) rfl ⟨by rw [HE.out, if_neg HRN.out], tag5, by rw [HE.out, if_neg HRN.out]; exact H5.out.1, H5.out.2⟩
  ·rw [hk] at TK
   have HK := Lib.hid hk
   clear hk
   go_wp2_with fail
   all_goals (
    refine TK.out.mono ?_
    rintro r u ⟨rfl, hu⟩
    have hu := hu.symm
    subst hu
    clear TK)
   go_wp2_with fail
   have e0 : R = (4, x) := by rw [HR.out]; unfold za.outF; rw [← HX.out.2.2.1, if_neg (by simp), HK.out, if_pos rfl]
   rw [e0]
   exact bodyPost_ret (v := .int .i64 4) (by simp [results, Tryz.results27, go_sem]) rfl ⟨rfl, tag2, H3.out.1.sp, H3.out.2.mono fun _ h => h.elim⟩
 ·have e1 : ((ek : Int) == 1) = false := beq_eq_false_iff_ne.2 (by omega)
  have e2 : ((ek : Int) = 1) = False := eq_false (by omega)
  have e3 : ((ek : Int) != 1) = true := by rw [bne, e1]; rfl
  have HK := Lib.hid hk
  clear hk
  refine wp_region_held_drew (S := (fun X => X.cell? ⟨q.sp, 2, none⟩ = some (.pointer (some ⟨q.pp, 0, none⟩)) ∧ X.cell? ⟨eb, 0, none⟩ = some (.int .i64 ek) ∧ X.cell? ⟨eb, 1, none⟩ = some (.int .i64 ef))) (by kernel_rfl) ⟨d2, d0, d1⟩ (fun hHeld => ?_)
  refine zb (v := ?vb0) 0 23 rfl rfl (by kernel_rfl) (by kernel_rfl) (by kernel_rfl) (fun _ _ _ h => h) (Or.inl ⟨by rfl, ?hyb0⟩) hHeld ?restb0
  case hyb0 => ((intro w hSw; (try dsimp only at hSw); go_simp) <;> with_reducible rfl)
  case' restb0 => (simp only [Act.put, List.setIfInBounds_toArray, List.set_cons_zero, List.set_cons_succ])
  refine zb (v := ?vb1) 1 24 rfl rfl (by kernel_rfl) (by kernel_rfl) (by kernel_rfl) (fun _ _ _ h => h) (Or.inl ⟨by rfl, ?hyb1⟩) hHeld ?restb1
  case hyb1 => ((intro w hSw; (try dsimp only at hSw); go_simp) <;> with_reducible rfl)
  case' restb1 => (simp only [Act.put, List.setIfInBounds_toArray, List.set_cons_zero, List.set_cons_succ])
  refine zb (v := ?vb2) 2 25 rfl rfl (by kernel_rfl) (by kernel_rfl) (by kernel_rfl) (fun _ _ _ h => h) (Or.inl ⟨by rfl, ?hyb2⟩) hHeld ?restb2
  case hyb2 => ((intro w hSw; (try dsimp only at hSw); go_simp) <;> with_reducible rfl)
  case' restb2 => (simp only [Act.put, List.setIfInBounds_toArray, List.set_cons_zero, List.set_cons_succ])
  refine zb (v := ?vb3) 3 26 rfl rfl (by kernel_rfl) (by kernel_rfl) (by kernel_rfl) (fun _ _ _ h => h) (Or.inl ⟨by rfl, ?hyb3⟩) hHeld ?restb3
  case hyb3 => ((intro w hSw; (try dsimp only at hSw); go_simp) <;> with_reducible rfl)
  case' restb3 => (simp only [Act.put, List.setIfInBounds_toArray, List.set_cons_zero, List.set_cons_succ])
  refine zb (v := ?vb4) 4 27 rfl rfl (by kernel_rfl) (by kernel_rfl) (by kernel_rfl) (fun _ _ _ h => h) (Or.inl ⟨by rfl, ?hyb4⟩) hHeld ?restb4
  case hyb4 => ((intro w hSw; (try dsimp only at hSw); go_simp) <;> with_reducible rfl)
  case' restb4 => (simp only [Act.put, List.setIfInBounds_toArray, List.set_cons_zero, List.set_cons_succ])
  refine zb (v := ?vb5) 5 28 rfl rfl (by kernel_rfl) (by kernel_rfl) (by kernel_rfl) (fun _ _ _ h => h) (Or.inl ⟨by rfl, ?hyb5⟩) hHeld ?restb5
  case hyb5 => ((intro w hSw; (try dsimp only at hSw); go_simp) <;> with_reducible rfl)
  case' restb5 => (simp only [Act.put, List.setIfInBounds_toArray, List.set_cons_zero, List.set_cons_succ])
  refine zb (v := ?vb6) 6 29 rfl rfl (by kernel_rfl) (by kernel_rfl) (by kernel_rfl) (fun _ _ _ h => h) (Or.inl ⟨by rfl, ?hyb6⟩) hHeld ?restb6
  case hyb6 => ((intro w hSw; (try dsimp only at hSw); go_simp) <;> with_reducible rfl)
  case' restb6 => (simp only [Act.put, List.setIfInBounds_toArray, List.set_cons_zero, List.set_cons_succ])
  refine zb (v := ?vb7) 7 30 rfl rfl (by kernel_rfl) (by kernel_rfl) (by kernel_rfl) (fun _ _ _ h => h) (Or.inl ⟨by rfl, ?hyb7⟩) hHeld ?restb7
  case hyb7 => ((intro w hSw; (try dsimp only at hSw); go_simp) <;> with_reducible rfl)
  case' restb7 => (simp only [Act.put, List.setIfInBounds_toArray, List.set_cons_zero, List.set_cons_succ])
  refine zn 8 31 rfl rfl (by kernel_rfl) (by kernel_rfl) (by kernel_rfl) (fun _ _ _ h => h) (by rfl) hHeld ?_
  simp only [Act.put, List.setIfInBounds_toArray, List.set_cons_zero, List.set_cons_succ]
  refine zn 9 32 rfl rfl (by kernel_rfl) (by kernel_rfl) (by kernel_rfl) (fun _ _ _ h => h) (by rfl) hHeld ?_
  simp only [Act.put, List.setIfInBounds_toArray, List.set_cons_zero, List.set_cons_succ]
  refine zn 10 33 rfl rfl (by kernel_rfl) (by kernel_rfl) (by kernel_rfl) (fun _ _ _ h => h) (by rfl) hHeld ?_
  simp only [Act.put, List.setIfInBounds_toArray, List.set_cons_zero, List.set_cons_succ]
  refine zn 11 34 rfl rfl (by kernel_rfl) (by kernel_rfl) (by kernel_rfl) (fun _ _ _ h => h) (by rfl) hHeld ?_
  simp only [Act.put, List.setIfInBounds_toArray, List.set_cons_zero, List.set_cons_succ]
  refine zn 12 35 rfl rfl (by kernel_rfl) (by kernel_rfl) (by kernel_rfl) (fun _ _ _ h => h) (by rfl) hHeld ?_
  simp only [Act.put, List.setIfInBounds_toArray, List.set_cons_zero, List.set_cons_succ]
  refine zn 13 36 rfl rfl (by kernel_rfl) (by kernel_rfl) (by kernel_rfl) (fun _ _ _ h => h) (by rfl) hHeld ?_
  simp only [Act.put, List.setIfInBounds_toArray, List.set_cons_zero, List.set_cons_succ]
  refine zn 14 37 rfl rfl (by kernel_rfl) (by kernel_rfl) (by kernel_rfl) (fun _ _ _ h => h) (by rfl) hHeld ?_
  simp only [Act.put, List.setIfInBounds_toArray, List.set_cons_zero, List.set_cons_succ]
  refine zn 15 38 rfl rfl (by kernel_rfl) (by kernel_rfl) (by kernel_rfl) (fun _ _ _ h => h) (by rfl) hHeld ?_
  simp only [Act.put, List.setIfInBounds_toArray, List.set_cons_zero, List.set_cons_succ]
  refine zb (v := ?vb16) 16 39 rfl rfl (by kernel_rfl) (by kernel_rfl) (by kernel_rfl) (fun _ _ _ h => h) (Or.inl ⟨by rfl, ?hyb16⟩) hHeld ?restb16
  case hyb16 => ((intro w hSw; (try dsimp only at hSw); go_simp) <;> with_reducible rfl)
  case' restb16 => (simp only [Act.put, List.setIfInBounds_toArray, List.set_cons_zero, List.set_cons_succ])
  refine wpAnyH_done (by kernel_rfl) ?_ _
  go_wp2_with fail
  exact bodyPost_ret (v := .int .i64 2) (by simp [results, Tryz.results27, go_sem]) rfl ⟨by rw [HR.out]; unfold za.outF; rw [← HX.out.2.2.1, if_pos HK.out], tag2, by rw [HR.out]; unfold za.outF; rw [← HX.out.2.2.1, if_pos HK.out]; exact H2.out.1.drew.sp, (H2.out.2.trans (Step.of_below (Below.refl _ _).drew)).mono fun _ h => h.elim⟩
end
end Go.Proofs.YtnhdmnijiphjjaaGreat
/- Pages that go out: clean: a page of a file is on the disk. -/
namespace Go.Proofs.YtnhdmnijiphjjaaGreat
open Go Go.RowKit
section
variable {w w' : World} {tag tag' : Nat → Nat} {q : Sq} {x : za}
def keyL (b : Nat) (k : Int × Int) : List (Nat × Nat × Value) := [(b, 0, .int .i64 k.1), (b, 1, .int .i64 k.2)]
set_option maxRecDepth 100000 in
set_option maxHeartbeats 1000000 in
theorem zfm (h : zg w tag q x) (wf : WF x) (k : Int × Int) (hk : xk k) (hc : x.xg k = true → ∃ f : Nat, x.cfr k = f ∧ f < 1024 ∧ x.R.bad f = false) :
  Calls Tryz.prog 97 #[ptrV q.sp, .agg #[.int .i64 k.1, .int .i64 k.2]] w fun r w' => r = .returned (.int .i64 (x.uy k).1) ∧ ∃ tag', zg w' tag' q (x.uy k).2 ∧ Step CA tag w tag' w' := by
 obtain ⟨w0, hw0⟩ : ∃ w0, w0 = w.alloc (.cells #[.int .i64 k.1, .int .i64 k.2] 133 (0, 0)) := ⟨_, rfl⟩
 have hb0 : Below w.heap.size w w0 := by rw [hw0]; exact (Below.refl w.heap.size w).alloc (Nat.le_refl _) _
 have nb1 : w0.heap[w.heap.size]? = some (.cells #[.int .i64 k.1, .int .i64 k.2] 133 (0, 0)) := by rw [hw0]; exact heap_alloc_new w _
 obtain ⟨L0, s0⟩ := h.loc0.more hb0 (keyL w.heap.size k) (fun t ht => by
  simp [keyL] at ht
  rcases ht with rfl | rfl
  ·exact ⟨Nat.le_refl _, zm nb1 0 rfl⟩
  ·exact ⟨Nat.le_refl _, zm nb1 1 rfl⟩)
 obtain ⟨tag0, ht0⟩ : ∃ tag0, tag0 = retag tag w 0 := ⟨_, rfl⟩
 rw [List.append_nil] at L0
 rw [← ht0] at L0 s0
 obtain ⟨b0, hbb⟩ : ∃ b0, b0 = w.heap.size := ⟨_, rfl⟩
 rw [← hbb] at L0
 clear ht0 nb1 hb0
 obtain ⟨R, hR⟩ : ∃ R, R = x.uy k := ⟨_, rfl⟩
 have HR := Lib.hid (And.intro hR (And.intro wf (And.intro hk hc)))
 rw [← hR]
 have d0 : w0.cell? ⟨b0, 0, none⟩ = some (.int .i64 k.1) := L0.get 0 rfl
 have d1 : w0.cell? ⟨b0, 1, none⟩ = some (.int .i64 k.2) := L0.get 1 rfl
 have d4 : w0.cell? ⟨q.sp, 4, none⟩ = some (.pointer (some ⟨q.cp, 0, none⟩)) := L0.cell (i := 4) (by omega)
 have HW := Lib.hid hw0
 have HB := Lib.hid hbb
 have H0 := Lib.hid (And.intro L0 s0)
 obtain ⟨dd, hdd⟩ : ∃ dd, dd = x.xg k := ⟨_, rfl⟩
 have DI : Hid (Calls Tryz.prog 83 #[.pointer (some ⟨q.cp, 0, none⟩), .agg #[.int .i64 k.1, .int .i64 k.2]] w0.drew fun r w1 => r = .returned (.bool dd) ∧ (w1.cell? ⟨b0, 0, none⟩ = some (.int .i64 k.1) ∧ w1.cell? ⟨b0, 1, none⟩ = some (.int .i64 k.2) ∧ w1.cell? ⟨q.sp, 4, none⟩ = some (.pointer (some ⟨q.cp, 0, none⟩))) ∧ Loc w1 tag0 q x (keyL b0 k) ∧ Step (fun _ => False) tag w tag0 w1) := by
  refine (H0.out.1.drew.sp.cdirty k).mono ?_
  rintro r w1 ⟨rfl, hb⟩
  have L1 := H0.out.1.drew.below hb
  exact ⟨by rw [hdd], ⟨L1.get 0 rfl, L1.get 1 rfl, L1.cell (i := 4) (by omega)⟩, L1, (H0.out.2.trans (Step.of_below (Below.refl _ _).drew)).trans (Step.of_below hb)⟩
 have HD := Lib.hid hdd
 clear h wf hk hc hR hw0 hbb L0 s0 hdd
 unfold ptrV
 go_enter Tryz.func97, Tryz.ntmps97
 go_wp2_with fail
 rw [← HW.out, ← HB.out]
 go_region_held (fun W' => W'.cell? ⟨b0, 0, none⟩ = some (.int .i64 k.1) ∧ W'.cell? ⟨b0, 1, none⟩ = some (.int .i64 k.2) ∧ W'.cell? ⟨q.sp, 4, none⟩ = some (.pointer (some ⟨q.cp, 0, none⟩))) (go_keep)
  ((go_at_call 83; refine DI.out.mono ?_; rintro r w1 ⟨rfl, ⟨m0, m1, m2⟩, HS⟩; have hS := Lib.hid HS; clear HS))
 clear DI d0 d1 d4
 cases dd with
 | false =>
  clear m0 m1 m2
  go_wp2_with fail
  have e0 : R = (0, x) := by rw [HR.out.1]; unfold za.uy; rw [← HD.out, if_pos rfl]
  rw [e0]
  exact bodyPost_ret (v := .int .i64 0) (by simp [results, Tryz.results97, go_sem]) rfl ⟨rfl, tag0, hS.out.1.sp, hS.out.2.mono fun _ h => h.elim⟩
 | true =>
  obtain ⟨f, hf, hf1, hfb⟩ := HR.out.2.2.2 HD.out.symm
  obtain ⟨l, hl⟩ : ∃ l, l = x.R.read f 0 64 := ⟨_, rfl⟩
  have hl64 : l.length = 64 := by rw [hl]; exact Y7 ..
  obtain ⟨hs, hhs⟩ : ∃ hs, hs = (getL x.CL k).isSome := ⟨_, rfl⟩
  have FR : Hid (Calls Tryz.prog 96 #[.pointer (some ⟨q.cp, 0, none⟩), .agg #[.int .i64 k.1, .int .i64 k.2]] w1.drew fun r w2 => r = .returned (.tuple #[.int .i64 f, .bool hs]) ∧ (w2.cell? ⟨b0, 0, none⟩ = some (.int .i64 k.1) ∧ w2.cell? ⟨b0, 1, none⟩ = some (.int .i64 k.2) ∧ w2.cell? ⟨q.sp, 4, none⟩ = some (.pointer (some ⟨q.cp, 0, none⟩))) ∧ w2.cell? ⟨q.sp, 0, none⟩ = some (.pointer (some ⟨q.rp, 0, none⟩)) ∧ Loc w2 tag0 q x (keyL b0 k) ∧ Step (fun _ => False) tag w tag0 w2) := by
   refine (hS.out.1.drew.sp.Xi k).mono ?_
   rintro r w2 ⟨rfl, hb⟩
   have L1 := hS.out.1.drew.below hb
   refine ⟨?_, ⟨L1.get 0 rfl, L1.get 1 rfl, L1.cell (i := 4) (by omega)⟩, L1.cell (i := 0) (by omega), L1, (hS.out.2.trans (Step.of_below (Below.refl _ _).drew)).trans (Step.of_below hb)⟩
   rw [hhs, ← hf]
   rfl
  have HX := Lib.hid (And.intro hf (And.intro hf1 (And.intro hfb (And.intro hl hl64))))
  clear hf hf1 hfb hl hl64 hhs
  go_wp2_with fail
  go_region_held (fun W' => W'.cell? ⟨b0, 0, none⟩ = some (.int .i64 k.1) ∧ W'.cell? ⟨b0, 1, none⟩ = some (.int .i64 k.2) ∧ W'.cell? ⟨q.sp, 4, none⟩ = some (.pointer (some ⟨q.cp, 0, none⟩))) (go_keep)
   ((go_at_call 96; refine FR.out.mono ?_; rintro r w2 ⟨rfl, ⟨n0, n1, n2⟩, n3, HS⟩; have hS2 := Lib.hid HS; clear HS))
  clear FR m0 m1 m2 n0 n1 n2
  have RD : Hid (Calls Tryz.prog 67 #[.pointer (some ⟨q.rp, 0, none⟩), .int .i64 f, .int .i64 0, .int .i64 64] w2 fun r w4 => ∃ a c tag4, r = .returned (.tuple #[.slice a 64 c, .int .i64 0]) ∧ (w4.cell? ⟨b0, 0, none⟩ = some (.int .i64 k.1) ∧ w4.cell? ⟨b0, 1, none⟩ = some (.int .i64 k.2) ∧ w4.cell? ⟨q.sp, 1, none⟩ = some (.pointer (some ⟨q.dp, 0, none⟩))) ∧
    ByAt w4 (.slice a 64 c) l ∧ Loc w4 tag4 q x (keyL b0 k) ∧ Step (fun _ => False) tag w tag4 w4 ∧ ∀ b, (Value.slice a 64 c).ownBlock = some b → tag4 b = 0) := by
   refine (Y4 _ _ _ _ _ hS2.out.1.sp.ram f 0 64 f 0 64 rfl rfl rfl HX.out.2.1 (by omega) (by omega) HX.out.2.2.1).mono ?_
   rintro r w4 ⟨v, rfl, hv, hb, ho⟩
   rw [← HX.out.2.2.2.1] at hv
   obtain ⟨a, c, rfl, _, _⟩ := SlAt.form hv
   rw [HX.out.2.2.2.2] at hv ho ⊢
   obtain ⟨L4, s4⟩ := hS2.out.1.more hb [] (fun t ht => by cases ht)
   exact ⟨a, c, _, rfl, ⟨L4.get 0 rfl, L4.get 1 rfl, L4.cell (i := 1) (by omega)⟩, hv, L4, hS2.out.2.trans s4, fun b hb => zx _ _ _ _ (ho b hb)⟩
  go_wp2_with fail
  refine RD.out.mono ?_
  rintro r w4 ⟨a, c, tag4, rfl, ⟨d0, d1, d2⟩, HS⟩
  have hS4 := Lib.hid HS
  clear HS RD n3
  obtain ⟨rr, hrr⟩ : ∃ rr, rr = x.D.work.2 := ⟨_, rfl⟩
  have WS : Hid (Calls Tryz.prog 149 #[.pointer (some ⟨q.dp, 0, none⟩), .int .i64 k.1, .int .i64 k.2, .slice a 64 c] w4.drew fun r w5 => r = .returned (.int .i64 rr) ∧ (w5.cell? ⟨b0, 0, none⟩ = some (.int .i64 k.1) ∧ w5.cell? ⟨b0, 1, none⟩ = some (.int .i64 k.2) ∧ w5.cell? ⟨q.sp, 1, none⟩ = some (.pointer (some ⟨q.dp, 0, none⟩))) ∧ ∃ tag5, w5.cell? ⟨q.sp, 4, none⟩ = some (.pointer (some ⟨q.cp, 0, none⟩)) ∧ Loc w5 tag5 q (x.wr (za.ym k) l) (keyL b0 k) ∧ Step CA tag w tag5 w5) := by
   have hv4 : ByAt w4.drew (.slice a 64 c) l := SlAt.below hS4.out.1 (Below.refl _ _).drew
   refine (hS4.out.2.1.drew.sp.fwrite HR.out.2.2.1 hv4 HX.out.2.2.2.2 hS4.out.2.2.2).mono ?_
   rintro r w5 ⟨rfl, h5, s5⟩
   have L5 := hS4.out.2.1.drew.step s5 (by omega) h5
   exact ⟨by rw [hrr], ⟨L5.get 0 rfl, L5.get 1 rfl, L5.cell (i := 1) (by omega)⟩, _, L5.cell (i := 4) (by omega), L5, ((hS4.out.2.2.1.trans (Step.of_below (Below.refl _ _).drew)).mono fun _ h => h.elim).trans (s5.mono fun c hc => by unfold CA; omega)⟩
  have HRR := Lib.hid hrr
  clear hrr
  go_wp2_with fail
  go_region_held (fun W' => W'.cell? ⟨b0, 0, none⟩ = some (.int .i64 k.1) ∧ W'.cell? ⟨b0, 1, none⟩ = some (.int .i64 k.2) ∧ W'.cell? ⟨q.sp, 1, none⟩ = some (.pointer (some ⟨q.dp, 0, none⟩))) (go_keep)
   ((go_at_call 149; refine WS.out.mono ?_; rintro r w5 ⟨rfl, ⟨n0, n1, n2⟩, tag5, n4, HS⟩; have hS5 := Lib.hid HS; clear HS))
  clear WS d0 d1 d2 n2
  have e0 : R = if rr = 0 then (0, (x.wr (za.ym k) l).zy k false) else ((rr : Int), x.wr (za.ym k) l) := by
   rw [HR.out.1, HRR.out, HX.out.2.2.2.1]
   unfold za.uy
   rw [← HD.out, if_neg (by simp), HX.out.1]
   simp only [Int.toNat_natCast]
  have HE := Lib.hid e0
  clear e0
  by_cases hr : rr = 0
  ·subst hr
   have MK : Hid (Calls Tryz.prog 86 #[.pointer (some ⟨q.cp, 0, none⟩), .agg #[.int .i64 k.1, .int .i64 k.2], .bool false] w5.drew fun r w6 => ∃ b, r = .returned (.bool b) ∧ (w6.cell? ⟨b0, 0, none⟩ = some (.int .i64 k.1) ∧ w6.cell? ⟨b0, 1, none⟩ = some (.int .i64 k.2) ∧ w6.cell? ⟨q.sp, 4, none⟩ = some (.pointer (some ⟨q.cp, 0, none⟩))) ∧ ∃ tag6, zg w6 tag6 q R.2 ∧ Step CA tag w tag6 w6) := by
    refine (hS5.out.1.drew.sp.cmark k false).mono ?_
    rintro r w6 ⟨⟨b, rfl⟩, h6, s6⟩
    have L6 := hS5.out.1.drew.step s6 (by omega) h6
    refine ⟨b, rfl, ⟨L6.get 0 rfl, L6.get 1 rfl, L6.cell (i := 4) (by omega)⟩, tag5, ?_, (hS5.out.2.trans (Step.of_below (Below.refl _ _).drew)).trans (s6.mono fun c hc => by unfold CA; omega)⟩
    rw [HE.out, if_pos rfl]
    exact h6
   go_wp2_with fail
   go_region_held (fun W' => W'.cell? ⟨b0, 0, none⟩ = some (.int .i64 k.1) ∧ W'.cell? ⟨b0, 1, none⟩ = some (.int .i64 k.2) ∧ W'.cell? ⟨q.sp, 4, none⟩ = some (.pointer (some ⟨q.cp, 0, none⟩))) (go_keep)
    ((go_at_call 86; refine MK.out.mono ?_; rintro r w6 ⟨b, rfl, ⟨m0, m1, m2⟩, HS⟩; have hS6 := Lib.hid HS; clear HS))
   clear MK n0 n1 n4 m0 m1 m2
   go_wp2_with fail
   exact bodyPost_ret (v := .int .i64 0) (by simp [results, Tryz.results97, go_sem]) rfl ⟨by rw [HE.out]; first | rw [if_pos rfl] | rw [if_pos trivial], hS6.out⟩
  ·have n2 : ((rr : Int) == 0) = false := beq_eq_false_iff_ne.2 (by omega)
   have n3 : ((rr : Int) = 0) = False := eq_false (by omega)
   have HRN := Lib.hid hr
   clear hr n0 n1 n4
   go_wp2_with fail
   exact bodyPost_ret (v := .int .i64 rr) (by simp [results, Tryz.results97, go_sem]) rfl ⟨by rw [HE.out, if_neg HRN.out], tag5, by rw [HE.out, if_neg HRN.out]; exact hS5.out.1.sp, hS5.out.2⟩
end
end Go.Proofs.YtnhdmnijiphjjaaGreat
/- Pages that go out: Drop: a page of a file is in no frame. -/
namespace Go.Proofs.YtnhdmnijiphjjaaGreat
open Go Go.RowKit
section
variable {w w' : World} {tag tag' : Nat → Nat} {q : Sq} {x : za}
theorem WF.uy (wf : WF x) (k : Int × Int) : WF (x.uy k).2 := by
 unfold za.uy
 split
 ·exact wf
 ·have := wf.wr (za.ym k) (l := x.R.read (x.cfr k).toNat 0 64) (Y7 ..)
  split
  ·exact this.zy k false
  ·exact this
set_option maxRecDepth 100000 in
set_option maxHeartbeats 1000000 in
theorem zfx (h : zg w tag q x) (wf : WF x) (n page : Nat) (hn : n < 4) (hpg : page < 16) (f : Nat) (hv : (getL x.CL ((n : Int), (page : Int))).isSome = true) (hf : x.cfr ((n : Int), (page : Int)) = f) (hf1 : f < 1024) (hfb : x.R.bad f = false) :
  Calls Tryz.prog 36 #[ptrV q.sp, .int .i64 n, .int .i64 page] w fun r w' => r = .returned (.int .i64 (x.Xp ((n : Int), (page : Int))).1) ∧ ∃ tag', zg w' tag' q (x.Xp ((n : Int), (page : Int))).2 ∧ Step CA tag w tag' w' := by
 have hk : xk ((n : Int), (page : Int)) := ⟨by dsimp only; omega, by dsimp only; omega, by dsimp only; omega, by dsimp only; omega⟩
 obtain ⟨R, hR⟩ : ∃ R, R = x.Xp ((n : Int), (page : Int)) := ⟨_, rfl⟩
 rw [← hR]
 have b2 : Below w.heap.size w (w.alloc (.cells #[.int .i64 n, .int .i64 page] 133)) := (Below.refl _ _).alloc (Nat.le_refl _) _
 have nb := heap_alloc_new w (.cells #[.int .i64 n, .int .i64 page] 133)
 obtain ⟨L2, s2⟩ := h.loc0.more b2 (keyL w.heap.size ((n : Int), (page : Int))) (fun t ht => by
  simp [keyL] at ht
  rcases ht with rfl | rfl
  ·exact ⟨Nat.le_refl _, zm nb 0 rfl⟩
  ·exact ⟨Nat.le_refl _, zm nb 1 rfl⟩)
 rw [List.append_nil] at L2
 have i0 : (0 : Int) ≤ n := by omega
 have i1 : (n : Int) < 4 := by omega
 have i2 : (0 : Int) ≤ page := by omega
 have i3 : (page : Int) < 16 := by omega
 have HR := Lib.hid (And.intro hR (And.intro wf (And.intro hk (And.intro hv (And.intro hf (And.intro hf1 hfb))))))
 clear b2 nb h hR wf hk hv hf hf1 hfb hn hpg
 unfold ptrV
 go_enter Tryz.func36, Tryz.ntmps36
 go_wp2_with fail
 obtain ⟨eb, heb⟩ : ∃ eb, eb = w.heap.size := ⟨_, rfl⟩
 obtain ⟨W2, hW2⟩ : ∃ W2, W2 = w.alloc (.cells #[.int .i64 n, .int .i64 page] 133) := ⟨_, rfl⟩
 obtain ⟨tag2, htag⟩ : ∃ tag2, tag2 = retag tag w 0 := ⟨_, rfl⟩
 rw [← hW2, ← heb, ← htag] at L2
 rw [← hW2, ← htag] at s2
 rw [← hW2, ← heb]
 clear hW2 heb htag i0 i1 i2 i3
 have d0 : W2.cell? ⟨eb, 0, none⟩ = some (.int .i64 n) := L2.get 0 rfl
 have d1 : W2.cell? ⟨eb, 1, none⟩ = some (.int .i64 page) := L2.get 1 rfl
 have d2 : W2.cell? ⟨q.sp, 4, none⟩ = some (.pointer (some ⟨q.cp, 0, none⟩)) := L2.cell (i := 4) (by omega)
 have H2 := Lib.hid (And.intro L2 s2)
 clear L2 s2
 have FR : Hid (Calls Tryz.prog 96 #[.pointer (some ⟨q.cp, 0, none⟩), .agg #[.int .i64 n, .int .i64 page]] W2.drew fun r w2 => r = .returned (.tuple #[.int .i64 f, .bool true]) ∧ (w2.cell? ⟨eb, 0, none⟩ = some (.int .i64 n) ∧ w2.cell? ⟨eb, 1, none⟩ = some (.int .i64 page) ∧ w2.cell? ⟨q.sp, 4, none⟩ = some (.pointer (some ⟨q.cp, 0, none⟩))) ∧ Loc w2 tag2 q x (keyL eb ((n : Int), (page : Int))) ∧ Step (fun _ => False) tag w tag2 w2) := by
  refine (H2.out.1.drew.sp.Xi ((n : Int), (page : Int))).mono ?_
  rintro r w2 ⟨rfl, hb⟩
  have L1 := H2.out.1.drew.below hb
  refine ⟨?_, ⟨L1.get 0 rfl, L1.get 1 rfl, L1.cell (i := 4) (by omega)⟩, L1, (H2.out.2.trans (Step.of_below (Below.refl _ _).drew)).trans (Step.of_below hb)⟩
  rw [HR.out.2.2.2.1, ← HR.out.2.2.2.2.1]
  rfl
 go_region_held (fun W' => W'.cell? ⟨eb, 0, none⟩ = some (.int .i64 n) ∧ W'.cell? ⟨eb, 1, none⟩ = some (.int .i64 page) ∧ W'.cell? ⟨q.sp, 4, none⟩ = some (.pointer (some ⟨q.cp, 0, none⟩))) (go_keep)
  ((go_at_call 96; refine FR.out.mono ?_; rintro r w2 ⟨rfl, ⟨n0, n1, n2⟩, HS⟩; have hS := Lib.hid HS; clear HS))
 clear FR d0 d1 d2 n2
 obtain ⟨c, hc⟩ : ∃ c, c = (x.uy ((n : Int), (page : Int))).1 := ⟨_, rfl⟩
 obtain ⟨y, hy⟩ : ∃ y, y = (x.uy ((n : Int), (page : Int))).2 := ⟨_, rfl⟩
 have CL : Hid (Calls Tryz.prog 97 #[.pointer (some ⟨q.sp, 0, none⟩), .agg #[.int .i64 n, .int .i64 page]] w2 fun r w3 => r = .returned (.int .i64 c) ∧ ∃ tag3, Loc w3 tag3 q y (keyL eb ((n : Int), (page : Int))) ∧ Step CA tag w tag3 w3) := by
  refine (zfm hS.out.1.sp HR.out.2.1 ((n : Int), (page : Int)) HR.out.2.2.1 fun _ => ⟨f, HR.out.2.2.2.2⟩).mono ?_
  rintro r w3 ⟨rfl, tag3, h3, s3⟩
  rw [← hy] at h3
  exact ⟨by rw [hc], tag3, hS.out.1.step s3 CA0 h3, (hS.out.2.mono fun _ h => h.elim).trans s3⟩
 have hwy : WF y := by rw [hy]; exact HR.out.2.1.uy _
 have e0 : R = if c = 0 then (0, ((y.y8 (y.B f) Ent.none).yu ((n : Int), (page : Int))).vk f) else (c, y) := by
  rw [HR.out.1]
  unfold za.Xp
  rw [HR.out.2.2.2.1, if_neg (by simp), HR.out.2.2.2.2.1, ← hy, ← hc]
  by_cases k : c = 0
  ·rw [if_pos k, if_neg (by simpa using k)]
  ·rw [if_neg k, if_pos k]
   exact Prod.ext hc.symm hy.symm
 have HE := Lib.hid (And.intro e0 hwy)
 clear hc hy e0 hwy
 go_wp2_with fail
 refine CL.out.mono ?_
 rintro r w3 ⟨rfl, tag3, h3⟩
 have H3 := Lib.hid h3
 clear h3 CL n0 n1
 by_cases hc : c = 0
 ·subst hc
  have AL : Hid (Calls Tryz.prog 76 #[.pointer (some ⟨q.sp, 0, none⟩), .int .i64 f, .agg #[.int .i64 0, .int .i64 0, .bool false]] w3 fun r w6 => r = .returned (.tuple #[]) ∧ ∃ tag6, Loc w6 tag6 q (y.y8 (y.B f) Ent.none) (keyL eb ((n : Int), (page : Int))) ∧ Step CA tag w tag6 w6) := by
   refine (zeo H3.out.1.sp HE.out.2 f Ent.none (by decide)).mono ?_
   rintro r w6 ⟨rfl, tag6, h6, s6⟩
   exact ⟨rfl, tag6, H3.out.1.step s6 CA0 h6, H3.out.2.trans s6⟩
  go_wp2_with fail
  refine AL.out.mono ?_
  rintro r w4 ⟨rfl, tag4, h4⟩
  have H4 := Lib.hid h4
  clear h4 AL
  have d0 : w4.cell? ⟨eb, 0, none⟩ = some (.int .i64 n) := H4.out.1.get 0 rfl
  have d1 : w4.cell? ⟨eb, 1, none⟩ = some (.int .i64 page) := H4.out.1.get 1 rfl
  have d2 : w4.cell? ⟨q.sp, 4, none⟩ = some (.pointer (some ⟨q.cp, 0, none⟩)) := H4.out.1.cell (i := 4) (by omega)
  have DR : Hid (Calls Tryz.prog 84 #[.pointer (some ⟨q.cp, 0, none⟩), .agg #[.int .i64 n, .int .i64 page]] w4.drew fun r w6 => ∃ b, r = .returned (.bool b) ∧ (w6.cell? ⟨eb, 0, none⟩ = some (.int .i64 n) ∧ w6.cell? ⟨eb, 1, none⟩ = some (.int .i64 page) ∧ w6.cell? ⟨q.sp, 4, none⟩ = some (.pointer (some ⟨q.cp, 0, none⟩))) ∧ w6.cell? ⟨q.sp, 2, none⟩ = some (.pointer (some ⟨q.pp, 0, none⟩)) ∧ zg w6 tag4 q ((y.y8 (y.B f) Ent.none).yu ((n : Int), (page : Int))) ∧ Step CA tag w tag4 w6) := by
   refine (H4.out.1.drew.sp.cdrop ((n : Int), (page : Int))).mono ?_
   rintro r w6 ⟨⟨b, rfl⟩, h6, s6⟩
   have L6 := H4.out.1.drew.step s6 (by omega) h6
   exact ⟨b, rfl, ⟨L6.get 0 rfl, L6.get 1 rfl, L6.cell (i := 4) (by omega)⟩, L6.cell (i := 2) (by omega), h6, (H4.out.2.trans (Step.of_below (Below.refl _ _).drew)).trans (s6.mono fun c hc => by unfold CA; omega)⟩
  go_wp2_with fail
  go_region_held (fun W' => W'.cell? ⟨eb, 0, none⟩ = some (.int .i64 n) ∧ W'.cell? ⟨eb, 1, none⟩ = some (.int .i64 page) ∧ W'.cell? ⟨q.sp, 4, none⟩ = some (.pointer (some ⟨q.cp, 0, none⟩))) (go_keep)
   ((go_at_call 84; refine DR.out.mono ?_; rintro r w6 ⟨b, rfl, ⟨m0, m1, m2⟩, m3, HS⟩; have hS6 := Lib.hid HS; clear HS))
  clear DR d0 d1 d2 m0 m1 m2
  have FP : Hid (Calls Tryz.prog 44 #[.pointer (some ⟨q.pp, 0, none⟩), .int .i64 f] w6 fun r w7 => ∃ b, r = .returned (.bool b) ∧ ∃ tag7, zg w7 tag7 q R.2 ∧ Step CA tag w tag7 w7) := by
   refine (hS6.out.1.freeP f HR.out.2.2.2.2.2.1).mono ?_
   rintro r w7 ⟨⟨b, rfl⟩, h7, s7⟩
   refine ⟨b, rfl, tag4, ?_, hS6.out.2.trans (s7.mono fun c hc => by unfold CA; omega)⟩
   rw [HE.out.1]
   first | rw [if_pos rfl] | rw [if_pos trivial]
   exact h7
  go_wp2_with fail
  refine FP.out.mono ?_
  rintro r w7 ⟨b2, rfl, h7⟩
  have H7 := Lib.hid h7
  clear h7 FP m3
  go_wp2_with fail
  exact bodyPost_ret (v := .int .i64 0) (by simp [results, Tryz.results36, go_sem]) rfl ⟨by rw [HE.out.1]; first | rw [if_pos rfl] | rw [if_pos trivial], H7.out⟩
 ·have n2 : (c == 0) = false := beq_eq_false_iff_ne.2 hc
  have n3 : (c = 0) = False := eq_false hc
  have HRN := Lib.hid hc
  clear hc
  go_wp2_with fail
  exact bodyPost_ret (v := .int .i64 c) (by simp [results, Tryz.results36, go_sem]) rfl ⟨by rw [HE.out.1, if_neg HRN.out], tag3, by rw [HE.out.1, if_neg HRN.out]; exact H3.out.1.sp, H3.out.2⟩
set_option maxRecDepth 100000 in
theorem Drop_walk0 (h : zg w tag q x) (n page : Nat) (hn : n < 4) (hpg : page < 16) (hv : getL x.CL ((n : Int), (page : Int)) = none) :
  Calls Tryz.prog 36 #[ptrV q.sp, .int .i64 n, .int .i64 page] w fun r w' => r = .returned (.int .i64 2) ∧ Below w.heap.size w w' := by
 have b2 : Below w.heap.size w (w.alloc (.cells #[.int .i64 n, .int .i64 page] 133)) := (Below.refl _ _).alloc (Nat.le_refl _) _
 have nb := heap_alloc_new w (.cells #[.int .i64 n, .int .i64 page] 133)
 obtain ⟨L2, s2⟩ := h.loc0.more b2 (keyL w.heap.size ((n : Int), (page : Int))) (fun t ht => by
  simp [keyL] at ht
  rcases ht with rfl | rfl
  ·exact ⟨Nat.le_refl _, zm nb 0 rfl⟩
  ·exact ⟨Nat.le_refl _, zm nb 1 rfl⟩)
 rw [List.append_nil] at L2
 have i0 : (0 : Int) ≤ n := by omega
 have i1 : (n : Int) < 4 := by omega
 have i2 : (0 : Int) ≤ page := by omega
 have i3 : (page : Int) < 16 := by omega
 have HR := Lib.hid (And.intro hv b2)
 clear b2 nb h hv hn hpg s2
 unfold ptrV
 go_enter Tryz.func36, Tryz.ntmps36
 go_wp2_with fail
 obtain ⟨eb, heb⟩ : ∃ eb, eb = w.heap.size := ⟨_, rfl⟩
 obtain ⟨W2, hW2⟩ : ∃ W2, W2 = w.alloc (.cells #[.int .i64 n, .int .i64 page] 133) := ⟨_, rfl⟩
 rw [← hW2] at HR
 rw [← hW2, ← heb] at L2
 rw [← hW2]
 have HB := Lib.hid heb
 rw [← heb]
 clear hW2 heb i0 i1 i2 i3
 have d0 : W2.cell? ⟨eb, 0, none⟩ = some (.int .i64 n) := L2.get 0 rfl
 have d1 : W2.cell? ⟨eb, 1, none⟩ = some (.int .i64 page) := L2.get 1 rfl
 have d2 : W2.cell? ⟨q.sp, 4, none⟩ = some (.pointer (some ⟨q.cp, 0, none⟩)) := L2.cell (i := 4) (by omega)
 have FR : Hid (Calls Tryz.prog 96 #[.pointer (some ⟨q.cp, 0, none⟩), .agg #[.int .i64 n, .int .i64 page]] W2.drew fun r w2 => r = .returned (.tuple #[.int .i64 0, .bool false]) ∧ (w2.cell? ⟨eb, 0, none⟩ = some (.int .i64 n) ∧ w2.cell? ⟨eb, 1, none⟩ = some (.int .i64 page) ∧ w2.cell? ⟨q.sp, 4, none⟩ = some (.pointer (some ⟨q.cp, 0, none⟩))) ∧ Below w.heap.size w w2) := by
  refine (L2.drew.sp.Xi ((n : Int), (page : Int))).mono ?_
  rintro r w2 ⟨rfl, hb⟩
  have L1 := L2.drew.below hb
  refine ⟨?_, ⟨L1.get 0 rfl, L1.get 1 rfl, L1.cell (i := 4) (by omega)⟩, HR.out.2.trans (((Below.refl _ _).drew.trans hb).mono HR.out.2.size)⟩
  rw [HR.out.1]
  rfl
 clear L2
 go_region_held (fun W' => W'.cell? ⟨eb, 0, none⟩ = some (.int .i64 n) ∧ W'.cell? ⟨eb, 1, none⟩ = some (.int .i64 page) ∧ W'.cell? ⟨q.sp, 4, none⟩ = some (.pointer (some ⟨q.cp, 0, none⟩))) (go_keep)
  ((go_at_call 96; refine FR.out.mono ?_; rintro r w2 ⟨rfl, ⟨n0, n1, n2⟩, HS⟩; have hS := Lib.hid HS; clear HS))
 clear FR d0 d1 d2 n2 n0 n1
 go_wp2_with fail
 exact bodyPost_ret (v := .int .i64 2) (by simp [results, Tryz.results36, go_sem]) rfl ⟨rfl, hS.out⟩
end
end Go.Proofs.YtnhdmnijiphjjaaGreat
/- Processes as a law has them, all told: pages that go out, slots, uses. -/
namespace Go.Proofs.YtnhdmnijiphjjaaGreat
open Go Go.RowKit
section
variable {w0 w w' : World} {V : List (Value × List Value)} {q : Sq} {x : za}
theorem AtQ.zjn (h : AtQ w0 V q x w) (wf : WF x) (n page : Nat) (hn : n < 8) {pr : yf} (hp : x.T n = some pr) (hpg : page < 4096) (hu : (x.ent n page).kind = 1 → x.P.use (x.ent n page).n.toNat = 3) :
  Calls Tryz.prog 27 #[ptrV q.sp, .int .i64 n, .int .i64 page] w fun e w' => e = .returned (.int .i64 (x.outF n page).1) ∧ AtQ w0 V q (x.outF n page).2 w' :=
 h.go CA0 fun _ hS => zj5 hS wf n page hn hp hpg hu
theorem AtQ.evDrop (h : AtQ w0 V q x w) (wf : WF x) (n page : Nat) (hn : n < 4) (hpg : page < 16) (f : Nat) (hv : (getL x.CL ((n : Int), (page : Int))).isSome = true) (hf : x.cfr ((n : Int), (page : Int)) = f) (hf1 : f < 1024) (hfb : x.R.bad f = false) :
  Calls Tryz.prog 36 #[ptrV q.sp, .int .i64 n, .int .i64 page] w fun e w' => e = .returned (.int .i64 (x.Xp ((n : Int), (page : Int))).1) ∧ AtQ w0 V q (x.Xp ((n : Int), (page : Int))).2 w' :=
 h.go CA0 fun _ hS => zfx hS wf n page hn hpg f hv hf hf1 hfb
theorem AtQ.zmh (h : AtQ w0 V q x w) (n page : Nat) (hn : n < 4) (hpg : page < 16) (hv : getL x.CL ((n : Int), (page : Int)) = none) :
  Calls Tryz.prog 36 #[ptrV q.sp, .int .i64 n, .int .i64 page] w fun e w' => e = .returned (.int .i64 2) ∧ AtQ w0 V q x w' := by
 obtain ⟨tag, hS, _⟩ := h.st
 refine (Drop_walk0 hS n page hn hpg hv).mono ?_
 rintro e w1 ⟨rfl, hb⟩
 exact ⟨rfl, h.below hb⟩
theorem AtQ.used (h : AtQ w0 V q x w) (wf : WF x) : Calls Tryz.prog 51 #[.pointer (some ⟨q.wp, 0, none⟩)] w fun e w' => e = .returned (.int .i64 (Xf x.S)) ∧ AtQ w0 V q x w' := by
 obtain ⟨tag, hS, _⟩ := h.st
 refine (hS.usedS wf).mono ?_
 rintro e w1 ⟨rfl, hb⟩
 exact ⟨rfl, h.below hb⟩
theorem AtQ.use (h : AtQ w0 V q x w) (f : Nat) (hf : f < 1024) : Calls Tryz.prog 38 #[.pointer (some ⟨q.pp, 0, none⟩), .int .i64 f] w fun e w' => e = .returned (.int .i64 (x.P.use f)) ∧ w' = w := by
 obtain ⟨tag, hS, _⟩ := h.st
 exact hS.useP f hf
theorem AtQ.rdisk (h : AtQ w0 V q x w) (hc : x.D.Calm) (s : Nat) (hs : s < 192) : Calls Tryz.prog 37 #[.pointer (some ⟨q.dp, 0, none⟩), .int .i64 s] w fun e w' => ∃ v, e = .returned (.tuple #[v, .int .i64 0]) ∧ AtQ w0 ((v, bys (x.D.cur s)) :: V) q x w' := by
 obtain ⟨⟨tag0, hS0, low0, hV0⟩, hbel⟩ := h
 have s0 : Step (fun _ => False) tag0 w (retag tag0 w 0) w := Step.anew (Below.refl _ _)
 obtain ⟨low, hV, _⟩ := Zc (C := fun _ => False) (fun h => h) s0 hbel low0 hV0
 have hS := hS0.step s0
 have hnew : ∀ b, w.heap.size ≤ b → retag tag0 w 0 b = 0 := fun b hb => zx _ _ _ _ hb
 generalize retag tag0 w 0 = tag at hS low hV hnew
 clear hS0 low0 hV0 s0
 obtain ⟨sb, off, c, mb, W, L, hD⟩ := hS.disk
 refine (Qk w hD s s rfl hs).mono ?_
 rintro e w1 ⟨v, rfl, hD1, t1, hv⟩
 rw [hc.work] at hD1 hv ⊢
 obtain ⟨hv1, hv2⟩ := hv rfl
 obtain ⟨hS1, s1⟩ := hS.zmk t1 ⟨sb, off, c, mb, W, L, hD1⟩
 obtain ⟨a1, b1, c1⟩ := Zc (C := fun c => c = 3) (by omega) s1 hbel low hV
 refine ⟨v, rfl, ⟨tag, hS1, a1, fun p hp => ?_⟩, c1⟩
 rcases List.mem_cons.1 hp with rfl | hp
 ·exact ⟨Js.1 (SlAt.rd hv1), fun b hb => hnew b (hv2 b hb)⟩
 ·exact b1 p hp
end
end Go.Proofs.YtnhdmnijiphjjaaGreat
/- Pages of files, in plain words: one is written to the disk, one is in no frame: what processes see of it, and which frames are free behind it. No program in it. -/
namespace Go.Proofs.YtnhdmnijiphjjaaGreat
open Go Go.RowKit
section
variable {F : Nat → Prop} {x y : za}
theorem OK.markD (h : OK F x) (k : Int × Int) (dd : Bool) (hk : ∃ v, getL x.CL k = some v) : OK F (x.zy k dd) ∧ (x.zy k dd).abs = x.abs.Zo k dd ∧ (∀ n page, (x.zy k dd).ent n page = x.ent n page) ∧ uo 0 x (x.zy k dd) := by
 obtain ⟨v, hv⟩ := hk
 have w := h.wf.zy k dd
 have e : x.zy k dd = { x with CL := updL x.CL k (v.1, dd) } := by unfold za.zy; rw [hv]
 have he : ∀ n page, (x.zy k dd).ent n page = x.ent n page := fun n page => by rw [e]; rfl
 rw [e] at w he ⊢
 have hfst : ∀ q g, (∃ d, getL (updL x.CL k (v.1, dd)) q = some (g, d)) ↔ ∃ d, getL x.CL q = some (g, d) := fun q g => by
  rw [yh]
  by_cases c : q = k
  ·rw [if_pos c, c, hv]
   constructor
   ·rintro ⟨d, hd⟩
    simp at hd
    exact ⟨v.2, by rw [← hd.1]⟩
   ·rintro ⟨d, hd⟩
    simp at hd
    exact ⟨dd, by rw [hd]⟩
  ·rw [if_neg c]
 have hv2 : ∀ q w, getL (updL x.CL k (v.1, dd)) q = some w → ∃ w0, getL x.CL q = some w0 ∧ w0.1 = w.1 := fun q w hw => by
  obtain ⟨d, hd⟩ := (hfst q w.1).1 ⟨w.2, hw⟩
  exact ⟨_, hd, rfl⟩
 refine ⟨⟨w, fun f n page h1 h2 h3 => h.backE f n page h1 h2 h3, fun q n page h1 h2 h3 => h.slotE q n page h1 h2 h3, h.useB, h.anon, h.table, h.cached, fun q g => (hfst q g).trans (h.cacheE q g), fun q w hw => ?_, fun n pr page h1 h2 => by
  have a := h.area n pr page h1 h2
  rw [he n page]
  exact ⟨a.find, a.own, a.file, a.shared, a.slot⟩⟩, ?_, he, ⟨⟨rfl, rfl⟩, by dsimp only; omega, rfl, fun _ _ _ => Iff.rfl, fun _ => rfl⟩⟩
 ·obtain ⟨w0, h0, _⟩ := hv2 q w hw
  exact h.cacheK q w0 h0
 ·unfold za.abs Abs.Zo
  rw [Abs.mk.injEq]
  refine ⟨rfl, rfl, ?_, ?_, rfl⟩
  ·funext q
   by_cases c : xk q
   ·rw [if_pos c]
    dsimp only
    rw [if_pos c]
    unfold za.uw
    dsimp only
    rw [yh]
    by_cases c2 : q = k
    ·rw [if_pos c2, c2, hv]
    ·rw [if_neg c2]
   ·rw [if_neg c]
    dsimp only
    rw [if_neg c]
  ·funext q
   unfold za.xg
   dsimp only
   rw [yh]
   by_cases c2 : q = k
   ·rw [if_pos c2, if_pos c2]; rfl
   ·rw [if_neg c2, if_neg c2]
def Abs.clean (X : Abs) (k : Int × Int) : Abs := if X.xg k then (X.Jf (za.ym k) (X.file k)).Zo k false else X
def Abs.drop (X : Abs) (k : Int × Int) : Abs := ((X.clean k).Vu k ((X.clean k).cur (za.ym k))).Zo k false
structure CleanD (x : za) (k : Int × Int) (y : za) : Prop where
 ok : Ok0 y
 abs : y.abs = x.abs.clean k
 same : y.P = x.P ∧ y.B = x.B ∧ y.S = x.S ∧ y.T = x.T ∧ y.R = x.R ∧ y.CR = x.CR
 ent : ∀ m pg, y.ent m pg = x.ent m pg
 cl : ∀ q, getL y.CL q = if q = k then (getL x.CL q).map fun v => (v.1, false) else getL x.CL q
 disk : y.D = if x.xg k then x.D.work.1.write (za.ym k) (x.R.read (x.cfr k).toNat 0 64) else x.D
theorem zjm (x : za) {k : Int × Int} (hs : (getL x.CL k).isSome = true) : x.uw k = x.R.read (x.cfr k).toNat 0 64 := by
 unfold za.uw za.cfr
 obtain ⟨v, hv⟩ := Option.isSome_iff_exists.1 hs
 rw [hv]
 rfl
theorem Ok0.uy (h : Ok0 x) {k : Int × Int} (hk : xk k) (hs : (getL x.CL k).isSome = true) (hw : x.xg k = true → x.D.work.2 = 0) : (x.uy k).1 = 0 ∧ CleanD x k (x.uy k).2 := by
 unfold za.uy
 by_cases hd : x.xg k = false
 ·rw [if_pos hd]
  refine ⟨rfl, h, ?_, ⟨rfl, rfl, rfl, rfl, rfl, rfl⟩, fun _ _ => rfl, fun q => ?_, by rw [hd]; rfl⟩
  ·unfold Abs.clean
   have : x.abs.xg k = false := hd
   rw [this]
   rfl
  ·by_cases e : q = k
   ·rw [if_pos e]
    have hd2 : ((getL x.CL k).getD (0, false)).2 = false := hd
    rw [e]
    cases hv : getL x.CL k with
    | none => rfl
    | some v =>
     rw [hv] at hd2
     have hd3 : v.2 = false := hd2
     show some v = some (v.1, false)
     rw [← hd3]
   ·rw [if_neg e]
 ·have hdt : x.xg k = true := by simpa using hd
  have hw0 := hw hdt
  rw [if_neg hd, if_pos hw0]
  refine ⟨rfl, ?_⟩
  dsimp only
  obtain ⟨l, hl⟩ : ∃ l, l = x.R.read (x.cfr k).toNat 0 64 := ⟨_, rfl⟩
  have hl64 : l.length = 64 := by rw [hl]; exact Y7 ..
  have hfile : x.uw k = l := by rw [hl]; exact zjm x hs
  rw [← hl]
  have eW : x.wr (za.ym k) l = { x with D := x.D.work.1.write (za.ym k) l } := by unfold za.wr; rw [if_pos hw0]
  have hcur := wr_D x (za.ym k) l hw0
  have ok1 : Ok0 (x.wr (za.ym k) l) := by
   rw [eW] at hcur ⊢
   refine h.disk _ fun s hs2 => ?_
   have := hcur s
   dsimp only at this
   rw [this]
   split
   ·exact hl64
   ·exact h.ok.wf.secs s hs2
  have a1 : (x.wr (za.ym k) l).abs = x.abs.Jf (za.ym k) l := by
   unfold za.abs Abs.Jf
   rw [Abs.mk.injEq]
   refine ⟨by rw [eW], ?_, ?_, by rw [eW]; rfl, funext hcur⟩
   ·funext m pg
    dsimp only
    by_cases hq : pg < 4096
    ·rw [if_pos hq, if_pos hq]
     by_cases hm : m < 8
     ·refine Yf h.ok m pg hm hq (by rw [eW]) (by rw [eW]; rfl) (fun _ => by rw [eW]) (fun k2 => ?_) fun _ _ _ _ _ => by rw [eW]
      rw [hcur, if_neg]
      have hr := (Ent.ok_n (h.ok.wf.Zy m hq)).2 k2
      unfold za.ym
      unfold xk at hk
      omega
     ·have q1 := h.out m (by omega)
      have q2 : (x.wr (za.ym k) l).T m = none := by rw [eW]; exact q1
      unfold za.pv
      rw [q1, q2]
    ·rw [if_neg hq, if_neg hq]
   ·funext q
    dsimp only
    by_cases hq : xk q
    ·rw [if_pos hq, if_pos hq]
     by_cases e : q = k
     ·unfold za.uw
      rw [eW, e]
      obtain ⟨v, hv⟩ := Option.isSome_iff_exists.1 hs
      dsimp only
      rw [hv]
     ·refine jr h.ok q (by rw [eW]) ?_ fun _ _ _ _ _ => by rw [eW]
      rw [hcur, if_neg]
      intro z
      refine e (Prod.ext ?_ ?_)
      ·unfold za.ym at z; unfold xk at hk hq; omega
      ·unfold za.ym at z; unfold xk at hk hq; omega
    ·rw [if_neg hq, if_neg hq]
  have hv1 : ∃ v, getL (x.wr (za.ym k) l).CL k = some v := by rw [eW]; exact Option.isSome_iff_exists.1 hs
  obtain ⟨m1, m2, m3, m4⟩ := ok1.ok.markD k false hv1
  obtain ⟨v, hv⟩ := Option.isSome_iff_exists.1 hs
  have eM : (x.wr (za.ym k) l).zy k false = { x with D := x.D.work.1.write (za.ym k) l, CL := updL x.CL k (v.1, false) } := by
   unfold za.zy
   rw [eW]
   dsimp only
   rw [hv]
  refine ⟨⟨m1, ?_⟩, ?_, by rw [eM]; exact ⟨rfl, rfl, rfl, rfl, rfl, rfl⟩, fun m pg => ?_, fun q => ?_, ?_⟩
  ·rw [eM]; exact h.out
  ·rw [m2, a1]
   unfold Abs.clean
   have h1 : x.abs.xg k = true := hdt
   have h2 : x.abs.file k = l := by show (if xk k then x.uw k else []) = l; rw [if_pos hk, hfile]
   rw [h1, if_pos rfl, h2]
  ·rw [m3, eW]; rfl
  ·rw [eM]
   dsimp only
   rw [yh]
   by_cases e : q = k
   ·rw [if_pos e, if_pos e, e, hv]; rfl
   ·rw [if_neg e, if_neg e]
  ·rw [eM, hdt, if_pos rfl, hl]
structure DropD (x : za) (k : Int × Int) (f : Nat) (y : za) : Prop where
 ok : Ok0 y
 abs : y.abs = x.abs.drop k
 keeps : uo 0 x y
 free : y.P.use f = 1
 fr : ∀ g, x.P.use g = 1 → y.P.use g = 1
 others : ∀ g, g ≠ f → x.P.use g ≠ 1 → x.P.use g ≠ 2 → y.P.use g = x.P.use g
 ent : ∀ m pg, pg < 4096 → y.ent m pg = if plc m pg ∈ x.B f then Ent.none else x.ent m pg
 slots : ∀ j, j < 32 → y.S.getD j [] = x.S.getD j []
 disk : y.D = if x.xg k then x.D.work.1.write (za.ym k) (x.R.read f 0 64) else x.D
 cl : ∀ q, getL y.CL q = if q = k then none else getL x.CL q
theorem Ok0.Xp (h : Ok0 x) {k : Int × Int} (hk : xk k) (hs : (getL x.CL k).isSome = true) (hw : x.xg k = true → x.D.work.2 = 0) {f : Nat} (hf : x.cfr k = f) : (x.Xp k).1 = 0 ∧ DropD x k f (x.Xp k).2 := by
 obtain ⟨c0, c⟩ := h.uy hk hs hw
 obtain ⟨v, hv⟩ := Option.isSome_iff_exists.1 hs
 obtain ⟨g, q1, q2, q3, q4, q5⟩ := h.ok.Xi hv
 have hvf : v.1 = (f : Int) := by unfold za.cfr at hf; rw [hv] at hf; exact hf
 have hgf : g = f := by omega
 subst hgf
 have e0 : x.Xp k = (0, ((((x.uy k).2.y8 ((x.uy k).2.B (g : Int)) Ent.none)).yu k).vk g) := by
  unfold za.Xp
  rw [if_neg (by rw [hs]; simp), if_neg (by rw [c0]; simp), hf]
 rw [e0]
 refine ⟨rfl, ?_⟩
 dsimp only
 obtain ⟨z, hz⟩ : ∃ z, z = (x.uy k).2 := ⟨_, rfl⟩
 rw [← hz] at c ⊢
 clear hz e0 c0
 obtain ⟨sP, sB, sS, sT, sR, sCR⟩ := c.same
 have hcrz : getL z.CR (g : Int) = some k := by rw [sCR, ← hvf]; exact q4
 have d := c.ok.ok.away (f0 := g) c.ok.out q2 (e := Ent.none) (by decide) (by decide) (fun z => absurd z (by decide))
 obtain ⟨y, hy⟩ : ∃ y, y = z.y8 (z.B g) Ent.none := ⟨_, rfl⟩
 rw [← hy] at d ⊢
 clear hy
 have dm := d.many
 have hout : ∀ m, 8 ≤ m → y.T m = none := fun m hm => by
  have := dm.procs m
  rw [c.ok.out m hm] at this
  simpa using this
 have hcry : getL y.CR (g : Int) = some k := by rw [dm.keep.2.2]; exact hcrz
 obtain ⟨u1, u2, u3, u4, u5, u6⟩ := d.ok.zk0 hout q2 d.nobody hcry
 have huse4 : z.P.use g = 4 := by rw [sP]; exact q3
 have pvs : ∀ m pg, m < 8 → pg < 4096 → y.pv m pg = z.pv m pg := fun m pg hm hq => by
  by_cases hin : plc m pg ∈ z.B g
  ·have hE := (c.ok.ok.backE g m pg q2 hm hq).1 hin
   obtain ⟨pr, hpr⟩ : ∃ pr, z.T m = some pr := by
    cases hT : z.T m with
    | none => rw [Zz hT] at hE; exact absurd hE.1 (by decide)
    | some pr => exact ⟨pr, rfl⟩
   have hao := c.ok.ok.area m pr pg hpr hq
   obtain ⟨a, ha⟩ := hao.find (by omega)
   obtain ⟨p1, p2⟩ := d.here m pg hq hin pr a hpr ha
   rw [hcrz, if_neg (by simp)] at p2
   rw [p1, p2]
   unfold za.pv1
   rw [if_neg (by decide), if_neg (by decide), if_neg (by decide), if_neg]
   intro k1
   have := hao.own a ha hE.1 k1
   rw [hE.2, hcrz] at this
   cases this
  ·exact d.pv m pg hq hin (fun z => absurd z (by decide))
 rw [u3] at u1 u2 u4 u5 u6 ⊢
 obtain ⟨t, ht⟩ : ∃ t : za, t = { y with P := y.P.set g 1, CL := delL y.CL k, CR := delL y.CR g } := ⟨_, rfl⟩
 have tT : t.T = y.T := by rw [ht]
 have tP : ∀ j, t.P.use j = if j = g then 1 else y.P.use j := fun j => by rw [ht]; rfl
 have tZ : t.P.zone = y.P.zone ∧ t.P.iso = y.P.iso := by rw [ht]; exact ⟨rfl, rfl⟩
 have tS : t.S = y.S := by rw [ht]
 have tD : t.D = y.D := by rw [ht]
 have tR : t.R = y.R := by rw [ht]
 have tCL : t.CL = delL y.CL k := by rw [ht]
 rw [← ht] at u1 u2 u4 u5 u6 ⊢
 clear ht u3
 have hcu : z.abs.cur = z.D.cur := rfl
 have hDz : y.D = z.D := dm.keep.1
 have tPu : ∀ j, j ≠ g → x.P.use j ≠ 1 → x.P.use j ≠ 2 → t.P.use j = x.P.use j := fun j hj a b => by
  rw [tP, if_neg hj, dm.use j (by rw [sP]; exact a) (by rw [sP]; exact b), if_neg fun z => hj z.1, sP]
 have tPf : ∀ j, x.P.use j = 1 → t.P.use j = 1 := fun j a => by
  rw [tP]
  split
  ·rfl
  ·exact dm.fr j (by rw [sP]; exact a)
 refine ⟨⟨u1, fun m hm => by rw [tT]; exact hout m hm⟩, ?_, ?_, by rw [tP, if_pos rfl], tPf, tPu, fun m pg hq => ?_, fun j hj => ?_, ?_, fun q => ?_⟩
 ·unfold Abs.drop
  rw [← c.abs]
  unfold za.abs Abs.Vu Abs.Zo
  rw [Abs.mk.injEq]
  refine ⟨funext fun m => by rw [tT]; exact dm.procs m, ?_, ?_, funext fun q => ?_, by rw [tD, hDz]⟩
  ·funext m pg
   dsimp only
   by_cases hq : pg < 4096
   ·rw [if_pos hq, if_pos hq]
    by_cases hm : m < 8
    ·rw [u4 m pg hm hq, pvs m pg hm hq]
    ·unfold za.pv
     rw [tT, hout m (by omega), c.ok.out m (by omega)]
   ·rw [if_neg hq, if_neg hq]
  ·funext q
   dsimp only
   by_cases hq : xk q
   ·rw [if_pos hq, if_pos hq, u5, d.file]
    by_cases e : q = k
    ·rw [if_pos e, if_pos e, hDz]
    ·rw [if_neg e, if_neg e]
   ·rw [if_neg hq, if_neg hq, if_neg]
    intro e; rw [e] at hq; exact hq hk
  ·dsimp only
   rw [u6, d.xg]
 ·have kk := dm.keeps
  refine ⟨by rw [tZ.1, tZ.2, ← sP]; exact kk.zone, ?_, by rw [tR, ← sR]; exact kk.bad, fun j v hv => ?_, fun m => by rw [tT, ← sT]; exact kk.some m⟩
  ·have := kk.room
   rw [sP] at this
   have r2 : y.P.room ≤ t.P.room := zge tZ fun j hj => by
    rw [tP]; split
    ·rfl
    ·exact hj
   omega
  ·by_cases e : j = g
   ·rw [tP, if_pos e, e, q3]; omega
   ·rw [tP, if_neg e, ← sP]; exact kk.fix j v hv
 ·rw [u2 m pg hq, dm.ent m pg hq, c.ent, sB]
 ·rw [tS]
  refine xc (xw d.ok.wf.slots j).1 (xw h.ok.wf.slots j).1 ?_
  refine (List.perm_ext_iff_of_nodup (xw d.ok.wf.slots j).1.nodup (xw h.ok.wf.slots j).1.nodup).2 fun q => ?_
  rw [dm.memS j q hj, sS]
  split
  ·rename_i hin
   refine ⟨fun a => absurd a.1 (by decide), fun a => ?_⟩
   have := (c.ok.ok.zi6 q2 q hin).noS j hj
   rw [sS] at this
   exact absurd a this
  ·exact Iff.rfl
 ·rw [tD, hDz, c.disk, hf]; simp
 ·rw [tCL, Z7 d.ok.wf.nd.1, dm.keep.2.1, c.cl]
  by_cases e : q = k
  ·rw [if_pos e, if_pos e]
  ·rw [if_neg e, if_neg e, if_neg e]
end
end Go.Proofs.YtnhdmnijiphjjaaGreat
