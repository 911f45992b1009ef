/- EvictFrees: what has gone out uses no frame; what was dropped is in none, and is on the disk. -/
import Derived.Test.YtnhdmnijiphjjaaGreatJEv27
import Derived.Test.YtnhdmnijiphjjaaGreatJEv13
set_option linter.unusedVariables false
set_option linter.unusedSimpArgs false
/- EvictFrees: what has gone out uses no frame; what was dropped is in none, and is on the disk. -/
namespace Go.Proofs.YtnhdmnijiphjjaaGreat
open Go Go.RowKit
def entC (e : Ent) : List Value := [.int .i64 e.kind, .int .i64 e.n, .bool e.write]
def entS (b : Nat) : Value := .slice (some ⟨b, 0, none⟩) 3 3
theorem Ur {w : World} {eb : Nat} {e : Ent} (h : SlRd w 1 (entS eb) (entC e).length (entC e)) : w.cell? ⟨eb, 0, none⟩ = some (.int .i64 e.kind) ∧ w.cell? ⟨eb, 1, none⟩ = some (.int .i64 e.n) ∧ w.cell? ⟨eb, 2, none⟩ = some (.bool e.write) := by
 obtain ⟨b, off, c, he, _, _, hx⟩ := SlRd.cells h (by show 0 < 3; omega)
 cases he
 exact ⟨hx 0 _ rfl, hx 1 _ rfl, hx 2 _ rfl⟩
theorem zmj (w : World) (e : Ent) : SlRd (w.alloc (.cells #[.int .i64 e.kind, .int .i64 e.n, .bool e.write] 70)) 1 (entS w.heap.size) (entC e).length (entC e) := by
 refine ⟨rfl, .inr ⟨w.heap.size, 0, 3, rfl, Nat.le_refl _, by decide, by simp, fun u v hu => ?_⟩⟩
 rw [Nat.zero_add, zd7, ← hu, ← Array.getElem?_toList]
 rfl
theorem AtQ.ent {w0 w : World} {V : List (Value × List Value)} {q : Sq} {x : za} (h : AtQ w0 V q x w) (e : Ent) : AtQ w0 ((entS w.heap.size, entC e) :: V) q x (w.alloc (.cells #[.int .i64 e.kind, .int .i64 e.n, .bool e.write] 70)) :=
 h.cells ((Below.refl _ _).alloc (Nat.le_refl _) _) (zmj w e) fun b hb => .inr (by simp [entS, Value.ownBlock] at hb; omega)
theorem BRd.pre {w : World} {b off m n c : Nat} {l t : List UInt8} (h : BRd w (.slice (some ⟨b, off, none⟩) m c) (l ++ t)) (hn : l.length = n) : BRd w (.slice (some ⟨b, off, none⟩) n c) l := by
 subst hn
 obtain ⟨h1, h2⟩ := h
 rcases h2 with h2 | ⟨b', o', c', e, hc, hm, hg, hx⟩
 ·exact absurd h2.1 (by simp)
 ·cases e
  refine ⟨by simp, .inr ⟨b, off, c, rfl, by simp at hc; omega, hm, hg, fun j u hu => hx j u ?_⟩⟩
  have hj : j < (l.map bV).length := (List.getElem?_eq_some_iff.1 hu).1
  rw [List.map_append, List.getElem?_append_left hj]
  exact hu
set_option maxRecDepth 100000 in
set_option maxHeartbeats 4000000 in
theorem zff (vb : Value) (b : List UInt8) (pa : Nat) (hpa : pa < 256) (w : World) (hb0 : BRd w vb b) (hlen : b.length ≤ 64 ∧ b.length ≠ 0) :
  Calls Tryz.prog 9 #[vb, .int .u8 pa] w fun e w' => e = .returned (.bool true) ∧ Below w.heap.size w w' := by
 obtain ⟨ba, bc, rfl, hc3, hc4⟩ := SlRd.form hb0
 obtain ⟨n, hn⟩ : ∃ n, n = b.length := ⟨_, rfl⟩
 rw [← hn] at hlen hc3 ⊢
 have HB : Hid (BRd w (.slice ba n bc) b ∧ b.length = n) := ⟨by rw [hn]; exact hb0, hn.symm⟩
 have hcap : n ≤ maxLen := by omega
 clear hb0 hn hc3 hc4
 obtain ⟨k, hk⟩ : ∃ k, k = pa % 8 := ⟨_, rfl⟩
 have hk8 : k < 8 := by omega
 have hmod := Lib.hid (show (pa : Int) % 8 = k by omega)
 have hm0 : 0 ≤ (pa : Int) % 8 := by omega
 have hm1 : (pa : Int) % 8 < 8 := by omega
 have hp0 : (pa : Int) < 256 := by omega
 have hn64 : ¬ (64 : Int) < n := by omega
 have hn1 : ¬ ((n : Int) = 0) := by omega
 have hn2 : ((n : Int) == 0) = false := beq_eq_false_iff_ne.2 hn1
 have hnn : ¬ n = 0 := hlen.2
 clear hk
 go_enter Tryz.func9, Tryz.ntmps9
 go_wp2_with fail
 refine (Zx w).mono ?_
 rintro e w1 ⟨q, x, rfl, h1, hx⟩
 obtain ⟨x1, x2, x3, x4, f, g, fd⟩ := zfg hx hk8 (b := b) (by rw [HB.out.2]; omega)
 have FD := Lib.hid fd
 have HX := Lib.hid hx
 have ST := Lib.hid (h1.store hx.ok (n := 0) (by omega) (outK hx).2.2 (64 * k) (h1.arg HB.out.1) fd.r1)
 rw [show x.qx ((0 : Nat) : Int) ((64 * k : Nat) : Int) b = (0, x1) from fd.s1] at ST
 clear h1 hx fd
 unfold ptrV at *
 go_wp2_with fail
 rw [hmod.out]
 clear hmod hm0 hm1 hp0 hpa
 rw [show (64 : Int) * (k : Int) = ((64 * k : Nat) : Int) by omega]
 refine ST.out.mono ?_
 rintro e w2 ⟨rfl, h2⟩
 have ST2 := Lib.hid (h2.store FD.out.ok1.1 (n := 0) (by omega) FD.out.ok1.2 (64 * (8 + k)) (h2.arg HB.out.1) FD.out.r2)
 rw [show x1.qx ((0 : Nat) : Int) ((64 * (8 + k) : Nat) : Int) b = (0, x2) from FD.out.s2] at ST2
 clear h2 ST
 unfold ptrV at ST2
 go_wp2_with fail
 rw [show (64 : Int) * (8 + (k : Int)) = ((64 * (8 + k) : Nat) : Int) by omega]
 refine ST2.out.mono ?_
 rintro e w3 ⟨rfl, h3⟩
 have H3 := Lib.hid h3
 obtain ⟨t1, t2⟩ := h3.tree FD.out.ok2.1.ok.wf 0 (by omega) FD.out.ok2.2
 have T1 := Lib.hid (And.intro t1 t2)
 clear h3 ST2 t1 t2
 unfold ptrV at T1
 go_wp2_with fail
 refine T1.out.1.mono ?_
 rintro e u ⟨rfl, hu⟩
 have hu := hu.symm
 subst hu
 go_wp2_with fail
 have G1 := Lib.hid (T1.out.2 w3 (Below.refl _ _) k (by omega))
 obtain ⟨⟨ek, en, ew⟩, he⟩ : ∃ e : Ent, e = x2.ent 0 k := ⟨_, rfl⟩
 rw [← he] at G1
 obtain rfl : ek = 1 := by have := FD.out.ef.1; rw [← he] at this; exact this
 obtain rfl : en = (f : Int) := by have := FD.out.ef.2.1; rw [← he] at this; exact this
 unfold entV at G1
 clear he T1
 refine G1.out.mono ?_
 rintro e w4 ⟨rfl, hb4⟩
 have h4a := (H3.out.below hb4).ent ⟨1, (f : Int), ew⟩
 clear hb4 G1 H3
 go_wp2_with fail
 obtain ⟨e1, he1⟩ : ∃ e1, e1 = w4.heap.size := ⟨_, rfl⟩
 obtain ⟨W4, hW4⟩ : ∃ W4, W4 = w4.alloc (.cells #[.int .i64 (1 : Nat), .int .i64 f, .bool ew] 70) := ⟨_, rfl⟩
 have h4 : AtQ w [(entS e1, entC ⟨1, (f : Int), ew⟩)] q x2 W4 := by rw [he1, hW4]; exact h4a
 have hW4' : W4 = w4.alloc (.cells #[.int .i64 1, .int .i64 f, .bool ew] 70) := hW4
 rw [← hW4', ← he1]
 clear hW4 hW4' he1 h4a
 obtain ⟨t1, t2⟩ := h4.tree FD.out.ok2.1.ok.wf 0 (by omega) FD.out.ok2.2
 have T1 := Lib.hid (And.intro t1 t2)
 have H4 := Lib.hid h4
 clear h4 t1 t2
 unfold ptrV at T1
 refine T1.out.1.mono ?_
 rintro e u ⟨rfl, hu⟩
 have hu := hu.symm
 subst hu
 go_wp2_with fail
 have G1 := Lib.hid (T1.out.2 W4 (Below.refl _ _) (8 + k) (by omega))
 obtain ⟨⟨ek, en, ew2⟩, he⟩ : ∃ e : Ent, e = x2.ent 0 (8 + k) := ⟨_, rfl⟩
 rw [← he, show (((8 + k : Nat)) : Int) = 8 + (k : Int) by omega] at G1
 obtain rfl : en = (g : Int) := by have := FD.out.eg.1; rw [← he] at this; exact this
 unfold entV at G1
 clear he T1
 refine G1.out.mono ?_
 rintro e w5 ⟨rfl, hb5⟩
 have h5 := (H4.out.below hb5).ent ⟨ek, (g : Int), ew2⟩
 clear hb5 G1 H4
 go_wp2_with fail
 obtain ⟨e2, he2⟩ : ∃ e2, e2 = w5.heap.size := ⟨_, rfl⟩
 obtain ⟨W5, hW5⟩ : ∃ W5, W5 = w5.alloc (.cells #[.int .i64 ek, .int .i64 g, .bool ew2] 70) := ⟨_, rfl⟩
 rw [← hW5, ← he2] at h5 ⊢
 clear hW5 he2
 obtain ⟨pr, hpr⟩ := Option.isSome_iff_exists.1 FD.out.ok2.2
 have OU := Lib.hid (h5.zjn FD.out.ok2.1.ok.wf 0 k (by omega) hpr (by omega) fun _ => by rw [FD.out.ef.2.1]; exact FD.out.ef.2.2.2)
 rw [FD.out.out] at OU
 clear hpr h5
 unfold ptrV at OU
 refine OU.out.mono ?_
 rintro e w6 ⟨rfl, h6⟩
 have DR := Lib.hid (h6.evDrop FD.out.ok3.ok.wf 0 k (by omega) (by omega) g FD.out.hv.1 FD.out.hv.2.1 FD.out.eg.2 FD.out.hv.2.2)
 rw [show x3.Xp (((0 : Nat) : Int), (k : Int)) = (0, x4) from FD.out.drop] at DR
 clear OU h6
 unfold ptrV at DR
 go_wp2_with fail
 refine DR.out.mono ?_
 rintro e w7 ⟨rfl, h7⟩
 have DZ := Lib.hid (h7.zmh 0 k (by omega) (by omega) FD.out.none)
 clear DR h7
 unfold ptrV at DZ
 go_wp2_with fail
 refine DZ.out.mono ?_
 rintro e w8 ⟨rfl, h8⟩
 obtain ⟨t1, t2⟩ := h8.tree FD.out.ok4.1.ok.wf 0 (by omega) FD.out.ok4.2
 have T1 := Lib.hid (And.intro t1 t2)
 have H8 := Lib.hid h8
 clear h8 t1 t2 DZ
 unfold ptrV at T1
 go_wp2_with fail
 refine T1.out.1.mono ?_
 rintro e u ⟨rfl, hu⟩
 have hu := hu.symm
 subst hu
 go_wp2_with fail
 have G1 := Lib.hid (T1.out.2 w8 (Below.refl _ _) k (by omega))
 obtain ⟨⟨ek3, en3, ew3⟩, he⟩ : ∃ e : Ent, e = x4.ent 0 k := ⟨_, rfl⟩
 rw [← he] at G1
 obtain rfl : ek3 = 2 := by have := FD.out.ent4; rw [← he] at this; exact this
 unfold entV at G1
 clear he T1
 refine G1.out.mono ?_
 rintro e w9 ⟨rfl, hb9⟩
 have h9a := (H8.out.below hb9).ent ⟨2, en3, ew3⟩
 have d1 : (w9.alloc (.cells #[.int .i64 2, .int .i64 en3, .bool ew3] 70)).cell? ⟨q.sp, 1, none⟩ = some (.pointer (some ⟨q.dp, 0, none⟩)) := h9a.cell (i := 1) (by omega)
 clear hb9 G1 H8
 go_wp2_with fail
 obtain ⟨e3, he3⟩ : ∃ e3, e3 = w9.heap.size := ⟨_, rfl⟩
 obtain ⟨W9, hW9⟩ : ∃ W9, W9 = w9.alloc (.cells #[.int .i64 (2 : Nat), .int .i64 en3, .bool ew3] 70) := ⟨_, rfl⟩
 have h9 : AtQ w [(entS e3, entC ⟨2, en3, ew3⟩), (entS e2, entC ⟨ek, (g : Int), ew2⟩), (entS e1, entC ⟨1, (f : Int), ew⟩)] q x4 W9 := by rw [he3, hW9]; exact h9a
 have hW9' : W9 = w9.alloc (.cells #[.int .i64 2, .int .i64 en3, .bool ew3] 70) := hW9
 rw [← hW9', ← he3]
 clear hW9 hW9' he3 h9a
 obtain ⟨tl, htl⟩ := FD.out.disk.2
 have RD := Lib.hid (h9.rdisk FD.out.disk.1 (96 + k) (by omega))
 rw [htl.1, show (((96 + k : Nat)) : Int) = 96 + (k : Int) by omega] at RD
 have HT := Lib.hid htl
 clear h9 htl
 refine RD.out.mono ?_
 rintro e w10 ⟨v, rfl, h10⟩
 have hv := h10.get (List.mem_cons_self ..)
 obtain ⟨vb, vo, vc, he, _, hvc, _⟩ := SlRd.cells hv (by rw [List.length_map, HT.out.2]; omega)
 subst he
 have hlen : (b ++ tl).length = 64 := HT.out.2
 have hnc : n ≤ vc := by have := HT.out.2; simp at hvc this ⊢; omega
 have c0 : w10.cell? ⟨q.sp, 2, none⟩ = some (.pointer (some ⟨q.pp, 0, none⟩)) := h10.cell (i := 2) (by omega)
 have k3 := Ur (h10.kept (List.mem_cons_of_mem _ (List.mem_cons_self ..)))
 have k2 := Ur (h10.kept (List.mem_cons_of_mem _ (List.mem_cons_of_mem _ (List.mem_cons_self ..))))
 have k1 := Ur (h10.kept (List.mem_cons_of_mem _ (List.mem_cons_of_mem _ (List.mem_cons_of_mem _ (List.mem_cons_self ..)))))
 have c1 : w10.cell? ⟨e1, 0, none⟩ = some (.int .i64 1) := k1.1
 have c2 : w10.cell? ⟨e1, 1, none⟩ = some (.int .i64 f) := k1.2.1
 have c3 : w10.cell? ⟨e2, 1, none⟩ = some (.int .i64 g) := k2.2.1
 have c4 : w10.cell? ⟨e3, 0, none⟩ = some (.int .i64 2) := k3.1
 rw [hlen] at hv ⊢
 have hpre : BRd w10 (.slice (some ⟨vb, vo, none⟩) n vc) b := BRd.pre hv HB.out.2
 have AN : Hid (Calls Tryz.prog 24 #[] w10.drew fun r wa => r = .returned (.bool true) ∧ (wa.cell? ⟨q.sp, 2, none⟩ = some (.pointer (some ⟨q.pp, 0, none⟩)) ∧ wa.cell? ⟨e1, 0, none⟩ = some (.int .i64 1) ∧ wa.cell? ⟨e1, 1, none⟩ = some (.int .i64 f) ∧ wa.cell? ⟨e2, 1, none⟩ = some (.int .i64 g) ∧ wa.cell? ⟨e3, 0, none⟩ = some (.int .i64 2)) ∧
   Below w.heap.size w wa ∧ (Calls Tryz.prog 38 #[.pointer (some ⟨q.pp, 0, none⟩), .int .i64 f] wa fun e w' => e = .returned (.int .i64 1) ∧ w' = wa) ∧ (Calls Tryz.prog 38 #[.pointer (some ⟨q.pp, 0, none⟩), .int .i64 g] wa fun e w' => e = .returned (.int .i64 1) ∧ w' = wa) ∧
   (Calls Tryz.prog 21 #[.slice (some ⟨vb, vo, none⟩) n vc, .slice ba n bc] wa fun r wc => r = .returned (.bool true) ∧ (wc.cell? ⟨q.sp, 2, none⟩ = some (.pointer (some ⟨q.pp, 0, none⟩)) ∧ wc.cell? ⟨e1, 0, none⟩ = some (.int .i64 1) ∧ wc.cell? ⟨e1, 1, none⟩ = some (.int .i64 f) ∧ wc.cell? ⟨e2, 1, none⟩ = some (.int .i64 g) ∧ wc.cell? ⟨e3, 0, none⟩ = some (.int .i64 2)) ∧ Below w.heap.size w wc)) := by
  refine (uj w10.drew).mono ?_
  rintro r wa ⟨rfl, hb⟩
  have hb : Below w10.heap.size w10 wa := (Below.refl _ w10).drew.trans hb
  have cc : ∀ {W : World}, Below w10.heap.size w10 W → W.cell? ⟨q.sp, 2, none⟩ = some (.pointer (some ⟨q.pp, 0, none⟩)) ∧ W.cell? ⟨e1, 0, none⟩ = some (.int .i64 1) ∧ W.cell? ⟨e1, 1, none⟩ = some (.int .i64 f) ∧ W.cell? ⟨e2, 1, none⟩ = some (.int .i64 g) ∧ W.cell? ⟨e3, 0, none⟩ = some (.int .i64 2) := fun {W} hW =>
   ⟨(hW.cell (World.block_lt_of_cell? _ _ c0)).trans c0, (hW.cell (World.block_lt_of_cell? _ _ c1)).trans c1, (hW.cell (World.block_lt_of_cell? _ _ c2)).trans c2, (hW.cell (World.block_lt_of_cell? _ _ c3)).trans c3, (hW.cell (World.block_lt_of_cell? _ _ c4)).trans c4⟩
  have ha := h10.below hb
  have uf := ha.use f FD.out.ef.2.2.1
  have ug := ha.use g FD.out.eg.2
  rw [FD.out.use4.1] at uf
  rw [FD.out.use4.2] at ug
  refine ⟨rfl, cc hb, ha.bel, uf, ug, ?_⟩
  refine (zes wa _ _ b (SlRd.below hpre hb) (SlRd.below HB.out.1 ha.bel) (by rw [HB.out.2]; omega)).mono ?_
  rintro r wc ⟨rfl, hb2⟩
  exact ⟨rfl, cc (hb.trans (hb2.mono hb.size)), (ha.below hb2).bel⟩
 clear h10 RD hv k1 k2 k3 hpre hlen hvc
 go_wp2_with fail
 refine wp_region_held_drew (S := (fun X => X.cell? ⟨q.sp, 2, none⟩ = some (.pointer (some ⟨q.pp, 0, none⟩)) ∧ X.cell? ⟨e1, 0, none⟩ = some (.int .i64 1) ∧ X.cell? ⟨e1, 1, none⟩ = some (.int .i64 f) ∧ X.cell? ⟨e2, 1, none⟩ = some (.int .i64 g) ∧ X.cell? ⟨e3, 0, none⟩ = some (.int .i64 2))) (by kernel_rfl) ⟨c0, c1, c2, c3, c4⟩ (fun hHeld => ?_)
 refine wpAnyH_ready (rs := [0]) (by kernel_rfl) (by simp) ?_
 refine AllReadyH.cons rfl (fun K hK => ?_) AllReadyH.nil
 go_simp
 go_wp2_with (go_at_call 24; refine AN.out.mono ?_; rintro r wa ⟨rfl, ⟨m0, m1, m2, m3, m4⟩, HA⟩)
 have hA := Lib.hid HA
 clear HA
 refine hK.out _ _ ⟨m0, m1, m2, m3, m4⟩ (fun hHeld => ?_)
 clear hK K
 refine zb (v := ?va1) 1 94 rfl rfl (by kernel_rfl) (by kernel_rfl) (by kernel_rfl) (fun _ _ _ h => h) (Or.inl ⟨by rfl, ?hya1⟩) hHeld ?resta1
 case hya1 => ((intro w hSw; (try dsimp only at hSw); go_simp) <;> with_reducible rfl)
 case' resta1 => (simp only [Act.put, List.setIfInBounds_toArray, List.set_cons_zero, List.set_cons_succ])
 refine zb (v := ?va2) 2 95 rfl rfl (by kernel_rfl) (by kernel_rfl) (by kernel_rfl) (fun _ _ _ h => h) (Or.inl ⟨by rfl, ?hya2⟩) hHeld ?resta2
 case hya2 => ((intro w hSw; (try dsimp only at hSw); go_simp) <;> with_reducible rfl)
 case' resta2 => (simp only [Act.put, List.setIfInBounds_toArray, List.set_cons_zero, List.set_cons_succ])
 refine zb (v := ?va3) 3 96 rfl rfl (by kernel_rfl) (by kernel_rfl) (by kernel_rfl) (fun _ _ _ h => h) (Or.inl ⟨by rfl, ?hya3⟩) hHeld ?resta3
 case hya3 => ((intro w hSw; (try dsimp only at hSw); go_simp) <;> with_reducible rfl)
 case' resta3 => (simp only [Act.put, List.setIfInBounds_toArray, List.set_cons_zero, List.set_cons_succ])
 refine zb (v := ?va4) 4 97 rfl rfl (by kernel_rfl) (by kernel_rfl) (by kernel_rfl) (fun _ _ _ h => h) (Or.inl ⟨by rfl, ?hya4⟩) hHeld ?resta4
 case hya4 => ((intro w hSw; (try dsimp only at hSw); go_simp) <;> with_reducible rfl)
 case' resta4 => (simp only [Act.put, List.setIfInBounds_toArray, List.set_cons_zero, List.set_cons_succ])
 refine zb (v := ?va5) 5 98 rfl rfl (by kernel_rfl) (by kernel_rfl) (by kernel_rfl) (fun _ _ _ h => h) (Or.inl ⟨by rfl, ?hya5⟩) hHeld ?resta5
 case hya5 => ((intro w hSw; (try dsimp only at hSw); go_simp) <;> with_reducible rfl)
 case' resta5 => (simp only [Act.put, List.setIfInBounds_toArray, List.set_cons_zero, List.set_cons_succ])
 refine zb (v := ?va6) 6 99 rfl rfl (by kernel_rfl) (by kernel_rfl) (by kernel_rfl) (fun _ _ _ h => h) (Or.inl ⟨by rfl, ?hya6⟩) hHeld ?resta6
 case hya6 => ((intro w hSw; (try dsimp only at hSw); go_simp) <;> with_reducible rfl)
 case' resta6 => (simp only [Act.put, List.setIfInBounds_toArray, List.set_cons_zero, List.set_cons_succ])
 refine zb (v := ?va7) 7 100 rfl rfl (by kernel_rfl) (by kernel_rfl) (by kernel_rfl) (fun _ _ _ h => h) (Or.inl ⟨by rfl, ?hya7⟩) hHeld ?resta7
 case hya7 => ((intro w hSw; (try dsimp only at hSw); go_simp) <;> with_reducible rfl)
 case' resta7 => (simp only [Act.put, List.setIfInBounds_toArray, List.set_cons_zero, List.set_cons_succ])
 refine zb (v := ?va8) 8 101 rfl rfl (by kernel_rfl) (by kernel_rfl) (by kernel_rfl) (fun _ _ _ h => h) (Or.inl ⟨by rfl, ?hya8⟩) hHeld ?resta8
 case hya8 => ((intro w hSw; (try dsimp only at hSw); go_simp) <;> with_reducible rfl)
 case' resta8 => (simp only [Act.put, List.setIfInBounds_toArray, List.set_cons_zero, List.set_cons_succ])
 refine zb (v := ?va9) 9 102 rfl rfl (by kernel_rfl) (by kernel_rfl) (by kernel_rfl) (fun _ _ _ h => h) (Or.inl ⟨by rfl, ?hya9⟩) hHeld ?resta9
 case hya9 => ((intro w hSw; (try dsimp only at hSw); go_simp) <;> with_reducible rfl)
 case' resta9 => (simp only [Act.put, List.setIfInBounds_toArray, List.set_cons_zero, List.set_cons_succ])
 refine zb (v := ?va10) 10 103 rfl rfl (by kernel_rfl) (by kernel_rfl) (by kernel_rfl) (fun _ _ _ h => h) (Or.inl ⟨by rfl, ?hya10⟩) hHeld ?resta10
 case hya10 => ((intro w hSw; (try dsimp only at hSw); go_simp) <;> with_reducible rfl)
 case' resta10 => (simp only [Act.put, List.setIfInBounds_toArray, List.set_cons_zero, List.set_cons_succ])
 refine zb (v := ?va11) 11 104 rfl rfl (by kernel_rfl) (by kernel_rfl) (by kernel_rfl) (fun _ _ _ h => h) (Or.inl ⟨by rfl, ?hya11⟩) hHeld ?resta11
 case hya11 => ((intro w hSw; (try dsimp only at hSw); go_simp) <;> with_reducible rfl)
 case' resta11 => (simp only [Act.put, List.setIfInBounds_toArray, List.set_cons_zero, List.set_cons_succ])
 refine zb (v := ?va12) 12 105 rfl rfl (by kernel_rfl) (by kernel_rfl) (by kernel_rfl) (fun _ _ _ h => h) (Or.inl ⟨by rfl, ?hya12⟩) hHeld ?resta12
 case hya12 => ((intro w hSw; (try dsimp only at hSw); go_simp) <;> with_reducible rfl)
 case' resta12 => (simp only [Act.put, List.setIfInBounds_toArray, List.set_cons_zero, List.set_cons_succ])
 refine zb (v := ?va13) 13 106 rfl rfl (by kernel_rfl) (by kernel_rfl) (by kernel_rfl) (fun _ _ _ h => h) (Or.inl ⟨by rfl, ?hya13⟩) hHeld ?resta13
 case hya13 => ((intro w hSw; (try dsimp only at hSw); go_simp) <;> with_reducible rfl)
 case' resta13 => (simp only [Act.put, List.setIfInBounds_toArray, List.set_cons_zero, List.set_cons_succ])
 refine zb (v := ?va14) 14 107 rfl rfl (by kernel_rfl) (by kernel_rfl) (by kernel_rfl) (fun _ _ _ h => h) (Or.inl ⟨by rfl, ?hya14⟩) hHeld ?resta14
 case hya14 => ((intro w hSw; (try dsimp only at hSw); go_simp) <;> with_reducible rfl)
 case' resta14 => (simp only [Act.put, List.setIfInBounds_toArray, List.set_cons_zero, List.set_cons_succ])
 refine zb (v := ?va15) 15 108 rfl rfl (by kernel_rfl) (by kernel_rfl) (by kernel_rfl) (fun _ _ _ h => h) (Or.inl ⟨by rfl, ?hya15⟩) hHeld ?resta15
 case hya15 => ((intro w hSw; (try dsimp only at hSw); go_simp) <;> with_reducible rfl)
 case' resta15 => (simp only [Act.put, List.setIfInBounds_toArray, List.set_cons_zero, List.set_cons_succ])
 refine zb (v := ?va16) 16 109 rfl rfl (by kernel_rfl) (by kernel_rfl) (by kernel_rfl) (fun _ _ _ h => h) (Or.inl ⟨by rfl, ?hya16⟩) hHeld ?resta16
 case hya16 => ((intro w hSw; (try dsimp only at hSw); go_simp) <;> with_reducible rfl)
 case' resta16 => (simp only [Act.put, List.setIfInBounds_toArray, List.set_cons_zero, List.set_cons_succ])
 refine zb (v := ?va17) 17 110 rfl rfl (by kernel_rfl) (by kernel_rfl) (by kernel_rfl) (fun _ _ _ h => h) (Or.inl ⟨by rfl, ?hya17⟩) hHeld ?resta17
 case hya17 => ((intro w hSw; (try dsimp only at hSw); go_simp) <;> with_reducible rfl)
 case' resta17 => (simp only [Act.put, List.setIfInBounds_toArray, List.set_cons_zero, List.set_cons_succ])
 refine zb (v := ?va18) 18 111 rfl rfl (by kernel_rfl) (by kernel_rfl) (by kernel_rfl) (fun _ _ _ h => h) (Or.inl ⟨by rfl, ?hya18⟩) hHeld ?resta18
 case hya18 => ((intro w hSw; (try dsimp only at hSw); go_simp) <;> with_reducible rfl)
 case' resta18 => (simp only [Act.put, List.setIfInBounds_toArray, List.set_cons_zero, List.set_cons_succ])
 refine zb (v := ?va19) 19 112 rfl rfl (by kernel_rfl) (by kernel_rfl) (by kernel_rfl) (fun _ _ _ h => h) (Or.inl ⟨by rfl, ?hya19⟩) hHeld ?resta19
 case hya19 => ((intro w hSw; (try dsimp only at hSw); go_simp) <;> with_reducible rfl)
 case' resta19 => (simp only [Act.put, List.setIfInBounds_toArray, List.set_cons_zero, List.set_cons_succ])
 refine zb (v := ?va20) 20 113 rfl rfl (by kernel_rfl) (by kernel_rfl) (by kernel_rfl) (fun _ _ _ h => h) (Or.inl ⟨by rfl, ?hya20⟩) hHeld ?resta20
 case hya20 => ((intro w hSw; (try dsimp only at hSw); go_simp) <;> with_reducible rfl)
 case' resta20 => (simp only [Act.put, List.setIfInBounds_toArray, List.set_cons_zero, List.set_cons_succ])
 refine zb (v := ?va21) 21 114 rfl rfl (by kernel_rfl) (by kernel_rfl) (by kernel_rfl) (fun _ _ _ h => h) (Or.inl ⟨by rfl, ?hya21⟩) hHeld ?resta21
 case hya21 => ((intro w hSw; (try dsimp only at hSw); go_simp) <;> with_reducible rfl)
 case' resta21 => (simp only [Act.put, List.setIfInBounds_toArray, List.set_cons_zero, List.set_cons_succ])
 refine zb (v := ?va22) 22 115 rfl rfl (by kernel_rfl) (by kernel_rfl) (by kernel_rfl) (fun _ _ _ h => h) (Or.inl ⟨by rfl, ?hya22⟩) hHeld ?resta22
 case hya22 => ((intro w hSw; (try dsimp only at hSw); go_simp) <;> with_reducible rfl)
 case' resta22 => (simp only [Act.put, List.setIfInBounds_toArray, List.set_cons_zero, List.set_cons_succ])
 refine zb (v := ?va23) 23 116 rfl rfl (by kernel_rfl) (by kernel_rfl) (by kernel_rfl) (fun _ _ _ h => h) (Or.inl ⟨by rfl, ?hya23⟩) hHeld ?resta23
 case hya23 => ((intro w hSw; (try dsimp only at hSw); go_simp) <;> with_reducible rfl)
 case' resta23 => (simp only [Act.put, List.setIfInBounds_toArray, List.set_cons_zero, List.set_cons_succ])
 refine zb (v := ?va24) 24 117 rfl rfl (by kernel_rfl) (by kernel_rfl) (by kernel_rfl) (fun _ _ _ h => h) (Or.inl ⟨by rfl, ?hya24⟩) hHeld ?resta24
 case hya24 => ((intro w hSw; (try dsimp only at hSw); go_simp) <;> with_reducible rfl)
 case' resta24 => (simp only [Act.put, List.setIfInBounds_toArray, List.set_cons_zero, List.set_cons_succ])
 refine wpAnyH_ready (rs := [25]) (by kernel_rfl) (by simp) ?_
 refine AllReadyH.cons rfl (fun K hK => ?_) AllReadyH.nil
 go_simp
 go_wp2_with (go_at_call 38; refine hA.out.2.1.mono ?_; rintro r wb ⟨rfl, hwb⟩)
 have hwb := hwb.symm
 subst hwb
 refine hK.out _ _ ⟨m0, m1, m2, m3, m4⟩ (fun hHeld => ?_)
 clear hK K
 refine zb (v := ?va26) 26 119 rfl rfl (by kernel_rfl) (by kernel_rfl) (by kernel_rfl) (fun _ _ _ h => h) (Or.inl ⟨by rfl, ?hya26⟩) hHeld ?resta26
 case hya26 => ((intro w hSw; (try dsimp only at hSw); go_simp) <;> with_reducible rfl)
 case' resta26 => (simp only [Act.put, List.setIfInBounds_toArray, List.set_cons_zero, List.set_cons_succ])
 refine zb (v := ?va27) 27 120 rfl rfl (by kernel_rfl) (by kernel_rfl) (by kernel_rfl) (fun _ _ _ h => h) (Or.inl ⟨by rfl, ?hya27⟩) hHeld ?resta27
 case hya27 => ((intro w hSw; (try dsimp only at hSw); go_simp) <;> with_reducible rfl)
 case' resta27 => (simp only [Act.put, List.setIfInBounds_toArray, List.set_cons_zero, List.set_cons_succ])
 refine zb (v := ?va28) 28 121 rfl rfl (by kernel_rfl) (by kernel_rfl) (by kernel_rfl) (fun _ _ _ h => h) (Or.inl ⟨by rfl, ?hya28⟩) hHeld ?resta28
 case hya28 => ((intro w hSw; (try dsimp only at hSw); go_simp) <;> with_reducible rfl)
 case' resta28 => (simp only [Act.put, List.setIfInBounds_toArray, List.set_cons_zero, List.set_cons_succ])
 refine zb (v := ?va29) 29 122 rfl rfl (by kernel_rfl) (by kernel_rfl) (by kernel_rfl) (fun _ _ _ h => h) (Or.inl ⟨by rfl, ?hya29⟩) hHeld ?resta29
 case hya29 => ((intro w hSw; (try dsimp only at hSw); go_simp) <;> with_reducible rfl)
 case' resta29 => (simp only [Act.put, List.setIfInBounds_toArray, List.set_cons_zero, List.set_cons_succ])
 refine zb (v := ?va30) 30 123 rfl rfl (by kernel_rfl) (by kernel_rfl) (by kernel_rfl) (fun _ _ _ h => h) (Or.inl ⟨by rfl, ?hya30⟩) hHeld ?resta30
 case hya30 => ((intro w hSw; (try dsimp only at hSw); go_simp) <;> with_reducible rfl)
 case' resta30 => (simp only [Act.put, List.setIfInBounds_toArray, List.set_cons_zero, List.set_cons_succ])
 refine zb (v := ?va31) 31 124 rfl rfl (by kernel_rfl) (by kernel_rfl) (by kernel_rfl) (fun _ _ _ h => h) (Or.inl ⟨by rfl, ?hya31⟩) hHeld ?resta31
 case hya31 => ((intro w hSw; (try dsimp only at hSw); go_simp) <;> with_reducible rfl)
 case' resta31 => (simp only [Act.put, List.setIfInBounds_toArray, List.set_cons_zero, List.set_cons_succ])
 refine zb (v := ?va32) 32 125 rfl rfl (by kernel_rfl) (by kernel_rfl) (by kernel_rfl) (fun _ _ _ h => h) (Or.inl ⟨by rfl, ?hya32⟩) hHeld ?resta32
 case hya32 => ((intro w hSw; (try dsimp only at hSw); go_simp) <;> with_reducible rfl)
 case' resta32 => (simp only [Act.put, List.setIfInBounds_toArray, List.set_cons_zero, List.set_cons_succ])
 refine zb (v := ?va33) 33 126 rfl rfl (by kernel_rfl) (by kernel_rfl) (by kernel_rfl) (fun _ _ _ h => h) (Or.inl ⟨by rfl, ?hya33⟩) hHeld ?resta33
 case hya33 => ((intro w hSw; (try dsimp only at hSw); go_simp) <;> with_reducible rfl)
 case' resta33 => (simp only [Act.put, List.setIfInBounds_toArray, List.set_cons_zero, List.set_cons_succ])
 refine zb (v := ?va34) 34 127 rfl rfl (by kernel_rfl) (by kernel_rfl) (by kernel_rfl) (fun _ _ _ h => h) (Or.inl ⟨by rfl, ?hya34⟩) hHeld ?resta34
 case hya34 => ((intro w hSw; (try dsimp only at hSw); go_simp) <;> with_reducible rfl)
 case' resta34 => (simp only [Act.put, List.setIfInBounds_toArray, List.set_cons_zero, List.set_cons_succ])
 refine wpAnyH_ready (rs := [35]) (by kernel_rfl) (by simp) ?_
 refine AllReadyH.cons rfl (fun K hK => ?_) AllReadyH.nil
 go_simp
 go_wp2_with (go_at_call 38; refine hA.out.2.2.1.mono ?_; rintro r wd ⟨rfl, hwd⟩)
 have hwd := hwd.symm
 subst hwd
 refine hK.out _ _ ⟨m0, m1, m2, m3, m4⟩ (fun hHeld => ?_)
 clear hK K
 refine zb (v := ?va36) 36 129 rfl rfl (by kernel_rfl) (by kernel_rfl) (by kernel_rfl) (fun _ _ _ h => h) (Or.inl ⟨by rfl, ?hya36⟩) hHeld ?resta36
 case hya36 => ((intro w hSw; (try dsimp only at hSw); go_simp) <;> with_reducible rfl)
 case' resta36 => (simp only [Act.put, List.setIfInBounds_toArray, List.set_cons_zero, List.set_cons_succ])
 refine zb (v := ?va37) 37 130 rfl rfl (by kernel_rfl) (by kernel_rfl) (by kernel_rfl) (fun _ _ _ h => h) (Or.inl ⟨by rfl, ?hya37⟩) hHeld ?resta37
 case hya37 => ((intro w hSw; (try dsimp only at hSw); go_simp) <;> with_reducible rfl)
 case' resta37 => (simp only [Act.put, List.setIfInBounds_toArray, List.set_cons_zero, List.set_cons_succ])
 refine zb (v := ?va38) 38 131 rfl rfl (by kernel_rfl) (by kernel_rfl) (by kernel_rfl) (fun _ _ _ h => h) (Or.inl ⟨by rfl, ?hya38⟩) hHeld ?resta38
 case hya38 => ((intro w hSw; (try dsimp only at hSw); go_simp) <;> with_reducible rfl)
 case' resta38 => (simp only [Act.put, List.setIfInBounds_toArray, List.set_cons_zero, List.set_cons_succ])
 refine zb (v := ?va39) 39 132 rfl rfl (by kernel_rfl) (by kernel_rfl) (by kernel_rfl) (fun _ _ _ h => h) (Or.inl ⟨by rfl, ?hya39⟩) hHeld ?resta39
 case hya39 => ((intro w hSw; (try dsimp only at hSw); go_simp) <;> with_reducible rfl)
 case' resta39 => (simp only [Act.put, List.setIfInBounds_toArray, List.set_cons_zero, List.set_cons_succ])
 refine zb (v := ?va40) 40 133 rfl rfl (by kernel_rfl) (by kernel_rfl) (by kernel_rfl) (fun _ _ _ h => h) (Or.inl ⟨by rfl, ?hya40⟩) hHeld ?resta40
 case hya40 => ((intro w hSw; (try dsimp only at hSw); go_simp) <;> with_reducible rfl)
 case' resta40 => (simp only [Act.put, List.setIfInBounds_toArray, List.set_cons_zero, List.set_cons_succ])
 refine zb (v := ?va41) 41 134 rfl rfl (by kernel_rfl) (by kernel_rfl) (by kernel_rfl) (fun _ _ _ h => h) (Or.inl ⟨by rfl, ?hya41⟩) hHeld ?resta41
 case hya41 => ((intro w hSw; (try dsimp only at hSw); go_simp) <;> with_reducible rfl)
 case' resta41 => (simp only [Act.put, List.setIfInBounds_toArray, List.set_cons_zero, List.set_cons_succ])
 refine zb (v := ?va42) 42 135 rfl rfl (by kernel_rfl) (by kernel_rfl) (by kernel_rfl) (fun _ _ _ h => h) (Or.inl ⟨by rfl, ?hya42⟩) hHeld ?resta42
 case hya42 => ((intro w hSw; (try dsimp only at hSw); go_simp) <;> with_reducible rfl)
 case' resta42 => (simp only [Act.put, List.setIfInBounds_toArray, List.set_cons_zero, List.set_cons_succ])
 refine zb (v := ?va43) 43 136 rfl rfl (by kernel_rfl) (by kernel_rfl) (by kernel_rfl) (fun _ _ _ h => h) (Or.inl ⟨by rfl, ?hya43⟩) hHeld ?resta43
 case hya43 => ((intro w hSw; (try dsimp only at hSw); go_simp) <;> with_reducible rfl)
 case' resta43 => (simp only [Act.put, List.setIfInBounds_toArray, List.set_cons_zero, List.set_cons_succ])
 refine zb (v := ?va44) 44 137 rfl rfl (by kernel_rfl) (by kernel_rfl) (by kernel_rfl) (fun _ _ _ h => h) (Or.inl ⟨by rfl, ?hya44⟩) hHeld ?resta44
 case hya44 => ((intro w hSw; (try dsimp only at hSw); go_simp) <;> with_reducible rfl)
 case' resta44 => (simp only [Act.put, List.setIfInBounds_toArray, List.set_cons_zero, List.set_cons_succ])
 refine zb (v := ?va45) 45 138 rfl rfl (by kernel_rfl) (by kernel_rfl) (by kernel_rfl) (fun _ _ _ h => h) (Or.inl ⟨by rfl, ?hya45⟩) hHeld ?resta45
 case hya45 => ((intro w hSw; (try dsimp only at hSw); go_simp) <;> with_reducible rfl)
 case' resta45 => (simp only [Act.put, List.setIfInBounds_toArray, List.set_cons_zero, List.set_cons_succ])
 refine zb (v := ?va46) 46 139 rfl rfl (by kernel_rfl) (by kernel_rfl) (by kernel_rfl) (fun _ _ _ h => h) (Or.inl ⟨by rfl, ?hya46⟩) hHeld ?resta46
 case hya46 => ((intro w hSw; (try dsimp only at hSw); go_simp) <;> with_reducible rfl)
 case' resta46 => (simp only [Act.put, List.setIfInBounds_toArray, List.set_cons_zero, List.set_cons_succ])
 refine zb (v := ?va47) 47 140 rfl rfl (by kernel_rfl) (by kernel_rfl) (by kernel_rfl) (fun _ _ _ h => h) (Or.inl ⟨by rfl, ?hya47⟩) hHeld ?resta47
 case hya47 => ((intro w hSw; (try dsimp only at hSw); go_simp) <;> with_reducible rfl)
 case' resta47 => (simp only [Act.put, List.setIfInBounds_toArray, List.set_cons_zero, List.set_cons_succ])
 refine zb (v := ?va48) 48 141 rfl rfl (by kernel_rfl) (by kernel_rfl) (by kernel_rfl) (fun _ _ _ h => h) (Or.inl ⟨by rfl, ?hya48⟩) hHeld ?resta48
 case hya48 => ((intro w hSw; (try dsimp only at hSw); go_simp) <;> with_reducible rfl)
 case' resta48 => (simp only [Act.put, List.setIfInBounds_toArray, List.set_cons_zero, List.set_cons_succ])
 refine zb (v := ?va49) 49 142 rfl rfl (by kernel_rfl) (by kernel_rfl) (by kernel_rfl) (fun _ _ _ h => h) (Or.inl ⟨by rfl, ?hya49⟩) hHeld ?resta49
 case hya49 => ((intro w hSw; (try dsimp only at hSw); go_simp) <;> with_reducible rfl)
 case' resta49 => (simp only [Act.put, List.setIfInBounds_toArray, List.set_cons_zero, List.set_cons_succ])
 refine zb (v := ?va50) 50 143 rfl rfl (by kernel_rfl) (by kernel_rfl) (by kernel_rfl) (fun _ _ _ h => h) (Or.inl ⟨by rfl, ?hya50⟩) hHeld ?resta50
 case hya50 => ((intro w hSw; (try dsimp only at hSw); go_simp) <;> with_reducible rfl)
 case' resta50 => (simp only [Act.put, List.setIfInBounds_toArray, List.set_cons_zero, List.set_cons_succ])
 refine zb (v := ?va51) 51 144 rfl rfl (by kernel_rfl) (by kernel_rfl) (by kernel_rfl) (fun _ _ _ h => h) (Or.inl ⟨by rfl, ?hya51⟩) hHeld ?resta51
 case hya51 => ((intro w hSw; (try dsimp only at hSw); go_simp) <;> with_reducible rfl)
 case' resta51 => (simp only [Act.put, List.setIfInBounds_toArray, List.set_cons_zero, List.set_cons_succ])
 refine zb (v := ?va52) 52 145 rfl rfl (by kernel_rfl) (by kernel_rfl) (by kernel_rfl) (fun _ _ _ h => h) (Or.inl ⟨by rfl, ?hya52⟩) hHeld ?resta52
 case hya52 => ((intro w hSw; (try dsimp only at hSw); go_simp) <;> with_reducible rfl)
 case' resta52 => (simp only [Act.put, List.setIfInBounds_toArray, List.set_cons_zero, List.set_cons_succ])
 refine zb (v := ?va53) 53 146 rfl rfl (by kernel_rfl) (by kernel_rfl) (by kernel_rfl) (fun _ _ _ h => h) (Or.inl ⟨by rfl, ?hya53⟩) hHeld ?resta53
 case hya53 => ((intro w hSw; (try dsimp only at hSw); go_simp) <;> with_reducible rfl)
 case' resta53 => (simp only [Act.put, List.setIfInBounds_toArray, List.set_cons_zero, List.set_cons_succ])
 refine wpAnyH_ready (rs := [54]) (by kernel_rfl) (by simp) ?_
 refine AllReadyH.cons rfl (fun K hK => ?_) AllReadyH.nil
 go_simp
 go_wp2_with (go_at_call 21; refine hA.out.2.2.2.mono ?_; rintro r wc ⟨rfl, ⟨n0, n1, n2, n3, n4⟩, HC⟩)
 have hC := Lib.hid HC
 clear HC
 refine hK.out _ _ ⟨n0, n1, n2, n3, n4⟩ (fun hHeld => ?_)
 clear hK K
 refine zb (v := ?va55) 55 148 rfl rfl (by kernel_rfl) (by kernel_rfl) (by kernel_rfl) (fun _ _ _ h => h) (Or.inl ⟨by rfl, ?hya55⟩) hHeld ?resta55
 case hya55 => ((intro w hSw; (try dsimp only at hSw); go_simp) <;> with_reducible rfl)
 case' resta55 => (simp only [Act.put, List.setIfInBounds_toArray, List.set_cons_zero, List.set_cons_succ])
 refine zb (v := ?va56) 56 4 rfl rfl (by kernel_rfl) (by kernel_rfl) (by kernel_rfl) (fun _ _ _ h => h) (Or.inl ⟨by rfl, ?hya56⟩) hHeld ?resta56
 case hya56 => ((intro w hSw; (try dsimp only at hSw); go_simp) <;> with_reducible rfl)
 case' resta56 => (simp only [Act.put, List.setIfInBounds_toArray, List.set_cons_zero, List.set_cons_succ])
 refine wpAnyH_done (by kernel_rfl) ?_ _
 go_wp2_with fail
 go_ret
 exact ⟨rfl, hC.out⟩
end Go.Proofs.YtnhdmnijiphjjaaGreat
/- EvictFrees: no bytes; the row's walk, guards and all. -/
namespace Go.Proofs.YtnhdmnijiphjjaaGreat
open Go Go.RowKit
set_option maxRecDepth 100000 in
set_option maxHeartbeats 4000000 in
theorem zdc (ba : Option Addr) (bc : Nat) (pa : Nat) (hpa : pa < 256) (w : World) (hb0 : BRd w (.slice ba 0 bc) []) :
  Calls Tryz.prog 9 #[.slice ba 0 bc, .int .u8 pa] w fun e w' => e = .returned (.bool true) ∧ Below w.heap.size w w' := by
 have HB := Lib.hid hb0
 clear hb0
 obtain ⟨k, hk⟩ : ∃ k, k = pa % 8 := ⟨_, rfl⟩
 have hk8 : k < 8 := by omega
 have hmod := Lib.hid (show (pa : Int) % 8 = k by omega)
 have hm0 : 0 ≤ (pa : Int) % 8 := by omega
 have hm1 : (pa : Int) % 8 < 8 := by omega
 have hp0 : (pa : Int) < 256 := by omega
 clear hk
 go_enter Tryz.func9, Tryz.ntmps9
 go_wp2_with fail
 refine (Zx w).mono ?_
 rintro e w1 ⟨q, x, rfl, h1, hx⟩
 have HX := Lib.hid hx
 have r1 : x.xx 0 ((64 * k : Nat) : Int) ([] : List UInt8).length = 0 := Jg (k := 0) (outK hx).2.2 (by omega) (by omega)
 have r2 : x.xx 0 ((64 * (8 + k) : Nat) : Int) ([] : List UInt8).length = 0 := Jg (k := 0) (outK hx).2.2 (by omega) (by omega)
 have ST := Lib.hid (h1.store hx.ok (n := 0) (by omega) (outK hx).2.2 (64 * k) (h1.arg HB.out) r1)
 rw [show x.qx ((0 : Nat) : Int) ((64 * k : Nat) : Int) [] = (0, x) from za7 (n := 0) r1] at ST
 have R2 := Lib.hid r2
 clear h1 hx r1 r2
 unfold ptrV at *
 go_wp2_with fail
 rw [hmod.out]
 clear hmod hm0 hm1 hp0 hpa
 rw [show (64 : Int) * (k : Int) = ((64 * k : Nat) : Int) by omega]
 refine ST.out.mono ?_
 rintro e w2 ⟨rfl, h2⟩
 have ST2 := Lib.hid (h2.store HX.out.ok (n := 0) (by omega) (outK HX.out).2.2 (64 * (8 + k)) (h2.arg HB.out) R2.out)
 rw [show x.qx ((0 : Nat) : Int) ((64 * (8 + k) : Nat) : Int) [] = (0, x) from za7 (n := 0) R2.out] at ST2
 clear h2 ST R2
 unfold ptrV at ST2
 go_wp2_with fail
 rw [show (64 : Int) * (8 + (k : Int)) = ((64 * (8 + k) : Nat) : Int) by omega]
 refine ST2.out.mono ?_
 rintro e w3 ⟨rfl, h3⟩
 have H3 := Lib.hid h3
 obtain ⟨t1, t2⟩ := h3.tree HX.out.ok.ok.wf 0 (by omega) (outK HX.out).2.2
 have T1 := Lib.hid (And.intro t1 t2)
 clear h3 ST2 t1 t2
 unfold ptrV at T1
 go_wp2_with fail
 refine T1.out.1.mono ?_
 rintro e u ⟨rfl, hu⟩
 have hu := hu.symm
 subst hu
 go_wp2_with fail
 have G1 := Lib.hid (T1.out.2 w3 (Below.refl _ _) k (by omega))
 obtain ⟨⟨ek, en, ew⟩, he⟩ : ∃ e : Ent, e = x.ent 0 k := ⟨_, rfl⟩
 rw [← he] at G1
 obtain rfl : ek = 0 := by have := HX.out.ents 0 k (by omega) (by omega); rw [← he] at this; exact this
 unfold entV at G1
 clear he T1
 refine G1.out.mono ?_
 rintro e w4 ⟨rfl, hb4⟩
 have h4a := (H3.out.below hb4).ent ⟨0, en, ew⟩
 clear hb4 G1 H3
 go_wp2_with fail
 obtain ⟨e1, he1⟩ : ∃ e1, e1 = w4.heap.size := ⟨_, rfl⟩
 obtain ⟨W4, hW4⟩ : ∃ W4, W4 = w4.alloc (.cells #[.int .i64 (0 : Nat), .int .i64 en, .bool ew] 70) := ⟨_, rfl⟩
 have h4 : AtQ w [(entS e1, entC ⟨0, en, ew⟩)] q x W4 := by rw [he1, hW4]; exact h4a
 have hW4' : W4 = w4.alloc (.cells #[.int .i64 0, .int .i64 en, .bool ew] 70) := hW4
 rw [← hW4', ← he1]
 clear hW4 hW4' he1 h4a
 obtain ⟨t1, t2⟩ := h4.tree HX.out.ok.ok.wf 0 (by omega) (outK HX.out).2.2
 have T1 := Lib.hid (And.intro t1 t2)
 have H4 := Lib.hid h4
 clear h4 t1 t2
 unfold ptrV at T1
 refine T1.out.1.mono ?_
 rintro e u ⟨rfl, hu⟩
 have hu := hu.symm
 subst hu
 go_wp2_with fail
 have G1 := Lib.hid (T1.out.2 W4 (Below.refl _ _) (8 + k) (by omega))
 obtain ⟨⟨ek, en2, ew2⟩, he⟩ : ∃ e : Ent, e = x.ent 0 (8 + k) := ⟨_, rfl⟩
 rw [← he, show (((8 + k : Nat)) : Int) = 8 + (k : Int) by omega] at G1
 unfold entV at G1
 clear he T1
 refine G1.out.mono ?_
 rintro e w5 ⟨rfl, hb5⟩
 have h5 := (H4.out.below hb5).ent ⟨ek, en2, ew2⟩
 clear hb5 G1 H4
 go_wp2_with fail
 obtain ⟨W5, hW5⟩ : ∃ W5, W5 = w5.alloc (.cells #[.int .i64 ek, .int .i64 en2, .bool ew2] 70) := ⟨_, rfl⟩
 rw [← hW5] at h5 ⊢
 clear hW5
 have H5 := Lib.hid h5
 clear h5
 refine (uj W5).mono ?_
 rintro e w6 ⟨rfl, hb6⟩
 have h6 := H5.out.below hb6
 have k1 := Ur (h6.kept (List.mem_cons_of_mem _ (List.mem_cons_self ..)))
 have c1 : w6.cell? ⟨e1, 0, none⟩ = some (.int .i64 0) := k1.1
 obtain ⟨pr, hpr⟩ := Option.isSome_iff_exists.1 (outK HX.out).2.2
 have OU := Lib.hid (h6.zjn HX.out.ok.ok.wf 0 k (by omega) hpr (by omega) fun z => by rw [HX.out.ents 0 k (by omega) (by omega)] at z; cases z)
 rw [show x.outF 0 k = (2, x) by unfold za.outF; rw [if_pos (by rw [HX.out.ents 0 k (by omega) (by omega)]; decide)]] at OU
 clear hpr h6 hb6 H5 k1
 unfold ptrV at OU
 go_wp2_with fail
 refine OU.out.mono ?_
 rintro e w7 ⟨rfl, h7⟩
 have H7 := Lib.hid h7.bel
 clear h7 OU c1
 go_wp2_with fail
 go_ret
 exact ⟨rfl, H7.out⟩
set_option maxRecDepth 100000 in
set_option maxHeartbeats 1000000 in
theorem zhe (vb : Value) (b : List UInt8) (p : Int) (w : World) (hb : SlRd w 1 vb b.length (b.flatMap byL)) (_ : ∀ x ∈ b, AnyB x) (hp : (Lit.int .u8 p).wf = true) :
  Calls Tryz.prog 9 #[vb, .int .u8 p] w fun e w' => e = .returned (.bool true) ∧ Below w.heap.size w w' := by
 have hp0 : 0 ≤ p ∧ p ≤ 255 := by simp [Lit.wf] at hp; exact ⟨hp.1, hp.2⟩
 obtain ⟨p, rfl⟩ := Int.eq_ofNat_of_zero_le hp0.1
 by_cases hok : b.length ≤ 64
 ·by_cases hz : b.length = 0
  ·have hn : b = [] := List.length_eq_zero_iff.1 hz
   subst hn
   have h := BRd.of_law hb
   obtain ⟨aa, ac, rfl, h1, h2⟩ := SlRd.form hb
   exact zdc aa ac p (by omega) w h
  ·exact zff vb b p (by omega) w (BRd.of_law hb) ⟨hok, hz⟩
 ·obtain ⟨aa, ac, rfl, h1, h2⟩ := SlRd.form hb
  obtain ⟨n, hn⟩ : ∃ n, n = b.length := ⟨_, rfl⟩
  rw [← hn] at hok h1 ⊢
  have hc1 : n ≤ maxLen := by omega
  have e3 : (64 : Int) < n := by omega
  clear hb hn hok hp hp0
  go_enter Tryz.func9, Tryz.ntmps9
  go_wp2_with fail
  refine (uj w).mono ?_
  rintro e w1 ⟨rfl, hb⟩
  have HB := Lib.hid hb
  clear hb
  go_wp2_with fail
  go_ret
  exact ⟨rfl, HB.out⟩
end Go.Proofs.YtnhdmnijiphjjaaGreat
