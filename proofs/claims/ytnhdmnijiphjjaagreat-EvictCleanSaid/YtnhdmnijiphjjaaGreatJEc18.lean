/- Processes: file: the frame of a page of a file. -/
import Derived.Test.YtnhdmnijiphjjaaGreatJEc17
import Derived.Test.YtnhdmnijiphjjaaGreatJEc16
import Derived.Test.YtnhdmnijiphjjaaGreatJEc13
import Derived.Test.YtnhdmnijiphjjaaGreatJEc9
set_option linter.unusedVariables false
set_option linter.unusedSimpArgs false
set_option maxRecDepth 100000
set_option maxHeartbeats 2000000
namespace Go.Proofs.YtnhdmnijiphjjaaGreat
open Go Go.RowKit
section
variable {w w' : World} {tag tag' : Nat → Nat} {q : Sq} {x : za}
def zk2 (x : za) (f sec : Nat) (c : Int) (y : za) : Prop :=
 (c = 0 ∧ x.D.work.2 = 0 ∧ y = { x with D := x.D.work.1, R := x.R.write f 0 (x.D.cur sec) }) ∨ (c = (x.D.work.2 : Int) ∧ x.D.work.2 ≠ 0 ∧ y = { x with D := x.D.work.1 })
theorem zh6 {bs bk : Nat} {k : Int × Int} (h : Loc w tag q x [(bs, 0, ptrV q.sp), (bk, 0, .int .i64 k.1), (bk, 1, .int .i64 k.2)]) (hk : xc k) (f : Nat) (hf : f < 1024) (hb : x.R.bad f = false) :
  Calls Tryz.prog 251 #[.int .i64 f, .pointer (some ⟨bs, 0, none⟩), .pointer (some ⟨bk, 0, none⟩)] w fun e w2 => ∃ c y tag2, e = .returned (.int .i64 c) ∧ zb w2 tag2 q y ∧ Step (fun c => c = 1 ∨ c = 3) tag w tag2 w2 ∧ zk2 x f (za.yc k) c y := by
 have k1 : k.1 = (k.1.toNat : Int) := by unfold xc at hk; omega
 have k2 : k.2 = (k.2.toNat : Int) := by unfold xc at hk; omega
 have hl1 : k.1.toNat < 4 := by unfold xc at hk; omega
 have hl2 : k.2.toNat < 16 := by unfold xc at hk; omega
 have h0 := h.drew
 have g0 : w.cell? ⟨bs, 0, none⟩ = some (.pointer (some ⟨q.sp, 0, none⟩)) := h.get 0 rfl
 have g1 : w.cell? ⟨bk, 0, none⟩ = some (.int .i64 k.1) := h.get 1 rfl
 have g2 : w.cell? ⟨bk, 1, none⟩ = some (.int .i64 k.2) := h.get 2 rfl
 have g3 : w.cell? ⟨q.sp, 1, none⟩ = some (.pointer (some ⟨q.dp, 0, none⟩)) := h.cell (i := 1) (by omega)
 obtain ⟨rr, hrr⟩ : ∃ rr, rr = x.D.work.2 := ⟨_, rfl⟩
 have RD : Hid (Calls Tryz.prog 252 #[.pointer (some ⟨q.dp, 0, none⟩), .int .i64 k.1, .int .i64 k.2] w.drew fun e w1 => ∃ v, e = .returned (.tuple #[v, .int .i64 rr]) ∧ (w1.cell? ⟨bs, 0, none⟩ = some (.pointer (some ⟨q.sp, 0, none⟩)) ∧ w1.cell? ⟨bk, 0, none⟩ = some (.int .i64 k.1) ∧ w1.cell? ⟨bk, 1, none⟩ = some (.int .i64 k.2) ∧ w1.cell? ⟨q.sp, 1, none⟩ = some (.pointer (some ⟨q.dp, 0, none⟩)) ∧ w1.cell? ⟨q.sp, 0, none⟩ = some (.pointer (some ⟨q.rp, 0, none⟩))) ∧
   zb w1 tag q { x with D := x.D.work.1 } ∧ Step (fun c => c = 3) tag w tag w1 ∧ (rr = 0 → ByAt w1 v (x.D.cur (za.yc k)))) := by
  obtain ⟨sb, off, c, mb, V, L, hD⟩ := h0.sp.disk
  refine (zgg w.drew hD k.1.toNat k.2.toNat k.1 k.2 k1 k2 hl1 hl2).mono ?_
  rintro e w1 ⟨v, rfl, hD1, t1, hv⟩
  have kk := h0.sp.zkb t1 ⟨sb, off, c, mb, V, L, hD1⟩
  have L1 := h0.step kk.2 (by omega) kk.1
  refine ⟨if rr = 0 then v else .slice none 0 0, by rw [hrr]; rfl, ⟨L1.get 0 rfl, L1.get 1 rfl, L1.get 2 rfl, L1.cell (i := 1) (by omega), L1.cell (i := 0) (by omega)⟩, kk.1, ?_, fun e => ?_⟩
  ·exact (Step.of_below (Below.refl _ _).drew).trans kk.2
  ·rw [← hrr] at hv; rw [if_pos e]; exact (hv e).1
 have hlen : (x.D.cur (za.yc k)).length = 64 := by
  obtain ⟨sb, off, c, mb, V, L, hD⟩ := h.sp.disk
  obtain ⟨v, _, hv⟩ := Uy _ hD (za.yc k) (Zx hk)
  exact hv.1
 have HX := Lib.hid (And.intro hf (And.intro hb (And.intro hrr hlen)))
 clear h h0 hf hb hrr hlen k1 k2 hl1 hl2 hk
 go_enter Tryz.func251, Tryz.ntmps251
 go_wp2_with fail
 go_region_held (fun W' => W'.cell? ⟨bs, 0, none⟩ = some (.pointer (some ⟨q.sp, 0, none⟩)) ∧ W'.cell? ⟨bk, 0, none⟩ = some (.int .i64 k.1) ∧ W'.cell? ⟨bk, 1, none⟩ = some (.int .i64 k.2) ∧ W'.cell? ⟨q.sp, 1, none⟩ = some (.pointer (some ⟨q.dp, 0, none⟩))) (go_keep)
  ((go_at_call 252; refine RD.out.mono ?_; rintro e w1 ⟨v, rfl, ⟨m0, m1, m2, m3, m4⟩, HS⟩; have hS := Lib.hid HS; clear HS))
 clear RD g0 g1 g2 g3
 by_cases hr : rr = 0
 ·subst hr
  have hby := hS.out.2.2 rfl
  have hl := HX.out.2.2.2
  obtain ⟨av, cv, rfl, _, _⟩ := SlAt.form hby
  have WR : Hid (Calls Tryz.prog 66 #[.pointer (some ⟨q.rp, 0, none⟩), .int .i64 f, .int .i64 0, .slice av (x.D.cur (za.yc k)).length cv] w1 fun e w2 => e = .returned (.int .i64 0) ∧ zb w2 tag q { x with D := x.D.work.1, R := x.R.write f 0 (x.D.cur (za.yc k)) } ∧ Step (fun c => c = 1) tag w1 tag w2) := by
   refine (Xi w1 _ _ _ _ hS.out.1.ram _ (x.D.cur (za.yc k)) (ByAt.reads hby) f 0 f 0 rfl rfl HX.out.1 (by omega) (by omega) HX.out.2.1).mono ?_
   rintro e w2 ⟨rfl, k1, k2, _⟩
   have kk := hS.out.1.ram' k2 k1
   exact ⟨rfl, kk.1, kk.2⟩
  generalize (x.D.cur (za.yc k)).length = nl at WR ⊢
  clear hby hl
  go_wp2_with fail
  refine WR.out.mono ?_
  rintro e w2 ⟨rfl, h2, s2⟩
  have H2 := Lib.hid (And.intro h2 s2)
  clear h2 s2 m0 m1 m2 m3 m4
  go_wp2_with fail
  exact bodyPost_ret (v := .int .i64 0) (by simp [results, Tryz.results251, go_sem]) rfl ⟨0, _, tag, rfl, H2.out.1, (hS.out.2.1.mono fun c hc => .inr hc).trans (H2.out.2.mono fun c hc => .inl hc), .inl ⟨rfl, HX.out.2.2.1.symm, rfl⟩⟩
 ·have n1 : ((rr : Int) == 0) = false := beq_eq_false_iff_ne.2 (by omega)
  have n2 : ((rr : Int) = 0) = False := eq_false (by omega)
  have HR := Lib.hid hr
  clear hr m0 m1 m2 m3 m4
  go_wp2_with fail
  exact bodyPost_ret (v := .int .i64 rr) (by simp [results, Tryz.results251, go_sem]) rfl ⟨rr, _, tag, rfl, hS.out.1, hS.out.2.1.mono fun c hc => .inr hc, .inr ⟨by rw [HX.out.2.2.1], by rw [← HX.out.2.2.1]; exact HR.out, rfl⟩⟩
theorem zb.cput (h : zb w tag q x) (k : Int × Int) (f : Int) : Calls Tryz.prog 85 #[.pointer (some ⟨q.cp, 0, none⟩), .agg #[.int .i64 k.1, .int .i64 k.2], .int .i64 f] w fun e w' => (∃ b, e = .returned (.bool b)) ∧ zb w' tag q (x.vw k f) ∧ Step (fun c => c = 5) tag w tag w' := by
 obtain ⟨hc, t1, t2, t3⟩ := h.cache
 unfold za.vw
 cases h1 : (getL x.CL k).isSome with
 | true =>
  rw [if_pos (.inl rfl)]
  refine (ziy w q.cp q.c1 q.c2 x.CL x.CR hc k f h1).mono ?_
  rintro e w1 ⟨rfl, hb⟩
  exact ⟨⟨_, rfl⟩, h.below hb, Step.of_below hb⟩
 | false =>
  cases h2 : (getL x.CR f).isSome with
  | true =>
   rw [if_pos (.inr rfl)]
   refine (zko w q.cp q.c1 q.c2 x.CL x.CR hc k f h1 h2).mono ?_
   rintro e w1 ⟨rfl, hb⟩
   exact ⟨⟨_, rfl⟩, h.below hb, Step.of_below hb⟩
  | false =>
   rw [if_neg (by simp)]
   refine (zns w q.cp q.c1 q.c2 x.CL x.CR hc k f (by simpa using h1) (by simpa using h2)).mono ?_
   rintro e w1 ⟨rfl, t, hc1⟩
   have kk := h.zii (Turn.touch (O := fun b => tag b = 5) t fun k hk => .inl (by simp at hk; rcases hk with rfl | rfl <;> assumption)) hc1
   exact ⟨⟨_, rfl⟩, kk.1, kk.2⟩
theorem zb.Y4 (h : zb w tag q x) (k : Int × Int) : Calls Tryz.prog 96 #[.pointer (some ⟨q.cp, 0, none⟩), .agg #[.int .i64 k.1, .int .i64 k.2]] w fun e w' => e = .returned (.tuple #[.int .i64 ((getL x.CL k).getD (0, false)).1, .bool (getL x.CL k).isSome]) ∧ Below w.heap.size w w' :=
 zge w q.cp q.c1 q.c2 x.CL x.CR h.cache.1 k
theorem zb.cmark (h : zb w tag q x) (k : Int × Int) (d : Bool) : Calls Tryz.prog 86 #[.pointer (some ⟨q.cp, 0, none⟩), .agg #[.int .i64 k.1, .int .i64 k.2], .bool d] w fun e w' => (∃ b, e = .returned (.bool b)) ∧ zb w' tag q (x.zz k d) ∧ Step (fun c => c = 5) tag w tag w' := by
 obtain ⟨hc, t1, t2, t3⟩ := h.cache
 refine (zi2 w q.cp q.c1 q.c2 x.CL x.CR hc k d).mono ?_
 rintro e w1 ⟨rfl, t, hc1⟩
 have kk := h.zii (Turn.touch (O := fun b => tag b = 5) t fun k hk => .inl (by simp at hk; rcases hk with rfl; assumption)) hc1
 exact ⟨⟨_, rfl⟩, kk.1, kk.2⟩
theorem zb.cdrop (h : zb w tag q x) (k : Int × Int) : Calls Tryz.prog 84 #[.pointer (some ⟨q.cp, 0, none⟩), .agg #[.int .i64 k.1, .int .i64 k.2]] w fun e w' => (∃ b, e = .returned (.bool b)) ∧ zb w' tag q (x.y8 k) ∧ Step (fun c => c = 5) tag w tag w' := by
 obtain ⟨hc, t1, t2, t3⟩ := h.cache
 refine (zi9 w q.cp q.c1 q.c2 x.CL x.CR hc k).mono ?_
 rintro e w1 ⟨rfl, t, hc1⟩
 have kk := h.zii (Turn.touch (O := fun b => tag b = 5) t fun k hk => .inl (by simp at hk; rcases hk with rfl | rfl <;> assumption)) hc1
 exact ⟨⟨_, rfl⟩, kk.1, kk.2⟩
theorem zb.cof (h : zb w tag q x) (f : Int) : Calls Tryz.prog 82 #[.pointer (some ⟨q.cp, 0, none⟩), .int .i64 f] w fun e w' => e = .returned (.tuple #[zo ((getL x.CR f).getD (0, 0)), .bool (getL x.CR f).isSome]) ∧ Below w.heap.size w w' :=
 znu w q.cp q.c1 q.c2 x.CL x.CR h.cache.1 f
def CFi (c : Nat) : Prop := c = 1 ∨ c = 2 ∨ c = 3 ∨ c = 5
theorem zh7 (h : zb w tag q x) (wf : WF x) {k : Int × Int} (hk : xc k) :
  Calls Tryz.prog 235 #[ptrV q.sp, .agg #[.int .i64 k.1, .int .i64 k.2]] w fun e w' => e = .returned (.tuple #[.int .i64 (x.ve k).1.1, .int .i64 (x.ve k).1.2]) ∧ ∃ tag', zb w' tag' q (x.ve k).2 ∧ Step CFi tag w tag' w' := by
 obtain ⟨w0, hw0⟩ : ∃ w0, w0 = (w.alloc (.cells #[ptrV q.sp] 24 (0, 0))).alloc (.cells #[.int .i64 k.1, .int .i64 k.2] 133 (0, 0)) := ⟨_, rfl⟩
 have hb0 : Below w.heap.size w w0 := by rw [hw0]; exact ((Below.refl w.heap.size w).alloc (Nat.le_refl _) _).alloc (by simp) _
 have nb2 : w0.heap[w.heap.size + 1]? = some (.cells #[.int .i64 k.1, .int .i64 k.2] 133 (0, 0)) := by
  rw [hw0]
  have := heap_alloc_new (w.alloc (.cells #[ptrV q.sp] 24 (0, 0))) (.cells #[.int .i64 k.1, .int .i64 k.2] 133 (0, 0))
  rw [World.size_alloc] at this
  exact this
 have nb1 : w0.heap[w.heap.size]? = some (.cells #[ptrV q.sp] 24 (0, 0)) := by
  rw [hw0, Below.heap_alloc _ _ _ (by simp)]
  exact heap_alloc_new w _
 obtain ⟨L0, s0⟩ := h.loc0.more hb0 [(w.heap.size, 0, ptrV q.sp), (w.heap.size + 1, 0, .int .i64 k.1), (w.heap.size + 1, 1, .int .i64 k.2)] (fun t ht => by
  simp at ht
  rcases ht with rfl | rfl | rfl
  ·exact ⟨Nat.le_refl _, zn nb1 0 rfl⟩
  ·exact ⟨by simp, zn nb2 0 rfl⟩
  ·exact ⟨by simp, zn nb2 1 rfl⟩)
 obtain ⟨tag0, ht0⟩ : ∃ tag0, tag0 = retag tag w 0 := ⟨_, rfl⟩
 rw [List.append_nil] at L0
 rw [← ht0] at L0 s0
 clear ht0 nb1 nb2 hb0
 have g0 : w0.cell? ⟨w.heap.size, 0, none⟩ = some (.pointer (some ⟨q.sp, 0, none⟩)) := L0.get 0 rfl
 have g1 : w0.cell? ⟨w.heap.size + 1, 0, none⟩ = some (.int .i64 k.1) := L0.get 1 rfl
 have g2 : w0.cell? ⟨w.heap.size + 1, 1, none⟩ = some (.int .i64 k.2) := L0.get 2 rfl
 have g3 : w0.cell? ⟨q.sp, 4, none⟩ = some (.pointer (some ⟨q.cp, 0, none⟩)) := L0.cell (i := 4) (by omega)
 obtain ⟨v, hv⟩ : ∃ v, v = getL x.CL k := ⟨_, rfl⟩
 have FR : Hid (Calls Tryz.prog 96 #[.pointer (some ⟨q.cp, 0, none⟩), .agg #[.int .i64 k.1, .int .i64 k.2]] w0.drew fun e w1 => e = .returned (.tuple #[.int .i64 (v.getD (0, false)).1, .bool v.isSome]) ∧ (w1.cell? ⟨w.heap.size, 0, none⟩ = some (.pointer (some ⟨q.sp, 0, none⟩)) ∧ w1.cell? ⟨w.heap.size + 1, 0, none⟩ = some (.int .i64 k.1) ∧ w1.cell? ⟨w.heap.size + 1, 1, none⟩ = some (.int .i64 k.2) ∧ w1.cell? ⟨q.sp, 4, none⟩ = some (.pointer (some ⟨q.cp, 0, none⟩))) ∧
   Loc w1 tag0 q x [(w.heap.size, 0, ptrV q.sp), (w.heap.size + 1, 0, .int .i64 k.1), (w.heap.size + 1, 1, .int .i64 k.2)] ∧ Step (fun _ => False) tag w tag0 w1) := by
  refine (L0.drew.sp.Y4 k).mono ?_
  rintro e w1 ⟨rfl, hb⟩
  have L1 := L0.drew.below hb
  exact ⟨by rw [hv], ⟨L1.get 0 rfl, L1.get 1 rfl, L1.get 2 rfl, L1.cell (i := 4) (by omega)⟩, L1, s0.trans ((Step.of_below (Below.refl _ _).drew).trans (Step.of_below hb))⟩
 obtain ⟨R, hR⟩ : ∃ R, R = x.ve k := ⟨_, rfl⟩
 have HR := Lib.hid hR
 have HV := Lib.hid (And.intro hv (And.intro wf hk))
 have HW := Lib.hid hw0
 rw [← hR]
 clear h L0 s0 hR hv wf hk hw0
 unfold ptrV at HW ⊢
 go_enter Tryz.func235, Tryz.ntmps235
 go_wp2_with fail
 rw [← HW.out]
 go_region_held (fun W' => W'.cell? ⟨w.heap.size, 0, none⟩ = some (.pointer (some ⟨q.sp, 0, none⟩)) ∧ W'.cell? ⟨w.heap.size + 1, 0, none⟩ = some (.int .i64 k.1) ∧ W'.cell? ⟨w.heap.size + 1, 1, none⟩ = some (.int .i64 k.2) ∧ W'.cell? ⟨q.sp, 4, none⟩ = some (.pointer (some ⟨q.cp, 0, none⟩))) (go_keep)
  ((go_at_call 96; refine FR.out.mono ?_; rintro e w1 ⟨rfl, ⟨m0, m1, m2, m3⟩, HL⟩; have hL := Lib.hid HL; clear HL))
 clear FR g0 g1 g2 g3
 cases v with
 | some v =>
  clear m0 m1 m2 m3
  go_wp2_with fail
  have e0 : R = ((v.1, 0), x) := by rw [HR.out]; unfold za.ve; rw [← HV.out.1]
  rw [e0]
  exact bodyPost_ret (v := .tuple #[.int .i64 v.1, .int .i64 0]) (by simp [results, Tryz.results235, go_sem]) rfl ⟨rfl, tag0, hL.out.1.sp, hL.out.2.mono fun _ h => h.elim⟩
 | none =>
  have e0 : R = if (x.zw 4 (za.yc k)).1.2 = 0 then ((x.zw 4 (za.yc k)).1, (x.zw 4 (za.yc k)).2.vw k (x.zw 4 (za.yc k)).1.1) else x.zw 4 (za.yc k) := by
   rw [HR.out]; unfold za.ve; rw [← HV.out.1]
  have HE := Lib.hid e0
  clear e0
  have FH : Hid (∀ fv, fv = Value.func (.func 251) #[] #[.pointer (some ⟨w.heap.size, 0, none⟩), .pointer (some ⟨w.heap.size + 1, 0, none⟩)] → Calls Tryz.prog 213 #[.pointer (some ⟨q.sp, 0, none⟩), .int .i64 4, fv] w1 fun e w2 => ∃ tag2, e = .returned (.tuple #[.int .i64 (x.zw 4 (za.yc k)).1.1, .int .i64 (x.zw 4 (za.yc k)).1.2]) ∧ zb w2 tag2 q (x.zw 4 (za.yc k)).2 ∧ Step (fun c => c = 1 ∨ c = 2 ∨ c = 3) tag0 w1 tag2 w2) := fun fv efv => by
   cases hnx : x.P.next true with
   | none =>
    have ed : x.zw 4 (za.yc k) = ((0, 4), x) := by unfold za.zw; rw [hnx]
    rw [ed]
    refine (Zu hL.out.1.sp 4 (by omega) hnx fv).mono ?_
    rintro e w2 ⟨rfl, hb⟩
    exact ⟨retag tag0 w1 0, rfl, hL.out.1.sp.step (Step.anew hb), Step.anew hb⟩
   | some f =>
    obtain ⟨hf, hfu⟩ := Xe hnx
    have hbad := HV.out.2.1.qm hf (by omega)
    subst efv
    refine (zey hL.out.1.sp 4 (by omega) f hnx hf 251 _ _ (enters_of Tryz.func251 (by kernel_rfl) rfl) (fun c => c = 1 ∨ c = 2 ∨ c = 3) (by omega) (zk2 { x with P := x.P.set f 4 } f (za.yc k)) (fun w2 h2 s2 => ?_)).mono ?_
    ·have L2 := hL.out.1.step s2 (by omega) h2
     refine (zh6 L2 HV.out.2.2 f hf hbad).mono ?_
     rintro e w3 ⟨c, y, tag3, rfl, h3, s3, hz⟩
     refine ⟨c, y, tag3, rfl, h3, s3.mono fun c hc => by omega, hz, fun _ => ?_⟩
     have hu4 : y.P.use f = 4 := by
      rcases hz with ⟨_, _, rfl⟩ | ⟨_, _, rfl⟩ <;> exact if_pos rfl
     omega
    ·rintro e w3 ⟨c, y, tag3, rfl, h3, s3, hz⟩
     refine ⟨tag3, ?_, ?_, s3⟩
     ·unfold za.zw
      rw [hnx]
      dsimp only
      rcases hz with ⟨rfl, hw, rfl⟩ | ⟨rfl, hw, rfl⟩
      ·rw [if_pos hw]; rfl
      ·rw [if_neg hw, if_neg (by omega)]
     ·unfold za.zw
      rw [hnx]
      dsimp only
      rcases hz with ⟨rfl, hw, rfl⟩ | ⟨rfl, hw, rfl⟩
      ·rw [if_pos hw]
       rw [if_pos rfl] at h3
       exact h3
      ·rw [if_neg hw]
       rw [if_neg (by omega)] at h3
       dsimp only at h3 ⊢
       rw [Ux hf (by omega) (by omega)]
       exact h3
  obtain ⟨D, hD⟩ : ∃ D, D = x.zw 4 (za.yc k) := ⟨_, rfl⟩
  rw [← hD] at FH HE
  clear hD m1 m2 m3
  go_wp2_with fail
  refine (FH.out _ rfl).mono ?_
  rintro e w2 ⟨tag2, rfl, h2, s2⟩
  obtain ⟨⟨df, dc⟩, dy⟩ := D
  dsimp only at h2 HE ⊢
  have L2 := hL.out.1.step s2 (by omega) h2
  have S2 := Lib.hid (hL.out.2.mono (C' := CFi) (fun _ h => h.elim) |>.trans (s2.mono fun c hc => by unfold CFi; omega))
  clear FH m0
  by_cases hc : dc = 0
  ·subst hc
   have g0 : w2.cell? ⟨w.heap.size, 0, none⟩ = some (.pointer (some ⟨q.sp, 0, none⟩)) := L2.get 0 rfl
   have g1 : w2.cell? ⟨w.heap.size + 1, 0, none⟩ = some (.int .i64 k.1) := L2.get 1 rfl
   have g2 : w2.cell? ⟨w.heap.size + 1, 1, none⟩ = some (.int .i64 k.2) := L2.get 2 rfl
   have g3 : w2.cell? ⟨q.sp, 4, none⟩ = some (.pointer (some ⟨q.cp, 0, none⟩)) := L2.cell (i := 4) (by omega)
   have PC : Hid (Calls Tryz.prog 85 #[.pointer (some ⟨q.cp, 0, none⟩), .agg #[.int .i64 k.1, .int .i64 k.2], .int .i64 df] w2.drew fun e w3 => ∃ b, e = .returned (.bool b) ∧ (w3.cell? ⟨w.heap.size, 0, none⟩ = some (.pointer (some ⟨q.sp, 0, none⟩)) ∧ w3.cell? ⟨w.heap.size + 1, 0, none⟩ = some (.int .i64 k.1) ∧ w3.cell? ⟨w.heap.size + 1, 1, none⟩ = some (.int .i64 k.2) ∧ w3.cell? ⟨q.sp, 4, none⟩ = some (.pointer (some ⟨q.cp, 0, none⟩))) ∧ zb w3 tag2 q (dy.vw k df) ∧ Step CFi tag w tag2 w3) := by
    refine (L2.drew.sp.cput k df).mono ?_
    rintro e w3 ⟨⟨b, rfl⟩, h3, s3⟩
    have L3 := L2.drew.step s3 (by omega) h3
    exact ⟨b, rfl, ⟨L3.get 0 rfl, L3.get 1 rfl, L3.get 2 rfl, L3.cell (i := 4) (by omega)⟩, h3, S2.out.trans ((Step.of_below (Below.refl _ _).drew).trans (s3.mono fun c hc => by unfold CFi; omega))⟩
   clear L2 h2 s2
   go_wp2_with fail
   go_region_held (fun W' => W'.cell? ⟨w.heap.size, 0, none⟩ = some (.pointer (some ⟨q.sp, 0, none⟩)) ∧ W'.cell? ⟨w.heap.size + 1, 0, none⟩ = some (.int .i64 k.1) ∧ W'.cell? ⟨w.heap.size + 1, 1, none⟩ = some (.int .i64 k.2) ∧ W'.cell? ⟨q.sp, 4, none⟩ = some (.pointer (some ⟨q.cp, 0, none⟩))) (go_keep)
    ((go_at_call 85; refine PC.out.mono ?_; rintro e w3 ⟨b, rfl, ⟨m0, m1, m2, m3⟩, HL⟩; have hL3 := Lib.hid HL; clear HL))
   clear PC g0 g1 g2 g3 m0 m1 m2 m3
   go_wp2_with fail
   have e1 : R = ((df, 0), dy.vw k df) := by rw [HE.out]; rfl
   rw [e1]
   exact bodyPost_ret (v := .tuple #[.int .i64 df, .int .i64 0]) (by simp [results, Tryz.results235, go_sem]) rfl ⟨rfl, tag2, hL3.out⟩
  ·have n1 : (dc == 0) = false := beq_eq_false_iff_ne.2 hc
   have n2 : (dc = 0) = False := eq_false hc
   have H2 := Lib.hid h2
   have HC := Lib.hid hc
   clear L2 h2 s2 hc
   go_wp2_with fail
   have e1 : R = ((df, dc), dy) := by rw [HE.out]; exact if_neg HC.out
   rw [e1]
   exact bodyPost_ret (v := .tuple #[.int .i64 df, .int .i64 dc]) (by simp [results, Tryz.results235, go_sem]) rfl ⟨rfl, tag2, H2.out, S2.out⟩
end
section
variable {w w' : World} {tag tag' : Nat → Nat} {q : Sq} {x : za}
theorem zh5 {bs bk : Nat} {k : Nat} (h : Loc w tag q x [(bs, 0, ptrV q.sp), (bk, 0, .int .i64 k)]) (hk : k < 32) (f : Nat) (hf : f < 1024) (hb : x.R.bad f = false) :
  Calls Tryz.prog 233 #[.int .i64 f, .pointer (some ⟨bs, 0, none⟩), .pointer (some ⟨bk, 0, none⟩)] w fun e w2 => ∃ c y tag2, e = .returned (.int .i64 c) ∧ zb w2 tag2 q y ∧ Step (fun c => c = 1 ∨ c = 3) tag w tag2 w2 ∧ zk2 x f (160 + k) c y := by
 have h0 := h.drew
 have g0 : w.cell? ⟨bs, 0, none⟩ = some (.pointer (some ⟨q.sp, 0, none⟩)) := h.get 0 rfl
 have g1 : w.cell? ⟨bk, 0, none⟩ = some (.int .i64 k) := h.get 1 rfl
 have g3 : w.cell? ⟨q.sp, 1, none⟩ = some (.pointer (some ⟨q.dp, 0, none⟩)) := h.cell (i := 1) (by omega)
 obtain ⟨rr, hrr⟩ : ∃ rr, rr = x.D.work.2 := ⟨_, rfl⟩
 have RD : Hid (Calls Tryz.prog 234 #[.pointer (some ⟨q.dp, 0, none⟩), .int .i64 k] w.drew fun e w1 => ∃ v, e = .returned (.tuple #[v, .int .i64 rr]) ∧ (w1.cell? ⟨bs, 0, none⟩ = some (.pointer (some ⟨q.sp, 0, none⟩)) ∧ w1.cell? ⟨bk, 0, none⟩ = some (.int .i64 k) ∧ w1.cell? ⟨q.sp, 1, none⟩ = some (.pointer (some ⟨q.dp, 0, none⟩)) ∧ w1.cell? ⟨q.sp, 0, none⟩ = some (.pointer (some ⟨q.rp, 0, none⟩))) ∧
   zb w1 tag q { x with D := x.D.work.1 } ∧ Step (fun c => c = 3) tag w tag w1 ∧ (rr = 0 → ByAt w1 v (x.D.cur (160 + k)))) := by
  obtain ⟨sb, off, c, mb, V, L, hD⟩ := h0.sp.disk
  refine (zgb w.drew hD k k rfl hk).mono ?_
  rintro e w1 ⟨v, rfl, hD1, t1, hv⟩
  have kk := h0.sp.zkb t1 ⟨sb, off, c, mb, V, L, hD1⟩
  have L1 := h0.step kk.2 (by omega) kk.1
  refine ⟨if rr = 0 then v else .slice none 0 0, by rw [hrr]; rfl, ⟨L1.get 0 rfl, L1.get 1 rfl, L1.cell (i := 1) (by omega), L1.cell (i := 0) (by omega)⟩, kk.1, ?_, fun e => ?_⟩
  ·exact (Step.of_below (Below.refl _ _).drew).trans kk.2
  ·rw [← hrr] at hv; rw [if_pos e]; exact (hv e).1
 have hlen : (x.D.cur (160 + k)).length = 64 := by
  obtain ⟨sb, off, c, mb, V, L, hD⟩ := h.sp.disk
  obtain ⟨v, _, hv⟩ := Uy _ hD (160 + k) (by omega)
  exact hv.1
 have HX := Lib.hid (And.intro hf (And.intro hb (And.intro hrr hlen)))
 clear h h0 hf hb hrr hlen hk
 go_enter Tryz.func233, Tryz.ntmps233
 go_wp2_with fail
 go_region_held (fun W' => W'.cell? ⟨bs, 0, none⟩ = some (.pointer (some ⟨q.sp, 0, none⟩)) ∧ W'.cell? ⟨bk, 0, none⟩ = some (.int .i64 k) ∧ W'.cell? ⟨q.sp, 1, none⟩ = some (.pointer (some ⟨q.dp, 0, none⟩))) (go_keep)
  ((go_at_call 234; refine RD.out.mono ?_; rintro e w1 ⟨v, rfl, ⟨m0, m1, m3, m4⟩, HS⟩; have hS := Lib.hid HS; clear HS))
 clear RD g0 g1 g3
 by_cases hr : rr = 0
 ·subst hr
  have hby := hS.out.2.2 rfl
  have hl := HX.out.2.2.2
  obtain ⟨av, cv, rfl, _, _⟩ := SlAt.form hby
  have WR : Hid (Calls Tryz.prog 66 #[.pointer (some ⟨q.rp, 0, none⟩), .int .i64 f, .int .i64 0, .slice av (x.D.cur (160 + k)).length cv] w1 fun e w2 => e = .returned (.int .i64 0) ∧ zb w2 tag q { x with D := x.D.work.1, R := x.R.write f 0 (x.D.cur (160 + k)) } ∧ Step (fun c => c = 1) tag w1 tag w2) := by
   refine (Xi w1 _ _ _ _ hS.out.1.ram _ (x.D.cur (160 + k)) (ByAt.reads hby) f 0 f 0 rfl rfl HX.out.1 (by omega) (by omega) HX.out.2.1).mono ?_
   rintro e w2 ⟨rfl, k1, k2, _⟩
   have kk := hS.out.1.ram' k2 k1
   exact ⟨rfl, kk.1, kk.2⟩
  generalize (x.D.cur (160 + k)).length = nl at WR ⊢
  clear hby hl
  go_wp2_with fail
  refine WR.out.mono ?_
  rintro e w2 ⟨rfl, h2, s2⟩
  have H2 := Lib.hid (And.intro h2 s2)
  clear h2 s2 m0 m1 m3 m4
  go_wp2_with fail
  exact bodyPost_ret (v := .int .i64 0) (by simp [results, Tryz.results233, go_sem]) rfl ⟨0, _, tag, rfl, H2.out.1, (hS.out.2.1.mono fun c hc => .inr hc).trans (H2.out.2.mono fun c hc => .inl hc), .inl ⟨rfl, HX.out.2.2.1.symm, rfl⟩⟩
 ·have n1 : ((rr : Int) == 0) = false := beq_eq_false_iff_ne.2 (by omega)
  have n2 : ((rr : Int) = 0) = False := eq_false (by omega)
  have HR := Lib.hid hr
  clear hr m0 m1 m3 m4
  go_wp2_with fail
  exact bodyPost_ret (v := .int .i64 rr) (by simp [results, Tryz.results233, go_sem]) rfl ⟨rr, _, tag, rfl, hS.out.1, hS.out.2.1.mono fun c hc => .inr hc, .inr ⟨by rw [HX.out.2.2.1], by rw [← HX.out.2.2.1]; exact HR.out, rfl⟩⟩
theorem zb.ofS (h : zb w tag q x) (wf : WF x) (k : Nat) (hk : k < 32) :
  Calls Tryz.prog 112 #[.pointer (some ⟨q.wp, 0, none⟩), .int .i64 k] w fun e w' => ∃ v', e = .returned v' ∧ PlAt w' v' (x.S.getD k []) ∧ Below w.heap.size w w' ∧ ∀ b, v'.ownBlock = some b → w.heap.size ≤ b := by
 obtain ⟨S, V, hB, hS⟩ := h.swap
 have hl : k < x.S.length := by rw [wf.slots.1]; exact hk
 have e : x.S.getD k [] = x.S[k] := by rw [List.getD_eq_getElem?_getD, List.getElem?_eq_getElem hl]; rfl
 have hm := x9 wf.slots k
 have hlen := q9 hm.1 hm.2
 rw [e] at hlen ⊢
 exact zfc w q.wp S V x.S hB k x.S[k] (List.getElem?_eq_getElem hl) (by omega)
def CA (c : Nat) : Prop := c = 1 ∨ c = 2 ∨ c = 3 ∨ c = 4 ∨ c = 5 ∨ c = 6 ∨ 10 ≤ c ∧ c < 18
theorem Q8 {n c : Nat} (hn : n < 8) (h : CP n c) : CA c := by unfold CP at h; unfold CA; omega
theorem CA_CFi {c : Nat} (h : CFi c) : CA c := by unfold CFi at h; unfold CA; omega
theorem CA0 : ¬ CA 0 := by unfold CA; omega
theorem Qh (x : za) (l : List (Int × Int)) (p : Int × Int) (e : Ent) : x.xk (l ++ [p]) e = ((x.xk l e).putF p.1.toNat p.2.toNat e).2 := by
 unfold za.xk
 rw [List.foldl_append]
 rfl
theorem WF.putAny {x : za} (h : WF x) (o : ∀ n, 8 ≤ n → x.T n = none) {n page : Nat} (hpg : page < 4096) {e : Ent} (he : e.ok = true) : WF (x.putF n page e).2 ∧ ∀ m, 8 ≤ m → (x.putF n page e).2.T m = none := by
 cases hp : x.T n with
 | none =>
  have ev : x.putF n page e = (2, x) := by unfold za.putF; rw [hp]
  rw [ev]
  exact ⟨h, o⟩
 | some pr =>
  have hn : n < 8 := by
   rcases Nat.lt_or_ge n 8 with h8 | h8
   ·exact h8
   ·rw [o n h8] at hp; cases hp
  have d := h.putF hn hp hpg he
  refine ⟨d.wf, fun m hm => ?_⟩
  rw [d.oth m (by omega)]
  exact o m hm
theorem WF.xk {x : za} (h : WF x) (o : ∀ n, 8 ≤ n → x.T n = none) (l : List (Int × Int)) (hl : ∀ p ∈ l, InR p) {e : Ent} (he : e.ok = true) : WF (x.xk l e) ∧ ∀ m, 8 ≤ m → (x.xk l e).T m = none := by
 induction l generalizing x with
 | nil => exact ⟨h, o⟩
 | cons p l ih =>
  obtain ⟨a, b⟩ := h.putAny o (n := p.1.toNat) (hl p (List.mem_cons_self ..)).plc.2.2 he
  exact ih a b fun q hq => hl q (List.mem_cons_of_mem _ hq)
theorem zm6 (h : zb w tag q x) (wf : WF x) (k : Nat) (hk : k < 32) :
  Calls Tryz.prog 211 #[ptrV q.sp, .int .i64 k] w fun e w' => e = .returned (.tuple #[.int .i64 (x.inF k).1.1, .int .i64 (x.inF k).1.2]) ∧ ∃ tag', zb w' tag' q (x.inF k).2 ∧ Step CA tag w tag' w' := by
 obtain ⟨w0, hw0⟩ : ∃ w0, w0 = (w.alloc (.cells #[ptrV q.sp] 24 (0, 0))).alloc (.cells #[.int .i64 k] 3 (0, 0)) := ⟨_, rfl⟩
 have hb0 : Below w.heap.size w w0 := by rw [hw0]; exact ((Below.refl w.heap.size w).alloc (Nat.le_refl _) _).alloc (by simp) _
 have nb2 : w0.heap[w.heap.size + 1]? = some (.cells #[.int .i64 k] 3 (0, 0)) := by
  rw [hw0]
  have := heap_alloc_new (w.alloc (.cells #[ptrV q.sp] 24 (0, 0))) (.cells #[.int .i64 k] 3 (0, 0))
  rw [World.size_alloc] at this
  exact this
 have nb1 : w0.heap[w.heap.size]? = some (.cells #[ptrV q.sp] 24 (0, 0)) := by
  rw [hw0, Below.heap_alloc _ _ _ (by simp)]
  exact heap_alloc_new w _
 obtain ⟨L0, s0⟩ := h.loc0.more hb0 [(w.heap.size, 0, ptrV q.sp), (w.heap.size + 1, 0, .int .i64 k)] (fun t ht => by
  simp at ht
  rcases ht with rfl | rfl
  ·exact ⟨Nat.le_refl _, zn nb1 0 rfl⟩
  ·exact ⟨by simp, zn nb2 0 rfl⟩)
 obtain ⟨tag0, ht0⟩ : ∃ tag0, tag0 = retag tag w 0 := ⟨_, rfl⟩
 rw [List.append_nil] at L0
 rw [← ht0] at L0 s0
 clear ht0 nb1 nb2 hb0
 have g0 : w0.cell? ⟨w.heap.size, 0, none⟩ = some (.pointer (some ⟨q.sp, 0, none⟩)) := L0.get 0 rfl
 obtain ⟨R, hR⟩ : ∃ R, R = x.inF k := ⟨_, rfl⟩
 have FH : Hid (∀ fv, fv = Value.func (.func 233) #[] #[.pointer (some ⟨w.heap.size, 0, none⟩), .pointer (some ⟨w.heap.size + 1, 0, none⟩)] → Calls Tryz.prog 213 #[.pointer (some ⟨q.sp, 0, none⟩), .int .i64 3, fv] w0 fun e w2 => ∃ tag2, e = .returned (.tuple #[.int .i64 (x.zw 3 (160 + k)).1.1, .int .i64 (x.zw 3 (160 + k)).1.2]) ∧ zb w2 tag2 q (x.zw 3 (160 + k)).2 ∧ Step (fun c => c = 1 ∨ c = 2 ∨ c = 3) tag0 w0 tag2 w2) := fun fv efv => by
  cases hnx : x.P.next true with
  | none =>
   have ed : x.zw 3 (160 + k) = ((0, 4), x) := by unfold za.zw; rw [hnx]
   rw [ed]
   refine (Zu L0.sp 3 (by omega) hnx fv).mono ?_
   rintro e w2 ⟨rfl, hb⟩
   exact ⟨retag tag0 w0 0, rfl, L0.sp.step (Step.anew hb), Step.anew hb⟩
  | some f =>
   obtain ⟨hf, hfu⟩ := Xe hnx
   have hbad := wf.qm hf (by omega)
   subst efv
   refine (zey L0.sp 3 (by omega) f hnx hf 233 _ _ (enters_of Tryz.func233 (by kernel_rfl) rfl) (fun c => c = 1 ∨ c = 2 ∨ c = 3) (by omega) (zk2 { x with P := x.P.set f 3 } f (160 + k)) (fun w2 h2 s2 => ?_)).mono ?_
   ·have L2 := L0.step s2 (by omega) h2
    refine (zh5 L2 hk f hf hbad).mono ?_
    rintro e w3 ⟨c, y, tag3, rfl, h3, s3, hz⟩
    refine ⟨c, y, tag3, rfl, h3, s3.mono fun c hc => by omega, hz, fun _ => ?_⟩
    have hu4 : y.P.use f = 3 := by
     rcases hz with ⟨_, _, rfl⟩ | ⟨_, _, rfl⟩ <;> exact if_pos rfl
    omega
   ·rintro e w3 ⟨c, y, tag3, rfl, h3, s3, hz⟩
    refine ⟨tag3, ?_, ?_, s3⟩
    ·unfold za.zw
     rw [hnx]
     dsimp only
     rcases hz with ⟨rfl, hw, rfl⟩ | ⟨rfl, hw, rfl⟩
     ·rw [if_pos hw]; rfl
     ·rw [if_neg hw, if_neg (by omega)]
    ·unfold za.zw
     rw [hnx]
     dsimp only
     rcases hz with ⟨rfl, hw, rfl⟩ | ⟨rfl, hw, rfl⟩
     ·rw [if_pos hw]
      rw [if_pos rfl] at h3
      exact h3
     ·rw [if_neg hw]
      rw [if_neg (by omega)] at h3
      dsimp only at h3 ⊢
      rw [Ux hf (by omega) (by omega)]
      exact h3
 have hD0 : R = if (x.zw 3 (160 + k)).1.2 = 0 then ((x.zw 3 (160 + k)).1, (x.zw 3 (160 + k)).2.xk ((x.zw 3 (160 + k)).2.S.getD k []) ⟨1, (x.zw 3 (160 + k)).1.1, false⟩) else ((0, (x.zw 3 (160 + k)).1.2), (x.zw 3 (160 + k)).2) := hR
 have wfD : WF (x.zw 3 (160 + k)).2 ∧ (x.zw 3 (160 + k)).2.T = x.T ∧ ((x.zw 3 (160 + k)).1.2 = 0 → ∃ f : Nat, (x.zw 3 (160 + k)).1.1 = f ∧ f < 1024) := by
  rcases wf.zw 3 (160 + k) (by omega) (by omega) (wf.secs _ (by omega)) with ⟨_, e⟩ | ⟨f, _, _, e, d, _⟩ | ⟨f, _, hw, e, d, _⟩
  ·rw [e]; exact ⟨wf, rfl, fun e => by simp at e⟩
  ·exact ⟨d.wf, d.keep.1, fun _ => ⟨f, by rw [e], d.was.1⟩⟩
  ·exact ⟨d.wf, d.keep.1, fun e2 => by rw [e] at e2; dsimp only at e2; omega⟩
 have hout : ∀ n, 8 ≤ n → (x.zw 3 (160 + k)).2.T n = none := by rw [wfD.2.1]; exact h.out
 obtain ⟨D, hD⟩ : ∃ D, D = x.zw 3 (160 + k) := ⟨_, rfl⟩
 rw [← hD] at FH hD0 wfD hout
 have HE := Lib.hid hD0
 have HV := Lib.hid (And.intro wfD (And.intro hout hk))
 have HW := Lib.hid hw0
 have HL0 := Lib.hid (And.intro L0 s0)
 rw [← hR]
 clear h L0 s0 hR hD hD0 wfD hout hk wf hw0
 unfold ptrV at HW ⊢
 go_enter Tryz.func211, Tryz.ntmps211
 go_wp2_with fail
 rw [← HW.out]
 refine (FH.out _ rfl).mono ?_
 rintro e w2 ⟨tag2, rfl, h2, s2⟩
 obtain ⟨⟨df, dc⟩, dy⟩ := D
 dsimp only at h2 HE HV ⊢
 have L2 := HL0.out.1.step s2 (by omega) h2
 have S2 := Lib.hid (HL0.out.2.mono (C' := CA) (fun _ h => h.elim) |>.trans (s2.mono fun c hc => by unfold CA; omega))
 clear FH g0
 by_cases hc : dc = 0
 ·subst hc
  obtain ⟨f, rfl, hf⟩ := HV.out.1.2.2 rfl
  have g0 : w2.cell? ⟨w.heap.size, 0, none⟩ = some (.pointer (some ⟨q.sp, 0, none⟩)) := L2.get 0 rfl
  have g1 : w2.cell? ⟨w.heap.size + 1, 0, none⟩ = some (.int .i64 k) := L2.get 1 rfl
  have g3 : w2.cell? ⟨q.sp, 5, none⟩ = some (.pointer (some ⟨q.wp, 0, none⟩)) := L2.cell (i := 5) (by omega)
  obtain ⟨l, hl⟩ : ∃ l, l = dy.S.getD k [] := ⟨_, rfl⟩
  have OF : Hid (Calls Tryz.prog 112 #[.pointer (some ⟨q.wp, 0, none⟩), .int .i64 k] w2.drew fun e w3 => ∃ a c, e = .returned (.slice a l.length c) ∧ (w3.cell? ⟨w.heap.size, 0, none⟩ = some (.pointer (some ⟨q.sp, 0, none⟩)) ∧ w3.cell? ⟨w.heap.size + 1, 0, none⟩ = some (.int .i64 k) ∧ w3.cell? ⟨q.sp, 5, none⟩ = some (.pointer (some ⟨q.wp, 0, none⟩))) ∧ PlAt w3 (.slice a l.length c) l ∧
    Loc w3 (retag tag2 w2 0) q dy [(w.heap.size, 0, ptrV q.sp)] ∧ Step CA tag w (retag tag2 w2 0) w3 ∧ ∀ b, (Value.slice a l.length c).ownBlock = some b → w2.heap.size ≤ b) := by
   have OS := L2.drew.sp.ofS HV.out.1.1 k HV.out.2.2
   rw [← hl] at OS
   refine OS.mono ?_
   rintro e w3 ⟨v', rfl, hp, hb, ho⟩
   obtain ⟨a, c, rfl, _, _⟩ := SlAt.form hp
   have hb2 : Below w2.heap.size w2 w3 := (Below.refl _ w2).drew.trans hb
   obtain ⟨L3, s3⟩ := L2.more hb2 [] (fun t ht => by cases ht)
   exact ⟨a, c, rfl, ⟨L3.get 0 rfl, L3.get 1 rfl, L3.cell (i := 5) (by omega)⟩, hp, L3.sub (fun t ht => by simp at ht; simp [ht]), S2.out.trans (s3.mono fun _ h => h.elim), ho⟩
  have HL9 := Lib.hid hl
  clear L2 h2 s2 hl
  go_wp2_with fail
  go_region_held (fun W' => W'.cell? ⟨w.heap.size, 0, none⟩ = some (.pointer (some ⟨q.sp, 0, none⟩)) ∧ W'.cell? ⟨w.heap.size + 1, 0, none⟩ = some (.int .i64 k) ∧ W'.cell? ⟨q.sp, 5, none⟩ = some (.pointer (some ⟨q.wp, 0, none⟩))) (go_keep)
   ((go_at_call 112; refine OF.out.mono ?_; rintro e w3 ⟨a, cc, rfl, ⟨m0, m1, m2⟩, HL⟩; have hL3 := Lib.hid HL; clear HL))
  clear OF g0 g1 g3 m0 m1 m2
  have hR1 : R = (((f : Int), 0), dy.xk l ⟨1, (f : Int), false⟩) := by rw [HL9.out, HE.out]; rfl
  have hin : ∀ p ∈ l, InR p := by rw [HL9.out]; exact (x9 HV.out.1.1.slots k).2
  have hlen : l.length ≤ 32768 := by rw [HL9.out]; exact q9 (x9 HV.out.1.1.slots k).1 (x9 HV.out.1.1.slots k).2
  have HR1 := Lib.hid (And.intro hR1 (And.intro hin hf))
  have HLEN := Lib.hid hlen
  clear hR1 hin hlen
  go_wp2_with fail
  go_loopw [26] (fun iv W => ∃ (i : Nat) (tag' : Nat → Nat), i ≤ l.length ∧ iv = .int .i64 i ∧ Loc W tag' q (dy.xk (l.take i) ⟨1, (f : Int), false⟩) [(w.heap.size, 0, ptrV q.sp)] ∧ Step CA tag w tag' W ∧ PlAt W (.slice a l.length cc) l ∧ ∀ b, (Value.slice a l.length cc).ownBlock = some b → tag' b = 0) (fun iv _ => l.length - (intOf iv).toNat)
  case atStart =>
   refine ⟨0, _, by omega, rfl, hL3.out.2.1, hL3.out.2.2.1, hL3.out.1, fun b hb => zy _ _ _ _ (hL3.out.2.2.2 b hb)⟩
  case round =>
   obtain ⟨i, tg, hi, rfl, hLoc, hSt, hPl, hOw⟩ := hrel
   by_cases hlt : i < l.length
   ·obtain ⟨p, hp⟩ : ∃ p, l[i]? = some p := ⟨l[i], List.getElem?_eq_getElem hlt⟩
    have hpos : 0 < (pl l).length := by have := hPl.1; omega
    obtain ⟨pb, poff, pc, epv, _, _, _⟩ := SlAt.cells hPl hpos
    cases epv
    have hpe : p = l[i] := by rw [List.getElem?_eq_getElem hlt] at hp; exact (Option.some.inj hp).symm
    obtain ⟨k0, k1⟩ := PlAt.cell hPl i hlt
    rw [← hpe] at k0 k1
    obtain ⟨pe, pn, ppg⟩ := (HR1.out.2.1 p (List.mem_of_getElem? hp)).plc
    have p1 : p.1 = (p.1.toNat : Int) := congrArg Prod.fst pe
    have p2 : p.2 = (p.2.toNat : Int) := congrArg Prod.snd pe
    have g0 : wr.cell? ⟨w.heap.size, 0, none⟩ = some (.pointer (some ⟨q.sp, 0, none⟩)) := hLoc.get 0 rfl
    have ga : ∀ o, (wr.alloc o).cell? ⟨w.heap.size, 0, none⟩ = some (.pointer (some ⟨q.sp, 0, none⟩)) := fun o => (World.cell?_alloc_lt _ _ _ (World.block_lt_of_cell? wr _ g0)).trans g0
    obtain ⟨W2, hW2⟩ : ∃ W2, W2 = wr.alloc (.cells #[.int .i64 p.1, .int .i64 p.2] 58) := ⟨_, rfl⟩
    have hbW : Below wr.heap.size wr W2 := by rw [hW2]; exact (Below.refl _ _).alloc (Nat.le_refl _) _
    have wfz := HV.out.1.1.xk HV.out.2.1 (l.take i) (fun q hq => HR1.out.2.1 q (List.mem_of_mem_take hq)) (e := ⟨1, (f : Int), false⟩) (by have := HR1.out.2.2; simp [Ent.ok, most]; omega)
    have PC : Hid (Calls Tryz.prog 88 #[.pointer (some ⟨q.sp, 0, none⟩), .agg #[.int .i64 p.1, .int .i64 p.2], .agg #[.int .i64 1, .int .i64 f, .bool false]] W2 fun e w5 => (∃ c, e = .returned (.int .i64 c)) ∧ ∃ tag', Loc w5 tag' q (dy.xk (l.take (i + 1)) ⟨1, (f : Int), false⟩) [(w.heap.size, 0, ptrV q.sp)] ∧ Step CA tag w tag' w5 ∧ PlAt w5 (.slice (some ⟨pb, poff, none⟩) l.length cc) l ∧ ∀ b, (Value.slice (some ⟨pb, poff, none⟩) l.length cc).ownBlock = some b → tag' b = 0) := by
     obtain ⟨L2, s2⟩ := hLoc.more hbW [] (fun t ht => by cases ht)
     have := Z7 L2.sp wfz.1 p.1.toNat p.2.toNat pn ppg ⟨1, (f : Int), false⟩ (by have := HR1.out.2.2; simp [Ent.ok, most]; omega)
     rw [← p1, ← p2] at this
     refine this.mono ?_
     rintro e w5 ⟨rfl, tag5, h5, s5⟩
     have s5' : Step CA (retag tg wr 0) W2 tag5 w5 := s5.mono fun c hc => Q8 pn hc
     have L5 := L2.step s5' CA0 h5
     have hOw2 : ∀ b, (Value.slice (some ⟨pb, poff, none⟩) l.length cc).ownBlock = some b → retag tg wr 0 b = 0 := fun b hb => by
      unfold retag
      split
      ·exact hOw b hb
      ·rfl
     have hP2 : PlAt W2 (.slice (some ⟨pb, poff, none⟩) l.length cc) l := SlAt.below hPl hbW
     refine ⟨⟨_, rfl⟩, tag5, ⟨?_, L5.loc⟩, (hSt.trans (s2.mono fun _ h => h.elim)).trans s5', SlAt.keep hP2 fun b hb => (s5'.keeps CA0 b (SlAt.lt hP2 b hb) (hOw2 b hb)).2, fun b hb => (s5'.keeps CA0 b (SlAt.lt hP2 b hb) (hOw2 b hb)).1⟩
     have e1 : l.take (i + 1) = l.take i ++ [p] := by rw [List.take_add_one, hp]; rfl
     rw [e1, Qh]
     exact L5.sp
    have HWW := Lib.hid hW2
    have i1 : (i : Int) < l.length := by omega
    have i2 : (0 : Int) ≤ i := by omega
    have HLT := Lib.hid (And.intro hlt (And.intro hi HLEN.out))
    clear hLoc hSt hPl hOw hpos pe pn ppg p1 p2 hbW wfz hW2 hlt hi hpe hp
    go_wp2_with fail
    rw [← HWW.out]
    refine PC.out.mono ?_
    rintro e w5 ⟨⟨c, rfl⟩, h5⟩
    have H5 := Lib.hid h5
    clear h5 PC g0 k0 k1 ga
    have d5 : IntKind.i64.wrap ((i : Int) + 1) = i + 1 := by have := HLT.out; simp [IntKind.wrap, IntKind.bits, IntKind.signed]; omega
    clear i1 i2
    go_wp2_with fail
    go_roundw
    case rel =>
     obtain ⟨tag', a1, a2, a3, a4⟩ := H5.out
     exact ⟨i + 1, tag', HLT.out.1, by go_num, a1, a2, a3, a4⟩
    case measure => have := HLT.out.1; simp [intOf]; omega
   ·obtain rfl : i = l.length := by omega
    have H5 := Lib.hid (And.intro hLoc hSt)
    clear hLoc hSt hPl hOw
    go_wp2_with fail
    rw [HR1.out.1]
    refine bodyPost_ret (v := .tuple #[.int .i64 f, .int .i64 0]) (by simp [results, Tryz.results211, go_sem]) rfl ⟨rfl, tg, ?_, H5.out.2⟩
    have := H5.out.1.sp
    rw [List.take_length] at this
    exact this
 ·have n1 : (dc == 0) = false := beq_eq_false_iff_ne.2 hc
  have H2 := Lib.hid h2
  have HC := Lib.hid hc
  clear L2 h2 s2 hc
  go_wp2_with fail
  have e1 : R = ((0, dc), dy) := by rw [HE.out]; exact if_neg HC.out
  rw [e1]
  exact bodyPost_ret (v := .tuple #[.int .i64 0, .int .i64 dc]) (by simp [results, Tryz.results211, go_sem]) rfl ⟨rfl, tag2, H2.out, S2.out⟩
end
def za.putM (x : za) (l : List (Int × Int)) (e : Int × Int → Ent) : za := l.foldl (fun y p => (y.putF p.1.toNat p.2.toNat (e p)).2) x
theorem zg5 (x : za) (n page : Nat) (l : List (Int × Int)) (e : Int × Int → Ent) : x.putM (plc n page :: l) e = (x.putF n page (e (plc n page))).2.putM l e := by
 unfold za.putM
 rw [List.foldl_cons]
 have e1 : (plc n page).1.toNat = n := by unfold plc; omega
 have e2 : (plc n page).2.toNat = page := by unfold plc; dsimp only; omega
 rw [e1, e2]
theorem zfj (x : za) (l : List (Int × Int)) (e : Ent) : x.putM l (fun _ => e) = x.xk l e := rfl
structure Zo (x : za) (f0 : Nat) (l : List (Int × Int)) (e : Int × Int → Ent) (y : za) : Prop where
 wf : WF y
 ent : ∀ m pg, pg < 4096 → y.ent m pg = if plc m pg ∈ l then e (plc m pg) else x.ent m pg
 bad : y.R.bad = x.R.bad
 bytes : ∀ f i, x.P.use f ≠ 1 → x.P.use f ≠ 2 → y.R.b f i = x.R.b f i
 use : ∀ f, x.P.use f ≠ 1 → x.P.use f ≠ 2 → y.P.use f = if f = f0 ∧ x.P.use f0 = 3 ∧ l ≠ [] ∧ y.B f0 = [] then 1 else x.P.use f
 fr : ∀ f, x.P.use f = 1 → y.P.use f = 1
 tb : ∀ f, x.P.use f = 2 → y.P.use f = 1 ∨ y.P.use f = 2
 tab : (∀ f, f < 1024 → x.P.use f = 2 → ∃ n, x.owns n f) → ∀ f, f < 1024 → y.P.use f = 2 → ∃ n, y.owns n f
 zone : y.P.zone = x.P.zone ∧ y.P.iso = x.P.iso
 keep : y.D = x.D ∧ y.CL = x.CL ∧ y.CR = x.CR
 procs : ∀ m, (y.T m).map (fun pr => (pr.A, pr.Q)) = (x.T m).map (fun pr => (pr.A, pr.Q))
 memB : ∀ (f : Nat) q, f < 1024 → (q ∈ y.B f ↔ if q ∈ l then (e q).kind = 1 ∧ (e q).n = f else q ∈ x.B f)
 memS : ∀ (k : Nat) q, k < 32 → (q ∈ y.S.getD k [] ↔ if q ∈ l then (e q).kind = 2 ∧ (e q).n = k else q ∈ x.S.getD k [])
 room : x.P.room ≤ y.P.room
structure zd4 (x : za) (f0 : Nat) (q : Int × Int) : Prop where
 pl : ∃ n page pr, q = plc n page ∧ n < 8 ∧ page < 4096 ∧ x.T n = some pr ∧ (x.ent n page).kind = 1 ∧ (x.ent n page).n = f0
 isB : q ∈ x.B f0
 noB : ∀ f : Nat, f < 1024 → f ≠ f0 → q ∉ x.B f
 noS : ∀ k, k < 32 → q ∉ x.S.getD k []
def zkw (f0 : Nat) (e : Ent) : Prop := e.ok = true ∧ (e.kind = 1 → e.n ≠ f0)
section
variable {F : Nat → Prop} {x y x1 : za} {f0 : Nat} {l : List (Int × Int)} {e : Int × Int → Ent}
theorem Zo.refl (h : WF x) : Zo x f0 [] e x :=
 ⟨h, fun m pg _ => by rw [if_neg (by simp)], rfl, fun _ _ _ _ => rfl, fun f _ _ => by rw [if_neg]; exact fun z => z.2.2.1 rfl, fun _ z => z, fun _ z => .inr z, fun z => z, ⟨rfl, rfl⟩, ⟨rfl, rfl, rfl⟩, fun _ => rfl,
  fun f q _ => by rw [if_neg (by simp)], fun k q _ => by rw [if_neg (by simp)], Nat.le_refl _⟩
theorem zd4.keep {p q : Int × Int} {n page : Nat} {pr : ym} {c : Int} (h : zd4 x f0 q) (d : PutD x n page pr (e p) c x1) (hp : p = plc n page) (hne : q ≠ p) : zd4 x1 f0 q := by
 obtain ⟨⟨m, pg, pm, rfl, h1, h2, h3, h4, h5⟩, h6, h7, h8⟩ := h
 have hn : ¬ (m = n ∧ pg = page) := fun z => hne (by rw [hp, z.1, z.2])
 have ee : x1.ent m pg = x.ent m pg := by rw [d.ent m pg h2, if_neg fun z => hn z.2]
 refine ⟨?_, ?_, fun f hf hff => ?_, fun k hk => ?_⟩
 ·by_cases k : m = n
  ·obtain ⟨T', ht⟩ := d.this
   exact ⟨m, pg, _, rfl, h1, h2, by rw [k]; exact ht, by rw [ee]; exact h4, by rw [ee]; exact h5⟩
  ·exact ⟨m, pg, pm, rfl, h1, h2, by rw [d.oth m k]; exact h3, by rw [ee]; exact h4, by rw [ee]; exact h5⟩
 ·rw [d.memB, if_neg fun z => hne (z.2.1.trans hp.symm)]; exact h6
 ·rw [d.memB, if_neg fun z => hne (z.2.1.trans hp.symm)]; exact h7 f hf hff
 ·rw [d.memS, if_neg fun z => hne (z.2.1.trans hp.symm)]; exact h8 k hk
theorem Zo.one (h : WF x) {p : Int × Int} (hp : zd4 x f0 p) (he : zkw f0 (e p)) : Zo x f0 [p] e (x.putM [p] e) ∧ ∃ n page pr, p = plc n page ∧ PutD x n page pr (e p) 0 (x.putM [p] e) := by
 obtain ⟨⟨n, page, pr, rfl, h1, h2, h3, h4, h5⟩, h6, h7, h8⟩ := hp
 obtain ⟨e1, e2⟩ := he
 have d := h.putF h1 h3 h2 e1
 have hne : x.ent n page ≠ e (plc n page) := fun z => by rw [z] at h4 h5; exact e2 h4 h5
 have hc : (x.putF n page (e (plc n page))).1 = 0 := (d.less (.inl (by omega))).1
 have hx : x.putM [plc n page] e = (x.putF n page (e (plc n page))).2 := by rw [zg5]; rfl
 rw [hc] at d
 rw [hx]
 clear hx hc
 obtain ⟨x1, hx1⟩ : ∃ x1, x1 = (x.putF n page (e (plc n page))).2 := ⟨_, rfl⟩
 rw [← hx1] at d ⊢
 clear hx1
 obtain ⟨_, ls2, ls3⟩ := d.less (.inl (by omega))
 have own2 : ∀ f, x.P.use f ≠ 2 → ¬ x.owns n f := fun f hf ho => hf (h.xh ho).2.1
 have mB : ∀ f : Nat, (plc n page ∈ x1.B f ↔ (e (plc n page)).kind = 1 ∧ (e (plc n page)).n = f ∨ (¬ ((x.ent n page).kind = 1 ∧ (x.ent n page).n = f) ∧ plc n page ∈ x.B f)) := fun f => by
  rw [d.memB, if_pos ⟨rfl, rfl, hne⟩]
 have B0 : x1.B f0 = [] ↔ (x.B f0).erase (plc n page) = [] := by
  have hs := h.back (f0 : Int)
  refine ⟨fun z => List.eq_nil_iff_forall_not_mem.2 fun q hq => ?_, fun z => List.eq_nil_iff_forall_not_mem.2 fun q hq => ?_⟩
  ·obtain ⟨q1, q2⟩ := (hs.1.Zf _ _).1 hq
   have : q ∈ x1.B f0 := by rw [d.memB, if_neg fun y => q1 y.2.1]; exact q2
   rw [z] at this; cases this
  ·by_cases k : q = plc n page
   ·rw [k, mB] at hq
    rcases hq with ⟨a, b⟩ | ⟨a, _⟩
    ·exact e2 a b
    ·exact a ⟨h4, h5⟩
   ·rw [d.memB, if_neg fun y => k y.2.1] at hq
    have : q ∈ (x.B f0).erase (plc n page) := (hs.1.Zf _ _).2 ⟨k, hq⟩
    rw [z] at this; cases this
 refine ⟨⟨d.wf, fun m pg hpg => ?_, d.bad, fun f i hf hf2 => d.bytes f i hf (own2 f hf2), fun f hf hf2 => ?_, fun f hf => ?_, fun f hf => ?_, fun t f hf hu => ?_, ⟨d.zone, d.iso⟩, d.keep, fun m => ?_, fun f q hf => ?_, fun k q hk => ?_, ls2⟩, n, page, pr, rfl, d⟩
 ·rw [d.ent m pg hpg]
  by_cases k : m = n ∧ pg = page
  ·rw [if_pos ⟨rfl, k⟩, if_pos (by simp [k.1, k.2]), k.1, k.2]
  ·rw [if_neg fun z => k z.2, if_neg]
   simpa [Yx] using k
 ·rw [d.use f (own2 f hf2) hf]
  refine zaa ⟨?_, ?_⟩ _ _
  ·rintro ⟨_, _, _, a, _, b, c⟩
   have hff : f = f0 := by omega
   subst hff
   exact ⟨rfl, c, by simp, B0.2 b⟩
  ·rintro ⟨rfl, a, _, b⟩
   exact ⟨rfl, h4, fun z => e2 z.1 (z.2.trans h5), h5.symm, h6, B0.1 b, a⟩
 ·rw [d.free f (.inr hf), if_neg]
  exact fun z => by have := (h.xh (ls3 f z)).2.1; omega
 ·by_cases k : x.owns n f
  ·rw [d.free f (.inl k)]
   split
   ·exact .inr rfl
   ·exact .inl rfl
  ·rw [d.use f k (by omega)]
   split
   ·exact .inl rfl
   ·exact .inr hf
 ·by_cases k : x.owns n f ∨ x.P.use f = 1
  ·rw [d.free f k] at hu
   split at hu
   ·rename_i z; exact ⟨n, z⟩
   ·omega
  ·have k1 : ¬ x.owns n f := fun z => k (.inl z)
   rw [d.use f k1 fun z => k (.inr z)] at hu
   split at hu
   ·omega
   ·obtain ⟨m, pm, hm, hf'⟩ := t f hf hu
    have hmn : m ≠ n := fun z => k1 (by rw [← z]; exact ⟨pm, hm, hf'⟩)
    exact ⟨m, pm, by rw [d.oth m hmn]; exact hm, hf'⟩
 ·by_cases k : m = n
  ·obtain ⟨T', ht⟩ := d.this
   rw [k, ht, h3]
   rfl
  ·rw [d.oth m k]
 ·by_cases k : q = plc n page
  ·rw [if_pos (by simp [k]), k, mB]
   refine ⟨fun z => z.elim id fun z => ?_, .inl⟩
   by_cases kk : f = f0
   ·exact absurd ⟨h4, by rw [h5, kk]⟩ z.1
   ·exact absurd z.2 (h7 f hf kk)
  ·rw [if_neg (by simpa using k), d.memB, if_neg fun z => k z.2.1]
 ·by_cases kq : q = plc n page
  ·rw [if_pos (by simp [kq]), kq, d.memS, if_pos ⟨rfl, rfl, hne⟩]
   exact ⟨fun z => z.elim id fun z => absurd z.2 (h8 k hk), .inl⟩
  ·rw [if_neg (by simpa using kq), d.memS, if_neg fun z => kq z.2.1]
theorem Zo.comp {p : Int × Int} (h1 : Zo x f0 [p] e x1) (h2 : Zo x1 f0 l e y) (hB : x1.B f0 ≠ []) (hl : l ≠ []) : Zo x f0 (p :: l) e y := by
 have u1 : ∀ f, x.P.use f ≠ 1 → x.P.use f ≠ 2 → x1.P.use f = x.P.use f := fun f a b => by
  rw [h1.use f a b, if_neg]
  exact fun z => hB z.2.2.2
 have hi : ∀ {α : Type} (q : Int × Int) (a b c : α), (if q ∈ l then a else if q ∈ [p] then b else c) = if q ∈ p :: l then (if q ∈ l then a else b) else c := fun q a b c => by
  by_cases k : q ∈ l
  ·rw [if_pos k, if_pos (List.mem_cons_of_mem _ k), if_pos k]
  ·rw [if_neg k]
   by_cases k2 : q = p
   ·rw [if_pos (by simp [k2]), if_pos (by simp [k2]), if_neg k]
   ·rw [if_neg (by simpa using k2), if_neg (by simp [k2, k])]
 refine ⟨h2.wf, fun m pg hpg => ?_, h2.bad.trans h1.bad, fun f i a b => ?_, fun f a b => ?_, fun f a => h2.fr f (h1.fr f a), fun f a => ?_, fun t => h2.tab (h1.tab t), ⟨h2.zone.1.trans h1.zone.1, h2.zone.2.trans h1.zone.2⟩,
  ⟨h2.keep.1.trans h1.keep.1, h2.keep.2.1.trans h1.keep.2.1, h2.keep.2.2.trans h1.keep.2.2⟩, fun m => (h2.procs m).trans (h1.procs m), fun f q hf => ?_, fun k q hk => ?_, Nat.le_trans h1.room h2.room⟩
 ·rw [h2.ent m pg hpg, h1.ent m pg hpg, hi, ite_self]
 ·rw [h2.bytes f i (by rw [u1 f a b]; exact a) (by rw [u1 f a b]; exact b), h1.bytes f i a b]
 ·rw [h2.use f (by rw [u1 f a b]; exact a) (by rw [u1 f a b]; exact b), u1 f a b]
  by_cases k : f = f0
  ·subst k
   rw [u1 f a b]
   exact zaa ⟨fun ⟨q1, q2, _, q4⟩ => ⟨q1, q2, by simp, q4⟩, fun ⟨q1, q2, _, q4⟩ => ⟨q1, q2, hl, q4⟩⟩ _ _
  ·rw [if_neg fun z => k z.1, if_neg fun z => k z.1]
 ·rcases h1.tb f a with z | z
  ·exact .inl (h2.fr f z)
  ·exact h2.tb f z
 ·rw [h2.memB f q hf, h1.memB f q hf]
  have := hi q ((e q).kind = 1 ∧ (e q).n = (f : Int)) ((e q).kind = 1 ∧ (e q).n = (f : Int)) (q ∈ x.B f)
  rw [ite_self] at this
  rw [this]
 ·rw [h2.memS k q hk, h1.memS k q hk]
  have := hi q ((e q).kind = 2 ∧ (e q).n = (k : Int)) ((e q).kind = 2 ∧ (e q).n = (k : Int)) (q ∈ x.S.getD k [])
  rw [ite_self] at this
  rw [this]
theorem WF.putM (h : WF x) : ∀ {l : List (Int × Int)}, l.Nodup → (∀ q ∈ l, zd4 x f0 q) → (∀ q ∈ l, zkw f0 (e q)) → Zo x f0 l e (x.putM l e) := by
 intro l
 induction l generalizing x with
 | nil => exact fun _ _ _ => Zo.refl h
 | cons p l ih =>
  intro nd hl he
  obtain ⟨n1, n2⟩ := List.nodup_cons.1 nd
  obtain ⟨d, n, page, pr, ep, dd⟩ := Zo.one (e := e) h (hl p (List.mem_cons_self ..)) (he p (List.mem_cons_self ..))
  have ex : x.putM (p :: l) e = (x.putM [p] e).putM l e := rfl
  rw [ex]
  by_cases k : l = []
  ·rw [k]; exact d
  ·have hl' : ∀ q ∈ l, zd4 (x.putM [p] e) f0 q := fun q hq => (hl q (List.mem_cons_of_mem _ hq)).keep dd ep fun z => n1 (z ▸ hq)
   have hd := ih d.wf n2 hl' fun q hq => he q (List.mem_cons_of_mem _ hq)
   obtain ⟨q, hq⟩ := List.exists_mem_of_ne_nil l k
   refine Zo.comp d hd (fun z => ?_) k
   have := (hl' q hq).isB
   rw [z] at this
   cases this
theorem OK.zju (h : OK F x) {f0 : Nat} (hf : f0 < 1024) : ∀ q ∈ x.B f0, zd4 x f0 q := fun q hq => by
 obtain ⟨n, page, e, h1, h2, h3, h4⟩ := mem_B h hf hq
 have hp : ∃ pr, x.T n = some pr := by
  cases hT : x.T n with
  | none => rw [Z0 hT] at h3; exact absurd h3 (by decide)
  | some pr => exact ⟨pr, rfl⟩
 obtain ⟨pr, hp⟩ := hp
 refine ⟨⟨n, page, pr, e, h1, h2, hp, h3, h4⟩, hq, fun f hf2 hne hm => ?_, fun k hk hm => ?_⟩
 ·rw [e] at hm
  have := ((h.backE f n page hf2 h1 h2).1 hm).2
  omega
 ·rw [e] at hm
  have := ((h.slotE k n page hk h1 h2).1 hm).1
  omega
end
section
open Go Go.RowKit
namespace za
def wr (x : za) (sec : Nat) (l : List UInt8) : za := { x with D := if x.D.work.2 = 0 then x.D.work.1.write sec l else x.D.work.1 }
def outF (x : za) (n page : Nat) : Int × za :=
 if (x.ent n page).kind ≠ 1 then (2, x)
 else if (Yr x.S).2 = false then (4, x)
 else if x.D.work.2 = 0 then (0, (x.wr (160 + (Yr x.S).1.toNat) (x.R.read (x.ent n page).n.toNat 0 64)).xk (x.B (x.ent n page).n) ⟨2, (Yr x.S).1, false⟩)
 else ((x.D.work.2 : Int), x.wr (160 + (Yr x.S).1.toNat) (x.R.read (x.ent n page).n.toNat 0 64))
def cfr (x : za) (k : Int × Int) : Int := ((getL x.CL k).getD (0, false)).1
def xx (x : za) (k : Int × Int) : Int × za :=
 if x.yt k = false then (0, x)
 else if x.D.work.2 = 0 then (0, (x.wr (yc k) (x.R.read (x.cfr k).toNat 0 64)).zz k false)
 else ((x.D.work.2 : Int), x.wr (yc k) (x.R.read (x.cfr k).toNat 0 64))
def Yo (x : za) (k : Int × Int) : Int × za :=
 if (getL x.CL k).isSome = false then (2, x)
 else if (x.xx k).1 ≠ 0 then x.xx k
 else (0, ((((x.xx k).2.xk ((x.xx k).2.B (x.cfr k)) Ent.none)).y8 k).vz (x.cfr k))
end za
end
theorem zd3 {O : Nat → Prop} {p sb off c mb : Nat} {V : Nat → Value} {L : List (Int × Value)} {D : zq} (w : World) (h : yw w O p sb off c mb V L D) (n : Nat) (ni : Int) (en : ni = n) (hn : n < 32) (v : Value) (l : List UInt8) (hv : Reads w v l) (hl : l.length = 64) (hvo : ∀ b, v.ownBlock = some b → ¬ O b) :
  Calls Tryz.prog 75 #[.pointer (some ⟨p, 0, none⟩), .int .i64 ni, v] w fun e w' => e = .returned (.int .i64 D.work.2) ∧ Turn O w w' ∧ jm w' (grow O w) p (if D.work.2 = 0 then D.work.1.write (160 + n) l else D.work.1) := by
 have P := Lib.hid (zbo w n ni en hn)
 obtain ⟨X, hX⟩ : ∃ X : World → Prop, X = fun w' => Turn O w w' ∧ jm w' (grow O w) p (if D.work.2 = 0 then D.work.1.write (160 + n) l else D.work.1) := ⟨_, rfl⟩
 have R : Hid (Calls Tryz.prog 55 #[.pointer (some ⟨p, 0, none⟩), .int .i64 ((160 + n : Nat) : Int), v] w fun e w' => e = .returned (.int .i64 D.work.2) ∧ X w') := by
  rw [hX]
  exact zah w h ((160 + n : Nat) : Int) (160 + n) rfl (by omega) v l hv hl hvo
 suffices S : Calls Tryz.prog 75 #[.pointer (some ⟨p, 0, none⟩), .int .i64 ni, v] w fun e w' => e = .returned (.int .i64 D.work.2) ∧ X w' by rw [hX] at S; exact S
 clear h en hX
 generalize ((160 + n : Nat) : Int) = q at P R
 generalize D.work.2 = r at R ⊢
 obtain ⟨a, c0, b, o, rfl, h1, h2⟩ := hv
 rw [hl] at *
 clear h1 h2 hvo hl
 go_enter Tryz.func75, Tryz.ntmps75
 go_wp2_with fail
 refine P.out.mono ?_
 rintro e u ⟨rfl, hu⟩
 have hu := hu.symm
 subst hu
 go_wp2_with fail
 refine R.out.mono ?_
 rintro e w1 ⟨rfl, h1⟩
 have H1 := Lib.hid h1
 clear h1
 go_wp2_with fail
 go_ret
 exact ⟨rfl, H1.out⟩
section
variable {w w' : World} {tag tag' : Nat → Nat} {q : Sq} {x : za}
theorem zb.disk2 (h : zb w tag q x) {D' : zq} (t : Turn (fun b => tag b = 3) w w') (hD : jm w' (grow (fun b => tag b = 3) w) q.dp D') : zb w' (retag tag w 3) q { x with D := D' } ∧ Step (fun c => c = 3) tag w (retag tag w 3) w' := by
 have s : Step (fun c => c = 3) tag w (retag tag w 3) w' := Step.retag t rfl
 exact ⟨h.turn s (by omega) (by omega) (fun _ _ => rfl) h.out (.inl ⟨by omega, rfl⟩) (.inl ⟨by omega, rfl⟩) (.inr (hD.loc fun k _ ho => ⟨Jy ho, rfl⟩)) (.inl ⟨by omega, rfl⟩) (.inl ⟨by omega, rfl, rfl⟩) (.inl ⟨by omega, rfl⟩) fun _ _ _ hx => .inl ⟨⟨by omega, by omega, by omega, by omega⟩, hx⟩, s⟩
theorem zb.swrite (h : zb w tag q x) (k : Nat) (hk : k < 32) {v : Value} {l : List UInt8} (hv : ByAt w v l) (hl : l.length = 64) (ho : ∀ b, v.ownBlock = some b → tag b = 0) :
  Calls Tryz.prog 75 #[.pointer (some ⟨q.dp, 0, none⟩), .int .i64 k, v] w fun e w' => e = .returned (.int .i64 x.D.work.2) ∧ zb w' (retag tag w 3) q (x.wr (160 + k) l) ∧ Step (fun c => c = 3) tag w (retag tag w 3) w' := by
 obtain ⟨sb, off, c, mb, V, L, hD⟩ := h.disk
 refine (zd3 w hD k k rfl hk v l hv.reads hl fun b hb e => by rw [ho b hb] at e; cases e).mono ?_
 rintro e w1 ⟨rfl, t, hD1⟩
 exact ⟨rfl, h.disk2 t hD1⟩
theorem zb.fwrite (h : zb w tag q x) {k : Int × Int} (hk : xc k) {v : Value} {l : List UInt8} (hv : ByAt w v l) (hl : l.length = 64) (ho : ∀ b, v.ownBlock = some b → tag b = 0) :
  Calls Tryz.prog 149 #[.pointer (some ⟨q.dp, 0, none⟩), .int .i64 k.1, .int .i64 k.2, v] w fun e w' => e = .returned (.int .i64 x.D.work.2) ∧ zb w' (retag tag w 3) q (x.wr (za.yc k) l) ∧ Step (fun c => c = 3) tag w (retag tag w 3) w' := by
 obtain ⟨sb, off, c, mb, V, L, hD⟩ := h.disk
 have k1 : k.1 = (k.1.toNat : Int) := by unfold xc at hk; omega
 have k2 : k.2 = (k.2.toNat : Int) := by unfold xc at hk; omega
 have hl1 : k.1.toNat < 4 := by unfold xc at hk; omega
 have hl2 : k.2.toNat < 16 := by unfold xc at hk; omega
 refine (zd7 w hD k.1.toNat k.2.toNat k.1 k.2 k1 k2 hl1 hl2 v l hv.reads hl fun b hb e => by rw [ho b hb] at e; cases e).mono ?_
 rintro e w1 ⟨rfl, t, hD1⟩
 exact ⟨rfl, h.disk2 t hD1⟩
theorem zb.flush (h : zb w tag q x) :
  Calls Tryz.prog 56 #[.pointer (some ⟨q.dp, 0, none⟩)] w fun e w' => e = .returned (.int .i64 x.D.work.2) ∧ zb w' tag q { x with D := if x.D.work.2 = 0 then x.D.work.1.flush else x.D.work.1 } ∧ Step (fun c => c = 3) tag w tag w' := by
 obtain ⟨sb, off, c, mb, V, L, hD⟩ := h.disk
 refine (zgf w hD).mono ?_
 rintro e w1 ⟨rfl, t, hD1⟩
 exact ⟨rfl, h.zkb t hD1⟩
theorem zb.useP (h : zb w tag q x) (f : Nat) (hf : f < 1024) : Calls Tryz.prog 38 #[.pointer (some ⟨q.pp, 0, none⟩), .int .i64 f] w fun e w' => e = .returned (.int .i64 (x.P.use f)) ∧ w' = w :=
 zcs _ _ _ _ _ _ h.pool f f rfl hf
theorem zb.freeP (h : zb w tag q x) (f : Nat) (hf : f < 1024) : Calls Tryz.prog 44 #[.pointer (some ⟨q.pp, 0, none⟩), .int .i64 f] w fun e w' => (∃ b, e = .returned (.bool b)) ∧ zb w' tag q (x.vz f) ∧ Step (fun c => c = 2) tag w tag w' := by
 by_cases hu : 2 ≤ x.P.use f ∧ x.P.use f ≤ 5
 ·have e1 : x.vz f = { x with P := x.P.set f 1 } := by
   unfold za.vz zm.free
   rw [if_pos]
   ·rfl
   ·unfold zm.used; simp; omega
  rw [e1]
  refine (Vx _ _ _ _ _ _ h.pool f f rfl hf hu.1 hu.2).mono ?_
  rintro e w' ⟨rfl, g1, g2⟩
  have g := h.zfm g2 g1
  exact ⟨⟨_, rfl⟩, g.1, g.2⟩
 ·have e1 : x.vz f = x := by
   unfold za.vz zm.free
   rw [if_neg]
   unfold zm.used; simp; omega
  rw [e1]
  refine (znx _ _ _ _ (zcs _ _ _ _ _ _ h.pool f f rfl hf) (by omega)).mono ?_
  rintro e w' ⟨rfl, g1⟩
  have g1 := g1.symm
  subst g1
  exact ⟨⟨_, rfl⟩, h, Step.refl _ _ _⟩
theorem zb.take (h : zb w tag q x) : Calls Tryz.prog 74 #[.pointer (some ⟨q.wp, 0, none⟩)] w fun e w' => e = .returned (.tuple #[.int .i64 (Yr x.S).1, .bool (Yr x.S).2]) ∧ w' = w := by
 obtain ⟨S, V, hB, hS⟩ := h.swap
 exact ziv w q.wp S V x.S hB
theorem zb.usedS (h : zb w tag q x) (wf : WF x) : Calls Tryz.prog 51 #[.pointer (some ⟨q.wp, 0, none⟩)] w fun e w' => e = .returned (.int .i64 (Xm x.S)) ∧ Below w.heap.size w w' := by
 obtain ⟨S, V, hB, hS⟩ := h.swap
 exact zit w q.wp S V x.S hB fun l hl => by have := q9 (wf.slots.2 l hl).1 (wf.slots.2 l hl).2; omega
theorem zb.cdirty (h : zb w tag q x) (k : Int × Int) : Calls Tryz.prog 83 #[.pointer (some ⟨q.cp, 0, none⟩), .agg #[.int .i64 k.1, .int .i64 k.2]] w fun e w' => e = .returned (.bool (x.yt k)) ∧ Below w.heap.size w w' :=
 zgi w q.cp q.c1 q.c2 x.CL x.CR h.cache.1 k
theorem zfa (h : zb w tag q x) (n : Nat) (hn : n < 8) {pr : ym} (hp : x.T n = some pr) : Calls Tryz.prog 34 #[ptrV q.sp, .int .i64 n] w fun e w' => e = .returned (ptrV (q.U n).tp) ∧ w' = w := by
 have F := Lib.hid (Zh h (n : Int))
 have ev : Z5 q x (n : Int) = .tuple #[ptrV (q.U n).ap, .bool true] := by
  unfold Z5
  rw [show ((n : Nat) : Int).toNat = n by omega, hp]
  have : (0 : Int) ≤ n := by omega
  simp [this]
 rw [ev] at F
 obtain ⟨av, r1, r2, r3⟩ := (h.procs n pr hn hp).row
 have c1 := r1.cell (i := 0) (by omega)
 dsimp only [Xd] at c1
 unfold ptrV at F c1 ⊢
 clear h hp ev r1 r2 r3
 go_enter Tryz.func34, Tryz.ntmps34
 go_wp2_with fail
 refine F.out.mono ?_
 rintro e u ⟨rfl, hu⟩
 have hu := hu.symm
 subst hu
 clear F
 go_wp2_with fail
 go_ret
 exact ⟨rfl, rfl⟩
theorem zi7 (h : zb w tag q x) (wf : WF x) (n page : Nat) (hn : n < 8) {pr : ym} (hp : x.T n = some pr) (hpg : page < 4096) :
  Calls Tryz.prog 35 #[ptrV (q.U n).tp, .int .i64 page] w fun e w' => e = .returned (.tuple #[entV (x.ent n page), .int .i64 0]) ∧ Below w.heap.size w w' := by
 obtain ⟨N, ok⟩ := wf.rpt n pr hp
 rw [wf.Xu hp ok hpg]
 exact Xj _ _ _ _ _ (h.rpt hn hp) ok.tree page page rfl hpg
end
end Go.Proofs.YtnhdmnijiphjjaaGreat
