/- Pages that go out: all who have a frame have another entry. -/
import Derived.Test.YtnhdmnijiphjjaaGreatJEc18
import Derived.Test.YtnhdmnijiphjjaaGreatJEc13
import Derived.Test.YtnhdmnijiphjjaaGreatJEc17
import Derived.Test.YtnhdmnijiphjjaaGreatJEc15
set_option linter.unusedVariables false
set_option linter.unusedSimpArgs false
set_option maxRecDepth 100000
set_option maxHeartbeats 2000000
namespace Go.Proofs.YtnhdmnijiphjjaaGreat
open Go Go.RowKit
section
variable {w w' : World} {tag tag' : Nat → Nat} {q : Sq} {x : za}
def entL (b : Nat) (e : Ent) : List (Nat × Nat × Value) := [(b, 0, .int .i64 e.kind), (b, 1, .int .i64 e.n), (b, 2, .bool e.write)]
theorem ze9 (h : zb w tag q x) (wf : WF x) (f : Nat) (e : Ent) (he : e.ok = true) :
  Calls Tryz.prog 76 #[ptrV q.sp, .int .i64 f, entV e] w fun r w' => r = .returned (.tuple #[]) ∧ ∃ tag', zb w' tag' q (x.xk (x.B f) e) ∧ Step CA tag w tag' w' := by
 obtain ⟨w0, hw0⟩ : ∃ w0, w0 = w.alloc (.cells #[.int .i64 e.kind, .int .i64 e.n, .bool e.write] 70 (0, 0)) := ⟨_, rfl⟩
 have hb0 : Below w.heap.size w w0 := by rw [hw0]; exact (Below.refl w.heap.size w).alloc (Nat.le_refl _) _
 have nb1 : w0.heap[w.heap.size]? = some (.cells #[.int .i64 e.kind, .int .i64 e.n, .bool e.write] 70 (0, 0)) := by
  rw [hw0]; exact heap_alloc_new w _
 obtain ⟨L0, s0⟩ := h.loc0.more hb0 (entL w.heap.size e) (fun t ht => by
  simp [entL] at ht
  rcases ht with rfl | rfl | rfl
  ·exact ⟨Nat.le_refl _, zn nb1 0 rfl⟩
  ·exact ⟨Nat.le_refl _, zn nb1 1 rfl⟩
  ·exact ⟨Nat.le_refl _, zn nb1 2 rfl⟩)
 obtain ⟨tag0, ht0⟩ : ∃ tag0, tag0 = retag tag w 0 := ⟨_, rfl⟩
 rw [List.append_nil] at L0
 rw [← ht0] at L0 s0
 clear ht0 nb1 hb0
 obtain ⟨l, hl⟩ : ∃ l, l = x.B f := ⟨_, rfl⟩
 have hin : ∀ p ∈ l, InR p := by rw [hl]; exact (wf.back (f : Int)).2
 have hlen : l.length ≤ 32768 := by rw [hl]; exact q9 (wf.back (f : Int)).1 (wf.back (f : Int)).2
 have g3 : w0.cell? ⟨q.sp, 3, none⟩ = some (.pointer (some ⟨q.bp, 0, none⟩)) := L0.cell (i := 3) (by omega)
 have OF : Hid (Calls Tryz.prog 87 #[.pointer (some ⟨q.bp, 0, none⟩), .int .i64 f] w0 fun r w3 => ∃ a c, r = .returned (.slice a l.length c) ∧ PlAt w3 (.slice a l.length c) l ∧
   Loc w3 (retag tag0 w0 0) q x (entL w.heap.size e) ∧ Step CA tag w (retag tag0 w0 0) w3 ∧ ∀ b, (Value.slice a l.length c).ownBlock = some b → w0.heap.size ≤ b) := by
  have OS := L0.sp.ofB (f : Int) (by rw [← hl]; omega)
  rw [← hl] at OS
  refine OS.mono ?_
  rintro r w3 ⟨a, c, rfl, hp, hb, ho⟩
  obtain ⟨L3, s3⟩ := L0.more hb [] (fun t ht => by cases ht)
  exact ⟨a, c, rfl, hp, L3, (s0.trans s3).mono fun _ h => h.elim, ho⟩
 have HO := Lib.hid (And.intro h.out wf)
 have HX := Lib.hid (And.intro hl (And.intro hin hlen))
 have HE := Lib.hid he
 have HW := Lib.hid hw0
 rw [← hl]
 clear h L0 s0 hl hin hlen wf hw0 he
 unfold ptrV entV
 rw [HW.out] at g3
 go_enter Tryz.func76, Tryz.ntmps76
 go_wp2_with fail
 rw [← HW.out]
 refine OF.out.mono ?_
 rintro r w3 ⟨a, cc, rfl, hP3, hL3, hS3, hO3⟩
 have H3 := Lib.hid (And.intro hP3 (And.intro hL3 (And.intro hS3 hO3)))
 clear hP3 hL3 hS3 hO3 OF g3
 go_wp2_with fail
 go_loopw [15] (fun iv W => ∃ (i : Nat) (tag' : Nat → Nat), i ≤ l.length ∧ iv = .int .i64 i ∧ Loc W tag' q (x.xk (l.take i) e) (entL w.heap.size e) ∧ Step CA tag w tag' W ∧ PlAt W (.slice a l.length cc) l ∧ ∀ b, (Value.slice a l.length cc).ownBlock = some b → tag' b = 0) (fun iv _ => l.length - (intOf iv).toNat)
 case atStart =>
  exact ⟨0, _, by omega, rfl, H3.out.2.1, H3.out.2.2.1, H3.out.1, fun b hb => zy _ _ _ _ (H3.out.2.2.2 b hb)⟩
 case round =>
  obtain ⟨i, tg, hi, rfl, hLoc, hSt, hPl, hOw⟩ := hrel
  by_cases hlt : i < l.length
  ·obtain ⟨p, hp⟩ : ∃ p, l[i]? = some p := ⟨l[i], List.getElem?_eq_getElem hlt⟩
   have hpos : 0 < (pl l).length := by have := hPl.1; omega
   obtain ⟨pb, poff, pc, epv, _, _, _⟩ := SlAt.cells hPl hpos
   cases epv
   have hpe : p = l[i] := by rw [List.getElem?_eq_getElem hlt] at hp; exact (Option.some.inj hp).symm
   obtain ⟨k0, k1⟩ := PlAt.cell hPl i hlt
   rw [← hpe] at k0 k1
   obtain ⟨pe, pn, ppg⟩ := (HX.out.2.1 p (List.mem_of_getElem? hp)).plc
   have p1 : p.1 = (p.1.toNat : Int) := congrArg Prod.fst pe
   have p2 : p.2 = (p.2.toNat : Int) := congrArg Prod.snd pe
   have g0 : wr.cell? ⟨w.heap.size, 0, none⟩ = some (.int .i64 e.kind) := hLoc.get 0 rfl
   have g1 : wr.cell? ⟨w.heap.size, 1, none⟩ = some (.int .i64 e.n) := hLoc.get 1 rfl
   have g2 : wr.cell? ⟨w.heap.size, 2, none⟩ = some (.bool e.write) := hLoc.get 2 rfl
   have ga : ∀ o, (wr.alloc o).cell? ⟨w.heap.size, 0, none⟩ = some (.int .i64 e.kind) := fun o => (World.cell?_alloc_lt _ _ _ (World.block_lt_of_cell? wr _ g0)).trans g0
   have gb : ∀ o, (wr.alloc o).cell? ⟨w.heap.size, 1, none⟩ = some (.int .i64 e.n) := fun o => (World.cell?_alloc_lt _ _ _ (World.block_lt_of_cell? wr _ g1)).trans g1
   have gc : ∀ o, (wr.alloc o).cell? ⟨w.heap.size, 2, none⟩ = some (.bool e.write) := fun o => (World.cell?_alloc_lt _ _ _ (World.block_lt_of_cell? wr _ g2)).trans g2
   obtain ⟨W2, hW2⟩ : ∃ W2, W2 = wr.alloc (.cells #[.int .i64 p.1, .int .i64 p.2] 58) := ⟨_, rfl⟩
   have hbW : Below wr.heap.size wr W2 := by rw [hW2]; exact (Below.refl _ _).alloc (Nat.le_refl _) _
   have wfz := HO.out.2.xk HO.out.1 (l.take i) (fun q hq => HX.out.2.1 q (List.mem_of_mem_take hq)) HE.out
   have PC : Hid (Calls Tryz.prog 88 #[.pointer (some ⟨q.sp, 0, none⟩), .agg #[.int .i64 p.1, .int .i64 p.2], .agg #[.int .i64 e.kind, .int .i64 e.n, .bool e.write]] W2 fun r w5 => (∃ c, r = .returned (.int .i64 c)) ∧ ∃ tag', Loc w5 tag' q (x.xk (l.take (i + 1)) e) (entL w.heap.size e) ∧ Step CA tag w tag' w5 ∧ PlAt w5 (.slice (some ⟨pb, poff, none⟩) l.length cc) l ∧ ∀ b, (Value.slice (some ⟨pb, poff, none⟩) l.length cc).ownBlock = some b → tag' b = 0) := by
    obtain ⟨L2, s2⟩ := hLoc.more hbW [] (fun t ht => by cases ht)
    have := Z7 L2.sp wfz.1 p.1.toNat p.2.toNat pn ppg e HE.out
    rw [← p1, ← p2] at this
    refine this.mono ?_
    rintro r w5 ⟨rfl, tag5, h5, s5⟩
    have s5' : Step CA (retag tg wr 0) W2 tag5 w5 := s5.mono fun c hc => Q8 pn hc
    have L5 := L2.step s5' CA0 h5
    have hOw2 : ∀ b, (Value.slice (some ⟨pb, poff, none⟩) l.length cc).ownBlock = some b → retag tg wr 0 b = 0 := fun b hb => by
     unfold retag
     split
     ·exact hOw b hb
     ·rfl
    have hP2 : PlAt W2 (.slice (some ⟨pb, poff, none⟩) l.length cc) l := SlAt.below hPl hbW
    refine ⟨⟨_, rfl⟩, tag5, ⟨?_, L5.loc⟩, (hSt.trans (s2.mono fun _ h => h.elim)).trans s5', SlAt.keep hP2 fun b hb => (s5'.keeps CA0 b (SlAt.lt hP2 b hb) (hOw2 b hb)).2, fun b hb => (s5'.keeps CA0 b (SlAt.lt hP2 b hb) (hOw2 b hb)).1⟩
    have e1 : l.take (i + 1) = l.take i ++ [p] := by rw [List.take_add_one, hp]; rfl
    rw [e1, Qh]
    exact L5.sp
   have HWW := Lib.hid hW2
   have i1 : (i : Int) < l.length := by omega
   have i2 : (0 : Int) ≤ i := by omega
   have HLT := Lib.hid (And.intro hlt (And.intro hi HX.out.2.2))
   clear hLoc hSt hPl hOw hpos pe pn ppg p1 p2 hbW wfz hW2 hlt hi hpe hp H3
   go_wp2_with fail
   rw [← HWW.out]
   refine PC.out.mono ?_
   rintro r w5 ⟨⟨c, rfl⟩, h5⟩
   have H5 := Lib.hid h5
   clear h5 PC g0 g1 g2 k0 k1 ga gb gc
   have d5 : IntKind.i64.wrap ((i : Int) + 1) = i + 1 := by have := HLT.out; simp [IntKind.wrap, IntKind.bits, IntKind.signed]; omega
   clear i1 i2
   go_wp2_with fail
   go_roundw
   case rel =>
    obtain ⟨tag', a1, a2, a3, a4⟩ := H5.out
    exact ⟨i + 1, tag', HLT.out.1, by go_num, a1, a2, a3, a4⟩
   case measure => have := HLT.out.1; simp [intOf]; omega
  ·obtain rfl : i = l.length := by omega
   have H5 := Lib.hid (And.intro hLoc hSt)
   clear hLoc hSt hPl hOw H3
   go_wp2_with fail
   refine bodyPost_end (v := .tuple #[]) (by simp [results, Tryz.results76, go_sem]) rfl ⟨rfl, tg, ?_, H5.out.2⟩
   have := H5.out.1.sp
   rw [List.take_length] at this
   exact this
end
structure Ok0 (x : za) : Prop where
 ok : OK (fun _ => False) x
 out : ∀ n, 8 ≤ n → x.T n = none
def Abs.area (X : Abs) (n page : Nat) : Option Ar := (X.A n).bind fun p => yg p.1 (page : Int)
theorem Xh {x : za} {n page : Nat} {pr : ym} (hp : x.T n = some pr) : x.abs.area n page = yg pr.A (page : Int) := by
 unfold Abs.area za.abs
 dsimp only
 rw [hp]
 rfl
structure Q9 (x : za) (n page : Nat) (wr : Bool) (a : Ar) (f c : Int) (y : za) : Prop where
 ok : Ok0 y
 keeps : ut 5 x y
 disk : y.D = x.D ∨ y.D = x.D.work.1
 code : c = 0 ∨ (c = 4 ∧ x.P.room < 5 ∧ y.abs = x.abs) ∨ (c = (x.D.work.2 : Int) ∧ x.D.work.2 ≠ 0 ∧ y.abs = x.abs)
 abs : c = 0 → y.abs = if wr then x.abs.own a n page else x.abs
 frame : c = 0 → (y.ent n page).kind = 1 ∧ (y.ent n page).n = f
 mine : c = 0 → wr = true → ∃ g : Nat, f = g ∧ Mine y a n page g
 ent1 : ∀ m pg, pg < 4096 → ¬ (m = n ∧ pg = page) → (x.ent m pg).kind = 1 → y.ent m pg = x.ent m pg
 backs : ∀ (m pg g : Nat), m < 8 → pg < 4096 → ¬ (m = n ∧ pg = page) → g < 1024 → x.P.use g = 3 → x.B g = [plc m pg] → y.B g = [plc m pg] ∧ y.P.use g = 3
 cr : ∀ g k, getL x.CR g = some k → getL y.CR g = some k
section
variable {F : Nat → Prop} {x y : za}
theorem OK.frame' (h : OK F x) {n page : Nat} (hn : n < 8) (hpg : page < 4096) (hk : (x.ent n page).kind = 1) : (x.ent n page).n = ((x.ent n page).n.toNat : Int) ∧ (x.ent n page).n.toNat < 1024 ∧ x.R.bad (x.ent n page).n.toNat = false := by
 obtain ⟨f, e1, e2, _, _, e3⟩ := h.frame hn hpg hk
 rw [e1, Int.toNat_natCast]
 exact ⟨rfl, e2, e3⟩
theorem Ok0.askF (h : Ok0 x) {n page : Nat} {pr : ym} (hp : x.T n = some pr) (hpg : page < 4096) (wr : Bool) :
    ((yg pr.A (page : Int) = none ∨ ∃ a, yg pr.A (page : Int) = some a ∧ wr = true ∧ a.write = false) ∧ x.askF n page wr = ((0, 11), x)) ∨
    (∃ a, yg pr.A (page : Int) = some a ∧ ¬ (wr = true ∧ a.write = false) ∧
      ((x.pv n page = .lost ∧ x.askF n page wr = ((0, 7), x.u7 n (page * 64))) ∨
       (x.pv n page ≠ .lost ∧ Q9 x n page wr a (x.askF n page wr).1.1 (x.askF n page wr).1.2 (x.askF n page wr).2))) := by
  have hn := h.ok.Xt h.out hp
  unfold za.askF
  rw [hp]
  dsimp only
  cases ha : yg pr.A (page : Int) with
  | none => exact .inl ⟨.inl rfl, rfl⟩
  | some a =>
    dsimp only
    by_cases hd : wr = true ∧ a.write = false
    · rw [if_pos hd]
      exact .inl ⟨.inr ⟨a, rfl, hd⟩, rfl⟩
    · rw [if_neg hd]
      refine .inr ⟨a, rfl, hd, ?_⟩
      rcases h.ok.zx h.out hp hpg ha with ⟨l, e⟩ | ⟨l, g, fr⟩
      · left
        rw [e]
        dsimp only
        rw [if_neg (by simp)]
        exact ⟨l, rfl⟩
      · right
        refine ⟨l, ?_⟩
        obtain ⟨⟨⟨f, c⟩, y⟩, hy⟩ : ∃ r, r = x.zx n page a := ⟨_, rfl⟩
        rw [← hy] at g fr ⊢
        dsimp only at g fr ⊢
        clear hy
        have oy := g.same.out h.out
        obtain ⟨T', hp'⟩ := g.same.proc hp
        have hab := g.same.abs
        have gok := g.ok
        have bk : ∀ (m pg k : Nat), m < 8 → pg < 4096 → ¬ (m = n ∧ pg = page) → k < 1024 → x.P.use k = 3 → x.B k = [plc m pg] → y.B k = [plc m pg] ∧ y.P.use k = 3 := fun m pg k _ _ _ hk hu hB => by
          obtain ⟨a, b⟩ := g.stay.backs k hk hu (by rw [hB]; simp)
          exact ⟨a.trans hB, b⟩
        by_cases hc : c = 0 ∧ wr = true
        · rw [if_pos hc]
          obtain ⟨hc, rfl⟩ := hc
          obtain ⟨f1, f2⟩ := fr hc
          obtain ⟨e1, e2, e3⟩ := g.ok.frame' hn hpg f1
          obtain ⟨k, hk⟩ : ∃ k : Nat, f = k := ⟨(y.ent n page).n.toNat, by rw [← f2]; exact e1⟩
          subst hk
          obtain ⟨o1, o2, o3, o4, o5⟩ := g.ok.ownF oy hp' hpg ha f1 f2
          obtain ⟨R, hR⟩ : ∃ R, R = y.ownF n page a (k : Int) := ⟨_, rfl⟩
          rw [← hR] at o1 o2 o3 o4 o5 ⊢
          clear hR
          have bk2 : ∀ (m pg g : Nat), m < 8 → pg < 4096 → ¬ (m = n ∧ pg = page) → g < 1024 → x.P.use g = 3 → x.B g = [plc m pg] → R.2.B g = [plc m pg] ∧ R.2.P.use g = 3 := fun m pg g hm hpg' hne hg hu hB => by
            obtain ⟨b1, b2⟩ := bk m pg g hm hpg' hne hg hu hB
            have hkf : (g : Int) ≠ (y.ent n page).n := fun e => by
              have := (gok.backE g n page hg hn hpg).2 ⟨f1, e.symm⟩
              rw [b1] at this
              simp at this
              exact hne (by have := Yx.1 this; exact ⟨this.1.symm, this.2.symm⟩)
            obtain ⟨c1, c2⟩ := o4.backs g hg b2 (by rw [b1]; simp) hkf
            exact ⟨c1.trans b1, c2⟩
          have hst := g.stay
          have hkp := g.keeps
          have hdk := g.disk
          clear g
          have en2 : ∀ m pg, pg < 4096 → ¬ (m = n ∧ pg = page) → (x.ent m pg).kind = 1 → R.2.ent m pg = x.ent m pg := fun m pg hq hne hk1 => by
            have e := hst.ent1 m pg hq hk1
            rw [o4.ent m pg hq hne, e]
          have cr2 : ∀ q k, getL x.CR q = some k → getL R.2.CR q = some k := fun q k hq => o4.cr q k (hst.cr q k hq)
          have out2 : ∀ m, 8 ≤ m → R.2.T m = none := fun m hm => by
            have := o2.some m
            rw [oy m hm] at this
            cases e : R.2.T m with
            | none => rfl
            | some _ => rw [e] at this; cases this
          rcases o5 with ⟨c4, r4, a4⟩ | ⟨c0, a0, q, hq, hm⟩
          · refine ⟨⟨o1, out2⟩, hkp.trans o2, by rw [o3]; exact hdk, .inr (.inl ⟨c4, by have := hkp.room; omega, by rw [a4, hab]⟩), fun e => ?_, fun e => ?_, fun e => ?_, en2, bk2, cr2⟩ <;> (rw [c4] at e; cases e)
          · refine ⟨⟨o1, out2⟩, hkp.trans o2, by rw [o3]; exact hdk, .inl c0, fun _ => by rw [a0, hab]; rfl, fun _ => ?_, fun _ _ => ⟨q, hq, hm⟩, en2, bk2, cr2⟩
            rw [hq]
            exact hm.ent
        · rw [if_neg hc]
          refine ⟨⟨g.ok, oy⟩, g.keeps.mono (by omega), g.disk, ?_, fun e => ?_, fr, fun e hw => absurd ⟨e, hw⟩ hc, fun m pg hq _ hk1 => g.stay.ent1 m pg hq hk1, bk, g.stay.cr⟩
          · rcases g.code with e | ⟨e, e2⟩ | ⟨e, e2⟩
            · exact .inl e
            · exact .inr (.inl ⟨e, by omega, hab⟩)
            · exact .inr (.inr ⟨e, e2, hab⟩)
          · dsimp only at e
            have : wr = false := by cases wr with | false => rfl | true => exact absurd ⟨e, rfl⟩ hc
            rw [this]
            exact hab
end
section
variable {F : Nat → Prop} {x y : za} {f0 : Nat} {l : List (Int × Int)} {e : Int × Int → Ent}
theorem Zo.zc4 (d : Zo x f0 l e y) {v : Nat} (h1 : v ≠ 1) (h2 : v ≠ 2) (h3 : v ≠ 3) (g : Nat) : y.P.use g = v ↔ x.P.use g = v := by
 by_cases k1 : x.P.use g = 1
 ·have := d.fr g k1; omega
 ·by_cases k2 : x.P.use g = 2
  ·have := d.tb g k2; omega
  ·rw [d.use g k1 k2]
   split
   ·rename_i z; have e := z.1; have := z.2.1; subst e; omega
   ·exact Iff.rfl
theorem Zo.use3 (d : Zo x f0 l e y) (g : Nat) : y.P.use g = 3 ↔ x.P.use g = 3 ∧ ¬ (g = f0 ∧ l ≠ [] ∧ y.B f0 = []) := by
 by_cases k1 : x.P.use g = 1
 ·have := d.fr g k1; omega
 ·by_cases k2 : x.P.use g = 2
  ·have := d.tb g k2; omega
  ·rw [d.use g k1 k2]
   split
   ·rename_i z
    exact ⟨fun a => by omega, fun a => absurd ⟨z.1, z.2.2⟩ a.2⟩
   ·rename_i z
    exact ⟨fun a => ⟨a, fun b => z ⟨b.1, by rw [← b.1]; exact a, b.2⟩⟩, fun a => a.1⟩
theorem Zo.proc (d : Zo x f0 l e y) {n : Nat} {pr : ym} (hp : y.T n = some pr) : ∃ p0, x.T n = some p0 ∧ p0.A = pr.A ∧ p0.Q = pr.Q := by
 have := d.procs n
 rw [hp] at this
 cases hq : x.T n with
 | none => rw [hq] at this; cases this
 | some p0 =>
  rw [hq] at this
  have := Option.some.inj this
  exact ⟨p0, rfl, (congrArg Prod.fst this).symm, (congrArg Prod.snd this).symm⟩
theorem Zo.keeps (d : Zo x f0 l e y) : ut 0 x y :=
 ⟨d.zone, by have := d.room; omega, d.bad, fun f v hv => d.zc4 (by omega) (by omega) (by omega) f, fun n => by
  have := congrArg Option.isSome (d.procs n)
  simpa using this⟩
theorem Zo.nobody (d : Zo x f0 (x.B f0) e y) (hf : f0 < 1024) (he : ∀ q ∈ x.B f0, zkw f0 (e q)) : y.B f0 = [] :=
 List.eq_nil_iff_forall_not_mem.2 fun q hq => by
  rw [d.memB f0 q hf] at hq
  split at hq
  ·rename_i z; exact (he q z).2 hq.1 hq.2
  ·rename_i z; exact z hq
structure AwayD (F : Nat → Prop) (x : za) (f0 : Nat) (e : Ent) (y : za) : Prop where
 many : Zo x f0 (x.B f0) (fun _ => e) y
 ok : OK F y
 nobody : y.B f0 = []
 others : ∀ g : Nat, g < 1024 → g ≠ f0 → y.B g = x.B g
 pv : ∀ m pg, pg < 4096 → plc m pg ∉ x.B f0 → (e.kind = 2 → y.D.cur = x.D.cur) → y.pv m pg = x.pv m pg
 here : ∀ m pg, pg < 4096 → plc m pg ∈ x.B f0 → ∀ pr a, x.T m = some pr → yg pr.A (pg : Int) = some a → y.pv m pg = y.pv1 a e ∧ x.pv m pg = if getL x.CR f0 = none then .own (x.R.read f0 0 64) else .file
 file : ∀ k, y.uo k = x.uo k
 yt : ∀ k, y.yt k = x.yt k
theorem OK.away (h : OK F x) (o : ∀ n, 8 ≤ n → x.T n = none) (hf : f0 < 1024) {e : Ent} (he : e.ok = true) (hk : e.kind ≠ 1) (h2 : e.kind = 2 → x.P.use f0 = 3) : AwayD F x f0 e (x.xk (x.B f0) e) := by
 have hE : ∀ q ∈ x.B f0, zkw f0 ((fun _ => e) q) := fun q _ => ⟨he, fun z => absurd z hk⟩
 have d : Zo x f0 (x.B f0) (fun _ => e) (x.xk (x.B f0) e) := by
  rw [← zfj]
  exact h.wf.putM (h.wf.back f0).1.nodup (h.zju hf) hE
 obtain ⟨y, hy⟩ : ∃ y, y = x.xk (x.B f0) e := ⟨_, rfl⟩
 rw [← hy] at d ⊢
 clear hy
 have hB0 := d.nobody hf hE
 have oth : ∀ g : Nat, g < 1024 → g ≠ f0 → y.B g = x.B g := fun g hg hne => by
  refine xn (d.wf.back g).1 (h.wf.back g).1 ?_
  refine (List.perm_ext_iff_of_nodup (d.wf.back g).1.nodup (h.wf.back g).1.nodup).2 fun q => ?_
  rw [d.memB g q hg]
  split
  ·rename_i z
   exact ⟨fun a => absurd a.1 hk, fun a => absurd a ((h.zju hf q z).noB g hg hne)⟩
  ·exact Iff.rfl
 have hmem : ∀ m pg, pg < 4096 → plc m pg ∈ x.B f0 → m < 8 ∧ (x.ent m pg).kind = 1 ∧ (x.ent m pg).n = f0 := fun m pg hq hm => by
  have h8 : m < 8 := by
   have := (h.wf.back f0).2 _ hm
   unfold InR plc at this
   dsimp only at this
   omega
  exact ⟨h8, (h.backE f0 m pg hf h8 hq).1 hm⟩
 have hR : ∀ f i, f < 1024 → (x.P.use f = 3 ∨ x.P.use f = 4) → i < 64 → y.R.b f i = x.R.b f i := fun f i _ hu _ => d.bytes f i (by omega) (by omega)
 have hA1 : ∀ m, (y.T m).map (·.A) = (x.T m).map (·.A) := fun m => by
  have := congrArg (Option.map Prod.fst) (d.procs m)
  simpa [Option.map_map, Function.comp_def] using this
 refine ⟨d, ⟨d.wf, fun f n page hf' hn hp => ?_, fun k n page hk' hn hp => ?_, fun f hf' hne => ?_, fun f hf' hu => ?_, d.tab h.table, fun f hf' => by rw [d.zc4 (by omega) (by omega) (by omega), d.keep.2.2]; exact h.cached f hf', by rw [d.keep.2.1, d.keep.2.2]; exact h.cacheE, by rw [d.keep.2.1]; exact h.cacheK, fun n pr page hp hpg => ?_⟩, hB0, oth, fun m pg hq hm hD => ?_, fun m pg hq hm pr a hp ha => ?_, fun k => jr h k d.keep.2.1 (by rw [d.keep.1]) fun f i a b c => hR f i a (.inr b) c, fun k => by unfold za.yt; rw [d.keep.2.1]⟩
 ·rw [d.memB f _ hf', d.ent n page hp]
  by_cases k : plc n page ∈ x.B f0
  ·rw [if_pos k, if_pos k]
  ·rw [if_neg k, if_neg k]; exact h.backE f n page hf' hn hp
 ·rw [d.memS k _ hk', d.ent n page hp]
  by_cases k : plc n page ∈ x.B f0
  ·rw [if_pos k, if_pos k]
  ·rw [if_neg k, if_neg k]; exact h.slotE _ n page hk' hn hp
 ·by_cases e0 : f = f0
  ·rw [e0] at hne; exact absurd hB0 hne
  ·rw [oth f hf' e0] at hne
   rcases h.useB f hf' hne with u | u
   ·left; rw [d.use3]; exact ⟨u, fun z => e0 z.1⟩
   ·right; rw [d.zc4 (by omega) (by omega) (by omega)]; exact u
 ·obtain ⟨u, nz⟩ := (d.use3 f).1 hu
  rcases h.anon f hf' u with a | a
  ·by_cases e0 : f = f0
   ·rw [e0] at a; exact absurd ⟨e0, a, hB0⟩ nz
   ·rw [oth f hf' e0]; exact .inl a
  ·exact .inr a
 ·obtain ⟨p0, hp0, hA, _⟩ := d.proc hp
  have a0 := h.area n p0 page hp0 hpg
  rw [d.ent n page hpg]
  by_cases k : plc n page ∈ x.B f0
  ·obtain ⟨h8, e1, e2⟩ := hmem n page hpg k
   rw [if_pos k]
   refine ⟨fun _ => by rw [← hA]; exact a0.find (by omega), fun a _ z => absurd z hk, fun a _ _ z => absurd z hk, fun a _ z => absurd z hk, fun a ha z z2 => ?_⟩
   rw [← hA] at ha
   have u3 := h2 z
   have := a0.shared a ha e1 z2
   rw [e2] at this
   have u4 := (h.cached f0 hf).2 (by cases hc : getL x.CR (f0 : Int) with | none => exact absurd hc this | some _ => rfl)
   omega
  ·rw [if_neg k]
   exact ⟨by rw [← hA]; exact a0.find, by rw [← hA, d.keep.2.2]; exact a0.own, by rw [← hA, d.keep.2.2]; exact a0.file, by rw [← hA, d.keep.2.2]; exact a0.shared, by rw [← hA]; exact a0.slot⟩
 ·have ee : y.ent m pg = x.ent m pg := by rw [d.ent m pg hq, if_neg hm]
  by_cases h8 : m < 8
  ·exact Yh h m pg h8 hq (hA1 m) ee (fun _ => by rw [d.keep.2.2]) (fun _ => by rw [d.keep.1]) hR
  ·have q1 := o m (by omega)
   have q2 : y.T m = none := by
    have := d.procs m
    rw [q1] at this
    simpa using this
   unfold za.pv
   rw [q1, q2]
 ·obtain ⟨h8, e1, e2⟩ := hmem m pg hq hm
  have hyp : ∃ py, y.T m = some py ∧ py.A = pr.A := by
   have := d.procs m
   rw [hp] at this
   cases hq : y.T m with
   | none => rw [hq] at this; cases this
   | some py => rw [hq] at this; exact ⟨py, rfl, congrArg Prod.fst (Option.some.inj this)⟩
  obtain ⟨py, hpy, hA⟩ := hyp
  refine ⟨?_, ?_⟩
  ·rw [Yg hpy (by rw [hA]; exact ha), d.ent m pg hq, if_pos hm]
  ·rw [Yg hp ha]
   unfold za.pv1
   rw [if_neg (by omega), if_neg (by omega), if_pos e1, e2]
   simp
theorem OK.zmr (h : OK F x) (o : ∀ n, 8 ≤ n → x.T n = none) (hf : f0 < 1024) (hB : x.B f0 = []) {k : Int × Int} (hk : getL x.CR (f0 : Int) = some k) :
  OK F ((x.y8 k).vz f0) ∧ (∀ m pg, pg < 4096 → ((x.y8 k).vz f0).ent m pg = x.ent m pg) ∧ (x.y8 k).vz f0 = { x with P := x.P.set f0 1, CL := delL x.CL k, CR := delL x.CR f0 } ∧
   (∀ m pg, m < 8 → pg < 4096 → ((x.y8 k).vz f0).pv m pg = x.pv m pg) ∧ (∀ q, ((x.y8 k).vz f0).uo q = if q = k then x.D.cur (za.yc k) else x.uo q) ∧ (∀ q, ((x.y8 k).vz f0).yt q = if q = k then false else x.yt q) := by
 obtain ⟨v, hv⟩ := (h.cacheE k f0).2 hk
 have hu : x.P.use f0 = 4 := (h.cached f0 hf).2 (by rw [hk]; rfl)
 have e1 : (x.y8 k).vz f0 = { x with P := x.P.set f0 1, CL := delL x.CL k, CR := delL x.CR f0 } := by
  unfold za.vz za.y8 zm.free
  rw [hv]
  dsimp only
  rw [if_pos (by unfold zm.used; simp; omega)]
  rfl
 obtain ⟨nd1, nd2⟩ := h.wf.nd
 have gl : ∀ q, getL (delL x.CL k) q = if q = k then none else getL x.CL q := Ya nd1
 have gr : ∀ q, getL (delL x.CR (f0 : Int)) q = if q = (f0 : Int) then none else getL x.CR q := Ya nd2
 have w1 : WF ((x.y8 k).vz f0) ∧ ∀ m pg, pg < 4096 → ((x.y8 k).vz f0).ent m pg = x.ent m pg := by
  have wc := h.wf.y8 k
  have := WF.chg (y := (x.y8 k).vz f0) wc (f := f0) (u := 1) (by show x.P.use f0 ≠ 2; omega) (fun _ => .inl (h.wf.qm hf (by omega))) rfl rfl rfl rfl rfl rfl (fun g => by rw [e1]; rfl) rfl (fun _ _ _ => rfl)
  exact this
 rw [e1] at w1 ⊢
 obtain ⟨z, hz⟩ : ∃ z : za, z = { x with P := x.P.set f0 1, CL := delL x.CL k, CR := delL x.CR f0 } := ⟨_, rfl⟩
 rw [← hz] at w1 ⊢
 have zT : z.T = x.T := by rw [hz]
 have zB : z.B = x.B := by rw [hz]
 have zS : z.S = x.S := by rw [hz]
 have zD : z.D = x.D := by rw [hz]
 have zR : z.R = x.R := by rw [hz]
 have zCL : z.CL = delL x.CL k := by rw [hz]
 have zCR : z.CR = delL x.CR f0 := by rw [hz]
 have zP : ∀ g, z.P.use g = if g = f0 then 1 else x.P.use g := fun g => by rw [hz]; rfl
 clear hz e1
 have notf : ∀ m pg, m < 8 → pg < 4096 → (x.ent m pg).kind = 1 → (x.ent m pg).n ≠ f0 := fun m pg hm hq e2 e3 => by
  have := (h.backE f0 m pg hf hm hq).2 ⟨e2, e3⟩
  rw [hB] at this; cases this
 refine ⟨⟨w1.1, fun f n page a b c => by rw [zB, w1.2 n page c]; exact h.backE f n page a b c, fun k n page a b c => by rw [zS, w1.2 n page c]; exact h.slotE k n page a b c, fun f a b => ?_, fun f a b => ?_, fun f a b => ?_, fun f a => ?_, fun q f => ?_, fun q v hq => ?_, fun n pr page hp hpg => ?_⟩, w1.2, rfl, fun m pg hm hq => ?_, fun q => ?_, fun q => ?_⟩
 ·rw [zB] at b
  rw [zP, if_neg]
  ·exact h.useB f a b
  ·intro e0; rw [e0] at b; exact b hB
 ·rw [zP] at b
  split at b
  ·omega
  ·rw [zB]; exact h.anon f a b
 ·rw [zP] at b
  split at b
  ·omega
  ·obtain ⟨n, pr, hp, hm⟩ := h.table f a b
   exact ⟨n, pr, by rw [zT]; exact hp, hm⟩
 ·rw [zP, zCR, gr]
  by_cases e0 : f = f0
  ·rw [if_pos e0, if_pos (by omega)]; simp
  ·rw [if_neg e0, if_neg (by omega)]; exact h.cached f a
 ·rw [zCL, zCR, gl, gr]
  by_cases e0 : q = k
  ·rw [if_pos e0]
   refine ⟨fun ⟨d, hd⟩ => (by cases hd), fun hq => ?_⟩
   split at hq
   ·cases hq
   ·rename_i z
    obtain ⟨d, hd⟩ := (h.cacheE q f).2 hq
    rw [e0, hv] at hd
    exact absurd (congrArg Prod.fst (Option.some.inj hd)).symm z
  ·rw [if_neg e0]
   by_cases e9 : f = (f0 : Int)
   ·rw [if_pos e9]
    refine ⟨fun hd => ?_, fun z => by cases z⟩
    have := (h.cacheE q f).1 hd
    rw [e9, hk] at this
    exact absurd (Option.some.inj this).symm e0
   ·rw [if_neg e9]; exact h.cacheE q f
 ·rw [zCL, gl] at hq
  split at hq
  ·cases hq
  ·exact h.cacheK q v hq
 ·rw [zT] at hp
  have a0 := h.area n pr page hp hpg
  rw [w1.2 n page hpg]
  have cr : (x.ent n page).kind = 1 → getL z.CR (x.ent n page).n = getL x.CR (x.ent n page).n := fun k1 => by
   rw [zCR, gr, if_neg]
   exact notf n page (h.Xt o hp) hpg k1
  exact ⟨a0.find, fun a b c => by rw [cr c]; exact a0.own a b c, fun a q b c => by rw [cr c]; exact a0.file a q b c, fun a b c => by rw [cr c]; exact a0.shared a b c, a0.slot⟩
 ·refine Yh h m pg hm hq (by rw [zT]) (w1.2 m pg hq) (fun k1 => ?_) (fun _ => by rw [zD]) fun f i _ _ _ => by rw [zR]
  rw [zCR, gr, if_neg (notf m pg hm hq k1)]
 ·unfold za.uo
  rw [zCL, gl, zD, zR]
  by_cases e0 : q = k
  ·rw [if_pos e0, if_pos e0, e0]
  ·rw [if_neg e0, if_neg e0]
 ·unfold za.yt
  rw [zCL, gl]
  by_cases e0 : q = k
  ·rw [if_pos e0, if_pos e0]; rfl
  ·rw [if_neg e0, if_neg e0]
end
section
variable {w w' : World} {tag tag' : Nat → Nat} {q : Sq} {x : za}
def zhh (b : Nat) (n page : Nat) (a : Ar) : List (Nat × Nat × Value) :=
 [(b, 0, .int .i64 n), (b, 1, .int .i64 page), (b + 1, 0, .int .i64 a.from_), (b + 1, 1, .int .i64 a.pages), (b + 1, 2, .bool a.write), (b + 1, 3, .int .i64 a.kind), (b + 1, 4, .int .i64 a.file), (b + 1, 5, .int .i64 a.off)]
theorem zb.boxPA (h : zb w tag q x) (n page : Nat) (a : Ar) (w0 : World) (hw0 : w0 = (w.alloc (.cells #[.int .i64 n, .int .i64 page] 58 (0, 0))).alloc (.cells #[.int .i64 a.from_, .int .i64 a.pages, .bool a.write, .int .i64 a.kind, .int .i64 a.file, .int .i64 a.off] 32 (0, 0))) :
  Loc w0 (retag tag w 0) q x (zhh w.heap.size n page a) ∧ Step (fun _ => False) tag w (retag tag w 0) w0 := by
 have hb0 : Below w.heap.size w w0 := by rw [hw0]; exact ((Below.refl w.heap.size w).alloc (Nat.le_refl _) _).alloc (by simp) _
 have nb2 : w0.heap[w.heap.size + 1]? = some (.cells #[.int .i64 a.from_, .int .i64 a.pages, .bool a.write, .int .i64 a.kind, .int .i64 a.file, .int .i64 a.off] 32 (0, 0)) := by
  rw [hw0]
  have := heap_alloc_new (w.alloc (.cells #[.int .i64 n, .int .i64 page] 58 (0, 0))) (.cells #[.int .i64 a.from_, .int .i64 a.pages, .bool a.write, .int .i64 a.kind, .int .i64 a.file, .int .i64 a.off] 32 (0, 0))
  rw [World.size_alloc] at this
  exact this
 have nb1 : w0.heap[w.heap.size]? = some (.cells #[.int .i64 n, .int .i64 page] 58 (0, 0)) := by
  rw [hw0, Below.heap_alloc _ _ _ (by simp)]
  exact heap_alloc_new w _
 have := h.loc0.more hb0 (zhh w.heap.size n page a) (fun t ht => by
  simp [zhh] at ht
  rcases ht with rfl | rfl | rfl | rfl | rfl | rfl | rfl | rfl
  ·exact ⟨Nat.le_refl _, zn nb1 0 rfl⟩
  ·exact ⟨Nat.le_refl _, zn nb1 1 rfl⟩
  ·exact ⟨by simp, zn nb2 0 rfl⟩
  ·exact ⟨by simp, zn nb2 1 rfl⟩
  ·exact ⟨by simp, zn nb2 2 rfl⟩
  ·exact ⟨by simp, zn nb2 3 rfl⟩
  ·exact ⟨by simp, zn nb2 4 rfl⟩
  ·exact ⟨by simp, zn nb2 5 rfl⟩)
 rw [List.append_nil] at this
 exact this
theorem zj1 (w : World) (a : Ar) (page : Nat) (hs : a.xz) (hp : page < 4096) :
  Calls Tryz.prog 236 #[a.enc, .int .i64 page] w fun e w' => e = .returned (.agg #[.int .i64 (za.keyF a page).1, .int .i64 (za.keyF a page).2]) ∧ Below w.heap.size w w' := by
 unfold Ar.xz at hs
 have d1 : IntKind.i64.wrap (a.off + page) = a.off + page := by simp [IntKind.wrap, IntKind.bits, IntKind.signed]; omega
 have d2 : IntKind.i64.wrap (a.off + page - a.from_) = a.off + page - a.from_ := by simp [IntKind.wrap, IntKind.bits, IntKind.signed]; omega
 unfold Ar.enc za.keyF
 clear hs
 go_enter Tryz.func236, Tryz.ntmps236
 go_wp2_with fail
 exact bodyPost_ret (v := .agg #[.int .i64 a.file, .int .i64 (a.off + page - a.from_)]) (by simp [results, Tryz.results236, go_sem]) rfl ⟨rfl, ((Below.refl _ _).alloc (Nat.le_refl _) _).alloc (by simp) _⟩
theorem zfy (h : zb w tag q x) (wf : WF x) (n page : Nat) (pr : ym) (hn : n < 8) (hp : x.T n = some pr) (hpg : page < 4096) (a : Ar) (ha : yg pr.A (page : Int) = some a) :
  Calls Tryz.prog 212 #[ptrV q.sp, .agg #[.int .i64 n, .int .i64 page], a.enc] w fun e w' => e = .returned (.tuple #[.int .i64 (x.qz n page a).1.1, .int .i64 (x.qz n page a).1.2]) ∧ ∃ tag', zb w' tag' q (x.qz n page a).2 ∧ Step CA tag w tag' w' := by
 obtain ⟨w0, hw0⟩ : ∃ w0, w0 = (w.alloc (.cells #[.int .i64 n, .int .i64 page] 58 (0, 0))).alloc (.cells #[.int .i64 a.from_, .int .i64 a.pages, .bool a.write, .int .i64 a.kind, .int .i64 a.file, .int .i64 a.off] 32 (0, 0)) := ⟨_, rfl⟩
 obtain ⟨L0, s0⟩ := h.boxPA n page a w0 hw0
 obtain ⟨tag0, ht0⟩ : ∃ tag0, tag0 = retag tag w 0 := ⟨_, rfl⟩
 rw [← ht0] at L0 s0
 clear ht0
 have hsd : a.xz := (wf.Zv n pr hp).1.1 a (List.mem_of_find?_eq_some ha)
 obtain ⟨R, hR⟩ : ∃ R, R = x.qz n page a := ⟨_, rfl⟩
 rw [← hR]
 unfold za.qz at hR
 by_cases hk : a.kind ≠ 1
 ·rw [if_pos hk] at hR
  have hkey := Ua (wf.Zv n pr hp).1 ha hk
  have g0 : w0.cell? ⟨w.heap.size, 0, none⟩ = some (.int .i64 n) := L0.get 0 rfl
  have g1 : w0.cell? ⟨w.heap.size, 1, none⟩ = some (.int .i64 page) := L0.get 1 rfl
  have a0 : w0.cell? ⟨w.heap.size + 1, 0, none⟩ = some (.int .i64 a.from_) := L0.get 2 rfl
  have a1 : w0.cell? ⟨w.heap.size + 1, 1, none⟩ = some (.int .i64 a.pages) := L0.get 3 rfl
  have a2 : w0.cell? ⟨w.heap.size + 1, 2, none⟩ = some (.bool a.write) := L0.get 4 rfl
  have a3 : w0.cell? ⟨w.heap.size + 1, 3, none⟩ = some (.int .i64 a.kind) := L0.get 5 rfl
  have a4 : w0.cell? ⟨w.heap.size + 1, 4, none⟩ = some (.int .i64 a.file) := L0.get 6 rfl
  have a5 : w0.cell? ⟨w.heap.size + 1, 5, none⟩ = some (.int .i64 a.off) := L0.get 7 rfl
  have KW := Lib.hid (zj1 w0 a page hsd hpg)
  have FW : Hid (∀ W, Below w0.heap.size w0 W → Calls Tryz.prog 235 #[.pointer (some ⟨q.sp, 0, none⟩), .agg #[.int .i64 (za.keyF a page).1, .int .i64 (za.keyF a page).2]] W fun e w2 => e = .returned (.tuple #[.int .i64 (x.ve (za.keyF a page)).1.1, .int .i64 (x.ve (za.keyF a page)).1.2]) ∧ ∃ tag2, Loc w2 tag2 q (x.ve (za.keyF a page)).2 (zhh w.heap.size n page a) ∧ Step CA tag w tag2 w2) := fun W hb => by
   have L1 := L0.below hb
   refine (zh7 L1.sp wf hkey).mono ?_
   rintro e w2 ⟨rfl, tag2, h2, s2⟩
   exact ⟨rfl, tag2, L1.step s2 (by unfold CFi; omega) h2, ((s0.trans (Step.of_below hb)).mono fun _ h => h.elim).trans (s2.mono fun c hc => CA_CFi hc)⟩
  have hwf : WF (x.ve (za.keyF a page)).2 ∧ ((x.ve (za.keyF a page)).1.2 = 0 → ∃ f : Nat, (x.ve (za.keyF a page)).1.1 = f ∧ f < 1024) := wf.ve hkey
  have HW := Lib.hid hw0
  obtain ⟨D, hD⟩ : ∃ D, D = x.ve (za.keyF a page) := ⟨_, rfl⟩
  rw [← hD] at hR FW hwf
  obtain ⟨⟨df, dc⟩, dy⟩ := D
  dsimp only at hR FW hwf
  have HR := Lib.hid hR
  have HV := Lib.hid (And.intro hwf (And.intro hn (And.intro hp hpg)))
  obtain ⟨kk, hkk⟩ : ∃ kk, kk = za.keyF a page := ⟨_, rfl⟩
  rw [← hkk] at KW FW
  have hkb : (a.kind == 1) = false := beq_eq_false_iff_ne.2 hk
  have hkp : (a.kind = 1) = False := eq_false hk
  unfold ptrV
  unfold Ar.enc at KW ⊢
  clear h L0 s0 hR hw0 wf hk hkey hD hkk hwf hp hsd ha hn
  go_enter Tryz.func212, Tryz.ntmps212
  go_wp2_with fail
  rw [← HW.out]
  refine KW.out.mono ?_
  rintro e w1 ⟨rfl, hb1⟩
  have F1 := Lib.hid (FW.out w1 hb1)
  clear hb1 KW FW
  go_wp2_with fail
  refine F1.out.mono ?_
  rintro e w2 ⟨rfl, tag2, L2, s2⟩
  clear F1 a0 a1 a2 a3 a4 a5 g0 g1
  by_cases hc : dc = 0
  ·subst hc
   obtain ⟨f, rfl, hf⟩ := HV.out.1.2 rfl
   have g0 : w2.cell? ⟨w.heap.size, 0, none⟩ = some (.int .i64 n) := L2.get 0 rfl
   have g1 : w2.cell? ⟨w.heap.size, 1, none⟩ = some (.int .i64 page) := L2.get 1 rfl
   have PW := Lib.hid (Z7 L2.sp HV.out.1.1 n page HV.out.2.1 HV.out.2.2.2 ⟨1, (f : Int), false⟩ (by simp [Ent.ok, most]; omega))
   unfold ptrV entV at PW
   dsimp only at PW
   have S2 := Lib.hid s2
   clear L2 s2
   go_wp2_with fail
   refine PW.out.mono ?_
   rintro e w3 ⟨rfl, tag3, h3, s3⟩
   have H3 := Lib.hid (And.intro h3 s3)
   clear h3 s3 PW g0 g1
   go_wp2_with fail
   have e1 : R = (((f : Int), (dy.putF n page ⟨1, (f : Int), false⟩).1), (dy.putF n page ⟨1, (f : Int), false⟩).2) := by rw [HR.out]; rfl
   rw [e1]
   exact bodyPost_ret (v := .tuple #[.int .i64 f, .int .i64 (dy.putF n page ⟨1, (f : Int), false⟩).1]) (by simp [results, Tryz.results212, go_sem]) rfl ⟨rfl, tag3, H3.out.1, S2.out.trans (H3.out.2.mono fun c hc => Q8 HV.out.2.1 hc)⟩
  ·have n1 : (dc == 0) = false := beq_eq_false_iff_ne.2 hc
   have n2 : (dc = 0) = False := eq_false hc
   have H2 := Lib.hid (And.intro L2.sp s2)
   have HC := Lib.hid hc
   clear L2 s2 hc
   go_wp2_with fail
   have e1 : R = ((0, dc), dy) := by rw [HR.out]; exact if_neg HC.out
   rw [e1]
   exact bodyPost_ret (v := .tuple #[.int .i64 0, .int .i64 dc]) (by simp [results, Tryz.results212, go_sem]) rfl ⟨rfl, tag2, H2.out⟩
 ·rw [if_neg hk] at hR
  have hk1 : a.kind = 1 := by omega
  have g0 : w0.cell? ⟨w.heap.size, 0, none⟩ = some (.int .i64 n) := L0.get 0 rfl
  have g1 : w0.cell? ⟨w.heap.size, 1, none⟩ = some (.int .i64 page) := L0.get 1 rfl
  have a2 : w0.cell? ⟨w.heap.size + 1, 2, none⟩ = some (.bool a.write) := L0.get 4 rfl
  have a3 : w0.cell? ⟨w.heap.size + 1, 3, none⟩ = some (.int .i64 1) := by rw [← hk1]; exact L0.get 5 rfl
  have c0 : w0.cell? ⟨q.sp, 0, none⟩ = some (.pointer (some ⟨q.rp, 0, none⟩)) := L0.cell (i := 0) (by omega)
  have FZ : Hid (Calls Tryz.prog 213 #[.pointer (some ⟨q.sp, 0, none⟩), .int .i64 3, .func (.func 163) #[.pointer (some ⟨q.rp, 0, none⟩)] #[]] w0 fun e w2 => e = .returned (.tuple #[.int .i64 (x.yu 3).1.1, .int .i64 (x.yu 3).1.2]) ∧ ∃ tag2, Loc w2 tag2 q (x.yu 3).2 (zhh w.heap.size n page a) ∧ Step CA tag w tag2 w2) := by
   rcases wf.yu 3 with ⟨hnx, e⟩ | ⟨f, hnx, e, d0⟩
   ·rw [e]
    refine (Zu L0.sp 3 (by omega) hnx _).mono ?_
    rintro e w2 ⟨rfl, hb⟩
    exact ⟨rfl, tag0, L0.below hb, (s0.trans (Step.of_below hb)).mono fun _ h => h.elim⟩
   ·rw [e]
    refine (zdw L0.sp 3 (by omega) f hnx d0.was.1 (wf.qm d0.was.1 (by have := d0.was.2; omega))).mono ?_
    rintro e w2 ⟨rfl, h2, s2⟩
    exact ⟨rfl, tag0, L0.step s2 (by omega) h2, (s0.mono fun _ h => h.elim).trans (s2.mono fun c hc => by unfold CA; omega)⟩
  have hwf : WF (x.yu 3).2 ∧ (x.yu 3).2.T = x.T ∧ ((x.yu 3).1.2 = 0 → ∃ f : Nat, (x.yu 3).1.1 = f ∧ f < 1024 ∧ (x.yu 3).2.P.use f = 3) := by
   rcases wf.yu 3 with ⟨hnx, e⟩ | ⟨f, hnx, e, d0⟩
   ·rw [e]; exact ⟨wf, rfl, fun e => by simp at e⟩
   ·rw [e]; exact ⟨d0.wf, d0.keep.1, fun _ => ⟨f, rfl, d0.was.1, if_pos rfl⟩⟩
  have HW := Lib.hid hw0
  obtain ⟨D, hD⟩ : ∃ D, D = x.yu 3 := ⟨_, rfl⟩
  rw [← hD] at hR FZ hwf
  obtain ⟨⟨df, dc⟩, dy⟩ := D
  dsimp only at hR FZ hwf
  have HR := Lib.hid hR
  have HV := Lib.hid (And.intro hwf (And.intro hn (And.intro hp hpg)))
  have HO := Lib.hid h.out
  unfold ptrV
  unfold Ar.enc
  rw [hk1] at HW ⊢
  rw [HW.out] at c0
  clear h L0 s0 hR hw0 wf hk hD hwf hp hsd ha hn
  go_enter Tryz.func212, Tryz.ntmps212
  go_wp2_with fail
  rw [← HW.out]
  refine FZ.out.mono ?_
  rintro e w2 ⟨rfl, tag2, L2, s2⟩
  clear FZ a2 a3 g0 g1 c0
  by_cases hc : dc = 0
  ·subst hc
   obtain ⟨f, rfl, hf, hfu⟩ := HV.out.1.2.2 rfl
   have g0 : w2.cell? ⟨w.heap.size, 0, none⟩ = some (.int .i64 n) := L2.get 0 rfl
   have g1 : w2.cell? ⟨w.heap.size, 1, none⟩ = some (.int .i64 page) := L2.get 1 rfl
   have a2 : w2.cell? ⟨w.heap.size + 1, 2, none⟩ = some (.bool a.write) := L2.get 4 rfl
   obtain ⟨P, hP⟩ : ∃ P, P = dy.putF n page ⟨1, (f : Int), a.write⟩ := ⟨_, rfl⟩
   have PW : Hid (Calls Tryz.prog 88 #[.pointer (some ⟨q.sp, 0, none⟩), .agg #[.int .i64 n, .int .i64 page], .agg #[.int .i64 1, .int .i64 f, .bool a.write]] w2 fun e w3 => e = .returned (.int .i64 P.1) ∧ ∃ tag3, zb w3 tag3 q P.2 ∧ Step CA tag w tag3 w3) := by
    rw [hP]
    refine (Z7 L2.sp HV.out.1.1 n page HV.out.2.1 HV.out.2.2.2 ⟨1, (f : Int), a.write⟩ (by simp [Ent.ok, most]; omega)).mono ?_
    rintro e w3 ⟨rfl, tag3, h3, s3⟩
    exact ⟨rfl, tag3, h3, s2.trans (s3.mono fun c hc => Q8 HV.out.2.1 hc)⟩
   have hu2 : P.1 ≠ 0 → P.2.P.use f = 3 := fun hc => by
    have hp' : dy.T n = some pr := by rw [HV.out.1.2.1]; exact HV.out.2.2.1
    have d := HV.out.1.1.putF HV.out.2.1 hp' HV.out.2.2.2 (e := ⟨1, (f : Int), a.write⟩) (by simp [Ent.ok, most]; omega)
    rw [hP] at hc ⊢
    rw [d.use f (fun ho => by have := (HV.out.1.1.xh ho).2.1; omega) (by omega), if_neg fun q => hc q.1]
    exact hfu
   have HP := Lib.hid (And.intro hP (And.intro hu2 hf))
   clear L2 s2 hP hu2 hfu hf
   go_wp2_with fail
   refine PW.out.mono ?_
   rintro e w3 ⟨rfl, tag3, h3, s3⟩
   obtain ⟨pc, py⟩ := P
   dsimp only at HP h3 ⊢
   have HRR : Hid (R = if pc = 0 then (((f : Int), 0), py) else ((0, pc), py.vz (f : Int))) := by
    have := HR.out
    first | rw [if_pos rfl, ← HP.out.1] at this | rw [if_pos trivial, ← HP.out.1] at this
    exact this
   clear PW g0 g1 a2
   by_cases hc : pc = 0
   ·subst hc
    have H3 := Lib.hid (And.intro h3 s3)
    clear h3 s3
    go_wp2_with fail
    rw [HRR.out]
    first | rw [if_pos rfl] | rw [if_pos trivial]
    exact bodyPost_ret (v := .tuple #[.int .i64 f, .int .i64 0]) (by simp [results, Tryz.results212, go_sem]) rfl ⟨rfl, tag3, H3.out⟩
   ·have n1 : (pc == 0) = false := beq_eq_false_iff_ne.2 hc
    have n2 : (pc = 0) = False := eq_false hc
    have g2 : w3.cell? ⟨q.sp, 2, none⟩ = some (.pointer (some ⟨q.pp, 0, none⟩)) := h3.row.cell (i := 2) (by omega)
    have FR : Hid (Calls Tryz.prog 44 #[.pointer (some ⟨q.pp, 0, none⟩), .int .i64 f] w3 fun e w4 => e = .returned (.bool true) ∧ zb w4 tag3 q (py.vz (f : Int)) ∧ Step CA tag w tag3 w4) := by
     have hu := HP.out.2.1 hc
     refine (Vx _ _ _ _ _ _ h3.pool f f rfl HP.out.2.2 (by omega) (by omega)).mono ?_
     rintro e w4 ⟨rfl, k1, k2⟩
     have k := h3.zfm k2 k1
     have ef : py.vz (f : Int) = { py with P := py.P.set f 1 } := by
      unfold za.vz zm.free
      rw [if_pos, Int.toNat_natCast]
      unfold zm.used
      rw [decide_eq_true_eq, Int.toNat_natCast, hu]
      have := HP.out.2.2
      omega
     rw [ef]
     exact ⟨rfl, k.1, s3.trans (k.2.mono fun c hc => by unfold CA; omega)⟩
    have HC := Lib.hid hc
    clear h3 s3 hc
    go_wp2_with fail
    refine FR.out.mono ?_
    rintro e w4 ⟨rfl, h4⟩
    have H4 := Lib.hid h4
    clear h4 FR g2
    go_wp2_with fail
    rw [HRR.out, if_neg HC.out]
    exact bodyPost_ret (v := .tuple #[.int .i64 0, .int .i64 pc]) (by simp [results, Tryz.results212, go_sem]) rfl ⟨rfl, tag3, H4.out⟩
  ·have n1 : (dc == 0) = false := beq_eq_false_iff_ne.2 hc
   have n2 : (dc = 0) = False := eq_false hc
   have H2 := Lib.hid (And.intro L2.sp s2)
   have HC := Lib.hid hc
   clear L2 s2 hc
   go_wp2_with fail
   have e1 : R = ((0, dc), dy) := by rw [HR.out]; exact if_neg HC.out
   rw [e1]
   exact bodyPost_ret (v := .tuple #[.int .i64 0, .int .i64 dc]) (by simp [results, Tryz.results212, go_sem]) rfl ⟨rfl, tag2, H2.out⟩
end
section
variable {w w' : World} {tag tag' : Nat → Nat} {q : Sq} {x : za}
theorem zb.zdq (h : zb w tag q x) (n : Nat) (hs : (x.T n).isSome = true) : (Instr.lookup 53 (.map (some q.pm)) (.int .i64 n) false).run Tryz.prog w = .ok (.pointer (some ⟨(q.U n).ap, 0, none⟩)) w := by
 obtain ⟨PV, m, nd, kb, hg⟩ := h.map
 have hn : n < 8 := by
  rcases Nat.lt_or_ge n 8 with h8 | h8
  ·exact h8
  ·rw [h.out n h8] at hs; cases hs
 have e := hg n hn
 have hl := jc (T := 53) Vk Tryz.underlying53 (.pointer none) zbg m (n : Int) false
 rw [e] at hl
 obtain ⟨pr, hpr⟩ := Option.isSome_iff_exists.1 hs
 rw [hpr] at hl
 exact hl
theorem zav (h : zb w tag q x) (n page : Nat) (pr : ym) (hn : n < 8) (hp : x.T n = some pr) (a : Ar) (N : List Nat → Option Nat) (ok : xe ⟨x.R, x.P, pr.T⟩ N) (hpg : page < 4096) (old : Ent) (hold : mapOf x.R N page = old) (hk : old.kind = 1) :
  Calls Tryz.prog 168 #[ptrV q.sp, .agg #[.int .i64 n, .int .i64 page], a.enc] w fun r w' => r = .returned (.tuple #[.int .i64 old.n, .int .i64 0]) ∧ ∃ tag', zb w' tag' q x ∧ Step (CP n) tag w tag' w' := by
 obtain ⟨w0, hw0⟩ : ∃ w0, w0 = (w.alloc (.cells #[.int .i64 n, .int .i64 page] 58 (0, 0))).alloc (.cells #[.int .i64 a.from_, .int .i64 a.pages, .bool a.write, .int .i64 a.kind, .int .i64 a.file, .int .i64 a.off] 32 (0, 0)) := ⟨_, rfl⟩
 have hb0 : Below w.heap.size w w0 := by rw [hw0]; exact ((Below.refl w.heap.size w).alloc (Nat.le_refl _) _).alloc (by simp) _
 have z0 : w0.heap.size = w.heap.size + 2 := by rw [hw0]; simp
 have nb4 : w0.heap[w.heap.size]? = some (.cells #[.int .i64 n, .int .i64 page] 58 (0, 0)) := by
  rw [hw0, Below.heap_alloc _ _ _ (by simp)]
  exact heap_alloc_new w _
 have s0 : Step (CP n) tag w (retag tag w 0) w0 := Step.anew hb0
 have h0 : zb w0 (retag tag w 0) q x := h.step (Step.anew hb0)
 have d40 : w0.cell? ⟨w.heap.size, 0, none⟩ = some (.int .i64 n) := by rw [cell_of_row _ _ 0 _ _ _ nb4]; rfl
 have d41 : w0.cell? ⟨w.heap.size, 1, none⟩ = some (.int .i64 page) := by rw [cell_of_row _ _ 1 _ _ _ nb4]; rfl
 obtain ⟨av, r1, _, _⟩ := (h0.procs n pr hn hp).row
 have c0 : w0.cell? ⟨(q.U n).ap, 0, none⟩ = some (.pointer (some ⟨(q.U n).tp, 0, none⟩)) := r1.cell (i := 0) (by omega)
 have c6 : w0.cell? ⟨q.sp, 6, none⟩ = some (.map (some q.pm)) := h0.row.cell (i := 6) (by omega)
 have hs : (x.T n).isSome = true := by rw [hp]; rfl
 have lk : ∀ W', Below w0.heap.size w0 W' → (Instr.lookup 53 (.map (some q.pm)) (.int .i64 n) false).run Tryz.prog W' = .ok (.pointer (some ⟨(q.U n).ap, 0, none⟩)) W' := fun W' hW' => (h0.below hW').zdq n hs
 have lk1 := lk w0.drew (Below.refl _ _).drew
 have lk2 := fun o => lk (w0.alloc o).drew (((Below.refl _ _).alloc (Nat.le_refl _) o).drew)
 have G : Hid (∀ W', Below w0.heap.size w0 W' → Calls Tryz.prog 35 #[.pointer (some ⟨(q.U n).tp, 0, none⟩), .int .i64 page] W' fun r w2 => r = .returned (.tuple #[entV old, .int .i64 0]) ∧ Below W'.heap.size W' w2) := fun W' hW' => by
  rw [← hold]
  exact Xj _ _ _ _ _ ((h0.below hW').rpt hn hp) ok.tree page page rfl hpg
 have kp : ∀ w2, Below w0.heap.size w0 w2 → (w2.cell? ⟨(q.U n).ap, 0, none⟩ = some (.pointer (some ⟨(q.U n).tp, 0, none⟩)) ∧ w2.cell? ⟨q.sp, 6, none⟩ = some (.map (some q.pm)) ∧ w2.cell? ⟨w.heap.size, 0, none⟩ = some (.int .i64 n) ∧ w2.cell? ⟨w.heap.size, 1, none⟩ = some (.int .i64 page)) ∧ ¬ w2.heap.size = (q.U n).ap ∧ ¬ w2.heap.size = w.heap.size ∧ ¬ w2.heap.size = q.sp := fun w2 hb => by
  have l1 := World.block_lt_of_cell? _ _ c0
  have l2 := World.block_lt_of_cell? _ _ c6
  have l3 := World.block_lt_of_cell? _ _ d40
  have hz := hb.size
  dsimp only at l1 l2 l3
  exact ⟨⟨(hb.cell l1).trans c0, (hb.cell l2).trans c6, (hb.cell l3).trans d40, (hb.cell (World.block_lt_of_cell? _ _ d41)).trans d41⟩, by omega, by omega, by omega⟩
 have ka : ∀ o, (w0.alloc o).cell? ⟨(q.U n).ap, 0, none⟩ = some (.pointer (some ⟨(q.U n).tp, 0, none⟩)) ∧ (w0.alloc o).cell? ⟨q.sp, 6, none⟩ = some (.map (some q.pm)) ∧ (w0.alloc o).cell? ⟨w.heap.size, 0, none⟩ = some (.int .i64 n) ∧ (w0.alloc o).cell? ⟨w.heap.size, 1, none⟩ = some (.int .i64 page) := fun o => (kp _ ((Below.refl _ _).alloc (Nat.le_refl _) o)).1
 have ka0 := fun o => (ka o).1
 have ka1 := fun o => (ka o).2.1
 have ka2 := fun o => (ka o).2.2.1
 have ka3 := fun o => (ka o).2.2.2
 obtain ⟨_, e1, e2, e3⟩ := kp w0 (Below.refl _ _)
 have e1' : ¬ w.heap.size + 2 = (q.U n).ap := by omega
 have e3' : ¬ w.heap.size + 2 = q.sp := by omega
 have G1 : Hid (Calls Tryz.prog 35 #[.pointer (some ⟨(q.U n).tp, 0, none⟩), .int .i64 page] w0.drew fun r w2 => r = .returned (.tuple #[entV old, .int .i64 0]) ∧ (w2.cell? ⟨(q.U n).ap, 0, none⟩ = some (.pointer (some ⟨(q.U n).tp, 0, none⟩)) ∧ w2.cell? ⟨q.sp, 6, none⟩ = some (.map (some q.pm)) ∧ w2.cell? ⟨w.heap.size, 0, none⟩ = some (.int .i64 n) ∧ w2.cell? ⟨w.heap.size, 1, none⟩ = some (.int .i64 page)) ∧
   (∀ o, (w2.alloc o).cell? ⟨(q.U n).ap, 0, none⟩ = some (.pointer (some ⟨(q.U n).tp, 0, none⟩))) ∧ (∀ o, (w2.alloc o).cell? ⟨q.sp, 6, none⟩ = some (.map (some q.pm))) ∧ (∀ o, (w2.alloc o).cell? ⟨w.heap.size, 0, none⟩ = some (.int .i64 n)) ∧ (∀ o, (w2.alloc o).cell? ⟨w.heap.size, 1, none⟩ = some (.int .i64 page)) ∧ (¬ w2.heap.size = (q.U n).ap ∧ ¬ w2.heap.size = w.heap.size ∧ ¬ w2.heap.size = q.sp) ∧ Below w0.heap.size w0 w2) := by
  refine (G.out w0.drew (Below.refl _ _).drew).mono ?_
  rintro r w2 ⟨rfl, hb⟩
  have hb : Below w0.heap.size w0 w2 := ⟨hb.os, hb.tape, hb.output, hb.size, hb.block⟩
  have k := kp w2 hb
  have ko := fun o => (kp (w2.alloc o) (hb.alloc hb.size o)).1
  exact ⟨rfl, k.1, fun o => (ko o).1, fun o => (ko o).2.1, fun o => (ko o).2.2.1, fun o => (ko o).2.2.2, k.2, hb⟩
 have G2 : Hid (Calls Tryz.prog 35 #[.pointer (some ⟨(q.U n).tp, 0, none⟩), .int .i64 page] (w0.alloc (.cells #[.int .i64 0, .int .i64 0, .bool false] 70)).drew fun r w2 => r = .returned (.tuple #[entV old, .int .i64 0]) ∧ (w2.cell? ⟨(q.U n).ap, 0, none⟩ = some (.pointer (some ⟨(q.U n).tp, 0, none⟩)) ∧ w2.cell? ⟨q.sp, 6, none⟩ = some (.map (some q.pm)) ∧ w2.cell? ⟨w.heap.size, 0, none⟩ = some (.int .i64 n) ∧ w2.cell? ⟨w.heap.size, 1, none⟩ = some (.int .i64 page)) ∧
   (w2.cell? ⟨w.heap.size + 2, 0, none⟩ = some (.int .i64 0) ∧ w2.cell? ⟨w.heap.size + 2, 1, none⟩ = some (.int .i64 0) ∧ w2.cell? ⟨w.heap.size + 2, 2, none⟩ = some (.bool false) ∧ w2.frozen? ⟨w.heap.size + 2, 0, none⟩ = false ∧ w2.frozen? ⟨w.heap.size + 2, 1, none⟩ = false ∧ w2.frozen? ⟨w.heap.size + 2, 2, none⟩ = false) ∧ Below w0.heap.size w0 w2) := by
  refine (G.out _ ((Below.refl _ _).alloc (Nat.le_refl _) _).drew).mono ?_
  rintro r w2 ⟨rfl, hb⟩
  have hb : Below (w0.alloc (.cells #[.int .i64 0, .int .i64 0, .bool false] 70)).heap.size (w0.alloc (.cells #[.int .i64 0, .int .i64 0, .bool false] 70)) w2 := ⟨hb.os, hb.tape, hb.output, hb.size, hb.block⟩
  have nb := (hb.block w0.heap.size (by simp)).trans (heap_alloc_new w0 (.cells #[.int .i64 0, .int .i64 0, .bool false] 70))
  rw [z0] at nb
  have hbb : Below w0.heap.size w0 w2 := ((Below.refl _ _).alloc (Nat.le_refl _) _).trans (hb.mono (by simp))
  exact ⟨rfl, (kp w2 hbb).1, ⟨by rw [cell_of_row _ _ 0 _ _ _ nb]; rfl, by rw [cell_of_row _ _ 1 _ _ _ nb]; rfl, by rw [cell_of_row _ _ 2 _ _ _ nb]; rfl, by simp [World.frozen?, nb], by simp [World.frozen?, nb], by simp [World.frozen?, nb]⟩, hbb⟩
 have fin : Hid (∀ W3, Turn (fun _ => False) w0 W3 → ∃ tag', zb W3 tag' q x ∧ Step (CP n) tag w tag' W3) := fun W3 t => ⟨retag tag w 0, h0.below t.below, s0.trans (Step.of_below t.below)⟩
 have HW := Lib.hid hw0
 unfold entV at G1 G2
 unfold ptrV Ar.enc
 have hk1 : ((old.kind : Int) == 3) = false := beq_eq_false_iff_ne.2 (by omega)
 have hk2 : ((old.kind : Int) == 2) = false := beq_eq_false_iff_ne.2 (by omega)
 have hk3 : ((old.kind : Int) == 0) = false := beq_eq_false_iff_ne.2 (by omega)
 rw [HW.out] at d40 d41 c0 c6
 clear h hb0 nb4 s0 h0 r1 hs lk kp ka G hw0 hold hk
 go_enter Tryz.func168, Tryz.ntmps168
 go_wp2_with fail
 rw [← HW.out]
 rw [← HW.out] at d40 d41 c0 c6
 go_region_held (fun W' => W'.cell? ⟨(q.U n).ap, 0, none⟩ = some (.pointer (some ⟨(q.U n).tp, 0, none⟩)) ∧ W'.cell? ⟨q.sp, 6, none⟩ = some (.map (some q.pm)) ∧ W'.cell? ⟨w.heap.size, 0, none⟩ = some (.int .i64 n) ∧ W'.cell? ⟨w.heap.size, 1, none⟩ = some (.int .i64 page)) (go_keep)
  (first
   | (go_at_call 35; refine G1.out.mono ?_; rintro r w2 ⟨rfl, ⟨g1, g2, g3, g4⟩, y0, y1, y2, y3, ⟨n1, n2, n3⟩, HX⟩; have hX := Lib.hid HX; clear HX)
   | (go_at_call 35; refine G2.out.mono ?_; rintro r w2 ⟨rfl, ⟨g1, g2, g3, g4⟩, ⟨y0, y1, y2, y3, y4, y5⟩, HX⟩; have hX := Lib.hid HX; clear HX))
 ·clear g1 g2 g3 g4 y0 y1 y2 y3 n1 n2 n3 d40 d41 c0 c6 ka0 ka1 ka2 ka3 lk1 lk2
  go_wp2_with fail
  exact bodyPost_ret (v := .tuple #[.int .i64 old.n, .int .i64 0]) (by simp [results, Tryz.results168, go_sem]) rfl ⟨rfl, fin.out _ ((Turn.of_below hX.out).alloc _)⟩
 all_goals (
  have tX : Hid (∀ a b c, Turn (fun _ => False) w0 (((w2.setCell ⟨w.heap.size + 2, 0, none⟩ a).setCell ⟨w.heap.size + 2, 1, none⟩ b).setCell ⟨w.heap.size + 2, 2, none⟩ c)) := fun a b c =>
   (((Turn.of_below hX.out).set (p := ⟨w.heap.size + 2, 0, none⟩) (.inr (Nat.le_of_eq z0)) a).set (p := ⟨w.heap.size + 2, 1, none⟩) (.inr (Nat.le_of_eq z0)) b).set (p := ⟨w.heap.size + 2, 2, none⟩) (.inr (Nat.le_of_eq z0)) c
  clear g1 g2 g3 g4 d40 d41 c0 c6 ka0 ka1 ka2 ka3 lk1 lk2
  go_wp2_with fail
  exact bodyPost_ret (v := .tuple #[.int .i64 old.n, .int .i64 0]) (by simp [results, Tryz.results168, go_sem]) rfl ⟨rfl, fin.out _ (tX.out _ _ _)⟩)
end
end Go.Proofs.YtnhdmnijiphjjaaGreat
