/- Processes: Load: the bytes of some pieces (pieces' contract is a parameter). -/
import Derived.Test.YtnhdmnijiphjjaaGreatJEc15
set_option linter.unusedVariables false
set_option linter.unusedSimpArgs false
set_option maxRecDepth 100000
set_option maxHeartbeats 2000000
namespace Go.Proofs.YtnhdmnijiphjjaaGreat
open Go Go.RowKit
def Yf (R : RamS) (l : List Pc) : List UInt8 := l.flatMap fun p => R.read p.f p.a p.k
def PcOk (R : RamS) (p : Pc) : Prop := p.f < 1024 ∧ 0 < p.k ∧ p.a + p.k ≤ 64 ∧ R.bad p.f = false
theorem zbt {R : RamS} : ∀ {l : List Pc}, (∀ p ∈ l, PcOk R p) → (Yf R l).length ≤ 64 * l.length
 | [], _ => by simp [Yf]
 | a :: l, h => by
  have ih := zbt (R := R) (l := l) fun p hp => h p (List.mem_cons_of_mem _ hp)
  have e : Yf R (a :: l) = R.read a.f a.a a.k ++ Yf R l := by simp [Yf]
  have ha := h a (List.mem_cons_self ..)
  unfold PcOk at ha
  rw [e, List.length_append]
  have e2 : (R.read a.f a.a a.k).length = a.k := by simp [RamS.read]
  simp only [List.length_cons]
  omega
theorem PcAt.cell {w : World} {b off c n : Nat} {l : List Pc} (h : PcAt w (.slice (some ⟨b, off, none⟩) n c) l) {i : Nat} {p : Pc} (hp : l[i]? = some p) :
  w.cell? ⟨b, off + i * 3, none⟩ = some (.int .i64 p.f) ∧ w.cell? ⟨b, off + i * 3 + 1, none⟩ = some (.int .i64 p.a) ∧ w.cell? ⟨b, off + i * 3 + 2, none⟩ = some (.int .i64 p.k) := by
 have hl : ∀ (l : List Pc) (i : Nat) (p : Pc), l[i]? = some p → ∀ j, j < 3 → (pcs l)[i * 3 + j]? = p.cells[j]? := by
  intro l
  induction l with
  | nil => intro i p h; simp at h
  | cons a l ih =>
   intro i p h j hj
   have e : pcs (a :: l) = a.cells ++ pcs l := by simp [pcs]
   rw [e]
   have hal : a.cells.length = 3 := rfl
   cases i with
   | zero =>
    simp at h
    subst h
    rw [List.getElem?_append_left (by omega)]
    congr 1
    omega
   | succ i =>
    simp at h
    rw [List.getElem?_append_right (by omega), hal, show (i + 1) * 3 + j - 3 = i * 3 + j by omega]
    exact ih i p h j hj
 have hpos : 0 < (pcs l).length := by
  have := h.1
  have hi := (List.getElem?_eq_some_iff.1 hp).1
  omega
 obtain ⟨b', off', c', e, _, _, hx⟩ := h.cells hpos
 cases e
 have k := fun j hj => hl l i p hp j hj
 refine ⟨?_, ?_, ?_⟩
 ·have := (hx (i * 3 + 0) (.int .i64 p.f) (by rw [k 0 (by omega)]; rfl)).1
  rw [Nat.add_zero] at this
  exact this
 ·have := (hx (i * 3 + 1) (.int .i64 p.a) (by rw [k 1 (by omega)]; rfl)).1
  rw [← Nat.add_assoc] at this
  exact this
 ·have := (hx (i * 3 + 2) (.int .i64 p.k) (by rw [k 2 (by omega)]; rfl)).1
  rw [← Nat.add_assoc] at this
  exact this
section
variable {w w' : World} {tag tag' : Nat → Nat} {q : Sq} {x : za}
theorem zi3 (n a0 s0 : Nat) (CA : Nat → Prop) (hRt : Calls Tryz.prog 64 #[.pointer (some ⟨q.sp, 0, none⟩), .int .i64 n, .int .i64 a0, .int .i64 s0] w fun e w' => e = .returned (.int .i64 0) ∧ w' = w) (G : List Pc → za → Prop) (E : Int → za → Prop)
  (hP : Calls Tryz.prog 65 #[.pointer (some ⟨q.sp, 0, none⟩), .int .i64 n, .int .i64 a0, .int .i64 s0, .bool false] w fun e w' =>
   (∃ v l x' tag', e = .returned (.tuple #[v, .int .i64 0]) ∧ PcAt w' v l ∧ zb w' tag' q x' ∧ Step CA tag w tag' w' ∧ G l x') ∨
   (∃ c x' tag', e = .returned (.tuple #[.slice none 0 0, .int .i64 c]) ∧ c ≠ 0 ∧ zb w' tag' q x' ∧ Step CA tag w tag' w' ∧ E c x'))
  (hG : ∀ l x', G l x' → l.length ≤ 64 ∧ ∀ p ∈ l, PcOk x'.R p) :
  Calls Tryz.prog 20 #[.pointer (some ⟨q.sp, 0, none⟩), .int .i64 n, .int .i64 a0, .int .i64 s0] w fun e w' =>
   (∃ v l x' tag', e = .returned (.tuple #[v, .int .i64 0]) ∧ ByAt w' v (Yf x'.R l) ∧ (∀ b, v.ownBlock = some b → tag' b = 0) ∧ zb w' tag' q x' ∧ Step CA tag w tag' w' ∧ G l x') ∨
   (∃ c x' tag', e = .returned (.tuple #[.slice none 0 0, .int .i64 c]) ∧ c ≠ 0 ∧ zb w' tag' q x' ∧ Step CA tag w tag' w' ∧ E c x') := by
 have HR := Lib.hid hRt
 have HP := Lib.hid hP
 have HG := Lib.hid hG
 clear hRt hP hG
 go_enter Tryz.func20, Tryz.ntmps20
 go_wp2_with fail
 refine HR.out.mono ?_
 rintro e u ⟨rfl, hu⟩
 have hu := hu.symm
 subst hu
 go_wp2_with fail
 refine HP.out.mono ?_
 rintro e w1 (⟨v, l, x', tag1, rfl, hv, hS, hst, hg⟩ | ⟨c, x', tag1, rfl, hc, hS, hst, hE⟩)
 ·obtain ⟨va, vc, rfl, _, _⟩ := SlAt.form hv
  have H1 := Lib.hid (And.intro hv (And.intro hS (And.intro hst hg)))
  clear hv hS hst hg
  go_wp2_with fail
  go_loopw [13, 39] (fun ov iv W => ∃ i : Nat, i ≤ l.length ∧ iv = .int .i64 i ∧ Below w1.heap.size w1 W ∧ ByAt W ov (Yf x'.R (l.take i)) ∧ ∀ b, ov.ownBlock = some b → w1.heap.size ≤ b) (fun _ iv _ => l.length - (intOf iv).toNat)
  case atStart => exact ⟨0, by omega, rfl, Below.refl _ _, SlAt.nil _ _ _, fun b hb => by simp [Value.ownBlock] at hb⟩
  case round =>
   obtain ⟨i, hi, rfl, hb, hby, ho⟩ := hrel
   by_cases hlt : i < l.length
   ·obtain ⟨p, hp⟩ : ∃ p, l[i]? = some p := ⟨l[i], List.getElem?_eq_getElem hlt⟩
    have hpos : 0 < (pcs l).length := by have := H1.out.1.1; omega
    obtain ⟨pb, poff, pc, epv, _, _, _⟩ := SlAt.cells H1.out.1 hpos
    cases epv
    have hpw : PcAt wr (.slice (some ⟨pb, poff, none⟩) l.length vc) l := SlAt.below H1.out.1 hb
    obtain ⟨k0, k1, k2⟩ := hpw.cell hp
    have hpk := (HG.out l x' H1.out.2.2.2).2 p (List.mem_of_getElem? hp)
    have i1 : (i : Int) < l.length := by omega
    have i2 : (0 : Int) ≤ i := by omega
    obtain ⟨W2, hW2⟩ : ∃ W2, W2 = wr.alloc (.cells #[.int .i64 p.f, .int .i64 p.a, .int .i64 p.k] 115) := ⟨_, rfl⟩
    have hbW : Below wr.heap.size wr W2 := by rw [hW2]; exact (Below.refl _ _).alloc (Nat.le_refl _) _
    have hb1 : Below w1.heap.size w1 W2.drew := (hb.trans (hbW.mono hb.size)).drew
    have S2 : zb W2.drew tag1 q x' := H1.out.2.1.below hb1
    have nb : W2.heap[wr.heap.size]? = some (.cells #[.int .i64 p.f, .int .i64 p.a, .int .i64 p.k] 115 (0, 0)) := by rw [hW2]; exact heap_alloc_new wr _
    have m0 : W2.cell? ⟨q.sp, 0, none⟩ = some (.pointer (some ⟨q.rp, 0, none⟩)) := S2.row.cell (i := 0) (by omega)
    have m1 : W2.cell? ⟨wr.heap.size, 0, none⟩ = some (.int .i64 p.f) := by rw [cell_of_row _ _ 0 _ _ _ nb]; rfl
    have m2 : W2.cell? ⟨wr.heap.size, 1, none⟩ = some (.int .i64 p.a) := by rw [cell_of_row _ _ 1 _ _ _ nb]; rfl
    have m3 : W2.cell? ⟨wr.heap.size, 2, none⟩ = some (.int .i64 p.k) := by rw [cell_of_row _ _ 2 _ _ _ nb]; rfl
    have RD : Hid (Calls Tryz.prog 67 #[.pointer (some ⟨q.rp, 0, none⟩), .int .i64 p.f, .int .i64 p.a, .int .i64 p.k] W2.drew fun e w3 => ∃ b' off' c', e = .returned (.tuple #[.slice (some ⟨b', off', none⟩) p.k c', .int .i64 0]) ∧ (w3.cell? ⟨q.sp, 0, none⟩ = some (.pointer (some ⟨q.rp, 0, none⟩)) ∧ w3.cell? ⟨wr.heap.size, 0, none⟩ = some (.int .i64 p.f) ∧ w3.cell? ⟨wr.heap.size, 1, none⟩ = some (.int .i64 p.a) ∧ w3.cell? ⟨wr.heap.size, 2, none⟩ = some (.int .i64 p.k)) ∧
      ((∀ j u, ((x'.R.read p.f p.a p.k).map bV)[j]? = some u → w3.cell? ((⟨b', off', none⟩ : Addr).add j) = some u) ∧ Below wr.heap.size wr w3)) := by
     refine (Y9 W2.drew _ _ _ _ S2.ram p.f p.a p.k p.f p.a p.k rfl rfl rfl hpk.1 hpk.2.1 hpk.2.2.1 hpk.2.2.2).mono ?_
     rintro e w3 ⟨v', rfl, h1, h2, h3⟩
     have hlen : (x'.R.read p.f p.a p.k).length = p.k := by simp [RamS.read]
     obtain ⟨b', off', c', rfl, _, _, hx⟩ := h1.cells (by rw [List.length_map, hlen]; exact hpk.2.1)
     have h2' : Below W2.heap.size W2 w3 := ⟨h2.os, h2.tape, h2.output, h2.size, h2.block⟩
     refine ⟨b', off', c', by rw [hlen], ⟨(h2'.cell (World.block_lt_of_cell? _ _ m0)).trans m0, (h2'.cell (World.block_lt_of_cell? W2 ⟨wr.heap.size, 0, none⟩ m1)).trans m1, (h2'.cell (World.block_lt_of_cell? W2 ⟨wr.heap.size, 1, none⟩ m2)).trans m2, (h2'.cell (World.block_lt_of_cell? W2 ⟨wr.heap.size, 2, none⟩ m3)).trans m3⟩, fun j u hu => ?_, hbW.trans (h2'.mono hbW.size)⟩
     rw [add_plain]
     exact (hx j u hu).1
    have HB := Lib.hid (And.intro hb (And.intro hby ho))
    have HPK := Lib.hid (And.intro hpk hp)
    obtain ⟨av0, cv0, rfl, _, _⟩ := SlAt.form hby
    have HW := Lib.hid hW2
    clear hb hby ho hpw hpos hpk hp hbW hb1 S2 nb hW2
    go_wp2_with fail
    rw [← HW.out]
    go_region_held (fun W' => W'.cell? ⟨q.sp, 0, none⟩ = some (.pointer (some ⟨q.rp, 0, none⟩)) ∧ W'.cell? ⟨wr.heap.size, 0, none⟩ = some (.int .i64 p.f) ∧ W'.cell? ⟨wr.heap.size, 1, none⟩ = some (.int .i64 p.a) ∧ W'.cell? ⟨wr.heap.size, 2, none⟩ = some (.int .i64 p.k)) (go_keep)
     ((go_at_call 67; refine RD.out.mono ?_; rintro e w3 ⟨b', off', c', rfl, ⟨g0, g1, g2, g3⟩, HX⟩; have hX := Lib.hid HX; clear HX))
    have NL : Hid ((Yf x'.R (l.take i)).length ≤ 4096 ∧ p.k ≤ 64) := by
     have h1 := zbt (R := x'.R) (l := l.take i) fun p hp => (HG.out l x' H1.out.2.2.2).2 p (List.mem_of_mem_take hp)
     have h2 := (HG.out l x' H1.out.2.2.2).1
     have h3 := HPK.out.1
     unfold PcOk at h3
     have h4 := List.length_take_le i l
     exact ⟨by omega, by omega⟩
    have HK : Hid (ByAt w3 (.slice av0 (Yf x'.R (l.take i)).length cv0) (Yf x'.R (l.take i))) := SlAt.below HB.out.2.1 hX.out.2
    obtain ⟨inf, hinf, hz, hsz, hby⟩ := zec
    have HI := Lib.hid (And.intro hinf (And.intro hz (And.intro hsz hby)))
    have hrl : Hid (((x'.R.read p.f p.a p.k).map bV).length = p.k * 1) := by
     show _ = _
     simp [RamS.read]
    clear hinf hz hsz hby m0 m1 m2 m3 g0 g1 g2 g3 k0 k1 k2 RD
    obtain ⟨nn, hnn⟩ : ∃ nn, (Yf x'.R (l.take i)).length = nn := ⟨_, rfl⟩
    unfold ByAt at HK
    rw [hnn] at NL HK ⊢
    have HNN := Lib.hid hnn
    clear hnn
    go_wp2_with (at_builtin; refine vg _ rfl _ _ 22 rfl 5 inf _ 1 1 Tryz.underlying22 HI.out.1 HI.out.2.1 HI.out.2.2.1 HI.out.2.2.2 rfl _ _ _ rfl HK.out ⟨b', off', none⟩ p.k c' ((x'.R.read p.f p.a p.k).map bV) rfl hrl.out hX.out.1 ?c2 ?c3 ?c4 ?c5)
    case c2 => intro u hu; obtain ⟨z, _, rfl⟩ := List.mem_map.1 hu; rfl
    case c3 => have := NL.out; unfold maxLen; omega
    case c4 => have := NL.out; omega
    rintro v' w4 hsl hgr hown
    have R : Hid (Below w1.heap.size w1 w4 ∧ ByAt w4 v' (Yf x'.R (l.take (i + 1))) ∧ ∀ b, v'.ownBlock = some b → w1.heap.size ≤ b) := by
     have hp := HPK.out.2
     have e : Yf x'.R (l.take (i + 1)) = Yf x'.R (l.take i) ++ x'.R.read p.f p.a p.k := by
      rw [List.take_add_one, hp]
      simp [Yf]
     have hbr := HB.out.1
     have h3 := hX.out.2
     refine ⟨?_, ?_, ?_⟩
     ·have t := Turn.uw (O := fun k => w1.heap.size ≤ k) hgr (fun m hm => .inl (HB.out.2.2 m (by rw [HNN.out]; exact hm)))
      have b3 := hbr.trans (h3.mono hbr.size)
      exact b3.trans (t.Vu (fun i hi => hi) b3.size)
     ·unfold ByAt
      rw [e, List.map_append, List.length_append, HNN.out]
      have e2 : (x'.R.read p.f p.a p.k).length = p.k := by simp [RamS.read]
      rw [e2]
      exact hsl
     ·intro b hb
      rcases hown with e1 | e1
      ·exact HB.out.2.2 b (by rw [HNN.out]; exact e1.symm.trans hb)
      ·rw [hb] at e1
       have := hbr.size
       have := h3.size
       simp at e1
       omega
    obtain ⟨av', cv', rfl, _, _⟩ := SlAt.form hsl
    clear hsl hgr hown
    have i3 : (i : Int) ≤ 64 := by have := (HG.out l x' H1.out.2.2.2).1; omega
    have d5 : IntKind.i64.wrap ((i : Int) + 1) = i + 1 := by simp [IntKind.wrap, IntKind.bits, IntKind.signed]; omega
    have HLT := Lib.hid (And.intro hlt i3)
    clear hlt i3 i1 i2
    go_wp2_with fail
    go_roundw
    case rel => exact ⟨i + 1, HLT.out.1, by go_num, R.out⟩
    case measure => have := HLT.out.1; simp [intOf]; omega
   ·obtain rfl : i = l.length := by omega
    obtain ⟨av0, cv0, rfl, _, _⟩ := SlAt.form hby
    have HB := Lib.hid (And.intro hb (And.intro hby ho))
    clear hb hby ho
    go_wp2_with fail
    refine bodyPost_ret (v := .tuple #[.slice av0 (Yf x'.R (l.take l.length)).length cv0, .int .i64 0]) (by simp [results, Tryz.results20, go_sem]) rfl (.inl ⟨_, l, x', retag tag1 w1 0, rfl, ?_, fun b hb => zy _ _ _ _ (HB.out.2.2 b hb), ?_, ?_, H1.out.2.2.2⟩)
    ·have := HB.out.2.1
     rw [List.take_length] at this ⊢
     exact this
    ·exact H1.out.2.1.step (Step.anew HB.out.1)
    ·exact H1.out.2.2.1.trans (Step.anew HB.out.1)
 ·have H1 := Lib.hid (And.intro hS (And.intro hst hE))
  clear hS hst hE
  have c1 : (c == 0) = false := beq_eq_false_iff_ne.2 hc
  go_wp2_with fail
  exact bodyPost_ret (v := .tuple #[.slice none 0 0, .int .i64 c]) (by simp [results, Tryz.results20, go_sem]) rfl (.inr ⟨c, x', tag1, rfl, hc, H1.out.1, H1.out.2.1, H1.out.2.2⟩)
end
section
open Go Go.RowKit
namespace za
def vz (x : za) (f : Int) : za := { x with P := x.P.free f }
def yu (x : za) (u : Nat) : (Int × Int) × za := match x.P.next true with | none => ((0, 4), x) | some f => (((f : Int), 0), x.zcg f u)
def zw (x : za) (u sec : Nat) : (Int × Int) × za :=
 match x.P.next true with
 | none => ((0, 4), x)
 | some f =>
  if x.D.work.2 = 0 then (((f : Int), 0), { x with P := x.P.set f u, D := x.D.work.1, R := x.R.write f 0 (x.D.cur sec) })
  else ((0, (x.D.work.2 : Int)), { x with P := (x.P.set f u).free (f : Int), D := x.D.work.1 })
def yn (x : za) (g : Int) : (Int × Int) × za :=
 match x.P.next true with
 | none => ((0, 4), x)
 | some f =>
  if x.R.bad g.toNat = false then (((f : Int), 0), { x with P := x.P.set f 3, R := x.R.write f 0 (x.R.read g.toNat 0 64) })
  else ((0, 7), { x with P := (x.P.set f 3).free (f : Int) })
def vw (x : za) (k : Int × Int) (f : Int) : za := if (getL x.CL k).isSome = true ∨ (getL x.CR f).isSome = true then x else { x with CL := updL x.CL k (f, false), CR := updL x.CR f k }
def zz (x : za) (k : Int × Int) (d : Bool) : za := { x with CL := match getL x.CL k with | some v => updL x.CL k (v.1, d) | none => x.CL }
def y8 (x : za) (k : Int × Int) : za := { x with CL := (match getL x.CL k with | some _ => delL x.CL k | none => x.CL), CR := (match getL x.CL k with | some v => delL x.CR v.1 | none => x.CR) }
def yc (k : Int × Int) : Nat := 96 + (16 * k.1.toNat + k.2.toNat)
def ve (x : za) (k : Int × Int) : (Int × Int) × za :=
 match getL x.CL k with
 | some v => ((v.1, 0), x)
 | none => if (x.zw 4 (yc k)).1.2 = 0 then ((x.zw 4 (yc k)).1, (x.zw 4 (yc k)).2.vw k (x.zw 4 (yc k)).1.1) else x.zw 4 (yc k)
def keyF (a : Ar) (page : Nat) : Int × Int := (a.file, a.off + page - a.from_)
def qz (x : za) (n page : Nat) (a : Ar) : (Int × Int) × za :=
 if a.kind ≠ 1 then
  if (x.ve (keyF a page)).1.2 = 0 then (((x.ve (keyF a page)).1.1, ((x.ve (keyF a page)).2.putF n page ⟨1, (x.ve (keyF a page)).1.1, false⟩).1), ((x.ve (keyF a page)).2.putF n page ⟨1, (x.ve (keyF a page)).1.1, false⟩).2)
  else ((0, (x.ve (keyF a page)).1.2), (x.ve (keyF a page)).2)
 else
  if (x.yu 3).1.2 = 0 then
   if ((x.yu 3).2.putF n page ⟨1, (x.yu 3).1.1, a.write⟩).1 = 0 then ((x.yu 3).1, ((x.yu 3).2.putF n page ⟨1, (x.yu 3).1.1, a.write⟩).2)
   else ((0, ((x.yu 3).2.putF n page ⟨1, (x.yu 3).1.1, a.write⟩).1), ((x.yu 3).2.putF n page ⟨1, (x.yu 3).1.1, a.write⟩).2.vz (x.yu 3).1.1)
  else ((0, (x.yu 3).1.2), (x.yu 3).2)
def xk (x : za) (l : List (Int × Int)) (e : Ent) : za := l.foldl (fun y p => (y.putF p.1.toNat p.2.toNat e).2) x
def inF (x : za) (k : Nat) : (Int × Int) × za :=
 if (x.zw 3 (160 + k)).1.2 = 0 then ((x.zw 3 (160 + k)).1, (x.zw 3 (160 + k)).2.xk ((x.zw 3 (160 + k)).2.S.getD k []) ⟨1, (x.zw 3 (160 + k)).1.1, false⟩)
 else ((0, (x.zw 3 (160 + k)).1.2), (x.zw 3 (160 + k)).2)
def u7 (x : za) (n : Nat) (at_ : Int) : za := match x.T n with | some pr => x.put n ⟨pr.T, pr.A, Us pr.Q ((n : Int), at_)⟩ | none => x
def zx (x : za) (n page : Nat) (a : Ar) : (Int × Int) × za :=
 if (x.ent n page).kind = 3 then ((0, 7), x.u7 n (page * 64))
 else if (x.ent n page).kind = 2 then x.inF (x.ent n page).n.toNat
 else if (x.ent n page).kind = 0 then x.qz n page a
 else (((x.ent n page).n, 0), x)
def ownF (x : za) (n page : Nat) (a : Ar) (f : Int) : (Int × Int) × za :=
 if a.kind = 2 then ((f, 0), x.zz ((getL x.CR f).getD (0, 0)) true)
 else if getL x.CR f = none ∧ (x.B f).length = 1 then ((f, (x.putF n page ⟨1, f, true⟩).1), (x.putF n page ⟨1, f, true⟩).2)
 else if (x.yn f).1.2 = 0 then (((x.yn f).1.1, ((x.yn f).2.putF n page ⟨1, (x.yn f).1.1, true⟩).1), ((x.yn f).2.putF n page ⟨1, (x.yn f).1.1, true⟩).2)
 else ((0, (x.yn f).1.2), (x.yn f).2)
def askF (x : za) (n page : Nat) (wr : Bool) : (Int × Int) × za :=
 match (match x.T n with | some pr => yg pr.A (page : Int) | none => none) with
 | none => ((0, 11), x)
 | some a =>
  if wr = true ∧ a.write = false then ((0, 11), x)
  else if (x.zx n page a).1.2 = 0 ∧ wr = true then (x.zx n page a).2.ownF n page a (x.zx n page a).1.1
  else x.zx n page a
def zk (n : Nat) (wr : Bool) : Nat → za → Nat → Nat → (List Pc × Int) × za
 | 0, x, _, _ => (([], 0), x)
 | k + 1, x, a, s =>
  if s = 0 then (([], 0), x) else
  if (x.askF n (a / 64) wr).1.2 = 0 then
   if (zk n wr k (x.askF n (a / 64) wr).2 (a + min s (64 - a % 64)) (s - min s (64 - a % 64))).1.2 = 0 then
    ((⟨(x.askF n (a / 64) wr).1.1.toNat, a % 64, min s (64 - a % 64)⟩ :: (zk n wr k (x.askF n (a / 64) wr).2 (a + min s (64 - a % 64)) (s - min s (64 - a % 64))).1.1, 0), (zk n wr k (x.askF n (a / 64) wr).2 (a + min s (64 - a % 64)) (s - min s (64 - a % 64))).2)
   else (([], (zk n wr k (x.askF n (a / 64) wr).2 (a + min s (64 - a % 64)) (s - min s (64 - a % 64))).1.2), (zk n wr k (x.askF n (a / 64) wr).2 (a + min s (64 - a % 64)) (s - min s (64 - a % 64))).2)
  else (([], (x.askF n (a / 64) wr).1.2), (x.askF n (a / 64) wr).2)
def um (x : za) (n at_ size : Int) : Int := if n < 0 ∨ (x.T n.toNat).isSome = false then 2 else if size < 0 ∨ 64 < size ∨ at_ < 0 ∨ 262144 < at_ ∨ 262144 - at_ < size then 1 else 0
def Yk (x : za) (n at_ size : Int) : (List UInt8 × Int) × za :=
 if x.um n at_ size = 0 then
  if (zk n.toNat false 3 x at_.toNat size.toNat).1.2 = 0 then ((Yf (zk n.toNat false 3 x at_.toNat size.toNat).2.R (zk n.toNat false 3 x at_.toNat size.toNat).1.1, 0), (zk n.toNat false 3 x at_.toNat size.toNat).2)
  else (([], (zk n.toNat false 3 x at_.toNat size.toNat).1.2), (zk n.toNat false 3 x at_.toNat size.toNat).2)
 else (([], x.um n at_ size), x)
def Yq : List Pc → List UInt8 → RamS → RamS
 | [], _, R => R
 | p :: l, b, R => Yq l (b.drop p.k) (R.write p.f p.a (b.take p.k))
def Z9 (x : za) (n at_ : Int) (b : List UInt8) : Int × za :=
 if x.um n at_ b.length = 0 then
  if (zk n.toNat true 3 x at_.toNat b.length).1.2 = 0 then (0, { (zk n.toNat true 3 x at_.toNat b.length).2 with R := Yq (zk n.toNat true 3 x at_.toNat b.length).1.1 b (zk n.toNat true 3 x at_.toNat b.length).2.R })
  else ((zk n.toNat true 3 x at_.toNat b.length).1.2, (zk n.toNat true 3 x at_.toNat b.length).2)
 else (x.um n at_ b.length, x)
end za
end
theorem Xe {P : zm} {m : Bool} {f : Nat} (h : P.next m = some f) : f < 1024 ∧ P.use f = 1 := by
 unfold zm.next at h
 split at h
 ·rename_i g hg
  cases h
  split at hg
  ·obtain ⟨_, h2, h3, _⟩ := ja hg; exact ⟨by omega, h3⟩
  ·cases hg
 ·obtain ⟨_, h2, h3, _⟩ := ja h; exact ⟨by omega, h3⟩
theorem Ux {P : zm} {f u : Nat} (hf : f < 1024) (h2 : 2 ≤ u) (h5 : u ≤ 5) : (P.set f u).free (f : Int) = (P.set f u).set f 1 := by
 have e : (P.set f u).use f = u := if_pos rfl
 unfold zm.free
 rw [if_pos]
 ·rfl
 ·unfold zm.used
  rw [decide_eq_true_eq, Int.toNat_natCast, e]
  omega
theorem zg7 {P Q : zm} (h1 : P.use = Q.use) (h2 : P.zone = Q.zone) (h3 : P.iso = Q.iso) : P = Q := by
 cases P
 cases Q
 simp_all
theorem zda (P : zm) (f u v g : Nat) : ((P.set f u).set f v).use g = if g = f then v else P.use g := by
 show (if g = f then v else if g = f then u else P.use g) = _
 split <;> rfl
section
variable {x y : za}
theorem WF.no_own (h : WF x) {f : Nat} (hu : x.P.use f ≠ 2) (n : Nat) : ¬ x.owns n f := fun ho => hu (h.xh ho).2.1
theorem WF.chg (h : WF x) {f u : Nat} (hf : x.P.use f ≠ 2) (hb : f < 1024 → x.R.bad f = false ∨ u = 6) (hT : y.T = x.T) (hB : y.B = x.B) (hS : y.S = x.S) (hC : y.CL = x.CL) (hCR : y.CR = x.CR) (hD : y.D.cur = x.D.cur) (hP : ∀ g, y.P.use g = if g = f then u else x.P.use g)
  (hbad : y.R.bad = x.R.bad) (hby : ∀ g i, g ≠ f → y.R.b g i = x.R.b g i) : WF y ∧ ∀ n page, page < 4096 → y.ent n page = x.ent n page := by
 refine h.frames hT hB hS hC hCR hD (fun n g ho => ?_) fun g hg hbg => ?_
 ·have hne : g ≠ f := fun e => h.no_own hf n (e ▸ ho)
  exact ⟨by rw [hbad], fun i => hby g i hne, by rw [hP, if_neg hne]; exact (h.xh ho).2.1⟩
 ·rw [hbad] at hbg
  rw [hP]
  split
  ·rename_i e
   subst e
   rcases hb hg with k | k
   ·rw [k] at hbg; cases hbg
   ·exact k
  ·exact h.bad g hg hbg
theorem WF.qm (h : WF x) {f : Nat} (hf : f < 1024) (hu : x.P.use f ≠ 6) : x.R.bad f = false := by
 cases e : x.R.bad f with
 | false => rfl
 | true => exact absurd (h.bad f hf e) hu
structure NewF (x : za) (u f : Nat) (l : List UInt8) (y : za) : Prop where
 wf : WF y
 ent : ∀ n page, page < 4096 → y.ent n page = x.ent n page
 was : f < 1024 ∧ x.P.use f = 1
 pool : y.P = x.P.set f u
 bytes : ∀ g i, y.R.b g i = if g = f ∧ i < 64 then l.getD i 0 else x.R.b g i
 len : l.length = 64
 bad : y.R.bad = x.R.bad
 keep : y.T = x.T ∧ y.B = x.B ∧ y.S = x.S ∧ y.CL = x.CL ∧ y.CR = x.CR
 cur : y.D.cur = x.D.cur
theorem WF.newF (h : WF x) {f u : Nat} (hn : x.P.next true = some f) (l : List UInt8) (hl : l.length = 64) (hT : y.T = x.T) (hB : y.B = x.B) (hS : y.S = x.S) (hC : y.CL = x.CL) (hR : y.CR = x.CR) (hP : y.P = x.P.set f u) (hY : y.R = x.R.write f 0 l) (hD : y.D.cur = x.D.cur) : NewF x u f l y := by
 obtain ⟨h1, h2⟩ := Xe hn
 have k := h.chg (y := y) (f := f) (u := u) (by omega) (fun hf => .inl (h.qm hf (by omega))) hT hB hS hC hR hD (fun g => by rw [hP]; rfl) (by rw [hY]; rfl) fun g i hg => by rw [hY, uk, if_neg fun e => hg e.1]
 refine ⟨k.1, k.2, ⟨h1, h2⟩, hP, fun g i => ?_, hl, by rw [hY]; rfl, ⟨hT, hB, hS, hC, hR⟩, hD⟩
 rw [hY, uk]
 rw [Nat.sub_zero]
 exact zaa ⟨fun e => ⟨e.1, by omega⟩, fun e => ⟨e.1, by omega, by omega⟩⟩ _ _
theorem WF.yu (h : WF x) (u : Nat) : (x.P.next true = none ∧ x.yu u = ((0, 4), x)) ∨ ∃ f, x.P.next true = some f ∧ x.yu u = (((f : Int), 0), x.zcg f u) ∧ NewF x u f (List.replicate 64 0) (x.zcg f u) := by
 unfold za.yu
 cases hn : x.P.next true with
 | none => exact .inl ⟨rfl, rfl⟩
 | some f => exact .inr ⟨f, rfl, rfl, h.newF hn _ (by simp) rfl rfl rfl rfl rfl rfl rfl rfl⟩
structure zbe (x y : za) : Prop where
 wf : WF y
 ent : ∀ n page, page < 4096 → y.ent n page = x.ent n page
 pool : y.P = x.P
 ram : y.R = x.R
 keep : y.T = x.T ∧ y.B = x.B ∧ y.S = x.S ∧ y.CL = x.CL ∧ y.CR = x.CR
 cur : y.D.cur = x.D.cur
theorem WF.back0 (h : WF x) {f u : Nat} (hn : x.P.next true = some f) (h2 : 2 ≤ u) (h5 : u ≤ 5) (hT : y.T = x.T) (hB : y.B = x.B) (hS : y.S = x.S) (hC : y.CL = x.CL) (hR : y.CR = x.CR) (hP : y.P = (x.P.set f u).free (f : Int)) (hY : y.R = x.R) (hD : y.D.cur = x.D.cur) : zbe x y := by
 obtain ⟨h1, hu⟩ := Xe hn
 have eu : ∀ g, y.P.use g = if g = f then 1 else x.P.use g := fun g => by rw [hP, Ux h1 h2 h5, zda]
 have k := h.chg (y := y) (f := f) (u := 1) (by omega) (fun hf => .inl (h.qm hf (by omega))) hT hB hS hC hR hD eu (by rw [hY]) fun g i hg => by rw [hY]
 refine ⟨k.1, k.2, ?_, hY, ⟨hT, hB, hS, hC, hR⟩, hD⟩
 have e1 : y.P.use = x.P.use := by
  funext g
  rw [eu]
  split
  ·rename_i e; rw [e, hu]
  ·rfl
 have e2 : y.P.zone = x.P.zone ∧ y.P.iso = x.P.iso := by rw [hP, Ux h1 h2 h5]; exact ⟨rfl, rfl⟩
 exact zg7 e1 e2.1 e2.2
theorem WF.zw (h : WF x) (u sec : Nat) (h2 : 2 ≤ u) (h5 : u ≤ 5) (hs : (x.D.cur sec).length = 64) :
  (x.P.next true = none ∧ x.zw u sec = ((0, 4), x)) ∨
  (∃ f, x.P.next true = some f ∧ x.D.work.2 = 0 ∧ (x.zw u sec).1 = ((f : Int), 0) ∧ NewF x u f (x.D.cur sec) (x.zw u sec).2 ∧ (x.zw u sec).2.D = x.D.work.1) ∨
  (∃ f, x.P.next true = some f ∧ x.D.work.2 ≠ 0 ∧ (x.zw u sec).1 = (0, (x.D.work.2 : Int)) ∧ zbe x (x.zw u sec).2 ∧ (x.zw u sec).2.D = x.D.work.1) := by
 unfold za.zw
 cases hn : x.P.next true with
 | none => exact .inl ⟨rfl, rfl⟩
 | some f =>
  by_cases c : x.D.work.2 = 0
  ·dsimp only
   rw [if_pos c]
   refine .inr (.inl ⟨f, rfl, c, rfl, h.newF (y := { x with P := x.P.set f u, D := x.D.work.1, R := x.R.write f 0 (x.D.cur sec) }) hn (x.D.cur sec) hs ?_ ?_ ?_ ?_ ?_ ?_ ?_ (zq.Xa x.D), rfl⟩) <;> dsimp only
  ·dsimp only
   rw [if_neg c]
   refine .inr (.inr ⟨f, rfl, c, rfl, h.back0 (u := u) (y := { x with P := (x.P.set f u).free (f : Int), D := x.D.work.1 }) hn h2 h5 ?_ ?_ ?_ ?_ ?_ ?_ ?_ (zq.Xa x.D), rfl⟩) <;> dsimp only
theorem WF.yn (h : WF x) (g : Int) :
  (x.P.next true = none ∧ x.yn g = ((0, 4), x)) ∨
  (∃ f, x.P.next true = some f ∧ x.R.bad g.toNat = false ∧ (x.yn g).1 = ((f : Int), 0) ∧ NewF x 3 f (x.R.read g.toNat 0 64) (x.yn g).2 ∧ (x.yn g).2.D = x.D) ∨
  (∃ f, x.P.next true = some f ∧ x.R.bad g.toNat = true ∧ (x.yn g).1 = (0, 7) ∧ zbe x (x.yn g).2 ∧ (x.yn g).2.D = x.D) := by
 unfold za.yn
 cases hn : x.P.next true with
 | none => exact .inl ⟨rfl, rfl⟩
 | some f =>
  by_cases c : x.R.bad g.toNat = false
  ·dsimp only
   rw [if_pos c]
   refine .inr (.inl ⟨f, rfl, c, rfl, h.newF (y := { x with P := x.P.set f 3, R := x.R.write f 0 (x.R.read g.toNat 0 64) }) hn (x.R.read g.toNat 0 64) (by simp [RamS.read]) ?_ ?_ ?_ ?_ ?_ ?_ ?_ ?_, rfl⟩) <;> dsimp only
  ·dsimp only
   rw [if_neg c]
   refine .inr (.inr ⟨f, rfl, by simpa using c, rfl, h.back0 (u := 3) (y := { x with P := (x.P.set f 3).free (f : Int) }) hn (by omega) (by omega) ?_ ?_ ?_ ?_ ?_ ?_ ?_ ?_, rfl⟩) <;> dsimp only
theorem WF.cache (h : WF x) (L : Jm) (R : zbd) (hk : ∀ k v, getL L k = some v → 0 ≤ v.1 ∧ v.1 < 1024) (hn : (L.map (·.1)).Nodup ∧ (R.map (·.1)).Nodup) : WF { x with CL := L, CR := R } :=
 ⟨h.rpt, h.apart, h.Zv, h.back, h.slots, h.bad, hk, h.secs, hn⟩
theorem WF.vw (h : WF x) (k : Int × Int) (f : Int) (hf : 0 ≤ f ∧ f < 1024) : WF (x.vw k f) := by
 unfold za.vw
 split
 ·exact h
 ·refine h.cache _ _ (fun a v ha => ?_) ⟨(Zg _ _ _ h.nd.1).1, (Zg _ _ _ h.nd.2).1⟩
  rw [yj] at ha
  split at ha
  ·cases ha; exact hf
  ·exact h.keys a v ha
theorem WF.zz (h : WF x) (k : Int × Int) (d : Bool) : WF (x.zz k d) := by
 unfold za.zz
 refine h.cache _ _ (fun a v ha => ?_) ⟨by split; exact (Zg _ _ _ h.nd.1).1; exact h.nd.1, h.nd.2⟩
 split at ha
 ·rename_i v0 hv
  rw [yj] at ha
  split at ha
  ·cases ha; exact h.keys k v0 hv
  ·exact h.keys a v ha
 ·exact h.keys a v ha
theorem WF.y8 (h : WF x) (k : Int × Int) : WF (x.y8 k) := by
 unfold za.y8
 refine h.cache _ _ (fun a v ha => ?_) ⟨by split; exact zb9 h.nd.1 _; exact h.nd.1, by split; exact zb9 h.nd.2 _; exact h.nd.2⟩
 split at ha
 ·rw [Ya h.nd.1] at ha
  split at ha
  ·cases ha
  ·exact h.keys a v ha
 ·exact h.keys a v ha
theorem WF.disk (h : WF x) (D : zq) (hD : ∀ s, s < 192 → (D.cur s).length = 64) : WF { x with D := D } := ⟨h.rpt, h.apart, h.Zv, h.back, h.slots, h.bad, h.keys, hD, h.nd⟩
theorem WF.u7 (h : WF x) (n : Nat) (at_ : Int) : WF (x.u7 n at_) ∧ ∀ m page, page < 4096 → (x.u7 n at_).ent m page = x.ent m page := by
 unfold za.u7
 cases hp : x.T n with
 | none => exact ⟨h, fun _ _ _ => rfl⟩
 | some pr =>
  dsimp only
  have hT : ∀ m, (x.put n ⟨pr.T, pr.A, Us pr.Q ((n : Int), at_)⟩).T m = if m = n then some ⟨pr.T, pr.A, Us pr.Q ((n : Int), at_)⟩ else x.T m := fun m => rfl
  have hT2 : ∀ m pm, (x.put n ⟨pr.T, pr.A, Us pr.Q ((n : Int), at_)⟩).T m = some pm → ∃ p0, x.T m = some p0 ∧ p0.T = pm.T ∧ p0.A = pm.A := fun m pm hm => by
   rw [hT] at hm
   split at hm
   ·rename_i e; cases hm; exact ⟨pr, e ▸ hp, rfl, rfl⟩
   ·exact ⟨pm, hm, rfl, rfl⟩
  have own : ∀ m f, (x.put n ⟨pr.T, pr.A, Us pr.Q ((n : Int), at_)⟩).owns m f → x.owns m f := fun m f ⟨pm, hm, hf⟩ => by
   obtain ⟨p0, a, b, _⟩ := hT2 m pm hm
   exact ⟨p0, a, by rw [b]; exact hf⟩
  refine ⟨⟨fun m pm hm => ?_, fun m k f h1 h2 => h.apart m k f (own m f h1) (own k f h2), fun m pm hm => ?_, h.back, h.slots, h.bad, h.keys, h.secs, h.nd⟩, fun m page hpg => ?_⟩
  ·obtain ⟨p0, a, b, _⟩ := hT2 m pm hm
   obtain ⟨N, k⟩ := h.rpt m p0 a
   rw [b] at k
   exact ⟨N, k⟩
  ·obtain ⟨p0, a, _, c⟩ := hT2 m pm hm
   rw [← c]
   exact h.Zv m p0 a
  ·unfold za.ent
   rw [hT]
   by_cases e : m = n
   ·rw [if_pos e, e, hp]; rfl
   ·rw [if_neg e]; rfl
end
structure Vz (x : za) (pr : ym) (page : Nat) (e : Ent) : Prop where
 find : e.kind ≠ 0 → ∃ a, yg pr.A page = some a
 own : ∀ a, yg pr.A page = some a → e.kind = 1 → a.kind = 1 → getL x.CR e.n = none
 file : ∀ a k, yg pr.A page = some a → e.kind = 1 → a.kind ≠ 1 → getL x.CR e.n = some k → k = za.keyF a page
 shared : ∀ a, yg pr.A page = some a → e.kind = 1 → a.kind = 2 → getL x.CR e.n ≠ none
 slot : ∀ a, yg pr.A page = some a → e.kind = 2 → a.kind ≠ 2
structure OK (F : Nat → Prop) (x : za) : Prop where
 wf : WF x
 backE : ∀ (f n page : Nat), f < 1024 → n < 8 → page < 4096 → (plc n page ∈ x.B f ↔ (x.ent n page).kind = 1 ∧ (x.ent n page).n = f)
 slotE : ∀ (k n page : Nat), k < 32 → n < 8 → page < 4096 → (plc n page ∈ x.S.getD k [] ↔ (x.ent n page).kind = 2 ∧ (x.ent n page).n = k)
 useB : ∀ f : Nat, f < 1024 → x.B f ≠ [] → x.P.use f = 3 ∨ x.P.use f = 4
 anon : ∀ f : Nat, f < 1024 → x.P.use f = 3 → x.B f ≠ [] ∨ F f
 table : ∀ f, f < 1024 → x.P.use f = 2 → ∃ n, x.owns n f
 cached : ∀ f : Nat, f < 1024 → (x.P.use f = 4 ↔ (getL x.CR f).isSome = true)
 cacheE : ∀ k f, (∃ d, getL x.CL k = some (f, d)) ↔ getL x.CR f = some k
 cacheK : ∀ k v, getL x.CL k = some v → 0 ≤ k.1 ∧ k.1 < 4 ∧ 0 ≤ k.2 ∧ k.2 < 16
 area : ∀ n pr page, x.T n = some pr → page < 4096 → Vz x pr page (x.ent n page)
section
variable {F : Nat → Prop} {x y : za}
theorem OK.mono {F' : Nat → Prop} (h : OK F x) (hF : ∀ f, F f → F' f) : OK F' x :=
 ⟨h.wf, h.backE, h.slotE, h.useB, fun f a b => (h.anon f a b).imp id (hF f), h.table, h.cached, h.cacheE, h.cacheK, h.area⟩
theorem OK.Xt (h : OK F x) (o : ∀ n, 8 ≤ n → x.T n = none) {n : Nat} {pr : ym} (hp : x.T n = some pr) : n < 8 := by
 rcases Nat.lt_or_ge n 8 with h8 | h8
 ·exact h8
 ·rw [o n h8] at hp; cases hp
theorem OK.frame (h : OK F x) {n page : Nat} (hn : n < 8) (hpg : page < 4096) (hk : (x.ent n page).kind = 1) : ∃ f : Nat, (x.ent n page).n = f ∧ f < 1024 ∧ plc n page ∈ x.B f ∧ (x.P.use f = 3 ∨ x.P.use f = 4) ∧ x.R.bad f = false := by
 have hr := (Ent.ok_n (h.wf.Yc n hpg)).1 hk
 have hm := (h.backE (x.ent n page).n.toNat n page (by omega) hn hpg).2 ⟨hk, by omega⟩
 have hu := h.useB (x.ent n page).n.toNat (by omega) (fun e => by rw [e] at hm; cases hm)
 exact ⟨(x.ent n page).n.toNat, by omega, by omega, hm, hu, h.wf.qm (by omega) (by omega)⟩
theorem mem_B (h : OK F x) {f : Nat} {q : Int × Int} (hf : f < 1024) (hq : q ∈ x.B f) : ∃ n page, q = plc n page ∧ n < 8 ∧ page < 4096 ∧ (x.ent n page).kind = 1 ∧ (x.ent n page).n = f := by
 obtain ⟨e, h1, h2⟩ := ((h.wf.back f).2 q hq).plc
 rw [e] at hq
 obtain ⟨k1, k2⟩ := (h.backE f _ _ hf h1 h2).1 hq
 exact ⟨_, _, e, h1, h2, k1, k2⟩
theorem Z0 {n : Nat} (hn : x.T n = none) (page : Nat) : x.ent n page = Ent.none := by unfold za.ent; rw [hn]
theorem PutD.done {n page : Nat} {pr : ym} {e : Ent} {c : Int} (d : PutD x n page pr e c y) (hpg : page < 4096) : c = 0 → y.ent n page = e := fun hc => by
 rw [d.ent n page hpg, if_pos ⟨hc, rfl, rfl⟩]
theorem OK.put (h : OK F x) {n page : Nat} {pr : ym} {e : Ent} {c : Int} (d : PutD x n page pr e c y) (hn : n < 8) (hp : x.T n = some pr) (hpg : page < 4096) (hx : e.kind = 1 → ∃ f : Nat, e.n = f ∧ f < 1024 ∧ (x.P.use f = 3 ∨ x.P.use f = 4)) (ha : Vz x pr page e) :
  OK (fun f => F f ∧ ¬ (c = 0 ∧ e.kind = 1 ∧ e.n = f)) y := by
 have useO : ∀ f, x.owns n f → x.P.use f = 2 := fun f hf => (h.wf.xh hf).2.1
 have B' : ∀ (f : Nat) m pg, f < 1024 → m < 8 → pg < 4096 → (plc m pg ∈ y.B f ↔ (y.ent m pg).kind = 1 ∧ (y.ent m pg).n = f) := fun f m pg hf hm hq => by
  rw [d.memB, d.ent m pg hq]
  by_cases k : c = 0 ∧ m = n ∧ pg = page
  ·obtain ⟨k0, rfl, rfl⟩ := k
   have hT : c = 0 ∧ m = m ∧ pg = pg := ⟨k0, rfl, rfl⟩
   rw [if_pos hT]
   by_cases k2 : x.ent m pg = e
   ·have hC : ¬ (c = 0 ∧ plc m pg = plc m pg ∧ x.ent m pg ≠ e) := fun a => a.2.2 k2
    rw [if_neg hC, h.backE f m pg hf hm hq, k2]
   ·have hC : c = 0 ∧ plc m pg = plc m pg ∧ x.ent m pg ≠ e := ⟨k0, rfl, k2⟩
    rw [if_pos hC]
    constructor
    ·rintro (a | ⟨a, b⟩)
     ·exact a
     ·exact absurd ((h.backE f m pg hf hm hq).1 b) a
    ·exact .inl
  ·rw [if_neg k, if_neg fun a => k ⟨a.1, Yx.1 a.2.1⟩]
   exact h.backE f m pg hf hm hq
 have U : ∀ f : Nat, f < 1024 → y.P.use f = x.P.use f ∨ (x.owns n f ∨ x.P.use f = 1) ∧ (y.P.use f = 2 ∧ y.owns n f ∨ y.P.use f = 1) ∨ (x.P.use f = 3 ∧ y.P.use f = 1 ∧ y.B f = []) := fun f hf => by
  by_cases k : x.owns n f ∨ x.P.use f = 1
  ·refine .inr (.inl ⟨k, ?_⟩)
   rw [d.free f k]
   by_cases k2 : y.owns n f
   ·rw [if_pos k2]; exact .inl ⟨rfl, k2⟩
   ·rw [if_neg k2]; exact .inr rfl
  ·have k1 : ¬ x.owns n f := fun a => k (.inl a)
   have k2 : x.P.use f ≠ 1 := fun a => k (.inr a)
   have u := d.use f k1 k2
   split at u
   ·rename_i g
    obtain ⟨g0, g1, g2, g3, g4, g5, g6⟩ := g
    refine .inr (.inr ⟨g6, u, ?_⟩)
    refine List.eq_nil_iff_forall_not_mem.2 fun q hq => ?_
    rw [d.memB] at hq
    split at hq
    ·rename_i q1
     rcases hq with ⟨a, b⟩ | ⟨a, b⟩
     ·exact g2 ⟨a, by omega⟩
     ·exact a ⟨g1, by omega⟩
    ·rename_i q1
     by_cases q2 : q = plc n page
     ·refine q1 ⟨g0, q2, fun e2 => g2 ?_⟩
      rw [e2] at g1
      exact ⟨g1, by rw [e2]⟩
     ·have : q ∈ (x.B f).erase (plc n page) := ((h.wf.back f).1.Zf _ _).2 ⟨q2, hq⟩
      rw [g5] at this
      cases this
   ·exact .inl u
 have yB0 : ∀ f : Nat, y.B f ≠ [] → x.B f = [] → c = 0 ∧ e.kind = 1 ∧ e.n = f := fun f h1 h2 => by
  obtain ⟨q, hq⟩ := List.exists_mem_of_ne_nil _ h1
  rw [d.memB, h2] at hq
  split at hq
  ·rename_i k
   rcases hq with a | ⟨_, a⟩
   ·exact ⟨k.1, a⟩
   ·cases a
  ·cases hq
 refine ⟨d.wf, B', fun k m pg hk hm hq => ?_, fun f hf hB => ?_, fun f hf hu => ?_, fun f hf hu => ?_, fun f hf => ?_, ?_, ?_, fun m pm pg hm hq => ?_⟩
 ·rw [d.memS, d.ent m pg hq]
  by_cases g : c = 0 ∧ m = n ∧ pg = page
  ·obtain ⟨k0, rfl, rfl⟩ := g
   have hT : c = 0 ∧ m = m ∧ pg = pg := ⟨k0, rfl, rfl⟩
   rw [if_pos hT]
   by_cases k2 : x.ent m pg = e
   ·have hC : ¬ (c = 0 ∧ plc m pg = plc m pg ∧ x.ent m pg ≠ e) := fun a => a.2.2 k2
    rw [if_neg hC, h.slotE k m pg hk hm hq, k2]
   ·have hC : c = 0 ∧ plc m pg = plc m pg ∧ x.ent m pg ≠ e := ⟨k0, rfl, k2⟩
    rw [if_pos hC]
    constructor
    ·rintro (a | ⟨a, b⟩)
     ·exact a
     ·exact absurd ((h.slotE k m pg hk hm hq).1 b) a
    ·exact .inl
  ·rw [if_neg g, if_neg fun a => g ⟨a.1, Yx.1 a.2.1⟩]
   exact h.slotE k m pg hk hm hq
 ·have xu : x.P.use f = 3 ∨ x.P.use f = 4 := by
   by_cases k : x.B f = []
   ·obtain ⟨_, k1, k2⟩ := yB0 f hB k
    obtain ⟨g, hg, _, hu⟩ := hx k1
    have : g = f := by omega
    rw [← this]; exact hu
   ·exact h.useB f hf k
  rcases U f hf with u | ⟨u, _⟩ | ⟨_, _, u⟩
  ·rw [u]; exact xu
  ·rcases u with u | u
   ·have := useO f u; omega
   ·omega
  ·exact absurd u hB
 ·rcases U f hf with u | ⟨_, u⟩ | ⟨_, u, _⟩
  ·rw [u] at hu
   rcases h.anon f hf hu with a | a
   ·left
    obtain ⟨q, hq⟩ := List.exists_mem_of_ne_nil _ a
    obtain ⟨m, pg, rfl, hm, hpg', e1, e2⟩ := mem_B h hf hq
    by_cases k : c = 0 ∧ m = n ∧ pg = page
    ·obtain ⟨k0, rfl, rfl⟩ := k
     by_cases k3 : e.kind = 1 ∧ e.n = f
     ·intro hB
      have := (B' f m pg hf hm hpg').2 (by rw [d.done hpg' k0]; exact k3)
      rw [hB] at this
      cases this
     ·-- another place has it, or it was let go
      by_cases k4 : (x.B f).erase (plc m pg) = []
      ·have k1 : ¬ x.owns m f := fun a => by have := useO f a; omega
       have := d.use f k1 (by omega)
       rw [if_pos ⟨k0, e1, fun b => k3 ⟨b.1, b.2.trans e2⟩, e2.symm, hq, k4, hu⟩] at this
       omega
      ·obtain ⟨q', hq'⟩ := List.exists_mem_of_ne_nil _ k4
       obtain ⟨q1, q2⟩ := ((h.wf.back f).1.Zf _ _).1 hq'
       intro hB
       have := (d.memB f q').2 (by rw [if_neg fun b => q1 b.2.1]; exact q2)
       rw [hB] at this
       cases this
    ·intro hB
     have := (d.memB f (plc m pg)).2 (by rw [if_neg fun b => k ⟨b.1, Yx.1 b.2.1⟩]; exact hq)
     rw [hB] at this
     cases this
   ·by_cases k : c = 0 ∧ e.kind = 1 ∧ e.n = f
    ·left
     intro hB
     have := (B' f n page hf hn hpg).2 (by rw [d.done hpg k.1]; exact k.2)
     rw [hB] at this
     cases this
    ·exact .inr ⟨a, k⟩
  ·rcases u with u | u <;> omega
  ·omega
 ·rcases U f hf with u | ⟨_, u⟩ | ⟨_, u, _⟩
  ·rw [u] at hu
   obtain ⟨m, hm⟩ := h.table f hf hu
   by_cases k : m = n
   ·subst k
    have := d.free f (.inl hm)
    rw [u, hu] at this
    by_cases k2 : y.owns m f
    ·exact ⟨m, k2⟩
    ·rw [if_neg k2] at this; cases this
   ·obtain ⟨pm, a, b⟩ := hm
    exact ⟨m, pm, by rw [d.oth m k]; exact a, b⟩
  ·rcases u with ⟨_, u⟩ | u
   ·exact ⟨n, u⟩
   ·omega
  ·omega
 ·rw [d.keep.2.2, ← h.cached f hf]
  rcases U f hf with u | ⟨k, u⟩ | ⟨k, u, _⟩
  ·rw [u]
  ·have : x.P.use f ≠ 4 := by
    rcases k with k | k
    ·have := useO f k; omega
    ·omega
   rcases u with ⟨u, _⟩ | u <;> omega
  ·omega
 ·rw [d.keep.2.1, d.keep.2.2]; exact h.cacheE
 ·rw [d.keep.2.1]; exact h.cacheK
 ·have cr := d.keep.2.2
  have key : ∀ p0, x.T m = some p0 → p0.A = pm.A → ∀ e', Vz x p0 pg e' → Vz y pm pg e' := fun p0 _ eA e' a => by
   refine ⟨by rw [← eA]; exact a.find, by rw [← eA, cr]; exact a.own, by rw [← eA, cr]; exact a.file, by rw [← eA, cr]; exact a.shared, by rw [← eA]; exact a.slot⟩
  obtain ⟨p0, hp0, eA⟩ : ∃ p0, x.T m = some p0 ∧ p0.A = pm.A := by
   by_cases k : m = n
   ·subst k
    obtain ⟨T', ht⟩ := d.this
    rw [ht] at hm
    cases hm
    exact ⟨pr, hp, rfl⟩
   ·rw [d.oth m k] at hm
    exact ⟨pm, hm, rfl⟩
  rw [d.ent m pg hq]
  by_cases k : c = 0 ∧ m = n ∧ pg = page
  ·obtain ⟨k0, rfl, rfl⟩ := k
   rw [if_pos ⟨k0, rfl, rfl⟩]
   rw [hp] at hp0
   cases hp0
   exact key pr hp eA e ha
  ·rw [if_neg k]
   exact key p0 hp0 eA _ (h.area m p0 pg hp0 hq)
end
section
open Go Go.RowKit
inductive PV where
 | none
 | lost
 | own (l : List UInt8)
 | file
deriving DecidableEq
def xc (k : Int × Int) : Prop := 0 ≤ k.1 ∧ k.1 < 4 ∧ 0 ≤ k.2 ∧ k.2 < 16
namespace za
def pv1 (x : za) (a : Ar) (e : Ent) : PV :=
 if e.kind = 3 then .lost
 else if e.kind = 2 then .own (x.D.cur (160 + e.n.toNat))
 else if e.kind = 1 then (if getL x.CR e.n = none then .own (x.R.read e.n.toNat 0 64) else .file)
 else if a.kind = 1 then .own (List.replicate 64 0) else .file
def pv (x : za) (n page : Nat) : PV :=
 match x.T n with
 | Option.none => .none
 | some pr => match yg pr.A (page : Int) with
  | Option.none => .none
  | some a => x.pv1 a (x.ent n page)
def uo (x : za) (k : Int × Int) : List UInt8 := match getL x.CL k with | some v => x.R.read v.1.toNat 0 64 | Option.none => x.D.cur (yc k)
def yt (x : za) (k : Int × Int) : Bool := ((getL x.CL k).getD (0, false)).2
end za
structure Same (x y : za) : Prop where
 procs : ∀ n, (y.T n).map (fun pr => (pr.A, pr.Q)) = (x.T n).map (fun pr => (pr.A, pr.Q))
 pv : ∀ n page, page < 4096 → y.pv n page = x.pv n page
 file : ∀ k, xc k → y.uo k = x.uo k
 cur : y.D.cur = x.D.cur
 yt : ∀ k, y.yt k = x.yt k
theorem Same.refl (x : za) : Same x x := ⟨fun _ => rfl, fun _ _ _ => rfl, fun _ _ => rfl, rfl, fun _ => rfl⟩
theorem Same.trans {x y z : za} (h : Same x y) (k : Same y z) : Same x z :=
 ⟨fun n => (k.procs n).trans (h.procs n), fun n p hp => (k.pv n p hp).trans (h.pv n p hp), fun q hq => (k.file q hq).trans (h.file q hq), k.cur.trans h.cur, fun q => (k.yt q).trans (h.yt q)⟩
section
variable {F : Nat → Prop} {x y : za}
theorem Ye {R R' : RamS} {f : Nat} (h : ∀ i, i < 64 → R'.b f i = R.b f i) : R'.read f 0 64 = R.read f 0 64 := by
 unfold RamS.read
 refine List.map_congr_left fun i hi => ?_
 simp at hi
 rw [Nat.zero_add]
 exact h i hi
theorem Yg {n page : Nat} {pr : ym} {a : Ar} (hp : x.T n = some pr) (ha : yg pr.A (page : Int) = some a) : x.pv n page = x.pv1 a (x.ent n page) := by
 unfold za.pv
 rw [hp]
 dsimp only
 rw [ha]
theorem Xc {a : Ar} {e : Ent} (hcr : getL y.CR e.n = getL x.CR e.n) (hD : y.D.cur = x.D.cur) (hR : e.kind = 1 → y.R.read e.n.toNat 0 64 = x.R.read e.n.toNat 0 64) : y.pv1 a e = x.pv1 a e := by
 unfold za.pv1
 rw [hcr, hD]
 by_cases k : e.kind = 1
 ·rw [hR k]
 ·simp only [if_neg k]
theorem Yh (h : OK F x) (n page : Nat) (hn : n < 8) (hpg : page < 4096) (hT : (y.T n).map (·.A) = (x.T n).map (·.A)) (he : y.ent n page = x.ent n page) (hcr : (x.ent n page).kind = 1 → getL y.CR (x.ent n page).n = getL x.CR (x.ent n page).n) (hD : (x.ent n page).kind = 2 → y.D.cur (160 + (x.ent n page).n.toNat) = x.D.cur (160 + (x.ent n page).n.toNat))
  (hR : ∀ f i, f < 1024 → (x.P.use f = 3 ∨ x.P.use f = 4) → i < 64 → y.R.b f i = x.R.b f i) : y.pv n page = x.pv n page := by
 unfold za.pv
 cases h1 : x.T n with
 | none =>
  rw [h1] at hT
  have : y.T n = none := by simpa using hT
  rw [this]
 | some pr =>
  rw [h1] at hT
  obtain ⟨pr', h2, h3⟩ : ∃ pr', y.T n = some pr' ∧ pr'.A = pr.A := by simpa using hT
  rw [h2]
  dsimp only
  rw [h3]
  cases yg pr.A (page : Int) with
  | none => rfl
  | some a =>
   dsimp only
   rw [he]
   unfold za.pv1
   by_cases k3 : (x.ent n page).kind = 3
   ·rw [if_pos k3, if_pos k3]
   ·rw [if_neg k3, if_neg k3]
    by_cases k2 : (x.ent n page).kind = 2
    ·rw [if_pos k2, if_pos k2, hD k2]
    ·rw [if_neg k2, if_neg k2]
     by_cases k1 : (x.ent n page).kind = 1
     ·rw [if_pos k1, if_pos k1, hcr k1]
      obtain ⟨f, e1, e2, _, e3, _⟩ := h.frame hn hpg k1
      have e4 : (x.ent n page).n.toNat = f := by omega
      rw [e4, Ye fun i hi => hR f i e2 e3 hi]
     ·rw [if_neg k1, if_neg k1]
theorem OK.Y4 (h : OK F x) {k : Int × Int} {v : Int × Bool} (hk : getL x.CL k = some v) : ∃ f : Nat, v.1 = f ∧ f < 1024 ∧ x.P.use f = 4 ∧ getL x.CR v.1 = some k ∧ x.R.bad f = false := by
 have hr := h.wf.keys k v hk
 have hc := (h.cacheE k v.1).1 ⟨v.2, hk⟩
 have hu := (h.cached v.1.toNat (by omega)).2 (by rw [show ((v.1.toNat : Nat) : Int) = v.1 by omega, hc]; rfl)
 exact ⟨v.1.toNat, by omega, by omega, hu, hc, h.wf.qm (by omega) (by omega)⟩
theorem jr (h : OK F x) (k : Int × Int) (hC : y.CL = x.CL) (hD : y.D.cur (za.yc k) = x.D.cur (za.yc k)) (hR : ∀ f i, f < 1024 → x.P.use f = 4 → i < 64 → y.R.b f i = x.R.b f i) : y.uo k = x.uo k := by
 unfold za.uo
 rw [hC]
 cases hk : getL x.CL k with
 | none => exact hD
 | some v =>
  obtain ⟨f, e1, e2, e3, _, _⟩ := h.Y4 hk
  dsimp only
  rw [show v.1.toNat = f by omega]
  exact Ye fun i hi => hR f i e2 e3 hi
theorem OK.zdc (h : OK F x) {n page : Nat} {pr : ym} {e : Ent} {c : Int} (d : PutD x n page pr e c y) (hp : x.T n = some pr) (hpg : page < 4096) (hv : c = 0 → ∀ a, yg pr.A (page : Int) = some a → y.pv1 a e = x.pv1 a (x.ent n page)) (o : ∀ n, 8 ≤ n → x.T n = none) : Same x y := by
 have hR : ∀ f i, f < 1024 → (x.P.use f = 3 ∨ x.P.use f = 4) → i < 64 → y.R.b f i = x.R.b f i := fun f i hf hu hi => d.bytes f i (by omega) fun ho => by have := (h.wf.xh ho).2.1; omega
 have hA : ∀ m, (y.T m).map (fun pr => (pr.A, pr.Q)) = (x.T m).map (fun pr => (pr.A, pr.Q)) := fun m => by
  by_cases k : m = n
  ·subst k
   obtain ⟨T', ht⟩ := d.this
   rw [ht, hp]
   rfl
  ·rw [d.oth m k]
 have hA1 : ∀ m, (y.T m).map (·.A) = (x.T m).map (·.A) := fun m => by
  have := congrArg (Option.map Prod.fst) (hA m)
  simpa [Option.map_map, Function.comp_def] using this
 refine ⟨hA, fun m pg hq => ?_, fun k hk => jr h k d.keep.2.1 (by rw [d.keep.1]) fun f i a b c => hR f i a (.inr b) c, by rw [d.keep.1], fun k => by unfold za.yt; rw [d.keep.2.1]⟩
 by_cases k : c = 0 ∧ m = n ∧ pg = page
 ·obtain ⟨k0, rfl, rfl⟩ := k
  obtain ⟨T', ht⟩ := d.this
  cases ha : yg pr.A (pg : Int) with
  | none =>
   unfold za.pv
   rw [ht, hp]
   dsimp only
   rw [ha]
  | some a =>
   rw [Yg hp ha, Yg ht ha, d.done hpg k0]
   exact hv k0 a ha
 ·have he : y.ent m pg = x.ent m pg := by rw [d.ent m pg hq, if_neg k]
  by_cases hm : m < 8
  ·exact Yh h m pg hm hq (hA1 m) he (fun _ => by rw [d.keep.2.2]) (fun _ => by rw [d.keep.1]) hR
  ·have h1 := o m (by omega)
   have h2 : y.T m = none := by
    have := hA m
    rw [h1] at this
    simpa using this
   unfold za.pv
   rw [h1, h2]
end
end
structure ut (k : Nat) (x y : za) : Prop where
 zone : y.P.zone = x.P.zone ∧ y.P.iso = x.P.iso
 room : x.P.room ≤ y.P.room + k
 bad : y.R.bad = x.R.bad
 fix : ∀ f v, v = 0 ∨ v = 5 ∨ v = 6 → (y.P.use f = v ↔ x.P.use f = v)
 some : ∀ n, (y.T n).isSome = (x.T n).isSome
theorem ut.refl (x : za) : ut 0 x x := ⟨⟨rfl, rfl⟩, by omega, rfl, fun _ _ _ => Iff.rfl, fun _ => rfl⟩
theorem ut.trans {j k : Nat} {x y z : za} (h : ut j x y) (g : ut k y z) : ut (j + k) x z :=
 ⟨⟨g.zone.1.trans h.zone.1, g.zone.2.trans h.zone.2⟩, by have := h.room; have := g.room; omega, g.bad.trans h.bad, fun f v hv => (g.fix f v hv).trans (h.fix f v hv), fun n => (g.some n).trans (h.some n)⟩
theorem ut.mono {j k : Nat} {x y : za} (h : ut j x y) (hk : j ≤ k) : ut k x y := ⟨h.zone, by have := h.room; omega, h.bad, h.fix, h.some⟩
theorem room_le (P : zm) (f u : Nat) (hu : u ≠ 1) (hf : f < 1024) : P.room ≤ (P.set f u).room + 1 := by
 by_cases ha : P.Y7 f = true
 ·rw [zei hf ha hu]; exact Nat.le_refl _
 ·unfold zm.room
  have : (List.range 1024).countP P.Y7 ≤ (List.range 1024).countP (P.set f u).Y7 := by
   refine List.countP_mono_left fun g _ hg => ?_
   have hgf : g ≠ f := fun e => ha (e ▸ hg)
   unfold zm.Y7 at hg ⊢
   have e : (P.set f u).use g = P.use g := if_neg hgf
   rw [e]
   exact hg
  omega
theorem zg1 {P Q : zm} (hz : Q.zone = P.zone ∧ Q.iso = P.iso) (h : ∀ g, P.use g = 1 → Q.use g = 1) : P.room ≤ Q.room := by
 unfold zm.room
 refine List.countP_mono_left fun g _ hg => ?_
 simp only [zm.Y7, decide_eq_true_eq] at hg ⊢
 rw [hz.1, hz.2]
 exact ⟨h g hg.1, hg.2⟩
theorem Zc {P : zm} (h : P.next true = none) : P.room = 0 := by
 refine Qn ?_
 unfold zm.next at h ⊢
 split at h
 ·cases h
 ·simpa using h
section
variable {F : Nat → Prop} {x y : za}
theorem NewF.keeps {u f : Nat} {l : List UInt8} (d : NewF x u f l y) (hu : u = 3 ∨ u = 4) : ut 1 x y := by
 refine ⟨by rw [d.pool]; exact ⟨rfl, rfl⟩, by rw [d.pool]; exact room_le _ _ _ (by omega) d.was.1, d.bad, fun g v hv => ?_, fun n => by rw [d.keep.1]⟩
 rw [d.pool]
 show (if g = f then u else x.P.use g) = v ↔ _
 split
 ·rename_i e; have := d.was.2; rw [e]; omega
 ·exact Iff.rfl
theorem zbe.keeps (d : zbe x y) : ut 0 x y := ⟨by rw [d.pool]; exact ⟨rfl, rfl⟩, by rw [d.pool]; omega, by rw [d.ram], fun g v hv => by rw [d.pool], fun n => by rw [d.keep.1]⟩
theorem zbe.ok (h : OK F x) (d : zbe x y) : OK F y ∧ Same x y := by
 obtain ⟨kT, kB, kS, kC, kR⟩ := d.keep
 have own : ∀ n f, y.owns n f ↔ x.owns n f := fun n f => by unfold za.owns; rw [kT]
 refine ⟨⟨d.wf, fun f n page h1 h2 h3 => by rw [kB, d.ent n page h3]; exact h.backE f n page h1 h2 h3, fun k n page h1 h2 h3 => by rw [kS, d.ent n page h3]; exact h.slotE k n page h1 h2 h3, fun f h1 h2 => by rw [d.pool]; rw [kB] at h2; exact h.useB f h1 h2, fun f h1 h2 => by rw [kB]; rw [d.pool] at h2; exact h.anon f h1 h2, fun f h1 h2 => by rw [d.pool] at h2; obtain ⟨n, hn⟩ := h.table f h1 h2; exact ⟨n, (own n f).2 hn⟩, fun f h1 => by rw [d.pool, kR]; exact h.cached f h1, by rw [kC, kR]; exact h.cacheE, by rw [kC]; exact h.cacheK, fun n pr page h1 h2 => ?_⟩, ⟨fun n => by rw [kT], fun n page hpg => ?_, fun k _ => by unfold za.uo; rw [kC, d.ram, d.cur], d.cur, fun k => by unfold za.yt; rw [kC]⟩⟩
 ·rw [kT] at h1
  have a := h.area n pr page h1 h2
  rw [d.ent n page h2]
  exact ⟨a.find, by rw [kR]; exact a.own, by rw [kR]; exact a.file, by rw [kR]; exact a.shared, a.slot⟩
 ·unfold za.pv
  rw [kT]
  cases x.T n with
  | none => rfl
  | some pr =>
   dsimp only
   cases yg pr.A (page : Int) with
   | none => rfl
   | some a =>
    dsimp only
    rw [d.ent n page hpg]
    exact Xc (by rw [kR]) d.cur (fun _ => by rw [d.ram])
theorem NewF.ok (h : OK F x) {f : Nat} {l : List UInt8} (d : NewF x 3 f l y) (o : ∀ n, 8 ≤ n → x.T n = none) : OK (fun g => F g ∨ g = f) y ∧ Same x y ∧ x.B f = [] ∧ getL x.CR f = none ∧ y.P.use f = 3 ∧ y.R.read f 0 64 = l := by
 obtain ⟨kT, kB, kS, kC, kR⟩ := d.keep
 have hB : x.B f = [] := by
  by_cases e : x.B f = []
  ·exact e
  ·have := h.useB f d.was.1 e; have := d.was.2; omega
 have hC : getL x.CR f = none := by
  cases e : getL x.CR (f : Int) with
  | none => rfl
  | some v => have := (h.cached f d.was.1).2 (by rw [e]; rfl); have := d.was.2; omega
 have hu : ∀ g, y.P.use g = if g = f then 3 else x.P.use g := fun g => by rw [d.pool]; rfl
 have own : ∀ n f, y.owns n f ↔ x.owns n f := fun n f => by unfold za.owns; rw [kT]
 have hRd : ∀ g i, g < 1024 → (x.P.use g = 3 ∨ x.P.use g = 4) → i < 64 → y.R.b g i = x.R.b g i := fun g i _ hg _ => by
  rw [d.bytes, if_neg]
  rintro ⟨rfl, _⟩
  have := d.was.2; omega
 refine ⟨⟨d.wf, fun g n page h1 h2 h3 => by rw [kB, d.ent n page h3]; exact h.backE g n page h1 h2 h3, fun k n page h1 h2 h3 => by rw [kS, d.ent n page h3]; exact h.slotE k n page h1 h2 h3, fun g h1 h2 => ?_, fun g h1 h2 => ?_, fun g h1 h2 => ?_, fun g h1 => ?_, by rw [kC, kR]; exact h.cacheE, by rw [kC]; exact h.cacheK, fun n pr page h1 h2 => ?_⟩, ⟨fun n => by rw [kT], fun n page hpg => ?_, fun k _ => jr h k kC (by rw [d.cur]) fun g i a b c => hRd g i a (.inr b) c, d.cur, fun k => by unfold za.yt; rw [kC]⟩, hB, hC, by rw [hu, if_pos rfl], ?_⟩
 ·rw [hu, kB] at *
  have : g ≠ f := fun e => h2 (by rw [e]; exact hB)
  rw [if_neg this]
  exact h.useB g h1 h2
 ·rw [hu] at h2
  rw [kB]
  split at h2
  ·exact .inr (.inr ‹_›)
  ·exact (h.anon g h1 h2).imp id .inl
 ·rw [hu] at h2
  split at h2
  ·cases h2
  ·obtain ⟨n, hn⟩ := h.table g h1 h2
   exact ⟨n, (own n g).2 hn⟩
 ·rw [hu, kR]
  split
  ·rename_i e
   rw [e, hC]
   simp
  ·exact h.cached g h1
 ·rw [kT] at h1
  have a := h.area n pr page h1 h2
  rw [d.ent n page h2]
  exact ⟨a.find, by rw [kR]; exact a.own, by rw [kR]; exact a.file, by rw [kR]; exact a.shared, a.slot⟩
 ·by_cases hn : n < 8
  ·exact Yh h n page hn hpg (by rw [kT]) (d.ent n page hpg) (fun _ => by rw [kR]) (fun _ => by rw [d.cur]) hRd
  ·unfold za.pv
   rw [kT, o n (by omega)]
 ·refine List.ext_getElem? fun i => ?_
  unfold RamS.read
  by_cases hi : i < 64
  ·simp only [List.getElem?_map, List.getElem?_range hi, Option.map_some]
   rw [d.bytes, if_pos ⟨rfl, by omega⟩, Nat.zero_add, List.getD_eq_getElem?_getD, List.getElem?_eq_getElem (by rw [d.len]; exact hi)]
   rfl
  ·rw [List.getElem?_eq_none (by simp; omega), List.getElem?_eq_none (by rw [d.len]; omega)]
theorem Ym (y : za) (f : Int) : (y.vz f).T = y.T ∧ (y.vz f).B = y.B ∧ (y.vz f).S = y.S ∧ (y.vz f).CL = y.CL ∧ (y.vz f).CR = y.CR ∧ (y.vz f).D = y.D ∧ (y.vz f).R = y.R ∧ (y.vz f).P = y.P.free f := by
 unfold za.vz
 refine ⟨?_, ?_, ?_, ?_, ?_, ?_, ?_, ?_⟩ <;> dsimp only
theorem OK.zh0 {f : Nat} (h : OK (fun g => F g ∨ g = f) y) (hf : f < 1024) (hu : y.P.use f = 3) (hB : y.B f = []) (o : ∀ n, 8 ≤ n → y.T n = none) : OK F (y.vz (f : Int)) ∧ Same y (y.vz (f : Int)) ∧ ut 0 y (y.vz (f : Int)) := by
 have eP : (y.vz (f : Int)).P = y.P.set f 1 := by
  rw [(Ym y f).2.2.2.2.2.2.2]
  unfold zm.free
  rw [if_pos, Int.toNat_natCast]
  unfold zm.used
  rw [decide_eq_true_eq, Int.toNat_natCast, hu]
  omega
 have u : ∀ g, (y.vz (f : Int)).P.use g = if g = f then 1 else y.P.use g := fun g => by rw [eP]; rfl
 obtain ⟨kT, kB, kS, kC, kR, kD, kM, _⟩ := Ym y (f : Int)
 have k := h.wf.chg (y := y.vz (f : Int)) (f := f) (u := 1) (by omega) (fun _ => .inl (h.wf.qm hf (by omega))) kT kB kS kC kR (by rw [kD]) u (by rw [kM]) fun _ _ _ => by rw [kM]
 have own : ∀ n g, (y.vz (f : Int)).owns n g ↔ y.owns n g := fun n g => by unfold za.owns; rw [kT]
 have hC : getL y.CR f = none := by
  cases e : getL y.CR (f : Int) with
  | none => rfl
  | some v => have := (h.cached f hf).2 (by rw [e]; rfl); omega
 have hroom : y.P.room ≤ (y.vz (f : Int)).P.room := zg1 (by rw [eP]; exact ⟨rfl, rfl⟩) fun g hg => by
  rw [u]; split
  ·rfl
  ·exact hg
 refine ⟨⟨k.1, fun g n page h1 h2 h3 => by rw [k.2 n page h3, kB]; exact h.backE g n page h1 h2 h3, fun q n page h1 h2 h3 => by rw [k.2 n page h3, kS]; exact h.slotE q n page h1 h2 h3, fun g h1 h2 => ?_, fun g h1 h2 => ?_, fun g h1 h2 => ?_, fun g h1 => ?_, by rw [kC, kR]; exact h.cacheE, by rw [kC]; exact h.cacheK, fun n pr page h1 h2 => ?_⟩, ⟨fun n => by rw [kT], fun n page hpg => ?_, fun _ _ => by unfold za.uo; rw [kC, kM, kD], by rw [kD], fun _ => by unfold za.yt; rw [kC]⟩, ⟨by rw [eP]; exact ⟨rfl, rfl⟩, by omega, by rw [kM], fun g v hv => ?_, fun _ => by rw [kT]⟩⟩
 ·rw [kB] at h2
  have : g ≠ f := fun e => h2 (by rw [e]; exact hB)
  rw [u, if_neg this]
  exact h.useB g h1 h2
 ·rw [u] at h2
  split at h2
  ·cases h2
  ·rename_i e
   rw [kB]
   exact (h.anon g h1 h2).imp id fun a => a.resolve_right e
 ·rw [u] at h2
  split at h2
  ·cases h2
  ·obtain ⟨n, hn⟩ := h.table g h1 h2
   exact ⟨n, (own n g).2 hn⟩
 ·rw [u, kR]
  split
  ·rename_i e
   subst e
   rw [hC]
   simp
  ·exact h.cached g h1
 ·rw [kT] at h1
  have a := h.area n pr page h1 h2
  rw [k.2 n page h2]
  exact ⟨a.find, by rw [kR]; exact a.own, by rw [kR]; exact a.file, by rw [kR]; exact a.shared, a.slot⟩
 ·by_cases hn : n < 8
  ·exact Yh h n page hn hpg (by rw [kT]) (k.2 n page hpg) (fun _ => by rw [kR]) (fun _ => by rw [kD]) fun _ _ _ _ _ => by rw [kM]
  ·unfold za.pv
   rw [kT, o n (by omega)]
 ·rw [u]; split
  ·rename_i e; rw [e]; omega
  ·exact Iff.rfl
structure Stay (x y : za) : Prop where
 ent1 : ∀ m pg, pg < 4096 → (x.ent m pg).kind = 1 → y.ent m pg = x.ent m pg
 backs : ∀ f : Nat, f < 1024 → x.P.use f = 3 → x.B f ≠ [] → y.B f = x.B f ∧ y.P.use f = 3
 cr : ∀ f k, getL x.CR f = some k → getL y.CR f = some k
theorem Stay.refl (x : za) : Stay x x := ⟨fun _ _ _ _ => rfl, fun _ _ h _ => ⟨rfl, h⟩, fun _ _ h => h⟩
theorem Stay.trans {x y z : za} (h : Stay x y) (k : Stay y z) : Stay x z :=
 ⟨fun m pg hp hk => by
  have e := h.ent1 m pg hp hk
  rw [k.ent1 m pg hp (by rw [e]; exact hk), e], fun f hf hu hB => by
  obtain ⟨a, b⟩ := h.backs f hf hu hB
  obtain ⟨c, d⟩ := k.backs f hf b (by rw [a]; exact hB)
  exact ⟨c.trans a, d⟩, fun f q hq => k.cr f q (h.cr f q hq)⟩
theorem zbe.stay (d : zbe x y) : Stay x y := ⟨fun m pg hp _ => d.ent m pg hp, fun f _ hu _ => ⟨by rw [d.keep.2.1], by rw [d.pool]; exact hu⟩, fun f k hk => by rw [d.keep.2.2.2.2]; exact hk⟩
theorem NewF.stay {u f : Nat} {l : List UInt8} (d : NewF x u f l y) : Stay x y := ⟨fun m pg hp _ => d.ent m pg hp, fun g _ hu _ => ⟨by rw [d.keep.2.1], by
 rw [d.pool]
 show (if g = f then u else x.P.use g) = 3
 rw [if_neg]
 ·exact hu
 ·intro e; rw [e] at hu; have := d.was.2; omega⟩, fun f k hk => by rw [d.keep.2.2.2.2]; exact hk⟩
theorem PutD.others {n page : Nat} {pr : ym} {e : Ent} {c : Int} (h : WF x) (d : PutD x n page pr e c y) (hold : (x.ent n page).kind ≠ 1 ∨ e = x.ent n page) (f : Nat) (hf : f < 1024) (hu : x.P.use f = 3) (hne : ¬ (e.kind = 1 ∧ e.n = f) ∨ e = x.ent n page) : y.B f = x.B f ∧ y.P.use f = 3 := by
 have hno : ¬ x.owns n f := fun ho => by have := (h.xh ho).2.1; omega
 refine ⟨?_, ?_⟩
 ·refine xn (d.wf.back f).1 (h.back f).1 ?_
  refine (List.perm_ext_iff_of_nodup (d.wf.back f).1.nodup (h.back f).1.nodup).2 fun q => ?_
  rw [d.memB]
  split
  ·rename_i g
   have h1 : (x.ent n page).kind ≠ 1 := hold.resolve_right fun a => g.2.2 a.symm
   have h2 : ¬ (e.kind = 1 ∧ e.n = f) := hne.resolve_right fun a => g.2.2 a.symm
   exact ⟨fun a => a.elim (fun b => absurd b h2) fun b => b.2, fun a => .inr ⟨fun b => h1 b.1, a⟩⟩
  ·exact Iff.rfl
 ·rw [d.use f hno (by omega), if_neg]
  ·exact hu
  ·rintro ⟨_, a, b, _⟩
   rcases hold with k | k
   ·exact k a
   ·exact b ⟨by rw [k]; exact a, by rw [k]⟩
theorem PutD.keeps {n page : Nat} {pr : ym} {e : Ent} {c : Int} (d : PutD x n page pr e c y) (h : WF x) (hp : x.T n = some pr) : ut 3 x y := by
 refine ⟨⟨d.zone, d.iso⟩, d.room, d.bad, fun f v hv => ?_, fun m => ?_⟩
 ·by_cases k : x.owns n f ∨ x.P.use f = 1
  ·have h1 : x.P.use f ≠ v := by
    rcases k with k | k
    ·have := (h.xh k).2.1; omega
    ·omega
   have h2 : y.P.use f ≠ v := by
    rw [d.free f k]
    split <;> omega
   exact ⟨fun e => absurd e h2, fun e => absurd e h1⟩
  ·have k1 : ¬ x.owns n f := fun a => k (.inl a)
   have k2 : x.P.use f ≠ 1 := fun a => k (.inr a)
   rw [d.use f k1 k2]
   split
   ·rename_i g
    have := g.2.2.2.2.2.2
    omega
   ·exact Iff.rfl
 ·by_cases k : m = n
  ·obtain ⟨T', ht⟩ := d.this
   rw [k, ht, hp]
   rfl
  ·rw [d.oth m k]
theorem PutD.zhp {n page : Nat} {pr : ym} {e : Ent} {c : Int} (d : PutD x n page pr e c y) (h : WF x) (hp : x.T n = some pr) (hk : (x.ent n page).kind ≠ 0 ∨ e = Ent.none) : c = 0 ∧ ut 0 x y := by
 have k := d.keeps h hp
 have := d.less hk
 exact ⟨this.1, k.zone, by omega, k.bad, k.fix, k.some⟩
end
end Go.Proofs.YtnhdmnijiphjjaaGreat
