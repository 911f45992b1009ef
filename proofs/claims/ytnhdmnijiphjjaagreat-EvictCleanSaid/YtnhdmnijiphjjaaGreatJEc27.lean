/- What a program that does nothing does not answer: law 20's answers. -/
import Derived.Test.YtnhdmnijiphjjaaGreatJEc26
import Derived.Test.YtnhdmnijiphjjaaGreatJEc24
import Derived.Test.YtnhdmnijiphjjaaGreatJEc25
import Derived.Test.YtnhdmnijiphjjaaGreatJEc22
import Derived.Deep.QuietTactic
import Derived.BigQuiet
import Derived.ProofKit
import Derived.WalkKit
import Derived.Deep.Slices
import Derived.Test.YtnhdmnijiphjjaaGreatJEc11
set_option linter.unusedVariables false
set_option linter.unusedSimpArgs false
set_option maxRecDepth 100000
set_option maxHeartbeats 2000000
namespace Go.Proofs.YtnhdmnijiphjjaaGreat
open Go Go.RowKit
def l20 : List UInt8 := [120, 121, 122]
theorem zf5 {x : za} (h : StK 1 zq.none x) : x.um 0 5 l20.length = 0 ∧ ∃ y z v f k, x.Z9 0 5 l20 = (0, y) ∧ Ok0 y ∧ (y.T 0).isSome = true ∧ ((y.ent 0 0).kind = 1 → y.P.use (y.ent 0 0).n.toNat = 3) ∧ y.outF 0 0 = (0, z) ∧ OutD y f k z ∧ Xm z.S = 1 ∧ (z.T 0).isSome = true ∧ z.Yk 0 5 3 = ((l20, 0), v) := by
 have hK : ∀ p, p < 24 → PgOk x.abs (arK p) 0 p := fun p hp => by rw [h.abs]; exact zis (fun s _ => Vq s) hp
 have hcalm : x.D.Calm := by rw [h.disk]; exact zq.zb3
 obtain ⟨r0, y, f, e1, d1⟩ := h.ok.zma (n := 0) (a0 := 5) (b := l20) (a := arK 0) (by decide) (by decide) (by decide) (hK 0 (by omega)).can (zcq 0) (by have := h.room; omega) hcalm
 have hz0 : (5 : Nat) / 64 = 0 := by decide
 have hm0 : (5 : Nat) % 64 = 5 := by decide
 rw [hz0, hm0] at d1
 have hsy : (y.T 0).isSome = true := by
  obtain ⟨T, hT⟩ := h.proc
  rw [d1.keeps.some, hT]; rfl
 obtain ⟨u3, hB⟩ := zjs d1.ok (by omega) (by omega) d1.mine (by decide)
 have hyS : y.S = x.S := d1.slots (by rw [h.ents 0 0 (by omega) (by omega)]; decide)
 have hS0 : ∀ k, y.S.getD k [] = [] := fun k => by rw [hyS]; exact h.slots k
 obtain ⟨k, hk, hk32⟩ := zgu d1.ok.ok.wf hS0
 have hyc : y.D.Calm := by rw [d1.disk]; exact hcalm
 obtain ⟨o1, o2⟩ := d1.ok.outF (by omega) (by omega) d1.mine.ent.1 d1.mine.ent.2 u3 hk hk32 (hS0 k) (by rw [hyc.work])
 obtain ⟨z, hz⟩ : ∃ z, z = (y.outF 0 0).2 := ⟨_, rfl⟩
 rw [← hz] at o2
 have hpg : PgOk y.abs (arK 0) 0 0 := by rw [d1.abs]; exact (hK 0 (by omega)).any (hK 0 (by omega)) (by decide)
 have hzp : PgOk z.abs (arK 0) 0 0 := by rw [o2.abs]; exact hpg.cur _ _
 have hzc : z.D.Calm := by
  rw [o2.disk, hyc.work]
  exact hyc
 obtain ⟨v, e3, _⟩ := o2.ok.loadQ (n := 0) (by omega) (a0 := 5) (s := 3) (by omega) (by omega) (by omega) (by rw [hz0]; exact hzp.can) (by have := o2.keeps.room; have := d1.keeps.room; have := h.room; omega) hzc
 refine ⟨r0, y, z, v, f, k, e1, d1.ok, hsy, fun _ => ?_, ?_, o2, ?_, by rw [o2.keeps.some]; exact hsy, ?_⟩
 ·rw [d1.mine.ent.2]; exact u3
 ·exact Prod.ext o1 hz.symm
 ·refine zex z.S k (y.B f) (by rw [o2.ok.ok.wf.slots.1]; exact hk32) (by rw [hB]; simp) fun j hj => ?_
  rw [o2.ok.ok.wf.slots.1] at hj
  rw [o2.slot j hj, hS0]
 ·have hct : z.abs.ct (arK 0) 0 0 = Abs.splice (x.abs.ct (arK 0) 0 0) 5 l20 := by
   rw [o2.abs]
   show y.abs.ct (arK 0) 0 0 = _
   rw [d1.abs, Vr (fun z => absurd z (by decide)), Qx]
  have e3' : z.Yk 0 5 3 = ((((z.abs.ct (arK 0) 0 (5 / 64)).drop (5 % 64)).take 3, 0), v) := e3
  rw [e3', hz0, hm0, hct]
  have := zc7 (x.abs.ct (arK 0) 0 0) l20 5 (by rw [(hK 0 (by omega)).len]; decide)
  rw [show l20.length = 3 from rfl] at this
  rw [this]
theorem zhn (j : Nat) : (#[.int .u8 120, .int .u8 121, .int .u8 122] : Array Value)[j]? = (l20.map bV)[j]? := by
 rw [← Array.getElem?_toList]
 rfl
theorem Z6 (w : World) : Calls Tryz.prog 24 #[] w fun e w' => e = .returned (.bool true) ∧ Below w.heap.size w w' := by
 have kc := fun (w : World) (C : Array Value) (n c : Nat) => Lib.run_convert_bytes_const (P := Tryz.prog) w 22 5 C n c Tryz.underlying22 Tryz.underlying5
 go_enter Tryz.func24, Tryz.ntmps24
 go_wp2_with fail
 refine (Um w).mono ?_
 rintro e w1 ⟨q, x, rfl, h1, hx⟩
 obtain ⟨r0, y, z, v, f, k, p1, p2, p3, p4, p5, p6, p7, p8, p9⟩ := zf5 hx
 have HP := Lib.hid (And.intro r0 (And.intro p1 (And.intro p2 (And.intro p3 (And.intro p4 (And.intro p5 (And.intro p6 (And.intro p7 (And.intro p8 p9)))))))))
 have HX := Lib.hid hx
 have H1 := Lib.hid h1
 clear h1 hx r0 p1 p2 p3 p4 p5 p6 p7 p8 p9
 unfold ptrV at *
 go_wp2_with fail
 have hb4 : Below w1.heap.size w1 (w1.alloc (.cells #[.int .u8 120, .int .u8 121, .int .u8 122] 5 (3, 4))) := (Below.refl _ _).alloc (Nat.le_refl _) _
 have hv4 : BRd (w1.alloc (.cells #[.int .u8 120, .int .u8 121, .int .u8 122] 5 (3, 4))) (.slice (some ⟨w1.heap.size, 0, none⟩) 3 3) l20 := by
  refine ⟨rfl, .inr ⟨w1.heap.size, 0, 3, rfl, Nat.le_refl _, by decide, by simp, fun j u hu => ?_⟩⟩
  rw [Nat.zero_add, zjv, ← hu]
  exact zhn j
 have H4 := Lib.hid (H1.out.more hb4 hv4 fun b hb => .inr (by simp [Value.ownBlock] at hb; omega))
 clear hb4 hv4 H1
 obtain ⟨T, hT⟩ := HX.out.proc
 have ST := Lib.hid (H4.out.store HX.out.ok (n := 0) (by omega) (by rw [hT]; rfl) 5 (.inl (List.mem_cons_self ..)) HP.out.1)
 rw [show x.Z9 ((0 : Nat) : Int) ((5 : Nat) : Int) l20 = (0, y) from HP.out.2.1] at ST
 clear hT
 refine ST.out.mono ?_
 rintro e w5 ⟨rfl, h5⟩
 have H5 := Lib.hid h5
 clear h5 ST H4 kc
 obtain ⟨pr, hpr⟩ := Option.isSome_iff_exists.1 HP.out.2.2.2.1
 have OU := Lib.hid (H5.out.evOut HP.out.2.2.1.ok.wf 0 0 (by omega) hpr (by omega) HP.out.2.2.2.2.1)
 rw [HP.out.2.2.2.2.2.1] at OU
 clear hpr
 go_wp2_with fail
 refine OU.out.mono ?_
 rintro e w6 ⟨rfl, h6⟩
 have c5 : w6.cell? ⟨q.sp, 5, none⟩ = some (.pointer (some ⟨q.wp, 0, none⟩)) := h6.cell (i := 5) (by omega)
 have US := Lib.hid (h6.used HP.out.2.2.2.2.2.2.1.ok.ok.wf)
 rw [HP.out.2.2.2.2.2.2.2.1] at US
 clear h6 OU H5
 go_wp2_with fail
 refine US.out.mono ?_
 rintro e w7 ⟨rfl, h7⟩
 have LD := Lib.hid (h7.load HP.out.2.2.2.2.2.2.1.ok (n := 0) (by omega) HP.out.2.2.2.2.2.2.2.2.1 5 3)
 rw [show z.Yk ((0 : Nat) : Int) 5 3 = ((l20, 0), v) from HP.out.2.2.2.2.2.2.2.2.2] at LD
 clear h7 US c5
 go_wp2_with fail
 refine LD.out.mono ?_
 rintro e w8 ⟨vv, rfl, h8⟩
 have hv := h8.get (List.mem_cons_self ..)
 have hbel := Lib.hid h8.bel
 obtain ⟨b, off, c, hve, _, _, hx⟩ := SlRd.cells hv (by simp [l20])
 subst hve
 have ks : (convert 22 9 (.slice (some ⟨b, off, none⟩) l20.length c)).run Tryz.prog w8 = .ok (.string ⟨#[120, 121, 122]⟩) w8 := by
  have := run_convert_bytes_back (P := Tryz.prog) w8 22 9 5 ⟨b, off, none⟩ c [120, 121, 122] Tryz.underlying22 Tryz.underlying5 Tryz.underlying9 (fun j hj => by
   have := hx j _ (by rw [List.getElem?_map]; exact congrArg _ (List.getElem?_eq_getElem (l := l20) hj))
   rw [add_plain]
   exact this)
  exact this
 clear hv hx h8 LD HP HX
 go_wp2_with fail
 go_ret
 exact ⟨rfl, hbel.out⟩
theorem zkj (w : World) (x y : Value) (l : List UInt8) (hx : BRd w x l) (hy : BRd w y l) (hl : l.length ≤ 4096) : Calls Tryz.prog 21 #[x, y] w fun e w' => e = .returned (.bool true) ∧ Below w.heap.size w w' := by
 obtain ⟨a, c, rfl, _, _⟩ := SlRd.form hx
 obtain ⟨a2, c2, rfl, _, _⟩ := SlRd.form hy
 obtain ⟨n, hn⟩ : ∃ n, n = l.length := ⟨_, rfl⟩
 have HX := Lib.hid hx
 have HY := Lib.hid hy
 have HN := Lib.hid hn
 rw [← hn] at hl ⊢
 have hcap : n ≤ maxLen := by omega
 clear hx hy hn
 go_enter Tryz.func21, Tryz.ntmps21
 go_wp2_with fail
 go_loopw [5] (fun iv W => ∃ i : Nat, i ≤ n ∧ iv = .int .i64 i ∧ Below w.heap.size w W) (fun iv _ => n - (intOf iv).toNat)
 case atStart => exact ⟨0, by omega, rfl, Below.refl _ _⟩
 case round =>
  obtain ⟨i, hi, rfl, hb⟩ := hrel
  have HB := Lib.hid hb
  clear hb
  by_cases hlt : i < n
  ·obtain ⟨u, hu⟩ : ∃ u, l[i]? = some u := ⟨_, List.getElem?_eq_getElem (by have := HN.out; omega)⟩
   have hpos : 0 < (l.map bV).length := by rw [List.length_map]; have := HN.out; omega
   obtain ⟨b, off, c', he, _, _, hc⟩ := SlRd.cells (SlRd.below HX.out HB.out) hpos
   obtain ⟨b2, off2, c2', he2, _, _, hc2⟩ := SlRd.cells (SlRd.below HY.out HB.out) hpos
   cases he
   cases he2
   have k0 : wr.cell? ⟨b, off + i, none⟩ = some (.int .u8 u.toNat) := hc i _ (by rw [List.getElem?_map, hu]; rfl)
   have k1 : wr.cell? ⟨b2, off2 + i, none⟩ = some (.int .u8 u.toNat) := hc2 i _ (by rw [List.getElem?_map, hu]; rfl)
   clear hc hc2
   have hlt' : (i : Int) < n := by omega
   go_wp2_with fail
   go_quiet (fail)
   go_wp2_with fail
   go_roundw
   case rel => exact ⟨i + 1, by omega, by go_num, HB.out.trans ⟨rfl, rfl, rfl, Nat.le_refl _, fun _ _ => rfl⟩⟩
   case measure => simp [intOf]; omega
  ·have hlt' : ¬ (i : Int) < n := by omega
   go_wp2_with fail
   go_ret
   exact ⟨rfl, HB.out⟩
end Go.Proofs.YtnhdmnijiphjjaaGreat
namespace Go.Proofs.YtnhdmnijiphjjaaGreat.Open
open Go Go.ChangeShapes Go.WideShapes Go.RowKit Go.Deep
abbrev Leaf := Option IntKind
def LeafOk : Leaf → Value → Prop
 | some k, v => ∃ n, v = .int k n ∧ (Lit.int k n).wf = true
 | none, v => ∃ b, v = .bool b
def Xn : List Leaf → List Value → Prop
 | [], [] => True
 | l :: ls, v :: vs => LeafOk l v ∧ Xn ls vs
 | _, _ => False
theorem Xn.append : ∀ {a b : List Leaf} {x y : List Value}, Xn a x → Xn b y → Xn (a ++ b) (x ++ y)
 | [], _, [], _, _, h => h
 | [], _, _ :: _, _, h, _ => h.elim
 | _ :: _, _, [], _, h, _ => h.elim
 | _ :: _, _, _ :: _, _, ⟨h, t⟩, k => ⟨h, Xn.append t k⟩
theorem Xn.length : ∀ {a : List Leaf} {x : List Value}, Xn a x → a.length = x.length
 | [], [], _ => rfl
 | [], _ :: _, h => h.elim
 | _ :: _, [], h => h.elim
 | _ :: _, _ :: _, h => congrArg (· + 1) (Xn.length h.2)
def Zi (P : Program) (g : TypeId → Option (List Leaf)) : List Field → Nat → Option (List Leaf)
 | [], _ => some []
 | f :: fs, off =>
  if f.offset = off then
   match g f.type with
   | some l => if l.length = P.cellsOf f.type then (Zi P g fs (off + l.length)).map (l ++ ·) else none
   | none => none
  else none
def Xf (P : Program) : Nat → TypeId → Option (List Leaf)
 | 0, _ => none
 | n + 1, t =>
  match P.underlying t with
  | some .bool => some [none]
  | some (.int k) => some [some k]
  | some (.struct fs) =>
   match Zi P (Xf P n) fs.toList 0 with
   | some l => if l.length = P.cellsOf t then some l else none
   | none => none
  | _ => none
section
variable {H : Type} {enc : TypeId × Value → H} {P : Program} {w : World} {base : Nat} {spare : Nat → Bool} {held : Bool}
theorem zck {g : TypeId → Option (List Leaf)} {n : Nat} {cs : List Value}
  (hg : ∀ t l cs x, g t = some l → DataW.trod enc P w base spare held n t cs = some x → Xn l cs) :
  ∀ (fs : List Field) (off : Nat) (l : List Leaf), Zi P g fs off = some l → (∀ f ∈ fs, ∃ x, DataW.trod enc P w base spare held n f.type ((cs.drop f.offset).take (P.cellsOf f.type)) = some x) →
   Xn l ((cs.drop off).take l.length)
 | [], _, l, h, _ => by simp [Zi] at h; subst h; simp [Xn]
 | f :: fs, off, l, h, ht => by
  unfold Zi at h
  split at h
  ·rename_i ho
   split at h
   ·rename_i l1 hl1
    split at h
    ·rename_i hlen
     obtain ⟨l2, h2, rfl⟩ := Option.map_eq_some_iff.1 h
     obtain ⟨x, hx⟩ := ht f (by simp)
     have a1 := hg _ _ _ _ hl1 hx
     have a2 := zck hg fs _ l2 h2 (fun f' hf' => ht f' (by simp [hf']))
     rw [ho, ← hlen] at a1
     have e : (cs.drop off).take (l1 ++ l2).length = (cs.drop off).take l1.length ++ (cs.drop (off + l1.length)).take l2.length := by
      rw [List.length_append, List.take_add, List.drop_drop]
     rw [e]
     exact a1.append a2
    ·cases h
   ·cases h
  ·cases h
theorem zb4 : ∀ (m n : Nat) (t : TypeId) (l : List Leaf) (cs : List Value) (x : DataW H × List MemPlace), Xf P m t = some l → DataW.trod enc P w base spare held n t cs = some x → Xn l cs
 | 0, _, _, _, _, _, h, _ => by simp [Xf] at h
 | m + 1, n, t, l, cs, x, h, hx => by
  unfold Xf at h
  split at h
  ·rename_i hu
   obtain ⟨b, rfl, _⟩ := DataW.trod_bool hu hx
   cases h
   exact ⟨⟨b, rfl⟩, trivial⟩
  ·rename_i k hu
   obtain ⟨v, rfl, _, hw⟩ := DataW.trod_int hu hx
   cases h
   exact ⟨⟨v, rfl, hw⟩, trivial⟩
  ·rename_i fs hu
   split at h
   ·rename_i l' hl'
    split at h
    ·rename_i hlen
     cases h
     obtain ⟨xs, n', rfl, _, hcs, hsz, hf⟩ := DataW.trod_struct hu hx
     have := zck (enc := enc) (w := w) (base := base) (spare := spare) (held := held) (n := n') (cs := cs) (fun t l cs x h1 h2 => zb4 m n' t l cs x h1 h2) fs.toList 0 l hl' (fun f hfm => by
      obtain ⟨i, hi, rfl⟩ := List.getElem_of_mem hfm
      have e := hf i (fs.toList[i]) (by simp)
      rw [e, List.getElem?_eq_getElem (by simpa [hsz] using hi)]
      exact ⟨_, rfl⟩)
     rw [List.drop_zero, List.take_of_length_le (by omega)] at this
     exact this
    ·cases h
   ·cases h
  ·cases h
def RowsAt {α : Type} (w : World) (enc : α → List Value) (k : Nat) (a : Option Addr) (len cap : Nat) (z : List α) : Prop :=
 z.length = len ∧ len ≤ cap ∧ cap ≤ maxLen ∧ ∀ i, i < len → ∃ b off, a = some ⟨b, off, none⟩ ∧ b < w.heap.size ∧ ∀ x, z[i]? = some x → ∀ j v, (enc x)[j]? = some v → w.cell? ⟨b, off + (i * k + j), none⟩ = some v
theorem zgz {α : Type} [Inhabited α] {encα : α → List Value} {k : Nat} {t e : TypeId} {a : Option Addr} {len cap : Nat} {d : DataW H} {p : List MemPlace} {l : List Leaf} (P2 : α → Prop)
  (ht : P.underlying t = some (.slice e)) (hl : Xf P 10 e = some l) (hk : P.cellsOf e = k) (hk0 : 0 < k) (dec : ∀ cs, Xn l cs → ∃ x, cs = encα x ∧ P2 x)
  (h : DataW.Trod enc P w base spare held t (.slice a len cap) d p) : ∃ z, RowsAt w encα k a len cap z ∧ ∀ x ∈ z, P2 x := by
 obtain ⟨fuel, hf⟩ := h
 rcases open_slice ht hf with ⟨hcs, _⟩ | ⟨x, l', c', m, n, D, Pl, hcs, _, hle, hmx, hm, _, hx⟩
 ·simp [Value.cells] at hcs
  obtain ⟨rfl, rfl, rfl⟩ := hcs
  exact ⟨[], ⟨rfl, Nat.le_refl _, by unfold maxLen; omega, fun i hi => by omega⟩, by simp⟩
 ·simp [Value.cells] at hcs
  obtain ⟨rfl, rfl, rfl⟩ := hcs
  have hlm : len ≤ m := by rw [hm]; split <;> omega
  have key : ∀ i, i < len → ∃ y, P2 y ∧ (encα y).length = k ∧ ∀ j, j < k → w.cell? ((x.add (i * k)).add j) = (encα y)[j]? := fun i hi => by
   obtain ⟨cs', h1, h2⟩ := hx i (by omega)
   obtain ⟨y, rfl, hp⟩ := dec cs' (zb4 10 n e l cs' _ hl h2)
   rw [hk] at h1
   obtain ⟨_, hlen, hc⟩ := World.cells?_some h1
   exact ⟨y, hp, hlen, hc⟩
  obtain ⟨f, hf⟩ := choose_lt key
  refine ⟨(List.range len).map f, ⟨by simp, hle, hmx, fun i hi => ?_⟩, fun y hy => ?_⟩
  ·obtain ⟨hp, hlen, hc⟩ := hf i hi
   obtain ⟨_, hlen0, hc0'⟩ := hf 0 (by omega)
   have hc0 := hc0' 0 hk0
   rw [List.getElem?_eq_getElem (by omega), Nat.zero_mul] at hc0
   have e0 : (x.add 0).add 0 = x := by simp [Addr.add]
   rw [e0] at hc0
   have hsp : x.spot = none := by
    unfold World.cell? at hc0
    split at hc0
    ·split at hc0
     ·cases hc0
     ·rename_i hs; simpa using hs
    ·cases hc0
   have hb : x.block < w.heap.size := World.block_lt_of_cell? w _ hc0
   obtain ⟨b, off, sp⟩ := x
   obtain rfl : sp = none := hsp
   have ea : ∀ i, (⟨b, off, none⟩ : Addr).add i = ⟨b, off + i, none⟩ := fun i => by unfold Addr.add; split <;> simp_all
   have ea2 : ∀ i j, ((⟨b, off, none⟩ : Addr).add i).add j = ⟨b, off + i + j, none⟩ := fun i j => by rw [ea]; unfold Addr.add; split <;> simp_all
   refine ⟨b, off, rfl, hb, fun y hy j v hv => ?_⟩
   simp [hi] at hy
   subst hy
   have hj : j < k := by have := (List.getElem?_eq_some_iff.1 hv).1; omega
   have := hc j hj
   rw [ea2, hv, Nat.add_assoc] at this
   exact this
  ·obtain ⟨i, hi, rfl⟩ := List.mem_map.1 hy
   exact (hf i (List.mem_range.1 hi)).1
end
end Go.Proofs.YtnhdmnijiphjjaaGreat.Open
namespace Go.Proofs.YtnhdmnijiphjjaaGreat.Open
open Go Go.ChangeShapes Go.WideShapes Go.RowKit Go.Deep
theorem zdk {P : Program} {w : World} {r : Reach} {base : Nat} {t e : TypeId} {x : Addr} {len cap : Nat} (ht : P.underlying t = some (.slice e)) (h : Value.okWide P w r base t (.slice (some x) len cap)) : x.spot = none ∧ x.block < w.heap.size := by
 simp only [Value.okWide, ht, Cell.okWide, Cell.ok] at h
 obtain ⟨_, _, _, hs, row, cells, hsh, _⟩ := h
 refine ⟨hs, ?_⟩
 unfold World.shape? at hsh
 by_cases hb : x.block < w.heap.size
 ·exact hb
 ·rw [Array.getElem?_eq_none (by omega)] at hsh
  simp at hsh
theorem flat_get {α : Type} {enc : α → List Value} {k : Nat} (hk : ∀ x, (enc x).length = k) (hk0 : 0 < k) {z : List α} {j : Nat} {u : Value} (h : (z.flatMap enc)[j]? = some u) : ∃ x, z[j / k]? = some x ∧ (enc x)[j % k]? = some u := by
 induction z generalizing j with
 | nil => simp at h
 | cons y z ih =>
  rw [List.flatMap_cons] at h
  by_cases hj : j < k
  ·rw [List.getElem?_append_left (by rw [hk]; exact hj)] at h
   exact ⟨y, by simp [Nat.div_eq_of_lt hj], by rw [Nat.mod_eq_of_lt hj]; exact h⟩
  ·rw [List.getElem?_append_right (by rw [hk]; omega), hk] at h
   obtain ⟨x, h1, h2⟩ := ih h
   have e : j / k = (j - k) / k + 1 := by rw [Nat.div_eq_sub_div hk0 (by omega)]
   have e2 : j % k = (j - k) % k := by rw [Nat.mod_eq_sub_mod (by omega)]
   exact ⟨x, by rw [e]; simpa using h1, by rw [e2]; exact h2⟩
theorem zmv {H : Type} {enc : TypeId × Value → H} {P : Program} {w : World} {base : Nat} {spare : Nat → Bool} {held : Bool} {α : Type} [Inhabited α] {encα : α → List Value} {k : Nat} {t e : TypeId} {a : Option Addr} {len cap : Nat} {d : DataW H} {p : List MemPlace} {l : List Leaf} {r : Reach} {b0 : Nat} (P2 : α → Prop)
  (ht : P.underlying t = some (.slice e)) (hl : Xf P 10 e = some l) (hk : P.cellsOf e = k) (hk0 : 0 < k) (hek : ∀ x, (encα x).length = k) (dec : ∀ cs, Xn l cs → ∃ x, cs = encα x ∧ P2 x)
  (hv : Value.okWide P w r b0 t (.slice a len cap)) (h : DataW.Trod enc P w base spare held t (.slice a len cap) d p) : ∃ z : List α, z.length = len ∧ SlRd w k (.slice a len cap) len (z.flatMap encα) ∧ ∀ x ∈ z, P2 x := by
 obtain ⟨z, ⟨h1, h2, h3, h4⟩, h5⟩ := zgz (encα := encα) (k := k) P2 ht hl hk hk0 dec h
 refine ⟨z, h1, ⟨?_, ?_⟩, h5⟩
 ·rw [← h1]
  clear h1 h4 h5
  induction z with
  | nil => simp
  | cons x z ih => rw [List.flatMap_cons, List.length_append, ih, hek, List.length_cons]; rw [Nat.add_mul]; omega
 ·cases a with
  | none =>
   left
   simp only [Value.okWide, ht, Cell.okWide] at hv
   cases len <;> cases cap <;> simp_all [Cell.ok]
  | some x =>
   right
   obtain ⟨b, off, sp⟩ := x
   obtain ⟨hs, hb⟩ := zdk ht hv
   obtain rfl : sp = none := hs
   refine ⟨b, off, cap, rfl, h2, h3, hb, fun j u hu => ?_⟩
   obtain ⟨y, hy1, hy2⟩ := flat_get hek hk0 hu
   have hi : j / k < len := by rw [← h1]; exact (List.getElem?_eq_some_iff.1 hy1).1
   obtain ⟨b', off', e, _, hc⟩ := h4 (j / k) hi
   cases e
   have := hc y hy1 (j % k) u hy2
   rw [show j / k * k + j % k = j by rw [Nat.mul_comm]; exact Nat.div_add_mod j k] at this
   exact this
end Go.Proofs.YtnhdmnijiphjjaaGreat.Open
namespace Go.Proofs.YtnhdmnijiphjjaaGreat
open Go Go.RowKit
def byL (x : UInt8) : List Value := [bV x]
theorem znm (x : UInt8) : (byL x).length = 1 := rfl
def AnyB (_ : UInt8) : Prop := True
theorem decBy (cs : List Value) (h : Open.Xn [some .u8] cs) : ∃ x, cs = byL x ∧ AnyB x := by
 have hlen := h.length
 rcases cs with _ | ⟨c, _ | ⟨d, cs⟩⟩ <;> simp at hlen
 obtain ⟨⟨n, rfl, hn⟩, _⟩ := h
 simp [Lit.wf] at hn
 have h0 : 0 ≤ n := hn.1
 have h1 : n ≤ 255 := hn.2
 obtain ⟨k, rfl⟩ := Int.eq_ofNat_of_zero_le h0
 refine ⟨UInt8.ofNat k, ?_, trivial⟩
 unfold byL bV
 have : (UInt8.ofNat k).toNat = k := by simp; omega
 rw [this]
theorem BRd.of_law {w : World} {v : Value} {z : List UInt8} (h : SlRd w 1 v z.length (z.flatMap byL)) : BRd w v z := by
 have : ∀ z : List UInt8, z.flatMap byL = z.map bV := fun z => by
  induction z with
  | nil => rfl
  | cons a z ih => rw [List.flatMap_cons, List.map_cons, ih]; rfl
 rw [this] at h
 exact h
section
variable {x y : za}
theorem Ok0.failing (h : Ok0 x) (c : Nat) : Ok0 { x with D := x.D.failing c } ∧ za.abs { x with D := x.D.failing c } = x.abs := by
 have hc : (x.D.failing c).cur = x.D.cur := rfl
 refine ⟨h.disk _ fun s hs => by rw [hc]; exact h.ok.wf.secs s hs, ?_⟩
 have s : Same x { x with D := x.D.failing c } := by
  refine ⟨fun _ => rfl, fun n page hp => ?_, fun k _ => rfl, hc, fun _ => rfl⟩
  unfold za.pv
  dsimp only
  cases x.T n with
  | none => rfl
  | some pr =>
   dsimp only
   cases yg pr.A (page : Int) with
   | none => rfl
   | some a => exact Xc rfl hc fun _ => rfl
 exact s.abs
theorem zh9 {D : zq} (h : D.Calm) : (D.failing 1).work = (D, 6) ∧ D.failing 0 = D := by
 obtain ⟨a1, a2, a3, a4, a5, a6⟩ := D
 obtain ⟨h1, h2, h3, h4⟩ := h
 dsimp only at h1 h2 h3 h4
 subst h1; subst h2; subst h3; subst h4
 refine ⟨?_, rfl⟩
 unfold zq.work zq.failing zq.burn
 rfl
structure zmk (k : Nat) (b : List UInt8) (x x1 : za) (g : Nat) : Prop where
 r1 : x.um 0 ((64 * (8 + k) : Nat) : Int) b.length = 0
 s1 : x.Z9 0 ((64 * (8 + k) : Nat) : Int) b = (0, x1)
 ok1 : Ok0 x1 ∧ x1.D.Calm ∧ (x1.T 0).isSome = true ∧ 20 ≤ x1.P.room
 hv : (getL x1.CL (0, (k : Int))).isSome = true ∧ x1.cfr (0, (k : Int)) = g ∧ g < 1024 ∧ x1.R.bad g = false
 drop1 : za.Yo { x1 with D := x1.D.failing 1 } (0, (k : Int)) = (6, x1)
 pg : PgOk x1.abs arS 0 (8 + k)
 file : (x1.abs.file (0, (k : Int))).take b.length = b
theorem zf3 {x : za} (h : StK 1 zq.none x) {k : Nat} (hk : k < 8) {b : List UInt8} (hb : 0 < b.length ∧ b.length ≤ 64) : ∃ x1 g, zmk k b x x1 g := by
 obtain ⟨hK, hcalm, hs0⟩ := outK h
 have z3 : 64 * (8 + k) / 64 = 8 + k := by omega
 have z4 : 64 * (8 + k) % 64 = 0 := by omega
 have hk8 : arK (8 + k) = arS := by unfold arK; rw [if_neg (by omega), if_pos (by omega)]
 have hkey : za.keyF arS (8 + k) = (0, (k : Int)) := by unfold za.keyF arS; refine Prod.ext rfl ?_; dsimp only; omega
 have hko : xc ((0 : Int), (k : Int)) := ⟨by dsimp only; omega, by dsimp only; omega, by dsimp only; omega, by dsimp only; omega⟩
 obtain ⟨r1, x1, g, e1, d1⟩ := h.ok.zma (n := 0) (a0 := 64 * (8 + k)) (b := b) (a := arK (8 + k)) hb.1 (by rw [z4]; omega) (by omega) (by rw [z3]; exact (hK _ (by omega)).can) (zcq _) (by have := h.room; omega) hcalm
 rw [z3, z4, hk8] at d1
 obtain ⟨g1, g2, g3, g4⟩ := zdn d1.ok d1.mine rfl
 rw [hkey] at g2 g3 g4
 have hc1 : x1.D.Calm := by rw [d1.disk]; exact hcalm
 refine ⟨x1, g, r1, e1, ⟨d1.ok, hc1, by rw [d1.keeps.some]; exact hs0, by have := h.room; have := d1.keeps.room; omega⟩, ⟨g2, g3, d1.mine.lt, d1.ok.ok.wf.qm d1.mine.lt (by omega)⟩, ?_, ?_, ?_⟩
 ·have hw := (zh9 hc1).1
  have e0 : za.xx { x1 with D := x1.D.failing 1 } (0, (k : Int)) = (6, x1) := by
   unfold za.xx
   rw [if_neg (by show ¬ x1.yt (0, (k : Int)) = false; rw [g4]; simp)]
   dsimp only
   rw [hw, if_neg (by simp), zmo _ _ _ (by dsimp only; rw [hw]; simp)]
   dsimp only
   rw [hw]
   rfl
  unfold za.Yo
  rw [if_neg (by show ¬ (getL x1.CL (0, (k : Int))).isSome = false; rw [g2]; simp), e0, if_pos (by simp)]
 ·rw [d1.abs, ← hk8]; exact (hK _ (by omega)).any (hK _ (by omega)) (by omega)
 ·rw [d1.abs, (Yt x.abs arS 0 (8 + k) 0 b rfl).2, if_pos hkey.symm]
  have := zc6 (x.abs.file (0, (k : Int))) b b.length rfl
  rw [List.drop_zero] at this
  exact this
theorem zd0 {k : Nat} (hk : k < 8) {b : List UInt8} (hb : 0 < b.length ∧ b.length ≤ 64) {x x1 : za} {g : Nat} (c : zmk k b x x1 g) {l : List (Int × Int)} (hl : U4 x1 0 l) {y : za} (hy : y = { x1.yx l with D := (x1.yx l).D.flush }) :
  Ok0 y ∧ (getL y.CL (0, (k : Int))).isSome = true ∧ y.cfr (0, (k : Int)) = g ∧ y.R.bad g = false ∧ ∃ z v, za.Yo { y with D := y.D.failing 1 } (0, (k : Int)) = (0, z) ∧ (({ z with D := z.D.failing 0 } : za).T 0).isSome = true ∧ Ok0 { z with D := z.D.failing 0 } ∧ za.Yk { z with D := z.D.failing 0 } 0 ((64 * (8 + k) : Nat) : Int) b.length = ((b, 0), v) := by
 have z3 : 64 * (8 + k) / 64 = 8 + k := by omega
 have z4 : 64 * (8 + k) % 64 = 0 := by omega
 have hkey : za.keyF arS (8 + k) = (0, (k : Int)) := by unfold za.keyF arS; refine Prod.ext rfl ?_; dsimp only; omega
 have hko : xc ((0 : Int), (k : Int)) := ⟨by dsimp only; omega, by dsimp only; omega, by dsimp only; omega, by dsimp only; omega⟩
 have hsec : za.yc (0, (k : Int)) = 96 + k := by unfold za.yc; dsimp only; omega
 have s := c.ok1.1.yx l c.ok1.2.1 fun q hq => ((hl q).1 hq).1
 obtain ⟨f1, f2, f3⟩ := s.ok.zm9 s.calm
 rw [← hy] at f1 f2
 have yCL : y.CL = (x1.yx l).CL := by rw [hy]
 have yR : y.R = x1.R := by rw [hy]; exact s.same.2.2.2.2.1
 have yT : y.T = x1.T := by rw [hy]; exact s.same.2.2.2.1
 have yP : y.P = x1.P := by rw [hy]; exact s.same.1
 have yD : y.D = (x1.yx l).D.flush := by rw [hy]
 have hkin : ((0 : Int), (k : Int)) ∈ l := (hl _).2 ⟨c.hv.1, rfl⟩
 have hlk : ∀ q ∈ l, xc q := fun q hq => by
  obtain ⟨v, hv⟩ := Option.isSome_iff_exists.1 ((hl q).1 hq).1
  exact c.ok1.1.ok.cacheK q v hv
 obtain ⟨a1, a2, a3, a4⟩ := zad l x1.abs hlk
 obtain ⟨b1, b2⟩ := a4 (0, (k : Int)) hko
 rw [if_pos hkin] at b1
 rw [hsec] at b2
 have hya : y.abs = x1.abs.Vs l := by rw [f2, s.abs]
 have hdy : y.yt (0, (k : Int)) = false := by show y.abs.yt _ = false; rw [hya]; exact b1
 have hv : (getL y.CL (0, (k : Int))).isSome = true := by rw [yCL, s.keys]; exact c.hv.1
 have hcf : y.cfr (0, (k : Int)) = g := by
  have : y.cfr (0, (k : Int)) = (x1.yx l).cfr (0, (k : Int)) := by unfold za.cfr; rw [yCL]
  rw [this, s.cfr]; exact c.hv.2.1
 obtain ⟨g1, g2⟩ := f1.failing 1
 obtain ⟨d0, d⟩ := g1.Yo hko hv (fun z => absurd z (by show ¬ y.yt (0, (k : Int)) = true; rw [hdy]; simp)) hcf
 obtain ⟨z, hz⟩ : ∃ z, z = (za.Yo { y with D := y.D.failing 1 } (0, (k : Int))).2 := ⟨_, rfl⟩
 rw [← hz] at d
 have zD : z.D = y.D.failing 1 := by
  rw [d.disk, if_neg]
  show ¬ y.yt (0, (k : Int)) = true
  rw [hdy]; simp
 obtain ⟨k1, k2⟩ := d.ok.failing 0
 have hcz : (z.D.failing 0).Calm := by
  rw [zD, yD]
  exact ⟨rfl, rfl, f3.2.2.1, f3.2.2.2⟩
 have hT0 : (z.T 0).isSome = true := by rw [d.keeps.some]; show (y.T 0).isSome = true; rw [yT]; exact c.ok1.2.2.1
 have hza : z.abs = (y.abs.Xr (0, (k : Int)) (y.abs.cur (96 + k))).Za (0, (k : Int)) false := by
  rw [d.abs, g2]
  unfold Abs.drop
  have : y.abs.clean (0, (k : Int)) = y.abs := by
   unfold Abs.clean
   have h0 : y.abs.yt (0, (k : Int)) = false := hdy
   rw [h0]; rfl
  rw [this, hsec]
 have hfz : z.abs.file (0, (k : Int)) = y.abs.cur (96 + k) := by
  rw [hza]
  show (if ((0 : Int), (k : Int)) = (0, (k : Int)) then y.abs.cur (96 + k) else _) = _
  rw [if_pos rfl]
 have hcu : y.abs.cur (96 + k) = x1.abs.file (0, (k : Int)) := by
  rw [hya, b2]
  by_cases hd : x1.abs.yt (0, (k : Int)) = true
  ·rw [if_pos ⟨hkin, hd⟩]
  ·exfalso
   have := c.drop1
   have h1 : x1.yt (0, (k : Int)) = false := by
    have hd2 : ¬ x1.yt (0, (k : Int)) = true := hd
    simpa using hd2
   have h2 : za.yt { x1 with D := x1.D.failing 1 } (0, (k : Int)) = false := h1
   unfold za.Yo za.xx at this
   rw [if_neg (by show ¬ (getL x1.CL (0, (k : Int))).isSome = false; rw [c.hv.1]; simp), if_pos h2, if_neg (by simp)] at this
   exact absurd (show (0 : Int) = 6 from congrArg Prod.fst this) (by decide)
 have hpv : z.abs.pv = x1.abs.pv := by rw [hza]; show y.abs.pv = _; rw [hya, a1]
 have hA : z.abs.A = x1.abs.A := by rw [hza]; show y.abs.A = _; rw [hya, a2]
 have hpz : PgOk (za.abs { z with D := z.D.failing 0 }) arS 0 (8 + k) := by
  rw [k2]
  have p := c.pg
  refine ⟨by rw [ze7 hA]; exact p.area, by rw [hpv]; exact p.there, fun kk => by rw [hpv]; exact p.shared kk, ?_⟩
  have e1 : z.abs.pv 0 (8 + k) = .file := by rw [hpv]; exact p.shared rfl
  rw [za6 e1, hkey, hfz, hcu]
  exact c.ok1.1.zj8 hko
 obtain ⟨v, e3, _⟩ := k1.loadQ (n := 0) (by omega) (a0 := 64 * (8 + k)) (s := b.length) hb.1 (by rw [z4]; omega) (by omega) (by rw [z3]; exact hpz.can) (by
  have h1 := d.keeps.room
  have h2 : y.P.room ≤ z.P.room + 0 := h1
  have h3 := c.ok1.2.2.2
  rw [← yP] at h3
  show 5 ≤ z.P.room
  omega) hcz
 refine ⟨f1, hv, hcf, by rw [yR]; exact c.hv.2.2.2, z, v, Prod.ext d0 hz.symm, hT0, k1, ?_⟩
 refine (show za.Yk { z with D := z.D.failing 0 } 0 ((64 * (8 + k) : Nat) : Int) b.length = _ from e3).trans ?_
 rw [z3, z4, List.drop_zero]
 have e1 : z.abs.pv 0 (8 + k) = .file := by rw [hpv]; exact c.pg.shared rfl
 have e2 : (za.abs { z with D := z.D.failing 0 }).ct arS 0 (8 + k) = x1.abs.file (0, (k : Int)) := by rw [k2, za6 e1, hkey, hfz, hcu]
 rw [e2, c.file]
end
set_option maxHeartbeats 4000000 in
theorem zcp (vb : Value) (b : List UInt8) (pa : Nat) (hpa : pa < 256) (w : World) (hb0 : BRd w vb b) (hlen : b.length ≤ 64 ∧ b.length ≠ 0) :
  Calls Tryz.prog 12 #[vb, .int .u8 pa] w fun e w' => e = .returned (.bool true) ∧ Below w.heap.size w w' := by
 obtain ⟨ba, bc, rfl, hc3, hc4⟩ := SlRd.form hb0
 obtain ⟨n, hn⟩ : ∃ n, n = b.length := ⟨_, rfl⟩
 rw [← hn] at hlen hc3 ⊢
 have HB : Hid (BRd w (.slice ba n bc) b ∧ b.length = n) := ⟨by rw [hn]; exact hb0, hn.symm⟩
 have hcap : n ≤ maxLen := by omega
 clear hb0 hn hc3 hc4
 obtain ⟨k, hk⟩ : ∃ k, k = pa % 8 := ⟨_, rfl⟩
 have hk8 : k < 8 := by omega
 have hmod := Lib.hid (show (pa : Int) % 8 = k by omega)
 have hm0 : 0 ≤ (pa : Int) % 8 := by omega
 have hm1 : (pa : Int) % 8 < 8 := by omega
 have hp0 : (pa : Int) < 256 := by omega
 have hn64 : ¬ (64 : Int) < n := by omega
 have hn1 : ¬ ((n : Int) = 0) := by omega
 have hn2 : ((n : Int) == 0) = false := beq_eq_false_iff_ne.2 hn1
 have hnn : ¬ n = 0 := hlen.2
 clear hk
 go_enter Tryz.func12, Tryz.ntmps12
 go_wp2_with fail
 refine (Um w).mono ?_
 rintro e w1 ⟨q, x, rfl, h1, hx⟩
 obtain ⟨x1, g, fd⟩ := zf3 hx hk8 (b := b) (by rw [HB.out.2]; omega)
 have FD := Lib.hid fd
 have ST := Lib.hid (h1.store hx.ok (n := 0) (by omega) (outK hx).2.2 (64 * (8 + k)) (h1.arg HB.out.1) fd.r1)
 rw [show x.Z9 ((0 : Nat) : Int) ((64 * (8 + k) : Nat) : Int) b = (0, x1) from fd.s1] at ST
 clear h1 hx fd
 unfold ptrV at *
 go_wp2_with fail
 rw [hmod.out]
 clear hmod hm0 hm1 hp0 hpa
 rw [show (64 : Int) * (8 + (k : Int)) = ((64 * (8 + k) : Nat) : Int) by omega]
 refine ST.out.mono ?_
 rintro e w2 ⟨rfl, h2⟩
 have c1 : w2.cell? ⟨q.sp, 1, none⟩ = some (.pointer (some ⟨q.dp, 0, none⟩)) := h2.cell (i := 1) (by omega)
 have FA := Lib.hid (h2.fail 1 (by omega))
 clear h2 ST
 go_wp2_with fail
 refine FA.out.mono ?_
 rintro e w3 ⟨rfl, h3⟩
 have DR := Lib.hid (h3.zmh ((FD.out.ok1.1.failing 1).1.ok.wf) 0 k (by omega) (by omega) g FD.out.hv.1 FD.out.hv.2.1 FD.out.hv.2.2.1 FD.out.hv.2.2.2)
 rw [show za.Yo { x1 with D := x1.D.failing 1 } (((0 : Nat) : Int), (k : Int)) = (6, x1) from FD.out.drop1] at DR
 clear h3 FA c1
 unfold ptrV at DR
 go_wp2_with fail
 refine DR.out.mono ?_
 rintro e w4 ⟨rfl, h4⟩
 have SY : Hid (Calls Tryz.prog 48 #[.pointer (some ⟨q.sp, 0, none⟩), .int .i64 0] w4 fun e w' => e = .returned (.int .i64 0) ∧ ∃ l y, U4 x1 0 l ∧ y = { x1.yx l with D := (x1.yx l).D.flush } ∧ AtQ w [] q y w') := by
  obtain ⟨⟨tag, hS, low, hV⟩, hbel⟩ := h4
  refine (ziw hS FD.out.ok1.1 FD.out.ok1.2.1 0 (by omega)).mono ?_
  rintro e w5 ⟨rfl, l, tag1, hl, h5, s5⟩
  obtain ⟨a, b, c⟩ := Zy CA0 s5 hbel low hV
  exact ⟨rfl, l, _, hl, rfl, ⟨tag1, h5, a, b⟩, c⟩
 clear h4 DR
 go_wp2_with fail
 refine SY.out.mono ?_
 rintro e w5 ⟨rfl, l, y, hl, hy, h5⟩
 obtain ⟨p1, p2, p3, p4, z, v, p5, p6, p7, p8⟩ := zd0 hk8 (by rw [HB.out.2]; omega) FD.out hl hy
 have HP := Lib.hid (And.intro p1 (And.intro p2 (And.intro p3 (And.intro p4 (And.intro p5 (And.intro p6 (And.intro p7 p8)))))))
 have c1 : w5.cell? ⟨q.sp, 1, none⟩ = some (.pointer (some ⟨q.dp, 0, none⟩)) := h5.cell (i := 1) (by omega)
 have FA := Lib.hid (h5.fail 1 (by omega))
 clear h5 SY hl hy p1 p2 p3 p4 p5 p6 p7 p8
 go_wp2_with fail
 refine FA.out.mono ?_
 rintro e w6 ⟨rfl, h6⟩
 have DR := Lib.hid (h6.zmh ((HP.out.1.failing 1).1.ok.wf) 0 k (by omega) (by omega) g HP.out.2.1 HP.out.2.2.1 FD.out.hv.2.2.1 HP.out.2.2.2.1)
 rw [show za.Yo { y with D := y.D.failing 1 } (((0 : Nat) : Int), (k : Int)) = (0, z) from HP.out.2.2.2.2.1] at DR
 clear h6 FA c1
 unfold ptrV at DR
 go_wp2_with fail
 refine DR.out.mono ?_
 rintro e w7 ⟨rfl, h7⟩
 have c1 : w7.cell? ⟨q.sp, 1, none⟩ = some (.pointer (some ⟨q.dp, 0, none⟩)) := h7.cell (i := 1) (by omega)
 have FA := Lib.hid (h7.fail 0 (by omega))
 clear h7 DR
 go_wp2_with fail
 refine FA.out.mono ?_
 rintro e w8 ⟨rfl, h8⟩
 have LD : Hid (Calls Tryz.prog 20 #[.pointer (some ⟨q.sp, 0, none⟩), .int .i64 0, .int .i64 ((64 * (8 + k) : Nat) : Int), .int .i64 n] w8 fun e w' => ∃ v, e = .returned (.tuple #[v, .int .i64 0]) ∧ AtQ w [(v, bys b)] q (za.Yk { z with D := z.D.failing 0 } 0 ((64 * (8 + k) : Nat) : Int) b.length).2 w') := by
  have := h8.load HP.out.2.2.2.2.2.2.1 (n := 0) (by omega) HP.out.2.2.2.2.2.1 ((64 * (8 + k) : Nat) : Int) (b.length : Int)
  rw [show za.Yk { z with D := z.D.failing 0 } ((0 : Nat) : Int) ((64 * (8 + k) : Nat) : Int) b.length = ((b, 0), v) from HP.out.2.2.2.2.2.2.2, HB.out.2] at this
  refine this.mono ?_
  rintro e w9 ⟨vv, rfl, h9⟩
  refine ⟨vv, rfl, ?_⟩
  rw [HP.out.2.2.2.2.2.2.2]
  exact h9
 clear h8 FA c1
 go_wp2_with fail
 rw [show (64 : Int) * (8 + (k : Int)) = ((64 * (8 + k) : Nat) : Int) by omega]
 refine LD.out.mono ?_
 rintro e w9 ⟨vv, rfl, h9⟩
 have H9 := Lib.hid h9
 clear h9 LD
 go_wp2_with fail
 refine (Z6 w9).mono ?_
 rintro e w10 ⟨rfl, hb⟩
 have H10 := Lib.hid (H9.out.below hb)
 clear hb H9
 go_wp2_with fail
 refine (zkj w10 vv _ b (H10.out.get (List.mem_cons_self ..)) (SlRd.below HB.out.1 H10.out.bel) (by rw [HB.out.2]; omega)).mono ?_
 rintro e w11 ⟨rfl, hb⟩
 have H11 := Lib.hid (H10.out.below hb).bel
 clear hb H10
 go_wp2_with fail
 go_ret
 exact ⟨rfl, H11.out⟩
theorem zd1 (vb : Value) (b : List UInt8) (p : Int) (w : World) (hb : SlRd w 1 vb b.length (b.flatMap byL)) (_ : ∀ x ∈ b, AnyB x) (hp : (Lit.int .u8 p).wf = true) :
  Calls Tryz.prog 12 #[vb, .int .u8 p] w fun e w' => e = .returned (.bool true) ∧ Below w.heap.size w w' := by
 have hp0 : 0 ≤ p ∧ p ≤ 255 := by simp [Lit.wf] at hp; exact ⟨hp.1, hp.2⟩
 obtain ⟨p, rfl⟩ := Int.eq_ofNat_of_zero_le hp0.1
 by_cases hok : b.length ≤ 64 ∧ b.length ≠ 0
 ·exact zcp vb b p (by omega) w (BRd.of_law hb) hok
 ·obtain ⟨aa, ac, rfl, h1, h2⟩ := SlRd.form hb
  obtain ⟨n, hn⟩ : ∃ n, n = b.length := ⟨_, rfl⟩
  rw [← hn] at hok h1 ⊢
  have hc1 : n ≤ maxLen := by omega
  have hs : (n = 0) ∨ (n ≠ 0 ∧ 64 < n) := by omega
  clear hb hn hok hp hp0
  rcases hs with rfl | ⟨h5, h6⟩
  ·go_enter Tryz.func12, Tryz.ntmps12
   go_wp2_with fail
   refine (Z6 w).mono ?_
   rintro e w1 ⟨rfl, hb⟩
   have HB := Lib.hid hb
   clear hb
   go_wp2_with fail
   go_ret
   exact ⟨rfl, HB.out⟩
  ·have e1 : ¬ ((n : Int) = 0) := by omega
   have e2 : ((n : Int) == 0) = false := beq_eq_false_iff_ne.2 e1
   have e3 : (64 : Int) < n := by omega
   go_enter Tryz.func12, Tryz.ntmps12
   go_wp2_with fail
   refine (Z6 w).mono ?_
   rintro e w1 ⟨rfl, hb⟩
   have HB := Lib.hid hb
   clear hb
   go_wp2_with fail
   go_ret
   exact ⟨rfl, HB.out⟩
end Go.Proofs.YtnhdmnijiphjjaaGreat
