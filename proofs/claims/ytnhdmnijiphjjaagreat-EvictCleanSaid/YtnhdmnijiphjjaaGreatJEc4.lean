/- Trees of tables in memory: the tables on the way to a page: what way answers. -/
import Derived.Test.YtnhdmnijiphjjaaGreatJEc3
import Derived.Deep.RegionHeld
import Derived.Test.YtnhdmnijiphjjaaGreatJEc2
set_option linter.unusedVariables false
set_option linter.unusedSimpArgs false
set_option maxRecDepth 100000
set_option maxHeartbeats 2000000
namespace Go.Proofs.YtnhdmnijiphjjaaGreat
open Go Go.RowKit
def iV (n : Int) : Value := .int .i64 n
def wayF (N : List Nat → Option Nat) (page j : Nat) : List Int := (List.range (j + 1)).map fun m => (((N ((high page).take m)).getD 0 : Nat) : Int)
theorem zaq (N : List Nat → Option Nat) (page j : Nat) : (wayF N page j).length = j + 1 := by simp [wayF]
theorem zgp (N : List Nat → Option Nat) (page j : Nat) : wayF N page (j + 1) = wayF N page j ++ [(((N ((high page).take (j + 1))).getD 0 : Nat) : Int)] := by
 unfold wayF
 rw [List.range_succ, List.map_append]
 rfl
theorem zgq (N : List Nat → Option Nat) (page j : Nat) : (wayF N page j)[j]? = some (((N ((high page).take j)).getD 0 : Nat) : Int) := by
 simp [wayF]
theorem zeb {N : List Nat → Option Nat} {r page j : Nat} (hr : N [] = some r) (hj : j ≤ 3) (h : ∀ m, m ≤ j → (N ((high page).take m)).isSome = true) (he : j = 3 ∨ N ((high page).take (j + 1)) = none) : wayF N page j = wayN N r page := by
 have t0 : (high page).take 0 = [] := rfl
 have t1 : (high page).take 1 = [digit page 0] := rfl
 have t2 : (high page).take 2 = [digit page 0, digit page 1] := rfl
 have t3 : (high page).take 3 = [digit page 0, digit page 1, digit page 2] := rfl
 have : j = 0 ∨ j = 1 ∨ j = 2 ∨ j = 3 := by omega
 unfold wayN
 rcases this with rfl | rfl | rfl | rfl
 ·have e1 : N [digit page 0] = none := by rcases he with he | he; omega; rw [← t1]; exact he
  rw [e1]
  simp [wayF, hr]
 ·obtain ⟨f1, e1⟩ := Option.isSome_iff_exists.1 (h 1 (by omega))
  rw [t1] at e1
  have e2 : N [digit page 0, digit page 1] = none := by rcases he with he | he; omega; rw [← t2]; exact he
  rw [e1, e2]
  simp [wayF, List.range_succ, hr, t1, e1]
 ·obtain ⟨f1, e1⟩ := Option.isSome_iff_exists.1 (h 1 (by omega))
  rw [t1] at e1
  obtain ⟨f2, e2⟩ := Option.isSome_iff_exists.1 (h 2 (by omega))
  rw [t2] at e2
  have e3 : N [digit page 0, digit page 1, digit page 2] = none := by rcases he with he | he; omega; rw [← t3]; exact he
  rw [e1, e2, e3]
  simp [wayF, List.range_succ, hr, t1, e1, t2, e2]
 ·obtain ⟨f1, e1⟩ := Option.isSome_iff_exists.1 (h 1 (by omega))
  rw [t1] at e1
  obtain ⟨f2, e2⟩ := Option.isSome_iff_exists.1 (h 2 (by omega))
  rw [t2] at e2
  obtain ⟨f3, e3⟩ := Option.isSome_iff_exists.1 (h 3 (by omega))
  rw [t3] at e3
  rw [e1, e2, e3]
  simp [wayF, List.range_succ, hr, t1, e1, t2, e2, t3, e3]
def WayRel (w : World) (N : List Nat → Option Nat) (page db : Nat) (s6 s21 : Value) (W : World) : Prop :=
 ∃ j : Nat, j ≤ 3 ∧ s21 = .int .i64 j ∧ ∃ a c, s6 = .slice a (j + 1) c ∧ Hid (SlAt W 3 1 s6 (j + 1) ((wayF N page j).map iV) ∧ (∀ b, s6.ownBlock = some b → w.heap.size ≤ b ∧ b ≠ db)) ∧
  Hid (∀ m, m ≤ j → (N ((high page).take m)).isSome = true) ∧ Hid (Row W db 4 (fun i => .int .i64 (digit page i)) ∧ Below w.heap.size w W)
section
variable (w : World) (tag : Nat → Nat) (q : Rq) (x : RPT) (N : List Nat → Option Nat)
theorem zd9 (h : y9 w tag q x) (ok : x8 x.R x.T N) (pi : Int) (page : Nat) (ep : pi = page) (hpg : page < 4096) :
  Calls Tryz.prog 92 #[.pointer (some ⟨q.t, 0, none⟩), .int .i64 pi] w fun e w' => ∃ v, e = .returned (.tuple #[v, .int .i64 0]) ∧
   SlAt w' 3 1 v (wayN N x.T.root page).length ((wayN N x.T.root page).map iV) ∧ (∀ b, v.ownBlock = some b → w.heap.size ≤ b) ∧ Below w.heap.size w w' := by
 subst ep
 have hp := h.ptr2
 have H := Lib.hid h
 have OK := Lib.hid ok
 have HI := Lib.hid zdt
 clear h ok
 go_enter Tryz.func92, Tryz.ntmps92
 go_wp2_with fail
 refine (jv _ page page rfl hpg).mono ?_
 rintro e w1 ⟨rfl, hb1⟩
 have hB1 : Below w.heap.size w w1 := ((Below.refl _ _).alloc (Nat.le_refl _) _).trans (hb1.mono (by simp))
 have hsz : w.heap.size < w1.heap.size := by have := hb1.size; simp at this; omega
 have c0 : w1.cell? ⟨w.heap.size, 0, none⟩ = some (.int .i64 x.T.root) := (hb1.cell (p := ⟨w.heap.size, 0, none⟩) (by simp)).trans (by go_simp)
 have HB1 := Lib.hid hB1
 have s1 : Hid (SlAt w1 3 1 (.slice (some ⟨w.heap.size, 0, none⟩) 1 1) 1 [.int .i64 x.T.root]) := ⟨by simp, .inr ⟨w.heap.size, 0, 1, #[.int .i64 x.T.root], rfl, (hb1.block w.heap.size (by simp)).trans (heap_alloc_new w _), Nat.le_refl _, by unfold maxLen; omega, by simp, fun j u hu => by simpa using hu⟩⟩
 clear hb1 hB1
 unfold digV
 go_wp2_with fail
 go_loopw [6, 21] (WayRel w N page w1.heap.size) (fun _ k _ => 3 - (intOf k).toNat)
 case atStart =>
  have hb2 : Below w1.heap.size w1 (w1.alloc (.cells #[.int .i64 (digit page 0), .int .i64 (digit page 1), .int .i64 (digit page 2), .int .i64 (digit page 3)] 148 (0, 0))) := (Below.refl _ _).alloc (Nat.le_refl _) _
  refine ⟨0, by omega, rfl, _, _, rfl, ⟨?_, fun b hb => by simp [Value.ownBlock] at hb; omega⟩, ?_, ?_, HB1.out.trans (hb2.mono HB1.out.size)⟩
  ·have e : (wayF N page 0).map iV = [.int .i64 x.T.root] := by simp [wayF, OK.out.root, iV]
   rw [e]
   exact s1.out.below hb2
  ·intro m hm
   obtain rfl : m = 0 := by omega
   simp [OK.out.root]
  ·exact Row.new w1 4 (fun i => .int .i64 (digit page i)) _ 148 rfl (fun i hi => by
    have : i = 0 ∨ i = 1 ∨ i = 2 ∨ i = 3 := by omega
    rcases this with rfl | rfl | rfl | rfl <;> rfl)
 case round =>
  obtain ⟨j, hj, rfl, a, c, rfl, hS, hN, hR⟩ := hrel
  by_cases hlt : j < 3
  ·have i1 : (j : Int) < 3 := by omega
   have i2 : (0 : Int) ≤ j := by omega
   obtain ⟨f, hf⟩ := Option.isSome_iff_exists.1 (hN.out j (Nat.le_refl _))
   have hfl := OK.out.lt _ _ hf
   obtain ⟨b, off, c', ev, _, hbl, hx⟩ := SlAt.cells hS.out.1 (by simp [zaq])
   cases ev
   have cl : wr.cell? ⟨b, off + j, none⟩ = some (.int .i64 f) := (hx j _ (by rw [List.getElem?_map, zgq, hf]; rfl)).1
   have cd : wr.cell? ⟨w1.heap.size, j, none⟩ = some (.int .i64 (digit page j)) := hR.out.1.cell (by omega)
   have i3 : ((j : Int) + 1 - 1) = j := by omega
   have G := Lib.hid (U1 wr tag q x (H.out.below hR.out.2) f (digit page j) f (digit page j) rfl rfl hfl.1 hfl.2.1 (z8 _ _))
   have hkid := OK.out.kid _ f _ hf (by simp [high]; omega) (z8 page j)
   rw [xw page j hlt] at hkid
   clear hx
   cases hnx : N ((high page).take (j + 1)) with
   | none =>
    rw [hnx] at hkid
    try simp only at hkid
    rw [hkid] at G
    have fin : Hid (wayF N page j = wayN N x.T.root page) := zeb OK.out.root hj hN.out (.inr hnx)
    clear hkid hnx hf
    go_wp2_with fail
    refine G.out.mono ?_
    rintro e w3 ⟨rfl, hb3⟩
    have HB3 := Lib.hid hb3
    clear hb3
    go_wp2_with fail
    refine bodyPost_ret (v := .tuple #[.slice (some ⟨b, off, none⟩) (j + 1) c, .int .i64 0]) (by simp [results, Tryz.results92, go_sem]) rfl ⟨_, rfl, ?_, fun b hb => (hS.out.2 b hb).1, hR.out.2.trans (HB3.out.mono hR.out.2.size)⟩
    rw [← fin.out, zaq]
    exact hS.out.1.below HB3.out
   | some g =>
    rw [hnx] at hkid
    try simp only at hkid
    have hgl := OK.out.lt _ _ hnx
    obtain ⟨n, hn⟩ : ∃ n, n = g + 1 := ⟨_, rfl⟩
    rw [← hn] at hkid
    rw [hkid] at G
    have n1 : ((n : Int) == 0) = false := beq_eq_false_iff_ne.2 (by omega)
    have n2 : (0 : Int) ≤ n := by omega
    have n3 : (n : Int) ≤ 1024 := by omega
    have n4 : (0 : Int) ≤ (n : Int) - 1 := by omega
    have HN := Lib.hid hn
    have HNX := Lib.hid hnx
    clear hkid hnx hf hn
    obtain ⟨inf, hI⟩ := HI.out
    have HI2 := Lib.hid hI
    clear hI
    go_wp2_with fail
    refine G.out.mono ?_
    rintro e w3 ⟨rfl, hb3⟩
    have hs0 : Hid (SlAt (w3.alloc (.cells #[.int .i64 ((n : Int) - 1)] 3)) 3 1 (.slice (some ⟨b, off, none⟩) (j + 1) c) (j + 1) ((wayF N page j).map iV)) := (SlAt.below hS.out.1 hb3).below ((Below.refl _ _).alloc (Nat.le_refl _) _)
    have C2 : Hid (∀ i u, [iV ((n : Int) - 1)][i]? = some u → (w3.alloc (.cells #[.int .i64 ((n : Int) - 1)] 3)).cell? ((⟨w3.heap.size, 0, none⟩ : Addr).add i) = some u) := fun i u hu => by
     have : i = 0 := by have := (List.getElem?_eq_some_iff.1 hu).1; simp at this; omega
     subst this
     simp at hu
     subst hu
     rw [add_plain, cell_of_row _ _ _ _ _ _ (heap_alloc_new w3 (.cells #[.int .i64 ((n : Int) - 1)] 3))]
     rfl
    have HB3 := Lib.hid hb3
    clear hb3
    go_wp2_with (at_builtin; refine vg _ rfl _ _ 79 rfl 3 inf _ 1 8 Tryz.underlying79 HI2.out.1 HI2.out.2.1 HI2.out.2.2.1 HI2.out.2.2.2 rfl _ _ _ rfl hs0.out ⟨w3.heap.size, 0, none⟩ 1 1 [iV ((n : Int) - 1)] rfl rfl C2.out ?c3 ?c4 ?c5 ?c6)
    case c3 => intro u hu; simp at hu; subst hu; rfl
    case c4 => unfold maxLen; omega
    case c5 => omega
    intro v' w4 hs hgr ho
    have hb4 : Below w.heap.size w w4 := by
     have h1 := hR.out.2.trans (HB3.out.mono hR.out.2.size)
     have h2 := h1.trans (((Below.refl w3.heap.size w3).alloc (Nat.le_refl _) (.cells #[.int .i64 ((n : Int) - 1)] 3 (0, 0))).mono h1.size)
     exact h2.grown hgr h2.size (fun k hk => (hS.out.2 k hk).1)
    have hrow : Row w4 w1.heap.size 4 (fun i => .int .i64 (digit page i)) := by
     have h1 := (hR.out.1.below HB3.out).alloc (.cells #[.int .i64 ((n : Int) - 1)] 3 (0, 0))
     exact h1.keep (hgr.block _ h1.lt (fun e => (hS.out.2 _ e.symm).2 rfl))
    have hown : ∀ b', v'.ownBlock = some b' → w.heap.size ≤ b' ∧ b' ≠ w1.heap.size := fun b' hb' => by
     rcases ho with e | e
     ·exact hS.out.2 b' (e ▸ hb')
     ·rw [e] at hb'
      cases hb'
      have l1 := hR.out.1.lt
      have l2 := HB3.out.size
      have l3 := hR.out.2.size
      try simp only [World.size_alloc]
      omega
    have hs' : SlAt w4 3 1 v' (j + 1 + 1) ((wayF N page (j + 1)).map iV) := by
     rw [zgp, List.map_append, HNX.out]
     have e : [(((some g).getD 0 : Nat) : Int)].map iV = [iV ((n : Int) - 1)] := by
      simp only [List.map_cons, List.map_nil, Option.getD_some]
      rw [show ((n : Int) - 1) = g by have := HN.out; omega]
     rw [e]
     exact hs
    have hsome : ∀ m, m ≤ j + 1 → (N ((high page).take m)).isSome = true := fun m hm => by
     by_cases e : m = j + 1
     ·rw [e, HNX.out]; rfl
     ·exact hN.out m (by omega)
    obtain ⟨a', c2, rfl, _, _⟩ := SlAt.form hs'
    have FIN := Lib.hid (And.intro hs' (And.intro hown (And.intro hsome (And.intro hrow hb4))))
    clear hs hgr ho hb4 hrow hown hs' hsome
    go_wp2_with fail
    go_roundw
    case rel => exact ⟨j + 1, by omega, by go_num, _, _, rfl, ⟨FIN.out.1, FIN.out.2.1⟩, FIN.out.2.2.1, FIN.out.2.2.2⟩
    case measure => simp [intOf]; omega
  ·obtain rfl : j = 3 := by omega
   have fin : Hid (wayF N page 3 = wayN N x.T.root page) := zeb OK.out.root (Nat.le_refl _) hN.out (.inl rfl)
   go_wp2_with fail
   refine bodyPost_ret (v := .tuple #[.slice a (3 + 1) c, .int .i64 0]) (by simp [results, Tryz.results92, go_sem]) rfl ⟨_, rfl, ?_, fun b hb => (hS.out.2 b hb).1, hR.out.2⟩
   rw [← fin.out, zaq]
   exact hS.out.1
end
theorem zea {R : RamS} {T : Zn} {N : List Nat → Option Nat} (ok : x8 R T N) (page : Nat) : (wayN N T.root page).length ≤ 4 ∧ ((wayN N T.root page).length = 4 ↔ (N (high page)).isSome = true) :=
 ⟨(V3 ok page).2.1, (V3 ok page).2.2.2.2⟩
theorem zcd (page : Nat) (W : World) : (Instr.index 148 (.agg #[.int .i64 (digit page 0), .int .i64 (digit page 1), .int .i64 (digit page 2), .int .i64 (digit page 3)]) (.int .i64 3)).run Tryz.prog W = .ok (.int .i64 (digit page 3)) W := by
 have z := Tryz.sizeOf3
 have a := Tryz.isAgg3
 simp [Instr.index, run_underlying Tryz.underlying148, asIntOf, part, z, a]
section
variable (w : World) (tag : Nat → Nat) (q : Rq) (x : RPT) (N : List Nat → Option Nat)
theorem Xj (h : y9 w tag q x) (ok : x8 x.R x.T N) (pi : Int) (page : Nat) (ep : pi = page) (hpg : page < 4096) :
  Calls Tryz.prog 35 #[.pointer (some ⟨q.t, 0, none⟩), .int .i64 pi] w fun e w' => e = .returned (.tuple #[entV (mapOf x.R N page), .int .i64 0]) ∧ Below w.heap.size w w' := by
 subst ep
 have H := Lib.hid h
 have OK := Lib.hid ok
 have hlen := zea ok page
 have i0 : (0 : Int) ≤ page := by omega
 have i1 : (page : Int) < 4096 := by omega
 clear h ok
 have hb0 : ∀ T, Below w.heap.size w (w.alloc (.cells #[.int .i64 0, .int .i64 0, .bool false] T (0, 0))) := fun T => (Below.refl _ _).alloc (Nat.le_refl _) _
 have HB0 := Lib.hid hb0
 clear hb0
 go_enter Tryz.func35, Tryz.ntmps35
 go_wp2_with fail
 refine (zhg _ tag q x (H.out.below (HB0.out _)) page i0 i1 OK.out.own_ne).mono ?_
 rintro e w1 ⟨rfl, hw1⟩
 have hW1 := Lib.hid hw1
 have H1 : Hid (y9 w1 tag q x) := by rw [hw1]; exact H.out.below (HB0.out _)
 have hb1 : Below w.heap.size w w1 := by rw [hw1]; exact HB0.out _
 have r1 : Row w1 w.heap.size 3 (fun i => if i = 2 then .bool false else .int .i64 0) := by
  rw [hw1]
  exact Row.new w 3 _ _ _ rfl (fun i hi => by
   have : i = 0 ∨ i = 1 ∨ i = 2 := by omega
   rcases this with rfl | rfl | rfl <;> rfl)
 have hsz : w1.heap.size = w.heap.size + 1 := by rw [hw1]; simp
 clear hw1 hW1
 have HB1 := Lib.hid (And.intro hb1 (And.intro r1 hsz))
 clear hb1 r1 hsz
 go_wp2_with fail
 refine (zd9 w1 tag q x N H1.out OK.out page page rfl hpg).mono ?_
 rintro e w2 ⟨v, rfl, hs, ho, hb2⟩
 generalize hl : wayN N x.T.root page = L at *
 obtain ⟨a, c, rfl, _, _⟩ := SlAt.form hs
 have r2 := HB1.out.2.1.below hb2
 have HS := Lib.hid (And.intro hs (And.intro ho hb2))
 have HL := Lib.hid hl
 have d0 : w2.cell? ⟨w.heap.size, 0, none⟩ = some (.int .i64 0) := r2.cell (i := 0) (by omega)
 have d1 : w2.cell? ⟨w.heap.size, 1, none⟩ = some (.int .i64 0) := r2.cell (i := 1) (by omega)
 have d2 : w2.cell? ⟨w.heap.size, 2, none⟩ = some (.bool false) := r2.cell (i := 2) (by omega)
 have f0 := r2.frozen 0
 have f1 := r2.frozen 1
 have f2 := r2.frozen 2
 clear hs ho hb2 hl r2
 generalize hn : L.length = n at *
 have HN := Lib.hid hn
 clear hn
 by_cases h4 : n = 4
 ·obtain ⟨f, hf⟩ := Option.isSome_iff_exists.1 (hlen.2.1 h4)
  subst h4
  clear hlen
  obtain ⟨b, off, c', ev, _, hbl, hx⟩ := SlAt.cells HS.out.1 (by simp [HN.out])
  cases ev
  have hl3 : L[3]? = some (f : Int) := by
   have hw := (V3 OK.out page).2.2.1
   rw [HL.out, HN.out] at hw
   obtain ⟨f', e1, e2⟩ := hw 3 (by omega)
   have e3 : N (high page) = some f' := e1
   rw [hf] at e3
   cases e3
   rw [List.getD_eq_getElem?_getD] at e2
   rw [List.getElem?_eq_getElem (by rw [HN.out]; omega)] at e2 ⊢
   simpa using e2
  have cl : w2.cell? ⟨b, off + 3, none⟩ = some (.int .i64 f) := (hx 3 _ (by rw [List.getElem?_map, hl3]; rfl)).1
  have hfl := OK.out.lt _ _ hf
  obtain ⟨en, he, hw⟩ := OK.out.leaf _ f (digit page 3) hf (by simp [high]) (z8 page 3)
  have hmap : Hid (mapOf x.R N page = en) := by
   show _ = _
   unfold mapOf
   rw [hf]
   show (zia (wordAt x.R f (digit page 3))).1 = en
   rw [hw, Y2 he]
  have hc3 : w2.cell? ⟨b, off + 3, none⟩ = some (.int .i64 f) := cl
  have DG := Lib.hid (fun W' => jv W' page page rfl hpg)
  have H2 := Lib.hid (H1.out.below HS.out.2.2)
  have DE := Lib.hid (fun W' => zja W' en he en.num rfl)
  have GT := Lib.hid (fun W' (hb' : Below w2.heap.size w2 W') => U1 W' tag q x (H2.out.below hb') f (digit page 3) f (digit page 3) rfl rfl hfl.1 hfl.2.1 (z8 _ _))
  have HW := Lib.hid hw
  clear hx hl3 hw he hf
  have hidx := zcd page
  have hwb : w.heap.size < w2.heap.size := World.block_lt_of_cell? _ _ d0
  go_wp2_with fail
  obtain ⟨W, hW⟩ : ∃ W, W = w2.drew := ⟨_, rfl⟩
  have hdW : w2.drew = W := hW.symm
  have q0 : W.cell? ⟨b, off + 3, none⟩ = some (.int .i64 f) := by rw [hW]; exact cl
  have HBW : Hid (Below w2.heap.size w2 W ∧ W.heap.size = w2.heap.size) := by rw [hW]; exact ⟨(Below.refl _ _).drew, rfl⟩
  clear hW
  unfold digV at DG
  go_region_held (fun W' => W'.cell? ⟨b, off + 3, none⟩ = some (.int .i64 f)) (go_keep)
   (first
    | (go_at_call 94; refine (DG.out _).mono ?_; rintro e w5 ⟨rfl, hb5⟩; have q0' := (hb5.cell (World.block_lt_of_cell? _ _ q0)).trans q0; have HB5 := Lib.hid (HBW.out.1.trans (hb5.mono HBW.out.1.size)); clear hb5)
    | (go_at_call 93; refine (GT.out _ HB5.out).mono ?_; rw [HW.out]; rintro e w6 ⟨rfl, hb6⟩; have q0'' := (hb6.cell (World.block_lt_of_cell? _ _ q0')).trans q0'; have HB6 := Lib.hid (HB5.out.trans (hb6.mono HB5.out.size)); clear hb6))
  have e0 := (HB6.out.cell hwb).trans d0
  have e1 := (HB6.out.cell (p := ⟨w.heap.size, 1, none⟩) hwb).trans d1
  have e2 := (HB6.out.cell (p := ⟨w.heap.size, 2, none⟩) hwb).trans d2
  have g0 := (HB6.out.frozen (p := ⟨w.heap.size, 0, none⟩) hwb).trans f0
  have g1 := (HB6.out.frozen (p := ⟨w.heap.size, 1, none⟩) hwb).trans f1
  have g2 := (HB6.out.frozen (p := ⟨w.heap.size, 2, none⟩) hwb).trans f2
  have HB := Lib.hid (HB1.out.1.trans ((HS.out.2.2.trans (HB6.out.mono HS.out.2.2.size)).mono HB1.out.1.size))
  clear d0 d1 d2 f0 f1 f2 q0 q0' q0'' cl hc3
  go_wp2_with fail
  refine (DE.out _).mono ?_
  rintro e w7 ⟨rfl, hb7⟩
  have hw6 : w.heap.size < w6.heap.size := World.block_lt_of_cell? _ _ e0
  have d0 := (hb7.cell hw6).trans e0
  have d1 := (hb7.cell (p := ⟨w.heap.size, 1, none⟩) hw6).trans e1
  have d2 := (hb7.cell (p := ⟨w.heap.size, 2, none⟩) hw6).trans e2
  have f0 := (hb7.frozen (p := ⟨w.heap.size, 0, none⟩) hw6).trans g0
  have f1 := (hb7.frozen (p := ⟨w.heap.size, 1, none⟩) hw6).trans g1
  have f2 := (hb7.frozen (p := ⟨w.heap.size, 2, none⟩) hw6).trans g2
  have HB7 := Lib.hid (HB.out.trans (hb7.mono HB.out.size))
  clear hb7 e0 e1 e2 g0 g1 g2
  unfold entV
  go_wp2_with fail
  rw [hmap.out]
  exact bodyPost_ret (v := .tuple #[entV en, .int .i64 0]) (by simp [results, Tryz.results35, go_sem, entV, d0, d1, d2, f0, f1, f2]) rfl ⟨rfl, ((HB7.out.setCell (Nat.le_refl _) _).setCell (Nat.le_refl _) _).setCell (Nat.le_refl _) _⟩
 ·have i2 : n < 4 := by omega
  have i3 : (n : Int) < 4 := by omega
  have hnone : N (high page) = none := by
   cases e : N (high page) with
   | none => rfl
   | some f => rw [e] at hlen; simp at hlen; omega
  have hm : Hid (mapOf x.R N page = Ent.none) := by show _ = _; unfold mapOf; rw [hnone]
  clear hlen hnone h4
  go_wp2_with fail
  rw [hm.out]
  exact bodyPost_ret (v := .tuple #[entV Ent.none, .int .i64 0]) (by simp [results, Tryz.results35, go_sem, entV, Ent.none, d0, d1, d2, f0, f1, f2]) rfl ⟨rfl, (((HB1.out.1.trans (HS.out.2.2.mono HB1.out.1.size)).setCell (Nat.le_refl _) _).setCell (Nat.le_refl _) _).setCell (Nat.le_refl _) _⟩
end
theorem Ve : ∀ (n : Nat) (l : List Nat), l.Nodup → (∀ f ∈ l, f < n) → l.length ≤ n
 | 0, l, _, h => by
  cases l with
  | nil => simp
  | cons a l => have := h a (by simp); omega
 | n + 1, l, hn, h => by
  have h1 := Ve n (l.erase n) (hn.erase n) (fun f hf => by
   have := (hn.mem_erase_iff).1 hf
   have := h f this.2
   omega)
  have h2 := List.length_erase (a := n) (l := l)
  split at h2 <;> omega
theorem xe.zhb {x : RPT} {N : List Nat → Option Nat} (h : xe x N) : x.T.own.length ≤ 1024 := by
 refine Ve 1024 x.T.own h.tree.nd fun f hf => ?_
 obtain ⟨p, hp⟩ := (h.tree.own f).1 hf
 exact (h.tree.lt p f hp).1
theorem xe.prune1 {x : RPT} {N : List Nat → Option Nat} (h : xe x N) (page : Nat) (list : List Int) (k : Nat) (hk : k < 3) (hw : Xv N page list (k + 1)) {f g : Nat} (hf : N ((high page).take k) = some f) (hg : N ((high page).take (k + 1)) = some g)
  (he : Y3 x.R g = true) :
  ∃ N', RPT.uu page list (k + 1) x = RPT.uu page list k ⟨x.R.write f (8 * digit page k) (leBytes 0 8), x.P.set g 1, ⟨x.T.root, x.T.own.filter fun (a : Nat) => decide ((a : Int) ≠ (g : Int))⟩⟩ ∧
   xe ⟨x.R.write f (8 * digit page k) (leBytes 0 8), x.P.set g 1, ⟨x.T.root, x.T.own.filter fun (a : Nat) => decide ((a : Int) ≠ (g : Int))⟩⟩ N' ∧ Xv N' page list k ∧ g ∈ x.T.own ∧ x.P.use g = 2 ∧ g < 1024 ∧ f < 1024 ∧ x.R.bad f = false := by
 obtain ⟨g', hg', eg⟩ := hw (k + 1) (Nat.le_refl _)
 obtain ⟨f', hf', ef⟩ := hw k (by omega)
 rw [hf] at hf'
 rw [hg] at hg'
 cases hf'
 cases hg'
 have qg := h.tree.lt _ _ hg
 have qf := h.tree.lt _ _ hf
 have he' := he
 rw [Qv qg.1 qg.2.1] at he
 have hgo : g ∈ x.T.own := (h.tree.own g).2 ⟨_, hg⟩
 have hfo : f ∈ x.T.own := (h.tree.own f).2 ⟨_, hf⟩
 rw [← xw page k (by omega)] at hg
 have hd := z8 page k
 have c1 := h.tree.cut1 hf hd hg he
 have hfg : f ≠ g := fun e => by
  subst e
  have := congrArg List.length (h.tree.inj _ _ _ hf hg)
  simp at this
 have hu : x.P.used g = true := by
  unfold zm.used
  rw [decide_eq_true_eq, Int.toNat_natCast, h.tab g hgo]
  omega
 have st : jw x ⟨x.R.write f (8 * digit page k) (leBytes 0 8), x.P.set g 1, ⟨x.T.root, x.T.own.filter fun (a : Nat) => decide ((a : Int) ≠ (g : Int))⟩⟩ := by
  refine ⟨rfl, rfl, fun a i h1 h2 => ?_, fun a => ?_, rfl, rfl, fun a ha => ?_⟩
  ·show (x.R.write f (8 * digit page k) (leBytes 0 8)).b a i = _
   rw [uk, if_neg]
   rintro ⟨rfl, _⟩
   exact h2 hfo
  ·show (if a = g then 1 else x.P.use a) = _
   simp only [List.mem_filter, decide_eq_true_eq]
   by_cases e : a = g
   ·subst e
    simp [hgo]
   ·rw [if_neg e]
    by_cases e2 : a ∈ x.T.own
    ·rw [if_pos ⟨e2, by omega⟩]; exact h.tab a e2
    ·rw [if_neg (fun e => e2 e.1), if_neg e2]
  ·exact .inl (List.mem_filter.1 ha).1
 refine ⟨_, ?_, h.step st c1, fun m hm => ?_, hgo, h.tab g hgo, qg.1, qf.1, qf.2.1⟩
 ·conv => lhs; unfold RPT.uu
  rw [eg, ef, if_pos he']
  have e2 : x.drop g = ⟨x.R, x.P.set g 1, ⟨x.T.root, x.T.own.filter fun (a : Nat) => decide ((a : Int) ≠ (g : Int))⟩⟩ := by
   unfold RPT.drop zm.free
   rw [if_pos hu, Int.toNat_natCast]
  rw [e2]
  try simp only
  rw [V5 qf.1 qf.2.1 hd]
 ·obtain ⟨a, ha, ea⟩ := hw m (by omega)
  refine ⟨a, ?_, ea⟩
  refine (if_neg ?_).trans ha
  rw [xw page k (by omega)]
  intro e
  have := congrArg List.length e
  simp [high] at this
  omega
theorem xe.prune0 {x : RPT} {N : List Nat → Option Nat} (_h : xe x N) (page : Nat) (list : List Int) (k : Nat) (hw : Xv N page list (k + 1)) {g : Nat} (hg : N ((high page).take (k + 1)) = some g) (he : Y3 x.R g = false) :
  RPT.uu page list (k + 1) x = x := by
 obtain ⟨g', hg', eg⟩ := hw (k + 1) (Nat.le_refl _)
 rw [hg] at hg'
 cases hg'
 unfold RPT.uu
 rw [eg, he]
 simp
abbrev C3 (ct : Nat) : Nat → Prop := fun c => c = 1 ∨ c = 2 ∨ c = ct
theorem y9.anew {w0 w : World} {tag0 tag : Nat → Nat} {q : Rq} {x : RPT} {C : Nat → Prop} (h : y9 w tag q x) (s : Step C tag0 w0 tag w) :
  ∃ tag1, y9 w tag1 q x ∧ Step C tag0 w0 tag1 w ∧ ∀ b, w.heap.size ≤ b → tag1 b = 0 :=
 ⟨retag tag w 0, h.norm, s.trans (X8 C tag w), fun _ hb => Yw hb⟩
def LiAt (w : World) (tag : Nat → Nat) (u : Nat) (v : Value) (l : List Int) : Prop := SlAt w 3 1 v l.length (l.map iV) ∧ ∀ b, v.ownBlock = some b → tag b = u
theorem LiAt.step {w w' : World} {tag tag' : Nat → Nat} {v : Value} {l : List Int} {C : Nat → Prop} {u : Nat} (h : LiAt w tag u v l) (s : Step C tag w tag' w') (hC : ¬ C u) : LiAt w' tag' u v l :=
 ⟨h.1.keep fun b hb => (s.keeps hC b (h.1.lt b hb) (h.2 b hb)).2, fun b hb => (s.keeps hC b (h.1.lt b hb) (h.2 b hb)).1⟩
theorem LiAt.below {w w' : World} {tag : Nat → Nat} {v : Value} {l : List Int} {u : Nat} (h : LiAt w tag u v l) (hb : Below w.heap.size w w') : LiAt w' tag u v l := h.step (C := fun _ => False) (Step.of_below hb) (fun h => h)
theorem LiAt.at {w : World} {tag : Nat → Nat} {v : Value} {l : List Int} {u : Nat} (h : LiAt w tag u v l) {k : Nat} (hk : k < l.length) : ∃ b off c, v = .slice (some ⟨b, off, none⟩) l.length c ∧ ∀ i n, l[i]? = some n → w.cell? ⟨b, off + i, none⟩ = some (.int .i64 n) := by
 obtain ⟨b, off, c, e, _, _, hx⟩ := SlAt.cells h.1 (by simp; omega)
 exact ⟨b, off, c, e, fun i n hn => (hx i (iV n) (by rw [List.getElem?_map, hn]; rfl)).1⟩
theorem row_step {w w' : World} {tag tag' : Nat → Nat} {b n : Nat} {g : Nat → Value} {C : Nat → Prop} (h : Row w b n g) (hb : tag b = 0) (s : Step C tag w tag' w') (hC : ¬ C 0) : Row w' b n g ∧ tag' b = 0 :=
 ⟨h.keep (s.keeps hC b h.lt hb).2, (s.keeps hC b h.lt hb).1⟩
theorem getD_some {l : List Int} {k : Nat} {f : Int} (hk : k < l.length) (h : l.getD k 0 = f) : l[k]? = some f := by
 rw [List.getD_eq_getElem?_getD, List.getElem?_eq_getElem hk] at h
 rw [List.getElem?_eq_getElem hk]
 simpa using h
def zks (w : World) (tag : Nat → Nat) (u : Nat) (q : Rq) (page : Nat) (l : List Int) (v : Value) (db : Nat) (y : RPT) (s7 : Value) (W : World) : Prop :=
 ∃ (k : Nat) (x : RPT) (N : List Nat → Option Nat) (tag' : Nat → Nat), k < l.length ∧ s7 = .int .i64 k ∧
  Hid (RPT.uu page l k x = y ∧ xe x N ∧ Xv N page l k ∧ y9 W tag' q x ∧ Step (C3 q.ct) tag w tag' W ∧ LiAt W tag' u v l ∧ Row W db 4 (fun i => .int .i64 (digit page i)) ∧ tag' db = 0 ∧ ∀ b, W.heap.size ≤ b → tag' b = 0)
section
variable (w : World) (tag : Nat → Nat) (q : Rq) (x : RPT) (N : List Nat → Option Nat)
theorem V6 (h : y9 w tag q x) (ok : xe x N) (page : Nat) (hpg : page < 4096) (l : List Int) (v : Value) (u : Nat) (hu : ¬ C3 q.ct u) (hl : LiAt w tag u v l) (h1 : 1 ≤ l.length) (h4 : l.length ≤ 4) (hw : Xv N page l (l.length - 1)) :
  Calls Tryz.prog 185 #[.pointer (some ⟨q.t, 0, none⟩), .int .i64 page, v] w fun e w' => e = .returned (.tuple #[]) ∧
   ∃ tag', y9 w' tag' q (x.prune page l) ∧ Step (C3 q.ct) tag w tag' w' := by
 obtain ⟨tag0, h, s0, hn0⟩ := h.anew (Step.refl (C3 q.ct) tag w)
 have hl0 := hl.step s0 hu
 obtain ⟨y, hy⟩ : ∃ y, x.prune page l = y := ⟨_, rfl⟩
 obtain ⟨b, off, c, ev, _⟩ := hl0.at (k := 0) (by omega)
 subst ev
 have HY := Lib.hid hy
 have H := Lib.hid (And.intro h (And.intro ok (And.intro s0 (And.intro hl0 (And.intro hn0 hw)))))
 clear h ok s0 hn0 hl0 hw hl hy
 generalize hL : l.length = n at *
 have HL := Lib.hid hL
 have i1 : (1 : Int) ≤ n := by omega
 have i4 : (n : Int) ≤ 4 := by omega
 clear hL
 go_enter Tryz.func185, Tryz.ntmps185
 go_wp2_with fail
 refine (jv _ page page rfl hpg).mono ?_
 rintro e w1 ⟨rfl, hb1⟩
 have HB1 := Lib.hid hb1
 clear hb1
 unfold digV
 go_wp2_with fail
 go_loopw [7] (zks w tag u q page l (.slice (some ⟨b, off, none⟩) n c) w1.heap.size y) (fun k _ => (intOf k).toNat)
 case atStart =>
  have hb2 : Below w.heap.size w (w1.alloc (.cells #[.int .i64 (digit page 0), .int .i64 (digit page 1), .int .i64 (digit page 2), .int .i64 (digit page 3)] 148 (0, 0))) := HB1.out.trans (((Below.refl w1.heap.size w1).alloc (Nat.le_refl _) _).mono HB1.out.size)
  obtain ⟨r1, r2, r3, r4, r5, r6⟩ := H.out
  refine ⟨n - 1, x, N, tag0, by rw [HL.out]; omega, by go_num, ?_, r2, r6, r1.below hb2, r3.trans (Step.of_below hb2), r4.below hb2, ?_, r5 _ HB1.out.size, fun b hb => r5 b (Nat.le_trans hb2.size hb)⟩
  ·have := HY.out
   unfold RPT.prune at this
   rw [HL.out] at this
   exact this
  ·exact Row.new w1 4 (fun i => .int .i64 (digit page i)) _ 148 rfl (fun i hi => by
    have : i = 0 ∨ i = 1 ∨ i = 2 ∨ i = 3 := by omega
    rcases this with rfl | rfl | rfl | rfl <;> rfl)
 case round =>
  obtain ⟨k, z, M, tag1, hk, rfl, hR⟩ := hrel
  by_cases hk0 : k = 0
  ·subst hk0
   go_wp2_with fail
   refine bodyPost_end (v := .tuple #[]) (by simp [results, Tryz.results185, go_sem]) rfl ⟨rfl, tag1, ?_, hR.out.2.2.2.2.1⟩
   rw [HY.out, ← hR.out.1]
   exact hR.out.2.2.2.1
  ·obtain ⟨j, rfl⟩ : ∃ j, k = j + 1 := ⟨k - 1, by omega⟩
   obtain ⟨r1, r2, r3, r4, r5, r6, r7, r8, r9⟩ := hR.out
   obtain ⟨g, hg, eg⟩ := r3 (j + 1) (Nat.le_refl _)
   obtain ⟨f, hf, ef⟩ := r3 j (by omega)
   have qg := r2.tree.lt _ _ hg
   obtain ⟨b', off', c', ev, hcell⟩ := r6.at (k := 0) (by omega)
   rw [HL.out] at ev
   cases ev
   have cg := hcell (j + 1) g (getD_some hk eg)
   have cf := hcell j f (getD_some (by omega) ef)
   have E := Lib.hid (zfz wr tag1 q z r4 g g rfl qg.1 qg.2.1)
   have j1 : (0 : Int) < (j : Int) + 1 := by omega
   have j2 : (j : Int) + 1 < n := by have := HL.out; omega
   have j3 : (0 : Int) ≤ j := by omega
   have j4 : (j : Int) + 1 - 1 = j := by omega
   have j5 : j < 4 := by have := HL.out; omega
   have j6 : j < 3 := by have := HL.out; omega
   have j7 : (j : Int) < 4 := by omega
   cases he : Y3 z.R g with
   | false =>
    have e1 := r2.prune0 page l j r3 hg he
    rw [he] at E
    have FIN : Hid (y9 wr tag1 q y ∧ Step (C3 q.ct) tag w tag1 wr) := by
     rw [← r1, e1]
     exact ⟨r4, r5⟩
    clear r1 r2 r3 r4 r5 r6 r7 r8 r9 hcell hg hf eg ef he e1
    go_wp2_with fail
    refine E.out.mono ?_
    rintro e w3 ⟨rfl, hb3⟩
    have HB3 := Lib.hid hb3
    clear hb3
    go_wp2_with fail
    exact bodyPost_end (v := .tuple #[]) (by simp [results, Tryz.results185, go_sem]) rfl ⟨rfl, tag1, by rw [HY.out]; exact FIN.out.1.below HB3.out, FIN.out.2.trans (Step.of_below HB3.out)⟩
   | true =>
    obtain ⟨M', p1, p2, p3, p4, p5, p6, p7, p8⟩ := r2.prune1 page l j j6 r3 hf hg he
    rw [he] at E
    have hlen := r2.zhb
    have D := Lib.hid (fun W' (hb : Below wr.heap.size wr W') => zib W' tag1 q z (r4.below hb) g g rfl p6 p5 (fun e => by rw [e] at p4; cases p4) (by omega))
    have R := Lib.hid (And.intro r1 (And.intro r4 (And.intro r5 (And.intro r6 (And.intro r7 (And.intro r8 r9))))))
    have PP := Lib.hid (And.intro p1 (And.intro p2 (And.intro p3 (And.intro p7 p8))))
    clear r1 r2 r3 r4 r5 r6 r7 r8 r9 hcell hg hf eg ef he p1 p2 p3 p4 p5 p6 p7 p8 hlen
    go_wp2_with fail
    refine E.out.mono ?_
    rintro e w3 ⟨rfl, hb3⟩
    have cg3 := (hb3.cell (World.block_lt_of_cell? _ _ cg)).trans cg
    have HB3 := Lib.hid hb3
    clear hb3 cg
    go_wp2_with fail
    refine (D.out w3 HB3.out).mono ?_
    rintro e w4 ⟨rfl, tag2, d1, d2⟩
    obtain ⟨tag3, e1, e2, e3⟩ := d1.anew d2
    obtain ⟨r1, r4, r5, r6, r7, r8, r9⟩ := R.out
    have hc0 : ¬ (0 = 2 ∨ 0 = q.ct) := by have := e1.ct; omega
    have hu0 : ¬ (u = 2 ∨ u = q.ct) := fun e => hu (.inr e)
    have L4 := (r6.below HB3.out).step e2 hu0
    have D4 := row_step (r7.below HB3.out) r8 e2 hc0
    have S4 := ((r5.trans (Step.of_below HB3.out)).trans (e2.mono (C' := C3 q.ct) (fun c e => .inr e)))
    have cf4 : w4.cell? ⟨b, off + j, none⟩ = some (.int .i64 f) := by
     have h5 := (HB3.out.cell (World.block_lt_of_cell? _ _ cf)).trans cf
     have hb0 : tag1 b = u := r6.2 b rfl
     exact e2.turn.cell h5 (by show ¬ (tag1 b = 2 ∨ tag1 b = q.ct); rw [hb0]; exact hu0)
    have cd4 : w4.cell? ⟨w1.heap.size, j, none⟩ = some (.int .i64 (digit page j)) := D4.1.cell j5
    have hlb : b < w4.heap.size := World.block_lt_of_cell? _ _ cf4
    have hld : w1.heap.size < w4.heap.size := World.block_lt_of_cell? _ _ cd4
    have F4 := Lib.hid (And.intro e1 (And.intro e3 (And.intro L4 (And.intro D4 (And.intro S4 r1)))))
    obtain ⟨W, hW⟩ : ∃ W, W = w4.drew := ⟨_, rfl⟩
    have hdW : w4.drew = W := hW.symm
    have q0 : W.cell? ⟨b, off + j, none⟩ = some (.int .i64 f) := by rw [hW]; exact cf4
    have q1 : W.cell? ⟨w1.heap.size, j, none⟩ = some (.int .i64 (digit page j)) := by rw [hW]; exact cd4
    have HBW : Hid (Below w4.heap.size w4 W) := by rw [hW]; exact (Below.refl _ _).drew
    have PT := Lib.hid (fun (W' : World) (hb : Below w4.heap.size w4 W') => X7 W' tag3 q _ (F4.out.1.below hb) f (digit page j) 0 f (digit page j) 0 rfl rfl rfl PP.out.2.2.2.1 PP.out.2.2.2.2 (z8 _ _) (by omega))
    clear d1 d2 e1 e2 e3 r1 r4 r5 r6 r7 r8 r9 L4 D4 S4 cf4 cd4 cf cg3 hW
    have j8 : (j : Int) < n := by have := HL.out; omega
    have j9 : IntKind.i64.wrap (j : Int) = j := IntWalk.i64_in _ (by omega)
    have j10 : j < n := by have := HL.out; omega
    go_wp2_with fail
    go_region_held (fun W' => W'.cell? ⟨b, off + j, none⟩ = some (.int .i64 f) ∧ W'.cell? ⟨w1.heap.size, j, none⟩ = some (.int .i64 (digit page j))) (go_keep)
     ((go_at_call 184; refine (PT.out W HBW.out).mono ?_; rintro e w5 ⟨rfl, t1, t2⟩; have T5 := Lib.hid (And.intro t1 t2); have q0' : w5.cell? ⟨b, off + j, none⟩ = some (.int .i64 f) := t2.turn.cell q0 (by show ¬ tag3 b = 1; rw [F4.out.2.2.1.2 b rfl]; exact fun e => hu (.inl e)); have q1' : w5.cell? ⟨w1.heap.size, j, none⟩ = some (.int .i64 (digit page j)) := t2.turn.cell q1 (by show ¬ tag3 w1.heap.size = 1; rw [F4.out.2.2.2.1.2]; decide); clear t1 t2))
    obtain ⟨u1, u2, u3, u4, u5, u6⟩ := F4.out
    obtain ⟨tag4, v1, v2, v3⟩ := T5.out.1.anew T5.out.2
    have hc1 : ¬ (0 = 1) := by decide
    have FIN : Hid (y9 w5 tag4 q _ ∧ Step (C3 q.ct) tag w tag4 w5 ∧ LiAt w5 tag4 u (.slice (some ⟨b, off, none⟩) n c) l ∧ (Row w5 w1.heap.size 4 (fun i => .int .i64 (digit page i)) ∧ tag4 w1.heap.size = 0) ∧ ∀ b, w5.heap.size ≤ b → tag4 b = 0) :=
     ⟨v1, (u5.trans (Step.of_below HBW.out)).trans (v2.mono (fun c e => .inl e)), (u3.below HBW.out).step v2 (fun e => hu (.inl e)), row_step (u4.1.below HBW.out) u4.2 v2 hc1, v3⟩
    have R1 := Lib.hid (PP.out.1.symm.trans u6)
    clear u1 u2 u3 u4 u5 u6 v1 v2 v3 q0 q1 q0' q1'
    go_wp2_with fail
    go_roundw
    case rel => exact ⟨j, _, M', tag4, by omega, rfl, R1.out, PP.out.2.1, PP.out.2.2.1, FIN.out.1, FIN.out.2.1, FIN.out.2.2.1, FIN.out.2.2.2.1.1, FIN.out.2.2.2.1.2, FIN.out.2.2.2.2⟩
    case measure => simp [intOf]
end
def zgd (N : List Nat → Option Nat) (page j : Nat) (list : List Int) : Prop := j ≤ 3 ∧ list.length = 4 - j ∧ Xv N page list (3 - j) ∧ (0 < j → N ((high page).take (4 - j)) = none)
theorem xe.zm8 {x : RPT} {N : List Nat → Option Nat} (_h : xe x N) (page j : Nat) (list : List Int) (hn : x.P.next false = none) : RPT.yh page (j + 1) list x = (([], 4), x.prune page list) := by
 have et : x.table = ((0, 4), x) := by unfold RPT.table; rw [hn]
 unfold RPT.yh
 simp only [et]
 rfl
theorem xe.zj3 {x : RPT} {N : List Nat → Option Nat} (h : xe x N) (page j : Nat) (list : List Int) (hG : zgd N page (j + 1) list) {g : Nat} (hnx : x.P.next false = some g) :
  ∃ (f : Nat) (N' : List Nat → Option Nat), list.getD (2 - j) 0 = (f : Int) ∧ f < 1024 ∧ x.R.bad f = false ∧ g < 1024 ∧ x.R.bad g = false ∧
   RPT.yh page (j + 1) list x = RPT.yh page j (list ++ [(g : Int)]) ⟨(x.R.write g 0 (List.replicate 64 0)).write f (8 * digit page (2 - j)) (leBytes (g + 1) 8), x.P.set g 2, ⟨x.T.root, x.T.own ++ [g]⟩⟩ ∧
   xe ⟨(x.R.write g 0 (List.replicate 64 0)).write f (8 * digit page (2 - j)) (leBytes (g + 1) 8), x.P.set g 2, ⟨x.T.root, x.T.own ++ [g]⟩⟩ N' ∧ zgd N' page j (list ++ [(g : Int)]) := by
 obtain ⟨hj, hl, hw, hn⟩ := hG
 rcases h.table with ⟨et, er⟩ | ⟨g', hnx', hg, hu, hb, ho, ha, et⟩
 ·unfold RPT.table at et
  rw [hnx] at et
  have hg := (Yy hnx)
  have hb := h.good g hg.1 hg.2.2
  have : ramE 1024 x.R (g : Int) 0 64 = 0 := V4 (n := 1024) (R := x.R) (f := g) (a := 0) (k := 64) hg.1 (by omega) hb
  simp only [this, if_true] at et
  have := congrArg (fun r : (Int × Int) × RPT => r.1.2) et
  simp at this
 ·rw [hnx] at hnx'
  cases hnx'
  obtain ⟨f, hf, ef⟩ := hw (3 - (j + 1)) (Nat.le_refl _)
  have qf := h.tree.lt _ _ hf
  have hd := z8 page (3 - (j + 1))
  have hno := hn (by omega)
  have e4 : 4 - (j + 1) = 3 - (j + 1) + 1 := by omega
  rw [e4, ← xw page _ (by omega)] at hno
  have elast : list.getLast?.getD 0 = (f : Int) := by
   rw [List.getLast?_eq_getElem?, hl, ← ef, List.getD_eq_getElem?_getD]
   congr 2
   omega
  have hpl : ((high page).take (3 - (j + 1))).length < 3 := by simp [high]; omega
  have g1 := h.tree.grow1 hf hpl hd hno hg hb ho
  have hfo : f ∈ x.T.own := (h.tree.own f).2 ⟨_, hf⟩
  have hfg : f ≠ g := fun e => ho (e ▸ hfo)
  have st : jw x ⟨(x.R.write g 0 (List.replicate 64 0)).write f (8 * digit page (3 - (j + 1))) (leBytes (g + 1) 8), x.P.set g 2, ⟨x.T.root, x.T.own ++ [g]⟩⟩ := by
   refine ⟨rfl, rfl, fun a i h1 h2 => ?_, fun a => ?_, rfl, rfl, fun a ha => ?_⟩
   ·show ((x.R.write g 0 (List.replicate 64 0)).write f _ _).b a i = _
    rw [uk, if_neg, uk, if_neg]
    ·rintro ⟨rfl, _⟩; exact h1 hu
    ·rintro ⟨rfl, _⟩; exact h2 hfo
   ·show (if a = g then 2 else x.P.use a) = _
    simp only [List.mem_append, List.mem_singleton]
    by_cases e : a = g
    ·simp [e]
    ·by_cases e2 : a ∈ x.T.own
     ·simp [e, e2, h.tab a e2]
     ·simp [e, e2]
   ·rcases List.mem_append.1 ha with ha | ha
    ·exact .inl ha
    ·simp at ha; subst ha; exact .inr hu
  have ok := h.step st g1
  refine ⟨f, _, by rw [show 2 - j = 3 - (j + 1) by omega]; exact ef, qf.1, qf.2.1, hg, hb, ?_, by rw [show 2 - j = 3 - (j + 1) by omega]; exact ok, ⟨by omega, by simp [hl]; omega, fun m hm => ?_, fun hj' => ?_⟩⟩
  ·conv => lhs; unfold RPT.yh
   simp only [et, if_true, elast, Int.toNat_natCast]
   rw [V5 (R := x.R.write g 0 (List.replicate 64 0)) qf.1 (by rw [Xy]; exact qf.2.1) hd, show 2 - j = 3 - (j + 1) by omega]
  ·by_cases em : m = 4 - (j + 1)
   ·refine ⟨g, ?_, ?_⟩
    ·rw [em, e4, ← xw page _ (by omega)]; exact if_pos rfl
    ·rw [List.getD_eq_getElem?_getD, List.getElem?_append_right (by omega), em, hl]; simp
   ·obtain ⟨a, ha, ea⟩ := hw m (by omega)
    refine ⟨a, ?_, ?_⟩
    ·refine (if_neg ?_).trans ha
     rw [xw page _ (by omega)]
     intro e
     have := congrArg List.length e
     simp [high] at this
     omega
    ·rw [List.getD_eq_getElem?_getD, List.getElem?_append_left (by omega), ← List.getD_eq_getElem?_getD]; exact ea
  ·refine (if_neg ?_).trans ?_
   rotate_left
   ·cases e5 : N ((high page).take (4 - j)) with
    | none => rfl
    | some a =>
     rw [show 4 - j = 4 - (j + 1) + 1 by omega, ← xw page _ (by omega)] at e5
     obtain ⟨b, hb⟩ := h.tree.par _ _ _ e5
     rw [e4, ← xw page _ (by omega), hno] at hb
     cases hb
   ·rw [xw page _ (by omega)]
    intro e
    have := congrArg List.length e
    simp [high] at this
    omega
theorem xe.set_eq {x : RPT} {N : List Nat → Option Nat} (h : xe x N) {page : Nat} (hpage : page < 4096) {e : Ent} (he : e.ok = true) :
    x.set page e = if (wayN N x.T.root page).length < 4 then
          if e.num = 0 then (0, x) else
          if (RPT.yh page (4 - (wayN N x.T.root page).length) (wayN N x.T.root page) x).1.2 = 0 then (RPT.yh page (4 - (wayN N x.T.root page).length) (wayN N x.T.root page) x).2.setLast page (RPT.yh page (4 - (wayN N x.T.root page).length) (wayN N x.T.root page) x).1.1 e.num
          else ((RPT.yh page (4 - (wayN N x.T.root page).length) (wayN N x.T.root page) x).1.2, (RPT.yh page (4 - (wayN N x.T.root page).length) (wayN N x.T.root page) x).2)
        else x.setLast page (wayN N x.T.root page) e.num := by
  have hm : x.T.may page = 0 := by
    unfold Zn.may
    rw [if_neg (by omega), if_neg h.tree.own_ne]
  unfold RPT.set
  rw [if_pos hm, if_pos he]
  simp only [Int.toNat_natCast, h.tree.way page]
  rfl
theorem xe.Jv {x : RPT} {N : List Nat → Option Nat} (h : xe x N) (page : Nat) (list : List Int) (hl : list.length = 4) (hw : Xv N page list 3) {e : Ent} (he : e.ok = true) :
  ∃ f N', list.getD 3 0 = ((f : Nat) : Int) ∧ f < 1024 ∧ x.R.bad f = false ∧ xe ⟨x.R.write f (8 * digit page 3) (leBytes e.num 8), x.P, x.T⟩ N' ∧ Xv N' page list 3 ∧
   x.setLast page list e.num = (0, RPT.prune ⟨x.R.write f (8 * digit page 3) (leBytes e.num 8), x.P, x.T⟩ page list) := by
 obtain ⟨f, hf, ef⟩ := hw 3 (Nat.le_refl _)
 have hf' : N (high page) = some f := hf
 have qf := h.tree.lt _ _ hf
 have hfo : f ∈ x.T.own := (h.tree.own f).2 ⟨_, hf⟩
 have c1 := h.tree.zhj hf' (by simp [high]) (z8 page 3) he
 have st : jw x ⟨x.R.write f (8 * digit page 3) (leBytes e.num 8), x.P, x.T⟩ := by
  refine ⟨rfl, rfl, fun a i h1 h2 => ?_, fun a => ?_, rfl, rfl, fun a ha => .inl ha⟩
  ·show (x.R.write f _ _).b a i = _
   rw [uk, if_neg]
   rintro ⟨rfl, _⟩; exact h2 hfo
  ·show x.P.use a = _
   by_cases e2 : a ∈ x.T.own
   ·rw [if_pos e2]; exact h.tab a e2
   ·rw [if_neg e2, if_neg e2]
 refine ⟨f, N, ef, qf.1, qf.2.1, h.step st c1, hw, ?_⟩
 unfold RPT.setLast
 rw [ef, za4 qf.1 qf.2.1 (z8 _ _), V5 qf.1 qf.2.1 (z8 _ _)]
 rfl
theorem xe.zfv {x : RPT} {N : List Nat → Option Nat} (h : xe x N) (page : Nat) (hl : (wayN N x.T.root page).length < 4) : zgd N page (4 - (wayN N x.T.root page).length) (wayN N x.T.root page) := by
 obtain ⟨w1, w2, w3, w4, w5⟩ := V3 h.tree page
 exact ⟨by omega, by omega, by rw [show 3 - (4 - (wayN N x.T.root page).length) = (wayN N x.T.root page).length - 1 by omega]; exact w3, fun _ => by rw [show 4 - (4 - (wayN N x.T.root page).length) = (wayN N x.T.root page).length by omega]; exact w4 hl⟩
theorem xe.grow_end {x : RPT} {N : List Nat → Option Nat} (h : xe x N) (page j : Nat) (list : List Int) (hG : zgd N page j list) :
  (∃ N', (RPT.yh page j list x).1.2 = 0 ∧ (RPT.yh page j list x).1.1.length = 4 ∧ xe (RPT.yh page j list x).2 N' ∧ Xv N' page (RPT.yh page j list x).1.1 3) ∨ (RPT.yh page j list x).1.2 = 4 := by
 rcases h.yh page j list hG.1 hG.2.1 hG.2.2.1 hG.2.2.2 with ⟨l, N', i1, i2, i3, _, i5, _⟩ | ⟨N', i1, _⟩
 ·left
  refine ⟨N', ?_, ?_, i3, ?_⟩
  ·rw [i1]
  ·rw [i1]; exact i2
  ·rw [i1]; exact i5
 ·right
  rw [i1]
abbrev C4 (ct u : Nat) : Nat → Prop := fun c => C3 ct c ∨ c = u
def znw (w : World) (tag : Nat → Nat) (u : Nat) (q : Rq) (page db : Nat) (y : (List Int × Int) × RPT) (s2 s9 : Value) (W : World) : Prop :=
 ∃ (j : Nat) (l : List Int) (x : RPT) (N : List Nat → Option Nat) (tag' : Nat → Nat) (b off c : Nat), j ≤ 3 ∧ l.length = 4 - j ∧ s9 = .int .i64 ((4 - j : Nat) : Int) ∧ s2 = .slice (some ⟨b, off, none⟩) (4 - j) c ∧
  Hid (RPT.yh page j l x = y ∧ xe x N ∧ zgd N page j l ∧ y9 W tag' q x ∧ Step (C4 q.ct u) tag w tag' W ∧ LiAt W tag' u s2 l ∧ Row W db 4 (fun i => .int .i64 (digit page i)) ∧ tag' db = 0 ∧ ∀ b, W.heap.size ≤ b → tag' b = 0)
def zk0 (w : World) (tag : Nat → Nat) (u : Nat) (q : Rq) (y : (List Int × Int) × RPT) (e : Ending) (w' : World) : Prop :=
 ∃ v tag', e = .returned (.tuple #[v, .int .i64 y.1.2]) ∧ y9 w' tag' q y.2 ∧ Step (C4 q.ct u) tag w tag' w' ∧ (y.1.2 = 0 → LiAt w' tag' u v y.1.1)
section
variable (w : World) (tag : Nat → Nat) (q : Rq) (x : RPT) (N : List Nat → Option Nat)
theorem zhw (h : y9 w tag q x) (ok : xe x N) (page : Nat) (hpg : page < 4096) (j0 : Nat) (l : List Int) (v : Value) (u : Nat) (hu : ¬ C3 q.ct u) (hu0 : u ≠ 0) (hl : LiAt w tag u v l) (hG : zgd N page j0 l) :
  Calls Tryz.prog 183 #[.pointer (some ⟨q.t, 0, none⟩), .int .i64 page, v] w (zk0 w tag u q (RPT.yh page j0 l x)) := by
 obtain ⟨tag0, h, s0', hn0⟩ := h.anew (Step.refl (C3 q.ct) tag w)
 have hl0 := hl.step s0' hu
 have s0 : Step (C4 q.ct u) tag w tag0 w := s0'.mono fun c e => .inl e
 clear s0'
 obtain ⟨y, hy⟩ : ∃ y, RPT.yh page j0 l x = y := ⟨_, rfl⟩
 rw [hy]
 have hlen := hG.2.1
 have hj0 := hG.1
 obtain ⟨b, off, c, ev, _⟩ := hl0.at (k := 0) (by omega)
 rw [hlen] at ev
 subst ev
 have HI := Lib.hid zdt
 have H := Lib.hid (And.intro hy (And.intro h (And.intro ok (And.intro s0 (And.intro hl0 (And.intro hn0 (And.intro hG hlen)))))))
 clear h ok s0 hn0 hl0 hG hl hy hlen
 go_enter Tryz.func183, Tryz.ntmps183
 go_wp2_with fail
 refine (jv _ page page rfl hpg).mono ?_
 rintro e w1 ⟨rfl, hb1⟩
 have HB1 := Lib.hid hb1
 clear hb1
 unfold digV
 go_wp2_with fail
 go_loopw [2, 9] (znw w tag u q page w1.heap.size y) (fun _ k _ => 4 - (intOf k).toNat)
 case atStart =>
  have hb2 : Below w.heap.size w (w1.alloc (.cells #[.int .i64 (digit page 0), .int .i64 (digit page 1), .int .i64 (digit page 2), .int .i64 (digit page 3)] 148 (0, 0))) := HB1.out.trans (((Below.refl w1.heap.size w1).alloc (Nat.le_refl _) _).mono HB1.out.size)
  obtain ⟨r0, r1, r2, r3, r4, r5, r6, r7⟩ := H.out
  exact ⟨j0, l, x, N, tag0, b, off, c, hj0, r7, rfl, rfl, r0, r2, r6, r1.below hb2, r3.trans (Step.of_below hb2), r4.below hb2, Row.new w1 4 (fun i => .int .i64 (digit page i)) _ 148 rfl (fun i hi => by
    have : i = 0 ∨ i = 1 ∨ i = 2 ∨ i = 3 := by omega
    rcases this with rfl | rfl | rfl | rfl <;> rfl), r5 _ HB1.out.size, fun b hb => r5 b (Nat.le_trans hb2.size hb)⟩
 case round =>
  obtain ⟨j, m, z, M, tag1, b1, off1, c1, hj, hml, rfl, rfl, hR⟩ := hrel
  cases j with
  | zero =>
   have FIN : Hid (y = ((m, 0), z)) := hR.out.1.symm
   go_wp2_with fail
   refine bodyPost_ret (v := .tuple #[.slice (some ⟨b1, off1, none⟩) (4 - 0) c1, .int .i64 0]) (by simp [results, Tryz.results183, go_sem]) rfl ?_
   obtain ⟨r1, r2, r3, r4, r5, r6, r7, r8, r9⟩ := hR.out
   rw [FIN.out]
   exact ⟨_, tag1, rfl, r4, r5, fun _ => r6⟩
  | succ j =>
   obtain ⟨r1, r2, r3, r4, r5, r6, r7, r8, r9⟩ := hR.out
   have k1 : 4 - (j + 1) = 3 - j := by omega
   rw [k1] at r6 hml
   have k2 : ((3 - j : Nat) : Int) < 4 := by omega
   have k3 : (1 : Int) ≤ ((3 - j : Nat) : Int) := by omega
   obtain ⟨n, hn⟩ : ∃ n, n = 3 - j := ⟨_, rfl⟩
   have hcj : j ≤ 2 := by omega
   rw [k1]
   rw [← hn] at k2 k3 r6 hml ⊢
   have h5 : n + j ≤ 3 := by omega
   have h6 : 3 ≤ n + j := by omega
   have HNN := Lib.hid hn
   clear hn k1
   cases hnx : z.P.next false with
   | none =>
    have T := Lib.hid (zfd wr tag1 q z r4 hnx)
    have e1 := r2.zm8 page j m hnx
    have hon : Xv M page m (m.length - 1) := by
     have := r3.2.2.1
     rw [show 3 - (j + 1) = m.length - 1 by omega] at this
     exact this
    have PR := Lib.hid (fun W' (hb : Below wr.heap.size wr W') => V6 W' tag1 q z M (r4.below hb) r2 page hpg m _ u hu (r6.below hb) (by omega) (by omega) hon)
    have Y : Hid (y = (([], 4), z.prune page m) ∧ Step (C4 q.ct u) tag w tag1 wr) := ⟨r1.symm.trans e1, r5⟩
    clear r1 r2 r3 r4 r5 r6 r7 r8 r9 e1 hon hnx
    go_wp2_with fail
    refine T.out.mono ?_
    rintro e w3 ⟨rfl, hb3⟩
    have HB3 := Lib.hid hb3
    clear hb3
    go_wp2_with fail
    refine (PR.out w3 HB3.out).mono ?_
    rintro e w4 ⟨rfl, tag2, p1, p2⟩
    have FIN := Lib.hid (And.intro p1 ((Y.out.2.trans (Step.of_below HB3.out)).trans (p2.mono (C' := C4 q.ct u) (fun c e => .inl e))))
    clear p1 p2
    go_wp2_with fail
    refine bodyPost_ret (v := .tuple #[.slice none 0 0, .int .i64 4]) (by simp [results, Tryz.results183, go_sem]) rfl ?_
    rw [Y.out.1]
    exact ⟨_, tag2, rfl, FIN.out.1, FIN.out.2, (fun e => by simp at e)⟩
   | some g =>
    obtain ⟨f, M', p1, p2, p3, p4, p5, p6, p7, p8⟩ := r2.zj3 page j m r3 hnx
    have hlen := r2.zhb
    have T := Lib.hid (Js wr tag1 q z r4 g hnx p4 p5 (by omega))
    obtain ⟨b', off', c', ev, hcell⟩ := r6.at (k := 0) (by omega)
    rw [hml] at ev
    cases ev
    have hn2 : 2 - j = n - 1 := by omega
    rw [hn2] at p1 p6 p7
    have cf := hcell (n - 1) f (getD_some (by omega) p1)
    have R := Lib.hid (And.intro r1 (And.intro r5 (And.intro r6 (And.intro r7 (And.intro r8 r9)))))
    have PP := Lib.hid (And.intro p6 (And.intro p7 (And.intro p8 (And.intro p2 p3))))
    clear r1 r2 r3 r4 r5 r6 r7 r8 r9 hcell p1 p2 p3 p6 p7 p8 hlen hnx hn2
    go_wp2_with fail
    refine T.out.mono ?_
    rintro e w3 ⟨rfl, tag2, d1, d2⟩
    obtain ⟨tag3, e1, e2, e3⟩ := d1.anew d2
    obtain ⟨r1, r5, r6, r7, r8, r9⟩ := R.out
    have hc0 : ¬ (0 = 1 ∨ 0 = 2 ∨ 0 = q.ct) := by have := e1.ct; omega
    have hcu : ¬ (u = 1 ∨ u = 2 ∨ u = q.ct) := hu
    have L3 := r6.step e2 hcu
    have D3 := row_step r7 r8 e2 hc0
    have S3 := r5.trans (e2.mono (C' := C4 q.ct u) (fun c e => .inl e))
    have hb10 : tag1 b1 = u := r6.2 b1 rfl
    have cf3 : w3.cell? ⟨b1, off1 + (n - 1), none⟩ = some (.int .i64 f) := e2.turn.cell cf (by show ¬ (tag1 b1 = 1 ∨ tag1 b1 = 2 ∨ tag1 b1 = q.ct); rw [hb10]; exact hcu)
    have n1 : 1 ≤ n := by omega
    have n4 : n ≤ 3 := by omega
    have cd3 : w3.cell? ⟨w1.heap.size, n - 1, none⟩ = some (.int .i64 (digit page (n - 1))) := D3.1.cell (by omega)
    have hlb : b1 < w3.heap.size := World.block_lt_of_cell? _ _ cf3
    have hld : w1.heap.size < w3.heap.size := World.block_lt_of_cell? _ _ cd3
    have F3 := Lib.hid (And.intro e1 (And.intro e3 (And.intro L3 (And.intro D3 (And.intro S3 r1)))))
    obtain ⟨W, hW⟩ : ∃ W, W = w3.drew := ⟨_, rfl⟩
    have hdW : w3.drew = W := hW.symm
    have q0 : W.cell? ⟨b1, off1 + (n - 1), none⟩ = some (.int .i64 f) := by rw [hW]; exact cf3
    have q1 : W.cell? ⟨w1.heap.size, n - 1, none⟩ = some (.int .i64 (digit page (n - 1))) := by rw [hW]; exact cd3
    have HBW : Hid (Below w3.heap.size w3 W) := by rw [hW]; exact (Below.refl _ _).drew
    have PT := Lib.hid (fun (W' : World) (hb : Below w3.heap.size w3 W') => X7 W' tag3 q _ (F3.out.1.below hb) f (digit page (n - 1)) ((g : Int) + 1) f (digit page (n - 1)) (g + 1) rfl rfl (by omega) PP.out.2.2.2.1 (by rw [Xy]; exact PP.out.2.2.2.2) (z8 _ _) (by omega))
    clear d1 d2 e1 e2 e3 r1 r5 r6 r7 r8 r9 L3 D3 S3 cf3 cd3 cf hW
    obtain ⟨i, rfl⟩ : ∃ i, n = i + 1 := ⟨n - 1, by omega⟩
    simp only [Nat.add_sub_cancel] at q0 q1 PT
    have w1' : IntKind.i64.wrap (i : Int) = i := IntWalk.i64_in _ (by omega)
    have w2' : (i : Int) + 1 - 1 = i := by omega
    have w3' : IntKind.u64.wrap (g : Int) = g := by rw [IntKind.wrap_u64]; omega
    have w4' : IntKind.u64.wrap ((g : Int) + 1) = (g : Int) + 1 := by rw [IntKind.wrap_u64]; omega
    have b1' : (0 : Int) ≤ i := by omega
    have b2' : (i : Int) < 4 := by omega
    have b3' : i < 4 := by omega
    have b4' : (i : Int) < (i : Int) + 1 := by omega
    have b5' : (i : Int) + 1 < 4 := by omega
    obtain ⟨inf, hI⟩ := HI.out
    have HI2 := Lib.hid hI
    clear hI
    go_wp2_with fail
    go_region_held (fun W' => W'.cell? ⟨b1, off1 + i, none⟩ = some (.int .i64 f) ∧ W'.cell? ⟨w1.heap.size, i, none⟩ = some (.int .i64 (digit page i))) (go_keep)
     ((go_at_call 184; refine (PT W HBW.out).mono ?_; rintro e w5 ⟨rfl, t1, t2⟩; have T5 := Lib.hid (And.intro t1 t2); have q0' : w5.cell? ⟨b1, off1 + i, none⟩ = some (.int .i64 f) := t2.turn.cell q0 (by show ¬ tag3 b1 = 1; rw [F3.out.2.2.1.2 b1 rfl]; exact fun e => hu (.inl e)); have q1' : w5.cell? ⟨w1.heap.size, i, none⟩ = some (.int .i64 (digit page i)) := t2.turn.cell q1 (by show ¬ tag3 w1.heap.size = 1; rw [F3.out.2.2.2.1.2]; decide); clear t1 t2))
    obtain ⟨u1, u2, u3, u4, u5, u6⟩ := F3.out
    obtain ⟨tag4, v1, v2, v3⟩ := T5.out.1.anew T5.out.2
    have hc1 : ¬ (0 = 1) := by decide
    have L5 := (u3.below HBW.out).step v2 (fun e => hu (.inl e))
    have D5 := row_step (u4.1.below HBW.out) u4.2 v2 hc1
    have S5 := (u5.trans (Step.of_below HBW.out)).trans (v2.mono (C' := C4 q.ct u) (fun c e => .inl (.inl e)))
    have Y5 := PP.out.1.symm.trans u6
    have F5 := Lib.hid (And.intro v1 (And.intro v3 (And.intro L5 (And.intro D5 (And.intro S5 Y5)))))
    clear u1 u2 u3 u4 u5 u6 v1 v2 v3 L5 D5 S5 Y5 q0 q1 q0' q1'
    have hs0 : Hid (SlAt (w5.alloc (.cells #[.int .i64 g] 3)) 3 1 (.slice (some ⟨b1, off1, none⟩) (i + 1) c1) (i + 1) (m.map iV)) := by
     have := F5.out.2.2.1.1
     rw [hml] at this
     exact this.below ((Below.refl _ _).alloc (Nat.le_refl _) _)
    have C2 : Hid (∀ k u, [iV (g : Int)][k]? = some u → (w5.alloc (.cells #[.int .i64 g] 3)).cell? ((⟨w5.heap.size, 0, none⟩ : Addr).add k) = some u) := fun k u hu => by
     have : k = 0 := by have := (List.getElem?_eq_some_iff.1 hu).1; simp at this; omega
     subst this
     simp at hu
     subst hu
     rw [add_plain, cell_of_row _ _ _ _ _ _ (heap_alloc_new w5 (.cells #[.int .i64 g] 3))]
     rfl
    go_wp2_with (at_builtin; refine vg _ rfl _ _ 79 rfl 3 inf _ 1 8 Tryz.underlying79 HI2.out.1 HI2.out.2.1 HI2.out.2.2.1 HI2.out.2.2.2 rfl _ _ _ rfl hs0.out ⟨w5.heap.size, 0, none⟩ 1 1 [iV (g : Int)] rfl rfl C2.out ?c3 ?c4 ?c5 ?c6)
    case c3 => intro u hu; simp at hu; subst hu; rfl
    case c4 => unfold maxLen; omega
    case c5 => omega
    intro v' w6 hs hgr ho
    obtain ⟨y1, y2, y3, y4, y5, y6⟩ := F5.out
    have hTu : Turn (fun b => tag4 b = u) w5 w6 := ((Turn.refl _ w5).alloc _).trans (Turn.uw hgr (fun k hk => .inl (y3.2 k hk)))
    have s6 : Step (fun c => c = u) tag4 w5 (retag tag4 w5 u) w6 := Step.retag hTu rfl
    have A6 := y1.step s6 (fun e => hu (.inl e.symm)) (fun e => hu (.inr (.inl e.symm))) (fun e => hu (.inr (.inr e.symm)))
    have D6 := row_step y4.1 y4.2 s6 (fun e => hu0 e.symm)
    have S6 := y5.trans (s6.mono (C' := C4 q.ct u) (fun c e => .inr e))
    have L6 : LiAt w6 (retag tag4 w5 u) u v' (m ++ [(g : Int)]) := by
     refine ⟨by rw [List.length_append, hml, List.map_append]; exact hs, fun b' hb' => ?_⟩
     rcases ho with e | e
     ·rw [e] at hb'
      have h1 := y3.2 b' hb'
      show retag tag4 w5 u b' = u
      unfold retag
      split
      ·exact h1
      ·rfl
     ·rw [e] at hb'
      cases hb'
      exact Yw (by first | omega | simp)
    have sN : Step (fun _ => False) (retag tag4 w5 u) w6 (retag (retag tag4 w5 u) w6 0) w6 := X8 _ _ _
    have A7 := A6.step sN (fun e => e) (fun e => e) (fun e => e)
    have D7 := row_step D6.1 D6.2 sN (fun e => e)
    have L7 := L6.step sN (fun e => e)
    have S7 := S6.trans (sN.mono (C' := C4 q.ct u) (fun c e => e.elim))
    obtain ⟨a', c', rfl, _, _⟩ := SlAt.form hs
    obtain ⟨b2, off2, c2, ev, _⟩ := L7.at (k := 0) (by simp)
    simp only [Value.slice.injEq] at ev
    obtain ⟨rfl, _, rfl⟩ := ev
    have FIN := Lib.hid (And.intro A7 (And.intro D7 (And.intro L7 (And.intro S7 y6))))
    clear hs hgr ho y1 y2 y3 y4 y5 y6 hTu s6 A6 D6 S6 L6 sN A7 D7 L7 S7
    go_wp2_with fail
    go_roundw
    case rel => exact ⟨j, m ++ [(g : Int)], _, M', _, b2, off2, c', by omega, by rw [List.length_append, hml]; simp; omega, by go_num, by rw [show 4 - j = i + 1 + 1 by omega], FIN.out.2.2.2.2, PP.out.2.1, PP.out.2.2.1, FIN.out.1, FIN.out.2.2.2.1, FIN.out.2.2.1, FIN.out.2.1.1, FIN.out.2.1.2, fun b hb => Yw hb⟩
    case measure => simp [intOf]; omega
end
end Go.Proofs.YtnhdmnijiphjjaaGreat
