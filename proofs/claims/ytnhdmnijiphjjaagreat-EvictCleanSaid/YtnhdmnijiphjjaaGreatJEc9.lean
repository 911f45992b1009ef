/- Swap's other functions: Of, Release, Take, Used. -/
import Derived.Test.YtnhdmnijiphjjaaGreatJEc8
import Derived.Deep.MidRow
import Derived.Deep.RegionHeld
set_option linter.unusedVariables false
set_option linter.unusedSimpArgs false
set_option maxRecDepth 100000
set_option maxHeartbeats 2000000
namespace Go.Proofs.YtnhdmnijiphjjaaGreat
open Go Go.RowKit
theorem zfc (w : World) (p : Nat) (S : List Nat) (V : List Value) (L : List (List (Int × Int))) (h : q8 w p S V L) (k : Nat) (l : List (Int × Int)) (hl : L[k]? = some l) (hlen : l.length ≤ 1000000) :
  Calls Tryz.prog 112 #[.pointer (some ⟨p, 0, none⟩), .int .i64 k] w fun e w' => ∃ v', e = .returned v' ∧ PlAt w' v' l ∧ Below w.heap.size w w' ∧ ∀ b, v'.ownBlock = some b → w.heap.size ≤ b := by
 have hk : k < 32 := by have := (List.getElem?_eq_some_iff.1 hl).1; rw [h.lenL] at this; exact this
 obtain ⟨v, hv⟩ : ∃ v, V[k]? = some v := ⟨_, List.getElem?_eq_getElem (by rw [h.lenV]; exact hk)⟩
 obtain ⟨T, hblk⟩ := h.blk
 have hp : p < w.heap.size := (Array.getElem?_eq_some_iff.1 hblk).1
 have hc : w.cell? ⟨p, k, none⟩ = some v := by rw [cell_of_row w p k _ _ _ hblk]; simpa using hv
 have cl := Lib.hid (fun W (hW : Below w.heap.size w W) => zak W v l ((h.at_ k v l hv hl).below hW) hlen)
 have hk0 : (0 : Int) ≤ k := by omega
 have hk1 : (k : Int) < 32 := by omega
 clear h hblk
 go_enter Tryz.func112, Tryz.ntmps112
 go_wp2_with fail
 refine (U7 _ _ k hk).mono ?_
 rintro e w1 ⟨rfl, rfl⟩
 go_wp2_with fail
 refine (cl.out _ (Below.refl _ _)).mono ?_
 rintro e w2 ⟨v2, rfl, hp2, hb2, ho2⟩
 have H2 := Lib.hid (And.intro hp2 (And.intro hb2 ho2))
 clear hp2 hb2 ho2
 go_wp2_with fail
 refine (zc1 w2 v2 l H2.out.1).mono ?_
 rintro e w3 ⟨v3, rfl, hp3, rfl, ho3⟩
 have H3 := Lib.hid (And.intro hp3 ho3)
 clear hp3 ho3
 go_wp2_with fail
 go_ret
 exact ⟨v3, rfl, H3.out.1, H2.out.2.1, fun b hb => H2.out.2.2 b (by rw [← H3.out.2]; exact hb)⟩
theorem zhr (V : List Value) (k : Nat) (v : Value) (hk : (k : Int) < 32) (hv : V[k]? = some v) (W : World) : (Instr.index 121 (.agg V.toArray) (.int .i64 k)).run Tryz.prog W = .ok v W := by
 have z := Tryz.sizeOf120
 have a := Tryz.isAgg120
 have h0 : (0 : Int) ≤ k := by omega
 have hva : V.toArray[k]? = some v := by simpa using hv
 simp [Instr.index, run_underlying Tryz.underlying121, asIntOf, part, h0, z, a, hv]
 intro h
 omega
def Zd : List (List (Int × Int)) → Nat → Option Nat
 | [], _ => none
 | l :: r, i => if l = [] then some i else Zd r (i + 1)
def Yr (L : List (List (Int × Int))) : Int × Bool := match Zd L 0 with
 | some i => (i, true)
 | none => (0, false)
theorem Vo (L : List (List (Int × Int))) (k : Nat) (h : ∀ j l, j < k → L[j]? = some l → l ≠ []) (i : Nat) : Zd L i = Zd (L.drop k) (i + k) := by
 induction k generalizing L i with
 | zero => simp
 | succ k ih =>
  cases L with
  | nil => simp [Zd]
  | cons x L =>
   have h0 := h 0 x (by omega) rfl
   rw [Zd, if_neg h0, List.drop_succ_cons, ih L (fun j l hj hl => h (j + 1) l (by omega) (by simpa using hl)) (i + 1)]
   congr 1; omega
set_option maxHeartbeats 400000 in
theorem ziv (w : World) (p : Nat) (S : List Nat) (V : List Value) (L : List (List (Int × Int))) (h : q8 w p S V L) :
  Calls Tryz.prog 74 #[.pointer (some ⟨p, 0, none⟩)] w fun e w' => e = .returned (.tuple #[.int .i64 (Yr L).1, .bool (Yr L).2]) ∧ w' = w := by
 obtain ⟨T, hblk⟩ := h.blk
 have hr : w.rangeAt p 0 V := fun j v hv => by rw [Nat.zero_add, cell_of_row w p j _ _ _ hblk]; simpa using hv
 have hi : (Tryz.prog.info? 121).map (·.size) = some V.length := by rw [h.lenV]; kernel_rfl
 have hR := Lib.hid hr
 have hI := Lib.hid hi
 have H := Lib.hid h
 clear hr hi hblk h
 go_enter Tryz.func74, Tryz.ntmps74
 go_wp2_with (refine wpList_load_mid rfl 121 (.tmp 10) rfl p 0 rfl V _ hR.out Tryz.underlying121 rfl hI.out ?_)
 go_loopw [4, 5, 12] (fun _ _ i wr => ∃ k : Nat, k ≤ 32 ∧ i = .int .i64 k ∧ wr = w ∧ ∀ j l, j < k → L[j]? = some l → l ≠ []) (fun _ _ i _ => 32 - (intOf i).toNat)
 case atStart => exact ⟨0, by omega, rfl, rfl, fun j l hj => absurd hj (Nat.not_lt_zero _)⟩
 case round =>
  obtain ⟨k, hk, rfl, rfl, hlo⟩ := hrel
  have HL := Lib.hid hlo
  clear hlo
  by_cases hlt : k < 32
  ·obtain ⟨v, hv⟩ : ∃ v, V[k]? = some v := ⟨_, List.getElem?_eq_getElem (by rw [H.out.lenV]; exact hlt)⟩
   obtain ⟨l, hl⟩ : ∃ l, L[k]? = some l := ⟨_, List.getElem?_eq_getElem (by rw [H.out.lenL]; exact hlt)⟩
   obtain ⟨a, c, rfl, _, _⟩ := SlAt.form (H.out.at_ k v l hv hl)
   have h1 : (k : Int) < 32 := by omega
   have h2 : (0 : Int) ≤ k := by omega
   have hidx := zhr V k _ h1 hv
   by_cases he : l = []
   ·subst he
    go_wp2_with fail
    have e : Yr L = ((k : Int), true) := by
     unfold Yr
     rw [Vo L k HL.out 0, List.drop_eq_getElem_cons (by rw [H.out.lenL]; exact hlt)]
     have : L[k]'(by rw [H.out.lenL]; exact hlt) = [] := (List.getElem?_eq_some_iff.1 hl).2
     rw [this, Zd, if_pos rfl]
     simp
    exact bodyPost_ret (v := .tuple #[.int .i64 k, .bool true]) (by simp [results, Tryz.results74, go_sem]) rfl ⟨by rw [e], rfl⟩
   ·have hne : ¬ ((l.length : Int) = 0) := by
     intro e
     exact he (List.eq_nil_of_length_eq_zero (by omega))
    go_wp2_with fail
    go_roundw
    case rel =>
     refine ⟨k + 1, by omega, by go_num, trivial, fun j m hj hm => ?_⟩
     by_cases hjk : j = k
     ·subst hjk; rw [hl] at hm; cases hm; exact he
     ·exact HL.out j m (by omega) hm
    case measure => simp [intOf]; omega
  ·go_wp2_with fail
   have e : Yr L = (0, false) := by
    unfold Yr
    rw [Vo L k HL.out 0, List.drop_eq_nil_of_le (by rw [H.out.lenL]; omega)]
    rfl
   exact bodyPost_ret (v := .tuple #[.int .i64 0, .bool false]) (by simp [results, Tryz.results74, go_sem]) rfl ⟨by rw [e], rfl⟩
def Xm (L : List (List (Int × Int))) : Nat := L.countP fun l => decide (l ≠ [])
set_option maxHeartbeats 400000 in
theorem zit (w : World) (p : Nat) (S : List Nat) (V : List Value) (L : List (List (Int × Int))) (h : q8 w p S V L) (hlen : ∀ l ∈ L, l.length ≤ 1000000) :
  Calls Tryz.prog 51 #[.pointer (some ⟨p, 0, none⟩)] w fun e w' => e = .returned (.int .i64 (Xm L)) ∧ Below w.heap.size w w' := by
 have H := Lib.hid h
 clear h
 go_enter Tryz.func51, Tryz.ntmps51
 go_wp2_with fail
 go_loopw [3, 4, 5] (fun n _ i wr => ∃ k : Nat, k ≤ 32 ∧ i = .int .i64 k ∧ n = .int .i64 (Xm (L.take k)) ∧ Below w.heap.size w wr) (fun _ _ i _ => 32 - (intOf i).toNat)
 case atStart => exact ⟨0, by omega, rfl, rfl, Below.refl _ _⟩
 case round =>
  obtain ⟨k, hk, rfl, rfl, hb⟩ := hrel
  have HB := Lib.hid hb
  clear hb
  have hcnt : Xm (L.take k) ≤ 32 := by
   have h1 : Xm (L.take k) ≤ (L.take k).length := List.countP_le_length
   rw [List.length_take] at h1; omega
  by_cases hlt : k < 32
  ·obtain ⟨l, hl⟩ : ∃ l, L[k]? = some l := ⟨_, List.getElem?_eq_getElem (by rw [H.out.lenL]; exact hlt)⟩
   have h1 : (k : Int) < 32 := by omega
   have hL := H.out.lenL
   have htake : L.take (k + 1) = L.take k ++ [l] := by
    rw [List.take_succ_eq_append_getElem (by omega), (List.getElem?_eq_some_iff.1 hl).2]
   obtain ⟨m, hm⟩ : ∃ m, m = Xm (L.take k) := ⟨_, rfl⟩
   rw [← hm] at hcnt ⊢
   have hM := Lib.hid hm
   clear hm
   go_wp2_with fail
   refine (zfc wr p S V L (H.out.below HB.out) k l hl (hlen l (List.mem_of_getElem? hl))).mono ?_
   rintro e w2 ⟨v2, rfl, hp2, hb2, -⟩
   obtain ⟨a, c, rfl, _, _⟩ := SlAt.form hp2
   have HB2 := Lib.hid (HB.out.trans (hb2.mono HB.out.size))
   clear hp2 hb2
   by_cases he : l = []
   ·subst he
    go_wp2_with fail
    go_roundw
    case rel =>
     refine ⟨k + 1, by omega, by go_num, ?_, HB2.out⟩
     rw [htake, hM.out]
     simp [Xm]
    case measure => simp [intOf]; omega
   ·have hne : (0 : Int) < (l.length : Int) := by
     have : l.length ≠ 0 := fun e => he (List.eq_nil_of_length_eq_zero e)
     omega
    go_wp2_with fail
    go_roundw
    case rel =>
     refine ⟨k + 1, by omega, by go_num, ?_, HB2.out⟩
     rw [htake, show Xm (L.take k ++ [l]) = m + 1 by rw [hM.out]; simp [Xm, he]]
     go_num
    case measure => simp [intOf]; omega
  ·have hkk : k = 32 := by omega
   subst hkk
   have e : L.take 32 = L := List.take_of_length_le (by rw [H.out.lenL]; exact Nat.le_refl _)
   rw [e]
   clear hlt
   go_wp2_with fail
   go_ret
   exact ⟨rfl, HB.out⟩
theorem zcu (w : World) (p : Nat) (S : List Nat) (V : List Value) (L : List (List (Int × Int))) (h : q8 w p S V L) (k : Nat) (l : List (Int × Int)) (hl : L[k]? = some l) (x : Int × Int) (hlen : l.length ≤ 100000) :
  Calls Tryz.prog 143 #[.pointer (some ⟨p, 0, none⟩), .int .i64 k, .agg #[.int .i64 x.1, .int .i64 x.2]] w fun e w' => e = .returned (.bool (decide (x ∈ l))) ∧ ∃ S' V', q8 w' p S' V' (L.set k (l.erase x)) ∧ Touch S w w' ∧ ∀ b ∈ S', b ∈ S ∨ w.heap.size ≤ b := by
 have hk : k < 32 := by have := (List.getElem?_eq_some_iff.1 hl).1; rw [h.lenL] at this; exact this
 obtain ⟨v, hv⟩ : ∃ v, V[k]? = some v := ⟨_, List.getElem?_eq_getElem (by rw [h.lenV]; exact hk)⟩
 obtain ⟨T, hblk⟩ := h.blk
 have hp : p < w.heap.size := (Array.getElem?_eq_some_iff.1 hblk).1
 have hc : w.cell? ⟨p, k, none⟩ = some v := by rw [cell_of_row w p k _ _ _ hblk]; simpa using hv
 have hpl := h.at_ k v l hv hl
 have H := Lib.hid h
 have HPL := Lib.hid hpl
 clear h hpl
 have hk0 : (0 : Int) ≤ k := by omega
 have hk1 : (k : Int) < 32 := by omega
 go_enter Tryz.func143, Tryz.ntmps143
 go_wp2_with fail
 refine (U7 _ _ k hk).mono ?_
 rintro e w1 ⟨rfl, rfl⟩
 go_wp2_with fail
 obtain ⟨W, hW⟩ : ∃ W, W = (w.alloc (.cells #[.int .i64 x.1, .int .i64 x.2] 58)).drew := ⟨_, rfl⟩
 have q0 : W.cell? ⟨p, k, none⟩ = some v := by rw [hW]; go_simp
 have q1 : W.cell? ⟨w.heap.size, 0, none⟩ = some (.int .i64 x.1) := by rw [hW]; go_simp
 have q2 : W.cell? ⟨w.heap.size, 1, none⟩ = some (.int .i64 x.2) := by rw [hW]; go_simp
 have hBW : Hid (Below w.heap.size w W ∧ W.heap.size = w.heap.size + 1) := by
  rw [hW]
  exact ⟨((Below.refl _ _).alloc (Nat.le_refl _) _).drew, by show (w.alloc _).heap.size = _; simp⟩
 have hd : (w.alloc (.cells #[.int .i64 x.1, .int .i64 x.2] 58)).drew = W := hW.symm
 clear hW hc hblk
 have cC : Hid (∀ W', Below w.heap.size w W' → Calls Tryz.prog 127 #[v, .agg #[.int .i64 x.1, .int .i64 x.2]] W' fun e w' => e = .returned (.int .i64 (posP l x)) ∧ Below W'.heap.size W' w') := fun W' hb => zaj W' v l (HPL.out.below hb) x
 by_cases hx : x ∈ l
 ·have hpos : posP l x = (l.idxOf x : Int) := by unfold posP; rw [if_pos hx]
  rw [hpos] at cC
  have hi := List.idxOf_lt_length_of_mem hx
  obtain ⟨i, hie⟩ : ∃ i, i = l.idxOf x := ⟨_, rfl⟩
  rw [← hie] at cC hi
  have HI := Lib.hid hie
  clear hie
  go_region_held (fun W' => W'.cell? ⟨p, k, none⟩ = some v ∧ W'.cell? ⟨w.heap.size, 0, none⟩ = some (.int .i64 x.1) ∧ W'.cell? ⟨w.heap.size, 1, none⟩ = some (.int .i64 x.2)) (go_keep)
   ((go_at_call 127; refine (cC.out _ hBW.out.1).mono ?_; rintro e w2 ⟨rfl, hb2⟩; have hb3 := Lib.hid hb2; have q0' := (hb2.cell (World.block_lt_of_cell? _ _ q0)).trans q0; have q1' := (hb2.cell (World.block_lt_of_cell? _ _ q1)).trans q1; have q2' := (hb2.cell (World.block_lt_of_cell? _ _ q2)).trans q2; clear hb2))
  have hB2 := Lib.hid (hBW.out.1.trans (hb3.out.mono (by rw [hBW.out.2]; omega)))
  clear q0 q1 q2 cC
  have hi0 : (0 : Int) ≤ i := by omega
  go_wp2_with fail
  obtain ⟨b, off, c, rfl, hbw⟩ : ∃ b off c, v = .slice (some ⟨b, off, none⟩) l.length c ∧ b < w.heap.size := by
   rcases HPL.out.form with ⟨_, e⟩ | ⟨b, off, c, e, _, _, hb⟩
   ·rw [e] at hx; simp at hx
   ·exact ⟨b, off, c, e, hb⟩
  have hsw2 := H.out.below hB2.out
  obtain ⟨T2, hblk2⟩ := hsw2.blk
  have hpw2 : p < w2.heap.size := Nat.lt_of_lt_of_le hp hB2.out.size
  have hown := H.out.own k _ b hv rfl
  have hp2d : PlAt w2.drew (.slice (some ⟨b, off, none⟩) l.length c) l := (hsw2.at_ k _ l hv hl).below (Below.refl _ _).drew
  have hdel : Hid (Calls Tryz.prog 187 #[.slice (some ⟨b, off, none⟩) l.length c, .int .i64 i, .int .i64 (i + 1)] w2.drew fun e w3 => ∃ a m c', e = .returned (.slice a m c') ∧ w3.cell? ⟨p, k, none⟩ = some (.slice (some ⟨b, off, none⟩) l.length c) ∧ w3.frozen? ⟨p, k, none⟩ = false ∧
    ∃ S' V', q8 (w3.setCell ⟨p, k, none⟩ (.slice a m c')) p S' V' (L.set k (l.erase x)) ∧ Touch S w (w3.setCell ⟨p, k, none⟩ (.slice a m c')) ∧ ∀ b ∈ S', b ∈ S ∨ w.heap.size ≤ b) := by
   refine (Q7 w2.drew b off c i l hp2d hi).mono ?_
   rintro e w3 ⟨v', rfl, hp3, t3, ho3⟩
   rw [HI.out, ze0] at hp3
   have hpw3 : w3.heap[p]? = some (.cells V.toArray T2 (0, 0)) := by
    rw [t3.block p hpw2 (by simp; exact fun e => hown.2 e.symm)]
    exact hblk2
   have hpw3' := (Array.getElem?_eq_some_iff.1 hpw3).1
   obtain ⟨a', c', ev, _, _⟩ := SlAt.form hp3
   refine ⟨a', _, c', by rw [ev], by rw [cell_of_row w3 p k _ _ _ hpw3]; simpa using hv, by simp [World.frozen?, hpw3], ?_⟩
   rw [← ev]
   have hs4 : (w3.setCell ⟨p, k, none⟩ v').heap.size = w3.heap.size := by simp [World.setCell]
   have hb4 : ∀ j, j ≠ p → (w3.setCell ⟨p, k, none⟩ v').heap[j]? = w3.heap[j]? := fun j hj => Below.heap_setCell w3 _ _ j hj
   refine H.out.put hv ⟨T2, Qe hpw3 v'⟩ (hp3.keep fun b' hb' => hb4 b' ?_) (fun b' hb' => .inl (ho3.symm.trans hb')) ?_ ?_ ?_ ?_ ?_
   ·rw [ho3] at hb'
    cases hb'
    exact hown.2
   ·intro j hj hjp hjv
    have h1 : j < w2.heap.size := Nat.lt_of_lt_of_le hj hB2.out.size
    rw [hb4 j hjp, t3.block j h1 (by simp; exact fun e => hjv (by simp [Value.ownBlock, e]))]
    exact hB2.out.block j hj
   ·exact t3.os.trans hB2.out.os
   ·exact t3.tape.trans hB2.out.tape
   ·exact t3.output.trans hB2.out.output
   ·rw [hs4]; have := t3.size; have := hB2.out.size; have e : w2.drew.heap.size = w2.heap.size := rfl; omega
  have hw : IntKind.i64.wrap ((i : Int) + 1) = i + 1 := by simp [IntKind.wrap, IntKind.bits, IntKind.signed]; omega
  clear hsw2 hblk2 hp2d
  go_region_with (go_at_call 187; refine hdel.out.mono ?_; rintro e w3 ⟨a', m', c', rfl, c3, f3, G3⟩; have HG3 := Lib.hid G3; clear G3)
  go_wp2_with fail
  go_ret
  obtain ⟨S', V', h1, h2, h3⟩ := HG3.out
  exact ⟨by simp [hx], S', V', h1, h2, h3⟩
 ·have hpos : posP l x = -1 := by unfold posP; rw [if_neg hx]
  rw [hpos] at cC
  go_region_held (fun W' => W'.cell? ⟨p, k, none⟩ = some v ∧ W'.cell? ⟨w.heap.size, 0, none⟩ = some (.int .i64 x.1) ∧ W'.cell? ⟨w.heap.size, 1, none⟩ = some (.int .i64 x.2)) (go_keep)
   ((go_at_call 127; refine (cC.out _ hBW.out.1).mono ?_; rintro e w2 ⟨rfl, hb2⟩; have hb3 := Lib.hid hb2; have q0' := (hb2.cell (World.block_lt_of_cell? _ _ q0)).trans q0; have q1' := (hb2.cell (World.block_lt_of_cell? _ _ q1)).trans q1; have q2' := (hb2.cell (World.block_lt_of_cell? _ _ q2)).trans q2; clear hb2))
  have hB2 := Lib.hid (hBW.out.1.trans (hb3.out.mono (by rw [hBW.out.2]; omega)))
  go_wp2_with fail
  go_ret
  rw [List.erase_of_not_mem hx, zeh hl]
  exact ⟨by simp [hx], S, V, H.out.below hB2.out, Touch.of_below hB2.out, fun b hb => .inl hb⟩
end Go.Proofs.YtnhdmnijiphjjaaGreat
