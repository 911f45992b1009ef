/- The cache's Keys. -/
import Derived.Test.YtflbidbnbfndgaaCacheDel
namespace Go.Proofs.Ytflbidbnbfndgaa
open Go Go.RowKit

set_option maxRecDepth 100000 in
set_option maxHeartbeats 2000000 in
theorem Keys_cache (w : World) (p m1 m2 : Nat) (l : CList) (r : CBack) (h : CacheAt w p m1 m2 l r) (hlen : l.length ≤ 1000000) (file : Int) :
    Calls Try.prog 37 #[.pointer (some ⟨p, 0, none⟩), .int .i64 file] w fun e w' => ∃ (v : Value) (ks : List (Int × Int)), e = .returned v ∧ SortedK (l.map (·.1)) ks ∧ KeAt w' v (ks.filter fun x => !otherF file x) ∧ Below w.heap.size w w' := by
  have b1 : Below w.heap.size w (w.alloc (.cells #[.int .i64 file] 3)) := (Below.refl _ _).alloc (Nat.le_refl _) _
  have HA := Lib.hid (h.below b1)
  have hps := h.ps
  have HB1 := Lib.hid b1
  have HB : Hid ((w.alloc (.cells #[.int .i64 file] 3)).cell? ⟨w.heap.size, 0, none⟩ = some (.int .i64 file)) := by show _ = _; go_simp
  obtain ⟨c0, c1, hM, hR, hne⟩ := h.below b1
  have S1 : Hid ((w.alloc (.cells #[.int .i64 file] 3)).heap.size = w.heap.size + 1) := by show _ = _; simp
  clear h b1 hM hR c1 hne
  go_enter Try.func37, Try.ntmps37
  go_wp2_with fail
  generalize w.alloc _ = W1 at *
  refine (KeysK_walk W1 (some m1)).mono ?_
  rintro e w2 ⟨rfl, rfl⟩
  have B2 : Hid (Below W1.heap.size W1 (W1.alloc (.cells #[.map (some m1)] 78))) := (Below.refl _ _).alloc (Nat.le_refl _) _
  have M2 : Hid ((W1.alloc (.cells #[.map (some m1)] 78)).cell? ⟨W1.heap.size, 0, none⟩ = some (.map (some m1))) := by show _ = _; go_simp
  have S2 : Hid ((W1.alloc (.cells #[.map (some m1)] 78)).heap.size = W1.heap.size + 1) := by show _ = _; simp
  have HA2 := Lib.hid (HA.out.below B2.out)
  clear c0
  go_wp2_with fail
  generalize W1.alloc _ = W2 at *
  obtain ⟨_, _, hM2, _, _⟩ := HA2.out
  refine (SortedFunc_walk W2 W1.heap.size m1 l (by rw [S2.out]; omega) M2.out hM2 hlen).mono ?_
  rintro e w3 ⟨v, ks, rfl, hs, hk, b3, ho3⟩
  have HS := Lib.hid hs
  have HK := Lib.hid hk
  have B3 := Lib.hid b3
  have O3 := Lib.hid ho3
  have hkl : ks.length ≤ 1000000 := by rw [hs.1.length_eq, List.length_map]; exact hlen
  have HB3 := (b3.cell (p := ⟨w.heap.size, 0, none⟩) (by rw [S2.out, S1.out]; show w.heap.size < _; omega)).trans ((B2.out.cell (p := ⟨w.heap.size, 0, none⟩) (by rw [S1.out]; show w.heap.size < _; omega)).trans HB.out)
  have hlt3 : w.heap.size < w3.heap.size := World.block_lt_of_cell? _ _ HB3
  have BW : Hid (Below w.heap.size w w3) := HB1.out.trans ((B2.out.trans (b3.mono B2.out.size)).mono HB1.out.size)
  clear hs hk b3 ho3 hM2
  go_wp2_with fail
  refine (DeleteK_walk w3 v ks HK.out hkl w.heap.size file hlt3 HB3 (fun b hb => by have := O3.out b hb; rw [S2.out, S1.out] at this; omega)).mono ?_
  rintro e w4 ⟨v4, rfl, hk4, t4, ho4⟩
  have HF : Hid (KeAt w4 v4 (ks.filter fun x => !otherF file x) ∧ Below w.heap.size w w4) := ⟨hk4, Touch.from BW.out t4 BW.out.size (fun i hi => by
    have hi' : v.ownBlock = some i := by simpa using hi
    have := O3.out i hi'
    rw [S2.out, S1.out] at this
    omega)⟩
  clear hk4 t4 ho4 HB3
  go_wp2_with fail
  refine (ClipK_walk w4 v4 _ HF.out.1).mono ?_
  rintro e w5 ⟨v5, rfl, hk5, rfl, _⟩
  go_wp2_with fail
  go_ret
  exact ⟨_, ks, rfl, HS.out, hk5, HF.out.2⟩
end Go.Proofs.Ytflbidbnbfndgaa
