/- SignalOrder answers true for every list of whole numbers; no conditions. -/
import Derived.Test.YtfjknnejafdfpaaSigAns
import Derived.Test.YtfjknnejafdfpaaOpen
import Derived.Deep.QuietTactic
import Derived.BigQuiet
namespace Go.Proofs.Ytfjknnejafdfpaa
open Go Go.RowKit Go.Conc

def encI (x : Int) : List Value := [.int .i64 x]
def wfI (x : Int) : Prop := (Lit.int .i64 x).wf = true
theorem decI (cs : List Value) (h : Open.AllOk [some .i64] cs) : ∃ x, cs = encI x ∧ wfI x := by
  have hlen := h.length
  simp only [List.length_cons, List.length_nil] at hlen
  obtain ⟨c, rfl⟩ : ∃ c, cs = [c] := by
    rcases cs with _ | ⟨c0, _ | ⟨c1, cs⟩⟩ <;> simp at hlen
    exact ⟨_, rfl⟩
  obtain ⟨⟨y, rfl, u⟩, _⟩ := h
  exact ⟨y, rfl, u⟩

/-- The cells of a slice of whole numbers that came in, in a later world. -/
theorem rowI_cell {w w' : World} {a : Option Addr} {len cap : Nat} {z : List Int} (h : Open.RowsAt w encI 1 a len cap z) (hb : Below w.heap.size w w') (i : Nat) (hi : i < len) :
    ∃ b off, a = some ⟨b, off, none⟩ ∧ w'.cell? ⟨b, off + i, none⟩ = some (.int .i64 (z.getD i 0)) := by
  obtain ⟨hz, _, _, hc⟩ := h
  obtain ⟨b, off, ha, hlt, hv⟩ := hc i hi
  refine ⟨b, off, ha, ?_⟩
  have := hv (z.getD i 0) (by rw [List.getD_eq_getElem?_getD, List.getElem?_eq_getElem (by omega)]; rfl) 0 _ rfl
  rw [Nat.mul_one, Nat.add_zero] at this
  exact (hb.cell hlt).trans this

theorem belowN {B : Nat} {a w : World} (h : Below B a w) (n : Nat) : Below B a (w.drewN n) := ⟨h.os, h.tape, h.output, h.size, h.block⟩

def sigs (z : List Int) : List (Int × Int) := z.map fun x => (0, x)

set_option maxHeartbeats 800000 in
set_option maxRecDepth 100000 in
theorem order_walk (a : Option Addr) (len cap : Nat) (z : List Int) (w : World) (hz : Open.RowsAt w encI 1 a len cap z) :
    Calls Try.prog 5 #[.slice a len cap] w fun e w' => e = .returned (.bool true) ∧ Below w.heap.size w w' := by
  have hlen := hz.1
  have hmx : len ≤ 9223372036854775807 := by have := hz.2.1; have := hz.2.2.1; unfold maxLen at this; omega
  have HZ := Lib.hid hz
  clear hz
  have HL := Lib.hid hlen
  clear hlen
  go_enter Try.func5, Try.ntmps5
  go_wp2_with fail
  refine (New_at _ 16).mono ?_
  rintro e w1 ⟨rfl, b1, q1⟩
  change QAt w1 (w.heap.size + 1) w.heap.size 16 [] at q1
  have HB := Lib.hid b1
  clear b1
  go_wp2_with fail
  go_loopw [4, 5] (fun n i wr => ∃ j : Nat, j ≤ len ∧ j ≤ 16 ∧ i = .int .i64 j ∧ n = .int .i64 j ∧ Below w.heap.size w wr ∧ QAt wr (w.heap.size + 1) w.heap.size 16 (sigs (z.take j))) (fun _ i _ => 16 - (intOf i).toNat)
  case atStart => exact ⟨0, by omega, by omega, rfl, rfl, HB.out, q1⟩
  case round =>
    clear HB q1
    obtain ⟨j, hj, hj16, rfl, rfl, hb, hq⟩ := hrel
    have HB := Lib.hid hb
    clear hb
    by_cases hlt : j < len ∧ j < 16
    · obtain ⟨h1, h2⟩ := hlt
      obtain ⟨b, off, rfl, hcell⟩ := rowI_cell HZ.out HB.out j h1
      generalize hx : z.getD j 0 = x at hcell
      have HX := Lib.hid hx
      clear hx
      go_wp2_with fail
      refine (Put_room _ _ _ _ _ (0, x) hq (by simp [sigs]; omega)).mono ?_
      rintro e w2 ⟨rfl, g2, q2⟩
      go_wp2_with fail
      go_roundw
      case rel =>
        refine ⟨j + 1, by omega, by omega, by go_num, by go_num, HB.out.grown g2 HB.out.size (fun k hk => by cases hk; omega), ?_⟩
        have e : z.take (j + 1) = z.take j ++ [x] := by
          rw [List.take_succ_eq_append_getElem (by rw [HL.out]; exact h1), ← HX.out, List.getD_eq_getElem?_getD, List.getElem?_eq_getElem (by rw [HL.out]; exact h1)]; rfl
        rw [e]; simpa [sigs] using q2
      case measure => simp [intOf]; omega
    · have hn : len ≤ j ∨ 16 ≤ j := by omega
      clear hlt
      by_cases h1 : j < len
      all_goals
        first | (have h16 : 16 ≤ j := by omega) | (have h16 : len ≤ j := by omega)
        clear hn
        go_wp2_with fail
        go_loopw [6] (fun i wq => ∃ k : Nat, k ≤ j ∧ i = .int .i64 k ∧ Below w.heap.size w wq ∧ QAt wq (w.heap.size + 1) w.heap.size 16 (sigs ((z.take j).drop k))) (fun i _ => j - (intOf i).toNat)
        case atStart => exact ⟨0, by omega, rfl, HB.out, hq⟩
        case round =>
          obtain ⟨k, hk, rfl, hb, hq2⟩ := hrel
          clear hq HB
          have HB := Lib.hid hb
          clear hb
          by_cases hkj : k < j
          · obtain ⟨b, off, ha, hcell0⟩ := rowI_cell HZ.out (Below.refl _ _) k (by omega)
            obtain ⟨x, hx⟩ : ∃ x, z.getD k 0 = x := ⟨_, rfl⟩
            have e : sigs ((z.take j).drop k) = (0, x) :: sigs ((z.take j).drop (k + 1)) := by
              have hl := HL.out
              rw [List.drop_eq_getElem_cons (by simp; omega), ← hx, List.getElem_take, List.getD_eq_getElem?_getD, List.getElem?_eq_getElem (by omega)]; rfl
            rw [e] at hq2
            rw [hx] at hcell0
            have HX := Lib.hid hx
            clear hx e
            subst ha
            go_wp2_with fail
            refine (Take_some _ _ _ _ _ (0, x) hq2).mono ?_
            rintro e w2 ⟨rfl, g2, q2⟩
            have hbw : b < w.heap.size := World.block_lt_of_cell? w ⟨b, off + k, none⟩ hcell0
            have hbr : b < wr.heap.size := Nat.lt_of_lt_of_le hbw HB.out.size
            have hc2 : w2.cell? ⟨b, off + k, none⟩ = some (.int .i64 x) := (World.cell?_of_block (w := wr) (g2.block b hbr (by simp; omega))).trans ((HB.out.cell hbw).trans hcell0)
            clear hcell0
            unfold sigV
            go_wp2_with fail
            have hkl : (k : Int) < (len : Int) := by omega
            have hb2 : b < w2.heap.size := Nat.lt_of_lt_of_le hbr g2.size
            have hc3 : (w2.alloc (.cells #[.int .i64 0, .int .i64 x] 29)).cell? ⟨b, off + k, none⟩ = some (.int .i64 x) := ((Below.refl _ _).alloc (Nat.le_refl _) _ |>.cell hb2).trans hc2
            go_quiet (fail)
            go_wp2_with fail
            go_roundw
            case rel =>
              refine ⟨k + 1, by omega, by go_num, ?_, q2.below (belowN ((Below.refl _ _).alloc (Nat.le_refl _) _) nq)⟩
              exact belowN ((HB.out.grown g2 HB.out.size (fun k hk => by cases hk; exact Nat.le_refl _)).alloc (by have := HB.out.size; have := g2.size; omega) _) nq
            case measure => simp [intOf]; omega
          · obtain rfl : k = j := by omega
            have e : (z.take k).drop k = [] := List.drop_eq_nil_of_le (by simp; omega)
            rw [e] at hq2
            clear e
            go_wp2_with fail
            refine (Take_none _ _ _ _ hq2).mono ?_
            rintro e w3 ⟨rfl, b3, q3⟩
            unfold sigV
            have HB3 := Lib.hid (HB.out.trans (b3.mono HB.out.size))
            clear b3 HB
            go_wp2_with fail
            refine (sigAnswers _).mono ?_
            rintro e w4 ⟨rfl, b4⟩
            have HB4 := Lib.hid ((HB3.out.alloc HB3.out.size _).trans (b4.mono (by have := HB3.out.size; simp; omega)))
            clear b4 HB3
            go_wp2_with fail
            go_ret
            exact ⟨rfl, HB4.out⟩

theorem order_row (a : Option Addr) (len cap : Nat) (z : List Int) (w : World) (hz : Open.RowsAt w encI 1 a len cap z) (_ : ∀ x ∈ z, wfI x) :
    Calls Try.prog 5 #[.slice a len cap] w fun e w' => e = .returned (.bool true) ∧ Below w.heap.size w w' := order_walk a len cap z w hz
end Go.Proofs.Ytfjknnejafdfpaa
