/- Back's functions: Of, and all of them on none. -/
import Derived.Test.YtflbidbnbfndgaaBackLib
import Derived.Test.YtflbidbnbfndgaaPlaceCalls
import Derived.Deep.RegionHeld
import Derived.Deep.RegionLaw
namespace Go.Proofs.Ytflbidbnbfndgaa
open Go Go.RowKit

variable {K : Int → Prop}

theorem BOf_walk (w : World) (p m : Nat) (S : List Nat) (V : List (Int × Value)) (L : Int → List (Int × Int)) (h : BackAt K w p m S V L) (f : Int) (hlen : (L f).length ≤ 1000000) :
    Calls Try.prog 30 #[.pointer (some ⟨p, 0, none⟩), .int .i64 f] w fun e w' => ∃ v', e = .returned v' ∧ PlAt w' v' (L f) ∧ Below w.heap.size w w' ∧ ∀ b, v'.ownBlock = some b → w.heap.size ≤ b := by
  have hc := h.c0
  have hp := h.ps.1
  have hlk := h.look f
  have hlkd : ∀ n, (Instr.lookup 87 (.map (some m)) (.int .i64 f) false).run Try.prog (w.drewN n) = .ok (slotB V f) (w.drewN n) := fun n => (h.below (below_drewN' (Below.refl _ _) n)).look f
  have cl := Lib.hid (fun W (hW : Below w.heap.size w W) => Clone_walk W (slotB V f) (L f) ((h.at_ f).below hW) hlen)
  clear h
  go_enter Try.func30, Try.ntmps30
  go_wp2_with fail
  refine (cl.out _ (Below.refl _ _)).mono ?_
  rintro e w2 ⟨v2, rfl, hp2, hb2, ho2⟩
  have H2 := Lib.hid (And.intro hp2 (And.intro hb2 ho2))
  clear hp2 hb2 ho2
  go_wp2_with fail
  refine (Clip_walk w2 v2 (L f) H2.out.1).mono ?_
  rintro e w3 ⟨v3, rfl, hp3, rfl, ho3⟩
  have H3 := Lib.hid (And.intro hp3 ho3)
  clear hp3 ho3
  go_wp2_with fail
  go_ret
  exact ⟨v3, rfl, H3.out.1, H2.out.2.1, fun b hb => H2.out.2.2 b (by rw [← H3.out.2]; exact hb)⟩

theorem BOf_nil (w : World) (f : Int) : Calls Try.prog 30 #[.pointer none, .int .i64 f] w fun e w' => e = .returned (.slice none 0 0) ∧ w' = w := by
  go_enter Try.func30, Try.ntmps30
  go_wp2_with fail
  go_ret
  exact ⟨rfl, rfl⟩
theorem BAdd_nil (w : World) (f : Int) (x : Int × Int) : Calls Try.prog 26 #[.pointer none, .int .i64 f, .agg #[.int .i64 x.1, .int .i64 x.2]] w fun e w' => e = .returned (.tuple #[]) ∧ Below w.heap.size w w' := by
  go_enter Try.func26, Try.ntmps26
  go_wp2_with fail
  go_region
  all_goals go_wp2_with fail
  exact bodyPost_ret (v := .tuple #[]) (by simp [results, Try.results26, go_sem]) rfl ⟨rfl, ((Below.refl _ _).alloc (Nat.le_refl _) _).drew⟩
theorem BDrop_nil (w : World) (f : Int) (x : Int × Int) : Calls Try.prog 43 #[.pointer none, .int .i64 f, .agg #[.int .i64 x.1, .int .i64 x.2]] w fun e w' => e = .returned (.bool false) ∧ Below w.heap.size w w' := by
  go_enter Try.func43, Try.ntmps43
  go_wp2_with fail
  go_ret
  exact ⟨rfl, (Below.refl _ _).alloc (Nat.le_refl _) _⟩
theorem BFrames_nil (w : World) (f : Int) : Calls Try.prog 44 #[.pointer none, .int .i64 f] w fun e w' => e = .returned (.slice none 0 0) ∧ Below w.heap.size w w' := by
  go_enter Try.func44, Try.ntmps44
  go_wp2_with fail
  go_ret
  exact ⟨rfl, (Below.refl _ _).alloc (Nat.le_refl _) _⟩
theorem BMove_nil (w : World) (f g : Int) : Calls Try.prog 28 #[.pointer none, .int .i64 f, .int .i64 g] w fun e w' => e = .returned (.bool false) ∧ w' = w := by
  go_enter Try.func28, Try.ntmps28
  go_wp2_with fail
  refine (BOf_nil _ f).mono ?_
  rintro e w1 ⟨rfl, rfl⟩
  go_wp2_with fail
  go_ret
  exact ⟨rfl, rfl⟩
end Go.Proofs.Ytflbidbnbfndgaa
