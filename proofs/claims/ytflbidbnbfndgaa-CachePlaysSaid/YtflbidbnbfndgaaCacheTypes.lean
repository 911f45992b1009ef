/- The cache's types: its keys as map keys. -/
import Derived.Test.YtflbidbnbfndgaaCacheKeys
namespace Go.Proofs.Ytflbidbnbfndgaa
open Go Go.RowKit

set_option maxHeartbeats 400000 in
theorem pairKey : PairType Try.prog 23 where
  eq x y w := by
    have u3 := Try.underlying3
    have a3 := Try.isAgg3
    have z3 := Try.sizeOf3
    have hS : Try.prog.underlying 23 = some (.struct (Try.prog.fieldsOf 23)) := by kernel_rfl
    have hp : Try.prog.stoodInHeld 23 = false := by kernel_rfl
    show (Op.equalIn (9999 + 1) 23 (encPair x) (encPair y)).run Try.prog w = _
    simp only [encPair]
    rw [run_equalIn_struct w 9999 23 _ _ hS hp]
    simp only [Program.fieldsOf, Try.underlying23]
    go_simp
    by_cases h1 : x.fst = y.fst <;> by_cases h2 : x.snd = y.snd <;> simp [h1, h2]
  check k b w := by
    have u3 := Try.underlying3
    have a3 := Try.isAgg3
    have z3 := Try.sizeOf3
    have h : ∀ n, (Instr.checkKey b (n + 2) 23 (encPair k)).run Try.prog w = .ok () w := fun n => by
      simp [Instr.checkKey, run_underlying Try.underlying23, encPair]
      go_simp
    exact h 9998
  desc := ⟨_, Try.underlying23⟩

/-- What a page has: its frame, and whether it is not on the disk. -/
def encWhere (x : Int × Bool) : Value := .agg #[.int .i64 x.1, .bool x.2]

theorem lawBy : KeyLaw Try.prog 23 encPair := key_pair pairKey
theorem lawOf : KeyLaw Try.prog 3 encInt := key_int Try.underlying3
theorem zeroWhere (w : World) : (zeroValue 83).run Try.prog w = .ok (encWhere (0, false)) w := by kernel_rfl
theorem zeroKey (w : World) : (zeroValue 23).run Try.prog w = .ok (encPair (0, 0)) w := by kernel_rfl

/-- A cache: a block with two maps. -/
def CacheAt (w : World) (p m1 m2 : Nat) (l : List ((Int × Int) × (Int × Bool))) (r : List (Int × (Int × Int))) : Prop :=
  w.cell? ⟨p, 0, none⟩ = some (.map (some m1)) ∧ w.cell? ⟨p, 1, none⟩ = some (.map (some m2)) ∧ MapAt w m1 encPair encWhere l ∧ MapAt w m2 encInt encPair r ∧ m1 ≠ m2

theorem there_walk (w : World) (p m1 m2 : Nat) (l : List ((Int × Int) × (Int × Bool))) (r : List (Int × (Int × Int))) (h : CacheAt w p m1 m2 l r) (k : Int × Int) :
    Calls Try.prog 45 #[.pointer (some ⟨p, 0, none⟩), .agg #[.int .i64 k.1, .int .i64 k.2]] w fun e w' => e = .returned (.tuple #[encWhere ((getL l k).getD (0, false)), .bool (getL l k).isSome]) ∧ Below w.heap.size w w' := by
  obtain ⟨h0, h1, hM, hR, hne⟩ := h
  have hp : p < w.heap.size := World.block_lt_of_cell? w _ h0
  obtain ⟨x, hx⟩ : ∃ x, x = (getL l k).getD (0, false) := ⟨_, rfl⟩
  obtain ⟨b, hb⟩ : ∃ b, b = (getL l k).isSome := ⟨_, rfl⟩
  have run : ∀ W, Below w.heap.size w W → (Instr.lookup 78 (.map (some m1)) (.agg #[.int .i64 k.1, .int .i64 k.2]) true).run Try.prog W = .ok (.tuple #[.agg #[.int .i64 x.1, .bool x.2], .bool b]) W := fun W hW => by
    have := lookup_run (T := 78) lawBy Try.underlying78 (encWhere (0, false)) zeroWhere (hM.below hW) k true
    rw [if_pos rfl] at this
    rw [hb]
    refine this.trans ?_
    rw [hx]
    cases getL l k <;> rfl
  rw [← hx, ← hb]
  have HB := Lib.hid run
  clear run hx hb hM hR
  unfold encWhere
  go_enter Try.func45, Try.ntmps45
  go_wp2_with fail
  have hb1 : Below w.heap.size w ((w.alloc (.cells #[.int .i64 k.1, .int .i64 k.2] 23)).alloc (.cells #[.int .i64 0, .bool false] 83)) := ((Below.refl _ _).alloc (Nat.le_refl _) _).alloc (by simp) _
  have p0 : ((w.alloc (.cells #[.int .i64 k.1, .int .i64 k.2] 23)).alloc (.cells #[.int .i64 0, .bool false] 83)).cell? ⟨w.heap.size, 0, none⟩ = some (.int .i64 k.1) := by go_simp
  have p1 : ((w.alloc (.cells #[.int .i64 k.1, .int .i64 k.2] 23)).alloc (.cells #[.int .i64 0, .bool false] 83)).cell? ⟨w.heap.size, 1, none⟩ = some (.int .i64 k.2) := by go_simp
  have r0 : ((w.alloc (.cells #[.int .i64 k.1, .int .i64 k.2] 23)).alloc (.cells #[.int .i64 0, .bool false] 83)).heap[w.heap.size + 1]? = some (.cells #[.int .i64 0, .bool false] 83 (0, 0)) := by
    have := heap_alloc_new (w.alloc (.cells #[.int .i64 k.1, .int .i64 k.2] 23)) (.cells #[.int .i64 0, .bool false] 83)
    rwa [World.size_alloc] at this
  have hsz : ((w.alloc (.cells #[.int .i64 k.1, .int .i64 k.2] 23)).alloc (.cells #[.int .i64 0, .bool false] 83)).heap.size = w.heap.size + 2 := by simp
  generalize (w.alloc (.cells #[.int .i64 k.1, .int .i64 k.2] 23)).alloc (.cells #[.int .i64 0, .bool false] 83) = W at hb1 p0 p1 r0 hsz ⊢
  have g0 := (hb1.cell hp).trans h0
  have al : ∀ o (a : Addr), a.block < W.heap.size → (W.alloc o).cell? a = W.cell? a := fun o a ha => ((Below.refl _ W).alloc (Nat.le_refl _) o).cell ha
  have G0 := fun o => (al o ⟨p, 0, none⟩ (by simp; omega)).trans g0
  have P0 := fun o => (al o ⟨w.heap.size, 0, none⟩ (by simp; omega)).trans p0
  have P1 := fun o => (al o ⟨w.heap.size, 1, none⟩ (by simp; omega)).trans p1
  have e1 := HB.out W.drew hb1.drew
  have e2 := fun o => HB.out (W.alloc o).drew (hb1.alloc hb1.size o).drew
  have HBW := Lib.hid hb1
  clear al h0 h1 hb1
  have HR := Lib.hid r0
  have HS := Lib.hid hsz
  clear r0 hsz
  go_region
  have f0 : W.cell? ⟨w.heap.size + 1, 0, none⟩ = some (.int .i64 0) := by rw [cell_of_row W _ 0 _ _ _ HR.out]; rfl
  have f1 : W.cell? ⟨w.heap.size + 1, 1, none⟩ = some (.bool false) := by rw [cell_of_row W _ 1 _ _ _ HR.out]; rfl
  have q0 : W.frozen? ⟨w.heap.size + 1, 0, none⟩ = false := by simp [World.frozen?, HR.out]
  have q1 : W.frozen? ⟨w.heap.size + 1, 1, none⟩ = false := by simp [World.frozen?, HR.out]
  have hlt1 : w.heap.size + 1 < W.heap.size := by have := HS.out; omega
  clear e1 e2 G0 P0 P1 p0 p1 g0
  have hb : Below w.heap.size w W := HBW.out
  go_wp2_with fail
  refine bodyPost_ret (v := .tuple #[.agg #[.int .i64 x.1, .bool x.2], .bool b]) (by simp [results, Try.results45, go_sem, hlt1, f0, f1]) rfl ⟨rfl, ?_⟩
  exact (((hb.setCell (by simp) _).setCell (by simp) _).alloc (by have := hb.size; simpa using this) _).drew

theorem there_nil (w : World) (k : Int × Int) :
    Calls Try.prog 45 #[.pointer none, .agg #[.int .i64 k.1, .int .i64 k.2]] w fun e w' => e = .returned (.tuple #[encWhere (0, false), .bool false]) ∧ Below w.heap.size w w' := by
  unfold encWhere
  go_enter Try.func45, Try.ntmps45
  go_wp2_with fail
  exact bodyPost_ret (v := .tuple #[.agg #[.int .i64 0, .bool false], .bool false]) (by simp [results, Try.results45, go_sem]) rfl ⟨rfl, ((Below.refl _ _).alloc (Nat.le_refl _) _).alloc (by simp) _⟩
end Go.Proofs.Ytflbidbnbfndgaa
