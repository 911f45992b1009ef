/- Worlds that differ in some blocks alone. No program in it. -/
import Derived.Test.YtflbidbnbfndgaaHeap
namespace Go.Proofs.Ytflbidbnbfndgaa
open Go Go.RowKit

/-- Of what was there only the blocks of a list may have changed. -/
structure Touch (S : List Nat) (w w' : World) : Prop where
  os : w'.os = w.os
  tape : w'.tape = w.tape
  output : w'.output = w.output
  size : w.heap.size ≤ w'.heap.size
  block : ∀ k, k < w.heap.size → k ∉ S → w'.heap[k]? = w.heap[k]?

theorem Touch.refl (S : List Nat) (w : World) : Touch S w w := ⟨rfl, rfl, rfl, Nat.le_refl _, fun _ _ _ => rfl⟩
theorem Touch.trans {S : List Nat} {a b c : World} (h : Touch S a b) (k : Touch S b c) : Touch S a c :=
  ⟨k.os.trans h.os, k.tape.trans h.tape, k.output.trans h.output, Nat.le_trans h.size k.size, fun i hi hn => (k.block i (Nat.lt_of_lt_of_le hi h.size) hn).trans (h.block i hi hn)⟩
theorem Touch.mono {S S' : List Nat} {a b : World} (h : Touch S a b) (hs : ∀ k, k < a.heap.size → k ∈ S → k ∈ S') : Touch S' a b :=
  ⟨h.os, h.tape, h.output, h.size, fun i hi hn => h.block i hi (fun e => hn (hs i hi e))⟩
theorem Touch.of_below {S : List Nat} {a b : World} (h : Below a.heap.size a b) : Touch S a b := ⟨h.os, h.tape, h.output, h.size, fun i hi _ => h.block i hi⟩
theorem Touch.of_grown {S : List Nat} {a b : World} {m : Nat} (h : a.grownBy b (some m)) (hm : m ∈ S) : Touch S a b := ⟨h.os, h.tape, h.output, h.size, fun i hi hn => h.block i hi (fun e => by cases e; exact hn hm)⟩
theorem Touch.of_grown_none {S : List Nat} {a b : World} (h : a.grownBy b none) : Touch S a b := ⟨h.os, h.tape, h.output, h.size, fun i hi _ => h.block i hi (by simp)⟩
theorem Touch.of_grown_own {S : List Nat} {a b : World} {r : Option Nat} (h : a.grownBy b r) (hm : ∀ m, r = some m → m ∈ S) : Touch S a b := ⟨h.os, h.tape, h.output, h.size, fun i hi hn => h.block i hi (fun e => hn (hm i e.symm))⟩
theorem Touch.below {a b : World} (h : Touch [] a b) : Below a.heap.size a b := ⟨h.os, h.tape, h.output, h.size, fun i hi => h.block i hi (by simp)⟩
/-- What is new since a world, and what is touched in new blocks alone, leaves that world's blocks. -/
theorem Touch.from {S : List Nat} {B : Nat} {a b c : World} (h : Below B a b) (k : Touch S b c) (hB : B ≤ b.heap.size) (hs : ∀ i ∈ S, B ≤ i) : Below B a c :=
  h.trans ⟨k.os, k.tape, k.output, k.size, fun i hi => k.block i (by omega) (fun e => by have := hs i e; omega)⟩
theorem Touch.alloc {S : List Nat} {a b : World} (h : Touch S a b) (o : Obj) : Touch S a (b.alloc o) := h.trans (.of_below ((Below.refl _ _).alloc (Nat.le_refl _) o))
theorem Touch.drew {S : List Nat} {a b : World} (h : Touch S a b) : Touch S a b.drew := h.trans (.of_below (Below.refl _ _).drew)
theorem Touch.drewN {S : List Nat} {a b : World} (h : Touch S a b) (n : Nat) : Touch S a (b.drewN n) := h.trans (.of_below (below_drewN' (Below.refl _ _) n))
theorem Touch.setNew {S : List Nat} {a b : World} (h : Touch S a b) {p : Addr} (hp : a.heap.size ≤ p.block) (u : Value) : Touch S a (b.setCell p u) :=
  ⟨h.os, h.tape, h.output, by simp only [World.setCell, Array.size_modify]; exact h.size, fun i hi hn => (Below.heap_setCell b p u i (by omega)).trans (h.block i hi hn)⟩
theorem Touch.set {S : List Nat} {a b : World} (h : Touch S a b) {p : Addr} (hp : p.block ∈ S) (u : Value) : Touch S a (b.setCell p u) :=
  ⟨h.os, h.tape, h.output, by simp only [World.setCell, Array.size_modify]; exact h.size, fun i hi hn => (Below.heap_setCell b p u i (fun e => hn (e ▸ hp))).trans (h.block i hi hn)⟩
theorem Touch.cell {S : List Nat} {a b : World} (h : Touch S a b) {p : Addr} {v : Value} (hc : a.cell? p = some v) (hn : p.block ∉ S) : b.cell? p = some v :=
  (World.cell?_of_block (w := a) (h.block p.block (World.block_lt_of_cell? a p hc) hn)).trans hc
end Go.Proofs.Ytflbidbnbfndgaa
