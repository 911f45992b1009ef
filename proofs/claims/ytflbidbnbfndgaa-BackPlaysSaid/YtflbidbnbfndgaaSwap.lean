/- Swap: 32 slices of places in one block; what its functions answer and make of it. -/
import Derived.Test.YtflbidbnbfndgaaPlaceSortC
import Derived.Test.YtflbidbnbfndgaaHeap
import Derived.Deep.RegionHeld
import Derived.Deep.RegionLaw
namespace Go.Proofs.Ytflbidbnbfndgaa
open Go Go.RowKit

/-- append, its run known, as one step of a region that draws. -/
theorem step_append_run {P : Program} {ops : Array Oper} {o : Oper} {a : Act} {w : World} {K : Act → World → Prop} {Q : Exit → Act → World → Prop} {E : Prop}
    (hg : o.guard = none) (s x : Operand) (t : TypeId) (hop : o.op = Op.call { callee := Callee.builtin Builtin.append, args := #[s, x], argTypes := #[t, t] })
    (v sv v' : Value) (w' : World) (hs : a.eval s = v) (hx : a.eval x = sv) (hr : (Builtin.append_ #[t, t] o.type #[v, sv]).run P w = .ok v' w')
    (hK : K (a.put o.dst v') w') : if Region.wanted o (yielded ops a.tmps) = true then Oper.wp P o a w K Q else E := by
  have hw : Region.wanted o (yielded ops a.tmps) = true := by simp [Region.wanted, hg]
  rw [if_pos hw]
  unfold Oper.wp
  simp [execOp, hop, resolve, invoke, builtin, hs, hx, hr, Result.andThen]
  exact hK

structure SwapAt (w : World) (p : Nat) (S : List Nat) (V : List Value) (L : List (List (Int × Int))) : Prop where
  blk : ∃ T, w.heap[p]? = some (.cells V.toArray T (0, 0))
  lenV : V.length = 32
  lenL : L.length = 32
  at_ : ∀ (i : Nat) (v : Value) (l : List (Int × Int)), V[i]? = some v → L[i]? = some l → PlAt w v l
  own : ∀ (i : Nat) (v : Value) (b : Nat), V[i]? = some v → v.ownBlock = some b → b ∈ S ∧ b ≠ p
  inj : ∀ (i j : Nat) (u v : Value) (b : Nat), V[i]? = some u → V[j]? = some v → u.ownBlock = some b → v.ownBlock = some b → i = j
  pin : p ∈ S

theorem SwapAt.touch {w w' : World} {p : Nat} {S S0 : List Nat} {V : List Value} {L : List (List (Int × Int))} (h : SwapAt w p S V L) (t : Touch S0 w w') (hn : ∀ b ∈ S, b ∉ S0) : SwapAt w' p S V L := by
  obtain ⟨⟨T, hb⟩, h2, h3, h4, h5, h6, h7⟩ := h
  exact ⟨⟨T, (t.block p (Array.getElem?_eq_some_iff.1 hb).1 (hn p h7)).trans hb⟩, h2, h3, fun i v l hv hl => (h4 i v l hv hl).touch t fun b hb => hn b (h5 i v b hv hb).1, h5, h6, h7⟩
theorem SwapAt.below {w w' : World} {p : Nat} {S : List Nat} {V : List Value} {L : List (List (Int × Int))} (h : SwapAt w p S V L) (hb : Below w.heap.size w w') : SwapAt w' p S V L :=
  h.touch (Touch.of_below (S := []) hb) (by simp)

/-- One slot anew. -/
theorem SwapAt.put {w w' : World} {p : Nat} {S : List Nat} {V : List Value} {L : List (List (Int × Int))} (h : SwapAt w p S V L) {k : Nat} {v v' : Value} {l' : List (Int × Int)} (hv : V[k]? = some v)
    (hp : ∃ T, w'.heap[p]? = some (.cells (V.set k v').toArray T (0, 0))) (hl : PlAt w' v' l') (hown : ∀ b, v'.ownBlock = some b → v.ownBlock = some b ∨ w.heap.size ≤ b)
    (hrest : ∀ j, j < w.heap.size → j ≠ p → v.ownBlock ≠ some j → w'.heap[j]? = w.heap[j]?) (ho : w'.os = w.os) (ht : w'.tape = w.tape) (hout : w'.output = w.output) (hs : w.heap.size ≤ w'.heap.size) :
    ∃ S' V', SwapAt w' p S' V' (L.set k l') ∧ Touch S w w' ∧ ∀ b ∈ S', b ∈ S ∨ w.heap.size ≤ b := by
  have hk : k < 32 := by have := (List.getElem?_eq_some_iff.1 hv).1; rw [h.lenV] at this; exact this
  have hpw : p < w.heap.size := by obtain ⟨T, hb⟩ := h.blk; exact (Array.getElem?_eq_some_iff.1 hb).1
  have hlt : ∀ (i : Nat) (u : Value) (b : Nat), V[i]? = some u → u.ownBlock = some b → b < w.heap.size := fun i u b hu hb => by
    have hi : i < L.length := by rw [h.lenL, ← h.lenV]; exact (List.getElem?_eq_some_iff.1 hu).1
    exact SlAt.lt (h.at_ i u _ hu (List.getElem?_eq_getElem hi)) b hb
  obtain ⟨S', hS', hS2⟩ : ∃ S' : List Nat, (∀ b, b ∈ S' ↔ b ∈ S ∨ v'.ownBlock = some b) ∧ True := by
    cases e : v'.ownBlock with
    | none => exact ⟨S, by simp, trivial⟩
    | some b => exact ⟨b :: S, by intro c; simp [eq_comm, or_comm], trivial⟩
  refine ⟨S', V.set k v', ⟨hp, by simp [h.lenV], by simp [h.lenL], ?_, ?_, ?_, (hS' p).2 (.inl h.pin)⟩, ⟨ho, ht, hout, hs, fun j hj hn => hrest j hj (fun e => hn (e ▸ h.pin)) (fun e => hn (h.own k v j hv e).1)⟩, fun b hb => ?_⟩
  · intro i u m hu hm
    by_cases hik : i = k
    · subst hik
      rw [List.getElem?_set_self (by rw [h.lenV]; exact hk)] at hu
      rw [List.getElem?_set_self (by rw [h.lenL]; exact hk)] at hm
      cases hu; cases hm
      exact hl
    · rw [List.getElem?_set_ne (Ne.symm hik)] at hu hm
      refine (h.at_ i u m hu hm).keep fun b hb => hrest b (hlt i u b hu hb) (h.own i u b hu hb).2 (fun e => hik (h.inj i k u v b hu hv hb e))
  · intro i u b hu hb
    by_cases hik : i = k
    · subst hik
      rw [List.getElem?_set_self (by rw [h.lenV]; exact hk)] at hu
      cases hu
      refine ⟨(hS' b).2 (.inr hb), ?_⟩
      rcases hown b hb with e | e
      · exact (h.own i v b hv e).2
      · omega
    · rw [List.getElem?_set_ne (Ne.symm hik)] at hu
      exact ⟨(hS' b).2 (.inl (h.own i u b hu hb).1), (h.own i u b hu hb).2⟩
  · have key : ∀ (i : Nat) (u : Value) (b : Nat), i ≠ k → V[i]? = some u → u.ownBlock = some b → v'.ownBlock = some b → False := fun i u b hik hu hb hb' => by
      rcases hown b hb' with e | e
      · exact hik (h.inj i k u v b hu hv hb e)
      · have := hlt i u b hu hb; omega
    intro i j u u' b hu hu' hb hb'
    by_cases hik : i = k
    · subst hik
      rw [List.getElem?_set_self (by rw [h.lenV]; exact hk)] at hu
      cases hu
      by_cases hjk : j = i
      · exact hjk.symm
      · rw [List.getElem?_set_ne (Ne.symm hjk)] at hu'
        exact (key j u' b hjk hu' hb' hb).elim
    · rw [List.getElem?_set_ne (Ne.symm hik)] at hu
      by_cases hjk : j = k
      · subst hjk
        rw [List.getElem?_set_self (by rw [h.lenV]; exact hk)] at hu'
        cases hu'
        exact (key i u b hik hu hb hb').elim
      · rw [List.getElem?_set_ne (Ne.symm hjk)] at hu'
        exact h.inj i j u u' b hu hu' hb hb'
  · rcases (hS' b).1 hb with hb | hb
    · exact .inl hb
    · rcases hown b hb with e | e
      · exact .inl (h.own k v b hv e).1
      · exact .inr e

theorem row_setCell {w : World} {p k : Nat} {V : List Value} {T : TypeId} (h : w.heap[p]? = some (.cells V.toArray T (0, 0))) (v : Value) : (w.setCell ⟨p, k, none⟩ v).heap[p]? = some (.cells (V.set k v).toArray T (0, 0)) := by
  unfold World.setCell
  simp only [Array.getElem?_modify, if_true, h]
  simp

theorem there_yes (w : World) (p : Nat) (k : Nat) (hk : k < 32) : Calls Try.prog 51 #[.pointer (some ⟨p, 0, none⟩), .int .i64 k] w fun e w' => e = .returned (.bool true) ∧ w' = w := by
  have h0 : (0 : Int) ≤ k := by omega
  have h1 : (k : Int) < 32 := by omega
  go_enter Try.func51, Try.ntmps51
  go_wp2_with fail
  go_ret
  exact ⟨rfl, rfl⟩
theorem there_no (w : World) (p : Nat) (n : Int) (hn : n < 0 ∨ 32 ≤ n) : Calls Try.prog 51 #[.pointer (some ⟨p, 0, none⟩), .int .i64 n] w fun e w' => e = .returned (.bool false) ∧ w' = w := by
  by_cases h0 : n < 0
  · have h0' : ¬ (0 : Int) ≤ n := by omega
    clear hn
    go_enter Try.func51, Try.ntmps51
    go_wp2_with fail
    go_ret
    exact ⟨rfl, rfl⟩
  · have h0' : (0 : Int) ≤ n := by omega
    have h1 : ¬ n < 32 := by omega
    clear hn h0
    go_enter Try.func51, Try.ntmps51
    go_wp2_with fail
    go_ret
    exact ⟨rfl, rfl⟩
theorem there_nil' (w : World) (n : Int) : Calls Try.prog 51 #[.pointer none, .int .i64 n] w fun e w' => e = .returned (.bool false) ∧ w' = w := by
  go_enter Try.func51, Try.ntmps51
  go_wp2_with fail
  go_ret
  exact ⟨rfl, rfl⟩

theorem Swap_new (w : World) : Calls Try.prog 31 #[] w fun e w' => e = .returned (.pointer (some ⟨w.heap.size, 0, none⟩)) ∧ SwapAt w' w.heap.size [w.heap.size] (List.replicate 32 (.slice none 0 0)) (List.replicate 32 []) ∧ Below w.heap.size w w' ∧ w'.heap.size = w.heap.size + 1 := by
  go_enter Try.func31, Try.ntmps31
  go_wp2_with fail
  go_ret
  refine ⟨rfl, ⟨⟨_, heap_alloc_new w _⟩, by simp, by simp, ?_, ?_, ?_, by simp⟩, (Below.refl _ _).alloc (Nat.le_refl _) _, by simp⟩
  · intro i v l hv hl
    simp only [List.getElem?_replicate] at hv hl
    split at hv
    · rw [if_pos ‹_›] at hl; cases hv; cases hl; exact PlAt.nil _
    · cases hv
  · intro i v b hv hb
    simp only [List.getElem?_replicate] at hv
    split at hv
    · cases hv; simp [Value.ownBlock] at hb
    · cases hv
  · intro i j u v b hu hv hb
    simp only [List.getElem?_replicate] at hu
    split at hu
    · cases hu; simp [Value.ownBlock] at hb
    · cases hu

theorem set_same {α : Type} {L : List α} {k : Nat} {l : α} (h : L[k]? = some l) : L.set k l = L := by
  obtain ⟨hk, e⟩ := List.getElem?_eq_some_iff.1 h
  subst e
  exact List.set_getElem_self hk

set_option maxHeartbeats 1000000 in
theorem Hold_walk (w : World) (p : Nat) (S : List Nat) (V : List Value) (L : List (List (Int × Int))) (h : SwapAt w p S V L) (k : Nat) (l : List (Int × Int)) (hl : L[k]? = some l) (x : Int × Int) (hs : SortedP l) (hlen : l.length ≤ 100000) :
    Calls Try.prog 33 #[.pointer (some ⟨p, 0, none⟩), .int .i64 k, .agg #[.int .i64 x.1, .int .i64 x.2]] w fun e w' => e = .returned (.bool true) ∧ ∃ S' V', SwapAt w' p S' V' (L.set k (putP l x)) ∧ Touch S w w' ∧ ∀ b ∈ S', b ∈ S ∨ w.heap.size ≤ b := by
  have hk : k < 32 := by have := (List.getElem?_eq_some_iff.1 hl).1; rw [h.lenL] at this; exact this
  obtain ⟨v, hv⟩ : ∃ v, V[k]? = some v := ⟨_, List.getElem?_eq_getElem (by rw [h.lenV]; exact hk)⟩
  obtain ⟨T, hblk⟩ := h.blk
  have hp : p < w.heap.size := (Array.getElem?_eq_some_iff.1 hblk).1
  have hc : w.cell? ⟨p, k, none⟩ = some v := by rw [cell_of_row w p k _ _ _ hblk]; simpa using hv
  have hpl := h.at_ k v l hv hl
  have H := Lib.hid h
  have HPL := Lib.hid hpl
  clear h hpl
  have hk0 : (0 : Int) ≤ k := by omega
  have hk1 : (k : Int) < 32 := by omega
  go_enter Try.func33, Try.ntmps33
  go_wp2_with fail
  refine (there_yes _ _ k hk).mono ?_
  rintro e w1 ⟨rfl, rfl⟩
  go_wp2_with fail
  obtain ⟨W, hW⟩ : ∃ W, W = (w.alloc (.cells #[.int .i64 x.1, .int .i64 x.2] 40)).drew := ⟨_, rfl⟩
  have q0 : W.cell? ⟨p, k, none⟩ = some v := by rw [hW]; go_simp
  have q1 : W.cell? ⟨w.heap.size, 0, none⟩ = some (.int .i64 x.1) := by rw [hW]; go_simp
  have q2 : W.cell? ⟨w.heap.size, 1, none⟩ = some (.int .i64 x.2) := by rw [hW]; go_simp
  have hBW : Hid (Below w.heap.size w W ∧ W.heap.size = w.heap.size + 1) := by
    rw [hW]
    exact ⟨((Below.refl _ _).alloc (Nat.le_refl _) _).drew, by show (w.alloc _).heap.size = _; simp⟩
  have hd : (w.alloc (.cells #[.int .i64 x.1, .int .i64 x.2] 40)).drew = W := hW.symm
  clear hW hc
  have cC : Hid (∀ W', Below w.heap.size w W' → Calls Try.prog 46 #[v, .agg #[.int .i64 x.1, .int .i64 x.2]] W' fun e w' => e = .returned (.bool (decide (x ∈ l))) ∧ Below W'.heap.size W' w') := fun W' hb => Contains_walk W' v l (HPL.out.below hb) x
  clear hblk
  by_cases hx : x ∈ l
  · rw [decide_eq_true hx] at cC
    have hput : putP l x = l := by unfold putP; rw [if_pos hx]
    have hset : L.set k (putP l x) = L := by rw [hput]; exact set_same hl
    go_region_held (fun W' => W'.cell? ⟨p, k, none⟩ = some v ∧ W'.cell? ⟨w.heap.size, 0, none⟩ = some (.int .i64 x.1) ∧ W'.cell? ⟨w.heap.size, 1, none⟩ = some (.int .i64 x.2)) (go_keep)
      ((go_at_call 46; refine (cC.out _ hBW.out.1).mono ?_; rintro e w2 ⟨rfl, hb2⟩; have hb3 := Lib.hid hb2; have q0' := (hb2.cell (World.block_lt_of_cell? _ _ q0)).trans q0; have q1' := (hb2.cell (World.block_lt_of_cell? _ _ q1)).trans q1; have q2' := (hb2.cell (World.block_lt_of_cell? _ _ q2)).trans q2; clear hb2))
    go_wp2_with fail
    go_ret
    have hB : Below w.heap.size w w2 := hBW.out.1.trans (hb3.out.mono (by rw [hBW.out.2]; omega))
    rw [hset]
    exact ⟨rfl, S, V, H.out.below hB, Touch.of_below hB, fun b hb => .inl hb⟩
  · rw [decide_eq_false hx] at cC
    go_region_held (fun W' => W'.cell? ⟨p, k, none⟩ = some v ∧ W'.cell? ⟨w.heap.size, 0, none⟩ = some (.int .i64 x.1) ∧ W'.cell? ⟨w.heap.size, 1, none⟩ = some (.int .i64 x.2)) (go_keep)
      ((go_at_call 46; refine (cC.out _ hBW.out.1).mono ?_; rintro e w2 ⟨rfl, hb2⟩; have hb3 := Lib.hid hb2; have q0' := (hb2.cell (World.block_lt_of_cell? _ _ q0)).trans q0; have q1' := (hb2.cell (World.block_lt_of_cell? _ _ q1)).trans q1; have q2' := (hb2.cell (World.block_lt_of_cell? _ _ q2)).trans q2; clear hb2))
    have hB2 := Lib.hid (hBW.out.1.trans (hb3.out.mono (by rw [hBW.out.2]; omega)))
    clear q0 q1 q2 cC
    go_wp2_with fail
    -- the append
    obtain ⟨i0, hi0, hz0, hs0, hb0⟩ := infoPlace
    have hsw2 := H.out.below hB2.out
    have hp2 : PlAt w2 v l := hsw2.at_ k v l hv hl
    obtain ⟨T2, hblk2⟩ := hsw2.blk
    obtain ⟨w2a, hw2a⟩ : ∃ w2a, w2a = (w2.alloc (.cells #[.int .i64 x.1, .int .i64 x.2] 40)).drew := ⟨_, rfl⟩
    have hb2a : Below w2.heap.size w2 w2a := by rw [hw2a]; exact ((Below.refl _ _).alloc (Nat.le_refl _) _).drew
    obtain ⟨v', w3, hr, hsl, hgr, hown⟩ := run_append_sl (P := Try.prog) w2a 35 35 40 i0 _ 2 16 Try.underlying35 hi0 hz0 hs0 hb0 rfl v l.length (pl l) (hp2.below hb2a) ⟨w2.heap.size, 0, none⟩ 1 1 (pl [x]) rfl (by
        rw [hw2a]
        intro j u hu
        exact cells_new w2 40 (pl [x]) j u hu) (pl_one [x]) (by simp only [maxLen]; omega) (by omega)
    have hp3 : PlAt w3 v' (l ++ [x]) := by
      show SlAt _ _ _ _ _ _
      rw [pl_append, List.length_append]
      exact hsl
    have hownv : ∀ b, v.ownBlock = some b → b ∈ S ∧ b ≠ p := fun b hb => H.out.own k v b hv hb
    have hpw2 : p < w2.heap.size := Nat.lt_of_lt_of_le hp hB2.out.size
    have hpw3 : w3.heap[p]? = some (.cells V.toArray T2 (0, 0)) := by
      rw [hgr.block p (Nat.lt_of_lt_of_le hpw2 hb2a.size) (fun e => (hownv p e.symm).2 rfl), hb2a.block p hpw2]
      exact hblk2
    have c3 : w3.cell? ⟨p, k, none⟩ = some v := by rw [cell_of_row w3 p k _ _ _ hpw3]; simpa using hv
    have f3 : w3.frozen? ⟨p, k, none⟩ = false := by simp [World.frozen?, hpw3]
    have hsz2a : w2.heap.size < w2a.heap.size := by rw [hw2a]; show _ < (w2.alloc _).heap.size; simp
    rw [hw2a] at hr
    obtain ⟨b, off, c, rfl, hbw⟩ : ∃ b off c, v' = .slice (some ⟨b, off, none⟩) (l.length + 1) c ∧ b < w3.heap.size := by
      rcases hp3.form with ⟨_, e⟩ | ⟨b, off, c, e, _, _, hb⟩
      · simp at e
      · exact ⟨b, off, c, by simpa using e, hb⟩
    have hbnew : v.ownBlock = some b ∨ w.heap.size ≤ b := by
      rcases hown with e | e
      · left; rw [← e]; rfl
      · right
        have : b = w2a.heap.size := by simpa [Value.ownBlock] using e
        have := hB2.out.size
        omega
    have hbp : b ≠ p := by
      rcases hbnew with e | e
      · exact (hownv b e).2
      · omega
    have fin : Hid (Calls Try.prog 47 #[.slice (some ⟨b, off, none⟩) (l.length + 1) c, .func (.func 48) #[] #[]] (w3.setCell ⟨p, k, none⟩ (.slice (some ⟨b, off, none⟩) (l.length + 1) c)) fun e w5 =>
        e = .returned (.tuple #[]) ∧ ∃ S' V', SwapAt w5 p S' V' (L.set k (putP l x)) ∧ Touch S w w5 ∧ ∀ b ∈ S', b ∈ S ∨ w.heap.size ≤ b) := by
      have hp4 : PlAt (w3.setCell ⟨p, k, none⟩ (.slice (some ⟨b, off, none⟩) (l.length + 1) c)) (.slice (some ⟨b, off, none⟩) (l ++ [x]).length c) (l ++ [x]) := by
        rw [List.length_append]
        refine hp3.keep fun b' hb' => ?_
        have : b' = b := by simpa [Value.ownBlock] using hb'.symm
        subst this
        exact Below.heap_setCell w3 _ _ b' hbp
      have hrow := row_setCell (k := k) hpw3 (.slice (some ⟨b, off, none⟩) (l.length + 1) c)
      have hS := Sort_walk _ b off c (l ++ [x]) hp4 (by simp; omega)
      rw [List.length_append] at hS
      refine hS.mono ?_
      rintro e w5 ⟨rfl, l', hperm, hsort, hp5, t5⟩
      refine ⟨rfl, ?_⟩
      rw [← sort_add hs hx hperm hsort]
      have hb4 : ∀ j, j ≠ p → (w3.setCell ⟨p, k, none⟩ (.slice (some ⟨b, off, none⟩) (l.length + 1) c)).heap[j]? = w3.heap[j]? := fun j hj => Below.heap_setCell w3 _ _ j (fun e => hj e)
      have hs4 : (w3.setCell ⟨p, k, none⟩ (.slice (some ⟨b, off, none⟩) (l.length + 1) c)).heap.size = w3.heap.size := by simp [World.setCell]
      have hpw3' := (Array.getElem?_eq_some_iff.1 hpw3).1
      refine H.out.put (v := v) (v' := .slice (some ⟨b, off, none⟩) (l.length + 1) c) hv ⟨T2, ?_⟩ hp5 ?_ ?_ ?_ ?_ ?_ ?_
      · rw [t5.block p (by rw [hs4]; exact hpw3') (by simp; exact fun e => hbp e.symm)]
        exact hrow
      · intro b' hb'
        have : b' = b := by simpa [Value.ownBlock] using hb'.symm
        subst this
        exact hbnew
      · intro j hj hjp hjv
        have h1 : j < w2.heap.size := Nat.lt_of_lt_of_le hj hB2.out.size
        have h2 : j < w2a.heap.size := Nat.lt_of_lt_of_le h1 hb2a.size
        have hjb : j ≠ b := fun e => by
          subst e
          rcases hbnew with e | e
          · exact hjv e
          · omega
        rw [t5.block j (by rw [hs4]; exact Nat.lt_of_lt_of_le h2 hgr.size) (by simpa using hjb), hb4 j hjp, hgr.block j h2 (fun e => hjv e.symm), hb2a.block j h1, hB2.out.block j hj]
      · exact t5.os.trans (hgr.os.trans (hb2a.os.trans hB2.out.os))
      · exact t5.tape.trans (hgr.tape.trans (hb2a.tape.trans hB2.out.tape))
      · exact t5.output.trans (hgr.output.trans (hb2a.output.trans hB2.out.output))
      · have := t5.size; rw [hs4] at this; have := hgr.size; have := hb2a.size; have := hB2.out.size; omega
    have HR := Lib.hid hr
    clear hr hsl hgr hown hp3 hpw3 hownv hw2a hb2a hsz2a hp2 hblk2 hsw2
    go_region_law (refine step_append_run rfl (.tmp 27) (.tmp 29) 35 rfl v _ _ w3 (by simp [Act.eval, Act.put]) (by simp [Act.eval, Act.put]) HR.out ?_)
    all_goals (go_wp2_with fail; refine fin.out.mono ?_; rintro e w5 ⟨rfl, S', V', h1, h2, h3⟩; have h1' := Lib.hid h1; have h2' := Lib.hid h2; have h3' := Lib.hid h3; clear h1 h2 h3; go_wp2_with fail; go_ret; exact ⟨rfl, S', V', h1'.out, h2'.out, h3'.out⟩)
end Go.Proofs.Ytflbidbnbfndgaa
