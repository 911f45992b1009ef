/- A region that draws its order, with three chains of two operations each: each step is shown once. No program in it. -/
import Derived.Test.YtflbidbnbfndgaaRd
import Derived.Test.YtflbidbnbfndgaaHand
namespace Go.Proofs.Ytflbidbnbfndgaa
open Go Go.RowKit

section
variable {P : Program} {ops : Array Oper} {Q : Exit → Act → World → Prop} {S : World → Prop}

theorem hold_act {md : Region.Mode} {fuel : Nat} {listed : Array Bool} {a : Act} {w : World} (h : ∀ a0, a0 = a → wpAnyH P md ops Q S fuel listed a0 w) : wpAnyH P md ops Q S fuel listed a w := h a rfl

theorem wpOp_wp {i : Nat} {o : Oper} {K : Act → World → Prop} {a : Act} {w : World} (ho : ops[i]? = some o) (hg : o.guard = none) (h : o.wp P a w K Q) : wpOp P ops Q i K a w := by
  unfold wpOp
  rw [ho]
  have hw : Region.wanted o (yielded ops a.tmps) = true := by simp [Region.wanted, hg]
  simp only [hw, if_true]
  exact .inl h

/-- The operations that may come up: a chain's second waits for that of the chain before. -/
def readyL (ix : Nat → Nat → Nat) (i j k : Nat) : List Nat := (if i < 2 then [ix 0 i] else []) ++ ((if j = 0 ∨ (j = 1 ∧ i = 2) then [ix 1 j] else []) ++ (if k = 0 ∨ (k = 1 ∧ j = 2) then [ix 2 k] else []))

theorem chains3 {fin : Nat} {L : Nat → Nat → Nat → Array Bool} {ix : Nat → Nat → Nat} {Inv : Nat → Nat → Nat → Act → World → Prop}
    (hr : ∀ i j k, i ≤ 2 → j ≤ 2 → k ≤ 2 → i + j + k < 6 → (j = 2 → i = 2) → (k = 2 → j = 2) → Region.ready .any ops (L i j k) = readyL ix i j k)
    (h0 : ∀ i j k, i < 2 → j ≤ 2 → k ≤ 2 → (L i j k).setIfInBounds (ix 0 i) true = L (i + 1) j k) (h1 : ∀ i j k, i ≤ 2 → j < 2 → k ≤ 2 → (L i j k).setIfInBounds (ix 1 j) true = L i (j + 1) k) (h2 : ∀ i j k, i ≤ 2 → j ≤ 2 → k < 2 → (L i j k).setIfInBounds (ix 2 k) true = L i j (k + 1))
    (hS : ∀ i j k a w, Inv i j k a w → S w)
    (s0 : ∀ i j k a w, i < 2 → j ≤ 2 → k ≤ 2 → Inv i j k a w → ∀ K : Act → World → Prop, (∀ a' w', Inv (i + 1) j k a' w' → K a' w') → wpOp P ops Q (ix 0 i) K a w)
    (s1 : ∀ i j k a w, i ≤ 2 → j < 2 → k ≤ 2 → Inv i j k a w → ∀ K : Act → World → Prop, (∀ a' w', Inv i (j + 1) k a' w' → K a' w') → wpOp P ops Q (ix 1 j) K a w)
    (s2 : ∀ i j k a w, i ≤ 2 → j ≤ 2 → k < 2 → Inv i j k a w → ∀ K : Act → World → Prop, (∀ a' w', Inv i j (k + 1) a' w' → K a' w') → wpOp P ops Q (ix 2 k) K a w)
    (hf : ∀ a w, Inv 2 2 2 a w → wpAnyH P .any ops Q S fin (L 2 2 2) a w) :
    ∀ m i j k a w, i ≤ 2 → j ≤ 2 → k ≤ 2 → i + j + k + m = 6 → (j = 2 → i = 2) → (k = 2 → j = 2) → Inv i j k a w → wpAnyH P .any ops Q S (fin + m) (L i j k) a w := by
  intro m
  induction m with
  | zero =>
    intro i j k a w hi hj hk hm r1 r2 h
    obtain rfl : i = 2 := by omega
    obtain rfl : j = 2 := by omega
    obtain rfl : k = 2 := by omega
    exact hf a w h
  | succ m ih =>
    intro i j k a w hi hj hk hm r1 r2 h
    have hrd := hr i j k hi hj hk (by omega) r1 r2
    show wpAnyH P .any ops Q S ((fin + m) + 1) (L i j k) a w
    refine ⟨fun he => ?_, fun x hx => ?_⟩
    · rw [hrd] at he
      unfold readyL at he
      by_cases c0 : i < 2
      · simp [c0] at he
      · by_cases c1 : j = 0 ∨ (j = 1 ∧ i = 2)
        · simp [c0, c1] at he
        · by_cases c2 : k = 0 ∨ (k = 1 ∧ j = 2)
          · simp [c0, c1, c2] at he
          · omega
    · rw [hrd] at hx
      unfold readyL at hx
      rcases List.mem_append.1 hx with hx | hx
      · by_cases c0 : i < 2
        · rw [if_pos c0] at hx
          obtain rfl := List.mem_singleton.1 hx
          refine s0 i j k a w c0 hj hk h _ fun a' w' h' => ⟨hS _ _ _ _ _ h', ?_⟩
          rw [h0 i j k c0 hj hk]
          exact ih (i + 1) j k a' w' (by omega) hj hk (by omega) (by omega) (by omega) h'
        · rw [if_neg c0] at hx; cases hx
      · rcases List.mem_append.1 hx with hx | hx
        · by_cases c0 : j = 0 ∨ (j = 1 ∧ i = 2)
          · rw [if_pos c0] at hx
            obtain rfl := List.mem_singleton.1 hx
            refine s1 i j k a w hi (by omega) hk h _ fun a' w' h' => ⟨hS _ _ _ _ _ h', ?_⟩
            rw [h1 i j k hi (by omega) hk]
            exact ih i (j + 1) k a' w' hi (by omega) hk (by omega) (by omega) (by omega) h'
          · rw [if_neg c0] at hx; cases hx
        · by_cases c0 : k = 0 ∨ (k = 1 ∧ j = 2)
          · rw [if_pos c0] at hx
            obtain rfl := List.mem_singleton.1 hx
            refine s2 i j k a w hi hj (by omega) h _ fun a' w' h' => ⟨hS _ _ _ _ _ h', ?_⟩
            rw [h2 i j k hi hj (by omega)]
            exact ih i j (k + 1) a' w' hi hj (by omega) (by omega) (by omega) (by omega) h'
          · rw [if_neg c0] at hx; cases hx

/-- append of what is only read, at an act of which a few slots are known. -/
theorem wp_append_rd {e : TypeId} {size : Nat} {o : Oper} {a : Act} {w : World} {K : Act → World → Prop} (s x : Operand) (t : TypeId) (hop : o.op = Op.call { callee := Callee.builtin Builtin.append, args := #[s, x], argTypes := #[t, t] })
    (i : TypeInfo) (z : Value) (bytes : Nat) (ht : P.underlying t = some (.slice e)) (hi : P.info? e = some i) (hz : i.zero = some z)
    (hsize : i.size = size) (hby : i.bytes = bytes) (hzs : z.cells.size = size) (v : Value) (n : Nat) (xs : List Value) (hs : a.eval s = v) (hown : SlAt w e size v n xs)
    (sv : Value) (m : Nat) (news : List Value) (hx : a.eval x = sv) (hsrc : SlRd w size sv m news) (h1 : ∀ u ∈ news, u.oneCell' = true) (h63 : n + m ≤ maxLen) (hbytes : (n + m) * bytes ≤ 140737488355328)
    (hK : ∀ v' w', SlAt w' e size v' (n + m) (xs ++ news) → w.grownBy w' v.ownBlock → (v'.ownBlock = v.ownBlock ∨ v'.ownBlock = some w.heap.size) → K (a.put o.dst v') w') : o.wp P a w K Q := by
  obtain ⟨v', w', hr, h2, h3, h4⟩ := run_append_rd (P := P) t o.type i z bytes ht hi hz hsize hby hzs v n xs hown sv m news hsrc h1 h63 hbytes
  unfold Oper.wp
  simp [execOp, hop, resolve, invoke, builtin, hs, hx, hr, Result.andThen]
  exact hK v' w' h2 h3 h4
end

/-! ### Acts of which a few slots are known -/
theorem eval_put_same {a : Act} {n : Nat} {v : Value} (h : n < a.tmps.size) : (a.put (some n) v).eval (.tmp n) = v := by
  simp [Act.put, Act.eval, h]
theorem eval_put_other {a : Act} {n m : Nat} {v : Value} (h : n ≠ m) : (a.put (some n) v).eval (.tmp m) = a.eval (.tmp m) := by
  simp [Act.put, Act.eval, Array.getD_eq_getD_getElem?, Array.getElem?_setIfInBounds, h]
theorem size_put {a : Act} {n : Nat} {v : Value} : (a.put (some n) v).tmps.size = a.tmps.size := by simp [Act.put]
theorem defers_put {a : Act} {n : Nat} {v : Value} : (a.put (some n) v).defers = a.defers := by simp [Act.put]
/-- Two acts that agree outside a list of slots. -/
def Agree (l : List Nat) (a0 a : Act) : Prop := a.tmps.size = a0.tmps.size ∧ a.defers = a0.defers ∧ ∀ n, n ∉ l → a.tmps[n]? = a0.tmps[n]?
theorem Agree.refl (l : List Nat) (a : Act) : Agree l a a := ⟨rfl, rfl, fun _ _ => rfl⟩
theorem Agree.put {l : List Nat} {a0 a : Act} (h : Agree l a0 a) {n : Nat} (hn : n ∈ l) (v : Value) : Agree l a0 (a.put (some n) v) := by
  refine ⟨size_put.trans h.1, defers_put.trans h.2.1, fun m hm => ?_⟩
  rw [← h.2.2 m hm]
  have : n ≠ m := fun e => hm (e ▸ hn)
  simp [Act.put, Array.getElem?_setIfInBounds, this]
theorem Agree.eval {l : List Nat} {a0 a : Act} (h : Agree l a0 a) {n : Nat} (hn : n ∉ l) : a.eval (.tmp n) = a0.eval (.tmp n) := by
  simp [Act.eval, Array.getD_eq_getD_getElem?, h.2.2 n hn]
/-- Such an act, slot by slot. -/
theorem Agree.fold {l : List Nat} {a0 a : Act} (h : Agree l a0 a) : a = l.foldl (fun b n => b.put (some n) (a.eval (.tmp n))) a0 := by
  have key : ∀ (l : List Nat) (b : Act), (∀ n, n ∉ l → a.tmps[n]? = b.tmps[n]?) → a.tmps.size = b.tmps.size → a.defers = b.defers → a = l.foldl (fun b n => b.put (some n) (a.eval (.tmp n))) b := by
    intro l
    induction l with
    | nil =>
      intro b hb hs hd
      obtain ⟨t, d⟩ := a
      obtain ⟨t', d'⟩ := b
      simp only at hb hs hd
      have : t = t' := Array.ext_getElem? fun n => hb n (by simp)
      simp [this, hd]
    | cons m l ih =>
      intro b hb hs hd
      refine ih _ (fun n hn => ?_) (hs.trans size_put.symm) (hd.trans defers_put.symm)
      by_cases e : m = n
      · subst e
        simp only [Act.put, Act.eval, Array.getElem?_setIfInBounds, if_pos]
        split
        · rename_i hlt
          rw [Array.getD_eq_getD_getElem?, Array.getElem?_eq_getElem (by omega)]
          rfl
        · rename_i hlt
          rw [Array.getElem?_eq_none (by omega)]
      · rw [hb n (by simp [hn, Ne.symm e])]
        simp [Act.put, Array.getElem?_setIfInBounds, e]
  exact key l a0 h.2.2 h.1 h.2.1
end Go.Proofs.Ytflbidbnbfndgaa
