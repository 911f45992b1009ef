/- CachePlays: one page more: three lists, each appended to in one region that draws its order. -/
import Derived.Test.YtflbidbnbfndgaaCachePlaysLib
import Derived.Test.YtflbidbnbfndgaaChains
namespace Go.Proofs.Ytflbidbnbfndgaa
open Go Go.RowKit

def cur {α : Type} (i : Nat) (x y : α) : α := if i < 2 then x else y
theorem cur_lt {α : Type} {i : Nat} (h : i < 2) (x y : α) : cur i x y = x := if_pos h
theorem cur_2 {α : Type} (x y : α) : cur 2 x y = y := rfl
theorem SlAt.notRow {w : World} {e e' : TypeId} {k n : Nat} {v : Value} {xs : List Value} (h : SlAt w e k v n xs) {m : Nat} {arr : Array Value} {d : Nat × Nat} (hm : w.heap[m]? = some (.cells arr e' d)) (hne : e ≠ e') : some m ≠ v.ownBlock := by
  intro hb
  rcases h.2 with ⟨rfl, _⟩ | ⟨g, off, c, arr, rfl, hg, _⟩
  · simp [Value.ownBlock] at hb
  · simp [Value.ownBlock] at hb
    subst hb
    rw [hg] at hm
    exact hne (Obj.cells.inj (Option.some.inj hm)).2.1
theorem SlAt.one (w : World) (e : TypeId) (k : Nat) (xs : List Value) (h : xs.length = k) : SlAt (w.alloc (.cells xs.toArray e)) e k (.slice (some ⟨w.heap.size, 0, none⟩) 1 1) 1 xs :=
  ⟨by omega, .inr ⟨w.heap.size, 0, 1, xs.toArray, rfl, heap_alloc_new w _, Nat.le_refl _, by simp [maxLen], by simp [h], fun j u hu => by simpa using hu⟩⟩

section
variable {w : World} {p m1 m2 : Nat} {L : CList} {R : CBack} {A : Nat} {arr : Array Value} {vk : Value} {K : List (Int × Int)} {y : Int × Int} {vf : Value} {F : List Int} {f : Int} {vd : Value} {D : List Bool} {a0 : Act}

/-- What holds between two steps. -/
structure PutI (w : World) (p m1 m2 : Nat) (L : CList) (R : CBack) (A : Nat) (arr : Array Value) (vk : Value) (K : List (Int × Int)) (y : Int × Int) (vf : Value) (F : List Int) (f : Int) (vd : Value) (D : List Bool) (a0 : Act) (i j k : Nat) (a : Act) (W : World) : Prop where
  ag : Agree [87, 88, 92, 93, 95, 96] a0 a
  row : W.heap[A]? = some (.cells arr 60 (0, 0))
  play : PlayAt w.heap.size w W p m1 m2 L R (cur i vk (a.eval (.tmp 88))) (cur i K (K ++ [y])) (cur j vf (a.eval (.tmp 93))) (cur j F (F ++ [f])) (cur k vd (a.eval (.tmp 96))) (cur k D (D ++ [false]))
  s0 : i = 1 → KeAt W (a.eval (.tmp 87)) [y]
  s1 : j = 1 → IsAt W (a.eval (.tmp 92)) [f]
  s2 : k = 1 → BsAt W (a.eval (.tmp 95)) [false]

theorem PutI.build0 {j k : Nat} {a : Act} {W : World} (hsz : 96 < a0.tmps.size) (h : PutI w p m1 m2 L R A arr vk K y vf F f vd D a0 0 j k a W) : PutI w p m1 m2 L R A arr vk K y vf F f vd D a0 1 j k (a.put (some 87) (.slice (some ⟨W.heap.size, 0, none⟩) 1 1)) (W.alloc (.cells #[.int .i64 y.1, .int .i64 y.2] 23)) := by
  have hb : Below W.heap.size W (W.alloc (.cells #[.int .i64 y.1, .int .i64 y.2] 23)) := (Below.refl _ _).alloc (Nat.le_refl _) _
  have hA := (Array.getElem?_eq_some_iff.1 h.row).1
  refine ⟨h.ag.put (by decide) _, (hb.block A hA).trans h.row, ?_, (fun _ => by rw [eval_put_same (by rw [h.ag.1]; omega)]; exact SlAt.one W 23 2 (pl [y]) rfl), (fun e => by rw [eval_put_other (by decide)]; exact SlAt.below (h.s1 e) hb), (fun e => by rw [eval_put_other (by decide)]; exact SlAt.below (h.s2 e) hb)⟩
  rw [eval_put_other (by decide), eval_put_other (by decide), eval_put_other (by decide)]
  exact h.play.next h.play.below.size hb

theorem PutI.app0 {j k : Nat} {a : Act} {W w' : World} {v' : Value} (hsz : 96 < a0.tmps.size) (h : PutI w p m1 m2 L R A arr vk K y vf F f vd D a0 1 j k a W) (hs : KeAt w' v' (K ++ [y])) (hg : W.grownBy w' (vk).ownBlock) (ho : v'.ownBlock = (vk).ownBlock ∨ v'.ownBlock = some W.heap.size) : PutI w p m1 m2 L R A arr vk K y vf F f vd D a0 2 j k (a.put (some 88) v') w' := by
  have hA := (Array.getElem?_eq_some_iff.1 h.row).1
  refine ⟨h.ag.put (by decide) _, (hg.block A hA (SlAt.notRow h.play.k h.row (by decide))).trans h.row, ?_, (fun e => absurd e (by decide)), (fun e => by rw [eval_put_other (by decide)]; exact SlAt.keep (h.s1 e) fun b hb => hg.block b (SlAt.lt (h.s1 e) b hb) (fun e' => SlAt.apart (h.s1 e) h.play.k (by decide) b hb e'.symm)), (fun e => by rw [eval_put_other (by decide)]; exact SlAt.keep (h.s2 e) fun b hb => hg.block b (SlAt.lt (h.s2 e) b hb) (fun e' => SlAt.apart (h.s2 e) h.play.k (by decide) b hb e'.symm))⟩
  rw [eval_put_same (by rw [h.ag.1]; omega), eval_put_other (by decide), eval_put_other (by decide)]
  exact h.play.growK h.play.below.size hs hg ho

theorem PutI.build1 {i k : Nat} {a : Act} {W : World} (hsz : 96 < a0.tmps.size) (h : PutI w p m1 m2 L R A arr vk K y vf F f vd D a0 i 0 k a W) : PutI w p m1 m2 L R A arr vk K y vf F f vd D a0 i 1 k (a.put (some 92) (.slice (some ⟨W.heap.size, 0, none⟩) 1 1)) (W.alloc (.cells #[.int .i64 f] 3)) := by
  have hb : Below W.heap.size W (W.alloc (.cells #[.int .i64 f] 3)) := (Below.refl _ _).alloc (Nat.le_refl _) _
  have hA := (Array.getElem?_eq_some_iff.1 h.row).1
  refine ⟨h.ag.put (by decide) _, (hb.block A hA).trans h.row, ?_, (fun e => by rw [eval_put_other (by decide)]; exact SlAt.below (h.s0 e) hb), (fun _ => by rw [eval_put_same (by rw [h.ag.1]; omega)]; exact SlAt.one W 3 1 ((List.map (fun x : Int => Value.int .i64 x)) [f]) rfl), (fun e => by rw [eval_put_other (by decide)]; exact SlAt.below (h.s2 e) hb)⟩
  rw [eval_put_other (by decide), eval_put_other (by decide), eval_put_other (by decide)]
  exact h.play.next h.play.below.size hb

theorem PutI.app1 {i k : Nat} {a : Act} {W w' : World} {v' : Value} (hsz : 96 < a0.tmps.size) (h : PutI w p m1 m2 L R A arr vk K y vf F f vd D a0 i 1 k a W) (hs : IsAt w' v' (F ++ [f])) (hg : W.grownBy w' (vf).ownBlock) (ho : v'.ownBlock = (vf).ownBlock ∨ v'.ownBlock = some W.heap.size) : PutI w p m1 m2 L R A arr vk K y vf F f vd D a0 i 2 k (a.put (some 93) v') w' := by
  have hA := (Array.getElem?_eq_some_iff.1 h.row).1
  refine ⟨h.ag.put (by decide) _, (hg.block A hA (SlAt.notRow h.play.f h.row (by decide))).trans h.row, ?_, (fun e => by rw [eval_put_other (by decide)]; exact SlAt.keep (h.s0 e) fun b hb => hg.block b (SlAt.lt (h.s0 e) b hb) (fun e' => SlAt.apart (h.s0 e) h.play.f (by decide) b hb e'.symm)), (fun e => absurd e (by decide)), (fun e => by rw [eval_put_other (by decide)]; exact SlAt.keep (h.s2 e) fun b hb => hg.block b (SlAt.lt (h.s2 e) b hb) (fun e' => SlAt.apart (h.s2 e) h.play.f (by decide) b hb e'.symm))⟩
  rw [eval_put_other (by decide), eval_put_same (by rw [h.ag.1]; omega), eval_put_other (by decide)]
  exact h.play.growF h.play.below.size hs hg ho

theorem PutI.build2 {i j : Nat} {a : Act} {W : World} (hsz : 96 < a0.tmps.size) (h : PutI w p m1 m2 L R A arr vk K y vf F f vd D a0 i j 0 a W) : PutI w p m1 m2 L R A arr vk K y vf F f vd D a0 i j 1 (a.put (some 95) (.slice (some ⟨W.heap.size, 0, none⟩) 1 1)) (W.alloc (.cells #[.bool false] 4)) := by
  have hb : Below W.heap.size W (W.alloc (.cells #[.bool false] 4)) := (Below.refl _ _).alloc (Nat.le_refl _) _
  have hA := (Array.getElem?_eq_some_iff.1 h.row).1
  refine ⟨h.ag.put (by decide) _, (hb.block A hA).trans h.row, ?_, (fun e => by rw [eval_put_other (by decide)]; exact SlAt.below (h.s0 e) hb), (fun e => by rw [eval_put_other (by decide)]; exact SlAt.below (h.s1 e) hb), (fun _ => by rw [eval_put_same (by rw [h.ag.1]; omega)]; exact SlAt.one W 4 1 ((List.map (fun x : Bool => Value.bool x)) [false]) rfl)⟩
  rw [eval_put_other (by decide), eval_put_other (by decide), eval_put_other (by decide)]
  exact h.play.next h.play.below.size hb

theorem PutI.app2 {i j : Nat} {a : Act} {W w' : World} {v' : Value} (hsz : 96 < a0.tmps.size) (h : PutI w p m1 m2 L R A arr vk K y vf F f vd D a0 i j 1 a W) (hs : BsAt w' v' (D ++ [false])) (hg : W.grownBy w' (vd).ownBlock) (ho : v'.ownBlock = (vd).ownBlock ∨ v'.ownBlock = some W.heap.size) : PutI w p m1 m2 L R A arr vk K y vf F f vd D a0 i j 2 (a.put (some 96) v') w' := by
  have hA := (Array.getElem?_eq_some_iff.1 h.row).1
  refine ⟨h.ag.put (by decide) _, (hg.block A hA (SlAt.notRow h.play.d h.row (by decide))).trans h.row, ?_, (fun e => by rw [eval_put_other (by decide)]; exact SlAt.keep (h.s0 e) fun b hb => hg.block b (SlAt.lt (h.s0 e) b hb) (fun e' => SlAt.apart (h.s0 e) h.play.d (by decide) b hb e'.symm)), (fun e => by rw [eval_put_other (by decide)]; exact SlAt.keep (h.s1 e) fun b hb => hg.block b (SlAt.lt (h.s1 e) b hb) (fun e' => SlAt.apart (h.s1 e) h.play.d (by decide) b hb e'.symm)), (fun e => absurd e (by decide))⟩
  rw [eval_put_other (by decide), eval_put_other (by decide), eval_put_same (by rw [h.ag.1]; omega)]
  exact h.play.growD h.play.below.size hs hg ho
end

theorem build0_run (y : Int × Int) (W : World) : (Instr.buildSlice 52 1 #[(0, .agg #[.int .i64 y.1, .int .i64 y.2])]).run Try.prog W = .ok (.slice (some ⟨W.heap.size, 0, none⟩) 1 1) (W.alloc (.cells #[.int .i64 y.1, .int .i64 y.2] 23)) := by
  simp [Instr.buildSlice, go_sem]

theorem build1_run (f : Int) (W : World) : (Instr.buildSlice 57 1 #[(0, .int .i64 f)]).run Try.prog W = .ok (.slice (some ⟨W.heap.size, 0, none⟩) 1 1) (W.alloc (.cells #[.int .i64 f] 3)) := by
  simp [Instr.buildSlice, go_sem]

theorem build2_run (W : World) : (Instr.buildSlice 58 1 #[(0, .bool false)]).run Try.prog W = .ok (.slice (some ⟨W.heap.size, 0, none⟩) 1 1) (W.alloc (.cells #[.bool false] 4)) := by
  simp [Instr.buildSlice, go_sem]

theorem infoInt : ∃ i, Try.prog.info? 3 = some i ∧ i.zero = some (.int .i64 0) ∧ i.size = 1 ∧ i.bytes = 8 := by
  have h : (Try.prog.info? 3).map (fun i => (i.zero, i.size, i.bytes)) = some (some (.int .i64 0), 1, 8) := by kernel_rfl
  obtain ⟨i, hi, hb⟩ := Option.map_eq_some_iff.1 h
  simp at hb
  exact ⟨i, hi, hb.1, hb.2.1, hb.2.2⟩
theorem infoBool : ∃ i, Try.prog.info? 4 = some i ∧ i.zero = some (.bool false) ∧ i.size = 1 ∧ i.bytes = 1 := by
  have h : (Try.prog.info? 4).map (fun i => (i.zero, i.size, i.bytes)) = some (some (.bool false), 1, 1) := by kernel_rfl
  obtain ⟨i, hi, hb⟩ := Option.map_eq_some_iff.1 h
  simp at hb
  exact ⟨i, hi, hb.1, hb.2.1, hb.2.2⟩
def putIx (c s : Nat) : Nat := match c, s with
  | 0, 0 => 3
  | 0, _ => 4
  | 1, 0 => 8
  | 1, _ => 9
  | _, 0 => 11
  | _, _ => 12
set_option maxHeartbeats 4000000 in
theorem put_chains {w : World} {p m1 m2 : Nat} {L : CList} {R : CBack} {A : Nat} {arr : Array Value} {vk : Value} {K : List (Int × Int)} {y : Int × Int} {vf : Value} {F : List Int} {f : Int} {vd : Value} {D : List Bool} {a0 : Act}
    {ops : Array Oper} {Q : Exit → Act → World → Prop} {S : World → Prop} {fin : Nat} {Lst : Nat → Nat → Nat → Array Bool} {ty3 ty4 ty8 ty9 ty11 ty12 : TypeId} {q3 q4 q8 q9 q11 q12 : String} {r3 r4 r8 r9 r11 r12 : Array Edge}
    (o3 : ops[3]? = some ⟨some 87, .buildSlice 52 1 #[(0, .tmp 86)], ty3, q3, r3, none⟩) (o4 : ops[4]? = some ⟨some 88, .call { callee := .builtin .append, args := #[.tmp 84, .tmp 87], argTypes := #[52, 52] }, ty4, q4, r4, none⟩)
    (o8 : ops[8]? = some ⟨some 92, .buildSlice 57 1 #[(0, .tmp 91)], ty8, q8, r8, none⟩) (o9 : ops[9]? = some ⟨some 93, .call { callee := .builtin .append, args := #[.tmp 89, .tmp 92], argTypes := #[57, 57] }, ty9, q9, r9, none⟩)
    (o11 : ops[11]? = some ⟨some 95, .buildSlice 58 1 #[(0, .const (.bool false))], ty11, q11, r11, none⟩) (o12 : ops[12]? = some ⟨some 96, .call { callee := .builtin .append, args := #[.tmp 94, .tmp 95], argTypes := #[58, 58] }, ty12, q12, r12, none⟩)
    (hr : ∀ i j k, i ≤ 2 → j ≤ 2 → k ≤ 2 → i + j + k < 6 → (j = 2 → i = 2) → (k = 2 → j = 2) → Region.ready .any ops (Lst i j k) = readyL putIx i j k)
    (h0 : ∀ i j k, i < 2 → j ≤ 2 → k ≤ 2 → (Lst i j k).setIfInBounds (putIx 0 i) true = Lst (i + 1) j k) (h1 : ∀ i j k, i ≤ 2 → j < 2 → k ≤ 2 → (Lst i j k).setIfInBounds (putIx 1 j) true = Lst i (j + 1) k) (h2 : ∀ i j k, i ≤ 2 → j ≤ 2 → k < 2 → (Lst i j k).setIfInBounds (putIx 2 k) true = Lst i j (k + 1))
    (hS : ∀ W : World, W.heap[A]? = some (.cells arr 60 (0, 0)) → S W)
    (hsz : 96 < a0.tmps.size) (hlK : K.length ≤ 100) (hlF : F.length ≤ 100) (hlD : D.length ≤ 100)
    (e84 : a0.eval (.tmp 84) = vk) (e86 : a0.eval (.tmp 86) = .agg #[.int .i64 y.1, .int .i64 y.2]) (e89 : a0.eval (.tmp 89) = vf) (e91 : a0.eval (.tmp 91) = .int .i64 f) (e94 : a0.eval (.tmp 94) = vd)
    {w0 : World} (hst : PutI w p m1 m2 L R A arr vk K y vf F f vd D a0 0 0 0 a0 w0)
    (hf : ∀ a W, PutI w p m1 m2 L R A arr vk K y vf F f vd D a0 2 2 2 a W → wpAnyH Try.prog .any ops Q S fin (Lst 2 2 2) a W) :
    wpAnyH Try.prog .any ops Q S (fin + 6) (Lst 0 0 0) a0 w0 := by
  refine chains3 (Inv := fun i j k a W => PutI w p m1 m2 L R A arr vk K y vf F f vd D a0 i j k a W) hr h0 h1 h2 (fun _ _ _ _ _ h => hS _ h.row) ?_ ?_ ?_ hf 6 0 0 0 a0 w0 (by omega) (by omega) (by omega) (by omega) (by omega) (by omega) hst
  · intro i j k a W hi hj hk h K' hK'
    have hc : i = 0 ∨ i = 1 := by omega
    rcases hc with rfl | rfl
    · refine wpOp_wp o3 rfl ?_
      have ev := (h.ag.eval (n := 86) (by decide)).trans e86
      unfold Oper.wp
      simp [execOp, ev, build0_run, Result.andThen]
      exact hK' _ _ (h.build0 hsz)
    · obtain ⟨i0, hi0, hz0, hs0, hb0⟩ := infoKey
      refine wpOp_wp o4 rfl (wp_append_rd (.tmp 84) (.tmp 87) 52 rfl i0 _ 16 Try.underlying52 hi0 hz0 hs0 hb0 rfl vk (K).length (pl K) ((h.ag.eval (by decide)).trans e84) h.play.k _ 1 (pl [y]) rfl (h.s0 rfl).rd (by simp [pl, Value.oneCell']) (by simp only [maxLen]; omega) (by omega) ?_)
      intro v' w' hs hg ho
      refine hK' _ _ (h.app0 hsz ?_ hg ho)
      simpa [KeAt, pl_append] using hs
  · intro i j k a W hi hj hk h K' hK'
    have hc : j = 0 ∨ j = 1 := by omega
    rcases hc with rfl | rfl
    · refine wpOp_wp o8 rfl ?_
      have ev := (h.ag.eval (n := 91) (by decide)).trans e91
      unfold Oper.wp
      simp [execOp, ev, build1_run, Result.andThen]
      exact hK' _ _ (h.build1 hsz)
    · obtain ⟨i0, hi0, hz0, hs0, hb0⟩ := infoInt
      refine wpOp_wp o9 rfl (wp_append_rd (.tmp 89) (.tmp 92) 57 rfl i0 _ 8 Try.underlying57 hi0 hz0 hs0 hb0 rfl vf (F).length ((List.map (fun x : Int => Value.int .i64 x)) F) ((h.ag.eval (by decide)).trans e89) h.play.f _ 1 ((List.map (fun x : Int => Value.int .i64 x)) [f]) rfl (h.s1 rfl).rd (by simp [Value.oneCell']) (by simp only [maxLen]; omega) (by omega) ?_)
      intro v' w' hs hg ho
      refine hK' _ _ (h.app1 hsz ?_ hg ho)
      simpa [IsAt, List.map_append] using hs
  · intro i j k a W hi hj hk h K' hK'
    have hc : k = 0 ∨ k = 1 := by omega
    rcases hc with rfl | rfl
    · refine wpOp_wp o11 rfl ?_
      unfold Oper.wp
      simp [execOp, Act.eval, build2_run, Result.andThen]
      exact hK' _ _ (h.build2 hsz)
    · obtain ⟨i0, hi0, hz0, hs0, hb0⟩ := infoBool
      refine wpOp_wp o12 rfl (wp_append_rd (.tmp 94) (.tmp 95) 58 rfl i0 _ 1 Try.underlying58 hi0 hz0 hs0 hb0 rfl vd (D).length ((List.map (fun x : Bool => Value.bool x)) D) ((h.ag.eval (by decide)).trans e94) h.play.d _ 1 ((List.map (fun x : Bool => Value.bool x)) [false]) rfl (h.s2 rfl).rd (by simp [Value.oneCell']) (by simp only [maxLen]; omega) (by omega) ?_)
      intro v' w' hs hg ho
      refine hK' _ _ (h.app2 hsz ?_ hg ho)
      simpa [BsAt, List.map_append] using hs
end Go.Proofs.Ytflbidbnbfndgaa
