/- The cache's keys: a range over a map with keys of two whole numbers, inside an iterator; slices.AppendSeq, slices.Collect. (Turned to this from the shelf's proofs at keys of one cell.) -/
import Derived.Test.YtflbidbnbfndgaaCacheAns
import Derived.Shelf.SlIter.Collect
namespace Go.Proofs.Ytflbidbnbfndgaa
open Go Go.RowKit Go.Maps Go.ChangeMaps Go.MapKept

/-- A range over a map with keys of two whole numbers: what it has told so far. -/
def Ranging (w : World) (m r : Nat) (keys ss : List (Int × Int)) : Prop :=
  ∃ (es : Array MapEntry) (clock : Nat) (seen : Array Nat) (since c0 : Nat) (T : List MapEntry), w.heap[m]? = some (.map es clock) ∧ w.heap[r]? = some (.mapIter (some m) since seen c0) ∧ es.toList.map (·.key) = keys.map encPair ∧
    (∀ x ∈ es.toList, x.born < since) ∧ (es.toList.map (·.born)).Nodup ∧ since ≤ c0 ∧ since ≤ clock ∧ T.map (·.key) = ss.map encPair ∧ seen.toList = T.map (·.born) ∧ (∀ e ∈ T, e ∈ es.toList) ∧ (T.map (·.born)).Nodup

theorem nodup_of_map {α β : Type} {f : α → β} {l : List α} (h : (l.map f).Nodup) : l.Nodup := by
  unfold List.Nodup at h ⊢
  rw [List.pairwise_map] at h
  exact h.imp fun hab e => hab (by rw [e])
theorem inj_of_nodup {es : List MapEntry} (h : (es.map (·.born)).Nodup) {x y : MapEntry} (hx : x ∈ es) (hy : y ∈ es) (e : x.born = y.born) : x = y := by
  induction es with
  | nil => cases hx
  | cons a l ih =>
    obtain ⟨h1, h2⟩ := List.nodup_cons.1 h
    rcases List.mem_cons.1 hx with rfl | hx'
    · rcases List.mem_cons.1 hy with rfl | hy'
      · rfl
      · exact absurd (by show x.born ∈ _; rw [e]; exact List.mem_map_of_mem (f := (·.born)) hy') h1
    · rcases List.mem_cons.1 hy with rfl | hy'
      · exact absurd (by show y.born ∈ _; rw [← e]; exact List.mem_map_of_mem (f := (·.born)) hx') h1
      · exact ih h2 hx' hy'

theorem len_of_subset : ∀ (l m : List Nat), l.Nodup → (∀ x ∈ l, x ∈ m) → l.length ≤ m.length
  | [], _, _, _ => Nat.zero_le _
  | x :: l, m, h, hs => by
    obtain ⟨h1, h2⟩ := List.nodup_cons.1 h
    have := len_of_subset l (m.erase x) h2 (fun y hy => (List.mem_erase_of_ne (fun e => h1 (by rw [← e]; exact hy))).2 (hs y (by simp [hy])))
    rw [List.length_erase_of_mem (hs x (by simp))] at this
    have := List.length_pos_of_mem (hs x (by simp))
    simp only [List.length_cons]
    omega

/-- A key, read back. -/
def unPair : Value → Int × Int
  | .agg #[.int _ a, .int _ b] => (a, b)
  | _ => (0, 0)
theorem unPair_map (l : List (Int × Int)) : (l.map encPair).map unPair = l := by
  rw [List.map_map]
  exact (List.map_congr_left (g := id) (fun a _ => rfl)).trans (List.map_id _)

theorem Ranging.done {w : World} {m r : Nat} {keys ss : List (Int × Int)} (h : Ranging w m r keys ss) (hl : w.rangeLeft m r = 0) : ss.Perm keys := by
  obtain ⟨es, clock, seen, since, c0, T, hm, hr, hk, hb, hn, h1, h2, hT, hs, hTe, hTn⟩ := h
  simp only [World.rangeLeft, hm, hr] at hl
  have hall := all_seen es seen hl
  have hp : T.Perm es.toList := by
    refine (List.perm_ext_iff_of_nodup (nodup_of_map hTn) (nodup_of_map hn)).2 fun e => ⟨fun he => hTe e he, fun he => ?_⟩
    have h3 := hall e he
    have h4 : e.born ∈ seen.toList := by simpa using h3
    rw [hs] at h4
    obtain ⟨y, hy, he2⟩ := List.mem_map.1 h4
    rw [inj_of_nodup hn he (hTe y hy) he2.symm]
    exact hy
  have h5 := ((hp.map (·.key)).map unPair)
  rw [hT, hk, unPair_map, unPair_map] at h5
  exact h5
theorem Ranging.kept {w w' : World} {m r : Nat} {keys ss : List (Int × Int)} (h : Ranging w m r keys ss) (h1 : w'.heap[m]? = w.heap[m]?) (h2 : w'.heap[r]? = w.heap[r]?) : Ranging w' m r keys ss := by
  obtain ⟨es, clock, seen, since, c0, T, hm, hr, rest⟩ := h
  exact ⟨es, clock, seen, since, c0, T, h1.trans hm, h2.trans hr, rest⟩
theorem Ranging.of_walks {w w' : World} {m r : Nat} {keys ss : List (Int × Int)} (h : Ranging w m r keys ss) (hk : KeepsWalks w w') : Ranging w' m r keys ss := by
  obtain ⟨es, clock, seen, since, c0, T, hm, hr, rest⟩ := h
  exact ⟨es, clock, seen, since, c0, T, hk.same m _ hm rfl, hk.same r _ hr rfl, rest⟩
theorem Ranging.left_walks {w w' : World} {m r : Nat} {keys ss : List (Int × Int)} (h : Ranging w m r keys ss) (hk : KeepsWalks w w') : w'.rangeLeft m r = w.rangeLeft m r := by
  obtain ⟨es, clock, seen, since, c0, T, hm, hr, rest⟩ := h
  simp only [World.rangeLeft, hm, hr, hk.same m _ hm rfl, hk.same r _ hr rfl]
theorem Ranging.iter_walk {w : World} {m r : Nat} {keys ss : List (Int × Int)} (h : Ranging w m r keys ss) : ∃ o : Obj, w.heap[r]? = some o ∧ o.isWalk = true := by
  obtain ⟨es, clock, seen, since, c0, T, hm, hr, rest⟩ := h
  exact ⟨_, hr, rfl⟩
theorem Ranging.lts {w : World} {m r : Nat} {keys ss : List (Int × Int)} (h : Ranging w m r keys ss) : m < w.heap.size ∧ r < w.heap.size ∧ r ≠ m := by
  obtain ⟨es, clock, seen, since, c0, T, hm, hr, rest⟩ := h
  exact ⟨(Array.getElem?_eq_some_iff.1 hm).1, (Array.getElem?_eq_some_iff.1 hr).1, fun e => by rw [e, hm] at hr; cases hr⟩

section
variable {F : Fence} {n : Nat} {P : Program} {ν : Type} {encV : ν → Value} {w : World} {ops : Array Oper} {rest : List Oper} {o : Oper} {a : Act} {Q : Exit → Act → World → Prop}

/-- 'range m'. -/
theorem wpListIn_range_pair (hg : o.guard = none) (mo : Operand) (t : TypeId) (hop : o.op = Op.range t mo) (k e : TypeId) (ht : P.underlying t = some (.map k e)) (m : Nat) (l : List ((Int × Int) × ν))
    (hm : a.eval mo = .map (some m)) (h : MapAt w m encPair encV l)
    (hK : ∀ w', Ranging w' m w.heap.size (l.map (·.1)) [] → w.grownBy w' none → w'.heap.size = w.heap.size + 1 → wpListIn F n P ops Q rest (a.put o.dst (.pointer (some ⟨w.heap.size, 0, none⟩))) w') :
    wpListIn F n P ops Q (o :: rest) a w := by
  refine wpListIn_plain hg fun K' hK' => ?_
  have hlt := h.lt
  obtain ⟨es, clock, hb, he, hborn, hnd⟩ := h
  have hrun := run_range_map (P := P) w t k e m es clock ht hb
  have hkeys : es.toList.map (·.key) = (l.map (·.1)).map encPair := entries_keys he
  have r1 : Ranging (w.alloc (.mapIter (some m) clock #[] clock)) m w.heap.size (l.map (·.1)) [] :=
    ⟨es, clock, #[], clock, clock, [], (Below.heap_alloc w _ m hlt).trans hb, heap_alloc_new w _, hkeys, hborn, hnd, Nat.le_refl _, Nat.le_refl _, rfl, rfl, by simp, by simp⟩
  unfold Oper.wpIn
  refine ⟨?_, ?_⟩
  · simp [Oper.about, hop]
  · rw [Oper.semAt_plain F _ _ (by rw [hop]; intro c hc'; cases hc')]
    simp [execOp, hop, hm, hrun, Result.andThen]
    exact hK' _ _ (hK _ r1 (World.grownBy_alloc w _ none) (by simp))

/-- The step. -/
theorem wpListIn_next_pair (hg : o.guard = none) (it : Operand) (hop : o.op = Op.next it false) (m r : Nat) (keys ss : List (Int × Int)) (hit : a.eval it = .pointer (some ⟨r, 0, none⟩)) (h : Ranging w m r keys ss)
    (hDone : ss.Perm keys → wpListIn F n P ops Q rest (a.put o.dst (.tuple #[.bool false])) w)
    (hMore : ∀ (x : Int × Int) (v : Value) (w' : World), ss.length < keys.length → Ranging w' m r keys (ss ++ [x]) → w'.rangeLeft m r < w.rangeLeft m r → w.grownBy w' (some r) → w'.heap.size = w.heap.size →
      (Instr.entry (.pointer (some ⟨r, 0, none⟩))).run P w' = .ok (.tuple #[.agg #[.int .i64 x.1, .int .i64 x.2], v]) w' → wpListIn F n P ops Q rest (a.put o.dst (.tuple #[.bool true, .agg #[.int .i64 x.1, .int .i64 x.2], v])) w') :
    wpListIn F n P ops Q (o :: rest) a w := by
  refine wpListIn_plain hg fun K' hK' => ?_
  unfold Oper.wpIn
  refine ⟨by simp [Oper.about, hop], ?_⟩
  rw [Oper.semAt_plain F _ _ (by rw [hop]; intro c hc'; cases hc')]
  have hd := h.done
  have hne := h.lts.2.2
  obtain ⟨es, clock, seen, since, c0, T, hb, hr, hk, hold, hn, hsc, hsk, hT, hs, hTe, hTn⟩ := h
  have hrl : w.rangeLeft m r = (leftOf es seen).size := by simp only [World.rangeLeft, hb, hr]
  rcases run_next_at (P := P) w o.type r m since c0 seen es clock hr hb hold hsc with ⟨h0, hrun⟩ | ⟨e, he, w1, hal, hrun⟩
  · simp [execOp, hop, hit, hrun, Result.andThen]
    exact hK' _ _ (hDone (hd (hrl.trans h0)))
  · obtain ⟨hem, hes⟩ := mem_left he
    have hr1 : w1.heap[r]? = some (.mapIter (some m) since seen c0) := by rcases hal with rfl | rfl <;> exact hr
    have hb1 : w1.heap[m]? = some (.map es clock) := by rcases hal with rfl | rfl <;> exact hb
    have hset := MapKept.heap_set (o' := .mapIter (some m) since (seen.push e.born) clock) hr1
    have hb' : (setBlock w1 r (.mapIter (some m) since (seen.push e.born) clock)).heap[m]? = some (.map es clock) := (hset.2 m (fun e1 => hne e1.symm)).trans hb1
    have hmk : e.key ∈ keys.map encPair := by rw [← hk]; exact List.mem_map_of_mem hem
    obtain ⟨x, hx, hxe⟩ := List.mem_map.1 hmk
    have hnt : e.born ∉ T.map (·.born) := by
      rw [← hs]
      intro hc
      have : seen.contains e.born = true := by simpa using hc
      rw [this] at hes
      cases hes
    have hlen : ss.length < keys.length := by
      have h1 : (e.born :: T.map (·.born)).Nodup := List.nodup_cons.2 ⟨hnt, hTn⟩
      have h3 := len_of_subset _ (es.toList.map (·.born)) h1 (fun y hy => by
        rcases List.mem_cons.1 hy with rfl | hy
        · exact List.mem_map_of_mem (f := (·.born)) hem
        · obtain ⟨z, hz, rfl⟩ := List.mem_map.1 hy
          exact List.mem_map_of_mem (f := (·.born)) (hTe z hz))
      have h4 := congrArg List.length hT
      have h5 := congrArg List.length hk
      simp at h3 h4 h5
      omega
    have hen := run_entry_at (P := P) _ r m since seen es clock e hset.1 hb' hem hn
    have hw' : w.grownBy (setBlock w1 r (.mapIter (some m) since (seen.push e.born) clock)) (some r) := by rcases hal with rfl | rfl <;> exact ⟨rfl, rfl, rfl, by simp [setBlock], fun i _ hi => hset.2 i (fun e1 => hi (by rw [e1]))⟩
    have hsz : (setBlock w1 r (.mapIter (some m) since (seen.push e.born) clock)).heap.size = w.heap.size := by rcases hal with rfl | rfl <;> simp [setBlock]
    have hR : Ranging (setBlock w1 r (.mapIter (some m) since (seen.push e.born) clock)) m r keys (ss ++ [x]) :=
      ⟨es, clock, seen.push e.born, since, clock, T ++ [e], hb', hset.1, hk, hold, hn, hsk, hsk, by rw [List.map_append, List.map_append, hT]; simp [hxe], by simp [hs], fun y hy => by
        rcases List.mem_append.1 hy with hy | hy
        · exact hTe y hy
        · rw [List.mem_singleton.1 hy]; exact hem, by
        rw [List.map_append]
        refine List.nodup_append.2 ⟨hTn, by simp, fun a ha b hb2 => ?_⟩
        intro eab
        simp at hb2
        subst hb2
        exact hnt (eab ▸ ha)⟩
    have hsh : (setBlock w1 r (.mapIter (some m) since (seen.push e.born) clock)).rangeLeft m r < w.rangeLeft m r := by
      rw [hrl]
      have hr2 : (setBlock w1 r (.mapIter (some m) since (seen.push e.born) clock)).heap[r]? = some (.mapIter (some m) since (seen.push e.born) clock) := hset.1
      simp only [World.rangeLeft, hb', hr2]
      exact left_shrinks es seen e he
    have hke : e.key = .agg #[.int .i64 x.1, .int .i64 x.2] := hxe.symm
    rw [hke] at hrun hen
    simp [execOp, hop, hit, hrun, Result.andThen]
    exact hK' _ _ (hMore x e.val _ hlen hR hsh hw' hsz hen)
end

set_option maxRecDepth 100000 in
set_option maxHeartbeats 1000000 in
/-- maps.Keys(m)'s iterator: the keys come, each once, in some order. -/
theorem keysIter_in {ν : Type} {encV : ν → Value} (F : Fence) (n : Nat) (hf : F.fn 72) (hro : F.round = none) (hn : 1 ≤ n) (l Bm m : Nat) (L : List ((Int × Int) × ν)) (J : List (Int × Int) → World → Prop)
    (hY : ∀ pre x W, J pre W → pre.length < L.length → YieldAt F (n - 1) Try.prog l #[encPair x] W fun e W' => e = .returned (.bool true) ∧ J (pre ++ [x]) W' ∧ KeepsWalks W W')
    (W : World) (hJ : AbidesFrom W.heap.size J) (hm : W.cell? ⟨Bm, 0, none⟩ = some (.map (some m))) (hown : MapAt W m encPair encV L) (h0 : J [] W) :
    CallsIn F n Try.prog 72 #[.func (.yield l) #[] #[], .pointer (some ⟨Bm, 0, none⟩)] W fun e W' => (∃ v, e = .returned v) ∧ ∃ ss : List (Int × Int), ss.Perm (L.map (·.1)) ∧ J ss W' := by
  refine callsIn_of_wp Try.func72 rfl hf ?_ hro
  simp only [Try.ntmps72, List.size_toArray, List.length_cons, List.length_nil, Nat.reduceAdd, Nat.reduceSub, Array.replicate_succ, Array.replicate_zero, List.push_toArray, List.append_toArray, List.nil_append, List.cons_append]
  gi_wp2_with (first
    | (gi_at_range; refine wpListIn_range_pair rfl _ 78 rfl 23 83 Try.underlying78 m L rfl hown ?_; intro w0 hrg0 hg0 hs0)
    | gi_in)
  go_frame
  gi_loopw [3] (fun _ wr => ∃ ss : List (Int × Int), Ranging wr m W.heap.size (L.map (·.1)) ss ∧ J ss wr) (fun _ wr => wr.rangeLeft m W.heap.size)
  case atStart => exact ⟨[], hrg0, hJ [] W w0 none h0 hg0 (fun r e => by cases e)⟩
  case round =>
    obtain ⟨ss, hrg, hJs⟩ := hrel
    gi_wp2_with (first
      | (gi_at_next; refine wpListIn_next_pair rfl _ rfl m W.heap.size (L.map (·.1)) ss rfl hrg ?_ ?_)
      | gi_in)
    · intro hp
      gi_wp2
      go_end0
      exact ⟨⟨_, rfl⟩, ss, hp, hJs⟩
    · intro x1 x2 v w2 hlen hrg2 hlt hg2 hs2 hen
      have hJ2 : J ss w2 := hJ ss wr w2 (some W.heap.size) hJs hg2 (fun r e => by cases e; exact ⟨Nat.le_refl _, hrg.iter_walk⟩)
      have hl2 := hrg2.lts
      have hJ3 : J ss (w2.alloc (.cells #[.int .i64 x1, .int .i64 x2] 23)) := hJ ss w2 _ none hJ2 (World.grownBy_alloc w2 _ none) (fun r e => by cases e)
      have hrg3 : Ranging (w2.alloc (.cells #[.int .i64 x1, .int .i64 x2] 23)) m W.heap.size (L.map (·.1)) (ss ++ [(x1, x2)]) := hrg2.kept (Below.heap_alloc w2 _ m hl2.1) (Below.heap_alloc w2 _ _ hl2.2.1)
      have hk3 : (w2.alloc (.cells #[.int .i64 x1, .int .i64 x2] 23)).rangeLeft m W.heap.size = w2.rangeLeft m W.heap.size := hrg2.left_walks (KeepsWalks.alloc _ _)
      obtain ⟨fn, tmps, assign, body, hy, hR⟩ := hY ss (x1, x2) _ hJ3 hlen
      simp only [encPair] at hy
      clear hs2
      gi_wp2
      refine hR.mono ?_
      rintro e W3 ⟨rfl, hJ4, hk4⟩
      gi_wp2
      have hrg4 := hrg3.of_walks hk4
      go_roundw
      case rel => exact ⟨ss ++ [(x1, x2)], hrg4, hJ4⟩
      case measure => rw [hrg3.left_walks hk4, hk3]; exact hlt
end Go.Proofs.Ytflbidbnbfndgaa
