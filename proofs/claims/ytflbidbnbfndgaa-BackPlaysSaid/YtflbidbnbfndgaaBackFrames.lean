/- Back's Frames: the frames of which a process has one, ascending. -/
import Derived.Test.YtflbidbnbfndgaaBackAns
import Derived.Test.YtflbidbnbfndgaaInts
import Derived.Test.YtflbidbnbfndgaaShelfKeys
import Derived.Shelf.SlIterI.Sorted
import Derived.Shelf.SlIterI.Keys
import Derived.Shelf.SortM.Plain
import Derived.Shelf.SortM.SortNone
namespace Go.Proofs.Ytflbidbnbfndgaa
open Go Go.RowKit

variable {K : Int → Prop}

/-- An element reads as something: what, does not matter. -/
def Rk (_ : Value) : Option (DataW Unit × List MemPlace) := some (.lit (.bool true), [])

theorem BackAt.owned {w : World} {p m : Nat} {S : List Nat} {V : List (Int × Value)} {L : Int → List (Int × Int)} (h : BackAt K w p m S V L) (hK : ∀ f, K f → (Lit.int .i64 f).wf = true) (hlen : V.length ≤ maxLen) :
    ∃ D0 : DataW Unit, w.ownsMap Try.prog 3 Rk m V.length D0 ∧ (intKeys D0).Perm (V.map (·.1)) ∧ Maps.size D0 = V.length := by
  obtain ⟨es, clock, hb, he, hborn, hnd⟩ := h.map
  have hkeys : es.toList.map (·.key) = (V.map (·.1)).map encInt := entries_keys he
  have hsz : es.size = V.length := by have := congrArg List.length he; simpa using this
  have hrd : ∀ x ∈ es.toList, ∃ f, x.key = encInt f ∧ WideElems.rd Try.prog 3 Rk x = some (.int .i64 f, .lit (.bool true)) := by
    intro x hx
    have h1 : x.key ∈ es.toList.map (·.key) := List.mem_map_of_mem hx
    rw [hkeys] at h1
    obtain ⟨f, hf, e⟩ := List.mem_map.1 h1
    obtain ⟨y, hy, e2⟩ := List.mem_map.1 hf
    refine ⟨f, e.symm, ?_⟩
    have hw := hK f (e2 ▸ h.keys y hy)
    unfold WideElems.rd
    rw [← e]
    simp [keyOf, mapKey, Try.underlying3, encInt, hw, Rk]
  refine ⟨_, ⟨es, clock, hb, ⟨by omega, ⟨hborn, hnd, ?_⟩, fun x hx => by obtain ⟨f, _, h⟩ := hrd x hx; exact ⟨_, h⟩⟩, by omega, rfl⟩, ?_, ?_⟩
  · rw [hkeys]
    exact List.Pairwise.map _ (fun a b hab e => hab (by simpa [encInt] using e)) h.nd
  · show (List.map (fun p => Go.intOf p.1) (List.foldr DataW.insert [] _)).Perm _
    refine ((Go.WideShapes.sorted_perm _).map _).trans ?_
    rw [List.map_map]
    have : ∀ x ∈ es.toList, ((fun p : Lit × DataW Unit => Go.intOf p.1) ∘ WideElems.rg Try.prog 3 Rk) x = (fun v : Value => match v with | .int _ a => a | _ => 0) x.key := by
      intro x hx
      obtain ⟨f, hf, hr⟩ := hrd x hx
      simp [WideElems.rg, hr, hf, encInt, Go.intOf]
    rw [List.map_congr_left this]
    have e2 := congrArg (List.map (fun v : Value => match v with | .int _ a => a | _ => (0 : Int))) hkeys
    rw [List.map_map, List.map_map] at e2
    have e3 : (List.map ((fun v : Value => match v with | .int _ a => a | _ => (0 : Int)) ∘ encInt) (V.map (·.1))) = V.map (·.1) := (List.map_congr_left (g := id) (fun a _ => rfl)).trans (List.map_id _)
    rw [e3] at e2
    rw [← e2]
    exact List.Perm.refl _
  · simp [Maps.size, length_sorted, hsz]

theorem sortsInt (n : Nat) : AnyZI.SortsIn Try.prog sortedA_ren Fence.wide n :=
  ⟨fun blk off cap ss W hH hblk hsz => callsIn_wide.2 (AnyM.slices_Sort_int sortA blk off cap ss W hH hblk hsz),
   fun p cap W => callsIn_wide.2 (AnyM.slices_Sort_int_none sortA p cap W)⟩

theorem Keys_walk (W : World) (mb : Option Nat) : Calls Try.prog 63 #[.map mb] W fun e w' => e = .returned (.func (.func 76) #[] #[.pointer (some ⟨W.heap.size, 0, none⟩)]) ∧ w' = W.alloc (.cells #[.map mb] 87) :=
  (callsIn_wide (n := 5)).1 (AnyZI.keys_in keysA Fence.wide 5 trivial rfl mb W)

/-- Ascending. -/
def ascI (l : List Int) : List Int := l.mergeSort (fun x y => decide (x ≤ y))

theorem SortedKeys_walk {w : World} {p m : Nat} {S : List Nat} {V : List (Int × Value)} {L : Int → List (Int × Int)} (h : BackAt K w p m S V L) (hK : ∀ f, K f → (Lit.int .i64 f).wf = true) (hlen : V.length ≤ 1000000) :
    Calls Try.prog 62 #[.func (.func 76) #[] #[.pointer (some ⟨w.heap.size, 0, none⟩)]] (w.alloc (.cells #[.map (some m)] 87)) fun e w' =>
      ∃ v, e = .returned v ∧ IntsAt w' v (ascI (V.map (·.1))) ∧ Below w.heap.size w w' ∧ ∀ b, v.ownBlock = some b → w.heap.size < b := by
  obtain ⟨D0, hown, hperm, hsize⟩ := h.owned hK (by unfold maxLen; omega)
  have hbl := hown.lt
  have hseq : SeqGives Fence.wide 2 Try.prog 76 #[.pointer (some ⟨w.heap.size, 0, none⟩)] encZ (fun ss => ss.Perm (intKeys D0)) (Maps.size D0) (w.alloc (.cells #[.map (some m)] 87)) :=
    AnyZI.keys_gives (ρ := keysA_ren) { keysA with } Fence.wide _ trivial rfl (by omega) w.heap.size m V.length D0 _ (by simp) (by simp) (by
      obtain ⟨es, clock, hb, Ft, hs, hD⟩ := hown
      exact ⟨es, clock, (Below.heap_alloc _ _ m hbl).trans hb, Ft, hs, hD⟩)
  have cS := AnyZI.sorted_in sortedA Fence.wide 5 trivial trivial trivial trivial rfl (by omega) (sortsInt _) (enters_of Try.func75 (by kernel_rfl) rfl) 76 #[.pointer (some ⟨w.heap.size, 0, none⟩)] trivial (enters_of Try.func76 (by kernel_rfl) rfl) _ _ (by rw [hsize]; unfold maxLen; omega) (by rw [hsize]; omega) _ hseq
  change CallsIn _ _ Try.prog 62 _ _ _ at cS
  refine ((callsIn_wide (n := 5)).1 cS).mono ?_
  rintro e w' ⟨v, ss, rfl, hp, hrow, hnil, hb⟩
  have hss : ss.mergeSort (fun x y => decide (x ≤ y)) = ascI (V.map (·.1)) := mergeSort_of_perm_i (hp.trans hperm)
  rw [hss] at hrow
  have hl : ss.length = (ascI (V.map (·.1))).length := by rw [← hss, List.length_mergeSort]
  rw [hl] at hrow
  refine ⟨v, rfl, ⟨hrow.1, ?_⟩, ((Below.refl _ w).alloc (Nat.le_refl _) _).trans (hb.mono (by simp)), ?_⟩
  · rcases hrow.2 with h0 | ⟨g, cap, cur, e, hg, hc, hn, hm, hs, ht⟩
    · exact .inl h0
    · refine .inr ⟨g, 0, cap, cur, e, hc, hn, hm, by omega, fun j u hu => ?_⟩
      rw [← ht] at hu
      have hj := (List.getElem?_eq_some_iff.1 hu).1
      rw [List.getElem?_take_of_lt (by simp at hj; omega)] at hu
      simpa using hu
  · intro b hb'
    rcases hrow.2 with ⟨e, _⟩ | ⟨g, cap, cur, e, hg, _⟩
    · rw [e] at hb'; simp [Value.ownBlock] at hb'
    · rw [e] at hb'
      simp [Value.ownBlock] at hb'
      simp at hg
      omega

/-- The closure of Frames: is a place of the process? -/
theorem frames_pred (w : World) (B : Nat) (proc : Int) (hB : B < w.heap.size) (hc : w.cell? ⟨B, 0, none⟩ = some (.int .i64 proc)) :
    PredBelow Try.prog 64 #[.pointer (some ⟨B, 0, none⟩)] (fun x : Int × Int => .agg (encP x).toArray) (fun x => decide (x.1 = proc)) w := by
  intro W x hb
  have hc' := (hb.cell (p := ⟨B, 0, none⟩) hB).trans hc
  have hBW : B < W.heap.size := Nat.lt_of_lt_of_le hB hb.size
  have HB := Lib.hid hb
  clear hb hc
  simp only [encP]
  obtain ⟨x1, x2⟩ := x
  go_enter Try.func64, Try.ntmps64
  go_wp2_with fail
  go_ret
  exact ⟨by by_cases e : x1 = proc <;> simp [e], HB.out.alloc HB.out.size _⟩

theorem ContainsFuncB_walk (w : World) (v : Value) (l : List (Int × Int)) (h : PlAt w v l) (B : Nat) (proc : Int) (hB : B < w.heap.size) (hc : w.cell? ⟨B, 0, none⟩ = some (.int .i64 proc)) :
    Calls Try.prog 60 #[v, .func (.func 64) #[] #[.pointer (some ⟨B, 0, none⟩)]] w fun e w' => e = .returned (.bool (l.any fun x => decide (x.1 = proc))) ∧ Below w.heap.size w w' := by
  rcases h.form with ⟨rfl, rfl⟩ | ⟨b, off, c, rfl, hcc, hm, hb⟩
  · simp only [List.any_nil]
    go_enter Try.func60, Try.ntmps60
    go_wp2
    refine wp_loop_rounds 1 ?_
    rw [rounds_succ]
    go_wp2
    go_ret
    exact ⟨rfl, Below.refl _ _⟩
  · have eg : ∀ args w, (callFunc 64 args).run Try.prog w = .ok (.enter 64 args) w := enters_of Try.func64 (by kernel_rfl) rfl
    have := AnyQ.slices_ContainsFunc laysContainsFunc 2 (fun w => by kernel_rfl) (fun w => by kernel_rfl) encP encP_len (fun x => decide (x.1 = proc)) 64 #[.pointer (some ⟨B, 0, none⟩)] eg b off l.length c l w (frames_pred w B proc hB hc) (Nat.le_refl _) (by unfold maxLen at hm; omega) hb h.hc
    rw [List.take_length] at this
    exact this

/-- The frames of which a process has one, of a list. -/
def framesOf (proc : Int) (L : Int → List (Int × Int)) (ks : List Int) : List Int := ks.filter fun f => (L f).any fun x => decide (x.1 = proc)

set_option maxRecDepth 100000 in
set_option maxHeartbeats 1000000 in
theorem Frames_walk (w : World) (p m : Nat) (S : List Nat) (V : List (Int × Value)) (L : Int → List (Int × Int)) (h : BackAt K w p m S V L) (hK : ∀ f, K f → (Lit.int .i64 f).wf = true) (hlen : V.length ≤ 1000000) (proc : Int) :
    Calls Try.prog 44 #[.pointer (some ⟨p, 0, none⟩), .int .i64 proc] w fun e w' => ∃ v, e = .returned v ∧ IntsAt w' v (framesOf proc L (ascI (V.map (·.1)))) ∧ Below w.heap.size w w' := by
  obtain ⟨hp, hm, hpm⟩ := h.ps
  have hc := h.c0
  have H := Lib.hid h
  clear h
  go_enter Try.func44, Try.ntmps44
  go_wp2_with fail
  obtain ⟨W, hW⟩ : ∃ W, W = w.alloc (.cells #[.int .i64 proc] 3) := ⟨_, rfl⟩
  have hB1 : Hid (Below w.heap.size w W ∧ W.heap.size = w.heap.size + 1) := by rw [hW]; exact ⟨(Below.refl _ _).alloc (Nat.le_refl _) _, by simp⟩
  have hq : Hid (W.cell? ⟨w.heap.size, 0, none⟩ = some (.int .i64 proc)) := by rw [hW]; exact new_cell w _ rfl _ _ _
  rw [← hW]
  clear hW
  refine (Keys_walk W (some m)).mono ?_
  rintro e w2 ⟨rfl, rfl⟩
  go_wp2_with fail
  refine (SortedKeys_walk (H.out.below hB1.out.1) hK hlen).mono ?_
  rintro e X ⟨v, rfl, hv, hbX, hown⟩
  obtain ⟨a, c, rfl, hac, _⟩ := SlAt.form hv
  obtain ⟨ks, hks⟩ : ∃ ks, ks = ascI (V.map (·.1)) := ⟨_, rfl⟩
  have hkl : ks.length ≤ 1000000 := by rw [hks]; unfold ascI; rw [List.length_mergeSort, List.length_map]; exact hlen
  rw [← hks] at hv hac ⊢
  have HKS := Lib.hid hks
  clear hks
  obtain ⟨n, hn⟩ : ∃ n, n = ks.length := ⟨_, rfl⟩
  rw [← hn] at hkl hac hv ⊢
  have HN := Lib.hid hn
  have HV := Lib.hid hv
  have HBX := Lib.hid hbX
  have hqX : Hid (X.cell? ⟨w.heap.size, 0, none⟩ = some (.int .i64 proc)) := (hbX.cell (p := ⟨w.heap.size, 0, none⟩) (by rw [hB1.out.2]; exact Nat.lt_succ_self _)).trans hq.out
  have HX := Lib.hid ((H.out.below hB1.out.1).below hbX)
  have HWX : Hid (Below w.heap.size w X) := hB1.out.1.trans (hbX.mono (by rw [hB1.out.2]; omega))
  clear hn hv hbX hown H hq
  obtain ⟨i0, hi0, hi1, hi2, hi3⟩ := infoInt
  go_wp2_with fail
  go_loopw [5, 7, 17] (fun o _ i wr => ∃ k : Nat, k ≤ n ∧ i = .int .i64 k ∧ Below X.heap.size X wr ∧ IntsAt wr o (framesOf proc L (ks.take k)) ∧ ∀ b, o.ownBlock = some b → X.heap.size ≤ b) (fun _ _ i _ => n - (Go.RowKit.intOf i).toNat)
  case atStart => exact ⟨0, by omega, rfl, Below.refl _ _, SlAt.nil _ _ _, by simp [Value.ownBlock]⟩
  case round =>
    obtain ⟨k, hk, rfl, hb, hout, how⟩ := hrel
    have HB := Lib.hid hb
    have HO := Lib.hid hout
    have HW := Lib.hid how
    clear hb hout how
    by_cases hlt : k < n
    · have hlt' : (k : Int) < n := by omega
      obtain ⟨y, hy⟩ : ∃ y, ks[k]? = some y := ⟨_, List.getElem?_eq_getElem (by rw [← HN.out]; exact hlt)⟩
      obtain ⟨b, off, rfl⟩ := HV.out.addr (by rw [← HN.out]; omega)
      have e0 := IntsAt.cell (SlAt.below HV.out HB.out) hy
      have HY := Lib.hid hy
      clear hy
      have hXr := HX.out.below HB.out
      have hc0 := hXr.c0
      have hlk := hXr.look y
      have hpr := hXr.ps.1
      have hqr := (HB.out.cell (World.block_lt_of_cell? _ _ hqX.out)).trans hqX.out
      have hsz := World.block_lt_of_cell? _ _ hqr
      have cf := Lib.hid (ContainsFuncB_walk wr (slotB V y) (L y) (hXr.at_ y) w.heap.size proc hsz hqr)
      generalize slotB V y = sv at hlk cf
      obtain ⟨yes, hyes⟩ : ∃ q, q = (L y).any (fun x => decide (x.1 = proc)) := ⟨_, rfl⟩
      rw [← hyes] at cf
      have htake : Hid (framesOf proc L (ks.take (k + 1)) = framesOf proc L (ks.take k) ++ if yes = true then [y] else []) := by
        show _ = _
        rw [take_next' HY.out]
        unfold framesOf
        rw [List.filter_append, hyes]
        simp only [List.filter_cons, List.filter_nil]
      have hfl : Hid ((framesOf proc L (ks.take k)).length ≤ 1000000) := by
        show _ ≤ _
        unfold framesOf
        have h1 := List.length_filter_le (fun f => (L f).any fun x => decide (x.1 = proc)) (ks.take k)
        rw [List.length_take] at h1
        omega
      clear hyes hXr
      go_wp2_with fail
      refine cf.out.mono ?_
      rintro e w2 ⟨rfl, b2⟩
      have HB2 := Lib.hid (HB.out.trans (b2.mono HB.out.size))
      have HO2 := Lib.hid (SlAt.below HO.out b2)
      clear b2 cf hlk hc0 e0
      cases yes with
      | true =>
        go_wp2_with (at_builtin; refine wpList_append_sl _ rfl _ _ 57 rfl 3 i0 _ 1 8 Try.underlying57 hi0 hi1 hi2 hi3 rfl _ _ _ rfl (HO2.out.below ((Below.refl _ _).alloc (Nat.le_refl _) _)) ⟨w2.heap.size, 0, none⟩ 1 1 [.int .i64 y] rfl rfl ?c1 ?c2 ?c3 ?c4 ?c5)
        case c1 => exact fun j u hu => cells_new w2 3 [.int .i64 y] j u hu
        case c2 => simp [Value.oneCell']
        case c3 => have := hfl.out; simp only [maxLen]; omega
        case c4 => have := hfl.out; omega
        case c5 =>
          intro v' w3 hsl3 hg3 ho3
          have HG := Lib.hid (And.intro hsl3 (And.intro hg3 ho3))
          clear hsl3 hg3 ho3
          go_wp2_with fail
          go_roundw
          case rel =>
            obtain ⟨hsl3, hg3, ho3⟩ := HG.out
            have sa : (w2.alloc (.cells #[.int .i64 y] 3)).heap.size = w2.heap.size + 1 := by simp
            refine ⟨k + 1, by omega, by go_num, ?_, ?_, ?_⟩
            · exact (HB2.out.alloc HB2.out.size _).grown hg3 (by rw [sa]; have := HB2.out.size; omega) HW.out
            · rw [htake.out, if_pos (by trivial)]
              show SlAt _ _ _ _ _ _
              rw [List.length_append, List.map_append]
              simpa using hsl3
            · intro b hb
              rcases ho3 with e | e
              · exact HW.out b (e.symm.trans hb)
              · rw [e] at hb; have : _ = b := Option.some.inj hb; have := HB2.out.size; omega
          case measure => simp [Go.RowKit.intOf]; omega
      | false =>
        go_wp2_with fail
        go_roundw
        case rel =>
          refine ⟨k + 1, by omega, by go_num, HB2.out, ?_, HW.out⟩
          rw [htake.out]
          simp only [Bool.false_eq_true, if_false, List.append_nil]
          exact HO2.out
        case measure => simp [Go.RowKit.intOf]; omega
    · obtain rfl : k = n := by omega
      have e : ks.take k = ks := List.take_of_length_le (by rw [← HN.out]; exact Nat.le_refl _)
      rw [e] at HO
      clear hlt
      go_wp2_with fail
      go_ret
      rw [← HKS.out]
      exact ⟨_, rfl, HO.out, HWX.out.trans (HB.out.mono HWX.out.size)⟩
end Go.Proofs.Ytflbidbnbfndgaa
