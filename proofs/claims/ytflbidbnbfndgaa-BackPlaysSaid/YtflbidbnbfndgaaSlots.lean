/- Swap.Slots: the slots that a process holds; and the reference's Ints. -/
import Derived.Test.YtflbidbnbfndgaaSwap3
import Derived.Test.YtflbidbnbfndgaaPlaceCalls
import Derived.Shelf.SlicesQ.IndexFunc
import Derived.BigQuiet
namespace Go.Proofs.Ytflbidbnbfndgaa
open Go Go.RowKit

/-- The closure of Slots: is a place of the process? -/
theorem slots_pred (w : World) (B : Nat) (proc : Int) (hB : B < w.heap.size) (hc : w.cell? ⟨B, 0, none⟩ = some (.int .i64 proc)) :
    PredBelow Try.prog 61 #[.pointer (some ⟨B, 0, none⟩)] (fun x : Int × Int => .agg (encP x).toArray) (fun x => decide (x.1 = proc)) w := by
  intro W x hb
  have hc' := (hb.cell (p := ⟨B, 0, none⟩) hB).trans hc
  have hBW : B < W.heap.size := Nat.lt_of_lt_of_le hB hb.size
  have HB := Lib.hid hb
  clear hb hc
  simp only [encP]
  obtain ⟨x1, x2⟩ := x
  go_enter Try.func61, Try.ntmps61
  go_wp2_with fail
  go_ret
  exact ⟨by by_cases e : x1 = proc <;> simp [e], HB.out.alloc HB.out.size _⟩

theorem ContainsFunc_walk (w : World) (v : Value) (l : List (Int × Int)) (h : PlAt w v l) (B : Nat) (proc : Int) (hB : B < w.heap.size) (hc : w.cell? ⟨B, 0, none⟩ = some (.int .i64 proc)) :
    Calls Try.prog 60 #[v, .func (.func 61) #[] #[.pointer (some ⟨B, 0, none⟩)]] w fun e w' => e = .returned (.bool (l.any fun x => decide (x.1 = proc))) ∧ Below w.heap.size w w' := by
  rcases h.form with ⟨rfl, rfl⟩ | ⟨b, off, c, rfl, hcc, hm, hb⟩
  · simp only [List.any_nil]
    go_enter Try.func60, Try.ntmps60
    go_wp2
    refine wp_loop_rounds 1 ?_
    rw [rounds_succ]
    go_wp2
    go_ret
    exact ⟨rfl, Below.refl _ _⟩
  · have eg : ∀ args w, (callFunc 61 args).run Try.prog w = .ok (.enter 61 args) w := enters_of Try.func61 (by kernel_rfl) rfl
    have := AnyQ.slices_ContainsFunc laysContainsFunc 2 (fun w => by kernel_rfl) (fun w => by kernel_rfl) encP encP_len (fun x => decide (x.1 = proc)) 61 #[.pointer (some ⟨B, 0, none⟩)] eg b off l.length c l w (slots_pred w B proc hB hc) (Nat.le_refl _) (by unfold maxLen at hm; omega) hb h.hc
    rw [List.take_length] at this
    exact this

/-- A slice of whole numbers. -/
def IntsAt (w : World) (v : Value) (l : List Int) : Prop := SlAt w 3 1 v l.length (l.map (Value.int .i64))

/-- The slots that a process holds, from a number on. -/
def slotsFrom (proc : Int) : List (List (Int × Int)) → Nat → List Int
  | [], _ => []
  | l :: r, i => if l.any (fun x => decide (x.1 = proc)) then (i : Int) :: slotsFrom proc r (i + 1) else slotsFrom proc r (i + 1)

theorem slotsFrom_append (proc : Int) (a : List (List (Int × Int))) (l : List (Int × Int)) (i : Nat) : slotsFrom proc (a ++ [l]) i = slotsFrom proc a i ++ (if l.any (fun x => decide (x.1 = proc)) then [((i + a.length : Nat) : Int)] else []) := by
  induction a generalizing i with
  | nil => simp [slotsFrom]
  | cons x a ih =>
    simp only [List.cons_append, slotsFrom, ih, List.length_cons]
    rw [show i + 1 + a.length = i + (a.length + 1) by omega]
    split <;> simp
theorem slotsFrom_length (proc : Int) (a : List (List (Int × Int))) (i : Nat) : (slotsFrom proc a i).length ≤ a.length := by
  induction a generalizing i with
  | nil => simp [slotsFrom]
  | cons x a ih =>
    have := ih (i + 1)
    simp only [slotsFrom]
    split <;> simp <;> omega

theorem infoInt : ∃ i, Try.prog.info? 3 = some i ∧ i.zero = some (.int .i64 0) ∧ i.size = 1 ∧ i.bytes = 8 := by
  have h : (Try.prog.info? 3).map (fun i => (i.zero, i.size, i.bytes)) = some (some (.int .i64 0), 1, 8) := by kernel_rfl
  obtain ⟨i, hi, hb⟩ := Option.map_eq_some_iff.1 h
  simp at hb
  exact ⟨i, hi, hb⟩

set_option maxRecDepth 100000 in
set_option maxHeartbeats 1000000 in
theorem Slots_walk (w : World) (p : Nat) (S : List Nat) (V : List Value) (L : List (List (Int × Int))) (h : SwapAt w p S V L) (proc : Int) :
    Calls Try.prog 42 #[.pointer (some ⟨p, 0, none⟩), .int .i64 proc] w fun e w' => ∃ v, e = .returned v ∧ IntsAt w' v (slotsFrom proc L 0) ∧ Below w.heap.size w w' := by
  obtain ⟨T, hblk⟩ := h.blk
  have hp : p < w.heap.size := (Array.getElem?_eq_some_iff.1 hblk).1
  have hr : w.rangeAt p 0 V := fun j v hv => by rw [Nat.zero_add, cell_of_row w p j _ _ _ hblk]; simpa using hv
  have hi : (Try.prog.info? 63).map (·.size) = some V.length := by rw [h.lenV]; kernel_rfl
  have hR := Lib.hid (fun W (hW : Below w.heap.size w W) => (show W.rangeAt p 0 V from fun j v hv => (hW.cell (p := ⟨p, 0 + j, none⟩) hp).trans (hr j v hv)))
  have hI := Lib.hid hi
  have H := Lib.hid h
  clear hr hi hblk h
  go_enter Try.func42, Try.ntmps42
  go_wp2_with (refine wpList_load_mid rfl 63 (.tmp 12) rfl p 0 rfl V _ (hR.out _ (by first | exact (Below.refl _ _).alloc (Nat.le_refl _) _)) Try.underlying63 rfl hI.out ?_)
  obtain ⟨i0, hi0, hi1, hi2, hi3⟩ := infoInt
  have hsW : Hid (Below w.heap.size w (w.alloc (.cells #[.int .i64 proc] 3))) := (Below.refl _ _).alloc (Nat.le_refl _) _
  have hq : Hid ((w.alloc (.cells #[.int .i64 proc] 3)).cell? ⟨w.heap.size, 0, none⟩ = some (.int .i64 proc)) := new_cell w _ rfl _ _ _
  have hz : Hid ((w.alloc (.cells #[.int .i64 proc] 3)).heap.size = w.heap.size + 1) := by show _ = _; simp
  go_loopw [5, 6, 7, 14] (fun o _ _ i wr => ∃ k : Nat, k ≤ 32 ∧ i = .int .i64 k ∧ Below w.heap.size w wr ∧ wr.cell? ⟨w.heap.size, 0, none⟩ = some (.int .i64 proc) ∧ IntsAt wr o (slotsFrom proc (L.take k) 0) ∧ ∀ b, o.ownBlock = some b → w.heap.size < b) (fun _ _ _ i _ => 32 - (intOf i).toNat)
  case atStart => exact ⟨0, by omega, rfl, hsW.out, hq.out, SlAt.nil _ _ _, by simp [Value.ownBlock]⟩
  case round =>
    obtain ⟨k, hk, rfl, hb, hc, hout, hown⟩ := hrel
    have HB := Lib.hid hb
    have HO := Lib.hid hout
    have HW := Lib.hid hown
    clear hb hout hown
    by_cases hlt : k < 32
    · obtain ⟨v, hv⟩ : ∃ v, V[k]? = some v := ⟨_, List.getElem?_eq_getElem (by rw [H.out.lenV]; exact hlt)⟩
      obtain ⟨l, hl⟩ : ∃ l, L[k]? = some l := ⟨_, List.getElem?_eq_getElem (by rw [H.out.lenL]; exact hlt)⟩
      have h1 : (k : Int) < 32 := by omega
      have h2 : (0 : Int) ≤ k := by omega
      have hidx := index_run V k _ h1 hv
      have hplv := (H.out.at_ k v l hv hl).below HB.out
      have HV := Lib.hid hv
      have hsz := World.block_lt_of_cell? _ _ hc
      have htake : Hid (L.take (k + 1) = L.take k ++ [l]) := by
        obtain ⟨hj, rfl⟩ := List.getElem?_eq_some_iff.1 hl
        show _ = _
        rw [List.take_succ_eq_append_getElem hj]
      have hlen : Hid ((L.take k).length = k) := by show _ = _; rw [List.length_take, H.out.lenL]; omega
      have hsl : Hid ((slotsFrom proc (L.take k) 0).length ≤ 32) := by
        have := slotsFrom_length proc (L.take k) 0
        rw [hlen.out] at this; exact Nat.le_trans this (by omega)
      clear hv hl
      have cf := Lib.hid (ContainsFunc_walk wr v l hplv w.heap.size proc hsz hc)
      clear hplv
      obtain ⟨yes, hyes⟩ : ∃ y, y = l.any (fun x => decide (x.1 = proc)) := ⟨_, rfl⟩
      rw [← hyes] at cf
      have HY := Lib.hid hyes
      clear hyes
      go_wp2_with fail
      refine cf.out.mono ?_
      rintro e w2 ⟨rfl, b2⟩
      have hc2 := (b2.cell hsz).trans hc
      have HB2 := Lib.hid (HB.out.trans (b2.mono HB.out.size))
      have HO2 := Lib.hid (HO.out.below b2)
      have hs2 : w.heap.size < w2.heap.size := Nat.lt_of_lt_of_le hsz b2.size
      clear b2 cf hc
      cases yes with
      | true =>
        go_wp2_with (at_builtin; refine wpList_append_sl _ rfl _ _ 57 rfl 3 i0 _ 1 8 Try.underlying57 hi0 hi1 hi2 hi3 rfl _ _ _ rfl (HO2.out.below ((Below.refl _ _).alloc (Nat.le_refl _) _)) ⟨w2.heap.size, 0, none⟩ 1 1 [.int .i64 k] rfl rfl ?c1 ?c2 ?c3 ?c4 ?c5)
        case c1 => exact fun j u hu => cells_new w2 3 [.int .i64 k] j u hu
        case c2 => simp [Value.oneCell']
        case c3 => have := hsl.out; simp only [maxLen]; omega
        case c4 => have := hsl.out; omega
        case c5 =>
          intro v' w3 hsl3 hg3 ho3
          have HG := Lib.hid (And.intro hsl3 (And.intro hg3 ho3))
          clear hsl3 hg3 ho3
          go_wp2_with fail
          go_roundw
          case rel =>
            obtain ⟨hsl3, hg3, ho3⟩ := HG.out
            have ba := (Below.refl w2.heap.size w2).alloc (Nat.le_refl _) (.cells #[.int .i64 k] 3)
            have sa : (w2.alloc (.cells #[.int .i64 k] 3)).heap.size = w2.heap.size + 1 := by simp
            refine ⟨k + 1, by omega, by go_num, ?_, ?_, ?_, ?_⟩
            · refine (HB2.out.alloc HB2.out.size _).grown hg3 (by rw [sa]; have := HB2.out.size; omega) (fun b hb => ?_)
              have := HW.out b hb; omega
            · rw [World.cell?_of_block (hg3.block w.heap.size (by rw [sa]; omega) (fun e => by have := HW.out _ e.symm; omega))]
              exact (ba.cell hs2).trans hc2
            · rw [htake.out, slotsFrom_append, ← HY.out, if_pos rfl, hlen.out]
              show SlAt _ _ _ _ _ _
              rw [List.length_append, List.map_append]
              simpa using hsl3
            · intro b hb
              rcases ho3 with e | e
              · exact HW.out b (e.symm.trans hb)
              · rw [e] at hb; have : _ = b := Option.some.inj hb; omega
          case measure => simp [intOf]; omega
      | false =>
        go_wp2_with fail
        go_roundw
        case rel =>
          refine ⟨k + 1, by omega, by go_num, HB2.out, hc2, ?_, HW.out⟩
          rw [htake.out, slotsFrom_append, ← HY.out]
          simp only [Bool.false_eq_true, if_false, List.append_nil]
          exact HO2.out
        case measure => simp [intOf]; omega
    · obtain rfl : k = 32 := by omega
      have e : L.take 32 = L := List.take_of_length_le (by rw [H.out.lenL]; exact Nat.le_refl _)
      rw [e] at HO
      clear hlt
      go_wp2_with fail
      go_ret
      exact ⟨_, rfl, HO.out, HB.out⟩
end Go.Proofs.Ytflbidbnbfndgaa
