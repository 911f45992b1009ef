/- BackPlays. -/
import Derived.Test.YtflbidbnbfndgaaBackPair
import Derived.OpenShut
import Derived.Deep.RegionHeld
namespace Go.Proofs.Ytflbidbnbfndgaa
open Go Go.RowKit

/-- The frames of the law's acts. -/
def KB (f : Int) : Prop := 0 ≤ f ∧ f ≤ 7
def DB : List Int := [0, 1, 2, 3, 4, 5, 6, 7]
/-- The reference's lists hold the same. -/
def Sync (L : Int → List (Int × Int)) (M : List (List (Int × Int))) : Prop := ∀ f : Nat, f < 8 → M[f]? = some (L f)
theorem Sync.set {L : Int → List (Int × Int)} {M : List (List (Int × Int))} (h : Sync L M) (f : Nat) (l : List (Int × Int)) : Sync (updF L f l) (M.set f l) := by
  intro g hg
  have hl : M.length ≥ 8 := by
    have := (List.getElem?_eq_some_iff.1 (h 7 (by omega))).1
    omega
  by_cases e : g = f
  · subst e
    rw [List.getElem?_set_self (by omega), updF_at]
  · rw [List.getElem?_set_ne (Ne.symm e), h g hg]
    unfold updF
    rw [if_neg (by omega)]

/-- Lists in order, of places that came. -/
def FineB (P : List (Int × Int)) (L : Int → List (Int × Int)) : Prop := ∀ f, SortedP (L f) ∧ ∀ x ∈ L f, x ∈ P
theorem nodup_lengthP {l D : List (Int × Int)} (h : l.Nodup) (hs : ∀ x ∈ l, x ∈ D) : l.length ≤ D.length := by
  induction l generalizing D with
  | nil => simp
  | cons x l ih =>
    rw [List.nodup_cons] at h
    have hx := hs x List.mem_cons_self
    have := ih (D := D.erase x) h.2 (fun y hy => (List.mem_erase_of_ne (fun e => by subst e; exact h.1 hy)).2 (hs y (List.mem_cons_of_mem _ hy)))
    rw [List.length_erase_of_mem hx] at this
    have := List.length_pos_of_mem hx
    rw [List.length_cons]
    omega
theorem FineB.len {P : List (Int × Int)} {L : Int → List (Int × Int)} (h : FineB P L) (f : Int) : (L f).length ≤ P.length := nodup_lengthP (h f).1.nodup (h f).2
theorem FineB.up {P : List (Int × Int)} {L : Int → List (Int × Int)} (h : FineB P L) (x : Int × Int) : FineB (P ++ [x]) L := fun f => ⟨(h f).1, fun y hy => List.mem_append_left _ ((h f).2 y hy)⟩
theorem FineB.upd {P : List (Int × Int)} {L : Int → List (Int × Int)} (h : FineB P L) (f : Int) {l : List (Int × Int)} (hs : SortedP l) (hl : ∀ x ∈ l, x ∈ P) : FineB P (updF L f l) := by
  intro g
  unfold updF
  split
  · exact ⟨hs, hl⟩
  · exact h g
theorem FineB.put {P : List (Int × Int)} {L : Int → List (Int × Int)} (h : FineB P L) (f : Int) (x : Int × Int) : FineB (P ++ [x]) (updF L f (putP (L f) x)) :=
  (h.up x).upd f (putP_sorted (h f).1 x) fun y hy => by
    rcases mem_putP.1 hy with rfl | hy
    · simp
    · exact List.mem_append_left _ ((h f).2 y hy)
theorem FineB.out {P : List (Int × Int)} {L : Int → List (Int × Int)} (h : FineB P L) (f : Int) (x : Int × Int) : FineB (P ++ [x]) (updF L f ((L f).erase x)) :=
  (h.up x).upd f (erase_sorted (h f).1 x) fun y hy => List.mem_append_left _ ((h f).2 y (List.mem_of_mem_erase hy))
theorem mem_foldP2 (l m : List (Int × Int)) (x : Int × Int) : x ∈ l.foldl putP m ↔ x ∈ l ∨ x ∈ m := by
  induction l generalizing m with
  | nil => simp
  | cons y l ih =>
    rw [List.foldl_cons, ih, mem_putP, List.mem_cons]
    constructor
    · rintro (h | h | h)
      · exact .inl (.inr h)
      · exact .inl (.inl h)
      · exact .inr h
    · rintro ((h | h) | h)
      · exact .inr (.inl h)
      · exact .inl h
      · exact .inr (.inr h)
theorem FineB.move {P : List (Int × Int)} {L : Int → List (Int × Int)} (h : FineB P L) (f g : Int) (x : Int × Int) : FineB (P ++ [x]) (updF (updF L f []) g ((L f).foldl putP (L g))) := by
  refine ((h.up x).upd f List.Pairwise.nil (fun y hy => by simp at hy)).upd g (foldP_sorted _ _ (h g).1) fun y hy => ?_
  rcases (mem_foldP2 (L f) (L g) y).1 hy with hy | hy
  · exact List.mem_append_left _ ((h f).2 y hy)
  · exact List.mem_append_left _ ((h g).2 y hy)

set_option maxRecDepth 100000 in
theorem playsB_small (a : Option Addr) (len cap : Nat) (proc : Int) (w : World) (h0 : (80 : Int) < len) :
    Calls Try.prog 13 #[.slice a len cap, .int .i64 proc] w fun e w' => e = .returned (.bool true) ∧ Below w.heap.size w w' := by
  go_enter Try.func13, Try.ntmps13
  go_wp2_with fail
  refine (backAnswers _).mono ?_
  rintro e w1 ⟨rfl, b1⟩
  have HB := Lib.hid b1
  clear b1
  go_wp2_with fail
  go_ret
  exact ⟨rfl, HB.out⟩

set_option maxRecDepth 100000 in
set_option maxHeartbeats 100000000 in
theorem playsB_walk (a : Option Addr) (len cap : Nat) (z : List BAct) (proc : Int) (w : World) (hz : Open.RowsAt w encB 5 a len cap z) (h0 : ¬ (80 : Int) < len) :
    Calls Try.prog 13 #[.slice a len cap, .int .i64 proc] w fun e w' => e = .returned (.bool true) ∧ Below w.heap.size w w' := by
  have HZ := Lib.hid hz
  clear hz
  have h80 : len ≤ 80 := by omega
  go_enter Try.func13, Try.ntmps13
  go_wp2_with fail
  refine (BNew_in (K := KB) w).mono ?_
  rintro e w1 ⟨p, rfl, hS1, b1⟩
  have H1 := Lib.hid hS1
  have HB1 := Lib.hid b1
  clear hS1 b1
  go_wp2_with fail
  have hP0 : Hid (BPair KB w.heap.size (w1.heap.size + 1) (w1.alloc (.cells #[.slice none 0 0, .slice none 0 0, .slice none 0 0, .slice none 0 0, .slice none 0 0, .slice none 0 0, .slice none 0 0, .slice none 0 0] 73)) p w1.heap.size noF (List.replicate 8 [])) := BPair.start H1.out HB1.out 73
  have hB0 : Hid (Below w.heap.size w (w1.alloc (.cells #[.slice none 0 0, .slice none 0 0, .slice none 0 0, .slice none 0 0, .slice none 0 0, .slice none 0 0, .slice none 0 0, .slice none 0 0] 73))) := HB1.out.alloc HB1.out.size _
  generalize w1.alloc _ = X0 at *
  generalize w1.heap.size = q at *
  clear H1 HB1
  go_loopw [7] (fun i wr => ∃ k : Nat, k ≤ len ∧ i = .int .i64 k ∧ Below w.heap.size w wr ∧ ∃ L M d P, BPair KB w.heap.size d wr p q L M ∧ Sync L M ∧ FineB P L ∧ P.length ≤ k) (fun i _ => len - (Go.RowKit.intOf i).toNat)
  case atStart =>
    refine ⟨0, by omega, rfl, hB0.out, noF, _, _, [], hP0.out, fun f hf => ?_, fun f => ⟨List.Pairwise.nil, by simp [noF]⟩, Nat.le_refl _⟩
    rw [List.getElem?_replicate, if_pos hf]
    rfl
  case round =>
    obtain ⟨k, hk, rfl, hb, L, M, d, P, hP, hSy, hF, hPl⟩ := hrel
    have HB := Lib.hid hb
    have HP := Lib.hid hP
    have HS := Lib.hid hSy
    have HF := Lib.hid hF
    clear hb hP hSy hF hP0 hB0
    by_cases hlt : k < len
    · obtain ⟨b, off, ⟨wh, fi, ti, x1, x2⟩, rfl, hx, e0, e1, e2, e3, e4⟩ := rowB_cell HZ.out HB.out k hlt
      have hlt' : (k : Int) < len := by omega
      simp only at e0 e1 e2 e3 e4
      clear hx
      have ba := (Below.refl wr.heap.size wr).alloc (Nat.le_refl _) (.cells #[.int .i64 wh, .int .i64 fi, .int .i64 ti, .int .i64 x1, .int .i64 x2] 75)
      have HP1 := Lib.hid (HP.out.next ba wr.heap.size (Nat.le_refl _))
      have HBa := Lib.hid (HB.out.trans (ba.mono HB.out.size))
      have hblk : Hid ((wr.alloc (.cells #[.int .i64 wh, .int .i64 fi, .int .i64 ti, .int .i64 x1, .int .i64 x2] 75)).heap[wr.heap.size]? = some (.cells #[.int .i64 wh, .int .i64 fi, .int .i64 ti, .int .i64 x1, .int .i64 x2] 75 (0, 0))) := heap_alloc_new wr _
      clear ba
      by_cases hin : (0 ≤ fi ∧ fi ≤ 7) ∧ 0 ≤ ti ∧ ti ≤ 7
      · obtain ⟨⟨hf0, hf7⟩, ht0, ht7⟩ := hin
        obtain ⟨f, rfl⟩ := Int.eq_ofNat_of_zero_le hf0
        obtain ⟨t, rfl⟩ := Int.eq_ofNat_of_zero_le ht0
        have hf8 : f < 8 := by omega
        have ht8 : t < 8 := by omega
        have hfl : Hid ((L f).length ≤ 80 ∧ (L t).length ≤ 80) := by have h1 := HF.out.len f; have h2 := HF.out.len t; exact ⟨by omega, by omega⟩
        by_cases c0 : wh = 0
        · subst c0
          go_wp2_with fail
          generalize wr.alloc _ = W1 at *
          refine (HP1.out.add HBa.out.size (Array.getElem?_eq_some_iff.1 hblk.out).1 f (x1, x2) (HF.out f).1 (by have := hfl.out; omega) ⟨hf0, hf7⟩).mono ?_
          rintro e w2 ⟨rfl, h2, b2, k2⟩
          have HP2 := Lib.hid h2
          have HB2 := Lib.hid (HBa.out.trans b2)
          have hblk2 := Lib.hid (k2.trans hblk.out)
          clear h2 b2 k2 HP1 HBa hblk
          go_wp2_with fail
          obtain ⟨v, hv, c0, f0, hq, hst⟩ := HP2.out.list (Array.getElem?_eq_some_iff.1 hblk2.out).1 f (L f) (HS.out f hf8)
          have g1 : w2.cell? ⟨wr.heap.size, 1, none⟩ = some (.int .i64 f) := by rw [cell_of_row w2 _ 1 _ _ _ hblk2.out]; rfl
          have g3 : w2.cell? ⟨wr.heap.size, 3, none⟩ = some (.int .i64 x1) := by rw [cell_of_row w2 _ 3 _ _ _ hblk2.out]; rfl
          have g4 : w2.cell? ⟨wr.heap.size, 4, none⟩ = some (.int .i64 x2) := by rw [cell_of_row w2 _ 4 _ _ _ hblk2.out]; rfl
          have hA0 : wr.heap.size < w2.heap.size := World.block_lt_of_cell? _ _ g1
          have hdq : wr.heap.size ≠ q := HP2.out.ne
          have hput : Hid (Calls Try.prog 27 #[v, .agg #[.int .i64 x1, .int .i64 x2]] w2.drew fun e w3 => ∃ a' m' c', e = .returned (.slice a' m' c') ∧ w3.cell? ⟨q, f, none⟩ = some v ∧ w3.frozen? ⟨q, f, none⟩ = false ∧
              (w3.cell? ⟨wr.heap.size, 1, none⟩ = some (.int .i64 f) ∧ w3.cell? ⟨wr.heap.size, 3, none⟩ = some (.int .i64 x1) ∧ w3.cell? ⟨wr.heap.size, 4, none⟩ = some (.int .i64 x2)) ∧
              ((w3.setCell ⟨q, f, none⟩ (.slice a' m' c')).cell? ⟨wr.heap.size, 1, none⟩ = some (.int .i64 f) ∧ (w3.setCell ⟨q, f, none⟩ (.slice a' m' c')).cell? ⟨wr.heap.size, 3, none⟩ = some (.int .i64 x1) ∧ (w3.setCell ⟨q, f, none⟩ (.slice a' m' c')).cell? ⟨wr.heap.size, 4, none⟩ = some (.int .i64 x2)) ∧
              BPair KB w.heap.size wr.heap.size (w3.setCell ⟨q, f, none⟩ (.slice a' m' c')) p q (updF L f (putP (L f) (x1, x2))) (M.set f (putP (L f) (x1, x2))) ∧ Below w.heap.size w (w3.setCell ⟨q, f, none⟩ (.slice a' m' c'))) := by
            refine (Put_ref w2.drew v (L f) (hv.below (Below.refl _ _).drew) (HF.out f).1 (by have := hfl.out; omega) (x1, x2)).mono ?_
            rintro e w3 ⟨v', rfl, hp, hb, ho⟩
            have hb' : Below w2.heap.size w2 w3 := (Below.refl _ _).drew.trans hb
            obtain ⟨h1, h2, _⟩ := hst w3 v' _ hb' hp ho
            obtain ⟨a', c', rfl, _, _⟩ := SlAt.form hp
            have u1 := (hb'.cell (p := ⟨wr.heap.size, 1, none⟩) hA0).trans g1
            have u3 := (hb'.cell (p := ⟨wr.heap.size, 3, none⟩) hA0).trans g3
            have u4 := (hb'.cell (p := ⟨wr.heap.size, 4, none⟩) hA0).trans g4
            have far : ∀ (u : Value) (a2 : Addr) (y : Value), a2.block ≠ q → w3.cell? a2 = some y → (w3.setCell ⟨q, f, none⟩ u).cell? a2 = some y := fun u a2 y hn hc => (World.cell?_setCell_far w3 ⟨q, f, none⟩ a2 u (Ne.symm hn)).trans hc
            refine ⟨a', _, c', rfl, (hb'.cell (p := ⟨q, f, none⟩) hq).trans c0, ?_, ⟨u1, u3, u4⟩, ⟨far _ ⟨wr.heap.size, 1, none⟩ _ hdq u1, far _ ⟨wr.heap.size, 3, none⟩ _ hdq u3, far _ ⟨wr.heap.size, 4, none⟩ _ hdq u4⟩, h1, HB2.out.trans (h2 HB2.out.size)⟩
            have := hb'.block q hq
            simp only [World.frozen?] at f0 ⊢
            rw [this]
            exact f0
          obtain ⟨av, cv, rfl, _, _⟩ := SlAt.form hv
          have hS0 : w2.drew.cell? ⟨wr.heap.size, 1, none⟩ = some (.int .i64 f) ∧ w2.drew.cell? ⟨wr.heap.size, 3, none⟩ = some (.int .i64 x1) ∧ w2.drew.cell? ⟨wr.heap.size, 4, none⟩ = some (.int .i64 x2) := ⟨g1, g3, g4⟩
          have c0d : w2.drew.cell? ⟨q, f, none⟩ = some (.slice av (L f).length cv) := c0
          have hf8I : (f : Int) < 8 := by omega
          clear hv hst HP2 HB2 hblk2
          refine wp_region_held_drew (S := fun W' => W'.cell? ⟨wr.heap.size, 1, none⟩ = some (.int .i64 f) ∧ W'.cell? ⟨wr.heap.size, 3, none⟩ = some (.int .i64 x1) ∧ W'.cell? ⟨wr.heap.size, 4, none⟩ = some (.int .i64 x2)) (by kernel_rfl) hS0 (fun hHeld => ?_)
          refine wpAnyH_take (i := 0) (v := ?va0) rfl (by kernel_rfl) (by kernel_rfl) (by kernel_rfl) (fun _ _ _ h => h) (Or.inl ⟨by rfl, ?hya0⟩) hHeld ?resta0
          case hya0 => ((intro w hSw; (try dsimp only at hSw); go_simp) <;> with_reducible rfl)
          case' resta0 => (try simp only [Act.put, List.setIfInBounds_toArray, List.set_cons_zero, List.set_cons_succ])
          refine wpAnyH_take (i := 1) (v := ?va1) rfl (by kernel_rfl) (by kernel_rfl) (by kernel_rfl) (fun _ _ _ h => h) (Or.inl ⟨by rfl, ?hya1⟩) hHeld ?resta1
          case hya1 => ((intro w hSw; (try dsimp only at hSw); go_simp) <;> with_reducible rfl)
          case' resta1 => (try simp only [Act.put, List.setIfInBounds_toArray, List.set_cons_zero, List.set_cons_succ])
          refine wpAnyH_take (i := 2) (v := ?va2) rfl (by kernel_rfl) (by kernel_rfl) (by kernel_rfl) (fun _ _ _ h => h) (Or.inl ⟨by rfl, ?hya2⟩) hHeld ?resta2
          case hya2 => ((intro w hSw; (try dsimp only at hSw); go_simp) <;> with_reducible rfl)
          case' resta2 => (try simp only [Act.put, List.setIfInBounds_toArray, List.set_cons_zero, List.set_cons_succ])
          refine wpAnyH_take (i := 3) (v := ?va3) rfl (by kernel_rfl) (by kernel_rfl) (by kernel_rfl) (fun _ _ _ h => h) (Or.inl ⟨by rfl, ?hya3⟩) hHeld ?resta3
          case hya3 => ((intro w hSw; (try dsimp only at hSw); go_simp) <;> with_reducible rfl)
          case' resta3 => (try simp only [Act.put, List.setIfInBounds_toArray, List.set_cons_zero, List.set_cons_succ])
          refine wpAnyH_take (i := 4) (v := ?va4) rfl (by kernel_rfl) (by kernel_rfl) (by kernel_rfl) (fun _ _ _ h => h) (Or.inl ⟨by rfl, ?hya4⟩) hHeld ?resta4
          case hya4 => ((intro w hSw; (try dsimp only at hSw); go_simp) <;> with_reducible rfl)
          case' resta4 => (try simp only [Act.put, List.setIfInBounds_toArray, List.set_cons_zero, List.set_cons_succ])
          refine wpAnyH_take (i := 6) (v := ?va6) rfl (by kernel_rfl) (by kernel_rfl) (by kernel_rfl) (fun _ _ _ h => h) (Or.inl ⟨by rfl, ?hya6⟩) hHeld ?resta6
          case hya6 => ((intro w hSw; (try dsimp only at hSw); go_simp) <;> with_reducible rfl)
          case' resta6 => (try simp only [Act.put, List.setIfInBounds_toArray, List.set_cons_zero, List.set_cons_succ])
          refine wpAnyH_take (i := 7) (v := ?va7) rfl (by kernel_rfl) (by kernel_rfl) (by kernel_rfl) (fun _ _ _ h => h) (Or.inl ⟨by rfl, ?hya7⟩) hHeld ?resta7
          case hya7 => ((intro w hSw; (try dsimp only at hSw); go_simp) <;> with_reducible rfl)
          case' resta7 => (try simp only [Act.put, List.setIfInBounds_toArray, List.set_cons_zero, List.set_cons_succ])
          refine wpAnyH_ready (rs := [5]) (by kernel_rfl) (by simp) ?_
          refine AllReadyH.cons rfl (fun K hK => ?_) AllReadyH.nil
          go_simp
          refine hK.out _ _ hHeld (fun hHeld => ?_)
          clear hK K
          refine wpAnyH_ready (rs := [8]) (by kernel_rfl) (by simp) ?_
          refine AllReadyH.cons rfl (fun K hK => ?_) AllReadyH.nil
          go_simp
          go_wp2_with (go_at_call 27; refine hput.out.mono ?_; rintro e w3 ⟨a', m', c', rfl, j2, j3, hS3, hSZ, hP3, hB3⟩; have HP3 := Lib.hid hP3; have HBc := Lib.hid hB3; clear hP3 hB3)
          refine hK.out _ _ hS3 (fun hHeld => ?_)
          clear hK K
          refine wpAnyH_take (i := 9) (v := ?va9) rfl (by kernel_rfl) (by kernel_rfl) (by kernel_rfl) (fun _ _ _ h => h) (Or.inl ⟨by rfl, ?hya9⟩) hHeld ?resta9
          case hya9 => ((intro w hSw; (try dsimp only at hSw); go_simp) <;> with_reducible rfl)
          case' resta9 => (try simp only [Act.put, List.setIfInBounds_toArray, List.set_cons_zero, List.set_cons_succ])
          refine wpAnyH_ready (rs := [10]) (by kernel_rfl) (by simp) ?_
          refine AllReadyH.cons rfl (fun K hK => ?_) AllReadyH.nil
          go_simp
          refine hK.out _ _ hSZ (fun hHeld => ?_)
          clear hK K
          refine wpAnyH_done (by kernel_rfl) ?_ _
          obtain ⟨Lc, Mc, dc, HPc, HSc, HFc⟩ : ∃ Lc Mc dc, Hid (BPair KB w.heap.size dc (w3.setCell ⟨q, f, none⟩ (.slice a' m' c')) p q Lc Mc) ∧ Hid (Sync Lc Mc) ∧ Hid (FineB (P ++ [(x1, x2)]) Lc) := ⟨_, _, _, HP3, HS.out.set f _, HF.out.put f (x1, x2)⟩
          clear HP3 hput j2 j3 g1 g3 g4 c0 f0 hA0 hq hS3 hSZ hHeld hS0 c0d
          generalize w3.setCell ⟨q, f, none⟩ (.slice a' m' c') = Wc at *
          go_wp2_with fail
          go_loopw [13] (fun ii wq => ∃ g : Nat, g ≤ 8 ∧ ii = .int .i64 g ∧ Below Wc.heap.size Wc wq) (fun ii _ => 8 - (Go.RowKit.intOf ii).toNat)
          case atStart => exact ⟨0, by omega, rfl, Below.refl _ _⟩
          case round =>
            obtain ⟨g, hg, rfl, hb⟩ := hrel
            have HBg := Lib.hid hb
            clear hb
            by_cases hg8 : g < 8
            · have hg1 : (g : Int) < 8 := by omega
              have hg0 : (0 : Int) ≤ g := by omega
              obtain ⟨vg, hvg, hcg⟩ := HPc.out.cell g (Lc g) (HSc.out g hg8)
              have hgl : Hid ((Lc g).length ≤ 1000000) := by
                have := HFc.out.len g
                rw [List.length_append, List.length_singleton] at this
                show _ ≤ _
                omega
              go_wp2_with fail
              obtain ⟨W1, hW1⟩ : ∃ W1, W1 = wr.drew := ⟨_, rfl⟩
              have HBW : Hid (Below Wc.heap.size Wc W1) := by rw [hW1]; exact HBg.out.drew
              have g1 : W1.cell? ⟨q, g, none⟩ = some vg := (HBW.out.cell (p := ⟨q, g, none⟩) (World.block_lt_of_cell? Wc _ hcg)).trans hcg
              have HPg : Hid (BPair KB w.heap.size dc W1 p q Lc Mc) := HPc.out.below HBW.out
              have HVg := Lib.hid hvg
              have hdg : wr.drew = W1 := hW1.symm
              clear hW1 hvg hcg HBg
              go_region_held (fun W' => W'.cell? ⟨q, g, none⟩ = some vg) (go_keep)
                (first
                  | (go_at_call 30; refine (HPg.out.of g hgl.out).mono ?_; rintro e w2 ⟨v2, rfl, hp2, b2⟩; have g2 := (b2.cell (World.block_lt_of_cell? _ _ g1)).trans g1; have HV2 := Lib.hid hp2; have HB2 := Lib.hid (HBW.out.trans (b2.mono HBW.out.size)); clear hp2 b2 HPg)
                  | (go_at_call 29; have ep := Places_ref _ v2 vg (Lc g) (Lc g) HV2.out (HVg.out.below HB2.out); rw [decide_eq_true rfl] at ep; refine ep.mono ?_; clear ep; rintro e w3 ⟨rfl, b3⟩; have g3 := (b3.cell (World.block_lt_of_cell? _ _ g2)).trans g2; have HB3 := Lib.hid (HB2.out.trans (b3.mono HB2.out.size)); clear b3 HV2))
              go_wp2_with fail
              go_roundw
              case rel => exact ⟨g + 1, by omega, by go_num, HB3.out⟩
              case measure => simp [Go.RowKit.intOf]; omega
            · go_wp2_with fail
              go_roundw
              case rel => exact ⟨k + 1, by omega, by go_num, HBc.out.trans (HBg.out.mono HBc.out.size), Lc, Mc, dc, P ++ [(x1, x2)], HPc.out.below HBg.out, HSc.out, HFc.out, by rw [List.length_append, List.length_singleton]; omega⟩
              case measure => simp [Go.RowKit.intOf]; omega
        · by_cases c1 : wh = 1
          · subst c1
            go_wp2_with fail
            generalize wr.alloc _ = w2 at *
            obtain ⟨v, hv, c0, f0, hq, hst⟩ := HP1.out.list (Array.getElem?_eq_some_iff.1 hblk.out).1 f (L f) (HS.out f hf8)
            obtain ⟨W2, hW2⟩ : ∃ W2, W2 = w2.drew := ⟨_, rfl⟩
            have g1 : w2.cell? ⟨wr.heap.size, 1, none⟩ = some (.int .i64 f) := by rw [cell_of_row w2 _ 1 _ _ _ hblk.out]; rfl
            have g3 : w2.cell? ⟨wr.heap.size, 3, none⟩ = some (.int .i64 x1) := by rw [cell_of_row w2 _ 3 _ _ _ hblk.out]; rfl
            have g4 : w2.cell? ⟨wr.heap.size, 4, none⟩ = some (.int .i64 x2) := by rw [cell_of_row w2 _ 4 _ _ _ hblk.out]; rfl
            have hA0 : wr.heap.size < w2.heap.size := World.block_lt_of_cell? _ _ g1
            have r1 : W2.cell? ⟨wr.heap.size, 1, none⟩ = some (.int .i64 f) := by rw [hW2]; exact g1
            have r3 : W2.cell? ⟨wr.heap.size, 3, none⟩ = some (.int .i64 x1) := by rw [hW2]; exact g3
            have r4 : W2.cell? ⟨wr.heap.size, 4, none⟩ = some (.int .i64 x2) := by rw [hW2]; exact g4
            have rc : W2.cell? ⟨q, f, none⟩ = some v := by rw [hW2]; exact c0
            have hb2W : Hid (Below w2.heap.size w2 W2) := by rw [hW2]; exact (Below.refl _ _).drew
            obtain ⟨yes, hyes⟩ : ∃ yes, yes = decide ((x1, x2) ∈ L f) := ⟨_, rfl⟩
            have HY := Lib.hid hyes
            have hout : Hid (Calls Try.prog 39 #[v, .agg #[.int .i64 x1, .int .i64 x2]] W2 fun e w3 => ∃ a' m' c', e = .returned (.tuple #[.slice a' m' c', .bool yes]) ∧ Below w2.heap.size w2 w3 ∧
                BPair KB w.heap.size wr.heap.size (w3.setCell ⟨q, f, none⟩ (.slice a' m' c')) p q L (M.set f ((L f).erase (x1, x2))) ∧ Below w.heap.size w (w3.setCell ⟨q, f, none⟩ (.slice a' m' c')) ∧
                (w3.setCell ⟨q, f, none⟩ (.slice a' m' c')).heap[wr.heap.size]? = some (.cells #[.int .i64 1, .int .i64 f, .int .i64 t, .int .i64 x1, .int .i64 x2] 75 (0, 0))) := by
              refine (Out_ref W2 v (L f) (hv.below hb2W.out) (by have := hfl.out; omega) (x1, x2)).mono ?_
              rintro e w3 ⟨v', rfl, hp, hb, ho⟩
              have hb' : Below w2.heap.size w2 w3 := hb2W.out.trans (hb.mono hb2W.out.size)
              obtain ⟨h1, h2, h3⟩ := hst w3 v' _ hb' hp (ho.imp id (fun h b hb => by have := h b hb; have := hb2W.out.size; omega))
              obtain ⟨a', c', rfl, _, _⟩ := SlAt.form hp
              exact ⟨a', _, c', by rw [hyes], hb', h1, HBa.out.trans (h2 HBa.out.size), h3.trans ((hb'.block wr.heap.size hA0).trans hblk.out)⟩
            have hd2 : w2.drew = W2 := hW2.symm
            have hf0w : ∀ w3, Below w2.heap.size w2 w3 → w3.frozen? ⟨q, f, none⟩ = false := fun w3 hb => by
              have := hb.block q hq
              simp only [World.frozen?] at f0 ⊢
              rw [this]
              exact f0
            have HF0 := Lib.hid hf0w
            have G1 := Lib.hid g1
            have G3 := Lib.hid g3
            have G4 := Lib.hid g4
            have C0 := Lib.hid c0
            clear hW2 hst HP1 hyes f0 hf0w g1 g3 g4 c0
            go_region_held (fun W' => W'.cell? ⟨wr.heap.size, 1, none⟩ = some (.int .i64 f) ∧ W'.cell? ⟨wr.heap.size, 3, none⟩ = some (.int .i64 x1) ∧ W'.cell? ⟨wr.heap.size, 4, none⟩ = some (.int .i64 x2) ∧ W'.cell? ⟨q, f, none⟩ = some v) (go_keep)
              ((go_at_call 39; refine hout.out.mono ?_; rintro e w3 ⟨a', m', c', rfl, hb3, hP3, hB3, hK3⟩; have s1 := (hb3.cell (p := ⟨wr.heap.size, 1, none⟩) hA0).trans G1.out; have s3 := (hb3.cell (p := ⟨wr.heap.size, 3, none⟩) hA0).trans G3.out; have s4 := (hb3.cell (p := ⟨wr.heap.size, 4, none⟩) hA0).trans G4.out; have sc := (hb3.cell (p := ⟨q, f, none⟩) hq).trans C0.out; have sf := HF0.out w3 hb3; have HP3 := Lib.hid hP3; have HB3 := Lib.hid hB3; have HK3 := Lib.hid hK3; clear hP3 hB3 hK3 hb3))
            obtain ⟨av, cv, rfl, _, _⟩ := SlAt.form hv
            clear hv hout r1 r3 r4 rc HBa hblk
            have g1' : (w3.setCell ⟨q, f, none⟩ (.slice a' m' c')).cell? ⟨wr.heap.size, 1, none⟩ = some (.int .i64 f) := by rw [cell_of_row _ _ 1 _ _ _ HK3.out]; rfl
            have g3' : (w3.setCell ⟨q, f, none⟩ (.slice a' m' c')).cell? ⟨wr.heap.size, 3, none⟩ = some (.int .i64 x1) := by rw [cell_of_row _ _ 3 _ _ _ HK3.out]; rfl
            have g4' : (w3.setCell ⟨q, f, none⟩ (.slice a' m' c')).cell? ⟨wr.heap.size, 4, none⟩ = some (.int .i64 x2) := by rw [cell_of_row _ _ 4 _ _ _ HK3.out]; rfl
            go_wp2_with fail
            generalize w3.setCell ⟨q, f, none⟩ (.slice a' m' c') = w4 at *
            have er := HP3.out.drop HB3.out.size (World.block_lt_of_cell? _ _ g1') f (x1, x2) (by have := hfl.out; omega) ⟨hf0, hf7⟩
            rw [← HY.out] at er
            refine er.mono ?_
            clear er
            rintro e Wc ⟨rfl, h5, b5, -⟩
            obtain ⟨Lc, Mc, dc, HPc, HSc, HFc⟩ : ∃ Lc Mc dc, Hid (BPair KB w.heap.size dc Wc p q Lc Mc) ∧ Hid (Sync Lc Mc) ∧ Hid (FineB (P ++ [(x1, x2)]) Lc) := ⟨_, _, _, h5, HS.out.set f _, HF.out.out f (x1, x2)⟩
            have HBc := Lib.hid (HB3.out.trans b5)
            clear h5 b5 HP3 HB3 HK3 g1' g3' g4' s1 s3 s4 sc sf
            go_wp2_with fail
            go_loopw [13] (fun ii wq => ∃ g : Nat, g ≤ 8 ∧ ii = .int .i64 g ∧ Below Wc.heap.size Wc wq) (fun ii _ => 8 - (Go.RowKit.intOf ii).toNat)
            case atStart => exact ⟨0, by omega, rfl, Below.refl _ _⟩
            case round =>
              obtain ⟨g, hg, rfl, hb⟩ := hrel
              have HBg := Lib.hid hb
              clear hb
              by_cases hg8 : g < 8
              · have hg1 : (g : Int) < 8 := by omega
                have hg0 : (0 : Int) ≤ g := by omega
                obtain ⟨vg, hvg, hcg⟩ := HPc.out.cell g (Lc g) (HSc.out g hg8)
                have hgl : Hid ((Lc g).length ≤ 1000000) := by
                  have := HFc.out.len g
                  rw [List.length_append, List.length_singleton] at this
                  show _ ≤ _
                  omega
                go_wp2_with fail
                obtain ⟨W1, hW1⟩ : ∃ W1, W1 = wr.drew := ⟨_, rfl⟩
                have HBW : Hid (Below Wc.heap.size Wc W1) := by rw [hW1]; exact HBg.out.drew
                have g1 : W1.cell? ⟨q, g, none⟩ = some vg := (HBW.out.cell (p := ⟨q, g, none⟩) (World.block_lt_of_cell? Wc _ hcg)).trans hcg
                have HPg : Hid (BPair KB w.heap.size dc W1 p q Lc Mc) := HPc.out.below HBW.out
                have HVg := Lib.hid hvg
                have hdg : wr.drew = W1 := hW1.symm
                clear hW1 hvg hcg HBg
                go_region_held (fun W' => W'.cell? ⟨q, g, none⟩ = some vg) (go_keep)
                  (first
                    | (go_at_call 30; refine (HPg.out.of g hgl.out).mono ?_; rintro e w2 ⟨v2, rfl, hp2, b2⟩; have g2 := (b2.cell (World.block_lt_of_cell? _ _ g1)).trans g1; have HV2 := Lib.hid hp2; have HB2 := Lib.hid (HBW.out.trans (b2.mono HBW.out.size)); clear hp2 b2 HPg)
                    | (go_at_call 29; have ep := Places_ref _ v2 vg (Lc g) (Lc g) HV2.out (HVg.out.below HB2.out); rw [decide_eq_true rfl] at ep; refine ep.mono ?_; clear ep; rintro e w3 ⟨rfl, b3⟩; have g3 := (b3.cell (World.block_lt_of_cell? _ _ g2)).trans g2; have HB3 := Lib.hid (HB2.out.trans (b3.mono HB2.out.size)); clear b3 HV2))
                go_wp2_with fail
                go_roundw
                case rel => exact ⟨g + 1, by omega, by go_num, HB3.out⟩
                case measure => simp [Go.RowKit.intOf]; omega
              · go_wp2_with fail
                go_roundw
                case rel => exact ⟨k + 1, by omega, by go_num, HBc.out.trans (HBg.out.mono HBc.out.size), Lc, Mc, dc, P ++ [(x1, x2)], HPc.out.below HBg.out, HSc.out, HFc.out, by rw [List.length_append, List.length_singleton]; omega⟩
                case measure => simp [Go.RowKit.intOf]; omega
          · by_cases c2 : wh = 2
            · subst c2
              obtain ⟨v, hv, hc⟩ := HP1.out.cell f (L f) (HS.out f hf8)
              obtain ⟨av, cv, rfl, _, _⟩ := SlAt.form hv
              clear hv
              by_cases hz : L f = []
              · have hz0 : (L f).length = 0 := by rw [hz]; rfl
                go_wp2_with fail
                clear hc
                generalize wr.alloc _ = W1 at *
                refine (HP1.out.move_no f t (by have := hfl.out; omega) (.inl hz)).mono ?_
                rintro e w2 ⟨rfl, h2, b2⟩
                have HP2 := Lib.hid h2
                have HB2 := Lib.hid (HBa.out.trans (b2.mono HBa.out.size))
                have HK2 := Lib.hid ((b2.block wr.heap.size (Array.getElem?_eq_some_iff.1 hblk.out).1).trans hblk.out)
                have g1 : w2.cell? ⟨wr.heap.size, 1, none⟩ = some (.int .i64 f) := by rw [cell_of_row w2 _ 1 _ _ _ HK2.out]; rfl
                clear h2 b2 HP1 HBa hblk
                go_wp2_with fail
                refine wp_loop_rounds 1 ?_
                rw [rounds_succ]
                go_wp2_with fail
                obtain ⟨Lc, Mc, dc, HPc, HSc, HFc⟩ : ∃ Lc Mc dc, Hid (BPair KB w.heap.size dc w2 p q Lc Mc) ∧ Hid (Sync Lc Mc) ∧ Hid (FineB (P ++ [(x1, x2)]) Lc) := ⟨_, _, _, HP2, HS, HF.out.up (x1, x2)⟩
                have HBc := Lib.hid HB2.out
                clear HP2 HB2 HK2 g1
                generalize w2 = Wc at *
                go_loopw [13] (fun ii wq => ∃ g : Nat, g ≤ 8 ∧ ii = .int .i64 g ∧ Below Wc.heap.size Wc wq) (fun ii _ => 8 - (Go.RowKit.intOf ii).toNat)
                case atStart => exact ⟨0, by omega, rfl, Below.refl _ _⟩
                case round =>
                  obtain ⟨g, hg, rfl, hb⟩ := hrel
                  have HBg := Lib.hid hb
                  clear hb
                  by_cases hg8 : g < 8
                  · have hg1 : (g : Int) < 8 := by omega
                    have hg0 : (0 : Int) ≤ g := by omega
                    obtain ⟨vg, hvg, hcg⟩ := HPc.out.cell g (Lc g) (HSc.out g hg8)
                    have hgl : Hid ((Lc g).length ≤ 1000000) := by
                      have := HFc.out.len g
                      rw [List.length_append, List.length_singleton] at this
                      show _ ≤ _
                      omega
                    go_wp2_with fail
                    obtain ⟨W1, hW1⟩ : ∃ W1, W1 = wr.drew := ⟨_, rfl⟩
                    have HBW : Hid (Below Wc.heap.size Wc W1) := by rw [hW1]; exact HBg.out.drew
                    have g1 : W1.cell? ⟨q, g, none⟩ = some vg := (HBW.out.cell (p := ⟨q, g, none⟩) (World.block_lt_of_cell? Wc _ hcg)).trans hcg
                    have HPg : Hid (BPair KB w.heap.size dc W1 p q Lc Mc) := HPc.out.below HBW.out
                    have HVg := Lib.hid hvg
                    have hdg : wr.drew = W1 := hW1.symm
                    clear hW1 hvg hcg HBg
                    go_region_held (fun W' => W'.cell? ⟨q, g, none⟩ = some vg) (go_keep)
                      (first
                        | (go_at_call 30; refine (HPg.out.of g hgl.out).mono ?_; rintro e w2 ⟨v2, rfl, hp2, b2⟩; have g2 := (b2.cell (World.block_lt_of_cell? _ _ g1)).trans g1; have HV2 := Lib.hid hp2; have HB2 := Lib.hid (HBW.out.trans (b2.mono HBW.out.size)); clear hp2 b2 HPg)
                        | (go_at_call 29; have ep := Places_ref _ v2 vg (Lc g) (Lc g) HV2.out (HVg.out.below HB2.out); rw [decide_eq_true rfl] at ep; refine ep.mono ?_; clear ep; rintro e w3 ⟨rfl, b3⟩; have g3 := (b3.cell (World.block_lt_of_cell? _ _ g2)).trans g2; have HB3 := Lib.hid (HB2.out.trans (b3.mono HB2.out.size)); clear b3 HV2))
                    go_wp2_with fail
                    go_roundw
                    case rel => exact ⟨g + 1, by omega, by go_num, HB3.out⟩
                    case measure => simp [Go.RowKit.intOf]; omega
                  · go_wp2_with fail
                    go_roundw
                    case rel => exact ⟨k + 1, by omega, by go_num, HBc.out.trans (HBg.out.mono HBc.out.size), Lc, Mc, dc, P ++ [(x1, x2)], HPc.out.below HBg.out, HSc.out, HFc.out, by rw [List.length_append, List.length_singleton]; omega⟩
                    case measure => simp [Go.RowKit.intOf]; omega
              · have hzN : 0 < (L f).length := List.length_pos_iff.2 hz
                have hzI : (0 : Int) < (L f).length := by omega
                by_cases hft : f = t
                · subst hft
                  have hbq : ((f : Int) == f) = true := by simp
                  go_wp2_with fail
                  clear hc
                  generalize wr.alloc _ = W1 at *
                  refine (HP1.out.move_no f f (by have := hfl.out; omega) (.inr rfl)).mono ?_
                  rintro e w2 ⟨rfl, h2, b2⟩
                  have HP2 := Lib.hid h2
                  have HB2 := Lib.hid (HBa.out.trans (b2.mono HBa.out.size))
                  have HK2 := Lib.hid ((b2.block wr.heap.size (Array.getElem?_eq_some_iff.1 hblk.out).1).trans hblk.out)
                  have g1 : w2.cell? ⟨wr.heap.size, 1, none⟩ = some (.int .i64 f) := by rw [cell_of_row w2 _ 1 _ _ _ HK2.out]; rfl
                  clear h2 b2 HP1 HBa hblk
                  go_wp2_with fail
                  refine wp_loop_rounds 1 ?_
                  rw [rounds_succ]
                  go_wp2_with fail
                  obtain ⟨Lc, Mc, dc, HPc, HSc, HFc⟩ : ∃ Lc Mc dc, Hid (BPair KB w.heap.size dc w2 p q Lc Mc) ∧ Hid (Sync Lc Mc) ∧ Hid (FineB (P ++ [(x1, x2)]) Lc) := ⟨_, _, _, HP2, HS, HF.out.up (x1, x2)⟩
                  have HBc := Lib.hid HB2.out
                  clear HP2 HB2 HK2 g1
                  generalize w2 = Wc at *
                  go_loopw [13] (fun ii wq => ∃ g : Nat, g ≤ 8 ∧ ii = .int .i64 g ∧ Below Wc.heap.size Wc wq) (fun ii _ => 8 - (Go.RowKit.intOf ii).toNat)
                  case atStart => exact ⟨0, by omega, rfl, Below.refl _ _⟩
                  case round =>
                    obtain ⟨g, hg, rfl, hb⟩ := hrel
                    have HBg := Lib.hid hb
                    clear hb
                    by_cases hg8 : g < 8
                    · have hg1 : (g : Int) < 8 := by omega
                      have hg0 : (0 : Int) ≤ g := by omega
                      obtain ⟨vg, hvg, hcg⟩ := HPc.out.cell g (Lc g) (HSc.out g hg8)
                      have hgl : Hid ((Lc g).length ≤ 1000000) := by
                        have := HFc.out.len g
                        rw [List.length_append, List.length_singleton] at this
                        show _ ≤ _
                        omega
                      go_wp2_with fail
                      obtain ⟨W1, hW1⟩ : ∃ W1, W1 = wr.drew := ⟨_, rfl⟩
                      have HBW : Hid (Below Wc.heap.size Wc W1) := by rw [hW1]; exact HBg.out.drew
                      have g1 : W1.cell? ⟨q, g, none⟩ = some vg := (HBW.out.cell (p := ⟨q, g, none⟩) (World.block_lt_of_cell? Wc _ hcg)).trans hcg
                      have HPg : Hid (BPair KB w.heap.size dc W1 p q Lc Mc) := HPc.out.below HBW.out
                      have HVg := Lib.hid hvg
                      have hdg : wr.drew = W1 := hW1.symm
                      clear hW1 hvg hcg HBg
                      go_region_held (fun W' => W'.cell? ⟨q, g, none⟩ = some vg) (go_keep)
                        (first
                          | (go_at_call 30; refine (HPg.out.of g hgl.out).mono ?_; rintro e w2 ⟨v2, rfl, hp2, b2⟩; have g2 := (b2.cell (World.block_lt_of_cell? _ _ g1)).trans g1; have HV2 := Lib.hid hp2; have HB2 := Lib.hid (HBW.out.trans (b2.mono HBW.out.size)); clear hp2 b2 HPg)
                          | (go_at_call 29; have ep := Places_ref _ v2 vg (Lc g) (Lc g) HV2.out (HVg.out.below HB2.out); rw [decide_eq_true rfl] at ep; refine ep.mono ?_; clear ep; rintro e w3 ⟨rfl, b3⟩; have g3 := (b3.cell (World.block_lt_of_cell? _ _ g2)).trans g2; have HB3 := Lib.hid (HB2.out.trans (b3.mono HB2.out.size)); clear b3 HV2))
                      go_wp2_with fail
                      go_roundw
                      case rel => exact ⟨g + 1, by omega, by go_num, HB3.out⟩
                      case measure => simp [Go.RowKit.intOf]; omega
                    · go_wp2_with fail
                      go_roundw
                      case rel => exact ⟨k + 1, by omega, by go_num, HBc.out.trans (HBg.out.mono HBc.out.size), Lc, Mc, dc, P ++ [(x1, x2)], HPc.out.below HBg.out, HSc.out, HFc.out, by rw [List.length_append, List.length_singleton]; omega⟩
                      case measure => simp [Go.RowKit.intOf]; omega
                · skip
                  have hftI : (f : Int) ≠ t := by omega
                  have hne1 : ¬ ((f : Int) = t) := hftI
                  have hbne : ((f : Int) != t) = true := by simpa using hftI
                  go_wp2_with fail
                  clear hc
                  generalize wr.alloc _ = W1 at *
                  refine (HP1.out.move HBa.out.size (Array.getElem?_eq_some_iff.1 hblk.out).1 f t (HF.out t).1 (by have := hfl.out; omega) hz hftI ⟨ht0, ht7⟩).mono ?_
                  rintro e w2 ⟨rfl, h2, b2, k2⟩
                  obtain ⟨L2, hL2⟩ : ∃ L2, L2 = updF (updF L f []) t ((L f).foldl putP (L t)) := ⟨_, rfl⟩
                  rw [← hL2] at h2
                  obtain ⟨l, hl⟩ : ∃ l, l = L f := ⟨_, rfl⟩
                  obtain ⟨lt, hlt0⟩ : ∃ lt, lt = L t := ⟨_, rfl⟩
                  have hMt : M.set t lt = M := by rw [hlt0]; exact set_same (HS.out t ht8)
                  have HP2 : Hid (BPair KB w.heap.size wr.heap.size w2 p q L2 (M.set t ((l.take 0).foldl putP lt))) := by
                    show BPair _ _ _ _ _ _ _ _
                    rw [List.take_zero, List.foldl_nil, hMt]
                    exact h2
                  have HB2 := Lib.hid (HBa.out.trans b2)
                  have HK2 := Lib.hid (k2.trans hblk.out)
                  have g1 : w2.cell? ⟨wr.heap.size, 1, none⟩ = some (.int .i64 f) := by rw [cell_of_row w2 _ 1 _ _ _ HK2.out]; rfl
                  have HM8 : Hid (M.length = 8) := HP.out.len
                  have HLf : Hid (M[f]? = some l) := by show _ = _; rw [hl]; exact HS.out f hf8
                  have HL2 := Lib.hid hL2
                  have HLL := Lib.hid (And.intro hl hlt0)
                  have hll : Hid (l.length ≤ 80 ∧ lt.length ≤ 80 ∧ SortedP lt) := by rw [hl, hlt0]; exact ⟨hfl.out.1, hfl.out.2, (HF.out t).1⟩
                  clear h2 b2 k2 HP1 HBa hblk hL2 hl hlt0 hMt
                  generalize wr.heap.size = dd at *
                  go_wp2_with fail
                  go_loopw [12] (fun kk wq => ∃ j : Nat, j ≤ l.length ∧ kk = .int .i64 j ∧ BPair KB w.heap.size dd wq p q L2 (M.set t ((l.take j).foldl putP lt)) ∧ Below w.heap.size w wq ∧ wq.heap[dd]? = some (.cells #[.int .i64 2, .int .i64 f, .int .i64 t, .int .i64 x1, .int .i64 x2] 75 (0, 0))) (fun kk _ => l.length - (Go.RowKit.intOf kk).toNat)
                  case atStart => exact ⟨0, by omega, rfl, HP2.out, HB2.out, HK2.out⟩
                  case round =>
                    obtain ⟨j, hj, rfl, hp, hb, hk2⟩ := hrel
                    have HPj := Lib.hid hp
                    have HBj := Lib.hid hb
                    have HKj := Lib.hid hk2
                    clear hp hb hk2 HP2 HB2 HK2 g1
                    have hdd := (Array.getElem?_eq_some_iff.1 HKj.out).1
                    have g1 : wr.cell? ⟨dd, 1, none⟩ = some (.int .i64 f) := by rw [cell_of_row wr _ 1 _ _ _ HKj.out]; rfl
                    have g2 : wr.cell? ⟨dd, 2, none⟩ = some (.int .i64 t) := by rw [cell_of_row wr _ 2 _ _ _ HKj.out]; rfl
                    obtain ⟨vf, hvf, hcf⟩ := HPj.out.cell f l (by rw [List.getElem?_set_ne (by omega)]; exact HLf.out)
                    obtain ⟨af, cf, rfl, hlc, _⟩ := SlAt.form hvf
                    have hl80 : l.length ≤ 80 := hll.out.1
                    by_cases hjl : j < l.length
                    · have hjl' : (j : Int) < l.length := by omega
                      obtain ⟨y, hy⟩ : ∃ y, l[j]? = some y := ⟨_, List.getElem?_eq_getElem hjl⟩
                      obtain ⟨b', off', rfl⟩ := PlAt.addr hvf (by omega)
                      obtain ⟨e0', e1'⟩ := PlAt.cellAt hvf hy
                      obtain ⟨y1, y2⟩ := y
                      simp only at e0' e1'
                      obtain ⟨M1, hM1⟩ : ∃ M1, M1 = (l.take j).foldl putP lt := ⟨_, rfl⟩
                      have hnext : Hid ((l.take (j + 1)).foldl putP lt = putP M1 (y1, y2)) := by
                        show _ = _
                        rw [take_next hy, List.foldl_append, ← hM1]
                        rfl
                      have hM1l : Hid (SortedP M1 ∧ M1.length ≤ 200) := by
                        rw [hM1]
                        refine ⟨foldP_sorted _ _ hll.out.2.2, ?_⟩
                        have h1 := foldP_length (l.take j) lt
                        rw [List.length_take] at h1
                        have := hll.out
                        omega
                      rw [← hM1] at HPj
                      obtain ⟨v, hv, c0, f0, hq, hst⟩ := HPj.out.list hdd t M1 (by rw [List.getElem?_set_self (by rw [HM8.out]; exact ht8)])
                      have hSu : Hid (∀ X : World, Below wr.heap.size wr X → X.cell? ⟨dd, 1, none⟩ = some (.int .i64 f) ∧ X.cell? ⟨dd, 2, none⟩ = some (.int .i64 t) ∧ X.cell? ⟨q, f, none⟩ = some (.slice (some ⟨b', off', none⟩) l.length cf) ∧ X.cell? ⟨b', off' + j * 2, none⟩ = some (.int .i64 y1) ∧ X.cell? ⟨b', off' + j * 2 + 1, none⟩ = some (.int .i64 y2)) := fun X hX =>
                        ⟨(hX.cell (World.block_lt_of_cell? _ _ g1)).trans g1, (hX.cell (World.block_lt_of_cell? _ _ g2)).trans g2, (hX.cell (World.block_lt_of_cell? _ _ hcf)).trans hcf, (hX.cell (World.block_lt_of_cell? _ _ e0')).trans e0', (hX.cell (World.block_lt_of_cell? _ _ e1')).trans e1'⟩
                      have hbq : Hid (b' ≠ q) := HPj.out.apart f l (by rw [List.getElem?_set_ne (by omega)]; exact HLf.out) hcf rfl
                      have hput : Hid (Calls Try.prog 27 #[v, .agg #[.int .i64 y1, .int .i64 y2]] wr.drew fun e w3 => ∃ a' m' c', e = .returned (.slice a' m' c') ∧ w3.cell? ⟨q, t, none⟩ = some v ∧ w3.frozen? ⟨q, t, none⟩ = false ∧
                          (w3.cell? ⟨dd, 1, none⟩ = some (.int .i64 f) ∧ w3.cell? ⟨dd, 2, none⟩ = some (.int .i64 t) ∧ w3.cell? ⟨q, f, none⟩ = some (.slice (some ⟨b', off', none⟩) l.length cf) ∧ w3.cell? ⟨b', off' + j * 2, none⟩ = some (.int .i64 y1) ∧ w3.cell? ⟨b', off' + j * 2 + 1, none⟩ = some (.int .i64 y2)) ∧
                          ((w3.setCell ⟨q, t, none⟩ (.slice a' m' c')).cell? ⟨dd, 1, none⟩ = some (.int .i64 f) ∧ (w3.setCell ⟨q, t, none⟩ (.slice a' m' c')).cell? ⟨dd, 2, none⟩ = some (.int .i64 t) ∧ (w3.setCell ⟨q, t, none⟩ (.slice a' m' c')).cell? ⟨q, f, none⟩ = some (.slice (some ⟨b', off', none⟩) l.length cf) ∧ (w3.setCell ⟨q, t, none⟩ (.slice a' m' c')).cell? ⟨b', off' + j * 2, none⟩ = some (.int .i64 y1) ∧ (w3.setCell ⟨q, t, none⟩ (.slice a' m' c')).cell? ⟨b', off' + j * 2 + 1, none⟩ = some (.int .i64 y2)) ∧
                          BPair KB w.heap.size dd (w3.setCell ⟨q, t, none⟩ (.slice a' m' c')) p q L2 (M.set t (putP M1 (y1, y2))) ∧ Below w.heap.size w (w3.setCell ⟨q, t, none⟩ (.slice a' m' c')) ∧
                          (w3.setCell ⟨q, t, none⟩ (.slice a' m' c')).heap[dd]? = some (.cells #[.int .i64 2, .int .i64 f, .int .i64 t, .int .i64 x1, .int .i64 x2] 75 (0, 0))) := by
                        refine (Put_ref wr.drew v M1 (hv.below (Below.refl _ _).drew) hM1l.out.1 (by have := hM1l.out.2; omega) (y1, y2)).mono ?_
                        rintro e w3 ⟨v', rfl, hp, hb, ho⟩
                        have hb' : Below wr.heap.size wr w3 := (Below.refl _ _).drew.trans hb
                        obtain ⟨h1, h2, h3⟩ := hst w3 v' _ hb' hp ho
                        rw [List.set_set] at h1
                        obtain ⟨a', c', rfl, _, _⟩ := SlAt.form hp
                        obtain ⟨u1, u2, u3, u4, u5⟩ := hSu.out w3 hb'
                        have hdq : dd ≠ q := fun e => by
                          have hh := HKj.out
                          rw [e] at hh
                          have := hcf
                          rw [cell_of_row wr _ _ _ _ _ hh] at this
                          rcases f with _ | _ | _ | _ | _ | f <;> simp at this
                        have far : ∀ (u : Value) (a2 : Addr) (y : Value), a2.block ≠ q → w3.cell? a2 = some y → (w3.setCell ⟨q, t, none⟩ u).cell? a2 = some y := fun u a2 y hn hc => (World.cell?_setCell_far w3 ⟨q, t, none⟩ a2 u (Ne.symm hn)).trans hc
                        refine ⟨a', _, c', rfl, (hb'.cell (p := ⟨q, t, none⟩) hq).trans c0, ?_, ⟨u1, u2, u3, u4, u5⟩, ⟨far _ ⟨dd, 1, none⟩ _ hdq u1, far _ ⟨dd, 2, none⟩ _ hdq u2, (World.cell?_setCell_other w3 ⟨q, t, none⟩ ⟨q, f, none⟩ _ (by intro e; injection e with _ e2; omega)).trans u3, far _ ⟨b', off' + j * 2, none⟩ _ hbq.out u4, far _ ⟨b', off' + j * 2 + 1, none⟩ _ hbq.out u5⟩, h1, HBj.out.trans (h2 HBj.out.size), h3.trans ((hb'.block dd hdd).trans HKj.out)⟩
                        have := hb'.block q hq
                        simp only [World.frozen?] at f0 ⊢
                        rw [this]
                        exact f0
                      obtain ⟨av', cv', rfl, _, _⟩ := SlAt.form hv
                      have hS0 := hSu.out wr.drew (Below.refl _ _).drew
                      have hf8I : (f : Int) < 8 := by omega
                      have ht8I : (t : Int) < 8 := by omega
                      have c0d : wr.drew.cell? ⟨q, t, none⟩ = some (.slice av' M1.length cv') := c0
                      clear hv hst hvf HPj HBj hy hM1 hSu
                      go_wp2_with fail
                      refine wp_region_held_drew (S := fun W' => W'.cell? ⟨dd, 1, none⟩ = some (.int .i64 f) ∧ W'.cell? ⟨dd, 2, none⟩ = some (.int .i64 t) ∧ W'.cell? ⟨q, f, none⟩ = some (.slice (some ⟨b', off', none⟩) l.length cf) ∧ W'.cell? ⟨b', off' + j * 2, none⟩ = some (.int .i64 y1) ∧ W'.cell? ⟨b', off' + j * 2 + 1, none⟩ = some (.int .i64 y2)) (by kernel_rfl) hS0 (fun hHeld => ?_)
                      refine wpAnyH_take (i := 0) (v := ?vb0) rfl (by kernel_rfl) (by kernel_rfl) (by kernel_rfl) (fun _ _ _ h => h) (Or.inl ⟨by rfl, ?hyb0⟩) hHeld ?restb0
                      case hyb0 => ((intro w hSw; (try dsimp only at hSw); go_simp) <;> with_reducible rfl)
                      case' restb0 => (try simp only [Act.put, List.setIfInBounds_toArray, List.set_cons_zero, List.set_cons_succ])
                      refine wpAnyH_take (i := 1) (v := ?vb1) rfl (by kernel_rfl) (by kernel_rfl) (by kernel_rfl) (fun _ _ _ h => h) (Or.inl ⟨by rfl, ?hyb1⟩) hHeld ?restb1
                      case hyb1 => ((intro w hSw; (try dsimp only at hSw); go_simp) <;> with_reducible rfl)
                      case' restb1 => (try simp only [Act.put, List.setIfInBounds_toArray, List.set_cons_zero, List.set_cons_succ])
                      refine wpAnyH_take (i := 2) (v := ?vb2) rfl (by kernel_rfl) (by kernel_rfl) (by kernel_rfl) (fun _ _ _ h => h) (Or.inl ⟨by rfl, ?hyb2⟩) hHeld ?restb2
                      case hyb2 => ((intro w hSw; (try dsimp only at hSw); go_simp) <;> with_reducible rfl)
                      case' restb2 => (try simp only [Act.put, List.setIfInBounds_toArray, List.set_cons_zero, List.set_cons_succ])
                      refine wpAnyH_take (i := 3) (v := ?vb3) rfl (by kernel_rfl) (by kernel_rfl) (by kernel_rfl) (fun _ _ _ h => h) (Or.inl ⟨by rfl, ?hyb3⟩) hHeld ?restb3
                      case hyb3 => ((intro w hSw; (try dsimp only at hSw); go_simp) <;> with_reducible rfl)
                      case' restb3 => (try simp only [Act.put, List.setIfInBounds_toArray, List.set_cons_zero, List.set_cons_succ])
                      refine wpAnyH_take (i := 4) (v := ?vb4) rfl (by kernel_rfl) (by kernel_rfl) (by kernel_rfl) (fun _ _ _ h => h) (Or.inl ⟨by rfl, ?hyb4⟩) hHeld ?restb4
                      case hyb4 => ((intro w hSw; (try dsimp only at hSw); go_simp) <;> with_reducible rfl)
                      case' restb4 => (try simp only [Act.put, List.setIfInBounds_toArray, List.set_cons_zero, List.set_cons_succ])
                      refine wpAnyH_take (i := 6) (v := ?vb6) rfl (by kernel_rfl) (by kernel_rfl) (by kernel_rfl) (fun _ _ _ h => h) (Or.inl ⟨by rfl, ?hyb6⟩) hHeld ?restb6
                      case hyb6 => ((intro w hSw; (try dsimp only at hSw); go_simp) <;> with_reducible rfl)
                      case' restb6 => (try simp only [Act.put, List.setIfInBounds_toArray, List.set_cons_zero, List.set_cons_succ])
                      refine wpAnyH_take (i := 7) (v := ?vb7) rfl (by kernel_rfl) (by kernel_rfl) (by kernel_rfl) (fun _ _ _ h => h) (Or.inl ⟨by rfl, ?hyb7⟩) hHeld ?restb7
                      case hyb7 => ((intro w hSw; (try dsimp only at hSw); go_simp) <;> with_reducible rfl)
                      case' restb7 => (try simp only [Act.put, List.setIfInBounds_toArray, List.set_cons_zero, List.set_cons_succ])
                      refine wpAnyH_take (i := 8) (v := ?vb8) rfl (by kernel_rfl) (by kernel_rfl) (by kernel_rfl) (fun _ _ _ h => h) (Or.inl ⟨by rfl, ?hyb8⟩) hHeld ?restb8
                      case hyb8 => ((intro w hSw; (try dsimp only at hSw); go_simp) <;> with_reducible rfl)
                      case' restb8 => (try simp only [Act.put, List.setIfInBounds_toArray, List.set_cons_zero, List.set_cons_succ])
                      refine wpAnyH_take (i := 9) (v := ?vb9) rfl (by kernel_rfl) (by kernel_rfl) (by kernel_rfl) (fun _ _ _ h => h) (Or.inl ⟨by rfl, ?hyb9⟩) hHeld ?restb9
                      case hyb9 => ((intro w hSw; (try dsimp only at hSw); go_simp) <;> with_reducible rfl)
                      case' restb9 => (try simp only [Act.put, List.setIfInBounds_toArray, List.set_cons_zero, List.set_cons_succ])
                      refine wpAnyH_take (i := 10) (v := ?vb10) rfl (by kernel_rfl) (by kernel_rfl) (by kernel_rfl) (fun _ _ _ h => h) (Or.inl ⟨by rfl, ?hyb10⟩) hHeld ?restb10
                      case hyb10 => ((intro w hSw; (try dsimp only at hSw); go_simp) <;> with_reducible rfl)
                      case' restb10 => (try simp only [Act.put, List.setIfInBounds_toArray, List.set_cons_zero, List.set_cons_succ])
                      refine wpAnyH_take (i := 11) (v := ?vb11) rfl (by kernel_rfl) (by kernel_rfl) (by kernel_rfl) (fun _ _ _ h => h) (Or.inl ⟨by rfl, ?hyb11⟩) hHeld ?restb11
                      case hyb11 => ((intro w hSw; (try dsimp only at hSw); go_simp) <;> with_reducible rfl)
                      case' restb11 => (try simp only [Act.put, List.setIfInBounds_toArray, List.set_cons_zero, List.set_cons_succ])
                      refine wpAnyH_take (i := 12) (v := ?vb12) rfl (by kernel_rfl) (by kernel_rfl) (by kernel_rfl) (fun _ _ _ h => h) (Or.inl ⟨by rfl, ?hyb12⟩) hHeld ?restb12
                      case hyb12 => ((intro w hSw; (try dsimp only at hSw); go_simp) <;> with_reducible rfl)
                      case' restb12 => (try simp only [Act.put, List.setIfInBounds_toArray, List.set_cons_zero, List.set_cons_succ])
                      refine wpAnyH_ready (rs := [5]) (by kernel_rfl) (by simp) ?_
                      refine AllReadyH.cons rfl (fun K hK => ?_) AllReadyH.nil
                      go_simp
                      refine hK.out _ _ hHeld (fun hHeld => ?_)
                      clear hK K
                      refine wpAnyH_ready (rs := [13]) (by kernel_rfl) (by simp) ?_
                      refine AllReadyH.cons rfl (fun K hK => ?_) AllReadyH.nil
                      go_simp
                      go_wp2_with (go_at_call 27; refine hput.out.mono ?_; rintro e w3 ⟨a', m', c', rfl, j3, j4, hS3, hSZ, hP3, hB3, hK3⟩; have HP3 := Lib.hid hP3; have HB3 := Lib.hid hB3; have HK3 := Lib.hid hK3; clear hP3 hB3 hK3)
                      refine hK.out _ _ hS3 (fun hHeld => ?_)
                      clear hK K
                      refine wpAnyH_take (i := 14) (v := ?vb14) rfl (by kernel_rfl) (by kernel_rfl) (by kernel_rfl) (fun _ _ _ h => h) (Or.inl ⟨by rfl, ?hyb14⟩) hHeld ?restb14
                      case hyb14 => ((intro w hSw; (try dsimp only at hSw); go_simp) <;> with_reducible rfl)
                      case' restb14 => (try simp only [Act.put, List.setIfInBounds_toArray, List.set_cons_zero, List.set_cons_succ])
                      refine wpAnyH_ready (rs := [15]) (by kernel_rfl) (by simp) ?_
                      refine AllReadyH.cons rfl (fun K hK => ?_) AllReadyH.nil
                      go_simp
                      refine hK.out _ _ hSZ (fun hHeld => ?_)
                      clear hK K
                      refine wpAnyH_done (by kernel_rfl) ?_ _
                      go_wp2_with fail
                      go_roundw
                      case rel => exact ⟨j + 1, by omega, by go_num, by rw [hnext.out]; exact HP3.out, HB3.out, HK3.out⟩
                      case measure => simp [Go.RowKit.intOf]; omega
                    · have ej : l.take j = l := List.take_of_length_le (by omega)
                      rw [ej] at HPj
                      obtain ⟨v, hv, c0, f0, hq, hst⟩ := HPj.out.list hdd f l (by rw [List.getElem?_set_ne (by omega)]; exact HLf.out)
                      obtain ⟨h1, h2, _⟩ := hst wr (.slice none 0 0) [] (Below.refl _ _) (PlAt.nil _) (.inr (by simp [Value.ownBlock]))
                      have hcc := c0.symm.trans hcf
                      cases hcc
                      obtain ⟨Lc, Mc, dc, HPc, HSc, HFc⟩ : ∃ Lc Mc dc, Hid (BPair KB w.heap.size dc (wr.setCell ⟨q, f, none⟩ (.slice none 0 0)) p q Lc Mc) ∧ Hid (Sync Lc Mc) ∧ Hid (FineB (P ++ [(x1, x2)]) Lc) := by
                        refine ⟨_, _, _, h1, ?_, ?_⟩
                        · have hs := (HS.out.set t (l.foldl putP lt)).set f []
                          have e : updF (updF L t (l.foldl putP lt)) f [] = L2 := by
                            rw [HL2.out, HLL.out.1, HLL.out.2]
                            funext g
                            unfold updF
                            by_cases e1 : g = f
                            · rw [if_pos e1, if_neg (by rw [e1]; exact hftI), if_pos e1]
                            · rw [if_neg e1]
                              split <;> first | rfl | rw [if_neg e1]
                          rw [e] at hs
                          exact hs
                        · rw [HL2.out]
                          exact HF.out.move f t (x1, x2)
                      have HBc := Lib.hid (HBj.out.trans (h2 HBj.out.size))
                      clear h1 h2 hst hv hvf HPj HBj HKj
                      go_wp2_with fail
                      generalize wr.setCell ⟨q, f, none⟩ (.slice none 0 0) = Wc at *
                      go_loopw [13] (fun ii wq => ∃ g : Nat, g ≤ 8 ∧ ii = .int .i64 g ∧ Below Wc.heap.size Wc wq) (fun ii _ => 8 - (Go.RowKit.intOf ii).toNat)
                      case atStart => exact ⟨0, by omega, rfl, Below.refl _ _⟩
                      case round =>
                        obtain ⟨g, hg, rfl, hb⟩ := hrel
                        have HBg := Lib.hid hb
                        clear hb
                        by_cases hg8 : g < 8
                        · have hg1 : (g : Int) < 8 := by omega
                          have hg0 : (0 : Int) ≤ g := by omega
                          obtain ⟨vg, hvg, hcg⟩ := HPc.out.cell g (Lc g) (HSc.out g hg8)
                          have hgl : Hid ((Lc g).length ≤ 1000000) := by
                            have := HFc.out.len g
                            rw [List.length_append, List.length_singleton] at this
                            show _ ≤ _
                            omega
                          go_wp2_with fail
                          obtain ⟨W1, hW1⟩ : ∃ W1, W1 = wr.drew := ⟨_, rfl⟩
                          have HBW : Hid (Below Wc.heap.size Wc W1) := by rw [hW1]; exact HBg.out.drew
                          have g1 : W1.cell? ⟨q, g, none⟩ = some vg := (HBW.out.cell (p := ⟨q, g, none⟩) (World.block_lt_of_cell? Wc _ hcg)).trans hcg
                          have HPg : Hid (BPair KB w.heap.size dc W1 p q Lc Mc) := HPc.out.below HBW.out
                          have HVg := Lib.hid hvg
                          have hdg : wr.drew = W1 := hW1.symm
                          clear hW1 hvg hcg HBg
                          go_region_held (fun W' => W'.cell? ⟨q, g, none⟩ = some vg) (go_keep)
                            (first
                              | (go_at_call 30; refine (HPg.out.of g hgl.out).mono ?_; rintro e w2 ⟨v2, rfl, hp2, b2⟩; have g2 := (b2.cell (World.block_lt_of_cell? _ _ g1)).trans g1; have HV2 := Lib.hid hp2; have HB2 := Lib.hid (HBW.out.trans (b2.mono HBW.out.size)); clear hp2 b2 HPg)
                              | (go_at_call 29; have ep := Places_ref _ v2 vg (Lc g) (Lc g) HV2.out (HVg.out.below HB2.out); rw [decide_eq_true rfl] at ep; refine ep.mono ?_; clear ep; rintro e w3 ⟨rfl, b3⟩; have g3 := (b3.cell (World.block_lt_of_cell? _ _ g2)).trans g2; have HB3 := Lib.hid (HB2.out.trans (b3.mono HB2.out.size)); clear b3 HV2))
                          go_wp2_with fail
                          go_roundw
                          case rel => exact ⟨g + 1, by omega, by go_num, HB3.out⟩
                          case measure => simp [Go.RowKit.intOf]; omega
                        · go_wp2_with fail
                          go_roundw
                          case rel => exact ⟨k + 1, by omega, by go_num, HBc.out.trans (HBg.out.mono HBc.out.size), Lc, Mc, dc, P ++ [(x1, x2)], HPc.out.below HBg.out, HSc.out, HFc.out, by rw [List.length_append, List.length_singleton]; omega⟩
                          case measure => simp [Go.RowKit.intOf]; omega
            · skip
              have hb0 : (wh == 0) = false := by simpa using c0
              have hb1 : (wh == 1) = false := by simpa using c1
              have hb2 : (wh == 2) = false := by simpa using c2
              go_wp2_with fail
              generalize wr.alloc _ = Wc at *
              obtain ⟨Lc, Mc, dc, HPc, HSc, HFc⟩ : ∃ Lc Mc dc, Hid (BPair KB w.heap.size dc Wc p q Lc Mc) ∧ Hid (Sync Lc Mc) ∧ Hid (FineB (P ++ [(x1, x2)]) Lc) := ⟨_, _, _, HP1, HS, HF.out.up (x1, x2)⟩
              have HBc := Lib.hid HBa.out
              clear HP1 HBa hblk
              go_loopw [13] (fun ii wq => ∃ g : Nat, g ≤ 8 ∧ ii = .int .i64 g ∧ Below Wc.heap.size Wc wq) (fun ii _ => 8 - (Go.RowKit.intOf ii).toNat)
              case atStart => exact ⟨0, by omega, rfl, Below.refl _ _⟩
              case round =>
                obtain ⟨g, hg, rfl, hb⟩ := hrel
                have HBg := Lib.hid hb
                clear hb
                by_cases hg8 : g < 8
                · have hg1 : (g : Int) < 8 := by omega
                  have hg0 : (0 : Int) ≤ g := by omega
                  obtain ⟨vg, hvg, hcg⟩ := HPc.out.cell g (Lc g) (HSc.out g hg8)
                  have hgl : Hid ((Lc g).length ≤ 1000000) := by
                    have := HFc.out.len g
                    rw [List.length_append, List.length_singleton] at this
                    show _ ≤ _
                    omega
                  go_wp2_with fail
                  obtain ⟨W1, hW1⟩ : ∃ W1, W1 = wr.drew := ⟨_, rfl⟩
                  have HBW : Hid (Below Wc.heap.size Wc W1) := by rw [hW1]; exact HBg.out.drew
                  have g1 : W1.cell? ⟨q, g, none⟩ = some vg := (HBW.out.cell (p := ⟨q, g, none⟩) (World.block_lt_of_cell? Wc _ hcg)).trans hcg
                  have HPg : Hid (BPair KB w.heap.size dc W1 p q Lc Mc) := HPc.out.below HBW.out
                  have HVg := Lib.hid hvg
                  have hdg : wr.drew = W1 := hW1.symm
                  clear hW1 hvg hcg HBg
                  go_region_held (fun W' => W'.cell? ⟨q, g, none⟩ = some vg) (go_keep)
                    (first
                      | (go_at_call 30; refine (HPg.out.of g hgl.out).mono ?_; rintro e w2 ⟨v2, rfl, hp2, b2⟩; have g2 := (b2.cell (World.block_lt_of_cell? _ _ g1)).trans g1; have HV2 := Lib.hid hp2; have HB2 := Lib.hid (HBW.out.trans (b2.mono HBW.out.size)); clear hp2 b2 HPg)
                      | (go_at_call 29; have ep := Places_ref _ v2 vg (Lc g) (Lc g) HV2.out (HVg.out.below HB2.out); rw [decide_eq_true rfl] at ep; refine ep.mono ?_; clear ep; rintro e w3 ⟨rfl, b3⟩; have g3 := (b3.cell (World.block_lt_of_cell? _ _ g2)).trans g2; have HB3 := Lib.hid (HB2.out.trans (b3.mono HB2.out.size)); clear b3 HV2))
                  go_wp2_with fail
                  go_roundw
                  case rel => exact ⟨g + 1, by omega, by go_num, HB3.out⟩
                  case measure => simp [Go.RowKit.intOf]; omega
                · go_wp2_with fail
                  go_roundw
                  case rel => exact ⟨k + 1, by omega, by go_num, HBc.out.trans (HBg.out.mono HBc.out.size), Lc, Mc, dc, P ++ [(x1, x2)], HPc.out.below HBg.out, HSc.out, HFc.out, by rw [List.length_append, List.length_singleton]; omega⟩
                  case measure => simp [Go.RowKit.intOf]; omega
      · skip
        have hup : ∀ wq, Below wr.heap.size wr wq → Below w.heap.size w wq ∧ ∃ L M d P, BPair KB w.heap.size d wq p q L M ∧ Sync L M ∧ FineB P L ∧ P.length ≤ k + 1 := fun wq hb => ⟨HB.out.trans (hb.mono HB.out.size), L, M, d, P, HP.out.below hb, HS.out, HF.out, by omega⟩
        have HU := Lib.hid hup
        clear hup HP1 HBa hblk
        by_cases n1 : fi < 0
        · go_wp2_with fail
          go_roundw
          case rel => exact ⟨k + 1, by omega, by go_num, HU.out _ ((Below.refl _ _).alloc (Nat.le_refl _) _)⟩
          case measure => simp [Go.RowKit.intOf]; omega
        · have m1 : (0 : Int) ≤ fi := by omega
          by_cases n2 : 7 < fi
          · go_wp2_with fail
            go_roundw
            case rel => exact ⟨k + 1, by omega, by go_num, HU.out _ ((Below.refl _ _).alloc (Nat.le_refl _) _)⟩
            case measure => simp [Go.RowKit.intOf]; omega
          · have m2 : fi ≤ 7 := by omega
            by_cases n3 : ti < 0
            · go_wp2_with fail
              go_roundw
              case rel => exact ⟨k + 1, by omega, by go_num, HU.out _ ((Below.refl _ _).alloc (Nat.le_refl _) _)⟩
              case measure => simp [Go.RowKit.intOf]; omega
            · have m3 : (0 : Int) ≤ ti := by omega
              have n4 : 7 < ti := by omega
              go_wp2_with fail
              go_roundw
              case rel => exact ⟨k + 1, by omega, by go_num, HU.out _ ((Below.refl _ _).alloc (Nat.le_refl _) _)⟩
              case measure => simp [Go.RowKit.intOf]; omega
    · skip
      have HLn : Hid (∀ g, (L g).length ≤ 80) := fun g => by have := HF.out.len g; omega
      generalize wr = X at *
      obtain ⟨i0, hi0, hi1, hi2, hi3⟩ := infoInt
      go_wp2_with fail
      go_loopw [14, 15] (fun o i wq => ∃ n : Nat, n ≤ 8 ∧ i = .int .i64 n ∧ Below X.heap.size X wq ∧ IntsAt wq o (framesOf proc L (DB.take n)) ∧ ∀ b, o.ownBlock = some b → X.heap.size ≤ b) (fun _ i _ => 8 - (Go.RowKit.intOf i).toNat)
      case atStart => exact ⟨0, by omega, rfl, Below.refl _ _, SlAt.nil _ _ _, by simp [Value.ownBlock]⟩
      case round =>
        obtain ⟨n, hn, rfl, hb, ho, how⟩ := hrel
        have HBq := Lib.hid hb
        have HO := Lib.hid ho
        have HW := Lib.hid how
        clear hb ho how
        by_cases hln : n < 8
        · have h1 : (n : Int) < 8 := by omega
          have h2 : (0 : Int) ≤ n := by omega
          obtain ⟨v, hv, hc⟩ := HP.out.cell n (L n) (HS.out n hln)
          obtain ⟨av, cv, rfl, _, _⟩ := SlAt.form hv
          obtain ⟨l, hl⟩ : ∃ l, l = L n := ⟨_, rfl⟩
          rw [← hl] at hv hc
          have hlen : l.length ≤ 80 := by rw [hl]; exact HLn.out n
          have HV := Lib.hid hv
          have HC := Lib.hid hc
          have htake : Hid (framesOf proc L (DB.take (n + 1)) = framesOf proc L (DB.take n) ++ if l.any (fun x => decide (x.1 = proc)) = true then [(n : Int)] else []) := by
            show _ = _
            have e : DB.take (n + 1) = DB.take n ++ [(n : Int)] := by
              have : (List.range 8).all (fun n => decide (DB.take (n + 1) = DB.take n ++ [(n : Int)])) = true := by decide
              simpa using List.all_eq_true.1 this n (List.mem_range.2 hln)
            rw [e, hl]
            unfold framesOf
            rw [List.filter_append]
            simp only [List.filter_cons, List.filter_nil]
          have hsl : Hid ((framesOf proc L (DB.take n)).length ≤ 8) := by
            show _ ≤ _
            unfold framesOf
            have h1 := List.length_filter_le (fun f => (L f).any fun x => decide (x.1 = proc)) (DB.take n)
            rw [List.length_take] at h1
            omega
          have c3 := (HBq.out.cell (World.block_lt_of_cell? _ _ hc)).trans hc
          clear hv hc hl
          go_wp2_with fail
          go_loopw [16, 17] (fun has kk wq => ∃ j : Nat, j ≤ l.length ∧ kk = .int .i64 j ∧ has = .bool ((l.take j).any (fun x => decide (x.1 = proc))) ∧ Below X.heap.size X wq ∧ IntsAt wq u14 (framesOf proc L (DB.take n))) (fun _ kk _ => l.length - (Go.RowKit.intOf kk).toNat)
          case atStart => exact ⟨0, by omega, rfl, rfl, HBq.out, HO.out⟩
          case round =>
            obtain ⟨j, hj, rfl, rfl, hb, ho⟩ := hrel
            have HBj := Lib.hid hb
            have HOj := Lib.hid ho
            clear hb ho c3 HBq HO
            have c3 := (HBj.out.cell (World.block_lt_of_cell? _ _ HC.out)).trans HC.out
            by_cases hjl : j < l.length
            · have hjl' : (j : Int) < l.length := by omega
              obtain ⟨y, hy⟩ : ∃ y, l[j]? = some y := ⟨_, List.getElem?_eq_getElem hjl⟩
              obtain ⟨b, off, rfl⟩ := PlAt.addr HV.out (by omega)
              obtain ⟨e0, e1⟩ := PlAt.cellAt (HV.out.below HBj.out) hy
              obtain ⟨y1, y2⟩ := y
              simp only at e0 e1
              have hany : Hid ((l.take (j + 1)).any (fun x => decide (x.1 = proc)) = ((l.take j).any (fun x => decide (x.1 = proc)) || decide (y1 = proc))) := by
                show _ = _
                rw [take_next hy, List.any_append]
                simp
              clear hy
              generalize (l.take j).any (fun x => decide (x.1 = proc)) = yes at *
              cases yes with
              | true =>
                go_wp2_with fail
                go_roundw
                case rel => exact ⟨j + 1, by omega, by go_num, by rw [hany.out]; rfl, HBj.out, HOj.out⟩
                case measure => simp [Go.RowKit.intOf]; omega
              | false =>
                go_wp2_with fail
                go_roundw
                case rel =>
                  refine ⟨j + 1, by omega, by go_num, ?_, HBj.out, HOj.out⟩
                  rw [hany.out]
                  by_cases e : y1 = proc <;> simp [e]
                case measure => simp [Go.RowKit.intOf]; omega
            · have ej : l.take j = l := List.take_of_length_le (by omega)
              rw [ej]
              obtain ⟨yes, hyes⟩ : ∃ yes, yes = l.any (fun x => decide (x.1 = proc)) := ⟨_, rfl⟩
              rw [← hyes] at htake ⊢
              clear hyes ej
              cases yes with
              | true =>
                go_wp2_with (at_builtin; refine wpList_append_sl _ rfl _ _ 57 rfl 3 i0 _ 1 8 Try.underlying57 hi0 hi1 hi2 hi3 rfl _ _ _ rfl (SlAt.below HOj.out ((Below.refl _ _).alloc (Nat.le_refl _) _)) ⟨wr.heap.size, 0, none⟩ 1 1 [.int .i64 n] rfl rfl (fun j u hu => cells_new wr 3 [.int .i64 n] j u hu) ?c2 ?c3 ?c4 ?c5)
                case c2 => simp [Value.oneCell']
                case c3 => have := hsl.out; simp only [maxLen]; omega
                case c4 => have := hsl.out; omega
                case c5 =>
                  intro v' w5 hsl3 hg3 ho3
                  have HG := Lib.hid (And.intro hsl3 (And.intro hg3 ho3))
                  clear hsl3 hg3 ho3
                  go_wp2_with fail
                  go_roundw
                  case rel =>
                    obtain ⟨hsl3, hg3, ho3⟩ := HG.out
                    refine ⟨n + 1, by omega, by go_num, ?_, ?_, ?_⟩
                    · exact (HBj.out.alloc HBj.out.size _).grown hg3 (by simp; have := HBj.out.size; omega) HW.out
                    · rw [htake.out, if_pos (by trivial)]
                      show SlAt _ _ _ _ _ _
                      rw [List.length_append, List.map_append]
                      simpa using hsl3
                    · intro b hb
                      rcases ho3 with e | e
                      · exact HW.out b (e.symm.trans hb)
                      · rw [e] at hb; have : _ = b := Option.some.inj hb; have := HBj.out.size; omega
                  case measure => simp [Go.RowKit.intOf]; omega
              | false =>
                go_wp2_with fail
                go_roundw
                case rel =>
                  refine ⟨n + 1, by omega, by go_num, HBj.out, ?_, HW.out⟩
                  rw [htake.out]
                  simp only [Bool.false_eq_true, if_false, List.append_nil]
                  exact HOj.out
                case measure => simp [Go.RowKit.intOf]; omega
        · have en : DB.take n = DB := List.take_of_length_le (by show 8 ≤ n; omega)
          rw [en] at HO
          have HPQ := Lib.hid (HP.out.below HBq.out)
          have HBZ : Hid (Below w.heap.size w wr) := HB.out.trans (HBq.out.mono HB.out.size)
          clear HB HBq
          go_wp2_with fail
          refine (backAnswers _).mono ?_
          rintro e w3 ⟨rfl, b3⟩
          have HP3 := Lib.hid (HPQ.out.below b3)
          have HO3 := Lib.hid (SlAt.below HO.out b3)
          have HB3 := Lib.hid (HBZ.out.trans (b3.mono HBZ.out.size))
          clear b3
          go_wp2_with fail
          refine (HP3.out.frames (fun g hg => by obtain ⟨h1, h2⟩ := hg; simp [Lit.wf, IntKind.min, IntKind.max, IntKind.signed, IntKind.bits]; omega) DB (by decide) (fun g hg => by obtain ⟨h1, h2⟩ := hg; simp only [DB, List.mem_cons, List.not_mem_nil, or_false]; omega) (by decide) proc).mono ?_
          rintro e w5 ⟨v5, rfl, hv5, b5⟩
          have HV5 := Lib.hid hv5
          have HO5 := Lib.hid (SlAt.below HO3.out b5)
          have HB5 := Lib.hid (HB3.out.trans (b5.mono HB3.out.size))
          clear b5 hv5 HP3 HO3 HB3
          go_wp2_with fail
          have ei := Ints_ref w5 v5 u14 _ _ HV5.out HO5.out
          rw [decide_eq_true rfl] at ei
          refine ei.mono ?_
          clear ei
          rintro e w6 ⟨rfl, b6⟩
          have HB6 := Lib.hid (HB5.out.trans (b6.mono HB5.out.size))
          clear b6
          go_wp2_with fail
          go_ret
          exact ⟨rfl, HB6.out⟩

theorem backPlays_row (a : Option Addr) (len cap : Nat) (z : List BAct) (proc : Int) (w : World) (hz : Open.RowsAt w encB 5 a len cap z) (_ : ∀ x ∈ z, wfB x) (_ : (Lit.int .i64 proc).wf = true) :
    Calls Try.prog 13 #[.slice a len cap, .int .i64 proc] w fun e w' => e = .returned (.bool true) ∧ Below w.heap.size w w' := by
  by_cases h0 : (80 : Int) < len
  · exact playsB_small a len cap proc w h0
  · exact playsB_walk a len cap z proc w hz h0
end Go.Proofs.Ytflbidbnbfndgaa
