/- CacheSorted: the law's walk. -/
import Derived.Test.YtflbidbnbfndgaaCacheNone
import Derived.Test.YtflbidbnbfndgaaRd
import Derived.Test.YtflbidbnbfndgaaOpen
import Derived.Deep.RegionHeld
namespace Go.Proofs.Ytflbidbnbfndgaa
open Go Go.RowKit

/-- The numbers of a key are numbers of the program. -/
def KeyWf (x : Int × Int) : Prop := (Lit.int .i64 x.1).wf = true ∧ (Lit.int .i64 x.2).wf = true

theorem decKey (cs : List Value) (h : Open.AllOk [some .i64, some .i64] cs) : ∃ x : Int × Int, cs = encP x ∧ KeyWf x := by
  have hlen := h.length
  simp only [List.length_cons, List.length_nil] at hlen
  obtain ⟨c0, c1, rfl⟩ : ∃ c0 c1, cs = [c0, c1] := by
    rcases cs with _ | ⟨c0, _ | ⟨c1, _ | ⟨c2, cs⟩⟩⟩ <;> simp at hlen
    exact ⟨_, _, rfl⟩
  obtain ⟨⟨y0, rfl, u0⟩, ⟨y1, rfl, u1⟩, _⟩ := h
  exact ⟨(y0, y1), rfl, u0, u1⟩

theorem getL_none {κ ν : Type} [DecidableEq κ] {l : List (κ × ν)} {k : κ} : getL l k = none ↔ k ∉ l.map (·.1) := by
  induction l with
  | nil => simp [getL]
  | cons x l ih =>
    simp only [getL, List.map_cons, List.mem_cons, not_or]
    by_cases h : k = x.1
    · simp [h]
    · simp [h, ih]
theorem updL_new {κ ν : Type} [DecidableEq κ] {l : List (κ × ν)} {k : κ} (h : getL l k = none) (v : ν) : updL l k v = l ++ [(k, v)] := by
  refine (idxL_none ?_).2.1 v
  cases hi : idxL l k with
  | none => rfl
  | some i =>
    have := (idxL_isSome (l := l) (k := k))
    rw [hi, h] at this
    cases this

set_option maxHeartbeats 1000000 in
theorem less_walk (w : World) (x y : Int × Int) : Calls Try.prog 38 #[.agg #[.int .i64 x.1, .int .i64 x.2], .agg #[.int .i64 y.1, .int .i64 y.2]] w fun e w' => e = .returned (.bool (decide (ltP x y))) ∧ Below w.heap.size w w' := by
  obtain ⟨x1, x2⟩ := x
  obtain ⟨y1, y2⟩ := y
  obtain ⟨s, hs⟩ : ∃ s, s = decide (ltP (x1, x2) (y1, y2)) := ⟨_, rfl⟩
  have HS := Lib.hid hs
  rw [← hs]
  clear hs
  simp only
  by_cases h1 : x1 < y1
  · obtain rfl : s = true := by rw [HS.out]; exact decide_eq_true (.inl h1)
    clear HS
    go_enter Try.func38, Try.ntmps38
    go_wp2_with fail
    go_ret
    exact ⟨rfl, ((Below.refl _ _).alloc (Nat.le_refl _) _).alloc (by simp) _⟩
  · by_cases h2 : x1 = y1
    · have h2' : (x1 == y1) = true := by simpa using h2
      by_cases h3 : x2 < y2
      · obtain rfl : s = true := by rw [HS.out]; exact decide_eq_true (.inr ⟨h2, h3⟩)
        clear HS
        go_enter Try.func38, Try.ntmps38
        go_wp2_with fail
        go_ret
        exact ⟨rfl, ((Below.refl _ _).alloc (Nat.le_refl _) _).alloc (by simp) _⟩
      · obtain rfl : s = false := by rw [HS.out]; exact decide_eq_false (by unfold ltP; simp only; omega)
        clear HS
        go_enter Try.func38, Try.ntmps38
        go_wp2_with fail
        go_ret
        exact ⟨rfl, ((Below.refl _ _).alloc (Nat.le_refl _) _).alloc (by simp) _⟩
    · have h2' : (x1 == y1) = false := by simpa using h2
      obtain rfl : s = false := by rw [HS.out]; exact decide_eq_false (by unfold ltP; simp only; omega)
      clear HS
      go_enter Try.func38, Try.ntmps38
      go_wp2_with fail
      go_ret
      exact ⟨rfl, ((Below.refl _ _).alloc (Nat.le_refl _) _).alloc (by simp) _⟩

theorem otherF_neg (x : Int × Int) : otherF (-1) x = false := by unfold otherF; rw [decide_eq_false (by omega), Bool.false_and]

set_option maxHeartbeats 4000000 in
set_option maxRecDepth 100000 in
theorem sorted_walk (v : Value) (z : List (Int × Int)) (w : World) (hr : SlRd w 2 v z.length (z.flatMap encP)) (_ : ∀ x ∈ z, KeyWf x) :
    Calls Try.prog 7 #[v] w fun e w' => e = .returned (.bool true) ∧ Below w.heap.size w w' := by
  obtain ⟨av, cv, rfl, hcv, _⟩ := SlRd.form hr
  have HR := Lib.hid hr
  clear hr
  obtain ⟨n, hn⟩ : ∃ n, n = z.length := ⟨_, rfl⟩
  rw [← hn] at HR hcv ⊢
  have HN := Lib.hid hn
  clear hn
  by_cases h60 : n ≤ 60
  · have h60i : ¬ (60 : Int) < n := by omega
    go_enter Try.func7, Try.ntmps7
    go_wp2_with fail
    refine (New_cache w).mono ?_
    rintro e w1 ⟨rfl, b1, C1⟩
    have B1 := Lib.hid b1
    have HC1 := Lib.hid C1
    clear b1 C1
    go_wp2_with fail
    go_loopw [4, 5] (fun cnt i wr => ∃ (k : Nat) (L : CList) (R : CBack), k ≤ n ∧ i = .int .i64 k ∧ cnt = .int .i64 L.length ∧ Below w.heap.size w wr ∧ CacheAt wr (w.heap.size + 2) w.heap.size (w.heap.size + 1) L R ∧ L.length ≤ k ∧ (L.map (·.1)).Nodup ∧ ∀ j : Int, k ≤ j → getL R j = none) (fun _ i _ => n - (intOf i).toNat)
    case atStart => exact ⟨0, [], [], by omega, rfl, rfl, B1.out, HC1.out, by simp, by simp, fun _ _ => rfl⟩
    case round =>
      obtain ⟨k, L, R, hk, rfl, rfl, hb, hc, hlk, hnd, hR⟩ := hrel
      have HB := Lib.hid hb
      have HC := Lib.hid hc
      have HND := Lib.hid hnd
      have HRR := Lib.hid hR
      clear hb hc hnd hR
      by_cases hlt : k < n
      · have hlt' : (k : Int) < n := by omega
        obtain ⟨y, hy⟩ : ∃ y, z[k]? = some y := ⟨_, List.getElem?_eq_getElem (by rw [← HN.out]; exact hlt)⟩
        obtain ⟨b, off, rfl⟩ : ∃ b off, av = some ⟨b, off, none⟩ := by
          obtain ⟨b, off, c, e, _⟩ := SlRd.cells HR.out (by rw [HR.out.1]; omega)
          cases e
          exact ⟨b, off, rfl⟩
        have hcl : wr.cell? ⟨b, off + k * 2, none⟩ = some (.int .i64 y.1) ∧ wr.cell? ⟨b, off + k * 2 + 1, none⟩ = some (.int .i64 y.2) := by
          obtain ⟨b', off', c', e, _, _, hx⟩ := SlRd.cells (HR.out.below HB.out) (by rw [HR.out.1]; omega)
          cases e
          obtain ⟨hj, rfl⟩ := List.getElem?_eq_some_iff.1 hy
          obtain ⟨g1, g2⟩ := pl_get z k hj
          exact ⟨hx _ _ g1, by rw [Nat.add_assoc]; exact hx _ _ g2⟩
        obtain ⟨e0, e1⟩ := hcl
        clear hy
        cases hg : getL L y with
        | some q =>
          have hput := Lib.hid (Put_there wr _ _ _ L R HC.out y k (by rw [hg]; rfl))
          obtain ⟨y1, y2⟩ := y
          simp only at e0 e1 hput
          go_wp2_with fail
          refine hput.out.mono ?_
          rintro e w2 ⟨rfl, b2⟩
          have B2 := Lib.hid (And.intro (HB.out.trans (b2.mono HB.out.size)) (HC.out.below b2))
          clear b2 hput
          go_wp2_with fail
          go_roundw
          case rel => exact ⟨k + 1, L, R, by omega, by go_num, rfl, B2.out.1, B2.out.2, by omega, HND.out, fun j hj => HRR.out j (by omega)⟩
          case measure => simp [intOf]; omega
        | none =>
          have hput := Lib.hid (Put_new wr _ _ _ L R HC.out y k hg (HRR.out k (Int.le_refl _)))
          have hup : updL L y ((k : Int), false) = L ++ [(y, ((k : Int), false))] := updL_new hg _
          have hur : Hid (∀ j : Int, ((k : Int) + 1 ≤ j) → getL (updL R (k : Int) y) j = none) := fun j hj => by
            rw [getL_updL, if_neg (by omega)]
            exact HRR.out j (by omega)
          have hnd2 : Hid (((L ++ [(y, ((k : Int), false))]).map (·.1)).Nodup) := by
            show List.Nodup _
            rw [List.map_append, List.nodup_append]
            refine ⟨HND.out, by simp, fun a ha b hb e => ?_⟩
            simp at hb
            subst hb
            subst e
            exact getL_none.1 hg ha
          rw [hup] at hput
          obtain ⟨y1, y2⟩ := y
          simp only at e0 e1 hput
          clear hg hup
          go_wp2_with fail
          refine hput.out.mono ?_
          rintro e w2 ⟨rfl, t2, c2⟩
          have B2 := Lib.hid (And.intro (Touch.from HB.out t2 HB.out.size (fun i hi => by simp at hi; omega)) c2)
          clear t2 c2 hput
          have hwc : IntKind.i64.wrap ((L.length : Int) + 1) = L.length + 1 := by simp [IntKind.wrap, IntKind.bits, IntKind.signed]; omega
          go_wp2_with fail
          go_roundw
          case rel => exact ⟨k + 1, L ++ [((y1, y2), ((k : Int), false))], updL R (k : Int) (y1, y2), by omega, by go_num, by simp, B2.out.1, B2.out.2, by simp; omega, hnd2.out, fun j hj => hur.out j (by omega)⟩
          case measure => simp [intOf]; omega
      · go_wp2_with fail
        refine (Keys_cache wr _ _ _ L R HC.out (by omega) (-1)).mono ?_
        rintro e w2 ⟨vk, ks, rfl, hs, hk2, b2⟩
        have hfe : (ks.filter fun x => !otherF (-1) x) = ks := List.filter_eq_self.2 fun x _ => by rw [otherF_neg]; rfl
        rw [hfe] at hk2
        have hst : SortedP ks := by
          have hnd := hs.1.nodup_iff.2 HND.out
          exact (hs.2.and hnd).imp fun {a b} ⟨h1, h2⟩ => by
            rcases ltP.tri a b with h | h | h
            · exact h
            · exact absurd h h2
            · exact absurd h h1
        obtain ⟨ak, ck, rfl, hck, _⟩ := SlAt.form hk2
        have HKS := Lib.hid hk2
        have HST := Lib.hid hst
        have hlen : ks.length = L.length := by rw [hs.1.length_eq, List.length_map]
        obtain ⟨m, hm⟩ : ∃ m, m = ks.length := ⟨_, rfl⟩
        have HM := Lib.hid hm
        have B2 := Lib.hid (HB.out.trans (b2.mono HB.out.size))
        have hm60 : m ≤ 60 := by rw [hm, hlen]; omega
        rw [← hlen]
        rw [← hm] at HKS ⊢
        clear hs hk2 b2 hfe hst hlen hm
        go_wp2_with fail
        go_loopw [7] (fun i wr => ∃ k : Nat, 1 ≤ k ∧ i = .int .i64 k ∧ Below w2.heap.size w2 wr) (fun i _ => m - (intOf i).toNat)
        case atStart => exact ⟨1, by omega, rfl, Below.refl _ _⟩
        case round =>
          obtain ⟨j, hj1, rfl, hbq⟩ := hrel
          have HBQ := Lib.hid hbq
          clear hbq
          by_cases hjm : j < m
          · have hjm' : (j : Int) < m := by omega
            obtain ⟨x, hx⟩ : ∃ x, ks[j - 1]? = some x := ⟨_, List.getElem?_eq_getElem (by rw [← HM.out]; omega)⟩
            obtain ⟨y, hy⟩ : ∃ y, ks[j]? = some y := ⟨_, List.getElem?_eq_getElem (by rw [← HM.out]; omega)⟩
            have hlt : ltP x y := by
              obtain ⟨h1, rfl⟩ := List.getElem?_eq_some_iff.1 hx
              obtain ⟨h2, rfl⟩ := List.getElem?_eq_some_iff.1 hy
              exact List.pairwise_iff_getElem.1 HST.out (j - 1) j h1 h2 (by omega)
            obtain ⟨b, off, rfl⟩ := HKS.out.addr (by rw [← HM.out]; omega)
            have HQ : Hid (∀ X, Below w2.heap.size w2 X → (X.cell? ⟨b, off + (j - 1) * 2, none⟩ = some (.int .i64 x.1) ∧ X.cell? ⟨b, off + (j - 1) * 2 + 1, none⟩ = some (.int .i64 x.2)) ∧ (X.cell? ⟨b, off + j * 2, none⟩ = some (.int .i64 y.1) ∧ X.cell? ⟨b, off + j * 2 + 1, none⟩ = some (.int .i64 y.2))) := fun X hX => ⟨(HKS.out.below hX).cell hx, (HKS.out.below hX).cell hy⟩
            have hls := Lib.hid (fun W => less_walk W x y)
            rw [decide_eq_true hlt] at hls
            obtain ⟨x1, x2⟩ := x
            obtain ⟨y1, y2⟩ := y
            simp only at HQ hls
            clear hx hy hlt
            have k0 : (0 : Int) ≤ j := by omega
            have k1 : (1 : Int) ≤ (j : Int) := by omega
            have kw : IntKind.i64.wrap ((j : Int) - 1) = (j : Int) - 1 := by simp [IntKind.wrap, IntKind.bits, IntKind.signed]; omega
            have kp : (0 : Int) ≤ (j : Int) - 1 := by omega
            have kt : ((j : Int) - 1).toNat = j - 1 := by omega
            have kl : (j : Int) - 1 < m := by omega
            obtain ⟨⟨e0, e1⟩, e2, e3⟩ := HQ.out wr HBQ.out
            go_wp2_with fail
            go_region_held (fun X => X.cell? ⟨b, off + (j - 1) * 2, none⟩ = some (.int .i64 x1) ∧ X.cell? ⟨b, off + (j - 1) * 2 + 1, none⟩ = some (.int .i64 x2) ∧ X.cell? ⟨b, off + j * 2, none⟩ = some (.int .i64 y1) ∧ X.cell? ⟨b, off + j * 2 + 1, none⟩ = some (.int .i64 y2)) (go_keep) (
              (go_at_call 38
               refine (hls.out _).mono ?_
               rintro e W3 ⟨rfl, b3⟩
               have B3 := Lib.hid (HBQ.out.drew.trans (b3.mono HBQ.out.drew.size))
               obtain ⟨⟨r0, r1⟩, r2, r3⟩ := HQ.out W3 B3.out
               clear b3))
            go_wp2_with fail
            go_roundw
            case rel => exact ⟨j + 1, by omega, by go_num, B3.out⟩
            case measure => simp [intOf]; omega
          · have hjm' : ¬ (j : Int) < m := by omega
            go_wp2_with fail
            refine (cacheAnswers wr).mono ?_
            rintro e w3 ⟨rfl, b3⟩
            have B3 : Hid (Below w.heap.size w w3) := B2.out.trans ((HBQ.out.trans (b3.mono HBQ.out.size)).mono B2.out.size)
            clear b3
            go_wp2_with fail
            go_ret
            exact ⟨by simp, B3.out⟩
  · have h60i : (60 : Int) < n := by omega
    go_enter Try.func7, Try.ntmps7
    go_wp2_with fail
    refine (cacheAnswers w).mono ?_
    rintro e w1 ⟨rfl, b1⟩
    go_wp2_with fail
    go_ret
    exact ⟨rfl, b1⟩
end Go.Proofs.Ytflbidbnbfndgaa
