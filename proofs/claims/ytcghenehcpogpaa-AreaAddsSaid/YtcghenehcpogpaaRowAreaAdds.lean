/- AreaAdds answers true for every input; no conditions. -/
import Derived.Test.YtcghenehcpogpaaRows
import Derived.Test.YtcghenehcpogpaaAreaAdds
import Derived.Test.YtcghenehcpogpaaOpen
import Derived.Test.YtcghenehcpogpaaOpenRd
import Derived.WalkKit
import Derived.ProofKit
import Derived.OpenShut
import Derived.ShutString
import Derived.ChangeOld
import Derived.Below
import Derived.SizedLaws
import Derived.Lib.SmallJoins
namespace Go.Proofs.Ytcghenehcpogpaa.areaAdds
open Go.ChangeShapes Go.WideShapes Go.ChangeAt Go.RowKit Go.Joins
open Go.ChangeMaps (open_string shut_string)
theorem own : ownKnob Try.prog.godebug = none := by kernel_rfl
theorem laidOut : laidOutB Try.prog = true := by kernel_rfl
theorem dec1 (cs : List Value) (h : Open.AllOk [some .i64, some .i64, none, some .i64, some .i64, some .i64] cs) : ∃ x1_0 x1_1 x1_2 x1_3 x1_4 x1_5, cs = [.int .i64 x1_0, .int .i64 x1_1, .bool x1_2, .int .i64 x1_3, .int .i64 x1_4, .int .i64 x1_5] ∧ (Lit.int .i64 x1_0).wf = true ∧ (Lit.int .i64 x1_1).wf = true ∧ (Lit.int .i64 x1_3).wf = true ∧ (Lit.int .i64 x1_4).wf = true ∧ (Lit.int .i64 x1_5).wf = true := by
  have hlen := h.length
  simp only [List.length_cons, List.length_nil] at hlen
  obtain ⟨c0, c1, c2, c3, c4, c5, rfl⟩ : ∃ c0 c1 c2 c3 c4 c5, cs = [c0, c1, c2, c3, c4, c5] := by
    rcases cs with _ | ⟨c0, _ | ⟨c1, _ | ⟨c2, _ | ⟨c3, _ | ⟨c4, _ | ⟨c5, _ | ⟨c6, cs⟩⟩⟩⟩⟩⟩⟩ <;> simp at hlen
    exact ⟨_, _, _, _, _, _, rfl⟩
  obtain ⟨⟨y0, rfl, u0⟩, ⟨y1, rfl, u1⟩, ⟨y2, rfl⟩, ⟨y3, rfl, u3⟩, ⟨y4, rfl, u4⟩, ⟨y5, rfl, u5⟩, _⟩ := h
  exact ⟨y0, y1, y2, y3, y4, y5, rfl, u0, u1, u3, u4, u5⟩
set_option linter.unusedVariables false in
set_option maxRecDepth 100000 in
theorem lifted (os : Os) (started : os.Started) (H : Type) (enc : TypeId × Value → H) :
    ReturnsInHanded {} Try.checked os 4 .any (Rows.areaAddsSpec.pre6 enc Try.prog Try.f4 Rows.areaAddsRow.domain false) (Rows.areaAddsSpec.post enc Try.prog Try.f4 false true false false) := by
  refine returnsInHanded_of_change_sized (C := Try.checked) own started (by kernel_rfl) Try.func4
    (ChangeSpec.witness6 (enc := enc) (C := Try.checked) false ⟨#[], #[.slice none 0 0, .agg #[.int .i64 0, .int .i64 0, .bool false, .int .i64 0, .int .i64 0, .int .i64 0]], []⟩ 8 (by kernel_rfl) (by kernel_rfl) (by kernel_rfl) (by kernel_rfl)) ?_
  intro W base args ds gs before hval0 hW hcnd hsz0 _
  have hsz : (DataW.weightsEach Try.prog (Try.f4.params.toList ++ Rows.areaAddsSpec.plain.varTypes Try.prog) (ds ++ gs)).all (· ≤ reachBytes) = true := hsz0
  have hval : ∀ (j : Nat) t v, Try.f4.params[j]? = some t → args[j]? = some v → Value.okWide Try.prog W .any base t v := hval0
  have hW' := hW
  obtain ⟨p, q, hA0, hV, rfl, hfz, hnd⟩ := hW
  have hA : DataW.TrodAll enc Try.prog W 0 (fun _ => true) true Try.f4.params.toList args.toList ds p := hA0
  rw [Try.params4] at hA hval hsz
  obtain ⟨v0, vs0, d0, ds0, p0, q0, hargs, rfl, rfl, h0, r0⟩ := trodAll_cons hA
  obtain ⟨v1, vs1, d1, ds1, p1, q1, rfl, rfl, rfl, h1, r1⟩ := trodAll_cons r0
  obtain ⟨rfl, rfl, rfl⟩ := trodAll_nil r1
  obtain rfl : args = #[v0, v1] := by cases args; simp_all
  obtain ⟨rfl, rfl⟩ := trodVars_none hV
  obtain ⟨a0, len0, cap0, rfl⟩ := okWide_slice Try.underlying26 (hval 0 26 v0 rfl rfl)
  have k0 := h0
  have lt0 : ∀ x ∈ p0, x.block < W.heap.size := by obtain ⟨m, hm⟩ := k0; exact DataW.trod_lt m _ _ _ hm
  obtain ⟨z0, e0, w0, u0⟩ := Open.rd_open (encα := Ar.cells) (k := 6) Ar.Wf Try.underlying26 (by kernel_rfl) (by kernel_rfl) (by decide) Ar.cells_len decAr (hval 0 26 _ rfl rfl) h0
  subst e0
  have k1 := h1
  have lt1 : ∀ x ∈ p1, x.block < W.heap.size := by obtain ⟨m, hm⟩ := k1; exact DataW.trod_lt m _ _ _ hm
  obtain ⟨cs1, rfl, ok1⟩ := Open.agg_open (t := 23) (l := [some .i64, some .i64, none, some .i64, some .i64, some .i64]) Try.underlying23 (by kernel_rfl) (hval 1 23 v1 rfl rfl) h1
  obtain ⟨x1_0, x1_1, x1_2, x1_3, x1_4, x1_5, rfl, w1_0, w1_1, w1_3, w1_4, w1_5⟩ := dec1 cs1 ok1
  clear hA0 hval0 hsz0 hsz
  refine (adds_row _ z0 x1_0 x1_1 x1_2 x1_3 x1_4 x1_5 W w0 u0 w1_0 w1_1 w1_3 w1_4 w1_5).mono fun e W' ⟨he, bel⟩ => ?_
  subst he
  exact ⟨_, rfl, _, _, _, [], _, [], hW', trodAll_mk1 (shut_bool Try.underlying4 _), (trodAll_cons_mk (Below.trod laidOut (by kernel_rfl) (of_decide_eq_true (by kernel_rfl)) k0 bel lt0) (trodAll_cons_mk (Below.trod laidOut (by kernel_rfl) (of_decide_eq_true (by kernel_rfl)) k1 bel lt1) trodAll_mk0)), rfl, bel.frame _, fun h => by cases h⟩
theorem over : Rows.areaAddsRow.holds Try.pinned (OpenSpec.ofChange Rows.areaAddsSpec) :=
  OpenClaim.holds_of_wide 4 Try.f4 rfl rfl rfl rfl rfl rfl rfl ⟨rfl, rfl, rfl, rfl, rfl⟩ rfl rfl rfl rfl rfl (by kernel_rfl) Try.func4 (by kernel_rfl)
    (of_decide_eq_true (by kernel_rfl)) (by unfold Func.isWrapper; first | (rw [if_pos (by decide +kernel)]; kernel_rfl) | (rw [if_neg (by decide +kernel)]; exact ⟨rfl, rfl⟩))
    (fun os started H enc _ => lifted os started H enc)
theorem proved : Rows.AreaAddsSaid := over
#print axioms proved
end Go.Proofs.Ytcghenehcpogpaa.areaAdds
namespace Go.Proofs.Ytcghenehcpogpaa
/-- The row, under a short name, for the claim. -/
theorem areaAdds_holds : Rows.AreaAddsSaid := areaAdds.proved
end Go.Proofs.Ytcghenehcpogpaa
