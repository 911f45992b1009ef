/- SpaceSignals answers true for every input; no conditions. -/
import Derived.Test.YtnhdmnijiphjjaaGreatJAl0
import Derived.Test.YtnhdmnijiphjjaaGreatRows
import Derived.Test.YtnhdmnijiphjjaaGreatJAl25
import Derived.WalkKit
import Derived.ProofKit
import Derived.OpenShut
import Derived.ShutString
import Derived.ChangeOld
import Derived.Below
import Derived.SizedLaws
import Derived.Lib.SmallJoins
set_option linter.unusedVariables false
set_option linter.unusedSimpArgs false
/- SpaceSignals answers true for every input; no conditions. -/
namespace Go.Proofs.YtnhdmnijiphjjaaGreat.spaceSignals
open Go.ChangeShapes Go.WideShapes Go.ChangeAt Go.RowKit Go.Joins
open Go.ChangeMaps (open_string shut_string)
theorem own : ownKnob Tryz.prog.godebug = none := by kernel_rfl
theorem laidOut : laidOutB Tryz.prog = true := Ux
set_option linter.unusedVariables false in
set_option maxRecDepth 100000 in
theorem lifted (os : Os) (started : os.Started) (H : Type) (enc : TypeId × Value → H) :
  ReturnsInHanded {} Tryz.checked os 4 .any (Rows.spaceSignalsSpec.pre6 enc Tryz.prog Tryz.f4 Rows.spaceSignalsRow.domain false) (Rows.spaceSignalsSpec.post enc Tryz.prog Tryz.f4 false true false false) := by
 refine returnsInHanded_of_change_sized (C := Tryz.checked) own started (by kernel_rfl) Tryz.func4
  (ChangeSpec.witness6 (enc := enc) (C := Tryz.checked) false ⟨#[], #[.slice none 0 0], []⟩ 8 (by kernel_rfl) (by kernel_rfl) (by kernel_rfl) (by kernel_rfl)) ?_
 intro W base args ds gs before hval0 hW hcnd hsz0 _
 have hsz : (DataW.weightsEach Tryz.prog (Tryz.f4.params.toList ++ Rows.spaceSignalsSpec.plain.varTypes Tryz.prog) (ds ++ gs)).all (· ≤ reachBytes) = true := hsz0
 have hval : ∀ (j : Nat) t v, Tryz.f4.params[j]? = some t → args[j]? = some v → Value.okWide Tryz.prog W .any base t v := hval0
 have hW' := hW
 obtain ⟨p, q, hA0, hV, rfl, hfz, hnd⟩ := hW
 have hA : DataW.TrodAll enc Tryz.prog W 0 (fun _ => true) true Tryz.f4.params.toList args.toList ds p := hA0
 rw [Tryz.params4] at hA hval hsz
 obtain ⟨v0, vs0, d0, ds0, p0, q0, hargs, rfl, rfl, h0, r0⟩ := trodAll_cons hA
 obtain ⟨rfl, rfl, rfl⟩ := trodAll_nil r0
 obtain rfl : args = #[v0] := by cases args; simp_all
 obtain ⟨rfl, rfl⟩ := trodVars_none hV
 obtain ⟨a0, len0, cap0, rfl⟩ := okWide_slice Tryz.underlying38 (hval 0 38 v0 rfl rfl)
 have k0 := h0
 have lt0 : ∀ x ∈ p0, x.block < W.heap.size := by obtain ⟨m, hm⟩ := k0; exact DataW.trod_lt m _ _ _ hm
 obtain ⟨z0, e0, w0, u0⟩ := Open.Qq (encα := u16L) (k := 1) U16 Tryz.underlying38 (by kernel_rfl) (by kernel_rfl) (by decide) zjb decU16 (hval 0 38 _ rfl rfl) h0
 subst e0
 clear hA0 hval0 hsz0 hsz
 refine (zb7 _ z0 W w0 u0).mono fun e W' ⟨he, bel⟩ => ?_
 subst he
 exact ⟨_, rfl, _, _, _, [], _, [], hW', trodAll_mk1 (shut_bool Tryz.underlying4 _), (trodAll_cons_mk (Below.trod laidOut (by kernel_rfl) (of_decide_eq_true (by kernel_rfl)) k0 bel lt0) trodAll_mk0), rfl, bel.frame _, fun h => by cases h⟩
theorem j0 : Rows.spaceSignalsRow.wf (OpenSpec.ofChange Rows.spaceSignalsSpec) = true := by kernel_rfl
theorem j3 : Tryz.f4.params.all (Tryz.pinned.checked.prog.readableRec ·) = true := by kernel_rfl
theorem j4 : namedTie Tryz.pinned.checked.prog Rows.spaceSignalsRow.named Rows.spaceSignalsSpec.vars = true := by kernel_rfl
theorem j5 : (Rows.spaceSignalsRow.stops == []) = true := by kernel_rfl
theorem j7 : (Rows.spaceSignalsRow.knobs == []) = true := by kernel_rfl
theorem j9 : (Rows.spaceSignalsRow.inPlace == Tryz.pinned.checked.prog.inPlace 4) = true := by kernel_rfl
theorem j10 : (Rows.spaceSignalsRow.unfollowed == Tryz.pinned.checked.prog.unfollowed 4) = true := by kernel_rfl
theorem j11 : (Rows.spaceSignalsRow.recurses == Tryz.pinned.checked.prog.recurses 4) = true := by kernel_rfl
theorem j12 : (Rows.spaceSignalsRow.named == Tryz.pinned.checked.prog.varsNamed 4) = true := by kernel_rfl
theorem j13 : (Rows.spaceSignalsRow.maps == (Tryz.f4.params.toList ++ Rows.spaceSignalsSpec.plain.varTypes Tryz.pinned.checked.prog).any (Tryz.pinned.checked.prog.mapsRec ·)) = true := by kernel_rfl
theorem j14 : (Rows.spaceSignalsRow.ifaces == (Tryz.f4.params.toList ++ Rows.spaceSignalsSpec.plain.varTypes Tryz.pinned.checked.prog).any (Tryz.pinned.checked.prog.ifacesRec ·)) = true := by kernel_rfl
theorem j15 : (Rows.spaceSignalsRow.mapsOut == Tryz.pinned.checked.prog.mapsAmong Tryz.f4.resultTypes.toList) = true := by kernel_rfl
theorem j16 : (Rows.spaceSignalsRow.loops == (Tryz.f4.params.toList ++ Rows.spaceSignalsSpec.plain.varTypes Tryz.pinned.checked.prog).any (Tryz.pinned.checked.prog.loopsFrom ·)) = true := by kernel_rfl
theorem j17 : (Rows.spaceSignalsRow.wideKeys == (Tryz.f4.params.toList ++ Rows.spaceSignalsSpec.plain.varTypes Tryz.pinned.checked.prog ++ Tryz.f4.resultTypes.toList).any (Tryz.pinned.checked.prog.wideKeysFrom ·)) = true := by kernel_rfl
theorem j18 : Rows.spaceSignalsSpec.vars.all (Tryz.pinned.checked.prog.varReadable ·) = true := by kernel_rfl
theorem j19 : Tryz.f4.resultTypes.all (fun t => Tryz.pinned.checked.prog.readableRec t && decide (t < Tryz.pinned.checked.prog.types.size)) = true := by kernel_rfl
theorem j20 : (Rows.spaceSignalsRow.ifacesOut == Tryz.f4.resultTypes.toList.any (Tryz.pinned.checked.prog.ifacesRec ·)) = true := by kernel_rfl
theorem j21 : (Rows.spaceSignalsRow.loopsOut == Tryz.f4.resultTypes.toList.any (Tryz.pinned.checked.prog.loopsFrom ·)) = true := by kernel_rfl
theorem j22 : (Rows.spaceSignalsRow.plainKeys == Tryz.pinned.checked.prog.plainKeys) = true := by kernel_rfl
theorem j23 : Rows.spaceSignalsRow.shortTexts.isNone = true := by kernel_rfl
theorem j26 : (Rows.spaceSignalsRow.lifted == Tryz.pinned.checked.prog.liftsFinal) = true := by kernel_rfl
theorem j27 : (Tryz.pinned.checked.prog.make == some Rows.spaceSignalsRow.make) = true := by kernel_rfl
theorem j28 : (Rows.spaceSignalsRow.kinds == (if Rows.spaceSignalsRow.domain.isEmpty then [] else Tryz.f4.params.toList.map fun t => match Tryz.pinned.checked.prog.underlying t with | some (.int k) => some k | _ => none)) = true := by kernel_rfl
theorem j29 : (Rows.spaceSignalsRow.pinned == Rows.spaceSignalsRow.pinnedBy) = true := by kernel_rfl
theorem j30 : (Rows.spaceSignalsRow.veiled == (Tryz.f4.params.toList ++ Rows.spaceSignalsSpec.plain.varTypes Tryz.pinned.checked.prog ++ Tryz.f4.resultTypes.toList).any (Tryz.pinned.checked.prog.veiledRec ·)) = true := by kernel_rfl
theorem j31 : Rows.spaceSignalsRow.veiledFits Tryz.pinned.checked.prog Tryz.f4.params.toList (Tryz.f4.params.toList ++ Rows.spaceSignalsSpec.plain.varTypes Tryz.pinned.checked.prog ++ Tryz.f4.resultTypes.toList) = true := by kernel_rfl
set_option maxRecDepth 100000 in
theorem joined : joinedFacts Tryz.pinned.checked.prog 4 Tryz.f4 Rows.spaceSignalsSpec Rows.spaceSignalsRow = true := by unfold joinedFacts; exact (andT (andT (andT (andT (andT (andT (andT (andT (andT (andT (andT (andT (andT (andT (andT (andT (andT (andT (andT (andT (andT (andT (andT (andT (andT (andT (andT (andT (andT (andT (andT j0 Ux) zbj) j3) j4) j5) zbi) j7) zbk) j9) j10) j11) j12) j13) j14) j15) j16) j17) j18) j19) j20) j21) j22) j23) zbm) zbn) j26) j27) j28) j29) j30) j31)
theorem named : Tryz.pinned.checked.prog.funcNamed Rows.spaceSignalsRow.func = some 4 := by kernel_rfl
theorem over : Rows.spaceSignalsRow.holds Tryz.pinned (OpenSpec.ofChange Rows.spaceSignalsSpec) :=
 OpenClaim.holds_of_wide 4 Tryz.f4 rfl rfl rfl rfl rfl rfl rfl ⟨rfl, rfl, rfl, rfl, rfl⟩ rfl rfl rfl rfl rfl named Tryz.func4 joined
  (of_decide_eq_true (by kernel_rfl)) (by unfold Func.isWrapper; first | (rw [if_pos (by decide +kernel)]; kernel_rfl) | (rw [if_neg (by decide +kernel)]; exact ⟨rfl, rfl⟩))
  (fun os started H enc _ => lifted os started H enc)
theorem proved : Rows.SpaceSignalsSaid := over
#print axioms proved
end Go.Proofs.YtnhdmnijiphjjaaGreat.spaceSignals
namespace Go.Proofs.YtnhdmnijiphjjaaGreat
theorem spaceSignals_holds : Rows.SpaceSignalsSaid := spaceSignals.proved
end Go.Proofs.YtnhdmnijiphjjaaGreat
