/- EvictClean answers true for every input; no conditions. -/
import Derived.Test.YtnhdmnijiphjjaaGreatJEc0
import Derived.Test.YtnhdmnijiphjjaaGreatRows
import Derived.Test.YtnhdmnijiphjjaaGreatJEc27
import Derived.WalkKit
import Derived.ProofKit
import Derived.OpenShut
import Derived.ShutString
import Derived.ChangeOld
import Derived.Below
import Derived.SizedLaws
import Derived.Lib.SmallJoins
set_option linter.unusedVariables false
set_option linter.unusedSimpArgs false
set_option maxRecDepth 100000
set_option maxHeartbeats 2000000
namespace Go.Proofs.YtnhdmnijiphjjaaGreat.evictClean
open Go.ChangeShapes Go.WideShapes Go.ChangeAt Go.RowKit Go.Joins
open Go.ChangeMaps (open_string shut_string)
theorem own : ownKnob Tryz.prog.godebug = none := by kernel_rfl
theorem laidOut : laidOutB Tryz.prog = true := zmg
set_option linter.unusedVariables false in
theorem lifted (os : Os) (started : os.Started) (H : Type) (enc : TypeId × Value → H) :
  ReturnsInHanded {} Tryz.checked os 12 .any (Rows.evictCleanSpec.pre6 enc Tryz.prog Tryz.f12 Rows.evictCleanRow.domain false) (Rows.evictCleanSpec.post enc Tryz.prog Tryz.f12 false true false false) := by
 refine returnsInHanded_of_change_sized (C := Tryz.checked) own started (by kernel_rfl) Tryz.func12
  (ChangeSpec.witness6 (enc := enc) (C := Tryz.checked) false ⟨#[], #[.slice none 0 0, .int .u8 0], []⟩ 8 (by kernel_rfl) (by kernel_rfl) (by kernel_rfl) (by kernel_rfl)) ?_
 intro W base args ds gs before hval0 hW hcnd hsz0 _
 have hsz : (DataW.weightsEach Tryz.prog (Tryz.f12.params.toList ++ Rows.evictCleanSpec.plain.varTypes Tryz.prog) (ds ++ gs)).all (· ≤ reachBytes) = true := hsz0
 have hval : ∀ (j : Nat) t v, Tryz.f12.params[j]? = some t → args[j]? = some v → Value.okWide Tryz.prog W .any base t v := hval0
 have hW' := hW
 obtain ⟨p, q, hA0, hV, rfl, hfz, hnd⟩ := hW
 have hA : DataW.TrodAll enc Tryz.prog W 0 (fun _ => true) true Tryz.f12.params.toList args.toList ds p := hA0
 rw [Tryz.params12] at hA hval hsz
 obtain ⟨v0, vs0, d0, ds0, p0, q0, hargs, rfl, rfl, h0, r0⟩ := trodAll_cons hA
 obtain ⟨v1, vs1, d1, ds1, p1, q1, rfl, rfl, rfl, h1, r1⟩ := trodAll_cons r0
 obtain ⟨rfl, rfl, rfl⟩ := trodAll_nil r1
 obtain rfl : args = #[v0, v1] := by cases args; simp_all
 obtain ⟨rfl, rfl⟩ := trodVars_none hV
 obtain ⟨a0, len0, cap0, rfl⟩ := okWide_slice Tryz.underlying22 (hval 0 22 v0 rfl rfl)
 have k0 := h0
 have lt0 : ∀ x ∈ p0, x.block < W.heap.size := by obtain ⟨m, hm⟩ := k0; exact DataW.trod_lt m _ _ _ hm
 obtain ⟨z0, e0, w0, u0⟩ := Open.zmv (encα := byL) (k := 1) AnyB Tryz.underlying22 (by kernel_rfl) (by kernel_rfl) (by decide) znm decBy (hval 0 22 _ rfl rfl) h0
 subst e0
 obtain ⟨a1, rfl, rfl, rfl, w1⟩ := open_int Tryz.underlying5 (hval 1 5 v1 rfl rfl) h1
 clear hA0 hval0 hsz0 hsz
 refine (zd1 _ z0 a1 W w0 u0 w1).mono fun e W' ⟨he, bel⟩ => ?_
 subst he
 exact ⟨_, rfl, _, _, _, [], _, [], hW', trodAll_mk1 (shut_bool Tryz.underlying4 _), (trodAll_cons_mk (Below.trod laidOut (by kernel_rfl) (of_decide_eq_true (by kernel_rfl)) k0 bel lt0) (trodAll_cons_mk (shut_int Tryz.underlying5 w1) trodAll_mk0)), rfl, bel.frame _, fun h => by cases h⟩
theorem j0 : Rows.evictCleanRow.wf (OpenSpec.ofChange Rows.evictCleanSpec) = true := by kernel_rfl
theorem j3 : Tryz.f12.params.all (Tryz.pinned.checked.prog.readableRec ·) = true := by kernel_rfl
theorem j4 : namedTie Tryz.pinned.checked.prog Rows.evictCleanRow.named Rows.evictCleanSpec.vars = true := by kernel_rfl
theorem j5 : (Rows.evictCleanRow.stops == []) = true := by kernel_rfl
theorem j7 : (Rows.evictCleanRow.knobs == []) = true := by kernel_rfl
theorem j9 : (Rows.evictCleanRow.inPlace == Tryz.pinned.checked.prog.inPlace 12) = true := by kernel_rfl
theorem j10 : (Rows.evictCleanRow.unfollowed == Tryz.pinned.checked.prog.unfollowed 12) = true := by kernel_rfl
theorem j11 : (Rows.evictCleanRow.recurses == Tryz.pinned.checked.prog.recurses 12) = true := by kernel_rfl
theorem j12 : (Rows.evictCleanRow.named == Tryz.pinned.checked.prog.varsNamed 12) = true := by kernel_rfl
theorem j13 : (Rows.evictCleanRow.maps == (Tryz.f12.params.toList ++ Rows.evictCleanSpec.plain.varTypes Tryz.pinned.checked.prog).any (Tryz.pinned.checked.prog.mapsRec ·)) = true := by kernel_rfl
theorem j14 : (Rows.evictCleanRow.ifaces == (Tryz.f12.params.toList ++ Rows.evictCleanSpec.plain.varTypes Tryz.pinned.checked.prog).any (Tryz.pinned.checked.prog.ifacesRec ·)) = true := by kernel_rfl
theorem j15 : (Rows.evictCleanRow.mapsOut == Tryz.pinned.checked.prog.mapsAmong Tryz.f12.resultTypes.toList) = true := by kernel_rfl
theorem j16 : (Rows.evictCleanRow.loops == (Tryz.f12.params.toList ++ Rows.evictCleanSpec.plain.varTypes Tryz.pinned.checked.prog).any (Tryz.pinned.checked.prog.loopsFrom ·)) = true := by kernel_rfl
theorem j17 : (Rows.evictCleanRow.wideKeys == (Tryz.f12.params.toList ++ Rows.evictCleanSpec.plain.varTypes Tryz.pinned.checked.prog ++ Tryz.f12.resultTypes.toList).any (Tryz.pinned.checked.prog.wideKeysFrom ·)) = true := by kernel_rfl
theorem j18 : Rows.evictCleanSpec.vars.all (Tryz.pinned.checked.prog.varReadable ·) = true := by kernel_rfl
theorem j19 : Tryz.f12.resultTypes.all (fun t => Tryz.pinned.checked.prog.readableRec t && decide (t < Tryz.pinned.checked.prog.types.size)) = true := by kernel_rfl
theorem j20 : (Rows.evictCleanRow.ifacesOut == Tryz.f12.resultTypes.toList.any (Tryz.pinned.checked.prog.ifacesRec ·)) = true := by kernel_rfl
theorem j21 : (Rows.evictCleanRow.loopsOut == Tryz.f12.resultTypes.toList.any (Tryz.pinned.checked.prog.loopsFrom ·)) = true := by kernel_rfl
theorem j22 : (Rows.evictCleanRow.plainKeys == Tryz.pinned.checked.prog.plainKeys) = true := by kernel_rfl
theorem j23 : Rows.evictCleanRow.shortTexts.isNone = true := by kernel_rfl
theorem j26 : (Rows.evictCleanRow.lifted == Tryz.pinned.checked.prog.liftsFinal) = true := by kernel_rfl
theorem j27 : (Tryz.pinned.checked.prog.make == some Rows.evictCleanRow.make) = true := by kernel_rfl
theorem j28 : (Rows.evictCleanRow.kinds == (if Rows.evictCleanRow.domain.isEmpty then [] else Tryz.f12.params.toList.map fun t => match Tryz.pinned.checked.prog.underlying t with | some (.int k) => some k | _ => none)) = true := by kernel_rfl
theorem j29 : (Rows.evictCleanRow.pinned == Rows.evictCleanRow.pinnedBy) = true := by kernel_rfl
theorem j30 : (Rows.evictCleanRow.veiled == (Tryz.f12.params.toList ++ Rows.evictCleanSpec.plain.varTypes Tryz.pinned.checked.prog ++ Tryz.f12.resultTypes.toList).any (Tryz.pinned.checked.prog.veiledRec ·)) = true := by kernel_rfl
theorem j31 : Rows.evictCleanRow.veiledFits Tryz.pinned.checked.prog Tryz.f12.params.toList (Tryz.f12.params.toList ++ Rows.evictCleanSpec.plain.varTypes Tryz.pinned.checked.prog ++ Tryz.f12.resultTypes.toList) = true := by kernel_rfl
theorem joined : joinedFacts Tryz.pinned.checked.prog 12 Tryz.f12 Rows.evictCleanSpec Rows.evictCleanRow = true := by unfold joinedFacts; exact (andT (andT (andT (andT (andT (andT (andT (andT (andT (andT (andT (andT (andT (andT (andT (andT (andT (andT (andT (andT (andT (andT (andT (andT (andT (andT (andT (andT (andT (andT (andT j0 zmg) zne) j3) j4) j5) znd) j7) znf) j9) j10) j11) j12) j13) j14) j15) j16) j17) j18) j19) j20) j21) j22) j23) zng) znh) j26) j27) j28) j29) j30) j31)
theorem named : Tryz.pinned.checked.prog.funcNamed Rows.evictCleanRow.func = some 12 := by kernel_rfl
theorem over : Rows.evictCleanRow.holds Tryz.pinned (OpenSpec.ofChange Rows.evictCleanSpec) :=
 OpenClaim.holds_of_wide 12 Tryz.f12 rfl rfl rfl rfl rfl rfl rfl ⟨rfl, rfl, rfl, rfl, rfl⟩ rfl rfl rfl rfl rfl named Tryz.func12 joined
  (of_decide_eq_true (by kernel_rfl)) (by unfold Func.isWrapper; first | (rw [if_pos (by decide +kernel)]; kernel_rfl) | (rw [if_neg (by decide +kernel)]; exact ⟨rfl, rfl⟩))
  (fun os started H enc _ => lifted os started H enc)
theorem proved : Rows.EvictCleanSaid := over
#print axioms proved
end Go.Proofs.YtnhdmnijiphjjaaGreat.evictClean
namespace Go.Proofs.YtnhdmnijiphjjaaGreat
theorem evictClean_holds : Rows.EvictCleanSaid := evictClean.proved
end Go.Proofs.YtnhdmnijiphjjaaGreat
