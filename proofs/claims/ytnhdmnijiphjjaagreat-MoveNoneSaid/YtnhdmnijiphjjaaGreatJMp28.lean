/- MoveNone answers true for every input; no conditions. -/
import Derived.Test.YtnhdmnijiphjjaaGreatJMp0
import Derived.Test.YtnhdmnijiphjjaaGreatRows
import Derived.Test.YtnhdmnijiphjjaaGreatJMp25
import Derived.WalkKit
import Derived.ProofKit
import Derived.OpenShut
import Derived.ShutString
import Derived.ChangeOld
import Derived.Below
import Derived.SizedLaws
import Derived.Lib.SmallJoins
set_option linter.unusedVariables false
set_option linter.unusedSimpArgs false
set_option maxRecDepth 100000
set_option maxHeartbeats 2000000
namespace Go.Proofs.YtnhdmnijiphjjaaGreat.moveNone
open Go.ChangeShapes Go.WideShapes Go.ChangeAt Go.RowKit Go.Joins
open Go.ChangeMaps (open_string shut_string)
theorem own:ownKnob Tryz.prog.godebug=none:=by kernel_rfl
set_option linter.unusedVariables false in
theorem lifted(os:Os)(started:os.Started)(H:Type)(enc:TypeId×Value→H):
  ReturnsInHanded {} Tryz.checked os 6 .any (Rows.moveNoneSpec.pre6 enc Tryz.prog Tryz.f6 Rows.moveNoneRow.domain false) (Rows.moveNoneSpec.post enc Tryz.prog Tryz.f6 false true false false):=by
 refine returnsInHanded_of_change_sized (C:=Tryz.checked) own started (by kernel_rfl) Tryz.func6
  (ChangeSpec.witness6 (enc:=enc) (C:=Tryz.checked) false ⟨#[],#[.int .i64 0],[]⟩ 8 (by kernel_rfl) (by kernel_rfl) (by kernel_rfl) (by kernel_rfl)) ?_
 intro W base args ds gs before hval0 hW hcnd hsz0 _
 have hsz:(DataW.weightsEach Tryz.prog (Tryz.f6.params.toList++Rows.moveNoneSpec.plain.varTypes Tryz.prog) (ds++gs)).all (·≤reachBytes)=true:=hsz0
 have hval:∀(j:Nat) t v,Tryz.f6.params[j]?=some t→args[j]?=some v→Value.okWide Tryz.prog W .any base t v:=hval0
 have hW':=hW
 obtain⟨p,q,hA0,hV,rfl,hfz,hnd⟩:=hW
 have hA:DataW.TrodAll enc Tryz.prog W 0 (fun _=>true) true Tryz.f6.params.toList args.toList ds p:=hA0
 rw[Tryz.params6]at hA hval hsz
 obtain⟨v0,vs0,d0,ds0,p0,q0,hargs,rfl,rfl,h0,r0⟩:=trodAll_cons hA
 obtain⟨rfl,rfl,rfl⟩:=trodAll_nil r0
 obtain rfl:args=#[v0]:=by cases args;simp_all
 obtain⟨rfl,rfl⟩:=trodVars_none hV
 obtain⟨a0,rfl,rfl,rfl,w0⟩:=open_int Tryz.underlying3 (hval 0 3 v0 rfl rfl) h0
 clear hA0 hval0 hsz0 hsz
 refine(zcc a0 W w0).mono fun e W' ⟨he,bel⟩=>?_
 subst he
 exact⟨_,rfl,_,_,_,[],_,[],hW',trodAll_mk1 (shut_bool Tryz.underlying4 _),(trodAll_cons_mk (shut_int Tryz.underlying3 w0) trodAll_mk0),rfl,bel.frame _,fun h=>by cases h⟩
theorem j0:Rows.moveNoneRow.wf (OpenSpec.ofChange Rows.moveNoneSpec)=true:=by kernel_rfl
theorem j3:Tryz.f6.params.all (Tryz.pinned.checked.prog.readableRec ·)=true:=by kernel_rfl
theorem j4:namedTie Tryz.pinned.checked.prog Rows.moveNoneRow.named Rows.moveNoneSpec.vars=true:=by kernel_rfl
theorem j5:(Rows.moveNoneRow.stops==[])=true:=by kernel_rfl
theorem j7:(Rows.moveNoneRow.knobs==[])=true:=by kernel_rfl
theorem j9:(Rows.moveNoneRow.inPlace==Tryz.pinned.checked.prog.inPlace 6)=true:=by kernel_rfl
theorem j10:(Rows.moveNoneRow.unfollowed==Tryz.pinned.checked.prog.unfollowed 6)=true:=by kernel_rfl
theorem j11:(Rows.moveNoneRow.recurses==Tryz.pinned.checked.prog.recurses 6)=true:=by kernel_rfl
theorem j12:(Rows.moveNoneRow.named==Tryz.pinned.checked.prog.varsNamed 6)=true:=by kernel_rfl
theorem j13:(Rows.moveNoneRow.maps==(Tryz.f6.params.toList++Rows.moveNoneSpec.plain.varTypes Tryz.pinned.checked.prog).any (Tryz.pinned.checked.prog.mapsRec ·))=true:=by kernel_rfl
theorem j14:(Rows.moveNoneRow.ifaces==(Tryz.f6.params.toList++Rows.moveNoneSpec.plain.varTypes Tryz.pinned.checked.prog).any (Tryz.pinned.checked.prog.ifacesRec ·))=true:=by kernel_rfl
theorem j15:(Rows.moveNoneRow.mapsOut==Tryz.pinned.checked.prog.mapsAmong Tryz.f6.resultTypes.toList)=true:=by kernel_rfl
theorem j16:(Rows.moveNoneRow.loops==(Tryz.f6.params.toList++Rows.moveNoneSpec.plain.varTypes Tryz.pinned.checked.prog).any (Tryz.pinned.checked.prog.loopsFrom ·))=true:=by kernel_rfl
theorem j17:(Rows.moveNoneRow.wideKeys==(Tryz.f6.params.toList++Rows.moveNoneSpec.plain.varTypes Tryz.pinned.checked.prog++Tryz.f6.resultTypes.toList).any (Tryz.pinned.checked.prog.wideKeysFrom ·))=true:=by kernel_rfl
theorem j18:Rows.moveNoneSpec.vars.all (Tryz.pinned.checked.prog.varReadable ·)=true:=by kernel_rfl
theorem j19:Tryz.f6.resultTypes.all (fun t=>Tryz.pinned.checked.prog.readableRec t&&decide (t<Tryz.pinned.checked.prog.types.size))=true:=by kernel_rfl
theorem j20:(Rows.moveNoneRow.ifacesOut==Tryz.f6.resultTypes.toList.any (Tryz.pinned.checked.prog.ifacesRec ·))=true:=by kernel_rfl
theorem j21:(Rows.moveNoneRow.loopsOut==Tryz.f6.resultTypes.toList.any (Tryz.pinned.checked.prog.loopsFrom ·))=true:=by kernel_rfl
theorem j22:(Rows.moveNoneRow.plainKeys==Tryz.pinned.checked.prog.plainKeys)=true:=by kernel_rfl
theorem j23:Rows.moveNoneRow.shortTexts.isNone=true:=by kernel_rfl
theorem j26:(Rows.moveNoneRow.lifted==Tryz.pinned.checked.prog.liftsFinal)=true:=by kernel_rfl
theorem j27:(Tryz.pinned.checked.prog.make==some Rows.moveNoneRow.make)=true:=by kernel_rfl
theorem j28:(Rows.moveNoneRow.kinds==(if Rows.moveNoneRow.domain.isEmpty then []else Tryz.f6.params.toList.map fun t=>match Tryz.pinned.checked.prog.underlying t with|some (.int k)=>some k|_=>none))=true:=by kernel_rfl
theorem j29:(Rows.moveNoneRow.pinned==Rows.moveNoneRow.pinnedBy)=true:=by kernel_rfl
theorem j30:(Rows.moveNoneRow.veiled==(Tryz.f6.params.toList++Rows.moveNoneSpec.plain.varTypes Tryz.pinned.checked.prog++Tryz.f6.resultTypes.toList).any (Tryz.pinned.checked.prog.veiledRec ·))=true:=by kernel_rfl
theorem j31:Rows.moveNoneRow.veiledFits Tryz.pinned.checked.prog Tryz.f6.params.toList (Tryz.f6.params.toList++Rows.moveNoneSpec.plain.varTypes Tryz.pinned.checked.prog++Tryz.f6.resultTypes.toList)=true:=by kernel_rfl
theorem joined:joinedFacts Tryz.pinned.checked.prog 6 Tryz.f6 Rows.moveNoneSpec Rows.moveNoneRow=true:=by unfold joinedFacts;exact(andT (andT (andT (andT (andT (andT (andT (andT (andT (andT (andT (andT (andT (andT (andT (andT (andT (andT (andT (andT (andT (andT (andT (andT (andT (andT (andT (andT (andT (andT (andT j0 zfh) zd9) j3) j4) j5) zd8) j7) zea) j9) j10) j11) j12) j13) j14) j15) j16) j17) j18) j19) j20) j21) j22) j23) zeb) zec) j26) j27) j28) j29) j30) j31)
theorem named:Tryz.pinned.checked.prog.funcNamed Rows.moveNoneRow.func=some 6:=by kernel_rfl
theorem over:Rows.moveNoneRow.holds Tryz.pinned (OpenSpec.ofChange Rows.moveNoneSpec):=
 OpenClaim.holds_of_wide 6 Tryz.f6 rfl rfl rfl rfl rfl rfl rfl ⟨rfl,rfl,rfl,rfl,rfl⟩ rfl rfl rfl rfl rfl named Tryz.func6 joined
  (of_decide_eq_true (by kernel_rfl)) (by unfold Func.isWrapper;first|(rw[if_pos (by decide +kernel)];kernel_rfl)|(rw[if_neg (by decide +kernel)];exact⟨rfl,rfl⟩))
  (fun os started H enc _=>lifted os started H enc)
theorem proved:Rows.MoveNoneSaid:=over
#print axioms proved
end Go.Proofs.YtnhdmnijiphjjaaGreat.moveNone
namespace Go.Proofs.YtnhdmnijiphjjaaGreat
theorem moveNone_holds:Rows.MoveNoneSaid:=moveNone.proved
end Go.Proofs.YtnhdmnijiphjjaaGreat
