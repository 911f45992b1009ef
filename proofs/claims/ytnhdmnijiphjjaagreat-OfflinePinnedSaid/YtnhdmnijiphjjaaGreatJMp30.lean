/- OfflinePinned answers true for every input; no conditions. -/
import Derived.Test.YtnhdmnijiphjjaaGreatJMp0
import Derived.Test.YtnhdmnijiphjjaaGreatRows
import Derived.Test.YtnhdmnijiphjjaaGreatJMp27
import Derived.Test.YtnhdmnijiphjjaaGreatJMp26
import Derived.WalkKit
import Derived.ProofKit
import Derived.OpenShut
import Derived.ShutString
import Derived.ChangeOld
import Derived.Below
import Derived.SizedLaws
import Derived.Lib.SmallJoins
set_option linter.unusedVariables false
set_option linter.unusedSimpArgs false
set_option maxRecDepth 100000
set_option maxHeartbeats 2000000
namespace Go.Proofs.YtnhdmnijiphjjaaGreat.offlinePinned
open Go.ChangeShapes Go.WideShapes Go.ChangeAt Go.RowKit Go.Joins
open Go.ChangeMaps (open_string shut_string)
theorem own:ownKnob Tryz.prog.godebug=none:=by kernel_rfl
theorem laidOut:laidOutB Tryz.prog=true:=zfh
set_option linter.unusedVariables false in
theorem lifted(os:Os)(started:os.Started)(H:Type)(enc:TypeId×Value→H):
  ReturnsInHanded {} Tryz.checked os 11 .any (Rows.offlinePinnedSpec.pre6 enc Tryz.prog Tryz.f11 Rows.offlinePinnedRow.domain false) (Rows.offlinePinnedSpec.post enc Tryz.prog Tryz.f11 false true false false):=by
 refine returnsInHanded_of_change_sized (C:=Tryz.checked) own started (by kernel_rfl) Tryz.func11
  (ChangeSpec.witness6 (enc:=enc) (C:=Tryz.checked) false ⟨#[],#[.int .u8 0,.slice none 0 0],[]⟩ 8 (by kernel_rfl) (by kernel_rfl) (by kernel_rfl) (by kernel_rfl)) ?_
 intro W base args ds gs before hval0 hW hcnd hsz0 _
 have hsz:(DataW.weightsEach Tryz.prog (Tryz.f11.params.toList++Rows.offlinePinnedSpec.plain.varTypes Tryz.prog) (ds++gs)).all (·≤reachBytes)=true:=hsz0
 have hval:∀(j:Nat) t v,Tryz.f11.params[j]?=some t→args[j]?=some v→Value.okWide Tryz.prog W .any base t v:=hval0
 have hW':=hW
 obtain⟨p,q,hA0,hV,rfl,hfz,hnd⟩:=hW
 have hA:DataW.TrodAll enc Tryz.prog W 0 (fun _=>true) true Tryz.f11.params.toList args.toList ds p:=hA0
 rw[Tryz.params11]at hA hval hsz
 obtain⟨v0,vs0,d0,ds0,p0,q0,hargs,rfl,rfl,h0,r0⟩:=trodAll_cons hA
 obtain⟨v1,vs1,d1,ds1,p1,q1,rfl,rfl,rfl,h1,r1⟩:=trodAll_cons r0
 obtain⟨rfl,rfl,rfl⟩:=trodAll_nil r1
 obtain rfl:args=#[v0,v1]:=by cases args;simp_all
 obtain⟨rfl,rfl⟩:=trodVars_none hV
 obtain⟨a0,rfl,rfl,rfl,w0⟩:=open_int Tryz.underlying5 (hval 0 5 v0 rfl rfl) h0
 obtain⟨a1,len1,cap1,rfl⟩:=okWide_slice Tryz.underlying22 (hval 1 22 v1 rfl rfl)
 have k1:=h1
 have lt1:∀x∈p1,x.block<W.heap.size:=by obtain⟨m,hm⟩:=k1;exact DataW.trod_lt m _ _ _ hm
 obtain⟨z1,e1,w1,u1⟩:=Open.znq (encα:=byL) (k:=1) AnyB Tryz.underlying22 (by kernel_rfl) (by kernel_rfl) (by decide) zob decBy (hval 1 22 _ rfl rfl) h1
 subst e1
 clear hA0 hval0 hsz0 hsz
 refine(zf3 a0 _ z1 W w0 w1 u1).mono fun e W' ⟨he,bel⟩=>?_
 subst he
 exact⟨_,rfl,_,_,_,[],_,[],hW',trodAll_mk1 (shut_bool Tryz.underlying4 _),(trodAll_cons_mk (shut_int Tryz.underlying5 w0) (trodAll_cons_mk (Below.trod laidOut (by kernel_rfl) (of_decide_eq_true (by kernel_rfl)) k1 bel lt1) trodAll_mk0)),rfl,bel.frame _,fun h=>by cases h⟩
theorem j0:Rows.offlinePinnedRow.wf (OpenSpec.ofChange Rows.offlinePinnedSpec)=true:=by kernel_rfl
theorem j3:Tryz.f11.params.all (Tryz.pinned.checked.prog.readableRec ·)=true:=by kernel_rfl
theorem j4:namedTie Tryz.pinned.checked.prog Rows.offlinePinnedRow.named Rows.offlinePinnedSpec.vars=true:=by kernel_rfl
theorem j5:(Rows.offlinePinnedRow.stops==[])=true:=by kernel_rfl
theorem j7:(Rows.offlinePinnedRow.knobs==[])=true:=by kernel_rfl
theorem j9:(Rows.offlinePinnedRow.inPlace==Tryz.pinned.checked.prog.inPlace 11)=true:=by kernel_rfl
theorem j10:(Rows.offlinePinnedRow.unfollowed==Tryz.pinned.checked.prog.unfollowed 11)=true:=by kernel_rfl
theorem j11:(Rows.offlinePinnedRow.recurses==Tryz.pinned.checked.prog.recurses 11)=true:=by kernel_rfl
theorem j12:(Rows.offlinePinnedRow.named==Tryz.pinned.checked.prog.varsNamed 11)=true:=by kernel_rfl
theorem j13:(Rows.offlinePinnedRow.maps==(Tryz.f11.params.toList++Rows.offlinePinnedSpec.plain.varTypes Tryz.pinned.checked.prog).any (Tryz.pinned.checked.prog.mapsRec ·))=true:=by kernel_rfl
theorem j14:(Rows.offlinePinnedRow.ifaces==(Tryz.f11.params.toList++Rows.offlinePinnedSpec.plain.varTypes Tryz.pinned.checked.prog).any (Tryz.pinned.checked.prog.ifacesRec ·))=true:=by kernel_rfl
theorem j15:(Rows.offlinePinnedRow.mapsOut==Tryz.pinned.checked.prog.mapsAmong Tryz.f11.resultTypes.toList)=true:=by kernel_rfl
theorem j16:(Rows.offlinePinnedRow.loops==(Tryz.f11.params.toList++Rows.offlinePinnedSpec.plain.varTypes Tryz.pinned.checked.prog).any (Tryz.pinned.checked.prog.loopsFrom ·))=true:=by kernel_rfl
theorem j17:(Rows.offlinePinnedRow.wideKeys==(Tryz.f11.params.toList++Rows.offlinePinnedSpec.plain.varTypes Tryz.pinned.checked.prog++Tryz.f11.resultTypes.toList).any (Tryz.pinned.checked.prog.wideKeysFrom ·))=true:=by kernel_rfl
theorem j18:Rows.offlinePinnedSpec.vars.all (Tryz.pinned.checked.prog.varReadable ·)=true:=by kernel_rfl
theorem j19:Tryz.f11.resultTypes.all (fun t=>Tryz.pinned.checked.prog.readableRec t&&decide (t<Tryz.pinned.checked.prog.types.size))=true:=by kernel_rfl
theorem j20:(Rows.offlinePinnedRow.ifacesOut==Tryz.f11.resultTypes.toList.any (Tryz.pinned.checked.prog.ifacesRec ·))=true:=by kernel_rfl
theorem j21:(Rows.offlinePinnedRow.loopsOut==Tryz.f11.resultTypes.toList.any (Tryz.pinned.checked.prog.loopsFrom ·))=true:=by kernel_rfl
theorem j22:(Rows.offlinePinnedRow.plainKeys==Tryz.pinned.checked.prog.plainKeys)=true:=by kernel_rfl
theorem j23:Rows.offlinePinnedRow.shortTexts.isNone=true:=by kernel_rfl
theorem j26:(Rows.offlinePinnedRow.lifted==Tryz.pinned.checked.prog.liftsFinal)=true:=by kernel_rfl
theorem j27:(Tryz.pinned.checked.prog.make==some Rows.offlinePinnedRow.make)=true:=by kernel_rfl
theorem j28:(Rows.offlinePinnedRow.kinds==(if Rows.offlinePinnedRow.domain.isEmpty then []else Tryz.f11.params.toList.map fun t=>match Tryz.pinned.checked.prog.underlying t with|some (.int k)=>some k|_=>none))=true:=by kernel_rfl
theorem j29:(Rows.offlinePinnedRow.pinned==Rows.offlinePinnedRow.pinnedBy)=true:=by kernel_rfl
theorem j30:(Rows.offlinePinnedRow.veiled==(Tryz.f11.params.toList++Rows.offlinePinnedSpec.plain.varTypes Tryz.pinned.checked.prog++Tryz.f11.resultTypes.toList).any (Tryz.pinned.checked.prog.veiledRec ·))=true:=by kernel_rfl
theorem j31:Rows.offlinePinnedRow.veiledFits Tryz.pinned.checked.prog Tryz.f11.params.toList (Tryz.f11.params.toList++Rows.offlinePinnedSpec.plain.varTypes Tryz.pinned.checked.prog++Tryz.f11.resultTypes.toList)=true:=by kernel_rfl
theorem joined:joinedFacts Tryz.pinned.checked.prog 11 Tryz.f11 Rows.offlinePinnedSpec Rows.offlinePinnedRow=true:=by unfold joinedFacts;exact(andT (andT (andT (andT (andT (andT (andT (andT (andT (andT (andT (andT (andT (andT (andT (andT (andT (andT (andT (andT (andT (andT (andT (andT (andT (andT (andT (andT (andT (andT (andT j0 zfh) zd9) j3) j4) j5) zd8) j7) zea) j9) j10) j11) j12) j13) j14) j15) j16) j17) j18) j19) j20) j21) j22) j23) zeb) zec) j26) j27) j28) j29) j30) j31)
theorem named:Tryz.pinned.checked.prog.funcNamed Rows.offlinePinnedRow.func=some 11:=by kernel_rfl
theorem over:Rows.offlinePinnedRow.holds Tryz.pinned (OpenSpec.ofChange Rows.offlinePinnedSpec):=
 OpenClaim.holds_of_wide 11 Tryz.f11 rfl rfl rfl rfl rfl rfl rfl ⟨rfl,rfl,rfl,rfl,rfl⟩ rfl rfl rfl rfl rfl named Tryz.func11 joined
  (of_decide_eq_true (by kernel_rfl)) (by unfold Func.isWrapper;first|(rw[if_pos (by decide +kernel)];kernel_rfl)|(rw[if_neg (by decide +kernel)];exact⟨rfl,rfl⟩))
  (fun os started H enc _=>lifted os started H enc)
theorem proved:Rows.OfflinePinnedSaid:=over
#print axioms proved
end Go.Proofs.YtnhdmnijiphjjaaGreat.offlinePinned
namespace Go.Proofs.YtnhdmnijiphjjaaGreat
theorem offlinePinned_holds:Rows.OfflinePinnedSaid:=offlinePinned.proved
end Go.Proofs.YtnhdmnijiphjjaaGreat
