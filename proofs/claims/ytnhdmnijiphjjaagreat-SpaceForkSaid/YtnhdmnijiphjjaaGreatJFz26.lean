/- SpaceFork answers true for every input; no conditions. -/
import Derived.Test.YtnhdmnijiphjjaaGreatJFz0
import Derived.Test.YtnhdmnijiphjjaaGreatRows
import Derived.Test.YtnhdmnijiphjjaaGreatJFz24
import Derived.WalkKit
import Derived.ProofKit
import Derived.OpenShut
import Derived.ShutString
import Derived.ChangeOld
import Derived.Below
import Derived.SizedLaws
import Derived.Lib.SmallJoins
set_option linter.unusedVariables false
set_option linter.unusedSimpArgs false
set_option maxRecDepth 100000
set_option maxHeartbeats 2000000
namespace Go.Proofs.YtnhdmnijiphjjaaGreat.spaceFork
open Go.ChangeShapes Go.WideShapes Go.ChangeAt Go.RowKit Go.Joins
open Go.ChangeMaps (open_string shut_string)
theorem own:ownKnob Tryz.prog.godebug=none:=by kernel_rfl
theorem laidOut:laidOutB Tryz.prog=true:=zfp
set_option linter.unusedVariables false in
theorem lifted(os:Os)(started:os.Started)(H:Type)(enc:TypeId×Value→H):
  ReturnsInHanded {} Tryz.checked os 13 .any (Rows.spaceForkSpec.pre6 enc Tryz.prog Tryz.f13 Rows.spaceForkRow.domain false) (Rows.spaceForkSpec.post enc Tryz.prog Tryz.f13 false true false false):=by
 refine returnsInHanded_of_change_sized (C:=Tryz.checked) own started (by kernel_rfl) Tryz.func13
  (ChangeSpec.witness6 (enc:=enc) (C:=Tryz.checked) false ⟨#[],#[.slice none 0 0,.slice none 0 0,.int .u8 0,.int .u8 0],[]⟩ 8 (by kernel_rfl) (by kernel_rfl) (by kernel_rfl) (by kernel_rfl)) ?_
 intro W base args ds gs before hval0 hW hcnd hsz0 _
 have hsz:(DataW.weightsEach Tryz.prog (Tryz.f13.params.toList++Rows.spaceForkSpec.plain.varTypes Tryz.prog) (ds++gs)).all (·≤reachBytes)=true:=hsz0
 have hval:∀(j:Nat) t v,Tryz.f13.params[j]?=some t→args[j]?=some v→Value.okWide Tryz.prog W .any base t v:=hval0
 have hW':=hW
 obtain⟨p,q,hA0,hV,rfl,hfz,hnd⟩:=hW
 have hA:DataW.TrodAll enc Tryz.prog W 0 (fun _=>true) true Tryz.f13.params.toList args.toList ds p:=hA0
 rw[Tryz.params13]at hA hval hsz
 obtain⟨v0,vs0,d0,ds0,p0,q0,hargs,rfl,rfl,h0,r0⟩:=trodAll_cons hA
 obtain⟨v1,vs1,d1,ds1,p1,q1,rfl,rfl,rfl,h1,r1⟩:=trodAll_cons r0
 obtain⟨v2,vs2,d2,ds2,p2,q2,rfl,rfl,rfl,h2,r2⟩:=trodAll_cons r1
 obtain⟨v3,vs3,d3,ds3,p3,q3,rfl,rfl,rfl,h3,r3⟩:=trodAll_cons r2
 obtain⟨rfl,rfl,rfl⟩:=trodAll_nil r3
 obtain rfl:args=#[v0,v1,v2,v3]:=by cases args;simp_all
 obtain⟨rfl,rfl⟩:=trodVars_none hV
 obtain⟨a0,len0,cap0,rfl⟩:=okWide_slice Tryz.underlying22 (hval 0 22 v0 rfl rfl)
 have k0:=h0
 have lt0:∀x∈p0,x.block<W.heap.size:=by obtain⟨m,hm⟩:=k0;exact DataW.trod_lt m _ _ _ hm
 obtain⟨z0,e0,w0,u0⟩:=Open.zdx (encα:=byL) (k:=1) AnyB Tryz.underlying22 (by kernel_rfl) (by kernel_rfl) (by decide) zem zoi (hval 0 22 _ rfl rfl) h0
 subst e0
 obtain⟨a1,len1,cap1,rfl⟩:=okWide_slice Tryz.underlying22 (hval 1 22 v1 rfl rfl)
 have k1:=h1
 have lt1:∀x∈p1,x.block<W.heap.size:=by obtain⟨m,hm⟩:=k1;exact DataW.trod_lt m _ _ _ hm
 obtain⟨z1,e1,w1,u1⟩:=Open.zdx (encα:=byL) (k:=1) AnyB Tryz.underlying22 (by kernel_rfl) (by kernel_rfl) (by decide) zem zoi (hval 1 22 _ rfl rfl) h1
 subst e1
 obtain⟨a2,rfl,rfl,rfl,w2⟩:=open_int Tryz.underlying5 (hval 2 5 v2 rfl rfl) h2
 obtain⟨a3,rfl,rfl,rfl,w3⟩:=open_int Tryz.underlying5 (hval 3 5 v3 rfl rfl) h3
 clear hA0 hval0 hsz0 hsz
 refine(zhu _ z0 _ z1 a2 a3 W w0 u0 w1 u1 w2 w3).mono fun e W' ⟨he,bel⟩=>?_
 subst he
 exact⟨_,rfl,_,_,_,[],_,[],hW',trodAll_mk1 (shut_bool Tryz.underlying4 _),(trodAll_cons_mk (Below.trod laidOut (by kernel_rfl) (of_decide_eq_true (by kernel_rfl)) k0 bel lt0) (trodAll_cons_mk (Below.trod laidOut (by kernel_rfl) (of_decide_eq_true (by kernel_rfl)) k1 bel lt1) (trodAll_cons_mk (shut_int Tryz.underlying5 w2) (trodAll_cons_mk (shut_int Tryz.underlying5 w3) trodAll_mk0)))),rfl,bel.frame _,fun h=>by cases h⟩
theorem j0:Rows.spaceForkRow.wf (OpenSpec.ofChange Rows.spaceForkSpec)=true:=by kernel_rfl
theorem j3:Tryz.f13.params.all (Tryz.pinned.checked.prog.readableRec ·)=true:=by kernel_rfl
theorem j4:namedTie Tryz.pinned.checked.prog Rows.spaceForkRow.named Rows.spaceForkSpec.vars=true:=by kernel_rfl
theorem j5:(Rows.spaceForkRow.stops==[])=true:=by kernel_rfl
theorem j7:(Rows.spaceForkRow.knobs==[])=true:=by kernel_rfl
theorem j9:(Rows.spaceForkRow.inPlace==Tryz.pinned.checked.prog.inPlace 13)=true:=by kernel_rfl
theorem j10:(Rows.spaceForkRow.unfollowed==Tryz.pinned.checked.prog.unfollowed 13)=true:=by kernel_rfl
theorem j11:(Rows.spaceForkRow.recurses==Tryz.pinned.checked.prog.recurses 13)=true:=by kernel_rfl
theorem j12:(Rows.spaceForkRow.named==Tryz.pinned.checked.prog.varsNamed 13)=true:=by kernel_rfl
theorem j13:(Rows.spaceForkRow.maps==(Tryz.f13.params.toList++Rows.spaceForkSpec.plain.varTypes Tryz.pinned.checked.prog).any (Tryz.pinned.checked.prog.mapsRec ·))=true:=by kernel_rfl
theorem j14:(Rows.spaceForkRow.ifaces==(Tryz.f13.params.toList++Rows.spaceForkSpec.plain.varTypes Tryz.pinned.checked.prog).any (Tryz.pinned.checked.prog.ifacesRec ·))=true:=by kernel_rfl
theorem j15:(Rows.spaceForkRow.mapsOut==Tryz.pinned.checked.prog.mapsAmong Tryz.f13.resultTypes.toList)=true:=by kernel_rfl
theorem j16:(Rows.spaceForkRow.loops==(Tryz.f13.params.toList++Rows.spaceForkSpec.plain.varTypes Tryz.pinned.checked.prog).any (Tryz.pinned.checked.prog.loopsFrom ·))=true:=by kernel_rfl
theorem j17:(Rows.spaceForkRow.wideKeys==(Tryz.f13.params.toList++Rows.spaceForkSpec.plain.varTypes Tryz.pinned.checked.prog++Tryz.f13.resultTypes.toList).any (Tryz.pinned.checked.prog.wideKeysFrom ·))=true:=by kernel_rfl
theorem j18:Rows.spaceForkSpec.vars.all (Tryz.pinned.checked.prog.varReadable ·)=true:=by kernel_rfl
theorem j19:Tryz.f13.resultTypes.all (fun t=>Tryz.pinned.checked.prog.readableRec t&&decide (t<Tryz.pinned.checked.prog.types.size))=true:=by kernel_rfl
theorem j20:(Rows.spaceForkRow.ifacesOut==Tryz.f13.resultTypes.toList.any (Tryz.pinned.checked.prog.ifacesRec ·))=true:=by kernel_rfl
theorem j21:(Rows.spaceForkRow.loopsOut==Tryz.f13.resultTypes.toList.any (Tryz.pinned.checked.prog.loopsFrom ·))=true:=by kernel_rfl
theorem j22:(Rows.spaceForkRow.plainKeys==Tryz.pinned.checked.prog.plainKeys)=true:=by kernel_rfl
theorem j23:Rows.spaceForkRow.shortTexts.isNone=true:=by kernel_rfl
theorem j26:(Rows.spaceForkRow.lifted==Tryz.pinned.checked.prog.liftsFinal)=true:=by kernel_rfl
theorem j27:(Tryz.pinned.checked.prog.make==some Rows.spaceForkRow.make)=true:=by kernel_rfl
theorem j28:(Rows.spaceForkRow.kinds==(if Rows.spaceForkRow.domain.isEmpty then []else Tryz.f13.params.toList.map fun t=>match Tryz.pinned.checked.prog.underlying t with|some (.int k)=>some k|_=>none))=true:=by kernel_rfl
theorem j29:(Rows.spaceForkRow.pinned==Rows.spaceForkRow.pinnedBy)=true:=by kernel_rfl
theorem j30:(Rows.spaceForkRow.veiled==(Tryz.f13.params.toList++Rows.spaceForkSpec.plain.varTypes Tryz.pinned.checked.prog++Tryz.f13.resultTypes.toList).any (Tryz.pinned.checked.prog.veiledRec ·))=true:=by kernel_rfl
theorem j31:Rows.spaceForkRow.veiledFits Tryz.pinned.checked.prog Tryz.f13.params.toList (Tryz.f13.params.toList++Rows.spaceForkSpec.plain.varTypes Tryz.pinned.checked.prog++Tryz.f13.resultTypes.toList)=true:=by kernel_rfl
theorem joined:joinedFacts Tryz.pinned.checked.prog 13 Tryz.f13 Rows.spaceForkSpec Rows.spaceForkRow=true:=by unfold joinedFacts;exact(andT (andT (andT (andT (andT (andT (andT (andT (andT (andT (andT (andT (andT (andT (andT (andT (andT (andT (andT (andT (andT (andT (andT (andT (andT (andT (andT (andT (andT (andT (andT j0 zfp) zji) j3) j4) j5) zjh) j7) zjj) j9) j10) j11) j12) j13) j14) j15) j16) j17) j18) j19) j20) j21) j22) j23) zjk) zjm) j26) j27) j28) j29) j30) j31)
theorem named:Tryz.pinned.checked.prog.funcNamed Rows.spaceForkRow.func=some 13:=by kernel_rfl
theorem over:Rows.spaceForkRow.holds Tryz.pinned (OpenSpec.ofChange Rows.spaceForkSpec):=
 OpenClaim.holds_of_wide 13 Tryz.f13 rfl rfl rfl rfl rfl rfl rfl ⟨rfl,rfl,rfl,rfl,rfl⟩ rfl rfl rfl rfl rfl named Tryz.func13 joined
  (of_decide_eq_true (by kernel_rfl)) (by unfold Func.isWrapper;first|(rw[if_pos (by decide +kernel)];kernel_rfl)|(rw[if_neg (by decide +kernel)];exact⟨rfl,rfl⟩))
  (fun os started H enc _=>lifted os started H enc)
theorem proved:Rows.SpaceForkSaid:=over
#print axioms proved
end Go.Proofs.YtnhdmnijiphjjaaGreat.spaceFork
namespace Go.Proofs.YtnhdmnijiphjjaaGreat
theorem spaceFork_holds:Rows.SpaceForkSaid:=spaceFork.proved
end Go.Proofs.YtnhdmnijiphjjaaGreat
