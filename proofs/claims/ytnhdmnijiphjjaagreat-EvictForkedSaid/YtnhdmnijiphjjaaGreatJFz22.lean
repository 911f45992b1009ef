/- Processes, in plain words: many places, all of one frame, have other entries, each its own. No program in it. -/
import Derived.Test.YtnhdmnijiphjjaaGreatJFz16
import Derived.Test.YtnhdmnijiphjjaaGreatJFz21
import Derived.Test.YtnhdmnijiphjjaaGreatJFz15
import Derived.Test.YtnhdmnijiphjjaaGreatJFz17
import Derived.Test.YtnhdmnijiphjjaaGreatJFz11
import Derived.Test.YtnhdmnijiphjjaaGreatJFz7
set_option linter.unusedVariables false
set_option linter.unusedSimpArgs false
set_option maxRecDepth 100000
set_option maxHeartbeats 2000000
namespace Go.Proofs.YtnhdmnijiphjjaaGreat
open Go Go.RowKit
def za.putM(x:za)(l:List (Int×Int))(e:Int×Int→Ent):za:=l.foldl (fun y p=>(y.putF p.1.toNat p.2.toNat (e p)).2) x
theorem zh3(x:za)(n page:Nat)(l:List (Int×Int))(e:Int×Int→Ent):x.putM (plc n page::l) e=(x.putF n page (e (plc n page))).2.putM l e:=by
 unfold za.putM
 rw[List.foldl_cons]
 have e1:(plc n page).1.toNat=n:=by unfold plc;omega
 have e2:(plc n page).2.toNat=page:=by unfold plc;dsimp only;omega
 rw[e1,e2]
theorem zgd(x:za)(l:List (Int×Int))(e:Ent):x.putM l (fun _=>e)=x.vg l e:=rfl
structure Z0(x:za)(f0:Nat)(l:List (Int×Int))(e:Int×Int→Ent)(y:za):Prop where
 wf:WF y
 ent:∀m pg,pg<4096→y.ent m pg=if plc m pg∈l then e (plc m pg)else x.ent m pg
 bad:y.R.bad=x.R.bad
 bytes:∀f i,x.P.use f≠1→x.P.use f≠2→y.R.b f i=x.R.b f i
 use:∀f,x.P.use f≠1→x.P.use f≠2→y.P.use f=if f=f0∧x.P.use f0=3∧l≠[]∧y.B f0=[]then 1 else x.P.use f
 fr:∀f,x.P.use f=1→y.P.use f=1
 tb:∀f,x.P.use f=2→y.P.use f=1∨y.P.use f=2
 tab:(∀f,f<1024→x.P.use f=2→∃n,x.owns n f)→∀f,f<1024→y.P.use f=2→∃n,y.owns n f
 zone:y.P.zone=x.P.zone∧y.P.iso=x.P.iso
 keep:y.D=x.D∧y.CL=x.CL∧y.CR=x.CR
 procs:∀m,(y.T m).map (fun pr=>(pr.A,pr.Q))=(x.T m).map (fun pr=>(pr.A,pr.Q))
 memB:∀(f:Nat) q,f<1024→(q∈y.B f↔if q∈l then(e q).kind=1∧(e q).n=f else q∈x.B f)
 memS:∀(k:Nat) q,k<32→(q∈y.S.getD k []↔if q∈l then(e q).kind=2∧(e q).n=k else q∈x.S.getD k [])
 room:x.P.room≤y.P.room
structure zep(x:za)(f0:Nat)(q:Int×Int):Prop where
 pl:∃n page pr,q=plc n page∧n<8∧page<4096∧x.T n=some pr∧(x.ent n page).kind=1∧(x.ent n page).n=f0
 isB:q∈x.B f0
 noB:∀f:Nat,f<1024→f≠f0→q∉x.B f
 noS:∀k,k<32→q∉x.S.getD k []
def zmt(f0:Nat)(e:Ent):Prop:=e.ok=true∧(e.kind=1→e.n≠f0)
section
variable {F:Nat→Prop}{x y x1:za}{f0:Nat}{l:List (Int×Int)}{e:Int×Int→Ent}
theorem Z0.refl(h:WF x):Z0 x f0 [] e x:=
 ⟨h,fun m pg _=>by rw[if_neg (by simp)],rfl,fun _ _ _ _=>rfl,fun f _ _=>by rw[if_neg];exact fun z=>z.2.2.1 rfl,fun _ z=>z,fun _ z=>.inr z,fun z=>z,⟨rfl,rfl⟩,⟨rfl,rfl,rfl⟩,fun _=>rfl,
  fun f q _=>by rw[if_neg (by simp)],fun k q _=>by rw[if_neg (by simp)],Nat.le_refl _⟩
theorem zep.keep{p q:Int×Int}{n page:Nat}{pr:yg}{c:Int}(h:zep x f0 q)(d:PutD x n page pr (e p) c x1)(hp:p=plc n page)(hne:q≠p):zep x1 f0 q:=by
 obtain⟨⟨m,pg,pm,rfl,h1,h2,h3,h4,h5⟩,h6,h7,h8⟩:=h
 have hn:¬(m=n∧pg=page):=fun z=>hne (by rw[hp,z.1,z.2])
 have ee:x1.ent m pg=x.ent m pg:=by rw[d.ent m pg h2,if_neg fun z=>hn z.2]
 refine⟨?_,?_,fun f hf hff=>?_,fun k hk=>?_⟩
 ·by_cases k:m=n
  ·obtain⟨T',ht⟩:=d.this
   exact⟨m,pg,_,rfl,h1,h2,by rw[k];exact ht,by rw[ee];exact h4,by rw[ee];exact h5⟩
  ·exact⟨m,pg,pm,rfl,h1,h2,by rw[d.oth m k];exact h3,by rw[ee];exact h4,by rw[ee];exact h5⟩
 ·rw[d.memB,if_neg fun z=>hne (z.2.1.trans hp.symm)];exact h6
 ·rw[d.memB,if_neg fun z=>hne (z.2.1.trans hp.symm)];exact h7 f hf hff
 ·rw[d.memS,if_neg fun z=>hne (z.2.1.trans hp.symm)];exact h8 k hk
theorem Z0.one(h:WF x){p:Int×Int}(hp:zep x f0 p)(he:zmt f0 (e p)):Z0 x f0 [p] e (x.putM [p] e)∧∃n page pr,p=plc n page∧PutD x n page pr (e p) 0 (x.putM [p] e):=by
 obtain⟨⟨n,page,pr,rfl,h1,h2,h3,h4,h5⟩,h6,h7,h8⟩:=hp
 obtain⟨e1,e2⟩:=he
 have d:=h.putF h1 h3 h2 e1
 have hne:x.ent n page≠e (plc n page):=fun z=>by rw[z]at h4 h5;exact e2 h4 h5
 have hc:(x.putF n page (e (plc n page))).1=0:=(d.less (.inl (by omega))).1
 have hx:x.putM [plc n page] e=(x.putF n page (e (plc n page))).2:=by rw[zh3];rfl
 rw[hc]at d
 rw[hx]
 clear hx hc
 obtain⟨x1,hx1⟩:∃x1,x1=(x.putF n page (e (plc n page))).2:=⟨_,rfl⟩
 rw[←hx1]at d⊢
 clear hx1
 obtain⟨_,ls2,ls3⟩:=d.less (.inl (by omega))
 have own2:∀f,x.P.use f≠2→¬x.owns n f:=fun f hf ho=>hf (h.yt ho).2.1
 have mB:∀f:Nat,(plc n page∈x1.B f↔(e (plc n page)).kind=1∧(e (plc n page)).n=f∨(¬((x.ent n page).kind=1∧(x.ent n page).n=f)∧plc n page∈x.B f)):=fun f=>by
  rw[d.memB,if_pos ⟨rfl,rfl,hne⟩]
 have B0:x1.B f0=[]↔(x.B f0).erase (plc n page)=[]:=by
  have hs:=h.back (f0:Int)
  refine⟨fun z=>List.eq_nil_iff_forall_not_mem.2 fun q hq=>?_,fun z=>List.eq_nil_iff_forall_not_mem.2 fun q hq=>?_⟩
  ·obtain⟨q1,q2⟩:=(hs.1.Zp _ _).1 hq
   have:q∈x1.B f0:=by rw[d.memB,if_neg fun y=>q1 y.2.1];exact q2
   rw[z]at this;cases this
  ·by_cases k:q=plc n page
   ·rw[k,mB]at hq
    rcases hq with⟨a,b⟩|⟨a,_⟩
    ·exact e2 a b
    ·exact a ⟨h4,h5⟩
   ·rw[d.memB,if_neg fun y=>k y.2.1]at hq
    have:q∈(x.B f0).erase (plc n page):=(hs.1.Zp _ _).2 ⟨k,hq⟩
    rw[z]at this;cases this
 refine⟨⟨d.wf,fun m pg hpg=>?_,d.bad,fun f i hf hf2=>d.bytes f i hf (own2 f hf2),fun f hf hf2=>?_,fun f hf=>?_,fun f hf=>?_,fun t f hf hu=>?_,⟨d.zone,d.iso⟩,d.keep,fun m=>?_,fun f q hf=>?_,fun k q hk=>?_,ls2⟩,n,page,pr,rfl,d⟩
 ·rw[d.ent m pg hpg]
  by_cases k:m=n∧pg=page
  ·rw[if_pos ⟨rfl,k⟩,if_pos (by simp[k.1,k.2]),k.1,k.2]
  ·rw[if_neg fun z=>k z.2,if_neg]
   simpa[Xj]using k
 ·rw[d.use f (own2 f hf2) hf]
  refine zar ⟨?_,?_⟩ _ _
  ·rintro⟨_,_,_,a,_,b,c⟩
   have hff:f=f0:=by omega
   subst hff
   exact⟨rfl,c,by simp,B0.2 b⟩
  ·rintro⟨rfl,a,_,b⟩
   exact⟨rfl,h4,fun z=>e2 z.1 (z.2.trans h5),h5.symm,h6,B0.1 b,a⟩
 ·rw[d.free f (.inr hf),if_neg]
  exact fun z=>by have:=(h.yt (ls3 f z)).2.1;omega
 ·by_cases k:x.owns n f
  ·rw[d.free f (.inl k)]
   split
   ·exact .inr rfl
   ·exact .inl rfl
  ·rw[d.use f k (by omega)]
   split
   ·exact .inl rfl
   ·exact .inr hf
 ·by_cases k:x.owns n f∨x.P.use f=1
  ·rw[d.free f k]at hu
   split at hu
   ·rename_i z;exact⟨n,z⟩
   ·omega
  ·have k1:¬x.owns n f:=fun z=>k (.inl z)
   rw[d.use f k1 fun z=>k (.inr z)]at hu
   split at hu
   ·omega
   ·obtain⟨m,pm,hm,hf'⟩:=t f hf hu
    have hmn:m≠n:=fun z=>k1 (by rw[←z];exact⟨pm,hm,hf'⟩)
    exact⟨m,pm,by rw[d.oth m hmn];exact hm,hf'⟩
 ·by_cases k:m=n
  ·obtain⟨T',ht⟩:=d.this
   rw[k,ht,h3]
   rfl
  ·rw[d.oth m k]
 ·by_cases k:q=plc n page
  ·rw[if_pos (by simp[k]),k,mB]
   refine⟨fun z=>z.elim id fun z=>?_,.inl⟩
   by_cases kk:f=f0
   ·exact absurd ⟨h4,by rw[h5,kk]⟩ z.1
   ·exact absurd z.2 (h7 f hf kk)
  ·rw[if_neg (by simpa using k),d.memB,if_neg fun z=>k z.2.1]
 ·by_cases kq:q=plc n page
  ·rw[if_pos (by simp[kq]),kq,d.memS,if_pos ⟨rfl,rfl,hne⟩]
   exact⟨fun z=>z.elim id fun z=>absurd z.2 (h8 k hk),.inl⟩
  ·rw[if_neg (by simpa using kq),d.memS,if_neg fun z=>kq z.2.1]
theorem Z0.comp{p:Int×Int}(h1:Z0 x f0 [p] e x1)(h2:Z0 x1 f0 l e y)(hB:x1.B f0≠[])(hl:l≠[]):Z0 x f0 (p::l) e y:=by
 have u1:∀f,x.P.use f≠1→x.P.use f≠2→x1.P.use f=x.P.use f:=fun f a b=>by
  rw[h1.use f a b,if_neg]
  exact fun z=>hB z.2.2.2
 have hi:∀{α:Type} (q:Int×Int) (a b c:α),(if q∈l then a else if q∈[p]then b else c)=if q∈p::l then(if q∈l then a else b)else c:=fun q a b c=>by
  by_cases k:q∈l
  ·rw[if_pos k,if_pos (List.mem_cons_of_mem _ k),if_pos k]
  ·rw[if_neg k]
   by_cases k2:q=p
   ·rw[if_pos (by simp[k2]),if_pos (by simp[k2]),if_neg k]
   ·rw[if_neg (by simpa using k2),if_neg (by simp[k2,k])]
 refine⟨h2.wf,fun m pg hpg=>?_,h2.bad.trans h1.bad,fun f i a b=>?_,fun f a b=>?_,fun f a=>h2.fr f (h1.fr f a),fun f a=>?_,fun t=>h2.tab (h1.tab t),⟨h2.zone.1.trans h1.zone.1,h2.zone.2.trans h1.zone.2⟩,
  ⟨h2.keep.1.trans h1.keep.1,h2.keep.2.1.trans h1.keep.2.1,h2.keep.2.2.trans h1.keep.2.2⟩,fun m=>(h2.procs m).trans (h1.procs m),fun f q hf=>?_,fun k q hk=>?_,Nat.le_trans h1.room h2.room⟩
 ·rw[h2.ent m pg hpg,h1.ent m pg hpg,hi,ite_self]
 ·rw[h2.bytes f i (by rw[u1 f a b];exact a) (by rw[u1 f a b];exact b),h1.bytes f i a b]
 ·rw[h2.use f (by rw[u1 f a b];exact a) (by rw[u1 f a b];exact b),u1 f a b]
  by_cases k:f=f0
  ·subst k
   rw[u1 f a b]
   exact zar ⟨fun⟨q1,q2,_,q4⟩=>⟨q1,q2,by simp,q4⟩,fun⟨q1,q2,_,q4⟩=>⟨q1,q2,hl,q4⟩⟩ _ _
  ·rw[if_neg fun z=>k z.1,if_neg fun z=>k z.1]
 ·rcases h1.tb f a with z|z
  ·exact .inl (h2.fr f z)
  ·exact h2.tb f z
 ·rw[h2.memB f q hf,h1.memB f q hf]
  have:=hi q ((e q).kind=1∧(e q).n=(f:Int)) ((e q).kind=1∧(e q).n=(f:Int)) (q∈x.B f)
  rw[ite_self]at this
  rw[this]
 ·rw[h2.memS k q hk,h1.memS k q hk]
  have:=hi q ((e q).kind=2∧(e q).n=(k:Int)) ((e q).kind=2∧(e q).n=(k:Int)) (q∈x.S.getD k [])
  rw[ite_self]at this
  rw[this]
theorem WF.putM(h:WF x):∀{l:List (Int×Int)},l.Nodup→(∀q∈l,zep x f0 q)→(∀q∈l,zmt f0 (e q))→Z0 x f0 l e (x.putM l e):=by
 intro l
 induction l generalizing x with
 | nil=>exact fun _ _ _=>Z0.refl h
 | cons p l ih=>
  intro nd hl he
  obtain⟨n1,n2⟩:=List.nodup_cons.1 nd
  obtain⟨d,n,page,pr,ep,dd⟩:=Z0.one (e:=e) h (hl p (List.mem_cons_self ..)) (he p (List.mem_cons_self ..))
  have ex:x.putM (p::l) e=(x.putM [p] e).putM l e:=rfl
  rw[ex]
  by_cases k:l=[]
  ·rw[k];exact d
  ·have hl':∀q∈l,zep (x.putM [p] e) f0 q:=fun q hq=>(hl q (List.mem_cons_of_mem _ hq)).keep dd ep fun z=>n1 (z▸hq)
   have hd:=ih d.wf n2 hl' fun q hq=>he q (List.mem_cons_of_mem _ hq)
   obtain⟨q,hq⟩:=List.exists_mem_of_ne_nil l k
   refine Z0.comp d hd (fun z=>?_) k
   have:=(hl' q hq).isB
   rw[z]at this
   cases this
theorem OK.zn6(h:OK F x){f0:Nat}(hf:f0<1024):∀q∈x.B f0,zep x f0 q:=fun q hq=>by
 obtain⟨n,page,e,h1,h2,h3,h4⟩:=mem_B h hf hq
 have hp:∃pr,x.T n=some pr:=by
  cases hT:x.T n with
  | none=>rw[Yk hT]at h3;exact absurd h3 (by decide)
  | some pr=>exact⟨pr,rfl⟩
 obtain⟨pr,hp⟩:=hp
 refine⟨⟨n,page,pr,e,h1,h2,hp,h3,h4⟩,hq,fun f hf2 hne hm=>?_,fun k hk hm=>?_⟩
 ·rw[e]at hm
  have:=((h.backE f n page hf2 h1 h2).1 hm).2
  omega
 ·rw[e]at hm
  have:=((h.slotE k n page hk h1 h2).1 hm).1
  omega
end
section
variable {F:Nat→Prop}{x y:za}{f0:Nat}{l:List (Int×Int)}{e:Int×Int→Ent}
theorem Z0.zdp(d:Z0 x f0 l e y){v:Nat}(h1:v≠1)(h2:v≠2)(h3:v≠3)(g:Nat):y.P.use g=v↔x.P.use g=v:=by
 by_cases k1:x.P.use g=1
 ·have:=d.fr g k1;omega
 ·by_cases k2:x.P.use g=2
  ·have:=d.tb g k2;omega
  ·rw[d.use g k1 k2]
   split
   ·rename_i z;have e:=z.1;have:=z.2.1;subst e;omega
   ·exact Iff.rfl
theorem Z0.use3(d:Z0 x f0 l e y)(g:Nat):y.P.use g=3↔x.P.use g=3∧¬(g=f0∧l≠[]∧y.B f0=[]):=by
 by_cases k1:x.P.use g=1
 ·have:=d.fr g k1;omega
 ·by_cases k2:x.P.use g=2
  ·have:=d.tb g k2;omega
  ·rw[d.use g k1 k2]
   split
   ·rename_i z
    exact⟨fun a=>by omega,fun a=>absurd ⟨z.1,z.2.2⟩ a.2⟩
   ·rename_i z
    exact⟨fun a=>⟨a,fun b=>z ⟨b.1,by rw[←b.1];exact a,b.2⟩⟩,fun a=>a.1⟩
theorem Z0.proc(d:Z0 x f0 l e y){n:Nat}{pr:yg}(hp:y.T n=some pr):∃p0,x.T n=some p0∧p0.A=pr.A∧p0.Q=pr.Q:=by
 have:=d.procs n
 rw[hp]at this
 cases hq:x.T n with
 | none=>rw[hq]at this;cases this
 | some p0=>
  rw[hq]at this
  have:=Option.some.inj this
  exact⟨p0,rfl,(congrArg Prod.fst this).symm,(congrArg Prod.snd this).symm⟩
theorem Z0.keeps(d:Z0 x f0 l e y):uw 0 x y:=
 ⟨d.zone,by have:=d.room;omega,d.bad,fun f v hv=>d.zdp (by omega) (by omega) (by omega) f,fun n=>by
  have:=congrArg Option.isSome (d.procs n)
  simpa using this⟩
theorem Z0.nobody(d:Z0 x f0 (x.B f0) e y)(hf:f0<1024)(he:∀q∈x.B f0,zmt f0 (e q)):y.B f0=[]:=
 List.eq_nil_iff_forall_not_mem.2 fun q hq=>by
  rw[d.memB f0 q hf]at hq
  split at hq
  ·rename_i z;exact(he q z).2 hq.1 hq.2
  ·rename_i z;exact z hq
structure AwayD(F:Nat→Prop)(x:za)(f0:Nat)(e:Ent)(y:za):Prop where
 many:Z0 x f0 (x.B f0) (fun _=>e) y
 ok:OK F y
 nobody:y.B f0=[]
 others:∀g:Nat,g<1024→g≠f0→y.B g=x.B g
 pv:∀m pg,pg<4096→plc m pg∉x.B f0→(e.kind=2→y.D.cur=x.D.cur)→y.pv m pg=x.pv m pg
 here:∀m pg,pg<4096→plc m pg∈x.B f0→∀pr a,x.T m=some pr→z8 pr.A (pg:Int)=some a→y.pv m pg=y.pv1 a e∧x.pv m pg=if getL x.CR f0=none then .own (x.R.read f0 0 64)else .file
 file:∀k,y.Zr k=x.Zr k
 uh:∀k,y.uh k=x.uh k
theorem OK.away(h:OK F x)(o:∀n,8≤n→x.T n=none)(hf:f0<1024){e:Ent}(he:e.ok=true)(hk:e.kind≠1)(h2:e.kind=2→x.P.use f0=3):AwayD F x f0 e (x.vg (x.B f0) e):=by
 have hE:∀q∈x.B f0,zmt f0 ((fun _=>e) q):=fun q _=>⟨he,fun z=>absurd z hk⟩
 have d:Z0 x f0 (x.B f0) (fun _=>e) (x.vg (x.B f0) e):=by
  rw[←zgd]
  exact h.wf.putM (h.wf.back f0).1.nodup (h.zn6 hf) hE
 obtain⟨y,hy⟩:∃y,y=x.vg (x.B f0) e:=⟨_,rfl⟩
 rw[←hy]at d⊢
 clear hy
 have hB0:=d.nobody hf hE
 have oth:∀g:Nat,g<1024→g≠f0→y.B g=x.B g:=fun g hg hne=>by
  refine x9 (d.wf.back g).1 (h.wf.back g).1 ?_
  refine(List.perm_ext_iff_of_nodup (d.wf.back g).1.nodup (h.wf.back g).1.nodup).2 fun q=>?_
  rw[d.memB g q hg]
  split
  ·rename_i z
   exact⟨fun a=>absurd a.1 hk,fun a=>absurd a ((h.zn6 hf q z).noB g hg hne)⟩
  ·exact Iff.rfl
 have hmem:∀m pg,pg<4096→plc m pg∈x.B f0→m<8∧(x.ent m pg).kind=1∧(x.ent m pg).n=f0:=fun m pg hq hm=>by
  have h8:m<8:=by
   have:=(h.wf.back f0).2 _ hm
   unfold InR plc at this
   dsimp only at this
   omega
  exact⟨h8,(h.backE f0 m pg hf h8 hq).1 hm⟩
 have hR:∀f i,f<1024→(x.P.use f=3∨x.P.use f=4)→i<64→y.R.b f i=x.R.b f i:=fun f i _ hu _=>d.bytes f i (by omega) (by omega)
 have hA1:∀m,(y.T m).map (·.A)=(x.T m).map (·.A):=fun m=>by
  have:=congrArg (Option.map Prod.fst) (d.procs m)
  simpa[Option.map_map,Function.comp_def]using this
 refine⟨d,⟨d.wf,fun f n page hf' hn hp=>?_,fun k n page hk' hn hp=>?_,fun f hf' hne=>?_,fun f hf' hu=>?_,d.tab h.table,fun f hf'=>by rw[d.zdp (by omega) (by omega) (by omega),d.keep.2.2];exact h.cached f hf',by rw[d.keep.2.1,d.keep.2.2];exact h.cacheE,by rw[d.keep.2.1];exact h.cacheK,fun n pr page hp hpg=>?_⟩,hB0,oth,fun m pg hq hm hD=>?_,fun m pg hq hm pr a hp ha=>?_,fun k=>jq h k d.keep.2.1 (by rw[d.keep.1]) fun f i a b c=>hR f i a (.inr b) c,fun k=>by unfold za.uh;rw[d.keep.2.1]⟩
 ·rw[d.memB f _ hf',d.ent n page hp]
  by_cases k:plc n page∈x.B f0
  ·rw[if_pos k,if_pos k]
  ·rw[if_neg k,if_neg k];exact h.backE f n page hf' hn hp
 ·rw[d.memS k _ hk',d.ent n page hp]
  by_cases k:plc n page∈x.B f0
  ·rw[if_pos k,if_pos k]
  ·rw[if_neg k,if_neg k];exact h.slotE _ n page hk' hn hp
 ·by_cases e0:f=f0
  ·rw[e0]at hne;exact absurd hB0 hne
  ·rw[oth f hf' e0]at hne
   rcases h.useB f hf' hne with u|u
   ·left;rw[d.use3];exact⟨u,fun z=>e0 z.1⟩
   ·right;rw[d.zdp (by omega) (by omega) (by omega)];exact u
 ·obtain⟨u,nz⟩:=(d.use3 f).1 hu
  rcases h.anon f hf' u with a|a
  ·by_cases e0:f=f0
   ·rw[e0]at a;exact absurd ⟨e0,a,hB0⟩ nz
   ·rw[oth f hf' e0];exact .inl a
  ·exact .inr a
 ·obtain⟨p0,hp0,hA,_⟩:=d.proc hp
  have a0:=h.area n p0 page hp0 hpg
  rw[d.ent n page hpg]
  by_cases k:plc n page∈x.B f0
  ·obtain⟨h8,e1,e2⟩:=hmem n page hpg k
   rw[if_pos k]
   refine⟨fun _=>by rw[←hA];exact a0.find (by omega),fun a _ z=>absurd z hk,fun a _ _ z=>absurd z hk,fun a _ z=>absurd z hk,fun a ha z z2=>?_⟩
   rw[←hA]at ha
   have u3:=h2 z
   have:=a0.shared a ha e1 z2
   rw[e2]at this
   have u4:=(h.cached f0 hf).2 (by cases hc:getL x.CR (f0:Int)with|none=>exact absurd hc this|some _=>rfl)
   omega
  ·rw[if_neg k]
   exact⟨by rw[←hA];exact a0.find,by rw[←hA,d.keep.2.2];exact a0.own,by rw[←hA,d.keep.2.2];exact a0.file,by rw[←hA,d.keep.2.2];exact a0.shared,by rw[←hA];exact a0.slot⟩
 ·have ee:y.ent m pg=x.ent m pg:=by rw[d.ent m pg hq,if_neg hm]
  by_cases h8:m<8
  ·exact Y1 h m pg h8 hq (hA1 m) ee (fun _=>by rw[d.keep.2.2]) (fun _=>by rw[d.keep.1]) hR
  ·have q1:=o m (by omega)
   have q2:y.T m=none:=by
    have:=d.procs m
    rw[q1]at this
    simpa using this
   unfold za.pv
   rw[q1,q2]
 ·obtain⟨h8,e1,e2⟩:=hmem m pg hq hm
  have hyp:∃py,y.T m=some py∧py.A=pr.A:=by
   have:=d.procs m
   rw[hp]at this
   cases hq:y.T m with
   | none=>rw[hq]at this;cases this
   | some py=>rw[hq]at this;exact⟨py,rfl,congrArg Prod.fst (Option.some.inj this)⟩
  obtain⟨py,hpy,hA⟩:=hyp
  refine⟨?_,?_⟩
  ·rw[Ze hpy (by rw[hA];exact ha),d.ent m pg hq,if_pos hm]
  ·rw[Ze hp ha]
   unfold za.pv1
   rw[if_neg (by omega),if_neg (by omega),if_pos e1,e2]
   simp
end
section
variable {F:Nat→Prop}{x y:za}
def za.setF(x:za)(n page:Nat)(e:Ent):Int×za:=match x.T n with|some pr=>(((⟨x.R,x.P,pr.T⟩:RPT).set page e).1,x.yu n pr ((⟨x.R,x.P,pr.T⟩:RPT).set page e).2)|none=>(2,x)
def Ent.ro(e:Ent):Ent:={e with write:=false}
structure SetD(x:za)(n page:Nat)(pr:yg)(y:za):Prop where
 wf:WF y
 ent:∀m pg,pg<4096→y.ent m pg=if m=n∧pg=page then(x.ent n page).ro else x.ent m pg
 same:y.B=x.B∧y.S=x.S∧y.D=x.D∧y.CL=x.CL∧y.CR=x.CR
 bad:y.R.bad=x.R.bad
 bytes:∀f i,x.P.use f≠1→¬x.owns n f→y.R.b f i=x.R.b f i
 use:∀f,¬x.owns n f→x.P.use f≠1→y.P.use f=x.P.use f
 free:∀f,x.owns n f∨x.P.use f=1→y.P.use f=if y.owns n f then 2 else 1
 zone:y.P.zone=x.P.zone∧y.P.iso=x.P.iso
 oth:∀m,m≠n→y.T m=x.T m
 this:∃T',y.T n=some ⟨T',pr.A,pr.Q⟩
 less:∀g,y.owns n g→x.owns n g
 room:x.P.room≤y.P.room
theorem znr{e:Ent}(h:e.ok=true):e.ro.ok=true:=by
 unfold Ent.ro Ent.ok at *
 simp only[Bool.and_eq_true]at h⊢
 exact⟨h.1,by simp⟩
theorem WF.setF(h:WF x){n page:Nat}{pr:yg}(hp:x.T n=some pr)(hpg:page<4096)(hk:(x.ent n page).kind≠0):(x.setF n page (x.ent n page).ro).1=0∧SetD x n page pr (x.setF n page (x.ent n page).ro).2:=by
 obtain⟨N,ok⟩:=h.rpt n pr hp
 have he:=znr (h.Zc n hpg)
 have hmo:mapOf x.R N page=x.ent n page:=(h.Y7 hp ok hpg).symm
 have key:x.setF n page (x.ent n page).ro=(((⟨x.R,x.P,pr.T⟩:RPT).set page (x.ent n page).ro).1,x.yu n pr ((⟨x.R,x.P,pr.T⟩:RPT).set page (x.ent n page).ro).2):=by
  unfold za.setF
  rw[hp]
 obtain⟨e,ee⟩:∃e,e=(x.ent n page).ro:=⟨_,rfl⟩
 rw[←ee]at he key⊢
 obtain⟨s,hs⟩:∃s,s=(⟨x.R,x.P,pr.T⟩:RPT).set page e:=⟨_,rfl⟩
 have hset:=ok.set hpg he
 rw[←hs]at hset key
 rw[key]
 have hN:(N (high page)).isSome=true:=by
  cases hN:N (high page)with
  | some _=>rfl
  | none=>
   exfalso
   unfold mapOf at hmo
   rw[hN]at hmo
   rw[←hmo]at hk
   exact hk rfl
 rcases hset with⟨N',c0,okN,t,em,rm,ls⟩|⟨N',_,_,nn,_⟩
 ·obtain⟨wf1,oth1,ent1⟩:=h.yu hp okN t
  obtain⟨l1,l2⟩:=ls (.inl hN)
  have own1:∀f,(x.yu n pr s.2).owns n f↔f∈s.2.T.own:=fun f=>by
   unfold za.owns
   rw[qj,if_pos rfl]
   constructor
   ·rintro⟨_,e,hf⟩;cases e;exact hf
   ·exact fun hf=>⟨_,rfl,hf⟩
  have own0:∀f,x.owns n f↔f∈pr.T.own:=fun f=>by
   unfold za.owns
   rw[hp]
   constructor
   ·rintro⟨_,e,hf⟩;cases e;exact hf
   ·exact fun hf=>⟨_,rfl,hf⟩
  have new1:∀f,f∈s.2.T.own→x.owns n f∨x.P.use f=1:=fun f hf=>(t.new f hf).imp (own0 f).2 id
  refine⟨c0,wf1,fun m pg hq=>?_,⟨rfl,rfl,rfl,rfl,rfl⟩,t.bad,fun f i h1 h2=>t.bytes f i h1 fun z=>h2 ((own0 f).2 z),fun f h1 h2=>?_,fun f hf=>?_,⟨t.zone,t.iso⟩,fun m hm=>?_,⟨s.2.T,by rw[qj,if_pos rfl]⟩,fun g hg=>(own0 g).2 (l2 g ((own1 g).1 hg)),l1⟩
  ·by_cases e1:m=n
   ·subst e1
    rw[ent1 pg hq,em pg hq]
    by_cases e2:pg=page
    ·rw[if_pos e2,if_pos ⟨rfl,e2⟩,ee]
    ·rw[if_neg e2,if_neg fun z=>e2 z.2,(h.Y7 hp ok hq)]
   ·rw[oth1 m pg e1 hq,if_neg fun z=>e1 z.1]
  ·show s.2.P.use f=x.P.use f
   rw[t.use,if_neg (fun k=>(new1 f k).elim h1 h2),if_neg (fun k=>h1 ((own0 f).2 k))]
  ·show s.2.P.use f=_
   rw[t.use,zar (own1 f)]
   by_cases k:f∈s.2.T.own
   ·rw[if_pos k,if_pos k]
   ·rw[if_neg k,if_neg k]
    by_cases k2:f∈pr.T.own
    ·exact if_pos k2
    ·refine(if_neg k2).trans (hf.elim (fun a=>absurd ((own0 f).1 a) k2) id)
  ·rw[qj,if_neg hm]
 ·rw[nn]at hN;cases hN
theorem OK.set(h:OK F x)(o:∀n,8≤n→x.T n=none){n page:Nat}{pr:yg}(hp:x.T n=some pr)(hpg:page<4096)(d:SetD x n page pr y):OK F y∧Same x y∧uw 0 x y∧(∀m,8≤m→y.T m=none):=by
 obtain⟨sB,sS,sD,sCL,sCR⟩:=d.same
 have hn:=h.Zy o hp
 have ek:∀m pg,pg<4096→(y.ent m pg).kind=(x.ent m pg).kind∧(y.ent m pg).n=(x.ent m pg).n:=fun m pg hq=>by
  rw[d.ent m pg hq]
  split
  ·rename_i z;rw[z.1,z.2];exact⟨rfl,rfl⟩
  ·exact⟨rfl,rfl⟩
 have u34:∀f v,v≠1→v≠2→(y.P.use f=v↔x.P.use f=v):=fun f v h1 h2=>by
  by_cases k:x.owns n f∨x.P.use f=1
  ·have a:x.P.use f≠v:=by
    rcases k with k|k
    ·have:=(h.wf.yt k).2.1;omega
    ·omega
   have b:y.P.use f≠v:=by rw[d.free f k];split<;>omega
   exact⟨fun z=>absurd z b,fun z=>absurd z a⟩
  ·rw[d.use f (fun z=>k (.inl z)) fun z=>k (.inr z)]
 have hA:∀m,(y.T m).map (fun pr=>(pr.A,pr.Q))=(x.T m).map (fun pr=>(pr.A,pr.Q)):=fun m=>by
  by_cases k:m=n
  ·obtain⟨T',ht⟩:=d.this
   rw[k,ht,hp];rfl
  ·rw[d.oth m k]
 have hA1:∀m,(y.T m).map (·.A)=(x.T m).map (·.A):=fun m=>by
  have:=congrArg (Option.map Prod.fst) (hA m)
  simpa[Option.map_map,Function.comp_def]using this
 have hout:∀m,8≤m→y.T m=none:=fun m hm=>by
  have:=hA m
  rw[o m hm]at this
  simpa using this
 have hR:∀f i,f<1024→(x.P.use f=3∨x.P.use f=4)→i<64→y.R.b f i=x.R.b f i:=fun f i hf hu hi=>d.bytes f i (by omega) fun ho=>by have:=(h.wf.yt ho).2.1;omega
 refine⟨⟨d.wf,fun f m pg a b c=>by rw[sB,(ek m pg c).1,(ek m pg c).2];exact h.backE f m pg a b c,fun k m pg a b c=>by rw[sS,(ek m pg c).1,(ek m pg c).2];exact h.slotE k m pg a b c,fun f a b=>?_,fun f a b=>?_,fun f a b=>?_,fun f a=>by rw[u34 f 4 (by omega) (by omega),sCR];exact h.cached f a,by rw[sCL,sCR];exact h.cacheE,by rw[sCL];exact h.cacheK,fun m pm pg hm hq=>?_⟩,⟨hA,fun m pg hq=>?_,fun k hk=>jq h k sCL (by rw[sD]) fun f i a b c=>hR f i a (.inr b) c,by rw[sD],fun k=>by unfold za.uh;rw[sCL]⟩,⟨d.zone,by have:=d.room;omega,d.bad,fun f v hv=>u34 f v (by omega) (by omega),fun m=>by have:=congrArg Option.isSome (hA m);simpa using this⟩,hout⟩
 ·rw[sB]at b
  rcases h.useB f a b with u|u
  ·exact .inl ((u34 f 3 (by omega) (by omega)).2 u)
  ·exact .inr ((u34 f 4 (by omega) (by omega)).2 u)
 ·rw[sB];exact h.anon f a ((u34 f 3 (by omega) (by omega)).1 b)
 ·by_cases k:x.owns n f∨x.P.use f=1
  ·rw[d.free f k]at b
   split at b
   ·rename_i z;exact⟨n,z⟩
   ·omega
  ·have k1:¬x.owns n f:=fun z=>k (.inl z)
   rw[d.use f k1 fun z=>k (.inr z)]at b
   obtain⟨m,pm,hm,hf'⟩:=h.table f a b
   have hmn:m≠n:=fun z=>k1 (by rw[←z];exact⟨pm,hm,hf'⟩)
   exact⟨m,pm,by rw[d.oth m hmn];exact hm,hf'⟩
 ·obtain⟨p0,hp0,hpA⟩:∃p0,x.T m=some p0∧p0.A=pm.A:=by
   have:=hA m
   rw[hm]at this
   cases hx:x.T m with
   | none=>rw[hx]at this;cases this
   | some p0=>rw[hx]at this;exact⟨p0,rfl,(congrArg Prod.fst (Option.some.inj this)).symm⟩
  have a:=h.area m p0 pg hp0 hq
  obtain⟨e1,e2⟩:=ek m pg hq
  exact⟨by rw[←hpA,e1];exact a.find,by rw[←hpA,e1,e2,sCR];exact a.own,by rw[←hpA,e1,e2,sCR];exact a.file,by rw[←hpA,e1,e2,sCR];exact a.shared,by rw[←hpA,e1];exact a.slot⟩
 ·by_cases hm8:m<8
  ·by_cases k:m=n∧pg=page
   ·obtain⟨rfl,rfl⟩:=k
    obtain⟨T',ht⟩:=d.this
    cases ha:z8 pr.A (pg:Int)with
    | none=>unfold za.pv;rw[ht,hp];dsimp only;rw[ha]
    | some a=>
     rw[Ze hp ha,Ze ht ha]
     obtain⟨e1,e2⟩:=ek m pg hq
     unfold za.pv1
     rw[e1,e2,sCR,sD]
     by_cases k1:(x.ent m pg).kind=1
     ·obtain⟨f,q1,q2,_,q4,_⟩:=h.frame hm8 hq k1
      have e4:(x.ent m pg).n.toNat=f:=by omega
      rw[e4,Z8 fun i hi=>hR f i q2 q4 hi]
     ·simp only[if_neg k1]
   ·exact Y1 h m pg hm8 hq (hA1 m) (by rw[d.ent m pg hq,if_neg k]) (fun _=>by rw[sCR]) (fun _=>by rw[sD]) hR
  ·unfold za.pv
   rw[o m (by omega),hout m (by omega)]
def za.Vj(x:za)(n m page:Nat):Int×za:=
 if(x.ent n page).kind=0 then(0,x)
 else if(x.putF m page (x.ent n page).ro).1≠0 then x.putF m page (x.ent n page).ro
 else if(x.ent n page).kind=1 then(x.putF m page (x.ent n page).ro).2.setF n page (x.ent n page).ro
 else(0,(x.putF m page (x.ent n page).ro).2)
structure CopyD(x:za)(n m page:Nat)(y:za):Prop where
 ok:Ok0 y
 abs:y.abs=x.abs.Ve m page (x.abs.pv n page)
 zone:y.P.zone=x.P.zone∧y.P.iso=x.P.iso
 room:x.P.room≤y.P.room+(if(x.ent n page).kind=0 then 0 else 3)
 disk:y.D=x.D
 procs:∀i,(y.T i).map (fun pr=>(pr.A,pr.Q))=(x.T i).map (fun pr=>(pr.A,pr.Q))
 kinds:∀i pg,pg<4096→¬(i=m∧pg=page)→(y.ent i pg).kind=(x.ent i pg).kind∧(y.ent i pg).n=(x.ent i pg).n
 this:(y.ent m page).kind=(x.ent n page).kind∧(y.ent m page).n=(x.ent n page).n
 use:∀f v,v≠1→v≠2→(y.P.use f=v↔x.P.use f=v)
 cache:y.CL=x.CL∧y.CR=x.CR
 bad:y.R.bad=x.R.bad
theorem Ok0.Vj(h:Ok0 x){n m page:Nat}{pr pm:yg}(hp:x.T n=some pr)(hm:x.T m=some pm)(hA:pm.A=pr.A)(hnm:n≠m)(hpg:page<4096)(h0:(x.ent m page).kind=0)(hroom:(x.ent n page).kind≠0→3≤x.P.room):
  (x.Vj n m page).1=0∧CopyD x n m page (x.Vj n m page).2:=by
 have hn8:=h.ok.Zy h.out hp
 have hm8:=h.ok.Zy h.out hm
 have hpvn:x.abs.pv n page=x.pv n page:=if_pos hpg
 unfold za.Vj
 by_cases k0:(x.ent n page).kind=0
 ·rw[if_pos k0]
  refine⟨rfl,h,?_,⟨rfl,rfl⟩,by dsimp only;omega,rfl,fun _=>rfl,fun _ _ _ _=>⟨rfl,rfl⟩,?_,fun _ _ _ _=>Iff.rfl,⟨rfl,rfl⟩,rfl⟩
  ·have e0:x.abs.pv m page=x.abs.pv n page:=by
    show(if page<4096 then x.pv m page else .none)=(if page<4096 then x.pv n page else .none)
    rw[if_pos hpg,if_pos hpg]
    unfold za.pv
    rw[hp,hm]
    dsimp only
    rw[hA]
    cases z8 pr.A (page:Int)with
    | none=>rfl
    | some a=>
     dsimp only
     unfold za.pv1
     simp[h0,k0]
   rw[←e0]
   unfold Abs.Ve
   have:(fun i pg=>if i=m∧pg=page then x.abs.pv m page else x.abs.pv i pg)=x.abs.pv:=by
    funext i pg
    split
    ·rename_i z;rw[z.1,z.2]
    ·rfl
   rw[this]
  ·have a:=h.ok.wf.Zc n hpg
   have b:=h.ok.wf.Zc m hpg
   unfold Ent.ok at a b
   simp only[Bool.and_eq_true,decide_eq_true_eq]at a b
   rw[k0]at a
   rw[h0]at b
   refine⟨by rw[k0];exact h0,?_⟩
   have z1:=a.1.2
   have z2:=b.1.2
   have z3:most 0=1:=rfl
   rw[z3]at z1 z2
   show(x.ent m page).n=(x.ent n page).n
   omega
 ·rw[if_neg k0]
  obtain⟨e,ee⟩:∃e,e=(x.ent n page).ro:=⟨_,rfl⟩
  have he:e.ok=true:=by rw[ee];exact znr (h.ok.wf.Zc n hpg)
  have ekd:e.kind=(x.ent n page).kind∧e.n=(x.ent n page).n:=by rw[ee];exact⟨rfl,rfl⟩
  rw[←ee]
  have d:=h.ok.wf.putF hm8 hm hpg he
  have hc:(x.putF m page e).1=0:=by
   rcases d.code with z|z
   ·exact z
   ·have:=d.full z;have:=hroom k0;omega
  rw[hc]at d
  have a0:=h.ok.area n pr page hp hpg
  have hx:e.kind=1→∃f:Nat,e.n=f∧f<1024∧(x.P.use f=3∨x.P.use f=4):=fun z=>by
   rw[ekd.1]at z
   obtain⟨f,q1,q2,_,q4,_⟩:=h.ok.frame hn8 hpg z
   exact⟨f,by rw[ekd.2];exact q1,q2,q4⟩
  have ha:Vb x pm page e:=⟨by rw[hA,ekd.1];exact a0.find,by rw[hA,ekd.1,ekd.2];exact a0.own,by rw[hA,ekd.1,ekd.2];exact a0.file,by rw[hA,ekd.1,ekd.2];exact a0.shared,by rw[hA,ekd.1];exact a0.slot⟩
  have ok1:=h.ok.put d hm8 hm hpg hx ha
  obtain⟨y,hy⟩:∃y,y=(x.putF m page e).2:=⟨_,rfl⟩
  rw[←hy]at d ok1⊢
  have ok1:OK (fun _=>False) y:=ok1.mono fun f z=>z.1
  have hyo:∀i,8≤i→y.T i=none:=fun i hi=>by rw[d.oth i (by omega)];exact h.out i hi
  obtain⟨T',hT'⟩:=d.this
  obtain⟨a,hfa⟩:=a0.find k0
  have hym:y.ent m page=e:=d.done hpg rfl
  have hyn:y.ent n page=x.ent n page:=by rw[d.ent n page hpg,if_neg fun z=>hnm z.2.1]
  have hpv:y.pv m page=x.pv n page:=by
   rw[Ze hT' (by dsimp only;rw[hA];exact hfa),Ze hp hfa,hym]
   unfold za.pv1
   rw[ekd.1,ekd.2,d.keep.2.2,d.keep.1]
   by_cases k1:(x.ent n page).kind=1
   ·obtain⟨f,q1,q2,_,q4,_⟩:=h.ok.frame hn8 hpg k1
    have e4:(x.ent n page).n.toNat=f:=by omega
    rw[e4,Z8 fun i _=>d.bytes f i (by omega) fun ho=>by have:=(h.ok.wf.yt ho).2.1;omega]
   ·simp only[if_neg k1]
  have habs:=h.ok.put_pv d hm hpg h.out (x.pv n page) hpv
  have hk1:=d.keeps h.ok.wf hm
  have prx:∀i,(y.T i).map (fun pr=>(pr.A,pr.Q))=(x.T i).map (fun pr=>(pr.A,pr.Q)):=fun i=>by
   by_cases k:i=m
   ·rw[k,hT',hm];rfl
   ·rw[d.oth i k]
  have usx:∀f v,v≠1→v≠2→(y.P.use f=v↔x.P.use f=v):=fun f v h1 h2=>by
   by_cases k:x.owns m f∨x.P.use f=1
   ·have a:x.P.use f≠v:=by
     rcases k with k|k
     ·have:=(h.ok.wf.yt k).2.1;omega
     ·omega
    have b:y.P.use f≠v:=by rw[d.free f k];split<;>omega
    exact⟨fun z=>absurd z b,fun z=>absurd z a⟩
   ·rw[d.use f (fun z=>k (.inl z)) (fun z=>k (.inr z)),if_neg]
    rintro⟨_,z,_⟩
    omega
  have C1:CopyD x n m page y:=⟨⟨ok1,hyo⟩,by rw[habs,hpvn],hk1.zone,by rw[if_neg k0];exact hk1.room,d.keep.1,prx,fun i pg hq hne=>by rw[d.ent i pg hq,if_neg fun z=>hne z.2];exact⟨rfl,rfl⟩,by rw[hym];exact ekd,usx,⟨d.keep.2.1,d.keep.2.2⟩,d.bad⟩
  have hif:(if(x.putF m page e).1≠0 then x.putF m page e else if(x.ent n page).kind=1 then y.setF n page e else(0,y))=if(x.ent n page).kind=1 then y.setF n page e else(0,y):=if_neg (by rw[hc];simp)
  rw[hif]
  by_cases k1:(x.ent n page).kind=1
  ·rw[if_pos k1]
   have hpy:y.T n=some pr:=by rw[d.oth n hnm];exact hp
   have hk2:(y.ent n page).kind≠0:=by rw[hyn];exact k0
   obtain⟨s0,s⟩:=d.wf.setF hpy hpg hk2
   rw[hyn,←ee]at s0 s
   obtain⟨z,hz⟩:∃z,z=(y.setF n page e).2:=⟨_,rfl⟩
   rw[←hz]at s⊢
   obtain⟨o1,o2,o3,o4⟩:=ok1.set hyo hpy hpg s
   have ek:∀i pg,pg<4096→(z.ent i pg).kind=(y.ent i pg).kind∧(z.ent i pg).n=(y.ent i pg).n:=fun i pg hq=>by
    rw[s.ent i pg hq]
    split
    ·rename_i w;rw[w.1,w.2];exact⟨rfl,rfl⟩
    ·exact⟨rfl,rfl⟩
   have usz:∀f v,v≠1→v≠2→(z.P.use f=v↔y.P.use f=v):=fun f v h1 h2=>by
    by_cases k:y.owns n f∨y.P.use f=1
    ·have a:y.P.use f≠v:=by
      rcases k with k|k
      ·have:=(d.wf.yt k).2.1;omega
      ·omega
     have b:z.P.use f≠v:=by rw[s.free f k];split<;>omega
     exact⟨fun z=>absurd z b,fun z=>absurd z a⟩
    ·rw[s.use f (fun z=>k (.inl z)) fun z=>k (.inr z)]
   refine⟨s0,⟨o1,o4⟩,by rw[o2.abs,C1.abs],⟨s.zone.1.trans C1.zone.1,s.zone.2.trans C1.zone.2⟩,?_,s.same.2.2.1.trans C1.disk,fun i=>(o2.procs i).trans (prx i),fun i pg hq hne=>⟨(ek i pg hq).1.trans (C1.kinds i pg hq hne).1,(ek i pg hq).2.trans (C1.kinds i pg hq hne).2⟩,⟨(ek m page hpg).1.trans C1.this.1,(ek m page hpg).2.trans C1.this.2⟩,fun f v h1 h2=>(usz f v h1 h2).trans (usx f v h1 h2),⟨s.same.2.2.2.1.trans C1.cache.1,s.same.2.2.2.2.trans C1.cache.2⟩,s.bad.trans C1.bad⟩
   have:=C1.room
   have:=s.room
   omega
  ·rw[if_neg k1]
   exact⟨rfl,C1⟩
end
section
variable {x y:za}
theorem ze1{α:Type}{P:List α→Prop}(h0:P [])(h1:∀l a,P l→P (l++[a])):∀l,P l:=fun l=>by
 rw[←List.reverse_reverse l]
 induction l.reverse with
 | nil=>exact h0
 | cons a l ih=>rw[List.reverse_cons];exact h1 _ _ ih
def za.copies(x:za)(n m:Nat)(l:List Nat):za:=l.foldl (fun y pg=>(y.Vj n m pg).2) x
theorem Jo(x:za)(n m:Nat)(l:List Nat)(pg:Nat):x.copies n m (l++[pg])=((x.copies n m l).Vj n m pg).2:=by
 unfold za.copies
 rw[List.foldl_append]
 rfl
def za.has(x:za)(n:Nat)(l:List Nat):Nat:=l.countP fun pg=>decide ((x.ent n pg).kind≠0)
structure zkh(x:za)(n m:Nat)(l:List Nat)(y:za):Prop where
 ok:Ok0 y
 pv:∀i pg,y.abs.pv i pg=if i=m∧pg∈l then x.abs.pv n pg else x.abs.pv i pg
 rest:y.abs.A=x.abs.A∧y.abs.file=x.abs.file∧y.abs.uh=x.abs.uh∧y.abs.cur=x.abs.cur
 zone:y.P.zone=x.P.zone∧y.P.iso=x.P.iso
 room:x.P.room≤y.P.room+3*x.has n l
 disk:y.D=x.D
 kinds:∀i pg,pg<4096→¬(i=m∧pg∈l)→(y.ent i pg).kind=(x.ent i pg).kind∧(y.ent i pg).n=(x.ent i pg).n
 this:∀pg,pg∈l→(y.ent m pg).kind=(x.ent n pg).kind∧(y.ent m pg).n=(x.ent n pg).n
 use:∀f v,v≠1→v≠2→(y.P.use f=v↔x.P.use f=v)
 cache:y.CL=x.CL∧y.CR=x.CR
 bad:y.R.bad=x.R.bad
theorem Ok0.copies(h:Ok0 x){n m:Nat}{pr pm:yg}(hp:x.T n=some pr)(hm:x.T m=some pm)(hA:pm.A=pr.A)(hnm:n≠m):∀(l:List Nat),l.Nodup→(∀pg∈l,pg<4096∧(x.ent m pg).kind=0)→3*x.has n l≤x.P.room→zkh x n m l (x.copies n m l):=by
 refine ze1 ?_ fun l p ih=>?_
 ·exact fun _ _ _=>⟨h,fun i pg=>by rw[if_neg (by simp)];rfl,⟨rfl,rfl,rfl,rfl⟩,⟨rfl,rfl⟩,Nat.le_add_right _ _,rfl,fun _ _ _ _=>⟨rfl,rfl⟩,(fun pg hp=>by cases hp),fun _ _ _ _=>Iff.rfl,⟨rfl,rfl⟩,rfl⟩
 ·intro nd hl hr
  rw[List.nodup_append]at nd
  obtain⟨nd1,_,nd2⟩:=nd
  have hpl:p∉l:=fun z=>nd2 p z p (by simp) rfl
  have hcnt:x.has n (l++[p])=x.has n l+if(x.ent n p).kind=0 then 0 else 1:=by
   unfold za.has
   rw[List.countP_append]
   by_cases z:(x.ent n p).kind=0
   ·simp[z]
   ·simp[z]
  rw[hcnt]at hr
  have I:=ih nd1 (fun pg hq=>hl pg (List.mem_append_left _ hq)) (by omega)
  obtain⟨hp4,hp0⟩:=hl p (by simp)
  rw[Jo]
  obtain⟨y,hy⟩:∃y,y=x.copies n m l:=⟨_,rfl⟩
  rw[←hy]at I⊢
  clear hy
  have pA:∀i,(y.T i).map (fun pr=>(pr.A,pr.Q))=(x.T i).map (fun pr=>(pr.A,pr.Q)):=fun i=>congrFun I.rest.1 i
  obtain⟨pr',e1,e2⟩:∃pr',y.T n=some pr'∧pr'.A=pr.A:=by
   have:=pA n
   rw[hp]at this
   cases hq:y.T n with
   | none=>rw[hq]at this;cases this
   | some z=>rw[hq]at this;exact⟨z,rfl,congrArg Prod.fst (Option.some.inj this)⟩
  obtain⟨pm',e3,e4⟩:∃pm',y.T m=some pm'∧pm'.A=pm.A:=by
   have:=pA m
   rw[hm]at this
   cases hq:y.T m with
   | none=>rw[hq]at this;cases this
   | some z=>rw[hq]at this;exact⟨z,rfl,congrArg Prod.fst (Option.some.inj this)⟩
  have km:(y.ent m p).kind=0:=by rw[(I.kinds m p hp4 fun z=>hpl z.2).1];exact hp0
  have kn:=I.kinds n p hp4 fun z=>hnm z.1
  obtain⟨c0,c⟩:=I.ok.Vj (page:=p) e1 e3 (by rw[e4,e2,hA]) hnm hp4 km (fun z=>by
   rw[kn.1]at z
   rw[if_neg z]at hr
   have:=I.room
   omega)
  have hab:=c.abs
  refine⟨c.ok,fun i pg=>?_,?_,⟨c.zone.1.trans I.zone.1,c.zone.2.trans I.zone.2⟩,?_,c.disk.trans I.disk,fun i pg hq hne=>?_,fun pg hq=>?_,fun f v h1 h2=>(c.use f v h1 h2).trans (I.use f v h1 h2),⟨c.cache.1.trans I.cache.1,c.cache.2.trans I.cache.2⟩,c.bad.trans I.bad⟩
  ·rw[hab]
   show(if i=m∧pg=p then y.abs.pv n p else y.abs.pv i pg)=_
   have q1:y.abs.pv n p=x.abs.pv n p:=by rw[I.pv,if_neg fun z=>hnm z.1]
   rw[q1,I.pv i pg]
   by_cases z:i=m∧pg=p
   ·rw[if_pos z,if_pos ⟨z.1,by simp[z.2]⟩,z.2]
   ·rw[if_neg z]
    by_cases z2:i=m∧pg∈l
    ·rw[if_pos z2,if_pos ⟨z2.1,List.mem_append_left _ z2.2⟩]
    ·rw[if_neg z2,if_neg]
     rintro⟨a,b⟩
     rcases List.mem_append.1 b with b|b
     ·exact z2 ⟨a,b⟩
     ·exact z ⟨a,by simpa using b⟩
  ·rw[hab]
   exact I.rest
  ·have:=c.room
   have:=I.room
   rw[kn.1]at *
   rw[hcnt]
   split<;>simp_all<;>omega
  ·have hne2:¬(i=m∧pg=p):=fun z=>hne ⟨z.1,by simp[z.2]⟩
   have hne3:¬(i=m∧pg∈l):=fun z=>hne ⟨z.1,List.mem_append_left _ z.2⟩
   have a:=c.kinds i pg hq hne2
   have b:=I.kinds i pg hq hne3
   exact⟨a.1.trans b.1,a.2.trans b.2⟩
  ·rcases List.mem_append.1 hq with z|z
   ·have hne2:¬(m=m∧pg=p):=fun w=>hpl (by rw[←w.2];exact z)
    have a:=c.kinds m pg (hl pg (List.mem_append_left _ z)).1 hne2
    have b:=I.this pg z
    exact⟨a.1.trans b.1,a.2.trans b.2⟩
   ·have:pg=p:=by simpa using z
    subst this
    exact⟨c.this.1.trans kn.1,c.this.2.trans kn.2⟩
theorem Ok0.zej(h:Ok0 x){n m:Nat}{pr pm:yg}(hp:x.T n=some pr)(hm:x.T m=some pm)(hA:pm.A=pr.A)(hnm:n≠m){l:List Nat}{p:Nat}(nd:(l++[p]).Nodup)(hl:∀pg∈l++[p],pg<4096∧(x.ent m pg).kind=0)(hr:3*x.has n (l++[p])≤x.P.room):
  ((x.copies n m l).Vj n m p).1=0:=by
 have hcnt:x.has n (l++[p])=x.has n l+if(x.ent n p).kind=0 then 0 else 1:=by
  unfold za.has
  rw[List.countP_append]
  by_cases z:(x.ent n p).kind=0
  ·simp[z]
  ·simp[z]
 rw[hcnt]at hr
 rw[List.nodup_append]at nd
 obtain⟨nd1,_,nd2⟩:=nd
 have hpl:p∉l:=fun z=>nd2 p z p (by simp) rfl
 have I:=h.copies hp hm hA hnm l nd1 (fun pg hq=>hl pg (List.mem_append_left _ hq)) (by omega)
 obtain⟨hp4,hp0⟩:=hl p (by simp)
 have pA:∀i,((x.copies n m l).T i).map (fun pr=>(pr.A,pr.Q))=(x.T i).map (fun pr=>(pr.A,pr.Q)):=fun i=>congrFun I.rest.1 i
 obtain⟨pr',e1,e2⟩:∃pr',(x.copies n m l).T n=some pr'∧pr'.A=pr.A:=by
  have:=pA n
  rw[hp]at this
  cases hq:(x.copies n m l).T n with
  | none=>rw[hq]at this;cases this
  | some z=>rw[hq]at this;exact⟨z,rfl,congrArg Prod.fst (Option.some.inj this)⟩
 obtain⟨pm',e3,e4⟩:∃pm',(x.copies n m l).T m=some pm'∧pm'.A=pm.A:=by
  have:=pA m
  rw[hm]at this
  cases hq:(x.copies n m l).T m with
  | none=>rw[hq]at this;cases this
  | some z=>rw[hq]at this;exact⟨z,rfl,congrArg Prod.fst (Option.some.inj this)⟩
 have km:((x.copies n m l).ent m p).kind=0:=by rw[(I.kinds m p hp4 fun z=>hpl z.2).1];exact hp0
 have kn:=I.kinds n p hp4 fun z=>hnm z.1
 exact(I.ok.Vj (page:=p) e1 e3 (by rw[e4,e2,hA]) hnm hp4 km (fun z=>by
   rw[kn.1]at z
   rw[if_neg z]at hr
   have:=I.room
   omega)).1
end
section
variable {x y:za}
theorem znv(x:za)(n:Nat)(p r:yg):(x.put n p).put n r=x.put n r:=by
 unfold za.put
 dsimp only
 congr 1
 funext m
 split<;>rfl
theorem zh2(x:za){n:Nat}{p:yg}(hp:x.T n=some p)(A:List Ar)(Q:List (Int×Int))(i pg:Nat):(x.put n ⟨p.T,A,Q⟩).ent i pg=x.ent i pg:=by
 unfold za.ent
 by_cases e:i=n
 ·have h1:(x.put n ⟨p.T,A,Q⟩).T i=some ⟨p.T,A,Q⟩:=if_pos e
  rw[h1,e,hp];rfl
 ·have h1:(x.put n ⟨p.T,A,Q⟩).T i=x.T i:=if_neg e
  rw[h1];rfl
theorem Ok0.mapAll(h:Ok0 x){m:Nat}{T:Zx}{Q:List (Int×Int)}(hm:x.T m=some ⟨T,[],Q⟩):∀A:List Ar,OkL A→A.length≤16→Ok0 (x.put m ⟨T,A,Q⟩)∧(x.put m ⟨T,A,Q⟩).abs.A m=some (A,Q)∧(∀i,i≠m→(x.put m ⟨T,A,Q⟩).abs.A i=x.abs.A i)∧
  (∀(i pg:Nat),¬(i=m∧z8 A (pg:Int)≠none)→(x.put m ⟨T,A,Q⟩).abs.pv i pg=x.abs.pv i pg)∧(x.put m ⟨T,A,Q⟩).abs.file=x.abs.file∧(x.put m ⟨T,A,Q⟩).abs.uh=x.abs.uh∧(x.put m ⟨T,A,Q⟩).abs.cur=x.abs.cur:=by
 refine ze1 ?_ fun A a ih=>?_
 ·intro _ _
  have e:x.put m ⟨T,[],Q⟩=x:=by
   unfold za.put
   have:(fun i=>if i=m then some (⟨T,[],Q⟩:yg)else x.T i)=x.T:=by
    funext i;split
    ·rename_i z;rw[z,hm]
    ·rfl
   rw[this]
  rw[e]
  exact⟨h,by show(x.T m).map _=_;rw[hm];rfl,fun _ _=>rfl,fun _ _ _=>rfl,rfl,rfl,rfl⟩
 ·intro hA hlen
  have hA1:OkL A:=⟨fun z hz=>hA.1 z (List.mem_append_left _ hz),(List.pairwise_append.1 hA.2).1⟩
  have hbe:∀z∈A,z.from_+z.pages≤a.from_:=fun z hz=>(List.pairwise_append.1 hA.2).2.2 z hz a (by simp)
  have ha:=hA.1 a (by simp)
  have hln:A.length+1≤16:=by simpa using hlen
  obtain⟨i1,i2,i3,i4,i5,i6,i7⟩:=ih hA1 (by omega)
  have hT:(x.put m ⟨T,A,Q⟩).T m=some ⟨T,A,Q⟩:=if_pos rfl
  have hno:anyA a A=false:=by
   unfold anyA
   rw[List.any_eq_false]
   intro z hz
   rw[Us ha (hA.1 z (List.mem_append_left _ hz))]
   have:=hbe z hz
   omega
  have hsort:(A++[a]).Pairwise fun x y=>¬y.from_<x.from_:=hA.2.imp_of_mem fun {z t} hz _ hzt=>by
   have:=(hA.1 z hz).2.2.2.1
   omega
  obtain⟨k1,k2⟩:=i1.map hT ha hno (by show A.length<16;omega) (List.Perm.refl _) hsort
  rw[znv]at k1 k2
  dsimp only at k1 k2
  refine⟨k1,?_,fun i hi=>?_,fun i pg hne=>?_,?_,?_,?_⟩
  ·rw[k2,Abs.zn5,if_pos rfl,i2];rfl
  ·rw[k2,Abs.zn5,if_neg hi];exact i3 i hi
  ·rw[k2,Abs.Vw]
   have hfa:z8 (A++[a]) (pg:Int)=(z8 A (pg:Int)).or (z8 [a] (pg:Int)):=zc3 A [a] pg
   rw[if_neg,i4 i pg]
   ·rintro⟨z1,z2⟩
    refine hne ⟨z1,?_⟩
    rw[hfa]
    cases hq:z8 A (pg:Int)with
    | none=>exact absurd hq z2
    | some _=>simp
   ·rintro⟨z1,z2,z3⟩
    refine hne ⟨z1,?_⟩
    rw[hfa]
    have:z8 [a] (pg:Int)=some a:=by rw[Z4];exact if_pos z3
    rw[this]
    cases z8 A (pg:Int)<;>simp
  ·rw[k2];exact i5
  ·rw[k2];exact i6
  ·rw[k2];exact i7
def X8(a:Ar):List Nat:=(List.range a.pages.toNat).map fun i=>a.from_.toNat+i
def yc(A:List Ar):List Nat:=A.flatMap X8
theorem Yv{a:Ar}(ha:a.xe){pg:Nat}:pg∈X8 a↔a.Has (pg:Int):=by
 have h1:=ha.2.2.1
 have h2:=ha.2.2.2.1
 unfold X8 Ar.Has
 rw[List.mem_map]
 constructor
 ·rintro⟨i,hi,rfl⟩
  have hi:i<a.pages.toNat:=by simpa using hi
  omega
 ·rintro⟨q1,q2⟩
  exact⟨pg-a.from_.toNat,by simp;omega,by omega⟩
theorem Jd{A:List Ar}(hA:OkL A){pg:Nat}:pg∈yc A↔z8 A (pg:Int)≠none:=by
 unfold yc
 rw[List.mem_flatMap]
 constructor
 ·rintro⟨a,ha,hp⟩
  have:=(jh hA).2 ⟨ha,(Yv (hA.1 a ha)).1 hp⟩
  rw[this];simp
 ·intro hne
  cases hq:z8 A (pg:Int)with
  | none=>exact absurd hq hne
  | some a=>
   obtain⟨k1,k2⟩:=(jh hA).1 hq
   exact⟨a,k1,(Yv (hA.1 a k1)).2 k2⟩
theorem zao:∀{A:List Ar},OkL A→(yc A).Nodup
 | [],_=>by simp[yc]
 | a::A,hA=>by
  have ha:=hA.1 a (by simp)
  have ht:=hA.tail
  show(X8 a++yc A).Nodup
  rw[List.nodup_append]
  refine⟨?_,zao ht,fun p hp q hq e=>?_⟩
  ·unfold X8 List.Nodup
   rw[List.pairwise_map]
   exact List.Pairwise.imp (fun {u v} huv=>by omega) List.nodup_range
  ·subst e
   obtain⟨b,hb,hpb⟩:=List.mem_flatMap.1 hq
   have h1:=(Yv ha).1 hp
   have h2:=(Yv (hA.1 b (by simp[hb]))).1 hpb
   have h3:=hA.head b hb
   unfold Ar.Has at h1 h2
   omega
theorem zgi{A:List Ar}(hA:OkL A):∀pg∈yc A,pg<4096:=fun pg hp=>by
 obtain⟨a,ha,hp⟩:=List.mem_flatMap.1 hp
 have h1:=(Yv (hA.1 a ha)).1 hp
 obtain⟨_,_,s3,s4,s5,s6,_⟩:=hA.1 a ha
 unfold Ar.Has at h1
 omega
def Abs.fork(X:Abs)(n m:Nat):Abs:={X with A:=(fun i=>if i=m then(X.A n).map fun p=>(p.1,[])else X.A i),pv:=fun i pg=>if i=m then X.pv n pg else X.pv i pg}
def za.Y6(x:za)(n m g:Nat):za:=match x.T n with|some pr=>(x.xh m g).put m ⟨⟨g,[g]⟩,pr.A,[]⟩|none=>x
def za.J5(x:za)(n m g:Nat):za:=match x.T n with|some pr=>(x.Y6 n m g).copies n m (yc pr.A)|none=>x
theorem zhr(h:Ok0 x){m g:Nat}(hg:x.P.use g=1)(i pg:Nat)(hi:i≠m)(hpg:pg<4096):(x.xh m g).ent i pg=x.ent i pg:=by
 unfold za.ent
 have h1:(x.xh m g).T i=x.T i:=if_neg hi
 rw[h1]
 cases hp:x.T i with
 | none=>rfl
 | some pr=>
  obtain⟨N,ok⟩:=h.ok.wf.rpt i pr hp
  dsimp only
  have hne:∀f∈pr.T.own,f≠g:=fun f hf e=>by
   have:=(h.ok.wf.yt ⟨pr,hp,hf⟩).2.1
   rw[e]at this;omega
  have:=Xe ok.tree (R':=(x.xh m g).R) (fun f hf=>rfl) (fun f hf j=>by
   show(x.R.write g 0 (List.replicate 64 0)).b f j=_
   rw[uu,if_neg fun e=>hne f hf e.1]) hpg
  rw[this]
structure ForkD(x:za)(n m:Nat)(pr:yg)(y:za):Prop where
 ok:Ok0 y
 abs:y.abs=x.abs.fork n m
 zone:y.P.zone=x.P.zone∧y.P.iso=x.P.iso
 room:x.P.room≤y.P.room+1+3*x.has n (yc pr.A)
 disk:y.D=x.D
 kinds:∀i pg,i≠m→pg<4096→(y.ent i pg).kind=(x.ent i pg).kind∧(y.ent i pg).n=(x.ent i pg).n
 this:∀pg,pg<4096→(y.ent m pg).kind=(x.ent n pg).kind∧((x.ent n pg).kind≠0→(y.ent m pg).n=(x.ent n pg).n)
 use:∀f v,v≠1→v≠2→(y.P.use f=v↔x.P.use f=v)
 cache:y.CL=x.CL∧y.CR=x.CR
 bad:y.R.bad=x.R.bad
theorem Ok0.zod(h:Ok0 x){n m g:Nat}{pr:yg}(hp:x.T n=some pr)(hm8:m<8)(hm:x.T m=none)(hg:x.P.next false=some g)(hr:1+3*x.has n (yc pr.A)≤x.P.room):
  Ok0 (x.Y6 n m g)∧(x.Y6 n m g).T n=some pr∧(x.Y6 n m g).T m=some ⟨⟨g,[g]⟩,pr.A,[]⟩∧(∀l,(∃r,yc pr.A=l++r)→(Ok0 ((x.Y6 n m g).copies n m l))∧(∃T',((x.Y6 n m g).copies n m l).T n=some ⟨T',pr.A,pr.Q⟩)∧∃T',((x.Y6 n m g).copies n m l).T m=some ⟨T',pr.A,[]⟩)∧
   (∀l p r,yc pr.A=l++p::r→(((x.Y6 n m g).copies n m l).Vj n m p).1=0)∧ForkD x n m pr (x.J5 n m g):=by
 have hnm:n≠m:=fun e=>by rw[e,hm]at hp;cases hp
 obtain⟨hg1,hav,hgu⟩:=Zo hg
 obtain⟨hA,hA16⟩:=h.ok.wf.Zg n pr hp
 obtain⟨k1,k2,k3,k4⟩:=h.spawn hm8 hm hg
 have hTm:(x.xh m g).T m=some ⟨⟨g,[g]⟩,[],[]⟩:=if_pos rfl
 obtain⟨a1,a2,a3,a4,a5,a6,a7⟩:=k1.mapAll hTm pr.A hA hA16
 have e0:x.Y6 n m g=(x.xh m g).put m ⟨⟨g,[g]⟩,pr.A,[]⟩:=by unfold za.Y6;rw[hp]
 obtain⟨z,hz⟩:∃z,z=x.Y6 n m g:=⟨_,rfl⟩
 rw[←e0,←hz]at a1 a2 a3 a4 a5 a6 a7
 have zT:∀i,z.T i=if i=m then some ⟨⟨g,[g]⟩,pr.A,[]⟩else x.T i:=fun i=>by
  rw[hz,e0]
  show(if i=m then _ else(if i=m then _ else x.T i))=_
  split<;>rfl
 have zP:z.P=x.P.set g 2:=by rw[hz,e0];rfl
 have zD:z.D=x.D:=by rw[hz,e0];rfl
 have zC:z.CL=x.CL∧z.CR=x.CR:=by rw[hz,e0];exact⟨rfl,rfl⟩
 have zB:z.R.bad=x.R.bad:=by rw[hz,e0];rfl
 have zent:∀i pg,pg<4096→i≠m→z.ent i pg=x.ent i pg:=fun i pg hq hi=>by
  rw[hz,e0,zh2 _ hTm]
  exact zhr h hgu i pg hi hq
 have zm0:∀pg,pg<4096→(z.ent m pg).kind=0:=fun pg hq=>by
  rw[hz,e0,zh2 _ hTm]
  by_cases q:((x.xh m g).ent m pg).kind=0
  ·exact q
  ·obtain⟨a,ha⟩:=(k1.ok.area m _ pg hTm hq).find q
   cases ha
 have zn:z.T n=some pr:=by rw[zT,if_neg hnm];exact hp
 have zm:z.T m=some ⟨⟨g,[g]⟩,pr.A,[]⟩:=by rw[zT,if_pos rfl]
 have zhas:∀l,(∀pg∈l,pg<4096)→z.has n l=x.has n l:=fun l hl=>by
  unfold za.has
  exact List.countP_congr fun pg hq=>by rw[zent n pg (hl pg hq) hnm]
 have zroom:x.P.room≤z.P.room+1:=by rw[zP];exact room_le _ _ _ (by omega) hg1
 have hlt:=zgi hA
 have hnd:=zao hA
 have hpre:∀l,(∃r,yc pr.A=l++r)→l.Nodup∧(∀pg∈l,pg<4096∧(z.ent m pg).kind=0)∧3*z.has n l≤z.P.room∧z.has n l≤x.has n (yc pr.A):=fun l ⟨r,hl⟩=>by
  have hs:∀pg∈l,pg∈yc pr.A:=fun pg hq=>by rw[hl];exact List.mem_append_left _ hq
  have hle:z.has n l≤x.has n (yc pr.A):=by
   rw[zhas l fun pg hq=>hlt pg (hs pg hq),hl]
   unfold za.has
   rw[List.countP_append]
   omega
  refine⟨?_,fun pg hq=>⟨hlt pg (hs pg hq),zm0 pg (hlt pg (hs pg hq))⟩,by omega,hle⟩
  rw[hl,List.nodup_append]at hnd
  exact hnd.1
 have C:∀l,(∃r,yc pr.A=l++r)→zkh z n m l (z.copies n m l):=fun l hl=>by
  obtain⟨b1,b2,b3,_⟩:=hpre l hl
  exact a1.copies zn zm rfl hnm l b1 b2 b3
 have ef:x.J5 n m g=z.copies n m (yc pr.A):=by unfold za.J5;rw[hp,hz]
 rw[←hz,ef]
 refine⟨a1,zn,zm,fun l hl=>?_,fun l p r hl=>?_,?_⟩
 ·have c:=C l hl
  have pA:∀i,((z.copies n m l).T i).map (fun pr=>(pr.A,pr.Q))=(z.T i).map (fun pr=>(pr.A,pr.Q)):=fun i=>congrFun c.rest.1 i
  refine⟨c.ok,?_,?_⟩
  ·have:=pA n
   rw[zn]at this
   cases hq:(z.copies n m l).T n with
   | none=>rw[hq]at this;cases this
   | some w=>
    rw[hq]at this
    have:=Option.some.inj this
    have q1:w.A=pr.A:=congrArg Prod.fst this
    have q2:w.Q=pr.Q:=congrArg Prod.snd this
    exact⟨w.T,by rw[←q1,←q2]⟩
  ·have:=pA m
   rw[zm]at this
   cases hq:(z.copies n m l).T m with
   | none=>rw[hq]at this;cases this
   | some w=>
    rw[hq]at this
    have:=Option.some.inj this
    have q1:w.A=pr.A:=congrArg Prod.fst this
    have q2:w.Q=[]:=congrArg Prod.snd this
    exact⟨w.T,by rw[←q1,←q2]⟩
 ·have hl2:yc pr.A=(l++[p])++r:=by rw[hl];simp
  obtain⟨b1,b2,b3,_⟩:=hpre (l++[p]) ⟨r,hl2⟩
  exact a1.zej zn zm rfl hnm b1 b2 b3
 ·have c:=C (yc pr.A) ⟨[],by simp⟩
  refine⟨c.ok,?_,?_,?_,by rw[c.disk,zD],fun i pg hi hq=>?_,fun pg hq=>?_,fun f v h1 h2=>?_,by rw[c.cache.1,c.cache.2];exact zC,by rw[c.bad,zB]⟩
  ·have hpvz:∀i pg,z.abs.pv i pg=if i=m∧z8 pr.A (pg:Int)≠none then z.abs.pv i pg else x.abs.pv i pg:=fun i pg=>by
    split
    ·rfl
    ·rename_i q
     rw[a4 i pg q,k2];rfl
   have xm:∀pg,x.abs.pv m pg=.none:=fun pg=>by
    show(if pg<4096 then x.pv m pg else .none)=_
    split
    ·unfold za.pv;rw[hm]
    ·rfl
   have xn0:∀pg:Nat,z8 pr.A (pg:Int)=none→x.abs.pv n pg=.none:=fun pg hf=>by
    show(if pg<4096 then x.pv n pg else .none)=_
    split
    ·unfold za.pv;rw[hp];dsimp only;rw[hf]
    ·rfl
   have hrest:=c.rest
   have e5:(z.copies n m (yc pr.A)).abs=⟨(z.copies n m (yc pr.A)).abs.A,(z.copies n m (yc pr.A)).abs.pv,(z.copies n m (yc pr.A)).abs.file,(z.copies n m (yc pr.A)).abs.uh,(z.copies n m (yc pr.A)).abs.cur⟩:=rfl
   rw[e5]
   unfold Abs.fork
   rw[Abs.mk.injEq]
   refine⟨?_,?_,by rw[hrest.2.1,a5,k2];rfl,by rw[hrest.2.2.1,a6,k2];rfl,by rw[hrest.2.2.2,a7,k2];rfl⟩
   ·funext i
    rw[hrest.1]
    by_cases q:i=m
    ·rw[q,a2,if_pos rfl]
     show _=((x.T n).map _).map _
     rw[hp];rfl
    ·rw[a3 i q,if_neg q,k2]
     exact if_neg q
   ·funext i pg
    rw[c.pv]
    by_cases q:i=m
    ·rw[if_pos q]
     by_cases q2:pg∈yc pr.A
     ·rw[if_pos ⟨q,q2⟩,hpvz n pg,if_neg fun w=>hnm w.1]
     ·rw[if_neg fun w=>q2 w.2]
      have hf:z8 pr.A (pg:Int)=none:=by
       cases hq:z8 pr.A (pg:Int)with
       | none=>rfl
       | some _=>exact absurd ((Jd hA).2 (by rw[hq];simp)) q2
      rw[hpvz i pg,if_neg (fun w=>w.2 hf),q,xm,xn0 pg hf]
    ·rw[if_neg fun w=>q w.1,if_neg q,hpvz i pg,if_neg fun w=>q w.1]
  ·rw[c.zone.1,c.zone.2,zP];exact⟨rfl,rfl⟩
  ·have:=c.room
   rw[zhas _ hlt]at this
   omega
  ·have:=c.kinds i pg hq fun w=>hi w.1
   rw[zent i pg hq hi]at this
   exact this
  ·by_cases q:pg∈yc pr.A
   ·have:=c.this pg q
    rw[zent n pg hq hnm]at this
    exact⟨this.1,fun _=>this.2⟩
   ·have b:=c.kinds m pg hq fun w=>q w.2
    have hx0:(x.ent n pg).kind=0:=by
     by_cases w:(x.ent n pg).kind=0
     ·exact w
     ·obtain⟨a,ha⟩:=(h.ok.area n pr pg hp hq).find w
      exact absurd ((Jd hA).2 (by rw[ha];simp)) q
    exact⟨by rw[b.1,zm0 pg hq,hx0],fun w=>absurd hx0 w⟩
  ·rw[c.use f v h1 h2,zP]
   show(if f=g then 2 else x.P.use f)=v↔_
   split
   ·rename_i q;rw[q];omega
   ·exact Iff.rfl
end
section
open Go Go.RowKit
namespace za
def wr(x:za)(sec:Nat)(l:List UInt8):za:={x with D:=if x.D.work.2=0 then x.D.work.1.write sec l else x.D.work.1}
def outF(x:za)(n page:Nat):Int×za:=
 if(x.ent n page).kind≠1 then(2,x)
 else if(Xf x.S).2=false then(4,x)
 else if x.D.work.2=0 then(0,(x.wr (160+(Xf x.S).1.toNat) (x.R.read (x.ent n page).n.toNat 0 64)).vg (x.B (x.ent n page).n) ⟨2,(Xf x.S).1,false⟩)
 else((x.D.work.2:Int),x.wr (160+(Xf x.S).1.toNat) (x.R.read (x.ent n page).n.toNat 0 64))
end za
end
theorem zeo{O:Nat→Prop}{p sb off c mb:Nat}{V:Nat→Value}{L:List (Int×Value)}{D:zw}(w:World)(h:yw w O p sb off c mb V L D)(n:Nat)(ni:Int)(en:ni=n)(hn:n<32)(v:Value)(l:List UInt8)(hv:Reads w v l)(hl:l.length=64)(hvo:∀b,v.ownBlock=some b→¬O b):
  Calls Tryz.prog 75 #[.pointer (some ⟨p,0,none⟩),.int .i64 ni,v] w fun e w'=>e=.returned (.int .i64 D.work.2)∧Turn O w w'∧jr w' (grow O w) p (if D.work.2=0 then D.work.1.write (160+n) l else D.work.1):=by
 have P:=Lib.hid (zb9 w n ni en hn)
 obtain⟨X,hX⟩:∃X:World→Prop,X=fun w'=>Turn O w w'∧jr w' (grow O w) p (if D.work.2=0 then D.work.1.write (160+n) l else D.work.1):=⟨_,rfl⟩
 have R:Hid (Calls Tryz.prog 55 #[.pointer (some ⟨p,0,none⟩),.int .i64 ((160+n:Nat):Int),v] w fun e w'=>e=.returned (.int .i64 D.work.2)∧X w'):=by
  rw[hX]
  exact zaw w h ((160+n:Nat):Int) (160+n) rfl (by omega) v l hv hl hvo
 suffices S:Calls Tryz.prog 75 #[.pointer (some ⟨p,0,none⟩),.int .i64 ni,v] w fun e w'=>e=.returned (.int .i64 D.work.2)∧X w' by rw[hX]at S;exact S
 clear h en hX
 generalize ((160+n:Nat):Int)=q at P R
 generalize D.work.2=r at R⊢
 obtain⟨a,c0,b,o,rfl,h1,h2⟩:=hv
 rw[hl]at *
 clear h1 h2 hvo hl
 go_enter Tryz.func75,Tryz.ntmps75
 go_wp2_with fail
 refine P.out.mono ?_
 rintro e u ⟨rfl,hu⟩
 have hu:=hu.symm
 subst hu
 go_wp2_with fail
 refine R.out.mono ?_
 rintro e w1 ⟨rfl,h1⟩
 have H1:=Lib.hid h1
 clear h1
 go_wp2_with fail
 go_ret
 exact⟨rfl,H1.out⟩
section
variable {w w':World}{tag tag':Nat→Nat}{q:Sq}{x:za}
theorem zb.disk2(h:zb w tag q x){D':zw}(t:Turn (fun b=>tag b=3) w w')(hD:jr w' (grow (fun b=>tag b=3) w) q.dp D'):zb w' (retag tag w 3) q {x with D:=D'}∧Step (fun c=>c=3) tag w (retag tag w 3) w':=by
 have s:Step (fun c=>c=3) tag w (retag tag w 3) w':=Step.retag t rfl
 exact⟨h.turn s (by omega) (by omega) (fun _ _=>rfl) h.out (.inl ⟨by omega,rfl⟩) (.inl ⟨by omega,rfl⟩) (.inr (hD.loc fun k _ ho=>⟨Uh ho,rfl⟩)) (.inl ⟨by omega,rfl⟩) (.inl ⟨by omega,rfl,rfl⟩) (.inl ⟨by omega,rfl⟩) fun _ _ _ hx=>.inl ⟨⟨by omega,by omega,by omega,by omega⟩,hx⟩,s⟩
theorem zb.swrite(h:zb w tag q x)(k:Nat)(hk:k<32){v:Value}{l:List UInt8}(hv:ByAt w v l)(hl:l.length=64)(ho:∀b,v.ownBlock=some b→tag b=0):
  Calls Tryz.prog 75 #[.pointer (some ⟨q.dp,0,none⟩),.int .i64 k,v] w fun e w'=>e=.returned (.int .i64 x.D.work.2)∧zb w' (retag tag w 3) q (x.wr (160+k) l)∧Step (fun c=>c=3) tag w (retag tag w 3) w':=by
 obtain⟨sb,off,c,mb,V,L,hD⟩:=h.disk
 refine(zeo w hD k k rfl hk v l hv.reads hl fun b hb e=>by rw[ho b hb]at e;cases e).mono ?_
 rintro e w1 ⟨rfl,t,hD1⟩
 exact⟨rfl,h.disk2 t hD1⟩
theorem zb.useP(h:zb w tag q x)(f:Nat)(hf:f<1024):Calls Tryz.prog 38 #[.pointer (some ⟨q.pp,0,none⟩),.int .i64 f] w fun e w'=>e=.returned (.int .i64 (x.P.use f))∧w'=w:=
 zfz _ _ _ _ _ _ h.pool f f rfl hf
theorem zb.take(h:zb w tag q x):Calls Tryz.prog 74 #[.pointer (some ⟨q.wp,0,none⟩)] w fun e w'=>e=.returned (.tuple #[.int .i64 (Xf x.S).1,.bool (Xf x.S).2])∧w'=w:=by
 obtain⟨S,V,hB,hS⟩:=h.swap
 exact zj4 w q.wp S V x.S hB
theorem zb.usedS(h:zb w tag q x)(wf:WF x):Calls Tryz.prog 51 #[.pointer (some ⟨q.wp,0,none⟩)] w fun e w'=>e=.returned (.int .i64 (Yh x.S))∧Below w.heap.size w w':=by
 obtain⟨S,V,hB,hS⟩:=h.swap
 exact zj2 w q.wp S V x.S hB fun l hl=>by have:=jk (wf.slots.2 l hl).1 (wf.slots.2 l hl).2;omega
theorem zf0(h:zb w tag q x)(n:Nat)(hn:n<8){pr:yg}(hp:x.T n=some pr):Calls Tryz.prog 34 #[ptrV q.sp,.int .i64 n] w fun e w'=>e=.returned (ptrV (q.U n).tp)∧w'=w:=by
 have F:=Lib.hid (Za h (n:Int))
 have ev:Ye q x (n:Int)=.tuple #[ptrV (q.U n).ap,.bool true]:=by
  unfold Ye
  rw[show((n:Nat):Int).toNat=n by omega,hp]
  have:(0:Int)≤n:=by omega
  simp[this]
 rw[ev]at F
 obtain⟨av,r1,r2,r3⟩:=(h.procs n pr hn hp).row
 have c1:=r1.cell (i:=0) (by omega)
 dsimp only[Yi]at c1
 unfold ptrV at F c1⊢
 clear h hp ev r1 r2 r3
 go_enter Tryz.func34,Tryz.ntmps34
 go_wp2_with fail
 refine F.out.mono ?_
 rintro e u ⟨rfl,hu⟩
 have hu:=hu.symm
 subst hu
 clear F
 go_wp2_with fail
 go_ret
 exact⟨rfl,rfl⟩
theorem zer(h:zb w tag q x)(wf:WF x)(n page:Nat)(hn:n<8){pr:yg}(hp:x.T n=some pr)(hpg:page<4096):
  Calls Tryz.prog 35 #[ptrV (q.U n).tp,.int .i64 page] w fun e w'=>e=.returned (.tuple #[entV (x.ent n page),.int .i64 0])∧Below w.heap.size w w':=by
 obtain⟨N,ok⟩:=wf.rpt n pr hp
 rw[wf.Y7 hp ok hpg]
 exact Xy _ _ _ _ _ (h.rpt hn hp) ok.tree page page rfl hpg
end
end Go.Proofs.YtnhdmnijiphjjaaGreat
