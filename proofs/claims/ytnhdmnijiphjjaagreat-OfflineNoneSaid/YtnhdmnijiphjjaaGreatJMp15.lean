/- Processes, in plain words: what each function answers and makes of a space. No program in it. -/
import Derived.Test.YtnhdmnijiphjjaaGreatJMp14
set_option linter.unusedVariables false
set_option linter.unusedSimpArgs false
set_option maxRecDepth 100000
set_option maxHeartbeats 2000000
namespace Go.Proofs.YtnhdmnijiphjjaaGreat
section
open Go Go.RowKit
namespace za
def uw(x:za)(f:Int):za:={x with P:=x.P.free f}
def yt(x:za)(u:Nat):(Int×Int)×za:=match x.P.next true with|none=>((0,4),x)|some f=>(((f:Int),0),x.Xo f u)
def zw(x:za)(u sec:Nat):(Int×Int)×za:=
 match x.P.next true with
 | none=>((0,4),x)
 | some f=>
  if x.D.work.2=0 then(((f:Int),0),{x with P:=x.P.set f u,D:=x.D.work.1,R:=x.R.write f 0 (x.D.cur sec)})
  else((0,(x.D.work.2:Int)),{x with P:=(x.P.set f u).free (f:Int),D:=x.D.work.1})
def yx(x:za)(g:Int):(Int×Int)×za:=
 match x.P.next true with
 | none=>((0,4),x)
 | some f=>
  if x.R.bad g.toNat=false then(((f:Int),0),{x with P:=x.P.set f 3,R:=x.R.write f 0 (x.R.read g.toNat 0 64)})
  else((0,7),{x with P:=(x.P.set f 3).free (f:Int)})
def xk(x:za)(k:Int×Int)(f:Int):za:=if(getL x.CL k).isSome=true∨(getL x.CR f).isSome=true then x else {x with CL:=updL x.CL k (f,false),CR:=updL x.CR f k}
def y7(x:za)(k:Int×Int)(d:Bool):za:={x with CL:=match getL x.CL k with|some v=>updL x.CL k (v.1,d)|none=>x.CL}
def vg(x:za)(k:Int×Int):za:={x with CL:=(match getL x.CL k with|some _=>delL x.CL k|none=>x.CL),CR:=(match getL x.CL k with|some v=>delL x.CR v.1|none=>x.CR)}
def uh(k:Int×Int):Nat:=96+(16*k.1.toNat+k.2.toNat)
def uf(x:za)(k:Int×Int):(Int×Int)×za:=
 match getL x.CL k with
 | some v=>((v.1,0),x)
 | none=>if(x.zw 4 (uh k)).1.2=0 then((x.zw 4 (uh k)).1,(x.zw 4 (uh k)).2.xk k (x.zw 4 (uh k)).1.1)else x.zw 4 (uh k)
def keyF(a:Ar)(page:Nat):Int×Int:=(a.file,a.off+page-a.from_)
def uk(x:za)(n page:Nat)(a:Ar):(Int×Int)×za:=
 if a.kind≠1 then
  if(x.uf (keyF a page)).1.2=0 then(((x.uf (keyF a page)).1.1,((x.uf (keyF a page)).2.putF n page ⟨1,(x.uf (keyF a page)).1.1,false⟩).1),((x.uf (keyF a page)).2.putF n page ⟨1,(x.uf (keyF a page)).1.1,false⟩).2)
  else((0,(x.uf (keyF a page)).1.2),(x.uf (keyF a page)).2)
 else
  if(x.yt 3).1.2=0 then
   if((x.yt 3).2.putF n page ⟨1,(x.yt 3).1.1,a.write⟩).1=0 then((x.yt 3).1,((x.yt 3).2.putF n page ⟨1,(x.yt 3).1.1,a.write⟩).2)
   else((0,((x.yt 3).2.putF n page ⟨1,(x.yt 3).1.1,a.write⟩).1),((x.yt 3).2.putF n page ⟨1,(x.yt 3).1.1,a.write⟩).2.uw (x.yt 3).1.1)
  else((0,(x.yt 3).1.2),(x.yt 3).2)
def Zk(x:za)(l:List (Int×Int))(e:Ent):za:=l.foldl (fun y p=>(y.putF p.1.toNat p.2.toNat e).2) x
def inF(x:za)(k:Nat):(Int×Int)×za:=
 if(x.zw 3 (160+k)).1.2=0 then((x.zw 3 (160+k)).1,(x.zw 3 (160+k)).2.Zk ((x.zw 3 (160+k)).2.S.getD k []) ⟨1,(x.zw 3 (160+k)).1.1,false⟩)
 else((0,(x.zw 3 (160+k)).1.2),(x.zw 3 (160+k)).2)
def jc(x:za)(n:Nat)(at_:Int):za:=match x.T n with|some pr=>x.put n ⟨pr.T,pr.A,U9 pr.Q ((n:Int),at_)⟩|none=>x
def zt(x:za)(n page:Nat)(a:Ar):(Int×Int)×za:=
 if(x.ent n page).kind=3 then((0,7),x.jc n (page*64))
 else if(x.ent n page).kind=2 then x.inF (x.ent n page).n.toNat
 else if(x.ent n page).kind=0 then x.uk n page a
 else(((x.ent n page).n,0),x)
def ownF(x:za)(n page:Nat)(a:Ar)(f:Int):(Int×Int)×za:=
 if a.kind=2 then((f,0),x.y7 ((getL x.CR f).getD (0,0)) true)
 else if getL x.CR f=none∧(x.B f).length=1 then((f,(x.putF n page ⟨1,f,true⟩).1),(x.putF n page ⟨1,f,true⟩).2)
 else if(x.yx f).1.2=0 then(((x.yx f).1.1,((x.yx f).2.putF n page ⟨1,(x.yx f).1.1,true⟩).1),((x.yx f).2.putF n page ⟨1,(x.yx f).1.1,true⟩).2)
 else((0,(x.yx f).1.2),(x.yx f).2)
def askF(x:za)(n page:Nat)(wr:Bool):(Int×Int)×za:=
 match (match x.T n with|some pr=>yh pr.A (page:Int)|none=>none)with
 | none=>((0,11),x)
 | some a=>
  if wr=true∧a.write=false then((0,11),x)
  else if(x.zt n page a).1.2=0∧wr=true then(x.zt n page a).2.ownF n page a (x.zt n page a).1.1
  else x.zt n page a
def zm(n:Nat)(wr:Bool):Nat→za→Nat→Nat→(List Pc×Int)×za
 | 0,x,_,_=>(([],0),x)
 | k+1,x,a,s=>
  if s=0 then(([],0),x)else
  if(x.askF n (a/64) wr).1.2=0 then
   if(zm n wr k (x.askF n (a/64) wr).2 (a+min s (64-a%64)) (s-min s (64-a%64))).1.2=0 then
    ((⟨(x.askF n (a/64) wr).1.1.toNat,a%64,min s (64-a%64)⟩::(zm n wr k (x.askF n (a/64) wr).2 (a+min s (64-a%64)) (s-min s (64-a%64))).1.1,0),(zm n wr k (x.askF n (a/64) wr).2 (a+min s (64-a%64)) (s-min s (64-a%64))).2)
   else(([],(zm n wr k (x.askF n (a/64) wr).2 (a+min s (64-a%64)) (s-min s (64-a%64))).1.2),(zm n wr k (x.askF n (a/64) wr).2 (a+min s (64-a%64)) (s-min s (64-a%64))).2)
  else(([],(x.askF n (a/64) wr).1.2),(x.askF n (a/64) wr).2)
def qw(x:za)(n at_ size:Int):Int:=if n<0∨(x.T n.toNat).isSome=false then 2 else if size<0∨64<size∨at_<0∨262144<at_∨262144-at_<size then 1 else 0
def Ve(x:za)(n at_ size:Int):(List UInt8×Int)×za:=
 if x.qw n at_ size=0 then
  if(zm n.toNat false 3 x at_.toNat size.toNat).1.2=0 then((Yo (zm n.toNat false 3 x at_.toNat size.toNat).2.R (zm n.toNat false 3 x at_.toNat size.toNat).1.1,0),(zm n.toNat false 3 x at_.toNat size.toNat).2)
  else(([],(zm n.toNat false 3 x at_.toNat size.toNat).1.2),(zm n.toNat false 3 x at_.toNat size.toNat).2)
 else(([],x.qw n at_ size),x)
def Xa:List Pc→List UInt8→RamS→RamS
 | [],_,R=>R
 | p::l,b,R=>Xa l (b.drop p.k) (R.write p.f p.a (b.take p.k))
def Yi(x:za)(n at_:Int)(b:List UInt8):Int×za:=
 if x.qw n at_ b.length=0 then
  if(zm n.toNat true 3 x at_.toNat b.length).1.2=0 then(0,{(zm n.toNat true 3 x at_.toNat b.length).2 with R:=Xa (zm n.toNat true 3 x at_.toNat b.length).1.1 b (zm n.toNat true 3 x at_.toNat b.length).2.R})
  else((zm n.toNat true 3 x at_.toNat b.length).1.2,(zm n.toNat true 3 x at_.toNat b.length).2)
 else(x.qw n at_ b.length,x)
end za
end
open Go Go.RowKit
theorem Zv{P:zk}{m:Bool}{f:Nat}(h:P.next m=some f):f<1024∧P.use f=1:=by
 unfold zk.next at h
 split at h
 ·rename_i g hg
  cases h
  split at hg
  ·obtain⟨_,h2,h3,_⟩:=q9 hg;exact⟨by omega,h3⟩
  ·cases hg
 ·obtain⟨_,h2,h3,_⟩:=q9 h;exact⟨by omega,h3⟩
theorem Qe{P:zk}{f u:Nat}(hf:f<1024)(h2:2≤u)(h5:u≤5):(P.set f u).free (f:Int)=(P.set f u).set f 1:=by
 have e:(P.set f u).use f=u:=if_pos rfl
 unfold zk.free
 rw[if_pos]
 ·rfl
 ·unfold zk.used
  rw[decide_eq_true_eq,Int.toNat_natCast,e]
  omega
theorem zhw{P Q:zk}(h1:P.use=Q.use)(h2:P.zone=Q.zone)(h3:P.iso=Q.iso):P=Q:=by
 cases P
 cases Q
 simp_all
theorem zdk(P:zk)(f u v g:Nat):((P.set f u).set f v).use g=if g=f then v else P.use g:=by
 show(if g=f then v else if g=f then u else P.use g)=_
 split<;>rfl
section
variable {x y:za}
theorem WF.no_own(h:WF x){f:Nat}(hu:x.P.use f≠2)(n:Nat):¬x.owns n f:=fun ho=>hu (h.xn ho).2.1
theorem WF.chg(h:WF x){f u:Nat}(hf:x.P.use f≠2)(hb:f<1024→x.R.bad f=false∨u=6)(hT:y.T=x.T)(hB:y.B=x.B)(hS:y.S=x.S)(hC:y.CL=x.CL)(hCR:y.CR=x.CR)(hD:y.D.cur=x.D.cur)(hP:∀g,y.P.use g=if g=f then u else x.P.use g)
  (hbad:y.R.bad=x.R.bad) (hby:∀g i,g≠f→y.R.b g i=x.R.b g i):WF y∧∀n page,page<4096→y.ent n page=x.ent n page:=by
 refine h.frames hT hB hS hC hCR hD (fun n g ho=>?_) fun g hg hbg=>?_
 ·have hne:g≠f:=fun e=>h.no_own hf n (e▸ho)
  exact⟨by rw[hbad],fun i=>hby g i hne,by rw[hP,if_neg hne];exact(h.xn ho).2.1⟩
 ·rw[hbad]at hbg
  rw[hP]
  split
  ·rename_i e
   subst e
   rcases hb hg with k|k
   ·rw[k]at hbg;cases hbg
   ·exact k
  ·exact h.bad g hg hbg
theorem WF.ji(h:WF x){f:Nat}(hf:f<1024)(hu:x.P.use f≠6):x.R.bad f=false:=by
 cases e:x.R.bad f with
 | false=>rfl
 | true=>exact absurd (h.bad f hf e) hu
structure NewF(x:za)(u f:Nat)(l:List UInt8)(y:za):Prop where
 wf:WF y
 ent:∀n page,page<4096→y.ent n page=x.ent n page
 was:f<1024∧x.P.use f=1
 pool:y.P=x.P.set f u
 bytes:∀g i,y.R.b g i=if g=f∧i<64 then l.getD i 0 else x.R.b g i
 len:l.length=64
 bad:y.R.bad=x.R.bad
 keep:y.T=x.T∧y.B=x.B∧y.S=x.S∧y.CL=x.CL∧y.CR=x.CR
 cur:y.D.cur=x.D.cur
theorem WF.newF(h:WF x){f u:Nat}(hn:x.P.next true=some f)(l:List UInt8)(hl:l.length=64)(hT:y.T=x.T)(hB:y.B=x.B)(hS:y.S=x.S)(hC:y.CL=x.CL)(hR:y.CR=x.CR)(hP:y.P=x.P.set f u)(hY:y.R=x.R.write f 0 l)(hD:y.D.cur=x.D.cur):NewF x u f l y:=by
 obtain⟨h1,h2⟩:=Zv hn
 have k:=h.chg (y:=y) (f:=f) (u:=u) (by omega) (fun hf=>.inl (h.ji hf (by omega))) hT hB hS hC hR hD (fun g=>by rw[hP];rfl) (by rw[hY];rfl) fun g i hg=>by rw[hY,qm,if_neg fun e=>hg e.1]
 refine⟨k.1,k.2,⟨h1,h2⟩,hP,fun g i=>?_,hl,by rw[hY];rfl,⟨hT,hB,hS,hC,hR⟩,hD⟩
 rw[hY,qm]
 rw[Nat.sub_zero]
 exact zcn ⟨fun e=>⟨e.1,by omega⟩,fun e=>⟨e.1,by omega,by omega⟩⟩ _ _
theorem WF.yt(h:WF x)(u:Nat):(x.P.next true=none∧x.yt u=((0,4),x))∨∃f,x.P.next true=some f∧x.yt u=(((f:Int),0),x.Xo f u)∧NewF x u f (List.replicate 64 0) (x.Xo f u):=by
 unfold za.yt
 cases hn:x.P.next true with
 | none=>exact .inl ⟨rfl,rfl⟩
 | some f=>exact .inr ⟨f,rfl,rfl,h.newF hn _ (by simp) rfl rfl rfl rfl rfl rfl rfl rfl⟩
structure zbp(x y:za):Prop where
 wf:WF y
 ent:∀n page,page<4096→y.ent n page=x.ent n page
 pool:y.P=x.P
 ram:y.R=x.R
 keep:y.T=x.T∧y.B=x.B∧y.S=x.S∧y.CL=x.CL∧y.CR=x.CR
 cur:y.D.cur=x.D.cur
theorem WF.back0(h:WF x){f u:Nat}(hn:x.P.next true=some f)(h2:2≤u)(h5:u≤5)(hT:y.T=x.T)(hB:y.B=x.B)(hS:y.S=x.S)(hC:y.CL=x.CL)(hR:y.CR=x.CR)(hP:y.P=(x.P.set f u).free (f:Int))(hY:y.R=x.R)(hD:y.D.cur=x.D.cur):zbp x y:=by
 obtain⟨h1,hu⟩:=Zv hn
 have eu:∀g,y.P.use g=if g=f then 1 else x.P.use g:=fun g=>by rw[hP,Qe h1 h2 h5,zdk]
 have k:=h.chg (y:=y) (f:=f) (u:=1) (by omega) (fun hf=>.inl (h.ji hf (by omega))) hT hB hS hC hR hD eu (by rw[hY]) fun g i hg=>by rw[hY]
 refine⟨k.1,k.2,?_,hY,⟨hT,hB,hS,hC,hR⟩,hD⟩
 have e1:y.P.use=x.P.use:=by
  funext g
  rw[eu]
  split
  ·rename_i e;rw[e,hu]
  ·rfl
 have e2:y.P.zone=x.P.zone∧y.P.iso=x.P.iso:=by rw[hP,Qe h1 h2 h5];exact⟨rfl,rfl⟩
 exact zhw e1 e2.1 e2.2
theorem WF.zw(h:WF x)(u sec:Nat)(h2:2≤u)(h5:u≤5)(hs:(x.D.cur sec).length=64):
  (x.P.next true=none∧x.zw u sec=((0,4),x))∨
  (∃f,x.P.next true=some f∧x.D.work.2=0∧(x.zw u sec).1=((f:Int),0)∧NewF x u f (x.D.cur sec) (x.zw u sec).2∧(x.zw u sec).2.D=x.D.work.1)∨
  (∃f,x.P.next true=some f∧x.D.work.2≠0∧(x.zw u sec).1=(0,(x.D.work.2:Int))∧zbp x (x.zw u sec).2∧(x.zw u sec).2.D=x.D.work.1):=by
 unfold za.zw
 cases hn:x.P.next true with
 | none=>exact .inl ⟨rfl,rfl⟩
 | some f=>
  by_cases c:x.D.work.2=0
  ·dsimp only
   rw[if_pos c]
   refine .inr (.inl ⟨f,rfl,c,rfl,h.newF (y:={x with P:=x.P.set f u,D:=x.D.work.1,R:=x.R.write f 0 (x.D.cur sec)}) hn (x.D.cur sec) hs ?_ ?_ ?_ ?_ ?_ ?_ ?_ (zx.zax x.D),rfl⟩)<;>dsimp only
  ·dsimp only
   rw[if_neg c]
   refine .inr (.inr ⟨f,rfl,c,rfl,h.back0 (u:=u) (y:={x with P:=(x.P.set f u).free (f:Int),D:=x.D.work.1}) hn h2 h5 ?_ ?_ ?_ ?_ ?_ ?_ ?_ (zx.zax x.D),rfl⟩)<;>dsimp only
theorem WF.yx(h:WF x)(g:Int):
  (x.P.next true=none∧x.yx g=((0,4),x))∨
  (∃f,x.P.next true=some f∧x.R.bad g.toNat=false∧(x.yx g).1=((f:Int),0)∧NewF x 3 f (x.R.read g.toNat 0 64) (x.yx g).2∧(x.yx g).2.D=x.D)∨
  (∃f,x.P.next true=some f∧x.R.bad g.toNat=true∧(x.yx g).1=(0,7)∧zbp x (x.yx g).2∧(x.yx g).2.D=x.D):=by
 unfold za.yx
 cases hn:x.P.next true with
 | none=>exact .inl ⟨rfl,rfl⟩
 | some f=>
  by_cases c:x.R.bad g.toNat=false
  ·dsimp only
   rw[if_pos c]
   refine .inr (.inl ⟨f,rfl,c,rfl,h.newF (y:={x with P:=x.P.set f 3,R:=x.R.write f 0 (x.R.read g.toNat 0 64)}) hn (x.R.read g.toNat 0 64) (by simp[RamS.read]) ?_ ?_ ?_ ?_ ?_ ?_ ?_ ?_,rfl⟩)<;>dsimp only
  ·dsimp only
   rw[if_neg c]
   refine .inr (.inr ⟨f,rfl,by simpa using c,rfl,h.back0 (u:=3) (y:={x with P:=(x.P.set f 3).free (f:Int)}) hn (by omega) (by omega) ?_ ?_ ?_ ?_ ?_ ?_ ?_ ?_,rfl⟩)<;>dsimp only
theorem WF.cache(h:WF x)(L:zbo)(R:zdg)(hk:∀k v,getL L k=some v→0≤v.1∧v.1<1024)(hn:(L.map (·.1)).Nodup∧(R.map (·.1)).Nodup):WF {x with CL:=L,CR:=R}:=
 ⟨h.rpt,h.apart,h.Yh,h.back,h.slots,h.bad,hk,h.secs,hn⟩
theorem WF.xk(h:WF x)(k:Int×Int)(f:Int)(hf:0≤f∧f<1024):WF (x.xk k f):=by
 unfold za.xk
 split
 ·exact h
 ·refine h.cache _ _ (fun a v ha=>?_) ⟨(Yb _ _ _ h.nd.1).1,(Yb _ _ _ h.nd.2).1⟩
  rw[y8]at ha
  split at ha
  ·cases ha;exact hf
  ·exact h.keys a v ha
theorem WF.y7(h:WF x)(k:Int×Int)(d:Bool):WF (x.y7 k d):=by
 unfold za.y7
 refine h.cache _ _ (fun a v ha=>?_) ⟨by split;exact(Yb _ _ _ h.nd.1).1;exact h.nd.1,h.nd.2⟩
 split at ha
 ·rename_i v0 hv
  rw[y8]at ha
  split at ha
  ·cases ha;exact h.keys k v0 hv
  ·exact h.keys a v ha
 ·exact h.keys a v ha
theorem WF.vg(h:WF x)(k:Int×Int):WF (x.vg k):=by
 unfold za.vg
 refine h.cache _ _ (fun a v ha=>?_) ⟨by split;exact zci h.nd.1 _;exact h.nd.1,by split;exact zci h.nd.2 _;exact h.nd.2⟩
 split at ha
 ·rw[Yc h.nd.1]at ha
  split at ha
  ·cases ha
  ·exact h.keys a v ha
 ·exact h.keys a v ha
theorem WF.disk(h:WF x)(D:zx)(hD:∀s,s<192→(D.cur s).length=64):WF {x with D:=D}:=⟨h.rpt,h.apart,h.Yh,h.back,h.slots,h.bad,h.keys,hD,h.nd⟩
theorem WF.jc(h:WF x)(n:Nat)(at_:Int):WF (x.jc n at_)∧∀m page,page<4096→(x.jc n at_).ent m page=x.ent m page:=by
 unfold za.jc
 cases hp:x.T n with
 | none=>exact⟨h,fun _ _ _=>rfl⟩
 | some pr=>
  dsimp only
  have hT:∀m,(x.put n ⟨pr.T,pr.A,U9 pr.Q ((n:Int),at_)⟩).T m=if m=n then some ⟨pr.T,pr.A,U9 pr.Q ((n:Int),at_)⟩else x.T m:=fun m=>rfl
  have hT2:∀m pm,(x.put n ⟨pr.T,pr.A,U9 pr.Q ((n:Int),at_)⟩).T m=some pm→∃p0,x.T m=some p0∧p0.T=pm.T∧p0.A=pm.A:=fun m pm hm=>by
   rw[hT]at hm
   split at hm
   ·rename_i e;cases hm;exact⟨pr,e▸hp,rfl,rfl⟩
   ·exact⟨pm,hm,rfl,rfl⟩
  have own:∀m f,(x.put n ⟨pr.T,pr.A,U9 pr.Q ((n:Int),at_)⟩).owns m f→x.owns m f:=fun m f ⟨pm,hm,hf⟩=>by
   obtain⟨p0,a,b,_⟩:=hT2 m pm hm
   exact⟨p0,a,by rw[b];exact hf⟩
  refine⟨⟨fun m pm hm=>?_,fun m k f h1 h2=>h.apart m k f (own m f h1) (own k f h2),fun m pm hm=>?_,h.back,h.slots,h.bad,h.keys,h.secs,h.nd⟩,fun m page hpg=>?_⟩
  ·obtain⟨p0,a,b,_⟩:=hT2 m pm hm
   obtain⟨N,k⟩:=h.rpt m p0 a
   rw[b]at k
   exact⟨N,k⟩
  ·obtain⟨p0,a,_,c⟩:=hT2 m pm hm
   rw[←c]
   exact h.Yh m p0 a
  ·unfold za.ent
   rw[hT]
   by_cases e:m=n
   ·rw[if_pos e,e,hp];rfl
   ·rw[if_neg e];rfl
end
structure Ub(x:za)(pr:yj)(page:Nat)(e:Ent):Prop where
 find:e.kind≠0→∃a,yh pr.A page=some a
 own:∀a,yh pr.A page=some a→e.kind=1→a.kind=1→getL x.CR e.n=none
 file:∀a k,yh pr.A page=some a→e.kind=1→a.kind≠1→getL x.CR e.n=some k→k=za.keyF a page
 shared:∀a,yh pr.A page=some a→e.kind=1→a.kind=2→getL x.CR e.n≠none
 slot:∀a,yh pr.A page=some a→e.kind=2→a.kind≠2
structure OK(F:Nat→Prop)(x:za):Prop where
 wf:WF x
 backE:∀(f n page:Nat),f<1024→n<8→page<4096→(plc n page∈x.B f↔(x.ent n page).kind=1∧(x.ent n page).n=f)
 slotE:∀(k n page:Nat),k<32→n<8→page<4096→(plc n page∈x.S.getD k []↔(x.ent n page).kind=2∧(x.ent n page).n=k)
 useB:∀f:Nat,f<1024→x.B f≠[]→x.P.use f=3∨x.P.use f=4
 anon:∀f:Nat,f<1024→x.P.use f=3→x.B f≠[]∨F f
 table:∀f,f<1024→x.P.use f=2→∃n,x.owns n f
 cached:∀f:Nat,f<1024→(x.P.use f=4↔(getL x.CR f).isSome=true)
 cacheE:∀k f,(∃d,getL x.CL k=some (f,d))↔getL x.CR f=some k
 cacheK:∀k v,getL x.CL k=some v→0≤k.1∧k.1<4∧0≤k.2∧k.2<16
 area:∀n pr page,x.T n=some pr→page<4096→Ub x pr page (x.ent n page)
section
variable {F:Nat→Prop}{x y:za}
theorem OK.mono{F':Nat→Prop}(h:OK F x)(hF:∀f,F f→F' f):OK F' x:=
 ⟨h.wf,h.backE,h.slotE,h.useB,fun f a b=>(h.anon f a b).imp id (hF f),h.table,h.cached,h.cacheE,h.cacheK,h.area⟩
theorem OK.Xg(h:OK F x)(o:∀n,8≤n→x.T n=none){n:Nat}{pr:yj}(hp:x.T n=some pr):n<8:=by
 rcases Nat.lt_or_ge n 8 with h8|h8
 ·exact h8
 ·rw[o n h8]at hp;cases hp
theorem OK.frame(h:OK F x){n page:Nat}(hn:n<8)(hpg:page<4096)(hk:(x.ent n page).kind=1):∃f:Nat,(x.ent n page).n=f∧f<1024∧plc n page∈x.B f∧(x.P.use f=3∨x.P.use f=4)∧x.R.bad f=false:=by
 have hr:=(Ent.ok_n (h.wf.Y8 n hpg)).1 hk
 have hm:=(h.backE (x.ent n page).n.toNat n page (by omega) hn hpg).2 ⟨hk,by omega⟩
 have hu:=h.useB (x.ent n page).n.toNat (by omega) (fun e=>by rw[e]at hm;cases hm)
 exact⟨(x.ent n page).n.toNat,by omega,by omega,hm,hu,h.wf.ji (by omega) (by omega)⟩
theorem zkt(h:OK F x){f:Nat}{q:Int×Int}(hf:f<1024)(hq:q∈x.B f):∃n page,q=plc n page∧n<8∧page<4096∧(x.ent n page).kind=1∧(x.ent n page).n=f:=by
 obtain⟨e,h1,h2⟩:=((h.wf.back f).2 q hq).plc
 rw[e]at hq
 obtain⟨k1,k2⟩:=(h.backE f _ _ hf h1 h2).1 hq
 exact⟨_,_,e,h1,h2,k1,k2⟩
theorem Ym{n:Nat}(hn:x.T n=none)(page:Nat):x.ent n page=Ent.none:=by unfold za.ent;rw[hn]
theorem PutD.done{n page:Nat}{pr:yj}{e:Ent}{c:Int}(d:PutD x n page pr e c y)(hpg:page<4096):c=0→y.ent n page=e:=fun hc=>by
 rw[d.ent n page hpg,if_pos ⟨hc,rfl,rfl⟩]
theorem OK.put(h:OK F x){n page:Nat}{pr:yj}{e:Ent}{c:Int}(d:PutD x n page pr e c y)(hn:n<8)(hp:x.T n=some pr)(hpg:page<4096)(hx:e.kind=1→∃f:Nat,e.n=f∧f<1024∧(x.P.use f=3∨x.P.use f=4))(ha:Ub x pr page e):
  OK (fun f=>F f∧¬(c=0∧e.kind=1∧e.n=f)) y:=by
 have useO:∀f,x.owns n f→x.P.use f=2:=fun f hf=>(h.wf.xn hf).2.1
 have B':∀(f:Nat) m pg,f<1024→m<8→pg<4096→(plc m pg∈y.B f↔(y.ent m pg).kind=1∧(y.ent m pg).n=f):=fun f m pg hf hm hq=>by
  rw[d.memB,d.ent m pg hq]
  by_cases k:c=0∧m=n∧pg=page
  ·obtain⟨k0,rfl,rfl⟩:=k
   have hT:c=0∧m=m∧pg=pg:=⟨k0,rfl,rfl⟩
   rw[if_pos hT]
   by_cases k2:x.ent m pg=e
   ·have hC:¬(c=0∧plc m pg=plc m pg∧x.ent m pg≠e):=fun a=>a.2.2 k2
    rw[if_neg hC,h.backE f m pg hf hm hq,k2]
   ·have hC:c=0∧plc m pg=plc m pg∧x.ent m pg≠e:=⟨k0,rfl,k2⟩
    rw[if_pos hC]
    constructor
    ·rintro(a|⟨a,b⟩)
     ·exact a
     ·exact absurd ((h.backE f m pg hf hm hq).1 b) a
    ·exact .inl
  ·rw[if_neg k,if_neg fun a=>k ⟨a.1,Xi.1 a.2.1⟩]
   exact h.backE f m pg hf hm hq
 have U:∀f:Nat,f<1024→y.P.use f=x.P.use f∨(x.owns n f∨x.P.use f=1)∧(y.P.use f=2∧y.owns n f∨y.P.use f=1)∨(x.P.use f=3∧y.P.use f=1∧y.B f=[]):=fun f hf=>by
  by_cases k:x.owns n f∨x.P.use f=1
  ·refine .inr (.inl ⟨k,?_⟩)
   rw[d.free f k]
   by_cases k2:y.owns n f
   ·rw[if_pos k2];exact .inl ⟨rfl,k2⟩
   ·rw[if_neg k2];exact .inr rfl
  ·have k1:¬x.owns n f:=fun a=>k (.inl a)
   have k2:x.P.use f≠1:=fun a=>k (.inr a)
   have u:=d.use f k1 k2
   split at u
   ·rename_i g
    obtain⟨g0,g1,g2,g3,g4,g5,g6⟩:=g
    refine .inr (.inr ⟨g6,u,?_⟩)
    refine List.eq_nil_iff_forall_not_mem.2 fun q hq=>?_
    rw[d.memB]at hq
    split at hq
    ·rename_i q1
     rcases hq with⟨a,b⟩|⟨a,b⟩
     ·exact g2 ⟨a,by omega⟩
     ·exact a ⟨g1,by omega⟩
    ·rename_i q1
     by_cases q2:q=plc n page
     ·refine q1 ⟨g0,q2,fun e2=>g2 ?_⟩
      rw[e2]at g1
      exact⟨g1,by rw[e2]⟩
     ·have:q∈(x.B f).erase (plc n page):=((h.wf.back f).1.Zy _ _).2 ⟨q2,hq⟩
      rw[g5]at this
      cases this
   ·exact .inl u
 have yB0:∀f:Nat,y.B f≠[]→x.B f=[]→c=0∧e.kind=1∧e.n=f:=fun f h1 h2=>by
  obtain⟨q,hq⟩:=List.exists_mem_of_ne_nil _ h1
  rw[d.memB,h2]at hq
  split at hq
  ·rename_i k
   rcases hq with a|⟨_,a⟩
   ·exact⟨k.1,a⟩
   ·cases a
  ·cases hq
 refine⟨d.wf,B',fun k m pg hk hm hq=>?_,fun f hf hB=>?_,fun f hf hu=>?_,fun f hf hu=>?_,fun f hf=>?_,?_,?_,fun m pm pg hm hq=>?_⟩
 ·rw[d.memS,d.ent m pg hq]
  by_cases g:c=0∧m=n∧pg=page
  ·obtain⟨k0,rfl,rfl⟩:=g
   have hT:c=0∧m=m∧pg=pg:=⟨k0,rfl,rfl⟩
   rw[if_pos hT]
   by_cases k2:x.ent m pg=e
   ·have hC:¬(c=0∧plc m pg=plc m pg∧x.ent m pg≠e):=fun a=>a.2.2 k2
    rw[if_neg hC,h.slotE k m pg hk hm hq,k2]
   ·have hC:c=0∧plc m pg=plc m pg∧x.ent m pg≠e:=⟨k0,rfl,k2⟩
    rw[if_pos hC]
    constructor
    ·rintro(a|⟨a,b⟩)
     ·exact a
     ·exact absurd ((h.slotE k m pg hk hm hq).1 b) a
    ·exact .inl
  ·rw[if_neg g,if_neg fun a=>g ⟨a.1,Xi.1 a.2.1⟩]
   exact h.slotE k m pg hk hm hq
 ·have xu:x.P.use f=3∨x.P.use f=4:=by
   by_cases k:x.B f=[]
   ·obtain⟨_,k1,k2⟩:=yB0 f hB k
    obtain⟨g,hg,_,hu⟩:=hx k1
    have:g=f:=by omega
    rw[←this];exact hu
   ·exact h.useB f hf k
  rcases U f hf with u|⟨u,_⟩|⟨_,_,u⟩
  ·rw[u];exact xu
  ·rcases u with u|u
   ·have:=useO f u;omega
   ·omega
  ·exact absurd u hB
 ·rcases U f hf with u|⟨_,u⟩|⟨_,u,_⟩
  ·rw[u]at hu
   rcases h.anon f hf hu with a|a
   ·left
    obtain⟨q,hq⟩:=List.exists_mem_of_ne_nil _ a
    obtain⟨m,pg,rfl,hm,hpg',e1,e2⟩:=zkt h hf hq
    by_cases k:c=0∧m=n∧pg=page
    ·obtain⟨k0,rfl,rfl⟩:=k
     by_cases k3:e.kind=1∧e.n=f
     ·intro hB
      have:=(B' f m pg hf hm hpg').2 (by rw[d.done hpg' k0];exact k3)
      rw[hB]at this
      cases this
     ·-- another place has it, or it was let go
      by_cases k4:(x.B f).erase (plc m pg)=[]
      ·have k1:¬x.owns m f:=fun a=>by have:=useO f a;omega
       have:=d.use f k1 (by omega)
       rw[if_pos ⟨k0,e1,fun b=>k3 ⟨b.1,b.2.trans e2⟩,e2.symm,hq,k4,hu⟩]at this
       omega
      ·obtain⟨q',hq'⟩:=List.exists_mem_of_ne_nil _ k4
       obtain⟨q1,q2⟩:=((h.wf.back f).1.Zy _ _).1 hq'
       intro hB
       have:=(d.memB f q').2 (by rw[if_neg fun b=>q1 b.2.1];exact q2)
       rw[hB]at this
       cases this
    ·intro hB
     have:=(d.memB f (plc m pg)).2 (by rw[if_neg fun b=>k ⟨b.1,Xi.1 b.2.1⟩];exact hq)
     rw[hB]at this
     cases this
   ·by_cases k:c=0∧e.kind=1∧e.n=f
    ·left
     intro hB
     have:=(B' f n page hf hn hpg).2 (by rw[d.done hpg k.1];exact k.2)
     rw[hB]at this
     cases this
    ·exact .inr ⟨a,k⟩
  ·rcases u with u|u<;>omega
  ·omega
 ·rcases U f hf with u|⟨_,u⟩|⟨_,u,_⟩
  ·rw[u]at hu
   obtain⟨m,hm⟩:=h.table f hf hu
   by_cases k:m=n
   ·subst k
    have:=d.free f (.inl hm)
    rw[u,hu]at this
    by_cases k2:y.owns m f
    ·exact⟨m,k2⟩
    ·rw[if_neg k2]at this;cases this
   ·obtain⟨pm,a,b⟩:=hm
    exact⟨m,pm,by rw[d.oth m k];exact a,b⟩
  ·rcases u with⟨_,u⟩|u
   ·exact⟨n,u⟩
   ·omega
  ·omega
 ·rw[d.keep.2.2,←h.cached f hf]
  rcases U f hf with u|⟨k,u⟩|⟨k,u,_⟩
  ·rw[u]
  ·have:x.P.use f≠4:=by
    rcases k with k|k
    ·have:=useO f k;omega
    ·omega
   rcases u with⟨u,_⟩|u<;>omega
  ·omega
 ·rw[d.keep.2.1,d.keep.2.2];exact h.cacheE
 ·rw[d.keep.2.1];exact h.cacheK
 ·have cr:=d.keep.2.2
  have key:∀p0,x.T m=some p0→p0.A=pm.A→∀e',Ub x p0 pg e'→Ub y pm pg e':=fun p0 _ eA e' a=>by
   refine⟨by rw[←eA];exact a.find,by rw[←eA,cr];exact a.own,by rw[←eA,cr];exact a.file,by rw[←eA,cr];exact a.shared,by rw[←eA];exact a.slot⟩
  obtain⟨p0,hp0,eA⟩:∃p0,x.T m=some p0∧p0.A=pm.A:=by
   by_cases k:m=n
   ·subst k
    obtain⟨T',ht⟩:=d.this
    rw[ht]at hm
    cases hm
    exact⟨pr,hp,rfl⟩
   ·rw[d.oth m k]at hm
    exact⟨pm,hm,rfl⟩
  rw[d.ent m pg hq]
  by_cases k:c=0∧m=n∧pg=page
  ·obtain⟨k0,rfl,rfl⟩:=k
   rw[if_pos ⟨k0,rfl,rfl⟩]
   rw[hp]at hp0
   cases hp0
   exact key pr hp eA e ha
  ·rw[if_neg k]
   exact key p0 hp0 eA _ (h.area m p0 pg hp0 hq)
end
section
open Go Go.RowKit
inductive PV where
 | none
 | lost
 | own (l:List UInt8)
 | file
deriving DecidableEq
def Zc(k:Int×Int):Prop:=0≤k.1∧k.1<4∧0≤k.2∧k.2<16
namespace za
def pv1(x:za)(a:Ar)(e:Ent):PV:=
 if e.kind=3 then .lost
 else if e.kind=2 then .own (x.D.cur (160+e.n.toNat))
 else if e.kind=1 then(if getL x.CR e.n=none then .own (x.R.read e.n.toNat 0 64)else .file)
 else if a.kind=1 then .own (List.replicate 64 0)else .file
def pv(x:za)(n page:Nat):PV:=
 match x.T n with
 | Option.none=>.none
 | some pr=>match yh pr.A (page:Int)with
  | Option.none=>.none
  | some a=>x.pv1 a (x.ent n page)
def Yf(x:za)(k:Int×Int):List UInt8:=match getL x.CL k with|some v=>x.R.read v.1.toNat 0 64|Option.none=>x.D.cur (uh k)
def qy(x:za)(k:Int×Int):Bool:=((getL x.CL k).getD (0,false)).2
end za
structure Same(x y:za):Prop where
 procs:∀n,(y.T n).map (fun pr=>(pr.A,pr.Q))=(x.T n).map (fun pr=>(pr.A,pr.Q))
 pv:∀n page,page<4096→y.pv n page=x.pv n page
 file:∀k,Zc k→y.Yf k=x.Yf k
 cur:y.D.cur=x.D.cur
 qy:∀k,y.qy k=x.qy k
theorem Same.refl(x:za):Same x x:=⟨fun _=>rfl,fun _ _ _=>rfl,fun _ _=>rfl,rfl,fun _=>rfl⟩
theorem Same.trans{x y z:za}(h:Same x y)(k:Same y z):Same x z:=
 ⟨fun n=>(k.procs n).trans (h.procs n),fun n p hp=>(k.pv n p hp).trans (h.pv n p hp),fun q hq=>(k.file q hq).trans (h.file q hq),k.cur.trans h.cur,fun q=>(k.qy q).trans (h.qy q)⟩
section
variable {F:Nat→Prop}{x y:za}
theorem Ya{R R':RamS}{f:Nat}(h:∀i,i<64→R'.b f i=R.b f i):R'.read f 0 64=R.read f 0 64:=by
 unfold RamS.read
 refine List.map_congr_left fun i hi=>?_
 simp at hi
 rw[Nat.zero_add]
 exact h i hi
theorem Yx{n page:Nat}{pr:yj}{a:Ar}(hp:x.T n=some pr)(ha:yh pr.A (page:Int)=some a):x.pv n page=x.pv1 a (x.ent n page):=by
 unfold za.pv
 rw[hp]
 dsimp only
 rw[ha]
theorem Qg{a:Ar}{e:Ent}(hcr:getL y.CR e.n=getL x.CR e.n)(hD:y.D.cur=x.D.cur)(hR:e.kind=1→y.R.read e.n.toNat 0 64=x.R.read e.n.toNat 0 64):y.pv1 a e=x.pv1 a e:=by
 unfold za.pv1
 rw[hcr,hD]
 by_cases k:e.kind=1
 ·rw[hR k]
 ·simp only[if_neg k]
theorem Ug(h:OK F x)(n page:Nat)(hn:n<8)(hpg:page<4096)(hT:(y.T n).map (·.A)=(x.T n).map (·.A))(he:y.ent n page=x.ent n page)(hcr:(x.ent n page).kind=1→getL y.CR (x.ent n page).n=getL x.CR (x.ent n page).n)(hD:(x.ent n page).kind=2→y.D.cur (160+(x.ent n page).n.toNat)=x.D.cur (160+(x.ent n page).n.toNat))
  (hR:∀f i,f<1024→(x.P.use f=3∨x.P.use f=4)→i<64→y.R.b f i=x.R.b f i):y.pv n page=x.pv n page:=by
 unfold za.pv
 cases h1:x.T n with
 | none=>
  rw[h1]at hT
  have:y.T n=none:=by simpa using hT
  rw[this]
 | some pr=>
  rw[h1]at hT
  obtain⟨pr',h2,h3⟩:∃pr',y.T n=some pr'∧pr'.A=pr.A:=by simpa using hT
  rw[h2]
  dsimp only
  rw[h3]
  cases yh pr.A (page:Int)with
  | none=>rfl
  | some a=>
   dsimp only
   rw[he]
   unfold za.pv1
   by_cases k3:(x.ent n page).kind=3
   ·rw[if_pos k3,if_pos k3]
   ·rw[if_neg k3,if_neg k3]
    by_cases k2:(x.ent n page).kind=2
    ·rw[if_pos k2,if_pos k2,hD k2]
    ·rw[if_neg k2,if_neg k2]
     by_cases k1:(x.ent n page).kind=1
     ·rw[if_pos k1,if_pos k1,hcr k1]
      obtain⟨f,e1,e2,_,e3,_⟩:=h.frame hn hpg k1
      have e4:(x.ent n page).n.toNat=f:=by omega
      rw[e4,Ya fun i hi=>hR f i e2 e3 hi]
     ·rw[if_neg k1,if_neg k1]
theorem OK.Jh(h:OK F x){k:Int×Int}{v:Int×Bool}(hk:getL x.CL k=some v):∃f:Nat,v.1=f∧f<1024∧x.P.use f=4∧getL x.CR v.1=some k∧x.R.bad f=false:=by
 have hr:=h.wf.keys k v hk
 have hc:=(h.cacheE k v.1).1 ⟨v.2,hk⟩
 have hu:=(h.cached v.1.toNat (by omega)).2 (by rw[show((v.1.toNat:Nat):Int)=v.1 by omega,hc];rfl)
 exact⟨v.1.toNat,by omega,by omega,hu,hc,h.wf.ji (by omega) (by omega)⟩
theorem X8(h:OK F x)(k:Int×Int)(hC:y.CL=x.CL)(hD:y.D.cur (za.uh k)=x.D.cur (za.uh k))(hR:∀f i,f<1024→x.P.use f=4→i<64→y.R.b f i=x.R.b f i):y.Yf k=x.Yf k:=by
 unfold za.Yf
 rw[hC]
 cases hk:getL x.CL k with
 | none=>exact hD
 | some v=>
  obtain⟨f,e1,e2,e3,_,_⟩:=h.Jh hk
  dsimp only
  rw[show v.1.toNat=f by omega]
  exact Ya fun i hi=>hR f i e2 e3 hi
theorem OK.zdn(h:OK F x){n page:Nat}{pr:yj}{e:Ent}{c:Int}(d:PutD x n page pr e c y)(hp:x.T n=some pr)(hpg:page<4096)(hv:c=0→∀a,yh pr.A (page:Int)=some a→y.pv1 a e=x.pv1 a (x.ent n page))(o:∀n,8≤n→x.T n=none):Same x y:=by
 have hR:∀f i,f<1024→(x.P.use f=3∨x.P.use f=4)→i<64→y.R.b f i=x.R.b f i:=fun f i hf hu hi=>d.bytes f i (by omega) fun ho=>by have:=(h.wf.xn ho).2.1;omega
 have hA:∀m,(y.T m).map (fun pr=>(pr.A,pr.Q))=(x.T m).map (fun pr=>(pr.A,pr.Q)):=fun m=>by
  by_cases k:m=n
  ·subst k
   obtain⟨T',ht⟩:=d.this
   rw[ht,hp]
   rfl
  ·rw[d.oth m k]
 have hA1:∀m,(y.T m).map (·.A)=(x.T m).map (·.A):=fun m=>by
  have:=congrArg (Option.map Prod.fst) (hA m)
  simpa[Option.map_map,Function.comp_def]using this
 refine⟨hA,fun m pg hq=>?_,fun k hk=>X8 h k d.keep.2.1 (by rw[d.keep.1]) fun f i a b c=>hR f i a (.inr b) c,by rw[d.keep.1],fun k=>by unfold za.qy;rw[d.keep.2.1]⟩
 by_cases k:c=0∧m=n∧pg=page
 ·obtain⟨k0,rfl,rfl⟩:=k
  obtain⟨T',ht⟩:=d.this
  cases ha:yh pr.A (pg:Int)with
  | none=>
   unfold za.pv
   rw[ht,hp]
   dsimp only
   rw[ha]
  | some a=>
   rw[Yx hp ha,Yx ht ha,d.done hpg k0]
   exact hv k0 a ha
 ·have he:y.ent m pg=x.ent m pg:=by rw[d.ent m pg hq,if_neg k]
  by_cases hm:m<8
  ·exact Ug h m pg hm hq (hA1 m) he (fun _=>by rw[d.keep.2.2]) (fun _=>by rw[d.keep.1]) hR
  ·have h1:=o m (by omega)
   have h2:y.T m=none:=by
    have:=hA m
    rw[h1]at this
    simpa using this
   unfold za.pv
   rw[h1,h2]
end
end
structure jm(k:Nat)(x y:za):Prop where
 zone:y.P.zone=x.P.zone∧y.P.iso=x.P.iso
 room:x.P.room≤y.P.room+k
 bad:y.R.bad=x.R.bad
 fix:∀f v,v=0∨v=5∨v=6→(y.P.use f=v↔x.P.use f=v)
 some:∀n,(y.T n).isSome=(x.T n).isSome
theorem jm.refl(x:za):jm 0 x x:=⟨⟨rfl,rfl⟩,by omega,rfl,fun _ _ _=>Iff.rfl,fun _=>rfl⟩
theorem jm.trans{j k:Nat}{x y z:za}(h:jm j x y)(g:jm k y z):jm (j+k) x z:=
 ⟨⟨g.zone.1.trans h.zone.1,g.zone.2.trans h.zone.2⟩,by have:=h.room;have:=g.room;omega,g.bad.trans h.bad,fun f v hv=>(g.fix f v hv).trans (h.fix f v hv),fun n=>(g.some n).trans (h.some n)⟩
theorem jm.mono{j k:Nat}{x y:za}(h:jm j x y)(hk:j≤k):jm k x y:=⟨h.zone,by have:=h.room;omega,h.bad,h.fix,h.some⟩
theorem room_le(P:zk)(f u:Nat)(hu:u≠1)(hf:f<1024):P.room≤(P.set f u).room+1:=by
 by_cases ha:P.Y3 f=true
 ·rw[zet hf ha hu];exact Nat.le_refl _
 ·unfold zk.room
  have:(List.range 1024).countP P.Y3≤(List.range 1024).countP (P.set f u).Y3:=by
   refine List.countP_mono_left fun g _ hg=>?_
   have hgf:g≠f:=fun e=>ha (e▸hg)
   unfold zk.Y3 at hg⊢
   have e:(P.set f u).use g=P.use g:=if_neg hgf
   rw[e]
   exact hg
  omega
theorem zhj{P Q:zk}(hz:Q.zone=P.zone∧Q.iso=P.iso)(h:∀g,P.use g=1→Q.use g=1):P.room≤Q.room:=by
 unfold zk.room
 refine List.countP_mono_left fun g _ hg=>?_
 simp only[zk.Y3,decide_eq_true_eq]at hg⊢
 rw[hz.1,hz.2]
 exact⟨h g hg.1,hg.2⟩
theorem jo{P:zk}(h:P.next true=none):P.room=0:=by
 refine Q9 ?_
 unfold zk.next at h⊢
 split at h
 ·cases h
 ·simpa using h
section
variable {F:Nat→Prop}{x y:za}
theorem NewF.keeps{u f:Nat}{l:List UInt8}(d:NewF x u f l y)(hu:u=3∨u=4):jm 1 x y:=by
 refine⟨by rw[d.pool];exact⟨rfl,rfl⟩,by rw[d.pool];exact room_le _ _ _ (by omega) d.was.1,d.bad,fun g v hv=>?_,fun n=>by rw[d.keep.1]⟩
 rw[d.pool]
 show(if g=f then u else x.P.use g)=v↔_
 split
 ·rename_i e;have:=d.was.2;rw[e];omega
 ·exact Iff.rfl
theorem zbp.keeps(d:zbp x y):jm 0 x y:=⟨by rw[d.pool];exact⟨rfl,rfl⟩,by rw[d.pool];omega,by rw[d.ram],fun g v hv=>by rw[d.pool],fun n=>by rw[d.keep.1]⟩
theorem zbp.ok(h:OK F x)(d:zbp x y):OK F y∧Same x y:=by
 obtain⟨kT,kB,kS,kC,kR⟩:=d.keep
 have own:∀n f,y.owns n f↔x.owns n f:=fun n f=>by unfold za.owns;rw[kT]
 refine⟨⟨d.wf,fun f n page h1 h2 h3=>by rw[kB,d.ent n page h3];exact h.backE f n page h1 h2 h3,fun k n page h1 h2 h3=>by rw[kS,d.ent n page h3];exact h.slotE k n page h1 h2 h3,fun f h1 h2=>by rw[d.pool];rw[kB]at h2;exact h.useB f h1 h2,fun f h1 h2=>by rw[kB];rw[d.pool]at h2;exact h.anon f h1 h2,fun f h1 h2=>by rw[d.pool]at h2;obtain⟨n,hn⟩:=h.table f h1 h2;exact⟨n,(own n f).2 hn⟩,fun f h1=>by rw[d.pool,kR];exact h.cached f h1,by rw[kC,kR];exact h.cacheE,by rw[kC];exact h.cacheK,fun n pr page h1 h2=>?_⟩,⟨fun n=>by rw[kT],fun n page hpg=>?_,fun k _=>by unfold za.Yf;rw[kC,d.ram,d.cur],d.cur,fun k=>by unfold za.qy;rw[kC]⟩⟩
 ·rw[kT]at h1
  have a:=h.area n pr page h1 h2
  rw[d.ent n page h2]
  exact⟨a.find,by rw[kR];exact a.own,by rw[kR];exact a.file,by rw[kR];exact a.shared,a.slot⟩
 ·unfold za.pv
  rw[kT]
  cases x.T n with
  | none=>rfl
  | some pr=>
   dsimp only
   cases yh pr.A (page:Int)with
   | none=>rfl
   | some a=>
    dsimp only
    rw[d.ent n page hpg]
    exact Qg (by rw[kR]) d.cur (fun _=>by rw[d.ram])
theorem NewF.ok(h:OK F x){f:Nat}{l:List UInt8}(d:NewF x 3 f l y)(o:∀n,8≤n→x.T n=none):OK (fun g=>F g∨g=f) y∧Same x y∧x.B f=[]∧getL x.CR f=none∧y.P.use f=3∧y.R.read f 0 64=l:=by
 obtain⟨kT,kB,kS,kC,kR⟩:=d.keep
 have hB:x.B f=[]:=by
  by_cases e:x.B f=[]
  ·exact e
  ·have:=h.useB f d.was.1 e;have:=d.was.2;omega
 have hC:getL x.CR f=none:=by
  cases e:getL x.CR (f:Int)with
  | none=>rfl
  | some v=>have:=(h.cached f d.was.1).2 (by rw[e];rfl);have:=d.was.2;omega
 have hu:∀g,y.P.use g=if g=f then 3 else x.P.use g:=fun g=>by rw[d.pool];rfl
 have own:∀n f,y.owns n f↔x.owns n f:=fun n f=>by unfold za.owns;rw[kT]
 have hRd:∀g i,g<1024→(x.P.use g=3∨x.P.use g=4)→i<64→y.R.b g i=x.R.b g i:=fun g i _ hg _=>by
  rw[d.bytes,if_neg]
  rintro⟨rfl,_⟩
  have:=d.was.2;omega
 refine⟨⟨d.wf,fun g n page h1 h2 h3=>by rw[kB,d.ent n page h3];exact h.backE g n page h1 h2 h3,fun k n page h1 h2 h3=>by rw[kS,d.ent n page h3];exact h.slotE k n page h1 h2 h3,fun g h1 h2=>?_,fun g h1 h2=>?_,fun g h1 h2=>?_,fun g h1=>?_,by rw[kC,kR];exact h.cacheE,by rw[kC];exact h.cacheK,fun n pr page h1 h2=>?_⟩,⟨fun n=>by rw[kT],fun n page hpg=>?_,fun k _=>X8 h k kC (by rw[d.cur]) fun g i a b c=>hRd g i a (.inr b) c,d.cur,fun k=>by unfold za.qy;rw[kC]⟩,hB,hC,by rw[hu,if_pos rfl],?_⟩
 ·rw[hu,kB]at *
  have:g≠f:=fun e=>h2 (by rw[e];exact hB)
  rw[if_neg this]
  exact h.useB g h1 h2
 ·rw[hu]at h2
  rw[kB]
  split at h2
  ·exact .inr (.inr ‹_›)
  ·exact(h.anon g h1 h2).imp id .inl
 ·rw[hu]at h2
  split at h2
  ·cases h2
  ·obtain⟨n,hn⟩:=h.table g h1 h2
   exact⟨n,(own n g).2 hn⟩
 ·rw[hu,kR]
  split
  ·rename_i e
   rw[e,hC]
   simp
  ·exact h.cached g h1
 ·rw[kT]at h1
  have a:=h.area n pr page h1 h2
  rw[d.ent n page h2]
  exact⟨a.find,by rw[kR];exact a.own,by rw[kR];exact a.file,by rw[kR];exact a.shared,a.slot⟩
 ·by_cases hn:n<8
  ·exact Ug h n page hn hpg (by rw[kT]) (d.ent n page hpg) (fun _=>by rw[kR]) (fun _=>by rw[d.cur]) hRd
  ·unfold za.pv
   rw[kT,o n (by omega)]
 ·refine List.ext_getElem? fun i=>?_
  unfold RamS.read
  by_cases hi:i<64
  ·simp only[List.getElem?_map,List.getElem?_range hi,Option.map_some]
   rw[d.bytes,if_pos ⟨rfl,by omega⟩,Nat.zero_add,List.getD_eq_getElem?_getD,List.getElem?_eq_getElem (by rw[d.len];exact hi)]
   rfl
  ·rw[List.getElem?_eq_none (by simp;omega),List.getElem?_eq_none (by rw[d.len];omega)]
theorem uq(y:za)(f:Int):(y.uw f).T=y.T∧(y.uw f).B=y.B∧(y.uw f).S=y.S∧(y.uw f).CL=y.CL∧(y.uw f).CR=y.CR∧(y.uw f).D=y.D∧(y.uw f).R=y.R∧(y.uw f).P=y.P.free f:=by
 unfold za.uw
 refine⟨?_,?_,?_,?_,?_,?_,?_,?_⟩<;>dsimp only
theorem OK.zi0{f:Nat}(h:OK (fun g=>F g∨g=f) y)(hf:f<1024)(hu:y.P.use f=3)(hB:y.B f=[])(o:∀n,8≤n→y.T n=none):OK F (y.uw (f:Int))∧Same y (y.uw (f:Int))∧jm 0 y (y.uw (f:Int)):=by
 have eP:(y.uw (f:Int)).P=y.P.set f 1:=by
  rw[(uq y f).2.2.2.2.2.2.2]
  unfold zk.free
  rw[if_pos,Int.toNat_natCast]
  unfold zk.used
  rw[decide_eq_true_eq,Int.toNat_natCast,hu]
  omega
 have u:∀g,(y.uw (f:Int)).P.use g=if g=f then 1 else y.P.use g:=fun g=>by rw[eP];rfl
 obtain⟨kT,kB,kS,kC,kR,kD,kM,_⟩:=uq y (f:Int)
 have k:=h.wf.chg (y:=y.uw (f:Int)) (f:=f) (u:=1) (by omega) (fun _=>.inl (h.wf.ji hf (by omega))) kT kB kS kC kR (by rw[kD]) u (by rw[kM]) fun _ _ _=>by rw[kM]
 have own:∀n g,(y.uw (f:Int)).owns n g↔y.owns n g:=fun n g=>by unfold za.owns;rw[kT]
 have hC:getL y.CR f=none:=by
  cases e:getL y.CR (f:Int)with
  | none=>rfl
  | some v=>have:=(h.cached f hf).2 (by rw[e];rfl);omega
 have hroom:y.P.room≤(y.uw (f:Int)).P.room:=zhj (by rw[eP];exact⟨rfl,rfl⟩) fun g hg=>by
  rw[u];split
  ·rfl
  ·exact hg
 refine⟨⟨k.1,fun g n page h1 h2 h3=>by rw[k.2 n page h3,kB];exact h.backE g n page h1 h2 h3,fun q n page h1 h2 h3=>by rw[k.2 n page h3,kS];exact h.slotE q n page h1 h2 h3,fun g h1 h2=>?_,fun g h1 h2=>?_,fun g h1 h2=>?_,fun g h1=>?_,by rw[kC,kR];exact h.cacheE,by rw[kC];exact h.cacheK,fun n pr page h1 h2=>?_⟩,⟨fun n=>by rw[kT],fun n page hpg=>?_,fun _ _=>by unfold za.Yf;rw[kC,kM,kD],by rw[kD],fun _=>by unfold za.qy;rw[kC]⟩,⟨by rw[eP];exact⟨rfl,rfl⟩,by omega,by rw[kM],fun g v hv=>?_,fun _=>by rw[kT]⟩⟩
 ·rw[kB]at h2
  have:g≠f:=fun e=>h2 (by rw[e];exact hB)
  rw[u,if_neg this]
  exact h.useB g h1 h2
 ·rw[u]at h2
  split at h2
  ·cases h2
  ·rename_i e
   rw[kB]
   exact(h.anon g h1 h2).imp id fun a=>a.resolve_right e
 ·rw[u]at h2
  split at h2
  ·cases h2
  ·obtain⟨n,hn⟩:=h.table g h1 h2
   exact⟨n,(own n g).2 hn⟩
 ·rw[u,kR]
  split
  ·rename_i e
   subst e
   rw[hC]
   simp
  ·exact h.cached g h1
 ·rw[kT]at h1
  have a:=h.area n pr page h1 h2
  rw[k.2 n page h2]
  exact⟨a.find,by rw[kR];exact a.own,by rw[kR];exact a.file,by rw[kR];exact a.shared,a.slot⟩
 ·by_cases hn:n<8
  ·exact Ug h n page hn hpg (by rw[kT]) (k.2 n page hpg) (fun _=>by rw[kR]) (fun _=>by rw[kD]) fun _ _ _ _ _=>by rw[kM]
  ·unfold za.pv
   rw[kT,o n (by omega)]
 ·rw[u];split
  ·rename_i e;rw[e];omega
  ·exact Iff.rfl
structure Stay(x y:za):Prop where
 ent1:∀m pg,pg<4096→(x.ent m pg).kind=1→y.ent m pg=x.ent m pg
 backs:∀f:Nat,f<1024→x.P.use f=3→x.B f≠[]→y.B f=x.B f∧y.P.use f=3
 cr:∀f k,getL x.CR f=some k→getL y.CR f=some k
theorem Stay.refl(x:za):Stay x x:=⟨fun _ _ _ _=>rfl,fun _ _ h _=>⟨rfl,h⟩,fun _ _ h=>h⟩
theorem Stay.trans{x y z:za}(h:Stay x y)(k:Stay y z):Stay x z:=
 ⟨fun m pg hp hk=>by
  have e:=h.ent1 m pg hp hk
  rw[k.ent1 m pg hp (by rw[e];exact hk),e],fun f hf hu hB=>by
  obtain⟨a,b⟩:=h.backs f hf hu hB
  obtain⟨c,d⟩:=k.backs f hf b (by rw[a];exact hB)
  exact⟨c.trans a,d⟩,fun f q hq=>k.cr f q (h.cr f q hq)⟩
theorem zbp.stay(d:zbp x y):Stay x y:=⟨fun m pg hp _=>d.ent m pg hp,fun f _ hu _=>⟨by rw[d.keep.2.1],by rw[d.pool];exact hu⟩,fun f k hk=>by rw[d.keep.2.2.2.2];exact hk⟩
theorem NewF.stay{u f:Nat}{l:List UInt8}(d:NewF x u f l y):Stay x y:=⟨fun m pg hp _=>d.ent m pg hp,fun g _ hu _=>⟨by rw[d.keep.2.1],by
 rw[d.pool]
 show(if g=f then u else x.P.use g)=3
 rw[if_neg]
 ·exact hu
 ·intro e;rw[e]at hu;have:=d.was.2;omega⟩,fun f k hk=>by rw[d.keep.2.2.2.2];exact hk⟩
theorem PutD.others{n page:Nat}{pr:yj}{e:Ent}{c:Int}(h:WF x)(d:PutD x n page pr e c y)(hold:(x.ent n page).kind≠1∨e=x.ent n page)(f:Nat)(hf:f<1024)(hu:x.P.use f=3)(hne:¬(e.kind=1∧e.n=f)∨e=x.ent n page):y.B f=x.B f∧y.P.use f=3:=by
 have hno:¬x.owns n f:=fun ho=>by have:=(h.xn ho).2.1;omega
 refine⟨?_,?_⟩
 ·refine um (d.wf.back f).1 (h.back f).1 ?_
  refine(List.perm_ext_iff_of_nodup (d.wf.back f).1.nodup (h.back f).1.nodup).2 fun q=>?_
  rw[d.memB]
  split
  ·rename_i g
   have h1:(x.ent n page).kind≠1:=hold.resolve_right fun a=>g.2.2 a.symm
   have h2:¬(e.kind=1∧e.n=f):=hne.resolve_right fun a=>g.2.2 a.symm
   exact⟨fun a=>a.elim (fun b=>absurd b h2) fun b=>b.2,fun a=>.inr ⟨fun b=>h1 b.1,a⟩⟩
  ·exact Iff.rfl
 ·rw[d.use f hno (by omega),if_neg]
  ·exact hu
  ·rintro⟨_,a,b,_⟩
   rcases hold with k|k
   ·exact k a
   ·exact b ⟨by rw[k];exact a,by rw[k]⟩
theorem PutD.keeps{n page:Nat}{pr:yj}{e:Ent}{c:Int}(d:PutD x n page pr e c y)(h:WF x)(hp:x.T n=some pr):jm 3 x y:=by
 refine⟨⟨d.zone,d.iso⟩,d.room,d.bad,fun f v hv=>?_,fun m=>?_⟩
 ·by_cases k:x.owns n f∨x.P.use f=1
  ·have h1:x.P.use f≠v:=by
    rcases k with k|k
    ·have:=(h.xn k).2.1;omega
    ·omega
   have h2:y.P.use f≠v:=by
    rw[d.free f k]
    split<;>omega
   exact⟨fun e=>absurd e h2,fun e=>absurd e h1⟩
  ·have k1:¬x.owns n f:=fun a=>k (.inl a)
   have k2:x.P.use f≠1:=fun a=>k (.inr a)
   rw[d.use f k1 k2]
   split
   ·rename_i g
    have:=g.2.2.2.2.2.2
    omega
   ·exact Iff.rfl
 ·by_cases k:m=n
  ·obtain⟨T',ht⟩:=d.this
   rw[k,ht,hp]
   rfl
  ·rw[d.oth m k]
theorem PutD.zik{n page:Nat}{pr:yj}{e:Ent}{c:Int}(d:PutD x n page pr e c y)(h:WF x)(hp:x.T n=some pr)(hk:(x.ent n page).kind≠0∨e=Ent.none):c=0∧jm 0 x y:=by
 have k:=d.keeps h hp
 have:=d.less hk
 exact⟨this.1,k.zone,by omega,k.bad,k.fix,k.some⟩
end
structure Got(F:Nat→Prop)(k:Nat)(x:za)(c:Int)(y:za):Prop where
 ok:OK F y
 same:Same x y
 keeps:jm k x y
 code:c=0∨(c=4∧x.P.room<k)∨(c=(x.D.work.2:Int)∧x.D.work.2≠0)
 disk:y.D=x.D∨y.D=x.D.work.1
 stay:Stay x y
section
variable {F:Nat→Prop}{x y:za}
theorem Xz{k:Int×Int}(hk:Zc k):za.uh k<192:=by
 unfold Zc at hk
 unfold za.uh
 omega
theorem Same.out(h:Same x y)(o:∀n,8≤n→x.T n=none):∀n,8≤n→y.T n=none:=fun n hn=>by
 have:=h.procs n
 rw[o n hn]at this
 simpa using this
theorem Same.proc(h:Same x y){n:Nat}{pr:yj}(hp:x.T n=some pr):∃T',y.T n=some ⟨T',pr.A,pr.Q⟩:=by
 have:=h.procs n
 rw[hp]at this
 obtain⟨p',h1,h2⟩:=Option.map_eq_some_iff.1 this
 obtain⟨a,b,c⟩:=p'
 simp only[Prod.mk.injEq]at h2
 exact⟨a,by rw[h1,h2.1,h2.2]⟩
theorem OK.uf(h:OK F x)(o:∀n,8≤n→x.T n=none){k:Int×Int}(hk:Zc k):
  Got F 1 x (x.uf k).1.2 (x.uf k).2∧(x.uf k).2.T=x.T∧(∀n page,page<4096→(x.uf k).2.ent n page=x.ent n page)∧
   ((x.uf k).1.2=0→∃f:Nat,(x.uf k).1.1=f∧f<1024∧(x.uf k).2.P.use f=4∧getL (x.uf k).2.CR f=some k):=by
 unfold za.uf
 cases hL:getL x.CL k with
 | some v=>
  dsimp only
  obtain⟨f,e1,e2,e3,e4,_⟩:=h.Jh hL
  exact⟨⟨h,Same.refl x,(jm.refl x).mono (Nat.zero_le _),.inl rfl,.inl rfl,Stay.refl x⟩,rfl,fun _ _ _=>rfl,fun _=>⟨f,e1,e2,e3,by rw[←e1];exact e4⟩⟩
 | none=>
  dsimp only
  rcases h.wf.zw 4 (za.uh k) (by omega) (by omega) (h.wf.secs _ (Xz hk))with⟨hn,e⟩|⟨f,hn,hw,e,d,hD⟩|⟨f,hn,hw,e,d,hD⟩
  ·rw[e]
   dsimp only
   rw[if_neg (by simp)]
   exact⟨⟨h,Same.refl x,(jm.refl x).mono (Nat.zero_le _),.inr (.inl ⟨rfl,by have:=jo hn;omega⟩),.inl rfl,Stay.refl x⟩,rfl,fun _ _ _=>rfl,fun e=>by simp at e⟩
  ·obtain⟨y,hy⟩:∃y,y=(x.zw 4 (za.uh k)).2:=⟨_,rfl⟩
   rw[←hy]at d hD⊢
   rw[e]
   dsimp only
   rw[if_pos rfl]
   clear hy
   have hC:getL x.CR f=none:=by
    cases e:getL x.CR (f:Int)with
    | none=>rfl
    | some v=>have:=(h.cached f d.was.1).2 (by rw[e];rfl);have:=d.was.2;omega
   have hB:x.B f=[]:=by
    by_cases e:x.B f=[]
    ·exact e
    ·have:=h.useB f d.was.1 e;have:=d.was.2;omega
   obtain⟨kT,kB,kS,kC,kR⟩:=d.keep
   obtain⟨z,hz⟩:∃z,z=y.xk k (f:Int):=⟨_,rfl⟩
   have ez:z={y with CL:=updL x.CL k ((f:Int),false),CR:=updL x.CR (f:Int) k}:=by
    rw[hz]
    unfold za.xk
    rw[kC,kR,hL,hC,if_neg (by simp)]
   have wz:WF z:=by rw[hz];exact d.wf.xk k f ⟨by omega,by have:=d.was.1;omega⟩
   have zT:z.T=x.T:=by rw[ez];exact kT
   have zB:z.B=x.B:=by rw[ez];exact kB
   have zS:z.S=x.S:=by rw[ez];exact kS
   have zR:z.R=y.R:=by rw[ez]
   have zP:z.P=y.P:=by rw[ez]
   have zD:z.D=y.D:=by rw[ez]
   have zL:z.CL=updL x.CL k ((f:Int),false):=by rw[ez]
   have zC:z.CR=updL x.CR (f:Int) k:=by rw[ez]
   have ze:∀n page,page<4096→z.ent n page=x.ent n page:=fun n page hpg=>by
    rw[←d.ent n page hpg]
    unfold za.ent
    rw[zT,zR,kT]
   rw[←hz]
   clear hz ez
   have hu:∀g,z.P.use g=if g=f then 4 else x.P.use g:=fun g=>by rw[zP,d.pool];rfl
   have own:∀n f,z.owns n f↔x.owns n f:=fun n f=>by unfold za.owns;rw[zT]
   have hRd:∀g i,g<1024→(x.P.use g=3∨x.P.use g=4)→i<64→z.R.b g i=x.R.b g i:=fun g i _ hg _=>by
    rw[zR,d.bytes,if_neg]
    rintro⟨rfl,_⟩
    have:=d.was.2;omega
   have hcr:∀n page,n<8→page<4096→(x.ent n page).kind=1→getL z.CR (x.ent n page).n=getL x.CR (x.ent n page).n:=fun n page hn hpg hk1=>by
    obtain⟨g,e1,e2,_,e3,_⟩:=h.frame hn hpg hk1
    rw[zC,y8,if_neg]
    intro e4
    have:g=f:=by omega
    rw[this]at e3
    have:=d.was.2;omega
   have zcur:z.D.cur=x.D.cur:=by rw[zD,d.cur]
   have hRf:z.R.read f 0 64=x.D.cur (za.uh k):=by
    refine List.ext_getElem? fun i=>?_
    unfold RamS.read
    by_cases hi:i<64
    ·simp only[List.getElem?_map,List.getElem?_range hi,Option.map_some]
     rw[zR,d.bytes,if_pos ⟨rfl,by omega⟩,Nat.zero_add,List.getD_eq_getElem?_getD,List.getElem?_eq_getElem (by rw[d.len];exact hi)]
     rfl
    ·rw[List.getElem?_eq_none (by simp;omega),List.getElem?_eq_none (by rw[d.len];omega)]
   refine⟨⟨⟨wz,fun g n page h1 h2 h3=>by rw[zB,ze n page h3];exact h.backE g n page h1 h2 h3,fun q n page h1 h2 h3=>by rw[zS,ze n page h3];exact h.slotE q n page h1 h2 h3,fun g h1 h2=>?_,fun g h1 h2=>?_,fun g h1 h2=>?_,fun g h1=>?_,fun q g=>?_,fun q v hq=>?_,fun n pr page h1 h2=>?_⟩,⟨fun n=>by rw[zT],fun n page hpg=>?_,fun q hq=>?_,zcur,fun q=>?_⟩,⟨by rw[zP,d.pool];exact⟨rfl,rfl⟩,by rw[zP,d.pool];exact room_le _ _ _ (by omega) d.was.1,by rw[zR,d.bad],fun g v hv=>?_,fun n=>by rw[zT]⟩,.inl rfl,.inr (by rw[zD,hD]),⟨fun m pg hp _=>ze m pg hp,fun g _ hg _=>⟨by rw[zB],by rw[hu,if_neg (fun e=>by have:=d.was.2;rw[e]at hg;omega)];exact hg⟩,fun g q hq=>by rw[zC,y8,if_neg (fun e=>by rw[e,hC]at hq;cases hq)];exact hq⟩⟩,zT,ze,fun _=>⟨f,rfl,d.was.1,by rw[hu,if_pos rfl],by rw[zC,y8,if_pos rfl]⟩⟩
   ·rw[zB]at h2
    have:g≠f:=fun e=>h2 (by rw[e];exact hB)
    rw[hu,if_neg this]
    exact h.useB g h1 h2
   ·rw[hu]at h2
    rw[zB]
    split at h2
    ·cases h2
    ·exact h.anon g h1 h2
   ·rw[hu]at h2
    split at h2
    ·cases h2
    ·obtain⟨n,hn⟩:=h.table g h1 h2
     exact⟨n,(own n g).2 hn⟩
   ·rw[hu,zC,y8]
    by_cases e:g=f
    ·rw[if_pos e,if_pos (by omega)]
     simp
    ·rw[if_neg e,if_neg (by omega)]
     exact h.cached g h1
   ·rw[zL,zC,y8,y8]
    by_cases e1:q=k
    ·subst e1
     rw[if_pos rfl]
     by_cases e2:g=(f:Int)
     ·rw[if_pos e2,e2]
      exact⟨fun _=>rfl,fun _=>⟨false,rfl⟩⟩
     ·rw[if_neg e2]
      constructor
      ·rintro⟨d,hd⟩
       simp at hd
       exact absurd hd.1.symm e2
      ·intro hd
       obtain⟨d,hd⟩:=(h.cacheE q g).2 hd
       rw[hL]at hd
       cases hd
    ·rw[if_neg e1]
     by_cases e2:g=(f:Int)
     ·rw[if_pos e2]
      constructor
      ·intro hd
       have:=(h.cacheE q g).1 hd
       rw[e2,hC]at this
       cases this
      ·intro hd
       simp at hd
       exact absurd hd.symm e1
     ·rw[if_neg e2]
      exact h.cacheE q g
   ·rw[zL,y8]at hq
    split at hq
    ·rename_i e;rw[e];exact hk
    ·exact h.cacheK q v hq
   ·rw[zT]at h1
    have a:=h.area n pr page h1 h2
    rw[ze n page h2]
    have cr:=hcr n page (h.Xg o h1) h2
    exact⟨a.find,fun b h3 h4 h5=>by rw[cr h4];exact a.own b h3 h4 h5,fun b q h3 h4 h5 h6=>by rw[cr h4]at h6;exact a.file b q h3 h4 h5 h6,fun b h3 h4 h5=>by rw[cr h4];exact a.shared b h3 h4 h5,a.slot⟩
   ·by_cases hn:n<8
    ·exact Ug h n page hn hpg (by rw[zT]) (ze n page hpg) (hcr n page hn hpg) (fun _=>by rw[zcur]) hRd
    ·unfold za.pv
     rw[zT,o n (by omega)]
   ·by_cases e1:q=k
    ·unfold za.Yf
     rw[e1,zL,y8,if_pos rfl,hL]
     dsimp only
     rw[Int.toNat_natCast]
     exact hRf
    ·unfold za.Yf
     rw[zL,y8,if_neg e1,zcur]
     cases hq2:getL x.CL q with
     | none=>rfl
     | some v=>
      dsimp only
      obtain⟨g,e2,e3,e4,_,_⟩:=h.Jh hq2
      rw[show v.1.toNat=g by omega]
      exact Ya fun i hi=>hRd g i e3 (.inr e4) hi
   ·unfold za.qy
    rw[zL,y8]
    split
    ·rename_i e;rw[e,hL];rfl
    ·rfl
   ·rw[hu]
    split
    ·rename_i e;have:=d.was.2;rw[e];omega
    ·exact Iff.rfl
  ·have hne:¬(x.zw 4 (za.uh k)).1.2=0:=by rw[e];dsimp only;omega
   rw[if_neg hne]
   have kk:=d.ok h
   exact⟨⟨kk.1,kk.2,d.keeps.mono (Nat.zero_le _),.inr (.inr ⟨by rw[e],hw⟩),.inr hD,d.stay⟩,d.keep.1,d.ent,fun e=>absurd e hne⟩
theorem WF.uf(h:WF x){k:Int×Int}(hk:Zc k):WF (x.uf k).2∧((x.uf k).1.2=0→∃f:Nat,(x.uf k).1.1=f∧f<1024):=by
 unfold za.uf
 cases hL:getL x.CL k with
 | some v=>
  have:=h.keys k v hL
  exact⟨h,fun _=>⟨v.1.toNat,by dsimp only;omega,by omega⟩⟩
 | none=>
  dsimp only
  rcases h.zw 4 (za.uh k) (by omega) (by omega) (h.secs _ (Xz hk))with⟨_,e⟩|⟨f,_,_,e,d,_⟩|⟨f,_,hw,e,d,_⟩
  ·rw[e]
   dsimp only
   rw[if_neg (by simp)]
   exact⟨h,fun e=>by simp at e⟩
  ·have h0:(x.zw 4 (za.uh k)).1.2=0:=by rw[e]
   rw[if_pos h0,e]
   exact⟨d.wf.xk k f ⟨by omega,by have:=d.was.1;omega⟩,fun _=>⟨f,rfl,d.was.1⟩⟩
  ·have hne:¬(x.zw 4 (za.uh k)).1.2=0:=by rw[e];dsimp only;omega
   rw[if_neg hne]
   exact⟨d.wf,fun e=>absurd e hne⟩
theorem Us{pr:yj}{a:Ar}{page:Nat}(hA:OkL pr.A)(ha:yh pr.A (page:Int)=some a)(hk:a.kind≠1):Zc (za.keyF a page):=by
 have h1:=List.mem_of_find?_eq_some ha
 have h2:=hA.1 a h1
 have h3:=List.find?_some ha
 simp only[decide_eq_true_eq]at h3
 unfold Ar.yo at h2
 unfold Zc za.keyF
 dsimp only
 omega
theorem OK.uk(h:OK F x)(o:∀n,8≤n→x.T n=none){n page:Nat}{pr:yj}(hp:x.T n=some pr)(hpg:page<4096){a:Ar}(ha:yh pr.A (page:Int)=some a)(he:(x.ent n page).kind=0):
  Got F 4 x (x.uk n page a).1.2 (x.uk n page a).2∧((x.uk n page a).1.2=0→((x.uk n page a).2.ent n page).kind=1∧((x.uk n page a).2.ent n page).n=(x.uk n page a).1.1):=by
 have hn:=h.Xg o hp
 unfold za.uk
 by_cases hk:a.kind≠1
 ·rw[if_pos hk]
  have hkey:=Us (h.wf.Yh n pr hp).1 ha hk
  obtain⟨g,gT,ge,gf⟩:=h.uf o hkey
  obtain⟨y,hy⟩:∃y,y=(x.uf (za.keyF a page)).2:=⟨_,rfl⟩
  obtain⟨f,c,hfc⟩:∃f c,(x.uf (za.keyF a page)).1=(f,c):=⟨_,_,rfl⟩
  rw[←hy]at g gT ge gf⊢
  rw[hfc]at g gf⊢
  dsimp only at g gf⊢
  clear hy hfc
  by_cases hc:c=0
  ·rw[if_pos hc]
   obtain⟨f0,rfl,hf0,hu,hcr⟩:=gf hc
   have hp':y.T n=some pr:=by rw[gT];exact hp
   have d:=g.ok.wf.putF hn hp' hpg (e:=⟨1,f0,false⟩) (by simp[Ent.ok,most];omega)
   have hA:Ub y pr page ⟨1,f0,false⟩:=by
    refine⟨fun _=>⟨a,ha⟩,fun b hb _ h3=>?_,fun b k hb _ _ h4=>?_,fun b hb _ _ h4=>?_,fun b hb h2=>?_⟩
    ·rw[ha]at hb;cases hb;exact absurd h3 hk
    ·rw[ha]at hb;cases hb;dsimp only at h4;rw[hcr]at h4;cases h4;rfl
    ·dsimp only at h4;rw[hcr]at h4;cases h4
    ·cases h2
   have k:=g.ok.put d hn hp' hpg (fun _=>⟨f0,rfl,hf0,.inr hu⟩) hA
   have stz:Stay y (y.putF n page ⟨1,f0,false⟩).2:=by
    refine⟨fun m pg hq hk1=>?_,fun f1 hf1 hu1 _=>?_,fun f1 k1 hk1=>by rw[d.keep.2.2];exact hk1⟩
    ·rw[d.ent m pg hq,if_neg]
     rintro⟨_,rfl,rfl⟩
     rw[ge _ _ hq]at hk1
     omega
    ·refine d.others g.ok.wf (.inl (by rw[ge n page hpg];omega)) f1 hf1 hu1 (.inl ?_)
     rintro⟨_,e9⟩
     dsimp only at e9
     have e10:f0=f1:=by omega
     rw[e10]at hu
     omega
   have s:=g.ok.zdn d hp' hpg (fun _ b hb=>?_) (g.same.out o)
   ·refine⟨⟨k.mono fun _ h=>h.1,g.same.trans s,(g.keeps.trans (d.keeps g.ok.wf hp')),?_,by rw[d.keep.1];exact g.disk,g.stay.trans stz⟩,fun e=>?_⟩
    ·rcases d.code with e|e
     ·exact .inl e
     ·exact .inr (.inl ⟨e,by have:=(d.full e).1;have:=g.keeps.room;omega⟩)
    ·rw[d.done hpg e]
     exact⟨rfl,rfl⟩
   ·rw[ha]at hb
    cases hb
    unfold za.pv1
    rw[ge n page hpg,he]
    dsimp only
    rw[d.keep.2.2,hcr]
    simp[hk]
  ·rw[if_neg hc]
   refine⟨⟨g.ok,g.same,g.keeps.mono (by omega),?_,g.disk,g.stay⟩,fun e=>absurd e hc⟩
   rcases g.code with e|⟨e,e2⟩|e
   ·exact absurd e hc
   ·exact .inr (.inl ⟨e,by omega⟩)
   ·exact .inr (.inr e)
 ·rw[if_neg hk]
  have hk1:a.kind=1:=by omega
  rcases h.wf.yt 3 with⟨hnx,e⟩|⟨f,hnx,e,d0⟩
  ·rw[e]
   dsimp only
   rw[if_neg (by simp)]
   exact⟨⟨h,Same.refl x,(jm.refl x).mono (by omega),.inr (.inl ⟨rfl,by have:=jo hnx;omega⟩),.inl rfl,Stay.refl x⟩,fun e=>by simp at e⟩
  ·rw[e]
   dsimp only
   rw[if_pos rfl]
   obtain⟨k1,s1,hB,hcr,hu,hrd⟩:=d0.ok h o
   have kp1:=d0.keeps (.inl rfl)
   have e1:=d0.ent
   have st1:=d0.stay
   have kT:=d0.keep.1
   have kR:=d0.keep.2.2.2.2
   have kB:=d0.keep.2.1
   have hf:=d0.was.1
   have hf1:=d0.was.2
   have hD:(x.Xo f 3).D=x.D:=rfl
   obtain⟨y,hy⟩:∃y,y=x.Xo f 3:=⟨_,rfl⟩
   rw[←hy]at k1 s1 hu hrd kp1 e1 st1 kT kR kB hD⊢
   clear hy d0 e
   have hp':y.T n=some pr:=by rw[kT];exact hp
   have d:=k1.wf.putF hn hp' hpg (e:=⟨1,f,a.write⟩) (by simp[Ent.ok,most];omega)
   have hA:Ub y pr page ⟨1,f,a.write⟩:=by
    refine⟨fun _=>⟨a,ha⟩,fun b hb _ h3=>by dsimp only;rw[kR];exact hcr,fun b k hb _ _ h4=>?_,fun b hb _ h3=>?_,fun b hb h2=>?_⟩
    ·dsimp only at h4;rw[kR,hcr]at h4;cases h4
    ·rw[ha]at hb;cases hb;omega
    ·cases h2
   have k:=k1.put d hn hp' hpg (fun _=>⟨f,rfl,hf,.inl hu⟩) hA
   have s:=k1.zdn d hp' hpg (fun _ b hb=>?_) (s1.out o)
   ·have stX:∀z:za,(∀m pg,pg<4096→z.ent m pg=(y.putF n page ⟨1,f,a.write⟩).2.ent m pg)→z.B=(y.putF n page ⟨1,f,a.write⟩).2.B→z.CR=(y.putF n page ⟨1,f,a.write⟩).2.CR→(∀g,g≠f→z.P.use g=(y.putF n page ⟨1,f,a.write⟩).2.P.use g)→Stay x z:=fun z z1 z2 z3 z4=>by
     refine⟨fun m pg hq hk2=>?_,fun f2 hf2 hu2 hB2=>?_,fun f2 k2 hk2=>?_⟩
     ·rw[z1 m pg hq,d.ent m pg hq,if_neg,e1 m pg hq]
      rintro⟨_,rfl,rfl⟩
      omega
     ·have hne:f2≠f:=fun e=>by rw[e]at hu2;omega
      obtain⟨b1,b2⟩:=st1.backs f2 hf2 hu2 hB2
      obtain⟨c1,c2⟩:=d.others k1.wf (.inl (by rw[e1 n page hpg];omega)) f2 hf2 b2 (.inl (by rintro⟨_,e9⟩;dsimp only at e9;omega))
      rw[z2,z4 f2 hne]
      exact⟨c1.trans b1,c2⟩
     ·rw[z3,d.keep.2.2]
      exact st1.cr f2 k2 hk2
    by_cases hc:(y.putF n page ⟨1,f,a.write⟩).1=0
    ·rw[if_pos hc]
     refine⟨⟨k.mono fun g hg=>?_,s1.trans s,kp1.trans (d.keeps k1.wf hp'),.inl rfl,by rw[d.keep.1];exact .inl hD,stX _ (fun _ _ _=>rfl) rfl rfl fun _ _=>rfl⟩,fun _=>by rw[d.done hpg hc];exact⟨rfl,rfl⟩⟩
     rcases hg.1 with a|a
     ·exact a
     ·exact absurd ⟨hc,rfl,by rw[a]⟩ hg.2
    ·rw[if_neg hc]
     have hc4:(y.putF n page ⟨1,f,a.write⟩).1=4:=d.code.resolve_left hc
     have hu2:(y.putF n page ⟨1,f,a.write⟩).2.P.use f=3:=by
      rw[d.use f (fun ho=>by have:=(k1.wf.xn ho).2.1;omega) (by omega),if_neg fun q=>hc q.1]
      exact hu
     have hB2:(y.putF n page ⟨1,f,a.write⟩).2.B f=[]:=by
      refine List.eq_nil_iff_forall_not_mem.2 fun q hq=>?_
      rw[d.memB,if_neg fun q=>hc q.1,kB,hB]at hq
      cases hq
     have s2:=s1.trans s
     obtain⟨k3,s3,kp3⟩:=(k.mono fun g hg=>hg.1).zi0 hf hu2 hB2 (s2.out o)
     refine⟨⟨k3,s2.trans s3,((kp1.trans (d.keeps k1.wf hp')).trans kp3).mono (by omega),.inr (.inl ⟨hc4,by have:=(d.full hc4).1;have:=kp1.room;omega⟩),.inl ?_,stX _ (fun m pg hq=>?_) (uq _ _).2.1 (uq _ _).2.2.2.2.1 fun g hg=>?_⟩,fun e=>absurd e hc⟩
     ·rw[(uq _ _).2.2.2.2.2.1,d.keep.1,hD]
     ·unfold za.ent
      rw[(uq _ _).1,(uq _ _).2.2.2.2.2.2.1]
     ·rw[(uq _ _).2.2.2.2.2.2.2]
      unfold zk.free
      split
      ·exact if_neg (by rw[Int.toNat_natCast];exact hg)
      ·rfl
   ·rw[ha]at hb
    cases hb
    unfold za.pv1
    rw[e1 n page hpg,he]
    dsimp only
    have hrd2:(y.putF n page ⟨1,f,a.write⟩).2.R.read f 0 64=y.R.read f 0 64:=Ya fun i _=>d.bytes f i (by omega) fun ho=>by have:=(k1.wf.xn ho).2.1;omega
    rw[d.keep.2.2,kR,hcr,Int.toNat_natCast,hrd2,hrd]
    simp[hk1]
end
end Go.Proofs.YtnhdmnijiphjjaaGreat
