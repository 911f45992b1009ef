/- Frames that move, in plain words: who had a frame has another one, with the same bytes. No program in it. -/
import Derived.Test.YtnhdmnijiphjjaaGreatJMp16
import Derived.Test.YtnhdmnijiphjjaaGreatJMp11
import Derived.Test.YtnhdmnijiphjjaaGreatJMp15
set_option linter.unusedVariables false
set_option linter.unusedSimpArgs false
set_option maxRecDepth 100000
set_option maxHeartbeats 2000000
namespace Go.Proofs.YtnhdmnijiphjjaaGreat
section
open Go Go.RowKit
namespace za
def moved(x:za)(to:Int)(p:Int×Int):Ent:=⟨(x.ent p.1.toNat p.2.toNat).kind,to,(x.ent p.1.toNat p.2.toNat).write⟩
def newC(x:za)(f to:Nat):za:={x with P:=x.P.set to (x.P.use f),R:=x.R.write to 0 (x.R.read f 0 64)}
def zd4(x:za)(f to:Nat):za:=x.putM (x.B f) (x.moved to)
def recF(x:za)(f to:Nat):za:=match getL x.CR f with|some k=>((x.vg k).xk k to).y7 k (x.qy k)|none=>x
def qh(x:za)(f to:Nat):za:=(((x.newC f to).zd4 f to).recF f to).uw f
end za
structure MoveD(x:za)(f to:Nat)(y:za):Prop where
 ok:Ok0 y
 abs:y.abs=x.abs
 keeps:jm 1 x y
 disk:y.D=x.D
 use:y.P.use f=1∧y.P.use to=x.P.use f
 others:∀g,g≠f→g≠to→x.P.use g≠2→y.P.use g=x.P.use g
 tb:∀g,x.P.use g=2→y.P.use g=1∨y.P.use g=2
 ent:∀m pg,pg<4096→y.ent m pg=if plc m pg∈x.B f then⟨1,(to:Int),(x.ent m pg).write⟩else x.ent m pg
 backs:∀g:Nat,g<1024→y.B g=if g=f then []else if g=to then x.B f else x.B g
 slots:∀k,k<32→∀q,q∈y.S.getD k []↔q∈x.S.getD k []
section
variable {x y:za}{f to:Nat}
theorem zho(R:RamS)(f a k:Nat):(R.read f a k).length=k:=by simp[RamS.read]
theorem zff(P:zk)(f:Nat)(hf:f<1024)(h:P.use f=1∨P.use f=3∨P.use f=4):(∀g,(P.free (f:Int)).use g=if g=f then 1 else P.use g)∧(P.free (f:Int)).zone=P.zone∧(P.free (f:Int)).iso=P.iso:=by
 unfold zk.free
 split
 ·rw[Int.toNat_natCast];exact⟨fun _=>rfl,rfl,rfl⟩
 ·rename_i z
  refine⟨fun g=>?_,rfl,rfl⟩
  split
  ·rename_i e
   subst e
   rcases h with h|h
   ·exact h
   ·refine absurd ?_ z
    unfold zk.used
    rw[decide_eq_true_eq,Int.toNat_natCast]
    omega
  ·rfl
theorem WF.recY(h:WF x)(hf:f<1024)(ht:to<1024)(hne:f≠to)(hu:x.P.use f=1∨x.P.use f=3∨x.P.use f=4)(hct:getL x.CR (to:Int)=none)(hk:∀k,getL x.CR (f:Int)=some k→∃d,getL x.CL k=some ((f:Int),d))(hq:∀q v,getL x.CL q=some v→getL x.CR v.1=some q):
  ∃L R,(x.recF f to).uw f={x with P:=x.P.free f,CL:=L,CR:=R}∧WF ((x.recF f to).uw f)∧(∀n pg,((x.recF f to).uw f).ent n pg=x.ent n pg)∧(∀q,getL L q=(getL x.CL q).map fun v=>(if v.1=(f:Int)then(to:Int)else v.1,v.2))∧∀g:Int,getL R g=if g=to then getL x.CR f else if g=f then none else getL x.CR g:=by
 obtain⟨fu,fz,fi⟩:=zff x.P f hf hu
 have wfr:∀z:za,WF z→z.P=x.P→z.R=x.R→z.T=x.T→WF (z.uw f)∧∀n pg,(z.uw f).ent n pg=z.ent n pg:=fun z w e1 e2 e3=>
  ⟨(WF.chg (y:=z.uw f) w (f:=f) (u:=1) (by rw[e1];omega) (fun _=>.inl (w.ji hf (by rw[e1];omega))) (uq z f).1 (uq z f).2.1 (uq z f).2.2.1 (uq z f).2.2.2.1 (uq z f).2.2.2.2.1 (by rw[(uq z f).2.2.2.2.2.1]) (fun g=>by rw[(uq z f).2.2.2.2.2.2.2,e1];exact fu g) (by rw[(uq z f).2.2.2.2.2.2.1]) fun _ _ _=>by rw[(uq z f).2.2.2.2.2.2.1]).1,fun n pg=>by unfold za.ent;rw[(uq z f).1,(uq z f).2.2.2.2.2.2.1]⟩
 unfold za.recF
 cases hc:getL x.CR (f:Int)with
 | none=>
  dsimp only
  obtain⟨w1,w2⟩:=wfr x h rfl rfl rfl
  refine⟨x.CL,x.CR,rfl,w1,w2,fun q=>?_,fun g=>?_⟩
  ·cases hv:getL x.CL q with
   | none=>rfl
   | some v=>
    rw[Option.map_some,if_neg]
    intro e
    have:=hq q v hv
    rw[e,hc]at this;cases this
  ·by_cases e1:g=to
   ·rw[if_pos e1,e1];exact hct
   ·rw[if_neg e1]
    by_cases e2:g=(f:Int)
    ·rw[if_pos e2,e2];exact hc
    ·rw[if_neg e2]
 | some k=>
  dsimp only
  obtain⟨d,hd⟩:=hk k hc
  obtain⟨nd1,nd2⟩:=h.nd
  have hdir:x.qy k=d:=by unfold za.qy;rw[hd];rfl
  have c1:x.vg k={x with CL:=delL x.CL k,CR:=delL x.CR (f:Int)}:=by unfold za.vg;rw[hd]
  have n1:¬((getL (x.vg k).CL k).isSome=true∨(getL (x.vg k).CR (to:Int)).isSome=true):=by
   rw[c1]
   dsimp only
   rw[Yc nd1,Yc nd2,if_pos rfl,hct]
   split<;>simp
  have c2:(x.vg k).xk k to={x with CL:=updL (delL x.CL k) k ((to:Int),false),CR:=updL (delL x.CR (f:Int)) to k}:=by
   unfold za.xk
   rw[if_neg n1,c1]
  have c3:((x.vg k).xk k to).y7 k (x.qy k)={x with CL:=updL (updL (delL x.CL k) k ((to:Int),false)) k ((to:Int),d),CR:=updL (delL x.CR (f:Int)) to k}:=by
   rw[c2,hdir]
   unfold za.y7
   dsimp only
   rw[y8,if_pos rfl]
  have w3:=((h.vg k).xk k (to:Int) (by omega)).y7 k (x.qy k)
  rw[c3]at w3⊢
  obtain⟨w1,w2⟩:=wfr _ w3 rfl rfl rfl
  refine⟨_,_,rfl,w1,w2,fun q=>?_,fun g=>?_⟩
  ·rw[y8,y8,Yc nd1]
   by_cases e:q=k
   ·rw[if_pos e,e,hd,Option.map_some,if_pos rfl]
   ·rw[if_neg e,if_neg e,if_neg e]
    cases hv:getL x.CL q with
    | none=>rfl
    | some v=>
     rw[Option.map_some,if_neg]
     intro e2
     have:=hq q v hv
     rw[e2,hc]at this
     exact e (Option.some.inj this).symm
  ·rw[y8,Yc nd2]
theorem Ok0.qh(h:Ok0 x)(hf:f<1024)(hu:x.P.use f=3∨x.P.use f=4)(hto:x.P.next true=some to):MoveD x f to (x.qh f to):=by
 obtain⟨ht,htu⟩:=Zv hto
 have hne:f≠to:=fun e=>by rw[e]at hu;omega
 have d1:NewF x (x.P.use f) to (x.R.read f 0 64) (x.newC f to):=h.ok.wf.newF hto _ (zho ..) rfl rfl rfl rfl rfl rfl rfl rfl
 have hBt:x.B to=[]:=by
  by_cases e:x.B to=[]
  ·exact e
  ·have:=h.ok.useB to ht e;omega
 have hCt:getL x.CR (to:Int)=none:=by
  cases e:getL x.CR (to:Int)with
  | none=>rfl
  | some v=>have:=(h.ok.cached to ht).2 (by rw[e];rfl);omega
 have hent:∀m pg,pg<4096→plc m pg∈x.B f→m<8∧(x.ent m pg).kind=1∧(x.ent m pg).n=f:=fun m pg hq hm=>by
  have h8:m<8:=by
   have:=(h.ok.wf.back f).2 _ hm
   unfold InR plc at this
   dsimp only at this
   omega
  exact⟨h8,(h.ok.backE f m pg hf h8 hq).1 hm⟩
 obtain⟨E,hE⟩:∃E,E=(x.newC f to).moved to:=⟨_,rfl⟩
 have eE:∀m pg,pg<4096→plc m pg∈x.B f→E (plc m pg)=⟨1,(to:Int),(x.ent m pg).write⟩:=fun m pg hq hm=>by
  have e1:(plc m pg).1.toNat=m:=by unfold plc;dsimp only;omega
  have e2:(plc m pg).2.toNat=pg:=by unfold plc;dsimp only;omega
  rw[hE]
  unfold za.moved
  rw[e1,e2,d1.ent m pg hq,(hent m pg hq hm).2.1]
 obtain⟨z,hz⟩:∃z,z=(x.newC f to).zd4 f to:=⟨_,rfl⟩
 have hP:∀q∈x.B f,Qd (x.newC f to) f q:=fun q hq=>by
  obtain⟨⟨n,pg,pr,e,h1,h2,h3,h4,h5⟩,h6,h7,h8⟩:=h.ok.zie hf q hq
  exact⟨⟨n,pg,pr,e,h1,h2,h3,by rw[d1.ent n pg h2];exact h4,by rw[d1.ent n pg h2];exact h5⟩,h6,h7,h8⟩
 have hM:∀q∈x.B f,zoo f (E q):=fun q hq=>by
  obtain⟨n,pg,e,h1,h2,_⟩:=zkt h.ok hf hq
  rw[e]at hq⊢
  rw[eE n pg h2 hq]
  exact⟨by simp[Ent.ok,most];omega,fun _=>by show(to:Int)≠f;omega⟩
 have d:Y9 (x.newC f to) f (x.B f) E z:=by
  rw[hz,hE]
  unfold za.zd4
  rw[hE]at hM
  exact d1.wf.putM (h.ok.wf.back f).1.nodup hP hM
 have k1:∀m pg,pg<4096→z.ent m pg=if plc m pg∈x.B f then⟨1,(to:Int),(x.ent m pg).write⟩else x.ent m pg:=fun m pg hq=>by
  rw[d.ent m pg hq,d1.ent m pg hq]
  split
  ·rename_i c;exact eE m pg hq c
  ·rfl
 have memB:∀(g:Nat) m pg,g<1024→pg<4096→(plc m pg∈z.B g↔if plc m pg∈x.B f then to=g else plc m pg∈x.B g):=fun g m pg hg hq=>by
  rw[d.memB g _ hg]
  by_cases c:plc m pg∈x.B f
  ·rw[if_pos c,if_pos c,eE m pg hq c]
   dsimp only
   omega
  ·rw[if_neg c,if_neg c];exact Iff.rfl
 have hBB:∀g:Nat,g<1024→z.B g=if g=f then []else if g=to then x.B f else x.B g:=fun g hg=>by
  have srt:y9 (if g=f then []else if g=to then x.B f else x.B g):=by
   split
   ·exact List.Pairwise.nil
   ·split
    ·exact(h.ok.wf.back f).1
    ·exact(h.ok.wf.back g).1
  refine um (d.wf.back g).1 srt ((List.perm_ext_iff_of_nodup (d.wf.back g).1.nodup srt.nodup).2 fun q=>?_)
  have aux:InR q→(q∈z.B g↔q∈(if g=f then []else if g=to then x.B f else x.B g)):=fun hi=>by
   obtain⟨e,h1,h2⟩:=hi.plc
   rw[e,memB g _ _ hg h2]
   generalize plc q.1.toNat q.2.toNat=p at e
   by_cases g1:g=f
   ·subst g1
    rw[if_pos rfl]
    split
    ·simp;omega
    ·rename_i c;simp[c]
   ·rw[if_neg g1]
    by_cases g2:g=to
    ·subst g2
     rw[if_pos rfl,hBt]
     split
     ·rename_i c;simp[c]
     ·rename_i c;simp[c]
    ·rw[if_neg g2]
     split
     ·rename_i c
      refine⟨fun a=>absurd a.symm g2,fun a=>?_⟩
      rw[←e]at c a
      exact absurd a ((h.ok.zie hf q c).noB g hg g1)
     ·exact Iff.rfl
  constructor
  ·exact fun hq=>(aux ((d.wf.back g).2 q hq)).1 hq
  ·intro hq
   refine(aux ?_).2 hq
   split at hq
   ·cases hq
   ·split at hq
    ·exact(h.ok.wf.back f).2 q hq
    ·exact(h.ok.wf.back g).2 q hq
 have x1u:∀g,(x.newC f to).P.use g=if g=to then x.P.use f else x.P.use g:=fun _=>rfl
 have zu:∀g,g≠f→x.P.use g≠2→z.P.use g=if g=to then x.P.use f else x.P.use g:=fun g hg h2=>by
  by_cases h1:x.P.use g=1∧g≠to
  ·rw[d.fr g (by rw[x1u,if_neg h1.2];exact h1.1),if_neg h1.2];exact h1.1.symm
  ·have e:=d.use g (by rw[x1u];split;omega;rename_i c;exact fun a=>h1 ⟨a,c⟩) (by rw[x1u];split;omega;exact h2)
   rw[e,if_neg (fun a=>hg a.1),x1u]
 have zf:z.P.use f=1∨z.P.use f=3∨z.P.use f=4:=by
  have e:=d.use f (by rw[x1u,if_neg hne];omega) (by rw[x1u,if_neg hne];omega)
  rw[x1u,if_neg hne]at e
  rw[e]
  split<;>omega
 obtain⟨kD,kC,kR⟩:=d.keep
 have kC:z.CL=x.CL:=kC
 have kR:z.CR=x.CR:=kR
 have kD:z.D=x.D:=kD
 obtain⟨L,R,ey,yw,yent,gl,gr⟩:=WF.recY d.wf hf ht hne zf (by rw[kR];exact hCt) (fun k hk=>by rw[kR]at hk;rw[kC];exact(h.ok.cacheE k f).2 hk) (fun q v hv=>by rw[kC]at hv;rw[kR];exact(h.ok.cacheE q v.1).1 ⟨v.2,hv⟩)
 rw[kC]at gl
 rw[kR]at gr
 have e0:x.qh f to=(z.recF f to).uw f:=by rw[hz];rfl
 rw[e0]
 clear e0
 obtain⟨y,hy⟩:∃y,y=(z.recF f to).uw f:=⟨_,rfl⟩
 rw[←hy]at ey yw yent⊢
 obtain⟨fu,fz,fi⟩:=zff z.P f hf zf
 have yT:y.T=z.T:=by rw[ey]
 have yB:y.B=z.B:=by rw[ey]
 have yS:y.S=z.S:=by rw[ey]
 have yD:y.D=x.D:=by rw[ey];exact kD
 have yR:y.R=z.R:=by rw[ey]
 have yC:y.CL=L:=by rw[ey]
 have yCR:y.CR=R:=by rw[ey]
 have yP:y.P=z.P.free (f:Int):=by rw[ey]
 have yu:∀g,y.P.use g=if g=f then 1 else z.P.use g:=fun g=>by rw[yP];exact fu g
 have yz:y.P.zone=x.P.zone∧y.P.iso=x.P.iso:=by
  rw[yP]
  exact⟨fz.trans d.zone.1,fi.trans d.zone.2⟩
 clear hy ey hz
 have ye:∀m pg,pg<4096→y.ent m pg=if plc m pg∈x.B f then⟨1,(to:Int),(x.ent m pg).write⟩else x.ent m pg:=fun m pg hq=>by rw[yent,k1 m pg hq]
 have yuse:∀g,g≠f→x.P.use g≠2→y.P.use g=if g=to then x.P.use f else x.P.use g:=fun g h1 h2=>by rw[yu,if_neg h1];exact zu g h1 h2
 have ytb:∀g,x.P.use g=2→y.P.use g=1∨y.P.use g=2:=fun g h2=>by
  rw[yu,if_neg (fun e=>by rw[e]at h2;omega)]
  exact d.tb g (by rw[x1u,if_neg (fun e=>by rw[e]at h2;omega)];exact h2)
 have Ue:∀g v,g≠f→g≠to→v≠1→v≠2→(y.P.use g=v↔x.P.use g=v):=fun g v h1 h2 h3 h4=>by
  by_cases c:x.P.use g=2
  ·have:=ytb g c;omega
  ·rw[yuse g h1 c,if_neg h2]
 have yto:y.P.use to=x.P.use f:=by rw[yuse to (Ne.symm hne) (by omega),if_pos rfl]
 have yrd:∀g i,g≠to→(x.P.use g=3∨x.P.use g=4)→y.R.b g i=x.R.b g i:=fun g i h1 h2=>by
  rw[yR,d.bytes g i (by rw[x1u,if_neg h1];omega) (by rw[x1u,if_neg h1];omega),d1.bytes,if_neg fun a=>h1 a.1]
 have yrt:y.R.read to 0 64=x.R.read f 0 64:=by
  have e1:y.R.read to 0 64=(x.newC f to).R.read to 0 64:=Ya fun i _=>by
   rw[yR,d.bytes to i (by rw[x1u,if_pos rfl];omega) (by rw[x1u,if_pos rfl];omega)]
  rw[e1]
  have e2:=Xf x.R to 0 (x.R.read f 0 64)
  rw[zho]at e2
  exact e2
 have noto:∀n pg,n<8→pg<4096→plc n pg∉x.B f→(x.ent n pg).kind=1→(x.ent n pg).n≠(f:Int)∧(x.ent n pg).n≠(to:Int):=fun n pg hn hq hm hk=>by
  refine⟨fun e=>hm ((h.ok.backE f n pg hf hn hq).2 ⟨hk,e⟩),fun e=>?_⟩
  have:=(h.ok.backE to n pg ht hn hq).2 ⟨hk,e⟩
  rw[hBt]at this;cases this
 have hS:∀k,k<32→∀q,q∈y.S.getD k []↔q∈x.S.getD k []:=fun k hk q=>by
  rw[yS,d.memS k q hk]
  split
  ·rename_i c
   obtain⟨n,pg,e,h1,h2,_⟩:=zkt h.ok hf c
   rw[e]at c⊢
   rw[eE n pg h2 c]
   dsimp only
   refine⟨fun a=>(by omega),fun a=>absurd a ((h.ok.zie hf _ c).noS k hk)⟩
  ·exact Iff.rfl
 have proc:∀{n pr},y.T n=some pr→∃p0,x.T n=some p0∧p0.A=pr.A∧p0.Q=pr.Q:=fun {n pr} hp=>d.proc (by rw[←yT];exact hp)
 have procs:∀n,(y.T n).map (fun pr=>(pr.A,pr.Q))=(x.T n).map (fun pr=>(pr.A,pr.Q)):=fun n=>by rw[yT];exact d.procs n
 have ok:OK (fun _=>False) y:=by
  refine⟨yw,fun g n page hg hn hp=>?_,fun k n page hk hn hp=>?_,fun g hg hb=>?_,fun g hg hb=>?_,fun g hg hb=>?_,fun g hg=>?_,fun k g=>?_,fun k v hv=>?_,fun n pr page hp hpg=>?_⟩
  ·rw[yB,memB g n page hg hp,ye n page hp]
   split
   ·dsimp only;omega
   ·exact h.ok.backE g n page hg hn hp
  ·rw[hS k hk,ye n page hp]
   split
   ·rename_i c
    exact⟨fun a=>absurd a ((h.ok.zie hf _ c).noS k hk),fun a=>absurd a.1 (show(1:Nat)≠2 by decide)⟩
   ·exact h.ok.slotE k n page hk hn hp
  ·rw[yB,hBB g hg]at hb
   by_cases c1:g=f
   ·rw[if_pos c1]at hb;exact absurd rfl hb
   ·rw[if_neg c1]at hb
    by_cases c2:g=to
    ·rw[c2,yto];exact hu
    ·rw[if_neg c2]at hb
     have:=h.ok.useB g hg hb
     rw[Ue g 3 c1 c2 (by omega) (by omega),Ue g 4 c1 c2 (by omega) (by omega)]
     exact this
  ·rw[yB,hBB g hg]
   by_cases c1:g=f
   ·rw[c1,yu,if_pos rfl]at hb;omega
   ·rw[if_neg c1]
    by_cases c2:g=to
    ·rw[c2,yto]at hb
     rw[if_pos c2]
     exact h.ok.anon f hf hb
    ·rw[if_neg c2]
     exact h.ok.anon g hg ((Ue g 3 c1 c2 (by omega) (by omega)).1 hb)
  ·have c1:g≠f:=fun e=>by rw[e,yu,if_pos rfl]at hb;omega
   have hz2:z.P.use g=2:=by rw[yu,if_neg c1]at hb;exact hb
   obtain⟨n,pr,a,b⟩:=d.tab (fun g' hg' hu'=>by
    rw[x1u]at hu'
    split at hu'
    ·omega
    ·exact h.ok.table g' hg' hu') g hg hz2
   exact⟨n,pr,by rw[yT];exact a,b⟩
  ·rw[yCR,gr]
   by_cases c2:g=to
   ·rw[if_pos (by omega),c2,yto];exact h.ok.cached f hf
   ·rw[if_neg (by omega)]
    by_cases c1:g=f
    ·rw[if_pos (by omega),c1,yu,if_pos rfl];simp
    ·rw[if_neg (by omega),Ue g 4 c1 c2 (by omega) (by omega)]
     exact h.ok.cached g hg
  ·rw[yC,yCR,gl,gr]
   have hc:=h.ok.cacheE k
   by_cases c2:g=to
   ·rw[if_pos c2,c2,←hc f]
    constructor
    ·rintro⟨d0,hd⟩
     obtain⟨v,hv,e⟩:=Option.map_eq_some_iff.1 hd
     have e1:=congrArg Prod.fst e
     dsimp only at e1
     split at e1
     ·rename_i c;exact⟨v.2,by rw[hv,←c]⟩
     ·have:=(hc v.1).1 ⟨v.2,hv⟩
      rw[e1,hCt]at this;cases this
    ·rintro⟨d0,hd⟩
     exact⟨d0,by rw[hd,Option.map_some,if_pos rfl]⟩
   ·rw[if_neg c2]
    by_cases c1:g=f
    ·rw[if_pos c1]
     refine⟨fun⟨d0,hd⟩=>?_,fun a=>by cases a⟩
     obtain⟨v,hv,e⟩:=Option.map_eq_some_iff.1 hd
     have e1:=congrArg Prod.fst e
     dsimp only at e1
     split at e1
     ·omega
     ·rename_i c;exact absurd (e1.trans c1) c
    ·rw[if_neg c1,←hc g]
     constructor
     ·rintro⟨d0,hd⟩
      obtain⟨v,hv,e⟩:=Option.map_eq_some_iff.1 hd
      have e1:=congrArg Prod.fst e
      dsimp only at e1
      split at e1
      ·exact absurd e1.symm c2
      ·exact⟨v.2,by rw[hv,←e1]⟩
     ·rintro⟨d0,hd⟩
      exact⟨d0,by rw[hd,Option.map_some,if_neg c1]⟩
  ·rw[yC,gl]at hv
   obtain⟨v0,h0,_⟩:=Option.map_eq_some_iff.1 hv
   exact h.ok.cacheK k v0 h0
  ·obtain⟨p0,hp0,hA,_⟩:=proc hp
   have a0:=h.ok.area n p0 page hp0 hpg
   have hn:=h.ok.Xg h.out hp0
   rw[ye n page hpg]
   by_cases c:plc n page∈x.B f
   ·obtain⟨_,e1,e2⟩:=hent n page hpg c
    have ct:getL y.CR (to:Int)=getL x.CR (x.ent n page).n:=by rw[yCR,gr,if_pos rfl,e2]
    rw[if_pos c]
    exact⟨fun _=>by rw[←hA];exact a0.find (by omega),fun a b _ k=>by rw[←hA]at b;dsimp only;rw[ct];exact a0.own a b e1 k,fun a k b _ k2 k3=>by rw[←hA]at b;dsimp only at k3;rw[ct]at k3;exact a0.file a k b e1 k2 k3,fun a b _ k=>by rw[←hA]at b;dsimp only;rw[ct];exact a0.shared a b e1 k,fun a b k=>by cases k⟩
   ·rw[if_neg c]
    have cr:(x.ent n page).kind=1→getL y.CR (x.ent n page).n=getL x.CR (x.ent n page).n:=fun k=>by
     obtain⟨n1,n2⟩:=noto n page hn hpg c k
     rw[yCR,gr,if_neg n2,if_neg n1]
    exact⟨fun k=>by rw[←hA];exact a0.find k,fun a b k k2=>by rw[←hA]at b;rw[cr k];exact a0.own a b k k2,fun a k b k1 k2 k3=>by rw[←hA]at b;rw[cr k1]at k3;exact a0.file a k b k1 k2 k3,fun a b k k2=>by rw[←hA]at b;rw[cr k];exact a0.shared a b k k2,fun a b k=>by rw[←hA]at b;exact a0.slot a b k⟩
 have fil:∀k,y.Yf k=x.Yf k:=fun k=>by
  unfold za.Yf
  rw[yC,gl,yD]
  cases hv:getL x.CL k with
  | none=>rfl
  | some v=>
   rw[Option.map_some]
   dsimp only
   obtain⟨g,e1,e2,e3,e4,_⟩:=h.ok.Jh hv
   by_cases c:v.1=(f:Int)
   ·rw[if_pos c,Int.toNat_natCast,yrt,c,Int.toNat_natCast]
   ·rw[if_neg c,e1,Int.toNat_natCast]
    exact Ya fun i _=>yrd g i (fun e=>by rw[e]at e3;omega) (.inr e3)
 have same:Same x y:=⟨procs,fun n page hpg=>?_,fun k _=>fil k,by rw[yD],fun k=>by
  unfold za.qy
  rw[yC,gl]
  cases getL x.CL k<;>rfl⟩
 ·refine⟨⟨ok,same.out h.out⟩,same.abs,⟨yz,?_,by rw[yR];exact d.bad.trans d1.bad,fun g v hv=>?_,fun n=>?_⟩,yD,⟨by rw[yu,if_pos rfl],yto⟩,fun g h1 h2 h3=>by rw[yuse g h1 h3,if_neg h2],ytb,ye,fun g hg=>by rw[yB];exact hBB g hg,hS⟩
  ·have r1:x.P.room≤(x.newC f to).P.room+1:=room_le x.P to _ (by omega) ht
   have r2:=d.room
   have r3:z.P.room≤y.P.room:=zhj ⟨yz.1.trans d.zone.1.symm,yz.2.trans d.zone.2.symm⟩ fun g hg=>by rw[yu];split;rfl;exact hg
   omega
  ·by_cases c1:g=f
   ·rw[c1,yu,if_pos rfl];omega
   ·by_cases c2:g=to
    ·rw[c2,yto];omega
    ·exact Ue g v c1 c2 (by omega) (by omega)
  ·have:=congrArg Option.isSome (procs n)
   simpa using this
 ·by_cases hn:n<8
  ·by_cases c:plc n page∈x.B f
   ·obtain⟨_,e1,e2⟩:=hent n page hpg c
    have hT:=procs n
    cases hp:x.T n with
    | none=>rw[Ym hp]at e1;exact absurd e1 (by decide)
    | some p0=>
     rw[hp]at hT
     obtain⟨pr,hp2,hA⟩:=Option.map_eq_some_iff.1 hT
     have hA:=congrArg Prod.fst hA
     dsimp only at hA
     obtain⟨a,ha⟩:=(h.ok.area n p0 page hp hpg).find (by omega)
     rw[Yx hp2 (by rw[hA];exact ha),Yx hp ha,ye n page hpg,if_pos c]
     have hA1:y.pv1 a ⟨1,(to:Int),(x.ent n page).write⟩=if getL y.CR (to:Int)=none then .own (y.R.read to 0 64)else .file:=by
      unfold za.pv1
      dsimp only
      rw[if_neg (by decide),if_neg (by decide),if_pos rfl,Int.toNat_natCast]
     have hA2:x.pv1 a (x.ent n page)=if getL x.CR (f:Int)=none then .own (x.R.read f 0 64)else .file:=by
      unfold za.pv1
      rw[if_neg (show ¬(x.ent n page).kind=3 by omega),if_neg (show ¬(x.ent n page).kind=2 by omega),if_pos e1,e2,Int.toNat_natCast]
     rw[hA1,hA2,yrt,yCR,gr,if_pos rfl]
   ·refine Ug h.ok n page hn hpg ?_ (by rw[ye n page hpg,if_neg c]) (fun k=>?_) (fun _=>by rw[yD]) fun g i _ hg _=>?_
    ·have:=congrArg (Option.map Prod.fst) (procs n)
     simpa[Option.map_map,Function.comp_def]using this
    ·obtain⟨n1,n2⟩:=noto n page hn hpg c k
     rw[yCR,gr,if_neg n2,if_neg n1]
    ·exact yrd g i (fun e=>by rw[e]at hg;omega) hg
  ·have q1:=h.out n (by omega)
   have q2:y.T n=none:=by
    have:=procs n
    rw[q1]at this
    simpa using this
   unfold za.pv
   rw[q1,q2]
end
end
open Go Go.RowKit
section
variable {w w':World}{tag tag':Nat→Nat}{q:Sq}{x:za}
theorem zmo(h:zb w tag q x)(n page:Int)(e:Ent)(hn:¬((x.T n.toNat).isSome=true∧0≤n)):
  Calls Tryz.prog 88 #[ptrV q.sp,.agg #[.int .i64 n,.int .i64 page],entV e] w fun r w'=>r=.returned (.int .i64 2)∧Below w.heap.size w w':=by
 obtain⟨w0,hw0⟩:∃w0,w0=(w.alloc (.cells #[.int .i64 n,.int .i64 page] 58 (0,0))).alloc (.cells #[.int .i64 e.kind,.int .i64 e.n,.bool e.write] 70 (0,0)):=⟨_,rfl⟩
 have hb0:Below w.heap.size w w0:=by rw[hw0];exact((Below.refl w.heap.size w).alloc (Nat.le_refl _) _).alloc (by simp) _
 have F:=Lib.hid (Zh (h.below hb0) n)
 have ev:Ye q x n=.tuple #[.pointer none,.bool false]:=by
  unfold Ye
  rw[if_neg hn,decide_eq_false hn]
 rw[ev]at F
 have HB:=Lib.hid hb0
 have HW:=Lib.hid hw0
 unfold ptrV at F⊢
 unfold entV
 clear h hb0 hw0 ev hn
 go_enter Tryz.func88,Tryz.ntmps88
 go_wp2_with fail
 rw[←HW.out]
 refine F.out.mono ?_
 rintro r u ⟨rfl,hu⟩
 have hu:=hu.symm
 subst hu
 clear F
 go_wp2_with fail
 exact bodyPost_ret (v:=.int .i64 2) (by simp[results,Tryz.results88,go_sem]) rfl ⟨rfl,HB.out⟩
theorem Yp(h:zb w tag q x)(wf:WF x)(n page:Nat)(hn:n<8)(hpg:page<4096)(e:Ent)(he:e.ok=true):
  Calls Tryz.prog 88 #[ptrV q.sp,.agg #[.int .i64 n,.int .i64 page],entV e] w fun r w'=>r=.returned (.int .i64 (x.putF n page e).1)∧∃tag',zb w' tag' q (x.putF n page e).2∧Step (CP n) tag w tag' w':=by
 cases hp:x.T n with
 | none=>
  have ev:x.putF n page e=(2,x):=by unfold za.putF;rw[hp]
  rw[ev]
  refine(zmo h (n:Int) page e (by rw[Int.toNat_natCast,hp];simp)).mono ?_
  rintro r w1 ⟨rfl,hb⟩
  exact⟨rfl,retag tag w 0,h.step (Step.anew hb),Step.anew hb⟩
 | some pr=>
  obtain⟨N,ok⟩:=wf.rpt n pr hp
  have hent:=wf.Vm hp ok hpg
  have hg:=wf.get hp hpg
  refine(zmk h n page pr hn hp N ok hpg e he (x.ent n page) hent.symm (wf.Y8 n hpg) wf.lists).mono ?_
  rintro r w1 ⟨c,x',tag1,rfl,hpost,h1,s1⟩
  have key:x.putF n page e=(c,x'):=by
   unfold za.putF
   rw[hp]
   dsimp only
   rw[hg]
   dsimp only
   rw[if_neg (by simp)]
   rcases hpost with⟨a,rfl,rfl⟩|⟨a,b,rfl,rfl⟩|⟨a,b,rfl,rfl⟩
   ·rw[if_pos a]
   ·rw[if_neg a,if_pos b]
   ·rw[if_neg a,if_neg (fun k=>k b)]
  rw[key]
  exact⟨rfl,tag1,h1,s1⟩
end
section
variable {w w':World}{tag tag':Nat→Nat}{q:Sq}{x:za}
theorem zfe(h:zb w tag q x)(u:Nat)(hu:2≤u∧u≤5)(f:Nat)(hn:x.P.next true=some f)(hf:f<1024)(F:Nat)(c1 c2:Value)(eg:∀args w,(callFunc F args).run Tryz.prog w=.ok (.enter F args) w)(CA:Nat→Prop)(h2:CA 2)(Z:Int→za→Prop)
  (G:∀w1,zb w1 tag q {x with P:=x.P.set f u}→Step (fun c=>c=2) tag w tag w1→Calls Tryz.prog F #[.int .i64 f,c1,c2] w1 fun e w2=>∃c y tag2,e=.returned (.int .i64 c)∧zb w2 tag2 q y∧Step CA tag w1 tag2 w2∧Z c y∧(c≠0→2≤y.P.use f∧y.P.use f≤5)):
  Calls Tryz.prog 213 #[ptrV q.sp,.int .i64 u,.func (.func F) #[] #[c1,c2]] w fun e w'=>∃c y tag2,e=.returned (.tuple #[.int .i64 (if c=0 then f else 0),.int .i64 c])∧zb w' tag2 q (if c=0 then y else {y with P:=y.P.set f 1})∧Step CA tag w tag2 w'∧Z c y:=by
 have A:Hid (Calls Tryz.prog 43 #[.pointer (some ⟨q.pp,0,none⟩),.int .i64 u,.int .i64 0,.bool true] w fun e w1=>e=.returned (.tuple #[.int .i64 f,.int .i64 0])∧zb w1 tag q {x with P:=x.P.set f u}∧Step (fun c=>c=2) tag w tag w1):=by
  refine(Uc w _ _ _ _ _ h.pool u u rfl hu.1 hu.2).mono ?_
  rintro e w1 ⟨rfl,h1,h2,_⟩
  rw[hn]at h1⊢
  have k:=h.za7 h2 h1
  exact⟨rfl,k.1,k.2⟩
 have c2':w.cell? ⟨q.sp,2,none⟩=some (.pointer (some ⟨q.pp,0,none⟩)):=h.row.cell (i:=2) (by omega)
 have HG:=Lib.hid G
 have HX:=Lib.hid (And.intro hf h2)
 unfold ptrV
 clear h G hn hf h2
 go_enter Tryz.func213,Tryz.ntmps213
 go_wp2_with fail
 refine A.out.mono ?_
 rintro e w1 ⟨rfl,h1,s1⟩
 have B:=Lib.hid (HG.out w1 h1 s1)
 have S1:=Lib.hid s1
 clear h1 s1 A c2' HG
 go_wp2_with fail
 refine B.out.mono ?_
 rintro e w2 ⟨c,y,tag2,rfl,hy,s2,hz,hfu⟩
 have X:=Lib.hid (And.intro hy (And.intro s2 (And.intro hz hfu)))
 by_cases hc:c=0
 ·subst hc
  clear hy s2 hz hfu
  go_wp2_with fail
  exact bodyPost_ret (v:=.tuple #[.int .i64 f,.int .i64 0]) (by simp[results,Tryz.results213,go_sem]) rfl ⟨0,y,tag2,rfl,X.out.1,(S1.out.mono fun c hc=>hc▸HX.out.2).trans X.out.2.1,X.out.2.2.1⟩
 ·have g2:w2.cell? ⟨q.sp,2,none⟩=some (.pointer (some ⟨q.pp,0,none⟩)):=hy.row.cell (i:=2) (by omega)
  have FR:Hid (Calls Tryz.prog 44 #[.pointer (some ⟨q.pp,0,none⟩),.int .i64 f] w2 fun e w3=>e=.returned (.bool true)∧zb w3 tag2 q {y with P:=y.P.set f 1}∧Step (fun c=>c=2) tag2 w2 tag2 w3):=by
   refine(V9 _ _ _ _ _ _ hy.pool f f rfl HX.out.1 (hfu hc).1 (hfu hc).2).mono ?_
   rintro e w3 ⟨rfl,k1,k2⟩
   have k:=hy.za7 k2 k1
   exact⟨rfl,k.1,k.2⟩
  have n1:(c==0)=false:=beq_eq_false_iff_ne.2 hc
  have HC:=Lib.hid hc
  clear hy s2 hz hfu hc
  go_wp2_with fail
  refine FR.out.mono ?_
  rintro e w3 ⟨rfl,h3,s3⟩
  have H3:=Lib.hid (And.intro h3 s3)
  clear h3 s3 FR g2
  go_wp2_with fail
  exact bodyPost_ret (v:=.tuple #[.int .i64 0,.int .i64 c]) (by simp[results,Tryz.results213,go_sem]) rfl ⟨c,y,tag2,by rw[if_neg HC.out],by rw[if_neg HC.out];exact H3.out.1,((S1.out.mono fun c hc=>hc▸HX.out.2).trans X.out.2.1).trans (H3.out.2.mono fun c hc=>hc▸HX.out.2),X.out.2.2.1⟩
end
structure Loc(W:World)(tag:Nat→Nat)(q:Sq)(x:za)(L:List (Nat×Nat×Value)):Prop where
 sp:zb W tag q x
 loc:∀t∈L,tag t.1=0∧W.cell? ⟨t.1,t.2.1,none⟩=some t.2.2
section
variable {C:Nat→Prop}{W W':World}{tag tag':Nat→Nat}{q:Sq}{x x':za}{L L':List (Nat×Nat×Value)}
theorem Loc.step(h:Loc W tag q x L)(s:Step C tag W tag' W')(hc:¬C 0)(hx:zb W' tag' q x'):Loc W' tag' q x' L:=
 ⟨hx,fun t ht=>by
  obtain⟨a,b⟩:=h.loc t ht
  have k:=s.keeps hc t.1 (World.block_lt_of_cell? W _ b) a
  exact⟨k.1,(World.cell?_of_block (w:=W) k.2).trans b⟩⟩
theorem Loc.below(h:Loc W tag q x L)(hb:Below W.heap.size W W'):Loc W' tag q x L:=h.step (C:=fun _=>False) (Step.of_below hb) id (h.sp.below hb)
theorem Loc.drew(h:Loc W tag q x L):Loc W.drew tag q x L:=h.below (Below.refl _ _).drew
theorem Loc.sub(h:Loc W tag q x L)(hs:∀t∈L',t∈L):Loc W tag q x L':=⟨h.sp,fun t ht=>h.loc t (hs t ht)⟩
theorem Loc.get(h:Loc W tag q x L)(i:Nat){b o:Nat}{v:Value}(hi:L[i]?=some (b,o,v)):W.cell? ⟨b,o,none⟩=some v:=(h.loc _ (List.mem_of_getElem? hi)).2
theorem Loc.cell(h:Loc W tag q x L){i:Nat}(hi:i<7):W.cell? ⟨q.sp,i,none⟩=some (Z8 q i):=h.sp.row.cell hi
theorem Loc.mine(h:Loc W tag q x L){n:Nat}{pr:yj}(hn:n<8)(hp:x.T n=some pr):W.cell? ⟨(q.U n).ap,0,none⟩=some (ptrV (q.U n).tp):=by
 obtain⟨av,r1,_⟩:=(h.sp.procs n pr hn hp).row
 exact r1.cell (i:=0) (by omega)
theorem Loc.more(h:Loc W tag q x L)(hb:Below W.heap.size W W')(M:List (Nat×Nat×Value))(hM:∀t∈M,W.heap.size≤t.1∧W'.cell? ⟨t.1,t.2.1,none⟩=some t.2.2):Loc W' (retag tag W 0) q x (M++L)∧Step (fun _=>False) tag W (retag tag W 0) W':=by
 have s:Step (fun _=>False) tag W (retag tag W 0) W':=Step.anew hb
 refine⟨⟨h.sp.step s,fun t ht=>?_⟩,s⟩
 rcases List.mem_append.1 ht with ht|ht
 ·exact⟨yc _ _ _ _ (hM t ht).1,(hM t ht).2⟩
 ·obtain⟨a,b⟩:=h.loc t ht
  have k:=s.keeps id t.1 (World.block_lt_of_cell? W _ b) a
  exact⟨k.1,(World.cell?_of_block (w:=W) k.2).trans b⟩
theorem zb.loc0(h:zb W tag q x):Loc W tag q x []:=⟨h,fun t ht=>by cases ht⟩
theorem zo{W:World}{cs:Array Value}{T:TypeId}{b:Nat}(h:W.heap[b]?=some (.cells cs T (0,0)))(i:Nat){v:Value}(hv:cs[i]?=some v):W.cell? ⟨b,i,none⟩=some v:=by
 rw[cell_of_row _ _ i _ _ _ h]
 exact hv
end
section
variable {w w':World}{tag tag':Nat→Nat}{q:Sq}{x:za}
def zmx(x:za)(f sec:Nat)(c:Int)(y:za):Prop:=
 (c=0∧x.D.work.2=0∧y={x with D:=x.D.work.1,R:=x.R.write f 0 (x.D.cur sec)})∨(c=(x.D.work.2:Int)∧x.D.work.2≠0∧y={x with D:=x.D.work.1})
theorem zi7{bs bk:Nat}{k:Int×Int}(h:Loc w tag q x [(bs,0,ptrV q.sp),(bk,0,.int .i64 k.1),(bk,1,.int .i64 k.2)])(hk:Zc k)(f:Nat)(hf:f<1024)(hb:x.R.bad f=false):
  Calls Tryz.prog 251 #[.int .i64 f,.pointer (some ⟨bs,0,none⟩),.pointer (some ⟨bk,0,none⟩)] w fun e w2=>∃c y tag2,e=.returned (.int .i64 c)∧zb w2 tag2 q y∧Step (fun c=>c=1∨c=3) tag w tag2 w2∧zmx x f (za.uh k) c y:=by
 have k1:k.1=(k.1.toNat:Int):=by unfold Zc at hk;omega
 have k2:k.2=(k.2.toNat:Int):=by unfold Zc at hk;omega
 have hl1:k.1.toNat<4:=by unfold Zc at hk;omega
 have hl2:k.2.toNat<16:=by unfold Zc at hk;omega
 have h0:=h.drew
 have g0:w.cell? ⟨bs,0,none⟩=some (.pointer (some ⟨q.sp,0,none⟩)):=h.get 0 rfl
 have g1:w.cell? ⟨bk,0,none⟩=some (.int .i64 k.1):=h.get 1 rfl
 have g2:w.cell? ⟨bk,1,none⟩=some (.int .i64 k.2):=h.get 2 rfl
 have g3:w.cell? ⟨q.sp,1,none⟩=some (.pointer (some ⟨q.dp,0,none⟩)):=h.cell (i:=1) (by omega)
 obtain⟨rr,hrr⟩:∃rr,rr=x.D.work.2:=⟨_,rfl⟩
 have RD:Hid (Calls Tryz.prog 252 #[.pointer (some ⟨q.dp,0,none⟩),.int .i64 k.1,.int .i64 k.2] w.drew fun e w1=>∃v,e=.returned (.tuple #[v,.int .i64 rr])∧(w1.cell? ⟨bs,0,none⟩=some (.pointer (some ⟨q.sp,0,none⟩))∧w1.cell? ⟨bk,0,none⟩=some (.int .i64 k.1)∧w1.cell? ⟨bk,1,none⟩=some (.int .i64 k.2)∧w1.cell? ⟨q.sp,1,none⟩=some (.pointer (some ⟨q.dp,0,none⟩))∧w1.cell? ⟨q.sp,0,none⟩=some (.pointer (some ⟨q.rp,0,none⟩)))∧
   zb w1 tag q {x with D:=x.D.work.1}∧Step (fun c=>c=3) tag w tag w1∧(rr=0→ByAt w1 v (x.D.cur (za.uh k)))):=by
  obtain⟨sb,off,c,mb,V,L,hD⟩:=h0.sp.disk
  refine(zgv w.drew hD k.1.toNat k.2.toNat k.1 k.2 k1 k2 hl1 hl2).mono ?_
  rintro e w1 ⟨v,rfl,hD1,t1,hv⟩
  have kk:=h0.sp.disk' t1 ⟨sb,off,c,mb,V,L,hD1⟩
  have L1:=h0.step kk.2 (by omega) kk.1
  refine⟨if rr=0 then v else .slice none 0 0,by rw[hrr];rfl,⟨L1.get 0 rfl,L1.get 1 rfl,L1.get 2 rfl,L1.cell (i:=1) (by omega),L1.cell (i:=0) (by omega)⟩,kk.1,?_,fun e=>?_⟩
  ·exact(Step.of_below (Below.refl _ _).drew).trans kk.2
  ·rw[←hrr]at hv;rw[if_pos e];exact(hv e).1
 have hlen:(x.D.cur (za.uh k)).length=64:=by
  obtain⟨sb,off,c,mb,V,L,hD⟩:=h.sp.disk
  obtain⟨v,_,hv⟩:=Qh _ hD (za.uh k) (Xz hk)
  exact hv.1
 have HX:=Lib.hid (And.intro hf (And.intro hb (And.intro hrr hlen)))
 clear h h0 hf hb hrr hlen k1 k2 hl1 hl2 hk
 go_enter Tryz.func251,Tryz.ntmps251
 go_wp2_with fail
 go_region_held (fun W'=>W'.cell? ⟨bs,0,none⟩=some (.pointer (some ⟨q.sp,0,none⟩))∧W'.cell? ⟨bk,0,none⟩=some (.int .i64 k.1)∧W'.cell? ⟨bk,1,none⟩=some (.int .i64 k.2)∧W'.cell? ⟨q.sp,1,none⟩=some (.pointer (some ⟨q.dp,0,none⟩))) (go_keep)
  ((go_at_call 252;refine RD.out.mono ?_;rintro e w1 ⟨v,rfl,⟨m0,m1,m2,m3,m4⟩,HS⟩;have hS:=Lib.hid HS;clear HS))
 clear RD g0 g1 g2 g3
 by_cases hr:rr=0
 ·subst hr
  have hby:=hS.out.2.2 rfl
  have hl:=HX.out.2.2.2
  obtain⟨av,cv,rfl,_,_⟩:=SlAt.form hby
  have WR:Hid (Calls Tryz.prog 66 #[.pointer (some ⟨q.rp,0,none⟩),.int .i64 f,.int .i64 0,.slice av (x.D.cur (za.uh k)).length cv] w1 fun e w2=>e=.returned (.int .i64 0)∧zb w2 tag q {x with D:=x.D.work.1,R:=x.R.write f 0 (x.D.cur (za.uh k))}∧Step (fun c=>c=1) tag w1 tag w2):=by
   refine(Va w1 _ _ _ _ hS.out.1.ram _ (x.D.cur (za.uh k)) (ByAt.reads hby) f 0 f 0 rfl rfl HX.out.1 (by omega) (by omega) HX.out.2.1).mono ?_
   rintro e w2 ⟨rfl,k1,k2,_⟩
   have kk:=hS.out.1.ram' k2 k1
   exact⟨rfl,kk.1,kk.2⟩
  generalize (x.D.cur (za.uh k)).length=nl at WR⊢
  clear hby hl
  go_wp2_with fail
  refine WR.out.mono ?_
  rintro e w2 ⟨rfl,h2,s2⟩
  have H2:=Lib.hid (And.intro h2 s2)
  clear h2 s2 m0 m1 m2 m3 m4
  go_wp2_with fail
  exact bodyPost_ret (v:=.int .i64 0) (by simp[results,Tryz.results251,go_sem]) rfl ⟨0,_,tag,rfl,H2.out.1,(hS.out.2.1.mono fun c hc=>.inr hc).trans (H2.out.2.mono fun c hc=>.inl hc),.inl ⟨rfl,HX.out.2.2.1.symm,rfl⟩⟩
 ·have n1:((rr:Int)==0)=false:=beq_eq_false_iff_ne.2 (by omega)
  have n2:((rr:Int)=0)=False:=eq_false (by omega)
  have HR:=Lib.hid hr
  clear hr m0 m1 m2 m3 m4
  go_wp2_with fail
  exact bodyPost_ret (v:=.int .i64 rr) (by simp[results,Tryz.results251,go_sem]) rfl ⟨rr,_,tag,rfl,hS.out.1,hS.out.2.1.mono fun c hc=>.inr hc,.inr ⟨by rw[HX.out.2.2.1],by rw[←HX.out.2.2.1];exact HR.out,rfl⟩⟩
theorem zb.cput(h:zb w tag q x)(k:Int×Int)(f:Int):Calls Tryz.prog 85 #[.pointer (some ⟨q.cp,0,none⟩),.agg #[.int .i64 k.1,.int .i64 k.2],.int .i64 f] w fun e w'=>(∃b,e=.returned (.bool b))∧zb w' tag q (x.xk k f)∧Step (fun c=>c=5) tag w tag w':=by
 obtain⟨hc,t1,t2,t3⟩:=h.cache
 unfold za.xk
 cases h1:(getL x.CL k).isSome with
 | true=>
  rw[if_pos (.inl rfl)]
  refine(zjz w q.cp q.c1 q.c2 x.CL x.CR hc k f h1).mono ?_
  rintro e w1 ⟨rfl,hb⟩
  exact⟨⟨_,rfl⟩,h.below hb,Step.of_below hb⟩
 | false=>
  cases h2:(getL x.CR f).isSome with
  | true=>
   rw[if_pos (.inr rfl)]
   refine(zmm w q.cp q.c1 q.c2 x.CL x.CR hc k f h1 h2).mono ?_
   rintro e w1 ⟨rfl,hb⟩
   exact⟨⟨_,rfl⟩,h.below hb,Step.of_below hb⟩
  | false=>
   rw[if_neg (by simp)]
   refine(zoi w q.cp q.c1 q.c2 x.CL x.CR hc k f (by simpa using h1) (by simpa using h2)).mono ?_
   rintro e w1 ⟨rfl,t,hc1⟩
   have kk:=h.zjj (Turn.touch (O:=fun b=>tag b=5) t fun k hk=>.inl (by simp at hk;rcases hk with rfl|rfl<;>assumption)) hc1
   exact⟨⟨_,rfl⟩,kk.1,kk.2⟩
theorem zb.Jh(h:zb w tag q x)(k:Int×Int):Calls Tryz.prog 96 #[.pointer (some ⟨q.cp,0,none⟩),.agg #[.int .i64 k.1,.int .i64 k.2]] w fun e w'=>e=.returned (.tuple #[.int .i64 ((getL x.CL k).getD (0,false)).1,.bool (getL x.CL k).isSome])∧Below w.heap.size w w':=
 zgu w q.cp q.c1 q.c2 x.CL x.CR h.cache.1 k
theorem zb.cmark(h:zb w tag q x)(k:Int×Int)(d:Bool):Calls Tryz.prog 86 #[.pointer (some ⟨q.cp,0,none⟩),.agg #[.int .i64 k.1,.int .i64 k.2],.bool d] w fun e w'=>(∃b,e=.returned (.bool b))∧zb w' tag q (x.y7 k d)∧Step (fun c=>c=5) tag w tag w':=by
 obtain⟨hc,t1,t2,t3⟩:=h.cache
 refine(zj2 w q.cp q.c1 q.c2 x.CL x.CR hc k d).mono ?_
 rintro e w1 ⟨rfl,t,hc1⟩
 have kk:=h.zjj (Turn.touch (O:=fun b=>tag b=5) t fun k hk=>.inl (by simp at hk;rcases hk with rfl;assumption)) hc1
 exact⟨⟨_,rfl⟩,kk.1,kk.2⟩
theorem zb.cdrop(h:zb w tag q x)(k:Int×Int):Calls Tryz.prog 84 #[.pointer (some ⟨q.cp,0,none⟩),.agg #[.int .i64 k.1,.int .i64 k.2]] w fun e w'=>(∃b,e=.returned (.bool b))∧zb w' tag q (x.vg k)∧Step (fun c=>c=5) tag w tag w':=by
 obtain⟨hc,t1,t2,t3⟩:=h.cache
 refine(zj8 w q.cp q.c1 q.c2 x.CL x.CR hc k).mono ?_
 rintro e w1 ⟨rfl,t,hc1⟩
 have kk:=h.zjj (Turn.touch (O:=fun b=>tag b=5) t fun k hk=>.inl (by simp at hk;rcases hk with rfl|rfl<;>assumption)) hc1
 exact⟨⟨_,rfl⟩,kk.1,kk.2⟩
theorem zb.cof(h:zb w tag q x)(f:Int):Calls Tryz.prog 82 #[.pointer (some ⟨q.cp,0,none⟩),.int .i64 f] w fun e w'=>e=.returned (.tuple #[zy ((getL x.CR f).getD (0,0)),.bool (getL x.CR f).isSome])∧Below w.heap.size w w':=
 zom w q.cp q.c1 q.c2 x.CL x.CR h.cache.1 f
def CFi(c:Nat):Prop:=c=1∨c=2∨c=3∨c=5
theorem zi8(h:zb w tag q x)(wf:WF x){k:Int×Int}(hk:Zc k):
  Calls Tryz.prog 235 #[ptrV q.sp,.agg #[.int .i64 k.1,.int .i64 k.2]] w fun e w'=>e=.returned (.tuple #[.int .i64 (x.uf k).1.1,.int .i64 (x.uf k).1.2])∧∃tag',zb w' tag' q (x.uf k).2∧Step CFi tag w tag' w':=by
 obtain⟨w0,hw0⟩:∃w0,w0=(w.alloc (.cells #[ptrV q.sp] 24 (0,0))).alloc (.cells #[.int .i64 k.1,.int .i64 k.2] 133 (0,0)):=⟨_,rfl⟩
 have hb0:Below w.heap.size w w0:=by rw[hw0];exact((Below.refl w.heap.size w).alloc (Nat.le_refl _) _).alloc (by simp) _
 have nb2:w0.heap[w.heap.size+1]?=some (.cells #[.int .i64 k.1,.int .i64 k.2] 133 (0,0)):=by
  rw[hw0]
  have:=heap_alloc_new (w.alloc (.cells #[ptrV q.sp] 24 (0,0))) (.cells #[.int .i64 k.1,.int .i64 k.2] 133 (0,0))
  rw[World.size_alloc]at this
  exact this
 have nb1:w0.heap[w.heap.size]?=some (.cells #[ptrV q.sp] 24 (0,0)):=by
  rw[hw0,Below.heap_alloc _ _ _ (by simp)]
  exact heap_alloc_new w _
 obtain⟨L0,s0⟩:=h.loc0.more hb0 [(w.heap.size,0,ptrV q.sp),(w.heap.size+1,0,.int .i64 k.1),(w.heap.size+1,1,.int .i64 k.2)] (fun t ht=>by
  simp at ht
  rcases ht with rfl|rfl|rfl
  ·exact⟨Nat.le_refl _,zo nb1 0 rfl⟩
  ·exact⟨by simp,zo nb2 0 rfl⟩
  ·exact⟨by simp,zo nb2 1 rfl⟩)
 obtain⟨tag0,ht0⟩:∃tag0,tag0=retag tag w 0:=⟨_,rfl⟩
 rw[List.append_nil]at L0
 rw[←ht0]at L0 s0
 clear ht0 nb1 nb2 hb0
 have g0:w0.cell? ⟨w.heap.size,0,none⟩=some (.pointer (some ⟨q.sp,0,none⟩)):=L0.get 0 rfl
 have g1:w0.cell? ⟨w.heap.size+1,0,none⟩=some (.int .i64 k.1):=L0.get 1 rfl
 have g2:w0.cell? ⟨w.heap.size+1,1,none⟩=some (.int .i64 k.2):=L0.get 2 rfl
 have g3:w0.cell? ⟨q.sp,4,none⟩=some (.pointer (some ⟨q.cp,0,none⟩)):=L0.cell (i:=4) (by omega)
 obtain⟨v,hv⟩:∃v,v=getL x.CL k:=⟨_,rfl⟩
 have FR:Hid (Calls Tryz.prog 96 #[.pointer (some ⟨q.cp,0,none⟩),.agg #[.int .i64 k.1,.int .i64 k.2]] w0.drew fun e w1=>e=.returned (.tuple #[.int .i64 (v.getD (0,false)).1,.bool v.isSome])∧(w1.cell? ⟨w.heap.size,0,none⟩=some (.pointer (some ⟨q.sp,0,none⟩))∧w1.cell? ⟨w.heap.size+1,0,none⟩=some (.int .i64 k.1)∧w1.cell? ⟨w.heap.size+1,1,none⟩=some (.int .i64 k.2)∧w1.cell? ⟨q.sp,4,none⟩=some (.pointer (some ⟨q.cp,0,none⟩)))∧
   Loc w1 tag0 q x [(w.heap.size,0,ptrV q.sp),(w.heap.size+1,0,.int .i64 k.1),(w.heap.size+1,1,.int .i64 k.2)]∧Step (fun _=>False) tag w tag0 w1):=by
  refine(L0.drew.sp.Jh k).mono ?_
  rintro e w1 ⟨rfl,hb⟩
  have L1:=L0.drew.below hb
  exact⟨by rw[hv],⟨L1.get 0 rfl,L1.get 1 rfl,L1.get 2 rfl,L1.cell (i:=4) (by omega)⟩,L1,s0.trans ((Step.of_below (Below.refl _ _).drew).trans (Step.of_below hb))⟩
 obtain⟨R,hR⟩:∃R,R=x.uf k:=⟨_,rfl⟩
 have HR:=Lib.hid hR
 have HV:=Lib.hid (And.intro hv (And.intro wf hk))
 have HW:=Lib.hid hw0
 rw[←hR]
 clear h L0 s0 hR hv wf hk hw0
 unfold ptrV at HW⊢
 go_enter Tryz.func235,Tryz.ntmps235
 go_wp2_with fail
 rw[←HW.out]
 go_region_held (fun W'=>W'.cell? ⟨w.heap.size,0,none⟩=some (.pointer (some ⟨q.sp,0,none⟩))∧W'.cell? ⟨w.heap.size+1,0,none⟩=some (.int .i64 k.1)∧W'.cell? ⟨w.heap.size+1,1,none⟩=some (.int .i64 k.2)∧W'.cell? ⟨q.sp,4,none⟩=some (.pointer (some ⟨q.cp,0,none⟩))) (go_keep)
  ((go_at_call 96;refine FR.out.mono ?_;rintro e w1 ⟨rfl,⟨m0,m1,m2,m3⟩,HL⟩;have hL:=Lib.hid HL;clear HL))
 clear FR g0 g1 g2 g3
 cases v with
 | some v=>
  clear m0 m1 m2 m3
  go_wp2_with fail
  have e0:R=((v.1,0),x):=by rw[HR.out];unfold za.uf;rw[←HV.out.1]
  rw[e0]
  exact bodyPost_ret (v:=.tuple #[.int .i64 v.1,.int .i64 0]) (by simp[results,Tryz.results235,go_sem]) rfl ⟨rfl,tag0,hL.out.1.sp,hL.out.2.mono fun _ h=>h.elim⟩
 | none=>
  have e0:R=if(x.zw 4 (za.uh k)).1.2=0 then((x.zw 4 (za.uh k)).1,(x.zw 4 (za.uh k)).2.xk k (x.zw 4 (za.uh k)).1.1)else x.zw 4 (za.uh k):=by
   rw[HR.out];unfold za.uf;rw[←HV.out.1]
  have HE:=Lib.hid e0
  clear e0
  have FH:Hid (∀fv,fv=Value.func (.func 251) #[] #[.pointer (some ⟨w.heap.size,0,none⟩),.pointer (some ⟨w.heap.size+1,0,none⟩)]→Calls Tryz.prog 213 #[.pointer (some ⟨q.sp,0,none⟩),.int .i64 4,fv] w1 fun e w2=>∃tag2,e=.returned (.tuple #[.int .i64 (x.zw 4 (za.uh k)).1.1,.int .i64 (x.zw 4 (za.uh k)).1.2])∧zb w2 tag2 q (x.zw 4 (za.uh k)).2∧Step (fun c=>c=1∨c=2∨c=3) tag0 w1 tag2 w2):=fun fv efv=>by
   cases hnx:x.P.next true with
   | none=>
    have ed:x.zw 4 (za.uh k)=((0,4),x):=by unfold za.zw;rw[hnx]
    rw[ed]
    refine(Yd hL.out.1.sp 4 (by omega) hnx fv).mono ?_
    rintro e w2 ⟨rfl,hb⟩
    exact⟨retag tag0 w1 0,rfl,hL.out.1.sp.step (Step.anew hb),Step.anew hb⟩
   | some f=>
    obtain⟨hf,hfu⟩:=Zv hnx
    have hbad:=HV.out.2.1.ji hf (by omega)
    subst efv
    refine(zfe hL.out.1.sp 4 (by omega) f hnx hf 251 _ _ (enters_of Tryz.func251 (by kernel_rfl) rfl) (fun c=>c=1∨c=2∨c=3) (by omega) (zmx {x with P:=x.P.set f 4} f (za.uh k)) (fun w2 h2 s2=>?_)).mono ?_
    ·have L2:=hL.out.1.step s2 (by omega) h2
     refine(zi7 L2 HV.out.2.2 f hf hbad).mono ?_
     rintro e w3 ⟨c,y,tag3,rfl,h3,s3,hz⟩
     refine⟨c,y,tag3,rfl,h3,s3.mono fun c hc=>by omega,hz,fun _=>?_⟩
     have hu4:y.P.use f=4:=by
      rcases hz with⟨_,_,rfl⟩|⟨_,_,rfl⟩<;>exact if_pos rfl
     omega
    ·rintro e w3 ⟨c,y,tag3,rfl,h3,s3,hz⟩
     refine⟨tag3,?_,?_,s3⟩
     ·unfold za.zw
      rw[hnx]
      dsimp only
      rcases hz with⟨rfl,hw,rfl⟩|⟨rfl,hw,rfl⟩
      ·rw[if_pos hw];rfl
      ·rw[if_neg hw,if_neg (by omega)]
     ·unfold za.zw
      rw[hnx]
      dsimp only
      rcases hz with⟨rfl,hw,rfl⟩|⟨rfl,hw,rfl⟩
      ·rw[if_pos hw]
       rw[if_pos rfl]at h3
       exact h3
      ·rw[if_neg hw]
       rw[if_neg (by omega)]at h3
       dsimp only at h3⊢
       rw[Qe hf (by omega) (by omega)]
       exact h3
  obtain⟨D,hD⟩:∃D,D=x.zw 4 (za.uh k):=⟨_,rfl⟩
  rw[←hD]at FH HE
  clear hD m1 m2 m3
  go_wp2_with fail
  refine(FH.out _ rfl).mono ?_
  rintro e w2 ⟨tag2,rfl,h2,s2⟩
  obtain⟨⟨df,dc⟩,dy⟩:=D
  dsimp only at h2 HE⊢
  have L2:=hL.out.1.step s2 (by omega) h2
  have S2:=Lib.hid (hL.out.2.mono (C':=CFi) (fun _ h=>h.elim) |>.trans (s2.mono fun c hc=>by unfold CFi;omega))
  clear FH m0
  by_cases hc:dc=0
  ·subst hc
   have g0:w2.cell? ⟨w.heap.size,0,none⟩=some (.pointer (some ⟨q.sp,0,none⟩)):=L2.get 0 rfl
   have g1:w2.cell? ⟨w.heap.size+1,0,none⟩=some (.int .i64 k.1):=L2.get 1 rfl
   have g2:w2.cell? ⟨w.heap.size+1,1,none⟩=some (.int .i64 k.2):=L2.get 2 rfl
   have g3:w2.cell? ⟨q.sp,4,none⟩=some (.pointer (some ⟨q.cp,0,none⟩)):=L2.cell (i:=4) (by omega)
   have PC:Hid (Calls Tryz.prog 85 #[.pointer (some ⟨q.cp,0,none⟩),.agg #[.int .i64 k.1,.int .i64 k.2],.int .i64 df] w2.drew fun e w3=>∃b,e=.returned (.bool b)∧(w3.cell? ⟨w.heap.size,0,none⟩=some (.pointer (some ⟨q.sp,0,none⟩))∧w3.cell? ⟨w.heap.size+1,0,none⟩=some (.int .i64 k.1)∧w3.cell? ⟨w.heap.size+1,1,none⟩=some (.int .i64 k.2)∧w3.cell? ⟨q.sp,4,none⟩=some (.pointer (some ⟨q.cp,0,none⟩)))∧zb w3 tag2 q (dy.xk k df)∧Step CFi tag w tag2 w3):=by
    refine(L2.drew.sp.cput k df).mono ?_
    rintro e w3 ⟨⟨b,rfl⟩,h3,s3⟩
    have L3:=L2.drew.step s3 (by omega) h3
    exact⟨b,rfl,⟨L3.get 0 rfl,L3.get 1 rfl,L3.get 2 rfl,L3.cell (i:=4) (by omega)⟩,h3,S2.out.trans ((Step.of_below (Below.refl _ _).drew).trans (s3.mono fun c hc=>by unfold CFi;omega))⟩
   clear L2 h2 s2
   go_wp2_with fail
   go_region_held (fun W'=>W'.cell? ⟨w.heap.size,0,none⟩=some (.pointer (some ⟨q.sp,0,none⟩))∧W'.cell? ⟨w.heap.size+1,0,none⟩=some (.int .i64 k.1)∧W'.cell? ⟨w.heap.size+1,1,none⟩=some (.int .i64 k.2)∧W'.cell? ⟨q.sp,4,none⟩=some (.pointer (some ⟨q.cp,0,none⟩))) (go_keep)
    ((go_at_call 85;refine PC.out.mono ?_;rintro e w3 ⟨b,rfl,⟨m0,m1,m2,m3⟩,HL⟩;have hL3:=Lib.hid HL;clear HL))
   clear PC g0 g1 g2 g3 m0 m1 m2 m3
   go_wp2_with fail
   have e1:R=((df,0),dy.xk k df):=by rw[HE.out];rfl
   rw[e1]
   exact bodyPost_ret (v:=.tuple #[.int .i64 df,.int .i64 0]) (by simp[results,Tryz.results235,go_sem]) rfl ⟨rfl,tag2,hL3.out⟩
  ·have n1:(dc==0)=false:=beq_eq_false_iff_ne.2 hc
   have n2:(dc=0)=False:=eq_false hc
   have H2:=Lib.hid h2
   have HC:=Lib.hid hc
   clear L2 h2 s2 hc
   go_wp2_with fail
   have e1:R=((df,dc),dy):=by rw[HE.out];exact if_neg HC.out
   rw[e1]
   exact bodyPost_ret (v:=.tuple #[.int .i64 df,.int .i64 dc]) (by simp[results,Tryz.results235,go_sem]) rfl ⟨rfl,tag2,H2.out,S2.out⟩
end
section
variable {w w':World}{tag tag':Nat→Nat}{q:Sq}{x:za}
theorem zi6{bs bk:Nat}{k:Nat}(h:Loc w tag q x [(bs,0,ptrV q.sp),(bk,0,.int .i64 k)])(hk:k<32)(f:Nat)(hf:f<1024)(hb:x.R.bad f=false):
  Calls Tryz.prog 233 #[.int .i64 f,.pointer (some ⟨bs,0,none⟩),.pointer (some ⟨bk,0,none⟩)] w fun e w2=>∃c y tag2,e=.returned (.int .i64 c)∧zb w2 tag2 q y∧Step (fun c=>c=1∨c=3) tag w tag2 w2∧zmx x f (160+k) c y:=by
 have h0:=h.drew
 have g0:w.cell? ⟨bs,0,none⟩=some (.pointer (some ⟨q.sp,0,none⟩)):=h.get 0 rfl
 have g1:w.cell? ⟨bk,0,none⟩=some (.int .i64 k):=h.get 1 rfl
 have g3:w.cell? ⟨q.sp,1,none⟩=some (.pointer (some ⟨q.dp,0,none⟩)):=h.cell (i:=1) (by omega)
 obtain⟨rr,hrr⟩:∃rr,rr=x.D.work.2:=⟨_,rfl⟩
 have RD:Hid (Calls Tryz.prog 234 #[.pointer (some ⟨q.dp,0,none⟩),.int .i64 k] w.drew fun e w1=>∃v,e=.returned (.tuple #[v,.int .i64 rr])∧(w1.cell? ⟨bs,0,none⟩=some (.pointer (some ⟨q.sp,0,none⟩))∧w1.cell? ⟨bk,0,none⟩=some (.int .i64 k)∧w1.cell? ⟨q.sp,1,none⟩=some (.pointer (some ⟨q.dp,0,none⟩))∧w1.cell? ⟨q.sp,0,none⟩=some (.pointer (some ⟨q.rp,0,none⟩)))∧
   zb w1 tag q {x with D:=x.D.work.1}∧Step (fun c=>c=3) tag w tag w1∧(rr=0→ByAt w1 v (x.D.cur (160+k)))):=by
  obtain⟨sb,off,c,mb,V,L,hD⟩:=h0.sp.disk
  refine(zgr w.drew hD k k rfl hk).mono ?_
  rintro e w1 ⟨v,rfl,hD1,t1,hv⟩
  have kk:=h0.sp.disk' t1 ⟨sb,off,c,mb,V,L,hD1⟩
  have L1:=h0.step kk.2 (by omega) kk.1
  refine⟨if rr=0 then v else .slice none 0 0,by rw[hrr];rfl,⟨L1.get 0 rfl,L1.get 1 rfl,L1.cell (i:=1) (by omega),L1.cell (i:=0) (by omega)⟩,kk.1,?_,fun e=>?_⟩
  ·exact(Step.of_below (Below.refl _ _).drew).trans kk.2
  ·rw[←hrr]at hv;rw[if_pos e];exact(hv e).1
 have hlen:(x.D.cur (160+k)).length=64:=by
  obtain⟨sb,off,c,mb,V,L,hD⟩:=h.sp.disk
  obtain⟨v,_,hv⟩:=Qh _ hD (160+k) (by omega)
  exact hv.1
 have HX:=Lib.hid (And.intro hf (And.intro hb (And.intro hrr hlen)))
 clear h h0 hf hb hrr hlen hk
 go_enter Tryz.func233,Tryz.ntmps233
 go_wp2_with fail
 go_region_held (fun W'=>W'.cell? ⟨bs,0,none⟩=some (.pointer (some ⟨q.sp,0,none⟩))∧W'.cell? ⟨bk,0,none⟩=some (.int .i64 k)∧W'.cell? ⟨q.sp,1,none⟩=some (.pointer (some ⟨q.dp,0,none⟩))) (go_keep)
  ((go_at_call 234;refine RD.out.mono ?_;rintro e w1 ⟨v,rfl,⟨m0,m1,m3,m4⟩,HS⟩;have hS:=Lib.hid HS;clear HS))
 clear RD g0 g1 g3
 by_cases hr:rr=0
 ·subst hr
  have hby:=hS.out.2.2 rfl
  have hl:=HX.out.2.2.2
  obtain⟨av,cv,rfl,_,_⟩:=SlAt.form hby
  have WR:Hid (Calls Tryz.prog 66 #[.pointer (some ⟨q.rp,0,none⟩),.int .i64 f,.int .i64 0,.slice av (x.D.cur (160+k)).length cv] w1 fun e w2=>e=.returned (.int .i64 0)∧zb w2 tag q {x with D:=x.D.work.1,R:=x.R.write f 0 (x.D.cur (160+k))}∧Step (fun c=>c=1) tag w1 tag w2):=by
   refine(Va w1 _ _ _ _ hS.out.1.ram _ (x.D.cur (160+k)) (ByAt.reads hby) f 0 f 0 rfl rfl HX.out.1 (by omega) (by omega) HX.out.2.1).mono ?_
   rintro e w2 ⟨rfl,k1,k2,_⟩
   have kk:=hS.out.1.ram' k2 k1
   exact⟨rfl,kk.1,kk.2⟩
  generalize (x.D.cur (160+k)).length=nl at WR⊢
  clear hby hl
  go_wp2_with fail
  refine WR.out.mono ?_
  rintro e w2 ⟨rfl,h2,s2⟩
  have H2:=Lib.hid (And.intro h2 s2)
  clear h2 s2 m0 m1 m3 m4
  go_wp2_with fail
  exact bodyPost_ret (v:=.int .i64 0) (by simp[results,Tryz.results233,go_sem]) rfl ⟨0,_,tag,rfl,H2.out.1,(hS.out.2.1.mono fun c hc=>.inr hc).trans (H2.out.2.mono fun c hc=>.inl hc),.inl ⟨rfl,HX.out.2.2.1.symm,rfl⟩⟩
 ·have n1:((rr:Int)==0)=false:=beq_eq_false_iff_ne.2 (by omega)
  have n2:((rr:Int)=0)=False:=eq_false (by omega)
  have HR:=Lib.hid hr
  clear hr m0 m1 m3 m4
  go_wp2_with fail
  exact bodyPost_ret (v:=.int .i64 rr) (by simp[results,Tryz.results233,go_sem]) rfl ⟨rr,_,tag,rfl,hS.out.1,hS.out.2.1.mono fun c hc=>.inr hc,.inr ⟨by rw[HX.out.2.2.1],by rw[←HX.out.2.2.1];exact HR.out,rfl⟩⟩
theorem zb.ofS(h:zb w tag q x)(wf:WF x)(k:Nat)(hk:k<32):
  Calls Tryz.prog 112 #[.pointer (some ⟨q.wp,0,none⟩),.int .i64 k] w fun e w'=>∃v',e=.returned v'∧PlAt w' v' (x.S.getD k [])∧Below w.heap.size w w'∧∀b,v'.ownBlock=some b→w.heap.size≤b:=by
 obtain⟨S,V,hB,hS⟩:=h.swap
 have hl:k<x.S.length:=by rw[wf.slots.1];exact hk
 have e:x.S.getD k []=x.S[k]:=by rw[List.getD_eq_getElem?_getD,List.getElem?_eq_getElem hl];rfl
 have hm:=jq wf.slots k
 have hlen:=Zo hm.1 hm.2
 rw[e]at hlen⊢
 exact zmr w q.wp S V x.S hB k x.S[k] (List.getElem?_eq_getElem hl) (by omega)
def CA(c:Nat):Prop:=c=1∨c=2∨c=3∨c=4∨c=5∨c=6∨10≤c∧c<18
theorem Jq{n c:Nat}(hn:n<8)(h:CP n c):CA c:=by unfold CP at h;unfold CA;omega
theorem CA_CFi{c:Nat}(h:CFi c):CA c:=by unfold CFi at h;unfold CA;omega
theorem CA0:¬CA 0:=by unfold CA;omega
theorem zdp(x:za)(l:List (Int×Int))(p:Int×Int)(e:Ent):x.Zk (l++[p]) e=((x.Zk l e).putF p.1.toNat p.2.toNat e).2:=by
 unfold za.Zk
 rw[List.foldl_append]
 rfl
theorem WF.putAny{x:za}(h:WF x)(o:∀n,8≤n→x.T n=none){n page:Nat}(hpg:page<4096){e:Ent}(he:e.ok=true):WF (x.putF n page e).2∧∀m,8≤m→(x.putF n page e).2.T m=none:=by
 cases hp:x.T n with
 | none=>
  have ev:x.putF n page e=(2,x):=by unfold za.putF;rw[hp]
  rw[ev]
  exact⟨h,o⟩
 | some pr=>
  have hn:n<8:=by
   rcases Nat.lt_or_ge n 8 with h8|h8
   ·exact h8
   ·rw[o n h8]at hp;cases hp
  have d:=h.putF hn hp hpg he
  refine⟨d.wf,fun m hm=>?_⟩
  rw[d.oth m (by omega)]
  exact o m hm
theorem WF.Zk{x:za}(h:WF x)(o:∀n,8≤n→x.T n=none)(l:List (Int×Int))(hl:∀p∈l,InR p){e:Ent}(he:e.ok=true):WF (x.Zk l e)∧∀m,8≤m→(x.Zk l e).T m=none:=by
 induction l generalizing x with
 | nil=>exact⟨h,o⟩
 | cons p l ih=>
  obtain⟨a,b⟩:=h.putAny o (n:=p.1.toNat) (hl p (List.mem_cons_self ..)).plc.2.2 he
  exact ih a b fun q hq=>hl q (List.mem_cons_of_mem _ hq)
theorem zn1(h:zb w tag q x)(wf:WF x)(k:Nat)(hk:k<32):
  Calls Tryz.prog 211 #[ptrV q.sp,.int .i64 k] w fun e w'=>e=.returned (.tuple #[.int .i64 (x.inF k).1.1,.int .i64 (x.inF k).1.2])∧∃tag',zb w' tag' q (x.inF k).2∧Step CA tag w tag' w':=by
 obtain⟨w0,hw0⟩:∃w0,w0=(w.alloc (.cells #[ptrV q.sp] 24 (0,0))).alloc (.cells #[.int .i64 k] 3 (0,0)):=⟨_,rfl⟩
 have hb0:Below w.heap.size w w0:=by rw[hw0];exact((Below.refl w.heap.size w).alloc (Nat.le_refl _) _).alloc (by simp) _
 have nb2:w0.heap[w.heap.size+1]?=some (.cells #[.int .i64 k] 3 (0,0)):=by
  rw[hw0]
  have:=heap_alloc_new (w.alloc (.cells #[ptrV q.sp] 24 (0,0))) (.cells #[.int .i64 k] 3 (0,0))
  rw[World.size_alloc]at this
  exact this
 have nb1:w0.heap[w.heap.size]?=some (.cells #[ptrV q.sp] 24 (0,0)):=by
  rw[hw0,Below.heap_alloc _ _ _ (by simp)]
  exact heap_alloc_new w _
 obtain⟨L0,s0⟩:=h.loc0.more hb0 [(w.heap.size,0,ptrV q.sp),(w.heap.size+1,0,.int .i64 k)] (fun t ht=>by
  simp at ht
  rcases ht with rfl|rfl
  ·exact⟨Nat.le_refl _,zo nb1 0 rfl⟩
  ·exact⟨by simp,zo nb2 0 rfl⟩)
 obtain⟨tag0,ht0⟩:∃tag0,tag0=retag tag w 0:=⟨_,rfl⟩
 rw[List.append_nil]at L0
 rw[←ht0]at L0 s0
 clear ht0 nb1 nb2 hb0
 have g0:w0.cell? ⟨w.heap.size,0,none⟩=some (.pointer (some ⟨q.sp,0,none⟩)):=L0.get 0 rfl
 obtain⟨R,hR⟩:∃R,R=x.inF k:=⟨_,rfl⟩
 have FH:Hid (∀fv,fv=Value.func (.func 233) #[] #[.pointer (some ⟨w.heap.size,0,none⟩),.pointer (some ⟨w.heap.size+1,0,none⟩)]→Calls Tryz.prog 213 #[.pointer (some ⟨q.sp,0,none⟩),.int .i64 3,fv] w0 fun e w2=>∃tag2,e=.returned (.tuple #[.int .i64 (x.zw 3 (160+k)).1.1,.int .i64 (x.zw 3 (160+k)).1.2])∧zb w2 tag2 q (x.zw 3 (160+k)).2∧Step (fun c=>c=1∨c=2∨c=3) tag0 w0 tag2 w2):=fun fv efv=>by
  cases hnx:x.P.next true with
  | none=>
   have ed:x.zw 3 (160+k)=((0,4),x):=by unfold za.zw;rw[hnx]
   rw[ed]
   refine(Yd L0.sp 3 (by omega) hnx fv).mono ?_
   rintro e w2 ⟨rfl,hb⟩
   exact⟨retag tag0 w0 0,rfl,L0.sp.step (Step.anew hb),Step.anew hb⟩
  | some f=>
   obtain⟨hf,hfu⟩:=Zv hnx
   have hbad:=wf.ji hf (by omega)
   subst efv
   refine(zfe L0.sp 3 (by omega) f hnx hf 233 _ _ (enters_of Tryz.func233 (by kernel_rfl) rfl) (fun c=>c=1∨c=2∨c=3) (by omega) (zmx {x with P:=x.P.set f 3} f (160+k)) (fun w2 h2 s2=>?_)).mono ?_
   ·have L2:=L0.step s2 (by omega) h2
    refine(zi6 L2 hk f hf hbad).mono ?_
    rintro e w3 ⟨c,y,tag3,rfl,h3,s3,hz⟩
    refine⟨c,y,tag3,rfl,h3,s3.mono fun c hc=>by omega,hz,fun _=>?_⟩
    have hu4:y.P.use f=3:=by
     rcases hz with⟨_,_,rfl⟩|⟨_,_,rfl⟩<;>exact if_pos rfl
    omega
   ·rintro e w3 ⟨c,y,tag3,rfl,h3,s3,hz⟩
    refine⟨tag3,?_,?_,s3⟩
    ·unfold za.zw
     rw[hnx]
     dsimp only
     rcases hz with⟨rfl,hw,rfl⟩|⟨rfl,hw,rfl⟩
     ·rw[if_pos hw];rfl
     ·rw[if_neg hw,if_neg (by omega)]
    ·unfold za.zw
     rw[hnx]
     dsimp only
     rcases hz with⟨rfl,hw,rfl⟩|⟨rfl,hw,rfl⟩
     ·rw[if_pos hw]
      rw[if_pos rfl]at h3
      exact h3
     ·rw[if_neg hw]
      rw[if_neg (by omega)]at h3
      dsimp only at h3⊢
      rw[Qe hf (by omega) (by omega)]
      exact h3
 have hD0:R=if(x.zw 3 (160+k)).1.2=0 then((x.zw 3 (160+k)).1,(x.zw 3 (160+k)).2.Zk ((x.zw 3 (160+k)).2.S.getD k []) ⟨1,(x.zw 3 (160+k)).1.1,false⟩)else((0,(x.zw 3 (160+k)).1.2),(x.zw 3 (160+k)).2):=hR
 have wfD:WF (x.zw 3 (160+k)).2∧(x.zw 3 (160+k)).2.T=x.T∧((x.zw 3 (160+k)).1.2=0→∃f:Nat,(x.zw 3 (160+k)).1.1=f∧f<1024):=by
  rcases wf.zw 3 (160+k) (by omega) (by omega) (wf.secs _ (by omega))with⟨_,e⟩|⟨f,_,_,e,d,_⟩|⟨f,_,hw,e,d,_⟩
  ·rw[e];exact⟨wf,rfl,fun e=>by simp at e⟩
  ·exact⟨d.wf,d.keep.1,fun _=>⟨f,by rw[e],d.was.1⟩⟩
  ·exact⟨d.wf,d.keep.1,fun e2=>by rw[e]at e2;dsimp only at e2;omega⟩
 have hout:∀n,8≤n→(x.zw 3 (160+k)).2.T n=none:=by rw[wfD.2.1];exact h.out
 obtain⟨D,hD⟩:∃D,D=x.zw 3 (160+k):=⟨_,rfl⟩
 rw[←hD]at FH hD0 wfD hout
 have HE:=Lib.hid hD0
 have HV:=Lib.hid (And.intro wfD (And.intro hout hk))
 have HW:=Lib.hid hw0
 have HL0:=Lib.hid (And.intro L0 s0)
 rw[←hR]
 clear h L0 s0 hR hD hD0 wfD hout hk wf hw0
 unfold ptrV at HW⊢
 go_enter Tryz.func211,Tryz.ntmps211
 go_wp2_with fail
 rw[←HW.out]
 refine(FH.out _ rfl).mono ?_
 rintro e w2 ⟨tag2,rfl,h2,s2⟩
 obtain⟨⟨df,dc⟩,dy⟩:=D
 dsimp only at h2 HE HV⊢
 have L2:=HL0.out.1.step s2 (by omega) h2
 have S2:=Lib.hid (HL0.out.2.mono (C':=CA) (fun _ h=>h.elim) |>.trans (s2.mono fun c hc=>by unfold CA;omega))
 clear FH g0
 by_cases hc:dc=0
 ·subst hc
  obtain⟨f,rfl,hf⟩:=HV.out.1.2.2 rfl
  have g0:w2.cell? ⟨w.heap.size,0,none⟩=some (.pointer (some ⟨q.sp,0,none⟩)):=L2.get 0 rfl
  have g1:w2.cell? ⟨w.heap.size+1,0,none⟩=some (.int .i64 k):=L2.get 1 rfl
  have g3:w2.cell? ⟨q.sp,5,none⟩=some (.pointer (some ⟨q.wp,0,none⟩)):=L2.cell (i:=5) (by omega)
  obtain⟨l,hl⟩:∃l,l=dy.S.getD k []:=⟨_,rfl⟩
  have OF:Hid (Calls Tryz.prog 112 #[.pointer (some ⟨q.wp,0,none⟩),.int .i64 k] w2.drew fun e w3=>∃a c,e=.returned (.slice a l.length c)∧(w3.cell? ⟨w.heap.size,0,none⟩=some (.pointer (some ⟨q.sp,0,none⟩))∧w3.cell? ⟨w.heap.size+1,0,none⟩=some (.int .i64 k)∧w3.cell? ⟨q.sp,5,none⟩=some (.pointer (some ⟨q.wp,0,none⟩)))∧PlAt w3 (.slice a l.length c) l∧
    Loc w3 (retag tag2 w2 0) q dy [(w.heap.size,0,ptrV q.sp)]∧Step CA tag w (retag tag2 w2 0) w3∧∀b,(Value.slice a l.length c).ownBlock=some b→w2.heap.size≤b):=by
   have OS:=L2.drew.sp.ofS HV.out.1.1 k HV.out.2.2
   rw[←hl]at OS
   refine OS.mono ?_
   rintro e w3 ⟨v',rfl,hp,hb,ho⟩
   obtain⟨a,c,rfl,_,_⟩:=SlAt.form hp
   have hb2:Below w2.heap.size w2 w3:=(Below.refl _ w2).drew.trans hb
   obtain⟨L3,s3⟩:=L2.more hb2 [] (fun t ht=>by cases ht)
   exact⟨a,c,rfl,⟨L3.get 0 rfl,L3.get 1 rfl,L3.cell (i:=5) (by omega)⟩,hp,L3.sub (fun t ht=>by simp at ht;simp[ht]),S2.out.trans (s3.mono fun _ h=>h.elim),ho⟩
  have HL9:=Lib.hid hl
  clear L2 h2 s2 hl
  go_wp2_with fail
  go_region_held (fun W'=>W'.cell? ⟨w.heap.size,0,none⟩=some (.pointer (some ⟨q.sp,0,none⟩))∧W'.cell? ⟨w.heap.size+1,0,none⟩=some (.int .i64 k)∧W'.cell? ⟨q.sp,5,none⟩=some (.pointer (some ⟨q.wp,0,none⟩))) (go_keep)
   ((go_at_call 112;refine OF.out.mono ?_;rintro e w3 ⟨a,cc,rfl,⟨m0,m1,m2⟩,HL⟩;have hL3:=Lib.hid HL;clear HL))
  clear OF g0 g1 g3 m0 m1 m2
  have hR1:R=(((f:Int),0),dy.Zk l ⟨1,(f:Int),false⟩):=by rw[HL9.out,HE.out];rfl
  have hin:∀p∈l,InR p:=by rw[HL9.out];exact(jq HV.out.1.1.slots k).2
  have hlen:l.length≤32768:=by rw[HL9.out];exact Zo (jq HV.out.1.1.slots k).1 (jq HV.out.1.1.slots k).2
  have HR1:=Lib.hid (And.intro hR1 (And.intro hin hf))
  have HLEN:=Lib.hid hlen
  clear hR1 hin hlen
  go_wp2_with fail
  go_loopw [26] (fun iv W=>∃(i:Nat) (tag':Nat→Nat),i≤l.length∧iv=.int .i64 i∧Loc W tag' q (dy.Zk (l.take i) ⟨1,(f:Int),false⟩) [(w.heap.size,0,ptrV q.sp)]∧Step CA tag w tag' W∧PlAt W (.slice a l.length cc) l∧∀b,(Value.slice a l.length cc).ownBlock=some b→tag' b=0) (fun iv _=>l.length-(intOf iv).toNat)
  case atStart=>
   refine⟨0,_,by omega,rfl,hL3.out.2.1,hL3.out.2.2.1,hL3.out.1,fun b hb=>yc _ _ _ _ (hL3.out.2.2.2 b hb)⟩
  case round=>
   obtain⟨i,tg,hi,rfl,hLoc,hSt,hPl,hOw⟩:=hrel
   by_cases hlt:i<l.length
   ·obtain⟨p,hp⟩:∃p,l[i]?=some p:=⟨l[i],List.getElem?_eq_getElem hlt⟩
    have hpos:0<(pl l).length:=by have:=hPl.1;omega
    obtain⟨pb,poff,pc,epv,_,_,_⟩:=SlAt.cells hPl hpos
    cases epv
    have hpe:p=l[i]:=by rw[List.getElem?_eq_getElem hlt]at hp;exact(Option.some.inj hp).symm
    obtain⟨k0,k1⟩:=PlAt.cell hPl i hlt
    rw[←hpe]at k0 k1
    obtain⟨pe,pn,ppg⟩:=(HR1.out.2.1 p (List.mem_of_getElem? hp)).plc
    have p1:p.1=(p.1.toNat:Int):=congrArg Prod.fst pe
    have p2:p.2=(p.2.toNat:Int):=congrArg Prod.snd pe
    have g0:wr.cell? ⟨w.heap.size,0,none⟩=some (.pointer (some ⟨q.sp,0,none⟩)):=hLoc.get 0 rfl
    have ga:∀o,(wr.alloc o).cell? ⟨w.heap.size,0,none⟩=some (.pointer (some ⟨q.sp,0,none⟩)):=fun o=>(World.cell?_alloc_lt _ _ _ (World.block_lt_of_cell? wr _ g0)).trans g0
    obtain⟨W2,hW2⟩:∃W2,W2=wr.alloc (.cells #[.int .i64 p.1,.int .i64 p.2] 58):=⟨_,rfl⟩
    have hbW:Below wr.heap.size wr W2:=by rw[hW2];exact(Below.refl _ _).alloc (Nat.le_refl _) _
    have wfz:=HV.out.1.1.Zk HV.out.2.1 (l.take i) (fun q hq=>HR1.out.2.1 q (List.mem_of_mem_take hq)) (e:=⟨1,(f:Int),false⟩) (by have:=HR1.out.2.2;simp[Ent.ok,most];omega)
    have PC:Hid (Calls Tryz.prog 88 #[.pointer (some ⟨q.sp,0,none⟩),.agg #[.int .i64 p.1,.int .i64 p.2],.agg #[.int .i64 1,.int .i64 f,.bool false]] W2 fun e w5=>(∃c,e=.returned (.int .i64 c))∧∃tag',Loc w5 tag' q (dy.Zk (l.take (i+1)) ⟨1,(f:Int),false⟩) [(w.heap.size,0,ptrV q.sp)]∧Step CA tag w tag' w5∧PlAt w5 (.slice (some ⟨pb,poff,none⟩) l.length cc) l∧∀b,(Value.slice (some ⟨pb,poff,none⟩) l.length cc).ownBlock=some b→tag' b=0):=by
     obtain⟨L2,s2⟩:=hLoc.more hbW [] (fun t ht=>by cases ht)
     have:=Yp L2.sp wfz.1 p.1.toNat p.2.toNat pn ppg ⟨1,(f:Int),false⟩ (by have:=HR1.out.2.2;simp[Ent.ok,most];omega)
     rw[←p1,←p2]at this
     refine this.mono ?_
     rintro e w5 ⟨rfl,tag5,h5,s5⟩
     have s5':Step CA (retag tg wr 0) W2 tag5 w5:=s5.mono fun c hc=>Jq pn hc
     have L5:=L2.step s5' CA0 h5
     have hOw2:∀b,(Value.slice (some ⟨pb,poff,none⟩) l.length cc).ownBlock=some b→retag tg wr 0 b=0:=fun b hb=>by
      unfold retag
      split
      ·exact hOw b hb
      ·rfl
     have hP2:PlAt W2 (.slice (some ⟨pb,poff,none⟩) l.length cc) l:=SlAt.below hPl hbW
     refine⟨⟨_,rfl⟩,tag5,⟨?_,L5.loc⟩,(hSt.trans (s2.mono fun _ h=>h.elim)).trans s5',SlAt.keep hP2 fun b hb=>(s5'.keeps CA0 b (SlAt.lt hP2 b hb) (hOw2 b hb)).2,fun b hb=>(s5'.keeps CA0 b (SlAt.lt hP2 b hb) (hOw2 b hb)).1⟩
     have e1:l.take (i+1)=l.take i++[p]:=by rw[List.take_add_one,hp];rfl
     rw[e1,zdp]
     exact L5.sp
    have HWW:=Lib.hid hW2
    have i1:(i:Int)<l.length:=by omega
    have i2:(0:Int)≤i:=by omega
    have HLT:=Lib.hid (And.intro hlt (And.intro hi HLEN.out))
    clear hLoc hSt hPl hOw hpos pe pn ppg p1 p2 hbW wfz hW2 hlt hi hpe hp
    go_wp2_with fail
    rw[←HWW.out]
    refine PC.out.mono ?_
    rintro e w5 ⟨⟨c,rfl⟩,h5⟩
    have H5:=Lib.hid h5
    clear h5 PC g0 k0 k1 ga
    have d5:IntKind.i64.wrap ((i:Int)+1)=i+1:=by have:=HLT.out;simp[IntKind.wrap,IntKind.bits,IntKind.signed];omega
    clear i1 i2
    go_wp2_with fail
    go_roundw
    case rel=>
     obtain⟨tag',a1,a2,a3,a4⟩:=H5.out
     exact⟨i+1,tag',HLT.out.1,by go_num,a1,a2,a3,a4⟩
    case measure=>have:=HLT.out.1;simp[intOf];omega
   ·obtain rfl:i=l.length:=by omega
    have H5:=Lib.hid (And.intro hLoc hSt)
    clear hLoc hSt hPl hOw
    go_wp2_with fail
    rw[HR1.out.1]
    refine bodyPost_ret (v:=.tuple #[.int .i64 f,.int .i64 0]) (by simp[results,Tryz.results211,go_sem]) rfl ⟨rfl,tg,?_,H5.out.2⟩
    have:=H5.out.1.sp
    rw[List.take_length]at this
    exact this
 ·have n1:(dc==0)=false:=beq_eq_false_iff_ne.2 hc
  have H2:=Lib.hid h2
  have HC:=Lib.hid hc
  clear L2 h2 s2 hc
  go_wp2_with fail
  have e1:R=((0,dc),dy):=by rw[HE.out];exact if_neg HC.out
  rw[e1]
  exact bodyPost_ret (v:=.tuple #[.int .i64 0,.int .i64 dc]) (by simp[results,Tryz.results211,go_sem]) rfl ⟨rfl,tag2,H2.out,S2.out⟩
end
end Go.Proofs.YtnhdmnijiphjjaaGreat
