/- Processes, in plain words: a store, and a load, in one page: what they leave of all frames, and of the slots. No program in it. -/
import Derived.Test.YtnhdmnijiphjjaaGreatJMp21
import Derived.Test.YtnhdmnijiphjjaaGreatJMp16
import Derived.Test.YtnhdmnijiphjjaaGreatJMp22
import Derived.Test.YtnhdmnijiphjjaaGreatJMp11
import Derived.Lib.SlBytesConst
import Derived.Test.YtnhdmnijiphjjaaGreatJMp9
import Derived.Test.YtnhdmnijiphjjaaGreatJMp0
import Derived.Deep.RegionHeldLaw
import Derived.BigQuiet
set_option linter.unusedVariables false
set_option linter.unusedSimpArgs false
set_option maxRecDepth 100000
set_option maxHeartbeats 2000000
namespace Go.Proofs.YtnhdmnijiphjjaaGreat
open Go Go.RowKit
section
variable {F:Nat→Prop}{x y:za}
theorem zb3(x:za)(n page:Nat){e:Ent}(he:e.kind≠2)(ho:(x.ent n page).kind≠2):(x.putF n page e).2.S=x.S:=by
 unfold za.putF
 cases hp:x.T n with
 | none=>rfl
 | some pr=>
  have ho2:(jr x.R pr.T page).1.kind≠2:=by unfold za.ent at ho;rw[hp]at ho;exact ho
  dsimp only
  split
  ·rfl
  ·split
   ·rfl
   ·split
    ·rfl
    ·show((x.xc n pr _).puts e (jr x.R pr.T page).1 ((n:Int),(page:Int))).S=_
     rw[zhp,if_neg fun z=>ho2 z.1]
     unfold za.put2
     rw[if_neg he]
     rfl
theorem znm(x:za)(n:Nat)(at_:Int):(x.jc n at_).S=x.S:=(zg8 x n at_).2.2.2.2.1
theorem zix(h:WF x)(u:Nat):(x.yt u).2.S=x.S∧∀m pg,pg<4096→(x.yt u).2.ent m pg=x.ent m pg:=by
 rcases h.yt u with⟨_,e⟩|⟨f,_,e,d⟩
 ·rw[e];exact⟨rfl,fun _ _ _=>rfl⟩
 ·rw[e];exact⟨d.keep.2.2.1,d.ent⟩
theorem zk5(h:WF x)(u sec:Nat)(h2:2≤u)(h5:u≤5)(hs:(x.D.cur sec).length=64):(x.zw u sec).2.S=x.S∧∀m pg,pg<4096→(x.zw u sec).2.ent m pg=x.ent m pg:=by
 rcases h.zw u sec h2 h5 hs with⟨_,e⟩|⟨f,_,_,e,d,_⟩|⟨f,_,hw,e,d,_⟩
 ·rw[e];exact⟨rfl,fun _ _ _=>rfl⟩
 ·exact⟨d.keep.2.2.1,d.ent⟩
 ·exact⟨d.keep.2.2.1,d.ent⟩
theorem zk6(h:WF x)(g:Int):(x.yx g).2.S=x.S∧∀m pg,pg<4096→(x.yx g).2.ent m pg=x.ent m pg:=by
 rcases h.yx g with⟨_,e⟩|⟨f,_,_,e,d,_⟩|⟨f,_,hw,e,d,_⟩
 ·rw[e];exact⟨rfl,fun _ _ _=>rfl⟩
 ·exact⟨d.keep.2.2.1,d.ent⟩
 ·exact⟨d.keep.2.2.1,d.ent⟩
theorem zgk(x:za)(k:Int×Int)(f:Int):(x.xk k f).S=x.S∧∀m pg,(x.xk k f).ent m pg=x.ent m pg:=by
 unfold za.xk
 split
 ·exact⟨rfl,fun _ _=>rfl⟩
 ·exact⟨rfl,fun _ _=>rfl⟩
theorem zn5(h:WF x){k:Int×Int}(hk:Zc k):(x.uf k).2.S=x.S∧∀m pg,pg<4096→(x.uf k).2.ent m pg=x.ent m pg:=by
 unfold za.uf
 cases getL x.CL k with
 | some v=>exact⟨rfl,fun _ _ _=>rfl⟩
 | none=>
  dsimp only
  have d:=zk5 h 4 (za.uh k) (by omega) (by omega) (h.secs _ (Xz hk))
  split
  ·obtain⟨c1,c2⟩:=zgk (x.zw 4 (za.uh k)).2 k (x.zw 4 (za.uh k)).1.1
   exact⟨c1.trans d.1,fun m pg hp=>(c2 m pg).trans (d.2 m pg hp)⟩
  ·exact d
theorem zk7(h:WF x){n page:Nat}{pr:yj}(hp:x.T n=some pr)(hpg:page<4096){a:Ar}(ha:yh pr.A (page:Int)=some a)(ho:(x.ent n page).kind≠2):(x.uk n page a).2.S=x.S:=by
 unfold za.uk
 by_cases k:a.kind≠1
 ·rw[if_pos k]
  have d:=zn5 h (Us (h.Yh n pr hp).1 ha k)
  split
  ·exact(zb3 _ n page (by show(1:Nat)≠2;omega) (by rw[d.2 n page hpg];exact ho)).trans d.1
  ·exact d.1
 ·rw[if_neg k]
  have d:=zix h 3
  split
  ·split
   ·exact(zb3 _ n page (by show(1:Nat)≠2;omega) (by rw[d.2 n page hpg];exact ho)).trans d.1
   ·rw[(uq _ _).2.2.1]
    exact(zb3 _ n page (by show(1:Nat)≠2;omega) (by rw[d.2 n page hpg];exact ho)).trans d.1
  ·exact d.1
theorem zf2(h:WF x){n page:Nat}{pr:yj}(hp:x.T n=some pr)(hpg:page<4096){a:Ar}(ha:yh pr.A (page:Int)=some a)(ho:(x.ent n page).kind≠2):(x.zt n page a).2.S=x.S:=by
 unfold za.zt
 split
 ·exact znm _ _ _
 ·split
  ·exact zk7 h hp hpg ha ho
  ·rfl
theorem ownF_S(h:WF x){n page:Nat}(hpg:page<4096)(a:Ar)(f:Int)(ho:(x.ent n page).kind≠2):(x.ownF n page a f).2.S=x.S:=by
 unfold za.ownF
 split
 ·unfold za.y7;rfl
 ·split
  ·exact zb3 _ n page (by show(1:Nat)≠2;omega) ho
  ·have d:=zk6 h f
   split
   ·exact(zb3 _ n page (by show(1:Nat)≠2;omega) (by rw[d.2 n page hpg];exact ho)).trans d.1
   ·exact d.1
theorem Ok0.ask_S(h:Ok0 x){n page:Nat}{pr:yj}(hp:x.T n=some pr)(hpg:page<4096)(wr:Bool)(ho:(x.ent n page).kind≠2):(x.askF n page wr).2.S=x.S:=by
 unfold za.askF
 rw[hp]
 dsimp only
 cases ha:yh pr.A (page:Int)with
 | none=>rfl
 | some a=>
  dsimp only
  have hS:=zf2 h.ok.wf hp hpg ha ho
  split
  ·rfl
  ·split
   ·rename_i z
    rcases h.ok.zt h.out hp hpg ha with⟨_,e⟩|⟨_,g,fr⟩
    ·rw[e]at z;simp at z
    ·exact(ownF_S g.ok.wf hpg a _ (by rw[(fr z.1).1];omega)).trans hS
   ·exact hS
structure zoh(x:za)(n page:Nat)(a:Ar)(at_:Nat)(b:List UInt8)(f:Nat)(y:za):Prop where
 ok:Ok0 y
 abs:y.abs=(x.abs.own a n page).write a n page at_ b
 keeps:jm 5 x y
 disk:y.D=x.D
 mine:Mine y a n page f
 ent1:∀m pg,pg<4096→¬(m=n∧pg=page)→(x.ent m pg).kind=1→y.ent m pg=x.ent m pg
 backs:∀(m pg g:Nat),m<8→pg<4096→¬(m=n∧pg=page)→g<1024→x.P.use g=3→x.B g=[plc m pg]→y.B g=[plc m pg]∧y.P.use g=3
 cr:∀g k,getL x.CR g=some k→getL y.CR g=some k
 slots:(x.ent n page).kind≠2→y.S=x.S
 eq:∃z f' c,x.askF n page true=((f',c),z)∧y.P=z.P∧y.B=z.B∧y.T=z.T∧y.CL=z.CL∧y.CR=z.CR∧f'=(f:Int)
 ents:(x.askF n page true).1=((f:Int),0)∧∀m pg,pg<4096→y.ent m pg=(x.askF n page true).2.ent m pg
theorem Ok0.zm4(h:Ok0 x){n:Nat}{a0:Nat}{b:List UInt8}{a:Ar}(h0:0<b.length)(h1:a0%64+b.length≤64)(h2:a0+b.length≤262144)(hc:zbn x.abs n (a0/64) a)(hw:a.write=true)(hroom:5≤x.P.room)(hcalm:x.D.Calm):
  x.qw n a0 b.length=0∧∃y f,x.Yi n a0 b=(0,y)∧zoh x n (a0/64) a (a0%64) b f y:=by
 have hpg:a0/64<4096:=by omega
 have hs:(x.T n).isSome=true:=by
  have:=hc.area
  cases hp:x.T n with
  | none=>unfold Abs.area za.abs at this;dsimp only at this;rw[hp]at this;cases this
  | some _=>rfl
 have hr:x.qw n a0 b.length=0:=by
  unfold za.qw
  rw[if_neg,if_neg (by omega)]
  rintro(k|k)
  ·omega
  ·rw[Int.toNat_natCast,hs]at k;cases k
 refine⟨hr,?_⟩
 obtain⟨ask0,hD⟩:=h.askOk hpg hc (wr:=true) (fun _=>hw) hroom hcalm
 obtain⟨pr0,hp0⟩:=Option.isSome_iff_exists.1 hs
 have hSS:=h.ask_S hp0 hpg true
 have hn8:=h.ok.Xg h.out hp0
 unfold za.Yi
 rw[if_pos hr]
 simp only[Int.toNat_natCast]
 have hone:=Uk n true x a0 b.length h0 h1
 rw[if_pos ask0]at hone
 rcases h.pieces hs true h0 (by omega) h2 with⟨e,_⟩|⟨_,f,a1,y,e,ha,g⟩|⟨e,_⟩
 ·rw[hone]at e
  exact absurd rfl e
 ·have hz:(x.askF n (a0/64) true).2=y∧(x.askF n (a0/64) true).1.1.toNat=f:=by
   rw[hone]at e
   have e1:=congrArg Prod.snd e
   have e2:=congrArg (fun z=>z.1.1) e
   dsimp only at e1 e2
   exact⟨e1,congrArg Pc.f (List.cons.inj e2).1⟩
  rw[e]
  dsimp only
  rw[if_pos rfl]
  have haa:a1=a:=by rw[hc.area]at ha;cases ha;rfl
  subst haa
  have hab:y.abs=x.abs.own a1 n (a0/64):=g.abs rfl
  obtain⟨q,hq,hm⟩:=g.mine rfl rfl
  have hqf:q=f:=by omega
  subst hqf
  have hs2:(y.T n).isSome=true:=by rw[g.keeps.some];exact hs
  obtain⟨pr,hp⟩:=Option.isSome_iff_exists.1 hs2
  have har:yh pr.A ((a0/64:Nat):Int)=some a1:=by
   rw[←Y4 hp,hab,←ha]
   unfold Abs.area Abs.own
   split<;>rfl
  obtain⟨w1,w2,w3⟩:=g.ok.wr1 hp hpg har hm (a0%64) b h1
  have ew:za.Xa [⟨q,a0%64,b.length⟩] b y.R=y.R.write q (a0%64) b:=by simp[za.Xa]
  rw[ew]
  have k:=g.keeps
  refine⟨_,q,rfl,w1,by rw[w2,hab],⟨k.zone,k.room,k.bad,k.fix,k.some⟩,hD q a1 y g,⟨hm.lt,by rw[w3 n _ hpg];exact hm.ent,hm.shared,hm.own⟩,fun m pg hp2 hne hk=>by rw[w3 m pg hp2];exact g.ent1 m pg hp2 hne hk,g.backs,g.cr,fun z=>by rw[←hz.1];exact hSS z,?_,Prod.ext (by have:=hz.2;show(x.askF n (a0/64) true).1.1=(q:Int);have hnat:=Qn h.ok.wf hp0 hpg true;omega) ask0,fun m pg hp2=>by rw[hz.1];exact w3 m pg hp2⟩
  obtain⟨⟨f1,c1⟩,z1⟩:∃r,r=x.askF n (a0/64) true:=⟨_,rfl⟩
  have hnat:=Qn h.ok.wf hp0 hpg true
  obtain⟨fn,hfn⟩:=hnat
  refine⟨y,(x.askF n (a0/64) true).1.1,(x.askF n (a0/64) true).1.2,?_,rfl,rfl,rfl,rfl,rfl,by have:=hz.2;omega⟩
  rw[←hz.1]
 ·omega
structure zj3(x:za)(n page:Nat)(y:za):Prop where
 ok:Ok0 y
 abs:y.abs=x.abs
 keeps:jm 5 x y
 disk:y.D=x.D
 frame:(y.ent n page).kind=1
 ent1:∀m pg,pg<4096→¬(m=n∧pg=page)→(x.ent m pg).kind=1→y.ent m pg=x.ent m pg
 backs:∀(m pg g:Nat),m<8→pg<4096→¬(m=n∧pg=page)→g<1024→x.P.use g=3→x.B g=[plc m pg]→y.B g=[plc m pg]∧y.P.use g=3
 cr:∀g k,getL x.CR g=some k→getL y.CR g=some k
 slots:(x.ent n page).kind≠2→y.S=x.S
 eq:(x.askF n page false).2=y
theorem Ok0.loadQ(h:Ok0 x){n:Nat}(hn:n<8){a0 s:Nat}{a:Ar}(h0:0<s)(h1:a0%64+s≤64)(h2:a0+s≤262144)(hc:zbn x.abs n (a0/64) a)(hroom:5≤x.P.room)(hcalm:x.D.Calm):
  ∃y,x.Ve n a0 s=((((x.abs.ct a n (a0/64)).drop (a0%64)).take s,0),y)∧zj3 x n (a0/64) y:=by
 have hpg:a0/64<4096:=by omega
 have hs:(x.T n).isSome=true:=by
  have:=hc.area
  cases hp:x.T n with
  | none=>unfold Abs.area za.abs at this;dsimp only at this;rw[hp]at this;cases this
  | some _=>rfl
 have hr:x.qw n a0 s=0:=by
  unfold za.qw
  rw[if_neg,if_neg (by omega)]
  rintro(k|k)
  ·omega
  ·rw[Int.toNat_natCast,hs]at k;cases k
 obtain⟨ask0,hD⟩:=h.askOk hpg hc (wr:=false) (fun e=>by cases e) hroom hcalm
 obtain⟨pr0,hp0⟩:=Option.isSome_iff_exists.1 hs
 have hSS:=h.ask_S hp0 hpg false
 unfold za.Ve
 rw[if_pos hr]
 simp only[Int.toNat_natCast]
 have hone:=Uk n false x a0 s h0 h1
 rw[if_pos ask0]at hone
 rcases h.pieces hs false h0 (by omega) h2 with⟨e,_⟩|⟨_,f,a1,y,e,ha,g⟩|⟨e,_⟩
 ·rw[hone]at e
  exact absurd rfl e
 ·have hz:(x.askF n (a0/64) false).2=y:=by
   rw[hone]at e
   exact congrArg Prod.snd e
  rw[e]
  dsimp only
  rw[if_pos rfl]
  have haa:a1=a:=by rw[hc.area]at ha;cases ha;rfl
  subst haa
  have hab:y.abs=x.abs:=g.abs rfl
  refine⟨y,?_,g.ok,hab,g.keeps,hD f a1 y g,(g.frame rfl).1,g.ent1,g.backs,g.cr,fun z=>by rw[←hz];exact hSS z,hz⟩
  have hb:=g.bytes hn hpg (by rw[hab];exact ha)
  have:Yo y.R [⟨f,a0%64,s⟩]=((x.abs.ct a1 n (a0/64)).drop (a0%64)).take s:=by
   unfold Yo
   simp only[List.flatMap_cons,List.flatMap_nil,List.append_nil]
   rw[zew _ _ _ _ h1,hb,hab]
  rw[this]
 ·omega
end
def arK(p:Nat):Ar:=if p<8 then arO else if p<16 then arS else arP
theorem zjs(p:Nat):(arK p).write=true:=by unfold arK;split;rfl;split<;>rfl
section
variable {X:Abs}{a b:Ar}{n m p q at_:Nat}{l:List UInt8}
theorem PgOk.any(h:PgOk X b m q)(g:PgOk X a n p)(hl:at_+l.length≤64):PgOk ((X.own a n p).write a n p at_ l) b m q:=by
 by_cases e:m=n∧q=p
 ·obtain⟨rfl,rfl⟩:=e
  have hab:b=a:=by have:=h.area;rw[g.area]at this;exact(Option.some.inj this).symm
  subst hab
  exact(g.own q).write fun _=>hl
 ·have hpv:((X.own a n p).write a n p at_ l).pv m q=X.pv m q:=by
   by_cases k:a.kind=2
   ·rw[(U1 X a n p at_ l k).1]
   ·rw[(zbx X a n p at_ l k).1,if_neg e]
  refine⟨by rw[zfv];exact h.area,by rw[hpv];exact h.there,fun k=>by rw[hpv];exact h.shared k,?_⟩
  have hlen:=h.len
  unfold Abs.ct at hlen⊢
  rw[hpv]
  cases hx:X.pv m q with
  | own l'=>rw[hx]at hlen;exact hlen
  | none=>simp
  | lost=>simp
  | file=>
   rw[hx]at hlen
   dsimp only at hlen⊢
   by_cases k:a.kind=2
   ·rw[(U1 X a n p at_ l k).2]
    split
    ·rename_i e2
     rw[zad]
     ·exact hlen
     ·rw[hlen];exact hl
    ·exact hlen
   ·rw[(zbx X a n p at_ l k).2];exact hlen
end
theorem zog{D:zx}(hD:∀s,s<192→(D.cur s).length=64){p:Nat}(hp:p<24):PgOk (absK D) (arK p) 0 p:=by
 have hf:∀k,(absK D).file k=if Zc k then D.cur (za.uh k)else []:=fun k=>rfl
 have hpv:(absK D).pv 0 p=Jy (arK p):=by
  unfold absK
  rw[Abs.zaj,Abs.zaj,Abs.zaj]
  unfold arK
  by_cases h1:p<8
  ·rw[if_neg (by unfold Ar.Has arP;dsimp only;omega),if_neg (by unfold Ar.Has arS;dsimp only;omega),if_pos ⟨rfl,by omega,by unfold Ar.Has arO;dsimp only;omega⟩,if_pos h1]
  ·rw[if_neg h1]
   by_cases h2:p<16
   ·rw[if_neg (by unfold Ar.Has arP;dsimp only;omega),if_pos ⟨rfl,by omega,by unfold Ar.Has arS;dsimp only;omega⟩,if_pos h2]
   ·rw[if_pos ⟨rfl,by omega,by unfold Ar.Has arP;dsimp only;omega⟩,if_neg h2]
 have har:(absK D).area 0 p=some (arK p):=by
  have hA:(absK D).A 0=some ([arO,arS,arP],[]):=rfl
  rw[Abs.zoe hA]
  show yh [arO,arS,arP] (p:Int)=_
  rw[Yt,Yt,Yt]
  unfold arK
  by_cases h1:p<8
  ·rw[if_pos h1,if_pos (by unfold arO;dsimp only;omega)]
  ·rw[if_neg h1,if_neg (by unfold arO;dsimp only;omega)]
   by_cases h2:p<16
   ·rw[if_pos h2,if_pos (by unfold arS;dsimp only;omega)]
   ·rw[if_neg h2,if_neg (by unfold arS;dsimp only;omega),if_pos (by unfold arP;dsimp only;omega)]
 refine⟨har,?_,fun k=>?_,?_⟩
 ·rw[hpv];unfold Jy;split<;>intro z<;>cases z
 ·rw[hpv];unfold Jy;rw[if_neg (by omega)]
 ·unfold Abs.ct
  rw[hpv]
  unfold Jy
  by_cases k1:(arK p).kind=1
  ·rw[if_pos k1];simp
  ·rw[if_neg k1]
   have h8:¬p<8:=fun z=>k1 (by unfold arK;rw[if_pos z];rfl)
   dsimp only
   have hk:Zc (za.keyF (arK p) p):=by
    unfold Zc za.keyF arK
    rw[if_neg h8]
    by_cases h2:p<16
    ·rw[if_pos h2];unfold arS;dsimp only;omega
    ·rw[if_neg h2];unfold arP;dsimp only;omega
   rw[hf,if_pos hk]
   exact hD _ (Xz hk)
section
variable {x y:za}{D:zx}
theorem zir(L:List (List (Int×Int)))(h:∀j,j<L.length→L.getD j []=[]):zk3 L=0:=by
 unfold zk3
 rw[List.countP_eq_zero]
 intro z hz
 obtain⟨i,hi,rfl⟩:=List.getElem_of_mem hz
 have:=h i hi
 rw[List.getD_eq_getElem?_getD,List.getElem?_eq_getElem hi]at this
 simpa using this
theorem zkr(h:Ok0 x){a:Ar}{n p f:Nat}(hn:n<8)(hp:p<4096)(m:Mine x a n p f)(hk:a.kind≠2):x.P.use f=3∧x.B f=[plc n p]:=by
 obtain⟨m1,m2⟩:=m.own hk
 obtain⟨g,q1,q2,q3,q4,q5⟩:=h.ok.frame hn hp m.ent.1
 have:g=f:=by have:=m.ent.2;omega
 subst this
 refine⟨?_,m2⟩
 rcases q4 with z|z
 ·exact z
 ·have:=(h.ok.cached g q2).1 z
  rw[m1]at this;cases this
end
theorem zba(w:World)(C:Array Value)(T:TypeId)(fz:Nat×Nat)(j:Nat):(w.alloc (.cells C T fz)).cell? ⟨w.heap.size,j,none⟩=C[j]?:=by
 have:(w.alloc (.cells C T fz)).heap[w.heap.size]?=some (.cells C T fz):=by
  show(w.heap.push _)[w.heap.size]?=_
  simp
 unfold World.cell?
 rw[this]
 simp
def entC(e:Ent):List Value:=[.int .i64 e.kind,.int .i64 e.n,.bool e.write]
def entS(b:Nat):Value:=.slice (some ⟨b,0,none⟩) 3 3
theorem zbh{w:World}{eb:Nat}{e:Ent}(h:SlRd w 1 (entS eb) (entC e).length (entC e)):w.cell? ⟨eb,0,none⟩=some (.int .i64 e.kind)∧w.cell? ⟨eb,1,none⟩=some (.int .i64 e.n)∧w.cell? ⟨eb,2,none⟩=some (.bool e.write):=by
 obtain⟨b,off,c,he,_,_,hx⟩:=SlRd.cells h (by show 0<3;omega)
 cases he
 exact⟨hx 0 _ rfl,hx 1 _ rfl,hx 2 _ rfl⟩
theorem zn7(w:World)(e:Ent):SlRd (w.alloc (.cells #[.int .i64 e.kind,.int .i64 e.n,.bool e.write] 70)) 1 (entS w.heap.size) (entC e).length (entC e):=by
 refine⟨rfl,.inr ⟨w.heap.size,0,3,rfl,Nat.le_refl _,by decide,by simp,fun u v hu=>?_⟩⟩
 rw[Nat.zero_add,zba,←hu,←Array.getElem?_toList]
 rfl
theorem AtQ.ent{w0 w:World}{V:List (Value×List Value)}{q:Sq}{x:za}(h:AtQ w0 V q x w)(e:Ent):AtQ w0 ((entS w.heap.size,entC e)::V) q x (w.alloc (.cells #[.int .i64 e.kind,.int .i64 e.n,.bool e.write] 70)):=
 h.cells ((Below.refl _ _).alloc (Nat.le_refl _) _) (zn7 w e) fun b hb=>.inr (by simp[entS,Value.ownBlock]at hb;omega)
section
variable {w0 w w':World}{V:List (Value×List Value)}{q:Sq}{x:za}
theorem AtQ.move(h:AtQ w0 V q x w)(ok:Ok0 x)(f to:Nat)(hf:f<1024)(hu:x.P.use f=3∨x.P.use f=4)(hto:x.P.next true=some to):
  Calls Tryz.prog 29 #[ptrV q.sp,.int .i64 f] w fun e w'=>e=.returned (.tuple #[.int .i64 to,.int .i64 0])∧AtQ w0 V q (x.qh f to) w':=
 h.go CA0 fun _ hS=>zcb hS ok f to hf hu hto
theorem AtQ.moveNo(h:AtQ w0 V q x w)(f:Nat)(hf:f<1024)(hu:¬(x.P.use f=3∨x.P.use f=4)):
  Calls Tryz.prog 29 #[ptrV q.sp,.int .i64 f] w fun e w'=>e=.returned (.tuple #[.int .i64 0,.int .i64 2])∧w'=w:=by
 obtain⟨tag,hS,_⟩:=h.st
 exact zib hS f hf hu
end
section
variable {x:za}{D:zx}{m:Nat}
theorem outM(h:StK m zx.none x):(∀p,p<24→PgOk x.abs (arK p) 0 p)∧x.D.Calm∧(x.T 0).isSome=true:=by
 refine⟨fun p hp=>by rw[h.abs];exact zog (fun s _=>Xt s) hp,by rw[h.disk];exact zx.zh8,?_⟩
 obtain⟨T,hT⟩:=h.proc
 rw[hT];rfl
theorem zny{P:zk}(h:0<P.room):∃to,P.next true=some to:=by
 cases hn:P.next true with
 | some to=>exact⟨to,rfl⟩
 | none=>have:=jo hn;omega
structure MvD(x:za)(pg at_:Nat)(b:List UInt8)(y:za)(f to:Nat)(wr:Bool):Prop where
 right:x.qw 0 ((64*pg+at_:Nat):Int) b.length=0
 store:x.Yi 0 ((64*pg+at_:Nat):Int) b=(0,y)
 ok:Ok0 y
 some:(y.T 0).isSome=true
 ent:y.ent 0 pg=⟨1,(f:Int),wr⟩
 lt:f<1024
 use:y.P.use f=3∨y.P.use f=4
 next:y.P.next true=Option.some to
 ne:to≠f
 mv:MoveD y f to (y.qh f to)
 some2:((y.qh f to).T 0).isSome=true
 ent2:(y.qh f to).ent 0 pg=⟨1,(to:Int),wr⟩
 load:∃v,(y.qh f to).Ve 0 ((64*pg+at_:Nat):Int) b.length=((b,0),v)
theorem mvD(h:StK m zx.none x){pg at_:Nat}(hpg:pg<24){b:List UInt8}(hb:0<b.length∧at_+b.length≤64):∃y f to wr,MvD x pg at_ b y f to wr:=by
 obtain⟨hK,hcalm,hs0⟩:=outM h
 have z1:(64*pg+at_)/64=pg:=by omega
 have z2:(64*pg+at_)%64=at_:=by omega
 have hPk:=hK pg hpg
 obtain⟨r1,y,f,e1,d⟩:=h.ok.zm4 (n:=0) (a0:=64*pg+at_) (b:=b) (a:=arK pg) hb.1 (by rw[z2];omega) (by omega) (by rw[z1];exact hPk.can) (zjs _) (by have:=h.room;omega) hcalm
 rw[z1,z2]at d
 have hsy:(y.T 0).isSome=true:=by rw[d.keeps.some];exact hs0
 have hroom:=h.room
 have hroom2:=d.keeps.room
 obtain⟨to,hto⟩:=zny (P:=y.P) (by omega)
 obtain⟨ht1,ht2⟩:=Zv hto
 obtain⟨g,q1,q2,q3,q4,q5⟩:=d.ok.ok.frame (n:=0) (page:=pg) (by omega) (by omega) d.mine.ent.1
 have hgf:g=f:=by have:=d.mine.ent.2;omega
 subst hgf
 have mv:=d.ok.qh q2 q4 hto
 have hpy:PgOk y.abs (arK pg) 0 pg:=by rw[d.abs];exact hPk.any hPk (by omega)
 have hcy:y.D.Calm:=by rw[d.disk];exact hcalm
 have hs2:((y.qh g to).T 0).isSome=true:=by rw[mv.keeps.some];exact hsy
 have hent:y.ent 0 pg=⟨1,(g:Int),(y.ent 0 pg).write⟩:=by
  have a1:=d.mine.ent.1
  have a2:=d.mine.ent.2
  cases hq:y.ent 0 pg
  rw[hq]at a1 a2
  dsimp only at a1 a2
  rw[a1,a2]
 obtain⟨v,e3,_⟩:=mv.ok.loadQ (n:=0) (by omega) (a0:=64*pg+at_) (s:=b.length) hb.1 (by rw[z2];omega) (by omega) (by rw[z1,mv.abs];exact hpy.can) (by have:=mv.keeps.room;omega) (by rw[mv.disk];exact hcy)
 have hct:y.abs.ct (arK pg) 0 pg=Abs.splice (x.abs.ct (arK pg) 0 pg) at_ b:=by
  rw[d.abs,Y2 (fun k=>by rw[Vx (hPk.shared k) k]),Vn]
 refine⟨y,g,to,(y.ent 0 pg).write,r1,e1,d.ok,hsy,hent,q2,q4,hto,fun e=>by rw[e]at ht2;omega,mv,hs2,?_,v,?_⟩
 ·rw[mv.ent 0 pg (by omega),if_pos q3]
 ·refine Eq.trans e3 ?_
  rw[z1,z2,mv.abs,hct,Qu (x.abs.ct (arK pg) 0 pg) b at_ (by rw[hPk.len];omega)]
end
section
variable {P:Program}{md:Region.Mode}{ops:Array Oper}{Q:Exit→Act→World→Prop}{st:Nat}{C:World→Prop}
def wpAnyL(P:Program)(md:Region.Mode)(ops:Array Oper)(Q:Exit→Act→World→Prop)(st:Nat)(C:World→Prop):Nat→Array Bool→Act→World→Prop
 | 0,listed,a,w=>Region.ready md ops listed=[]∧Q .normal a w
 | fuel+1,listed,a,w=>
  (Region.ready md ops listed=[]→Q .normal a w)∧
  ∀i∈Region.ready md ops listed,wpOp P ops Q i (fun a' w'=>((listed.setIfInBounds i true).getD st true=false→C w')∧wpAnyL P md ops Q st C fuel (listed.setIfInBounds i true) a' w') a w
theorem J9:∀(fuel:Nat) (listed:Array Bool) (a:Act) (w:World),wpAnyL P md ops Q st C fuel listed a w→wpAny P md ops Q fuel listed a w
 | 0,_,_,_,h=>h
 | fuel+1,_,_,_,h=>⟨h.1,fun i hi=>wpOp_mono (fun a' w' h'=>J9 fuel _ a' w' h'.2) (h.2 i hi)⟩
def waits(md:Region.Mode)(ops:Array Oper)(i:Nat):Nat→List Bool
 | 0=>[]
 | n+1=>waits md ops i n++[decide (n=i) || ((ops[n]?).map fun o=>o.after.any fun e=>Region.binds md e&&(waits md ops i n).getD e.on false).getD false]
def zg5(md:Region.Mode)(ops:Array Oper)(i st:Nat)(listed:Array Bool)(D:List Bool):Bool:=
 ((List.range ops.size).all fun j=>decide (j=i) || !(D.getD j false) || ((ops[j]?).map fun o=>o.after.any fun e=>Region.binds md e&&D.getD e.on false).getD true) &&
  ((List.range ops.size).all fun j=>!(listed.getD j false&&D.getD j false))&&D.getD st false&&decide (st≠i)&&decide (st<listed.size)&&decide (D.length≤ops.size)
theorem wpAnyL_first{i:Nat}{oi:Oper}{v:Value}{D:List Bool}(hi:ops[i]?=some oi)(hsel:∀(j:Nat) (o:Oper) cs b,ops[j]?=some o→o.op≠.select cs b)
  (hQ:∀c a w,Q (.panic c) (a.put oi.dst v) w→Q (.panic c) a w) (hD:∀j o,ops[j]?=some o→j≠i→D.getD j false=true→∃e∈o.after,Region.binds md e=true∧D.getD e.on false=true) (hst:D.getD st false=true) (hne:st≠i):
  ∀(fuel:Nat) (listed:Array Bool) (a:Act) (w:World),
   (∀k,listed.getD k false=true→D.getD k false=false)→st<listed.size→
   (∀j oj,ops[j]?=some oj→j≠i→listed.getD j true=false→(∀e∈oj.after,Region.binds md e=true→e.on≠i)→oi.apart ops oj=true)→
   i∈Region.ready md ops listed→YieldsIf P ops C oi v a→C w→
   wpAnyL P md ops Q st C fuel (listed.setIfInBounds i true) (a.put oi.dst v) w→wpAnyL P md ops Q st C (fuel+1) listed a w:=by
 intro fuel
 induction fuel with
 | zero=>
  intro listed a w _ _ _ hr hy hC H
  refine⟨fun h=>(by rw[h]at hr;cases hr),fun j hj=>?_⟩
  by_cases hji:j=i
  ·subst hji;exact hy.wpOp hi hC ⟨fun _=>hC,H⟩
  ·have:=ready_mono hj hji
   rw[H.1]at this
   cases this
 | succ fuel ih=>
  intro listed a w hL hsz hfree hr hy hC H
  refine⟨fun h=>(by rw[h]at hr;cases hr),fun j hj=>?_⟩
  by_cases hji:j=i
  ·subst hji;exact hy.wpOp hi hC ⟨fun _=>hC,H⟩
  ·have h1:=H.2 j (ready_mono hj hji)
   obtain⟨hjun,oj,hoj,hall⟩:=mem_ready.1 hj
   have hDj:D.getD j false=false:=by
    cases hq:D.getD j false with
    | false=>rfl
    | true=>
     obtain⟨e,he,hb,hd⟩:=hD j oj hoj hji hq
     rw[hL e.on (hall e he hb)]at hd
     cases hd
   have hjs:st≠j:=fun e=>by rw[e,hDj]at hst;cases hst
   have hnot:∀e∈oj.after,Region.binds md e=true→e.on≠i:=fun e he hb heq=>by
    have h1:=hall e he hb
    have h0:=(mem_ready.1 hr).1
    rw[heq]at h1
    rcases Nat.lt_or_ge i listed.size with h'|h'
    ·simp[h']at h0 h1;rw[h0]at h1;cases h1
    ·simp[Array.getElem?_eq_none h']at h1
   have h2:=wpOp_putIf hoj (hfree j oj hoj hji hjun hnot) (fun cs b=>hsel i oi cs b hi) (fun cs b=>hsel j oj cs b hoj) hQ hy h1
   have hfree':∀k ok,ops[k]?=some ok→k≠i→(listed.setIfInBounds j true).getD k true=false→
     (∀e∈ok.after,Region.binds md e=true→e.on≠i)→oi.apart ops ok=true:=fun k ok hk hki hun hno=>by
    refine hfree k ok hk hki ?_ hno
    by_cases hjk:j=k
    ·subst hjk;exact hjun
    ·rw[getD_set_ne true hjk]at hun;exact hun
   have hL':∀k,(listed.setIfInBounds j true).getD k false=true→D.getD k false=false:=fun k hk=>by
    by_cases hjk:j=k
    ·rw[←hjk];exact hDj
    ·rw[getD_set_ne false hjk]at hk;exact hL k hk
   have hun:((listed.setIfInBounds i true).setIfInBounds j true).getD st true=false:=by
    rw[getD_set_ne true (Ne.symm hjs),getD_set_ne true (Ne.symm hne)]
    cases hq:listed.getD st true with
    | false=>rfl
    | true=>
     have h9:listed.getD st false=true:=by
      simp[hsz]at hq⊢
      exact hq
     rw[hL st h9]at hst
     cases hst
   refine wpOp_mono (fun a' w' h3=>⟨fun _=>h3.2.1 hun,ih (listed.setIfInBounds j true) a' w' hL' (by rw[Array.size_setIfInBounds];exact hsz) hfree' (ready_mono hr (Ne.symm hji)) h3.1 (h3.2.1 hun) ?_⟩) h2
   rw[Array.setIfInBounds_comm _ _ hji]
   exact h3.2.2
theorem zz{oi:Oper}{v:Value}{fuel:Nat}{listed:Array Bool}{a:Act}{w:World}(i d:Nat)(hi:ops[i]?=some oi)(hd:oi.dst=some d)(hC:C w)(h:wpAnyL P md ops Q st C fuel (listed.setIfInBounds i true) (a.put (some d) v) w)
  (hs:Region.noSelect ops=true:=by kernel_rfl) (hf:Region.free md ops listed i=true:=by kernel_rfl) (hr:(Region.ready md ops listed).contains i=true:=by kernel_rfl) (hk:zg5 md ops i st listed (waits md ops i ops.size)=true:=by kernel_rfl)
  (hQ:∀c a w,Q (.panic c) (a.put oi.dst v) w→Q (.panic c) a w:=by exact fun _ _ _ h=>h) (hy:YieldsIf P ops C oi v a:=by exact Or.inl ⟨by rfl,by((intro w hSw;(try dsimp only at hSw);go_simp)<;>with_reducible rfl)⟩):wpAnyL P md ops Q st C (fuel+1) listed a w:=by
 unfold zg5 at hk
 simp only[Bool.and_eq_true,decide_eq_true_eq,List.all_eq_true,List.mem_range]at hk
 obtain⟨⟨⟨⟨⟨k1,k2⟩,k3⟩,k4⟩,k5⟩,k6⟩:=hk
 have lt:∀k,(waits md ops i ops.size).getD k false=true→k<ops.size:=fun k hk=>by
  rcases Nat.lt_or_ge k ops.size with h|h
  ·exact h
  ·rw[List.getD_eq_getElem?_getD,List.getElem?_eq_none (by omega)]at hk
   cases hk
 refine wpAnyL_first (D:=waits md ops i ops.size) hi (Region.noSelect_spec hs) hQ (fun j o hj hji hq=>?_) k3 k4 fuel listed a w (fun k hk=>?_) k5 (Region.free_spec hi hf) (by simpa using hr) hy hC (by rw[hd];exact h)
 ·have:=k1 j (lt j hq)
  rw[hj,hq,decide_eq_false hji]at this
  simp only[Bool.false_or,Bool.not_true,Option.map_some,Option.getD_some,Array.any_eq_true',Bool.and_eq_true]at this
  obtain⟨e,he,h1,h2⟩:=this
  exact⟨e,he,h1,h2⟩
 ·cases hq:(waits md ops i ops.size).getD k false with
  | false=>rfl
  | true=>
   have:=k2 k (lt k hq)
   rw[hk,hq]at this
   cases this
def yn(P:Program)(md:Region.Mode)(ops:Array Oper)(Q:Exit→Act→World→Prop)(st:Nat)(C:World→Prop)(fuel:Nat)(listed:Array Bool)(a:Act)(w:World)(rs:List Nat):Prop:=
 ∀i∈rs,wpOp P ops Q i (fun a' w'=>((listed.setIfInBounds i true).getD st true=false→C w')∧wpAnyL P md ops Q st C fuel (listed.setIfInBounds i true) a' w') a w
theorem yn.nil{fuel:Nat}{listed:Array Bool}{a:Act}{w:World}:yn P md ops Q st C fuel listed a w []:=fun _ h=>by cases h
theorem yn.cons{fuel:Nat}{listed:Array Bool}{a:Act}{w:World}{i:Nat}{o:Oper}{rs:List Nat}(ho:ops[i]?=some o)
  (h:∀K':Act→World→Prop,Shut (∀a w,((listed.setIfInBounds i true).getD st true=false→C w)→wpAnyL P md ops Q st C fuel (listed.setIfInBounds i true) a w→K' a w)→if Region.wanted o (yielded ops a.tmps)=true then Oper.wp P o a w K' Q else K' (a.put o.dst undef) w)
  (hs:yn P md ops Q st C fuel listed a w rs):yn P md ops Q st C fuel listed a w (i::rs):=fun j hj=>by
 rcases List.mem_cons.1 hj with rfl|hj
 ·exact wpOp_step ho (fun K' hK=>h K' (fun a w hS hW=>hK a w ⟨hS,hW⟩))
 ·exact hs j hj
theorem ug {rs : List Nat} {fuel : Nat} {listed : Array Bool} {a : Act} {w : World} (hr : Region.ready md ops listed = rs) (hne : rs ≠ [])
  (h : yn P md ops Q st C fuel listed a w rs) : wpAnyL P md ops Q st C (fuel + 1) listed a w := ⟨fun h0 => absurd (hr ▸ h0) hne, hr ▸ h⟩
theorem Vj{listed:Array Bool}{a:Act}{w:World}(hr:Region.ready md ops listed=[])(h:Q .normal a w):∀fuel,wpAnyL P md ops Q st C fuel listed a w
 | 0=>⟨hr,h⟩
 | _+1=>⟨fun _=>h,by rw[hr];simp⟩
theorem Qq{id:Nat}{a:Act}{w:World}(st:Nat)(C:World→Prop)(hm:P.follows .mixedOrders=true)(hC:C w.drew)
  (h:wpAnyL P .any ops Q st C ops.size (Array.replicate ops.size false) a w.drew):(Code.region id ops true).wp P Q a w:=
 wp_region_any hm (J9 _ _ _ _ h)
end
theorem zfb:∃i,Tryz.prog.info? 198=some i∧i.zero=some (.agg #[.int .i64 0,.slice none 0 0,.slice none 0 0])∧i.size=3∧i.bytes=56:=by
 have h:(Tryz.prog.info? 198).map (fun i=>(i.zero,i.size,i.bytes))=some (some (.agg #[.int .i64 0,.slice none 0 0,.slice none 0 0]),3,56):=by kernel_rfl
 obtain⟨i,hi,hb⟩:=Option.map_eq_some_iff.1 h
 simp at hb
 exact⟨i,hi,hb⟩
theorem zot(w:World)(p:Nat)(c0:w.cell? ⟨p,0,none⟩=some (.slice none 0 0)):
  Calls Tryz.prog 133 #[.pointer (some ⟨p,0,none⟩),.int .i64 0] w fun e w'=>e=.returned (.int .i64 (-1))∧w'=w:=by
 go_enter Tryz.func133,Tryz.ntmps133
 go_wp2_with fail
 refine wp_loop_rounds 1 ?_
 rw[rounds_succ]
 go_wp2_with fail
 go_ret
 exact⟨rfl,rfl⟩
theorem At_one(w:World)(p b off c:Nat)(hc:1≤c)(c0:w.cell? ⟨p,0,none⟩=some (.slice (some ⟨b,off,none⟩) 1 c))(c1:w.cell? ⟨b,off,none⟩=some (.int .i64 0)):
  Calls Tryz.prog 133 #[.pointer (some ⟨p,0,none⟩),.int .i64 0] w fun e w'=>e=.returned (.int .i64 0)∧w'=w:=by
 go_enter Tryz.func133,Tryz.ntmps133
 go_wp2_with fail
 refine wp_loop_rounds 1 ?_
 rw[rounds_succ]
 go_wp2_with fail
 go_ret
 exact⟨rfl,rfl⟩
theorem SlAt.oneP(w:World)(e:TypeId)(k:Nat)(xs:List Value)(h:xs.length=k):SlAt (w.alloc (.cells xs.toArray e)) e k (.slice (some ⟨w.heap.size,0,none⟩) 1 1) 1 xs:=
 ⟨by omega,.inr ⟨w.heap.size,0,1,_,rfl,heap_alloc_new w _,Nat.le_refl _,by simp[maxLen],by simp[h],fun j u hu=>by simpa using hu⟩⟩
def prL:List Value:=[.int .i64 0,.slice none 0 0,.slice none 0 0]
theorem zhv:∀u∈prL,u.oneCell'=true:=by
 intro u hu
 simp[prL]at hu
 rcases hu with rfl|rfl<;>rfl
theorem zeg(w:World)(a:Option Addr)(n c:Nat)(hc:n≤c):(Builtin.append_ #[89,89] 89 #[.slice a n c,.slice none 0 0]).run Tryz.prog w=.ok (.slice a n c) w:=by
 obtain⟨i,hi,hz,hs,hb⟩:=zfb
 cases a<;>simp[Builtin.append_,run_underlying Tryz.underlying89,sizeOf,typeInfo,hi,Builtin.lenOf,Builtin.firstCells,loadCells,storeCells,hc]
theorem zc3(w:World)(p:Nat)(G:Nat→Value)(h:Row w p 8194 G)(h0:G 0=.slice none 0 0):
  Calls Tryz.prog 77 #[.pointer (some ⟨p,0,none⟩),.int .i64 0] w fun e w'=>e=.returned (.int .i64 0)∧∃v,Row w' p 8194 (fun j=>if j=0 then v else G j)∧SlAt w' 198 3 v 1 prL∧Touch [p] w w'∧∀b,v.ownBlock=some b→w.heap.size≤b:=by
 obtain⟨i0,hi0,hz0,hs0,hb0⟩:=zfb
 have c0:w.cell? ⟨p,0,none⟩=some (.slice none 0 0):=by rw[h.cell (by omega),h0]
 have AT:=Lib.hid (zot w p c0)
 have H0:=Lib.hid h
 clear h
 go_enter Tryz.func77,Tryz.ntmps77
 go_wp2_with fail
 refine AT.out.mono ?_
 rintro e u ⟨rfl,hu⟩
 have hu:=hu.symm
 subst hu
 clear AT
 go_wp2_with fail
 refine wp_loop_rounds 1 ?_
 rw[rounds_succ]
 go_wp2_with fail
 have hC:w.drew.cell? ⟨p,0,none⟩=some (.slice none 0 0)∧w.drew.frozen? ⟨p,0,none⟩=false:=⟨by rw[(H0.out.below (Below.refl _ _).drew).cell (by omega),h0],(H0.out.below (Below.refl _ _).drew).frozen 0⟩
 have HQ:Hid (∀X,Below w.heap.size w X→X.cell? ⟨p,0,none⟩=some (.slice none 0 0)∧X.frozen? ⟨p,0,none⟩=false):=Lib.hid fun X hX=>by
  have r:=H0.out.below hX
  exact⟨by rw[r.cell (by omega),h0],r.frozen 0⟩
 have HB:Hid (Below w.heap.size w w.drew):=(Below.refl _ _).drew
 have ap:=fun(a:Option Addr) (n c:Nat) (hc:n≤c) (w:World)=>zeg w a n c hc
 have SA:Hid (SlAt ((w.alloc (.cells #[] 198)).alloc (.cells #[.int .i64 0,.slice none 0 0,.slice none 0 0] 198)).drew 198 3 (.slice (some ⟨w.heap.size,0,none⟩) 0 0) 0 []∧SlRd ((w.alloc (.cells #[] 198)).alloc (.cells #[.int .i64 0,.slice none 0 0,.slice none 0 0] 198)).drew 3 (.slice (some ⟨w.heap.size+1,0,none⟩) 1 1) 1 prL):=by
  refine⟨((SlAt.lit0 w _ 3).below ((Below.refl _ _).alloc (Nat.le_refl _) _)).below (Below.refl _ _).drew,?_⟩
  have:=(SlAt.oneP (w.alloc (.cells #[] 198)) 198 3 prL rfl).below (Below.refl _ _).drew
  rw[World.size_alloc]at this
  exact SlAt.rd this
 have SB:Hid (SlAt ((w.alloc (.cells #[.int .i64 0,.slice none 0 0,.slice none 0 0] 198)).alloc (.cells #[] 198)).drew 198 3 (.slice (some ⟨w.heap.size+1,0,none⟩) 0 0) 0 []∧SlRd ((w.alloc (.cells #[.int .i64 0,.slice none 0 0,.slice none 0 0] 198)).alloc (.cells #[] 198)).drew 3 (.slice (some ⟨w.heap.size,0,none⟩) 1 1) 1 prL):=by
  refine⟨?_,SlAt.rd (((SlAt.oneP w 198 3 prL rfl).below ((Below.refl _ _).alloc (Nat.le_refl _) _)).below (Below.refl _ _).drew)⟩
  have:=(SlAt.lit0 (w.alloc (.cells #[.int .i64 0,.slice none 0 0,.slice none 0 0] 198)) 198 3).below (Below.refl _ _).drew
  rw[World.size_alloc]at this
  exact this
 refine Qq 22 (fun X=>X.cell? ⟨p,0,none⟩=some (.slice none 0 0)∧X.frozen? ⟨p,0,none⟩=false) (by kernel_rfl) hC ?_
 refine zz 0 37 rfl rfl hC ?_
 simp only[Act.put,zg]
 refine zz 2 39 rfl rfl hC ?_
 simp only[Act.put,zg]
 refine zz 3 40 rfl rfl hC ?_
 simp only[Act.put,zg]
 refine zz 4 41 rfl rfl hC ?_
 simp only[Act.put,zg]
 refine zz 5 42 rfl rfl hC ?_
 simp only[Act.put,zg]
 refine zz 6 43 rfl rfl hC ?_
 simp only[Act.put,zg]
 refine zz 7 44 rfl rfl hC ?_
 simp only[Act.put,zg]
 refine zz 9 46 rfl rfl hC ?_
 simp only[Act.put,zg]
 refine zz 10 47 rfl rfl hC ?_
 simp only[Act.put,zg]
 refine zz 13 50 rfl rfl hC ?_
 simp only[Act.put,zg]
 refine zz 14 51 rfl rfl hC ?_
 simp only[Act.put,zg]
 refine zz 15 52 rfl rfl hC ?_
 simp only[Act.put,zg]
 refine zz 16 53 rfl rfl hC ?_
 simp only[Act.put,zg]
 refine zz 17 54 rfl rfl hC ?_
 simp only[Act.put,zg]
 refine zz 18 55 rfl rfl hC ?_
 simp only[Act.put,zg]
 refine ug (rs:=[1,11]) (by kernel_rfl) (by simp) ?_
 refine yn.cons rfl (fun K hK=>?_) (yn.cons rfl (fun K hK=>?_) yn.nil)
 ·go_simp
  refine hK.out _ _ (fun _=>HQ.out _ (HB.out.alloc HB.out.size (.cells #[] 198))) ?_
  clear hK K
  refine zz 8 45 rfl rfl (HQ.out _ (HB.out.alloc HB.out.size (.cells #[] 198))) ?_
  simp only[Act.put,zg]
  refine ug (rs:=[11]) (by kernel_rfl) (by simp) ?_
  refine yn.cons rfl (fun K hK=>?_) yn.nil
  go_simp
  refine hK.out _ _ (fun _=>HQ.out _ ((HB.out.alloc HB.out.size (.cells #[] 198)).alloc (HB.out.alloc HB.out.size (.cells #[] 198)).size (.cells #[.int .i64 0,.slice none 0 0,.slice none 0 0] 198))) ?_
  clear hK K
  have hB2:=Lib.hid ((HB.out.alloc HB.out.size (.cells #[] 198)).alloc (HB.out.alloc HB.out.size (.cells #[] 198)).size (.cells #[.int .i64 0,.slice none 0 0,.slice none 0 0] 198))
  refine ug (rs:=[12]) (by kernel_rfl) (by simp) ?_
  refine yn.cons rfl (fun K hK=>?_) yn.nil
  refine z8 rfl (.tmp 45) (.tmp 48) 89 rfl i0 _ 56 Tryz.underlying89 hi0 hz0 hs0 hb0 rfl _ 0 [] rfl SA.out.1 _ 1 prL rfl SA.out.2 zhv (by simp only[maxLen];omega) (by omega) ?_
  intro v2 w3 hs2 hg2 ho2
  obtain⟨g3,o3,c3,rfl,hc3,_,_⟩:=SlAt.cells hs2 (by simp[prL])
  have hv2:∀b,(Value.slice (some ⟨g3,o3,none⟩) (0+1) c3).ownBlock=some b→w.heap.size≤b:=fun b hb=>by
   rcases ho2 with e|e
   ·rw[e]at hb
    have hb:=Option.some.inj hb
    exact Nat.le_of_eq hb
   ·rw[e]at hb
    have hb:=Option.some.inj hb
    exact Nat.le_trans hB2.out.size (Nat.le_of_eq hb)
  have hb3:Below w.heap.size w w3:=hB2.out.grown hg2 (by have:=hB2.out.size;exact this) (fun b hb=>Nat.le_of_eq (Option.some.inj hb))
  have ap2:=ap (some ⟨g3,o3,none⟩) (0+1) c3 hc3
  have FN:Hid (Row (w3.setCell ⟨p,0,none⟩ (.slice (some ⟨g3,o3,none⟩) (0+1) c3)) p 8194 (fun j=>if j=0 then .slice (some ⟨g3,o3,none⟩) (0+1) c3 else G j)∧SlAt (w3.setCell ⟨p,0,none⟩ (.slice (some ⟨g3,o3,none⟩) (0+1) c3)) 198 3 (.slice (some ⟨g3,o3,none⟩) (0+1) c3) 1 prL∧Touch [p] w (w3.setCell ⟨p,0,none⟩ (.slice (some ⟨g3,o3,none⟩) (0+1) c3))∧∀b,(Value.slice (some ⟨g3,o3,none⟩) (0+1) c3).ownBlock=some b→w.heap.size≤b):=by
   refine⟨(H0.out.below hb3).set (by omega) _,?_,Touch.set (Touch.of_below hb3) (by simp) _,hv2⟩
   exact SlAt.keep hs2 fun b hb=>Below.heap_setCell _ _ _ _ (by have:=hv2 b hb;have:=H0.out.lt;show b≠p;omega)
  have HB3:=Lib.hid hb3
  obtain⟨y0,y1⟩:=HQ.out w3 hb3
  refine hK.out _ _ (fun _=>HQ.out _ HB3.out) ?_
  clear hK K hs2 hg2 ho2 hv2 hb3
  simp only[Act.put,zg]
  refine zz 19 56 rfl rfl (HQ.out _ HB3.out) ?_
  simp only[Act.put,zg]
  refine zz 20 57 rfl rfl (HQ.out _ HB3.out) ?_
  simp only[Act.put,zg]
  refine zz 21 58 rfl rfl (HQ.out _ HB3.out) ?_
  simp only[Act.put,zg]
  refine ug (rs:=[22]) (by kernel_rfl) (by simp) ?_
  refine yn.cons rfl (fun K hK=>?_) yn.nil
  go_simp
  refine hK.out _ _ (fun h=>by simp at h) ?_
  clear hK K
  refine Vj (by kernel_rfl) ?_ _
  clear ap2 y0 y1
  go_wp2_with fail
  exact bodyPost_ret (v:=.int .i64 0) (by simp[results,Tryz.results77,go_sem]) rfl ⟨rfl,_,FN.out⟩
 ·go_simp
  refine hK.out _ _ (fun _=>HQ.out _ (HB.out.alloc HB.out.size (.cells #[.int .i64 0,.slice none 0 0,.slice none 0 0] 198))) ?_
  clear hK K
  refine ug (rs:=[1]) (by kernel_rfl) (by simp) ?_
  refine yn.cons rfl (fun K hK=>?_) yn.nil
  go_simp
  refine hK.out _ _ (fun _=>HQ.out _ ((HB.out.alloc HB.out.size (.cells #[.int .i64 0,.slice none 0 0,.slice none 0 0] 198)).alloc (HB.out.alloc HB.out.size (.cells #[.int .i64 0,.slice none 0 0,.slice none 0 0] 198)).size (.cells #[] 198))) ?_
  clear hK K
  refine zz 8 45 rfl rfl (HQ.out _ ((HB.out.alloc HB.out.size (.cells #[.int .i64 0,.slice none 0 0,.slice none 0 0] 198)).alloc (HB.out.alloc HB.out.size (.cells #[.int .i64 0,.slice none 0 0,.slice none 0 0] 198)).size (.cells #[] 198))) ?_
  simp only[Act.put,zg]
  have hB2:=Lib.hid ((HB.out.alloc HB.out.size (.cells #[.int .i64 0,.slice none 0 0,.slice none 0 0] 198)).alloc (HB.out.alloc HB.out.size (.cells #[.int .i64 0,.slice none 0 0,.slice none 0 0] 198)).size (.cells #[] 198))
  refine ug (rs:=[12]) (by kernel_rfl) (by simp) ?_
  refine yn.cons rfl (fun K hK=>?_) yn.nil
  refine z8 rfl (.tmp 45) (.tmp 48) 89 rfl i0 _ 56 Tryz.underlying89 hi0 hz0 hs0 hb0 rfl _ 0 [] rfl SB.out.1 _ 1 prL rfl SB.out.2 zhv (by simp only[maxLen];omega) (by omega) ?_
  intro v2 w3 hs2 hg2 ho2
  obtain⟨g3,o3,c3,rfl,hc3,_,_⟩:=SlAt.cells hs2 (by simp[prL])
  have hv2:∀b,(Value.slice (some ⟨g3,o3,none⟩) (0+1) c3).ownBlock=some b→w.heap.size≤b:=fun b hb=>by
   rcases ho2 with e|e
   ·rw[e]at hb
    have hb:=Option.some.inj hb
    exact Nat.le_trans (Nat.le_succ _) (Nat.le_of_eq hb)
   ·rw[e]at hb
    have hb:=Option.some.inj hb
    exact Nat.le_trans hB2.out.size (Nat.le_of_eq hb)
  have hb3:Below w.heap.size w w3:=hB2.out.grown hg2 (by have:=hB2.out.size;exact this) (fun b hb=>Nat.le_trans (Nat.le_succ _) (Nat.le_of_eq (Option.some.inj hb)))
  have ap2:=ap (some ⟨g3,o3,none⟩) (0+1) c3 hc3
  have FN:Hid (Row (w3.setCell ⟨p,0,none⟩ (.slice (some ⟨g3,o3,none⟩) (0+1) c3)) p 8194 (fun j=>if j=0 then .slice (some ⟨g3,o3,none⟩) (0+1) c3 else G j)∧SlAt (w3.setCell ⟨p,0,none⟩ (.slice (some ⟨g3,o3,none⟩) (0+1) c3)) 198 3 (.slice (some ⟨g3,o3,none⟩) (0+1) c3) 1 prL∧Touch [p] w (w3.setCell ⟨p,0,none⟩ (.slice (some ⟨g3,o3,none⟩) (0+1) c3))∧∀b,(Value.slice (some ⟨g3,o3,none⟩) (0+1) c3).ownBlock=some b→w.heap.size≤b):=by
   refine⟨(H0.out.below hb3).set (by omega) _,?_,Touch.set (Touch.of_below hb3) (by simp) _,hv2⟩
   exact SlAt.keep hs2 fun b hb=>Below.heap_setCell _ _ _ _ (by have:=hv2 b hb;have:=H0.out.lt;show b≠p;omega)
  have HB3:=Lib.hid hb3
  obtain⟨y0,y1⟩:=HQ.out w3 hb3
  refine hK.out _ _ (fun _=>HQ.out _ HB3.out) ?_
  clear hK K hs2 hg2 ho2 hv2 hb3
  simp only[Act.put,zg]
  refine zz 19 56 rfl rfl (HQ.out _ HB3.out) ?_
  simp only[Act.put,zg]
  refine zz 20 57 rfl rfl (HQ.out _ HB3.out) ?_
  simp only[Act.put,zg]
  refine zz 21 58 rfl rfl (HQ.out _ HB3.out) ?_
  simp only[Act.put,zg]
  refine ug (rs:=[22]) (by kernel_rfl) (by simp) ?_
  refine yn.cons rfl (fun K hK=>?_) yn.nil
  go_simp
  refine hK.out _ _ (fun h=>by simp at h) ?_
  clear hK K
  refine Vj (by kernel_rfl) ?_ _
  clear ap2 y0 y1
  go_wp2_with fail
  exact bodyPost_ret (v:=.int .i64 0) (by simp[results,Tryz.results77,go_sem]) rfl ⟨rfl,_,FN.out⟩
def Vh(l:List Ar)(fr pg:Int):List Ar:=l.flatMap fun a=>qd a 0 fr++qd a (fr+pg) 4096
theorem za3(l:List Ar)(fr pg:Int):(Vh l fr pg).length≤2*l.length:=by
 induction l with
 | nil=>simp[Vh]
 | cons x l ih=>
  have h1:=je x 0 fr
  have h2:=je x (fr+pg) 4096
  simp only[Vh,List.flatMap_cons,List.length_append,List.length_cons]at ih⊢
  omega
theorem Three.add{B:Nat}{w w':World}{v1 v2 v3 v':Value}{l1 l2 l3 m:List Ar}(h:Three B w v1 v2 v3 l1 l2 l3)(hB:B≤w.heap.size)
  (hs:SlAt w' 32 6 v' (l1.length+m.length) (ar l1++ar m)) (hg:w.grownBy w' v1.ownBlock) (ho:v'.ownBlock=v1.ownBlock∨v'.ownBlock=some w.heap.size):
  Three B w' v' v2 v3 (l1++m) l2 l3∧Below B w w':=by
 refine⟨h.first hB ?_ hg ho,(Below.refl B w).grown hg hB h.b1⟩
 show SlAt _ _ _ _ _ _
 rw[List.length_append,Z0]
 exact hs
set_option maxHeartbeats 8000000 in
theorem zos(w:World)(v:Value)(l:List Ar)(h:ArRd w v l)(hl:∀a∈l,a.yo)(hlen:l.length≤100)(fr pg:Int)(hf:0≤fr∧1≤pg∧fr+pg≤4096):
  Calls Tryz.prog 135 #[v,.int .i64 fr,.int .i64 pg] w fun e w'=>∃v1 v2,e=.returned (.tuple #[v1,v2])∧Three w.heap.size w' v1 v2 (.slice none 0 0) (Vh l fr pg) (jh l fr (fr+pg)) []∧Below w.heap.size w w':=by
 obtain⟨a,c,rfl,hc,hm⟩:=ArRd.fm h
 obtain⟨f0,f1,f2⟩:=hf
 have H:=Lib.hid h
 have HL:=Lib.hid hl
 obtain⟨n,hn⟩:∃n,n=l.length:=⟨_,rfl⟩
 rw[←hn]at hc hlen⊢ H
 have HN:=Lib.hid hn
 clear hn h hl hm
 go_enter Tryz.func135,Tryz.ntmps135
 go_wp2_with fail
 obtain⟨i0,hi0,hz0,hs0,hb0⟩:=Qi
 go_loopw [8,9,10] (fun v1 v2 i wr=>∃k:Nat,k≤n∧i=.int .i64 k∧Below w.heap.size w wr∧Three w.heap.size wr v1 v2 (.slice none 0 0) (Vh (l.take k) fr pg) (jh (l.take k) fr (fr+pg)) []) (fun _ _ i _=>n-(intOf i).toNat)
 case atStart=>exact⟨0,by omega,rfl,Below.refl _ _,Three.start _ _⟩
 case round=>
  obtain⟨k,hk,rfl,hb,ht⟩:=hrel
  have HB:=Lib.hid hb
  have HT:=Lib.hid ht
  clear hb ht
  by_cases hlt:k<n
  ·have hlt':(k:Int)<n:=by omega
   obtain⟨y,hy⟩:∃y,l[k]?=some y:=⟨_,List.getElem?_eq_getElem (by rw[←HN.out];exact hlt)⟩
   obtain⟨b,off,rfl⟩:=H.out.addr (by rw[←HN.out];omega)
   have HQ:Hid (∀X,Below w.heap.size w X→_):=fun X hX=>(H.out.below hX).cell hy
   have hsy:=Lib.hid (HL.out y (List.mem_of_getElem? hy))
   have hnx:Hid (Vh (l.take (k+1)) fr pg=Vh (l.take k) fr pg++qd y 0 fr++qd y (fr+pg) 4096∧jh (l.take (k+1)) fr (fr+pg)=jh (l.take k) fr (fr+pg)++qd y fr (fr+pg)):=by
    rw[takeA hy]
    exact⟨by simp[Vh],by simp[jh]⟩
   have hpl:Hid ((Vh (l.take k) fr pg).length≤200∧(jh (l.take k) fr (fr+pg)).length≤100):=by
    have h1:=za3 (l.take k) fr pg
    have h2:=Jw (l.take k) fr (fr+pg)
    rw[List.length_take]at h1 h2
    constructor<;>omega
   obtain⟨R0,hR0⟩:∃R0,R0=Vh (l.take k) fr pg:=⟨_,rfl⟩
   obtain⟨P0,hP0⟩:∃P0,P0=jh (l.take k) fr (fr+pg):=⟨_,rfl⟩
   rw[←hR0,←hP0]at hnx hpl HT
   clear hR0 hP0
   obtain⟨f,p,wt,kd,fi,o⟩:=y
   simp only at HQ
   have w1:IntKind.i64.wrap (fr+pg)=fr+pg:=by simp[IntKind.wrap,IntKind.bits,IntKind.signed];omega
   clear hy
   obtain⟨e0,e1,e2,e3,e4,e5⟩:=HQ.out wr HB.out
   go_wp2_with fail
   clear e0 e1 e2 e3 e4 e5
   refine(Q7 wr ⟨f,p,wt,kd,fi,o⟩ 0 fr hsy.out ⟨by omega,by omega⟩ ⟨by omega,by omega⟩).mono ?_
   rintro e X1 ⟨s1,rfl,hp1,b1,ho1⟩
   have TX1:=Lib.hid (HT.out.below b1)
   have BX1:=Lib.hid (HB.out.trans (b1.mono HB.out.size))
   have PX1:=Lib.hid hp1
   have pl1:Hid ((qd ⟨f,p,wt,kd,fi,o⟩ 0 fr).length≤1):=je _ _ _
   clear b1 hp1 ho1
   go_wp2_with (at_builtin;refine Zm rfl _ _ 104 rfl i0 _ 48 Tryz.underlying104 hi0 hz0 hs0 hb0 rfl _ _ _ rfl TX1.out.a1 _ _ _ rfl PX1.out (Za _) ?d1 ?e1 ?f1)
   case d1=>have h1:=hpl.out.1;have h2:=pl1.out;simp only[maxLen];omega
   case e1=>have h1:=hpl.out.1;have h2:=pl1.out;omega
   intro z1 W2 hs1 hg1 hw1
   obtain⟨t1,c1⟩:=TX1.out.add BX1.out.size hs1 hg1 hw1
   have T2:=Lib.hid t1.turn
   have B2:=Lib.hid (BX1.out.trans c1)
   clear t1 c1 hs1 hg1 hw1 TX1 BX1 PX1
   obtain⟨e0,e1,e2,e3,e4,e5⟩:=HQ.out W2 B2.out
   go_wp2_with fail
   clear e0 e1 e2 e3 e4 e5
   refine(Q7 W2 ⟨f,p,wt,kd,fi,o⟩ fr (fr+pg) hsy.out ⟨by omega,by omega⟩ ⟨by omega,by omega⟩).mono ?_
   rintro e X2 ⟨s2,rfl,hp2,b2,ho2⟩
   have TX2:=Lib.hid (T2.out.below b2)
   have BX2:=Lib.hid (B2.out.trans (b2.mono B2.out.size))
   have PX2:=Lib.hid hp2
   have pl2:Hid ((qd ⟨f,p,wt,kd,fi,o⟩ fr (fr+pg)).length≤1):=je _ _ _
   clear b2 hp2 ho2 T2 B2
   go_wp2_with (at_builtin;refine Zm rfl _ _ 104 rfl i0 _ 48 Tryz.underlying104 hi0 hz0 hs0 hb0 rfl _ _ _ rfl TX2.out.a1 _ _ _ rfl PX2.out (Za _) ?d2 ?e2 ?f2)
   case d2=>have h1:=hpl.out.2;have h2:=pl2.out;simp only[maxLen];omega
   case e2=>have h1:=hpl.out.2;have h2:=pl2.out;omega
   intro z2 W3 hs2 hg2 hw2
   obtain⟨t2,c2⟩:=TX2.out.add BX2.out.size hs2 hg2 hw2
   rw[←hnx.out.2]at t2
   have T3:=Lib.hid t2.turn.turn
   have B3:=Lib.hid (BX2.out.trans c2)
   clear t2 c2 hs2 hg2 hw2 TX2 BX2 PX2
   obtain⟨e0,e1,e2,e3,e4,e5⟩:=HQ.out W3 B3.out
   go_wp2_with fail
   clear e0 e1 e2 e3 e4 e5
   refine(Q7 W3 ⟨f,p,wt,kd,fi,o⟩ (fr+pg) 4096 hsy.out ⟨by omega,by omega⟩ ⟨by omega,by omega⟩).mono ?_
   rintro e X3 ⟨s3,rfl,hp3,b3,ho3⟩
   have TX3:=Lib.hid (T3.out.below b3)
   have BX3:=Lib.hid (B3.out.trans (b3.mono B3.out.size))
   have PX3:=Lib.hid hp3
   have pl3:Hid ((qd ⟨f,p,wt,kd,fi,o⟩ (fr+pg) 4096).length≤1):=je _ _ _
   clear b3 hp3 ho3 T3 B3
   go_wp2_with (at_builtin;refine Zm rfl _ _ 104 rfl i0 _ 48 Tryz.underlying104 hi0 hz0 hs0 hb0 rfl _ _ _ rfl TX3.out.a1 _ _ _ rfl PX3.out (Za _) ?d3 ?e3 ?f3)
   case d3=>have h1:=hpl.out.1;have h2:=pl3.out;have h3:=pl1.out;simp only[maxLen,List.length_append];omega
   case e3=>have h1:=hpl.out.1;have h2:=pl3.out;have h3:=pl1.out;simp only[List.length_append];omega
   intro z3 W4 hs3 hg3 hw3
   rw[←List.length_append]at hs3
   obtain⟨t3,c3⟩:=TX3.out.add BX3.out.size hs3 hg3 hw3
   rw[←hnx.out.1]at t3
   have T4:=Lib.hid t3
   have B4:=Lib.hid (BX3.out.trans c3)
   clear t3 c3 hs3 hg3 hw3 TX3 BX3 PX3
   go_wp2_with fail
   go_roundw
   case rel=>exact⟨k+1,by omega,by go_num,B4.out,T4.out⟩
   case measure=>simp[intOf];omega
  ·have e:l.take k=l:=List.take_of_length_le (by rw[←HN.out];omega)
   rw[e]at HT
   go_wp2_with fail
   exact bodyPost_ret (v:=.tuple #[u8,u9]) (by simp[results,Tryz.results135,go_sem]) rfl ⟨_,_,rfl,HT.out,HB.out⟩
end Go.Proofs.YtnhdmnijiphjjaaGreat
