/- EvictForked, in plain words: one frame is everybody's. No program in it. -/
import Derived.Test.YtnhdmnijiphjjaaGreatJFz24
import Derived.Test.YtnhdmnijiphjjaaGreatJFz22
import Derived.Test.YtnhdmnijiphjjaaGreatJFz23
import Derived.Test.YtnhdmnijiphjjaaGreatJFz11
set_option linter.unusedVariables false
set_option linter.unusedSimpArgs false
set_option maxRecDepth 100000
set_option maxHeartbeats 2000000
namespace Go.Proofs.YtnhdmnijiphjjaaGreat
open Go Go.RowKit
structure Prof(x:za)(m k f:Nat):Prop where
 ok:Ok0 x
 ent:∀i pg,i<8→pg<4096→(x.ent i pg).kind=if i≤m∧pg=k then 1 else 0
 n:∀i,i≤m→(x.ent i k).n=f
 use:x.P.use f=3
 sec:32≤f∧f<64
section
variable {x y:za}{m k f:Nat}
theorem Prof.count(h:Prof x m k f):x.P.count 1 3=1:=by
 refine count_one (f:=f) (by have:=h.sec;omega) fun i hi=>⟨fun hu=>?_,fun e=>by rw[e];exact h.use⟩
 obtain⟨a,pg,h1,h2,h3,h4⟩:=h.ok.zfx (by omega) hu
 have he:=h.ent a pg h1 h2
 rw[h3]at he
 have hc:a≤m∧pg=k:=by
  by_cases hc:a≤m∧pg=k
  ·exact hc
  ·rw[if_neg hc]at he;cases he
 have:=h.n a hc.1
 rw[hc.2]at h4
 omega
theorem zgm(h:Ok0 x)(hn:∀i pg,i<8→pg<4096→(x.ent i pg).kind≠1)(s:Nat)(hs:s<32):x.P.count s 3=0:=by
 refine zg1 fun i hi hu=>?_
 obtain⟨a,pg,h1,h2,h3,_⟩:=h.zfx (by omega) hu
 exact hn a pg h1 h2 h3
theorem zif(h:Ok0 x)(hn:∀i pg,i<8→pg<4096→(x.ent i pg).kind≠2):(∀j,x.S.getD j []=[]):=fun j=>by
 by_cases hj:j<32
 ·cases hq:x.S.getD j []with
  | nil=>rfl
  | cons p l=>
   have hp:p∈x.S.getD j []:=by rw[hq];simp
   obtain⟨e2,h1,h2⟩:=((uj h.ok.wf.slots j).2 p hp).plc
   rw[e2]at hp
   exact absurd ((h.ok.slotE j _ _ hj h1 h2).1 hp).1 (hn _ _ h1 h2)
 ·rw[List.getD_eq_getElem?_getD,List.getElem?_eq_none (by rw[h.ok.wf.slots.1];omega)];rfl
theorem Prof.slots(h:Prof x m k f):∀j,x.S.getD j []=[]:=zif h.ok fun i pg h1 h2=>by
 rw[h.ent i pg h1 h2];split<;>decide
theorem Prof.held(h:Prof x m k f):Yh x.S=0:=ziy _ fun j _=>h.slots j
theorem Prof.mem(h:Prof x m k f){i pg:Nat}(hi:i<8)(hpg:pg<4096):plc i pg∈x.B f↔i≤m∧pg=k:=by
 rw[h.ok.ok.backE f i pg (by have:=h.sec;omega) hi hpg]
 have he:=h.ent i pg hi hpg
 constructor
 ·rintro⟨a,_⟩
  by_cases hc:i≤m∧pg=k
  ·exact hc
  ·rw[if_neg hc,a]at he;cases he
 ·intro hc
  rw[if_pos hc]at he
  exact⟨he,by rw[hc.2];exact h.n i hc.1⟩
theorem Prof.fork(h:Prof x m k f){pr:yg}(hm:m+1<8)(hk:k<4096)(d:ForkD x 0 (m+1) pr y):Prof y (m+1) k f:=by
 have hn:∀i pg,i<8→pg<4096→(y.ent i pg).kind=(if i≤m+1∧pg=k then 1 else 0)∧(i≤m+1→pg=k→(y.ent i pg).n=f):=fun i pg h1 h2=>by
  by_cases e:i=m+1
  ·subst e
   obtain⟨a,b⟩:=d.this pg h2
   have he:=h.ent 0 pg (by omega) h2
   by_cases hp:pg=k
   ·subst hp
    rw[if_pos ⟨by omega,rfl⟩]at he
    refine⟨by rw[a,he,if_pos ⟨Nat.le_refl _,rfl⟩],fun _ _=>?_⟩
    rw[b (by rw[he];decide)]
    exact h.n 0 (by omega)
   ·rw[if_neg fun z=>hp z.2]at he
    exact⟨by rw[a,he,if_neg fun z=>hp z.2],fun _ z=>absurd z hp⟩
  ·obtain⟨a,b⟩:=d.kinds i pg e h2
   have he:=h.ent i pg h1 h2
   refine⟨?_,fun z1 z2=>?_⟩
   ·rw[a,he]
    by_cases hc:i≤m∧pg=k
    ·rw[if_pos hc,if_pos ⟨by omega,hc.2⟩]
    ·rw[if_neg hc,if_neg fun z=>hc ⟨by omega,z.2⟩]
   ·rw[b,z2]
    exact h.n i (by omega)
 exact⟨d.ok,fun i pg h1 h2=>(hn i pg h1 h2).1,fun i hi=>(hn i k (by omega) hk).2 hi rfl,(d.use f 3 (by omega) (by omega)).2 h.use,h.sec⟩
structure Gone(x:za)(m k j:Nat):Prop where
 ok:Ok0 x
 ent:∀i pg,i<8→pg<4096→(x.ent i pg).kind=if i≤m∧pg=k then 2 else 0
 n:∀i,i≤m→(x.ent i k).n=j
 lt:j<32
 held:Yh x.S=1
theorem Gone.count{j:Nat}(h:Gone x m k j):x.P.count 1 3=0:=zgm h.ok (fun i pg h1 h2=>by rw[h.ent i pg h1 h2];split<;>decide) 1 (by omega)
theorem Prof.out{j:Nat}(h:Prof x m k f)(hm:m<8)(hk:k<4096)(d:OutD x f j y)(hj:j<32):Gone y m k j:=by
 refine⟨d.ok,fun i pg h1 h2=>?_,fun i hi=>?_,hj,?_⟩
 ·rw[d.ent i pg h2]
  by_cases hc:i≤m∧pg=k
  ·rw[if_pos ((h.mem h1 h2).2 hc),if_pos hc]
  ·rw[if_neg fun z=>hc ((h.mem h1 h2).1 z),if_neg hc,h.ent i pg h1 h2,if_neg hc]
 ·rw[d.ent i k hk,if_pos ((h.mem (by omega) hk).2 ⟨hi,rfl⟩)]
 ·refine zbo _ j (x.B f) (by rw[d.ok.ok.wf.slots.1];exact hj) (fun z=>?_) fun i hi=>?_
  ·have:=(h.mem (i:=0) (pg:=k) (by omega) hk).2 ⟨by omega,rfl⟩
   rw[z]at this;cases this
  ·rw[d.slot i (by rw[d.ok.ok.wf.slots.1]at hi;exact hi)]
   split
   ·rfl
   ·exact h.slots i
theorem Gone.back{j g i:Nat}(h:Gone x m k j)(hm:m<8)(hk:k<4096)(hi:i≤m)(hc:x.D.Calm)(hg:x.P.next true=some g)(hs:32≤g∧g<64){a:Ar}{pr:yg}(hp:x.T i=some pr)(ha:z8 pr.A (k:Int)=some a)(d:zeq x i k y):Prof y m k g:=by
 have hk2:(x.ent i k).kind=2:=by rw[h.ent i k (by omega) hk,if_pos ⟨hi,rfl⟩]
 have hn:=h.n i hi
 obtain⟨q1,q2,q3⟩:=h.ok.inE (by omega) hk hk2 hn hc hg
 have hy:(x.inF j).2=y:=by
  rw[←d.eq]
  unfold za.askF
  rw[hp]
  dsimp only
  rw[ha]
  dsimp only
  rw[if_neg (by simp),if_neg (by simp)]
  unfold za.zy
  rw[if_neg (by omega),if_pos hk2,hn,Int.toNat_natCast]
 rw[hy]at q2 q3
 have hmem:∀i' pg,i'<8→pg<4096→(plc i' pg∈x.S.getD j []↔i'≤m∧pg=k):=fun i' pg h1 h2=>by
  rw[h.ok.ok.slotE j i' pg h.lt h1 h2]
  have he:=h.ent i' pg h1 h2
  constructor
  ·rintro⟨b,_⟩
   by_cases hc:i'≤m∧pg=k
   ·exact hc
   ·rw[if_neg hc,b]at he;cases he
  ·intro hc
   rw[if_pos hc]at he
   exact⟨he,by rw[hc.2];exact h.n i' hc.1⟩
 refine⟨d.ok,fun i' pg h1 h2=>?_,fun i' hi'=>?_,q3,hs⟩
 ·rw[q2 i' pg h2]
  by_cases hc:i'≤m∧pg=k
  ·rw[if_pos ((hmem i' pg h1 h2).2 hc),if_pos hc]
  ·rw[if_neg fun z=>hc ((hmem i' pg h1 h2).1 z),if_neg hc,h.ent i' pg h1 h2,if_neg hc]
 ·rw[q2 i' k hk,if_pos ((hmem i' k (by omega) hk).2 ⟨hi',rfl⟩)]
theorem Prof.load{i:Nat}(h:Prof x m k f)(hm:m<8)(hk:k<4096)(hi:i≤m){a:Ar}{pr:yg}(hp:x.T i=some pr)(ha:z8 pr.A (k:Int)=some a)(d:zeq x i k y):y=x:=by
 have hk1:(x.ent i k).kind=1:=by rw[h.ent i k (by omega) hk,if_pos ⟨hi,rfl⟩]
 rw[←d.eq]
 unfold za.askF
 rw[hp]
 dsimp only
 rw[ha]
 dsimp only
 rw[if_neg (by simp),if_neg (by simp)]
 unfold za.zy
 rw[if_neg (by omega),if_neg (by omega),if_neg (by omega)]
end
section
variable {X:Abs}{a:Ar}{n m i p:Nat}
theorem zfm(c:i≠m):(X.fork n m).ct a i p=X.ct a i p:=Vh (if_neg c) rfl
theorem zfn:(X.fork n m).ct a m p=X.ct a n p:=by
 have:(X.fork n m).pv m p=X.pv n p:=if_pos rfl
 unfold Abs.ct
 rw[this]
 rfl
theorem PgOk.forkO(h:PgOk X a i p)(c:i≠m):PgOk (X.fork n m) a i p:=by
 have e1:(X.fork n m).pv i p=X.pv i p:=if_neg c
 have e2:(X.fork n m).A i=X.A i:=if_neg c
 exact⟨by unfold Abs.area;rw[e2];exact h.area,by rw[e1];exact h.there,fun k=>by rw[e1];exact h.shared k,by rw[zfm c];exact h.len⟩
theorem PgOk.forkN(h:PgOk X a n p):PgOk (X.fork n m) a m p:=by
 have e1:(X.fork n m).pv m p=X.pv n p:=if_pos rfl
 have e2:(X.fork n m).A m=(X.A n).map fun p=>(p.1,[]):=if_pos rfl
 refine⟨?_,by rw[e1];exact h.there,fun k=>by rw[e1];exact h.shared k,by rw[zfn];exact h.len⟩
 have:=h.area
 unfold Abs.area at this⊢
 rw[e2]
 cases hq:X.A n with
 | none=>rw[hq]at this;cases this
 | some z=>rw[hq]at this;exact this
end
section
variable {x y:za}{m k f g:Nat}{b:List UInt8}
theorem Ok0.askNew(h:Ok0 x){n page:Nat}{pr:yg}(hp:x.T n=some pr)(hpg:page<4096){a:Ar}(ha:z8 pr.A (page:Int)=some a)(hk:a.kind=1)(hw:a.write=true)(he:(x.ent n page).kind=0)(hg:x.P.next true=some g)(h0:(x.askF n page true).1.2=0):
  (x.askF n page true).1.1=g∧∀m pg,pg<4096→(x.askF n page true).2.ent m pg=if m=n∧pg=page then⟨1,(g:Int),true⟩else x.ent m pg:=by
 have hn:=h.ok.Zy h.out hp
 rcases h.ok.wf.yo 3 with⟨hx,_⟩|⟨f,hx,e,d⟩
 ·rw[hg]at hx;cases hx
 obtain rfl:g=f:=by rw[hg]at hx;exact Option.some.inj hx
 obtain⟨_,_,hB,hcr,_,_⟩:=d.ok h.ok h.out
 have hp1:(x.U8 g 3).T n=some pr:=by rw[d.keep.1];exact hp
 have hok:(⟨1,(g:Int),true⟩:Ent).ok=true:=by have:=d.was.1;simp[Ent.ok,most];omega
 have d2:=d.wf.putF hn hp1 hpg (e:=⟨1,g,true⟩) hok
 obtain⟨⟨c,z⟩,hz⟩:∃r,r=(x.U8 g 3).putF n page ⟨1,g,true⟩:=⟨_,rfl⟩
 rw[←hz]at d2
 have hfirst:x.uf n page a=if c=0 then(((g:Int),0),z)else((0,c),z.Yd g):=by
  unfold za.uf
  rw[if_neg (by omega),e]
  dsimp only
  rw[if_pos rfl,hw,←hz]
 have hpres:x.zy n page a=x.uf n page a:=by
  unfold za.zy
  rw[if_neg (by omega),if_neg (by omega),if_pos he]
 have hask:x.askF n page true=if(x.uf n page a).1.2=0 then(x.uf n page a).2.ownF n page a (x.uf n page a).1.1 else x.uf n page a:=by
  unfold za.askF
  rw[hp]
  dsimp only
  rw[ha]
  dsimp only
  rw[if_neg (by rw[hw];simp),hpres]
  by_cases q:(x.uf n page a).1.2=0
  ·rw[if_pos ⟨q,rfl⟩,if_pos q]
  ·rw[if_neg (fun z=>q z.1),if_neg q]
 by_cases hc:c=0
 ·subst hc
  rw[if_pos rfl]at hfirst
  rw[hfirst]at hask
  dsimp only at hask d2
  rw[if_pos rfl]at hask
  have hent:z.ent n page=⟨1,(g:Int),true⟩:=by rw[d2.ent n page hpg,if_pos ⟨rfl,rfl,rfl⟩]
  obtain⟨T',hT'⟩:=d2.this
  have hget:=d2.wf.get hT' hpg
  rw[hent]at hget
  have hput:z.putF n page ⟨1,(g:Int),true⟩=(0,z):=by
   unfold za.putF
   rw[hT']
   dsimp only at hget⊢
   rw[hget]
   dsimp only
   rw[if_neg (by simp),if_pos rfl]
  have hcr':getL z.CR (g:Int)=none:=by rw[d2.keep.2.2,d.keep.2.2.2.2];exact hcr
  have hmem:∀q,q∈z.B (g:Int)→q=plc n page:=fun q hq=>by
   have:=(d2.memB g q).1 hq
   by_cases r:(0:Int)=0∧q=plc n page∧(x.U8 g 3).ent n page≠⟨1,(g:Int),true⟩
   ·exact r.2.1
   ·rw[if_neg r,d.keep.2.1,hB]at this;cases this
  have hin:plc n page∈z.B (g:Int):=by
   refine(d2.memB g _).2 ?_
   rw[if_pos ⟨rfl,rfl,fun q=>by rw[d.ent n page hpg]at q;rw[q]at he;cases he⟩]
   exact .inl ⟨rfl,rfl⟩
  have hlen:(z.B (g:Int)).length=1:=by
   have hs:=(d2.wf.back (g:Int)).1
   cases hl:z.B (g:Int)with
   | nil=>rw[hl]at hin;cases hin
   | cons q l=>
    cases l with
    | nil=>rfl
    | cons r l=>
     rw[hl]at hs hmem
     have e1:=hmem q (by simp)
     have e2:=hmem r (by simp)
     subst e1;subst e2
     exact absurd ((List.pairwise_cons.1 hs).1 _ (by simp)) (ltP.irrefl _)
  have hown:z.ownF n page a (g:Int)=(((g:Int),0),z):=by
   unfold za.ownF
   rw[if_neg (by omega),if_pos ⟨hcr',hlen⟩,hput]
  rw[hask,hown]
  refine⟨rfl,fun m pg hq=>?_⟩
  dsimp only
  rw[d2.ent m pg hq]
  by_cases r:m=n∧pg=page
  ·rw[if_pos ⟨rfl,r⟩,if_pos r]
  ·rw[if_neg (fun z=>r z.2),if_neg r,d.ent m pg hq]
 ·exfalso
  rw[if_neg hc]at hfirst
  rw[hask,hfirst]at h0
  dsimp only at h0
  rw[if_neg hc]at h0
  exact hc h0
structure FkI(b:List UInt8)(y:za)(m k f:Nat):Prop where
 prof:Prof y m k f
 zone:y.P.zone=(qh 1).zone∧y.P.iso=(qh 1).iso
 room:26≤y.P.room+4*m
 calm:y.D.Calm
 pg:∀i,i≤m→PgOk y.abs arO i k
 ct:∀i,i≤m→(y.abs.ct arO i k).take b.length=b
 area:∃Q,y.abs.A 0=some ([arO,arS,arP],Q)
 rest:∀i,m<i→y.abs.A i=none
theorem zfd{P:zo}(hz:P.zone=(qh 1).zone∧P.iso=(qh 1).iso){i:Nat}(hi:32≤i∧i<64)(hu:P.use i=1):∃g,P.next true=some g∧32≤g∧g<64:=by
 have h1:i/32=1:=by omega
 obtain⟨g,e,_,_,z⟩:=zku (P:=P) (g:=i) (by omega) hu (by rw[h1,hz.1,(Uo 1 1).1];rfl) (by rw[h1,hz.2];exact(Uo 1 1).2)
 refine⟨g,e,?_⟩
 rw[hz.1,(Uo 1 (g/32)).1]at z
 by_cases h0:g/32=0
 ·rw[if_pos h0]at z;cases z
 ·rw[if_neg h0]at z
  by_cases h2:g/32<1+1
  ·omega
  ·rw[if_neg h2]at z;cases z
theorem zbm{X:Abs}{i:Nat}{a:Ar}{p:Nat}(h:X.area i p=some a):(X.A i).isSome=true:=by
 unfold Abs.area at h
 cases hq:X.A i with
 | none=>rw[hq]at h;cases h
 | some _=>rfl
theorem zj5{i:Nat}(h:(y.abs.A i).isSome=true):∃pr,y.T i=some pr:=by
 have:((y.T i).map fun pr=>(pr.A,pr.Q)).isSome=true:=h
 rw[Option.isSome_map]at this
 exact Option.isSome_iff_exists.1 this
theorem zjb(h:StK 1 zw.none x)(hk:k<8)(hb:0<b.length∧b.length≤64):x.xq 0 ((64*k:Nat):Int) b.length=0∧∃y f,x.Zn 0 ((64*k:Nat):Int) b=(0,y)∧FkI b y 0 k f:=by
 obtain⟨hK,hcalm,hs0⟩:=outK h
 have z1:64*k/64=k:=by omega
 have z2:64*k%64=0:=by omega
 have ek:arK k=arO:=by unfold arK;rw[if_pos hk]
 have hPk:=hK k (by omega)
 rw[ek]at hPk
 obtain⟨r1,y,f,e1,d⟩:=h.ok.zm6 (n:=0) (a0:=64*k) (b:=b) (a:=arO) hb.1 (by rw[z2];omega) (by omega) (by rw[z1];exact hPk.can) rfl (by have:=h.room;omega) hcalm
 rw[z1,z2]at d
 refine⟨r1,y,f,e1,?_⟩
 obtain⟨g,hg,hg1⟩:=zfd h.zone (i:=32) (by omega) (by have:=h.use 32;rw[if_pos (by omega),if_neg (by omega)]at this;exact this)
 obtain⟨T,hT⟩:=h.proc
 have ha:z8 [arO,arS,arP] ((k:Nat):Int)=some arO:=by
  rw[Z4,if_pos (by unfold arO;dsimp only;omega)]
 have he0:=h.ents 0 k (by omega) (by omega)
 obtain⟨n1,n2⟩:=h.ok.askNew hT (page:=k) (by omega) ha rfl rfl he0 hg (by rw[d.ents.1])
 rw[d.ents.1]at n1
 have hfg:f=g:=by dsimp only at n1;omega
 subst hfg
 have hent:∀i pg,pg<4096→y.ent i pg=if i=0∧pg=k then⟨1,(f:Int),true⟩else x.ent i pg:=fun i pg hp=>by rw[d.ents.2 i pg hp,n2 i pg hp]
 have hct:y.abs.ct arO 0 k=Abs.splice (x.abs.ct arO 0 k) 0 b:=by
  rw[d.abs,ja (fun z=>absurd z (by decide)),Vi]
 refine⟨⟨d.ok,fun i pg h1 h2=>?_,fun i hi=>?_,(zfg d.ok (by omega) (by omega) d.mine (by decide)).1,hg1⟩,?_,?_,by rw[d.disk];exact hcalm,fun i hi=>?_,fun i hi=>?_,⟨[],?_⟩,fun i hi=>?_⟩
 ·rw[hent i pg h2]
  by_cases c:i=0∧pg=k
  ·rw[if_pos c,if_pos (by omega)]
  ·rw[if_neg c,if_neg (by omega)];exact h.ents i pg h1 h2
 ·obtain rfl:i=0:=by omega
  rw[hent 0 k (by omega),if_pos ⟨rfl,rfl⟩]
 ·rw[d.keeps.zone.1,d.keeps.zone.2];exact h.zone
 ·have:=d.keeps.room;have:=h.room;omega
 ·obtain rfl:i=0:=by omega
  rw[d.abs];exact hPk.any hPk (by omega)
 ·obtain rfl:i=0:=by omega
  rw[hct];exact zdt _ _ _ rfl
 ·rw[d.abs,Yn,q8,h.abs];rfl
 ·rw[d.abs,Yn,q8]
  show(x.T i).map _=_
  rw[h.none i (by omega)];rfl
theorem FkI.fork(h:FkI b y m k f)(hm:m+1<4)(hk:k<8):∃pr g,y.T 0=some pr∧y.T (m+1)=none∧y.P.next false=some g∧1+3*y.has 0 (yc pr.A)≤y.P.room∧FkI b (y.J5 0 (m+1) g) (m+1) k f:=by
 obtain⟨Q,hA⟩:=h.area
 obtain⟨pr,hp,he⟩:=Option.map_eq_some_iff.1 (show(y.T 0).map (fun pr=>(pr.A,pr.Q))=some ([arO,arS,arP],Q)from hA)
 have hpA:pr.A=[arO,arS,arP]:=congrArg Prod.fst he
 have hx:y.T (m+1)=none:=by
  have:(y.T (m+1)).map (fun pr=>(pr.A,pr.Q))=none:=h.rest (m+1) (by omega)
  simpa using this
 have hhas:y.has 0 (yc pr.A)≤1:=by
  rw[hpA]
  have e1:yc [arO,arS,arP]=List.range 24:=by decide
  rw[e1]
  unfold za.has
  have e2:(List.range 24).countP (fun pg=>decide ((y.ent 0 pg).kind≠0))=(List.range 24).countP fun pg=>decide (pg=k):=by
   refine List.countP_congr fun pg hpg=>?_
   have hpg:pg<24:=by simpa using hpg
   have:=h.prof.ent 0 pg (by omega) (by omega)
   simp only[decide_eq_true_eq]
   rw[this]
   by_cases c:pg=k
   ·rw[if_pos ⟨by omega,c⟩];simp[c]
   ·rw[if_neg (fun z=>c z.2)];simp[c]
  rw[e2]
  have:∀k,k<8→(List.range 24).countP (fun i=>decide (i=k))≤1:=by decide
  exact this k hk
 have hroom:=h.room
 obtain⟨g,hg⟩:=zfe (P:=y.P) (by omega)
 have hr:1+3*y.has 0 (yc pr.A)≤y.P.room:=by omega
 obtain⟨_,_,_,_,_,d⟩:=h.prof.ok.zod hp (m:=m+1) (by omega) hx hg hr
 refine⟨pr,g,hp,hx,hg,hr,⟨h.prof.fork (by omega) (by omega) d,?_,?_,by rw[d.disk];exact h.calm,fun i hi=>?_,fun i hi=>?_,⟨Q,?_⟩,fun i hi=>?_⟩⟩
 ·rw[d.zone.1,d.zone.2];exact h.zone
 ·have:=d.room;omega
 ·rw[d.abs]
  by_cases c:i=m+1
  ·subst c;exact(h.pg 0 (by omega)).forkN
  ·exact(h.pg i (by omega)).forkO c
 ·rw[d.abs]
  by_cases c:i=m+1
  ·subst c;rw[zfn];exact h.ct 0 (by omega)
  ·rw[zfm c];exact h.ct i (by omega)
 ·rw[d.abs]
  show(if 0=m+1 then(y.abs.A 0).map (fun p=>(p.1,[]))else y.abs.A 0)=_
  rw[if_neg (by omega)];exact hA
 ·rw[d.abs]
  show(if i=m+1 then(y.abs.A 0).map (fun p=>(p.1,[]))else y.abs.A i)=_
  rw[if_neg (by omega)];exact h.rest i (by omega)
structure GoI(b:List UInt8)(y:za)(m k j:Nat):Prop where
 gone:Gone y m k j
 zone:y.P.zone=(qh 1).zone∧y.P.iso=(qh 1).iso
 free:∃f,32≤f∧f<64∧y.P.use f=1
 room:14≤y.P.room
 calm:y.D.Calm
 pg:∀i,i≤m→PgOk y.abs arO i k
 ct:∀i,i≤m→(y.abs.ct arO i k).take b.length=b
theorem FkI.out(h:FkI b y m k f)(hm:m<4)(hk:k<8):(∃pr,y.T 0=some pr)∧((y.ent 0 k).kind=1→y.P.use (y.ent 0 k).n.toNat=3)∧(y.outF 0 k).1=0∧∃j,GoI b (y.outF 0 k).2 m k j:=by
 have hent:(y.ent 0 k).kind=1:=by rw[h.prof.ent 0 k (by omega) (by omega),if_pos ⟨by omega,rfl⟩]
 have hn:=h.prof.n 0 (by omega)
 obtain⟨j,hj,hj32⟩:=zb5 h.prof.ok.ok.wf h.prof.slots
 obtain⟨o1,d⟩:=h.prof.ok.outF (n:=0) (page:=k) (f:=f) (by omega) (by omega) hent hn h.prof.use hj hj32 (h.prof.slots j) (by rw[h.calm.work])
 have hroom:=h.room
 refine⟨zj5 (zbm (h.pg 0 (by omega)).area),fun _=>by rw[hn];exact h.prof.use,o1,j,⟨h.prof.out (by omega) (by omega) d hj32,?_,⟨f,h.prof.sec.1,h.prof.sec.2,d.free⟩,?_,?_,fun i hi=>?_,fun i hi=>?_⟩⟩
 ·rw[d.keeps.zone.1,d.keeps.zone.2];exact h.zone
 ·have:=d.keeps.room;omega
 ·rw[d.disk,h.calm.work];exact h.calm
 ·rw[d.abs];exact(h.pg i hi).cur _ _
 ·rw[d.abs];exact h.ct i hi
structure BkI(b:List UInt8)(y:za)(m k f:Nat):Prop where
 prof:Prof y m k f
 room:9≤y.P.room
 calm:y.D.Calm
 pg:∀i,i≤m→PgOk y.abs arO i k
 ct:∀i,i≤m→(y.abs.ct arO i k).take b.length=b
theorem GoI.load{j i:Nat}(h:GoI b y m k j)(hm:m<4)(hk:k<8)(hi:i≤m)(hb:0<b.length∧b.length≤64):(y.T i).isSome=true∧∃z f,y.Yg i ((64*k:Nat):Int) b.length=((b,0),z)∧BkI b z m k f:=by
 obtain⟨pr,hp⟩:=zj5 (zbm (h.pg i hi).area)
 have z1:64*k/64=k:=by omega
 have z2:64*k%64=0:=by omega
 obtain⟨z,e,d⟩:=h.gone.ok.zn7 (n:=i) (by omega) (a0:=64*k) (s:=b.length) hb.1 (by omega) (by omega) (by rw[z1];exact(h.pg i hi).can) (by have:=h.room;omega) h.calm
 rw[z1,z2]at e
 rw[z1]at d
 rw[List.drop_zero,h.ct i hi]at e
 obtain⟨f,f1,f2,f3⟩:=h.free
 obtain⟨g,hg,hg1⟩:=zfd h.zone ⟨f1,f2⟩ f3
 have ha:z8 pr.A ((k:Nat):Int)=some arO:=by rw[←jb hp];exact(h.pg i hi).area
 refine⟨by rw[hp];rfl,z,g,e,⟨h.gone.back (by omega) (by omega) hi h.calm hg hg1 hp ha d,?_,by rw[d.disk];exact h.calm,fun i' hi'=>by rw[d.abs];exact h.pg i' hi',fun i' hi'=>by rw[d.abs];exact h.ct i' hi'⟩⟩
 have:=d.keeps.room;have:=h.room;omega
theorem BkI.load{i:Nat}(h:BkI b y m k f)(hm:m<4)(hk:k<8)(hi:i≤m)(hb:0<b.length∧b.length≤64):(y.T i).isSome=true∧y.Yg i ((64*k:Nat):Int) b.length=((b,0),y):=by
 obtain⟨pr,hp⟩:=zj5 (zbm (h.pg i hi).area)
 have z1:64*k/64=k:=by omega
 have z2:64*k%64=0:=by omega
 obtain⟨z,e,d⟩:=h.prof.ok.zn7 (n:=i) (by omega) (a0:=64*k) (s:=b.length) hb.1 (by omega) (by omega) (by rw[z1];exact(h.pg i hi).can) (by have:=h.room;omega) h.calm
 rw[z1,z2]at e
 rw[z1]at d
 rw[List.drop_zero,h.ct i hi]at e
 have ha:z8 pr.A ((k:Nat):Int)=some arO:=by rw[←jb hp];exact(h.pg i hi).area
 have:=h.prof.load (by omega) (by omega) hi hp ha d
 subst this
 exact⟨by rw[hp];rfl,e⟩
end
section
variable {w w':World}{tag tag':Nat→Nat}{q:Sq}{x:za}
theorem zms(h:zb w tag q x)(wf:WF x)(n page:Nat)(hn:n<8){pr:yg}(hp:x.T n=some pr)(hpg:page<4096)(hu:(x.ent n page).kind=1→x.P.use (x.ent n page).n.toNat=3):
  Calls Tryz.prog 27 #[ptrV q.sp,.int .i64 n,.int .i64 page] w fun r w'=>r=.returned (.int .i64 (x.outF n page).1)∧∃tag',zb w' tag' q (x.outF n page).2∧Step CA tag w tag' w':=by
 obtain⟨R,hR⟩:∃R,R=x.outF n page:=⟨_,rfl⟩
 have TR:=Lib.hid (zf0 h n hn hp)
 have GE:=Lib.hid (zer h wf n page hn hp hpg)
 have hok:=wf.Zc n hpg
 obtain⟨⟨ek,ef,ew⟩,he⟩:∃e,e=x.ent n page:=⟨_,rfl⟩
 rw[←he]at hu hok GE
 unfold entV at GE
 dsimp only at hu GE
 have HR:=Lib.hid hR
 have HX:=Lib.hid (And.intro h (And.intro wf (And.intro he (And.intro hu hok))))
 rw[←hR]
 clear h wf hp hpg hn hR he hu hok
 unfold ptrV at TR GE⊢
 go_enter Tryz.func27,Tryz.ntmps27
 go_wp2_with fail
 refine TR.out.mono ?_
 rintro r u ⟨rfl,hu⟩
 have hu:=hu.symm
 subst hu
 clear TR
 go_wp2_with fail
 refine GE.out.mono ?_
 rintro r w1 ⟨rfl,hb1⟩
 have b2:Below w.heap.size w (w1.alloc (.cells #[.int .i64 ek,.int .i64 ef,.bool ew] 70)):=hb1.trans (((Below.refl _ _).alloc (Nat.le_refl _) _).mono hb1.size)
 have nb:=heap_alloc_new w1 (.cells #[.int .i64 ek,.int .i64 ef,.bool ew] 70)
 obtain⟨L2,s2⟩:=HX.out.1.loc0.more b2 (entL w1.heap.size ⟨ek,ef,ew⟩) (fun t ht=>by
  simp[entL]at ht
  rcases ht with rfl|rfl|rfl
  ·exact⟨hb1.size,zq nb 0 rfl⟩
  ·exact⟨hb1.size,zq nb 1 rfl⟩
  ·exact⟨hb1.size,zq nb 2 rfl⟩)
 rw[List.append_nil]at L2
 clear hb1 GE nb b2
 go_wp2_with fail
 obtain⟨eb,heb⟩:∃eb,eb=w1.heap.size:=⟨_,rfl⟩
 obtain⟨W2,hW2⟩:∃W2,W2=w1.alloc (.cells #[.int .i64 ek,.int .i64 ef,.bool ew] 70):=⟨_,rfl⟩
 obtain⟨tag2,htag⟩:∃tag2,tag2=retag tag w 0:=⟨_,rfl⟩
 rw[←hW2,←heb,←htag]at L2
 rw[←hW2,←htag]at s2
 rw[←hW2,←heb]
 clear hW2 heb htag
 have d0:W2.cell? ⟨eb,0,none⟩=some (.int .i64 ek):=L2.get 0 rfl
 have d1:W2.cell? ⟨eb,1,none⟩=some (.int .i64 ef):=L2.get 1 rfl
 have d2:W2.cell? ⟨q.sp,2,none⟩=some (.pointer (some ⟨q.pp,0,none⟩)):=L2.cell (i:=2) (by omega)
 have H2:=Lib.hid (And.intro L2 s2)
 clear L2 s2
 by_cases hk:ek=1
 ·subst hk
  have hf:=(Ent.ok_n HX.out.2.2.2.2).1 rfl
  dsimp only at hf
  obtain⟨f,rfl⟩:=Int.eq_ofNat_of_zero_le hf.1
  have hf1:f<1024:=by omega
  have USE:Hid (Calls Tryz.prog 38 #[.pointer (some ⟨q.pp,0,none⟩),.int .i64 f] W2.drew fun r w'=>r=.returned (.int .i64 3)∧w'=W2.drew):=by
   have:=H2.out.1.drew.sp.useP f hf1
   rw[show x.P.use f=3 from HX.out.2.2.2.1 rfl]at this
   exact this
  have HF:=Lib.hid hf1
  have d0:W2.cell? ⟨eb,0,none⟩=some (.int .i64 1):=d0
  clear hf hf1
  refine wp_region_held_drew (S:=(fun X=>X.cell? ⟨q.sp,2,none⟩=some (.pointer (some ⟨q.pp,0,none⟩))∧X.cell? ⟨eb,0,none⟩=some (.int .i64 1)∧X.cell? ⟨eb,1,none⟩=some (.int .i64 f))) (by kernel_rfl) ⟨d2,d0,d1⟩ (fun hHeld=>?_)
  refine zg 0 23 rfl rfl hHeld ?_
  simp only[Act.put,zh]
  refine zg 1 24 rfl rfl hHeld ?_
  simp only[Act.put,zh]
  refine zg 2 25 rfl rfl hHeld ?_
  simp only[Act.put,zh]
  refine zg 3 26 rfl rfl hHeld ?_
  simp only[Act.put,zh]
  refine zg 4 27 rfl rfl hHeld ?_
  simp only[Act.put,zh]
  refine zg 5 28 rfl rfl hHeld ?_
  simp only[Act.put,zh]
  refine zg 6 29 rfl rfl hHeld ?_
  simp only[Act.put,zh]
  refine zg 7 30 rfl rfl hHeld ?_
  simp only[Act.put,zh]
  refine zg 8 31 rfl rfl hHeld ?_
  simp only[Act.put,zh]
  refine zg 9 32 rfl rfl hHeld ?_
  simp only[Act.put,zh]
  refine zg 10 33 rfl rfl hHeld ?_
  simp only[Act.put,zh]
  refine zg 11 34 rfl rfl hHeld ?_
  simp only[Act.put,zh]
  refine zg 12 35 rfl rfl hHeld ?_
  simp only[Act.put,zh]
  refine zg 13 36 rfl rfl hHeld ?_
  simp only[Act.put,zh]
  refine wpAnyH_ready (rs:=[14]) (by kernel_rfl) (by simp) ?_
  refine AllReadyH.cons rfl (fun K hK=>?_) AllReadyH.nil
  go_simp
  go_wp2_with (go_at_call 38;refine USE.out.mono ?_;rintro r w4 ⟨rfl,hw4⟩)
  have hw4:=hw4.symm
  subst hw4
  refine hK.out _ _ ⟨d2,d0,d1⟩ (fun hHeld=>?_)
  clear hK K
  refine zg 15 38 rfl rfl hHeld ?_
  simp only[Act.put,zh]
  refine zg 16 39 rfl rfl hHeld ?_
  simp only[Act.put,zh]
  refine wpAnyH_done (by kernel_rfl) ?_ _
  clear USE d0 d1 d2
  have L3:=H2.out.1.drew
  have d5:W2.drew.cell? ⟨q.sp,5,none⟩=some (.pointer (some ⟨q.wp,0,none⟩)):=L3.cell (i:=5) (by omega)
  have d3:W2.drew.cell? ⟨q.sp,0,none⟩=some (.pointer (some ⟨q.rp,0,none⟩)):=L3.cell (i:=0) (by omega)
  have d1:W2.drew.cell? ⟨eb,1,none⟩=some (.int .i64 f):=L3.get 1 rfl
  have s3:Step (fun _=>False) tag w tag2 W2.drew:=H2.out.2.trans (Step.of_below (Below.refl _ _).drew)
  obtain⟨W3,hW3⟩:∃W3,W3=W2.drew:=⟨_,rfl⟩
  rw[←hW3]at L3 d5 d3 d1 s3⊢
  have H3:=Lib.hid (And.intro L3 s3)
  have TK:=Lib.hid L3.sp.take
  clear L3 s3 H2 hW3
  rcases Qv x.S with⟨k,hk,hk32,_⟩|⟨hk,_⟩
  ·rw[hk]at TK
   have hk32:k<32:=by rw[HX.out.2.1.slots.1]at hk32;exact hk32
   have HK:=Lib.hid (And.intro hk hk32)
   clear hk hk32
   go_wp2_with fail
   all_goals (
    refine TK.out.mono ?_
    rintro r u ⟨rfl,hu⟩
    have hu:=hu.symm
    subst hu
    clear TK)
   go_wp2_with fail
   obtain⟨l,hl⟩:∃l,l=x.R.read f 0 64:=⟨_,rfl⟩
   have hl64:l.length=64:=by rw[hl];exact za9 ..
   have RD:Hid (Calls Tryz.prog 67 #[.pointer (some ⟨q.rp,0,none⟩),.int .i64 f,.int .i64 0,.int .i64 64] W3.drew fun r w4=>∃a c tag4,r=.returned (.tuple #[.slice a 64 c,.int .i64 0])∧(w4.cell? ⟨q.sp,0,none⟩=some (.pointer (some ⟨q.rp,0,none⟩))∧w4.cell? ⟨eb,1,none⟩=some (.int .i64 f))∧
     ByAt w4 (.slice a 64 c) l∧Loc w4 tag4 q x (entL eb ⟨1,(f:Int),ew⟩)∧Step (fun _=>False) tag w tag4 w4∧∀b,(Value.slice a 64 c).ownBlock=some b→tag4 b=0):=by
    have hu3:x.P.use f=3:=HX.out.2.2.2.1 trivial
    refine(Ub _ _ _ _ _ H3.out.1.drew.sp.ram f 0 64 f 0 64 rfl rfl rfl HF.out (by omega) (by omega) (HX.out.2.1.je HF.out (by omega))).mono ?_
    rintro r w4 ⟨v,rfl,hv,hb,ho⟩
    rw[←hl]at hv
    obtain⟨a,c,rfl,_,_⟩:=SlAt.form hv
    rw[hl64]at hv ho⊢
    obtain⟨L4,s4⟩:=H3.out.1.drew.more hb [] (fun t ht=>by cases ht)
    exact⟨a,c,_,rfl,⟨L4.cell (i:=0) (by omega),L4.get 1 rfl⟩,hv,L4,(H3.out.2.trans (Step.of_below (Below.refl _ _).drew)).trans s4,fun b hb=>zz _ _ _ _ (ho b hb)⟩
   have HL:=Lib.hid (And.intro hl hl64)
   clear hl hl64 d5 H3 hw4 hu
   go_region_held (fun W'=>W'.cell? ⟨q.sp,0,none⟩=some (.pointer (some ⟨q.rp,0,none⟩))∧W'.cell? ⟨eb,1,none⟩=some (.int .i64 f)) (go_keep)
    ((go_at_call 67;refine RD.out.mono ?_;rintro r w4 ⟨a,c,tag4,rfl,⟨m0,m1⟩,HS⟩;have hS:=Lib.hid HS;clear HS))
   clear RD d1 d3 m0
   have g1:w4.cell? ⟨q.sp,1,none⟩=some (.pointer (some ⟨q.dp,0,none⟩)):=hS.out.2.1.cell (i:=1) (by omega)
   obtain⟨rr,hrr⟩:∃rr,rr=x.D.work.2:=⟨_,rfl⟩
   have WS:Hid (Calls Tryz.prog 75 #[.pointer (some ⟨q.dp,0,none⟩),.int .i64 k,.slice a 64 c] w4 fun r w5=>r=.returned (.int .i64 rr)∧∃tag5,w5.cell? ⟨eb,1,none⟩=some (.int .i64 f)∧zb w5 tag5 q (x.wr (160+k) l)∧Step CA tag w tag5 w5):=by
    refine(hS.out.2.1.sp.swrite k HK.out.2 hS.out.1 HL.out.2 hS.out.2.2.2).mono ?_
    rintro r w5 ⟨rfl,h5,s5⟩
    have L5:=hS.out.2.1.step s5 (by omega) h5
    exact⟨by rw[hrr],_,L5.get 1 rfl,h5,(hS.out.2.2.1.mono fun _ h=>h.elim).trans (s5.mono fun c hc=>by unfold CA;omega)⟩
   have HRR:=Lib.hid hrr
   clear hrr
   go_wp2_with fail
   refine WS.out.mono ?_
   rintro r w5 ⟨rfl,tag5,n1,h5⟩
   have H5:=Lib.hid h5
   clear h5 WS g1 m1
   have wf5:=HX.out.2.1.wr (160+k) HL.out.2
   have e0:R=if rr=0 then(0,(x.wr (160+k) l).vg (x.B f) ⟨2,(k:Int),false⟩)else((rr:Int),x.wr (160+k) l):=by
    rw[HR.out,HRR.out,HL.out.1]
    unfold za.outF
    rw[←HX.out.2.2.1,if_neg (by simp),HK.out.1,if_neg (by simp)]
    simp only[Int.toNat_natCast]
   have HE:=Lib.hid e0
   have HW:=Lib.hid wf5
   clear e0 wf5
   by_cases hr:rr=0
   ·subst hr
    have AL:Hid (Calls Tryz.prog 76 #[.pointer (some ⟨q.sp,0,none⟩),.int .i64 f,.agg #[.int .i64 2,.int .i64 k,.bool false]] w5 fun r w6=>r=.returned (.tuple #[])∧∃tag6,zb w6 tag6 q R.2∧Step CA tag w tag6 w6):=by
     rw[HE.out,if_pos rfl]
     refine(zmg H5.out.1 HW.out f ⟨2,(k:Int),false⟩ (by have:=HK.out.2;simp[Ent.ok,most];omega)).mono ?_
     rintro r w6 ⟨rfl,tag6,h6,s6⟩
     exact⟨rfl,tag6,h6,H5.out.2.trans s6⟩
    go_wp2_with fail
    refine AL.out.mono ?_
    rintro r w6 ⟨rfl,h6⟩
    have H6:=Lib.hid h6
    clear h6 AL n1
    go_wp2_with fail
    exact bodyPost_ret (v:=.int .i64 0) (by simp[results,Tryz.results27,go_sem]) rfl ⟨by rw[HE.out,if_pos trivial],H6.out⟩
   ·have n2:((rr:Int)==0)=false:=beq_eq_false_iff_ne.2 (by omega)
    have n3:((rr:Int)=0)=False:=eq_false (by omega)
    have HRN:=Lib.hid hr
    clear hr
    go_wp2_with fail
    exact bodyPost_ret (v:=.int .i64 rr) (by simp[results,Tryz.results27,go_sem]) rfl ⟨by rw[HE.out,if_neg HRN.out],tag5,by rw[HE.out,if_neg HRN.out];exact H5.out.1,H5.out.2⟩
  ·rw[hk]at TK
   have HK:=Lib.hid hk
   clear hk
   go_wp2_with fail
   all_goals (
    refine TK.out.mono ?_
    rintro r u ⟨rfl,hu⟩
    have hu:=hu.symm
    subst hu
    clear TK)
   go_wp2_with fail
   have e0:R=(4,x):=by rw[HR.out];unfold za.outF;rw[←HX.out.2.2.1,if_neg (by simp),HK.out,if_pos rfl]
   rw[e0]
   exact bodyPost_ret (v:=.int .i64 4) (by simp[results,Tryz.results27,go_sem]) rfl ⟨rfl,tag2,H3.out.1.sp,H3.out.2.mono fun _ h=>h.elim⟩
 ·have e1:((ek:Int)==1)=false:=beq_eq_false_iff_ne.2 (by omega)
  have e2:((ek:Int)=1)=False:=eq_false (by omega)
  have e3:((ek:Int) != 1)=true:=by rw[bne,e1];rfl
  have HK:=Lib.hid hk
  clear hk
  refine wp_region_held_drew (S:=(fun X=>X.cell? ⟨q.sp,2,none⟩=some (.pointer (some ⟨q.pp,0,none⟩))∧X.cell? ⟨eb,0,none⟩=some (.int .i64 ek)∧X.cell? ⟨eb,1,none⟩=some (.int .i64 ef))) (by kernel_rfl) ⟨d2,d0,d1⟩ (fun hHeld=>?_)
  refine zg 0 23 rfl rfl hHeld ?_
  simp only[Act.put,zh]
  refine zg 1 24 rfl rfl hHeld ?_
  simp only[Act.put,zh]
  refine zg 2 25 rfl rfl hHeld ?_
  simp only[Act.put,zh]
  refine zg 3 26 rfl rfl hHeld ?_
  simp only[Act.put,zh]
  refine zg 4 27 rfl rfl hHeld ?_
  simp only[Act.put,zh]
  refine zg 5 28 rfl rfl hHeld ?_
  simp only[Act.put,zh]
  refine zg 6 29 rfl rfl hHeld ?_
  simp only[Act.put,zh]
  refine zg 7 30 rfl rfl hHeld ?_
  simp only[Act.put,zh]
  refine zt 8 31 rfl rfl (by kernel_rfl) (by kernel_rfl) (by kernel_rfl) (fun _ _ _ h=>h) (by rfl) hHeld ?_
  simp only[Act.put,zh]
  refine zt 9 32 rfl rfl (by kernel_rfl) (by kernel_rfl) (by kernel_rfl) (fun _ _ _ h=>h) (by rfl) hHeld ?_
  simp only[Act.put,zh]
  refine zt 10 33 rfl rfl (by kernel_rfl) (by kernel_rfl) (by kernel_rfl) (fun _ _ _ h=>h) (by rfl) hHeld ?_
  simp only[Act.put,zh]
  refine zt 11 34 rfl rfl (by kernel_rfl) (by kernel_rfl) (by kernel_rfl) (fun _ _ _ h=>h) (by rfl) hHeld ?_
  simp only[Act.put,zh]
  refine zt 12 35 rfl rfl (by kernel_rfl) (by kernel_rfl) (by kernel_rfl) (fun _ _ _ h=>h) (by rfl) hHeld ?_
  simp only[Act.put,zh]
  refine zt 13 36 rfl rfl (by kernel_rfl) (by kernel_rfl) (by kernel_rfl) (fun _ _ _ h=>h) (by rfl) hHeld ?_
  simp only[Act.put,zh]
  refine zt 14 37 rfl rfl (by kernel_rfl) (by kernel_rfl) (by kernel_rfl) (fun _ _ _ h=>h) (by rfl) hHeld ?_
  simp only[Act.put,zh]
  refine zt 15 38 rfl rfl (by kernel_rfl) (by kernel_rfl) (by kernel_rfl) (fun _ _ _ h=>h) (by rfl) hHeld ?_
  simp only[Act.put,zh]
  refine zg 16 39 rfl rfl hHeld ?_
  simp only[Act.put,zh]
  refine wpAnyH_done (by kernel_rfl) ?_ _
  go_wp2_with fail
  exact bodyPost_ret (v:=.int .i64 2) (by simp[results,Tryz.results27,go_sem]) rfl ⟨by rw[HR.out];unfold za.outF;rw[←HX.out.2.2.1,if_pos HK.out],tag2,by rw[HR.out];unfold za.outF;rw[←HX.out.2.2.1,if_pos HK.out];exact H2.out.1.drew.sp,(H2.out.2.trans (Step.of_below (Below.refl _ _).drew)).mono fun _ h=>h.elim⟩
end
section
variable {w0 w w':World}{V:List (Value×List Value)}{q:Sq}{x:za}
theorem AtQ.evOut(h:AtQ w0 V q x w)(wf:WF x)(n page:Nat)(hn:n<8){pr:yg}(hp:x.T n=some pr)(hpg:page<4096)(hu:(x.ent n page).kind=1→x.P.use (x.ent n page).n.toNat=3):
  Calls Tryz.prog 27 #[ptrV q.sp,.int .i64 n,.int .i64 page] w fun e w'=>e=.returned (.int .i64 (x.outF n page).1)∧AtQ w0 V q (x.outF n page).2 w':=
 h.go CA0 fun _ hS=>zms hS wf n page hn hp hpg hu
theorem AtQ.used(h:AtQ w0 V q x w)(wf:WF x):Calls Tryz.prog 51 #[.pointer (some ⟨q.wp,0,none⟩)] w fun e w'=>e=.returned (.int .i64 (Yh x.S))∧AtQ w0 V q x w':=by
 obtain⟨tag,hS,_⟩:=h.st
 refine(hS.usedS wf).mono ?_
 rintro e w1 ⟨rfl,hb⟩
 exact⟨rfl,h.below hb⟩
end
def l20:List UInt8:=[120,121,122]
theorem zg6{x:za}(h:StK 1 zw.none x):x.xq 0 5 l20.length=0∧∃y z v f k,x.Zn 0 5 l20=(0,y)∧Ok0 y∧(y.T 0).isSome=true∧((y.ent 0 0).kind=1→y.P.use (y.ent 0 0).n.toNat=3)∧y.outF 0 0=(0,z)∧OutD y f k z∧Yh z.S=1∧(z.T 0).isSome=true∧z.Yg 0 5 3=((l20,0),v):=by
 have hK:∀p,p<24→PgOk x.abs (arK p) 0 p:=fun p hp=>by rw[h.abs];exact zj1 (fun s _=>V6 s) hp
 have hcalm:x.D.Calm:=by rw[h.disk];exact zw.Jb
 obtain⟨r0,y,f,e1,d1⟩:=h.ok.zm6 (n:=0) (a0:=5) (b:=l20) (a:=arK 0) (by decide) (by decide) (by decide) (hK 0 (by omega)).can (zj0 0) (by have:=h.room;omega) hcalm
 have hz0:(5:Nat)/64=0:=by decide
 have hm0:(5:Nat)%64=5:=by decide
 rw[hz0,hm0]at d1
 have hsy:(y.T 0).isSome=true:=by
  obtain⟨T,hT⟩:=h.proc
  rw[d1.keeps.some,hT];rfl
 obtain⟨u3,hB⟩:=zfg d1.ok (by omega) (by omega) d1.mine (by decide)
 have hyS:y.S=x.S:=d1.slots (by rw[h.ents 0 0 (by omega) (by omega)];decide)
 have hS0:∀k,y.S.getD k []=[]:=fun k=>by rw[hyS];exact h.slots k
 obtain⟨k,hk,hk32⟩:=zb5 d1.ok.ok.wf hS0
 have hyc:y.D.Calm:=by rw[d1.disk];exact hcalm
 obtain⟨o1,o2⟩:=d1.ok.outF (by omega) (by omega) d1.mine.ent.1 d1.mine.ent.2 u3 hk hk32 (hS0 k) (by rw[hyc.work])
 obtain⟨z,hz⟩:∃z,z=(y.outF 0 0).2:=⟨_,rfl⟩
 rw[←hz]at o2
 have hpg:PgOk y.abs (arK 0) 0 0:=by rw[d1.abs];exact(hK 0 (by omega)).any (hK 0 (by omega)) (by decide)
 have hzp:PgOk z.abs (arK 0) 0 0:=by rw[o2.abs];exact hpg.cur _ _
 have hzc:z.D.Calm:=by
  rw[o2.disk,hyc.work]
  exact hyc
 obtain⟨v,e3,_⟩:=o2.ok.zn7 (n:=0) (by omega) (a0:=5) (s:=3) (by omega) (by omega) (by omega) (by rw[hz0];exact hzp.can) (by have:=o2.keeps.room;have:=d1.keeps.room;have:=h.room;omega) hzc
 refine⟨r0,y,z,v,f,k,e1,d1.ok,hsy,fun _=>?_,?_,o2,?_,by rw[o2.keeps.some];exact hsy,?_⟩
 ·rw[d1.mine.ent.2];exact u3
 ·exact Prod.ext o1 hz.symm
 ·refine zbo z.S k (y.B f) (by rw[o2.ok.ok.wf.slots.1];exact hk32) (by rw[hB];simp) fun j hj=>?_
  rw[o2.ok.ok.wf.slots.1]at hj
  rw[o2.slot j hj,hS0]
 ·have hct:z.abs.ct (arK 0) 0 0=Abs.splice (x.abs.ct (arK 0) 0 0) 5 l20:=by
   rw[o2.abs]
   show y.abs.ct (arK 0) 0 0=_
   rw[d1.abs,ja (fun z=>absurd z (by decide)),Vi]
  have e3':z.Yg 0 5 3=((((z.abs.ct (arK 0) 0 (5/64)).drop (5%64)).take 3,0),v):=e3
  rw[e3',hz0,hm0,hct]
  have:=Yz (x.abs.ct (arK 0) 0 0) l20 5 (by rw[(hK 0 (by omega)).len];decide)
  rw[show l20.length=3 from rfl]at this
  rw[this]
theorem ziq(j:Nat):(#[.int .u8 120,.int .u8 121,.int .u8 122]:Array Value)[j]?=(l20.map bV)[j]?:=by
 rw[←Array.getElem?_toList]
 rfl
theorem Yq(w:World):Calls Tryz.prog 24 #[] w fun e w'=>e=.returned (.bool true)∧Below w.heap.size w w':=by
 have kc:=fun(w:World) (C:Array Value) (n c:Nat)=>Lib.run_convert_bytes_const (P:=Tryz.prog) w 22 5 C n c Tryz.underlying22 Tryz.underlying5
 go_enter Tryz.func24,Tryz.ntmps24
 go_wp2_with fail
 refine(U9 w).mono ?_
 rintro e w1 ⟨q,x,rfl,h1,hx⟩
 obtain⟨r0,y,z,v,f,k,p1,p2,p3,p4,p5,p6,p7,p8,p9⟩:=zg6 hx
 have HP:=Lib.hid (And.intro r0 (And.intro p1 (And.intro p2 (And.intro p3 (And.intro p4 (And.intro p5 (And.intro p6 (And.intro p7 (And.intro p8 p9)))))))))
 have HX:=Lib.hid hx
 have H1:=Lib.hid h1
 clear h1 hx r0 p1 p2 p3 p4 p5 p6 p7 p8 p9
 unfold ptrV at *
 go_wp2_with fail
 have hb4:Below w1.heap.size w1 (w1.alloc (.cells #[.int .u8 120,.int .u8 121,.int .u8 122] 5 (3,4))):=(Below.refl _ _).alloc (Nat.le_refl _) _
 have hv4:BRd (w1.alloc (.cells #[.int .u8 120,.int .u8 121,.int .u8 122] 5 (3,4))) (.slice (some ⟨w1.heap.size,0,none⟩) 3 3) l20:=by
  refine⟨rfl,.inr ⟨w1.heap.size,0,3,rfl,Nat.le_refl _,by decide,by simp,fun j u hu=>?_⟩⟩
  rw[Nat.zero_add,zbg,←hu]
  exact ziq j
 have H4:=Lib.hid (H1.out.more hb4 hv4 fun b hb=>.inr (by simp[Value.ownBlock]at hb;omega))
 clear hb4 hv4 H1
 obtain⟨T,hT⟩:=HX.out.proc
 have ST:=Lib.hid (H4.out.store HX.out.ok (n:=0) (by omega) (by rw[hT];rfl) 5 (.inl (List.mem_cons_self ..)) HP.out.1)
 rw[show x.Zn ((0:Nat):Int) ((5:Nat):Int) l20=(0,y)from HP.out.2.1]at ST
 clear hT
 refine ST.out.mono ?_
 rintro e w5 ⟨rfl,h5⟩
 have H5:=Lib.hid h5
 clear h5 ST H4 kc
 obtain⟨pr,hpr⟩:=Option.isSome_iff_exists.1 HP.out.2.2.2.1
 have OU:=Lib.hid (H5.out.evOut HP.out.2.2.1.ok.wf 0 0 (by omega) hpr (by omega) HP.out.2.2.2.2.1)
 rw[HP.out.2.2.2.2.2.1]at OU
 clear hpr
 go_wp2_with fail
 refine OU.out.mono ?_
 rintro e w6 ⟨rfl,h6⟩
 have c5:w6.cell? ⟨q.sp,5,none⟩=some (.pointer (some ⟨q.wp,0,none⟩)):=h6.cell (i:=5) (by omega)
 have US:=Lib.hid (h6.used HP.out.2.2.2.2.2.2.1.ok.ok.wf)
 rw[HP.out.2.2.2.2.2.2.2.1]at US
 clear h6 OU H5
 go_wp2_with fail
 refine US.out.mono ?_
 rintro e w7 ⟨rfl,h7⟩
 have LD:=Lib.hid (h7.load HP.out.2.2.2.2.2.2.1.ok (n:=0) (by omega) HP.out.2.2.2.2.2.2.2.2.1 5 3)
 rw[show z.Yg ((0:Nat):Int) 5 3=((l20,0),v)from HP.out.2.2.2.2.2.2.2.2.2]at LD
 clear h7 US c5
 go_wp2_with fail
 refine LD.out.mono ?_
 rintro e w8 ⟨vv,rfl,h8⟩
 have hv:=h8.get (List.mem_cons_self ..)
 have hbel:=Lib.hid h8.bel
 obtain⟨b,off,c,hve,_,_,hx⟩:=SlRd.cells hv (by simp[l20])
 subst hve
 have ks:(convert 22 9 (.slice (some ⟨b,off,none⟩) l20.length c)).run Tryz.prog w8=.ok (.string ⟨#[120,121,122]⟩) w8:=by
  have:=run_convert_bytes_back (P:=Tryz.prog) w8 22 9 5 ⟨b,off,none⟩ c [120,121,122] Tryz.underlying22 Tryz.underlying5 Tryz.underlying9 (fun j hj=>by
   have:=hx j _ (by rw[List.getElem?_map];exact congrArg _ (List.getElem?_eq_getElem (l:=l20) hj))
   rw[add_plain]
   exact this)
  exact this
 clear hv hx h8 LD HP HX
 go_wp2_with fail
 go_ret
 exact⟨rfl,hbel.out⟩
def FkS(w0:World)(sp pp wp:Nat)(x:za)(w:World):Prop:=∃q,q.sp=sp∧q.pp=pp∧q.wp=wp∧AtQ w0 [] q x w
def LdI(b:List UInt8)(y:za)(m k i:Nat):Prop:=(i=0∧∃j,GoI b y m k j)∨∃f,BkI b y m k f
section
variable {w0 w w':World}{sp pp wp m k f i j:Nat}{x y:za}{b:List UInt8}
theorem AtQ.drop1{V:List (Value×List Value)}{p:Value×List Value}{q:Sq}(h:AtQ w0 (p::V) q x w):AtQ w0 V q x w:=by
 obtain⟨⟨tag,hS,low,hV⟩,hb⟩:=h
 exact⟨⟨tag,hS,low,fun p hp=>hV p (List.mem_cons_of_mem _ hp)⟩,hb⟩
theorem FkS.below(h:FkS w0 sp pp wp x w)(hb:Below w.heap.size w w'):FkS w0 sp pp wp x w':=by
 obtain⟨q,h1,h2,h3,h⟩:=h
 exact⟨q,h1,h2,h3,h.below hb⟩
theorem FkS.bel(h:FkS w0 sp pp wp x w):Below w0.heap.size w0 w:=by
 obtain⟨q,_,_,_,h⟩:=h
 exact h.bel
theorem FkS.cells(h:FkS w0 sp pp wp x w):w.cell? ⟨sp,2,none⟩=some (.pointer (some ⟨pp,0,none⟩))∧w.cell? ⟨sp,5,none⟩=some (.pointer (some ⟨wp,0,none⟩)):=by
 obtain⟨q,rfl,rfl,rfl,h⟩:=h
 exact⟨h.cell (i:=2) (by omega),h.cell (i:=5) (by omega)⟩
theorem FkS.fork(h:FkS w0 sp pp wp y w)(hI:FkI b y m k f)(hm:m+1<4)(hk:k<8):Calls Tryz.prog 49 #[.pointer (some ⟨sp,0,none⟩),.int .i64 0,.int .i64 ((m+1:Nat):Int)] w fun e w'=>e=.returned (.int .i64 0)∧∃y',FkI b y' (m+1) k f∧FkS w0 sp pp wp y' w':=by
 obtain⟨q,rfl,rfl,rfl,h⟩:=h
 obtain⟨pr,g,hp,hx,hg,hr,hI2⟩:=hI.fork hm hk
 refine(h.fork hI.prof.ok (n:=0) (m:=m+1) hp (by omega) hx hg hr).mono ?_
 rintro e w1 ⟨rfl,u,h1⟩
 exact⟨rfl,_,hI2,q.at_ (m+1) u,rfl,rfl,rfl,h1⟩
theorem FkS.count(h:FkS w0 sp pp wp y w){c:Nat}(hc:y.P.count 1 3=c):Calls Tryz.prog 50 #[.pointer (some ⟨pp,0,none⟩),.int .i64 1,.int .i64 3] w fun e w'=>e=.returned (.int .i64 c)∧w'=w:=by
 obtain⟨q,rfl,rfl,rfl,h⟩:=h
 have:=h.count 1 3 (by omega)
 rw[hc]at this
 exact this
theorem FkS.out(h:FkS w0 sp pp wp y w)(hI:FkI b y m k f)(hm:m<4)(hk:k<8):Calls Tryz.prog 27 #[.pointer (some ⟨sp,0,none⟩),.int .i64 0,.int .i64 k] w fun e w'=>e=.returned (.int .i64 0)∧∃y' j,GoI b y' m k j∧FkS w0 sp pp wp y' w':=by
 obtain⟨q,rfl,rfl,rfl,h⟩:=h
 obtain⟨⟨pr,hp⟩,hu,h0,j,hG⟩:=hI.out hm hk
 have:=h.evOut hI.prof.ok.ok.wf 0 k (by omega) hp (by omega) hu
 rw[h0]at this
 refine this.mono ?_
 rintro e w1 ⟨rfl,h1⟩
 exact⟨rfl,_,_,hG,_,rfl,rfl,rfl,h1⟩
theorem FkS.used(h:FkS w0 sp pp wp y w)(ok:Ok0 y){c:Nat}(hc:Yh y.S=c):Calls Tryz.prog 51 #[.pointer (some ⟨wp,0,none⟩)] w fun e w'=>e=.returned (.int .i64 c)∧FkS w0 sp pp wp y w':=by
 obtain⟨q,rfl,rfl,rfl,h⟩:=h
 have:=h.used ok.ok.wf
 rw[hc]at this
 refine this.mono ?_
 rintro e w1 ⟨rfl,h1⟩
 exact⟨rfl,_,rfl,rfl,rfl,h1⟩
theorem FkS.load(h:FkS w0 sp pp wp y w)(hI:LdI b y m k i)(hm:m<4)(hk:k<8)(hi:i≤m){n:Nat}(hn:b.length=n)(hb:0<n∧n≤64):Calls Tryz.prog 20 #[.pointer (some ⟨sp,0,none⟩),.int .i64 i,.int .i64 ((64*k:Nat):Int),.int .i64 n] w fun e w'=>∃v z,e=.returned (.tuple #[v,.int .i64 0])∧BRd w' v b∧LdI b z m k (i+1)∧FkS w0 sp pp wp z w':=by
 subst hn
 obtain⟨q,rfl,rfl,rfl,h⟩:=h
 have key:∃z,Ok0 y∧(y.T i).isSome=true∧y.Yg i ((64*k:Nat):Int) b.length=((b,0),z)∧LdI b z m k (i+1):=by
  rcases hI with⟨_,j,hG⟩|⟨f,hB⟩
  ·obtain⟨hs,z,f,e,hB⟩:=hG.load hm hk hi hb
   exact⟨z,hG.gone.ok,hs,e,.inr ⟨f,hB⟩⟩
  ·obtain⟨hs,e⟩:=hB.load hm hk hi hb
   exact⟨y,hB.prof.ok,hs,e,.inr ⟨f,hB⟩⟩
 obtain⟨z,ok,hs,e,hL⟩:=key
 have:=h.load ok (n:=i) (by omega) hs ((64*k:Nat):Int) b.length
 rw[e]at this
 refine this.mono ?_
 rintro r w1 ⟨v,rfl,h1⟩
 exact⟨v,z,rfl,h1.get (List.mem_cons_self ..),hL,_,rfl,rfl,rfl,h1.drop1⟩
theorem LdI.done(h:LdI b y m k (i+1)):Ok0 y∧Yh y.S=0∧y.P.count 1 3=1:=by
 rcases h with⟨h,_⟩|⟨f,hB⟩
 ·omega
 ·exact⟨hB.prof.ok,hB.prof.held,hB.prof.count⟩
end
set_option maxHeartbeats 4000000 in
theorem zeh(vb:Value)(b:List UInt8)(pa pn:Nat)(hpa:pa<256)(hpn:pn<256)(w:World)(hb0:BRd w vb b)(hlen:b.length≤64∧b.length≠0):
  Calls Tryz.prog 14 #[vb,.int .u8 pa,.int .u8 pn] w fun e w'=>e=.returned (.bool true)∧Below w.heap.size w w':=by
 obtain⟨ba,bc,rfl,hc3,hc4⟩:=SlRd.form hb0
 obtain⟨n,hn⟩:∃n,n=b.length:=⟨_,rfl⟩
 rw[←hn]at hlen hc3⊢
 have HB:Hid (BRd w (.slice ba n bc) b∧b.length=n):=⟨by rw[hn];exact hb0,hn.symm⟩
 have hcap:n≤maxLen:=by omega
 clear hb0 hn hc3 hc4
 obtain⟨k,hk⟩:∃k,k=pa%8:=⟨_,rfl⟩
 obtain⟨j0,hj0⟩:∃j0,j0=pn%3:=⟨_,rfl⟩
 have hk8:k<8:=by omega
 have hj3:j0<3:=by omega
 have hmod:=Lib.hid (show(pa:Int)%8=k by omega)
 have hmod2:=Lib.hid (show(pn:Int)%3=j0 by omega)
 have hm0:0≤(pa:Int)%8:=by omega
 have hm1:(pa:Int)%8<8:=by omega
 have hm2:0≤(pn:Int)%3:=by omega
 have hm3:(pn:Int)%3<3:=by omega
 have hp0:(pa:Int)<256:=by omega
 have hp1:(pn:Int)<256:=by omega
 have hn64:¬(64:Int)<n:=by omega
 have hn1:¬((n:Int)=0):=by omega
 have hn2:((n:Int)==0)=false:=beq_eq_false_iff_ne.2 hn1
 have hnn:¬n=0:=hlen.2
 clear hk hj0
 go_enter Tryz.func14,Tryz.ntmps14
 go_wp2_with fail
 refine(U9 w).mono ?_
 rintro e w1 ⟨q,x,rfl,h1,hx⟩
 obtain⟨r0,y,f,e1,fk⟩:=zjb hx hk8 (b:=b) (by rw[HB.out.2];omega)
 have FK:=Lib.hid fk
 have ST:=Lib.hid (h1.store hx.ok (n:=0) (by omega) (outK hx).2.2 (64*k) (h1.arg HB.out.1) r0)
 rw[show x.Zn ((0:Nat):Int) ((64*k:Nat):Int) b=(0,y)from e1]at ST
 clear h1 hx r0 e1 fk
 unfold ptrV at *
 go_wp2_with fail
 rw[hmod.out,hmod2.out]
 clear hmod hm0 hm1 hp0 hpa hmod2 hm2 hm3 hp1 hpn
 rw[show(64:Int)*(k:Int)=((64*k:Nat):Int)by omega]
 obtain⟨M,hM⟩:∃M:Nat,M=j0+1:=⟨_,rfl⟩
 rw[show(j0:Int)+1=(M:Int)by omega]
 have hM4:M<4:=by omega
 have hM1:0<M:=by omega
 clear hM hj3
 refine ST.out.mono ?_
 rintro e w2 ⟨rfl,h2⟩
 obtain⟨sp,hsp⟩:∃sp,sp=q.sp:=⟨_,rfl⟩
 rw[←hsp]
 have H2:Hid (∃pp wp,FkS w sp pp wp y w2):=⟨q.pp,q.wp,q,hsp.symm,rfl,rfl,h2⟩
 clear h2 ST hsp
 obtain⟨pp,wp,H2⟩:=H2.out
 have H2:=Lib.hid H2
 go_wp2_with fail
 go_loopw [10] (fun iv W=>∃(j:Nat) (y:za),j≤M∧iv=.int .i64 ((j+1:Nat):Int)∧FkI b y j k f∧FkS w sp pp wp y W) (fun iv _=>M+1-(intOf iv).toNat)
 case atStart=>exact⟨0,y,by omega,rfl,FK.out,H2.out⟩
 case round=>
  clear FK H2
  obtain⟨j,y,hj,rfl,hI,hS⟩:=hrel
  by_cases hlt:j+1≤M
  ·have hlt':((j+1:Nat):Int)≤(M:Int):=by omega
   have FO:=Lib.hid (hS.fork hI (by omega) hk8)
   clear hS hI
   go_wp2_with fail
   refine FO.out.mono ?_
   rintro e w3 ⟨rfl,y',hI',hS'⟩
   have H3:=Lib.hid (And.intro hI' hS')
   clear hI' hS' FO
   have d5:IntKind.i64.wrap (((j+1:Nat):Int)+1)=((j+1+1:Nat):Int):=by simp[IntKind.wrap,IntKind.bits,IntKind.signed];omega
   go_wp2_with fail
   go_roundw
   case rel=>exact⟨j+1,y',by omega,by go_num,H3.out.1,H3.out.2⟩
   case measure=>simp[intOf];omega
  ·obtain rfl:j=M:=by omega
   have hlt':¬((j+1:Nat):Int)≤(j:Int):=by omega
   obtain⟨c2,c5⟩:=hS.cells
   have CN:=Lib.hid (hS.count hI.prof.count)
   have OU:=Lib.hid (hS.out hI hM4 hk8)
   clear hS hI hlt
   go_wp2_with fail
   refine CN.out.mono ?_
   rintro e u ⟨rfl,hu⟩
   have hu:=hu.symm
   subst hu
   go_wp2_with fail
   refine OU.out.mono ?_
   rintro e w4 ⟨rfl,y4,j4,hG,hS⟩
   clear CN OU c2 c5
   obtain⟨c2,c5⟩:=hS.cells
   have CN:=Lib.hid (hS.count hG.gone.count)
   have US:=Lib.hid (hS.used hG.gone.ok hG.gone.held)
   have HL:Hid (LdI b y4 j k 0):=Lib.hid (.inl ⟨rfl,j4,hG⟩)
   clear hS hG
   go_wp2_with fail
   refine CN.out.mono ?_
   rintro e u ⟨rfl,hu⟩
   have hu:=hu.symm
   subst hu
   go_wp2_with fail
   refine US.out.mono ?_
   rintro e w5 ⟨rfl,hS⟩
   have H5:=Lib.hid hS
   clear hS US CN c2 c5
   go_wp2_with fail
   go_loopw [15,16,17] (fun iv cv ev W=>∃(i:Nat) (z:za),i≤j+1∧iv=.int .i64 i∧LdI b z j k i∧FkS w sp pp wp z W) (fun iv _ _ _=>j+1-(intOf iv).toNat)
   case atStart=>exact⟨0,y4,by omega,rfl,HL.out,H5.out⟩
   case round=>
    clear HL H5
    obtain⟨i,z,hi,rfl,hI,hS⟩:=hrel
    by_cases hlt:i≤j
    ·have hlt':(i:Int)≤(j:Int):=by omega
     have LD:=Lib.hid (hS.load hI hM4 hk8 hlt HB.out.2 (by omega))
     clear hS hI
     go_wp2_with fail
     rw[show(64:Int)*(k:Int)=((64*k:Nat):Int)by omega]
     refine LD.out.mono ?_
     rintro e w6 ⟨v,z',rfl,hv,hI,hS⟩
     have H6:=Lib.hid (And.intro hI hS)
     have SM:=Lib.hid (Ua w6 v _ b hv (SlRd.below HB.out.1 hS.bel) (by rw[HB.out.2];omega))
     clear hv hI hS LD
     go_wp2_with fail
     refine SM.out.mono ?_
     rintro e w7 ⟨rfl,hb⟩
     have H7:=Lib.hid (And.intro H6.out.1 (H6.out.2.below hb))
     clear hb SM H6
     have d5:IntKind.i64.wrap ((i:Int)+1)=((i+1:Nat):Int):=by simp[IntKind.wrap,IntKind.bits,IntKind.signed];omega
     go_wp2_with fail
     go_roundw
     case rel=>exact⟨i+1,z',by omega,by go_num,H7.out.1,H7.out.2⟩
     case measure=>simp[intOf];omega
    ·obtain rfl:i=j+1:=by omega
     have hlt':¬((j+1:Nat):Int)≤(j:Int):=by omega
     obtain⟨ok,hd,hc⟩:=hI.done
     have HD:=Lib.hid (And.intro ok (And.intro hd hc))
     have HS:=Lib.hid hS
     clear hS hI ok hd hc
     go_wp2_with fail
     refine(Yq wr).mono ?_
     rintro e wa ⟨rfl,hb⟩
     have hA:=HS.out.below hb
     obtain⟨c2,c5⟩:=hA.cells
     have US:=Lib.hid (hA.used HD.out.1 HD.out.2.1)
     clear hA hb HS
     go_wp2_with fail
     refine US.out.mono ?_
     rintro e wb ⟨rfl,hB⟩
     obtain⟨d2,d5⟩:=hB.cells
     have CN:=Lib.hid (hB.count HD.out.2.2)
     have HB2:=Lib.hid hB.bel
     clear hB US c2 c5
     go_wp2_with fail
     refine CN.out.mono ?_
     rintro e wc ⟨rfl,hwc⟩
     have hwc:=hwc.symm
     subst hwc
     go_wp2_with fail
     go_ret
     exact⟨rfl,HB2.out⟩
theorem zgv(vb:Value)(b:List UInt8)(p m:Int)(w:World)(hb:SlRd w 1 vb b.length (b.flatMap byL))(_:∀x∈b,AnyB x)(hp:(Lit.int .u8 p).wf=true)(hm:(Lit.int .u8 m).wf=true):
  Calls Tryz.prog 14 #[vb,.int .u8 p,.int .u8 m] w fun e w'=>e=.returned (.bool true)∧Below w.heap.size w w':=by
 have hp0:0≤p∧p≤255:=by simp[Lit.wf]at hp;exact⟨hp.1,hp.2⟩
 have hm0:0≤m∧m≤255:=by simp[Lit.wf]at hm;exact⟨hm.1,hm.2⟩
 obtain⟨p,rfl⟩:=Int.eq_ofNat_of_zero_le hp0.1
 obtain⟨m,rfl⟩:=Int.eq_ofNat_of_zero_le hm0.1
 by_cases hok:b.length≤64∧b.length≠0
 ·exact zeh vb b p m (by omega) (by omega) w (BRd.of_law hb) hok
 ·obtain⟨aa,ac,rfl,h1,h2⟩:=SlRd.form hb
  obtain⟨n,hn⟩:∃n,n=b.length:=⟨_,rfl⟩
  rw[←hn]at hok h1⊢
  have hc1:n≤maxLen:=by omega
  have hs:(n=0)∨(n≠0∧64<n):=by omega
  clear hb hn hok hp hp0 hm hm0
  rcases hs with rfl|⟨h5,h6⟩
  ·go_enter Tryz.func14,Tryz.ntmps14
   go_wp2_with fail
   refine(Yq w).mono ?_
   rintro e w1 ⟨rfl,hb⟩
   have HB:=Lib.hid hb
   clear hb
   go_wp2_with fail
   go_ret
   exact⟨rfl,HB.out⟩
  ·have e1:¬((n:Int)=0):=by omega
   have e2:((n:Int)==0)=false:=beq_eq_false_iff_ne.2 e1
   have e3:(64:Int)<n:=by omega
   go_enter Tryz.func14,Tryz.ntmps14
   go_wp2_with fail
   refine(Yq w).mono ?_
   rintro e w1 ⟨rfl,hb⟩
   have HB:=Lib.hid hb
   clear hb
   go_wp2_with fail
   go_ret
   exact⟨rfl,HB.out⟩
end Go.Proofs.YtnhdmnijiphjjaaGreat
