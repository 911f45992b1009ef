/- Processes, in plain words: the start, Spawn, Map. No program in it. -/
import Derived.Test.YtnhdmnijiphjjaaGreatJMp21
import Derived.Test.YtnhdmnijiphjjaaGreatJMp11
import Derived.Test.YtnhdmnijiphjjaaGreatJMp17
import Derived.Test.YtnhdmnijiphjjaaGreatJMp16
import Derived.Test.YtnhdmnijiphjjaaGreatJMp18
import Derived.Test.YtnhdmnijiphjjaaGreatJMp10
import Derived.Test.YtnhdmnijiphjjaaGreatJMp14
set_option linter.unusedVariables false
set_option linter.unusedSimpArgs false
set_option maxRecDepth 100000
set_option maxHeartbeats 2000000
namespace Go.Proofs.YtnhdmnijiphjjaaGreat
open Go Go.RowKit
instance (a:Ar)(p:Int):Decidable (a.Has p):=inferInstanceAs (Decidable (_∧_))
def za.qz(x:za)(n g:Nat):za:={x with R:=x.R.write g 0 (List.replicate 64 0),P:=x.P.set g 2,T:=fun m=>if m=n then some ⟨⟨g,[g]⟩,[],[]⟩else x.T m}
def Abs.spawn(X:Abs)(n:Nat):Abs:={X with A:=fun m=>if m=n then some ([],[])else X.A m}
def Jy(a:Ar):PV:=if a.kind=1 then .own (List.replicate 64 0)else .file
def Abs.map(X:Abs)(n:Nat)(a:Ar)(L:List Ar):Abs:={X with A:=(fun m=>if m=n then(X.A n).map fun p=>(L,p.2)else X.A m),pv:=fun m pg=>if m=n∧pg<4096∧a.Has (pg:Int)then Jy a else X.pv m pg}
theorem Yr{l:List Ar}(h:OkL l){p:Int}{a:Ar}:yh l p=some a↔a∈l∧a.Has p:=by
 constructor
 ·intro e
  have h1:=List.mem_of_find?_eq_some e
  have h2:=List.find?_some e
  simp only[decide_eq_true_eq]at h2
  exact⟨h1,h2⟩
 ·rintro⟨h1,h2⟩
  induction l with
  | nil=>cases h1
  | cons b l ih=>
   rw[Yt]
   rcases List.mem_cons.1 h1 with rfl|h3
   ·exact if_pos h2
   ·rw[if_neg]
    ·exact ih h.tail h3
    ·intro e
     have:=h.head a h3
     unfold Ar.Has at h2
     omega
theorem zi5{l l':List Ar}{a:Ar}(h:OkL l)(h':OkL l')(hm:∀b,b∈l'↔b=a∨b∈l)(hd:∀b∈l,∀p,a.Has p→¬b.Has p)(p:Int)[Decidable (a.Has p)]:yh l' p=if a.Has p then some a else yh l p:=by
 split
 ·rename_i k
  exact(Yr h').2 ⟨(hm a).2 (.inl rfl),k⟩
 ·rename_i k
  cases e:yh l p with
  | none=>
   cases e2:yh l' p with
   | none=>rfl
   | some b=>
    obtain⟨h1,h2⟩:=(Yr h').1 e2
    rcases(hm b).1 h1 with rfl|h3
    ·exact absurd h2 k
    ·rw[(Yr h).2 ⟨h3,h2⟩]at e;cases e
  | some b=>
   obtain⟨h1,h2⟩:=(Yr h).1 e
   exact(Yr h').2 ⟨(hm b).2 (.inr h1),h2⟩
section
variable {x y:za}
theorem zaz(P:zk)(D:zx)(hP:∀f,P.use f=0∨P.use f=1)(hD:∀s,s<192→(D.cur s).length=64):Ok0 (.start RamS.none P D):=by
 have hno:∀n f,¬za.owns (.start RamS.none P D) n f:=fun n f ⟨pr,h,_⟩=>by cases h
 have hent:∀n page,za.ent (.start RamS.none P D) n page=Ent.none:=fun n page=>rfl
 refine⟨⟨⟨fun n pr h=>by(cases h),fun n m f h=>absurd h (hno n f),fun n pr h=>by(cases h),fun f=>⟨List.Pairwise.nil,fun p hp=>by(cases hp)⟩,⟨by simp[za.start],fun l hl=>?_⟩,fun f _ hb=>by(cases hb),fun k v hk=>(by simp[za.start,getL]at hk),hD,⟨by simp[za.start],by simp[za.start]⟩⟩,fun f n page _ _ _=>?_,fun k n page _ _ _=>?_,fun f _ hB=>absurd rfl hB,fun f _ hu=>?_,fun f _ hu=>?_,fun f _=>?_,fun k f=>by simp[za.start,getL],fun k v hk=>(by simp[za.start,getL]at hk),fun n pr page h=>by(cases h)⟩,fun _ _=>rfl⟩
 ·simp[za.start]at hl
  subst hl
  exact⟨List.Pairwise.nil,fun p hp=>by cases hp⟩
 ·rw[hent]
  constructor
  ·intro h;cases h
  ·rintro⟨h,_⟩;cases h
 ·rw[hent]
  constructor
  ·intro h
   have:(List.replicate 32 ([]:List (Int×Int))).getD k []=[]:=by
    rw[List.getD_eq_getElem?_getD,List.getElem?_replicate]
    split<;>rfl
   rw[show(za.start RamS.none P D).S=List.replicate 32 []from rfl,this]at h
   cases h
  ·rintro⟨h,_⟩;cases h
 ·have:P.use f=3:=hu
  rcases hP f with e|e<;>omega
 ·have:P.use f=2:=hu
  rcases hP f with e|e<;>omega
 ·have:P.use f≠4:=by rcases hP f with e|e<;>omega
  constructor
  ·intro e;exact absurd e this
  ·intro e;simp[za.start,getL]at e
theorem zia(R:RamS)(P:zk)(g:Nat)(hg:g<1024)(hb:R.bad g=false)(good:∀f,f<1024→P.use f=1→R.bad f=false):xm ⟨R.write g 0 (List.replicate 64 0),P.set g 2,⟨g,[g]⟩⟩ (fun p=>if p=[]then some g else none):=by
 refine⟨⟨if_pos rfl,fun p f hp=>?_,fun p q f hp hq=>?_,fun f=>?_,by simp,fun p f d hp hl hd=>?_,fun p d k hp=>?_,fun p f d hp hl hd=>?_⟩,fun f hf=>?_,fun f hf hu=>?_⟩
 ·split at hp
  ·rename_i e;cases hp;subst e;exact⟨hg,hb,by simp,fun d hd=>by cases hd⟩
  ·cases hp
 ·split at hp
  ·split at hq
   ·rename_i e1 e2;rw[e1,e2]
   ·cases hq
  ·cases hp
 ·simp only[List.mem_singleton]
  constructor
  ·rintro rfl;exact⟨[],if_pos rfl⟩
  ·rintro⟨p,hp⟩
   split at hp
   ·cases hp;rfl
   ·cases hp
 ·split at hp
  ·rename_i e
   cases hp
   subst e
   rw[Vk _ _ _ hd,if_neg (by simp)]
  ·cases hp
 ·rw[if_neg (by simp)]at hp;cases hp
 ·split at hp
  ·rename_i e;subst e;simp at hl
  ·cases hp
 ·simp at hf
  subst hf
  exact if_pos rfl
 ·have hu:(if f=g then 2 else P.use f)=1:=hu
  split at hu
  ·cases hu
  ·exact good f hf hu
theorem Ok0.spawn(h:Ok0 x){n g:Nat}(hn:n<8)(hx:x.T n=none)(hg:x.P.next false=some g):Ok0 (x.qz n g)∧(x.qz n g).abs=x.abs.spawn n∧x.P.room≤(x.qz n g).P.room+1∧(x.qz n g).D=x.D:=by
 obtain⟨hg1,hav,hgu⟩:=Yq hg
 have hbad:=h.ok.wf.ji hg1 (by omega)
 have hT:∀m,(x.qz n g).T m=if m=n then some ⟨⟨g,[g]⟩,[],[]⟩else x.T m:=fun _=>rfl
 have hu:∀f,(x.qz n g).P.use f=if f=g then 2 else x.P.use f:=fun _=>rfl
 have hby:∀f i,f≠g→(x.qz n g).R.b f i=x.R.b f i:=fun f i hf=>by
  show(x.R.write g 0 _).b f i=_
  rw[qm,if_neg fun e=>hf e.1]
 have hbd:(x.qz n g).R.bad=x.R.bad:=rfl
 have hno:∀m,¬x.owns m g:=fun m ho=>by have:=(h.ok.wf.xn ho).2.1;omega
 have own:∀m f,(x.qz n g).owns m f↔(m=n∧f=g)∨x.owns m f:=fun m f=>by
  unfold za.owns
  rw[hT]
  by_cases e:m=n
  ·rw[if_pos e]
   constructor
   ·rintro⟨_,e2,hf⟩
    cases e2
    simp at hf
    exact .inl ⟨e,hf⟩
   ·rintro(⟨_,rfl⟩|⟨pr,e2,_⟩)
    ·exact⟨_,rfl,by simp⟩
    ·rw[e,hx]at e2;cases e2
  ·rw[if_neg e]
   constructor
   ·exact .inr
   ·rintro(⟨e2,_⟩|a)
    ·exact absurd e2 e
    ·exact a
 have good:∀f,f<1024→x.P.use f=1→x.R.bad f=false:=fun f hf hu=>h.ok.wf.ji hf (by omega)
 have hbad6:∀f,f<1024→(x.qz n g).R.bad f=true→(x.qz n g).P.use f=6:=fun f hf hb=>by
  rw[hbd]at hb
  rw[hu,if_neg (fun e=>by rw[e,hbad]at hb;cases hb)]
  exact h.ok.wf.bad f hf hb
 have rpt:∀m pr,x.T m=some pr→∃N,xm ⟨x.R,x.P,pr.T⟩ N∧xm ⟨(x.qz n g).R,(x.qz n g).P,pr.T⟩ N:=fun m pr hm=>by
  obtain⟨N,k⟩:=h.ok.wf.rpt m pr hm
  have ne:∀f∈pr.T.own,f≠g:=fun f hf e=>hno m ⟨pr,hm,e▸hf⟩
  refine⟨N,k,k.same (fun f _=>by rw[hbd]) (fun f hf i=>hby f i (ne f hf)) (fun f hf=>by rw[hu,if_neg (ne f hf)];exact(h.ok.wf.xn ⟨pr,hm,hf⟩).2.1) fun f hf hu1=>?_⟩
  cases hb:(x.qz n g).R.bad f with
  | false=>rfl
  | true=>have:=hbad6 f hf hb;omega
 have ent:∀m page,page<4096→(x.qz n g).ent m page=x.ent m page:=fun m page hpg=>by
  by_cases e:m=n
  ·have e1:x.ent m page=Ent.none:=Ym (by rw[e];exact hx) page
   rw[e1]
   unfold za.ent
   rw[hT,if_pos e]
   have:=(zia x.R x.P g hg1 hbad good).tree.get page hpg
   dsimp only at this⊢
   rw[show(x.qz n g).R=x.R.write g 0 (List.replicate 64 0)from rfl,this]
   unfold mapOf
   dsimp only
   rw[if_neg (by simp[high])]
  ·unfold za.ent
   rw[hT,if_neg e]
   cases hm:x.T m with
   | none=>rfl
   | some pr=>
    obtain⟨N,k1,k2⟩:=rpt m pr hm
    dsimp only
    have a:=k1.tree.get page hpg
    have b:=k2.tree.get page hpg
    dsimp only at a b
    rw[a,b,zak k1.tree fun f hf i=>hby f i fun e=>hno m ⟨pr,hm,e▸hf⟩]
 refine⟨⟨⟨⟨fun m pr hm=>?_,fun m k f h1 h2=>?_,fun m pr hm=>?_,h.ok.wf.back,h.ok.wf.slots,hbad6,h.ok.wf.keys,h.ok.wf.secs,h.ok.wf.nd⟩,fun f m page h1 h2 h3=>by rw[ent m page h3];exact h.ok.backE f m page h1 h2 h3,fun k m page h1 h2 h3=>by rw[ent m page h3];exact h.ok.slotE k m page h1 h2 h3,fun f h1 h2=>?_,fun f h1 h2=>?_,fun f h1 h2=>?_,fun f h1=>?_,h.ok.cacheE,h.ok.cacheK,fun m pr page hm hpg=>?_⟩,fun m hm=>?_⟩,?_,?_,rfl⟩
 ·rw[hT]at hm
  by_cases e:m=n
  ·rw[if_pos e]at hm
   cases hm
   exact⟨_,zia x.R x.P g hg1 hbad good⟩
  ·rw[if_neg e]at hm
   obtain⟨N,_,k⟩:=rpt m pr hm
   exact⟨N,k⟩
 ·rcases(own m f).1 h1 with⟨a,b⟩|a<;>rcases(own k f).1 h2 with⟨c,d⟩|c
  ·rw[a,c]
  ·rw[b]at c;exact absurd c (hno k)
  ·rw[d]at a;exact absurd a (hno m)
  ·exact h.ok.wf.apart m k f a c
 ·rw[hT]at hm
  by_cases e:m=n
  ·rw[if_pos e]at hm
   cases hm
   exact⟨⟨fun a ha=>(by cases ha),List.Pairwise.nil⟩,by simp⟩
  ·rw[if_neg e]at hm
   exact h.ok.wf.Yh m pr hm
 ·have:=h.ok.useB f h1 h2
  rw[hu,if_neg (fun e=>by rw[e]at this;omega)]
  exact this
 ·rw[hu]at h2
  split at h2
  ·cases h2
  ·exact h.ok.anon f h1 h2
 ·rw[hu]at h2
  split at h2
  ·rename_i e;exact⟨n,(own n f).2 (.inl ⟨rfl,e⟩)⟩
  ·obtain⟨m,hm⟩:=h.ok.table f h1 h2
   exact⟨m,(own m f).2 (.inr hm)⟩
 ·rw[hu]
  split
  ·rename_i e
   have:=h.ok.cached f h1
   constructor
   ·intro a;cases a
   ·intro a
    have:=this.2 a
    rw[e]at this;omega
  ·exact h.ok.cached f h1
 ·rw[ent m page hpg]
  rw[hT]at hm
  by_cases e:m=n
  ·rw[e,Ym hx]
   exact⟨fun a=>absurd rfl a,fun _ _ a=>by(have:(0:Nat)=1:=a;omega),fun _ _ _ a=>by(have:(0:Nat)=1:=a;omega),fun _ _ a=>by(have:(0:Nat)=1:=a;omega),fun _ _ a=>by(have:(0:Nat)=2:=a;omega)⟩
  ·rw[if_neg e]at hm
   have a:=h.ok.area m pr page hm hpg
   exact⟨a.find,a.own,a.file,a.shared,a.slot⟩
 ·rw[hT,if_neg (by omega)]
  exact h.out m hm
 ·have hrd:∀f,f≠g→(x.qz n g).R.read f 0 64=x.R.read f 0 64:=fun f hf=>Ya fun i _=>hby f i hf
  unfold za.abs Abs.spawn
  rw[Abs.mk.injEq]
  refine⟨?_,?_,?_,rfl,rfl⟩
  ·funext m
   rw[hT]
   by_cases e:m=n
   ·rw[if_pos e,if_pos e];rfl
   ·rw[if_neg e,if_neg e]
  ·funext m page
   by_cases hpg:page<4096
   ·rw[if_pos hpg]
    dsimp only
    rw[if_pos hpg]
    unfold za.pv
    rw[hT]
    by_cases e:m=n
    ·rw[if_pos e,e,hx]
     rfl
    ·rw[if_neg e]
     cases hm:x.T m with
     | none=>rfl
     | some pr=>
      dsimp only
      cases ha:yh pr.A (page:Int)with
      | none=>rfl
      | some a=>
       dsimp only
       rw[ent m page hpg]
       refine Qg rfl rfl fun hk=>?_
       have hm8:=h.ok.Xg h.out hm
       obtain⟨f,e1,e2,_,e3,_⟩:=h.ok.frame hm8 hpg hk
       rw[e1,Int.toNat_natCast]
       exact hrd f fun e=>by rw[e]at e3;omega
   ·rw[if_neg hpg]
    dsimp only
    rw[if_neg hpg]
  ·funext k
   by_cases hk:Zc k
   ·rw[if_pos hk]
    dsimp only
    rw[if_pos hk]
    refine X8 h.ok k rfl rfl fun f i hf hu4 hi=>hby f i fun e=>by rw[e]at hu4;omega
   ·rw[if_neg hk]
    dsimp only
    rw[if_neg hk]
 ·exact room_le x.P g 2 (by omega) hg1
theorem Ok0.map(h:Ok0 x){n:Nat}{pr:yj}(hp:x.T n=some pr){a:Ar}(ha:a.yo)(hno:anyA a pr.A=false)(hlen:pr.A.length<16){L:List Ar}(hperm:L.Perm (pr.A++[a]))(hsort:L.Pairwise fun x y=>¬y.from_<x.from_):
  Ok0 (x.put n ⟨pr.T,L,pr.Q⟩)∧(x.put n ⟨pr.T,L,pr.Q⟩).abs=x.abs.map n a L:=by
 have hOk:=(h.ok.wf.Yh n pr hp).1
 have hL:L=insA pr.A a:=zjt hOk ha hno hperm hsort
 have hm:∀b,b∈L↔b=a∨b∈pr.A:=fun b=>by rw[hL];exact ze9
 have hd:∀b∈pr.A,∀p,a.Has p→¬b.Has p:=fun b hb p h1 h2=>by
  have hnil:¬Vz a b=true:=fun e=>by
   unfold anyA at hno
   rw[List.any_eq_false]at hno
   exact hno b hb e
  rw[zai ha (hOk.1 b hb)]at hnil
  unfold Ar.Has at h1 h2
  omega
 have hL':OkL L:=by
  refine⟨fun b hb=>((hm b).1 hb).elim (fun e=>e▸ha) (hOk.1 b),?_⟩
  have hs:L.Pairwise fun x y=>x.from_<y.from_:=by
   rw[hL]
   refine Jd (hOk.2.imp_of_mem fun {u v} hu hv huv=>by have:=(hOk.1 u hu).2.2.2.1;omega) fun b hb e=>?_
   have hs:=ha.2.2.2.1
   have hs2:=(hOk.1 b hb).2.2.2.1
   exact hd b hb a.from_ ⟨by omega,by omega⟩ ⟨by omega,by omega⟩
  refine hs.imp_of_mem fun {u v} hu hv huv=>?_
  have su:=(((hm u).1 hu).elim (fun e=>e▸ha) (hOk.1 u):u.yo).2.2.2.1
  have sv:=(((hm v).1 hv).elim (fun e=>e▸ha) (hOk.1 v):v.yo).2.2.2.1
  by_cases hlt:u.from_+u.pages≤v.from_
  ·exact hlt
  ·exfalso
   rcases(hm u).1 hu with rfl|hu'<;>rcases(hm v).1 hv with rfl|hv'
   ·omega
   ·exact hd v hv' v.from_ ⟨by omega,by omega⟩ ⟨by omega,by omega⟩
   ·exact hd u hu' v.from_ ⟨by omega,by omega⟩ ⟨by omega,by omega⟩
   ·have hpw:=hOk.2
    obtain⟨i,hi,rfl⟩:=List.getElem_of_mem hu'
    obtain⟨j,hj,rfl⟩:=List.getElem_of_mem hv'
    rcases Nat.lt_trichotomy i j with hij|hij|hij
    ·have:=List.pairwise_iff_getElem.1 hpw i j hi hj hij;omega
    ·subst hij;omega
    ·have:=List.pairwise_iff_getElem.1 hpw j i hj hi hij;omega
 have hfind:∀p:Int,yh L p=if a.Has p then some a else yh pr.A p:=fun p=>zi5 hOk hL' hm hd p
 have hlen':L.length≤16:=by rw[hperm.length_eq];simp;omega
 have hT:∀m,(x.put n ⟨pr.T,L,pr.Q⟩).T m=if m=n then some ⟨pr.T,L,pr.Q⟩else x.T m:=fun _=>rfl
 have own:∀m f,(x.put n ⟨pr.T,L,pr.Q⟩).owns m f↔x.owns m f:=fun m f=>by
  unfold za.owns
  rw[hT]
  by_cases e:m=n
  ·rw[if_pos e,e,hp]
   constructor
   ·rintro⟨_,e2,hf⟩;cases e2;exact⟨pr,rfl,hf⟩
   ·rintro⟨_,e2,hf⟩;cases e2;exact⟨_,rfl,hf⟩
  ·rw[if_neg e]
 have ent:∀m page,(x.put n ⟨pr.T,L,pr.Q⟩).ent m page=x.ent m page:=fun m page=>by
  unfold za.ent
  rw[hT]
  by_cases e:m=n
  ·rw[if_pos e,e,hp];rfl
  ·rw[if_neg e];rfl
 have hnone:∀page:Nat,a.Has (page:Int)→yh pr.A (page:Int)=none:=fun page hh=>by
  cases e:yh pr.A (page:Int)with
  | none=>rfl
  | some b=>
   obtain⟨h1,h2⟩:=(Yr hOk).1 e
   exact absurd h2 (hd b h1 _ hh)
 refine⟨⟨⟨⟨fun m pm hm'=>?_,fun m k f h1 h2=>h.ok.wf.apart m k f ((own m f).1 h1) ((own k f).1 h2),fun m pm hm'=>?_,h.ok.wf.back,h.ok.wf.slots,h.ok.wf.bad,h.ok.wf.keys,h.ok.wf.secs,h.ok.wf.nd⟩,fun f m page h1 h2 h3=>by rw[ent];exact h.ok.backE f m page h1 h2 h3,fun k m page h1 h2 h3=>by rw[ent];exact h.ok.slotE k m page h1 h2 h3,h.ok.useB,h.ok.anon,fun f h1 h2=>?_,h.ok.cached,h.ok.cacheE,h.ok.cacheK,fun m pm page hm' hpg=>?_⟩,fun m hm'=>?_⟩,?_⟩
 ·rw[hT]at hm'
  by_cases e:m=n
  ·rw[if_pos e]at hm'
   cases hm'
   exact h.ok.wf.rpt n pr hp
  ·rw[if_neg e]at hm'
   exact h.ok.wf.rpt m pm hm'
 ·rw[hT]at hm'
  by_cases e:m=n
  ·rw[if_pos e]at hm'
   cases hm'
   exact⟨hL',hlen'⟩
  ·rw[if_neg e]at hm'
   exact h.ok.wf.Yh m pm hm'
 ·obtain⟨m,hm'⟩:=h.ok.table f h1 h2
  exact⟨m,(own m f).2 hm'⟩
 ·rw[ent]
  rw[hT]at hm'
  by_cases e:m=n
  ·rw[if_pos e]at hm'
   cases hm'
   rw[e]
   have k:=h.ok.area n pr page hp hpg
   by_cases hh:a.Has (page:Int)
   ·have k0:(x.ent n page).kind=0:=by
     by_cases z:(x.ent n page).kind=0
     ·exact z
     ·obtain⟨b,hb⟩:=k.find z
      rw[hnone page hh]at hb
      cases hb
    exact⟨fun z=>absurd k0 z,fun _ _ z=>by omega,fun _ _ _ z=>by omega,fun _ _ z=>by omega,fun _ _ z=>by omega⟩
   ·have hf:yh L (page:Int)=yh pr.A (page:Int):=by rw[hfind,if_neg hh]
    exact⟨by rw[hf];exact k.find,by rw[hf];exact k.own,by rw[hf];exact k.file,by rw[hf];exact k.shared,by rw[hf];exact k.slot⟩
  ·rw[if_neg e]at hm'
   have k:=h.ok.area m pm page hm' hpg
   exact⟨k.find,k.own,k.file,k.shared,k.slot⟩
 ·rw[hT]
  by_cases e:m=n
  ·have:=h.ok.Xg h.out hp;omega
  ·rw[if_neg e];exact h.out m hm'
 ·unfold za.abs Abs.map
  rw[Abs.mk.injEq]
  refine⟨?_,?_,rfl,rfl,rfl⟩
  ·funext m
   rw[hT]
   by_cases e:m=n
   ·rw[if_pos e,if_pos e];dsimp only;rw[hp];rfl
   ·rw[if_neg e,if_neg e]
  ·funext m page
   by_cases hpg:page<4096
   ·rw[if_pos hpg]
    dsimp only
    rw[if_pos hpg]
    unfold za.pv
    rw[hT]
    by_cases e:m=n
    ·rw[if_pos e,e,hp]
     dsimp only
     rw[hfind,ent]
     by_cases hh:a.Has (page:Int)
     ·rw[if_pos hh,if_pos ⟨rfl,hpg,hh⟩]
      dsimp only
      have k:=h.ok.area n pr page hp hpg
      have k0:(x.ent n page).kind=0:=by
       by_cases z:(x.ent n page).kind=0
       ·exact z
       ·obtain⟨b,hb⟩:=k.find z
        rw[hnone page hh]at hb
        cases hb
      unfold za.pv1 Jy
      rw[k0,if_neg (by omega),if_neg (by omega),if_neg (by omega)]
     ·rw[if_neg hh,if_neg fun z=>hh z.2.2]
      rfl
    ·rw[if_neg e,if_neg fun z=>e z.1]
     cases x.T m with
     | none=>rfl
     | some pm=>
      dsimp only
      cases yh pm.A (page:Int)with
      | none=>rfl
      | some b=>dsimp only;rw[ent];rfl
   ·rw[if_neg hpg,if_neg (fun z:m=n∧page<4096∧a.Has (page:Int)=>hpg z.2.1)]
    dsimp only
    rw[if_neg hpg]
end
def Abs.setQ(X:Abs)(n:Nat)(Q:List (Int×Int)):Abs:={X with A:=fun m=>if m=n then(X.A n).map fun p=>(p.1,Q)else X.A m}
section
variable {x y:za}
theorem Ok0.sigs(h:Ok0 x){n:Nat}{pr:yj}(hp:x.T n=some pr)(Q:List (Int×Int)):
  Ok0 (x.put n ⟨pr.T,pr.A,Q⟩)∧(x.put n ⟨pr.T,pr.A,Q⟩).abs=x.abs.setQ n Q:=by
 have hT:∀m,(x.put n ⟨pr.T,pr.A,Q⟩).T m=if m=n then some ⟨pr.T,pr.A,Q⟩else x.T m:=fun _=>rfl
 have own:∀m f,(x.put n ⟨pr.T,pr.A,Q⟩).owns m f↔x.owns m f:=fun m f=>by
  unfold za.owns
  rw[hT]
  by_cases e:m=n
  ·rw[if_pos e,e,hp]
   constructor
   ·rintro⟨_,e2,hf⟩;cases e2;exact⟨pr,rfl,hf⟩
   ·rintro⟨_,e2,hf⟩;cases e2;exact⟨_,rfl,hf⟩
  ·rw[if_neg e]
 have ent:∀m page,(x.put n ⟨pr.T,pr.A,Q⟩).ent m page=x.ent m page:=fun m page=>by
  unfold za.ent
  rw[hT]
  by_cases e:m=n
  ·rw[if_pos e,e,hp];rfl
  ·rw[if_neg e];rfl
 refine⟨⟨⟨⟨fun m pm hm'=>?_,fun m k f h1 h2=>h.ok.wf.apart m k f ((own m f).1 h1) ((own k f).1 h2),fun m pm hm'=>?_,h.ok.wf.back,h.ok.wf.slots,h.ok.wf.bad,h.ok.wf.keys,h.ok.wf.secs,h.ok.wf.nd⟩,fun f m page h1 h2 h3=>by rw[ent];exact h.ok.backE f m page h1 h2 h3,fun k m page h1 h2 h3=>by rw[ent];exact h.ok.slotE k m page h1 h2 h3,h.ok.useB,h.ok.anon,fun f h1 h2=>?_,h.ok.cached,h.ok.cacheE,h.ok.cacheK,fun m pm page hm' hpg=>?_⟩,fun m hm'=>?_⟩,?_⟩
 ·rw[hT]at hm'
  by_cases e:m=n
  ·rw[if_pos e]at hm'
   cases hm'
   exact h.ok.wf.rpt n pr hp
  ·rw[if_neg e]at hm'
   exact h.ok.wf.rpt m pm hm'
 ·rw[hT]at hm'
  by_cases e:m=n
  ·rw[if_pos e]at hm'
   cases hm'
   exact h.ok.wf.Yh n pr hp
  ·rw[if_neg e]at hm'
   exact h.ok.wf.Yh m pm hm'
 ·obtain⟨m,hm'⟩:=h.ok.table f h1 h2
  exact⟨m,(own m f).2 hm'⟩
 ·rw[ent]
  rw[hT]at hm'
  by_cases e:m=n
  ·rw[if_pos e]at hm'
   cases hm'
   rw[e]
   have k:=h.ok.area n pr page hp hpg
   exact⟨k.find,k.own,k.file,k.shared,k.slot⟩
  ·rw[if_neg e]at hm'
   have k:=h.ok.area m pm page hm' hpg
   exact⟨k.find,k.own,k.file,k.shared,k.slot⟩
 ·rw[hT]
  by_cases e:m=n
  ·have:=h.ok.Xg h.out hp;omega
  ·rw[if_neg e];exact h.out m hm'
 ·unfold za.abs Abs.setQ
  rw[Abs.mk.injEq]
  refine⟨?_,?_,rfl,rfl,rfl⟩
  ·funext m
   rw[hT]
   by_cases e:m=n
   ·rw[if_pos e,if_pos e];dsimp only;rw[hp];rfl
   ·rw[if_neg e,if_neg e]
  ·funext m page
   by_cases hpg:page<4096
   ·dsimp only
    rw[if_pos hpg,if_pos hpg]
    unfold za.pv
    rw[hT]
    by_cases e:m=n
    ·rw[if_pos e,e,hp]
     dsimp only
     rw[ent]
     rfl
    ·rw[if_neg e]
     cases x.T m with
     | none=>rfl
     | some pm=>
      dsimp only
      cases yh pm.A (page:Int)with
      | none=>rfl
      | some b=>dsimp only;rw[ent];rfl
   ·dsimp only
    rw[if_neg hpg,if_neg hpg]
end
theorem zcy(k:Nat):∀N,k≤N→(List.range N).countP (fun f=>decide (f<k))=k
 | 0,h=>by simp;omega
 | N+1,h=>by
  rw[List.range_succ,List.countP_append]
  by_cases e:k=N+1
  ·subst e
   rw[List.countP_eq_length.2 (fun a ha=>by simp at ha⊢;omega)]
   simp
  ·rw[zcy k N (by omega)]
   simp
   omega
def Abs.start(file:Int×Int→List UInt8)(cur:Nat→List UInt8):Abs:=⟨fun _=>none,fun _ _=>.none,file,fun _=>false,cur⟩
theorem zhb(P:zk)(D:zx):(za.start RamS.none P D).abs=.start (fun k=>if Zc k then D.cur (za.uh k)else []) D.cur:=by
 unfold za.abs Abs.start
 rw[Abs.mk.injEq]
 refine⟨rfl,?_,?_,rfl,rfl⟩
 ·funext n page
  unfold za.pv
  show(if page<4096 then PV.none else .none)=.none
  split<;>rfl
 ·funext k
  rfl
theorem Yk(a:Ar):insA [] a=[a]:=rfl
theorem Abs.zaj(X:Abs)(n:Nat)(a:Ar)(L:List Ar)(m pg:Nat):(X.map n a L).pv m pg=if m=n∧pg<4096∧a.Has (pg:Int)then Jy a else X.pv m pg:=rfl
theorem Abs.zoe{X:Abs}{n:Nat}{p:List Ar×List (Int×Int)}(h:X.A n=some p)(pg:Nat):X.area n pg=yh p.1 (pg:Int):=by
 unfold Abs.area;rw[h];rfl
section
variable {F:Nat→Prop}{x y:za}
theorem OK.disk(h:OK F x)(D:zx)(hD:∀s,s<192→(D.cur s).length=64):OK F {x with D:=D}:=
 ⟨h.wf.disk D hD,h.backE,h.slotE,h.useB,h.anon,h.table,h.cached,h.cacheE,h.cacheK,fun n pr page a b=>⟨(h.area n pr page a b).find,(h.area n pr page a b).own,(h.area n pr page a b).file,(h.area n pr page a b).shared,(h.area n pr page a b).slot⟩⟩
theorem Ok0.disk(h:Ok0 x)(D:zx)(hD:∀s,s<192→(D.cur s).length=64):Ok0 {x with D:=D}:=⟨h.ok.disk D hD,h.out⟩
end
section
variable {w w':World}{tag tag':Nat→Nat}{q:Sq}{x:za}
def keyL(b:Nat)(k:Int×Int):List (Nat×Nat×Value):=[(b,0,.int .i64 k.1),(b,1,.int .i64 k.2)]
end
section
variable {w w':World}{tag tag':Nat→Nat}{q:Sq}{x:za}
theorem zb.zne(h:zb w tag q x)(u:Nat)(h2:2≤u)(h5:u≤5){to:Nat}(hto:x.P.next true=some to):Calls Tryz.prog 43 #[.pointer (some ⟨q.pp,0,none⟩),.int .i64 u,.int .i64 0,.bool true] w fun e w'=>e=.returned (.tuple #[.int .i64 to,.int .i64 0])∧zb w' tag q {x with P:=x.P.set to u}∧Step (fun c=>c=2) tag w tag w':=by
 refine(Uc w _ _ _ _ _ h.pool u u rfl h2 h5).mono ?_
 rintro e w1 ⟨rfl,hP,ht,_⟩
 rw[hto]at hP⊢
 obtain⟨a,b⟩:=h.za7 ht hP
 exact⟨rfl,a,b⟩
theorem zb.copyR(h:zb w tag q x){f g:Nat}(hf:f<1024)(hg:g<1024)(hb:x.R.bad f=false)(hbg:x.R.bad g=false):Calls Tryz.prog 80 #[.pointer (some ⟨q.rp,0,none⟩),.int .i64 f,.int .i64 g] w fun e w'=>e=.returned (.int .i64 0)∧zb w' tag q {x with R:=x.R.write g 0 (x.R.read f 0 64)}∧Step (fun c=>c=1) tag w tag w':=by
 refine(zdd w _ _ _ _ h.ram f g f g rfl rfl hf hg hb hbg).mono ?_
 rintro e w1 ⟨rfl,hR,ht,_⟩
 obtain⟨a,b⟩:=h.ram' ht hR
 exact⟨rfl,a,b⟩
theorem Xj(h:zb w tag q x)(f:Nat)(hf:f<1024):
  Calls Tryz.prog 79 #[ptrV q.sp,.int .i64 f] w fun e w'=>e=.returned (.bool (decide (x.P.use f=3∨x.P.use f=4)))∧w'=w:=by
 have U:=Lib.hid (h.useP f hf)
 have c2:w.cell? ⟨q.sp,2,none⟩=some (.pointer (some ⟨q.pp,0,none⟩)):=h.loc0.cell (i:=2) (by omega)
 generalize x.P.use f=u at U⊢
 clear h
 unfold ptrV
 by_cases h3:u=3
 ·subst h3
  go_enter Tryz.func79,Tryz.ntmps79
  go_wp2_with fail
  refine U.out.mono ?_
  rintro e w1 ⟨rfl,hu⟩
  have hu:=hu.symm
  subst hu
  go_wp2_with fail
  go_ret
  exact⟨rfl,rfl⟩
 ·have e1:((u:Int)==3)=false:=beq_eq_false_iff_ne.2 (by omega)
  have e2:((u:Int)=3)=False:=eq_false (by omega)
  by_cases h4:u=4
  ·subst h4
   clear h3 e1 e2
   go_enter Tryz.func79,Tryz.ntmps79
   go_wp2_with fail
   refine U.out.mono ?_
   rintro e w1 ⟨rfl,hu⟩
   have hu:=hu.symm
   subst hu
   go_wp2_with fail
   go_ret
   exact⟨rfl,rfl⟩
  ·have e3:((u:Int)==4)=false:=beq_eq_false_iff_ne.2 (by omega)
   have e4:((u:Int)=4)=False:=eq_false (by omega)
   have HN:Hid (decide (u=3∨u=4)=false):=Lib.hid (by simp[h3,h4])
   rw[HN.out]
   clear h3 h4
   go_enter Tryz.func79,Tryz.ntmps79
   go_wp2_with fail
   refine U.out.mono ?_
   rintro e w1 ⟨rfl,hu⟩
   have hu:=hu.symm
   subst hu
   go_wp2_with fail
   go_ret
   exact⟨rfl,rfl⟩
theorem zib(h:zb w tag q x)(f:Nat)(hf:f<1024)(hu:¬(x.P.use f=3∨x.P.use f=4)):
  Calls Tryz.prog 29 #[ptrV q.sp,.int .i64 f] w fun e w'=>e=.returned (.tuple #[.int .i64 0,.int .i64 2])∧w'=w:=by
 have MV:=Lib.hid (Xj h f hf)
 rw[decide_eq_false hu]at MV
 clear h
 unfold ptrV at *
 go_enter Tryz.func29,Tryz.ntmps29
 go_wp2_with fail
 refine MV.out.mono ?_
 rintro e w1 ⟨rfl,hw⟩
 have hw:=hw.symm
 subst hw
 go_wp2_with fail
 exact bodyPost_ret (v:=.tuple #[.int .i64 0,.int .i64 2]) (by simp[results,Tryz.results29,go_sem]) rfl ⟨rfl,rfl⟩
theorem zkq(w:World)(f:Int):Calls Tryz.prog 29 #[.pointer none,.int .i64 f] w fun e w'=>e=.returned (.tuple #[.int .i64 0,.int .i64 1])∧w'=w:=by
 go_enter Tryz.func29,Tryz.ntmps29
 go_wp2_with fail
 exact bodyPost_ret (v:=.tuple #[.int .i64 0,.int .i64 1]) (by simp[results,Tryz.results29,go_sem]) rfl ⟨rfl,rfl⟩
theorem zcb(h:zb w tag q x)(ok:Ok0 x)(f to:Nat)(hf:f<1024)(hu:x.P.use f=3∨x.P.use f=4)(hto:x.P.next true=some to):
  Calls Tryz.prog 29 #[ptrV q.sp,.int .i64 f] w fun r w'=>r=.returned (.tuple #[.int .i64 to,.int .i64 0])∧∃tag',zb w' tag' q (x.qh f to)∧Step CA tag w tag' w':=by
 obtain⟨ht,htu⟩:=Zv hto
 have hne:to≠f:=fun e=>by rw[e]at htu;omega
 obtain⟨R,hR⟩:∃R,R=x.qh f to:=⟨_,rfl⟩
 rw[←hR]
 have MV:=Lib.hid (Xj h f hf)
 rw[decide_eq_true hu]at MV
 have h0:=h.loc0.drew.sp
 have US:=Lib.hid (h0.useP f hf)
 have c2:w.cell? ⟨q.sp,2,none⟩=some (.pointer (some ⟨q.pp,0,none⟩)):=h.loc0.cell (i:=2) (by omega)
 obtain⟨u,hU⟩:∃u,u=x.P.use f:=⟨_,rfl⟩
 rw[←hU]at US hu
 have AL:Hid (Calls Tryz.prog 43 #[.pointer (some ⟨q.pp,0,none⟩),.int .i64 u,.int .i64 0,.bool true] w.drew fun r w2=>r=.returned (.tuple #[.int .i64 to,.int .i64 0])∧w2.cell? ⟨q.sp,2,none⟩=some (.pointer (some ⟨q.pp,0,none⟩))∧w2.cell? ⟨q.sp,0,none⟩=some (.pointer (some ⟨q.rp,0,none⟩))∧zb w2 tag q {x with P:=x.P.set to u}∧Step CA tag w tag w2):=by
  refine(h0.zne u (by omega) (by omega) hto).mono ?_
  rintro r w2 ⟨rfl,h2,s2⟩
  exact⟨rfl,h2.loc0.cell (i:=2) (by omega),h2.loc0.cell (i:=0) (by omega),h2,(Step.of_below (Below.refl _ _).drew).trans (s2.mono fun c hc=>by unfold CA;omega)⟩
 have d1:NewF x (x.P.use f) to (x.R.read f 0 64) (x.newC f to):=ok.ok.wf.newF hto _ (zho ..) rfl rfl rfl rfl rfl rfl rfl rfl
 have hP:∀p∈(x.newC f to).B f,Qd (x.newC f to) f p:=fun p hq=>by
  obtain⟨⟨n,pg,pr,e,h1,h2,h3,h4,h5⟩,h6,h7,h8⟩:=ok.ok.zie hf p hq
  exact⟨⟨n,pg,pr,e,h1,h2,h3,by rw[d1.ent n pg h2];exact h4,by rw[d1.ent n pg h2];exact h5⟩,h6,h7,h8⟩
 have HX:=Lib.hid (And.intro (ok.ok.wf.ji hf (by omega)) (And.intro (ok.ok.wf.ji ht (by omega)) (And.intro d1.wf (And.intro hP (And.intro ht (And.intro hne (And.intro hf (And.intro hU hR))))))))
 clear h ok h0 d1 hP hto htu hR hf hu hU hne ht
 unfold ptrV at *
 go_enter Tryz.func29,Tryz.ntmps29
 go_wp2_with fail
 refine MV.out.mono ?_
 rintro e w1 ⟨rfl,hw⟩
 have hw:=hw.symm
 subst hw
 clear MV
 go_wp2_with fail
 go_region_held (fun W'=>W'.cell? ⟨q.sp,2,none⟩=some (.pointer (some ⟨q.pp,0,none⟩))) (go_keep)
  (first
   | (go_at_call 38;refine US.out.mono ?_;rintro r u2 ⟨rfl,hu2⟩;have hu2:=hu2.symm;subst hu2;clear US)
   | (go_at_call 43;refine AL.out.mono ?_;rintro r w2 ⟨rfl,m0,m1,HS⟩;have hS:=Lib.hid HS;clear HS AL))
 clear c2 m0
 have CP:Hid (Calls Tryz.prog 80 #[.pointer (some ⟨q.rp,0,none⟩),.int .i64 f,.int .i64 to] w2 fun r w3=>r=.returned (.int .i64 0)∧zb w3 tag q (x.newC f to)∧Step CA tag w tag w3):=by
  refine(hS.out.1.copyR HX.out.2.2.2.2.2.2.1 HX.out.2.2.2.2.1 HX.out.1 HX.out.2.1).mono ?_
  rintro r w3 ⟨rfl,h3,s3⟩
  have e1:x.newC f to={x with P:=x.P.set to u,R:=x.R.write to 0 (x.R.read f 0 64)}:=by rw[HX.out.2.2.2.2.2.2.2.1];rfl
  rw[e1]
  exact⟨rfl,h3,hS.out.2.trans (s3.mono fun c hc=>by unfold CA;omega)⟩
 go_wp2_with fail
 refine CP.out.mono ?_
 rintro r w3 ⟨rfl,h3,s3⟩
 have HA:Hid (Calls Tryz.prog 81 #[.pointer (some ⟨q.sp,0,none⟩),.int .i64 f,.int .i64 to] w3 fun r w4=>r=.returned (.tuple #[])∧∃tag4,zb w4 tag4 q ((x.newC f to).zd4 f to)∧Step CA tag w tag4 w4):=by
  refine(zis h3 HX.out.2.2.1 f to HX.out.2.2.2.2.1 HX.out.2.2.2.2.2.1 HX.out.2.2.2.1).mono ?_
  rintro r w4 ⟨rfl,tag4,h4,s4⟩
  exact⟨rfl,tag4,h4,s3.trans s4⟩
 clear h3 s3 CP m1 hS
 go_wp2_with fail
 refine HA.out.mono ?_
 rintro r w4 ⟨rfl,tag4,h4,s4⟩
 obtain⟨z,hz⟩:∃z,z=(x.newC f to).zd4 f to:=⟨_,rfl⟩
 rw[←hz]at h4
 have d4:w4.cell? ⟨q.sp,4,none⟩=some (.pointer (some ⟨q.cp,0,none⟩)):=h4.loc0.cell (i:=4) (by omega)
 have CO:=Lib.hid (h4.cof f)
 have hRz:R=(z.recF f to).uw f:=by rw[HX.out.2.2.2.2.2.2.2.2,hz];rfl
 have H4:=Lib.hid (And.intro h4 (And.intro s4 hRz))
 clear h4 s4 HA hz hRz
 cases hc:getL z.CR (f:Int)with
 | none=>
  rw[hc]at CO
  have CO:Hid (Calls Tryz.prog 82 #[.pointer (some ⟨q.cp,0,none⟩),.int .i64 f] w4 fun e w'=>e=.returned (.tuple #[.agg #[.int .i64 0,.int .i64 0],.bool false])∧Below w4.heap.size w4 w'):=CO
  have HC:=Lib.hid hc
  clear hc
  go_wp2_with fail
  refine CO.out.mono ?_
  rintro r w5 ⟨rfl,hb5⟩
  have FR:Hid (Calls Tryz.prog 44 #[.pointer (some ⟨q.pp,0,none⟩),.int .i64 f] (w5.alloc (.cells #[.int .i64 0,.int .i64 0] 133)) fun r w7=>∃b,r=.returned (.bool b)∧∃tag7,zb w7 tag7 q R∧Step CA tag w tag7 w7):=by
   have hb6:Below w4.heap.size w4 (w5.alloc (.cells #[.int .i64 0,.int .i64 0] 133)):=hb5.trans (((Below.refl _ _).alloc (Nat.le_refl _) _).mono hb5.size)
   obtain⟨L6,s6⟩:=H4.out.1.loc0.more hb6 [] (fun t ht=>by cases ht)
   refine(L6.sp.zn4 f HX.out.2.2.2.2.2.2.1).mono ?_
   rintro r w7 ⟨⟨b,rfl⟩,h7,s7⟩
   have e1:R=z.uw f:=by rw[H4.out.2.2];unfold za.recF;rw[HC.out]
   rw[e1]
   exact⟨b,rfl,_,h7,(H4.out.2.1.trans (s6.mono fun _ h=>h.elim)).trans (s7.mono fun c hc=>by unfold CA;omega)⟩
  have d2:(w5.alloc (.cells #[.int .i64 0,.int .i64 0] 133)).cell? ⟨q.sp,2,none⟩=some (.pointer (some ⟨q.pp,0,none⟩)):=(H4.out.1.below (hb5.trans (((Below.refl _ _).alloc (Nat.le_refl _) _).mono hb5.size))).loc0.cell (i:=2) (by omega)
  clear hb5 CO d4
  go_wp2_with fail
  refine FR.out.mono ?_
  rintro r w7 ⟨b,rfl,h7⟩
  have H7:=Lib.hid h7
  clear h7 FR d2
  go_wp2_with fail
  exact bodyPost_ret (v:=.tuple #[.int .i64 to,.int .i64 0]) (by simp[results,Tryz.results29,go_sem]) rfl ⟨rfl,H7.out⟩
 | some k=>
  rw[hc]at CO
  have CO:Hid (Calls Tryz.prog 82 #[.pointer (some ⟨q.cp,0,none⟩),.int .i64 f] w4 fun e w'=>e=.returned (.tuple #[.agg #[.int .i64 k.1,.int .i64 k.2],.bool true])∧Below w4.heap.size w4 w'):=CO
  have HC:=Lib.hid hc
  clear hc
  go_wp2_with fail
  refine CO.out.mono ?_
  rintro r w5 ⟨rfl,hb5⟩
  obtain⟨kb,hkb⟩:∃kb,kb=w5.heap.size:=⟨_,rfl⟩
  obtain⟨W5,hW5⟩:∃W5,W5=w5.alloc (.cells #[.int .i64 k.1,.int .i64 k.2] 133):=⟨_,rfl⟩
  have nb:=heap_alloc_new w5 (.cells #[.int .i64 k.1,.int .i64 k.2] 133)
  rw[←hW5,←hkb]at nb
  obtain⟨L5,s5⟩:=H4.out.1.loc0.more (W':=W5) (by rw[hW5];exact hb5.trans (((Below.refl _ _).alloc (Nat.le_refl _) _).mono hb5.size)) (keyL kb k) (fun t ht=>by
   simp[keyL]at ht
   rcases ht with rfl|rfl
   ·exact⟨by rw[hkb];exact hb5.size,zo nb 0 rfl⟩
   ·exact⟨by rw[hkb];exact hb5.size,zo nb 1 rfl⟩)
  rw[List.append_nil]at L5
  obtain⟨tag5,ht5⟩:∃tag5,tag5=retag tag4 w4 0:=⟨_,rfl⟩
  rw[←ht5]at L5 s5
  have H5:=Lib.hid (And.intro L5 (H4.out.2.1.trans (s5.mono fun _ h=>h.elim)))
  have e0:R=(((z.vg k).xk k to).y7 k (z.qy k)).uw f:=by rw[H4.out.2.2];unfold za.recF;rw[HC.out]
  have HE:=Lib.hid e0
  clear hb5 CO d4 nb L5 s5 ht5 e0
  go_wp2_with fail
  rw[←hW5,←hkb]
  clear hW5 hkb
  have a0:W5.cell? ⟨kb,0,none⟩=some (.int .i64 k.1):=H5.out.1.get 0 rfl
  have a1:W5.cell? ⟨kb,1,none⟩=some (.int .i64 k.2):=H5.out.1.get 1 rfl
  have a2:W5.cell? ⟨q.sp,4,none⟩=some (.pointer (some ⟨q.cp,0,none⟩)):=H5.out.1.cell (i:=4) (by omega)
  have DI:Hid (Calls Tryz.prog 83 #[.pointer (some ⟨q.cp,0,none⟩),.agg #[.int .i64 k.1,.int .i64 k.2]] W5.drew fun r w6=>r=.returned (.bool (z.qy k))∧(w6.cell? ⟨kb,0,none⟩=some (.int .i64 k.1)∧w6.cell? ⟨kb,1,none⟩=some (.int .i64 k.2)∧w6.cell? ⟨q.sp,4,none⟩=some (.pointer (some ⟨q.cp,0,none⟩)))∧Loc w6 tag5 q z (keyL kb k)∧Step CA tag w tag5 w6):=by
   refine(H5.out.1.drew.sp.cdirty k).mono ?_
   rintro r w6 ⟨rfl,hb⟩
   have L6:=H5.out.1.drew.below hb
   exact⟨rfl,⟨L6.get 0 rfl,L6.get 1 rfl,L6.cell (i:=4) (by omega)⟩,L6,(H5.out.2.trans (Step.of_below (Below.refl _ _).drew)).trans (Step.of_below hb)⟩
  go_region_held (fun W'=>W'.cell? ⟨kb,0,none⟩=some (.int .i64 k.1)∧W'.cell? ⟨kb,1,none⟩=some (.int .i64 k.2)∧W'.cell? ⟨q.sp,4,none⟩=some (.pointer (some ⟨q.cp,0,none⟩))) (go_keep)
   ((go_at_call 83;refine DI.out.mono ?_;rintro r w6 ⟨rfl,⟨b0,b1,b2⟩,HS⟩;have hS6:=Lib.hid HS;clear HS))
  clear DI a0 a1 a2
  have DR:Hid (Calls Tryz.prog 84 #[.pointer (some ⟨q.cp,0,none⟩),.agg #[.int .i64 k.1,.int .i64 k.2]] w6.drew fun r w7=>∃b,r=.returned (.bool b)∧(w7.cell? ⟨kb,0,none⟩=some (.int .i64 k.1)∧w7.cell? ⟨kb,1,none⟩=some (.int .i64 k.2)∧w7.cell? ⟨q.sp,4,none⟩=some (.pointer (some ⟨q.cp,0,none⟩)))∧Loc w7 tag5 q (z.vg k) (keyL kb k)∧Step CA tag w tag5 w7):=by
   refine(hS6.out.1.drew.sp.cdrop k).mono ?_
   rintro r w7 ⟨⟨b,rfl⟩,h7,s7⟩
   have L7:=hS6.out.1.drew.step s7 (by omega) h7
   exact⟨b,rfl,⟨L7.get 0 rfl,L7.get 1 rfl,L7.cell (i:=4) (by omega)⟩,L7,(hS6.out.2.trans (Step.of_below (Below.refl _ _).drew)).trans (s7.mono fun c hc=>by unfold CA;omega)⟩
  go_wp2_with fail
  go_region_held (fun W'=>W'.cell? ⟨kb,0,none⟩=some (.int .i64 k.1)∧W'.cell? ⟨kb,1,none⟩=some (.int .i64 k.2)∧W'.cell? ⟨q.sp,4,none⟩=some (.pointer (some ⟨q.cp,0,none⟩))) (go_keep)
   ((go_at_call 84;refine DR.out.mono ?_;rintro r w7 ⟨bb1,rfl,⟨p0,p1,p2⟩,HS⟩;have hS7:=Lib.hid HS;clear HS))
  clear DR b0 b1 b2
  have PU:Hid (Calls Tryz.prog 85 #[.pointer (some ⟨q.cp,0,none⟩),.agg #[.int .i64 k.1,.int .i64 k.2],.int .i64 to] w7.drew fun r w8=>∃b,r=.returned (.bool b)∧(w8.cell? ⟨kb,0,none⟩=some (.int .i64 k.1)∧w8.cell? ⟨kb,1,none⟩=some (.int .i64 k.2)∧w8.cell? ⟨q.sp,4,none⟩=some (.pointer (some ⟨q.cp,0,none⟩)))∧Loc w8 tag5 q ((z.vg k).xk k to) (keyL kb k)∧Step CA tag w tag5 w8):=by
   refine(hS7.out.1.drew.sp.cput k to).mono ?_
   rintro r w8 ⟨⟨b,rfl⟩,h8,s8⟩
   have L8:=hS7.out.1.drew.step s8 (by omega) h8
   exact⟨b,rfl,⟨L8.get 0 rfl,L8.get 1 rfl,L8.cell (i:=4) (by omega)⟩,L8,(hS7.out.2.trans (Step.of_below (Below.refl _ _).drew)).trans (s8.mono fun c hc=>by unfold CA;omega)⟩
  go_wp2_with fail
  go_region_held (fun W'=>W'.cell? ⟨kb,0,none⟩=some (.int .i64 k.1)∧W'.cell? ⟨kb,1,none⟩=some (.int .i64 k.2)∧W'.cell? ⟨q.sp,4,none⟩=some (.pointer (some ⟨q.cp,0,none⟩))) (go_keep)
   ((go_at_call 85;refine PU.out.mono ?_;rintro r w8 ⟨bb2,rfl,⟨r0,r1,r2⟩,HS⟩;have hS8:=Lib.hid HS;clear HS))
  clear PU p0 p1 p2
  have MK:Hid (Calls Tryz.prog 86 #[.pointer (some ⟨q.cp,0,none⟩),.agg #[.int .i64 k.1,.int .i64 k.2],.bool (z.qy k)] w8.drew fun r w9=>∃b,r=.returned (.bool b)∧(w9.cell? ⟨kb,0,none⟩=some (.int .i64 k.1)∧w9.cell? ⟨kb,1,none⟩=some (.int .i64 k.2)∧w9.cell? ⟨q.sp,4,none⟩=some (.pointer (some ⟨q.cp,0,none⟩)))∧w9.cell? ⟨q.sp,2,none⟩=some (.pointer (some ⟨q.pp,0,none⟩))∧Loc w9 tag5 q (((z.vg k).xk k to).y7 k (z.qy k)) (keyL kb k)∧Step CA tag w tag5 w9):=by
   refine(hS8.out.1.drew.sp.cmark k (z.qy k)).mono ?_
   rintro r w9 ⟨⟨b,rfl⟩,h9,s9⟩
   have L9:=hS8.out.1.drew.step s9 (by omega) h9
   exact⟨b,rfl,⟨L9.get 0 rfl,L9.get 1 rfl,L9.cell (i:=4) (by omega)⟩,L9.cell (i:=2) (by omega),L9,(hS8.out.2.trans (Step.of_below (Below.refl _ _).drew)).trans (s9.mono fun c hc=>by unfold CA;omega)⟩
  go_wp2_with fail
  go_region_held (fun W'=>W'.cell? ⟨kb,0,none⟩=some (.int .i64 k.1)∧W'.cell? ⟨kb,1,none⟩=some (.int .i64 k.2)∧W'.cell? ⟨q.sp,4,none⟩=some (.pointer (some ⟨q.cp,0,none⟩))) (go_keep)
   ((go_at_call 86;refine MK.out.mono ?_;rintro r w9 ⟨bb3,rfl,⟨t0,t1,t2⟩,t3,HS⟩;have hS9:=Lib.hid HS;clear HS))
  clear MK r0 r1 r2 t0 t1 t2
  have FR:Hid (Calls Tryz.prog 44 #[.pointer (some ⟨q.pp,0,none⟩),.int .i64 f] w9 fun r w10=>∃b,r=.returned (.bool b)∧∃tag7,zb w10 tag7 q R∧Step CA tag w tag7 w10):=by
   refine(hS9.out.1.sp.zn4 f HX.out.2.2.2.2.2.2.1).mono ?_
   rintro r w10 ⟨⟨b,rfl⟩,h10,s10⟩
   rw[HE.out]
   exact⟨b,rfl,_,h10,hS9.out.2.trans (s10.mono fun c hc=>by unfold CA;omega)⟩
  go_wp2_with fail
  refine FR.out.mono ?_
  rintro r w10 ⟨b,rfl,h10⟩
  have H10:=Lib.hid h10
  clear h10 FR t3
  go_wp2_with fail
  exact bodyPost_ret (v:=.tuple #[.int .i64 to,.int .i64 0]) (by simp[results,Tryz.results29,go_sem]) rfl ⟨rfl,H10.out⟩
end
def bys(l:List UInt8):List Value:=l.map bV
theorem zoa(l:List UInt8):(bys l).length=l.length:=List.length_map ..
theorem zc0{w:World}{v:Value}{l:List UInt8}:BRd w v l↔SlRd w 1 v (bys l).length (bys l):=by rw[zoa];exact Iff.rfl
theorem SlRd.keepO{w w':World}{k n:Nat}{v:Value}{xs:List Value}(h:SlRd w k v n xs)(hk:∀b,v.ownBlock=some b→w'.heap[b]?=w.heap[b]?):SlRd w' k v n xs:=by
 refine⟨h.1,?_⟩
 rcases h.2 with h0|⟨b,off,c,rfl,hnc,hm,hg,hx⟩
 ·exact .inl h0
 ·have e:=hk b (by simp[Value.ownBlock])
  exact .inr ⟨b,off,c,rfl,hnc,hm,(Array.getElem?_eq_some_iff.1 (e.trans (Array.getElem?_eq_getElem hg))).1,fun j u hu=>(World.cell?_of_block (w:=w) e).trans (hx j u hu)⟩
structure At(w0:World)(V:List (Value×List Value))(sp:Nat)(X:Abs)(r:Nat)(w:World):Prop where
 st:∃x q tag,q.sp=sp∧zb w tag q x∧(∀b,b<w0.heap.size→tag b=0)∧(∀p∈V,SlRd w 1 p.1 p.2.length p.2∧∀b,p.1.ownBlock=some b→tag b=0)∧Ok0 x∧x.abs=X∧r≤x.P.room∧x.D.Calm
 bel:Below w0.heap.size w0 w
section
variable {w0 w w':World}{V:List (Value×List Value)}{sp r:Nat}{X:Abs}{C:Nat→Prop}{tag tag':Nat→Nat}
theorem Yj(hC:¬C 0)(s:Step C tag w tag' w')(hb:Below w0.heap.size w0 w)(low:∀b,b<w0.heap.size→tag b=0)(hV:∀p∈V,SlRd w 1 p.1 p.2.length p.2∧∀b,p.1.ownBlock=some b→tag b=0):
  (∀b,b<w0.heap.size→tag' b=0)∧(∀p∈V,SlRd w' 1 p.1 p.2.length p.2∧∀b,p.1.ownBlock=some b→tag' b=0)∧Below w0.heap.size w0 w':=by
 have hsz:=hb.size
 refine⟨fun b h=>(s.keeps hC b (by omega) (low b h)).1,fun p hp=>?_,⟨s.turn.os.trans hb.os,s.turn.tape.trans hb.tape,s.turn.output.trans hb.output,Nat.le_trans hsz s.turn.size,fun k hk=>(s.keeps hC k (by omega) (low k hk)).2.trans (hb.block k hk)⟩⟩
 obtain⟨h1,h2⟩:=hV p hp
 exact⟨SlRd.keepO h1 fun b h=>(s.keeps hC b (SlRd.lt h1 b h) (h2 b h)).2,fun b h=>(s.keeps hC b (SlRd.lt h1 b h) (h2 b h)).1⟩
theorem At.less(h:At w0 V sp X r w){r':Nat}(hr:r'≤r):At w0 V sp X r' w:=by
 obtain⟨⟨x,q,tag,hq,hS,low,hV,hk,hX,hr',hc⟩,hbel⟩:=h
 exact⟨⟨x,q,tag,hq,hS,low,hV,hk,hX,by omega,hc⟩,hbel⟩
def Has(w0:World)(V:List (Value×List Value))(w:World)(v:Value)(l:List UInt8):Prop:=(v,bys l)∈V∨BRd w v l∧∀b,v.ownBlock=some b→b<w0.heap.size
theorem CS0(n:Nat):¬CS n 0:=by unfold CS;omega
theorem At.load'{x:za}{q:Sq}{tag:Nat→Nat}(hS:zb w tag q x)(hk:Ok0 x){n:Nat}(hn:n<8)(hs:(x.T n).isSome=true)(a s:Int):
  Calls Tryz.prog 20 #[ptrV q.sp,.int .i64 n,.int .i64 a,.int .i64 s] w fun e w'=>∃v tag',e=.returned (.tuple #[v,.int .i64 (x.Ve n a s).1.2])∧ByAt w' v (x.Ve n a s).1.1∧(∀b,v.ownBlock=some b→tag' b=0)∧zb w' tag' q (x.Ve n a s).2∧Step CB tag w tag' w':=by
 refine zmt n hn _ (zjk n false) hS ⟨hk,hs⟩ a s fun h0 h1=>?_
 have hb:0≤a∧0≤s∧s≤64∧a+s≤262144:=by
  unfold za.qw at h0
  split at h0
  ·omega
  ·split at h0
   ·omega
   ·omega
 obtain⟨g1,g2,_⟩:=hk.Q6 hs false (a:=a.toNat) (s:=s.toNat) (by omega) (by omega) h1
 exact⟨g1,g2⟩
theorem At.store'{x:za}{q:Sq}{tag:Nat→Nat}(hS:zb w tag q x)(hk:Ok0 x){n:Nat}(hn:n<8)(hs:(x.T n).isSome=true)(a:Nat){v:Value}{l:List UInt8}(hv:BRd w v l)(ho:∀b,v.ownBlock=some b→tag b=0)(hr:x.qw n a l.length=0):
  Calls Tryz.prog 19 #[ptrV q.sp,.int .i64 n,.int .i64 a,v] w fun e w'=>e=.returned (.int .i64 (x.Yi n a l).1)∧∃tag',zb w' tag' q (x.Yi n a l).2∧Step CB tag w tag' w':=by
 obtain⟨va,vc,rfl,_,_⟩:=SlRd.form hv
 have hb:l.length≤64∧a+l.length≤262144:=by
  have h0:=hr
  unfold za.qw at h0
  split at h0
  ·omega
  ·split at h0
   ·omega
   ·omega
 have R:=Qx hS n a l.length
 rw[hr]at R
 have P:=zah n hn true _ (zjk n true) hS ⟨hk,hs⟩ a l.length (by omega) (by omega)
 have W:=zgn (tag:=tag) n a va vc l R hv ho hb.1 (za.zm n true 3 x a l.length) (P.mono (by
  rintro e w1 (⟨v,tag1,rfl,h0,hv,ho,hS,hst,_⟩|⟨tag1,rfl,h0,hS,hst⟩)
  ·exact .inl ⟨v,tag1,rfl,h0,hv,ho,hS,hst⟩
  ·exact .inr ⟨tag1,rfl,h0,hS,hst⟩)) (fun h0=>by
   obtain⟨_,g2,g3⟩:=hk.Q6 hs true (a:=a) (s:=l.length) hb.1 hb.2 h0
   exact⟨g2,g3⟩)
 have e1:(x.Yi n a l).1=(za.zm n true 3 x a l.length).1.2∧(x.Yi n a l).2=(if(za.zm n true 3 x a l.length).1.2=0 then {(za.zm n true 3 x a l.length).2 with R:=za.Xa (za.zm n true 3 x a l.length).1.1 l (za.zm n true 3 x a l.length).2.R} else(za.zm n true 3 x a l.length).2):=by
  unfold za.Yi
  rw[if_pos hr]
  simp only[Int.toNat_natCast]
  by_cases z:(za.zm n true 3 x a l.length).1.2=0
  ·rw[if_pos z,if_pos z,z];exact⟨rfl,rfl⟩
  ·rw[if_neg z,if_neg z];exact⟨rfl,rfl⟩
 rw[e1.1,e1.2]
 exact W
theorem zn2{v:Value}{l:List UInt8}(h:Has w0 V w v l)(low:∀b,b<w0.heap.size→tag b=0)(hV:∀p∈V,SlRd w 1 p.1 p.2.length p.2∧∀b,p.1.ownBlock=some b→tag b=0):BRd w v l∧∀b,v.ownBlock=some b→tag b=0:=by
 rcases h with h|⟨h,g⟩
 ·exact⟨zc0.2 (hV _ h).1,(hV _ h).2⟩
 ·exact⟨h,fun b hb=>low b (g b hb)⟩
theorem zb.secs{q:Sq}{x:za}(h:zb w tag q x):∀s,s<192→(x.D.cur s).length=64:=by
 intro s hs
 obtain⟨sb,off,c,mb,U,L,hD⟩:=h.disk
 obtain⟨v,_,hv⟩:=Qh _ hD s hs
 exact hv.1
end
theorem SameP.key{a b:Ar}{wr:Bool}(h:SameP a b wr)(hk:a.kind≠1)(page:Nat):za.keyF b page=za.keyF a page:=by
 unfold za.keyF
 rw[h.file]
 rcases h.off with e|e
 ·exact absurd e hk
 ·rw[Prod.mk.injEq]
  exact⟨rfl,by omega⟩
section
variable {X:Abs}{a:Ar}{n page:Nat}
theorem zg1(X:Abs)(a:Ar)(n page k:Nat)(b:List UInt8):(X.write a n page k b).A=X.A:=by unfold Abs.write;split<;>rfl
theorem zfv(X:Abs)(a:Ar)(n page k:Nat)(b:List UInt8)(m pg:Nat):((X.own a n page).write a n page k b).area m pg=X.area m pg:=zjo (by rw[zg1,ze4]) m pg
theorem U1(X:Abs)(a:Ar)(n page k:Nat)(b:List UInt8)(h:a.kind=2):
  ((X.own a n page).write a n page k b).pv=X.pv∧(∀q,((X.own a n page).write a n page k b).file q=if q=za.keyF a page then Abs.splice (X.file q) k b else X.file q):=by
 unfold Abs.write Abs.own
 rw[if_pos h,if_pos h]
 refine⟨rfl,fun q=>?_⟩
 show(if q=za.keyF a page then Abs.splice (X.file (za.keyF a page)) k b else X.file q)=_
 by_cases e:q=za.keyF a page
 ·rw[if_pos e,if_pos e,e]
 ·rw[if_neg e,if_neg e]
theorem zjd(h:X.pv n page=.file):X.ct a n page=X.file (za.keyF a page):=by unfold Abs.ct;rw[h]
theorem zjc{l:List UInt8}(h:X.pv n page=.own l):X.ct a n page=l:=by unfold Abs.ct;rw[h]
theorem zbx(X:Abs)(a:Ar)(n page k:Nat)(b:List UInt8)(h:a.kind≠2):
  (∀m pg,((X.own a n page).write a n page k b).pv m pg=if m=n∧pg=page then .own (Abs.splice (X.ct a n page) k b)else X.pv m pg)∧((X.own a n page).write a n page k b).file=X.file:=by
 have hct:(X.Qv n page (.own (X.ct a n page))).ct a n page=X.ct a n page:=by
  exact zjc (X:=X.Qv n page (.own (X.ct a n page))) (if_pos ⟨rfl,rfl⟩)
 unfold Abs.write Abs.own
 rw[if_neg h,if_neg h,hct]
 refine⟨fun m pg=>?_,rfl⟩
 show(if m=n∧pg=page then _ else if m=n∧pg=page then _ else X.pv m pg)=_
 by_cases e:m=n∧pg=page
 ·rw[if_pos e,if_pos e]
 ·rw[if_neg e,if_neg e,if_neg e]
end
section
variable {X:Abs}{a:Ar}{n p q at_:Nat}{b:List UInt8}
theorem zef{Y:Abs}(h1:Y.pv n q=X.pv n q)(h2:Y.file (za.keyF a q)=X.file (za.keyF a q)):Y.ct a n q=X.ct a n q:=by unfold Abs.ct;rw[h1,h2]
theorem Vn(X:Abs)(a:Ar)(n p q:Nat):(X.own a n p).ct a n q=X.ct a n q:=by
 unfold Abs.own
 split
 ·rfl
 ·by_cases e:q=p
  ·subst e
   exact zjc (X:=X.Qv n q (.own (X.ct a n q))) (if_pos ⟨rfl,rfl⟩)
  ·exact zef (Y:=X.Qv n p (.own (X.ct a n p))) (if_neg fun z=>e z.2) rfl
theorem Y2(h:a.kind=2→X.pv n p=.file):(X.write a n p at_ b).ct a n p=Abs.splice (X.ct a n p) at_ b:=by
 unfold Abs.write
 split
 ·rename_i k
  rw[zjd (X:=X) (h k),zjd (X:=X.za1 (za.keyF a p) (Abs.splice (X.file (za.keyF a p)) at_ b)) (h k)]
  exact if_pos rfl
 ·exact zjc (X:=X.Qv n p (.own (Abs.splice (X.ct a n p) at_ b))) (if_pos ⟨rfl,rfl⟩)
theorem J2(h:q≠p):(X.write a n p at_ b).ct a n q=X.ct a n q:=by
 unfold Abs.write
 split
 ·refine zef (Y:=X.za1 (za.keyF a p) (Abs.splice (X.file (za.keyF a p)) at_ b)) rfl (if_neg fun z=>?_)
  unfold za.keyF at z
  rw[Prod.mk.injEq]at z
  omega
 ·exact zef (Y:=X.Qv n p (.own (Abs.splice (X.ct a n p) at_ b))) (if_neg fun z=>h z.2) rfl
theorem Qu(l b:List UInt8)(at_:Nat)(h:at_+b.length≤l.length):((Abs.splice l at_ b).drop at_).take b.length=b:=by
 unfold Abs.splice
 rw[List.drop_left' (by rw[List.length_take];omega),List.take_left' rfl]
theorem zad(l b:List UInt8)(at_:Nat)(h:at_+b.length≤l.length):(Abs.splice l at_ b).length=l.length:=by
 unfold Abs.splice
 simp only[List.length_append,List.length_take,List.length_drop]
 omega
end
def Abs.st(X:Abs)(a:Ar)(n a0:Nat)(l:List UInt8):Abs:=
 if a0%64+l.length≤64 then(X.own a n (a0/64)).write a n (a0/64) (a0%64) l
 else(((X.own a n (a0/64)).own a n (a0/64+1)).write a n (a0/64) (a0%64) (l.take (64-a0%64))).write a n (a0/64+1) 0 (l.drop (64-a0%64))
structure PgOk(X:Abs)(a:Ar)(n p:Nat):Prop where
 area:X.area n p=some a
 there:X.pv n p≠.lost
 shared:a.kind=2→X.pv n p=.file
 len:(X.ct a n p).length=64
theorem PgOk.can{X:Abs}{a:Ar}{n p:Nat}(h:PgOk X a n p):zbn X n p a:=⟨h.area,h.there⟩
section
variable {X:Abs}{a:Ar}{n p q at_ a0:Nat}{b l:List UInt8}
theorem zdu(h:X.pv n p≠.lost):(X.own a n q).pv n p≠.lost:=by
 unfold Abs.own
 split
 ·exact h
 ·show(if n=n∧p=q then _ else X.pv n p)≠_
  split
  ·intro z;cases z
  ·exact h
theorem Vx(h:X.pv n p=.file)(k:a.kind=2):(X.own a n q).pv n p=.file:=by
 unfold Abs.own
 rw[if_pos k]
 exact h
theorem zaw(h:X.pv n p≠.lost):(X.write a n q at_ b).pv n p≠.lost:=by
 unfold Abs.write
 split
 ·exact h
 ·show(if n=n∧p=q then _ else X.pv n p)≠_
  split
  ·intro z;cases z
  ·exact h
theorem Qp(h:X.pv n p=.file)(k:a.kind=2):(X.write a n q at_ b).pv n p=.file:=by
 unfold Abs.write
 rw[if_pos k]
 exact h
theorem PgOk.own(h:PgOk X a n p)(q:Nat):PgOk (X.own a n q) a n p:=
 ⟨by rw[zjo (ze4 X a n q)];exact h.area,zdu h.there,fun k=>Vx (h.shared k) k,by rw[Vn];exact h.len⟩
theorem PgOk.write(h:PgOk X a n p)(hq:q=p→at_+b.length≤64):PgOk (X.write a n q at_ b) a n p:=by
 refine⟨by rw[zjo (zg1 X a n q at_ b)];exact h.area,zaw h.there,fun k=>Qp (h.shared k) k,?_⟩
 by_cases e:p=q
 ·subst e
  rw[Y2 h.shared,zad _ _ _ (by rw[h.len];exact hq rfl)]
  exact h.len
 ·rw[J2 e];exact h.len
theorem PgOk.st(h:PgOk X a n p)(hl:l.length≤64):PgOk (X.st a n a0 l) a n p:=by
 unfold Abs.st
 split
 ·exact(h.own _).write fun _=>by omega
 ·refine(((h.own _).own _).write fun _=>?_).write fun _=>?_
  ·rw[List.length_take];omega
  ·rw[List.length_drop];omega
end
structure AtQ(w0:World)(V:List (Value×List Value))(q:Sq)(x:za)(w:World):Prop where
 st:∃tag,zb w tag q x∧(∀b,b<w0.heap.size→tag b=0)∧(∀p∈V,SlRd w 1 p.1 p.2.length p.2∧∀b,p.1.ownBlock=some b→tag b=0)
 bel:Below w0.heap.size w0 w
section
variable {w0 w w':World}{V:List (Value×List Value)}{q:Sq}{x:za}{C:Nat→Prop}
theorem AtQ.go(h:AtQ w0 V q x w)(hC:¬C 0){F:Nat}{args:Array Value}{P:Ending→Prop}{y:za}
  (k:∀tag,zb w tag q x→Calls Tryz.prog F args w fun e w'=>P e∧∃tag',zb w' tag' q y∧Step C tag w tag' w'):Calls Tryz.prog F args w fun e w'=>P e∧AtQ w0 V q y w':=by
 obtain⟨⟨tag,hS,low,hV⟩,hb⟩:=h
 refine(k tag hS).mono ?_
 rintro e w1 ⟨he,tag1,h1,s1⟩
 obtain⟨a,b,c⟩:=Yj hC s1 hb low hV
 exact⟨he,⟨tag1,h1,a,b⟩,c⟩
theorem AtQ.below(h:AtQ w0 V q x w)(hb:Below w.heap.size w w'):AtQ w0 V q x w':=by
 obtain⟨⟨tag,hS,low,hV⟩,hbel⟩:=h
 have s:Step (fun _=>False) tag w (retag tag w 0) w':=Step.anew hb
 obtain⟨a,b,c⟩:=Yj (C:=fun _=>False) (fun h=>h) s hbel low hV
 exact⟨⟨_,hS.step s,a,b⟩,c⟩
theorem AtQ.cells(h:AtQ w0 V q x w)(hb:Below w.heap.size w w'){v:Value}{l:List Value}(hv:SlRd w' 1 v l.length l)(ho:∀b,v.ownBlock=some b→b<w0.heap.size∨w.heap.size≤b):AtQ w0 ((v,l)::V) q x w':=by
 obtain⟨⟨tag,hS,low,hV⟩,hbel⟩:=h
 have s:Step (fun _=>False) tag w (retag tag w 0) w':=Step.anew hb
 obtain⟨a,b,c⟩:=Yj (C:=fun _=>False) (fun h=>h) s hbel low hV
 refine⟨⟨_,hS.step s,a,fun p hp=>?_⟩,c⟩
 rcases List.mem_cons.1 hp with rfl|hp
 ·refine⟨hv,fun b hb=>?_⟩
  rcases ho b hb with k|k
  ·exact a b k
  ·exact yc _ _ _ _ k
 ·exact b p hp
theorem AtQ.more(h:AtQ w0 V q x w)(hb:Below w.heap.size w w'){v:Value}{l:List UInt8}(hv:BRd w' v l)(ho:∀b,v.ownBlock=some b→b<w0.heap.size∨w.heap.size≤b):AtQ w0 ((v,bys l)::V) q x w':=h.cells hb (zc0.1 hv) ho
theorem AtQ.kept(h:AtQ w0 V q x w){p:Value×List Value}(hp:p∈V):SlRd w 1 p.1 p.2.length p.2:=by
 obtain⟨⟨tag,hS,low,hV⟩,hbel⟩:=h
 exact(hV p hp).1
theorem AtQ.get(h:AtQ w0 V q x w){v:Value}{l:List UInt8}(hp:(v,bys l)∈V):BRd w v l:=zc0.2 (h.kept hp)
theorem AtQ.arg(h:AtQ w0 V q x w){v:Value}{l:List UInt8}(hv:BRd w0 v l):Has w0 V w v l:=.inr ⟨SlRd.below hv h.bel,fun b hb=>SlRd.lt hv b hb⟩
theorem AtQ.cell(h:AtQ w0 V q x w){i:Nat}(hi:i<7):w.cell? ⟨q.sp,i,none⟩=some (Z8 q i):=by
 obtain⟨⟨tag,hS,_⟩,_⟩:=h
 exact hS.row.cell hi
theorem AtQ.load(h:AtQ w0 V q x w)(ok:Ok0 x){n:Nat}(hn:n<8)(hs:(x.T n).isSome=true)(a s:Int):
  Calls Tryz.prog 20 #[ptrV q.sp,.int .i64 n,.int .i64 a,.int .i64 s] w fun e w'=>∃v,e=.returned (.tuple #[v,.int .i64 (x.Ve n a s).1.2])∧AtQ w0 ((v,bys (x.Ve n a s).1.1)::V) q (x.Ve n a s).2 w':=by
 obtain⟨⟨tag,hS,low,hV⟩,hbel⟩:=h
 refine(At.load' hS ok hn hs a s).mono ?_
 rintro e w1 ⟨v,tag1,rfl,hv,ho,hS1,s1⟩
 obtain⟨a1,b1,c1⟩:=Yj CB0 s1 hbel low hV
 refine⟨v,rfl,⟨tag1,hS1,a1,fun p hp=>?_⟩,c1⟩
 rcases List.mem_cons.1 hp with rfl|hp
 ·exact⟨zc0.1 (SlAt.rd hv),ho⟩
 ·exact b1 p hp
theorem AtQ.store(h:AtQ w0 V q x w)(ok:Ok0 x){n:Nat}(hn:n<8)(hs:(x.T n).isSome=true)(a:Nat){v:Value}{l:List UInt8}(hv:Has w0 V w v l)(hr:x.qw n a l.length=0):
  Calls Tryz.prog 19 #[ptrV q.sp,.int .i64 n,.int .i64 a,v] w fun e w'=>e=.returned (.int .i64 (x.Yi n a l).1)∧AtQ w0 V q (x.Yi n a l).2 w':=by
 obtain⟨⟨tag,hS,low,hV⟩,hbel⟩:=h
 obtain⟨h1,h2⟩:=zn2 hv low hV
 refine(At.store' hS ok hn hs a h1 h2 hr).mono ?_
 rintro e w1 ⟨rfl,tag1,hS1,s1⟩
 obtain⟨a1,b1,c1⟩:=Yj CB0 s1 hbel low hV
 exact⟨rfl,⟨tag1,hS1,a1,b1⟩,c1⟩
theorem AtQ.tree(h:AtQ w0 V q x w)(wf:WF x)(n:Nat)(hn:n<8)(hs:(x.T n).isSome=true):
  Calls Tryz.prog 34 #[ptrV q.sp,.int .i64 n] w (fun e w'=>e=.returned (ptrV (q.U n).tp)∧w'=w)∧
   ∀w1,Below w.heap.size w w1→∀page:Nat,page<4096→Calls Tryz.prog 35 #[ptrV (q.U n).tp,.int .i64 page] w1 fun e w2=>e=.returned (.tuple #[entV (x.ent n page),.int .i64 0])∧Below w1.heap.size w1 w2:=by
 obtain⟨⟨tag,hS,_⟩,_⟩:=h
 obtain⟨pr,hp⟩:=Option.isSome_iff_exists.1 hs
 exact⟨zfr hS n hn hp,fun w1 hb page hpg=>zj7 (hS.below hb) wf n page hn hp hpg⟩
end
def vw:Nat→zk
 | 0=>zk.none.on 0 2 32
 | k+1=>(vw k).on (1+k) 3 32
theorem Xh(m f:Nat):(vw m).use f=if f<32*(1+m)then 1 else 0:=by
 induction m with
 | zero=>
  show(if 32*0≤f∧f<32*0+32 then(if(0:Nat)=6 then 6 else 1)else 0)=_
  by_cases h:f<32*(1+0)
  ·rw[if_pos h,if_pos (by omega)];rfl
  ·rw[if_neg h,if_neg (by omega)]
 | succ k ih=>
  show(if 32*(1+k)≤f∧f<32*(1+k)+32 then(if(vw k).use f=6 then 6 else 1)else(vw k).use f)=_
  rw[ih]
  by_cases h1:f<32*(1+k)
  ·rw[if_pos h1,if_neg (by omega),if_pos (by omega)]
  ·rw[if_neg h1]
   by_cases h2:f<32*(1+(k+1))
   ·rw[if_pos (by omega),if_pos h2];rfl
   ·rw[if_neg (by omega),if_neg h2]
theorem jv(m s:Nat):(vw m).zone s=(if s=0 then 2 else if s<1+m then 3 else 0)∧(vw m).iso s=false:=by
 induction m with
 | zero=>
  refine⟨?_,?_⟩
  ·show(if s=0 then 2 else 0)=_
   by_cases h:s=0
   ·rw[if_pos h,if_pos h]
   ·rw[if_neg h,if_neg h,if_neg (by omega)]
  ·show(if s=0 then false else false)=false
   split<;>rfl
 | succ k ih=>
  refine⟨?_,?_⟩
  ·show(if s=1+k then 3 else(vw k).zone s)=_
   rw[ih.1]
   by_cases h1:s=1+k
   ·rw[if_pos h1,if_neg (by omega),if_pos (by omega)]
   ·rw[if_neg h1]
    by_cases h0:s=0
    ·rw[if_pos h0,if_pos h0]
    ·rw[if_neg h0,if_neg h0]
     by_cases h2:s<1+k
     ·rw[if_pos h2,if_pos (by omega)]
     ·rw[if_neg h2,if_neg (by omega)]
  ·show(if s=1+k then false else(vw k).iso s)=_
   rw[ih.2];split<;>rfl
theorem Uj(m:Nat):32≤(vw m).room:=by
 unfold zk.room
 have:=zcy 32 1024 (by omega)
 refine Nat.le_trans (Nat.le_of_eq this.symm) ?_
 refine List.countP_mono_left fun f hf h=>?_
 have h:f<32:=by simpa using h
 unfold zk.Y3
 have z:=jv m (f/32)
 rw[Xh m f,if_pos (by omega),z.1,z.2,if_pos (by omega)]
 decide
def arO:Ar:=⟨0,8,true,1,0,0⟩
def arS:Ar:=⟨8,8,true,2,0,0⟩
def arP:Ar:=⟨16,8,true,3,0,4⟩
theorem xw:(arO.yo∧arO.Wf)∧(arS.yo∧arS.Wf)∧(arP.yo∧arP.Wf):=
 ⟨⟨by decide,by unfold Ar.Wf;decide⟩,⟨by decide,by unfold Ar.Wf;decide⟩,⟨by decide,by unfold Ar.Wf;decide⟩⟩
theorem xq:insA [arO] arS=[arO,arS]∧insA [arO,arS] arP=[arO,arS,arP]∧anyA arO []=false∧anyA arS [arO]=false∧anyA arP [arO,arS]=false  :=by
 refine⟨rfl,rfl,rfl,?_,?_⟩<;>unfold anyA Vz<;>simp[arO,arS,arP,wrap64]
def absK(D:zx):Abs:=((((Abs.start (fun k=>if Zc k then D.cur (za.uh k)else []) D.cur).spawn 0).map 0 arO [arO]).map 0 arS [arO,arS]).map 0 arP [arO,arS,arP]
structure StK(m:Nat)(D:zx)(x:za):Prop where
 ok:Ok0 x
 abs:x.abs=absK D
 use:∀f,x.P.use f=if f<32*(1+m)then(if f<32∧x.P.use f=2 then 2 else 1)else 0
 zone:x.P.zone=(vw m).zone∧x.P.iso=(vw m).iso
 room:31≤x.P.room
 disk:x.D=D
 cache:x.CL=[]∧x.CR=[]
 back:∀f,x.B f=[]
 slots:∀k,x.S.getD k []=[]
 proc:∃T,x.T 0=some ⟨T,[arO,arS,arP],[]⟩
 none:∀n,n≠0→x.T n=none
 ents:∀n pg,n<8→pg<4096→(x.ent n pg).kind=0
theorem zhn(k n:Nat):(List.replicate n ([]:List (Int×Int))).getD k []=[]:=by
 rw[List.getD_eq_getElem?_getD,List.getElem?_replicate]
 split<;>rfl
structure StI(m:Nat)(D:zx)(A:List Ar)(X:Abs)(x:za):Prop where
 ok:Ok0 x
 abs:x.abs=X
 use:∀f,x.P.use f=if f<32*(1+m)then(if f<32∧x.P.use f=2 then 2 else 1)else 0
 zone:x.P.zone=(vw m).zone∧x.P.iso=(vw m).iso
 room:31≤x.P.room
 disk:x.D=D
 cache:x.CL=[]∧x.CR=[]
 back:∀f,x.B f=[]
 slots:∀k,x.S.getD k []=[]
 proc:∃T,x.T 0=some ⟨T,A,[]⟩
 none:∀n,n≠0→x.T n=none
theorem ze5{P:zk}(h:0<P.room):∃g,P.next false=some g:=by
 cases hn:P.next false with
 | some g=>exact⟨g,rfl⟩
 | none=>have:=Q9 hn;omega
theorem StI.start{m:Nat}{D:zx}(hD:∀s,s<192→(D.cur s).length=64){g:Nat}(hg:(vw m).next false=some g):StI m D [] ((Abs.start (fun k=>if Zc k then D.cur (za.uh k)else []) D.cur).spawn 0) ((za.start RamS.none (vw m) D).qz 0 g):=by
 have ok0:=zaz (vw m) D (fun f=>by rw[Xh];split<;>omega) hD
 have hg':(za.start RamS.none (vw m) D).P.next false=some g:=hg
 obtain⟨k1,k2,k3,k4⟩:=ok0.spawn (n:=0) (by omega) rfl hg'
 obtain⟨hg1,hav,hgu⟩:=Yq hg
 have hg32:g<32:=by
  have h0:(vw m).zone (g/32)=2:=by
   unfold zk.Y3 at hav
   simp only[decide_eq_true_eq]at hav
   exact hav.2.1
  rw[(jv m (g/32)).1]at h0
  by_cases e:g/32=0
  ·omega
  ·rw[if_neg e]at h0;split at h0<;>omega
 have hu:∀f,((za.start RamS.none (vw m) D).qz 0 g).P.use f=if f=g then 2 else(vw m).use f:=fun _=>rfl
 refine⟨k1,by rw[k2,zhb],fun f=>?_,⟨rfl,rfl⟩,?_,k4,⟨rfl,rfl⟩,fun _=>rfl,fun k=>zhn k 32,⟨⟨g,[g]⟩,rfl⟩,fun n hn=>if_neg hn⟩
 ·rw[hu,Xh]
  by_cases e:f=g
  ·rw[if_pos e,if_pos (by omega),if_pos ⟨by omega,rfl⟩]
  ·rw[if_neg e]
   by_cases h:f<32*(1+m)
   ·rw[if_pos h,if_pos h,if_neg (by omega)]
   ·rw[if_neg h,if_neg h]
 ·have:=Uj m
  have k3:(vw m).room≤_:=k3
  omega
theorem StI.map{m:Nat}{D:zx}{A:List Ar}{X:Abs}{x:za}(h:StI m D A X x){T:Z7}(hT:x.T 0=some ⟨T,A,[]⟩){a:Ar}(ha:a.yo)(hno:anyA a A=false)(hlen:A.length<16)(hperm:(insA A a).Perm (A++[a]))(hsort:(insA A a).Pairwise fun x y=>¬y.from_<x.from_):
  StI m D (insA A a) (X.map 0 a (insA A a)) (x.put 0 ⟨T,insA A a,[]⟩):=by
 obtain⟨k1,k2⟩:=h.ok.map hT ha hno hlen hperm hsort
 refine⟨k1,by rw[k2,h.abs],h.use,h.zone,h.room,h.disk,h.cache,h.back,h.slots,⟨T,by simp[za.put]⟩,fun n hn=>?_⟩
 show(if n=0 then _ else x.T n)=Option.none
 rw[if_neg hn]
 exact h.none n hn
theorem StI.done{m:Nat}{D:zx}{x:za}(h:StI m D [arO,arS,arP] (absK D) x):StK m D x:=by
 refine⟨h.ok,h.abs,h.use,h.zone,h.room,h.disk,h.cache,h.back,h.slots,h.proc,h.none,fun n pg hn hp=>?_⟩
 have hk:(x.ent n pg).kind≤3:=by
  have:=h.ok.ok.wf.Y8 n hp
  unfold Ent.ok at this
  simp only[Bool.and_eq_true,decide_eq_true_eq]at this
  exact this.1.1
 by_cases e0:(x.ent n pg).kind=0
 ·exact e0
 by_cases e1:(x.ent n pg).kind=1
 ·obtain⟨f,q1,q2,q3,_⟩:=h.ok.ok.frame hn hp e1
  rw[h.back]at q3;cases q3
 by_cases e2:(x.ent n pg).kind=2
 ·have hr:=(Ent.ok_n (h.ok.ok.wf.Y8 n hp)).2 e2
  have:=(h.ok.ok.slotE (x.ent n pg).n.toNat n pg (by omega) hn hp).2 ⟨e2,by omega⟩
  rw[h.slots]at this;cases this
 have e3:(x.ent n pg).kind=3:=by omega
 exfalso
 cases hT:x.T n with
 | none=>rw[Ym hT]at e0;exact e0 rfl
 | some pr=>
  obtain⟨a,ha⟩:=(h.ok.ok.area n pr pg hT hp).find e0
  have hpv:=Yx hT ha
  unfold za.pv1 at hpv
  rw[if_pos e3]at hpv
  have hab:x.abs.pv n pg=.lost:=by
   show(if pg<4096 then x.pv n pg else .none)=_
   rw[if_pos hp,hpv]
  rw[h.abs]at hab
  unfold absK at hab
  rw[Abs.zaj]at hab
  split at hab
  ·unfold Jy at hab;split at hab<;>cases hab
  ·rw[Abs.zaj]at hab
   split at hab
   ·unfold Jy at hab;split at hab<;>cases hab
   ·rw[Abs.zaj]at hab
    split at hab
    ·unfold Jy at hab;split at hab<;>cases hab
    ·cases hab
theorem Xt(s:Nat):(zx.none.cur s).length=64:=by simp[zx.none,zx.cur]
end Go.Proofs.YtnhdmnijiphjjaaGreat
