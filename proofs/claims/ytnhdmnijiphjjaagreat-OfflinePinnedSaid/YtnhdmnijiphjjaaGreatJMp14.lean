/- Processes: first: a page of its own that has nothing. -/
import Derived.Test.YtnhdmnijiphjjaaGreatJMp11
import Derived.Test.YtnhdmnijiphjjaaGreatJMp13
import Derived.Test.YtnhdmnijiphjjaaGreatJMp9
import Derived.Test.YtnhdmnijiphjjaaGreatJMp10
set_option linter.unusedVariables false
set_option linter.unusedSimpArgs false
set_option maxRecDepth 100000
set_option maxHeartbeats 2000000
namespace Go.Proofs.YtnhdmnijiphjjaaGreat
open Go Go.RowKit
section
variable {w w':World}{tag tag':Nat→Nat}{q:Sq}{x:za}
def za.Xo(x:za)(f u:Nat):za:={x with P:=x.P.set f u,R:=x.R.write f 0 (List.replicate 64 0)}
end
def OkL(l:List Ar):Prop:=(∀a∈l,a.yo)∧l.Pairwise fun x y=>x.from_+x.pages≤y.from_
theorem OkL.tail{x:Ar}{l:List Ar}(h:OkL (x::l)):OkL l:=⟨fun a ha=>h.1 a (by simp[ha]),(List.pairwise_cons.1 h.2).2⟩
theorem OkL.head{x:Ar}{l:List Ar}(h:OkL (x::l)):∀y∈l,x.from_+x.pages≤y.from_:=(List.pairwise_cons.1 h.2).1
def insA(l:List Ar)(a:Ar):List Ar:=l.takeWhile (fun x=>decide (x.from_<a.from_))++a::l.dropWhile (fun x=>decide (x.from_<a.from_))
theorem zgb{A B:List Ar}{a:Ar}(hA:∀x∈A,x.from_<a.from_)(hB:∀x,B.head? = some x→a.from_≤x.from_):insA (A++B) a=A++a::B:=by
 unfold insA
 have h1:∀x∈A,decide (x.from_<a.from_)=true:=fun x hx=>by simpa using hA x hx
 rw[List.takeWhile_append_of_pos h1,List.dropWhile_append_of_pos h1]
 cases B with
 | nil=>simp
 | cons b B=>
  have:=hB b rfl
  rw[List.takeWhile_cons,List.dropWhile_cons,if_neg (by simpa using this),if_neg (by simpa using this)]
  simp
theorem zim{l:List Ar}{a:Ar}{k:Nat}(hk:k≤l.length)(h1:∀(j:Nat) (x:Ar),j<k→l[j]?=some x→x.from_<a.from_)(h2:∀x,l[k]?=some x→a.from_≤x.from_):insA l a=l.take k++a::l.drop k:=by
 have:=zgb (A:=l.take k) (B:=l.drop k) (a:=a) (fun x hx=>by
  obtain⟨j,hj,rfl⟩:=List.getElem_of_mem hx
  rw[List.length_take]at hj
  exact h1 j _ (by omega) (by rw[List.getElem_take];exact List.getElem?_eq_getElem (by omega))) (fun x hx=>h2 x (by rw[List.head?_drop]at hx;exact hx))
 rwa[List.take_append_drop]at this
theorem Uy{x:Int}(h:-9223372036854775808≤x∧x≤9223372036854775807):wrap64 x=x:=by
 unfold wrap64
 omega
theorem zai{a x:Ar}(ha:a.yo)(hx:x.yo):Vz a x=true↔a.from_<x.from_+x.pages∧x.from_<a.from_+a.pages:=by
 obtain⟨_,_,a3,a4,a5,a6,_⟩:=ha
 obtain⟨_,_,x3,x4,x5,x6,_⟩:=hx
 unfold Vz
 rw[Uy (by omega),Uy (by omega)]
 simp
theorem zck(x:Ar)(l:List Ar)(a:Ar):insA (x::l) a=if x.from_<a.from_ then x::insA l a else a::x::l:=by
 unfold insA
 rw[List.takeWhile_cons,List.dropWhile_cons]
 by_cases h:x.from_<a.from_
 ·simp[h]
 ·simp[h]
theorem zcj(l:List Ar)(a:Ar):(insA l a).Perm (a::l):=by
 induction l with
 | nil=>simp[insA]
 | cons x l ih=>
  rw[zck]
  split
  ·exact(List.Perm.cons x ih).trans (List.Perm.swap a x l)
  ·exact List.Perm.refl _
theorem ze9{l:List Ar}{a y:Ar}:y∈insA l a↔y=a∨y∈l:=by rw[(zcj l a).mem_iff];simp
theorem Jd{l:List Ar}{a:Ar}(h:l.Pairwise fun x y=>x.from_<y.from_)(hn:∀x∈l,x.from_≠a.from_):(insA l a).Pairwise fun x y=>x.from_<y.from_:=by
 induction l with
 | nil=>simp[insA]
 | cons x l ih=>
  have⟨h1,h2⟩:=List.pairwise_cons.1 h
  have ih:=ih h2 (fun y hy=>hn y (by simp[hy]))
  have hx:=hn x (by simp)
  rw[zck]
  split
  ·rename_i hlt
   refine List.pairwise_cons.2 ⟨fun y hy=>?_,ih⟩
   rcases ze9.1 hy with rfl|hy
   ·exact hlt
   ·exact h1 y hy
  ·rename_i hlt
   refine List.pairwise_cons.2 ⟨fun y hy=>?_,h⟩
   rcases List.mem_cons.1 hy with rfl|hy
   ·omega
   ·have:=h1 y hy;omega
theorem zd5{l l':List Ar}(h:l.Pairwise fun x y=>x.from_<y.from_)(h':l'.Pairwise fun x y=>x.from_<y.from_)(hp:l'.Perm l):l'=l:=by
 refine List.Perm.eq_of_pairwise (le:=fun x y=>x.from_<y.from_) ?_ h' h hp
 intro a b _ _ h1 h2
 exact absurd h1 (by omega)
theorem zjt{l l':List Ar}{a:Ar}(h:OkL l)(ha:a.yo)(hn:anyA a l=false)(hp:l'.Perm (l++[a]))(hs:l'.Pairwise fun x y=>¬y.from_<x.from_):l'=insA l a:=by
 have hlt:l.Pairwise fun x y=>x.from_<y.from_:=by
  have hh:=h.1
  refine List.Pairwise.imp_of_mem (fun {x y} hx _ hxy=>?_) h.2
  have:=(hh x hx).2.2.2.1
  omega
 have hne:∀x∈l,x.from_≠a.from_:=fun x hx e=>by
  unfold anyA at hn
  rw[List.any_eq_false]at hn
  refine hn x hx ((zai ha (h.1 x hx)).2 ?_)
  have:=(h.1 x hx).2.2.2.1
  have:=ha.2.2.2.1
  omega
 have hsi:=Jd hlt hne
 have hpp:l'.Perm (insA l a):=hp.trans ((List.perm_append_singleton a l).trans (zcj l a).symm)
 refine zd5 hsi ?_ hpp
 have hnd:l'.Pairwise fun x y=>x.from_≠y.from_:=by
  have h1:(insA l a).Pairwise fun x y=>x.from_≠y.from_:=hsi.imp fun {x y} h=>by omega
  exact(hpp.pairwise_iff (fun {x y} h=>Ne.symm h)).2 h1
 exact(hs.and hnd).imp fun {x y} ⟨h1,h2⟩=>by omega
def Ar.Has(a:Ar)(p:Int):Prop:=a.from_≤p∧p-a.from_<a.pages
theorem Yt(a:Ar)(l:List Ar)(p:Int):yh (a::l) p=if a.from_≤p∧p-a.from_<a.pages then some a else yh l p:=by
 unfold yh
 rw[List.find?_cons]
 by_cases h:a.from_≤p∧p-a.from_<a.pages
 ·rw[decide_eq_true h,if_pos h]
 ·rw[decide_eq_false h,if_neg h]
structure SameP(a b:Ar)(wr:Bool):Prop where
 kind:a.kind=b.kind
 file:a.file=b.file
 write:b.write=wr
 off:a.kind=1∨a.off-a.from_=b.off-b.from_
def InR(p:Int×Int):Prop:=0≤p.1∧p.1<8∧0≤p.2∧p.2<4096
def plc(n page:Nat):Int×Int:=((n:Int),(page:Int))
theorem plc_in{n page:Nat}(h1:n<8)(h2:page<4096):InR (plc n page):=⟨by unfold plc;omega,by unfold plc;omega,by unfold plc;dsimp only;omega,by unfold plc;dsimp only;omega⟩
theorem InR.plc{p:Int×Int}(h:InR p):p=Go.Proofs.YtnhdmnijiphjjaaGreat.plc p.1.toNat p.2.toNat∧p.1.toNat<8∧p.2.toNat<4096:=by
 obtain⟨a,b⟩:=p
 unfold InR at h
 dsimp only at h
 unfold Go.Proofs.YtnhdmnijiphjjaaGreat.plc
 refine⟨Prod.ext ?_ ?_,?_,?_⟩<;>dsimp only<;>omega
theorem Xi{n m a b:Nat}:plc n a=plc m b↔n=m∧a=b:=by
 unfold plc
 rw[Prod.mk.injEq]
 omega
theorem Zo{l:List (Int×Int)}(hs:y9 l)(hr:∀p∈l,InR p):l.length≤32768:=by
 have h1:(l.map fun p=>p.1.toNat*4096+p.2.toNat).Nodup:=by
  unfold List.Nodup
  rw[List.pairwise_map]
  refine List.Pairwise.imp_of_mem (fun {a b} ha hb hne=>?_) hs.nodup
  intro e
  obtain⟨a1,a2,a3⟩:=(hr a ha).plc
  obtain⟨b1,b2,b3⟩:=(hr b hb).plc
  refine hne ?_
  rw[a1,b1,Xi]
  omega
 have:=Q8 32768 _ h1 fun f hf=>by
  obtain⟨p,hp,rfl⟩:=List.mem_map.1 hf
  obtain⟨_,a2,a3⟩:=(hr p hp).plc
  omega
 simpa using this
section
variable {κ ν:Type}[DecidableEq κ]
theorem ze7{l:List (κ×ν)}{k:κ}:k∈l.map (·.1)↔(getL l k).isSome=true:=by
 induction l with
 | nil=>simp[getL]
 | cons x l ih=>
  simp only[List.map_cons,List.mem_cons,getL]
  by_cases e:k=x.1
  ·simp[e]
  ·simp[e,ih]
theorem zci{l:List (κ×ν)}(h:(l.map (·.1)).Nodup)(k:κ):((delL l k).map (·.1)).Nodup:=by
 induction l with
 | nil=>simp[delL]
 | cons x l ih=>
  obtain⟨h1,h2⟩:=List.nodup_cons.1 h
  simp only[delL]
  split
  ·exact h2
  ·simp only[List.map_cons]
   refine List.nodup_cons.2 ⟨fun hm=>?_,ih h2⟩
   rw[ze7,Yc h2]at hm
   split at hm
   ·cases hm
   ·exact h1 (ze7.2 hm)
end
def za.owns(x:za)(n f:Nat):Prop:=∃pr,x.T n=some pr∧f∈pr.T.own
instance (x:za)(n f:Nat):Decidable (x.owns n f):=
 match h:x.T n with
 | none=>isFalse fun⟨_,e,_⟩=>by rw[h]at e;cases e
 | some pr=>decidable_of_iff (f∈pr.T.own) ⟨fun hf=>⟨pr,h,hf⟩,fun⟨_,e,hf⟩=>by rw[h]at e;cases e;exact hf⟩
def za.ent(x:za)(n page:Nat):Ent:=match x.T n with|some pr=>(jr x.R pr.T page).1|none=>Ent.none
structure WF(x:za):Prop where
 rpt:∀n pr,x.T n=some pr→∃N,xm ⟨x.R,x.P,pr.T⟩ N
 apart:∀n m f,x.owns n f→x.owns m f→n=m
 Yh:∀n pr,x.T n=some pr→OkL pr.A∧pr.A.length≤16
 back:∀f,y9 (x.B f)∧∀p∈x.B f,InR p
 slots:x.S.length=32∧∀l∈x.S,y9 l∧∀p∈l,InR p
 bad:∀f,f<1024→x.R.bad f=true→x.P.use f=6
 keys:∀k v,getL x.CL k=some v→0≤v.1∧v.1<1024
 secs:∀s,s<192→(x.D.cur s).length=64
 nd:(x.CL.map (·.1)).Nodup∧(x.CR.map (·.1)).Nodup
section
variable {R R':RamS}{P P':zk}{T:Z7}{N:List Nat→Option Nat}
theorem zb1{f a k:Nat}(h:∀i,R'.b f i=R.b f i):R'.read f a k=R.read f a k:=by
 unfold RamS.read
 exact List.map_congr_left fun i _=>h _
theorem vk.same(h:vk R T N)(hb:∀f∈T.own,R'.bad f=R.bad f)(hy:∀f∈T.own,∀i,R'.b f i=R.b f i):vk R' T N:=by
 have o:∀p g,N p=some g→g∈T.own:=fun p g hp=>(h.own g).2 ⟨p,hp⟩
 have e:∀p g d,N p=some g→wordAt R' g d=wordAt R g d:=fun p g d hp=>by unfold wordAt;rw[zb1 (hy g (o p g hp))]
 exact⟨h.root,fun p f hp=>by have:=h.lt p f hp;rw[hb f (o p f hp)];exact this,h.inj,h.own,h.nd,fun p g d hp h1 h2=>by rw[e p g d hp];exact h.kid p g d hp h1 h2,h.par,fun p g d hp h1 h2=>by rw[e p g d hp];exact h.leaf p g d hp h1 h2⟩
theorem zak(h:vk R T N)(hy:∀f∈T.own,∀i,R'.b f i=R.b f i)(page:Nat):mapOf R' N page=mapOf R N page:=by
 unfold mapOf
 cases hp:N (high page)with
 | none=>rfl
 | some g=>
  have e:wordAt R' g (digit page 3)=wordAt R g (digit page 3):=by unfold wordAt;rw[zb1 (hy g ((h.own g).2 ⟨_,hp⟩))]
  dsimp only
  rw[e]
theorem xm.same(h:xm ⟨R,P,T⟩ N)(hb:∀f∈T.own,R'.bad f=R.bad f)(hy:∀f∈T.own,∀i,R'.b f i=R.b f i)(hu:∀f∈T.own,P'.use f=2)(hg:∀f,f<1024→P'.use f=1→R'.bad f=false):xm ⟨R',P',T⟩ N:=
 ⟨h.tree.same hb hy,hu,hg⟩
theorem U0(h:vk R T N)(hb:∀f∈T.own,R'.bad f=R.bad f)(hy:∀f∈T.own,∀i,R'.b f i=R.b f i){page:Nat}(hp:page<4096):jr R' T page=jr R T page:=by
 rw[h.get page hp,(h.same hb hy).get page hp,zak h hy]
end
section
variable {x y:za}
theorem WF.get(h:WF x){n:Nat}{pr:yj}(hp:x.T n=some pr){page:Nat}(hpg:page<4096):jr x.R pr.T page=(x.ent n page,0):=by
 obtain⟨N,ok⟩:=h.rpt n pr hp
 unfold za.ent
 rw[hp]
 have:=ok.tree.get page hpg
 dsimp only at this⊢
 rw[this]
theorem zku{R:RamS}{T:Z7}{N:List Nat→Option Nat}(h:vk R T N)(page:Nat):(mapOf R N page).ok=true:=by
 unfold mapOf
 cases hp:N (high page)with
 | none=>rfl
 | some g=>
  obtain⟨e,he,hw⟩:=h.leaf _ g (digit page 3) hp (by simp[high]) (yg _ _)
  dsimp only
  rw[hw,Xq he]
  exact he
theorem WF.Vm(h:WF x){n:Nat}{pr:yj}(hp:x.T n=some pr){N:List Nat→Option Nat}(ok:xm ⟨x.R,x.P,pr.T⟩ N){page:Nat}(hpg:page<4096):x.ent n page=mapOf x.R N page:=by
 unfold za.ent
 rw[hp]
 have:=ok.tree.get page hpg
 dsimp only at this⊢
 rw[this]
theorem WF.Y8(h:WF x)(n:Nat){page:Nat}(hpg:page<4096):(x.ent n page).ok=true:=by
 cases hp:x.T n with
 | none=>unfold za.ent;rw[hp];rfl
 | some pr=>
  obtain⟨N,ok⟩:=h.rpt n pr hp
  rw[h.Vm hp ok hpg]
  exact zku ok.tree page
theorem WF.xn(h:WF x){n f:Nat}(ho:x.owns n f):f<1024∧x.P.use f=2∧x.R.bad f=false:=by
 obtain⟨pr,hp,hf⟩:=ho
 obtain⟨N,ok⟩:=h.rpt n pr hp
 obtain⟨p,hq⟩:=(ok.tree.own f).1 hf
 exact⟨(ok.tree.lt p f hq).1,ok.tab f hf,(ok.tree.lt p f hq).2.1⟩
theorem WF.lists(h:WF x):zj4 x:=
 ⟨fun f=>⟨(h.back f).1,by have:=Zo (h.back f).1 (h.back f).2;omega⟩,fun l hl=>⟨(h.slots.2 l hl).1,by have:=Zo (h.slots.2 l hl).1 (h.slots.2 l hl).2;omega⟩,h.slots.1⟩
theorem WF.frames(h:WF x)(hT:y.T=x.T)(hB:y.B=x.B)(hS:y.S=x.S)(hC:y.CL=x.CL)(hCR:y.CR=x.CR)(hD:y.D.cur=x.D.cur)
  (hy:∀n f,x.owns n f→y.R.bad f=x.R.bad f∧(∀i,y.R.b f i=x.R.b f i)∧y.P.use f=2) (hbad:∀f,f<1024→y.R.bad f=true→y.P.use f=6):
  WF y∧∀n page,page<4096→y.ent n page=x.ent n page:=by
 refine⟨⟨fun n pr hp=>?_,fun n m f h1 h2=>?_,fun n pr hp=>h.Yh n pr (by rw[←hT];exact hp),fun f=>by rw[hB];exact h.back f,by rw[hS];exact h.slots,hbad,fun k v hk=>h.keys k v (by rw[←hC];exact hk),by rw[hD];exact h.secs,by rw[hC,hCR];exact h.nd⟩,fun n page hpg=>?_⟩
 ·rw[hT]at hp
  obtain⟨N,ok⟩:=h.rpt n pr hp
  refine⟨N,ok.same (fun f hf=>(hy n f ⟨pr,hp,hf⟩).1) (fun f hf=>(hy n f ⟨pr,hp,hf⟩).2.1) (fun f hf=>(hy n f ⟨pr,hp,hf⟩).2.2) fun f hf hu=>?_⟩
  cases hb:y.R.bad f with
  | false=>rfl
  | true=>have:=hbad f hf hb;omega
 ·unfold za.owns at h1 h2
  rw[hT]at h1 h2
  exact h.apart n m f h1 h2
 ·unfold za.ent
  rw[hT]
  cases hp:x.T n with
  | none=>rfl
  | some pr=>
   obtain⟨N,ok⟩:=h.rpt n pr hp
   dsimp only
   rw[U0 ok.tree (fun f hf=>(hy n f ⟨pr,hp,hf⟩).1) (fun f hf=>(hy n f ⟨pr,hp,hf⟩).2.1) hpg]
end
def za.putF(x:za)(n page:Nat)(e:Ent):Int×za:=
 match x.T n with
 | none=>(2,x)
 | some pr=>
  if(jr x.R pr.T page).2≠0 then((jr x.R pr.T page).2,x)else
  if(jr x.R pr.T page).1=e then(0,x)else
  if((⟨x.R,x.P,pr.T⟩:RPT).set page e).1≠0 then(((⟨x.R,x.P,pr.T⟩:RPT).set page e).1,x.xc n pr ((⟨x.R,x.P,pr.T⟩:RPT).set page e).2)else
  (0,((((x.xc n pr ((⟨x.R,x.P,pr.T⟩:RPT).set page e).2).put1 e ((n:Int),(page:Int))).put2 e ((n:Int),(page:Int))).put3 e (jr x.R pr.T page).1 ((n:Int),(page:Int))).put4 e (jr x.R pr.T page).1 ((n:Int),(page:Int)))
section
variable {x y:za}
theorem Zd(x:za)(n:Nat)(pr:yj)(y:RPT)(m:Nat):(x.xc n pr y).T m=if m=n then some ⟨y.T,pr.A,pr.Q⟩else x.T m:=rfl
theorem WF.xc(h:WF x){n:Nat}{pr:yj}(hp:x.T n=some pr){y:RPT}{N':List Nat→Option Nat}(ok:xm y N')(t:Zq ⟨x.R,x.P,pr.T⟩ y):
  WF (x.xc n pr y)∧(∀m page,m≠n→page<4096→(x.xc n pr y).ent m page=x.ent m page)∧∀page,page<4096→(x.xc n pr y).ent n page=mapOf y.R N' page:=by
 have keep:∀m f,m≠n→x.owns m f→y.R.bad f=x.R.bad f∧(∀i,y.R.b f i=x.R.b f i)∧y.P.use f=2:=fun m f hm ho=>by
  have u:=h.xn ho
  have hn:f∉pr.T.own:=fun hf=>hm (h.apart m n f ho ⟨pr,hp,hf⟩)
  have hn':f∉y.T.own:=fun hf=>(t.new f hf).elim hn (fun e=>by have:=u.2.1;dsimp only at e;omega)
  refine⟨by rw[t.bad],fun i=>t.bytes f i (by have:=u.2.1;dsimp only;omega) hn,?_⟩
  rw[t.use,if_neg hn',if_neg hn]
  exact u.2.1
 have owns:∀m f,(x.xc n pr y).owns m f→(m=n∧f∈y.T.own)∨(m≠n∧x.owns m f):=fun m f ho=>by
  obtain⟨pm,hm,hf⟩:=ho
  rw[Zd]at hm
  by_cases e:m=n
  ·rw[if_pos e]at hm
   cases hm
   exact .inl ⟨e,hf⟩
  ·rw[if_neg e]at hm
   exact .inr ⟨e,pm,hm,hf⟩
 have hbad:∀f,f<1024→y.R.bad f=true→y.P.use f=6:=fun f hf hb=>by
  rw[t.bad]at hb
  have u6:=h.bad f hf hb
  have hn:f∉pr.T.own:=fun ho=>by have:=(h.xn ⟨pr,hp,ho⟩).2.1;omega
  have hn':f∉y.T.own:=fun hf=>(t.new f hf).elim hn (fun e=>by dsimp only at e;omega)
  rw[t.use,if_neg hn',if_neg hn]
  exact u6
 refine⟨⟨fun m pm hm=>?_,fun m k f h1 h2=>?_,fun m pm hm=>?_,h.back,h.slots,hbad,h.keys,h.secs,h.nd⟩,fun m page hm hpg=>?_,fun page hpg=>?_⟩
 ·rw[Zd]at hm
  by_cases e:m=n
  ·rw[if_pos e]at hm
   cases hm
   exact⟨N',ok⟩
  ·rw[if_neg e]at hm
   obtain⟨N,k⟩:=h.rpt m pm hm
   refine⟨N,k.same (fun f hf=>(keep m f e ⟨pm,hm,hf⟩).1) (fun f hf=>(keep m f e ⟨pm,hm,hf⟩).2.1) (fun f hf=>(keep m f e ⟨pm,hm,hf⟩).2.2) fun f hf hu=>?_⟩
   cases hb:(x.xc n pr y).R.bad f with
   | false=>rfl
   | true=>
    have:=hbad f hf hb
    have e2:y.P.use f=1:=hu
    omega
 ·rcases owns m f h1 with⟨a,b⟩|⟨a,b⟩<;>rcases owns k f h2 with⟨c,d⟩|⟨c,d⟩
  ·rw[a,c]
  ·rcases t.new f b with e|e
   ·exact absurd (h.apart k n f d ⟨pr,hp,e⟩) c
   ·have:=(h.xn d).2.1;dsimp only at e;omega
  ·rcases t.new f d with e|e
   ·exact absurd (h.apart m n f b ⟨pr,hp,e⟩) a
   ·have:=(h.xn b).2.1;dsimp only at e;omega
  ·exact h.apart m k f b d
 ·rw[Zd]at hm
  by_cases e:m=n
  ·rw[if_pos e]at hm
   cases hm
   exact h.Yh n pr hp
  ·rw[if_neg e]at hm
   exact h.Yh m pm hm
 ·unfold za.ent
  rw[Zd,if_neg hm]
  cases hq:x.T m with
  | none=>rfl
  | some pm=>
   obtain⟨N,k⟩:=h.rpt m pm hq
   have:=U0 k.tree (R':=y.R) (fun f hf=>(keep m f hm ⟨pm,hq,hf⟩).1) (fun f hf=>(keep m f hm ⟨pm,hq,hf⟩).2.1) hpg
   dsimp only
   rw[←this]
   rfl
 ·unfold za.ent
  rw[Zd,if_pos rfl]
  have:=ok.tree.get page hpg
  dsimp only
  have e:(x.xc n pr y).R=y.R:=rfl
  rw[e,this]
theorem znk(L:Int→List (Int×Int)){f g:Int}(l:List (Int×Int))(h:g≠f):updF L f l g=L g:=if_neg h
theorem zcn{α:Type}{p q:Prop}[Decidable p][Decidable q](h:p↔q)(a b:α):(if p then a else b)=if q then a else b:=by
 by_cases k:p
 ·rw[if_pos k,if_pos (h.1 k)]
 ·rw[if_neg k,if_neg fun e=>k (h.2 e)]
theorem y9.Zy{l:List (Int×Int)}(h:y9 l)(p q:Int×Int):q∈l.erase p↔q≠p∧q∈l:=h.nodup.mem_erase_iff
theorem y9.erase{l:List (Int×Int)}(h:y9 l)(p:Int×Int):y9 (l.erase p):=List.Pairwise.sublist List.erase_sublist h
theorem WF.lists'(h:WF x)(hT:y.T=x.T)(hR:y.R=x.R)(hC:y.CL=x.CL)(hCR:y.CR=x.CR)(hD:y.D=x.D)(hP:∀f,(y.P.use f=x.P.use f)∨(x.P.use f=3∧y.P.use f=1))(hB:∀f,y9 (y.B f)∧∀p∈y.B f,InR p)(hS:y.S.length=32∧∀l∈y.S,y9 l∧∀p∈l,InR p):
  WF y∧∀n page,page<4096→y.ent n page=x.ent n page:=by
 have key:WF {x with P:=y.P}∧∀n page,page<4096→za.ent {x with P:=y.P} n page=x.ent n page:=by
  refine h.frames rfl rfl rfl rfl rfl rfl (fun n f ho=>⟨rfl,fun _=>rfl,?_⟩) fun f hf hb=>?_
  ·have u:=(h.xn ho).2.1
   rcases hP f with e|e
   ·show y.P.use f=2
    omega
   ·omega
  ·have u:=h.bad f hf hb
   show y.P.use f=6
   rcases hP f with e|e<;>omega
 obtain⟨k,ke⟩:=key
 refine⟨⟨fun n pr hp=>?_,fun n m f h1 h2=>?_,fun n pr hp=>h.Yh n pr (by rw[←hT];exact hp),hB,hS,fun f hf hb=>k.bad f hf (by rw[hR]at hb;exact hb),fun a v hk=>h.keys a v (by rw[←hC];exact hk),by rw[hD];exact h.secs,by rw[hC,hCR];exact h.nd⟩,fun n page hpg=>?_⟩
 ·rw[hT]at hp
  have:=k.rpt n pr hp
  rw[hR]
  exact this
 ·unfold za.owns at h1 h2
  rw[hT]at h1 h2
  exact h.apart n m f h1 h2
 ·unfold za.ent
  rw[hT,hR]
structure PutD(x:za)(n page:Nat)(pr:yj)(e:Ent)(c:Int)(y:za):Prop where
 wf:WF y
 ent:∀m pg,pg<4096→y.ent m pg=if c=0∧m=n∧pg=page then e else x.ent m pg
 bad:y.R.bad=x.R.bad
 bytes:∀f i,x.P.use f≠1→¬x.owns n f→y.R.b f i=x.R.b f i
 use:∀f,¬x.owns n f→x.P.use f≠1→y.P.use f=if c=0∧(x.ent n page).kind=1∧¬(e.kind=1∧e.n=(x.ent n page).n)∧(f:Int)=(x.ent n page).n∧plc n page∈x.B f∧(x.B f).erase (plc n page)=[]∧x.P.use f=3 then 1 else x.P.use f
 free:∀f,x.owns n f∨x.P.use f=1→y.P.use f=if y.owns n f then 2 else 1
 zone:y.P.zone=x.P.zone
 iso:y.P.iso=x.P.iso
 keep:y.D=x.D∧y.CL=x.CL∧y.CR=x.CR
 oth:∀m,m≠n→y.T m=x.T m
 this:∃T',y.T n=some ⟨T',pr.A,pr.Q⟩
 new:∀f,y.owns n f→x.owns n f∨x.P.use f=1
 memB:∀f q,q∈y.B f↔if c=0∧q=plc n page∧x.ent n page≠e then(e.kind=1∧e.n=f)∨(¬((x.ent n page).kind=1∧(x.ent n page).n=f)∧q∈x.B f)else q∈x.B f
 memS:∀(k:Nat) q,q∈y.S.getD k []↔if c=0∧q=plc n page∧x.ent n page≠e then(e.kind=2∧e.n=k)∨(¬((x.ent n page).kind=2∧(x.ent n page).n=k)∧q∈x.S.getD k [])else q∈x.S.getD k []
 code:c=0∨c=4
 full:c=4→x.P.room<3∧x.ent n page≠e∧e≠Ent.none
 room:x.P.room≤y.P.room+3
 less:(x.ent n page).kind≠0∨e=Ent.none→c=0∧x.P.room≤y.P.room∧∀g,y.owns n g→x.owns n g
end
section
variable (y:za)(e old:Ent)(p:Int×Int)
def za.puts(y:za)(e old:Ent)(p:Int×Int):za:=(((y.put1 e p).put2 e p).put3 e old p).put4 e old p
theorem ze1:(y.put1 e p).T=y.T∧(y.put1 e p).R=y.R∧(y.put1 e p).P=y.P∧(y.put1 e p).D=y.D∧(y.put1 e p).CL=y.CL∧(y.put1 e p).CR=y.CR∧(y.put1 e p).S=y.S:=by
 unfold za.put1;split<;>exact⟨rfl,rfl,rfl,rfl,rfl,rfl,rfl⟩
theorem zb4:(y.put2 e p).T=y.T∧(y.put2 e p).R=y.R∧(y.put2 e p).P=y.P∧(y.put2 e p).D=y.D∧(y.put2 e p).CL=y.CL∧(y.put2 e p).CR=y.CR∧(y.put2 e p).B=y.B:=by
 unfold za.put2;split<;>exact⟨rfl,rfl,rfl,rfl,rfl,rfl,rfl⟩
theorem zm7:(y.put3 e old p).T=y.T∧(y.put3 e old p).R=y.R∧(y.put3 e old p).D=y.D∧(y.put3 e old p).CL=y.CL∧(y.put3 e old p).CR=y.CR∧(y.put3 e old p).S=y.S:=by
 unfold za.put3;split<;>exact⟨rfl,rfl,rfl,rfl,rfl,rfl⟩
theorem zht:(y.put4 e old p).T=y.T∧(y.put4 e old p).R=y.R∧(y.put4 e old p).P=y.P∧(y.put4 e old p).D=y.D∧(y.put4 e old p).CL=y.CL∧(y.put4 e old p).CR=y.CR∧(y.put4 e old p).B=y.B:=by
 unfold za.put4;split<;>exact⟨rfl,rfl,rfl,rfl,rfl,rfl,rfl⟩
theorem zm5:(y.puts e old p).T=y.T∧(y.puts e old p).R=y.R∧(y.puts e old p).D=y.D∧(y.puts e old p).CL=y.CL∧(y.puts e old p).CR=y.CR:=by
 unfold za.puts
 obtain⟨a1,a2,a3,a4,a5,a6,a7⟩:=ze1 y e p
 obtain⟨b1,b2,b3,b4,b5,b6,b7⟩:=zb4 (y.put1 e p) e p
 obtain⟨c1,c2,c4,c5,c6,c7⟩:=zm7 ((y.put1 e p).put2 e p) e old p
 obtain⟨d1,d2,d3,d4,d5,d6,d7⟩:=zht (((y.put1 e p).put2 e p).put3 e old p) e old p
 exact⟨by rw[d1,c1,b1,a1],by rw[d2,c2,b2,a2],by rw[d4,c4,b4,a4],by rw[d5,c5,b5,a5],by rw[d6,c6,b6,a6]⟩
theorem puts_B:(y.puts e old p).B=if old.kind=1∧(e.kind≠1∨e.n≠old.n)then updF (y.put1 e p).B old.n (((y.put1 e p).B old.n).erase p)else(y.put1 e p).B:=by
 unfold za.puts
 rw[(zht _ e old p).2.2.2.2.2.2]
 unfold za.put3
 split
 ·show updF ((y.put1 e p).put2 e p).B _ _=_
  rw[(zb4 _ e p).2.2.2.2.2.2]
 ·rw[(zb4 _ e p).2.2.2.2.2.2]
theorem zm6:(y.puts e old p).P=if old.kind=1∧(e.kind≠1∨e.n≠old.n)∧p∈y.B old.n∧(y.B old.n).erase p=[]∧y.P.use old.n.toNat=3 then y.P.set old.n.toNat 1 else y.P:=by
 unfold za.puts
 rw[(zht _ e old p).2.2.1]
 have eP:((y.put1 e p).put2 e p).P=y.P:=by rw[(zb4 _ e p).2.2.1,(ze1 y e p).2.2.1]
 have eB:old.kind=1∧(e.kind≠1∨e.n≠old.n)→((y.put1 e p).put2 e p).B old.n=y.B old.n:=fun h=>by
  rw[(zb4 _ e p).2.2.2.2.2.2]
  unfold za.put1
  split
  ·rename_i h1
   exact znk _ _ (by rcases h.2 with h2|h2<;>first|exact absurd h1 h2|exact fun e=>h2 e.symm)
  ·rfl
 unfold za.put3
 by_cases c:old.kind=1∧(e.kind≠1∨e.n≠old.n)
 ·rw[if_pos c]
  show(if _ then _ else _)=_
  rw[eP,eB c]
  by_cases d:p∈y.B old.n∧(y.B old.n).erase p=[]∧y.P.use old.n.toNat=3
  ·rw[if_pos d,if_pos ⟨c.1,c.2,d⟩]
  ·rw[if_neg d,if_neg fun h=>d h.2.2]
 ·rw[if_neg c,eP,if_neg fun h=>c ⟨h.1,h.2.1⟩]
theorem zhp:(y.puts e old p).S=if old.kind=2∧(e.kind≠2∨e.n≠old.n)then(y.put2 e p).S.set old.n.toNat (((y.put2 e p).S.getD old.n.toNat []).erase p)else(y.put2 e p).S:=by
 have e1:(((y.put1 e p).put2 e p).put3 e old p).S=(y.put2 e p).S:=by
  rw[(zm7 _ e old p).2.2.2.2.2]
  unfold za.put2
  split
  ·show((y.put1 e p).S).set _ (putP ((y.put1 e p).S.getD _ _) _)=_
   rw[(ze1 y e p).2.2.2.2.2.2]
  ·exact(ze1 y e p).2.2.2.2.2.2
 unfold za.puts za.put4
 split
 ·show((((y.put1 e p).put2 e p).put3 e old p).S).set _ (((((y.put1 e p).put2 e p).put3 e old p).S.getD _ _).erase _)=_
  rw[e1]
 ·exact e1
theorem zds(f:Int):(y.put1 e p).B f=if e.kind=1∧f=e.n then putP (y.B f) p else y.B f:=by
 unfold za.put1
 by_cases c:e.kind=1
 ·rw[if_pos c]
  show updF _ _ _ _=_
  unfold updF
  by_cases d:f=e.n
  ·rw[if_pos d,if_pos ⟨c,d⟩,d]
  ·rw[if_neg d,if_neg fun h=>d h.2]
 ·rw[if_neg c,if_neg fun h=>c h.1]
theorem zns(f:Int):(y.puts e old p).B f=if e.kind=1∧f=e.n then putP (y.B f) p else if old.kind=1∧f=old.n then(y.B f).erase p else y.B f:=by
 rw[puts_B]
 by_cases c:old.kind=1∧(e.kind≠1∨e.n≠old.n)
 ·rw[if_pos c]
  unfold updF
  by_cases d:f=old.n
  ·subst d
   have k:¬(e.kind=1∧old.n=e.n):=fun h=>c.2.elim (fun a=>a h.1) fun a=>a h.2.symm
   rw[if_pos rfl,zds,if_neg k,if_neg k,if_pos ⟨c.1,rfl⟩]
  ·rw[if_neg d,zds]
   by_cases k:e.kind=1∧f=e.n
   ·rw[if_pos k,if_pos k]
   ·rw[if_neg k,if_neg k,if_neg fun h=>d h.2]
 ·rw[if_neg c,zds]
  by_cases k:e.kind=1∧f=e.n
  ·rw[if_pos k,if_pos k]
  ·rw[if_neg k,if_neg k]
   rw[if_neg]
   rintro⟨h1,rfl⟩
   refine c ⟨h1,?_⟩
   by_cases a:e.kind=1
   ·exact .inr fun h=>k ⟨a,h.symm⟩
   ·exact .inl a
theorem zcp(L:List (List (Int×Int)))(i j:Nat)(l:List (Int×Int))(hi:i<L.length):(L.set i l).getD j []=if j=i then l else L.getD j []:=by
 rw[List.getD_eq_getElem?_getD,List.getD_eq_getElem?_getD,List.getElem?_set]
 by_cases e:i=j
 ·subst e
  rw[if_pos rfl,if_pos hi,if_pos rfl]
  rfl
 ·rw[if_neg e,if_neg (Ne.symm e)]
theorem zdr(hl:y.S.length=32)(he:e.kind=2→0≤e.n∧e.n<32)(k:Nat):(y.put2 e p).S.getD k []=if e.kind=2∧(k:Int)=e.n then putP (y.S.getD k []) p else y.S.getD k []:=by
 unfold za.put2
 by_cases c:e.kind=2
 ·have h:=he c
  rw[if_pos c]
  show(List.set _ _ _).getD _ _=_
  rw[zcp _ _ _ _ (by omega)]
  by_cases d:(k:Int)=e.n
  ·have d':k=e.n.toNat:=by omega
   rw[if_pos d',if_pos ⟨c,d⟩,←d']
  ·rw[if_neg (by omega),if_neg fun h=>d h.2]
 ·rw[if_neg c,if_neg fun h=>c h.1]
theorem za5:(y.put2 e p).S.length=y.S.length:=by
 unfold za.put2
 split
 ·exact List.length_set
 ·rfl
theorem zkg:(y.puts e old p).S.length=y.S.length:=by
 rw[zhp]
 split
 ·rw[List.length_set,za5]
 ·rw[za5]
theorem znr(hl:y.S.length=32)(he:e.kind=2→0≤e.n∧e.n<32)(ho:old.kind=2→0≤old.n∧old.n<32)(k:Nat):(y.puts e old p).S.getD k []=if e.kind=2∧(k:Int)=e.n then putP (y.S.getD k []) p else if old.kind=2∧(k:Int)=old.n then(y.S.getD k []).erase p else y.S.getD k []:=by
 rw[zhp]
 by_cases c:old.kind=2∧(e.kind≠2∨e.n≠old.n)
 ·have h:=ho c.1
  rw[if_pos c,zcp _ _ _ _ (by rw[za5];omega)]
  by_cases d:(k:Int)=old.n
  ·have d':k=old.n.toNat:=by omega
   have q:¬(e.kind=2∧(k:Int)=e.n):=fun h=>c.2.elim (fun a=>a h.1) fun a=>a (by omega)
   rw[if_pos d',←d',zdr y e p hl he,if_neg q,if_neg q,if_pos ⟨c.1,d⟩]
  ·rw[if_neg (by omega),zdr y e p hl he]
   by_cases q:e.kind=2∧(k:Int)=e.n
   ·rw[if_pos q,if_pos q]
   ·rw[if_neg q,if_neg q,if_neg fun h=>d h.2]
 ·rw[if_neg c,zdr y e p hl he]
  by_cases q:e.kind=2∧(k:Int)=e.n
  ·rw[if_pos q,if_pos q]
  ·rw[if_neg q,if_neg q,if_neg]
   rintro⟨h1,h2⟩
   refine c ⟨h1,?_⟩
   by_cases a:e.kind=2
   ·exact .inr fun h=>q ⟨a,by omega⟩
   ·exact .inl a
end
theorem Ent.ok_n{e:Ent}(h:e.ok=true):(e.kind=1→0≤e.n∧e.n<1024)∧(e.kind=2→0≤e.n∧e.n<32):=by
 obtain⟨k,n,wr⟩:=e
 constructor
 ·intro hk
  dsimp only at hk
  subst hk
  simp[Ent.ok,most]at h
  exact⟨by dsimp only;omega,by dsimp only;omega⟩
 ·intro hk
  dsimp only at hk
  subst hk
  simp[Ent.ok,most]at h
  exact⟨by dsimp only;omega,by dsimp only;omega⟩
theorem zez{l:List (Int×Int)}{p:Int×Int}(h:y9 l∧∀q∈l,InR q)(hp:InR p):y9 (putP l p)∧∀q∈putP l p,InR q:=
 ⟨zdo h.1 p,fun q hq=>(Vy.1 hq).elim (fun e=>e▸hp) (h.2 q)⟩
theorem zcu{l:List (Int×Int)}{p:Int×Int}(h:y9 l∧∀q∈l,InR q):y9 (l.erase p)∧∀q∈l.erase p,InR q:=
 ⟨h.1.erase p,fun q hq=>h.2 q (List.mem_of_mem_erase hq)⟩
section
variable {x:za}
theorem jq(h:x.S.length=32∧∀l∈x.S,y9 l∧∀p∈l,InR p)(k:Nat):y9 (x.S.getD k [])∧∀p∈x.S.getD k [],InR p:=by
 rw[List.getD_eq_getElem?_getD]
 cases hk:x.S[k]? with
 | none=>exact⟨List.Pairwise.nil,fun p hp=>by cases hp⟩
 | some l=>exact h.2 l (List.mem_of_getElem? hk)
theorem zdy{L:List (List (Int×Int))}{Q:List (Int×Int)→Prop}(h:∀k,k<L.length→Q (L.getD k [])):∀l∈L,Q l:=fun l hl=>by
 obtain⟨i,hi,rfl⟩:=List.getElem_of_mem hl
 have:=h i hi
 rw[List.getD_eq_getElem?_getD,List.getElem?_eq_getElem hi]at this
 exact this
theorem WF.putF(h:WF x){n page:Nat}{pr:yj}(hn:n<8)(hp:x.T n=some pr)(hpg:page<4096){e:Ent}(he:e.ok=true):PutD x n page pr e (x.putF n page e).1 (x.putF n page e).2:=by
 obtain⟨N,ok⟩:=h.rpt n pr hp
 have hg:=h.get hp hpg
 obtain⟨old,hold⟩:∃old,old=x.ent n page:=⟨_,rfl⟩
 have ho:old.ok=true:=by rw[hold];exact h.Y8 n hpg
 have key:x.putF n page e=if old=e then(0,x)else if((⟨x.R,x.P,pr.T⟩:RPT).set page e).1≠0 then(((⟨x.R,x.P,pr.T⟩:RPT).set page e).1,x.xc n pr ((⟨x.R,x.P,pr.T⟩:RPT).set page e).2)else(0,(x.xc n pr ((⟨x.R,x.P,pr.T⟩:RPT).set page e).2).puts e old (plc n page)):=by
  unfold za.putF
  rw[hp,hold]
  dsimp only
  rw[hg]
  simp only[ne_eq,not_true_eq_false,if_false]
  rfl
 have useOf:∀f,x.owns n f→x.P.use f=2:=fun f hf=>(h.xn hf).2.1
 by_cases c1:old=e
 ·rw[key,if_pos c1]
  refine⟨h,fun m pg hq=>?_,rfl,fun _ _ _ _=>rfl,fun f h1 h2=>?_,fun f hf=>?_,rfl,rfl,⟨rfl,rfl,rfl⟩,fun _ _=>rfl,⟨pr.T,hp⟩,fun f hf=>.inl hf,fun f q=>?_,fun k q=>?_,.inl rfl,fun e=>by simp at e,Nat.le_add_right _ _,fun _=>⟨rfl,Nat.le_refl _,fun _ h=>h⟩⟩
  ·split
   ·rename_i k;rw[k.2.1,k.2.2,←hold,c1]
   ·rfl
  ·rw[if_neg]
   rintro⟨_,k1,k2,_⟩
   rw[←hold,c1]at k1 k2
   exact k2 ⟨k1,rfl⟩
  ·rcases hf with hf|hf
   ·rw[if_pos hf];exact useOf f hf
   ·rw[if_neg (fun k=>by have:=useOf f k;omega)];exact hf
  ·rw[if_neg (fun k=>k.2.2 (by rw[←hold,c1]))]
  ·rw[if_neg (fun k=>k.2.2 (by rw[←hold,c1]))]
 ·rw[key,if_neg c1]
  obtain⟨s,hs⟩:∃s,s=(⟨x.R,x.P,pr.T⟩:RPT).set page e:=⟨_,rfl⟩
  have hset:=ok.set hpg he
  rw[←hs]at hset⊢
  have hmo:mapOf x.R N page=old:=by rw[hold];exact(h.Vm hp ok hpg).symm
  obtain⟨N',cx,okN,t⟩:∃N',((s.1=0∧(∀pg,pg<4096→mapOf s.2.R N' pg=if pg=page then e else mapOf x.R N pg)∧x.P.room≤s.2.P.room+3∧((N (high page)).isSome=true∨e=Ent.none→x.P.room≤s.2.P.room∧∀g,g∈s.2.T.own→g∈pr.T.own))∨(s.1=4∧x.P.room<3∧e≠Ent.none∧N (high page)=none∧(∀pg,mapOf s.2.R N' pg=mapOf x.R N pg)∧x.P.room≤s.2.P.room+3))∧xm s.2 N'∧Zq ⟨x.R,x.P,pr.T⟩ s.2:=by
   rcases hset with⟨N',a,b,c,d,r,l⟩|⟨N',a,r0,nn,ne,b,c,d,r⟩
   ·exact⟨N',.inl ⟨a,d,r,l⟩,b,c⟩
   ·exact⟨N',.inr ⟨a,r0,ne,nn,d,r⟩,b,c⟩
  obtain⟨wf1,oth1,ent1⟩:=h.xc hp okN t
  have own1:∀f,(x.xc n pr s.2).owns n f↔f∈s.2.T.own:=fun f=>by
   unfold za.owns
   rw[Zd,if_pos rfl]
   constructor
   ·rintro⟨_,e,hf⟩;cases e;exact hf
   ·exact fun hf=>⟨_,rfl,hf⟩
  have own0:∀f,x.owns n f↔f∈pr.T.own:=fun f=>by
   unfold za.owns
   rw[hp]
   constructor
   ·rintro⟨_,e,hf⟩;cases e;exact hf
   ·exact fun hf=>⟨_,rfl,hf⟩
  have new1:∀f,f∈s.2.T.own→x.owns n f∨x.P.use f=1:=fun f hf=>(t.new f hf).imp (own0 f).2 id
  have use1:∀f,¬x.owns n f→x.P.use f≠1→s.2.P.use f=x.P.use f:=fun f h1 h2=>by
   rw[t.use,if_neg (fun k=>(new1 f k).elim h1 h2),if_neg (fun k=>h1 ((own0 f).2 k))]
  have zi0:∀f,x.owns n f∨x.P.use f=1→s.2.P.use f=if f∈s.2.T.own then 2 else 1:=fun f hf=>by
   rw[t.use]
   by_cases k:f∈s.2.T.own
   ·rw[if_pos k,if_pos k]
   ·rw[if_neg k,if_neg k]
    by_cases k2:f∈pr.T.own
    ·exact if_pos k2
    ·refine(if_neg k2).trans (hf.elim (fun a=>absurd ((own0 f).1 a) k2) id)
  rcases cx with⟨c,em,rm,ls⟩|⟨c,rm0,ene,nno,em,rm⟩
  ·rw[if_neg (fun k=>k c)]
   obtain⟨y1,hy1⟩:∃y1,y1=x.xc n pr s.2:=⟨_,rfl⟩
   have y1P:y1.P=s.2.P:=by rw[hy1];rfl
   have y1B:y1.B=x.B:=by rw[hy1];rfl
   have y1S:y1.S=x.S:=by rw[hy1];rfl
   have y1R:y1.R=s.2.R:=by rw[hy1];rfl
   have y1D:y1.D=x.D∧y1.CL=x.CL∧y1.CR=x.CR:=by rw[hy1];exact⟨rfl,rfl,rfl⟩
   have y1T:∀m,y1.T m=if m=n then some ⟨s.2.T,pr.A,pr.Q⟩else x.T m:=fun m=>by rw[hy1];rfl
   rw[←hy1]at wf1 oth1 ent1 own1⊢
   clear hy1
   dsimp only
   obtain⟨z,hz⟩:∃z,z=y1.puts e old (plc n page):=⟨_,rfl⟩
   have zf:=zm5 y1 e old (plc n page)
   have zP:=zm6 y1 e old (plc n page)
   have zB:=zns y1 e old (plc n page)
   have zS:=znr y1 e old (plc n page) wf1.slots.1 (Ent.ok_n he).2 (Ent.ok_n ho).2
   have zl:=zkg y1 e old (plc n page)
   rw[←hz]at zf zP zB zS zl⊢
   clear hz
   have hpin:=plc_in hn hpg
   have zu:∀f,z.P.use f=if old.kind=1∧¬(e.kind=1∧e.n=old.n)∧(f:Int)=old.n∧plc n page∈y1.B f∧(y1.B f).erase (plc n page)=[]∧y1.P.use f=3 then 1 else y1.P.use f:=fun f=>by
    have hk:=(Ent.ok_n ho).1
    rw[zP]
    by_cases k:old.kind=1∧(e.kind≠1∨e.n≠old.n)∧plc n page∈y1.B old.n∧(y1.B old.n).erase (plc n page)=[]∧y1.P.use old.n.toNat=3
    ·rw[if_pos k]
     have hr:=hk k.1
     show(if f=old.n.toNat then 1 else y1.P.use f)=_
     by_cases d:f=old.n.toNat
     ·have d':(f:Int)=old.n:=by omega
      rw[if_pos d,if_pos ⟨k.1,fun a=>k.2.1.elim (fun b=>b a.1) fun b=>b a.2,d',by rw[d'];exact k.2.2.1,by rw[d'];exact k.2.2.2.1,by rw[d];exact k.2.2.2.2⟩]
     ·rw[if_neg d,if_neg]
      rintro⟨_,_,d',_⟩
      omega
    ·rw[if_neg k,if_neg]
     rintro⟨a1,a2,a3,a4,a5,a6⟩
     refine k ⟨a1,?_,by rw[←a3];exact a4,by rw[←a3];exact a5,by rw[←a3];exact a6⟩
     by_cases b:e.kind=1
     ·exact .inr fun b2=>a2 ⟨b,b2⟩
     ·exact .inl b
   obtain⟨wf2,ent2⟩:WF z∧∀m pg,pg<4096→z.ent m pg=y1.ent m pg:=by
    refine wf1.lists' zf.1 zf.2.1 zf.2.2.2.1 zf.2.2.2.2 zf.2.2.1 (fun f=>?_) (fun f=>?_) ⟨by rw[zl];exact wf1.slots.1,zdy fun k hk=>?_⟩
    ·rw[zu]
     split
     ·rename_i k;exact .inr ⟨k.2.2.2.2.2,rfl⟩
     ·exact .inl rfl
    ·rw[zB]
     split
     ·exact zez (wf1.back f) hpin
     ·split
      ·exact zcu (wf1.back f)
      ·exact wf1.back f
    ·rw[zS]
     split
     ·exact zez (jq wf1.slots k) hpin
     ·split
      ·exact zcu (jq wf1.slots k)
      ·exact jq wf1.slots k
   have u3:∀f,y1.P.use f=3→¬x.owns n f∧x.P.use f≠1∧x.P.use f=3:=fun f hf=>by
    rw[y1P]at hf
    by_cases k:x.owns n f∨x.P.use f=1
    ·rw[zi0 f k]at hf
     split at hf<;>omega
    ·have k1:¬x.owns n f:=fun a=>k (.inl a)
     have k2:x.P.use f≠1:=fun a=>k (.inr a)
     exact⟨k1,k2,by rw[←use1 f k1 k2];exact hf⟩
   have zown:∀f,z.owns n f↔f∈s.2.T.own:=fun f=>by
    unfold za.owns
    rw[zf.1,y1T,if_pos rfl]
    constructor
    ·rintro⟨_,e,hf⟩;cases e;exact hf
    ·exact fun hf=>⟨_,rfl,hf⟩
   have zroom:s.2.P.room≤z.P.room:=by
    have hz2:z.P.zone=s.2.P.zone∧z.P.iso=s.2.P.iso:=by
     rw[zP]
     split
     ·rw[y1P];exact⟨rfl,rfl⟩
     ·rw[y1P];exact⟨rfl,rfl⟩
    unfold zk.room
    refine List.countP_mono_left fun f hf ha=>?_
    simp only[zk.Y3,decide_eq_true_eq]at ha⊢
    rw[hz2.1,hz2.2,zu,y1P]
    refine⟨?_,ha.2⟩
    split
    ·rfl
    ·exact ha.1
   refine⟨wf2,fun m pg hq=>?_,by rw[zf.2.1,y1R,t.bad],fun f i h1 h2=>by rw[zf.2.1,y1R];exact t.bytes f i h1 fun k=>h2 ((own0 f).2 k),fun f h1 h2=>?_,fun f hf=>?_,by rw[zP];split<;>rw[y1P]<;>exact t.zone,by rw[zP];split<;>rw[y1P]<;>exact t.iso,⟨by rw[zf.2.2.1,y1D.1],by rw[zf.2.2.2.1,y1D.2.1],by rw[zf.2.2.2.2,y1D.2.2]⟩,fun m hm=>by rw[zf.1,y1T,if_neg hm],⟨s.2.T,by rw[zf.1,y1T,if_pos rfl]⟩,fun f hf=>new1 f ((zown f).1 hf),fun f q=>?_,fun k q=>?_,.inl rfl,fun e=>by simp at e,by omega,fun hl=>?_⟩
   ·rw[ent2 m pg hq]
    by_cases e1:m=n
    ·subst e1
     rw[ent1 pg hq,em pg hq]
     by_cases e2:pg=page
     ·rw[if_pos e2,if_pos ⟨rfl,rfl,e2⟩]
     ·rw[if_neg e2,if_neg fun k=>e2 k.2.2]
      exact(h.Vm hp ok hq).symm
    ·rw[oth1 m pg e1 hq,if_neg fun k=>e1 k.2.1]
   ·rw[zu,y1P,use1 f h1 h2,y1B,←hold]
    exact zcn ⟨fun k=>⟨rfl,k⟩,fun k=>k.2⟩ _ _
   ·have hne:¬y1.P.use f=3:=fun k=>by
     have:=u3 f k
     rcases hf with hf|hf
     ·exact this.1 hf
     ·exact this.2.1 hf
    rw[zu,if_neg fun k=>hne k.2.2.2.2.2,y1P,zi0 f hf]
    by_cases k:f∈s.2.T.own
    ·rw[if_pos k,if_pos ((zown f).2 k)]
    ·rw[if_neg k,if_neg fun a=>k ((zown f).1 a)]
   ·rw[zB,y1B,←hold]
    by_cases k:q=plc n page
    ·subst k
     have hC:(0:Int)=0∧plc n page=plc n page∧old≠e:=⟨rfl,rfl,c1⟩
     rw[if_pos hC]
     by_cases k1:e.kind=1∧f=e.n
     ·rw[if_pos k1,Vy]
      exact⟨fun _=>.inl ⟨k1.1,k1.2.symm⟩,fun _=>.inl rfl⟩
     ·rw[if_neg k1]
      by_cases k2:old.kind=1∧f=old.n
      ·rw[if_pos k2,(h.back f).1.Zy]
       exact⟨fun a=>absurd rfl a.1,fun a=>a.elim (fun b=>absurd ⟨b.1,b.2.symm⟩ k1) fun b=>absurd ⟨k2.1,k2.2.symm⟩ b.1⟩
      ·rw[if_neg k2]
       exact⟨fun a=>.inr ⟨fun b=>k2 ⟨b.1,b.2.symm⟩,a⟩,fun a=>a.elim (fun b=>absurd ⟨b.1,b.2.symm⟩ k1) fun b=>b.2⟩
    ·have hC:¬((0:Int)=0∧q=plc n page∧old≠e):=fun a=>k a.2.1
     rw[if_neg hC]
     split
     ·rw[Vy]
      exact⟨fun a=>a.resolve_left k,.inr⟩
     ·split
      ·rw[(h.back f).1.Zy]
       exact⟨fun a=>a.2,fun a=>⟨k,a⟩⟩
      ·exact Iff.rfl
   ·have hsk:=jq h.slots k
    rw[zS,y1S,←hold]
    by_cases k0:q=plc n page
    ·subst k0
     have hC:(0:Int)=0∧plc n page=plc n page∧old≠e:=⟨rfl,rfl,c1⟩
     rw[if_pos hC]
     by_cases k1:e.kind=2∧(k:Int)=e.n
     ·rw[if_pos k1,Vy]
      exact⟨fun _=>.inl ⟨k1.1,k1.2.symm⟩,fun _=>.inl rfl⟩
     ·rw[if_neg k1]
      by_cases k2:old.kind=2∧(k:Int)=old.n
      ·rw[if_pos k2,hsk.1.Zy]
       exact⟨fun a=>absurd rfl a.1,fun a=>a.elim (fun b=>absurd ⟨b.1,b.2.symm⟩ k1) fun b=>absurd ⟨k2.1,k2.2.symm⟩ b.1⟩
      ·rw[if_neg k2]
       exact⟨fun a=>.inr ⟨fun b=>k2 ⟨b.1,b.2.symm⟩,a⟩,fun a=>a.elim (fun b=>absurd ⟨b.1,b.2.symm⟩ k1) fun b=>b.2⟩
    ·have hC:¬((0:Int)=0∧q=plc n page∧old≠e):=fun a=>k0 a.2.1
     rw[if_neg hC]
     split
     ·rw[Vy]
      exact⟨fun a=>a.resolve_left k0,.inr⟩
     ·split
      ·rw[hsk.1.Zy]
       exact⟨fun a=>a.2,fun a=>⟨k0,a⟩⟩
      ·exact Iff.rfl
   ·have hN:(N (high page)).isSome=true∨e=Ent.none:=by
     rcases hl with hl|hl
     ·left
      cases hq:N (high page)with
      | none=>
       rw[←hold,←hmo]at hl
       unfold mapOf at hl
       rw[hq]at hl
       exact absurd rfl hl
      | some _=>rfl
     ·exact .inr hl
    have:=ls hN
    exact⟨rfl,Nat.le_trans this.1 zroom,fun g hg=>(own0 g).2 (this.2 g ((zown g).1 hg))⟩
  ·have c0:s.1≠0:=by omega
   rw[if_pos c0,c]
   dsimp only
   refine⟨wf1,fun m pg hq=>?_,t.bad,fun f i h1 h2=>t.bytes f i h1 fun k=>h2 ((own0 f).2 k),fun f h1 h2=>?_,fun f hf=>?_,t.zone,t.iso,⟨rfl,rfl,rfl⟩,fun m hm=>by rw[Zd,if_neg hm],⟨s.2.T,by rw[Zd,if_pos rfl]⟩,fun f hf=>new1 f ((own1 f).1 hf),fun f q=>?_,fun k q=>?_,.inr rfl,fun _=>⟨rm0,by rw[←hold];exact c1,ene⟩,rm,fun hl=>?_⟩
   ·rw[if_neg fun k=>absurd k.1 (by decide)]
    by_cases e1:m=n
    ·subst e1
     rw[ent1 pg hq,em pg]
     exact(h.Vm hp ok hq).symm
    ·exact oth1 m pg e1 hq
   ·rw[if_neg fun k=>absurd k.1 (by decide)]
    exact use1 f h1 h2
   ·rw[show(x.xc n pr s.2).P.use f=s.2.P.use f from rfl,zi0 f hf]
    by_cases k:f∈s.2.T.own
    ·rw[if_pos k,if_pos ((own1 f).2 k)]
    ·rw[if_neg k,if_neg fun a=>k ((own1 f).1 a)]
   ·rw[if_neg fun k=>absurd k.1 (by decide)]
    exact Iff.rfl
   ·rw[if_neg fun k=>absurd k.1 (by decide)]
    exact Iff.rfl
   ·exfalso
    rcases hl with hl|hl
    ·rw[←hold,←hmo]at hl
     unfold mapOf at hl
     rw[nno]at hl
     exact hl rfl
    ·exact ene hl
end
section
variable {w w':World}{tag tag':Nat→Nat}{q:Sq}{x:za}
theorem zhm(h:zb w tag q x)(n at_ size:Nat)(hs:(x.T n).isSome=true)(h1:size≤64)(h2:at_+size≤262144):
  Calls Tryz.prog 64 #[ptrV q.sp,.int .i64 n,.int .i64 at_,.int .i64 size] w fun e w'=>e=.returned (.int .i64 0)∧w'=w:=by
 have F:=Lib.hid (Zh h (n:Int))
 have ev:Ye q x (n:Int)=.tuple #[ptrV (q.U n).ap,.bool true]:=by
  unfold Ye
  rw[show((n:Nat):Int).toNat=n by omega,hs]
  have:(0:Int)≤n:=by omega
  simp[this]
 rw[ev]at F
 have i1:(0:Int)≤size:=by omega
 have i2:(size:Int)≤64:=by omega
 have i3:(0:Int)≤at_:=by omega
 have i4:(at_:Int)≤262144:=by omega
 have i5:(size:Int)≤262144-at_:=by omega
 have w1:IntKind.i64.wrap (262144-(at_:Int))=262144-at_:=by simp[IntKind.wrap,IntKind.bits,IntKind.signed];omega
 unfold ptrV at F⊢
 clear h ev hs
 go_enter Tryz.func64,Tryz.ntmps64
 go_wp2_with fail
 refine F.out.mono ?_
 rintro e u ⟨rfl,hu⟩
 have hu:=hu.symm
 subst hu
 clear F
 go_wp2_with fail
 go_ret
 exact⟨rfl,rfl⟩
theorem zf0(h:zb w tag q x)(n at_ size:Int)(hs:¬((x.T n.toNat).isSome=true∧0≤n)):
  Calls Tryz.prog 64 #[ptrV q.sp,.int .i64 n,.int .i64 at_,.int .i64 size] w fun e w'=>e=.returned (.int .i64 2)∧w'=w:=by
 have F:=Lib.hid (Zh h n)
 have ev:Ye q x n=.tuple #[.pointer none,.bool false]:=by
  unfold Ye
  rw[if_neg hs,decide_eq_false hs]
 rw[ev]at F
 unfold ptrV
 clear h ev hs
 go_enter Tryz.func64,Tryz.ntmps64
 go_wp2_with fail
 refine F.out.mono ?_
 rintro e u ⟨rfl,hu⟩
 have hu:=hu.symm
 subst hu
 clear F
 go_wp2_with fail
 go_ret
 exact⟨rfl,rfl⟩
end
structure Pc where
 f:Nat
 a:Nat
 k:Nat
def Pc.cells(p:Pc):List Value:=[.int .i64 p.f,.int .i64 p.a,.int .i64 p.k]
def pcs(l:List Pc):List Value:=l.flatMap Pc.cells
def PcAt(w:World)(v:Value)(l:List Pc):Prop:=SlAt w 115 3 v l.length (pcs l)
theorem zf5(a b:List Pc):pcs (a++b)=pcs a++pcs b:=by simp[pcs]
theorem infoPc:∃i,Tryz.prog.info? 115=some i∧i.zero=some (.agg #[.int .i64 0,.int .i64 0,.int .i64 0])∧i.size=3∧i.bytes=24:=by
 have h:(Tryz.prog.info? 115).map (fun i=>(i.zero,i.size,i.bytes))=some (some (.agg #[.int .i64 0,.int .i64 0,.int .i64 0]),3,24):=by kernel_rfl
 obtain⟨i,hi,hb⟩:=Option.map_eq_some_iff.1 h
 simp at hb
 exact⟨i,hi,hb⟩
def askV(f:Nat)(c:Int):Value:=.tuple #[.int .i64 f,.int .i64 c]
section
variable {w w':World}{tag tag':Nat→Nat}{q:Sq}{x:za}
theorem Q4(n:Nat)(bw:Bool)(CA:Nat→Prop)(hc0:¬CA 0)(J:List Pc→za→Nat→Nat→Prop)(E:Int→za→Prop)
  (hA:∀W tag x l a s,J l x a s→0<s→zb W tag q x→Calls Tryz.prog 125 #[.pointer (some ⟨q.sp,0,none⟩),.int .i64 n,.int .i64 ((a/64:Nat):Int),.bool bw] W fun e W'=>∃f c x' tag',e=.returned (askV f c)∧zb W' tag' q x'∧Step CA tag W tag' W'∧
   (c=0→J (l++[⟨f,a%64,min s (64-a%64)⟩]) x' (a+min s (64-a%64)) (s-min s (64-a%64)))∧(c≠0→E c x'))
  (h:zb w tag q x) (a0 s0:Nat) (h1:s0≤64) (h2:a0+s0≤262144) (hJ:J [] x a0 s0):
  Calls Tryz.prog 65 #[.pointer (some ⟨q.sp,0,none⟩),.int .i64 n,.int .i64 a0,.int .i64 s0,.bool bw] w fun e w'=>
   (∃v l x' a' tag',e=.returned (.tuple #[v,.int .i64 0])∧PcAt w' v l∧(∀b,v.ownBlock=some b→tag' b=0)∧zb w' tag' q x'∧Step CA tag w tag' w'∧J l x' a' 0)∨
   (∃c x' tag',e=.returned (.tuple #[.slice none 0 0,.int .i64 c])∧c≠0∧zb w' tag' q x'∧Step CA tag w tag' w'∧E c x'):=by
 have HA:=Lib.hid hA
 have H:=Lib.hid h
 have HJ:=Lib.hid hJ
 have HC:=Lib.hid hc0
 clear hA h hJ hc0
 go_enter Tryz.func65,Tryz.ntmps65
 go_wp2_with fail
 go_loopw [12,2,3] (fun v av sv W=>∃l a s x' tag',av=.int .i64 (a:Nat)∧sv=.int .i64 (s:Nat)∧a+s=a0+s0∧l.length+s≤64∧PcAt W v l∧(∀b,v.ownBlock=some b→tag' b=0∧w.heap.size≤b)∧zb W tag' q x'∧Step CA tag w tag' W∧J l x' a s) (fun _ _ sv _=>(intOf sv).toNat)
 case atStart=>exact⟨[],a0,s0,x,tag,rfl,rfl,rfl,by simpa using h1,SlAt.nil _ _ _,fun b hb=>by simp[Value.ownBlock]at hb,H.out,Step.refl _ _ _,HJ.out⟩
 case round=>
  obtain⟨l,a,s,x',tag1,rfl,rfl,hsum,hlen,hP,ho,hS,hst,hj⟩:=hrel
  obtain⟨va,vc,rfl,_,_⟩:=SlAt.form hP
  by_cases hs:0<s
  ·have A:=Lib.hid (HA.out _ tag1 x' l a s hj hs hS)
   have HX:=Lib.hid (And.intro hP (And.intro ho hst))
   have HSUM:=Lib.hid (And.intro hsum hlen)
   have i1:(0:Int)<s:=by omega
   have i2:(0:Int)≤a:=by omega
   have ha:a≤262144:=by omega
   have d1:wrap64 ((a:Int)/64)=((a/64:Nat):Int):=by simp[wrap64];omega
   clear hP ho hst hsum hlen hj hS
   go_wp2_with fail
   refine A.out.mono ?_
   rintro e w1 ⟨f,c,x2,tag2,rfl,hS2,st2,hok,hbad⟩
   have B:=Lib.hid (And.intro hS2 (And.intro st2 (And.intro hok hbad)))
   clear hS2 st2 hok hbad A d1
   unfold askV
   by_cases hc:c=0
   ·subst hc
    have hk:Hid (SlAt (w1.alloc (.cells #[.int .i64 f,.int .i64 ((a:Int)%64),.int .i64 (min (s:Int) (64-(a:Int)%64))] 115)) 115 3 (.slice va l.length vc) l.length (pcs l)):=by
     have e1:PcAt w1 (.slice va l.length vc) l:=SlAt.keep HX.out.1 fun b hb=>(B.out.2.1.keeps HC.out b (SlAt.lt HX.out.1 b hb) (HX.out.2.1 b hb).1).2
     exact SlAt.below e1 ((Below.refl _ _).alloc (Nat.le_refl _) _)
    obtain⟨inf,hinf,hz,hsz,hby⟩:=infoPc
    have HI:=Lib.hid (And.intro hinf (And.intro hz (And.intro hsz hby)))
    clear hinf hz hsz hby
    go_wp2_with (at_builtin;refine x9 _ rfl _ _ 111 rfl 115 inf _ 3 24 Tryz.underlying111 HI.out.1 HI.out.2.1 HI.out.2.2.1 HI.out.2.2.2 rfl _ _ _ rfl hk.out ⟨w1.heap.size,0,none⟩ 1 1 [.int .i64 f,.int .i64 ((a:Int)%64),.int .i64 (min (s:Int) (64-(a:Int)%64))] rfl rfl ?c1 ?c2 ?c3 ?c4 ?c5)
    case c1=>exact fun j u hu=>Xu w1 115 [.int .i64 f,.int .i64 ((a:Int)%64),.int .i64 (min (s:Int) (64-(a:Int)%64))] j u hu
    case c2=>simp[Value.oneCell']
    case c3=>have:=HSUM.out.2;unfold maxLen;omega
    case c4=>have:=HSUM.out.2;omega
    rintro v' w3 hsl hgr hown
    have R:Hid (∃l' a' s' x' tag',min (s:Int) (64-(a:Int)%64)=((s-s':Nat):Int)∧s'<s∧a'=a+(s-s')∧a'+s'=a0+s0∧l'.length+s'≤64∧PcAt w3 v' l'∧(∀b,v'.ownBlock=some b→tag' b=0∧w.heap.size≤b)∧zb w3 tag' q x'∧Step CA tag w tag' w3∧J l' x' a' s'):=by
     obtain⟨hs1,hs2⟩:=HSUM.out
     refine⟨l++[⟨f,a%64,min s (64-a%64)⟩],a+min s (64-a%64),s-min s (64-a%64),x2,retag tag2 w1 0,by omega,by omega,by omega,by omega,by simp;omega,?_,?_,?_,?_,B.out.2.2.1 trivial⟩
     ·unfold PcAt
      rw[List.length_append,zf5]
      have e:pcs [⟨f,a%64,min s (64-a%64)⟩]=[.int .i64 f,.int .i64 ((a:Int)%64),.int .i64 (min (s:Int) (64-(a:Int)%64))]:=by
       unfold pcs Pc.cells
       simp only[List.flatMap_cons,List.flatMap_nil,List.append_nil]
       have f1:((a%64:Nat):Int)=(a:Int)%64:=by omega
       have f2:((min s (64-a%64):Nat):Int)=min (s:Int) (64-(a:Int)%64):=by omega
       rw[f1,f2]
      rw[e]
      exact hsl
     ·intro b hb
      rcases hown with e|e
      ·have hb':=e.symm.trans hb
       have h3:=HX.out.2.1 b hb'
       have hlt:=SlAt.lt HX.out.1 b hb'
       have hsz1:=B.out.2.1.turn.size
       refine⟨?_,h3.2⟩
       show(if b<w1.heap.size then tag2 b else 0)=0
       rw[if_pos (by omega)]
       exact(B.out.2.1.same b hlt).trans h3.1
      ·rw[hb]at e
       have hsz1:=B.out.2.1.turn.size
       have hsz2:=HX.out.2.2.turn.size
       have:b=w1.heap.size+1:=by simpa using e
       exact⟨yc _ _ _ _ (by omega),by omega⟩
     ·have t:Turn (fun b=>tag2 b=0) w1 w3:=((Turn.refl _ w1).alloc _).trans (Turn.vo hgr fun m hm=>.inl ((B.out.2.1.same m (SlAt.lt HX.out.1 m hm)).trans (HX.out.2.1 m hm).1))
      exact B.out.1.free ⟨fun b hb=>if_pos hb,t⟩
     ·have hsz1:=B.out.2.1.turn.size
      have hsz2:=HX.out.2.2.turn.size
      have t:Turn (grow (fun b=>CA (tag b)) w) w1 w3:=((Turn.refl _ w1).alloc _).trans (Turn.vo hgr fun m hm=>.inl (.inr (HX.out.2.1 m hm).2))
      have s1:=HX.out.2.2.trans B.out.2.1
      exact⟨fun b hb=>(if_pos (by omega)).trans (s1.same b hb),s1.turn.transG t⟩
    obtain⟨av',vc',rfl,_,_⟩:=SlAt.form hsl
    clear hsl hgr hown
    have d3:wrap64 ((a:Int)+min (s:Int) (64-(a:Int)%64))=(a:Int)+min (s:Int) (64-(a:Int)%64):=by simp[wrap64];omega
    have hs64:s≤64:=by have:=HSUM.out.2;omega
    have d4:wrap64 ((s:Int)-min (s:Int) (64-(a:Int)%64))=(s:Int)-min (s:Int) (64-(a:Int)%64):=by simp[wrap64];omega
    have i3:a+s=a0+s0:=HSUM.out.1
    go_wp2_with fail
    go_roundw
    case rel=>
     obtain⟨l',a',s',x',tag',h0,h1',h2',h3',h4',h5',h6',h7',h8',h9'⟩:=R.out
     rw[h0]
     exact⟨l',a',s',x',tag',by congr 1;omega,by congr 1;omega,h3',h4',h5',h6',h7',h8',h9'⟩
    case measure=>
     obtain⟨l',a',s',x',tag',h0,h1',_⟩:=R.out
     rw[h0]
     simp[intOf]
     omega
   ·have c1:(c==0)=false:=beq_eq_false_iff_ne.2 hc
    go_wp2_with fail
    exact bodyPost_ret (v:=.tuple #[.slice none 0 0,.int .i64 c]) (by simp[results,Tryz.results65,go_sem]) rfl (.inr ⟨c,x2,tag2,rfl,hc,B.out.1,HX.out.2.2.trans B.out.2.1,B.out.2.2.2 hc⟩)
  ·have hs0:s=0:=by omega
   subst hs0
   have HX:=Lib.hid (And.intro hP (And.intro ho (And.intro hS (And.intro hst hj))))
   clear hP ho hst hsum hlen hj hS
   go_wp2_with fail
   exact bodyPost_ret (v:=.tuple #[.slice va l.length vc,.int .i64 0]) (by simp[results,Tryz.results65,go_sem]) rfl (.inl ⟨_,l,x',a,tag1,rfl,HX.out.1,fun b hb=>(HX.out.2.1 b hb).1,HX.out.2.2.1,HX.out.2.2.2.1,HX.out.2.2.2.2⟩)
end
def Yo(R:RamS)(l:List Pc):List UInt8:=l.flatMap fun p=>R.read p.f p.a p.k
def PcOk(R:RamS)(p:Pc):Prop:=p.f<1024∧0<p.k∧p.a+p.k≤64∧R.bad p.f=false
theorem zb2{R:RamS}:∀{l:List Pc},(∀p∈l,PcOk R p)→(Yo R l).length≤64*l.length
 | [],_=>by simp[Yo]
 | a::l,h=>by
  have ih:=zb2 (R:=R) (l:=l) fun p hp=>h p (List.mem_cons_of_mem _ hp)
  have e:Yo R (a::l)=R.read a.f a.a a.k++Yo R l:=by simp[Yo]
  have ha:=h a (List.mem_cons_self ..)
  unfold PcOk at ha
  rw[e,List.length_append]
  have e2:(R.read a.f a.a a.k).length=a.k:=by simp[RamS.read]
  simp only[List.length_cons]
  omega
theorem PcAt.cell{w:World}{b off c n:Nat}{l:List Pc}(h:PcAt w (.slice (some ⟨b,off,none⟩) n c) l){i:Nat}{p:Pc}(hp:l[i]?=some p):
  w.cell? ⟨b,off+i*3,none⟩=some (.int .i64 p.f)∧w.cell? ⟨b,off+i*3+1,none⟩=some (.int .i64 p.a)∧w.cell? ⟨b,off+i*3+2,none⟩=some (.int .i64 p.k):=by
 have hl:∀(l:List Pc) (i:Nat) (p:Pc),l[i]?=some p→∀j,j<3→(pcs l)[i*3+j]?=p.cells[j]?:=by
  intro l
  induction l with
  | nil=>intro i p h;simp at h
  | cons a l ih=>
   intro i p h j hj
   have e:pcs (a::l)=a.cells++pcs l:=by simp[pcs]
   rw[e]
   have hal:a.cells.length=3:=rfl
   cases i with
   | zero=>
    simp at h
    subst h
    rw[List.getElem?_append_left (by omega)]
    congr 1
    omega
   | succ i=>
    simp at h
    rw[List.getElem?_append_right (by omega),hal,show(i+1)*3+j-3=i*3+j by omega]
    exact ih i p h j hj
 have hpos:0<(pcs l).length:=by
  have:=h.1
  have hi:=(List.getElem?_eq_some_iff.1 hp).1
  omega
 obtain⟨b',off',c',e,_,_,hx⟩:=h.cells hpos
 cases e
 have k:=fun j hj=>hl l i p hp j hj
 refine⟨?_,?_,?_⟩
 ·have:=(hx (i*3+0) (.int .i64 p.f) (by rw[k 0 (by omega)];rfl)).1
  rw[Nat.add_zero]at this
  exact this
 ·have:=(hx (i*3+1) (.int .i64 p.a) (by rw[k 1 (by omega)];rfl)).1
  rw[←Nat.add_assoc]at this
  exact this
 ·have:=(hx (i*3+2) (.int .i64 p.k) (by rw[k 2 (by omega)];rfl)).1
  rw[←Nat.add_assoc]at this
  exact this
section
variable {w w':World}{tag tag':Nat→Nat}{q:Sq}{x:za}
theorem zda(n a0 s0:Nat)(CA:Nat→Prop)(hRt:Calls Tryz.prog 64 #[.pointer (some ⟨q.sp,0,none⟩),.int .i64 n,.int .i64 a0,.int .i64 s0] w fun e w'=>e=.returned (.int .i64 0)∧w'=w)(G:List Pc→za→Prop)(E:Int→za→Prop)
  (hP:Calls Tryz.prog 65 #[.pointer (some ⟨q.sp,0,none⟩),.int .i64 n,.int .i64 a0,.int .i64 s0,.bool false] w fun e w'=>
   (∃v l x' tag',e=.returned (.tuple #[v,.int .i64 0])∧PcAt w' v l∧zb w' tag' q x'∧Step CA tag w tag' w'∧G l x')∨
   (∃c x' tag',e=.returned (.tuple #[.slice none 0 0,.int .i64 c])∧c≠0∧zb w' tag' q x'∧Step CA tag w tag' w'∧E c x'))
  (hG:∀l x',G l x'→l.length≤64∧∀p∈l,PcOk x'.R p):
  Calls Tryz.prog 20 #[.pointer (some ⟨q.sp,0,none⟩),.int .i64 n,.int .i64 a0,.int .i64 s0] w fun e w'=>
   (∃v l x' tag',e=.returned (.tuple #[v,.int .i64 0])∧ByAt w' v (Yo x'.R l)∧(∀b,v.ownBlock=some b→tag' b=0)∧zb w' tag' q x'∧Step CA tag w tag' w'∧G l x')∨
   (∃c x' tag',e=.returned (.tuple #[.slice none 0 0,.int .i64 c])∧c≠0∧zb w' tag' q x'∧Step CA tag w tag' w'∧E c x'):=by
 have HR:=Lib.hid hRt
 have HP:=Lib.hid hP
 have HG:=Lib.hid hG
 clear hRt hP hG
 go_enter Tryz.func20,Tryz.ntmps20
 go_wp2_with fail
 refine HR.out.mono ?_
 rintro e u ⟨rfl,hu⟩
 have hu:=hu.symm
 subst hu
 go_wp2_with fail
 refine HP.out.mono ?_
 rintro e w1 (⟨v,l,x',tag1,rfl,hv,hS,hst,hg⟩|⟨c,x',tag1,rfl,hc,hS,hst,hE⟩)
 ·obtain⟨va,vc,rfl,_,_⟩:=SlAt.form hv
  have H1:=Lib.hid (And.intro hv (And.intro hS (And.intro hst hg)))
  clear hv hS hst hg
  go_wp2_with fail
  go_loopw [13,39] (fun ov iv W=>∃i:Nat,i≤l.length∧iv=.int .i64 i∧Below w1.heap.size w1 W∧ByAt W ov (Yo x'.R (l.take i))∧∀b,ov.ownBlock=some b→w1.heap.size≤b) (fun _ iv _=>l.length-(intOf iv).toNat)
  case atStart=>exact⟨0,by omega,rfl,Below.refl _ _,SlAt.nil _ _ _,fun b hb=>by simp[Value.ownBlock]at hb⟩
  case round=>
   obtain⟨i,hi,rfl,hb,hby,ho⟩:=hrel
   by_cases hlt:i<l.length
   ·obtain⟨p,hp⟩:∃p,l[i]?=some p:=⟨l[i],List.getElem?_eq_getElem hlt⟩
    have hpos:0<(pcs l).length:=by have:=H1.out.1.1;omega
    obtain⟨pb,poff,pc,epv,_,_,_⟩:=SlAt.cells H1.out.1 hpos
    cases epv
    have hpw:PcAt wr (.slice (some ⟨pb,poff,none⟩) l.length vc) l:=SlAt.below H1.out.1 hb
    obtain⟨k0,k1,k2⟩:=hpw.cell hp
    have hpk:=(HG.out l x' H1.out.2.2.2).2 p (List.mem_of_getElem? hp)
    have i1:(i:Int)<l.length:=by omega
    have i2:(0:Int)≤i:=by omega
    obtain⟨W2,hW2⟩:∃W2,W2=wr.alloc (.cells #[.int .i64 p.f,.int .i64 p.a,.int .i64 p.k] 115):=⟨_,rfl⟩
    have hbW:Below wr.heap.size wr W2:=by rw[hW2];exact(Below.refl _ _).alloc (Nat.le_refl _) _
    have hb1:Below w1.heap.size w1 W2.drew:=(hb.trans (hbW.mono hb.size)).drew
    have S2:zb W2.drew tag1 q x':=H1.out.2.1.below hb1
    have nb:W2.heap[wr.heap.size]?=some (.cells #[.int .i64 p.f,.int .i64 p.a,.int .i64 p.k] 115 (0,0)):=by rw[hW2];exact heap_alloc_new wr _
    have m0:W2.cell? ⟨q.sp,0,none⟩=some (.pointer (some ⟨q.rp,0,none⟩)):=S2.row.cell (i:=0) (by omega)
    have m1:W2.cell? ⟨wr.heap.size,0,none⟩=some (.int .i64 p.f):=by rw[cell_of_row _ _ 0 _ _ _ nb];rfl
    have m2:W2.cell? ⟨wr.heap.size,1,none⟩=some (.int .i64 p.a):=by rw[cell_of_row _ _ 1 _ _ _ nb];rfl
    have m3:W2.cell? ⟨wr.heap.size,2,none⟩=some (.int .i64 p.k):=by rw[cell_of_row _ _ 2 _ _ _ nb];rfl
    have RD:Hid (Calls Tryz.prog 67 #[.pointer (some ⟨q.rp,0,none⟩),.int .i64 p.f,.int .i64 p.a,.int .i64 p.k] W2.drew fun e w3=>∃b' off' c',e=.returned (.tuple #[.slice (some ⟨b',off',none⟩) p.k c',.int .i64 0])∧(w3.cell? ⟨q.sp,0,none⟩=some (.pointer (some ⟨q.rp,0,none⟩))∧w3.cell? ⟨wr.heap.size,0,none⟩=some (.int .i64 p.f)∧w3.cell? ⟨wr.heap.size,1,none⟩=some (.int .i64 p.a)∧w3.cell? ⟨wr.heap.size,2,none⟩=some (.int .i64 p.k))∧
      ((∀j u,((x'.R.read p.f p.a p.k).map bV)[j]?=some u→w3.cell? ((⟨b',off',none⟩:Addr).add j)=some u)∧Below wr.heap.size wr w3)):=by
     refine(Jk W2.drew _ _ _ _ S2.ram p.f p.a p.k p.f p.a p.k rfl rfl rfl hpk.1 hpk.2.1 hpk.2.2.1 hpk.2.2.2).mono ?_
     rintro e w3 ⟨v',rfl,h1,h2,h3⟩
     have hlen:(x'.R.read p.f p.a p.k).length=p.k:=by simp[RamS.read]
     obtain⟨b',off',c',rfl,_,_,hx⟩:=h1.cells (by rw[List.length_map,hlen];exact hpk.2.1)
     have h2':Below W2.heap.size W2 w3:=⟨h2.os,h2.tape,h2.output,h2.size,h2.block⟩
     refine⟨b',off',c',by rw[hlen],⟨(h2'.cell (World.block_lt_of_cell? _ _ m0)).trans m0,(h2'.cell (World.block_lt_of_cell? W2 ⟨wr.heap.size,0,none⟩ m1)).trans m1,(h2'.cell (World.block_lt_of_cell? W2 ⟨wr.heap.size,1,none⟩ m2)).trans m2,(h2'.cell (World.block_lt_of_cell? W2 ⟨wr.heap.size,2,none⟩ m3)).trans m3⟩,fun j u hu=>?_,hbW.trans (h2'.mono hbW.size)⟩
     rw[add_plain]
     exact(hx j u hu).1
    have HB:=Lib.hid (And.intro hb (And.intro hby ho))
    have HPK:=Lib.hid (And.intro hpk hp)
    obtain⟨av0,cv0,rfl,_,_⟩:=SlAt.form hby
    have HW:=Lib.hid hW2
    clear hb hby ho hpw hpos hpk hp hbW hb1 S2 nb hW2
    go_wp2_with fail
    rw[←HW.out]
    go_region_held (fun W'=>W'.cell? ⟨q.sp,0,none⟩=some (.pointer (some ⟨q.rp,0,none⟩))∧W'.cell? ⟨wr.heap.size,0,none⟩=some (.int .i64 p.f)∧W'.cell? ⟨wr.heap.size,1,none⟩=some (.int .i64 p.a)∧W'.cell? ⟨wr.heap.size,2,none⟩=some (.int .i64 p.k)) (go_keep)
     ((go_at_call 67;refine RD.out.mono ?_;rintro e w3 ⟨b',off',c',rfl,⟨g0,g1,g2,g3⟩,HX⟩;have hX:=Lib.hid HX;clear HX))
    have NL:Hid ((Yo x'.R (l.take i)).length≤4096∧p.k≤64):=by
     have h1:=zb2 (R:=x'.R) (l:=l.take i) fun p hp=>(HG.out l x' H1.out.2.2.2).2 p (List.mem_of_mem_take hp)
     have h2:=(HG.out l x' H1.out.2.2.2).1
     have h3:=HPK.out.1
     unfold PcOk at h3
     have h4:=List.length_take_le i l
     exact⟨by omega,by omega⟩
    have HK:Hid (ByAt w3 (.slice av0 (Yo x'.R (l.take i)).length cv0) (Yo x'.R (l.take i))):=SlAt.below HB.out.2.1 hX.out.2
    obtain⟨inf,hinf,hz,hsz,hby⟩:=zeo
    have HI:=Lib.hid (And.intro hinf (And.intro hz (And.intro hsz hby)))
    have hrl:Hid (((x'.R.read p.f p.a p.k).map bV).length=p.k*1):=by
     show _=_
     simp[RamS.read]
    clear hinf hz hsz hby m0 m1 m2 m3 g0 g1 g2 g3 k0 k1 k2 RD
    obtain⟨nn,hnn⟩:∃nn,(Yo x'.R (l.take i)).length=nn:=⟨_,rfl⟩
    unfold ByAt at HK
    rw[hnn]at NL HK⊢
    have HNN:=Lib.hid hnn
    clear hnn
    go_wp2_with (at_builtin;refine x9 _ rfl _ _ 22 rfl 5 inf _ 1 1 Tryz.underlying22 HI.out.1 HI.out.2.1 HI.out.2.2.1 HI.out.2.2.2 rfl _ _ _ rfl HK.out ⟨b',off',none⟩ p.k c' ((x'.R.read p.f p.a p.k).map bV) rfl hrl.out hX.out.1 ?c2 ?c3 ?c4 ?c5)
    case c2=>intro u hu;obtain⟨z,_,rfl⟩:=List.mem_map.1 hu;rfl
    case c3=>have:=NL.out;unfold maxLen;omega
    case c4=>have:=NL.out;omega
    rintro v' w4 hsl hgr hown
    have R:Hid (Below w1.heap.size w1 w4∧ByAt w4 v' (Yo x'.R (l.take (i+1)))∧∀b,v'.ownBlock=some b→w1.heap.size≤b):=by
     have hp:=HPK.out.2
     have e:Yo x'.R (l.take (i+1))=Yo x'.R (l.take i)++x'.R.read p.f p.a p.k:=by
      rw[List.take_add_one,hp]
      simp[Yo]
     have hbr:=HB.out.1
     have h3:=hX.out.2
     refine⟨?_,?_,?_⟩
     ·have t:=Turn.vo (O:=fun k=>w1.heap.size≤k) hgr (fun m hm=>.inl (HB.out.2.2 m (by rw[HNN.out];exact hm)))
      have b3:=hbr.trans (h3.mono hbr.size)
      exact b3.trans (t.Xv (fun i hi=>hi) b3.size)
     ·unfold ByAt
      rw[e,List.map_append,List.length_append,HNN.out]
      have e2:(x'.R.read p.f p.a p.k).length=p.k:=by simp[RamS.read]
      rw[e2]
      exact hsl
     ·intro b hb
      rcases hown with e1|e1
      ·exact HB.out.2.2 b (by rw[HNN.out];exact e1.symm.trans hb)
      ·rw[hb]at e1
       have:=hbr.size
       have:=h3.size
       simp at e1
       omega
    obtain⟨av',cv',rfl,_,_⟩:=SlAt.form hsl
    clear hsl hgr hown
    have i3:(i:Int)≤64:=by have:=(HG.out l x' H1.out.2.2.2).1;omega
    have d5:IntKind.i64.wrap ((i:Int)+1)=i+1:=by simp[IntKind.wrap,IntKind.bits,IntKind.signed];omega
    have HLT:=Lib.hid (And.intro hlt i3)
    clear hlt i3 i1 i2
    go_wp2_with fail
    go_roundw
    case rel=>exact⟨i+1,HLT.out.1,by go_num,R.out⟩
    case measure=>have:=HLT.out.1;simp[intOf];omega
   ·obtain rfl:i=l.length:=by omega
    obtain⟨av0,cv0,rfl,_,_⟩:=SlAt.form hby
    have HB:=Lib.hid (And.intro hb (And.intro hby ho))
    clear hb hby ho
    go_wp2_with fail
    refine bodyPost_ret (v:=.tuple #[.slice av0 (Yo x'.R (l.take l.length)).length cv0,.int .i64 0]) (by simp[results,Tryz.results20,go_sem]) rfl (.inl ⟨_,l,x',retag tag1 w1 0,rfl,?_,fun b hb=>yc _ _ _ _ (HB.out.2.2 b hb),?_,?_,H1.out.2.2.2⟩)
    ·have:=HB.out.2.1
     rw[List.take_length]at this⊢
     exact this
    ·exact H1.out.2.1.step (Step.anew HB.out.1)
    ·exact H1.out.2.2.1.trans (Step.anew HB.out.1)
 ·have H1:=Lib.hid (And.intro hS (And.intro hst hE))
  clear hS hst hE
  have c1:(c==0)=false:=beq_eq_false_iff_ne.2 hc
  go_wp2_with fail
  exact bodyPost_ret (v:=.tuple #[.slice none 0 0,.int .i64 c]) (by simp[results,Tryz.results20,go_sem]) rfl (.inr ⟨c,x',tag1,rfl,hc,H1.out.1,H1.out.2.1,H1.out.2.2⟩)
end
end Go.Proofs.YtnhdmnijiphjjaaGreat
