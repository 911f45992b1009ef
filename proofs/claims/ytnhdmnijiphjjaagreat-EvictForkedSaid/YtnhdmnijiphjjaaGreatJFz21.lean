/- Processes, in plain words: Load and Store over two pages. No program in it. -/
import Derived.Test.YtnhdmnijiphjjaaGreatJFz20
import Derived.Test.YtnhdmnijiphjjaaGreatJFz10
import Derived.Test.YtnhdmnijiphjjaaGreatJFz11
import Derived.Test.YtnhdmnijiphjjaaGreatJFz14
set_option linter.unusedVariables false
set_option linter.unusedSimpArgs false
set_option maxRecDepth 100000
set_option maxHeartbeats 2000000
namespace Go.Proofs.YtnhdmnijiphjjaaGreat
open Go Go.RowKit
section
variable {F:Nat→Prop}{x y z:za}
theorem q8(X:Abs)(a:Ar)(n page:Nat):(X.own a n page).A=X.A:=by unfold Abs.own;split<;>rfl
theorem own_pv(X:Abs)(a:Ar)(n page m pg:Nat)(h:¬(m=n∧pg=page)):(X.own a n page).pv m pg=X.pv m pg:=by
 unfold Abs.own
 split
 ·rfl
 ·exact if_neg h
theorem Jq{X Y:Abs}(h:X.A=Y.A)(n page:Nat):X.area n page=Y.area n page:=by unfold Abs.area;rw[h]
theorem Mine.stay{n page page2:Nat}{wr:Bool}{a a2:Ar}{f f2:Nat}(hm:Mine y a n page f)(hy:Ok0 y)(hn:n<8)(hpg:page<4096)(hne:page≠page2)(g:Ue y n page2 wr a2 (f2:Nat) 0 z):Mine z a n page f:=by
 have hk:=hm.ent
 obtain⟨f',e1,e2,hmem,hu,_⟩:=hy.ok.frame hn hpg hk.1
 have hff:f'=f:=by omega
 subst hff
 have hent:=g.ent1 n page hpg (fun e=>hne e.2) hk.1
 refine⟨hm.lt,by rw[hent];exact hk,fun k2=>?_,fun k2=>?_⟩
 ·obtain⟨s1,s2⟩:=hm.shared k2
  refine⟨g.cr _ _ s1,?_⟩
  have e:z.uh (za.keyF a page)=z.abs.uh (za.keyF a page):=rfl
  rw[e,g.abs rfl]
  have e2:y.abs.uh (za.keyF a page)=true:=s2
  split
  ·unfold Abs.own
   split
   ·show(if _ then true else _)=true
    split
    ·rfl
    ·exact e2
   ·exact e2
  ·exact e2
 ·obtain⟨s1,s2⟩:=hm.own k2
  have hu3:y.P.use f'=3:=by
   rcases hu with u|u
   ·exact u
   ·have:=(hy.ok.cached f' e2).1 u
    rw[s1]at this
    cases this
  obtain⟨b1,b2⟩:=g.backs n page f' hn hpg (fun e=>hne e.2) e2 hu3 s2
  refine⟨?_,b1⟩
  cases e:getL z.CR (f':Int)with
  | none=>rfl
  | some q=>have:=(g.ok.ok.cached f' e2).2 (by rw[e];rfl);omega
theorem Ok0.zez(h:Ok0 x){n:Nat}{a0:Nat}{b:List UInt8}{a a2:Ar}(h0:b.length≤64)(h1:64<a0%64+b.length)(h2:a0+b.length≤262144)(hc:xn x.abs n (a0/64) a)(hc2:xn x.abs n (a0/64+1) a2)(hw:a.write=true)(hw2:a2.write=true)(hroom:10≤x.P.room)(hcalm:x.D.Calm):
  ∃y,x.Zn n a0 b=(0,y)∧Ok0 y∧y.abs=(((x.abs.own a n (a0/64)).own a2 n (a0/64+1)).write a n (a0/64) (a0%64) (b.take (64-a0%64))).write a2 n (a0/64+1) 0 (b.drop (64-a0%64))∧uw 10 x y∧y.D=x.D:=by
 have hpg:a0/64<4096:=by omega
 have hpg2:a0/64+1<4096:=by omega
 have hs:(x.T n).isSome=true:=by
  have:=hc.area
  cases hp:x.T n with
  | none=>unfold Abs.area za.abs at this;dsimp only at this;rw[hp]at this;cases this
  | some _=>rfl
 have hn:n<8:=by
  obtain⟨pr,hp⟩:=Option.isSome_iff_exists.1 hs
  exact h.ok.Zy h.out hp
 have hr:x.xq n a0 b.length=0:=by
  unfold za.xq
  rw[if_neg,if_neg (by omega)]
  rintro(k|k)
  ·omega
  ·rw[Int.toNat_natCast,hs]at k;cases k
 obtain⟨ask0,hD⟩:=h.zc9 hpg hc (wr:=true) (fun _=>hw) (by omega) hcalm
 unfold za.Zn
 rw[if_pos hr]
 simp only[Int.toNat_natCast]
 rcases h.pieces hs true (s:=b.length) (by omega) h0 h2 with⟨e,_⟩|⟨e,_⟩|⟨_,f,f2,b1,b2,y1,y,e,ha,ha2,g,g2⟩
 ·exfalso
  rw[Ur n true x a0 b.length h0 h1,if_pos ask0]at e
  obtain⟨f,a1,prz,e1,e2,e3,g⟩:∃(f:Nat) (a1:Ar) (prz:yg),x.T n=some prz∧z8 prz.A ((a0/64:Nat):Int)=some a1∧(x.askF n (a0/64) true).1.1=(f:Nat)∧Ue x n (a0/64) true a1 (f:Nat) 0 (x.askF n (a0/64) true).2:=by
   obtain⟨prz,hpz⟩:=Option.isSome_iff_exists.1 hs
   obtain⟨f,hf⟩:=Xw h.ok.wf hpz hpg true
   rcases h.askF hpz hpg true with⟨_,e⟩|⟨a1,ha1,_,⟨_,e⟩|⟨_,g⟩⟩
   ·rw[e]at ask0;simp at ask0
   ·rw[e]at ask0;simp at ask0
   ·rw[ask0,hf]at g
    exact⟨f,a1,prz,hpz,ha1,hf,g⟩
  have har:a1=a:=by have:=hc.area;rw[jb e1,e2]at this;cases this;rfl
  subst har
  have hab:=g.abs rfl
  rw[if_pos rfl]at hab
  have hc3:xn (x.askF n (a0/64) true).2.abs n (a0/64+1) a2:=⟨by rw[hab,Jq (q8 _ _ _ _)];exact hc2.area,by rw[hab,own_pv _ _ _ _ _ _ (by omega)];exact hc2.there⟩
  have hk:=g.keeps.room
  have hD1:=hD f a1 _ g
  have:=(g.ok.zc9 hpg2 hc3 (wr:=true) (fun _=>hw2) (by omega) (by rw[hD1];exact hcalm)).1
  rw[if_pos this]at e
  exact e rfl
 ·omega
 ·rw[e]
  dsimp only
  rw[if_pos rfl]
  have e1:b1=a:=by rw[hc.area]at ha;cases ha;rfl
  have e2:b2=a2:=by rw[hc2.area]at ha2;cases ha2;rfl
  subst e1
  subst e2
  have hab:y1.abs=x.abs.own b1 n (a0/64):=g.abs rfl
  have hab2:y.abs=(x.abs.own b1 n (a0/64)).own b2 n (a0/64+1):=by rw[←hab];exact g2.abs rfl
  obtain⟨q,hq,hm⟩:=g.mine rfl rfl
  have hqf:q=f:=by omega
  subst hqf
  obtain⟨q2,hq2,hm2⟩:=g2.mine rfl rfl
  have hqf2:q2=f2:=by omega
  subst hqf2
  have hmy:=hm.stay g.ok hn hpg (by omega) g2
  have hs2:(y.T n).isSome=true:=by rw[(g.keeps.trans g2.keeps).some];exact hs
  obtain⟨pr,hp⟩:=Option.isSome_iff_exists.1 hs2
  have harea:∀pg,y.abs.area n pg=x.abs.area n pg:=fun pg=>by rw[hab2];exact Jq ((q8 _ _ _ _).trans (q8 _ _ _ _)) _ _
  have har:z8 pr.A ((a0/64:Nat):Int)=some b1:=by rw[←jb hp,harea,ha]
  have har2:z8 pr.A ((a0/64+1:Nat):Int)=some b2:=by rw[←jb hp,harea,ha2]
  have l1:(b.take (64-a0%64)).length=64-a0%64:=by rw[List.length_take];omega
  have l2:(b.drop (64-a0%64)).length=b.length-(64-a0%64):=by rw[List.length_drop]
  obtain⟨w1,w2,w3⟩:=g2.ok.wr1 hp hpg har hmy (a0%64) (b.take (64-a0%64)) (by omega)
  have hm3:Mine {y with R:=y.R.write q (a0%64) (b.take (64-a0%64))} b2 n (a0/64+1) q2:=⟨hm2.lt,by rw[w3 _ _ hpg2];exact hm2.ent,hm2.shared,hm2.own⟩
  obtain⟨v1,v2,_⟩:=w1.wr1 (pr:=pr) hp hpg2 har2 hm3 0 (b.drop (64-a0%64)) (by omega)
  have ew:za.Yo [⟨q,a0%64,64-a0%64⟩,⟨q2,0,b.length-(64-a0%64)⟩] b y.R=(y.R.write q (a0%64) (b.take (64-a0%64))).write q2 0 (b.drop (64-a0%64)):=by
   simp only[za.Yo]
   congr 1
   rw[List.take_of_length_le (by omega)]
  rw[ew]
  have hD1:=hD q b1 y1 g
  refine⟨_,rfl,v1,by rw[v2,w2,hab2],?_,?_⟩
  ·have k:=g.keeps.trans g2.keeps
   exact⟨k.zone,k.room,k.bad,k.fix,k.some⟩
  ·show y.D=x.D
   rcases g2.disk with e|e
   ·rw[e,hD1]
   ·rw[e,hD1,hcalm.work]
theorem Ok0.zkw(h:Ok0 x){n:Nat}{a0 s:Nat}{a a2:Ar}(h0:s≤64)(h1:64<a0%64+s)(h2:a0+s≤262144)(hc:xn x.abs n (a0/64) a)(hc2:xn x.abs n (a0/64+1) a2)(hroom:10≤x.P.room)(hcalm:x.D.Calm):
  ∃y,x.Yg n a0 s=((((x.abs.ct a n (a0/64)).drop (a0%64)).take (64-a0%64)++(x.abs.ct a2 n (a0/64+1)).take (s-(64-a0%64)),0),y)∧Ok0 y∧y.abs=x.abs∧uw 10 x y∧y.D=x.D:=by
 have hpg:a0/64<4096:=by omega
 have hpg2:a0/64+1<4096:=by omega
 have hs:(x.T n).isSome=true:=by
  have:=hc.area
  cases hp:x.T n with
  | none=>unfold Abs.area za.abs at this;dsimp only at this;rw[hp]at this;cases this
  | some _=>rfl
 have hn:n<8:=by
  obtain⟨pr,hp⟩:=Option.isSome_iff_exists.1 hs
  exact h.ok.Zy h.out hp
 have hr:x.xq n a0 s=0:=by
  unfold za.xq
  rw[if_neg,if_neg (by omega)]
  rintro(k|k)
  ·omega
  ·rw[Int.toNat_natCast,hs]at k;cases k
 obtain⟨ask0,hD⟩:=h.zc9 hpg hc (wr:=false) (fun e=>by cases e) (by omega) hcalm
 unfold za.Yg
 rw[if_pos hr]
 simp only[Int.toNat_natCast]
 rcases h.pieces hs false (s:=s) (by omega) h0 h2 with⟨e,_⟩|⟨e,_⟩|⟨_,f,f2,b1,b2,y1,y,e,ha,ha2,g,g2⟩
 ·exfalso
  rw[Ur n false x a0 s h0 h1,if_pos ask0]at e
  obtain⟨f,a1,prz,e1,e2,e3,g⟩:∃(f:Nat) (a1:Ar) (prz:yg),x.T n=some prz∧z8 prz.A ((a0/64:Nat):Int)=some a1∧(x.askF n (a0/64) false).1.1=(f:Nat)∧Ue x n (a0/64) false a1 (f:Nat) 0 (x.askF n (a0/64) false).2:=by
   obtain⟨prz,hpz⟩:=Option.isSome_iff_exists.1 hs
   obtain⟨f,hf⟩:=Xw h.ok.wf hpz hpg false
   rcases h.askF hpz hpg false with⟨_,e⟩|⟨a1,ha1,_,⟨_,e⟩|⟨_,g⟩⟩
   ·rw[e]at ask0;simp at ask0
   ·rw[e]at ask0;simp at ask0
   ·rw[ask0,hf]at g
    exact⟨f,a1,prz,hpz,ha1,hf,g⟩
  have hab:(x.askF n (a0/64) false).2.abs=x.abs:=g.abs rfl
  have hc3:xn (x.askF n (a0/64) false).2.abs n (a0/64+1) a2:=by rw[hab];exact hc2
  have hk:=g.keeps.room
  have hD1:=hD f a1 _ g
  have:=(g.ok.zc9 hpg2 hc3 (wr:=false) (fun e=>by cases e) (by omega) (by rw[hD1];exact hcalm)).1
  rw[if_pos this]at e
  exact e rfl
 ·omega
 ·rw[e]
  dsimp only
  rw[if_pos rfl]
  have e1:b1=a:=by rw[hc.area]at ha;cases ha;rfl
  have e2:b2=a2:=by rw[hc2.area]at ha2;cases ha2;rfl
  subst e1
  subst e2
  have hab:y1.abs=x.abs:=g.abs rfl
  have hab2:y.abs=x.abs:=(g2.abs rfl).trans hab
  have hD1:=hD f b1 y1 g
  have hb2:=g2.bytes hn hpg2 (by rw[hab2];exact ha2)
  have hb1:y.R.read f 0 64=x.abs.ct b1 n (a0/64):=by
   obtain⟨k1,k2⟩:=g.frame rfl
   have hent:=g2.ent1 n (a0/64) hpg (by omega) k1
   have hs2:(y.T n).isSome=true:=by rw[(g.keeps.trans g2.keeps).some];exact hs
   obtain⟨pr,hp⟩:=Option.isSome_iff_exists.1 hs2
   have har:z8 pr.A ((a0/64:Nat):Int)=some b1:=by rw[←jb hp,hab2,ha]
   have:=zfy g2.ok.ok hn hp hpg har (by rw[hent];exact k1)
   rw[hent,k2,Int.toNat_natCast,hab2]at this
   exact this.symm
  have er:Z9 y.R [⟨f,a0%64,64-a0%64⟩,⟨f2,0,s-(64-a0%64)⟩]=((x.abs.ct b1 n (a0/64)).drop (a0%64)).take (64-a0%64)++(x.abs.ct b2 n (a0/64+1)).take (s-(64-a0%64)):=by
   unfold Z9
   simp only[List.flatMap_cons,List.flatMap_nil,List.append_nil]
   rw[Qj _ _ _ _ (by omega),hb1,Qj _ f2 _ _ (by omega),hb2,hab2,List.drop_zero]
  rw[er]
  refine⟨y,rfl,g2.ok,hab2,g.keeps.trans g2.keeps,?_⟩
  rcases g2.disk with e|e
  ·rw[e,hD1]
  ·rw[e,hD1,hcalm.work]
end
instance (a:Ar)(p:Int):Decidable (a.Has p):=inferInstanceAs (Decidable (_∧_))
def za.xh(x:za)(n g:Nat):za:={x with R:=x.R.write g 0 (List.replicate 64 0),P:=x.P.set g 2,T:=fun m=>if m=n then some ⟨⟨g,[g]⟩,[],[]⟩else x.T m}
def Abs.spawn(X:Abs)(n:Nat):Abs:={X with A:=fun m=>if m=n then some ([],[])else X.A m}
def Xz(a:Ar):PV:=if a.kind=1 then .own (List.replicate 64 0)else .file
def Abs.map(X:Abs)(n:Nat)(a:Ar)(L:List Ar):Abs:={X with A:=(fun m=>if m=n then(X.A n).map fun p=>(L,p.2)else X.A m),pv:=fun m pg=>if m=n∧pg<4096∧a.Has (pg:Int)then Xz a else X.pv m pg}
theorem jh{l:List Ar}(h:OkL l){p:Int}{a:Ar}:z8 l p=some a↔a∈l∧a.Has p:=by
 constructor
 ·intro e
  have h1:=List.mem_of_find?_eq_some e
  have h2:=List.find?_some e
  simp only[decide_eq_true_eq]at h2
  exact⟨h1,h2⟩
 ·rintro⟨h1,h2⟩
  induction l with
  | nil=>cases h1
  | cons b l ih=>
   rw[Z4]
   rcases List.mem_cons.1 h1 with rfl|h3
   ·exact if_pos h2
   ·rw[if_neg]
    ·exact ih h.tail h3
    ·intro e
     have:=h.head a h3
     unfold Ar.Has at h2
     omega
theorem zjc{l l':List Ar}{a:Ar}(h:OkL l)(h':OkL l')(hm:∀b,b∈l'↔b=a∨b∈l)(hd:∀b∈l,∀p,a.Has p→¬b.Has p)(p:Int)[Decidable (a.Has p)]:z8 l' p=if a.Has p then some a else z8 l p:=by
 split
 ·rename_i k
  exact(jh h').2 ⟨(hm a).2 (.inl rfl),k⟩
 ·rename_i k
  cases e:z8 l p with
  | none=>
   cases e2:z8 l' p with
   | none=>rfl
   | some b=>
    obtain⟨h1,h2⟩:=(jh h').1 e2
    rcases(hm b).1 h1 with rfl|h3
    ·exact absurd h2 k
    ·rw[(jh h).2 ⟨h3,h2⟩]at e;cases e
  | some b=>
   obtain⟨h1,h2⟩:=(jh h).1 e
   exact(jh h').2 ⟨(hm b).2 (.inr h1),h2⟩
section
variable {x y:za}
theorem za4(P:zo)(D:zw)(hP:∀f,P.use f=0∨P.use f=1)(hD:∀s,s<192→(D.cur s).length=64):Ok0 (.start RamS.none P D):=by
 have hno:∀n f,¬za.owns (.start RamS.none P D) n f:=fun n f ⟨pr,h,_⟩=>by cases h
 have hent:∀n page,za.ent (.start RamS.none P D) n page=Ent.none:=fun n page=>rfl
 refine⟨⟨⟨fun n pr h=>by(cases h),fun n m f h=>absurd h (hno n f),fun n pr h=>by(cases h),fun f=>⟨List.Pairwise.nil,fun p hp=>by(cases hp)⟩,⟨by simp[za.start],fun l hl=>?_⟩,fun f _ hb=>by(cases hb),fun k v hk=>(by simp[za.start,getL]at hk),hD,⟨by simp[za.start],by simp[za.start]⟩⟩,fun f n page _ _ _=>?_,fun k n page _ _ _=>?_,fun f _ hB=>absurd rfl hB,fun f _ hu=>?_,fun f _ hu=>?_,fun f _=>?_,fun k f=>by simp[za.start,getL],fun k v hk=>(by simp[za.start,getL]at hk),fun n pr page h=>by(cases h)⟩,fun _ _=>rfl⟩
 ·simp[za.start]at hl
  subst hl
  exact⟨List.Pairwise.nil,fun p hp=>by cases hp⟩
 ·rw[hent]
  constructor
  ·intro h;cases h
  ·rintro⟨h,_⟩;cases h
 ·rw[hent]
  constructor
  ·intro h
   have:(List.replicate 32 ([]:List (Int×Int))).getD k []=[]:=by
    rw[List.getD_eq_getElem?_getD,List.getElem?_replicate]
    split<;>rfl
   rw[show(za.start RamS.none P D).S=List.replicate 32 []from rfl,this]at h
   cases h
  ·rintro⟨h,_⟩;cases h
 ·have:P.use f=3:=hu
  rcases hP f with e|e<;>omega
 ·have:P.use f=2:=hu
  rcases hP f with e|e<;>omega
 ·have:P.use f≠4:=by rcases hP f with e|e<;>omega
  constructor
  ·intro e;exact absurd e this
  ·intro e;simp[za.start,getL]at e
theorem zih(R:RamS)(P:zo)(g:Nat)(hg:g<1024)(hb:R.bad g=false)(good:∀f,f<1024→P.use f=1→R.bad f=false):xc ⟨R.write g 0 (List.replicate 64 0),P.set g 2,⟨g,[g]⟩⟩ (fun p=>if p=[]then some g else none):=by
 refine⟨⟨if_pos rfl,fun p f hp=>?_,fun p q f hp hq=>?_,fun f=>?_,by simp,fun p f d hp hl hd=>?_,fun p d k hp=>?_,fun p f d hp hl hd=>?_⟩,fun f hf=>?_,fun f hf hu=>?_⟩
 ·split at hp
  ·rename_i e;cases hp;subst e;exact⟨hg,hb,by simp,fun d hd=>by cases hd⟩
  ·cases hp
 ·split at hp
  ·split at hq
   ·rename_i e1 e2;rw[e1,e2]
   ·cases hq
  ·cases hp
 ·simp only[List.mem_singleton]
  constructor
  ·rintro rfl;exact⟨[],if_pos rfl⟩
  ·rintro⟨p,hp⟩
   split at hp
   ·cases hp;rfl
   ·cases hp
 ·split at hp
  ·rename_i e
   cases hp
   subst e
   rw[Vd _ _ _ hd,if_neg (by simp)]
  ·cases hp
 ·rw[if_neg (by simp)]at hp;cases hp
 ·split at hp
  ·rename_i e;subst e;simp at hl
  ·cases hp
 ·simp at hf
  subst hf
  exact if_pos rfl
 ·have hu:(if f=g then 2 else P.use f)=1:=hu
  split at hu
  ·cases hu
  ·exact good f hf hu
theorem Ok0.spawn(h:Ok0 x){n g:Nat}(hn:n<8)(hx:x.T n=none)(hg:x.P.next false=some g):Ok0 (x.xh n g)∧(x.xh n g).abs=x.abs.spawn n∧x.P.room≤(x.xh n g).P.room+1∧(x.xh n g).D=x.D:=by
 obtain⟨hg1,hav,hgu⟩:=Zo hg
 have hbad:=h.ok.wf.je hg1 (by omega)
 have hT:∀m,(x.xh n g).T m=if m=n then some ⟨⟨g,[g]⟩,[],[]⟩else x.T m:=fun _=>rfl
 have hu:∀f,(x.xh n g).P.use f=if f=g then 2 else x.P.use f:=fun _=>rfl
 have hby:∀f i,f≠g→(x.xh n g).R.b f i=x.R.b f i:=fun f i hf=>by
  show(x.R.write g 0 _).b f i=_
  rw[uu,if_neg fun e=>hf e.1]
 have hbd:(x.xh n g).R.bad=x.R.bad:=rfl
 have hno:∀m,¬x.owns m g:=fun m ho=>by have:=(h.ok.wf.yt ho).2.1;omega
 have own:∀m f,(x.xh n g).owns m f↔(m=n∧f=g)∨x.owns m f:=fun m f=>by
  unfold za.owns
  rw[hT]
  by_cases e:m=n
  ·rw[if_pos e]
   constructor
   ·rintro⟨_,e2,hf⟩
    cases e2
    simp at hf
    exact .inl ⟨e,hf⟩
   ·rintro(⟨_,rfl⟩|⟨pr,e2,_⟩)
    ·exact⟨_,rfl,by simp⟩
    ·rw[e,hx]at e2;cases e2
  ·rw[if_neg e]
   constructor
   ·exact .inr
   ·rintro(⟨e2,_⟩|a)
    ·exact absurd e2 e
    ·exact a
 have good:∀f,f<1024→x.P.use f=1→x.R.bad f=false:=fun f hf hu=>h.ok.wf.je hf (by omega)
 have hbad6:∀f,f<1024→(x.xh n g).R.bad f=true→(x.xh n g).P.use f=6:=fun f hf hb=>by
  rw[hbd]at hb
  rw[hu,if_neg (fun e=>by rw[e,hbad]at hb;cases hb)]
  exact h.ok.wf.bad f hf hb
 have rpt:∀m pr,x.T m=some pr→∃N,xc ⟨x.R,x.P,pr.T⟩ N∧xc ⟨(x.xh n g).R,(x.xh n g).P,pr.T⟩ N:=fun m pr hm=>by
  obtain⟨N,k⟩:=h.ok.wf.rpt m pr hm
  have ne:∀f∈pr.T.own,f≠g:=fun f hf e=>hno m ⟨pr,hm,e▸hf⟩
  refine⟨N,k,k.same (fun f _=>by rw[hbd]) (fun f hf i=>hby f i (ne f hf)) (fun f hf=>by rw[hu,if_neg (ne f hf)];exact(h.ok.wf.yt ⟨pr,hm,hf⟩).2.1) fun f hf hu1=>?_⟩
  cases hb:(x.xh n g).R.bad f with
  | false=>rfl
  | true=>have:=hbad6 f hf hb;omega
 have ent:∀m page,page<4096→(x.xh n g).ent m page=x.ent m page:=fun m page hpg=>by
  by_cases e:m=n
  ·have e1:x.ent m page=Ent.none:=Yk (by rw[e];exact hx) page
   rw[e1]
   unfold za.ent
   rw[hT,if_pos e]
   have:=(zih x.R x.P g hg1 hbad good).tree.get page hpg
   dsimp only at this⊢
   rw[show(x.xh n g).R=x.R.write g 0 (List.replicate 64 0)from rfl,this]
   unfold mapOf
   dsimp only
   rw[if_neg (by simp[high])]
  ·unfold za.ent
   rw[hT,if_neg e]
   cases hm:x.T m with
   | none=>rfl
   | some pr=>
    obtain⟨N,k1,k2⟩:=rpt m pr hm
    dsimp only
    have a:=k1.tree.get page hpg
    have b:=k2.tree.get page hpg
    dsimp only at a b
    rw[a,b,zaq k1.tree fun f hf i=>hby f i fun e=>hno m ⟨pr,hm,e▸hf⟩]
 refine⟨⟨⟨⟨fun m pr hm=>?_,fun m k f h1 h2=>?_,fun m pr hm=>?_,h.ok.wf.back,h.ok.wf.slots,hbad6,h.ok.wf.keys,h.ok.wf.secs,h.ok.wf.nd⟩,fun f m page h1 h2 h3=>by rw[ent m page h3];exact h.ok.backE f m page h1 h2 h3,fun k m page h1 h2 h3=>by rw[ent m page h3];exact h.ok.slotE k m page h1 h2 h3,fun f h1 h2=>?_,fun f h1 h2=>?_,fun f h1 h2=>?_,fun f h1=>?_,h.ok.cacheE,h.ok.cacheK,fun m pr page hm hpg=>?_⟩,fun m hm=>?_⟩,?_,?_,rfl⟩
 ·rw[hT]at hm
  by_cases e:m=n
  ·rw[if_pos e]at hm
   cases hm
   exact⟨_,zih x.R x.P g hg1 hbad good⟩
  ·rw[if_neg e]at hm
   obtain⟨N,_,k⟩:=rpt m pr hm
   exact⟨N,k⟩
 ·rcases(own m f).1 h1 with⟨a,b⟩|a<;>rcases(own k f).1 h2 with⟨c,d⟩|c
  ·rw[a,c]
  ·rw[b]at c;exact absurd c (hno k)
  ·rw[d]at a;exact absurd a (hno m)
  ·exact h.ok.wf.apart m k f a c
 ·rw[hT]at hm
  by_cases e:m=n
  ·rw[if_pos e]at hm
   cases hm
   exact⟨⟨fun a ha=>(by cases ha),List.Pairwise.nil⟩,by simp⟩
  ·rw[if_neg e]at hm
   exact h.ok.wf.Zg m pr hm
 ·have:=h.ok.useB f h1 h2
  rw[hu,if_neg (fun e=>by rw[e]at this;omega)]
  exact this
 ·rw[hu]at h2
  split at h2
  ·cases h2
  ·exact h.ok.anon f h1 h2
 ·rw[hu]at h2
  split at h2
  ·rename_i e;exact⟨n,(own n f).2 (.inl ⟨rfl,e⟩)⟩
  ·obtain⟨m,hm⟩:=h.ok.table f h1 h2
   exact⟨m,(own m f).2 (.inr hm)⟩
 ·rw[hu]
  split
  ·rename_i e
   have:=h.ok.cached f h1
   constructor
   ·intro a;cases a
   ·intro a
    have:=this.2 a
    rw[e]at this;omega
  ·exact h.ok.cached f h1
 ·rw[ent m page hpg]
  rw[hT]at hm
  by_cases e:m=n
  ·rw[e,Yk hx]
   exact⟨fun a=>absurd rfl a,fun _ _ a=>by(have:(0:Nat)=1:=a;omega),fun _ _ _ a=>by(have:(0:Nat)=1:=a;omega),fun _ _ a=>by(have:(0:Nat)=1:=a;omega),fun _ _ a=>by(have:(0:Nat)=2:=a;omega)⟩
  ·rw[if_neg e]at hm
   have a:=h.ok.area m pr page hm hpg
   exact⟨a.find,a.own,a.file,a.shared,a.slot⟩
 ·rw[hT,if_neg (by omega)]
  exact h.out m hm
 ·have hrd:∀f,f≠g→(x.xh n g).R.read f 0 64=x.R.read f 0 64:=fun f hf=>Z8 fun i _=>hby f i hf
  unfold za.abs Abs.spawn
  rw[Abs.mk.injEq]
  refine⟨?_,?_,?_,rfl,rfl⟩
  ·funext m
   rw[hT]
   by_cases e:m=n
   ·rw[if_pos e,if_pos e];rfl
   ·rw[if_neg e,if_neg e]
  ·funext m page
   by_cases hpg:page<4096
   ·rw[if_pos hpg]
    dsimp only
    rw[if_pos hpg]
    unfold za.pv
    rw[hT]
    by_cases e:m=n
    ·rw[if_pos e,e,hx]
     rfl
    ·rw[if_neg e]
     cases hm:x.T m with
     | none=>rfl
     | some pr=>
      dsimp only
      cases ha:z8 pr.A (page:Int)with
      | none=>rfl
      | some a=>
       dsimp only
       rw[ent m page hpg]
       refine Qk rfl rfl fun hk=>?_
       have hm8:=h.ok.Zy h.out hm
       obtain⟨f,e1,e2,_,e3,_⟩:=h.ok.frame hm8 hpg hk
       rw[e1,Int.toNat_natCast]
       exact hrd f fun e=>by rw[e]at e3;omega
   ·rw[if_neg hpg]
    dsimp only
    rw[if_neg hpg]
  ·funext k
   by_cases hk:uz k
   ·rw[if_pos hk]
    dsimp only
    rw[if_pos hk]
    refine jq h.ok k rfl rfl fun f i hf hu4 hi=>hby f i fun e=>by rw[e]at hu4;omega
   ·rw[if_neg hk]
    dsimp only
    rw[if_neg hk]
 ·exact room_le x.P g 2 (by omega) hg1
theorem Ok0.map(h:Ok0 x){n:Nat}{pr:yg}(hp:x.T n=some pr){a:Ar}(ha:a.xe)(hno:anyA a pr.A=false)(hlen:pr.A.length<16){L:List Ar}(hperm:L.Perm (pr.A++[a]))(hsort:L.Pairwise fun x y=>¬y.from_<x.from_):
  Ok0 (x.put n ⟨pr.T,L,pr.Q⟩)∧(x.put n ⟨pr.T,L,pr.Q⟩).abs=x.abs.map n a L:=by
 have hOk:=(h.ok.wf.Zg n pr hp).1
 have hL:L=insA pr.A a:=zen hOk ha hno hperm hsort
 have hm:∀b,b∈L↔b=a∨b∈pr.A:=fun b=>by rw[hL];exact zfi
 have hd:∀b∈pr.A,∀p,a.Has p→¬b.Has p:=fun b hb p h1 h2=>by
  have hnil:¬Vv a b=true:=fun e=>by
   unfold anyA at hno
   rw[List.any_eq_false]at hno
   exact hno b hb e
  rw[Us ha (hOk.1 b hb)]at hnil
  unfold Ar.Has at h1 h2
  omega
 have hL':OkL L:=by
  refine⟨fun b hb=>((hm b).1 hb).elim (fun e=>e▸ha) (hOk.1 b),?_⟩
  have hs:L.Pairwise fun x y=>x.from_<y.from_:=by
   rw[hL]
   refine Jh (hOk.2.imp_of_mem fun {u v} hu hv huv=>by have:=(hOk.1 u hu).2.2.2.1;omega) fun b hb e=>?_
   have hs:=ha.2.2.2.1
   have hs2:=(hOk.1 b hb).2.2.2.1
   exact hd b hb a.from_ ⟨by omega,by omega⟩ ⟨by omega,by omega⟩
  refine hs.imp_of_mem fun {u v} hu hv huv=>?_
  have su:=(((hm u).1 hu).elim (fun e=>e▸ha) (hOk.1 u):u.xe).2.2.2.1
  have sv:=(((hm v).1 hv).elim (fun e=>e▸ha) (hOk.1 v):v.xe).2.2.2.1
  by_cases hlt:u.from_+u.pages≤v.from_
  ·exact hlt
  ·exfalso
   rcases(hm u).1 hu with rfl|hu'<;>rcases(hm v).1 hv with rfl|hv'
   ·omega
   ·exact hd v hv' v.from_ ⟨by omega,by omega⟩ ⟨by omega,by omega⟩
   ·exact hd u hu' v.from_ ⟨by omega,by omega⟩ ⟨by omega,by omega⟩
   ·have hpw:=hOk.2
    obtain⟨i,hi,rfl⟩:=List.getElem_of_mem hu'
    obtain⟨j,hj,rfl⟩:=List.getElem_of_mem hv'
    rcases Nat.lt_trichotomy i j with hij|hij|hij
    ·have:=List.pairwise_iff_getElem.1 hpw i j hi hj hij;omega
    ·subst hij;omega
    ·have:=List.pairwise_iff_getElem.1 hpw j i hj hi hij;omega
 have hfind:∀p:Int,z8 L p=if a.Has p then some a else z8 pr.A p:=fun p=>zjc hOk hL' hm hd p
 have hlen':L.length≤16:=by rw[hperm.length_eq];simp;omega
 have hT:∀m,(x.put n ⟨pr.T,L,pr.Q⟩).T m=if m=n then some ⟨pr.T,L,pr.Q⟩else x.T m:=fun _=>rfl
 have own:∀m f,(x.put n ⟨pr.T,L,pr.Q⟩).owns m f↔x.owns m f:=fun m f=>by
  unfold za.owns
  rw[hT]
  by_cases e:m=n
  ·rw[if_pos e,e,hp]
   constructor
   ·rintro⟨_,e2,hf⟩;cases e2;exact⟨pr,rfl,hf⟩
   ·rintro⟨_,e2,hf⟩;cases e2;exact⟨_,rfl,hf⟩
  ·rw[if_neg e]
 have ent:∀m page,(x.put n ⟨pr.T,L,pr.Q⟩).ent m page=x.ent m page:=fun m page=>by
  unfold za.ent
  rw[hT]
  by_cases e:m=n
  ·rw[if_pos e,e,hp];rfl
  ·rw[if_neg e];rfl
 have hnone:∀page:Nat,a.Has (page:Int)→z8 pr.A (page:Int)=none:=fun page hh=>by
  cases e:z8 pr.A (page:Int)with
  | none=>rfl
  | some b=>
   obtain⟨h1,h2⟩:=(jh hOk).1 e
   exact absurd h2 (hd b h1 _ hh)
 refine⟨⟨⟨⟨fun m pm hm'=>?_,fun m k f h1 h2=>h.ok.wf.apart m k f ((own m f).1 h1) ((own k f).1 h2),fun m pm hm'=>?_,h.ok.wf.back,h.ok.wf.slots,h.ok.wf.bad,h.ok.wf.keys,h.ok.wf.secs,h.ok.wf.nd⟩,fun f m page h1 h2 h3=>by rw[ent];exact h.ok.backE f m page h1 h2 h3,fun k m page h1 h2 h3=>by rw[ent];exact h.ok.slotE k m page h1 h2 h3,h.ok.useB,h.ok.anon,fun f h1 h2=>?_,h.ok.cached,h.ok.cacheE,h.ok.cacheK,fun m pm page hm' hpg=>?_⟩,fun m hm'=>?_⟩,?_⟩
 ·rw[hT]at hm'
  by_cases e:m=n
  ·rw[if_pos e]at hm'
   cases hm'
   exact h.ok.wf.rpt n pr hp
  ·rw[if_neg e]at hm'
   exact h.ok.wf.rpt m pm hm'
 ·rw[hT]at hm'
  by_cases e:m=n
  ·rw[if_pos e]at hm'
   cases hm'
   exact⟨hL',hlen'⟩
  ·rw[if_neg e]at hm'
   exact h.ok.wf.Zg m pm hm'
 ·obtain⟨m,hm'⟩:=h.ok.table f h1 h2
  exact⟨m,(own m f).2 hm'⟩
 ·rw[ent]
  rw[hT]at hm'
  by_cases e:m=n
  ·rw[if_pos e]at hm'
   cases hm'
   rw[e]
   have k:=h.ok.area n pr page hp hpg
   by_cases hh:a.Has (page:Int)
   ·have k0:(x.ent n page).kind=0:=by
     by_cases z:(x.ent n page).kind=0
     ·exact z
     ·obtain⟨b,hb⟩:=k.find z
      rw[hnone page hh]at hb
      cases hb
    exact⟨fun z=>absurd k0 z,fun _ _ z=>by omega,fun _ _ _ z=>by omega,fun _ _ z=>by omega,fun _ _ z=>by omega⟩
   ·have hf:z8 L (page:Int)=z8 pr.A (page:Int):=by rw[hfind,if_neg hh]
    exact⟨by rw[hf];exact k.find,by rw[hf];exact k.own,by rw[hf];exact k.file,by rw[hf];exact k.shared,by rw[hf];exact k.slot⟩
  ·rw[if_neg e]at hm'
   have k:=h.ok.area m pm page hm' hpg
   exact⟨k.find,k.own,k.file,k.shared,k.slot⟩
 ·rw[hT]
  by_cases e:m=n
  ·have:=h.ok.Zy h.out hp;omega
  ·rw[if_neg e];exact h.out m hm'
 ·unfold za.abs Abs.map
  rw[Abs.mk.injEq]
  refine⟨?_,?_,rfl,rfl,rfl⟩
  ·funext m
   rw[hT]
   by_cases e:m=n
   ·rw[if_pos e,if_pos e];dsimp only;rw[hp];rfl
   ·rw[if_neg e,if_neg e]
  ·funext m page
   by_cases hpg:page<4096
   ·rw[if_pos hpg]
    dsimp only
    rw[if_pos hpg]
    unfold za.pv
    rw[hT]
    by_cases e:m=n
    ·rw[if_pos e,e,hp]
     dsimp only
     rw[hfind,ent]
     by_cases hh:a.Has (page:Int)
     ·rw[if_pos hh,if_pos ⟨rfl,hpg,hh⟩]
      dsimp only
      have k:=h.ok.area n pr page hp hpg
      have k0:(x.ent n page).kind=0:=by
       by_cases z:(x.ent n page).kind=0
       ·exact z
       ·obtain⟨b,hb⟩:=k.find z
        rw[hnone page hh]at hb
        cases hb
      unfold za.pv1 Xz
      rw[k0,if_neg (by omega),if_neg (by omega),if_neg (by omega)]
     ·rw[if_neg hh,if_neg fun z=>hh z.2.2]
      rfl
    ·rw[if_neg e,if_neg fun z=>e z.1]
     cases x.T m with
     | none=>rfl
     | some pm=>
      dsimp only
      cases z8 pm.A (page:Int)with
      | none=>rfl
      | some b=>dsimp only;rw[ent];rfl
   ·rw[if_neg hpg,if_neg (fun z:m=n∧page<4096∧a.Has (page:Int)=>hpg z.2.1)]
    dsimp only
    rw[if_neg hpg]
end
def Abs.setQ(X:Abs)(n:Nat)(Q:List (Int×Int)):Abs:={X with A:=fun m=>if m=n then(X.A n).map fun p=>(p.1,Q)else X.A m}
section
variable {x y:za}
theorem Ok0.sigs(h:Ok0 x){n:Nat}{pr:yg}(hp:x.T n=some pr)(Q:List (Int×Int)):
  Ok0 (x.put n ⟨pr.T,pr.A,Q⟩)∧(x.put n ⟨pr.T,pr.A,Q⟩).abs=x.abs.setQ n Q:=by
 have hT:∀m,(x.put n ⟨pr.T,pr.A,Q⟩).T m=if m=n then some ⟨pr.T,pr.A,Q⟩else x.T m:=fun _=>rfl
 have own:∀m f,(x.put n ⟨pr.T,pr.A,Q⟩).owns m f↔x.owns m f:=fun m f=>by
  unfold za.owns
  rw[hT]
  by_cases e:m=n
  ·rw[if_pos e,e,hp]
   constructor
   ·rintro⟨_,e2,hf⟩;cases e2;exact⟨pr,rfl,hf⟩
   ·rintro⟨_,e2,hf⟩;cases e2;exact⟨_,rfl,hf⟩
  ·rw[if_neg e]
 have ent:∀m page,(x.put n ⟨pr.T,pr.A,Q⟩).ent m page=x.ent m page:=fun m page=>by
  unfold za.ent
  rw[hT]
  by_cases e:m=n
  ·rw[if_pos e,e,hp];rfl
  ·rw[if_neg e];rfl
 refine⟨⟨⟨⟨fun m pm hm'=>?_,fun m k f h1 h2=>h.ok.wf.apart m k f ((own m f).1 h1) ((own k f).1 h2),fun m pm hm'=>?_,h.ok.wf.back,h.ok.wf.slots,h.ok.wf.bad,h.ok.wf.keys,h.ok.wf.secs,h.ok.wf.nd⟩,fun f m page h1 h2 h3=>by rw[ent];exact h.ok.backE f m page h1 h2 h3,fun k m page h1 h2 h3=>by rw[ent];exact h.ok.slotE k m page h1 h2 h3,h.ok.useB,h.ok.anon,fun f h1 h2=>?_,h.ok.cached,h.ok.cacheE,h.ok.cacheK,fun m pm page hm' hpg=>?_⟩,fun m hm'=>?_⟩,?_⟩
 ·rw[hT]at hm'
  by_cases e:m=n
  ·rw[if_pos e]at hm'
   cases hm'
   exact h.ok.wf.rpt n pr hp
  ·rw[if_neg e]at hm'
   exact h.ok.wf.rpt m pm hm'
 ·rw[hT]at hm'
  by_cases e:m=n
  ·rw[if_pos e]at hm'
   cases hm'
   exact h.ok.wf.Zg n pr hp
  ·rw[if_neg e]at hm'
   exact h.ok.wf.Zg m pm hm'
 ·obtain⟨m,hm'⟩:=h.ok.table f h1 h2
  exact⟨m,(own m f).2 hm'⟩
 ·rw[ent]
  rw[hT]at hm'
  by_cases e:m=n
  ·rw[if_pos e]at hm'
   cases hm'
   rw[e]
   have k:=h.ok.area n pr page hp hpg
   exact⟨k.find,k.own,k.file,k.shared,k.slot⟩
  ·rw[if_neg e]at hm'
   have k:=h.ok.area m pm page hm' hpg
   exact⟨k.find,k.own,k.file,k.shared,k.slot⟩
 ·rw[hT]
  by_cases e:m=n
  ·have:=h.ok.Zy h.out hp;omega
  ·rw[if_neg e];exact h.out m hm'
 ·unfold za.abs Abs.setQ
  rw[Abs.mk.injEq]
  refine⟨?_,?_,rfl,rfl,rfl⟩
  ·funext m
   rw[hT]
   by_cases e:m=n
   ·rw[if_pos e,if_pos e];dsimp only;rw[hp];rfl
   ·rw[if_neg e,if_neg e]
  ·funext m page
   by_cases hpg:page<4096
   ·dsimp only
    rw[if_pos hpg,if_pos hpg]
    unfold za.pv
    rw[hT]
    by_cases e:m=n
    ·rw[if_pos e,e,hp]
     dsimp only
     rw[ent]
     rfl
    ·rw[if_neg e]
     cases x.T m with
     | none=>rfl
     | some pm=>
      dsimp only
      cases z8 pm.A (page:Int)with
      | none=>rfl
      | some b=>dsimp only;rw[ent];rfl
   ·dsimp only
    rw[if_neg hpg,if_neg hpg]
theorem za9(R:RamS)(f a k:Nat):(R.read f a k).length=k:=by simp[RamS.read]
theorem Ok0.zbq(h:Ok0 x){k:Int×Int}(hk:uz k):(x.abs.file k).length=64:=by
 show(if uz k then x.Zr k else []).length=64
 rw[if_pos hk]
 unfold za.Zr
 split
 ·exact za9 ..
 ·exact h.ok.wf.secs _ (Y0 hk)
end
theorem zh6(n f:Nat):(Vf n).use f=if f<32*n then 1 else 0:=by
 induction n with
 | zero=>rfl
 | succ k ih=>
  show(if 32*k≤f∧f<32*k+32 then(if(Vf k).use f=6 then 6 else 1)else(Vf k).use f)=_
  rw[ih]
  by_cases h1:f<32*k
  ·rw[if_pos h1,if_neg (by omega),if_pos (by omega)]
  ·rw[if_neg h1]
   by_cases h2:f<32*(k+1)
   ·rw[if_pos (by omega),if_pos h2];rfl
   ·rw[if_neg (by omega),if_neg h2]
theorem zcm(n m f:Nat):(Xc n m).use f=if f<32*n∨(512≤f∧f<512+32*m)then 1 else 0:=by
 induction m with
 | zero=>
  show(Vf n).use f=_
  rw[zh6]
  by_cases h1:f<32*n
  ·rw[if_pos h1,if_pos (.inl h1)]
  ·rw[if_neg h1,if_neg (by omega)]
 | succ k ih=>
  show(if 32*(16+k)≤f∧f<32*(16+k)+32 then(if(Xc n k).use f=6 then 6 else 1)else(Xc n k).use f)=_
  rw[ih]
  by_cases h1:f<32*n∨(512≤f∧f<512+32*k)
  ·rw[if_pos h1,if_pos (by omega:f<32*n∨(512≤f∧f<512+32*(k+1)))]
   split<;>rfl
  ·rw[if_neg h1]
   by_cases h2:f<32*n∨(512≤f∧f<512+32*(k+1))
   ·rw[if_pos (by omega),if_pos h2];rfl
   ·rw[if_neg (by omega),if_neg h2]
theorem znw(n s:Nat):(Vf n).zone s=(if s<n then 2 else 0)∧(Vf n).iso s=false:=by
 induction n with
 | zero=>exact⟨rfl,rfl⟩
 | succ k ih=>
  refine⟨?_,?_⟩
  ·show(if s=k then 2 else(Vf k).zone s)=_
   rw[ih.1]
   by_cases h1:s=k
   ·rw[if_pos h1,if_pos (by omega)]
   ·rw[if_neg h1]
    by_cases h2:s<k
    ·rw[if_pos h2,if_pos (by omega)]
    ·rw[if_neg h2,if_neg (by omega)]
  ·show(if s=k then false else(Vf k).iso s)=_
   rw[ih.2];split<;>rfl
theorem znx(n m s:Nat)(hs:s<16):(Xc n m).zone s=(if s<n then 2 else 0)∧(Xc n m).iso s=false:=by
 induction m with
 | zero=>exact znw n s
 | succ k ih=>
  refine⟨?_,?_⟩
  ·show(if s=16+k then 3 else(Xc n k).zone s)=_
   rw[if_neg (by omega)];exact ih.1
  ·show(if s=16+k then false else(Xc n k).iso s)=_
   rw[if_neg (by omega)];exact ih.2
theorem Jn(k:Nat):∀N,k≤N→(List.range N).countP (fun f=>decide (f<k))=k
 | 0,h=>by simp;omega
 | N+1,h=>by
  rw[List.range_succ,List.countP_append]
  by_cases e:k=N+1
  ·subst e
   rw[List.countP_eq_length.2 (fun a ha=>by simp at ha⊢;omega)]
   simp
  ·rw[Jn k N (by omega)]
   simp
   omega
theorem zgg(n m:Nat)(hn:n≤16):32*n≤(Xc n m).room:=by
 unfold zo.room
 rw[←Jn (32*n) 1024 (by omega)]
 refine List.countP_mono_left fun f hf h=>?_
 have h:f<32*n:=by simpa using h
 unfold zo.Xd
 have z:=znx n m (f/32) (by omega)
 rw[zcm n m f,if_pos (.inl h),z.1,z.2,if_pos (by omega)]
 decide
def Abs.start(file:Int×Int→List UInt8)(cur:Nat→List UInt8):Abs:=⟨fun _=>none,fun _ _=>.none,file,fun _=>false,cur⟩
theorem zb8(P:zo)(D:zw):(za.start RamS.none P D).abs=.start (fun k=>if uz k then D.cur (za.vk k)else []) D.cur:=by
 unfold za.abs Abs.start
 rw[Abs.mk.injEq]
 refine⟨rfl,?_,?_,rfl,rfl⟩
 ·funext n page
  unfold za.pv
  show(if page<4096 then PV.none else .none)=.none
  split<;>rfl
 ·funext k
  rfl
theorem V3(a:Ar):insA [] a=[a]:=rfl
theorem Abs.zn5(X:Abs)(n:Nat)(a:Ar)(L:List Ar)(m:Nat):(X.map n a L).A m=if m=n then(X.A n).map (fun p=>(L,p.2))else X.A m:=rfl
theorem Abs.Vw(X:Abs)(n:Nat)(a:Ar)(L:List Ar)(m pg:Nat):(X.map n a L).pv m pg=if m=n∧pg<4096∧a.Has (pg:Int)then Xz a else X.pv m pg:=rfl
theorem Abs.zjw{X:Abs}{n:Nat}{p:List Ar×List (Int×Int)}(h:X.A n=some p)(pg:Nat):X.area n pg=z8 p.1 (pg:Int):=by
 unfold Abs.area;rw[h];rfl
def bys(l:List UInt8):List Value:=l.map bV
theorem zok(l:List UInt8):(bys l).length=l.length:=List.length_map ..
theorem Qb{w:World}{v:Value}{l:List UInt8}:BRd w v l↔SlRd w 1 v (bys l).length (bys l):=by rw[zok];exact Iff.rfl
theorem SlRd.keepO{w w':World}{k n:Nat}{v:Value}{xs:List Value}(h:SlRd w k v n xs)(hk:∀b,v.ownBlock=some b→w'.heap[b]?=w.heap[b]?):SlRd w' k v n xs:=by
 refine⟨h.1,?_⟩
 rcases h.2 with h0|⟨b,off,c,rfl,hnc,hm,hg,hx⟩
 ·exact .inl h0
 ·have e:=hk b (by simp[Value.ownBlock])
  exact .inr ⟨b,off,c,rfl,hnc,hm,(Array.getElem?_eq_some_iff.1 (e.trans (Array.getElem?_eq_getElem hg))).1,fun j u hu=>(World.cell?_of_block (w:=w) e).trans (hx j u hu)⟩
structure At(w0:World)(V:List (Value×List Value))(sp:Nat)(X:Abs)(r:Nat)(w:World):Prop where
 st:∃x q tag,q.sp=sp∧zb w tag q x∧(∀b,b<w0.heap.size→tag b=0)∧(∀p∈V,SlRd w 1 p.1 p.2.length p.2∧∀b,p.1.ownBlock=some b→tag b=0)∧Ok0 x∧x.abs=X∧r≤x.P.room∧x.D.Calm
 bel:Below w0.heap.size w0 w
section
variable {w0 w w':World}{V:List (Value×List Value)}{sp r:Nat}{X:Abs}{C:Nat→Prop}{tag tag':Nat→Nat}
theorem vw(hC:¬C 0)(s:Step C tag w tag' w')(hb:Below w0.heap.size w0 w)(low:∀b,b<w0.heap.size→tag b=0)(hV:∀p∈V,SlRd w 1 p.1 p.2.length p.2∧∀b,p.1.ownBlock=some b→tag b=0):
  (∀b,b<w0.heap.size→tag' b=0)∧(∀p∈V,SlRd w' 1 p.1 p.2.length p.2∧∀b,p.1.ownBlock=some b→tag' b=0)∧Below w0.heap.size w0 w':=by
 have hsz:=hb.size
 refine⟨fun b h=>(s.keeps hC b (by omega) (low b h)).1,fun p hp=>?_,⟨s.turn.os.trans hb.os,s.turn.tape.trans hb.tape,s.turn.output.trans hb.output,Nat.le_trans hsz s.turn.size,fun k hk=>(s.keeps hC k (by omega) (low k hk)).2.trans (hb.block k hk)⟩⟩
 obtain⟨h1,h2⟩:=hV p hp
 exact⟨SlRd.keepO h1 fun b h=>(s.keeps hC b (SlRd.lt h1 b h) (h2 b h)).2,fun b h=>(s.keeps hC b (SlRd.lt h1 b h) (h2 b h)).1⟩
theorem At.below(h:At w0 V sp X r w)(hb:Below w.heap.size w w'):At w0 V sp X r w':=by
 obtain⟨⟨x,q,tag,hq,hS,low,hV,hk,hX,hr,hc⟩,hbel⟩:=h
 have s:Step (fun _=>False) tag w (retag tag w 0) w':=Step.anew hb
 obtain⟨a,b,c⟩:=vw (C:=fun _=>False) (fun h=>h) s hbel low hV
 exact⟨⟨x,q,_,hq,hS.step s,a,b,hk,hX,hr,hc⟩,c⟩
theorem At.cells(h:At w0 V sp X r w)(hb:Below w.heap.size w w'){v:Value}{l:List Value}(hv:SlRd w' 1 v l.length l)(ho:∀b,v.ownBlock=some b→b<w0.heap.size∨w.heap.size≤b):At w0 ((v,l)::V) sp X r w':=by
 obtain⟨⟨x,q,tag,hq,hS,low,hV,hk,hX,hr,hc⟩,hbel⟩:=h
 have s:Step (fun _=>False) tag w (retag tag w 0) w':=Step.anew hb
 obtain⟨a,b,c⟩:=vw (C:=fun _=>False) (fun h=>h) s hbel low hV
 refine⟨⟨x,q,_,hq,hS.step s,a,fun p hp=>?_,hk,hX,hr,hc⟩,c⟩
 rcases List.mem_cons.1 hp with rfl|hp
 ·refine⟨hv,fun b hb=>?_⟩
  rcases ho b hb with k|k
  ·exact a b k
  ·exact zz _ _ _ _ k
 ·exact b p hp
theorem At.more(h:At w0 V sp X r w)(hb:Below w.heap.size w w'){v:Value}{l:List UInt8}(hv:BRd w' v l)(ho:∀b,v.ownBlock=some b→b<w0.heap.size∨w.heap.size≤b):At w0 ((v,bys l)::V) sp X r w':=h.cells hb (Qb.1 hv) ho
theorem At.kept(h:At w0 V sp X r w){p:Value×List Value}(hp:p∈V):SlRd w 1 p.1 p.2.length p.2:=by
 obtain⟨⟨x,q,tag,hq,hS,low,hV,hk,hX,hr,hc⟩,hbel⟩:=h
 exact(hV p hp).1
theorem At.get(h:At w0 V sp X r w){v:Value}{l:List UInt8}(hp:(v,bys l)∈V):BRd w v l:=Qb.2 (h.kept hp)
theorem At.less(h:At w0 V sp X r w){r':Nat}(hr:r'≤r):At w0 V sp X r' w:=by
 obtain⟨⟨x,q,tag,hq,hS,low,hV,hk,hX,hr',hc⟩,hbel⟩:=h
 exact⟨⟨x,q,tag,hq,hS,low,hV,hk,hX,by omega,hc⟩,hbel⟩
theorem At.zbq(h:At w0 V sp X r w){k:Int×Int}(hk:uz k):(X.file k).length=64:=by
 obtain⟨⟨x,q,tag,hq,hS,low,hV,ho,hX,hr,hc⟩,hbel⟩:=h
 rw[←hX]
 exact ho.zbq hk
def Has(w0:World)(V:List (Value×List Value))(w:World)(v:Value)(l:List UInt8):Prop:=(v,bys l)∈V∨BRd w v l∧∀b,v.ownBlock=some b→b<w0.heap.size
theorem At.arg(h:At w0 V sp X r w){v:Value}{l:List UInt8}(hv:BRd w0 v l):Has w0 V w v l:=.inr ⟨SlRd.below hv h.bel,fun b hb=>SlRd.lt hv b hb⟩
theorem CS0(n:Nat):¬CS n 0:=by unfold CS;omega
theorem At.spawn(h:At w0 V sp X (r+1) w)(n:Nat)(hn:n<8)(hX:X.A n=none):
  Calls Tryz.prog 17 #[ptrV sp,.int .i64 n] w fun e w'=>e=.returned (.int .i64 0)∧At w0 V sp (X.spawn n) r w':=by
 obtain⟨⟨x,q,tag,rfl,hS,low,hV,hk,rfl,hr,hc⟩,hbel⟩:=h
 have hx:x.T n=none:=by
  have:(x.T n).map (fun pr=>(pr.A,pr.Q))=none:=hX
  simpa using this
 cases hg:x.P.next false with
 | none=>have:=Xk hg;omega
 | some g=>
  obtain⟨hg1,hav,hgu⟩:=Zo hg
  refine(Ux hS n hn hx g hg hg1 (hk.ok.wf.je hg1 (by omega))).mono ?_
  rintro e w1 ⟨rfl,tag1,u,hS1,s1⟩
  obtain⟨a,b,c⟩:=vw (CS0 n) s1 hbel low hV
  obtain⟨k1,k2,k3,k4⟩:=hk.spawn hn hx hg
  exact⟨rfl,⟨⟨x.xh n g,q.at_ n u,tag1,rfl,hS1,a,b,k1,k2,by omega,by rw[k4];exact hc⟩,c⟩⟩
theorem At.map(h:At w0 V sp X r w)(n:Nat){A:List Ar}{Q:List (Int×Int)}(hX:X.A n=some (A,Q))(a:Ar)(ha:a.xe)(hwf:a.Wf)(hno:anyA a A=false)(hlen:A.length<16):
  Calls Tryz.prog 18 #[ptrV sp,.int .i64 n,a.enc] w fun e w'=>e=.returned (.int .i64 0)∧At w0 V sp (X.map n a (insA A a)) r w':=by
 obtain⟨⟨x,q,tag,rfl,hS,low,hV,hk,rfl,hr,hc⟩,hbel⟩:=h
 obtain⟨pr,hp,he⟩:=Option.map_eq_some_iff.1 (show(x.T n).map (fun pr=>(pr.A,pr.Q))=some (A,Q)from hX)
 have hA:pr.A=A:=congrArg Prod.fst he
 subst hA
 have hn:=hk.ok.Zy hk.out hp
 refine(zf3 hS n pr hn hp a hwf (by omega)).mono ?_
 rintro e w1 ⟨Y,A',tag1,rfl,hres,hS1,s1⟩
 obtain⟨a1,b1,c1⟩:=vw (C:=fun c=>c=20+n) (by omega) s1 hbel low hV
 rcases hres with⟨_,_,_,rfl,hperm,hsort⟩|⟨_,_,⟨q1,_⟩|⟨_,q1,_⟩|⟨_,_,q1,_⟩⟩
 ·obtain⟨k1,k2⟩:=hk.map hp ha hno hlen hperm hsort
  have hL:=zen (hk.ok.wf.Zg n pr hp).1 ha hno hperm hsort
  rw[hL]at k1 k2 hS1
  exact⟨rfl,⟨⟨_,q,tag1,rfl,hS1,a1,b1,k1,k2,hr,hc⟩,c1⟩⟩
 ·exact absurd ha q1
 ·rw[hno]at q1;cases q1
 ·omega
theorem At.load'{x:za}{q:Sq}{tag:Nat→Nat}(hS:zb w tag q x)(hk:Ok0 x){n:Nat}(hn:n<8)(hs:(x.T n).isSome=true)(a s:Int):
  Calls Tryz.prog 20 #[ptrV q.sp,.int .i64 n,.int .i64 a,.int .i64 s] w fun e w'=>∃v tag',e=.returned (.tuple #[v,.int .i64 (x.Yg n a s).1.2])∧ByAt w' v (x.Yg n a s).1.1∧(∀b,v.ownBlock=some b→tag' b=0)∧zb w' tag' q (x.Yg n a s).2∧Step CB tag w tag' w':=by
 refine zmu n hn _ (zjt n false) hS ⟨hk,hs⟩ a s fun h0 h1=>?_
 have hb:0≤a∧0≤s∧s≤64∧a+s≤262144:=by
  unfold za.xq at h0
  split at h0
  ·omega
  ·split at h0
   ·omega
   ·omega
 obtain⟨g1,g2,_⟩:=hk.Q9 hs false (a:=a.toNat) (s:=s.toNat) (by omega) (by omega) h1
 exact⟨g1,g2⟩
theorem At.zn8(h:At w0 V sp X (r+5) w)(n:Nat){a0 s:Nat}{a:Ar}(h0:0<s)(h1:a0%64+s≤64)(h2:a0+s≤262144)(hn:n<8)(hcan:xn X n (a0/64) a):
  Calls Tryz.prog 20 #[ptrV sp,.int .i64 n,.int .i64 a0,.int .i64 s] w fun e w'=>∃v,e=.returned (.tuple #[v,.int .i64 0])∧At w0 ((v,bys (((X.ct a n (a0/64)).drop (a0%64)).take s))::V) sp X r w':=by
 obtain⟨⟨x,q,tag,rfl,hS,low,hV,hk,rfl,hr,hc⟩,hbel⟩:=h
 have hs:(x.T n).isSome=true:=by
  have:=hcan.area
  cases hp:x.T n with
  | none=>unfold Abs.area za.abs at this;dsimp only at this;rw[hp]at this;cases this
  | some _=>rfl
 obtain⟨y,e1,k1,k2,k3,k4⟩:=hk.zn8 hn h0 h1 h2 hcan (by omega) hc
 have W:=At.load' hS hk hn hs a0 s
 rw[e1]at W
 refine W.mono ?_
 rintro e w1 ⟨v,tag1,rfl,hv,ho,hS1,s1⟩
 obtain⟨a1,b1,c1⟩:=vw CB0 s1 hbel low hV
 refine⟨v,rfl,⟨⟨y,q,tag1,rfl,hS1,a1,fun p hp=>?_,k1,k2,by have:=k3.room;omega,by rw[k4];exact hc⟩,c1⟩⟩
 rcases List.mem_cons.1 hp with rfl|hp
 ·exact⟨Qb.1 (SlAt.rd hv),ho⟩
 ·exact b1 p hp
theorem At.zkw(h:At w0 V sp X (r+10) w)(n:Nat){a0 s:Nat}{a a2:Ar}(h0:s≤64)(h1:64<a0%64+s)(h2:a0+s≤262144)(hcan:xn X n (a0/64) a)(hcan2:xn X n (a0/64+1) a2):
  Calls Tryz.prog 20 #[ptrV sp,.int .i64 n,.int .i64 a0,.int .i64 s] w fun e w'=>∃v,e=.returned (.tuple #[v,.int .i64 0])∧At w0 ((v,bys (((X.ct a n (a0/64)).drop (a0%64)).take (64-a0%64)++(X.ct a2 n (a0/64+1)).take (s-(64-a0%64))))::V) sp X r w':=by
 obtain⟨⟨x,q,tag,rfl,hS,low,hV,hk,rfl,hr,hc⟩,hbel⟩:=h
 have hs:(x.T n).isSome=true:=by
  have:=hcan.area
  cases hp:x.T n with
  | none=>unfold Abs.area za.abs at this;dsimp only at this;rw[hp]at this;cases this
  | some _=>rfl
 obtain⟨pr,hpr⟩:=Option.isSome_iff_exists.1 hs
 have hn:=hk.ok.Zy hk.out hpr
 obtain⟨y,e1,k1,k2,k3,k4⟩:=hk.zkw h0 h1 h2 hcan hcan2 (by omega) hc
 have W:=At.load' hS hk hn hs a0 s
 rw[e1]at W
 refine W.mono ?_
 rintro e w1 ⟨v,tag1,rfl,hv,ho,hS1,s1⟩
 obtain⟨a1,b1,c1⟩:=vw CB0 s1 hbel low hV
 refine⟨v,rfl,⟨⟨y,q,tag1,rfl,hS1,a1,fun p hp=>?_,k1,k2,by have:=k3.room;omega,by rw[k4];exact hc⟩,c1⟩⟩
 rcases List.mem_cons.1 hp with rfl|hp
 ·exact⟨Qb.1 (SlAt.rd hv),ho⟩
 ·exact b1 p hp
theorem At.store'{x:za}{q:Sq}{tag:Nat→Nat}(hS:zb w tag q x)(hk:Ok0 x){n:Nat}(hn:n<8)(hs:(x.T n).isSome=true)(a:Nat){v:Value}{l:List UInt8}(hv:BRd w v l)(ho:∀b,v.ownBlock=some b→tag b=0)(hr:x.xq n a l.length=0):
  Calls Tryz.prog 19 #[ptrV q.sp,.int .i64 n,.int .i64 a,v] w fun e w'=>e=.returned (.int .i64 (x.Zn n a l).1)∧∃tag',zb w' tag' q (x.Zn n a l).2∧Step CB tag w tag' w':=by
 obtain⟨va,vc,rfl,_,_⟩:=SlRd.form hv
 have hb:l.length≤64∧a+l.length≤262144:=by
  have h0:=hr
  unfold za.xq at h0
  split at h0
  ·omega
  ·split at h0
   ·omega
   ·omega
 have R:=Q0 hS n a l.length
 rw[hr]at R
 have P:=zan n hn true _ (zjt n true) hS ⟨hk,hs⟩ a l.length (by omega) (by omega)
 have W:=zg7 (tag:=tag) n a va vc l R hv ho hb.1 (za.zk n true 3 x a l.length) (P.mono (by
  rintro e w1 (⟨v,tag1,rfl,h0,hv,ho,hS,hst,_⟩|⟨tag1,rfl,h0,hS,hst⟩)
  ·exact .inl ⟨v,tag1,rfl,h0,hv,ho,hS,hst⟩
  ·exact .inr ⟨tag1,rfl,h0,hS,hst⟩)) (fun h0=>by
   obtain⟨_,g2,g3⟩:=hk.Q9 hs true (a:=a) (s:=l.length) hb.1 hb.2 h0
   exact⟨g2,g3⟩)
 have e1:(x.Zn n a l).1=(za.zk n true 3 x a l.length).1.2∧(x.Zn n a l).2=(if(za.zk n true 3 x a l.length).1.2=0 then {(za.zk n true 3 x a l.length).2 with R:=za.Yo (za.zk n true 3 x a l.length).1.1 l (za.zk n true 3 x a l.length).2.R} else(za.zk n true 3 x a l.length).2):=by
  unfold za.Zn
  rw[if_pos hr]
  simp only[Int.toNat_natCast]
  by_cases z:(za.zk n true 3 x a l.length).1.2=0
  ·rw[if_pos z,if_pos z,z];exact⟨rfl,rfl⟩
  ·rw[if_neg z,if_neg z];exact⟨rfl,rfl⟩
 rw[e1.1,e1.2]
 exact W
theorem zed{v:Value}{l:List UInt8}(h:Has w0 V w v l)(low:∀b,b<w0.heap.size→tag b=0)(hV:∀p∈V,SlRd w 1 p.1 p.2.length p.2∧∀b,p.1.ownBlock=some b→tag b=0):BRd w v l∧∀b,v.ownBlock=some b→tag b=0:=by
 rcases h with h|⟨h,g⟩
 ·exact⟨Qb.2 (hV _ h).1,(hV _ h).2⟩
 ·exact⟨h,fun b hb=>low b (g b hb)⟩
theorem zai{x:za}{n:Nat}(hs:(x.T n).isSome=true){a k:Nat}(h1:k≤64)(h2:a+k≤262144):x.xq n a k=0:=by
 unfold za.xq
 rw[if_neg (by rw[Int.toNat_natCast,hs];simp),if_neg (by omega)]
theorem At.zhq(h:At w0 V sp X (r+5) w)(n:Nat){a0:Nat}{v:Value}{l:List UInt8}(hv:Has w0 V w v l){a:Ar}(h0:0<l.length)(h1:a0%64+l.length≤64)(h2:a0+l.length≤262144)(hn:n<8)(hcan:xn X n (a0/64) a)(hw:a.write=true):
  Calls Tryz.prog 19 #[ptrV sp,.int .i64 n,.int .i64 a0,v] w fun e w'=>e=.returned (.int .i64 0)∧At w0 V sp ((X.own a n (a0/64)).write a n (a0/64) (a0%64) l) r w':=by
 obtain⟨⟨x,q,tag,rfl,hS,low,hV,hk,rfl,hr,hc⟩,hbel⟩:=h
 have hs:(x.T n).isSome=true:=by
  have:=hcan.area
  cases hp:x.T n with
  | none=>unfold Abs.area za.abs at this;dsimp only at this;rw[hp]at this;cases this
  | some _=>rfl
 obtain⟨hv1,hv2⟩:=zed hv low hV
 obtain⟨y,e1,k1,k2,k3,k4⟩:=hk.zhq h0 h1 h2 hcan hw (by omega) hc
 have W:=At.store' hS hk hn hs a0 hv1 hv2 (zai hs (by omega) h2)
 rw[e1]at W
 refine W.mono ?_
 rintro e w1 ⟨rfl,tag1,hS1,s1⟩
 obtain⟨a1,b1,c1⟩:=vw CB0 s1 hbel low hV
 exact⟨rfl,⟨⟨y,q,tag1,rfl,hS1,a1,b1,k1,k2,by have:=k3.room;omega,by rw[k4];exact hc⟩,c1⟩⟩
theorem At.zez(h:At w0 V sp X (r+10) w)(n:Nat){a0:Nat}{v:Value}{l:List UInt8}(hv:Has w0 V w v l){a a2:Ar}(h0:l.length≤64)(h1:64<a0%64+l.length)(h2:a0+l.length≤262144)(hcan:xn X n (a0/64) a)(hcan2:xn X n (a0/64+1) a2)(hw:a.write=true)(hw2:a2.write=true):
  Calls Tryz.prog 19 #[ptrV sp,.int .i64 n,.int .i64 a0,v] w fun e w'=>e=.returned (.int .i64 0)∧At w0 V sp ((((X.own a n (a0/64)).own a2 n (a0/64+1)).write a n (a0/64) (a0%64) (l.take (64-a0%64))).write a2 n (a0/64+1) 0 (l.drop (64-a0%64))) r w':=by
 obtain⟨⟨x,q,tag,rfl,hS,low,hV,hk,rfl,hr,hc⟩,hbel⟩:=h
 have hs:(x.T n).isSome=true:=by
  have:=hcan.area
  cases hp:x.T n with
  | none=>unfold Abs.area za.abs at this;dsimp only at this;rw[hp]at this;cases this
  | some _=>rfl
 obtain⟨pr,hpr⟩:=Option.isSome_iff_exists.1 hs
 have hn:=hk.ok.Zy hk.out hpr
 obtain⟨hv1,hv2⟩:=zed hv low hV
 obtain⟨y,e1,k1,k2,k3,k4⟩:=hk.zez h0 h1 h2 hcan hcan2 hw hw2 (by omega) hc
 have W:=At.store' hS hk hn hs a0 hv1 hv2 (zai hs (by omega) h2)
 rw[e1]at W
 refine W.mono ?_
 rintro e w1 ⟨rfl,tag1,hS1,s1⟩
 obtain⟨a1,b1,c1⟩:=vw CB0 s1 hbel low hV
 exact⟨rfl,⟨⟨y,q,tag1,rfl,hS1,a1,b1,k1,k2,by have:=k3.room;omega,by rw[k4];exact hc⟩,c1⟩⟩
theorem zb.secs{q:Sq}{x:za}(h:zb w tag q x):∀s,s<192→(x.D.cur s).length=64:=by
 intro s hs
 obtain⟨sb,off,c,mb,U,L,hD⟩:=h.disk
 obtain⟨v,_,hv⟩:=Qm _ hD s hs
 exact hv.1
theorem At.fresh(w:World)(n m:Nat)(hn:n≤4)(hm:m≤4):
  Calls Tryz.prog 16 #[.int .i64 n,.int .i64 m] w fun e w'=>∃sp wp file cur,e=.returned (.tuple #[ptrV sp,ptrV wp])∧At w [] sp (.start file cur) (32*n) w':=by
 refine(zgs w n m hn hm).mono ?_
 rintro e w1 ⟨q,tag,D,wp,rfl,hS,hb,low,hc,_,_⟩
 refine⟨q.sp,wp,_,_,rfl,⟨⟨_,q,tag,rfl,hS,low,fun p hp=>(by cases hp),za4 _ _ (fun f=>?_) hS.secs,zb8 _ _,zgg n m (by omega),hc⟩,hb⟩⟩
 rw[zcm]
 split
 ·exact .inr rfl
 ·exact .inl rfl
end
theorem SameP.key{a b:Ar}{wr:Bool}(h:SameP a b wr)(hk:a.kind≠1)(page:Nat):za.keyF b page=za.keyF a page:=by
 unfold za.keyF
 rw[h.file]
 rcases h.off with e|e
 ·exact absurd e hk
 ·rw[Prod.mk.injEq]
  exact⟨rfl,by omega⟩
section
variable {X:Abs}{a:Ar}{n page:Nat}
theorem Yn(X:Abs)(a:Ar)(n page k:Nat)(b:List UInt8):(X.write a n page k b).A=X.A:=by unfold Abs.write;split<;>rfl
theorem zf7(X:Abs)(a:Ar)(n page k:Nat)(b:List UInt8)(m pg:Nat):((X.own a n page).write a n page k b).area m pg=X.area m pg:=Jq (by rw[Yn,q8]) m pg
theorem U2(X:Abs)(a:Ar)(n page k:Nat)(b:List UInt8)(h:a.kind=2):
  ((X.own a n page).write a n page k b).pv=X.pv∧(∀q,((X.own a n page).write a n page k b).file q=if q=za.keyF a page then Abs.splice (X.file q) k b else X.file q):=by
 unfold Abs.write Abs.own
 rw[if_pos h,if_pos h]
 refine⟨rfl,fun q=>?_⟩
 show(if q=za.keyF a page then Abs.splice (X.file (za.keyF a page)) k b else X.file q)=_
 by_cases e:q=za.keyF a page
 ·rw[if_pos e,if_pos e,e]
 ·rw[if_neg e,if_neg e]
theorem Jm(h:X.pv n page=.file):X.ct a n page=X.file (za.keyF a page):=by unfold Abs.ct;rw[h]
theorem zfu{l:List UInt8}(h:X.pv n page=.own l):X.ct a n page=l:=by unfold Abs.ct;rw[h]
theorem zb7(X:Abs)(a:Ar)(n page k:Nat)(b:List UInt8)(h:a.kind≠2):
  (∀m pg,((X.own a n page).write a n page k b).pv m pg=if m=n∧pg=page then .own (Abs.splice (X.ct a n page) k b)else X.pv m pg)∧((X.own a n page).write a n page k b).file=X.file:=by
 have hct:(X.Ve n page (.own (X.ct a n page))).ct a n page=X.ct a n page:=by
  exact zfu (X:=X.Ve n page (.own (X.ct a n page))) (if_pos ⟨rfl,rfl⟩)
 unfold Abs.write Abs.own
 rw[if_neg h,if_neg h,hct]
 refine⟨fun m pg=>?_,rfl⟩
 show(if m=n∧pg=page then _ else if m=n∧pg=page then _ else X.pv m pg)=_
 by_cases e:m=n∧pg=page
 ·rw[if_pos e,if_pos e]
 ·rw[if_neg e,if_neg e,if_neg e]
theorem zds(l b:List UInt8):Abs.splice l 0 b=b++l.drop b.length:=by unfold Abs.splice;simp
theorem zdt(l b:List UInt8)(n:Nat)(h:n=b.length):((Abs.splice l 0 b).drop 0).take n=b:=by
 rw[zds,List.drop_zero,h,List.take_left']
 rfl
end
section
variable {X:Abs}{a:Ar}{n p q at_:Nat}{b:List UInt8}
theorem Vh{Y:Abs}(h1:Y.pv n q=X.pv n q)(h2:Y.file (za.keyF a q)=X.file (za.keyF a q)):Y.ct a n q=X.ct a n q:=by unfold Abs.ct;rw[h1,h2]
theorem Vi(X:Abs)(a:Ar)(n p q:Nat):(X.own a n p).ct a n q=X.ct a n q:=by
 unfold Abs.own
 split
 ·rfl
 ·by_cases e:q=p
  ·subst e
   exact zfu (X:=X.Ve n q (.own (X.ct a n q))) (if_pos ⟨rfl,rfl⟩)
  ·exact Vh (Y:=X.Ve n p (.own (X.ct a n p))) (if_neg fun z=>e z.2) rfl
theorem ja(h:a.kind=2→X.pv n p=.file):(X.write a n p at_ b).ct a n p=Abs.splice (X.ct a n p) at_ b:=by
 unfold Abs.write
 split
 ·rename_i k
  rw[Jm (X:=X) (h k),Jm (X:=X.za6 (za.keyF a p) (Abs.splice (X.file (za.keyF a p)) at_ b)) (h k)]
  exact if_pos rfl
 ·exact zfu (X:=X.Ve n p (.own (Abs.splice (X.ct a n p) at_ b))) (if_pos ⟨rfl,rfl⟩)
theorem Va(h:q≠p):(X.write a n p at_ b).ct a n q=X.ct a n q:=by
 unfold Abs.write
 split
 ·refine Vh (Y:=X.za6 (za.keyF a p) (Abs.splice (X.file (za.keyF a p)) at_ b)) rfl (if_neg fun z=>?_)
  unfold za.keyF at z
  rw[Prod.mk.injEq]at z
  omega
 ·exact Vh (Y:=X.Ve n p (.own (Abs.splice (X.ct a n p) at_ b))) (if_neg fun z=>h z.2) rfl
theorem Yz(l b:List UInt8)(at_:Nat)(h:at_+b.length≤l.length):((Abs.splice l at_ b).drop at_).take b.length=b:=by
 unfold Abs.splice
 rw[List.drop_left' (by rw[List.length_take];omega),List.take_left' rfl]
theorem zaf(l b:List UInt8)(at_:Nat)(h:at_+b.length≤l.length):(Abs.splice l at_ b).length=l.length:=by
 unfold Abs.splice
 simp only[List.length_append,List.length_take,List.length_drop]
 omega
end
def Abs.rd(X:Abs)(a:Ar)(n a0 s:Nat):List UInt8:=
 if a0%64+s≤64 then((X.ct a n (a0/64)).drop (a0%64)).take s
 else((X.ct a n (a0/64)).drop (a0%64)).take (64-a0%64)++(X.ct a n (a0/64+1)).take (s-(64-a0%64))
def Abs.st(X:Abs)(a:Ar)(n a0:Nat)(l:List UInt8):Abs:=
 if a0%64+l.length≤64 then(X.own a n (a0/64)).write a n (a0/64) (a0%64) l
 else(((X.own a n (a0/64)).own a n (a0/64+1)).write a n (a0/64) (a0%64) (l.take (64-a0%64))).write a n (a0/64+1) 0 (l.drop (64-a0%64))
structure PgOk(X:Abs)(a:Ar)(n p:Nat):Prop where
 area:X.area n p=some a
 there:X.pv n p≠.lost
 shared:a.kind=2→X.pv n p=.file
 len:(X.ct a n p).length=64
theorem PgOk.can{X:Abs}{a:Ar}{n p:Nat}(h:PgOk X a n p):xn X n p a:=⟨h.area,h.there⟩
section
variable {X:Abs}{a:Ar}{n p q at_ a0:Nat}{b l:List UInt8}
theorem zd6(h:X.pv n p≠.lost):(X.own a n q).pv n p≠.lost:=by
 unfold Abs.own
 split
 ·exact h
 ·show(if n=n∧p=q then _ else X.pv n p)≠_
  split
  ·intro z;cases z
  ·exact h
theorem zbd(h:X.pv n p=.file)(k:a.kind=2):(X.own a n q).pv n p=.file:=by
 unfold Abs.own
 rw[if_pos k]
 exact h
theorem za2(h:X.pv n p≠.lost):(X.write a n q at_ b).pv n p≠.lost:=by
 unfold Abs.write
 split
 ·exact h
 ·show(if n=n∧p=q then _ else X.pv n p)≠_
  split
  ·intro z;cases z
  ·exact h
theorem Qs(h:X.pv n p=.file)(k:a.kind=2):(X.write a n q at_ b).pv n p=.file:=by
 unfold Abs.write
 rw[if_pos k]
 exact h
theorem PgOk.own(h:PgOk X a n p)(q:Nat):PgOk (X.own a n q) a n p:=
 ⟨by rw[Jq (q8 X a n q)];exact h.area,zd6 h.there,fun k=>zbd (h.shared k) k,by rw[Vi];exact h.len⟩
theorem PgOk.write(h:PgOk X a n p)(hq:q=p→at_+b.length≤64):PgOk (X.write a n q at_ b) a n p:=by
 refine⟨by rw[Jq (Yn X a n q at_ b)];exact h.area,za2 h.there,fun k=>Qs (h.shared k) k,?_⟩
 by_cases e:p=q
 ·subst e
  rw[ja h.shared,zaf _ _ _ (by rw[h.len];exact hq rfl)]
  exact h.len
 ·rw[Va e];exact h.len
theorem PgOk.st(h:PgOk X a n p)(hl:l.length≤64):PgOk (X.st a n a0 l) a n p:=by
 unfold Abs.st
 split
 ·exact(h.own _).write fun _=>by omega
 ·refine(((h.own _).own _).write fun _=>?_).write fun _=>?_
  ·rw[List.length_take];omega
  ·rw[List.length_drop];omega
theorem znn(m pg:Nat):(X.st a n a0 l).area m pg=X.area m pg:=by
 unfold Abs.st
 split
 ·exact Jq (by rw[Yn,q8]) m pg
 ·exact Jq (by rw[Yn,Yn,q8,q8]) m pg
theorem st_A:(X.st a n a0 l).A=X.A:=by
 unfold Abs.st
 split
 ·rw[Yn,q8]
 ·rw[Yn,Yn,q8,q8]
theorem st_rd(h:PgOk X a n (a0/64))(h2:64<a0%64+l.length→PgOk X a n (a0/64+1))(hl:l.length≤64):(X.st a n a0 l).rd a n a0 l.length=l:=by
 unfold Abs.rd Abs.st
 by_cases k:a0%64+l.length≤64
 ·rw[if_pos k,if_pos k,ja (h.own _).shared]
  exact Yz _ _ _ (by rw[(h.own _).len];exact k)
 ·rw[if_neg k,if_neg k]
  have g:=h2 (by omega)
  have o1:=(h.own (a0/64)).own (a0/64+1)
  have o2:=(g.own (a0/64)).own (a0/64+1)
  have t1:(l.take (64-a0%64)).length=64-a0%64:=by rw[List.length_take];omega
  have t2:(l.drop (64-a0%64)).length=l.length-(64-a0%64):=List.length_drop ..
  have w2:=o2.write (q:=a0/64) (at_:=a0%64) (b:=l.take (64-a0%64)) fun z=>by omega
  have e1:(((X.own a n (a0/64)).own a n (a0/64+1)).write a n (a0/64) (a0%64) (l.take (64-a0%64))).ct a n (a0/64)=Abs.splice (((X.own a n (a0/64)).own a n (a0/64+1)).ct a n (a0/64)) (a0%64) (l.take (64-a0%64)):=ja o1.shared
  rw[Va (show a0/64≠a0/64+1 by omega),e1,ja w2.shared]
  have r1:=Yz (((X.own a n (a0/64)).own a n (a0/64+1)).ct a n (a0/64)) (l.take (64-a0%64)) (a0%64) (by rw[o1.len];omega)
  rw[t1]at r1
  rw[r1]
  have r2:=Yz ((((X.own a n (a0/64)).own a n (a0/64+1)).write a n (a0/64) (a0%64) (l.take (64-a0%64))).ct a n (a0/64+1)) (l.drop (64-a0%64)) 0 (by rw[w2.len];omega)
  rw[t2,List.drop_zero]at r2
  rw[r2]
  exact List.take_append_drop _ _
end
section
variable {w0 w:World}{V:List (Value×List Value)}{sp r:Nat}{X:Abs}
theorem At.loadA(h:At w0 V sp X (r+10) w)(n:Nat){a0 s:Nat}{a:Ar}(h0:0<s)(h1:s≤64)(h2:a0+s≤262144)(hn:n<8)(hp:xn X n (a0/64) a)(hp2:64<a0%64+s→xn X n (a0/64+1) a){l:List UInt8}(hl:X.rd a n a0 s=l):
  Calls Tryz.prog 20 #[ptrV sp,.int .i64 n,.int .i64 a0,.int .i64 s] w fun e w'=>∃v,e=.returned (.tuple #[v,.int .i64 0])∧At w0 ((v,bys l)::V) sp X r w':=by
 subst hl
 unfold Abs.rd
 by_cases k:a0%64+s≤64
 ·rw[if_pos k]
  exact At.zn8 (r:=r) (h.less (by omega)) n h0 k h2 hn hp
 ·rw[if_neg k]
  exact At.zkw h n h1 (by omega) h2 hp (hp2 (by omega))
theorem At.zm7(h:At w0 V sp X (r+10) w)(n:Nat){a0:Nat}{v:Value}{l:List UInt8}(hv:Has w0 V w v l){a:Ar}(h0:0<l.length)(h1:l.length≤64)(h2:a0+l.length≤262144)(hn:n<8)(hp:xn X n (a0/64) a)(hp2:64<a0%64+l.length→xn X n (a0/64+1) a)(hw:a.write=true):
  Calls Tryz.prog 19 #[ptrV sp,.int .i64 n,.int .i64 a0,v] w fun e w'=>e=.returned (.int .i64 0)∧At w0 V sp (X.st a n a0 l) r w':=by
 unfold Abs.st
 by_cases k:a0%64+l.length≤64
 ·rw[if_pos k]
  exact At.zhq (r:=r) (h.less (by omega)) n hv h0 k h2 hn hp hw
 ·rw[if_neg k]
  exact At.zez h n hv h1 (by omega) h2 hp (hp2 (by omega)) hw hw
theorem PgOk.new(hf:∀k,uz k→(X.file k).length=64){n:Nat}{Q:List (Int×Int)}(hX:X.A n=some ([],Q)){a:Ar}(ha:a.xe){p:Nat}(hp:a.Has (p:Int))(hpg:p<4096):PgOk (X.map n a [a]) a n p:=by
 have e1:(X.map n a [a]).pv n p=Xz a:=by rw[Abs.Vw,if_pos ⟨rfl,hpg,hp⟩]
 have e2:(X.map n a [a]).area n p=some a:=by
  rw[Abs.zjw (p:=([a],Q)) (by rw[Abs.zn5,if_pos rfl,hX];rfl)]
  exact(jh ⟨fun b hb=>by simp at hb;subst hb;exact ha,List.pairwise_singleton _ _⟩).2 ⟨by simp,hp⟩
 refine⟨e2,?_,fun k=>?_,?_⟩
 ·rw[e1]
  unfold Xz
  split<;>(intro z;cases z)
 ·rw[e1]
  unfold Xz
  rw[if_neg (by omega)]
 ·by_cases k:a.kind=1
  ·rw[zfu (l:=List.replicate 64 0) (by rw[e1];unfold Xz;rw[if_pos k])]
   simp
  ·rw[Jm (by rw[e1];unfold Xz;rw[if_neg k])]
   refine hf _ (Vg (pr:=⟨⟨0,[]⟩,[a],[]⟩) ⟨fun b hb=>by simp at hb;subst hb;exact ha,List.pairwise_singleton _ _⟩ ?_ k)
   exact(jh ⟨fun b hb=>by simp at hb;subst hb;exact ha,List.pairwise_singleton _ _⟩).2 ⟨by simp,hp⟩
end
section
variable {F:Nat→Prop}{x y:za}
theorem OK.put_pv(h:OK F x){n page:Nat}{pr:yg}{e:Ent}(d:PutD x n page pr e 0 y)(hp:x.T n=some pr)(hpg:page<4096)(o:∀n,8≤n→x.T n=none)(v:PV)(hv:y.pv n page=v):y.abs=x.abs.Ve n page v:=by
 have hR:∀f i,f<1024→(x.P.use f=3∨x.P.use f=4)→i<64→y.R.b f i=x.R.b f i:=fun f i hf hu hi=>d.bytes f i (by omega) fun ho=>by have:=(h.wf.yt ho).2.1;omega
 have hA:∀m,(y.T m).map (fun pr=>(pr.A,pr.Q))=(x.T m).map (fun pr=>(pr.A,pr.Q)):=fun m=>by
  by_cases k:m=n
  ·subst k
   obtain⟨T',ht⟩:=d.this
   rw[ht,hp]
   rfl
  ·rw[d.oth m k]
 have hA1:∀m,(y.T m).map (·.A)=(x.T m).map (·.A):=fun m=>by
  have:=congrArg (Option.map Prod.fst) (hA m)
  simpa[Option.map_map,Function.comp_def]using this
 unfold za.abs Abs.Ve
 rw[Abs.mk.injEq]
 refine⟨funext hA,?_,?_,by funext k;unfold za.uh;rw[d.keep.2.1],by rw[d.keep.1]⟩
 ·funext m pg
  by_cases k:m=n∧pg=page
  ·rw[if_pos k,k.1,k.2,if_pos hpg]
   exact hv
  ·rw[if_neg k]
   by_cases hq:pg<4096
   ·rw[if_pos hq]
    dsimp only
    rw[if_pos hq]
    have he:y.ent m pg=x.ent m pg:=by rw[d.ent m pg hq,if_neg fun a=>k a.2]
    by_cases hm:m<8
    ·exact Y1 h m pg hm hq (hA1 m) he (fun _=>by rw[d.keep.2.2]) (fun _=>by rw[d.keep.1]) hR
    ·have h1:=o m (by omega)
     have h2:y.T m=none:=by
      have:=hA m
      rw[h1]at this
      simpa using this
     unfold za.pv
     rw[h1,h2]
   ·rw[if_neg hq]
    dsimp only
    rw[if_neg hq]
 ·funext k
  by_cases hk:uz k
  ·rw[if_pos hk]
   dsimp only
   rw[if_pos hk]
   exact jq h k d.keep.2.1 (by rw[d.keep.1]) fun f i a b c=>hR f i a (.inr b) c
  ·rw[if_neg hk]
   dsimp only
   rw[if_neg hk]
end
end Go.Proofs.YtnhdmnijiphjjaaGreat
