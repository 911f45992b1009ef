/- Processes, in plain words: a slot's bytes that come back, and the frame of any page: what getting it leaves. No program in it. -/
import Derived.Test.YtnhdmnijiphjjaaGreatJFz15
set_option linter.unusedVariables false
set_option linter.unusedSimpArgs false
set_option maxRecDepth 100000
set_option maxHeartbeats 2000000
namespace Go.Proofs.YtnhdmnijiphjjaaGreat
open Go Go.RowKit
structure InI(F:Nat→Prop)(k f:Nat)(x z:za):Prop where
 ok:OK (fun g=>F g∨g=f) z
 same:Same x z
 keeps:uw 1 x z
 use:z.P.use f=3
 cr:getL z.CR f=none
 rd:z.R.read f 0 64=z.D.cur (160+k)
 backs:∀g:Nat,g<1024→g≠f→x.P.use g=3→x.B g≠[]→z.B g=x.B g∧z.P.use g=3
 crs:z.CR=x.CR
def InL(k f:Nat)(x z:za)(l:List (Int×Int)):Prop:=
 ∀p∈l,∃n page pr,p=plc n page∧n<8∧page<4096∧x.T n=some pr∧((z.ent n page).kind=2∧(z.ent n page).n=k∨z.ent n page=⟨1,(f:Int),false⟩)
section
variable {F:Nat→Prop}{x y:za}
theorem zd0(z:za)(n page:Nat)(l:List (Int×Int))(e:Ent):z.vg (plc n page::l) e=(z.putF n page e).2.vg l e:=by
 unfold za.vg
 rw[List.foldl_cons]
 have e1:(plc n page).1.toNat=n:=by unfold plc;omega
 have e2:(plc n page).2.toNat=page:=by unfold plc;dsimp only;omega
 rw[e1,e2]
theorem InI.one{k f:Nat}(hf:f<1024){z:za}(h:InI F k f x z)(o:∀n,8≤n→x.T n=none){n page:Nat}{pr0:yg}(hn:n<8)(hpg:page<4096)(hp0:x.T n=some pr0)(hc:(z.ent n page).kind=2∧(z.ent n page).n=k∨z.ent n page=⟨1,(f:Int),false⟩):
  InI F k f x (z.putF n page ⟨1,(f:Int),false⟩).2∧(z.putF n page ⟨1,(f:Int),false⟩).1=0∧(z.putF n page ⟨1,(f:Int),false⟩).2.D=z.D∧(∀m pg,pg<4096→(z.putF n page ⟨1,(f:Int),false⟩).2.ent m pg=if m=n∧pg=page then⟨1,(f:Int),false⟩else z.ent m pg):=by
 obtain⟨T0,hp⟩:=h.same.proc hp0
 have d:=h.ok.wf.putF hn hp hpg (e:=⟨1,(f:Int),false⟩) (by simp[Ent.ok,most];omega)
 have hne:(z.ent n page).kind≠0:=by
  rcases hc with⟨a,_⟩|a
  ·omega
  ·rw[a];simp
 obtain⟨c0,kp⟩:=d.zis h.ok.wf hp (.inl hne)
 have hA:Vb z ⟨T0,pr0.A,pr0.Q⟩ page ⟨1,(f:Int),false⟩:=by
  have a0:=h.ok.area n _ page hp hpg
  refine⟨fun _=>a0.find hne,fun b hb _ h3=>h.cr,fun b q hb _ _ h4=>?_,fun b hb _ h3=>?_,fun b hb h2=>by cases h2⟩
  ·dsimp only at h4;rw[h.cr]at h4;cases h4
  ·rcases hc with⟨a,_⟩|a
   ·exact absurd h3 (a0.slot b hb a)
   ·have:=a0.shared b hb (by rw[a]) h3
    rw[a]at this
    exact this
 have k1:=h.ok.put d hn hp hpg (fun _=>⟨f,rfl,hf,.inl h.use⟩) hA
 have hns:¬z.owns n f:=fun ho=>by have:=(h.ok.wf.yt ho).2.1;have:=h.use;omega
 have hrd:(z.putF n page ⟨1,(f:Int),false⟩).2.R.read f 0 64=z.R.read f 0 64:=Z8 fun i _=>d.bytes f i (by have:=h.use;omega) hns
 have s1:=h.ok.zdy d hp hpg (fun _ b hb=>by
  rcases hc with⟨a,a2⟩|a
  ·unfold za.pv1
   dsimp only
   rw[d.keep.2.2,h.cr,a,a2,Int.toNat_natCast,hrd,h.rd]
   simp
  ·rw[a]
   refine Qk (by rw[d.keep.2.2]) (by rw[d.keep.1]) fun _=>?_
   dsimp only
   rw[Int.toNat_natCast]
   exact hrd) (h.same.out o)
 have hu:(z.putF n page ⟨1,(f:Int),false⟩).2.P.use f=3:=by
  rw[d.use f hns (by have:=h.use;omega),if_neg]
  ·exact h.use
  ·rintro⟨_,a,b,c,_⟩
   exact b ⟨rfl,c⟩
 refine⟨⟨k1.mono fun g hg=>hg.1,h.same.trans s1,(h.keeps.trans kp).mono (by omega),hu,by rw[d.keep.2.2];exact h.cr,by rw[d.keep.1,hrd];exact h.rd,fun g hg hgf hgu hgB=>?_,by rw[d.keep.2.2];exact h.crs⟩,c0,d.keep.1,fun m pg hq=>?_⟩
 ·obtain⟨b1,b2⟩:=h.backs g hg hgf hgu hgB
  have hne2:¬((1:Nat)=1∧((f:Int))=(g:Int)):=by omega
  obtain⟨c1,c2⟩:=d.others h.ok.wf (by
   rcases hc with⟨a,_⟩|a
   ·exact .inl (by omega)
   ·exact .inr a.symm) g hg b2 (.inl hne2)
  exact⟨c1.trans b1,c2⟩
 ·rw[d.ent m pg hq]
  by_cases e:m=n∧pg=page
  ·rw[if_pos ⟨c0,e⟩,if_pos e]
  ·rw[if_neg fun a=>e a.2,if_neg e]
theorem InI.go{k f:Nat}(hf:f<1024)(o:∀n,8≤n→x.T n=none)(l:List (Int×Int)):∀z,InI F k f x z→InL k f x z l→InI F k f x (z.vg l ⟨1,(f:Int),false⟩)∧(z.vg l ⟨1,(f:Int),false⟩).D=z.D∧∀n page,page<4096→((z.vg l ⟨1,(f:Int),false⟩).ent n page=if plc n page∈l then⟨1,(f:Int),false⟩else z.ent n page):=by
 induction l with
 | nil=>exact fun z h _=>⟨h,rfl,fun n page _=>by rw[if_neg (by simp)];rfl⟩
 | cons p l ih=>
  intro z h hl
  obtain⟨n,page,pr,rfl,hn,hpg,hp,hc⟩:=hl p (List.mem_cons_self ..)
  obtain⟨h1,c0,hD,he⟩:=h.one hf o hn hpg hp hc
  have hl1:InL k f x (z.putF n page ⟨1,(f:Int),false⟩).2 l:=fun q hq=>by
   obtain⟨m,pg,pm,rfl,hm,hpg',hpm,hcm⟩:=hl q (List.mem_cons_of_mem _ hq)
   refine⟨m,pg,pm,rfl,hm,hpg',hpm,?_⟩
   rw[he m pg hpg']
   split
   ·exact .inr rfl
   ·exact hcm
  obtain⟨i1,i2,i3⟩:=ih _ h1 hl1
  rw[zd0]
  refine⟨i1,i2.trans hD,fun m pg hpg'=>?_⟩
  rw[i3 m pg hpg',he m pg hpg']
  by_cases e1:plc m pg∈l
  ·rw[if_pos e1,if_pos (List.mem_cons_of_mem _ e1)]
  ·rw[if_neg e1]
   by_cases e2:m=n∧pg=page
   ·rw[if_pos e2,if_pos (by rw[e2.1,e2.2];exact List.mem_cons_self ..)]
   ·rw[if_neg e2,if_neg]
    intro e3
    rcases List.mem_cons.1 e3 with e3|e3
    ·exact e2 (Xj.1 e3)
    ·exact e1 e3
theorem OK.inF(h:OK F x)(o:∀n,8≤n→x.T n=none){n page k:Nat}(hn:n<8)(hpg:page<4096)(he:(x.ent n page).kind=2)(hk:(x.ent n page).n=k):
  Got F 1 x (x.inF k).1.2 (x.inF k).2∧((x.inF k).1.2=0→((x.inF k).2.ent n page).kind=1∧((x.inF k).2.ent n page).n=(x.inF k).1.1):=by
 have hk32:k<32:=by
  have:=(Ent.ok_n (h.wf.Zc n hpg)).2 he
  omega
 unfold za.inF
 rcases h.wf.zx 3 (160+k) (by omega) (by omega) (h.wf.secs _ (by omega))with⟨hnx,e⟩|⟨f,hnx,hw,e,d,hD⟩|⟨f,hnx,hw,e,d,hD⟩
 ·rw[e]
  dsimp only
  rw[if_neg (by simp)]
  exact⟨⟨h,Same.refl x,(uw.refl x).mono (by omega),.inr (.inl ⟨rfl,by have:=Zk hnx;omega⟩),.inl rfl,Stay.refl x⟩,fun e=>by simp at e⟩
 ·obtain⟨k1,s1,hB,hcr,hu,hrd⟩:=d.ok h o
  have kp1:=d.keeps (.inl rfl)
  have e1:=d.ent
  have kS:=d.keep.2.2.1
  have kR:=d.keep.2.2.2.2
  have kT:=d.keep.1
  have hf:=d.was.1
  have hcur:=d.cur
  have st1:=d.stay
  have hfu:=d.was.2
  obtain⟨y,hy⟩:∃y,y=(x.zx 3 (160+k)).2:=⟨_,rfl⟩
  rw[←hy]at k1 s1 hu hrd kp1 e1 st1 kS kR kT hD hcur⊢
  rw[e]
  dsimp only
  rw[if_pos rfl]
  clear hy d e
  have hI:InI F k f x y:=⟨k1,s1,kp1,hu,by rw[kR];exact hcr,by rw[hrd,hcur],fun g hg _ hgu hgB=>st1.backs g hg hgu hgB,kR⟩
  have hL:InL k f x y (y.S.getD k []):=fun p hp=>by
   rw[kS]at hp
   obtain⟨e2,h1,h2⟩:=((uj h.wf.slots k).2 p hp).plc
   rw[e2]at hp
   have h3:=(h.slotE k _ _ hk32 h1 h2).1 hp
   cases hq:x.T p.1.toNat with
   | none=>rw[Yk hq]at h3;exact absurd h3.1 (by decide)
   | some pr=>exact⟨_,_,pr,e2,h1,h2,hq,.inl (by rw[e1 _ _ h2];exact h3)⟩
  obtain⟨i1,i2,i3⟩:=hI.go hf o _ _ hL
  have hm:plc n page∈y.S.getD k []:=by rw[kS];exact(h.slotE k n page hk32 hn hpg).2 ⟨he,hk⟩
  have hent:=i3 n page hpg
  rw[if_pos hm]at hent
  refine⟨⟨⟨i1.ok.wf,i1.ok.backE,i1.ok.slotE,i1.ok.useB,fun g hg hu3=>?_,i1.ok.table,i1.ok.cached,i1.ok.cacheE,i1.ok.cacheK,i1.ok.area⟩,i1.same,i1.keeps,.inl rfl,.inr (by rw[i2,hD]),⟨fun m pg hq hk1=>?_,fun g hg hgu hgB=>i1.backs g hg (fun e=>by rw[e]at hgu;omega) hgu hgB,fun g q hq=>by rw[i1.crs];exact hq⟩⟩,fun _=>by rw[hent];exact⟨rfl,rfl⟩⟩
  rcases i1.ok.anon g hg hu3 with a|a|a
  ·exact .inl a
  ·exact .inr a
  ·left
   intro hB0
   have:=(i1.ok.backE g n page hg hn hpg).2 (by rw[hent,a];exact⟨rfl,rfl⟩)
   rw[hB0]at this
   cases this
  ·rw[i3 m pg hq,if_neg,e1 m pg hq]
   intro hm2
   rw[kS]at hm2
   have h9:=((uj h.wf.slots k).2 _ hm2)
   have hm8:m<8:=by unfold InR plc at h9;dsimp only at h9;omega
   have:=((h.slotE k m pg hk32 hm8 hq).1 hm2).1
   omega
 ·have hne:¬(x.zx 3 (160+k)).1.2=0:=by rw[e];dsimp only;omega
  rw[if_neg hne]
  have kk:=d.ok h
  exact⟨⟨kk.1,kk.2,d.keeps.mono (by omega),.inr (.inr ⟨by rw[e],hw⟩),.inr hD,d.stay⟩,fun e=>absurd e (by rw[‹(x.zx 3 (160+k)).1=_›];dsimp only;omega)⟩
theorem zhp(x:za)(n:Nat)(at_:Int):(x.qy n at_).R=x.R∧(x.qy n at_).P=x.P∧(x.qy n at_).D=x.D∧(x.qy n at_).B=x.B∧(x.qy n at_).S=x.S∧(x.qy n at_).CL=x.CL∧(x.qy n at_).CR=x.CR∧
  (∀m,(x.qy n at_).T m=if m=n then(x.T n).map (fun pr=>⟨pr.T,pr.A,Qe pr.Q ((n:Int),at_)⟩)else x.T m):=by
 unfold za.qy
 cases hp:x.T n with
 | none=>
  refine⟨rfl,rfl,rfl,rfl,rfl,rfl,rfl,fun m=>?_⟩
  by_cases k:m=n
  ·rw[if_pos k,k,hp];rfl
  ·rw[if_neg k]
 | some pr=>
  refine⟨rfl,rfl,rfl,rfl,rfl,rfl,rfl,fun m=>?_⟩
  by_cases k:m=n
  ·rw[if_pos k]
   exact if_pos k
  ·rw[if_neg k]
   exact if_neg k
theorem OK.qy(h:OK F x)(n:Nat)(at_:Int):OK F (x.qy n at_)∧(∀m page,page<4096→(x.qy n at_).pv m page=x.pv m page)∧(∀k,(x.qy n at_).Zr k=x.Zr k)∧(∀k,(x.qy n at_).uh k=x.uh k)∧uw 0 x (x.qy n at_):=by
 obtain⟨w,e⟩:=h.wf.qy n at_
 obtain⟨hR,hP,hD,hB,hS,hC,hCR,hT⟩:=zhp x n at_
 have hA:∀m pm,(x.qy n at_).T m=some pm→∃p0,x.T m=some p0∧p0.A=pm.A∧p0.T=pm.T:=fun m pm hm=>by
  rw[hT]at hm
  by_cases k:m=n
  ·rw[if_pos k]at hm
   obtain⟨p0,h1,h2⟩:=Option.map_eq_some_iff.1 hm
   exact⟨p0,by rw[k];exact h1,by rw[←h2],by rw[←h2]⟩
  ·rw[if_neg k]at hm
   exact⟨pm,hm,rfl,rfl⟩
 have hS2:∀m,((x.qy n at_).T m).isSome=(x.T m).isSome:=fun m=>by
  rw[hT]
  split
  ·rename_i k;rw[k];cases x.T n<;>rfl
  ·rfl
 refine⟨⟨w,fun f m page h1 h2 h3=>by rw[hB,e m page h3];exact h.backE f m page h1 h2 h3,fun k m page h1 h2 h3=>by rw[hS,e m page h3];exact h.slotE k m page h1 h2 h3,fun f h1 h2=>by rw[hP];rw[hB]at h2;exact h.useB f h1 h2,fun f h1 h2=>by rw[hB];rw[hP]at h2;exact h.anon f h1 h2,fun f h1 h2=>?_,fun f h1=>by rw[hP,hCR];exact h.cached f h1,by rw[hC,hCR];exact h.cacheE,by rw[hC];exact h.cacheK,fun m pm page h1 h2=>?_⟩,fun m page hpg=>?_,fun k=>by unfold za.Zr;rw[hC,hR,hD],fun k=>by unfold za.uh;rw[hC],⟨by rw[hP];exact⟨rfl,rfl⟩,by rw[hP];omega,by rw[hR],fun f v _=>by rw[hP],hS2⟩⟩
 ·rw[hP]at h2
  obtain⟨m,p0,h3,h4⟩:=h.table f h1 h2
  by_cases k:m=n
  ·refine⟨m,⟨p0.T,p0.A,Qe p0.Q ((n:Int),at_)⟩,?_,h4⟩
   rw[hT,if_pos k,←k,h3]
   rfl
  ·exact⟨m,p0,by rw[hT,if_neg k];exact h3,h4⟩
 ·obtain⟨p0,h3,h4,_⟩:=hA m pm h1
  have a:=h.area m p0 page h3 h2
  rw[e m page h2]
  exact⟨by rw[←h4];exact a.find,by rw[←h4,hCR];exact a.own,by rw[←h4,hCR];exact a.file,by rw[←h4,hCR];exact a.shared,by rw[←h4];exact a.slot⟩
 ·have hs:=hS2 m
  unfold za.pv
  cases h1:(x.qy n at_).T m with
  | none=>
   rw[h1]at hs
   cases h2:x.T m with
   | none=>rfl
   | some _=>rw[h2]at hs;cases hs
  | some pm=>
   obtain⟨p0,h3,h4,_⟩:=hA m pm h1
   rw[h3]
   dsimp only
   rw[h4]
   cases z8 pm.A (page:Int)with
   | none=>rfl
   | some a=>
    dsimp only
    rw[e m page hpg]
    exact Qk (by rw[hCR]) (by rw[hD]) fun _=>by rw[hR]
theorem OK.zy(h:OK F x)(o:∀n,8≤n→x.T n=none){n page:Nat}{pr:yg}(hp:x.T n=some pr)(hpg:page<4096){a:Ar}(ha:z8 pr.A (page:Int)=some a):
  (x.pv n page=.lost∧x.zy n page a=((0,7),x.qy n (page*64)))∨
  (x.pv n page≠.lost∧Got F 4 x (x.zy n page a).1.2 (x.zy n page a).2∧((x.zy n page a).1.2=0→((x.zy n page a).2.ent n page).kind=1∧((x.zy n page a).2.ent n page).n=(x.zy n page a).1.1)):=by
 have hn:=h.Zy o hp
 have hpv:=Ze hp ha
 unfold za.zy
 by_cases k3:(x.ent n page).kind=3
 ·left
  rw[if_pos k3,hpv]
  unfold za.pv1
  rw[if_pos k3]
  exact⟨rfl,rfl⟩
 ·right
  refine⟨?_,?_⟩
  ·rw[hpv]
   unfold za.pv1
   rw[if_neg k3]
   intro e
   split at e
   ·cases e
   ·split at e
    ·split at e<;>cases e
    ·split at e<;>cases e
  ·rw[if_neg k3]
   by_cases k2:(x.ent n page).kind=2
   ·rw[if_pos k2]
    have hr:=(Ent.ok_n (h.wf.Zc n hpg)).2 k2
    obtain⟨g,e⟩:=h.inF o hn hpg k2 (k:=(x.ent n page).n.toNat) (by omega)
    refine⟨⟨g.ok,g.same,g.keeps.mono (by omega),?_,g.disk,g.stay⟩,e⟩
    rcases g.code with e|⟨e,e2⟩|e
    ·exact .inl e
    ·exact .inr (.inl ⟨e,by omega⟩)
    ·exact .inr (.inr e)
   ·rw[if_neg k2]
    by_cases k0:(x.ent n page).kind=0
    ·rw[if_pos k0]
     exact h.uf o hp hpg ha k0
    ·rw[if_neg k0]
     have hk:(x.ent n page).kind≤3:=by
      have:=h.wf.Zc n hpg
      unfold Ent.ok at this
      simp only[Bool.and_eq_true,decide_eq_true_eq]at this
      exact this.1.1
     exact⟨⟨h,Same.refl x,(uw.refl x).mono (by omega),.inl rfl,.inl rfl,Stay.refl x⟩,fun _=>by dsimp only;exact⟨by omega,rfl⟩⟩
end
section
open Go Go.RowKit
structure Abs where
 A:Nat→Option (List Ar×List (Int×Int))
 pv:Nat→Nat→PV
 file:Int×Int→List UInt8
 uh:Int×Int→Bool
 cur:Nat→List UInt8
instance (k:Int×Int):Decidable (uz k):=inferInstanceAs (Decidable (_∧_))
def za.abs(x:za):Abs where
 A n:=(x.T n).map fun pr=>(pr.A,pr.Q)
 pv n page:=if page<4096 then x.pv n page else .none
 file k:=if uz k then x.Zr k else []
 uh:=x.uh
 cur:=x.D.cur
theorem Same.abs{x y:za}(h:Same x y):y.abs=x.abs:=by
 unfold za.abs
 rw[Abs.mk.injEq]
 refine⟨funext h.procs,?_,?_,funext h.uh,h.cur⟩
 ·funext n page
  by_cases k:page<4096
  ·rw[if_pos k,if_pos k,h.pv n page k]
  ·rw[if_neg k,if_neg k]
 ·funext q
  by_cases k:uz q
  ·rw[if_pos k,if_pos k,h.file q k]
  ·rw[if_neg k,if_neg k]
namespace Abs
def ct(X:Abs)(a:Ar)(n page:Nat):List UInt8:=match X.pv n page with | .own l=>l | .file=>X.file (za.keyF a page)|_=>List.replicate 64 0
def Ve(X:Abs)(n page:Nat)(v:PV):Abs:={X with pv:=fun m pg=>if m=n∧pg=page then v else X.pv m pg}
def Qi(X:Abs)(k:Int×Int)(d:Bool):Abs:={X with uh:=fun q=>if q=k then d else X.uh q}
def za6(X:Abs)(k:Int×Int)(l:List UInt8):Abs:={X with file:=fun q=>if q=k then l else X.file q}
def own(X:Abs)(a:Ar)(n page:Nat):Abs:=if a.kind=2 then X.Qi (za.keyF a page) true else X.Ve n page (.own (X.ct a n page))
def splice(l:List UInt8)(at_:Nat)(b:List UInt8):List UInt8:=l.take at_++(b++l.drop (at_+b.length))
def write(X:Abs)(a:Ar)(n page at_:Nat)(b:List UInt8):Abs:=if a.kind=2 then X.za6 (za.keyF a page) (splice (X.file (za.keyF a page)) at_ b)else X.Ve n page (.own (splice (X.ct a n page) at_ b))
end Abs
structure Mine(x:za)(a:Ar)(n page f:Nat):Prop where
 lt:f<1024
 ent:(x.ent n page).kind=1∧(x.ent n page).n=f
 shared:a.kind=2→getL x.CR (f:Int)=some (za.keyF a page)∧x.uh (za.keyF a page)=true
 own:a.kind≠2→getL x.CR (f:Int)=none∧x.B f=[plc n page]
structure Beside(n page:Nat)(x y:za):Prop where
 ent:∀m pg,pg<4096→¬(m=n∧pg=page)→y.ent m pg=x.ent m pg
 backs:∀f:Nat,f<1024→x.P.use f=3→x.B f≠[]→(f:Int)≠(x.ent n page).n→y.B f=x.B f∧y.P.use f=3
 cr:∀f k,getL x.CR f=some k→getL y.CR f=some k
theorem Beside.refl(n page:Nat)(x:za):Beside n page x x:=⟨fun _ _ _ _=>rfl,fun _ _ h _ _=>⟨rfl,h⟩,fun _ _ h=>h⟩
section
variable {F:Nat→Prop}{x y:za}
theorem zfy(h:OK F x){n page:Nat}{pr:yg}(hn:n<8)(hp:x.T n=some pr)(hpg:page<4096){a:Ar}(ha:z8 pr.A (page:Int)=some a)(hk:(x.ent n page).kind=1):x.abs.ct a n page=x.R.read (x.ent n page).n.toNat 0 64:=by
 have hpv:=Ze hp ha
 have e:x.abs.pv n page=x.pv n page:=if_pos hpg
 obtain⟨f,e1,e2,_,e3,_⟩:=h.frame hn hpg hk
 have hA:=h.area n pr page hp hpg
 unfold Abs.ct
 rw[e,hpv]
 unfold za.pv1
 rw[if_neg (by omega),if_neg (by omega),if_pos hk]
 by_cases hc:getL x.CR (x.ent n page).n=none
 ·rw[if_pos hc]
 ·rw[if_neg hc]
  dsimp only
  obtain⟨k,hck⟩:=Option.ne_none_iff_exists'.1 hc
  have hne:a.kind≠1:=fun e=>hc (hA.own a ha hk e)
  have hkey:=hA.file a k ha hk hne hck
  subst hkey
  have hko:=Vg (h.wf.Zg n pr hp).1 ha hne
  show(if uz (za.keyF a page)then x.Zr (za.keyF a page)else [])=_
  rw[if_pos hko]
  unfold za.Zr
  obtain⟨d,hd⟩:=(h.cacheE _ _).2 hck
  rw[hd]
theorem OK.mark(h:OK F x)(k:Int×Int)(hk:∃v,getL x.CL k=some v):OK F (x.xk k true)∧(x.xk k true).abs=x.abs.Qi k true∧(∀n page,(x.xk k true).ent n page=x.ent n page)∧uw 0 x (x.xk k true):=by
 obtain⟨v,hv⟩:=hk
 have w:=h.wf.xk k true
 have e:x.xk k true={x with CL:=updL x.CL k (v.1,true)}:=by unfold za.xk;rw[hv]
 have he:∀n page,(x.xk k true).ent n page=x.ent n page:=fun n page=>by rw[e];rfl
 rw[e]at w he⊢
 have hfst:∀q g,(∃d,getL (updL x.CL k (v.1,true)) q=some (g,d))↔∃d,getL x.CL q=some (g,d):=fun q g=>by
  rw[y8]
  by_cases c:q=k
  ·rw[if_pos c,c,hv]
   constructor
   ·rintro⟨d,hd⟩
    simp at hd
    exact⟨v.2,by rw[←hd.1]⟩
   ·rintro⟨d,hd⟩
    simp at hd
    exact⟨true,by rw[hd]⟩
  ·rw[if_neg c]
 have hv2:∀q w,getL (updL x.CL k (v.1,true)) q=some w→∃w0,getL x.CL q=some w0∧w0.1=w.1:=fun q w hw=>by
  obtain⟨d,hd⟩:=(hfst q w.1).1 ⟨w.2,hw⟩
  exact⟨_,hd,rfl⟩
 refine⟨⟨w,fun f n page h1 h2 h3=>h.backE f n page h1 h2 h3,fun q n page h1 h2 h3=>h.slotE q n page h1 h2 h3,h.useB,h.anon,h.table,h.cached,fun q g=>(hfst q g).trans (h.cacheE q g),fun q w hw=>?_,fun n pr page h1 h2=>by
  have a:=h.area n pr page h1 h2
  rw[he n page]
  exact⟨a.find,a.own,a.file,a.shared,a.slot⟩⟩,?_,he,⟨⟨rfl,rfl⟩,by dsimp only;omega,rfl,fun _ _ _=>Iff.rfl,fun _=>rfl⟩⟩
 ·obtain⟨w0,h0,_⟩:=hv2 q w hw
  exact h.cacheK q w0 h0
 ·unfold za.abs Abs.Qi
  rw[Abs.mk.injEq]
  refine⟨rfl,rfl,?_,?_,rfl⟩
  ·funext q
   by_cases c:uz q
   ·rw[if_pos c]
    dsimp only
    rw[if_pos c]
    unfold za.Zr
    dsimp only
    rw[y8]
    by_cases c2:q=k
    ·rw[if_pos c2,c2,hv]
    ·rw[if_neg c2]
   ·rw[if_neg c]
    dsimp only
    rw[if_neg c]
  ·funext q
   unfold za.uh
   dsimp only
   rw[y8]
   by_cases c2:q=k
   ·rw[if_pos c2,if_pos c2];rfl
   ·rw[if_neg c2,if_neg c2]
theorem OK.zh1(h:OK F x){n page:Nat}{pr:yg}{e:Ent}{c:Int}(d:PutD x n page pr e c y)(hp:x.T n=some pr)(hpg:page<4096){a:Ar}(ha:z8 pr.A (page:Int)=some a)(o:∀n,8≤n→x.T n=none)(hc:c=0)(l:List UInt8)(hl:y.pv1 a e=.own l):y.abs=x.abs.Ve n page (.own l):=by
 -- what all see but for this page
 have hR:∀f i,f<1024→(x.P.use f=3∨x.P.use f=4)→i<64→y.R.b f i=x.R.b f i:=fun f i hf hu hi=>d.bytes f i (by omega) fun ho=>by have:=(h.wf.yt ho).2.1;omega
 have hA:∀m,(y.T m).map (fun pr=>(pr.A,pr.Q))=(x.T m).map (fun pr=>(pr.A,pr.Q)):=fun m=>by
  by_cases k:m=n
  ·subst k
   obtain⟨T',ht⟩:=d.this
   rw[ht,hp]
   rfl
  ·rw[d.oth m k]
 have hA1:∀m,(y.T m).map (·.A)=(x.T m).map (·.A):=fun m=>by
  have:=congrArg (Option.map Prod.fst) (hA m)
  simpa[Option.map_map,Function.comp_def]using this
 unfold za.abs Abs.Ve
 rw[Abs.mk.injEq]
 refine⟨funext hA,?_,?_,by funext k;unfold za.uh;rw[d.keep.2.1],by rw[d.keep.1]⟩
 ·funext m pg
  by_cases k:m=n∧pg=page
  ·rw[if_pos k,k.1,k.2,if_pos hpg]
   obtain⟨T',ht⟩:=d.this
   rw[Ze ht ha,d.done hpg hc]
   exact hl
  ·rw[if_neg k]
   by_cases hq:pg<4096
   ·rw[if_pos hq]
    dsimp only
    rw[if_pos hq]
    have he:y.ent m pg=x.ent m pg:=by rw[d.ent m pg hq,if_neg fun a=>k a.2]
    by_cases hm:m<8
    ·exact Y1 h m pg hm hq (hA1 m) he (fun _=>by rw[d.keep.2.2]) (fun _=>by rw[d.keep.1]) hR
    ·have h1:=o m (by omega)
     have h2:y.T m=none:=by
      have:=hA m
      rw[h1]at this
      simpa using this
     unfold za.pv
     rw[h1,h2]
   ·rw[if_neg hq]
    dsimp only
    rw[if_neg hq]
 ·funext k
  by_cases hk:uz k
  ·rw[if_pos hk]
   dsimp only
   rw[if_pos hk]
   exact jq h k d.keep.2.1 (by rw[d.keep.1]) fun f i a b c=>hR f i a (.inr b) c
  ·rw[if_neg hk]
   dsimp only
   rw[if_neg hk]
theorem OK.ownF(h:OK F x)(o:∀n,8≤n→x.T n=none){n page:Nat}{pr:yg}(hp:x.T n=some pr)(hpg:page<4096){a:Ar}(ha:z8 pr.A (page:Int)=some a)(hk:(x.ent n page).kind=1){f:Nat}(hf:(x.ent n page).n=f):
  OK F (x.ownF n page a f).2∧uw 1 x (x.ownF n page a f).2∧(x.ownF n page a f).2.D=x.D∧Beside n page x (x.ownF n page a f).2∧(((x.ownF n page a f).1.2=4∧x.P.room<1∧(x.ownF n page a f).2.abs=x.abs)∨
   ((x.ownF n page a f).1.2=0∧(x.ownF n page a f).2.abs=x.abs.own a n page∧∃g:Nat,(x.ownF n page a f).1.1=g∧Mine (x.ownF n page a f).2 a n page g)):=by
 have hn:=h.Zy o hp
 obtain⟨f',e1,e2,hm,hu,hb⟩:=h.frame hn hpg hk
 have hff:f'=f:=by omega
 subst hff
 have hA:=h.area n pr page hp hpg
 have hct:=zfy h hn hp hpg ha hk
 rw[hf,Int.toNat_natCast]at hct
 unfold za.ownF
 by_cases k2:a.kind=2
 ·rw[if_pos k2]
  obtain⟨k,hck⟩:=Option.ne_none_iff_exists'.1 (hA.shared a ha hk k2)
  have hkey:=hA.file a k ha hk (by omega) hck
  rw[hf]at hck
  rw[hck]
  subst hkey
  obtain⟨d,hd⟩:=(h.cacheE _ _).2 hck
  obtain⟨m1,m2,m3,m4⟩:=h.mark (za.keyF a page) ⟨_,hd⟩
  have hdr:(x.xk (za.keyF a page) true).uh (za.keyF a page)=true:=by
   have:=congrArg (fun X:Abs=>X.uh (za.keyF a page)) m2
   simpa[za.abs,Abs.Qi]using this
  refine⟨m1,m4.mono (by omega),rfl,⟨fun m pg _ _=>m3 m pg,fun _ _ h1 _ _=>⟨rfl,h1⟩,fun _ _ h1=>h1⟩,.inr ⟨rfl,?_,f',rfl,⟨e2,by dsimp only[Option.getD_some];rw[m3];exact⟨hk,hf⟩,fun _=>⟨hck,hdr⟩,fun q=>absurd k2 q⟩⟩⟩
  unfold Abs.own
  rw[if_pos k2]
  exact m2
 ·rw[if_neg k2]
  by_cases k1:getL x.CR (f':Int)=none∧(x.B f').length=1
  ·rw[if_pos k1]
   have hB1:x.B f'=[plc n page]:=by
    cases hl:x.B f' with
    | nil=>rw[hl]at hm;cases hm
    | cons q l=>
     have:=k1.2
     rw[hl]at this
     have hl2:l=[]:=by cases l with|nil=>rfl|cons _ _=>simp at this
     subst hl2
     rw[hl]at hm
     simp at hm
     rw[hm]
   have hu3:x.P.use f'=3:=by
    rcases hu with hu|hu
    ·exact hu
    ·have:=(h.cached f' e2).1 hu
     rw[k1.1]at this
     cases this
   have d:=h.wf.putF hn hp hpg (e:=⟨1,f',true⟩) (by simp[Ent.ok,most];omega)
   obtain⟨c0,kp⟩:=d.zis h.wf hp (.inl (by omega))
   have hA2:Vb x pr page ⟨1,f',true⟩:=by
    refine⟨fun _=>⟨a,ha⟩,fun b hb _ h3=>k1.1,fun b q hb _ _ h4=>?_,fun b hb _ h3=>?_,fun b hb h2=>by cases h2⟩
    ·dsimp only at h4;rw[k1.1]at h4;cases h4
    ·rw[ha]at hb;cases hb;exact absurd h3 k2
   have k:=h.put d hn hp hpg (fun _=>⟨f',rfl,e2,.inl hu3⟩) hA2
   have hns:¬x.owns n f':=fun ho=>by have:=(h.wf.yt ho).2.1;omega
   have hrd:(x.putF n page ⟨1,f',true⟩).2.R.read f' 0 64=x.R.read f' 0 64:=Z8 fun i _=>d.bytes f' i (by omega) hns
   have bes:Beside n page x (x.putF n page ⟨1,f',true⟩).2:=by
    refine⟨fun m pg hq hne=>by rw[d.ent m pg hq,if_neg fun q=>hne q.2],fun f2 hf2 hu2 hB2 hne=>?_,fun f2 q2 hq2=>by rw[d.keep.2.2];exact hq2⟩
    have hn2:¬x.owns n f2:=fun ho=>by have:=(h.wf.yt ho).2.1;omega
    refine⟨?_,?_⟩
    ·refine x9 (d.wf.back f2).1 (h.wf.back f2).1 ?_
     refine(List.perm_ext_iff_of_nodup (d.wf.back f2).1.nodup (h.wf.back f2).1.nodup).2 fun q=>?_
     rw[d.memB]
     split
     ·have h1:¬((x.ent n page).kind=1∧(x.ent n page).n=f2):=fun a=>hne a.2.symm
      have h2:¬((1:Nat)=1∧(f':Int)=f2):=fun a=>hne (by omega)
      exact⟨fun a=>a.elim (fun b=>absurd b h2) fun b=>b.2,fun a=>.inr ⟨h1,a⟩⟩
     ·exact Iff.rfl
    ·rw[d.use f2 hn2 (by omega),if_neg]
     ·exact hu2
     ·rintro⟨_,_,_,b,_⟩
      exact hne b
   refine⟨k.mono fun g hg=>hg.1,kp.mono (by omega),d.keep.1,bes,.inr ⟨c0,?_,f',rfl,⟨e2,by rw[d.done hpg c0];exact⟨rfl,rfl⟩,fun q=>absurd q k2,fun _=>⟨by rw[d.keep.2.2];exact k1.1,?_⟩⟩⟩⟩
   ·unfold Abs.own
    rw[if_neg k2,hct]
    refine h.zh1 d hp hpg ha o c0 _ ?_
    unfold za.pv1
    dsimp only
    rw[d.keep.2.2,k1.1,Int.toNat_natCast,hrd]
    simp
   ·refine x9 (d.wf.back _).1 (List.pairwise_singleton _ _) ?_
    refine(List.perm_ext_iff_of_nodup (d.wf.back _).1.nodup (by simp)).2 fun q=>?_
    rw[d.memB,hB1]
    split
    ·rename_i g
     simp[g.2.1]
    ·exact Iff.rfl
  ·rw[if_neg k1]
   rcases h.wf.yn (f':Int)with⟨hnx,e⟩|⟨g,hnx,hbad,e,d0,hD⟩|⟨g,hnx,hbad,e,d0,hD⟩
   ·rw[e]
    dsimp only
    rw[if_neg (by simp)]
    exact⟨h,(uw.refl x).mono (by omega),rfl,Beside.refl _ _ x,.inl ⟨rfl,by have:=Zk hnx;omega,rfl⟩⟩
   ·obtain⟨q1,s1,hB,hcr,hu3,hrd⟩:=d0.ok h o
    have kp1:=d0.keeps (.inl rfl)
    have en1:=d0.ent
    have st1:=d0.stay
    have kT:=d0.keep.1
    have kR:=d0.keep.2.2.2.2
    have kB:=d0.keep.2.1
    have hg:=d0.was.1
    have hgu:=d0.was.2
    rw[Int.toNat_natCast]at hrd
    obtain⟨y,hy⟩:∃y,y=(x.yn (f':Int)).2:=⟨_,rfl⟩
    rw[←hy]at q1 s1 hu3 hrd kp1 en1 st1 kT kR kB hD⊢
    rw[e]
    dsimp only
    rw[if_pos rfl]
    clear hy d0 e
    have hp':y.T n=some pr:=by rw[kT];exact hp
    have d:=q1.wf.putF hn hp' hpg (e:=⟨1,g,true⟩) (by simp[Ent.ok,most];omega)
    obtain⟨c0,kp⟩:=d.zis q1.wf hp' (.inl (by rw[en1 n page hpg];omega))
    have hA2:Vb y pr page ⟨1,g,true⟩:=by
     refine⟨fun _=>⟨a,ha⟩,fun b hb _ h3=>by dsimp only;rw[kR];exact hcr,fun b q hb _ _ h4=>?_,fun b hb _ h3=>?_,fun b hb h2=>by cases h2⟩
     ·dsimp only at h4;rw[kR,hcr]at h4;cases h4
     ·rw[ha]at hb;cases hb;exact absurd h3 k2
    have k:=q1.put d hn hp' hpg (fun _=>⟨g,rfl,hg,.inl hu3⟩) hA2
    have hns:¬y.owns n g:=fun ho=>by have:=(q1.wf.yt ho).2.1;omega
    have hrd2:(y.putF n page ⟨1,g,true⟩).2.R.read g 0 64=y.R.read g 0 64:=Z8 fun i _=>d.bytes g i (by omega) hns
    have hgf:(y.ent n page).n≠(g:Int):=fun q=>by
     rw[en1 n page hpg]at q
     have:f'=g:=by omega
     subst this
     omega
    have bes:Beside n page x (y.putF n page ⟨1,g,true⟩).2:=by
     refine⟨fun m pg hq hne=>by rw[d.ent m pg hq,if_neg fun q=>hne q.2,en1 m pg hq],fun f2 hf2 hu2 hB2 hne=>?_,fun f2 q2 hq2=>by rw[d.keep.2.2];exact st1.cr f2 q2 hq2⟩
     obtain⟨b1,b2⟩:=st1.backs f2 hf2 hu2 hB2
     have hne3:f2≠g:=fun e=>by rw[e]at hu2;omega
     have hn2:¬y.owns n f2:=fun ho=>by have:=(q1.wf.yt ho).2.1;omega
     refine⟨Eq.trans ?_ b1,?_⟩
     ·refine x9 (d.wf.back f2).1 (q1.wf.back f2).1 ?_
      refine(List.perm_ext_iff_of_nodup (d.wf.back f2).1.nodup (q1.wf.back f2).1.nodup).2 fun q=>?_
      rw[d.memB]
      split
      ·have h1:¬((y.ent n page).kind=1∧(y.ent n page).n=f2):=fun a=>hne (by rw[←en1 n page hpg];exact a.2.symm)
       have h2:¬((1:Nat)=1∧(g:Int)=f2):=fun a=>hne3 (by omega)
       exact⟨fun a=>a.elim (fun b=>absurd b h2) fun b=>b.2,fun a=>.inr ⟨h1,a⟩⟩
      ·exact Iff.rfl
     ·rw[d.use f2 hn2 (by omega),if_neg]
      ·exact b2
      ·rintro⟨_,_,_,b,_⟩
       exact hne (by rw[←en1 n page hpg];exact b)
    refine⟨k.mono fun z hz=>?_,(kp1.trans kp).mono (by omega),by rw[d.keep.1,hD],bes,.inr ⟨c0,?_,g,rfl,⟨hg,by rw[d.done hpg c0];exact⟨rfl,rfl⟩,fun q=>absurd q k2,fun _=>⟨by rw[d.keep.2.2,kR];exact hcr,?_⟩⟩⟩⟩
    ·rcases hz.1 with q|q
     ·exact q
     ·exact absurd ⟨c0,rfl,by rw[q]⟩ hz.2
    ·unfold Abs.own
     rw[if_neg k2,hct,←s1.abs]
     refine q1.zh1 d hp' hpg ha (s1.out o) c0 _ ?_
     unfold za.pv1
     dsimp only
     rw[d.keep.2.2,kR,hcr,Int.toNat_natCast,hrd2,hrd]
     simp
    ·refine x9 (d.wf.back _).1 (List.pairwise_singleton _ _) ?_
     refine(List.perm_ext_iff_of_nodup (d.wf.back _).1.nodup (by simp)).2 fun q=>?_
     rw[d.memB,kB,hB]
     split
     ·rename_i z
      simp[z.2.1]
     ·rename_i z
      constructor
      ·intro q;cases q
      ·intro q
       simp at q
       refine absurd ⟨c0,q,fun w=>?_⟩ z
       rw[w]at hgf
       exact hgf rfl
   ·rw[Int.toNat_natCast,hb]at hbad
    cases hbad
end
end
structure Ok0(x:za):Prop where
 ok:OK (fun _=>False) x
 out:∀n,8≤n→x.T n=none
def Abs.area(X:Abs)(n page:Nat):Option Ar:=(X.A n).bind fun p=>z8 p.1 (page:Int)
theorem jb{x:za}{n page:Nat}{pr:yg}(hp:x.T n=some pr):x.abs.area n page=z8 pr.A (page:Int):=by
 unfold Abs.area za.abs
 dsimp only
 rw[hp]
 rfl
structure Ue(x:za)(n page:Nat)(wr:Bool)(a:Ar)(f c:Int)(y:za):Prop where
 ok:Ok0 y
 keeps:uw 5 x y
 disk:y.D=x.D∨y.D=x.D.work.1
 code:c=0∨(c=4∧x.P.room<5∧y.abs=x.abs)∨(c=(x.D.work.2:Int)∧x.D.work.2≠0∧y.abs=x.abs)
 abs:c=0→y.abs=if wr then x.abs.own a n page else x.abs
 frame:c=0→(y.ent n page).kind=1∧(y.ent n page).n=f
 mine:c=0→wr=true→∃g:Nat,f=g∧Mine y a n page g
 ent1:∀m pg,pg<4096→¬(m=n∧pg=page)→(x.ent m pg).kind=1→y.ent m pg=x.ent m pg
 backs:∀(m pg g:Nat),m<8→pg<4096→¬(m=n∧pg=page)→g<1024→x.P.use g=3→x.B g=[plc m pg]→y.B g=[plc m pg]∧y.P.use g=3
 cr:∀g k,getL x.CR g=some k→getL y.CR g=some k
section
variable {F:Nat→Prop}{x y:za}
theorem OK.frame'(h:OK F x){n page:Nat}(hn:n<8)(hpg:page<4096)(hk:(x.ent n page).kind=1):(x.ent n page).n=((x.ent n page).n.toNat:Int)∧(x.ent n page).n.toNat<1024∧x.R.bad (x.ent n page).n.toNat=false:=by
 obtain⟨f,e1,e2,_,_,e3⟩:=h.frame hn hpg hk
 rw[e1,Int.toNat_natCast]
 exact⟨rfl,e2,e3⟩
theorem Ok0.askF (h : Ok0 x) {n page : Nat} {pr : yg} (hp : x.T n = some pr) (hpg : page < 4096) (wr : Bool) :
    ((z8 pr.A (page : Int) = none ∨ ∃ a, z8 pr.A (page : Int) = some a ∧ wr = true ∧ a.write = false) ∧ x.askF n page wr = ((0, 11), x)) ∨
    (∃ a, z8 pr.A (page : Int) = some a ∧ ¬ (wr = true ∧ a.write = false) ∧
      ((x.pv n page = .lost ∧ x.askF n page wr = ((0, 7), x.qy n (page * 64))) ∨
       (x.pv n page ≠ .lost ∧ Ue x n page wr a (x.askF n page wr).1.1 (x.askF n page wr).1.2 (x.askF n page wr).2))) := by
  have hn := h.ok.Zy h.out hp
  unfold za.askF
  rw [hp]
  dsimp only
  cases ha : z8 pr.A (page : Int) with
  | none => exact .inl ⟨.inl rfl, rfl⟩
  | some a =>
    dsimp only
    by_cases hd : wr = true ∧ a.write = false
    · rw [if_pos hd]
      exact .inl ⟨.inr ⟨a, rfl, hd⟩, rfl⟩
    · rw [if_neg hd]
      refine .inr ⟨a, rfl, hd, ?_⟩
      rcases h.ok.zy h.out hp hpg ha with ⟨l, e⟩ | ⟨l, g, fr⟩
      · left
        rw [e]
        dsimp only
        rw [if_neg (by simp)]
        exact ⟨l, rfl⟩
      · right
        refine ⟨l, ?_⟩
        obtain ⟨⟨⟨f, c⟩, y⟩, hy⟩ : ∃ r, r = x.zy n page a := ⟨_, rfl⟩
        rw [← hy] at g fr ⊢
        dsimp only at g fr ⊢
        clear hy
        have oy := g.same.out h.out
        obtain ⟨T', hp'⟩ := g.same.proc hp
        have hab := g.same.abs
        have gok := g.ok
        have bk : ∀ (m pg k : Nat), m < 8 → pg < 4096 → ¬ (m = n ∧ pg = page) → k < 1024 → x.P.use k = 3 → x.B k = [plc m pg] → y.B k = [plc m pg] ∧ y.P.use k = 3 := fun m pg k _ _ _ hk hu hB => by
          obtain ⟨a, b⟩ := g.stay.backs k hk hu (by rw [hB]; simp)
          exact ⟨a.trans hB, b⟩
        by_cases hc : c = 0 ∧ wr = true
        · rw [if_pos hc]
          obtain ⟨hc, rfl⟩ := hc
          obtain ⟨f1, f2⟩ := fr hc
          obtain ⟨e1, e2, e3⟩ := g.ok.frame' hn hpg f1
          obtain ⟨k, hk⟩ : ∃ k : Nat, f = k := ⟨(y.ent n page).n.toNat, by rw [← f2]; exact e1⟩
          subst hk
          obtain ⟨o1, o2, o3, o4, o5⟩ := g.ok.ownF oy hp' hpg ha f1 f2
          obtain ⟨R, hR⟩ : ∃ R, R = y.ownF n page a (k : Int) := ⟨_, rfl⟩
          rw [← hR] at o1 o2 o3 o4 o5 ⊢
          clear hR
          have bk2 : ∀ (m pg g : Nat), m < 8 → pg < 4096 → ¬ (m = n ∧ pg = page) → g < 1024 → x.P.use g = 3 → x.B g = [plc m pg] → R.2.B g = [plc m pg] ∧ R.2.P.use g = 3 := fun m pg g hm hpg' hne hg hu hB => by
            obtain ⟨b1, b2⟩ := bk m pg g hm hpg' hne hg hu hB
            have hkf : (g : Int) ≠ (y.ent n page).n := fun e => by
              have := (gok.backE g n page hg hn hpg).2 ⟨f1, e.symm⟩
              rw [b1] at this
              simp at this
              exact hne (by have := Xj.1 this; exact ⟨this.1.symm, this.2.symm⟩)
            obtain ⟨c1, c2⟩ := o4.backs g hg b2 (by rw [b1]; simp) hkf
            exact ⟨c1.trans b1, c2⟩
          have hst := g.stay
          have hkp := g.keeps
          have hdk := g.disk
          clear g
          have en2 : ∀ m pg, pg < 4096 → ¬ (m = n ∧ pg = page) → (x.ent m pg).kind = 1 → R.2.ent m pg = x.ent m pg := fun m pg hq hne hk1 => by
            have e := hst.ent1 m pg hq hk1
            rw [o4.ent m pg hq hne, e]
          have cr2 : ∀ q k, getL x.CR q = some k → getL R.2.CR q = some k := fun q k hq => o4.cr q k (hst.cr q k hq)
          have out2 : ∀ m, 8 ≤ m → R.2.T m = none := fun m hm => by
            have := o2.some m
            rw [oy m hm] at this
            cases e : R.2.T m with
            | none => rfl
            | some _ => rw [e] at this; cases this
          rcases o5 with ⟨c4, r4, a4⟩ | ⟨c0, a0, q, hq, hm⟩
          · refine ⟨⟨o1, out2⟩, hkp.trans o2, by rw [o3]; exact hdk, .inr (.inl ⟨c4, by have := hkp.room; omega, by rw [a4, hab]⟩), fun e => ?_, fun e => ?_, fun e => ?_, en2, bk2, cr2⟩ <;> (rw [c4] at e; cases e)
          · refine ⟨⟨o1, out2⟩, hkp.trans o2, by rw [o3]; exact hdk, .inl c0, fun _ => by rw [a0, hab]; rfl, fun _ => ?_, fun _ _ => ⟨q, hq, hm⟩, en2, bk2, cr2⟩
            rw [hq]
            exact hm.ent
        · rw [if_neg hc]
          refine ⟨⟨g.ok, oy⟩, g.keeps.mono (by omega), g.disk, ?_, fun e => ?_, fr, fun e hw => absurd ⟨e, hw⟩ hc, fun m pg hq _ hk1 => g.stay.ent1 m pg hq hk1, bk, g.stay.cr⟩
          · rcases g.code with e | ⟨e, e2⟩ | ⟨e, e2⟩
            · exact .inl e
            · exact .inr (.inl ⟨e, by omega, hab⟩)
            · exact .inr (.inr ⟨e, e2, hab⟩)
          · dsimp only at e
            have : wr = false := by cases wr with | false => rfl | true => exact absurd ⟨e, rfl⟩ hc
            rw [this]
            exact hab
end
section
variable {w w':World}{tag tag':Nat→Nat}{q:Sq}{x:za}
theorem zmp(h:zb w tag q x)(n page:Int)(e:Ent)(hn:¬((x.T n.toNat).isSome=true∧0≤n)):
  Calls Tryz.prog 88 #[ptrV q.sp,.agg #[.int .i64 n,.int .i64 page],entV e] w fun r w'=>r=.returned (.int .i64 2)∧Below w.heap.size w w':=by
 obtain⟨w0,hw0⟩:∃w0,w0=(w.alloc (.cells #[.int .i64 n,.int .i64 page] 58 (0,0))).alloc (.cells #[.int .i64 e.kind,.int .i64 e.n,.bool e.write] 70 (0,0)):=⟨_,rfl⟩
 have hb0:Below w.heap.size w w0:=by rw[hw0];exact((Below.refl w.heap.size w).alloc (Nat.le_refl _) _).alloc (by simp) _
 have F:=Lib.hid (Za (h.below hb0) n)
 have ev:Ye q x n=.tuple #[.pointer none,.bool false]:=by
  unfold Ye
  rw[if_neg hn,decide_eq_false hn]
 rw[ev]at F
 have HB:=Lib.hid hb0
 have HW:=Lib.hid hw0
 unfold ptrV at F⊢
 unfold entV
 clear h hb0 hw0 ev hn
 go_enter Tryz.func88,Tryz.ntmps88
 go_wp2_with fail
 rw[←HW.out]
 refine F.out.mono ?_
 rintro r u ⟨rfl,hu⟩
 have hu:=hu.symm
 subst hu
 clear F
 go_wp2_with fail
 exact bodyPost_ret (v:=.int .i64 2) (by simp[results,Tryz.results88,go_sem]) rfl ⟨rfl,HB.out⟩
theorem Yf(h:zb w tag q x)(wf:WF x)(n page:Nat)(hn:n<8)(hpg:page<4096)(e:Ent)(he:e.ok=true):
  Calls Tryz.prog 88 #[ptrV q.sp,.agg #[.int .i64 n,.int .i64 page],entV e] w fun r w'=>r=.returned (.int .i64 (x.putF n page e).1)∧∃tag',zb w' tag' q (x.putF n page e).2∧Step (CP n) tag w tag' w':=by
 cases hp:x.T n with
 | none=>
  have ev:x.putF n page e=(2,x):=by unfold za.putF;rw[hp]
  rw[ev]
  refine(zmp h (n:Int) page e (by rw[Int.toNat_natCast,hp];simp)).mono ?_
  rintro r w1 ⟨rfl,hb⟩
  exact⟨rfl,retag tag w 0,h.step (Step.anew hb),Step.anew hb⟩
 | some pr=>
  obtain⟨N,ok⟩:=wf.rpt n pr hp
  have hent:=wf.Y7 hp ok hpg
  have hg:=wf.get hp hpg
  refine(zmm h n page pr hn hp N ok hpg e he (x.ent n page) hent.symm (wf.Zc n hpg) wf.lists).mono ?_
  rintro r w1 ⟨c,x',tag1,rfl,hpost,h1,s1⟩
  have key:x.putF n page e=(c,x'):=by
   unfold za.putF
   rw[hp]
   dsimp only
   rw[hg]
   dsimp only
   rw[if_neg (by simp)]
   rcases hpost with⟨a,rfl,rfl⟩|⟨a,b,rfl,rfl⟩|⟨a,b,rfl,rfl⟩
   ·rw[if_pos a]
   ·rw[if_neg a,if_pos b]
   ·rw[if_neg a,if_neg (fun k=>k b)]
  rw[key]
  exact⟨rfl,tag1,h1,s1⟩
end
section
variable {w w':World}{tag tag':Nat→Nat}{q:Sq}{x:za}
theorem zfk(h:zb w tag q x)(u:Nat)(hu:2≤u∧u≤5)(f:Nat)(hn:x.P.next true=some f)(hf:f<1024)(F:Nat)(c1 c2:Value)(eg:∀args w,(callFunc F args).run Tryz.prog w=.ok (.enter F args) w)(CA:Nat→Prop)(h2:CA 2)(Z:Int→za→Prop)
  (G:∀w1,zb w1 tag q {x with P:=x.P.set f u}→Step (fun c=>c=2) tag w tag w1→Calls Tryz.prog F #[.int .i64 f,c1,c2] w1 fun e w2=>∃c y tag2,e=.returned (.int .i64 c)∧zb w2 tag2 q y∧Step CA tag w1 tag2 w2∧Z c y∧(c≠0→2≤y.P.use f∧y.P.use f≤5)):
  Calls Tryz.prog 213 #[ptrV q.sp,.int .i64 u,.func (.func F) #[] #[c1,c2]] w fun e w'=>∃c y tag2,e=.returned (.tuple #[.int .i64 (if c=0 then f else 0),.int .i64 c])∧zb w' tag2 q (if c=0 then y else {y with P:=y.P.set f 1})∧Step CA tag w tag2 w'∧Z c y:=by
 have A:Hid (Calls Tryz.prog 43 #[.pointer (some ⟨q.pp,0,none⟩),.int .i64 u,.int .i64 0,.bool true] w fun e w1=>e=.returned (.tuple #[.int .i64 f,.int .i64 0])∧zb w1 tag q {x with P:=x.P.set f u}∧Step (fun c=>c=2) tag w tag w1):=by
  refine(Jw w _ _ _ _ _ h.pool u u rfl hu.1 hu.2).mono ?_
  rintro e w1 ⟨rfl,h1,h2,_⟩
  rw[hn]at h1⊢
  have k:=h.zh7 h2 h1
  exact⟨rfl,k.1,k.2⟩
 have c2':w.cell? ⟨q.sp,2,none⟩=some (.pointer (some ⟨q.pp,0,none⟩)):=h.row.cell (i:=2) (by omega)
 have HG:=Lib.hid G
 have HX:=Lib.hid (And.intro hf h2)
 unfold ptrV
 clear h G hn hf h2
 go_enter Tryz.func213,Tryz.ntmps213
 go_wp2_with fail
 refine A.out.mono ?_
 rintro e w1 ⟨rfl,h1,s1⟩
 have B:=Lib.hid (HG.out w1 h1 s1)
 have S1:=Lib.hid s1
 clear h1 s1 A c2' HG
 go_wp2_with fail
 refine B.out.mono ?_
 rintro e w2 ⟨c,y,tag2,rfl,hy,s2,hz,hfu⟩
 have X:=Lib.hid (And.intro hy (And.intro s2 (And.intro hz hfu)))
 by_cases hc:c=0
 ·subst hc
  clear hy s2 hz hfu
  go_wp2_with fail
  exact bodyPost_ret (v:=.tuple #[.int .i64 f,.int .i64 0]) (by simp[results,Tryz.results213,go_sem]) rfl ⟨0,y,tag2,rfl,X.out.1,(S1.out.mono fun c hc=>hc▸HX.out.2).trans X.out.2.1,X.out.2.2.1⟩
 ·have g2:w2.cell? ⟨q.sp,2,none⟩=some (.pointer (some ⟨q.pp,0,none⟩)):=hy.row.cell (i:=2) (by omega)
  have FR:Hid (Calls Tryz.prog 44 #[.pointer (some ⟨q.pp,0,none⟩),.int .i64 f] w2 fun e w3=>e=.returned (.bool true)∧zb w3 tag2 q {y with P:=y.P.set f 1}∧Step (fun c=>c=2) tag2 w2 tag2 w3):=by
   refine(Qr _ _ _ _ _ _ hy.pool f f rfl HX.out.1 (hfu hc).1 (hfu hc).2).mono ?_
   rintro e w3 ⟨rfl,k1,k2⟩
   have k:=hy.zh7 k2 k1
   exact⟨rfl,k.1,k.2⟩
  have n1:(c==0)=false:=beq_eq_false_iff_ne.2 hc
  have HC:=Lib.hid hc
  clear hy s2 hz hfu hc
  go_wp2_with fail
  refine FR.out.mono ?_
  rintro e w3 ⟨rfl,h3,s3⟩
  have H3:=Lib.hid (And.intro h3 s3)
  clear h3 s3 FR g2
  go_wp2_with fail
  exact bodyPost_ret (v:=.tuple #[.int .i64 0,.int .i64 c]) (by simp[results,Tryz.results213,go_sem]) rfl ⟨c,y,tag2,by rw[if_neg HC.out],by rw[if_neg HC.out];exact H3.out.1,((S1.out.mono fun c hc=>hc▸HX.out.2).trans X.out.2.1).trans (H3.out.2.mono fun c hc=>hc▸HX.out.2),X.out.2.2.1⟩
end
structure Loc(W:World)(tag:Nat→Nat)(q:Sq)(x:za)(L:List (Nat×Nat×Value)):Prop where
 sp:zb W tag q x
 loc:∀t∈L,tag t.1=0∧W.cell? ⟨t.1,t.2.1,none⟩=some t.2.2
section
variable {C:Nat→Prop}{W W':World}{tag tag':Nat→Nat}{q:Sq}{x x':za}{L L':List (Nat×Nat×Value)}
theorem Loc.step(h:Loc W tag q x L)(s:Step C tag W tag' W')(hc:¬C 0)(hx:zb W' tag' q x'):Loc W' tag' q x' L:=
 ⟨hx,fun t ht=>by
  obtain⟨a,b⟩:=h.loc t ht
  have k:=s.keeps hc t.1 (World.block_lt_of_cell? W _ b) a
  exact⟨k.1,(World.cell?_of_block (w:=W) k.2).trans b⟩⟩
theorem Loc.below(h:Loc W tag q x L)(hb:Below W.heap.size W W'):Loc W' tag q x L:=h.step (C:=fun _=>False) (Step.of_below hb) id (h.sp.below hb)
theorem Loc.drew(h:Loc W tag q x L):Loc W.drew tag q x L:=h.below (Below.refl _ _).drew
theorem Loc.sub(h:Loc W tag q x L)(hs:∀t∈L',t∈L):Loc W tag q x L':=⟨h.sp,fun t ht=>h.loc t (hs t ht)⟩
theorem Loc.get(h:Loc W tag q x L)(i:Nat){b o:Nat}{v:Value}(hi:L[i]?=some (b,o,v)):W.cell? ⟨b,o,none⟩=some v:=(h.loc _ (List.mem_of_getElem? hi)).2
theorem Loc.cell(h:Loc W tag q x L){i:Nat}(hi:i<7):W.cell? ⟨q.sp,i,none⟩=some (Z6 q i):=h.sp.row.cell hi
theorem Loc.mine(h:Loc W tag q x L){n:Nat}{pr:yg}(hn:n<8)(hp:x.T n=some pr):W.cell? ⟨(q.U n).ap,0,none⟩=some (ptrV (q.U n).tp):=by
 obtain⟨av,r1,_⟩:=(h.sp.procs n pr hn hp).row
 exact r1.cell (i:=0) (by omega)
theorem Loc.more(h:Loc W tag q x L)(hb:Below W.heap.size W W')(M:List (Nat×Nat×Value))(hM:∀t∈M,W.heap.size≤t.1∧W'.cell? ⟨t.1,t.2.1,none⟩=some t.2.2):Loc W' (retag tag W 0) q x (M++L)∧Step (fun _=>False) tag W (retag tag W 0) W':=by
 have s:Step (fun _=>False) tag W (retag tag W 0) W':=Step.anew hb
 refine⟨⟨h.sp.step s,fun t ht=>?_⟩,s⟩
 rcases List.mem_append.1 ht with ht|ht
 ·exact⟨zz _ _ _ _ (hM t ht).1,(hM t ht).2⟩
 ·obtain⟨a,b⟩:=h.loc t ht
  have k:=s.keeps id t.1 (World.block_lt_of_cell? W _ b) a
  exact⟨k.1,(World.cell?_of_block (w:=W) k.2).trans b⟩
theorem zb.loc0(h:zb W tag q x):Loc W tag q x []:=⟨h,fun t ht=>by cases ht⟩
theorem zq{W:World}{cs:Array Value}{T:TypeId}{b:Nat}(h:W.heap[b]?=some (.cells cs T (0,0)))(i:Nat){v:Value}(hv:cs[i]?=some v):W.cell? ⟨b,i,none⟩=some v:=by
 rw[cell_of_row _ _ i _ _ _ h]
 exact hv
end
section
variable {w w':World}{tag tag':Nat→Nat}{q:Sq}{x:za}
def zmy(x:za)(f sec:Nat)(c:Int)(y:za):Prop:=
 (c=0∧x.D.work.2=0∧y={x with D:=x.D.work.1,R:=x.R.write f 0 (x.D.cur sec)})∨(c=(x.D.work.2:Int)∧x.D.work.2≠0∧y={x with D:=x.D.work.1})
theorem zje{bs bk:Nat}{k:Int×Int}(h:Loc w tag q x [(bs,0,ptrV q.sp),(bk,0,.int .i64 k.1),(bk,1,.int .i64 k.2)])(hk:uz k)(f:Nat)(hf:f<1024)(hb:x.R.bad f=false):
  Calls Tryz.prog 251 #[.int .i64 f,.pointer (some ⟨bs,0,none⟩),.pointer (some ⟨bk,0,none⟩)] w fun e w2=>∃c y tag2,e=.returned (.int .i64 c)∧zb w2 tag2 q y∧Step (fun c=>c=1∨c=3) tag w tag2 w2∧zmy x f (za.vk k) c y:=by
 have k1:k.1=(k.1.toNat:Int):=by unfold uz at hk;omega
 have k2:k.2=(k.2.toNat:Int):=by unfold uz at hk;omega
 have hl1:k.1.toNat<4:=by unfold uz at hk;omega
 have hl2:k.2.toNat<16:=by unfold uz at hk;omega
 have h0:=h.drew
 have g0:w.cell? ⟨bs,0,none⟩=some (.pointer (some ⟨q.sp,0,none⟩)):=h.get 0 rfl
 have g1:w.cell? ⟨bk,0,none⟩=some (.int .i64 k.1):=h.get 1 rfl
 have g2:w.cell? ⟨bk,1,none⟩=some (.int .i64 k.2):=h.get 2 rfl
 have g3:w.cell? ⟨q.sp,1,none⟩=some (.pointer (some ⟨q.dp,0,none⟩)):=h.cell (i:=1) (by omega)
 obtain⟨rr,hrr⟩:∃rr,rr=x.D.work.2:=⟨_,rfl⟩
 have RD:Hid (Calls Tryz.prog 252 #[.pointer (some ⟨q.dp,0,none⟩),.int .i64 k.1,.int .i64 k.2] w.drew fun e w1=>∃v,e=.returned (.tuple #[v,.int .i64 rr])∧(w1.cell? ⟨bs,0,none⟩=some (.pointer (some ⟨q.sp,0,none⟩))∧w1.cell? ⟨bk,0,none⟩=some (.int .i64 k.1)∧w1.cell? ⟨bk,1,none⟩=some (.int .i64 k.2)∧w1.cell? ⟨q.sp,1,none⟩=some (.pointer (some ⟨q.dp,0,none⟩))∧w1.cell? ⟨q.sp,0,none⟩=some (.pointer (some ⟨q.rp,0,none⟩)))∧
   zb w1 tag q {x with D:=x.D.work.1}∧Step (fun c=>c=3) tag w tag w1∧(rr=0→ByAt w1 v (x.D.cur (za.vk k)))):=by
  obtain⟨sb,off,c,mb,V,L,hD⟩:=h0.sp.disk
  refine(zhe w.drew hD k.1.toNat k.2.toNat k.1 k.2 k1 k2 hl1 hl2).mono ?_
  rintro e w1 ⟨v,rfl,hD1,t1,hv⟩
  have kk:=h0.sp.zgy t1 ⟨sb,off,c,mb,V,L,hD1⟩
  have L1:=h0.step kk.2 (by omega) kk.1
  refine⟨if rr=0 then v else .slice none 0 0,by rw[hrr];rfl,⟨L1.get 0 rfl,L1.get 1 rfl,L1.get 2 rfl,L1.cell (i:=1) (by omega),L1.cell (i:=0) (by omega)⟩,kk.1,?_,fun e=>?_⟩
  ·exact(Step.of_below (Below.refl _ _).drew).trans kk.2
  ·rw[←hrr]at hv;rw[if_pos e];exact(hv e).1
 have hlen:(x.D.cur (za.vk k)).length=64:=by
  obtain⟨sb,off,c,mb,V,L,hD⟩:=h.sp.disk
  obtain⟨v,_,hv⟩:=Qm _ hD (za.vk k) (Y0 hk)
  exact hv.1
 have HX:=Lib.hid (And.intro hf (And.intro hb (And.intro hrr hlen)))
 clear h h0 hf hb hrr hlen k1 k2 hl1 hl2 hk
 go_enter Tryz.func251,Tryz.ntmps251
 go_wp2_with fail
 go_region_held (fun W'=>W'.cell? ⟨bs,0,none⟩=some (.pointer (some ⟨q.sp,0,none⟩))∧W'.cell? ⟨bk,0,none⟩=some (.int .i64 k.1)∧W'.cell? ⟨bk,1,none⟩=some (.int .i64 k.2)∧W'.cell? ⟨q.sp,1,none⟩=some (.pointer (some ⟨q.dp,0,none⟩))) (go_keep)
  ((go_at_call 252;refine RD.out.mono ?_;rintro e w1 ⟨v,rfl,⟨m0,m1,m2,m3,m4⟩,HS⟩;have hS:=Lib.hid HS;clear HS))
 clear RD g0 g1 g2 g3
 by_cases hr:rr=0
 ·subst hr
  have hby:=hS.out.2.2 rfl
  have hl:=HX.out.2.2.2
  obtain⟨av,cv,rfl,_,_⟩:=SlAt.form hby
  have WR:Hid (Calls Tryz.prog 66 #[.pointer (some ⟨q.rp,0,none⟩),.int .i64 f,.int .i64 0,.slice av (x.D.cur (za.vk k)).length cv] w1 fun e w2=>e=.returned (.int .i64 0)∧zb w2 tag q {x with D:=x.D.work.1,R:=x.R.write f 0 (x.D.cur (za.vk k))}∧Step (fun c=>c=1) tag w1 tag w2):=by
   refine(Xx w1 _ _ _ _ hS.out.1.ram _ (x.D.cur (za.vk k)) (ByAt.reads hby) f 0 f 0 rfl rfl HX.out.1 (by omega) (by omega) HX.out.2.1).mono ?_
   rintro e w2 ⟨rfl,k1,k2,_⟩
   have kk:=hS.out.1.ram' k2 k1
   exact⟨rfl,kk.1,kk.2⟩
  generalize (x.D.cur (za.vk k)).length=nl at WR⊢
  clear hby hl
  go_wp2_with fail
  refine WR.out.mono ?_
  rintro e w2 ⟨rfl,h2,s2⟩
  have H2:=Lib.hid (And.intro h2 s2)
  clear h2 s2 m0 m1 m2 m3 m4
  go_wp2_with fail
  exact bodyPost_ret (v:=.int .i64 0) (by simp[results,Tryz.results251,go_sem]) rfl ⟨0,_,tag,rfl,H2.out.1,(hS.out.2.1.mono fun c hc=>.inr hc).trans (H2.out.2.mono fun c hc=>.inl hc),.inl ⟨rfl,HX.out.2.2.1.symm,rfl⟩⟩
 ·have n1:((rr:Int)==0)=false:=beq_eq_false_iff_ne.2 (by omega)
  have n2:((rr:Int)=0)=False:=eq_false (by omega)
  have HR:=Lib.hid hr
  clear hr m0 m1 m2 m3 m4
  go_wp2_with fail
  exact bodyPost_ret (v:=.int .i64 rr) (by simp[results,Tryz.results251,go_sem]) rfl ⟨rr,_,tag,rfl,hS.out.1,hS.out.2.1.mono fun c hc=>.inr hc,.inr ⟨by rw[HX.out.2.2.1],by rw[←HX.out.2.2.1];exact HR.out,rfl⟩⟩
theorem zb.cput(h:zb w tag q x)(k:Int×Int)(f:Int):Calls Tryz.prog 85 #[.pointer (some ⟨q.cp,0,none⟩),.agg #[.int .i64 k.1,.int .i64 k.2],.int .i64 f] w fun e w'=>(∃b,e=.returned (.bool b))∧zb w' tag q (x.uk k f)∧Step (fun c=>c=5) tag w tag w':=by
 obtain⟨hc,t1,t2,t3⟩:=h.cache
 unfold za.uk
 cases h1:(getL x.CL k).isSome with
 | true=>
  rw[if_pos (.inl rfl)]
  refine(zj7 w q.cp q.c1 q.c2 x.CL x.CR hc k f h1).mono ?_
  rintro e w1 ⟨rfl,hb⟩
  exact⟨⟨_,rfl⟩,h.below hb,Step.of_below hb⟩
 | false=>
  cases h2:(getL x.CR f).isSome with
  | true=>
   rw[if_pos (.inr rfl)]
   refine(zmn w q.cp q.c1 q.c2 x.CL x.CR hc k f h1 h2).mono ?_
   rintro e w1 ⟨rfl,hb⟩
   exact⟨⟨_,rfl⟩,h.below hb,Step.of_below hb⟩
  | false=>
   rw[if_neg (by simp)]
   refine(zoq w q.cp q.c1 q.c2 x.CL x.CR hc k f (by simpa using h1) (by simpa using h2)).mono ?_
   rintro e w1 ⟨rfl,t,hc1⟩
   have kk:=h.zng (Turn.touch (O:=fun b=>tag b=5) t fun k hk=>.inl (by simp at hk;rcases hk with rfl|rfl<;>assumption)) hc1
   exact⟨⟨_,rfl⟩,kk.1,kk.2⟩
theorem zb.zau(h:zb w tag q x)(k:Int×Int):Calls Tryz.prog 96 #[.pointer (some ⟨q.cp,0,none⟩),.agg #[.int .i64 k.1,.int .i64 k.2]] w fun e w'=>e=.returned (.tuple #[.int .i64 ((getL x.CL k).getD (0,false)).1,.bool (getL x.CL k).isSome])∧Below w.heap.size w w':=
 zhc w q.cp q.c1 q.c2 x.CL x.CR h.cache.1 k
theorem zb.cmark(h:zb w tag q x)(k:Int×Int)(d:Bool):Calls Tryz.prog 86 #[.pointer (some ⟨q.cp,0,none⟩),.agg #[.int .i64 k.1,.int .i64 k.2],.bool d] w fun e w'=>(∃b,e=.returned (.bool b))∧zb w' tag q (x.xk k d)∧Step (fun c=>c=5) tag w tag w':=by
 obtain⟨hc,t1,t2,t3⟩:=h.cache
 refine(zka w q.cp q.c1 q.c2 x.CL x.CR hc k d).mono ?_
 rintro e w1 ⟨rfl,t,hc1⟩
 have kk:=h.zng (Turn.touch (O:=fun b=>tag b=5) t fun k hk=>.inl (by simp at hk;rcases hk with rfl;assumption)) hc1
 exact⟨⟨_,rfl⟩,kk.1,kk.2⟩
theorem zb.cof(h:zb w tag q x)(f:Int):Calls Tryz.prog 82 #[.pointer (some ⟨q.cp,0,none⟩),.int .i64 f] w fun e w'=>e=.returned (.tuple #[yf ((getL x.CR f).getD (0,0)),.bool (getL x.CR f).isSome])∧Below w.heap.size w w':=
 zot w q.cp q.c1 q.c2 x.CL x.CR h.cache.1 f
def CFi(c:Nat):Prop:=c=1∨c=2∨c=3∨c=5
theorem zjf(h:zb w tag q x)(wf:WF x){k:Int×Int}(hk:uz k):
  Calls Tryz.prog 235 #[ptrV q.sp,.agg #[.int .i64 k.1,.int .i64 k.2]] w fun e w'=>e=.returned (.tuple #[.int .i64 (x.vo k).1.1,.int .i64 (x.vo k).1.2])∧∃tag',zb w' tag' q (x.vo k).2∧Step CFi tag w tag' w':=by
 obtain⟨w0,hw0⟩:∃w0,w0=(w.alloc (.cells #[ptrV q.sp] 24 (0,0))).alloc (.cells #[.int .i64 k.1,.int .i64 k.2] 133 (0,0)):=⟨_,rfl⟩
 have hb0:Below w.heap.size w w0:=by rw[hw0];exact((Below.refl w.heap.size w).alloc (Nat.le_refl _) _).alloc (by simp) _
 have nb2:w0.heap[w.heap.size+1]?=some (.cells #[.int .i64 k.1,.int .i64 k.2] 133 (0,0)):=by
  rw[hw0]
  have:=heap_alloc_new (w.alloc (.cells #[ptrV q.sp] 24 (0,0))) (.cells #[.int .i64 k.1,.int .i64 k.2] 133 (0,0))
  rw[World.size_alloc]at this
  exact this
 have nb1:w0.heap[w.heap.size]?=some (.cells #[ptrV q.sp] 24 (0,0)):=by
  rw[hw0,Below.heap_alloc _ _ _ (by simp)]
  exact heap_alloc_new w _
 obtain⟨L0,s0⟩:=h.loc0.more hb0 [(w.heap.size,0,ptrV q.sp),(w.heap.size+1,0,.int .i64 k.1),(w.heap.size+1,1,.int .i64 k.2)] (fun t ht=>by
  simp at ht
  rcases ht with rfl|rfl|rfl
  ·exact⟨Nat.le_refl _,zq nb1 0 rfl⟩
  ·exact⟨by simp,zq nb2 0 rfl⟩
  ·exact⟨by simp,zq nb2 1 rfl⟩)
 obtain⟨tag0,ht0⟩:∃tag0,tag0=retag tag w 0:=⟨_,rfl⟩
 rw[List.append_nil]at L0
 rw[←ht0]at L0 s0
 clear ht0 nb1 nb2 hb0
 have g0:w0.cell? ⟨w.heap.size,0,none⟩=some (.pointer (some ⟨q.sp,0,none⟩)):=L0.get 0 rfl
 have g1:w0.cell? ⟨w.heap.size+1,0,none⟩=some (.int .i64 k.1):=L0.get 1 rfl
 have g2:w0.cell? ⟨w.heap.size+1,1,none⟩=some (.int .i64 k.2):=L0.get 2 rfl
 have g3:w0.cell? ⟨q.sp,4,none⟩=some (.pointer (some ⟨q.cp,0,none⟩)):=L0.cell (i:=4) (by omega)
 obtain⟨v,hv⟩:∃v,v=getL x.CL k:=⟨_,rfl⟩
 have FR:Hid (Calls Tryz.prog 96 #[.pointer (some ⟨q.cp,0,none⟩),.agg #[.int .i64 k.1,.int .i64 k.2]] w0.drew fun e w1=>e=.returned (.tuple #[.int .i64 (v.getD (0,false)).1,.bool v.isSome])∧(w1.cell? ⟨w.heap.size,0,none⟩=some (.pointer (some ⟨q.sp,0,none⟩))∧w1.cell? ⟨w.heap.size+1,0,none⟩=some (.int .i64 k.1)∧w1.cell? ⟨w.heap.size+1,1,none⟩=some (.int .i64 k.2)∧w1.cell? ⟨q.sp,4,none⟩=some (.pointer (some ⟨q.cp,0,none⟩)))∧
   Loc w1 tag0 q x [(w.heap.size,0,ptrV q.sp),(w.heap.size+1,0,.int .i64 k.1),(w.heap.size+1,1,.int .i64 k.2)]∧Step (fun _=>False) tag w tag0 w1):=by
  refine(L0.drew.sp.zau k).mono ?_
  rintro e w1 ⟨rfl,hb⟩
  have L1:=L0.drew.below hb
  exact⟨by rw[hv],⟨L1.get 0 rfl,L1.get 1 rfl,L1.get 2 rfl,L1.cell (i:=4) (by omega)⟩,L1,s0.trans ((Step.of_below (Below.refl _ _).drew).trans (Step.of_below hb))⟩
 obtain⟨R,hR⟩:∃R,R=x.vo k:=⟨_,rfl⟩
 have HR:=Lib.hid hR
 have HV:=Lib.hid (And.intro hv (And.intro wf hk))
 have HW:=Lib.hid hw0
 rw[←hR]
 clear h L0 s0 hR hv wf hk hw0
 unfold ptrV at HW⊢
 go_enter Tryz.func235,Tryz.ntmps235
 go_wp2_with fail
 rw[←HW.out]
 go_region_held (fun W'=>W'.cell? ⟨w.heap.size,0,none⟩=some (.pointer (some ⟨q.sp,0,none⟩))∧W'.cell? ⟨w.heap.size+1,0,none⟩=some (.int .i64 k.1)∧W'.cell? ⟨w.heap.size+1,1,none⟩=some (.int .i64 k.2)∧W'.cell? ⟨q.sp,4,none⟩=some (.pointer (some ⟨q.cp,0,none⟩))) (go_keep)
  ((go_at_call 96;refine FR.out.mono ?_;rintro e w1 ⟨rfl,⟨m0,m1,m2,m3⟩,HL⟩;have hL:=Lib.hid HL;clear HL))
 clear FR g0 g1 g2 g3
 cases v with
 | some v=>
  clear m0 m1 m2 m3
  go_wp2_with fail
  have e0:R=((v.1,0),x):=by rw[HR.out];unfold za.vo;rw[←HV.out.1]
  rw[e0]
  exact bodyPost_ret (v:=.tuple #[.int .i64 v.1,.int .i64 0]) (by simp[results,Tryz.results235,go_sem]) rfl ⟨rfl,tag0,hL.out.1.sp,hL.out.2.mono fun _ h=>h.elim⟩
 | none=>
  have e0:R=if(x.zx 4 (za.vk k)).1.2=0 then((x.zx 4 (za.vk k)).1,(x.zx 4 (za.vk k)).2.uk k (x.zx 4 (za.vk k)).1.1)else x.zx 4 (za.vk k):=by
   rw[HR.out];unfold za.vo;rw[←HV.out.1]
  have HE:=Lib.hid e0
  clear e0
  have FH:Hid (∀fv,fv=Value.func (.func 251) #[] #[.pointer (some ⟨w.heap.size,0,none⟩),.pointer (some ⟨w.heap.size+1,0,none⟩)]→Calls Tryz.prog 213 #[.pointer (some ⟨q.sp,0,none⟩),.int .i64 4,fv] w1 fun e w2=>∃tag2,e=.returned (.tuple #[.int .i64 (x.zx 4 (za.vk k)).1.1,.int .i64 (x.zx 4 (za.vk k)).1.2])∧zb w2 tag2 q (x.zx 4 (za.vk k)).2∧Step (fun c=>c=1∨c=2∨c=3) tag0 w1 tag2 w2):=fun fv efv=>by
   cases hnx:x.P.next true with
   | none=>
    have ed:x.zx 4 (za.vk k)=((0,4),x):=by unfold za.zx;rw[hnx]
    rw[ed]
    refine(Yc hL.out.1.sp 4 (by omega) hnx fv).mono ?_
    rintro e w2 ⟨rfl,hb⟩
    exact⟨retag tag0 w1 0,rfl,hL.out.1.sp.step (Step.anew hb),Step.anew hb⟩
   | some f=>
    obtain⟨hf,hfu⟩:=Xt hnx
    have hbad:=HV.out.2.1.je hf (by omega)
    subst efv
    refine(zfk hL.out.1.sp 4 (by omega) f hnx hf 251 _ _ (enters_of Tryz.func251 (by kernel_rfl) rfl) (fun c=>c=1∨c=2∨c=3) (by omega) (zmy {x with P:=x.P.set f 4} f (za.vk k)) (fun w2 h2 s2=>?_)).mono ?_
    ·have L2:=hL.out.1.step s2 (by omega) h2
     refine(zje L2 HV.out.2.2 f hf hbad).mono ?_
     rintro e w3 ⟨c,y,tag3,rfl,h3,s3,hz⟩
     refine⟨c,y,tag3,rfl,h3,s3.mono fun c hc=>by omega,hz,fun _=>?_⟩
     have hu4:y.P.use f=4:=by
      rcases hz with⟨_,_,rfl⟩|⟨_,_,rfl⟩<;>exact if_pos rfl
     omega
    ·rintro e w3 ⟨c,y,tag3,rfl,h3,s3,hz⟩
     refine⟨tag3,?_,?_,s3⟩
     ·unfold za.zx
      rw[hnx]
      dsimp only
      rcases hz with⟨rfl,hw,rfl⟩|⟨rfl,hw,rfl⟩
      ·rw[if_pos hw];rfl
      ·rw[if_neg hw,if_neg (by omega)]
     ·unfold za.zx
      rw[hnx]
      dsimp only
      rcases hz with⟨rfl,hw,rfl⟩|⟨rfl,hw,rfl⟩
      ·rw[if_pos hw]
       rw[if_pos rfl]at h3
       exact h3
      ·rw[if_neg hw]
       rw[if_neg (by omega)]at h3
       dsimp only at h3⊢
       rw[Qh hf (by omega) (by omega)]
       exact h3
  obtain⟨D,hD⟩:∃D,D=x.zx 4 (za.vk k):=⟨_,rfl⟩
  rw[←hD]at FH HE
  clear hD m1 m2 m3
  go_wp2_with fail
  refine(FH.out _ rfl).mono ?_
  rintro e w2 ⟨tag2,rfl,h2,s2⟩
  obtain⟨⟨df,dc⟩,dy⟩:=D
  dsimp only at h2 HE⊢
  have L2:=hL.out.1.step s2 (by omega) h2
  have S2:=Lib.hid (hL.out.2.mono (C':=CFi) (fun _ h=>h.elim) |>.trans (s2.mono fun c hc=>by unfold CFi;omega))
  clear FH m0
  by_cases hc:dc=0
  ·subst hc
   have g0:w2.cell? ⟨w.heap.size,0,none⟩=some (.pointer (some ⟨q.sp,0,none⟩)):=L2.get 0 rfl
   have g1:w2.cell? ⟨w.heap.size+1,0,none⟩=some (.int .i64 k.1):=L2.get 1 rfl
   have g2:w2.cell? ⟨w.heap.size+1,1,none⟩=some (.int .i64 k.2):=L2.get 2 rfl
   have g3:w2.cell? ⟨q.sp,4,none⟩=some (.pointer (some ⟨q.cp,0,none⟩)):=L2.cell (i:=4) (by omega)
   have PC:Hid (Calls Tryz.prog 85 #[.pointer (some ⟨q.cp,0,none⟩),.agg #[.int .i64 k.1,.int .i64 k.2],.int .i64 df] w2.drew fun e w3=>∃b,e=.returned (.bool b)∧(w3.cell? ⟨w.heap.size,0,none⟩=some (.pointer (some ⟨q.sp,0,none⟩))∧w3.cell? ⟨w.heap.size+1,0,none⟩=some (.int .i64 k.1)∧w3.cell? ⟨w.heap.size+1,1,none⟩=some (.int .i64 k.2)∧w3.cell? ⟨q.sp,4,none⟩=some (.pointer (some ⟨q.cp,0,none⟩)))∧zb w3 tag2 q (dy.uk k df)∧Step CFi tag w tag2 w3):=by
    refine(L2.drew.sp.cput k df).mono ?_
    rintro e w3 ⟨⟨b,rfl⟩,h3,s3⟩
    have L3:=L2.drew.step s3 (by omega) h3
    exact⟨b,rfl,⟨L3.get 0 rfl,L3.get 1 rfl,L3.get 2 rfl,L3.cell (i:=4) (by omega)⟩,h3,S2.out.trans ((Step.of_below (Below.refl _ _).drew).trans (s3.mono fun c hc=>by unfold CFi;omega))⟩
   clear L2 h2 s2
   go_wp2_with fail
   go_region_held (fun W'=>W'.cell? ⟨w.heap.size,0,none⟩=some (.pointer (some ⟨q.sp,0,none⟩))∧W'.cell? ⟨w.heap.size+1,0,none⟩=some (.int .i64 k.1)∧W'.cell? ⟨w.heap.size+1,1,none⟩=some (.int .i64 k.2)∧W'.cell? ⟨q.sp,4,none⟩=some (.pointer (some ⟨q.cp,0,none⟩))) (go_keep)
    ((go_at_call 85;refine PC.out.mono ?_;rintro e w3 ⟨b,rfl,⟨m0,m1,m2,m3⟩,HL⟩;have hL3:=Lib.hid HL;clear HL))
   clear PC g0 g1 g2 g3 m0 m1 m2 m3
   go_wp2_with fail
   have e1:R=((df,0),dy.uk k df):=by rw[HE.out];rfl
   rw[e1]
   exact bodyPost_ret (v:=.tuple #[.int .i64 df,.int .i64 0]) (by simp[results,Tryz.results235,go_sem]) rfl ⟨rfl,tag2,hL3.out⟩
  ·have n1:(dc==0)=false:=beq_eq_false_iff_ne.2 hc
   have n2:(dc=0)=False:=eq_false hc
   have H2:=Lib.hid h2
   have HC:=Lib.hid hc
   clear L2 h2 s2 hc
   go_wp2_with fail
   have e1:R=((df,dc),dy):=by rw[HE.out];exact if_neg HC.out
   rw[e1]
   exact bodyPost_ret (v:=.tuple #[.int .i64 df,.int .i64 dc]) (by simp[results,Tryz.results235,go_sem]) rfl ⟨rfl,tag2,H2.out,S2.out⟩
end
end Go.Proofs.YtnhdmnijiphjjaaGreat
