/- Processes, in plain words: a slot's bytes that come back, and the frame of any page: what getting it leaves. No program in it. -/
import Derived.Test.YtnhdmnijiphjjaaGreatJMp15
set_option linter.unusedVariables false
set_option linter.unusedSimpArgs false
set_option maxRecDepth 100000
set_option maxHeartbeats 2000000
namespace Go.Proofs.YtnhdmnijiphjjaaGreat
open Go Go.RowKit
structure InI(F:Nat→Prop)(k f:Nat)(x z:za):Prop where
 ok:OK (fun g=>F g∨g=f) z
 same:Same x z
 keeps:jm 1 x z
 use:z.P.use f=3
 cr:getL z.CR f=none
 rd:z.R.read f 0 64=z.D.cur (160+k)
 backs:∀g:Nat,g<1024→g≠f→x.P.use g=3→x.B g≠[]→z.B g=x.B g∧z.P.use g=3
 crs:z.CR=x.CR
def InL(k f:Nat)(x z:za)(l:List (Int×Int)):Prop:=
 ∀p∈l,∃n page pr,p=plc n page∧n<8∧page<4096∧x.T n=some pr∧((z.ent n page).kind=2∧(z.ent n page).n=k∨z.ent n page=⟨1,(f:Int),false⟩)
section
variable {F:Nat→Prop}{x y:za}
theorem zdq(z:za)(n page:Nat)(l:List (Int×Int))(e:Ent):z.Zk (plc n page::l) e=(z.putF n page e).2.Zk l e:=by
 unfold za.Zk
 rw[List.foldl_cons]
 have e1:(plc n page).1.toNat=n:=by unfold plc;omega
 have e2:(plc n page).2.toNat=page:=by unfold plc;dsimp only;omega
 rw[e1,e2]
theorem InI.one{k f:Nat}(hf:f<1024){z:za}(h:InI F k f x z)(o:∀n,8≤n→x.T n=none){n page:Nat}{pr0:yj}(hn:n<8)(hpg:page<4096)(hp0:x.T n=some pr0)(hc:(z.ent n page).kind=2∧(z.ent n page).n=k∨z.ent n page=⟨1,(f:Int),false⟩):
  InI F k f x (z.putF n page ⟨1,(f:Int),false⟩).2∧(z.putF n page ⟨1,(f:Int),false⟩).1=0∧(z.putF n page ⟨1,(f:Int),false⟩).2.D=z.D∧(∀m pg,pg<4096→(z.putF n page ⟨1,(f:Int),false⟩).2.ent m pg=if m=n∧pg=page then⟨1,(f:Int),false⟩else z.ent m pg):=by
 obtain⟨T0,hp⟩:=h.same.proc hp0
 have d:=h.ok.wf.putF hn hp hpg (e:=⟨1,(f:Int),false⟩) (by simp[Ent.ok,most];omega)
 have hne:(z.ent n page).kind≠0:=by
  rcases hc with⟨a,_⟩|a
  ·omega
  ·rw[a];simp
 obtain⟨c0,kp⟩:=d.zik h.ok.wf hp (.inl hne)
 have hA:Ub z ⟨T0,pr0.A,pr0.Q⟩ page ⟨1,(f:Int),false⟩:=by
  have a0:=h.ok.area n _ page hp hpg
  refine⟨fun _=>a0.find hne,fun b hb _ h3=>h.cr,fun b q hb _ _ h4=>?_,fun b hb _ h3=>?_,fun b hb h2=>by cases h2⟩
  ·dsimp only at h4;rw[h.cr]at h4;cases h4
  ·rcases hc with⟨a,_⟩|a
   ·exact absurd h3 (a0.slot b hb a)
   ·have:=a0.shared b hb (by rw[a]) h3
    rw[a]at this
    exact this
 have k1:=h.ok.put d hn hp hpg (fun _=>⟨f,rfl,hf,.inl h.use⟩) hA
 have hns:¬z.owns n f:=fun ho=>by have:=(h.ok.wf.xn ho).2.1;have:=h.use;omega
 have hrd:(z.putF n page ⟨1,(f:Int),false⟩).2.R.read f 0 64=z.R.read f 0 64:=Ya fun i _=>d.bytes f i (by have:=h.use;omega) hns
 have s1:=h.ok.zdn d hp hpg (fun _ b hb=>by
  rcases hc with⟨a,a2⟩|a
  ·unfold za.pv1
   dsimp only
   rw[d.keep.2.2,h.cr,a,a2,Int.toNat_natCast,hrd,h.rd]
   simp
  ·rw[a]
   refine Qg (by rw[d.keep.2.2]) (by rw[d.keep.1]) fun _=>?_
   dsimp only
   rw[Int.toNat_natCast]
   exact hrd) (h.same.out o)
 have hu:(z.putF n page ⟨1,(f:Int),false⟩).2.P.use f=3:=by
  rw[d.use f hns (by have:=h.use;omega),if_neg]
  ·exact h.use
  ·rintro⟨_,a,b,c,_⟩
   exact b ⟨rfl,c⟩
 refine⟨⟨k1.mono fun g hg=>hg.1,h.same.trans s1,(h.keeps.trans kp).mono (by omega),hu,by rw[d.keep.2.2];exact h.cr,by rw[d.keep.1,hrd];exact h.rd,fun g hg hgf hgu hgB=>?_,by rw[d.keep.2.2];exact h.crs⟩,c0,d.keep.1,fun m pg hq=>?_⟩
 ·obtain⟨b1,b2⟩:=h.backs g hg hgf hgu hgB
  have hne2:¬((1:Nat)=1∧((f:Int))=(g:Int)):=by omega
  obtain⟨c1,c2⟩:=d.others h.ok.wf (by
   rcases hc with⟨a,_⟩|a
   ·exact .inl (by omega)
   ·exact .inr a.symm) g hg b2 (.inl hne2)
  exact⟨c1.trans b1,c2⟩
 ·rw[d.ent m pg hq]
  by_cases e:m=n∧pg=page
  ·rw[if_pos ⟨c0,e⟩,if_pos e]
  ·rw[if_neg fun a=>e a.2,if_neg e]
theorem InI.go{k f:Nat}(hf:f<1024)(o:∀n,8≤n→x.T n=none)(l:List (Int×Int)):∀z,InI F k f x z→InL k f x z l→InI F k f x (z.Zk l ⟨1,(f:Int),false⟩)∧(z.Zk l ⟨1,(f:Int),false⟩).D=z.D∧∀n page,page<4096→((z.Zk l ⟨1,(f:Int),false⟩).ent n page=if plc n page∈l then⟨1,(f:Int),false⟩else z.ent n page):=by
 induction l with
 | nil=>exact fun z h _=>⟨h,rfl,fun n page _=>by rw[if_neg (by simp)];rfl⟩
 | cons p l ih=>
  intro z h hl
  obtain⟨n,page,pr,rfl,hn,hpg,hp,hc⟩:=hl p (List.mem_cons_self ..)
  obtain⟨h1,c0,hD,he⟩:=h.one hf o hn hpg hp hc
  have hl1:InL k f x (z.putF n page ⟨1,(f:Int),false⟩).2 l:=fun q hq=>by
   obtain⟨m,pg,pm,rfl,hm,hpg',hpm,hcm⟩:=hl q (List.mem_cons_of_mem _ hq)
   refine⟨m,pg,pm,rfl,hm,hpg',hpm,?_⟩
   rw[he m pg hpg']
   split
   ·exact .inr rfl
   ·exact hcm
  obtain⟨i1,i2,i3⟩:=ih _ h1 hl1
  rw[zdq]
  refine⟨i1,i2.trans hD,fun m pg hpg'=>?_⟩
  rw[i3 m pg hpg',he m pg hpg']
  by_cases e1:plc m pg∈l
  ·rw[if_pos e1,if_pos (List.mem_cons_of_mem _ e1)]
  ·rw[if_neg e1]
   by_cases e2:m=n∧pg=page
   ·rw[if_pos e2,if_pos (by rw[e2.1,e2.2];exact List.mem_cons_self ..)]
   ·rw[if_neg e2,if_neg]
    intro e3
    rcases List.mem_cons.1 e3 with e3|e3
    ·exact e2 (Xi.1 e3)
    ·exact e1 e3
theorem OK.inF(h:OK F x)(o:∀n,8≤n→x.T n=none){n page k:Nat}(hn:n<8)(hpg:page<4096)(he:(x.ent n page).kind=2)(hk:(x.ent n page).n=k):
  Got F 1 x (x.inF k).1.2 (x.inF k).2∧((x.inF k).1.2=0→((x.inF k).2.ent n page).kind=1∧((x.inF k).2.ent n page).n=(x.inF k).1.1):=by
 have hk32:k<32:=by
  have:=(Ent.ok_n (h.wf.Y8 n hpg)).2 he
  omega
 unfold za.inF
 rcases h.wf.zw 3 (160+k) (by omega) (by omega) (h.wf.secs _ (by omega))with⟨hnx,e⟩|⟨f,hnx,hw,e,d,hD⟩|⟨f,hnx,hw,e,d,hD⟩
 ·rw[e]
  dsimp only
  rw[if_neg (by simp)]
  exact⟨⟨h,Same.refl x,(jm.refl x).mono (by omega),.inr (.inl ⟨rfl,by have:=jo hnx;omega⟩),.inl rfl,Stay.refl x⟩,fun e=>by simp at e⟩
 ·obtain⟨k1,s1,hB,hcr,hu,hrd⟩:=d.ok h o
  have kp1:=d.keeps (.inl rfl)
  have e1:=d.ent
  have kS:=d.keep.2.2.1
  have kR:=d.keep.2.2.2.2
  have kT:=d.keep.1
  have hf:=d.was.1
  have hcur:=d.cur
  have st1:=d.stay
  have hfu:=d.was.2
  obtain⟨y,hy⟩:∃y,y=(x.zw 3 (160+k)).2:=⟨_,rfl⟩
  rw[←hy]at k1 s1 hu hrd kp1 e1 st1 kS kR kT hD hcur⊢
  rw[e]
  dsimp only
  rw[if_pos rfl]
  clear hy d e
  have hI:InI F k f x y:=⟨k1,s1,kp1,hu,by rw[kR];exact hcr,by rw[hrd,hcur],fun g hg _ hgu hgB=>st1.backs g hg hgu hgB,kR⟩
  have hL:InL k f x y (y.S.getD k []):=fun p hp=>by
   rw[kS]at hp
   obtain⟨e2,h1,h2⟩:=((jq h.wf.slots k).2 p hp).plc
   rw[e2]at hp
   have h3:=(h.slotE k _ _ hk32 h1 h2).1 hp
   cases hq:x.T p.1.toNat with
   | none=>rw[Ym hq]at h3;exact absurd h3.1 (by decide)
   | some pr=>exact⟨_,_,pr,e2,h1,h2,hq,.inl (by rw[e1 _ _ h2];exact h3)⟩
  obtain⟨i1,i2,i3⟩:=hI.go hf o _ _ hL
  have hm:plc n page∈y.S.getD k []:=by rw[kS];exact(h.slotE k n page hk32 hn hpg).2 ⟨he,hk⟩
  have hent:=i3 n page hpg
  rw[if_pos hm]at hent
  refine⟨⟨⟨i1.ok.wf,i1.ok.backE,i1.ok.slotE,i1.ok.useB,fun g hg hu3=>?_,i1.ok.table,i1.ok.cached,i1.ok.cacheE,i1.ok.cacheK,i1.ok.area⟩,i1.same,i1.keeps,.inl rfl,.inr (by rw[i2,hD]),⟨fun m pg hq hk1=>?_,fun g hg hgu hgB=>i1.backs g hg (fun e=>by rw[e]at hgu;omega) hgu hgB,fun g q hq=>by rw[i1.crs];exact hq⟩⟩,fun _=>by rw[hent];exact⟨rfl,rfl⟩⟩
  rcases i1.ok.anon g hg hu3 with a|a|a
  ·exact .inl a
  ·exact .inr a
  ·left
   intro hB0
   have:=(i1.ok.backE g n page hg hn hpg).2 (by rw[hent,a];exact⟨rfl,rfl⟩)
   rw[hB0]at this
   cases this
  ·rw[i3 m pg hq,if_neg,e1 m pg hq]
   intro hm2
   rw[kS]at hm2
   have h9:=((jq h.wf.slots k).2 _ hm2)
   have hm8:m<8:=by unfold InR plc at h9;dsimp only at h9;omega
   have:=((h.slotE k m pg hk32 hm8 hq).1 hm2).1
   omega
 ·have hne:¬(x.zw 3 (160+k)).1.2=0:=by rw[e];dsimp only;omega
  rw[if_neg hne]
  have kk:=d.ok h
  exact⟨⟨kk.1,kk.2,d.keeps.mono (by omega),.inr (.inr ⟨by rw[e],hw⟩),.inr hD,d.stay⟩,fun e=>absurd e (by rw[‹(x.zw 3 (160+k)).1=_›];dsimp only;omega)⟩
theorem zg8(x:za)(n:Nat)(at_:Int):(x.jc n at_).R=x.R∧(x.jc n at_).P=x.P∧(x.jc n at_).D=x.D∧(x.jc n at_).B=x.B∧(x.jc n at_).S=x.S∧(x.jc n at_).CL=x.CL∧(x.jc n at_).CR=x.CR∧
  (∀m,(x.jc n at_).T m=if m=n then(x.T n).map (fun pr=>⟨pr.T,pr.A,U9 pr.Q ((n:Int),at_)⟩)else x.T m):=by
 unfold za.jc
 cases hp:x.T n with
 | none=>
  refine⟨rfl,rfl,rfl,rfl,rfl,rfl,rfl,fun m=>?_⟩
  by_cases k:m=n
  ·rw[if_pos k,k,hp];rfl
  ·rw[if_neg k]
 | some pr=>
  refine⟨rfl,rfl,rfl,rfl,rfl,rfl,rfl,fun m=>?_⟩
  by_cases k:m=n
  ·rw[if_pos k]
   exact if_pos k
  ·rw[if_neg k]
   exact if_neg k
theorem OK.jc(h:OK F x)(n:Nat)(at_:Int):OK F (x.jc n at_)∧(∀m page,page<4096→(x.jc n at_).pv m page=x.pv m page)∧(∀k,(x.jc n at_).Yf k=x.Yf k)∧(∀k,(x.jc n at_).qy k=x.qy k)∧jm 0 x (x.jc n at_):=by
 obtain⟨w,e⟩:=h.wf.jc n at_
 obtain⟨hR,hP,hD,hB,hS,hC,hCR,hT⟩:=zg8 x n at_
 have hA:∀m pm,(x.jc n at_).T m=some pm→∃p0,x.T m=some p0∧p0.A=pm.A∧p0.T=pm.T:=fun m pm hm=>by
  rw[hT]at hm
  by_cases k:m=n
  ·rw[if_pos k]at hm
   obtain⟨p0,h1,h2⟩:=Option.map_eq_some_iff.1 hm
   exact⟨p0,by rw[k];exact h1,by rw[←h2],by rw[←h2]⟩
  ·rw[if_neg k]at hm
   exact⟨pm,hm,rfl,rfl⟩
 have hS2:∀m,((x.jc n at_).T m).isSome=(x.T m).isSome:=fun m=>by
  rw[hT]
  split
  ·rename_i k;rw[k];cases x.T n<;>rfl
  ·rfl
 refine⟨⟨w,fun f m page h1 h2 h3=>by rw[hB,e m page h3];exact h.backE f m page h1 h2 h3,fun k m page h1 h2 h3=>by rw[hS,e m page h3];exact h.slotE k m page h1 h2 h3,fun f h1 h2=>by rw[hP];rw[hB]at h2;exact h.useB f h1 h2,fun f h1 h2=>by rw[hB];rw[hP]at h2;exact h.anon f h1 h2,fun f h1 h2=>?_,fun f h1=>by rw[hP,hCR];exact h.cached f h1,by rw[hC,hCR];exact h.cacheE,by rw[hC];exact h.cacheK,fun m pm page h1 h2=>?_⟩,fun m page hpg=>?_,fun k=>by unfold za.Yf;rw[hC,hR,hD],fun k=>by unfold za.qy;rw[hC],⟨by rw[hP];exact⟨rfl,rfl⟩,by rw[hP];omega,by rw[hR],fun f v _=>by rw[hP],hS2⟩⟩
 ·rw[hP]at h2
  obtain⟨m,p0,h3,h4⟩:=h.table f h1 h2
  by_cases k:m=n
  ·refine⟨m,⟨p0.T,p0.A,U9 p0.Q ((n:Int),at_)⟩,?_,h4⟩
   rw[hT,if_pos k,←k,h3]
   rfl
  ·exact⟨m,p0,by rw[hT,if_neg k];exact h3,h4⟩
 ·obtain⟨p0,h3,h4,_⟩:=hA m pm h1
  have a:=h.area m p0 page h3 h2
  rw[e m page h2]
  exact⟨by rw[←h4];exact a.find,by rw[←h4,hCR];exact a.own,by rw[←h4,hCR];exact a.file,by rw[←h4,hCR];exact a.shared,by rw[←h4];exact a.slot⟩
 ·have hs:=hS2 m
  unfold za.pv
  cases h1:(x.jc n at_).T m with
  | none=>
   rw[h1]at hs
   cases h2:x.T m with
   | none=>rfl
   | some _=>rw[h2]at hs;cases hs
  | some pm=>
   obtain⟨p0,h3,h4,_⟩:=hA m pm h1
   rw[h3]
   dsimp only
   rw[h4]
   cases yh pm.A (page:Int)with
   | none=>rfl
   | some a=>
    dsimp only
    rw[e m page hpg]
    exact Qg (by rw[hCR]) (by rw[hD]) fun _=>by rw[hR]
theorem OK.zt(h:OK F x)(o:∀n,8≤n→x.T n=none){n page:Nat}{pr:yj}(hp:x.T n=some pr)(hpg:page<4096){a:Ar}(ha:yh pr.A (page:Int)=some a):
  (x.pv n page=.lost∧x.zt n page a=((0,7),x.jc n (page*64)))∨
  (x.pv n page≠.lost∧Got F 4 x (x.zt n page a).1.2 (x.zt n page a).2∧((x.zt n page a).1.2=0→((x.zt n page a).2.ent n page).kind=1∧((x.zt n page a).2.ent n page).n=(x.zt n page a).1.1)):=by
 have hn:=h.Xg o hp
 have hpv:=Yx hp ha
 unfold za.zt
 by_cases k3:(x.ent n page).kind=3
 ·left
  rw[if_pos k3,hpv]
  unfold za.pv1
  rw[if_pos k3]
  exact⟨rfl,rfl⟩
 ·right
  refine⟨?_,?_⟩
  ·rw[hpv]
   unfold za.pv1
   rw[if_neg k3]
   intro e
   split at e
   ·cases e
   ·split at e
    ·split at e<;>cases e
    ·split at e<;>cases e
  ·rw[if_neg k3]
   by_cases k2:(x.ent n page).kind=2
   ·rw[if_pos k2]
    have hr:=(Ent.ok_n (h.wf.Y8 n hpg)).2 k2
    obtain⟨g,e⟩:=h.inF o hn hpg k2 (k:=(x.ent n page).n.toNat) (by omega)
    refine⟨⟨g.ok,g.same,g.keeps.mono (by omega),?_,g.disk,g.stay⟩,e⟩
    rcases g.code with e|⟨e,e2⟩|e
    ·exact .inl e
    ·exact .inr (.inl ⟨e,by omega⟩)
    ·exact .inr (.inr e)
   ·rw[if_neg k2]
    by_cases k0:(x.ent n page).kind=0
    ·rw[if_pos k0]
     exact h.uk o hp hpg ha k0
    ·rw[if_neg k0]
     have hk:(x.ent n page).kind≤3:=by
      have:=h.wf.Y8 n hpg
      unfold Ent.ok at this
      simp only[Bool.and_eq_true,decide_eq_true_eq]at this
      exact this.1.1
     exact⟨⟨h,Same.refl x,(jm.refl x).mono (by omega),.inl rfl,.inl rfl,Stay.refl x⟩,fun _=>by dsimp only;exact⟨by omega,rfl⟩⟩
end
def za.putM(x:za)(l:List (Int×Int))(e:Int×Int→Ent):za:=l.foldl (fun y p=>(y.putF p.1.toNat p.2.toNat (e p)).2) x
theorem zhs(x:za)(n page:Nat)(l:List (Int×Int))(e:Int×Int→Ent):x.putM (plc n page::l) e=(x.putF n page (e (plc n page))).2.putM l e:=by
 unfold za.putM
 rw[List.foldl_cons]
 have e1:(plc n page).1.toNat=n:=by unfold plc;omega
 have e2:(plc n page).2.toNat=page:=by unfold plc;dsimp only;omega
 rw[e1,e2]
theorem zhr(x:za)(l:List (Int×Int))(p:Int×Int)(e:Int×Int→Ent):x.putM (l++[p]) e=((x.putM l e).putF p.1.toNat p.2.toNat (e p)).2:=by
 unfold za.putM
 rw[List.foldl_append]
 rfl
structure Y9(x:za)(f0:Nat)(l:List (Int×Int))(e:Int×Int→Ent)(y:za):Prop where
 wf:WF y
 ent:∀m pg,pg<4096→y.ent m pg=if plc m pg∈l then e (plc m pg)else x.ent m pg
 bad:y.R.bad=x.R.bad
 bytes:∀f i,x.P.use f≠1→x.P.use f≠2→y.R.b f i=x.R.b f i
 use:∀f,x.P.use f≠1→x.P.use f≠2→y.P.use f=if f=f0∧x.P.use f0=3∧l≠[]∧y.B f0=[]then 1 else x.P.use f
 fr:∀f,x.P.use f=1→y.P.use f=1
 tb:∀f,x.P.use f=2→y.P.use f=1∨y.P.use f=2
 tab:(∀f,f<1024→x.P.use f=2→∃n,x.owns n f)→∀f,f<1024→y.P.use f=2→∃n,y.owns n f
 zone:y.P.zone=x.P.zone∧y.P.iso=x.P.iso
 keep:y.D=x.D∧y.CL=x.CL∧y.CR=x.CR
 procs:∀m,(y.T m).map (fun pr=>(pr.A,pr.Q))=(x.T m).map (fun pr=>(pr.A,pr.Q))
 memB:∀(f:Nat) q,f<1024→(q∈y.B f↔if q∈l then(e q).kind=1∧(e q).n=f else q∈x.B f)
 memS:∀(k:Nat) q,k<32→(q∈y.S.getD k []↔if q∈l then(e q).kind=2∧(e q).n=k else q∈x.S.getD k [])
 room:x.P.room≤y.P.room
structure Qd(x:za)(f0:Nat)(q:Int×Int):Prop where
 pl:∃n page pr,q=plc n page∧n<8∧page<4096∧x.T n=some pr∧(x.ent n page).kind=1∧(x.ent n page).n=f0
 isB:q∈x.B f0
 noB:∀f:Nat,f<1024→f≠f0→q∉x.B f
 noS:∀k,k<32→q∉x.S.getD k []
def zoo(f0:Nat)(e:Ent):Prop:=e.ok=true∧(e.kind=1→e.n≠f0)
section
variable {F:Nat→Prop}{x y x1:za}{f0:Nat}{l:List (Int×Int)}{e:Int×Int→Ent}
theorem Y9.refl(h:WF x):Y9 x f0 [] e x:=
 ⟨h,fun m pg _=>by rw[if_neg (by simp)],rfl,fun _ _ _ _=>rfl,fun f _ _=>by rw[if_neg];exact fun z=>z.2.2.1 rfl,fun _ z=>z,fun _ z=>.inr z,fun z=>z,⟨rfl,rfl⟩,⟨rfl,rfl,rfl⟩,fun _=>rfl,
  fun f q _=>by rw[if_neg (by simp)],fun k q _=>by rw[if_neg (by simp)],Nat.le_refl _⟩
theorem Qd.keep{p q:Int×Int}{n page:Nat}{pr:yj}{c:Int}(h:Qd x f0 q)(d:PutD x n page pr (e p) c x1)(hp:p=plc n page)(hne:q≠p):Qd x1 f0 q:=by
 obtain⟨⟨m,pg,pm,rfl,h1,h2,h3,h4,h5⟩,h6,h7,h8⟩:=h
 have hn:¬(m=n∧pg=page):=fun z=>hne (by rw[hp,z.1,z.2])
 have ee:x1.ent m pg=x.ent m pg:=by rw[d.ent m pg h2,if_neg fun z=>hn z.2]
 refine⟨?_,?_,fun f hf hff=>?_,fun k hk=>?_⟩
 ·by_cases k:m=n
  ·obtain⟨T',ht⟩:=d.this
   exact⟨m,pg,_,rfl,h1,h2,by rw[k];exact ht,by rw[ee];exact h4,by rw[ee];exact h5⟩
  ·exact⟨m,pg,pm,rfl,h1,h2,by rw[d.oth m k];exact h3,by rw[ee];exact h4,by rw[ee];exact h5⟩
 ·rw[d.memB,if_neg fun z=>hne (z.2.1.trans hp.symm)];exact h6
 ·rw[d.memB,if_neg fun z=>hne (z.2.1.trans hp.symm)];exact h7 f hf hff
 ·rw[d.memS,if_neg fun z=>hne (z.2.1.trans hp.symm)];exact h8 k hk
theorem Y9.one(h:WF x){p:Int×Int}(hp:Qd x f0 p)(he:zoo f0 (e p)):Y9 x f0 [p] e (x.putM [p] e)∧∃n page pr,p=plc n page∧PutD x n page pr (e p) 0 (x.putM [p] e):=by
 obtain⟨⟨n,page,pr,rfl,h1,h2,h3,h4,h5⟩,h6,h7,h8⟩:=hp
 obtain⟨e1,e2⟩:=he
 have d:=h.putF h1 h3 h2 e1
 have hne:x.ent n page≠e (plc n page):=fun z=>by rw[z]at h4 h5;exact e2 h4 h5
 have hc:(x.putF n page (e (plc n page))).1=0:=(d.less (.inl (by omega))).1
 have hx:x.putM [plc n page] e=(x.putF n page (e (plc n page))).2:=by rw[zhs];rfl
 rw[hc]at d
 rw[hx]
 clear hx hc
 obtain⟨x1,hx1⟩:∃x1,x1=(x.putF n page (e (plc n page))).2:=⟨_,rfl⟩
 rw[←hx1]at d⊢
 clear hx1
 obtain⟨_,ls2,ls3⟩:=d.less (.inl (by omega))
 have own2:∀f,x.P.use f≠2→¬x.owns n f:=fun f hf ho=>hf (h.xn ho).2.1
 have mB:∀f:Nat,(plc n page∈x1.B f↔(e (plc n page)).kind=1∧(e (plc n page)).n=f∨(¬((x.ent n page).kind=1∧(x.ent n page).n=f)∧plc n page∈x.B f)):=fun f=>by
  rw[d.memB,if_pos ⟨rfl,rfl,hne⟩]
 have B0:x1.B f0=[]↔(x.B f0).erase (plc n page)=[]:=by
  have hs:=h.back (f0:Int)
  refine⟨fun z=>List.eq_nil_iff_forall_not_mem.2 fun q hq=>?_,fun z=>List.eq_nil_iff_forall_not_mem.2 fun q hq=>?_⟩
  ·obtain⟨q1,q2⟩:=(hs.1.Zy _ _).1 hq
   have:q∈x1.B f0:=by rw[d.memB,if_neg fun y=>q1 y.2.1];exact q2
   rw[z]at this;cases this
  ·by_cases k:q=plc n page
   ·rw[k,mB]at hq
    rcases hq with⟨a,b⟩|⟨a,_⟩
    ·exact e2 a b
    ·exact a ⟨h4,h5⟩
   ·rw[d.memB,if_neg fun y=>k y.2.1]at hq
    have:q∈(x.B f0).erase (plc n page):=(hs.1.Zy _ _).2 ⟨k,hq⟩
    rw[z]at this;cases this
 refine⟨⟨d.wf,fun m pg hpg=>?_,d.bad,fun f i hf hf2=>d.bytes f i hf (own2 f hf2),fun f hf hf2=>?_,fun f hf=>?_,fun f hf=>?_,fun t f hf hu=>?_,⟨d.zone,d.iso⟩,d.keep,fun m=>?_,fun f q hf=>?_,fun k q hk=>?_,ls2⟩,n,page,pr,rfl,d⟩
 ·rw[d.ent m pg hpg]
  by_cases k:m=n∧pg=page
  ·rw[if_pos ⟨rfl,k⟩,if_pos (by simp[k.1,k.2]),k.1,k.2]
  ·rw[if_neg fun z=>k z.2,if_neg]
   simpa[Xi]using k
 ·rw[d.use f (own2 f hf2) hf]
  refine zcn ⟨?_,?_⟩ _ _
  ·rintro⟨_,_,_,a,_,b,c⟩
   have hff:f=f0:=by omega
   subst hff
   exact⟨rfl,c,by simp,B0.2 b⟩
  ·rintro⟨rfl,a,_,b⟩
   exact⟨rfl,h4,fun z=>e2 z.1 (z.2.trans h5),h5.symm,h6,B0.1 b,a⟩
 ·rw[d.free f (.inr hf),if_neg]
  exact fun z=>by have:=(h.xn (ls3 f z)).2.1;omega
 ·by_cases k:x.owns n f
  ·rw[d.free f (.inl k)]
   split
   ·exact .inr rfl
   ·exact .inl rfl
  ·rw[d.use f k (by omega)]
   split
   ·exact .inl rfl
   ·exact .inr hf
 ·by_cases k:x.owns n f∨x.P.use f=1
  ·rw[d.free f k]at hu
   split at hu
   ·rename_i z;exact⟨n,z⟩
   ·omega
  ·have k1:¬x.owns n f:=fun z=>k (.inl z)
   rw[d.use f k1 fun z=>k (.inr z)]at hu
   split at hu
   ·omega
   ·obtain⟨m,pm,hm,hf'⟩:=t f hf hu
    have hmn:m≠n:=fun z=>k1 (by rw[←z];exact⟨pm,hm,hf'⟩)
    exact⟨m,pm,by rw[d.oth m hmn];exact hm,hf'⟩
 ·by_cases k:m=n
  ·obtain⟨T',ht⟩:=d.this
   rw[k,ht,h3]
   rfl
  ·rw[d.oth m k]
 ·by_cases k:q=plc n page
  ·rw[if_pos (by simp[k]),k,mB]
   refine⟨fun z=>z.elim id fun z=>?_,.inl⟩
   by_cases kk:f=f0
   ·exact absurd ⟨h4,by rw[h5,kk]⟩ z.1
   ·exact absurd z.2 (h7 f hf kk)
  ·rw[if_neg (by simpa using k),d.memB,if_neg fun z=>k z.2.1]
 ·by_cases kq:q=plc n page
  ·rw[if_pos (by simp[kq]),kq,d.memS,if_pos ⟨rfl,rfl,hne⟩]
   exact⟨fun z=>z.elim id fun z=>absurd z.2 (h8 k hk),.inl⟩
  ·rw[if_neg (by simpa using kq),d.memS,if_neg fun z=>kq z.2.1]
theorem Y9.comp{p:Int×Int}(h1:Y9 x f0 [p] e x1)(h2:Y9 x1 f0 l e y)(hB:x1.B f0≠[])(hl:l≠[]):Y9 x f0 (p::l) e y:=by
 have u1:∀f,x.P.use f≠1→x.P.use f≠2→x1.P.use f=x.P.use f:=fun f a b=>by
  rw[h1.use f a b,if_neg]
  exact fun z=>hB z.2.2.2
 have hi:∀{α:Type} (q:Int×Int) (a b c:α),(if q∈l then a else if q∈[p]then b else c)=if q∈p::l then(if q∈l then a else b)else c:=fun q a b c=>by
  by_cases k:q∈l
  ·rw[if_pos k,if_pos (List.mem_cons_of_mem _ k),if_pos k]
  ·rw[if_neg k]
   by_cases k2:q=p
   ·rw[if_pos (by simp[k2]),if_pos (by simp[k2]),if_neg k]
   ·rw[if_neg (by simpa using k2),if_neg (by simp[k2,k])]
 refine⟨h2.wf,fun m pg hpg=>?_,h2.bad.trans h1.bad,fun f i a b=>?_,fun f a b=>?_,fun f a=>h2.fr f (h1.fr f a),fun f a=>?_,fun t=>h2.tab (h1.tab t),⟨h2.zone.1.trans h1.zone.1,h2.zone.2.trans h1.zone.2⟩,
  ⟨h2.keep.1.trans h1.keep.1,h2.keep.2.1.trans h1.keep.2.1,h2.keep.2.2.trans h1.keep.2.2⟩,fun m=>(h2.procs m).trans (h1.procs m),fun f q hf=>?_,fun k q hk=>?_,Nat.le_trans h1.room h2.room⟩
 ·rw[h2.ent m pg hpg,h1.ent m pg hpg,hi,ite_self]
 ·rw[h2.bytes f i (by rw[u1 f a b];exact a) (by rw[u1 f a b];exact b),h1.bytes f i a b]
 ·rw[h2.use f (by rw[u1 f a b];exact a) (by rw[u1 f a b];exact b),u1 f a b]
  by_cases k:f=f0
  ·subst k
   rw[u1 f a b]
   exact zcn ⟨fun⟨q1,q2,_,q4⟩=>⟨q1,q2,by simp,q4⟩,fun⟨q1,q2,_,q4⟩=>⟨q1,q2,hl,q4⟩⟩ _ _
  ·rw[if_neg fun z=>k z.1,if_neg fun z=>k z.1]
 ·rcases h1.tb f a with z|z
  ·exact .inl (h2.fr f z)
  ·exact h2.tb f z
 ·rw[h2.memB f q hf,h1.memB f q hf]
  have:=hi q ((e q).kind=1∧(e q).n=(f:Int)) ((e q).kind=1∧(e q).n=(f:Int)) (q∈x.B f)
  rw[ite_self]at this
  rw[this]
 ·rw[h2.memS k q hk,h1.memS k q hk]
  have:=hi q ((e q).kind=2∧(e q).n=(k:Int)) ((e q).kind=2∧(e q).n=(k:Int)) (q∈x.S.getD k [])
  rw[ite_self]at this
  rw[this]
theorem WF.putM(h:WF x):∀{l:List (Int×Int)},l.Nodup→(∀q∈l,Qd x f0 q)→(∀q∈l,zoo f0 (e q))→Y9 x f0 l e (x.putM l e):=by
 intro l
 induction l generalizing x with
 | nil=>exact fun _ _ _=>Y9.refl h
 | cons p l ih=>
  intro nd hl he
  obtain⟨n1,n2⟩:=List.nodup_cons.1 nd
  obtain⟨d,n,page,pr,ep,dd⟩:=Y9.one (e:=e) h (hl p (List.mem_cons_self ..)) (he p (List.mem_cons_self ..))
  have ex:x.putM (p::l) e=(x.putM [p] e).putM l e:=rfl
  rw[ex]
  by_cases k:l=[]
  ·rw[k];exact d
  ·have hl':∀q∈l,Qd (x.putM [p] e) f0 q:=fun q hq=>(hl q (List.mem_cons_of_mem _ hq)).keep dd ep fun z=>n1 (z▸hq)
   have hd:=ih d.wf n2 hl' fun q hq=>he q (List.mem_cons_of_mem _ hq)
   obtain⟨q,hq⟩:=List.exists_mem_of_ne_nil l k
   refine Y9.comp d hd (fun z=>?_) k
   have:=(hl' q hq).isB
   rw[z]at this
   cases this
theorem OK.zie(h:OK F x){f0:Nat}(hf:f0<1024):∀q∈x.B f0,Qd x f0 q:=fun q hq=>by
 obtain⟨n,page,e,h1,h2,h3,h4⟩:=zkt h hf hq
 have hp:∃pr,x.T n=some pr:=by
  cases hT:x.T n with
  | none=>rw[Ym hT]at h3;exact absurd h3 (by decide)
  | some pr=>exact⟨pr,rfl⟩
 obtain⟨pr,hp⟩:=hp
 refine⟨⟨n,page,pr,e,h1,h2,hp,h3,h4⟩,hq,fun f hf2 hne hm=>?_,fun k hk hm=>?_⟩
 ·rw[e]at hm
  have:=((h.backE f n page hf2 h1 h2).1 hm).2
  omega
 ·rw[e]at hm
  have:=((h.slotE k n page hk h1 h2).1 hm).1
  omega
end
section
open Go Go.RowKit
structure Abs where
 A:Nat→Option (List Ar×List (Int×Int))
 pv:Nat→Nat→PV
 file:Int×Int→List UInt8
 qy:Int×Int→Bool
 cur:Nat→List UInt8
instance (k:Int×Int):Decidable (Zc k):=inferInstanceAs (Decidable (_∧_))
def za.abs(x:za):Abs where
 A n:=(x.T n).map fun pr=>(pr.A,pr.Q)
 pv n page:=if page<4096 then x.pv n page else .none
 file k:=if Zc k then x.Yf k else []
 qy:=x.qy
 cur:=x.D.cur
theorem Same.abs{x y:za}(h:Same x y):y.abs=x.abs:=by
 unfold za.abs
 rw[Abs.mk.injEq]
 refine⟨funext h.procs,?_,?_,funext h.qy,h.cur⟩
 ·funext n page
  by_cases k:page<4096
  ·rw[if_pos k,if_pos k,h.pv n page k]
  ·rw[if_neg k,if_neg k]
 ·funext q
  by_cases k:Zc q
  ·rw[if_pos k,if_pos k,h.file q k]
  ·rw[if_neg k,if_neg k]
namespace Abs
def ct(X:Abs)(a:Ar)(n page:Nat):List UInt8:=match X.pv n page with | .own l=>l | .file=>X.file (za.keyF a page)|_=>List.replicate 64 0
def Qv(X:Abs)(n page:Nat)(v:PV):Abs:={X with pv:=fun m pg=>if m=n∧pg=page then v else X.pv m pg}
def Qf(X:Abs)(k:Int×Int)(d:Bool):Abs:={X with qy:=fun q=>if q=k then d else X.qy q}
def za1(X:Abs)(k:Int×Int)(l:List UInt8):Abs:={X with file:=fun q=>if q=k then l else X.file q}
def own(X:Abs)(a:Ar)(n page:Nat):Abs:=if a.kind=2 then X.Qf (za.keyF a page) true else X.Qv n page (.own (X.ct a n page))
def splice(l:List UInt8)(at_:Nat)(b:List UInt8):List UInt8:=l.take at_++(b++l.drop (at_+b.length))
def write(X:Abs)(a:Ar)(n page at_:Nat)(b:List UInt8):Abs:=if a.kind=2 then X.za1 (za.keyF a page) (splice (X.file (za.keyF a page)) at_ b)else X.Qv n page (.own (splice (X.ct a n page) at_ b))
end Abs
structure Mine(x:za)(a:Ar)(n page f:Nat):Prop where
 lt:f<1024
 ent:(x.ent n page).kind=1∧(x.ent n page).n=f
 shared:a.kind=2→getL x.CR (f:Int)=some (za.keyF a page)∧x.qy (za.keyF a page)=true
 own:a.kind≠2→getL x.CR (f:Int)=none∧x.B f=[plc n page]
structure Beside(n page:Nat)(x y:za):Prop where
 ent:∀m pg,pg<4096→¬(m=n∧pg=page)→y.ent m pg=x.ent m pg
 backs:∀f:Nat,f<1024→x.P.use f=3→x.B f≠[]→(f:Int)≠(x.ent n page).n→y.B f=x.B f∧y.P.use f=3
 cr:∀f k,getL x.CR f=some k→getL y.CR f=some k
theorem Beside.refl(n page:Nat)(x:za):Beside n page x x:=⟨fun _ _ _ _=>rfl,fun _ _ h _ _=>⟨rfl,h⟩,fun _ _ h=>h⟩
section
variable {F:Nat→Prop}{x y:za}
theorem zfq(h:OK F x){n page:Nat}{pr:yj}(hn:n<8)(hp:x.T n=some pr)(hpg:page<4096){a:Ar}(ha:yh pr.A (page:Int)=some a)(hk:(x.ent n page).kind=1):x.abs.ct a n page=x.R.read (x.ent n page).n.toNat 0 64:=by
 have hpv:=Yx hp ha
 have e:x.abs.pv n page=x.pv n page:=if_pos hpg
 obtain⟨f,e1,e2,_,e3,_⟩:=h.frame hn hpg hk
 have hA:=h.area n pr page hp hpg
 unfold Abs.ct
 rw[e,hpv]
 unfold za.pv1
 rw[if_neg (by omega),if_neg (by omega),if_pos hk]
 by_cases hc:getL x.CR (x.ent n page).n=none
 ·rw[if_pos hc]
 ·rw[if_neg hc]
  dsimp only
  obtain⟨k,hck⟩:=Option.ne_none_iff_exists'.1 hc
  have hne:a.kind≠1:=fun e=>hc (hA.own a ha hk e)
  have hkey:=hA.file a k ha hk hne hck
  subst hkey
  have hko:=Us (h.wf.Yh n pr hp).1 ha hne
  show(if Zc (za.keyF a page)then x.Yf (za.keyF a page)else [])=_
  rw[if_pos hko]
  unfold za.Yf
  obtain⟨d,hd⟩:=(h.cacheE _ _).2 hck
  rw[hd]
theorem OK.mark(h:OK F x)(k:Int×Int)(hk:∃v,getL x.CL k=some v):OK F (x.y7 k true)∧(x.y7 k true).abs=x.abs.Qf k true∧(∀n page,(x.y7 k true).ent n page=x.ent n page)∧jm 0 x (x.y7 k true):=by
 obtain⟨v,hv⟩:=hk
 have w:=h.wf.y7 k true
 have e:x.y7 k true={x with CL:=updL x.CL k (v.1,true)}:=by unfold za.y7;rw[hv]
 have he:∀n page,(x.y7 k true).ent n page=x.ent n page:=fun n page=>by rw[e];rfl
 rw[e]at w he⊢
 have hfst:∀q g,(∃d,getL (updL x.CL k (v.1,true)) q=some (g,d))↔∃d,getL x.CL q=some (g,d):=fun q g=>by
  rw[y8]
  by_cases c:q=k
  ·rw[if_pos c,c,hv]
   constructor
   ·rintro⟨d,hd⟩
    simp at hd
    exact⟨v.2,by rw[←hd.1]⟩
   ·rintro⟨d,hd⟩
    simp at hd
    exact⟨true,by rw[hd]⟩
  ·rw[if_neg c]
 have hv2:∀q w,getL (updL x.CL k (v.1,true)) q=some w→∃w0,getL x.CL q=some w0∧w0.1=w.1:=fun q w hw=>by
  obtain⟨d,hd⟩:=(hfst q w.1).1 ⟨w.2,hw⟩
  exact⟨_,hd,rfl⟩
 refine⟨⟨w,fun f n page h1 h2 h3=>h.backE f n page h1 h2 h3,fun q n page h1 h2 h3=>h.slotE q n page h1 h2 h3,h.useB,h.anon,h.table,h.cached,fun q g=>(hfst q g).trans (h.cacheE q g),fun q w hw=>?_,fun n pr page h1 h2=>by
  have a:=h.area n pr page h1 h2
  rw[he n page]
  exact⟨a.find,a.own,a.file,a.shared,a.slot⟩⟩,?_,he,⟨⟨rfl,rfl⟩,by dsimp only;omega,rfl,fun _ _ _=>Iff.rfl,fun _=>rfl⟩⟩
 ·obtain⟨w0,h0,_⟩:=hv2 q w hw
  exact h.cacheK q w0 h0
 ·unfold za.abs Abs.Qf
  rw[Abs.mk.injEq]
  refine⟨rfl,rfl,?_,?_,rfl⟩
  ·funext q
   by_cases c:Zc q
   ·rw[if_pos c]
    dsimp only
    rw[if_pos c]
    unfold za.Yf
    dsimp only
    rw[y8]
    by_cases c2:q=k
    ·rw[if_pos c2,c2,hv]
    ·rw[if_neg c2]
   ·rw[if_neg c]
    dsimp only
    rw[if_neg c]
  ·funext q
   unfold za.qy
   dsimp only
   rw[y8]
   by_cases c2:q=k
   ·rw[if_pos c2,if_pos c2];rfl
   ·rw[if_neg c2,if_neg c2]
theorem OK.zhq(h:OK F x){n page:Nat}{pr:yj}{e:Ent}{c:Int}(d:PutD x n page pr e c y)(hp:x.T n=some pr)(hpg:page<4096){a:Ar}(ha:yh pr.A (page:Int)=some a)(o:∀n,8≤n→x.T n=none)(hc:c=0)(l:List UInt8)(hl:y.pv1 a e=.own l):y.abs=x.abs.Qv n page (.own l):=by
 -- what all see but for this page
 have hR:∀f i,f<1024→(x.P.use f=3∨x.P.use f=4)→i<64→y.R.b f i=x.R.b f i:=fun f i hf hu hi=>d.bytes f i (by omega) fun ho=>by have:=(h.wf.xn ho).2.1;omega
 have hA:∀m,(y.T m).map (fun pr=>(pr.A,pr.Q))=(x.T m).map (fun pr=>(pr.A,pr.Q)):=fun m=>by
  by_cases k:m=n
  ·subst k
   obtain⟨T',ht⟩:=d.this
   rw[ht,hp]
   rfl
  ·rw[d.oth m k]
 have hA1:∀m,(y.T m).map (·.A)=(x.T m).map (·.A):=fun m=>by
  have:=congrArg (Option.map Prod.fst) (hA m)
  simpa[Option.map_map,Function.comp_def]using this
 unfold za.abs Abs.Qv
 rw[Abs.mk.injEq]
 refine⟨funext hA,?_,?_,by funext k;unfold za.qy;rw[d.keep.2.1],by rw[d.keep.1]⟩
 ·funext m pg
  by_cases k:m=n∧pg=page
  ·rw[if_pos k,k.1,k.2,if_pos hpg]
   obtain⟨T',ht⟩:=d.this
   rw[Yx ht ha,d.done hpg hc]
   exact hl
  ·rw[if_neg k]
   by_cases hq:pg<4096
   ·rw[if_pos hq]
    dsimp only
    rw[if_pos hq]
    have he:y.ent m pg=x.ent m pg:=by rw[d.ent m pg hq,if_neg fun a=>k a.2]
    by_cases hm:m<8
    ·exact Ug h m pg hm hq (hA1 m) he (fun _=>by rw[d.keep.2.2]) (fun _=>by rw[d.keep.1]) hR
    ·have h1:=o m (by omega)
     have h2:y.T m=none:=by
      have:=hA m
      rw[h1]at this
      simpa using this
     unfold za.pv
     rw[h1,h2]
   ·rw[if_neg hq]
    dsimp only
    rw[if_neg hq]
 ·funext k
  by_cases hk:Zc k
  ·rw[if_pos hk]
   dsimp only
   rw[if_pos hk]
   exact X8 h k d.keep.2.1 (by rw[d.keep.1]) fun f i a b c=>hR f i a (.inr b) c
  ·rw[if_neg hk]
   dsimp only
   rw[if_neg hk]
theorem OK.ownF(h:OK F x)(o:∀n,8≤n→x.T n=none){n page:Nat}{pr:yj}(hp:x.T n=some pr)(hpg:page<4096){a:Ar}(ha:yh pr.A (page:Int)=some a)(hk:(x.ent n page).kind=1){f:Nat}(hf:(x.ent n page).n=f):
  OK F (x.ownF n page a f).2∧jm 1 x (x.ownF n page a f).2∧(x.ownF n page a f).2.D=x.D∧Beside n page x (x.ownF n page a f).2∧(((x.ownF n page a f).1.2=4∧x.P.room<1∧(x.ownF n page a f).2.abs=x.abs)∨
   ((x.ownF n page a f).1.2=0∧(x.ownF n page a f).2.abs=x.abs.own a n page∧∃g:Nat,(x.ownF n page a f).1.1=g∧Mine (x.ownF n page a f).2 a n page g)):=by
 have hn:=h.Xg o hp
 obtain⟨f',e1,e2,hm,hu,hb⟩:=h.frame hn hpg hk
 have hff:f'=f:=by omega
 subst hff
 have hA:=h.area n pr page hp hpg
 have hct:=zfq h hn hp hpg ha hk
 rw[hf,Int.toNat_natCast]at hct
 unfold za.ownF
 by_cases k2:a.kind=2
 ·rw[if_pos k2]
  obtain⟨k,hck⟩:=Option.ne_none_iff_exists'.1 (hA.shared a ha hk k2)
  have hkey:=hA.file a k ha hk (by omega) hck
  rw[hf]at hck
  rw[hck]
  subst hkey
  obtain⟨d,hd⟩:=(h.cacheE _ _).2 hck
  obtain⟨m1,m2,m3,m4⟩:=h.mark (za.keyF a page) ⟨_,hd⟩
  have hdr:(x.y7 (za.keyF a page) true).qy (za.keyF a page)=true:=by
   have:=congrArg (fun X:Abs=>X.qy (za.keyF a page)) m2
   simpa[za.abs,Abs.Qf]using this
  refine⟨m1,m4.mono (by omega),rfl,⟨fun m pg _ _=>m3 m pg,fun _ _ h1 _ _=>⟨rfl,h1⟩,fun _ _ h1=>h1⟩,.inr ⟨rfl,?_,f',rfl,⟨e2,by dsimp only[Option.getD_some];rw[m3];exact⟨hk,hf⟩,fun _=>⟨hck,hdr⟩,fun q=>absurd k2 q⟩⟩⟩
  unfold Abs.own
  rw[if_pos k2]
  exact m2
 ·rw[if_neg k2]
  by_cases k1:getL x.CR (f':Int)=none∧(x.B f').length=1
  ·rw[if_pos k1]
   have hB1:x.B f'=[plc n page]:=by
    cases hl:x.B f' with
    | nil=>rw[hl]at hm;cases hm
    | cons q l=>
     have:=k1.2
     rw[hl]at this
     have hl2:l=[]:=by cases l with|nil=>rfl|cons _ _=>simp at this
     subst hl2
     rw[hl]at hm
     simp at hm
     rw[hm]
   have hu3:x.P.use f'=3:=by
    rcases hu with hu|hu
    ·exact hu
    ·have:=(h.cached f' e2).1 hu
     rw[k1.1]at this
     cases this
   have d:=h.wf.putF hn hp hpg (e:=⟨1,f',true⟩) (by simp[Ent.ok,most];omega)
   obtain⟨c0,kp⟩:=d.zik h.wf hp (.inl (by omega))
   have hA2:Ub x pr page ⟨1,f',true⟩:=by
    refine⟨fun _=>⟨a,ha⟩,fun b hb _ h3=>k1.1,fun b q hb _ _ h4=>?_,fun b hb _ h3=>?_,fun b hb h2=>by cases h2⟩
    ·dsimp only at h4;rw[k1.1]at h4;cases h4
    ·rw[ha]at hb;cases hb;exact absurd h3 k2
   have k:=h.put d hn hp hpg (fun _=>⟨f',rfl,e2,.inl hu3⟩) hA2
   have hns:¬x.owns n f':=fun ho=>by have:=(h.wf.xn ho).2.1;omega
   have hrd:(x.putF n page ⟨1,f',true⟩).2.R.read f' 0 64=x.R.read f' 0 64:=Ya fun i _=>d.bytes f' i (by omega) hns
   have bes:Beside n page x (x.putF n page ⟨1,f',true⟩).2:=by
    refine⟨fun m pg hq hne=>by rw[d.ent m pg hq,if_neg fun q=>hne q.2],fun f2 hf2 hu2 hB2 hne=>?_,fun f2 q2 hq2=>by rw[d.keep.2.2];exact hq2⟩
    have hn2:¬x.owns n f2:=fun ho=>by have:=(h.wf.xn ho).2.1;omega
    refine⟨?_,?_⟩
    ·refine um (d.wf.back f2).1 (h.wf.back f2).1 ?_
     refine(List.perm_ext_iff_of_nodup (d.wf.back f2).1.nodup (h.wf.back f2).1.nodup).2 fun q=>?_
     rw[d.memB]
     split
     ·have h1:¬((x.ent n page).kind=1∧(x.ent n page).n=f2):=fun a=>hne a.2.symm
      have h2:¬((1:Nat)=1∧(f':Int)=f2):=fun a=>hne (by omega)
      exact⟨fun a=>a.elim (fun b=>absurd b h2) fun b=>b.2,fun a=>.inr ⟨h1,a⟩⟩
     ·exact Iff.rfl
    ·rw[d.use f2 hn2 (by omega),if_neg]
     ·exact hu2
     ·rintro⟨_,_,_,b,_⟩
      exact hne b
   refine⟨k.mono fun g hg=>hg.1,kp.mono (by omega),d.keep.1,bes,.inr ⟨c0,?_,f',rfl,⟨e2,by rw[d.done hpg c0];exact⟨rfl,rfl⟩,fun q=>absurd q k2,fun _=>⟨by rw[d.keep.2.2];exact k1.1,?_⟩⟩⟩⟩
   ·unfold Abs.own
    rw[if_neg k2,hct]
    refine h.zhq d hp hpg ha o c0 _ ?_
    unfold za.pv1
    dsimp only
    rw[d.keep.2.2,k1.1,Int.toNat_natCast,hrd]
    simp
   ·refine um (d.wf.back _).1 (List.pairwise_singleton _ _) ?_
    refine(List.perm_ext_iff_of_nodup (d.wf.back _).1.nodup (by simp)).2 fun q=>?_
    rw[d.memB,hB1]
    split
    ·rename_i g
     simp[g.2.1]
    ·exact Iff.rfl
  ·rw[if_neg k1]
   rcases h.wf.yx (f':Int)with⟨hnx,e⟩|⟨g,hnx,hbad,e,d0,hD⟩|⟨g,hnx,hbad,e,d0,hD⟩
   ·rw[e]
    dsimp only
    rw[if_neg (by simp)]
    exact⟨h,(jm.refl x).mono (by omega),rfl,Beside.refl _ _ x,.inl ⟨rfl,by have:=jo hnx;omega,rfl⟩⟩
   ·obtain⟨q1,s1,hB,hcr,hu3,hrd⟩:=d0.ok h o
    have kp1:=d0.keeps (.inl rfl)
    have en1:=d0.ent
    have st1:=d0.stay
    have kT:=d0.keep.1
    have kR:=d0.keep.2.2.2.2
    have kB:=d0.keep.2.1
    have hg:=d0.was.1
    have hgu:=d0.was.2
    rw[Int.toNat_natCast]at hrd
    obtain⟨y,hy⟩:∃y,y=(x.yx (f':Int)).2:=⟨_,rfl⟩
    rw[←hy]at q1 s1 hu3 hrd kp1 en1 st1 kT kR kB hD⊢
    rw[e]
    dsimp only
    rw[if_pos rfl]
    clear hy d0 e
    have hp':y.T n=some pr:=by rw[kT];exact hp
    have d:=q1.wf.putF hn hp' hpg (e:=⟨1,g,true⟩) (by simp[Ent.ok,most];omega)
    obtain⟨c0,kp⟩:=d.zik q1.wf hp' (.inl (by rw[en1 n page hpg];omega))
    have hA2:Ub y pr page ⟨1,g,true⟩:=by
     refine⟨fun _=>⟨a,ha⟩,fun b hb _ h3=>by dsimp only;rw[kR];exact hcr,fun b q hb _ _ h4=>?_,fun b hb _ h3=>?_,fun b hb h2=>by cases h2⟩
     ·dsimp only at h4;rw[kR,hcr]at h4;cases h4
     ·rw[ha]at hb;cases hb;exact absurd h3 k2
    have k:=q1.put d hn hp' hpg (fun _=>⟨g,rfl,hg,.inl hu3⟩) hA2
    have hns:¬y.owns n g:=fun ho=>by have:=(q1.wf.xn ho).2.1;omega
    have hrd2:(y.putF n page ⟨1,g,true⟩).2.R.read g 0 64=y.R.read g 0 64:=Ya fun i _=>d.bytes g i (by omega) hns
    have hgf:(y.ent n page).n≠(g:Int):=fun q=>by
     rw[en1 n page hpg]at q
     have:f'=g:=by omega
     subst this
     omega
    have bes:Beside n page x (y.putF n page ⟨1,g,true⟩).2:=by
     refine⟨fun m pg hq hne=>by rw[d.ent m pg hq,if_neg fun q=>hne q.2,en1 m pg hq],fun f2 hf2 hu2 hB2 hne=>?_,fun f2 q2 hq2=>by rw[d.keep.2.2];exact st1.cr f2 q2 hq2⟩
     obtain⟨b1,b2⟩:=st1.backs f2 hf2 hu2 hB2
     have hne3:f2≠g:=fun e=>by rw[e]at hu2;omega
     have hn2:¬y.owns n f2:=fun ho=>by have:=(q1.wf.xn ho).2.1;omega
     refine⟨Eq.trans ?_ b1,?_⟩
     ·refine um (d.wf.back f2).1 (q1.wf.back f2).1 ?_
      refine(List.perm_ext_iff_of_nodup (d.wf.back f2).1.nodup (q1.wf.back f2).1.nodup).2 fun q=>?_
      rw[d.memB]
      split
      ·have h1:¬((y.ent n page).kind=1∧(y.ent n page).n=f2):=fun a=>hne (by rw[←en1 n page hpg];exact a.2.symm)
       have h2:¬((1:Nat)=1∧(g:Int)=f2):=fun a=>hne3 (by omega)
       exact⟨fun a=>a.elim (fun b=>absurd b h2) fun b=>b.2,fun a=>.inr ⟨h1,a⟩⟩
      ·exact Iff.rfl
     ·rw[d.use f2 hn2 (by omega),if_neg]
      ·exact b2
      ·rintro⟨_,_,_,b,_⟩
       exact hne (by rw[←en1 n page hpg];exact b)
    refine⟨k.mono fun z hz=>?_,(kp1.trans kp).mono (by omega),by rw[d.keep.1,hD],bes,.inr ⟨c0,?_,g,rfl,⟨hg,by rw[d.done hpg c0];exact⟨rfl,rfl⟩,fun q=>absurd q k2,fun _=>⟨by rw[d.keep.2.2,kR];exact hcr,?_⟩⟩⟩⟩
    ·rcases hz.1 with q|q
     ·exact q
     ·exact absurd ⟨c0,rfl,by rw[q]⟩ hz.2
    ·unfold Abs.own
     rw[if_neg k2,hct,←s1.abs]
     refine q1.zhq d hp' hpg ha (s1.out o) c0 _ ?_
     unfold za.pv1
     dsimp only
     rw[d.keep.2.2,kR,hcr,Int.toNat_natCast,hrd2,hrd]
     simp
    ·refine um (d.wf.back _).1 (List.pairwise_singleton _ _) ?_
     refine(List.perm_ext_iff_of_nodup (d.wf.back _).1.nodup (by simp)).2 fun q=>?_
     rw[d.memB,kB,hB]
     split
     ·rename_i z
      simp[z.2.1]
     ·rename_i z
      constructor
      ·intro q;cases q
      ·intro q
       simp at q
       refine absurd ⟨c0,q,fun w=>?_⟩ z
       rw[w]at hgf
       exact hgf rfl
   ·rw[Int.toNat_natCast,hb]at hbad
    cases hbad
end
end
structure Ok0(x:za):Prop where
 ok:OK (fun _=>False) x
 out:∀n,8≤n→x.T n=none
def Abs.area(X:Abs)(n page:Nat):Option Ar:=(X.A n).bind fun p=>yh p.1 (page:Int)
theorem Y4{x:za}{n page:Nat}{pr:yj}(hp:x.T n=some pr):x.abs.area n page=yh pr.A (page:Int):=by
 unfold Abs.area za.abs
 dsimp only
 rw[hp]
 rfl
structure Jr(x:za)(n page:Nat)(wr:Bool)(a:Ar)(f c:Int)(y:za):Prop where
 ok:Ok0 y
 keeps:jm 5 x y
 disk:y.D=x.D∨y.D=x.D.work.1
 code:c=0∨(c=4∧x.P.room<5∧y.abs=x.abs)∨(c=(x.D.work.2:Int)∧x.D.work.2≠0∧y.abs=x.abs)
 abs:c=0→y.abs=if wr then x.abs.own a n page else x.abs
 frame:c=0→(y.ent n page).kind=1∧(y.ent n page).n=f
 mine:c=0→wr=true→∃g:Nat,f=g∧Mine y a n page g
 ent1:∀m pg,pg<4096→¬(m=n∧pg=page)→(x.ent m pg).kind=1→y.ent m pg=x.ent m pg
 backs:∀(m pg g:Nat),m<8→pg<4096→¬(m=n∧pg=page)→g<1024→x.P.use g=3→x.B g=[plc m pg]→y.B g=[plc m pg]∧y.P.use g=3
 cr:∀g k,getL x.CR g=some k→getL y.CR g=some k
section
variable {F:Nat→Prop}{x y:za}
theorem OK.frame'(h:OK F x){n page:Nat}(hn:n<8)(hpg:page<4096)(hk:(x.ent n page).kind=1):(x.ent n page).n=((x.ent n page).n.toNat:Int)∧(x.ent n page).n.toNat<1024∧x.R.bad (x.ent n page).n.toNat=false:=by
 obtain⟨f,e1,e2,_,_,e3⟩:=h.frame hn hpg hk
 rw[e1,Int.toNat_natCast]
 exact⟨rfl,e2,e3⟩
theorem Ok0.askF (h : Ok0 x) {n page : Nat} {pr : yj} (hp : x.T n = some pr) (hpg : page < 4096) (wr : Bool) :
    ((yh pr.A (page : Int) = none ∨ ∃ a, yh pr.A (page : Int) = some a ∧ wr = true ∧ a.write = false) ∧ x.askF n page wr = ((0, 11), x)) ∨
    (∃ a, yh pr.A (page : Int) = some a ∧ ¬ (wr = true ∧ a.write = false) ∧
      ((x.pv n page = .lost ∧ x.askF n page wr = ((0, 7), x.jc n (page * 64))) ∨
       (x.pv n page ≠ .lost ∧ Jr x n page wr a (x.askF n page wr).1.1 (x.askF n page wr).1.2 (x.askF n page wr).2))) := by
  have hn := h.ok.Xg h.out hp
  unfold za.askF
  rw [hp]
  dsimp only
  cases ha : yh pr.A (page : Int) with
  | none => exact .inl ⟨.inl rfl, rfl⟩
  | some a =>
    dsimp only
    by_cases hd : wr = true ∧ a.write = false
    · rw [if_pos hd]
      exact .inl ⟨.inr ⟨a, rfl, hd⟩, rfl⟩
    · rw [if_neg hd]
      refine .inr ⟨a, rfl, hd, ?_⟩
      rcases h.ok.zt h.out hp hpg ha with ⟨l, e⟩ | ⟨l, g, fr⟩
      · left
        rw [e]
        dsimp only
        rw [if_neg (by simp)]
        exact ⟨l, rfl⟩
      · right
        refine ⟨l, ?_⟩
        obtain ⟨⟨⟨f, c⟩, y⟩, hy⟩ : ∃ r, r = x.zt n page a := ⟨_, rfl⟩
        rw [← hy] at g fr ⊢
        dsimp only at g fr ⊢
        clear hy
        have oy := g.same.out h.out
        obtain ⟨T', hp'⟩ := g.same.proc hp
        have hab := g.same.abs
        have gok := g.ok
        have bk : ∀ (m pg k : Nat), m < 8 → pg < 4096 → ¬ (m = n ∧ pg = page) → k < 1024 → x.P.use k = 3 → x.B k = [plc m pg] → y.B k = [plc m pg] ∧ y.P.use k = 3 := fun m pg k _ _ _ hk hu hB => by
          obtain ⟨a, b⟩ := g.stay.backs k hk hu (by rw [hB]; simp)
          exact ⟨a.trans hB, b⟩
        by_cases hc : c = 0 ∧ wr = true
        · rw [if_pos hc]
          obtain ⟨hc, rfl⟩ := hc
          obtain ⟨f1, f2⟩ := fr hc
          obtain ⟨e1, e2, e3⟩ := g.ok.frame' hn hpg f1
          obtain ⟨k, hk⟩ : ∃ k : Nat, f = k := ⟨(y.ent n page).n.toNat, by rw [← f2]; exact e1⟩
          subst hk
          obtain ⟨o1, o2, o3, o4, o5⟩ := g.ok.ownF oy hp' hpg ha f1 f2
          obtain ⟨R, hR⟩ : ∃ R, R = y.ownF n page a (k : Int) := ⟨_, rfl⟩
          rw [← hR] at o1 o2 o3 o4 o5 ⊢
          clear hR
          have bk2 : ∀ (m pg g : Nat), m < 8 → pg < 4096 → ¬ (m = n ∧ pg = page) → g < 1024 → x.P.use g = 3 → x.B g = [plc m pg] → R.2.B g = [plc m pg] ∧ R.2.P.use g = 3 := fun m pg g hm hpg' hne hg hu hB => by
            obtain ⟨b1, b2⟩ := bk m pg g hm hpg' hne hg hu hB
            have hkf : (g : Int) ≠ (y.ent n page).n := fun e => by
              have := (gok.backE g n page hg hn hpg).2 ⟨f1, e.symm⟩
              rw [b1] at this
              simp at this
              exact hne (by have := Xi.1 this; exact ⟨this.1.symm, this.2.symm⟩)
            obtain ⟨c1, c2⟩ := o4.backs g hg b2 (by rw [b1]; simp) hkf
            exact ⟨c1.trans b1, c2⟩
          have hst := g.stay
          have hkp := g.keeps
          have hdk := g.disk
          clear g
          have en2 : ∀ m pg, pg < 4096 → ¬ (m = n ∧ pg = page) → (x.ent m pg).kind = 1 → R.2.ent m pg = x.ent m pg := fun m pg hq hne hk1 => by
            have e := hst.ent1 m pg hq hk1
            rw [o4.ent m pg hq hne, e]
          have cr2 : ∀ q k, getL x.CR q = some k → getL R.2.CR q = some k := fun q k hq => o4.cr q k (hst.cr q k hq)
          have out2 : ∀ m, 8 ≤ m → R.2.T m = none := fun m hm => by
            have := o2.some m
            rw [oy m hm] at this
            cases e : R.2.T m with
            | none => rfl
            | some _ => rw [e] at this; cases this
          rcases o5 with ⟨c4, r4, a4⟩ | ⟨c0, a0, q, hq, hm⟩
          · refine ⟨⟨o1, out2⟩, hkp.trans o2, by rw [o3]; exact hdk, .inr (.inl ⟨c4, by have := hkp.room; omega, by rw [a4, hab]⟩), fun e => ?_, fun e => ?_, fun e => ?_, en2, bk2, cr2⟩ <;> (rw [c4] at e; cases e)
          · refine ⟨⟨o1, out2⟩, hkp.trans o2, by rw [o3]; exact hdk, .inl c0, fun _ => by rw [a0, hab]; rfl, fun _ => ?_, fun _ _ => ⟨q, hq, hm⟩, en2, bk2, cr2⟩
            rw [hq]
            exact hm.ent
        · rw [if_neg hc]
          refine ⟨⟨g.ok, oy⟩, g.keeps.mono (by omega), g.disk, ?_, fun e => ?_, fr, fun e hw => absurd ⟨e, hw⟩ hc, fun m pg hq _ hk1 => g.stay.ent1 m pg hq hk1, bk, g.stay.cr⟩
          · rcases g.code with e | ⟨e, e2⟩ | ⟨e, e2⟩
            · exact .inl e
            · exact .inr (.inl ⟨e, by omega, hab⟩)
            · exact .inr (.inr ⟨e, e2, hab⟩)
          · dsimp only at e
            have : wr = false := by cases wr with | false => rfl | true => exact absurd ⟨e, rfl⟩ hc
            rw [this]
            exact hab
end
section
variable {F:Nat→Prop}{x y:za}{f0:Nat}{l:List (Int×Int)}{e:Int×Int→Ent}
theorem Y9.Ue(d:Y9 x f0 l e y){v:Nat}(h1:v≠1)(h2:v≠2)(h3:v≠3)(g:Nat):y.P.use g=v↔x.P.use g=v:=by
 by_cases k1:x.P.use g=1
 ·have:=d.fr g k1;omega
 ·by_cases k2:x.P.use g=2
  ·have:=d.tb g k2;omega
  ·rw[d.use g k1 k2]
   split
   ·rename_i z;have e:=z.1;have:=z.2.1;subst e;omega
   ·exact Iff.rfl
theorem Y9.proc(d:Y9 x f0 l e y){n:Nat}{pr:yj}(hp:y.T n=some pr):∃p0,x.T n=some p0∧p0.A=pr.A∧p0.Q=pr.Q:=by
 have:=d.procs n
 rw[hp]at this
 cases hq:x.T n with
 | none=>rw[hq]at this;cases this
 | some p0=>
  rw[hq]at this
  have:=Option.some.inj this
  exact⟨p0,rfl,(congrArg Prod.fst this).symm,(congrArg Prod.snd this).symm⟩
end
end Go.Proofs.YtnhdmnijiphjjaaGreat
