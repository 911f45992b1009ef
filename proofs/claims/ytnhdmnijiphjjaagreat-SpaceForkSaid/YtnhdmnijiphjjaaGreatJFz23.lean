/- Pages that go out: all who have a frame have another entry. -/
import Derived.Test.YtnhdmnijiphjjaaGreatJFz17
import Derived.Test.YtnhdmnijiphjjaaGreatJFz11
import Derived.Test.YtnhdmnijiphjjaaGreatJFz22
import Derived.Test.YtnhdmnijiphjjaaGreatJFz21
import Derived.Test.YtnhdmnijiphjjaaGreatJFz16
import Derived.Test.YtnhdmnijiphjjaaGreatJFz14
import Derived.Lib.SlBytesConst
import Derived.Test.YtnhdmnijiphjjaaGreatJFz20
import Derived.Deep.QuietTactic
import Derived.BigQuiet
import Derived.ProofKit
import Derived.WalkKit
import Derived.Deep.Slices
set_option linter.unusedVariables false
set_option linter.unusedSimpArgs false
set_option maxRecDepth 100000
set_option maxHeartbeats 2000000
namespace Go.Proofs.YtnhdmnijiphjjaaGreat
open Go Go.RowKit
section
variable {w w':World}{tag tag':Nat→Nat}{q:Sq}{x:za}
def entL(b:Nat)(e:Ent):List (Nat×Nat×Value):=[(b,0,.int .i64 e.kind),(b,1,.int .i64 e.n),(b,2,.bool e.write)]
theorem zmg(h:zb w tag q x)(wf:WF x)(f:Nat)(e:Ent)(he:e.ok=true):
  Calls Tryz.prog 76 #[ptrV q.sp,.int .i64 f,entV e] w fun r w'=>r=.returned (.tuple #[])∧∃tag',zb w' tag' q (x.vg (x.B f) e)∧Step CA tag w tag' w':=by
 obtain⟨w0,hw0⟩:∃w0,w0=w.alloc (.cells #[.int .i64 e.kind,.int .i64 e.n,.bool e.write] 70 (0,0)):=⟨_,rfl⟩
 have hb0:Below w.heap.size w w0:=by rw[hw0];exact(Below.refl w.heap.size w).alloc (Nat.le_refl _) _
 have nb1:w0.heap[w.heap.size]?=some (.cells #[.int .i64 e.kind,.int .i64 e.n,.bool e.write] 70 (0,0)):=by
  rw[hw0];exact heap_alloc_new w _
 obtain⟨L0,s0⟩:=h.loc0.more hb0 (entL w.heap.size e) (fun t ht=>by
  simp[entL]at ht
  rcases ht with rfl|rfl|rfl
  ·exact⟨Nat.le_refl _,zq nb1 0 rfl⟩
  ·exact⟨Nat.le_refl _,zq nb1 1 rfl⟩
  ·exact⟨Nat.le_refl _,zq nb1 2 rfl⟩)
 obtain⟨tag0,ht0⟩:∃tag0,tag0=retag tag w 0:=⟨_,rfl⟩
 rw[List.append_nil]at L0
 rw[←ht0]at L0 s0
 clear ht0 nb1 hb0
 obtain⟨l,hl⟩:∃l,l=x.B f:=⟨_,rfl⟩
 have hin:∀p∈l,InR p:=by rw[hl];exact(wf.back (f:Int)).2
 have hlen:l.length≤32768:=by rw[hl];exact jk (wf.back (f:Int)).1 (wf.back (f:Int)).2
 have g3:w0.cell? ⟨q.sp,3,none⟩=some (.pointer (some ⟨q.bp,0,none⟩)):=L0.cell (i:=3) (by omega)
 have OF:Hid (Calls Tryz.prog 87 #[.pointer (some ⟨q.bp,0,none⟩),.int .i64 f] w0 fun r w3=>∃a c,r=.returned (.slice a l.length c)∧PlAt w3 (.slice a l.length c) l∧
   Loc w3 (retag tag0 w0 0) q x (entL w.heap.size e)∧Step CA tag w (retag tag0 w0 0) w3∧∀b,(Value.slice a l.length c).ownBlock=some b→w0.heap.size≤b):=by
  have OS:=L0.sp.ofB (f:Int) (by rw[←hl];omega)
  rw[←hl]at OS
  refine OS.mono ?_
  rintro r w3 ⟨a,c,rfl,hp,hb,ho⟩
  obtain⟨L3,s3⟩:=L0.more hb [] (fun t ht=>by cases ht)
  exact⟨a,c,rfl,hp,L3,(s0.trans s3).mono fun _ h=>h.elim,ho⟩
 have HO:=Lib.hid (And.intro h.out wf)
 have HX:=Lib.hid (And.intro hl (And.intro hin hlen))
 have HE:=Lib.hid he
 have HW:=Lib.hid hw0
 rw[←hl]
 clear h L0 s0 hl hin hlen wf hw0 he
 unfold ptrV entV
 rw[HW.out]at g3
 go_enter Tryz.func76,Tryz.ntmps76
 go_wp2_with fail
 rw[←HW.out]
 refine OF.out.mono ?_
 rintro r w3 ⟨a,cc,rfl,hP3,hL3,hS3,hO3⟩
 have H3:=Lib.hid (And.intro hP3 (And.intro hL3 (And.intro hS3 hO3)))
 clear hP3 hL3 hS3 hO3 OF g3
 go_wp2_with fail
 go_loopw [15] (fun iv W=>∃(i:Nat) (tag':Nat→Nat),i≤l.length∧iv=.int .i64 i∧Loc W tag' q (x.vg (l.take i) e) (entL w.heap.size e)∧Step CA tag w tag' W∧PlAt W (.slice a l.length cc) l∧∀b,(Value.slice a l.length cc).ownBlock=some b→tag' b=0) (fun iv _=>l.length-(intOf iv).toNat)
 case atStart=>
  exact⟨0,_,by omega,rfl,H3.out.2.1,H3.out.2.2.1,H3.out.1,fun b hb=>zz _ _ _ _ (H3.out.2.2.2 b hb)⟩
 case round=>
  obtain⟨i,tg,hi,rfl,hLoc,hSt,hPl,hOw⟩:=hrel
  by_cases hlt:i<l.length
  ·obtain⟨p,hp⟩:∃p,l[i]?=some p:=⟨l[i],List.getElem?_eq_getElem hlt⟩
   have hpos:0<(pl l).length:=by have:=hPl.1;omega
   obtain⟨pb,poff,pc,epv,_,_,_⟩:=SlAt.cells hPl hpos
   cases epv
   have hpe:p=l[i]:=by rw[List.getElem?_eq_getElem hlt]at hp;exact(Option.some.inj hp).symm
   obtain⟨k0,k1⟩:=PlAt.cell hPl i hlt
   rw[←hpe]at k0 k1
   obtain⟨pe,pn,ppg⟩:=(HX.out.2.1 p (List.mem_of_getElem? hp)).plc
   have p1:p.1=(p.1.toNat:Int):=congrArg Prod.fst pe
   have p2:p.2=(p.2.toNat:Int):=congrArg Prod.snd pe
   have g0:wr.cell? ⟨w.heap.size,0,none⟩=some (.int .i64 e.kind):=hLoc.get 0 rfl
   have g1:wr.cell? ⟨w.heap.size,1,none⟩=some (.int .i64 e.n):=hLoc.get 1 rfl
   have g2:wr.cell? ⟨w.heap.size,2,none⟩=some (.bool e.write):=hLoc.get 2 rfl
   have ga:∀o,(wr.alloc o).cell? ⟨w.heap.size,0,none⟩=some (.int .i64 e.kind):=fun o=>(World.cell?_alloc_lt _ _ _ (World.block_lt_of_cell? wr _ g0)).trans g0
   have gb:∀o,(wr.alloc o).cell? ⟨w.heap.size,1,none⟩=some (.int .i64 e.n):=fun o=>(World.cell?_alloc_lt _ _ _ (World.block_lt_of_cell? wr _ g1)).trans g1
   have gc:∀o,(wr.alloc o).cell? ⟨w.heap.size,2,none⟩=some (.bool e.write):=fun o=>(World.cell?_alloc_lt _ _ _ (World.block_lt_of_cell? wr _ g2)).trans g2
   obtain⟨W2,hW2⟩:∃W2,W2=wr.alloc (.cells #[.int .i64 p.1,.int .i64 p.2] 58):=⟨_,rfl⟩
   have hbW:Below wr.heap.size wr W2:=by rw[hW2];exact(Below.refl _ _).alloc (Nat.le_refl _) _
   have wfz:=HO.out.2.vg HO.out.1 (l.take i) (fun q hq=>HX.out.2.1 q (List.mem_of_mem_take hq)) HE.out
   have PC:Hid (Calls Tryz.prog 88 #[.pointer (some ⟨q.sp,0,none⟩),.agg #[.int .i64 p.1,.int .i64 p.2],.agg #[.int .i64 e.kind,.int .i64 e.n,.bool e.write]] W2 fun r w5=>(∃c,r=.returned (.int .i64 c))∧∃tag',Loc w5 tag' q (x.vg (l.take (i+1)) e) (entL w.heap.size e)∧Step CA tag w tag' w5∧PlAt w5 (.slice (some ⟨pb,poff,none⟩) l.length cc) l∧∀b,(Value.slice (some ⟨pb,poff,none⟩) l.length cc).ownBlock=some b→tag' b=0):=by
    obtain⟨L2,s2⟩:=hLoc.more hbW [] (fun t ht=>by cases ht)
    have:=Yf L2.sp wfz.1 p.1.toNat p.2.toNat pn ppg e HE.out
    rw[←p1,←p2]at this
    refine this.mono ?_
    rintro r w5 ⟨rfl,tag5,h5,s5⟩
    have s5':Step CA (retag tg wr 0) W2 tag5 w5:=s5.mono fun c hc=>Uz pn hc
    have L5:=L2.step s5' CA0 h5
    have hOw2:∀b,(Value.slice (some ⟨pb,poff,none⟩) l.length cc).ownBlock=some b→retag tg wr 0 b=0:=fun b hb=>by
     unfold retag
     split
     ·exact hOw b hb
     ·rfl
    have hP2:PlAt W2 (.slice (some ⟨pb,poff,none⟩) l.length cc) l:=SlAt.below hPl hbW
    refine⟨⟨_,rfl⟩,tag5,⟨?_,L5.loc⟩,(hSt.trans (s2.mono fun _ h=>h.elim)).trans s5',SlAt.keep hP2 fun b hb=>(s5'.keeps CA0 b (SlAt.lt hP2 b hb) (hOw2 b hb)).2,fun b hb=>(s5'.keeps CA0 b (SlAt.lt hP2 b hb) (hOw2 b hb)).1⟩
    have e1:l.take (i+1)=l.take i++[p]:=by rw[List.take_add_one,hp];rfl
    rw[e1,Q4]
    exact L5.sp
   have HWW:=Lib.hid hW2
   have i1:(i:Int)<l.length:=by omega
   have i2:(0:Int)≤i:=by omega
   have HLT:=Lib.hid (And.intro hlt (And.intro hi HX.out.2.2))
   clear hLoc hSt hPl hOw hpos pe pn ppg p1 p2 hbW wfz hW2 hlt hi hpe hp H3
   go_wp2_with fail
   rw[←HWW.out]
   refine PC.out.mono ?_
   rintro r w5 ⟨⟨c,rfl⟩,h5⟩
   have H5:=Lib.hid h5
   clear h5 PC g0 g1 g2 k0 k1 ga gb gc
   have d5:IntKind.i64.wrap ((i:Int)+1)=i+1:=by have:=HLT.out;simp[IntKind.wrap,IntKind.bits,IntKind.signed];omega
   clear i1 i2
   go_wp2_with fail
   go_roundw
   case rel=>
    obtain⟨tag',a1,a2,a3,a4⟩:=H5.out
    exact⟨i+1,tag',HLT.out.1,by go_num,a1,a2,a3,a4⟩
   case measure=>have:=HLT.out.1;simp[intOf];omega
  ·obtain rfl:i=l.length:=by omega
   have H5:=Lib.hid (And.intro hLoc hSt)
   clear hLoc hSt hPl hOw H3
   go_wp2_with fail
   refine bodyPost_end (v:=.tuple #[]) (by simp[results,Tryz.results76,go_sem]) rfl ⟨rfl,tg,?_,H5.out.2⟩
   have:=H5.out.1.sp
   rw[List.take_length]at this
   exact this
end
section
variable {F:Nat→Prop}{x y:za}
theorem V4:∀(L:List (List (Int×Int))) (i:Nat),(∃k,Zm L i=some (i+k)∧k<L.length∧L.getD k []=[])∨Zm L i=none∧∀l∈L,l≠[]
 | [],i=>.inr ⟨rfl,fun l hl=>by cases hl⟩
 | a::L,i=>by
  unfold Zm
  by_cases h:a=[]
  ·rw[if_pos h]
   exact .inl ⟨0,rfl,by simp,by simp[h]⟩
  ·rw[if_neg h]
   rcases V4 L (i+1)with⟨k,h1,h2,h3⟩|⟨h1,h2⟩
   ·exact .inl ⟨k+1,by rw[h1];congr 1;omega,by simp;omega,by simpa using h3⟩
   ·refine .inr ⟨h1,fun l hl=>?_⟩
    rcases List.mem_cons.1 hl with rfl|hl
    ·exact h
    ·exact h2 l hl
theorem Qv(L:List (List (Int×Int))):(∃k:Nat,Xf L=((k:Int),true)∧k<L.length∧L.getD k []=[])∨Xf L=(0,false)∧∀l∈L,l≠[]:=by
 unfold Xf
 rcases V4 L 0 with⟨k,h1,h2,h3⟩|⟨h1,h2⟩
 ·rw[h1]
  exact .inl ⟨k,by simp,h2,h3⟩
 ·rw[h1]
  exact .inr ⟨rfl,h2⟩
theorem OK.disk(h:OK F x)(D:zw)(hD:∀s,s<192→(D.cur s).length=64):OK F {x with D:=D}:=
 ⟨h.wf.disk D hD,h.backE,h.slotE,h.useB,h.anon,h.table,h.cached,h.cacheE,h.cacheK,fun n pr page a b=>⟨(h.area n pr page a b).find,(h.area n pr page a b).own,(h.area n pr page a b).file,(h.area n pr page a b).shared,(h.area n pr page a b).slot⟩⟩
theorem Ok0.disk(h:Ok0 x)(D:zw)(hD:∀s,s<192→(D.cur s).length=64):Ok0 {x with D:=D}:=⟨h.ok.disk D hD,h.out⟩
def Abs.zhw(X:Abs)(s:Nat)(l:List UInt8):Abs:={X with cur:=fun t=>if t=s then l else X.cur t}
theorem zb0(D:zw)(s:Nat)(l:List UInt8)(t:Nat):(D.write s l).cur t=if t=s then l else D.cur t:=by
 unfold zw.write zw.cur
 dsimp only
 split
 ·rfl
 ·rfl
theorem wr_D(x:za)(s:Nat)(l:List UInt8):x.D.work.2=0→∀t,(x.wr s l).D.cur t=if t=s then l else x.D.cur t:=fun hw t=>by
 unfold za.wr
 rw[if_pos hw]
 show(x.D.work.1.write s l).cur t=_
 rw[zb0,zw.Xr]
theorem WF.wr(h:WF x)(s:Nat){l:List UInt8}(hl:l.length=64):WF (x.wr s l):=by
 unfold za.wr
 refine h.disk _ fun t ht=>?_
 split
 ·rw[zb0,zw.Xr]
  split
  ·exact hl
  ·exact h.secs t ht
 ·rw[zw.Xr];exact h.secs t ht
structure OutD(x:za)(f k:Nat)(y:za):Prop where
 ok:Ok0 y
 abs:y.abs=x.abs.zhw (160+k) (x.R.read f 0 64)
 keeps:uw 0 x y
 free:y.P.use f=1
 fr:∀g,x.P.use g=1→y.P.use g=1
 others:∀g,g≠f→x.P.use g≠1→x.P.use g≠2→y.P.use g=x.P.use g
 ent:∀m pg,pg<4096→y.ent m pg=if plc m pg∈x.B f then⟨2,(k:Int),false⟩else x.ent m pg
 slot:∀j,j<32→y.S.getD j []=if j=k then x.B f else x.S.getD j []
 disk:y.D=x.D.work.1.write (160+k) (x.R.read f 0 64)
 cache:y.CL=x.CL∧y.CR=x.CR
 backs:∀g:Nat,g<1024→y.B g=if g=f then []else x.B g
theorem Ok0.outF(h:Ok0 x){n page f:Nat}(hn:n<8)(hpg:page<4096)(he:(x.ent n page).kind=1)(hf:(x.ent n page).n=f)(hu:x.P.use f=3){k:Nat}(hk:Xf x.S=((k:Int),true))(hk32:k<32)(hS:x.S.getD k []=[])(hw:x.D.work.2=0):
  (x.outF n page).1=0∧OutD x f k (x.outF n page).2:=by
 have hf1:f<1024:=by
  obtain⟨g,e1,e2,_⟩:=h.ok.frame hn hpg he
  omega
 have hlen:(x.R.read f 0 64).length=64:=za9 ..
 have e0:x.outF n page=(0,(x.wr (160+k) (x.R.read f 0 64)).vg (x.B f) ⟨2,(k:Int),false⟩):=by
  unfold za.outF
  rw[if_neg (by omega),hk,if_neg (by simp),if_pos hw,hf]
  simp
 rw[e0]
 refine⟨rfl,?_⟩
 dsimp only
 have hcur:=wr_D x (160+k) (x.R.read f 0 64) hw
 have eW:x.wr (160+k) (x.R.read f 0 64)={x with D:=x.D.work.1.write (160+k) (x.R.read f 0 64)}:=by unfold za.wr;rw[if_pos hw]
 have ok1:Ok0 (x.wr (160+k) (x.R.read f 0 64)):=by
  rw[eW]at hcur⊢
  refine h.disk _ fun s hs=>?_
  have:=hcur s
  dsimp only at this
  rw[this]
  split
  ·exact hlen
  ·exact h.ok.wf.secs s hs
 have d:=ok1.ok.away (f0:=f) ok1.out hf1 (e:=⟨2,(k:Int),false⟩) (by simp[Ent.ok,most];omega) (by show(2:Nat)≠1;omega) (fun _=>by rw[eW];exact hu)
 have pvx:∀m pg,m<8→pg<4096→(x.wr (160+k) (x.R.read f 0 64)).pv m pg=x.pv m pg:=fun m pg hm hp=>by
  refine Y1 h.ok m pg hm hp (by rw[eW]) (by rw[eW];rfl) (fun _=>by rw[eW]) (fun k2=>?_) fun _ _ _ _ _=>by rw[eW]
  rw[hcur,if_neg]
  intro z
  have hr:=(Ent.ok_n (h.ok.wf.Zc m hp)).2 k2
  have:=(h.ok.slotE k m pg hk32 hm hp).2 ⟨k2,by omega⟩
  rw[hS]at this;cases this
 have fx:∀q,uz q→(x.wr (160+k) (x.R.read f 0 64)).Zr q=x.Zr q:=fun q hq=>by
  refine jq h.ok q (by rw[eW]) ?_ fun _ _ _ _ _=>by rw[eW]
  rw[hcur,if_neg]
  unfold za.vk
  unfold uz at hq
  omega
 obtain⟨x1,hx1⟩:∃x1,x1=x.wr (160+k) (x.R.read f 0 64):=⟨_,rfl⟩
 rw[←hx1]at d ok1 hcur pvx fx⊢
 have q1:x1.B=x.B∧x1.P=x.P∧x1.T=x.T∧x1.CL=x.CL∧x1.CR=x.CR∧x1.S=x.S∧x1.R=x.R∧x1.D=x.D.work.1.write (160+k) (x.R.read f 0 64):=by rw[hx1,eW];exact⟨rfl,rfl,rfl,rfl,rfl,rfl,rfl,rfl⟩
 have qe:∀m pg,x1.ent m pg=x.ent m pg:=fun m pg=>by rw[hx1,eW];rfl
 have qd:∀q,x1.uh q=x.uh q:=fun q=>by unfold za.uh;rw[q1.2.2.2.1]
 clear hx1 eW e0
 obtain⟨qB,qP,qT,qC,qR,qS,qM,qD⟩:=q1
 rw[qB]at d
 obtain⟨y,hy⟩:∃y,y=x1.vg (x.B f) ⟨2,(k:Int),false⟩:=⟨_,rfl⟩
 rw[←hy]at d⊢
 clear hy
 have dm:=d.many
 rw[qB]at dm
 have hmem:∀m pg,pg<4096→plc m pg∈x.B f→m<8:=fun m pg hq hm=>by
  have:=(h.ok.wf.back f).2 _ hm
  unfold InR plc at this
  dsimp only at this
  omega
 have hin:plc n page∈x.B f:=(h.ok.backE f n page hf1 hn hpg).2 ⟨he,hf⟩
 have hcr:getL x.CR (f:Int)=none:=by
  cases hc:getL x.CR (f:Int)with
  | none=>rfl
  | some _=>have:=(h.ok.cached f hf1).2 (by rw[hc];rfl);omega
 have hout:∀m,8≤m→y.T m=none:=fun m hm=>by
  have:=dm.procs m
  rw[qT,h.out m hm]at this
  simpa using this
 have yD:y.D=x.D.work.1.write (160+k) (x.R.read f 0 64):=dm.keep.1.trans qD
 have ycur:∀t,y.D.cur t=if t=160+k then x.R.read f 0 64 else x.D.cur t:=fun t=>by rw[dm.keep.1];exact hcur t
 refine⟨⟨d.ok,hout⟩,?_,?_,?_,fun g hg=>dm.fr g (by rw[qP];exact hg),fun g hne g1 g2=>?_,fun m pg hq=>by rw[dm.ent m pg hq,qe],fun j hj=>?_,yD,⟨dm.keep.2.1.trans qC,dm.keep.2.2.trans qR⟩,fun g hg=>?_⟩
 ·unfold za.abs Abs.zhw
  rw[Abs.mk.injEq]
  refine⟨funext fun m=>by rw[dm.procs m,qT],?_,?_,funext fun q=>by rw[d.uh,qd],funext fun t=>ycur t⟩
  ·funext m pg
   dsimp only
   by_cases hq:pg<4096
   ·rw[if_pos hq,if_pos hq]
    by_cases hm:plc m pg∈x.B f
    ·have h8:=hmem m pg hq hm
     have hE:=(h.ok.backE f m pg hf1 h8 hq).1 hm
     obtain⟨pr,hpr⟩:∃pr,x.T m=some pr:=by
      cases hT:x.T m with
      | none=>rw[Yk hT]at hE;exact absurd hE.1 (by decide)
      | some pr=>exact⟨pr,rfl⟩
     obtain⟨a,ha⟩:=(h.ok.area m pr pg hpr hq).find (by omega)
     obtain⟨p1,p2⟩:=d.here m pg hq (by rw[qB];exact hm) pr a (by rw[qT];exact hpr) ha
     rw[qR,hcr,if_pos rfl,qM]at p2
     rw[p1,←pvx m pg h8 hq,p2]
     unfold za.pv1
     rw[if_neg (by simp),if_pos rfl]
     simp only[Int.toNat_natCast]
     rw[ycur,if_pos rfl]
    ·by_cases h8:m<8
     ·rw[d.pv m pg hq (by rw[qB];exact hm) (fun _=>dm.keep.1▸rfl),pvx m pg h8 hq]
     ·unfold za.pv
      rw[hout m (by omega),h.out m (by omega)]
   ·rw[if_neg hq,if_neg hq]
  ·funext q
   dsimp only
   by_cases hq:uz q
   ·rw[if_pos hq,if_pos hq,d.file,fx q hq]
   ·rw[if_neg hq,if_neg hq]
 ·have:=dm.keeps
  exact⟨by rw[←qP];exact this.zone,by rw[←qP];exact this.room,by rw[←qM];exact this.bad,fun g v hv=>by rw[←qP];exact this.fix g v hv,fun m=>by rw[←qT];exact this.some m⟩
 ·rw[dm.use f (by rw[qP];omega) (by rw[qP];omega),if_pos ⟨rfl,by rw[qP];exact hu,(fun z=>by rw[z]at hin;cases hin),d.nobody⟩]
 ·rw[dm.use g (by rw[qP];exact g1) (by rw[qP];exact g2),if_neg fun z=>hne z.1,qP]
 ·refine x9 (uj d.ok.wf.slots j).1 ?_ ?_
  ·split
   ·exact(h.ok.wf.back f).1
   ·exact(uj h.ok.wf.slots j).1
  ·refine(List.perm_ext_iff_of_nodup (uj d.ok.wf.slots j).1.nodup ?_).2 fun q=>?_
   ·split
    ·exact(h.ok.wf.back f).1.nodup
    ·exact(uj h.ok.wf.slots j).1.nodup
   ·rw[dm.memS j q hj,qS]
    by_cases ej:j=k
    ·rw[if_pos ej,ej,hS]
     split
     ·rename_i z;exact⟨fun _=>z,fun _=>⟨rfl,rfl⟩⟩
     ·rename_i z;exact⟨fun a=>(by cases a),fun a=>absurd a z⟩
    ·rw[if_neg ej]
     split
     ·rename_i z
      refine⟨fun a=>absurd a.2 (by dsimp only;omega),fun a=>absurd a ((h.ok.zn6 hf1 q z).noS j hj)⟩
     ·exact Iff.rfl
 ·by_cases e:g=f
  ·rw[if_pos e,e];exact d.nobody
  ·rw[if_neg e,d.others g hg e,qB]
end
section
variable {w w':World}{tag tag':Nat→Nat}{q:Sq}{x:za}
def keyL(b:Nat)(k:Int×Int):List (Nat×Nat×Value):=[(b,0,.int .i64 k.1),(b,1,.int .i64 k.2)]
end
section
variable {w w':World}{tag tag':Nat→Nat}{q:Sq}{x:za}
theorem zhv(h:zb w tag q x)(wf:WF x)(n page:Nat)(hn:n<8){pr:yg}(hp:x.T n=some pr)(hpg:page<4096)(e:Ent)(he:e.ok=true):
  Calls Tryz.prog 140 #[ptrV (q.U n).tp,.int .i64 page,entV e] w fun r w'=>r=.returned (.int .i64 (x.setF n page e).1)∧∃tag',zb w' tag' q (x.setF n page e).2∧Step (CP n) tag w tag' w':=by
 obtain⟨N,ok⟩:=wf.rpt n pr hp
 have e0:x.setF n page e=(((⟨x.R,x.P,pr.T⟩:RPT).set page e).1,x.yu n pr ((⟨x.R,x.P,pr.T⟩:RPT).set page e).2):=by unfold za.setF;rw[hp]
 rw[e0]
 refine(zbs _ _ _ _ _ (h.rpt hn hp) ok page page rfl hpg e he).mono ?_
 rintro r w1 ⟨rfl,tag1,h1,s1⟩
 exact⟨rfl,tag1,h.zn3 hn hp s1 h1,s1.mono fun c hc=>by unfold C3 Sq.rq at hc;unfold CP;dsimp only at hc;omega⟩
theorem zek(h:zb w tag q x)(wf:WF x)(n m page:Nat)(hn:n<8)(hm:m<8){pr pm:yg}(hp:x.T n=some pr)(hpm:x.T m=some pm)(hnm:n≠m)(hpg:page<4096)(a2:Value):
  Calls Tryz.prog 110 #[ptrV q.sp,ptrV (q.U n).ap,a2,.int .i64 page,.agg #[.int .i64 m,.int .i64 page]] w fun r w'=>r=.returned (.int .i64 (x.Vj n m page).1)∧∃tag',zb w' tag' q (x.Vj n m page).2∧Step CA tag w tag' w':=by
 obtain⟨R,hR⟩:∃R,R=x.Vj n m page:=⟨_,rfl⟩
 rw[←hR]
 obtain⟨w0,hw0⟩:∃w0,w0=w.alloc (.cells #[.int .i64 m,.int .i64 page] 58 (0,0)):=⟨_,rfl⟩
 have hb0:Below w.heap.size w w0:=by rw[hw0];exact(Below.refl w.heap.size w).alloc (Nat.le_refl _) _
 have nb1:w0.heap[w.heap.size]?=some (.cells #[.int .i64 m,.int .i64 page] 58 (0,0)):=by rw[hw0];exact heap_alloc_new w _
 obtain⟨L0,s0⟩:=h.loc0.more hb0 (keyL w.heap.size ((m:Int),(page:Int))) (fun t ht=>by
  simp[keyL]at ht
  rcases ht with rfl|rfl
  ·exact⟨Nat.le_refl _,zq nb1 0 rfl⟩
  ·exact⟨Nat.le_refl _,zq nb1 1 rfl⟩)
 obtain⟨tag0,ht0⟩:∃tag0,tag0=retag tag w 0:=⟨_,rfl⟩
 rw[List.append_nil]at L0
 rw[←ht0]at L0 s0
 have c0:w0.cell? ⟨(q.U n).ap,0,none⟩=some (.pointer (some ⟨(q.U n).tp,0,none⟩)):=L0.mine hn hp
 have GE:=Lib.hid (zer L0.sp wf n page hn hp hpg)
 have hok:=wf.Zc n hpg
 obtain⟨⟨ek,ef,ew⟩,he⟩:∃e,e=x.ent n page:=⟨_,rfl⟩
 rw[←he]at hok GE
 unfold entV at GE
 have HW:=Lib.hid hw0
 have HR:=Lib.hid hR
 have HX:=Lib.hid (And.intro wf (And.intro he (And.intro hok (And.intro hp (And.intro hpm (And.intro hnm (And.intro hpg (And.intro hn hm))))))))
 have H0:=Lib.hid (And.intro L0 s0)
 clear h wf hp hpm hnm hpg hn hm hR he hok L0 s0 nb1 hb0 ht0
 rw[hw0]at c0
 clear hw0
 unfold ptrV at GE⊢
 go_enter Tryz.func110,Tryz.ntmps110
 go_wp2_with fail
 rw[←HW.out]
 refine GE.out.mono ?_
 rintro r w1 ⟨rfl,hb1⟩
 obtain⟨pb,hpb⟩:∃pb,pb=w.heap.size:=⟨_,rfl⟩
 rw[←hpb]at H0⊢
 have L1:=H0.out.1.below hb1
 have s1:Step (fun _=>False) tag w tag0 w1:=H0.out.2.trans (Step.of_below hb1)
 have H1:=Lib.hid (And.intro L1 s1)
 clear GE hb1 L1 s1 c0 hpb
 by_cases hk:ek=0
 ·subst hk
  have LA:=Lib.hid (H1.out.1.more ((Below.refl _ _).alloc (Nat.le_refl _) (.cells #[.int .i64 (0:Nat),.int .i64 ef,.bool ew] 70)) [] (fun t ht=>by cases ht))
  go_wp2_with fail
  have e0:R=(0,x):=by rw[HR.out];unfold za.Vj;rw[if_pos (by rw[←HX.out.2.1])]
  rw[e0]
  exact bodyPost_ret (v:=.int .i64 0) (by simp[results,Tryz.results110,go_sem]) rfl ⟨rfl,_,LA.out.1.sp,(H1.out.2.trans LA.out.2).mono fun _ h=>h.elim⟩
 ·have n1:((ek:Int)==0)=false:=beq_eq_false_iff_ne.2 (by omega)
  have n2:((ek:Int)=0)=False:=eq_false (by omega)
  have nb:=heap_alloc_new w1 (.cells #[.int .i64 ek,.int .i64 ef,.bool false] 70)
  obtain⟨L2,s2⟩:=H1.out.1.more ((Below.refl _ _).alloc (Nat.le_refl _) (.cells #[.int .i64 ek,.int .i64 ef,.bool false] 70)) (entL w1.heap.size ⟨ek,ef,false⟩) (fun t ht=>by
   simp[entL]at ht
   rcases ht with rfl|rfl|rfl
   ·exact⟨Nat.le_refl _,zq nb 0 rfl⟩
   ·exact⟨Nat.le_refl _,zq nb 1 rfl⟩
   ·exact⟨Nat.le_refl _,zq nb 2 rfl⟩)
  have HK:=Lib.hid hk
  have H2:=Lib.hid (And.intro L2 (H1.out.2.trans s2))
  clear L2 s2 hk H1 nb
  have p0:(w1.alloc (.cells #[.int .i64 ek,.int .i64 ef,.bool false] 70)).cell? ⟨pb,0,none⟩=some (.int .i64 m):=H2.out.1.get 3 rfl
  have p1:(w1.alloc (.cells #[.int .i64 ek,.int .i64 ef,.bool false] 70)).cell? ⟨pb,1,none⟩=some (.int .i64 page):=H2.out.1.get 4 rfl
  obtain⟨tag2,ht2⟩:∃tag2,tag2=retag tag0 w1 0:=⟨_,rfl⟩
  rw[←ht2]at H2
  have hro:({kind:=ek,n:=ef,write:=false}:Ent)=(x.ent n page).ro:=by rw[←HX.out.2.1];rfl
  have hrok:({kind:=ek,n:=ef,write:=false}:Ent).ok=true:=by rw[hro];exact znr (by rw[←HX.out.2.1];exact HX.out.2.2.1)
  have PT:=Yf H2.out.1.sp HX.out.1 m page HX.out.2.2.2.2.2.2.2.2 HX.out.2.2.2.2.2.2.1 ⟨ek,ef,false⟩ hrok
  unfold entV at PT
  obtain⟨c,hc⟩:∃c,c=(x.putF m page ⟨ek,ef,false⟩).1:=⟨_,rfl⟩
  obtain⟨y,hy⟩:∃y,y=(x.putF m page ⟨ek,ef,false⟩).2:=⟨_,rfl⟩
  rw[←hc,←hy]at PT
  have e0:R=if c≠0 then(c,y)else if ek=1 then y.setF n page ⟨ek,ef,false⟩else(0,y):=by
   rw[HR.out,hro]
   unfold za.Vj
   rw[if_neg (by rw[←HX.out.2.1];exact HK.out),←hro,←hc,←hy]
   have e1:(x.ent n page).kind=ek:=by rw[←HX.out.2.1]
   rw[e1]
   by_cases z:c=0
   ·rw[if_neg (show ¬(c≠0)by simpa using z),if_neg (show ¬(c≠0)by simpa using z)]
   ·rw[if_pos z,if_pos z]
    exact Prod.ext hc.symm hy.symm
  have dy:=HX.out.1.putF HX.out.2.2.2.2.2.2.2.2 HX.out.2.2.2.2.1 HX.out.2.2.2.2.2.2.1 hrok
  rw[←hc,←hy]at dy
  have HE:=Lib.hid (And.intro e0 (And.intro dy hrok))
  have PTT:=Lib.hid PT
  clear e0 dy hro hrok hc hy PT ht2
  unfold ptrV at PTT
  go_wp2_with fail
  refine PTT.out.mono ?_
  rintro r w5 ⟨rfl,tag5,h5,s5⟩
  have L5:=H2.out.1.step s5 (by unfold CP;omega) h5
  have S5:Step CA tag w tag5 w5:=(H2.out.2.mono fun _ h=>h.elim).trans (s5.mono fun c hc=>Uz HX.out.2.2.2.2.2.2.2.2 hc)
  have H5:=Lib.hid (And.intro L5 S5)
  clear h5 s5 L5 S5 PTT p0 p1
  by_cases hcz:c=0
  ·subst hcz
   have g0:w5.cell? ⟨w1.heap.size,0,none⟩=some (.int .i64 ek):=H5.out.1.get 0 rfl
   by_cases hk1:ek=1
   ·subst hk1
    have g1:w5.cell? ⟨w1.heap.size,1,none⟩=some (.int .i64 ef):=H5.out.1.get 1 rfl
    have g2:w5.cell? ⟨w1.heap.size,2,none⟩=some (.bool false):=H5.out.1.get 2 rfl
    have hyn:y.T n=some pr:=by rw[HE.out.2.1.oth n HX.out.2.2.2.2.2.1];exact HX.out.2.2.2.1
    have g3:w5.cell? ⟨(q.U n).ap,0,none⟩=some (.pointer (some ⟨(q.U n).tp,0,none⟩)):=H5.out.1.mine HX.out.2.2.2.2.2.2.2.1 hyn
    have SF:Hid (Calls Tryz.prog 140 #[.pointer (some ⟨(q.U n).tp,0,none⟩),.int .i64 page,.agg #[.int .i64 1,.int .i64 ef,.bool false]] w5.drew fun r w6=>r=.returned (.int .i64 R.1)∧(w6.cell? ⟨(q.U n).ap,0,none⟩=some (.pointer (some ⟨(q.U n).tp,0,none⟩))∧w6.cell? ⟨w1.heap.size,0,none⟩=some (.int .i64 1)∧w6.cell? ⟨w1.heap.size,1,none⟩=some (.int .i64 ef)∧w6.cell? ⟨w1.heap.size,2,none⟩=some (.bool false))∧∃tag6,zb w6 tag6 q R.2∧Step CA tag w tag6 w6):=by
     have e1:R=y.setF n page ⟨1,ef,false⟩:=by rw[HE.out.1];rw[if_neg (by simp),if_pos rfl]
     have:=zhv H5.out.1.drew.sp HE.out.2.1.wf n page HX.out.2.2.2.2.2.2.2.1 hyn HX.out.2.2.2.2.2.2.1 ⟨1,ef,false⟩ HE.out.2.2
     rw[←e1]at this
     refine this.mono ?_
     rintro r w6 ⟨rfl,tag6,h6,s6⟩
     have L6:=H5.out.1.drew.step s6 (by unfold CP;omega) h6
     have hRn:∃p6,R.2.T n=some p6:=by
      rw[e1]
      unfold za.setF
      rw[hyn]
      exact⟨_,if_pos rfl⟩
     obtain⟨p6,hp6⟩:=hRn
     exact⟨rfl,⟨L6.mine HX.out.2.2.2.2.2.2.2.1 hp6,L6.get 0 rfl,L6.get 1 rfl,L6.get 2 rfl⟩,tag6,h6,(H5.out.2.trans (Step.of_below (Below.refl _ _).drew)).trans (s6.mono fun c hc=>Uz HX.out.2.2.2.2.2.2.2.1 hc)⟩
    clear hyn
    go_wp2_with fail
    go_region_held (fun W'=>W'.cell? ⟨(q.U n).ap,0,none⟩=some (.pointer (some ⟨(q.U n).tp,0,none⟩))∧W'.cell? ⟨w1.heap.size,0,none⟩=some (.int .i64 1)∧W'.cell? ⟨w1.heap.size,1,none⟩=some (.int .i64 ef)∧W'.cell? ⟨w1.heap.size,2,none⟩=some (.bool false)) (go_keep)
     ((go_at_call 140;refine SF.out.mono ?_;rintro r w6 ⟨rfl,⟨m0,m1,m2,m3⟩,HS⟩;have hS:=Lib.hid HS;clear HS))
    clear SF g0 g1 g2 g3 m0 m1 m2 m3
    go_wp2_with fail
    exact bodyPost_ret (v:=.int .i64 R.1) (by simp[results,Tryz.results110,go_sem]) rfl ⟨rfl,hS.out⟩
   ·have n3:((ek:Int)==1)=false:=beq_eq_false_iff_ne.2 (by omega)
    have n4:((ek:Int)=1)=False:=eq_false (by omega)
    have HK1:=Lib.hid hk1
    clear hk1
    go_wp2_with fail
    have e1:R=(0,y):=by rw[HE.out.1];rw[if_neg (by simp),if_neg HK1.out]
    rw[e1]
    exact bodyPost_ret (v:=.int .i64 0) (by simp[results,Tryz.results110,go_sem]) rfl ⟨rfl,tag5,H5.out.1.sp,H5.out.2⟩
  ·have n3:(c==0)=false:=beq_eq_false_iff_ne.2 hcz
   have n4:(c=0)=False:=eq_false hcz
   have HCZ:=Lib.hid hcz
   clear hcz
   go_wp2_with fail
   have e1:R=(c,y):=by rw[HE.out.1,if_pos HCZ.out]
   rw[e1]
   exact bodyPost_ret (v:=.int .i64 c) (by simp[results,Tryz.results110,go_sem]) rfl ⟨rfl,tag5,H5.out.1.sp,H5.out.2⟩
end
section
variable {w w':World}{tag tag':Nat→Nat}{q:Sq}{x:za}
def CFk(m c:Nat):Prop:=CS m c∨CA c
theorem cs20{m:Nat}:∀c,c=20+m→CS m c:=fun c hc=>by unfold CS;omega
theorem CFk0(m:Nat):¬CFk m 0:=by unfold CFk CS CA;omega
def qa(A:List Ar)(i k:Nat):List Nat:=yc (A.take i)++(match A[i]? with|some a=>(List.range k).map fun j=>a.from_.toNat+j|none=>[])
theorem zd5{A:List Ar}{i:Nat}(hi:A.length≤i)(k:Nat):qa A i k=yc A:=by
 unfold qa
 rw[List.take_of_length_le hi,List.getElem?_eq_none hi]
 simp
theorem zcn(A:List Ar):qa A 0 0=[]:=by
 unfold qa
 cases A[0]?<;>simp[yc]
theorem zco{A:List Ar}{i:Nat}{a:Ar}(ha:A[i]?=some a)(k:Nat):qa A i (k+1)=qa A i k++[a.from_.toNat+k]:=by
 unfold qa
 rw[ha]
 dsimp only
 rw[List.range_succ,List.map_append,List.append_assoc]
 rfl
theorem zcp{A:List Ar}{i:Nat}{a:Ar}(ha:A[i]?=some a):qa A i a.pages.toNat=qa A (i+1) 0:=by
 unfold qa
 rw[ha]
 have e:A.take (i+1)=A.take i++[a]:=by rw[List.take_add_one,ha];rfl
 have e2:(match A[i+1]? with|some a=>(List.range 0).map fun j=>a.from_.toNat+j|none=>[])=[]:=by cases A[i+1]?<;>rfl
 rw[e,e2]
 unfold yc
 simp[X8]
theorem zd4{A:List Ar}{i:Nat}{a:Ar}(ha:A[i]?=some a){k:Nat}(hk:k<a.pages.toNat):∃r,yc A=qa A i k++(a.from_.toNat+k)::r:=by
 have e:A=A.take i++a::A.drop (i+1):=by
  have h:=List.getElem?_eq_some_iff.1 ha
  obtain⟨h1,h2⟩:=h
  rw[←h2,List.getElem_cons_drop,List.take_append_drop]
 have e1:yc A=yc (A.take i)++(X8 a++yc (A.drop (i+1))):=by
  conv=>lhs;rw[e]
  unfold yc
  simp[List.flatMap_append]
 obtain⟨d,hd⟩:∃d,a.pages.toNat=k+1+d:=⟨a.pages.toNat-(k+1),by omega⟩
 have e2:X8 a=(List.range k).map (fun j=>a.from_.toNat+j)++(a.from_.toNat+k)::(List.range d).map (fun j=>a.from_.toNat+(k+1+j)):=by
  unfold X8
  rw[hd,List.range_add,List.range_succ,List.map_append,List.map_append,List.map_map]
  simp[Function.comp_def]
 rw[e1,e2]
 unfold qa
 rw[ha]
 exact⟨(List.range d).map (fun j=>a.from_.toNat+(k+1+j))++yc (A.drop (i+1)),by simp⟩
theorem zhg(w:World)(v:Value)(l:List Ar)(h:ArRd w v l)(hl:l.length≤1000000):
  Calls Tryz.prog 109 #[v] w fun e w'=>∃a c,e=.returned (.slice a l.length c)∧ArAt w' (.slice a l.length c) l∧(∀b,(Value.slice a l.length c).ownBlock=some b→w.heap.size≤b)∧Below w.heap.size w w':=by
 rcases h.form with⟨rfl,rfl⟩|⟨b,off,c,rfl,hc,hm,hb⟩
 ·refine(AnyE.slices_Clone_nil Xv 0 0 w).mono ?_
  rintro e w' ⟨rfl,rfl⟩
  exact⟨_,_,rfl,SlAt.nil w' _ _,by simp[Value.ownBlock],Below.refl _ _⟩
 ·obtain⟨i,hi,hz,hs,hby⟩:=zbn
  have:=AnyE.slices_Clone Xv i _ 6 48 hi hz hs hby (by rfl) (by omega) (fun w=>by kernel_rfl) b off l.length c (ar l) w (uy l) (by unfold maxLen;omega) (by omega) (fun j u hu=>by
   obtain⟨g,off',c',e,_,_,hx⟩:=SlRd.cells h (by have:=(List.getElem?_eq_some_iff.1 hu).1;omega)
   cases e
   exact hx j u hu) (zjx l)
  refine this.mono ?_
  rintro e w' ⟨v',rfl,hown,hne,hB⟩
  have hat:ArAt w' v' l:=Ja hown
  obtain⟨a,c',rfl,_,_⟩:=SlAt.form hat
  refine⟨a,c',rfl,hat,?_,hB⟩
  intro b' hb'
  rcases hown.2 with⟨e,_⟩|⟨g,cap,cur,e,hg,_⟩
  ·exact absurd e hne
  ·cases e;simp[Value.ownBlock]at hb';omega
theorem zdg(h:zb w tag q x)(h0:Ok0 x){n m g:Nat}{pr:yg}(hp:x.T n=some pr)(hm8:m<8)(hm:x.T m=none)(hg:x.P.next false=some g)(hr:1+3*x.has n (yc pr.A)≤x.P.room):
  Calls Tryz.prog 49 #[ptrV q.sp,.int .i64 n,.int .i64 m] w fun r w'=>r=.returned (.int .i64 0)∧∃tag' u,zb w' tag' (q.at_ m u) (x.J5 n m g)∧Step (CFk m) tag w tag' w':=by
 have hn:=h0.ok.Zy h0.out hp
 have hnm:n≠m:=fun e=>by rw[e,hm]at hp;cases hp
 obtain⟨hg1,hav,hgu⟩:=Zo hg
 obtain⟨hA,hA16⟩:=h0.ok.wf.Zg n pr hp
 obtain⟨K1,Kn,Km,KC,KZ,KD⟩:=h0.zod hp hm8 hm hg hr
 have F:=Lib.hid (Za h (n:Int))
 have ev:Ye q x (n:Int)=.tuple #[ptrV (q.U n).ap,.bool true]:=by
  unfold Ye
  rw[show((n:Nat):Int).toNat=n by omega,hp]
  have:(0:Int)≤n:=by omega
  simp[this]
 rw[ev]at F
 have RM:=Lib.hid (zcc h (m:Int))
 have er:x.room (m:Int)=0:=by
  unfold za.room
  rw[if_neg (by omega),show((m:Nat):Int).toNat=m by omega,hm]
  rfl
 rw[er]at RM
 have SPN:=Lib.hid (Ux h m hm8 hm g hg hg1 (h0.ok.wf.je hg1 (by omega)))
 have HK:=Lib.hid (And.intro K1 (And.intro Kn (And.intro Km (And.intro KC (And.intro KZ (And.intro hA hA16))))))
 have HN:=Lib.hid (And.intro hn (And.intro hm8 (And.intro hnm (And.intro hp hm))))
 have HX:Hid (x.Y6 n m g=(x.xh m g).put m ⟨⟨g,[g]⟩,pr.A,[]⟩):=by unfold za.Y6;rw[hp];exact Lib.hid rfl
 have HF:Hid (x.J5 n m g=(x.Y6 n m g).copies n m (yc pr.A)):=by unfold za.J5;rw[hp];exact Lib.hid rfl
 clear K1 Kn Km KC KZ KD hA hA16 ev er hg1 hav hgu hg hr hn hm8 hnm hp hm h0 h
 unfold ptrV at F⊢
 go_enter Tryz.func49,Tryz.ntmps49
 go_wp2_with fail
 refine F.out.mono ?_
 rintro e u ⟨rfl,hu⟩
 have hu:=hu.symm
 subst hu
 clear F
 go_wp2_with fail
 unfold ptrV at RM
 refine RM.out.mono ?_
 rintro e u ⟨rfl,hu⟩
 have hu:=hu.symm
 subst hu
 clear RM
 go_wp2_with fail
 unfold ptrV at SPN
 refine SPN.out.mono ?_
 rintro e w1 ⟨rfl,tag1,u,h1,s1⟩
 have h1:zb w1 tag1 (q.at_ m u) (x.xh m g):=h1
 have q6:=h1.row.cell (i:=6) (by omega)
 dsimp only[Z6]at q6
 have T1n:(x.xh m g).T n=some pr:=by show(if n=m then _ else x.T n)=_;rw[if_neg HN.out.2.2.1];exact HN.out.2.2.2.1
 have T1m:(x.xh m g).T m=some ⟨⟨g,[g]⟩,[],[]⟩:=if_pos rfl
 have Un:(q.at_ m u).U n=q.U n:=if_neg HN.out.2.2.1
 have Um:(q.at_ m u).U m=u:=if_pos rfl
 have lk:=h1.zcr m (by rw[T1m];rfl)
 obtain⟨av,r1,r2,r3⟩:=(h1.procs n pr HN.out.1 T1n).row
 have c1:=r1.cell (i:=1) (by omega)
 dsimp only[Yi]at c1
 obtain⟨va,vc,rfl,hvc,hvm⟩:=SlAt.form r2
 rw[Un]at c1
 rw[Um]at lk
 obtain⟨av2,t1,t2,t3⟩:=(h1.procs m _ HN.out.2.1 T1m).row
 have c2:=t1.cell (i:=1) (by omega)
 dsimp only[Yi]at c2
 have z2:=t1.frozen 1
 rw[Um]at c2 z2
 have CL:=Lib.hid (zhg w1 _ pr.A (SlAt.rd r2) (by have:=HK.out.2.2.2.2.2.2;omega))
 have H1:=Lib.hid (And.intro h1 (And.intro s1 (And.intro r2 (And.intro r3 (And.intro Un Um)))))
 have lts:(q.sp<w1.heap.size∧(q.U n).ap<w1.heap.size∧u.ap<w1.heap.size):=⟨World.block_lt_of_cell? _ _ q6,World.block_lt_of_cell? _ _ c1,World.block_lt_of_cell? _ _ c2⟩
 have HL:=Lib.hid lts
 have q6:w1.cell? ⟨q.sp,6,none⟩=some (.map (some q.pm)):=q6
 have lk:(Instr.lookup 53 (.map (some q.pm)) (.int .i64 m) false).run Tryz.prog w1=.ok (.pointer (some ⟨u.ap,0,none⟩)) w1:=lk
 clear SPN h1 s1 T1n T1m Un Um r1 r2 r3 t1 t2 t3 lts
 go_wp2_with fail
 refine CL.out.mono ?_
 rintro e w2 ⟨a2,c3,rfl,hnew,ho2,hb2⟩
 obtain⟨v3,hv3⟩:∃v3,v3=Value.slice a2 pr.A.length c3:=⟨_,rfl⟩
 rw[←hv3]at hnew ho2
 have T1m:(x.xh m g).T m=some ⟨⟨g,[g]⟩,[],[]⟩:=if_pos rfl
 have K:=H1.out.1.Zg HN.out.2.1 T1m hb2 hnew ho2
 rw[←HX.out,H1.out.2.2.2.2.2]at K
 have T1n:(x.xh m g).T n=some pr:=by show(if n=m then _ else x.T n)=_;rw[if_neg HN.out.2.2.1];exact HN.out.2.2.2.1
 have o1:=(H1.out.1.procs n pr HN.out.1 T1n).own
 have o2:=(H1.out.1.procs m _ HN.out.2.1 T1m).own
 rw[H1.out.2.2.2.2.1]at o1
 rw[H1.out.2.2.2.2.2]at o2
 have ne:¬(q.U n).ap=u.ap:=fun e=>by rw[e]at o1;have:=HN.out.2.2.1;omega
 have ne':¬u.ap=(q.U n).ap:=fun e=>ne e.symm
 have kk:∀b,b≠u.ap→(w2.setCell ⟨u.ap,1,none⟩ v3).heap[b]?=w2.heap[b]?:=fun b hb=>Below.heap_setCell w2 ⟨u.ap,1,none⟩ v3 b hb
 have c3':(w2.setCell ⟨u.ap,1,none⟩ v3).cell? ⟨(q.U n).ap,1,none⟩=some (.slice va pr.A.length vc):=(World.cell?_of_block (kk _ ne)).trans ((hb2.cell HL.out.2.1).trans c1)
 have z2':w2.frozen? ⟨u.ap,1,none⟩=false:=(xy (a:=⟨u.ap,1,none⟩) (hb2.block _ HL.out.2.2)).trans z2
 have c2':w2.cell? ⟨u.ap,1,none⟩=some av2:=(hb2.cell HL.out.2.2).trans c2
 have hA3:ArAt (w2.setCell ⟨u.ap,1,none⟩ v3) (.slice va pr.A.length vc) pr.A:=SlAt.keep H1.out.2.2.1 fun b hb=>by
  have hne:b≠u.ap:=fun e=>by have:=HN.out.1;have:=HN.out.2.1;have:=H1.out.2.2.2.1 b hb;rw[e]at this;omega
  exact(kk b hne).trans (hb2.block b (SlAt.lt H1.out.2.2.1 b hb))
 have ho3:∀b,(Value.slice va pr.A.length vc).ownBlock=some b→retag tag1 w1 (30+m) b=30+n:=fun b hb=>(if_pos (SlAt.lt H1.out.2.2.1 b hb)).trans (H1.out.2.2.2.1 b hb)
 obtain⟨tag3,ht3⟩:∃tag3,tag3=retag tag1 w1 (30+m):=⟨_,rfl⟩
 rw[←ht3]at K ho3
 have H3:=Lib.hid (And.intro K.1 (And.intro (H1.out.2.1.trans (K.2.mono cs20)) (And.intro hA3 ho3)))
 clear CL hnew ho2 hb2 K T1m T1n o1 o2 kk hA3 ho3 ht3 H1 q6 lk c1 c2 z2
 subst hv3
 go_wp2_with fail
 clear c3' z2' c2' HL
 obtain⟨W0,hW0⟩:∃W0:World,W0=w2.setCell ⟨u.ap,1,none⟩ (Value.slice a2 pr.A.length c3):=⟨_,rfl⟩
 rw[←hW0]at H3⊢
 clear hW0
 obtain⟨N,hN⟩:∃N,N=pr.A.length:=⟨_,rfl⟩
 rw[←hN]at H3⊢ hvc
 have HNL:=Lib.hid hN
 have hN16:N≤16:=by rw[hN];exact HK.out.2.2.2.2.2.2
 clear hN
 go_loopw [55] (fun i wr=>∃(k:Nat) (tg:Nat→Nat),k≤N∧i=.int .i64 k∧zb wr tg (q.at_ m u) ((x.Y6 n m g).copies n m (qa pr.A k 0))∧Step (CFk m) tag w tg wr∧ArAt wr (.slice va N vc) pr.A∧∀b,(Value.slice va N vc).ownBlock=some b→tg b=30+n) (fun i _=>N-(intOf i).toNat)
 case atStart=>exact⟨0,tag3,by omega,rfl,by rw[zcn];exact H3.out.1,H3.out.2.1.mono fun c hc=>.inl hc,H3.out.2.2.1,H3.out.2.2.2⟩
 case round=>
  obtain⟨k,tg,hk,rfl,hS,hst,hA,ho⟩:=hrel
  have H4:=Lib.hid (And.intro hS (And.intro hst (And.intro hA ho)))
  clear hS hst hA ho H3
  by_cases hlt:k<N
  ·have hlt':(k:Int)<N:=by omega
   obtain⟨wo,rfl⟩:∃wo:World,wo=wr:=⟨_,rfl⟩
   obtain⟨y,hy⟩:∃y,pr.A[k]?=some y:=⟨_,List.getElem?_eq_getElem (by rw[←HNL.out];exact hlt)⟩
   obtain⟨y1,y2,y3,y4,y5,y6,y7⟩:=HK.out.2.2.2.2.2.1.1 y (List.mem_of_getElem? hy)
   obtain⟨f,p,wt,kd,fi,o⟩:=y
   dsimp only at y1 y2 y3 y4 y5 y6 y7
   obtain⟨F,rfl⟩:∃F:Nat,f=F:=⟨f.toNat,by omega⟩
   obtain⟨M,rfl⟩:∃M:Nat,p=M:=⟨p.toNat,by omega⟩
   have hFM:F+M≤4096:=by omega
   obtain⟨b,off,rfl⟩:=ArRd.addr (l:=pr.A) (SlAt.rd H4.out.2.2.1) (by rw[←HNL.out];omega)
   have hRD:ArRd wo (.slice (some ⟨b,off,none⟩) N vc) pr.A:=by have:=SlAt.rd H4.out.2.2.1;rw[←HNL.out]at this;unfold ArRd;rw[←HNL.out];exact this
   obtain⟨e0,e1,e2,e3,e4,e5⟩:=hRD.cell hy
   dsimp only at e0 e1 e2 e3 e4 e5
   have HY:=Lib.hid (And.intro hy hFM)
   clear hy y1 y2 y3 y4 y5 y6 y7 hRD
   have L0:Loc wo tg (q.at_ m u) ((x.Y6 n m g).copies n m (qa pr.A k 0)) []:=H4.out.1.loc0
   have nb:=heap_alloc_new wo (.cells #[.int .i64 F,.int .i64 M,.bool wt,.int .i64 kd,.int .i64 fi,.int .i64 o] 32)
   have hbA:Below wo.heap.size wo (wo.alloc (.cells #[.int .i64 F,.int .i64 M,.bool wt,.int .i64 kd,.int .i64 fi,.int .i64 o] 32)):=(Below.refl _ _).alloc (Nat.le_refl _) _
   obtain⟨L2,s2⟩:=L0.more hbA (keyL wo.heap.size ((F:Int),(M:Int))) (fun t ht=>by
    simp[keyL]at ht
    rcases ht with rfl|rfl
    ·exact⟨Nat.le_refl _,zq nb 0 rfl⟩
    ·exact⟨Nat.le_refl _,zq nb 1 rfl⟩)
   rw[List.append_nil]at L2
   have g0:(wo.alloc (.cells #[.int .i64 F,.int .i64 M,.bool wt,.int .i64 kd,.int .i64 fi,.int .i64 o] 32)).cell? ⟨wo.heap.size,0,none⟩=some (.int .i64 F):=L2.get 0 rfl
   have hA2:ArAt (wo.alloc (.cells #[.int .i64 F,.int .i64 M,.bool wt,.int .i64 kd,.int .i64 fi,.int .i64 o] 32)) (.slice (some ⟨b,off,none⟩) N vc) pr.A:=SlAt.keep H4.out.2.2.1 fun b hb=>hbA.block b (SlAt.lt H4.out.2.2.1 b hb)
   have ho2:∀b',(Value.slice (some ⟨b,off,none⟩) N vc).ownBlock=some b'→retag tg wo 0 b'=30+n:=fun b hb=>(if_pos (SlAt.lt H4.out.2.2.1 b hb)).trans (H4.out.2.2.2 b hb)
   have H5:=Lib.hid (And.intro L2 (And.intro (H4.out.2.1.trans (s2.mono fun _ h=>h.elim)) (And.intro hA2 ho2)))
   clear L0 nb hbA L2 s2 hA2 ho2 H4
   go_wp2_with fail
   clear e0 e1 e2 e3 e4 e5 g0
   go_loopw [14] (fun pv wq=>∃(j:Nat) (tg:Nat→Nat),j≤M∧pv=.int .i64 ((F:Int)+(j:Int))∧Loc wq tg (q.at_ m u) ((x.Y6 n m g).copies n m (qa pr.A k j)) (keyL wo.heap.size ((F:Int),(M:Int)))∧Step (CFk m) tag w tg wq∧ArAt wq (.slice (some ⟨b,off,none⟩) N vc) pr.A∧∀b',(Value.slice (some ⟨b,off,none⟩) N vc).ownBlock=some b'→tg b'=30+n) (fun pv _=>8192-(intOf pv).toNat)
   case atStart=>exact⟨0,_,by omega,by simp,H5.out.1,H5.out.2.1,H5.out.2.2.1,H5.out.2.2.2⟩
   case round=>
    obtain⟨j,tj,hj,rfl,hL,hst,hA,ho⟩:=hrel
    have H6:=Lib.hid (And.intro hL (And.intro hst (And.intro hA ho)))
    have g0:wr.cell? ⟨wo.heap.size,0,none⟩=some (.int .i64 F):=hL.get 0 rfl
    have g1:wr.cell? ⟨wo.heap.size,1,none⟩=some (.int .i64 M):=hL.get 1 rfl
    clear hL hst hA ho H5
    by_cases hjm:j<M
    ·have hjm':(F:Int)+(j:Int)<(F:Int)+(M:Int):=by omega
     obtain⟨r',hpre⟩:=zd4 HY.out.1 (k:=j) (by dsimp only;omega)
     obtain⟨KO,⟨Tn,hTn⟩,Tm,hTm⟩:=HK.out.2.2.2.1 (qa pr.A k j) ⟨_,hpre⟩
     have hc0:=HK.out.2.2.2.2.1 _ _ _ hpre
     have epg:(⟨(F:Int),(M:Int),wt,kd,fi,o⟩:Ar).from_.toNat+j=F+j:=by simp
     rw[epg]at hc0
     have CW:=zek H6.out.1.sp KO.ok.wf n m (F+j) HN.out.1 HN.out.2.1 hTn hTm HN.out.2.2.1 (by have:=HY.out.2;omega) (.pointer (some ⟨u.ap,0,none⟩))
     rw[hc0,←Jo]at CW
     have est:=zco HY.out.1 j
     rw[epg]at est
     rw[←est,Int.natCast_add]at CW
     have eU:(q.at_ m u).U n=q.U n:=if_neg HN.out.2.2.1
     rw[eU]at CW
     have CW:Hid (Calls Tryz.prog 110 #[.pointer (some ⟨q.sp,0,none⟩),.pointer (some ⟨(q.U n).ap,0,none⟩),.pointer (some ⟨u.ap,0,none⟩),.int .i64 ((F:Int)+(j:Int)),.agg #[.int .i64 m,.int .i64 ((F:Int)+(j:Int))]] wr fun r w'=>r=.returned (.int .i64 0)∧∃tag',zb w' tag' (q.at_ m u) ((x.Y6 n m g).copies n m (qa pr.A k (j+1)))∧Step CA tj wr tag' w'):=CW
     clear KO hTn hTm hc0 epg est eU hpre
     go_wp2_with fail
     refine CW.out.mono ?_
     rintro r w5 ⟨rfl,tag5,h5,s5⟩
     have L7:=H6.out.1.step s5 CA0 h5
     have hA7:ArAt w5 (.slice (some ⟨b,off,none⟩) N vc) pr.A:=SlAt.keep H6.out.2.2.1 fun b hb=>(s5.keeps (c:=30+n) (by unfold CA;omega) b (SlAt.lt H6.out.2.2.1 b hb) (H6.out.2.2.2 b hb)).2
     have ho7:∀b',(Value.slice (some ⟨b,off,none⟩) N vc).ownBlock=some b'→tag5 b'=30+n:=fun b hb=>(s5.keeps (c:=30+n) (by unfold CA;omega) b (SlAt.lt H6.out.2.2.1 b hb) (H6.out.2.2.2 b hb)).1
     have H7:=Lib.hid (And.intro L7 (And.intro (H6.out.2.1.trans (s5.mono fun c hc=>.inr hc)) (And.intro hA7 ho7)))
     clear L7 hA7 ho7 h5 s5 CW g0 g1 H6
     go_wp2_with fail
     go_roundw
     case rel=>exact⟨j+1,tag5,by omega,by go_num,H7.out⟩
     case measure=>simp[intOf];have:=HY.out.2;omega
    ·obtain rfl:j=M:=by omega
     have hjm':¬(F:Int)+(j:Int)<(F:Int)+(j:Int):=by omega
     go_wp2_with fail
     go_roundw
     case rel=>exact⟨k+1,tj,by omega,by go_num,by have:=zcp HY.out.1;rw[←this];exact H6.out.1.sp,H6.out.2⟩
     case measure=>simp[intOf];omega
  ·obtain rfl:k=N:=by omega
   have e0:x.J5 n m g=(x.Y6 n m g).copies n m (qa pr.A k 0):=by rw[HF.out,zd5 (by rw[HNL.out];exact Nat.le_refl _)]
   have HE:=Lib.hid e0
   clear e0
   go_wp2_with fail
   rw[HE.out]
   exact bodyPost_ret (v:=.int .i64 0) (by simp[results,Tryz.results49,go_sem]) rfl ⟨rfl,tg,u,H4.out.1,H4.out.2.1⟩
end
structure AtQ(w0:World)(V:List (Value×List Value))(q:Sq)(x:za)(w:World):Prop where
 st:∃tag,zb w tag q x∧(∀b,b<w0.heap.size→tag b=0)∧(∀p∈V,SlRd w 1 p.1 p.2.length p.2∧∀b,p.1.ownBlock=some b→tag b=0)
 bel:Below w0.heap.size w0 w
section
variable {w0 w w':World}{V:List (Value×List Value)}{q:Sq}{x:za}{C:Nat→Prop}
theorem AtQ.go(h:AtQ w0 V q x w)(hC:¬C 0){F:Nat}{args:Array Value}{P:Ending→Prop}{y:za}
  (k:∀tag,zb w tag q x→Calls Tryz.prog F args w fun e w'=>P e∧∃tag',zb w' tag' q y∧Step C tag w tag' w'):Calls Tryz.prog F args w fun e w'=>P e∧AtQ w0 V q y w':=by
 obtain⟨⟨tag,hS,low,hV⟩,hb⟩:=h
 refine(k tag hS).mono ?_
 rintro e w1 ⟨he,tag1,h1,s1⟩
 obtain⟨a,b,c⟩:=vw hC s1 hb low hV
 exact⟨he,⟨tag1,h1,a,b⟩,c⟩
theorem AtQ.below(h:AtQ w0 V q x w)(hb:Below w.heap.size w w'):AtQ w0 V q x w':=by
 obtain⟨⟨tag,hS,low,hV⟩,hbel⟩:=h
 have s:Step (fun _=>False) tag w (retag tag w 0) w':=Step.anew hb
 obtain⟨a,b,c⟩:=vw (C:=fun _=>False) (fun h=>h) s hbel low hV
 exact⟨⟨_,hS.step s,a,b⟩,c⟩
theorem AtQ.cells(h:AtQ w0 V q x w)(hb:Below w.heap.size w w'){v:Value}{l:List Value}(hv:SlRd w' 1 v l.length l)(ho:∀b,v.ownBlock=some b→b<w0.heap.size∨w.heap.size≤b):AtQ w0 ((v,l)::V) q x w':=by
 obtain⟨⟨tag,hS,low,hV⟩,hbel⟩:=h
 have s:Step (fun _=>False) tag w (retag tag w 0) w':=Step.anew hb
 obtain⟨a,b,c⟩:=vw (C:=fun _=>False) (fun h=>h) s hbel low hV
 refine⟨⟨_,hS.step s,a,fun p hp=>?_⟩,c⟩
 rcases List.mem_cons.1 hp with rfl|hp
 ·refine⟨hv,fun b hb=>?_⟩
  rcases ho b hb with k|k
  ·exact a b k
  ·exact zz _ _ _ _ k
 ·exact b p hp
theorem AtQ.more(h:AtQ w0 V q x w)(hb:Below w.heap.size w w'){v:Value}{l:List UInt8}(hv:BRd w' v l)(ho:∀b,v.ownBlock=some b→b<w0.heap.size∨w.heap.size≤b):AtQ w0 ((v,bys l)::V) q x w':=h.cells hb (Qb.1 hv) ho
theorem AtQ.kept(h:AtQ w0 V q x w){p:Value×List Value}(hp:p∈V):SlRd w 1 p.1 p.2.length p.2:=by
 obtain⟨⟨tag,hS,low,hV⟩,hbel⟩:=h
 exact(hV p hp).1
theorem AtQ.get(h:AtQ w0 V q x w){v:Value}{l:List UInt8}(hp:(v,bys l)∈V):BRd w v l:=Qb.2 (h.kept hp)
theorem AtQ.arg(h:AtQ w0 V q x w){v:Value}{l:List UInt8}(hv:BRd w0 v l):Has w0 V w v l:=.inr ⟨SlRd.below hv h.bel,fun b hb=>SlRd.lt hv b hb⟩
theorem AtQ.cell(h:AtQ w0 V q x w){i:Nat}(hi:i<7):w.cell? ⟨q.sp,i,none⟩=some (Z6 q i):=by
 obtain⟨⟨tag,hS,_⟩,_⟩:=h
 exact hS.row.cell hi
theorem AtQ.load(h:AtQ w0 V q x w)(ok:Ok0 x){n:Nat}(hn:n<8)(hs:(x.T n).isSome=true)(a s:Int):
  Calls Tryz.prog 20 #[ptrV q.sp,.int .i64 n,.int .i64 a,.int .i64 s] w fun e w'=>∃v,e=.returned (.tuple #[v,.int .i64 (x.Yg n a s).1.2])∧AtQ w0 ((v,bys (x.Yg n a s).1.1)::V) q (x.Yg n a s).2 w':=by
 obtain⟨⟨tag,hS,low,hV⟩,hbel⟩:=h
 refine(At.load' hS ok hn hs a s).mono ?_
 rintro e w1 ⟨v,tag1,rfl,hv,ho,hS1,s1⟩
 obtain⟨a1,b1,c1⟩:=vw CB0 s1 hbel low hV
 refine⟨v,rfl,⟨tag1,hS1,a1,fun p hp=>?_⟩,c1⟩
 rcases List.mem_cons.1 hp with rfl|hp
 ·exact⟨Qb.1 (SlAt.rd hv),ho⟩
 ·exact b1 p hp
theorem AtQ.store(h:AtQ w0 V q x w)(ok:Ok0 x){n:Nat}(hn:n<8)(hs:(x.T n).isSome=true)(a:Nat){v:Value}{l:List UInt8}(hv:Has w0 V w v l)(hr:x.xq n a l.length=0):
  Calls Tryz.prog 19 #[ptrV q.sp,.int .i64 n,.int .i64 a,v] w fun e w'=>e=.returned (.int .i64 (x.Zn n a l).1)∧AtQ w0 V q (x.Zn n a l).2 w':=by
 obtain⟨⟨tag,hS,low,hV⟩,hbel⟩:=h
 obtain⟨h1,h2⟩:=zed hv low hV
 refine(At.store' hS ok hn hs a h1 h2 hr).mono ?_
 rintro e w1 ⟨rfl,tag1,hS1,s1⟩
 obtain⟨a1,b1,c1⟩:=vw CB0 s1 hbel low hV
 exact⟨rfl,⟨tag1,hS1,a1,b1⟩,c1⟩
theorem AtQ.tree(h:AtQ w0 V q x w)(wf:WF x)(n:Nat)(hn:n<8)(hs:(x.T n).isSome=true):
  Calls Tryz.prog 34 #[ptrV q.sp,.int .i64 n] w (fun e w'=>e=.returned (ptrV (q.U n).tp)∧w'=w)∧
   ∀w1,Below w.heap.size w w1→∀page:Nat,page<4096→Calls Tryz.prog 35 #[ptrV (q.U n).tp,.int .i64 page] w1 fun e w2=>e=.returned (.tuple #[entV (x.ent n page),.int .i64 0])∧Below w1.heap.size w1 w2:=by
 obtain⟨⟨tag,hS,_⟩,_⟩:=h
 obtain⟨pr,hp⟩:=Option.isSome_iff_exists.1 hs
 exact⟨zf0 hS n hn hp,fun w1 hb page hpg=>zer (hS.below hb) wf n page hn hp hpg⟩
end
section
variable {w0 w w':World}{V:List (Value×List Value)}{sp r:Nat}{X:Abs}{q:Sq}{x:za}
theorem At.fork{k:Nat}(h:At w0 V sp X (r+(1+3*k)) w)(n m:Nat){A:List Ar}{Q:List (Int×Int)}(hX:X.A n=some (A,Q))(hm:m<8)(hXm:X.A m=none)(hk:(yc A).length≤k):
  Calls Tryz.prog 49 #[ptrV sp,.int .i64 n,.int .i64 m] w fun e w'=>e=.returned (.int .i64 0)∧At w0 V sp (X.fork n m) r w':=by
 obtain⟨⟨x,q,tag,rfl,hS,low,hV,ok,rfl,hr,hc⟩,hbel⟩:=h
 obtain⟨pr,hp,he⟩:=Option.map_eq_some_iff.1 (show(x.T n).map (fun pr=>(pr.A,pr.Q))=some (A,Q)from hX)
 have hA:pr.A=A:=congrArg Prod.fst he
 subst hA
 have hx:x.T m=none:=by
  have:(x.T m).map (fun pr=>(pr.A,pr.Q))=none:=hXm
  simpa using this
 have hle:x.has n (yc pr.A)≤(yc pr.A).length:=List.countP_le_length
 cases hg:x.P.next false with
 | none=>have:=Xk hg;omega
 | some g=>
  have hr2:1+3*x.has n (yc pr.A)≤x.P.room:=by omega
  refine(zdg hS ok hp hm hx hg hr2).mono ?_
  rintro e w1 ⟨rfl,tag1,u,hS1,s1⟩
  obtain⟨a,b,c⟩:=vw (CFk0 m) s1 hbel low hV
  obtain⟨_,_,_,_,_,d⟩:=ok.zod hp hm hx hg hr2
  have:=d.room
  exact⟨rfl,⟨⟨x.J5 n m g,q.at_ m u,tag1,rfl,hS1,a,b,d.ok,d.abs,by omega,by rw[d.disk];exact hc⟩,c⟩⟩
theorem AtQ.fork(h:AtQ w0 V q x w)(ok:Ok0 x){n m g:Nat}{pr:yg}(hp:x.T n=some pr)(hm:m<8)(hx:x.T m=none)(hg:x.P.next false=some g)(hr:1+3*x.has n (yc pr.A)≤x.P.room):
  Calls Tryz.prog 49 #[ptrV q.sp,.int .i64 n,.int .i64 m] w fun e w'=>e=.returned (.int .i64 0)∧∃u,AtQ w0 V (q.at_ m u) (x.J5 n m g) w':=by
 obtain⟨⟨tag,hS,low,hV⟩,hb⟩:=h
 refine(zdg hS ok hp hm hx hg hr).mono ?_
 rintro e w1 ⟨rfl,tag1,u,hS1,s1⟩
 obtain⟨a,b,c⟩:=vw (CFk0 m) s1 hb low hV
 exact⟨rfl,u,⟨tag1,hS1,a,b⟩,c⟩
end
def ar19:Ar:=⟨0,2,true,1,0,0⟩
def l19:List UInt8:=[97,98,99,100,101,102,103,104]
theorem zg5:ar19.xe:=by decide
theorem zon:ar19.Wf:=by unfold Ar.Wf;decide
def X19(file:Int×Int→List UInt8)(cur:Nat→List UInt8):Abs:=((Abs.start file cur).spawn 1).map 1 ar19 [ar19]
theorem can19(file:Int×Int→List UInt8)(cur:Nat→List UInt8)(pg:Nat)(h:pg<2):xn (X19 file cur) 1 pg ar19:=by
 refine⟨?_,?_⟩
 ·have:pg=0∨pg=1:=by omega
  rcases this with rfl|rfl<;>rfl
 ·unfold X19
  rw[Abs.Vw,if_pos ⟨rfl,by omega,by unfold Ar.Has ar19;dsimp only;omega⟩]
  unfold Xz
  rw[if_pos (show ar19.kind=1 from rfl)]
  intro h;cases h
def Y19(file:Int×Int→List UInt8)(cur:Nat→List UInt8):Abs:=((((X19 file cur).own ar19 1 0).own ar19 1 1).write ar19 1 0 60 (l19.take 4)).write ar19 1 1 0 (l19.drop 4)
theorem pv19(file:Int×Int→List UInt8)(cur:Nat→List UInt8):(Y19 file cur).pv 1 0=.own (List.replicate 60 0++[97,98,99,100])∧(Y19 file cur).pv 1 1=.own ([101,102,103,104]++List.replicate 60 0):=⟨rfl,rfl⟩
theorem znf(file:Int×Int→List UInt8)(cur:Nat→List UInt8)(pg:Nat)(h:pg<2):xn (Y19 file cur) 1 pg ar19:=by
 have:pg=0∨pg=1:=by omega
 refine⟨?_,?_⟩
 ·rcases this with rfl|rfl<;>rfl
 ·rcases this with rfl|rfl
  ·rw[(pv19 file cur).1];intro h;cases h
  ·rw[(pv19 file cur).2];intro h;cases h
theorem read19(file:Int×Int→List UInt8)(cur:Nat→List UInt8):(((Y19 file cur).ct ar19 1 (62/64)).drop (62%64)).take (64-62%64)++((Y19 file cur).ct ar19 1 (62/64+1)).take (4-(64-62%64))=[99,100,101,102]:=rfl
theorem zbg(w:World)(C:Array Value)(T:TypeId)(fz:Nat×Nat)(j:Nat):(w.alloc (.cells C T fz)).cell? ⟨w.heap.size,j,none⟩=C[j]?:=by
 have:(w.alloc (.cells C T fz)).heap[w.heap.size]?=some (.cells C T fz):=by
  show(w.heap.push _)[w.heap.size]?=_
  simp
 unfold World.cell?
 rw[this]
 simp
theorem zir(j:Nat):(#[.int .u8 97,.int .u8 98,.int .u8 99,.int .u8 100,.int .u8 101,.int .u8 102,.int .u8 103,.int .u8 104]:Array Value)[j]?=(l19.map bV)[j]?:=by
 rw[←Array.getElem?_toList]
 rfl
theorem ug(w:World):Calls Tryz.prog 15 #[] w fun e w'=>e=.returned (.bool true)∧Below w.heap.size w w':=by
 have kc:=fun(w:World) (C:Array Value) (n c:Nat)=>Lib.run_convert_bytes_const (P:=Tryz.prog) w 22 5 C n c Tryz.underlying22 Tryz.underlying5
 go_enter Tryz.func15,Tryz.ntmps15
 go_wp2_with fail
 refine(At.fresh w 2 2 (by omega) (by omega)).mono ?_
 rintro e w1 ⟨sp,wp,file,cur,rfl,h1⟩
 have H1:=Lib.hid (h1.less (r':=63+1) (by omega))
 clear h1
 unfold ptrV at *
 go_wp2_with fail
 refine(At.spawn H1.out 1 (by omega) rfl).mono ?_
 rintro e w2 ⟨rfl,h2⟩
 have H2:=Lib.hid h2
 clear h2 H1
 go_wp2_with fail
 refine(At.map H2.out 1 (A:=[]) (Q:=[]) rfl ar19 zg5 zon rfl (by simp)).mono ?_
 rintro e w3 ⟨rfl,h3⟩
 rw[V3]at h3
 have H3:Hid (At w [] sp (X19 file cur) 63 w3):=Lib.hid h3
 clear h3 H2
 go_wp2_with fail
 have hb4:Below w3.heap.size w3 (w3.alloc (.cells #[.int .u8 97,.int .u8 98,.int .u8 99,.int .u8 100,.int .u8 101,.int .u8 102,.int .u8 103,.int .u8 104] 5 (8,9))):=(Below.refl _ _).alloc (Nat.le_refl _) _
 have hv4:BRd (w3.alloc (.cells #[.int .u8 97,.int .u8 98,.int .u8 99,.int .u8 100,.int .u8 101,.int .u8 102,.int .u8 103,.int .u8 104] 5 (8,9))) (.slice (some ⟨w3.heap.size,0,none⟩) 8 8) l19:=by
  refine⟨rfl,.inr ⟨w3.heap.size,0,8,rfl,Nat.le_refl _,by decide,by simp,fun j u hu=>?_⟩⟩
  rw[Nat.zero_add,zbg,←hu]
  exact zir j
 have H4:=Lib.hid (H3.out.more hb4 hv4 fun b hb=>.inr (by simp[Value.ownBlock]at hb;omega))
 clear hb4 hv4
 refine(At.zez (r:=53) H4.out 1 (a0:=60) (.inl (List.mem_cons_self ..)) (by decide) (by decide) (by decide) (can19 file cur 0 (by omega)) (can19 file cur 1 (by omega)) rfl rfl).mono ?_
 rintro e w5 ⟨rfl,h5⟩
 have H5:Hid (At w [(.slice (some ⟨w3.heap.size,0,none⟩) 8 8,bys l19)] sp (Y19 file cur) 53 w5):=Lib.hid h5
 clear h5 H4 H3 kc
 go_wp2_with fail
 refine(At.zkw (r:=43) H5.out 1 (a0:=62) (s:=4) (by decide) (by decide) (by decide) (znf file cur 0 (by omega)) (znf file cur 1 (by omega))).mono ?_
 rintro e w6 ⟨v,rfl,h6⟩
 rw[read19]at h6
 have hv:=h6.get (List.mem_cons_self ..)
 have hbel:=Lib.hid h6.bel
 obtain⟨b,off,c,hve,_,_,hx⟩:=SlRd.cells hv (by simp)
 try dsimp only at hve hx
 subst hve
 have ks:(convert 22 9 (.slice (some ⟨b,off,none⟩) 4 c)).run Tryz.prog w6=.ok (.string ⟨#[99,100,101,102]⟩) w6:=by
  have:=run_convert_bytes_back (P:=Tryz.prog) w6 22 9 5 ⟨b,off,none⟩ c [99,100,101,102] Tryz.underlying22 Tryz.underlying5 Tryz.underlying9 (fun j hj=>by
   have:=hx j _ (by rw[List.getElem?_map,List.getElem?_eq_getElem hj];rfl)
   rw[add_plain]
   exact this)
  exact this
 clear hv hx h6 H5
 go_wp2_with fail
 go_ret
 exact⟨rfl,hbel.out⟩
theorem Ua(w:World)(x y:Value)(l:List UInt8)(hx:BRd w x l)(hy:BRd w y l)(hl:l.length≤4096):Calls Tryz.prog 21 #[x,y] w fun e w'=>e=.returned (.bool true)∧Below w.heap.size w w':=by
 obtain⟨a,c,rfl,_,_⟩:=SlRd.form hx
 obtain⟨a2,c2,rfl,_,_⟩:=SlRd.form hy
 obtain⟨n,hn⟩:∃n,n=l.length:=⟨_,rfl⟩
 have HX:=Lib.hid hx
 have HY:=Lib.hid hy
 have HN:=Lib.hid hn
 rw[←hn]at hl⊢
 have hcap:n≤maxLen:=by omega
 clear hx hy hn
 go_enter Tryz.func21,Tryz.ntmps21
 go_wp2_with fail
 go_loopw [5] (fun iv W=>∃i:Nat,i≤n∧iv=.int .i64 i∧Below w.heap.size w W) (fun iv _=>n-(intOf iv).toNat)
 case atStart=>exact⟨0,by omega,rfl,Below.refl _ _⟩
 case round=>
  obtain⟨i,hi,rfl,hb⟩:=hrel
  have HB:=Lib.hid hb
  clear hb
  by_cases hlt:i<n
  ·obtain⟨u,hu⟩:∃u,l[i]?=some u:=⟨_,List.getElem?_eq_getElem (by have:=HN.out;omega)⟩
   have hpos:0<(l.map bV).length:=by rw[List.length_map];have:=HN.out;omega
   obtain⟨b,off,c',he,_,_,hc⟩:=SlRd.cells (SlRd.below HX.out HB.out) hpos
   obtain⟨b2,off2,c2',he2,_,_,hc2⟩:=SlRd.cells (SlRd.below HY.out HB.out) hpos
   cases he
   cases he2
   have k0:wr.cell? ⟨b,off+i,none⟩=some (.int .u8 u.toNat):=hc i _ (by rw[List.getElem?_map,hu];rfl)
   have k1:wr.cell? ⟨b2,off2+i,none⟩=some (.int .u8 u.toNat):=hc2 i _ (by rw[List.getElem?_map,hu];rfl)
   clear hc hc2
   have hlt':(i:Int)<n:=by omega
   go_wp2_with fail
   go_quiet (fail)
   go_wp2_with fail
   go_roundw
   case rel=>exact⟨i+1,by omega,by go_num,HB.out.trans ⟨rfl,rfl,rfl,Nat.le_refl _,fun _ _=>rfl⟩⟩
   case measure=>simp[intOf];omega
  ·have hlt':¬(i:Int)<n:=by omega
   go_wp2_with fail
   go_ret
   exact⟨rfl,HB.out⟩
end Go.Proofs.YtnhdmnijiphjjaaGreat
namespace Go.Proofs.YtnhdmnijiphjjaaGreat.Open
open Go Go.ChangeShapes Go.WideShapes Go.RowKit Go.Deep
abbrev Leaf:=Option IntKind
def LeafOk:Leaf→Value→Prop
 | some k,v=>∃n,v=.int k n∧(Lit.int k n).wf=true
 | none,v=>∃b,v=.bool b
def X3:List Leaf→List Value→Prop
 | [],[]=>True
 | l::ls,v::vs=>LeafOk l v∧X3 ls vs
 | _,_=>False
theorem X3.append:∀{a b:List Leaf} {x y:List Value},X3 a x→X3 b y→X3 (a++b) (x++y)
 | [],_,[],_,_,h=>h
 | [],_,_::_,_,h,_=>h.elim
 | _::_,_,[],_,h,_=>h.elim
 | _::_,_,_::_,_,⟨h,t⟩,k=>⟨h,X3.append t k⟩
theorem X3.length:∀{a:List Leaf} {x:List Value},X3 a x→a.length=x.length
 | [],[],_=>rfl
 | [],_::_,h=>h.elim
 | _::_,[],h=>h.elim
 | _::_,_::_,h=>congrArg (·+1) (X3.length h.2)
def Zt(P:Program)(g:TypeId→Option (List Leaf)):List Field→Nat→Option (List Leaf)
 | [],_=>some []
 | f::fs,off=>
  if f.offset=off then
   match g f.type with
   | some l=>if l.length=P.cellsOf f.type then(Zt P g fs (off+l.length)).map (l++·)else none
   | none=>none
  else none
def Xu(P:Program):Nat→TypeId→Option (List Leaf)
 | 0,_=>none
 | n+1,t=>
  match P.underlying t with
  | some .bool=>some [none]
  | some (.int k)=>some [some k]
  | some (.struct fs)=>
   match Zt P (Xu P n) fs.toList 0 with
   | some l=>if l.length=P.cellsOf t then some l else none
   | none=>none
  | _=>none
section
variable {H:Type}{enc:TypeId×Value→H}{P:Program}{w:World}{base:Nat}{spare:Nat→Bool}{held:Bool}
theorem zc5{g:TypeId→Option (List Leaf)}{n:Nat}{cs:List Value}
  (hg:∀t l cs x,g t=some l→DataW.trod enc P w base spare held n t cs=some x→X3 l cs):
  ∀(fs:List Field) (off:Nat) (l:List Leaf),Zt P g fs off=some l→(∀f∈fs,∃x,DataW.trod enc P w base spare held n f.type ((cs.drop f.offset).take (P.cellsOf f.type))=some x)→
   X3 l ((cs.drop off).take l.length)
 | [],_,l,h,_=>by simp[Zt]at h;subst h;simp[X3]
 | f::fs,off,l,h,ht=>by
  unfold Zt at h
  split at h
  ·rename_i ho
   split at h
   ·rename_i l1 hl1
    split at h
    ·rename_i hlen
     obtain⟨l2,h2,rfl⟩:=Option.map_eq_some_iff.1 h
     obtain⟨x,hx⟩:=ht f (by simp)
     have a1:=hg _ _ _ _ hl1 hx
     have a2:=zc5 hg fs _ l2 h2 (fun f' hf'=>ht f' (by simp[hf']))
     rw[ho,←hlen]at a1
     have e:(cs.drop off).take (l1++l2).length=(cs.drop off).take l1.length++(cs.drop (off+l1.length)).take l2.length:=by
      rw[List.length_append,List.take_add,List.drop_drop]
     rw[e]
     exact a1.append a2
    ·cases h
   ·cases h
  ·cases h
theorem zcs:∀(m n:Nat) (t:TypeId) (l:List Leaf) (cs:List Value) (x:DataW H×List MemPlace),Xu P m t=some l→DataW.trod enc P w base spare held n t cs=some x→X3 l cs
 | 0,_,_,_,_,_,h,_=>by simp[Xu]at h
 | m+1,n,t,l,cs,x,h,hx=>by
  unfold Xu at h
  split at h
  ·rename_i hu
   obtain⟨b,rfl,_⟩:=DataW.trod_bool hu hx
   cases h
   exact⟨⟨b,rfl⟩,trivial⟩
  ·rename_i k hu
   obtain⟨v,rfl,_,hw⟩:=DataW.trod_int hu hx
   cases h
   exact⟨⟨v,rfl,hw⟩,trivial⟩
  ·rename_i fs hu
   split at h
   ·rename_i l' hl'
    split at h
    ·rename_i hlen
     cases h
     obtain⟨xs,n',rfl,_,hcs,hsz,hf⟩:=DataW.trod_struct hu hx
     have:=zc5 (enc:=enc) (w:=w) (base:=base) (spare:=spare) (held:=held) (n:=n') (cs:=cs) (fun t l cs x h1 h2=>zcs m n' t l cs x h1 h2) fs.toList 0 l hl' (fun f hfm=>by
      obtain⟨i,hi,rfl⟩:=List.getElem_of_mem hfm
      have e:=hf i (fs.toList[i]) (by simp)
      rw[e,List.getElem?_eq_getElem (by simpa[hsz]using hi)]
      exact⟨_,rfl⟩)
     rw[List.drop_zero,List.take_of_length_le (by omega)]at this
     exact this
    ·cases h
   ·cases h
  ·cases h
def RowsAt{α:Type}(w:World)(enc:α→List Value)(k:Nat)(a:Option Addr)(len cap:Nat)(z:List α):Prop:=
 z.length=len∧len≤cap∧cap≤maxLen∧∀i,i<len→∃b off,a=some ⟨b,off,none⟩∧b<w.heap.size∧∀x,z[i]?=some x→∀j v,(enc x)[j]?=some v→w.cell? ⟨b,off+(i*k+j),none⟩=some v
theorem zhy{α:Type}[Inhabited α]{encα:α→List Value}{k:Nat}{t e:TypeId}{a:Option Addr}{len cap:Nat}{d:DataW H}{p:List MemPlace}{l:List Leaf}(P2:α→Prop)
  (ht:P.underlying t=some (.slice e)) (hl:Xu P 10 e=some l) (hk:P.cellsOf e=k) (hk0:0<k) (dec:∀cs,X3 l cs→∃x,cs=encα x∧P2 x)
  (h:DataW.Trod enc P w base spare held t (.slice a len cap) d p):∃z,RowsAt w encα k a len cap z∧∀x∈z,P2 x:=by
 obtain⟨fuel,hf⟩:=h
 rcases open_slice ht hf with⟨hcs,_⟩|⟨x,l',c',m,n,D,Pl,hcs,_,hle,hmx,hm,_,hx⟩
 ·simp[Value.cells]at hcs
  obtain⟨rfl,rfl,rfl⟩:=hcs
  exact⟨[],⟨rfl,Nat.le_refl _,by unfold maxLen;omega,fun i hi=>by omega⟩,by simp⟩
 ·simp[Value.cells]at hcs
  obtain⟨rfl,rfl,rfl⟩:=hcs
  have hlm:len≤m:=by rw[hm];split<;>omega
  have key:∀i,i<len→∃y,P2 y∧(encα y).length=k∧∀j,j<k→w.cell? ((x.add (i*k)).add j)=(encα y)[j]?:=fun i hi=>by
   obtain⟨cs',h1,h2⟩:=hx i (by omega)
   obtain⟨y,rfl,hp⟩:=dec cs' (zcs 10 n e l cs' _ hl h2)
   rw[hk]at h1
   obtain⟨_,hlen,hc⟩:=World.cells?_some h1
   exact⟨y,hp,hlen,hc⟩
  obtain⟨f,hf⟩:=choose_lt key
  refine⟨(List.range len).map f,⟨by simp,hle,hmx,fun i hi=>?_⟩,fun y hy=>?_⟩
  ·obtain⟨hp,hlen,hc⟩:=hf i hi
   obtain⟨_,hlen0,hc0'⟩:=hf 0 (by omega)
   have hc0:=hc0' 0 hk0
   rw[List.getElem?_eq_getElem (by omega),Nat.zero_mul]at hc0
   have e0:(x.add 0).add 0=x:=by simp[Addr.add]
   rw[e0]at hc0
   have hsp:x.spot=none:=by
    unfold World.cell? at hc0
    split at hc0
    ·split at hc0
     ·cases hc0
     ·rename_i hs;simpa using hs
    ·cases hc0
   have hb:x.block<w.heap.size:=World.block_lt_of_cell? w _ hc0
   obtain⟨b,off,sp⟩:=x
   obtain rfl:sp=none:=hsp
   have ea:∀i,(⟨b,off,none⟩:Addr).add i=⟨b,off+i,none⟩:=fun i=>by unfold Addr.add;split<;>simp_all
   have ea2:∀i j,((⟨b,off,none⟩:Addr).add i).add j=⟨b,off+i+j,none⟩:=fun i j=>by rw[ea];unfold Addr.add;split<;>simp_all
   refine⟨b,off,rfl,hb,fun y hy j v hv=>?_⟩
   simp[hi]at hy
   subst hy
   have hj:j<k:=by have:=(List.getElem?_eq_some_iff.1 hv).1;omega
   have:=hc j hj
   rw[ea2,hv,Nat.add_assoc]at this
   exact this
  ·obtain⟨i,hi,rfl⟩:=List.mem_map.1 hy
   exact(hf i (List.mem_range.1 hi)).1
end
end Go.Proofs.YtnhdmnijiphjjaaGreat.Open
