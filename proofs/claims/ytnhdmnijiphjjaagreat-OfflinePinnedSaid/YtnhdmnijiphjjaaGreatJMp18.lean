/- Processes: what their parts answer when they are asked by others: uses, slots, tables, sectors written. -/
import Derived.Test.YtnhdmnijiphjjaaGreatJMp17
import Derived.Test.YtnhdmnijiphjjaaGreatJMp11
import Derived.Test.YtnhdmnijiphjjaaGreatJMp7
import Derived.Test.YtnhdmnijiphjjaaGreatJMp14
set_option linter.unusedVariables false
set_option linter.unusedSimpArgs false
set_option maxRecDepth 100000
set_option maxHeartbeats 2000000
namespace Go.Proofs.YtnhdmnijiphjjaaGreat
open Go Go.RowKit
section
variable {w w':World}{tag tag':Nat→Nat}{q:Sq}{x:za}
theorem zb.useP(h:zb w tag q x)(f:Nat)(hf:f<1024):Calls Tryz.prog 38 #[.pointer (some ⟨q.pp,0,none⟩),.int .i64 f] w fun e w'=>e=.returned (.int .i64 (x.P.use f))∧w'=w:=
 zc2 _ _ _ _ _ _ h.pool f f rfl hf
theorem zb.zn4(h:zb w tag q x)(f:Nat)(hf:f<1024):Calls Tryz.prog 44 #[.pointer (some ⟨q.pp,0,none⟩),.int .i64 f] w fun e w'=>(∃b,e=.returned (.bool b))∧zb w' tag q (x.uw f)∧Step (fun c=>c=2) tag w tag w':=by
 by_cases hu:2≤x.P.use f∧x.P.use f≤5
 ·have e1:x.uw f={x with P:=x.P.set f 1}:=by
   unfold za.uw zk.free
   rw[if_pos]
   ·rfl
   ·unfold zk.used;simp;omega
  rw[e1]
  refine(V9 _ _ _ _ _ _ h.pool f f rfl hf hu.1 hu.2).mono ?_
  rintro e w' ⟨rfl,g1,g2⟩
  have g:=h.za7 g2 g1
  exact⟨⟨_,rfl⟩,g.1,g.2⟩
 ·have e1:x.uw f=x:=by
   unfold za.uw zk.free
   rw[if_neg]
   unfold zk.used;simp;omega
  rw[e1]
  refine(zor _ _ _ _ (zc2 _ _ _ _ _ _ h.pool f f rfl hf) (by omega)).mono ?_
  rintro e w' ⟨rfl,g1⟩
  have g1:=g1.symm
  subst g1
  exact⟨⟨_,rfl⟩,h,Step.refl _ _ _⟩
theorem zb.cdirty(h:zb w tag q x)(k:Int×Int):Calls Tryz.prog 83 #[.pointer (some ⟨q.cp,0,none⟩),.agg #[.int .i64 k.1,.int .i64 k.2]] w fun e w'=>e=.returned (.bool (x.qy k))∧Below w.heap.size w w':=
 zgx w q.cp q.c1 q.c2 x.CL x.CR h.cache.1 k
theorem zfr(h:zb w tag q x)(n:Nat)(hn:n<8){pr:yj}(hp:x.T n=some pr):Calls Tryz.prog 34 #[ptrV q.sp,.int .i64 n] w fun e w'=>e=.returned (ptrV (q.U n).tp)∧w'=w:=by
 have F:=Lib.hid (Zh h (n:Int))
 have ev:Ye q x (n:Int)=.tuple #[ptrV (q.U n).ap,.bool true]:=by
  unfold Ye
  rw[show((n:Nat):Int).toNat=n by omega,hp]
  have:(0:Int)≤n:=by omega
  simp[this]
 rw[ev]at F
 obtain⟨av,r1,r2,r3⟩:=(h.procs n pr hn hp).row
 have c1:=r1.cell (i:=0) (by omega)
 dsimp only[X0]at c1
 unfold ptrV at F c1⊢
 clear h hp ev r1 r2 r3
 go_enter Tryz.func34,Tryz.ntmps34
 go_wp2_with fail
 refine F.out.mono ?_
 rintro e u ⟨rfl,hu⟩
 have hu:=hu.symm
 subst hu
 clear F
 go_wp2_with fail
 go_ret
 exact⟨rfl,rfl⟩
theorem zj7(h:zb w tag q x)(wf:WF x)(n page:Nat)(hn:n<8){pr:yj}(hp:x.T n=some pr)(hpg:page<4096):
  Calls Tryz.prog 35 #[ptrV (q.U n).tp,.int .i64 page] w fun e w'=>e=.returned (.tuple #[entV (x.ent n page),.int .i64 0])∧Below w.heap.size w w':=by
 obtain⟨N,ok⟩:=wf.rpt n pr hp
 rw[wf.Vm hp ok hpg]
 exact Vb _ _ _ _ _ (h.rpt hn hp) ok.tree page page rfl hpg
end
section
variable {w w':World}{tag tag':Nat→Nat}{q:Sq}{x:za}
theorem zid(wf:WF x){f to:Nat}(ht:to<1024)(hto:to≠f)(hM:∀p∈x.B f,Qd x f p)(i:Nat):Y9 x f ((x.B f).take i) (x.moved to) (x.putM ((x.B f).take i) (x.moved to)):=by
 refine wf.putM ((wf.back f).1.nodup.sublist (List.take_sublist _ _)) (fun p hp=>hM p (List.mem_of_mem_take hp)) fun p hp=>?_
 obtain⟨⟨n,pg,pr,rfl,h1,h2,h3,h4,h5⟩,_⟩:=hM p (List.mem_of_mem_take hp)
 have e1:(plc n pg).1.toNat=n:=by unfold plc;dsimp only;omega
 have e2:(plc n pg).2.toNat=pg:=by unfold plc;dsimp only;omega
 unfold za.moved
 rw[e1,e2,h4]
 exact⟨by simp[Ent.ok,most];omega,fun _=>by show(to:Int)≠f;omega⟩
def zeroE(j:Nat):Value:=if j=2 then .bool false else .int .i64 0
theorem zis(h:zb w tag q x)(wf:WF x)(f to:Nat)(ht:to<1024)(hto:to≠f)(hM:∀p∈x.B f,Qd x f p):
  Calls Tryz.prog 81 #[ptrV q.sp,.int .i64 f,.int .i64 to] w fun r w'=>r=.returned (.tuple #[])∧∃tag',zb w' tag' q (x.zd4 f to)∧Step CA tag w tag' w':=by
 have MT:=Lib.hid (zid wf ht hto hM)
 obtain⟨l,hl⟩:∃l,l=x.B f:=⟨_,rfl⟩
 have hlen:l.length≤32768:=by rw[hl];exact Zo (wf.back (f:Int)).1 (wf.back (f:Int)).2
 have nd:l.Nodup:=by rw[hl];exact(wf.back (f:Int)).1.nodup
 have eH:x.zd4 f to=x.putM l (x.moved to):=by rw[hl];rfl
 rw[eH]
 obtain⟨E,hE⟩:∃E,E=x.moved to:=⟨_,rfl⟩
 rw[←hl,←hE]at MT
 rw[←hE]
 have hMl:∀p∈l,Qd x f p:=by rw[hl];exact hM
 have g3:w.cell? ⟨q.sp,3,none⟩=some (.pointer (some ⟨q.bp,0,none⟩)):=h.loc0.cell (i:=3) (by omega)
 have OF:Hid (Calls Tryz.prog 87 #[.pointer (some ⟨q.bp,0,none⟩),.int .i64 f] w fun r w3=>∃a c,r=.returned (.slice a l.length c)∧PlAt w3 (.slice a l.length c) l∧
   zb w3 (retag tag w 0) q x∧Step CA tag w (retag tag w 0) w3∧∀b,(Value.slice a l.length c).ownBlock=some b→w.heap.size≤b):=by
  have OS:=h.ofB (f:Int) (by rw[←hl];omega)
  rw[←hl]at OS
  refine OS.mono ?_
  rintro r w3 ⟨a,c,rfl,hp,hb,ho⟩
  obtain⟨L3,s3⟩:=h.loc0.more hb [] (fun t ht=>by cases ht)
  exact⟨a,c,rfl,hp,L3.sp,s3.mono fun _ h=>h.elim,ho⟩
 have HX:=Lib.hid (And.intro hMl (And.intro nd (And.intro hlen hE)))
 clear h hl hlen nd hMl wf hM eH hE ht hto
 unfold ptrV
 go_enter Tryz.func81,Tryz.ntmps81
 go_wp2_with fail
 refine OF.out.mono ?_
 rintro r w3 ⟨a,cc,rfl,hP3,hS3,hT3,hO3⟩
 have H3:=Lib.hid (And.intro hP3 (And.intro hS3 (And.intro hT3 hO3)))
 clear hP3 hS3 hT3 hO3 OF g3
 go_wp2_with fail
 go_loopw [17,7,8,9] (fun iv _ _ _ W=>∃(i:Nat) (tag':Nat→Nat),i≤l.length∧iv=.int .i64 i∧zb W tag' q (x.putM (l.take i) E)∧Step CA tag w tag' W∧PlAt W (.slice a l.length cc) l∧∀b,(Value.slice a l.length cc).ownBlock=some b→tag' b=0) (fun iv _ _ _ _=>l.length-(intOf iv).toNat)
 case atStart=>
  exact⟨0,_,by omega,rfl,H3.out.2.1,H3.out.2.2.1,H3.out.1,fun b hb=>yc _ _ _ _ (H3.out.2.2.2 b hb)⟩
 case round=>
  obtain⟨i,tg,hi,rfl,hSp,hSt,hPl,hOw⟩:=hrel
  by_cases hlt:i<l.length
  ·obtain⟨p,hp⟩:∃p,l[i]?=some p:=⟨l[i],List.getElem?_eq_getElem hlt⟩
   have hpos:0<(pl l).length:=by have:=hPl.1;omega
   obtain⟨pb,poff,pc,epv,_,_,_⟩:=SlAt.cells hPl hpos
   cases epv
   have hpe:p=l[i]:=by rw[List.getElem?_eq_getElem hlt]at hp;exact(Option.some.inj hp).symm
   obtain⟨k0,k1⟩:=PlAt.cell hPl i hlt
   rw[←hpe]at k0 k1
   obtain⟨⟨n,pg,pr,ep,pn,ppg,hpr,hk1,_⟩,_⟩:=HX.out.1 p (List.mem_of_getElem? hp)
   subst ep
   have dz:=MT.out i
   obtain⟨z,hz⟩:∃z,z=x.putM (l.take i) E:=⟨_,rfl⟩
   rw[←hz]at dz hSp
   have hnot:plc n pg∉l.take i:=fun hm=>by
    obtain⟨j,hj,e⟩:=List.getElem_of_mem hm
    rw[List.length_take]at hj
    rw[List.getElem_take]at e
    have:=(List.nodup_iff_pairwise_ne.1 HX.out.2.1)
    have h2:=List.pairwise_iff_getElem.1 this j i (by omega) hlt (by omega)
    rw[e,←hpe]at h2
    exact h2 rfl
   have hent:z.ent n pg=x.ent n pg:=by rw[dz.ent n pg ppg,if_neg hnot]
   have hprz:∃pz,z.T n=some pz:=by
    have:=dz.procs n
    rw[hpr]at this
    cases hq:z.T n with
    | none=>rw[hq]at this;cases this
    | some pz=>exact⟨pz,rfl⟩
   obtain⟨pz,hprz⟩:=hprz
   obtain⟨⟨ek,en,ew⟩,he⟩:∃e:Ent,e=x.ent n pg:=⟨_,rfl⟩
   have eE:E (plc n pg)=⟨ek,(to:Int),ew⟩:=by
    have e1:(plc n pg).1.toNat=n:=by unfold plc;dsimp only;omega
    have e2:(plc n pg).2.toNat=pg:=by unfold plc;dsimp only;omega
    rw[HX.out.2.2.2]
    unfold za.moved
    rw[e1,e2,←he]
   have eEok:(⟨ek,(to:Int),ew⟩:Ent).ok=true:=by
    have d2:=MT.out (i+1)
    have hm:plc n pg∈l.take (i+1):=by rw[List.take_add_one,hp];simp
    have e3:=d2.ent n pg ppg
    rw[if_pos hm,eE]at e3
    rw[←e3]
    exact d2.wf.Y8 n ppg
   rw[←he]at hent
   have p1:(plc n pg).1=(n:Int):=rfl
   have p2:(plc n pg).2=(pg:Int):=rfl
   rw[p1]at k0
   rw[p2]at k1
   obtain⟨W1,hW1⟩:∃W1,W1=wr.alloc (.cells #[.int .i64 n,.int .i64 pg] 58):=⟨_,rfl⟩
   have nb1:=heap_alloc_new wr (.cells #[.int .i64 n,.int .i64 pg] 58)
   rw[←hW1]at nb1
   obtain⟨L1,s1⟩:=hSp.loc0.more (W':=W1) (by rw[hW1];exact(Below.refl _ _).alloc (Nat.le_refl _) _) [(wr.heap.size,0,.int .i64 n),(wr.heap.size,1,.int .i64 pg)] (fun t ht=>by
    simp at ht
    rcases ht with rfl|rfl
    ·exact⟨Nat.le_refl _,zo nb1 0 rfl⟩
    ·exact⟨Nat.le_refl _,zo nb1 1 rfl⟩)
   rw[List.append_nil]at L1
   have hb1:Below wr.heap.size wr W1.drew:=by rw[hW1];exact((Below.refl _ _).alloc (Nat.le_refl _) _).drew
   have TR:Hid (∀W2,Below W1.heap.size W1 W2→Calls Tryz.prog 34 #[ptrV q.sp,.int .i64 n] W2 fun e w'=>e=.returned (ptrV (q.U n).tp)∧w'=W2):=Lib.hid fun W2 hb=>zfr (L1.below hb).sp n pn hprz
   have GE:Hid (∀W2,Below W1.heap.size W1 W2→Calls Tryz.prog 35 #[ptrV (q.U n).tp,.int .i64 pg] W2 fun e w2=>e=.returned (.tuple #[entV ⟨ek,en,ew⟩,.int .i64 0])∧Below W2.heap.size W2 w2):=Lib.hid fun W2 hb=>by
    rw[←hent]
    exact zj7 (L1.below hb).sp dz.wf n pg pn hprz ppg
   have q0:W1.cell? ⟨wr.heap.size,0,none⟩=some (.int .i64 n):=L1.get 0 rfl
   have q1:W1.cell? ⟨wr.heap.size,1,none⟩=some (.int .i64 pg):=L1.get 1 rfl
   have HC:Hid (∀w2,Below W1.heap.size W1 w2→(w2.cell? ⟨wr.heap.size,0,none⟩=some (.int .i64 n)∧w2.cell? ⟨wr.heap.size,1,none⟩=some (.int .i64 pg))∧(∀o,(w2.alloc o).cell? ⟨wr.heap.size,0,none⟩=some (.int .i64 n))∧(∀o,(w2.alloc o).cell? ⟨wr.heap.size,1,none⟩=some (.int .i64 pg))∧¬w2.heap.size=wr.heap.size):=Lib.hid fun w2 hb2=>by
    have L2:=L1.below hb2
    have c0:w2.cell? ⟨wr.heap.size,0,none⟩=some (.int .i64 n):=L2.get 0 rfl
    have c1:w2.cell? ⟨wr.heap.size,1,none⟩=some (.int .i64 pg):=L2.get 1 rfl
    have l:=World.block_lt_of_cell? _ _ c0
    exact⟨⟨c0,c1⟩,fun o=>(World.cell?_alloc_lt _ _ _ (World.block_lt_of_cell? _ _ c0)).trans c0,fun o=>(World.cell?_alloc_lt _ _ _ (World.block_lt_of_cell? _ _ c1)).trans c1,by dsimp only at l;omega⟩
   have PU:Hid (∀W5,Turn (fun _=>False) W1 W5→Calls Tryz.prog 88 #[.pointer (some ⟨q.sp,0,none⟩),.agg #[.int .i64 n,.int .i64 pg],.agg #[.int .i64 ek,.int .i64 to,.bool ew]] W5 fun r w5=>(∃c,r=.returned (.int .i64 c))∧∃tag',zb w5 tag' q (x.putM (l.take (i+1)) E)∧Step CA tag w tag' w5∧PlAt w5 (.slice (some ⟨pb,poff,none⟩) l.length cc) l∧∀b,(Value.slice (some ⟨pb,poff,none⟩) l.length cc).ownBlock=some b→tag' b=0):=Lib.hid fun W5 t=>by
    refine(Yp (L1.below t.below).sp dz.wf n pg pn ppg ⟨ek,(to:Int),ew⟩ eEok).mono ?_
    rintro r w5 ⟨rfl,tag5,h5,s5⟩
    have s5':Step CA (retag tg wr 0) _ tag5 w5:=s5.mono fun c hc=>Jq pn hc
    have sB:Step CA tg wr tag5 w5:=((s1.trans (Step.of_below t.below)).mono fun _ h=>h.elim).trans s5'
    refine⟨⟨_,rfl⟩,tag5,?_,hSt.trans sB,SlAt.keep hPl fun b hb=>(sB.keeps CA0 b (SlAt.lt hPl b hb) (hOw b hb)).2,fun b hb=>(sB.keeps CA0 b (SlAt.lt hPl b hb) (hOw b hb)).1⟩
    have e1:l.take (i+1)=l.take i++[plc n pg]:=by rw[List.take_add_one,hp];rfl
    rw[e1,zhr,eE,←hz]
    exact h5
   have z0:W1.heap.size=wr.heap.size+1:=by rw[hW1];simp
   have HWW:=Lib.hid hW1
   have i1:(i:Int)<l.length:=by omega
   have i2:(0:Int)≤i:=by omega
   have HLT:=Lib.hid (And.intro hlt (And.intro hi HX.out.2.2.1))
   unfold entV at GE
   unfold ptrV at TR GE
   clear hSp hSt hPl hOw hpos pn ppg hpr hk1 L1 s1 hb1 hlt hi hpe hp H3 nb1 dz hz hnot hent hprz he eE eEok p1 p2 hW1
   go_wp2_with fail
   rw[←HWW.out]
   obtain⟨xb,hxb⟩:∃xb,xb=wr.heap.size:=⟨_,rfl⟩
   rw[←hxb]at q0 q1 HC z0⊢
   clear hxb k0 k1
   have ka0:=fun o=>(HC.out (W1.alloc o) ((Below.refl _ _).alloc (Nat.le_refl _) o)).1.1
   have ka1:=fun o=>(HC.out (W1.alloc o) ((Below.refl _ _).alloc (Nat.le_refl _) o)).1.2
   have kn:=(HC.out W1 (Below.refl _ _)).2.2.2
   have BA:Hid (Below W1.heap.size W1 W1.drew):=(Below.refl _ _).drew
   have BB:Hid (∀o,Below W1.heap.size W1 (W1.alloc o).drew):=Lib.hid fun o=>((Below.refl _ _).alloc (Nat.le_refl _) o).drew
   have G2:Hid (∀w2,Below (W1.alloc (.cells #[.int .i64 0,.int .i64 0,.bool false] 70)).drew.heap.size (W1.alloc (.cells #[.int .i64 0,.int .i64 0,.bool false] 70)).drew w2→w2.cell? ⟨xb+1,0,none⟩=some (.int .i64 0)∧w2.cell? ⟨xb+1,1,none⟩=some (.int .i64 0)∧w2.cell? ⟨xb+1,2,none⟩=some (.bool false)∧w2.frozen? ⟨xb+1,0,none⟩=false∧w2.frozen? ⟨xb+1,1,none⟩=false∧w2.frozen? ⟨xb+1,2,none⟩=false∧Row w2 (xb+1) 3 zeroE):=Lib.hid fun w2 hb=>by
    have nb:=(hb.block W1.heap.size (by simp)).trans (heap_alloc_new W1 (.cells #[.int .i64 0,.int .i64 0,.bool false] 70))
    rw[z0]at nb
    exact⟨by rw[cell_of_row _ _ 0 _ _ _ nb];rfl,by rw[cell_of_row _ _ 1 _ _ _ nb];rfl,by rw[cell_of_row _ _ 2 _ _ _ nb];rfl,by simp[World.frozen?,nb],by simp[World.frozen?,nb],by simp[World.frozen?,nb],_,nb⟩
   go_region_held (fun W'=>W'.cell? ⟨xb,0,none⟩=some (.int .i64 n)∧W'.cell? ⟨xb,1,none⟩=some (.int .i64 pg)) (go_keep)
    (first
     | (go_at_call 34;refine(TR.out _ BA.out).mono ?_;rintro r u ⟨rfl,hu⟩;have hu:=hu.symm;subst hu)
     | (go_at_call 34;refine(TR.out _ (BB.out _)).mono ?_;rintro r u ⟨rfl,hu⟩;have hu:=hu.symm;subst hu)
     | (go_at_call 35;refine(GE.out _ BA.out).mono ?_;rintro r w2 ⟨rfl,hb2⟩;have hB:=Lib.hid (BA.out.trans (hb2.mono BA.out.size));obtain⟨⟨n0,n1⟩,n2,n3,n4⟩:=HC.out w2 hB.out;clear hb2)
     | (go_at_call 35;refine(GE.out _ (BB.out _)).mono ?_;rintro r w2 ⟨rfl,hb2⟩;have hB:=Lib.hid ((BB.out _).trans (hb2.mono (BB.out _).size));obtain⟨⟨n0,n1⟩,n2,n3,n4⟩:=HC.out w2 hB.out;obtain⟨y0,y1,y2,y3,y4,y5,hr⟩:=G2.out w2 hb2;have hR:=Lib.hid hr;clear hb2 hr))
   ·have tA:Hid (∀o,Turn (fun _=>False) W1 (w2.alloc o)):=Lib.hid fun o=>(Turn.of_below hB.out).alloc o
    clear TR GE HC BA BB G2 ka0 ka1 kn z0
    go_wp2_with fail
    refine(PU.out _ (tA.out _)).mono ?_
    rintro r w5 ⟨⟨c,rfl⟩,h5⟩
    have H5:=Lib.hid h5
    clear h5 PU tA n0 n1 n2 n3 q0 q1
    have d5:IntKind.i64.wrap ((i:Int)+1)=i+1:=by have:=HLT.out;simp[IntKind.wrap,IntKind.bits,IntKind.signed];omega
    clear i1 i2
    go_wp2_with fail
    go_roundw
    case rel=>
     obtain⟨tag',a1,a2,a3,a4⟩:=H5.out
     exact⟨i+1,tag',HLT.out.1,by go_num,a1,a2,a3,a4⟩
    case measure=>have:=HLT.out.1;simp[intOf];omega
   all_goals (
    obtain⟨W5,hW5⟩:∃W5,W5=((w2.setCell ⟨xb+1,0,none⟩ (.int .i64 ek)).setCell ⟨xb+1,1,none⟩ (.int .i64 en)).setCell ⟨xb+1,2,none⟩ (.bool ew):=⟨_,rfl⟩
    have R5:Row W5 (xb+1) 3 (fun j=>if j=2 then .bool ew else if j=1 then .int .i64 en else if j=0 then .int .i64 ek else zeroE j):=by rw[hW5];exact(((hR.out.set (by omega) _).set (by omega) _).set (by omega) _)
    have t5:Turn (fun _=>False) W1 W5:=by
     rw[hW5]
     exact(((Turn.of_below hB.out).set (p:=⟨xb+1,0,none⟩) (.inr (Nat.le_of_eq z0)) _).set (p:=⟨xb+1,1,none⟩) (.inr (Nat.le_of_eq z0)) _).set (p:=⟨xb+1,2,none⟩) (.inr (Nat.le_of_eq z0)) _
    rw[←hW5]
    obtain⟨W6,hW6⟩:∃W6,W6=W5.setCell ⟨xb+1,1,none⟩ (.int .i64 to):=⟨_,rfl⟩
    have R6:Row W6 (xb+1) 3 (fun j=>if j=1 then .int .i64 to else if j=2 then .bool ew else if j=1 then .int .i64 en else if j=0 then .int .i64 ek else zeroE j):=by rw[hW6];exact R5.set (by omega) _
    have t6:Hid (Turn (fun _=>False) W1 W6):=by
     rw[hW6]
     exact t5.set (p:=⟨xb+1,1,none⟩) (.inr (Nat.le_of_eq z0)) _
    have f1:W5.cell? ⟨xb+1,1,none⟩=some (.int .i64 en):=R5.cell (by omega)
    have f2:W5.frozen? ⟨xb+1,1,none⟩=false:=R5.frozen 1
    have g0:W6.cell? ⟨xb+1,0,none⟩=some (.int .i64 ek):=R6.cell (by omega)
    have g1:W6.cell? ⟨xb+1,1,none⟩=some (.int .i64 to):=R6.cell (by omega)
    have g2:W6.cell? ⟨xb+1,2,none⟩=some (.bool ew):=R6.cell (by omega)
    have g3:=(HC.out W6 t6.out.below).1.1
    have g4:=(HC.out W6 t6.out.below).1.2
    clear TR GE HC BA BB G2 ka0 ka1 kn z0 hW5 R5 R6 t5 hR hB n0 n1 n2 n3 n4 y0 y1 y2 y3 y4 y5
    go_upto_region 5 with fail
    rw[←hW6]
    clear hW6
    go_wp2_with fail
    refine(PU.out _ t6.out).mono ?_
    rintro r w5 ⟨⟨c,rfl⟩,h5⟩
    have H5:=Lib.hid h5
    clear h5 PU t6 f1 f2 g0 g1 g2 g3 g4 q0 q1
    have d5:IntKind.i64.wrap ((i:Int)+1)=i+1:=by have:=HLT.out;simp[IntKind.wrap,IntKind.bits,IntKind.signed];omega
    clear i1 i2
    go_wp2_with fail
    go_roundw
    case rel=>
     obtain⟨tag',a1,a2,a3,a4⟩:=H5.out
     exact⟨i+1,tag',HLT.out.1,by go_num,a1,a2,a3,a4⟩
    case measure=>have:=HLT.out.1;simp[intOf];omega)
  ·obtain rfl:i=l.length:=by omega
   have H5:=Lib.hid (And.intro hSp hSt)
   clear hSp hSt hPl hOw H3
   go_wp2_with fail
   refine bodyPost_end (v:=.tuple #[]) (by simp[results,Tryz.results81,go_sem]) rfl ⟨rfl,tg,?_,H5.out.2⟩
   have:=H5.out.1
   rw[List.take_length]at this
   exact this
end
section
variable {w w':World}{tag tag':Nat→Nat}{q:Sq}{x:za}
def zif(b:Nat)(n page:Nat)(a:Ar):List (Nat×Nat×Value):=
 [(b,0,.int .i64 n),(b,1,.int .i64 page),(b+1,0,.int .i64 a.from_),(b+1,1,.int .i64 a.pages),(b+1,2,.bool a.write),(b+1,3,.int .i64 a.kind),(b+1,4,.int .i64 a.file),(b+1,5,.int .i64 a.off)]
theorem zb.boxPA(h:zb w tag q x)(n page:Nat)(a:Ar)(w0:World)(hw0:w0=(w.alloc (.cells #[.int .i64 n,.int .i64 page] 58 (0,0))).alloc (.cells #[.int .i64 a.from_,.int .i64 a.pages,.bool a.write,.int .i64 a.kind,.int .i64 a.file,.int .i64 a.off] 32 (0,0))):
  Loc w0 (retag tag w 0) q x (zif w.heap.size n page a)∧Step (fun _=>False) tag w (retag tag w 0) w0:=by
 have hb0:Below w.heap.size w w0:=by rw[hw0];exact((Below.refl w.heap.size w).alloc (Nat.le_refl _) _).alloc (by simp) _
 have nb2:w0.heap[w.heap.size+1]?=some (.cells #[.int .i64 a.from_,.int .i64 a.pages,.bool a.write,.int .i64 a.kind,.int .i64 a.file,.int .i64 a.off] 32 (0,0)):=by
  rw[hw0]
  have:=heap_alloc_new (w.alloc (.cells #[.int .i64 n,.int .i64 page] 58 (0,0))) (.cells #[.int .i64 a.from_,.int .i64 a.pages,.bool a.write,.int .i64 a.kind,.int .i64 a.file,.int .i64 a.off] 32 (0,0))
  rw[World.size_alloc]at this
  exact this
 have nb1:w0.heap[w.heap.size]?=some (.cells #[.int .i64 n,.int .i64 page] 58 (0,0)):=by
  rw[hw0,Below.heap_alloc _ _ _ (by simp)]
  exact heap_alloc_new w _
 have:=h.loc0.more hb0 (zif w.heap.size n page a) (fun t ht=>by
  simp[zif]at ht
  rcases ht with rfl|rfl|rfl|rfl|rfl|rfl|rfl|rfl
  ·exact⟨Nat.le_refl _,zo nb1 0 rfl⟩
  ·exact⟨Nat.le_refl _,zo nb1 1 rfl⟩
  ·exact⟨by simp,zo nb2 0 rfl⟩
  ·exact⟨by simp,zo nb2 1 rfl⟩
  ·exact⟨by simp,zo nb2 2 rfl⟩
  ·exact⟨by simp,zo nb2 3 rfl⟩
  ·exact⟨by simp,zo nb2 4 rfl⟩
  ·exact⟨by simp,zo nb2 5 rfl⟩)
 rw[List.append_nil]at this
 exact this
theorem zk0(w:World)(a:Ar)(page:Nat)(hs:a.yo)(hp:page<4096):
  Calls Tryz.prog 236 #[a.enc,.int .i64 page] w fun e w'=>e=.returned (.agg #[.int .i64 (za.keyF a page).1,.int .i64 (za.keyF a page).2])∧Below w.heap.size w w':=by
 unfold Ar.yo at hs
 have d1:IntKind.i64.wrap (a.off+page)=a.off+page:=by simp[IntKind.wrap,IntKind.bits,IntKind.signed];omega
 have d2:IntKind.i64.wrap (a.off+page-a.from_)=a.off+page-a.from_:=by simp[IntKind.wrap,IntKind.bits,IntKind.signed];omega
 unfold Ar.enc za.keyF
 clear hs
 go_enter Tryz.func236,Tryz.ntmps236
 go_wp2_with fail
 exact bodyPost_ret (v:=.agg #[.int .i64 a.file,.int .i64 (a.off+page-a.from_)]) (by simp[results,Tryz.results236,go_sem]) rfl ⟨rfl,((Below.refl _ _).alloc (Nat.le_refl _) _).alloc (by simp) _⟩
theorem zgg(h:zb w tag q x)(wf:WF x)(n page:Nat)(pr:yj)(hn:n<8)(hp:x.T n=some pr)(hpg:page<4096)(a:Ar)(ha:yh pr.A (page:Int)=some a):
  Calls Tryz.prog 212 #[ptrV q.sp,.agg #[.int .i64 n,.int .i64 page],a.enc] w fun e w'=>e=.returned (.tuple #[.int .i64 (x.uk n page a).1.1,.int .i64 (x.uk n page a).1.2])∧∃tag',zb w' tag' q (x.uk n page a).2∧Step CA tag w tag' w':=by
 obtain⟨w0,hw0⟩:∃w0,w0=(w.alloc (.cells #[.int .i64 n,.int .i64 page] 58 (0,0))).alloc (.cells #[.int .i64 a.from_,.int .i64 a.pages,.bool a.write,.int .i64 a.kind,.int .i64 a.file,.int .i64 a.off] 32 (0,0)):=⟨_,rfl⟩
 obtain⟨L0,s0⟩:=h.boxPA n page a w0 hw0
 obtain⟨tag0,ht0⟩:∃tag0,tag0=retag tag w 0:=⟨_,rfl⟩
 rw[←ht0]at L0 s0
 clear ht0
 have hsd:a.yo:=(wf.Yh n pr hp).1.1 a (List.mem_of_find?_eq_some ha)
 obtain⟨R,hR⟩:∃R,R=x.uk n page a:=⟨_,rfl⟩
 rw[←hR]
 unfold za.uk at hR
 by_cases hk:a.kind≠1
 ·rw[if_pos hk]at hR
  have hkey:=Us (wf.Yh n pr hp).1 ha hk
  have g0:w0.cell? ⟨w.heap.size,0,none⟩=some (.int .i64 n):=L0.get 0 rfl
  have g1:w0.cell? ⟨w.heap.size,1,none⟩=some (.int .i64 page):=L0.get 1 rfl
  have a0:w0.cell? ⟨w.heap.size+1,0,none⟩=some (.int .i64 a.from_):=L0.get 2 rfl
  have a1:w0.cell? ⟨w.heap.size+1,1,none⟩=some (.int .i64 a.pages):=L0.get 3 rfl
  have a2:w0.cell? ⟨w.heap.size+1,2,none⟩=some (.bool a.write):=L0.get 4 rfl
  have a3:w0.cell? ⟨w.heap.size+1,3,none⟩=some (.int .i64 a.kind):=L0.get 5 rfl
  have a4:w0.cell? ⟨w.heap.size+1,4,none⟩=some (.int .i64 a.file):=L0.get 6 rfl
  have a5:w0.cell? ⟨w.heap.size+1,5,none⟩=some (.int .i64 a.off):=L0.get 7 rfl
  have KW:=Lib.hid (zk0 w0 a page hsd hpg)
  have FW:Hid (∀W,Below w0.heap.size w0 W→Calls Tryz.prog 235 #[.pointer (some ⟨q.sp,0,none⟩),.agg #[.int .i64 (za.keyF a page).1,.int .i64 (za.keyF a page).2]] W fun e w2=>e=.returned (.tuple #[.int .i64 (x.uf (za.keyF a page)).1.1,.int .i64 (x.uf (za.keyF a page)).1.2])∧∃tag2,Loc w2 tag2 q (x.uf (za.keyF a page)).2 (zif w.heap.size n page a)∧Step CA tag w tag2 w2):=fun W hb=>by
   have L1:=L0.below hb
   refine(zi8 L1.sp wf hkey).mono ?_
   rintro e w2 ⟨rfl,tag2,h2,s2⟩
   exact⟨rfl,tag2,L1.step s2 (by unfold CFi;omega) h2,((s0.trans (Step.of_below hb)).mono fun _ h=>h.elim).trans (s2.mono fun c hc=>CA_CFi hc)⟩
  have hwf:WF (x.uf (za.keyF a page)).2∧((x.uf (za.keyF a page)).1.2=0→∃f:Nat,(x.uf (za.keyF a page)).1.1=f∧f<1024):=wf.uf hkey
  have HW:=Lib.hid hw0
  obtain⟨D,hD⟩:∃D,D=x.uf (za.keyF a page):=⟨_,rfl⟩
  rw[←hD]at hR FW hwf
  obtain⟨⟨df,dc⟩,dy⟩:=D
  dsimp only at hR FW hwf
  have HR:=Lib.hid hR
  have HV:=Lib.hid (And.intro hwf (And.intro hn (And.intro hp hpg)))
  obtain⟨kk,hkk⟩:∃kk,kk=za.keyF a page:=⟨_,rfl⟩
  rw[←hkk]at KW FW
  have hkb:(a.kind==1)=false:=beq_eq_false_iff_ne.2 hk
  have hkp:(a.kind=1)=False:=eq_false hk
  unfold ptrV
  unfold Ar.enc at KW⊢
  clear h L0 s0 hR hw0 wf hk hkey hD hkk hwf hp hsd ha hn
  go_enter Tryz.func212,Tryz.ntmps212
  go_wp2_with fail
  rw[←HW.out]
  refine KW.out.mono ?_
  rintro e w1 ⟨rfl,hb1⟩
  have F1:=Lib.hid (FW.out w1 hb1)
  clear hb1 KW FW
  go_wp2_with fail
  refine F1.out.mono ?_
  rintro e w2 ⟨rfl,tag2,L2,s2⟩
  clear F1 a0 a1 a2 a3 a4 a5 g0 g1
  by_cases hc:dc=0
  ·subst hc
   obtain⟨f,rfl,hf⟩:=HV.out.1.2 rfl
   have g0:w2.cell? ⟨w.heap.size,0,none⟩=some (.int .i64 n):=L2.get 0 rfl
   have g1:w2.cell? ⟨w.heap.size,1,none⟩=some (.int .i64 page):=L2.get 1 rfl
   have PW:=Lib.hid (Yp L2.sp HV.out.1.1 n page HV.out.2.1 HV.out.2.2.2 ⟨1,(f:Int),false⟩ (by simp[Ent.ok,most];omega))
   unfold ptrV entV at PW
   dsimp only at PW
   have S2:=Lib.hid s2
   clear L2 s2
   go_wp2_with fail
   refine PW.out.mono ?_
   rintro e w3 ⟨rfl,tag3,h3,s3⟩
   have H3:=Lib.hid (And.intro h3 s3)
   clear h3 s3 PW g0 g1
   go_wp2_with fail
   have e1:R=(((f:Int),(dy.putF n page ⟨1,(f:Int),false⟩).1),(dy.putF n page ⟨1,(f:Int),false⟩).2):=by rw[HR.out];rfl
   rw[e1]
   exact bodyPost_ret (v:=.tuple #[.int .i64 f,.int .i64 (dy.putF n page ⟨1,(f:Int),false⟩).1]) (by simp[results,Tryz.results212,go_sem]) rfl ⟨rfl,tag3,H3.out.1,S2.out.trans (H3.out.2.mono fun c hc=>Jq HV.out.2.1 hc)⟩
  ·have n1:(dc==0)=false:=beq_eq_false_iff_ne.2 hc
   have n2:(dc=0)=False:=eq_false hc
   have H2:=Lib.hid (And.intro L2.sp s2)
   have HC:=Lib.hid hc
   clear L2 s2 hc
   go_wp2_with fail
   have e1:R=((0,dc),dy):=by rw[HR.out];exact if_neg HC.out
   rw[e1]
   exact bodyPost_ret (v:=.tuple #[.int .i64 0,.int .i64 dc]) (by simp[results,Tryz.results212,go_sem]) rfl ⟨rfl,tag2,H2.out⟩
 ·rw[if_neg hk]at hR
  have hk1:a.kind=1:=by omega
  have g0:w0.cell? ⟨w.heap.size,0,none⟩=some (.int .i64 n):=L0.get 0 rfl
  have g1:w0.cell? ⟨w.heap.size,1,none⟩=some (.int .i64 page):=L0.get 1 rfl
  have a2:w0.cell? ⟨w.heap.size+1,2,none⟩=some (.bool a.write):=L0.get 4 rfl
  have a3:w0.cell? ⟨w.heap.size+1,3,none⟩=some (.int .i64 1):=by rw[←hk1];exact L0.get 5 rfl
  have c0:w0.cell? ⟨q.sp,0,none⟩=some (.pointer (some ⟨q.rp,0,none⟩)):=L0.cell (i:=0) (by omega)
  have FZ:Hid (Calls Tryz.prog 213 #[.pointer (some ⟨q.sp,0,none⟩),.int .i64 3,.func (.func 163) #[.pointer (some ⟨q.rp,0,none⟩)] #[]] w0 fun e w2=>e=.returned (.tuple #[.int .i64 (x.yt 3).1.1,.int .i64 (x.yt 3).1.2])∧∃tag2,Loc w2 tag2 q (x.yt 3).2 (zif w.heap.size n page a)∧Step CA tag w tag2 w2):=by
   rcases wf.yt 3 with⟨hnx,e⟩|⟨f,hnx,e,d0⟩
   ·rw[e]
    refine(Yd L0.sp 3 (by omega) hnx _).mono ?_
    rintro e w2 ⟨rfl,hb⟩
    exact⟨rfl,tag0,L0.below hb,(s0.trans (Step.of_below hb)).mono fun _ h=>h.elim⟩
   ·rw[e]
    refine(zd6 L0.sp 3 (by omega) f hnx d0.was.1 (wf.ji d0.was.1 (by have:=d0.was.2;omega))).mono ?_
    rintro e w2 ⟨rfl,h2,s2⟩
    exact⟨rfl,tag0,L0.step s2 (by omega) h2,(s0.mono fun _ h=>h.elim).trans (s2.mono fun c hc=>by unfold CA;omega)⟩
  have hwf:WF (x.yt 3).2∧(x.yt 3).2.T=x.T∧((x.yt 3).1.2=0→∃f:Nat,(x.yt 3).1.1=f∧f<1024∧(x.yt 3).2.P.use f=3):=by
   rcases wf.yt 3 with⟨hnx,e⟩|⟨f,hnx,e,d0⟩
   ·rw[e];exact⟨wf,rfl,fun e=>by simp at e⟩
   ·rw[e];exact⟨d0.wf,d0.keep.1,fun _=>⟨f,rfl,d0.was.1,if_pos rfl⟩⟩
  have HW:=Lib.hid hw0
  obtain⟨D,hD⟩:∃D,D=x.yt 3:=⟨_,rfl⟩
  rw[←hD]at hR FZ hwf
  obtain⟨⟨df,dc⟩,dy⟩:=D
  dsimp only at hR FZ hwf
  have HR:=Lib.hid hR
  have HV:=Lib.hid (And.intro hwf (And.intro hn (And.intro hp hpg)))
  have HO:=Lib.hid h.out
  unfold ptrV
  unfold Ar.enc
  rw[hk1]at HW⊢
  rw[HW.out]at c0
  clear h L0 s0 hR hw0 wf hk hD hwf hp hsd ha hn
  go_enter Tryz.func212,Tryz.ntmps212
  go_wp2_with fail
  rw[←HW.out]
  refine FZ.out.mono ?_
  rintro e w2 ⟨rfl,tag2,L2,s2⟩
  clear FZ a2 a3 g0 g1 c0
  by_cases hc:dc=0
  ·subst hc
   obtain⟨f,rfl,hf,hfu⟩:=HV.out.1.2.2 rfl
   have g0:w2.cell? ⟨w.heap.size,0,none⟩=some (.int .i64 n):=L2.get 0 rfl
   have g1:w2.cell? ⟨w.heap.size,1,none⟩=some (.int .i64 page):=L2.get 1 rfl
   have a2:w2.cell? ⟨w.heap.size+1,2,none⟩=some (.bool a.write):=L2.get 4 rfl
   obtain⟨P,hP⟩:∃P,P=dy.putF n page ⟨1,(f:Int),a.write⟩:=⟨_,rfl⟩
   have PW:Hid (Calls Tryz.prog 88 #[.pointer (some ⟨q.sp,0,none⟩),.agg #[.int .i64 n,.int .i64 page],.agg #[.int .i64 1,.int .i64 f,.bool a.write]] w2 fun e w3=>e=.returned (.int .i64 P.1)∧∃tag3,zb w3 tag3 q P.2∧Step CA tag w tag3 w3):=by
    rw[hP]
    refine(Yp L2.sp HV.out.1.1 n page HV.out.2.1 HV.out.2.2.2 ⟨1,(f:Int),a.write⟩ (by simp[Ent.ok,most];omega)).mono ?_
    rintro e w3 ⟨rfl,tag3,h3,s3⟩
    exact⟨rfl,tag3,h3,s2.trans (s3.mono fun c hc=>Jq HV.out.2.1 hc)⟩
   have hu2:P.1≠0→P.2.P.use f=3:=fun hc=>by
    have hp':dy.T n=some pr:=by rw[HV.out.1.2.1];exact HV.out.2.2.1
    have d:=HV.out.1.1.putF HV.out.2.1 hp' HV.out.2.2.2 (e:=⟨1,(f:Int),a.write⟩) (by simp[Ent.ok,most];omega)
    rw[hP]at hc⊢
    rw[d.use f (fun ho=>by have:=(HV.out.1.1.xn ho).2.1;omega) (by omega),if_neg fun q=>hc q.1]
    exact hfu
   have HP:=Lib.hid (And.intro hP (And.intro hu2 hf))
   clear L2 s2 hP hu2 hfu hf
   go_wp2_with fail
   refine PW.out.mono ?_
   rintro e w3 ⟨rfl,tag3,h3,s3⟩
   obtain⟨pc,py⟩:=P
   dsimp only at HP h3⊢
   have HRR:Hid (R=if pc=0 then(((f:Int),0),py)else((0,pc),py.uw (f:Int))):=by
    have:=HR.out
    first|rw[if_pos rfl,←HP.out.1]at this|rw[if_pos trivial,←HP.out.1]at this
    exact this
   clear PW g0 g1 a2
   by_cases hc:pc=0
   ·subst hc
    have H3:=Lib.hid (And.intro h3 s3)
    clear h3 s3
    go_wp2_with fail
    rw[HRR.out]
    first|rw[if_pos rfl]|rw[if_pos trivial]
    exact bodyPost_ret (v:=.tuple #[.int .i64 f,.int .i64 0]) (by simp[results,Tryz.results212,go_sem]) rfl ⟨rfl,tag3,H3.out⟩
   ·have n1:(pc==0)=false:=beq_eq_false_iff_ne.2 hc
    have n2:(pc=0)=False:=eq_false hc
    have g2:w3.cell? ⟨q.sp,2,none⟩=some (.pointer (some ⟨q.pp,0,none⟩)):=h3.row.cell (i:=2) (by omega)
    have FR:Hid (Calls Tryz.prog 44 #[.pointer (some ⟨q.pp,0,none⟩),.int .i64 f] w3 fun e w4=>e=.returned (.bool true)∧zb w4 tag3 q (py.uw (f:Int))∧Step CA tag w tag3 w4):=by
     have hu:=HP.out.2.1 hc
     refine(V9 _ _ _ _ _ _ h3.pool f f rfl HP.out.2.2 (by omega) (by omega)).mono ?_
     rintro e w4 ⟨rfl,k1,k2⟩
     have k:=h3.za7 k2 k1
     have ef:py.uw (f:Int)={py with P:=py.P.set f 1}:=by
      unfold za.uw zk.free
      rw[if_pos,Int.toNat_natCast]
      unfold zk.used
      rw[decide_eq_true_eq,Int.toNat_natCast,hu]
      have:=HP.out.2.2
      omega
     rw[ef]
     exact⟨rfl,k.1,s3.trans (k.2.mono fun c hc=>by unfold CA;omega)⟩
    have HC:=Lib.hid hc
    clear h3 s3 hc
    go_wp2_with fail
    refine FR.out.mono ?_
    rintro e w4 ⟨rfl,h4⟩
    have H4:=Lib.hid h4
    clear h4 FR g2
    go_wp2_with fail
    rw[HRR.out,if_neg HC.out]
    exact bodyPost_ret (v:=.tuple #[.int .i64 0,.int .i64 pc]) (by simp[results,Tryz.results212,go_sem]) rfl ⟨rfl,tag3,H4.out⟩
  ·have n1:(dc==0)=false:=beq_eq_false_iff_ne.2 hc
   have n2:(dc=0)=False:=eq_false hc
   have H2:=Lib.hid (And.intro L2.sp s2)
   have HC:=Lib.hid hc
   clear L2 s2 hc
   go_wp2_with fail
   have e1:R=((0,dc),dy):=by rw[HR.out];exact if_neg HC.out
   rw[e1]
   exact bodyPost_ret (v:=.tuple #[.int .i64 0,.int .i64 dc]) (by simp[results,Tryz.results212,go_sem]) rfl ⟨rfl,tag2,H2.out⟩
end
section
variable {w w':World}{tag tag':Nat→Nat}{q:Sq}{x:za}
theorem zb.zd0(h:zb w tag q x)(n:Nat)(hs:(x.T n).isSome=true):(Instr.lookup 53 (.map (some q.pm)) (.int .i64 n) false).run Tryz.prog w=.ok (.pointer (some ⟨(q.U n).ap,0,none⟩)) w:=by
 obtain⟨PV,m,nd,kb,hg⟩:=h.map
 have hn:n<8:=by
  rcases Nat.lt_or_ge n 8 with h8|h8
  ·exact h8
  ·rw[h.out n h8]at hs;cases hs
 have e:=hg n hn
 have hl:=jw (T:=53) Ur Tryz.underlying53 (.pointer none) zbr m (n:Int) false
 rw[e]at hl
 obtain⟨pr,hpr⟩:=Option.isSome_iff_exists.1 hs
 rw[hpr]at hl
 exact hl
theorem za6(h:zb w tag q x)(n page:Nat)(pr:yj)(hn:n<8)(hp:x.T n=some pr)(a:Ar)(N:List Nat→Option Nat)(ok:xm ⟨x.R,x.P,pr.T⟩ N)(hpg:page<4096)(old:Ent)(hold:mapOf x.R N page=old)(hk:old.kind=1):
  Calls Tryz.prog 168 #[ptrV q.sp,.agg #[.int .i64 n,.int .i64 page],a.enc] w fun r w'=>r=.returned (.tuple #[.int .i64 old.n,.int .i64 0])∧∃tag',zb w' tag' q x∧Step (CP n) tag w tag' w':=by
 obtain⟨w0,hw0⟩:∃w0,w0=(w.alloc (.cells #[.int .i64 n,.int .i64 page] 58 (0,0))).alloc (.cells #[.int .i64 a.from_,.int .i64 a.pages,.bool a.write,.int .i64 a.kind,.int .i64 a.file,.int .i64 a.off] 32 (0,0)):=⟨_,rfl⟩
 have hb0:Below w.heap.size w w0:=by rw[hw0];exact((Below.refl w.heap.size w).alloc (Nat.le_refl _) _).alloc (by simp) _
 have z0:w0.heap.size=w.heap.size+2:=by rw[hw0];simp
 have nb4:w0.heap[w.heap.size]?=some (.cells #[.int .i64 n,.int .i64 page] 58 (0,0)):=by
  rw[hw0,Below.heap_alloc _ _ _ (by simp)]
  exact heap_alloc_new w _
 have s0:Step (CP n) tag w (retag tag w 0) w0:=Step.anew hb0
 have h0:zb w0 (retag tag w 0) q x:=h.step (Step.anew hb0)
 have d40:w0.cell? ⟨w.heap.size,0,none⟩=some (.int .i64 n):=by rw[cell_of_row _ _ 0 _ _ _ nb4];rfl
 have d41:w0.cell? ⟨w.heap.size,1,none⟩=some (.int .i64 page):=by rw[cell_of_row _ _ 1 _ _ _ nb4];rfl
 obtain⟨av,r1,_,_⟩:=(h0.procs n pr hn hp).row
 have c0:w0.cell? ⟨(q.U n).ap,0,none⟩=some (.pointer (some ⟨(q.U n).tp,0,none⟩)):=r1.cell (i:=0) (by omega)
 have c6:w0.cell? ⟨q.sp,6,none⟩=some (.map (some q.pm)):=h0.row.cell (i:=6) (by omega)
 have hs:(x.T n).isSome=true:=by rw[hp];rfl
 have lk:∀W',Below w0.heap.size w0 W'→(Instr.lookup 53 (.map (some q.pm)) (.int .i64 n) false).run Tryz.prog W'=.ok (.pointer (some ⟨(q.U n).ap,0,none⟩)) W':=fun W' hW'=>(h0.below hW').zd0 n hs
 have lk1:=lk w0.drew (Below.refl _ _).drew
 have lk2:=fun o=>lk (w0.alloc o).drew (((Below.refl _ _).alloc (Nat.le_refl _) o).drew)
 have G:Hid (∀W',Below w0.heap.size w0 W'→Calls Tryz.prog 35 #[.pointer (some ⟨(q.U n).tp,0,none⟩),.int .i64 page] W' fun r w2=>r=.returned (.tuple #[entV old,.int .i64 0])∧Below W'.heap.size W' w2):=fun W' hW'=>by
  rw[←hold]
  exact Vb _ _ _ _ _ ((h0.below hW').rpt hn hp) ok.tree page page rfl hpg
 have kp:∀w2,Below w0.heap.size w0 w2→(w2.cell? ⟨(q.U n).ap,0,none⟩=some (.pointer (some ⟨(q.U n).tp,0,none⟩))∧w2.cell? ⟨q.sp,6,none⟩=some (.map (some q.pm))∧w2.cell? ⟨w.heap.size,0,none⟩=some (.int .i64 n)∧w2.cell? ⟨w.heap.size,1,none⟩=some (.int .i64 page))∧¬w2.heap.size=(q.U n).ap∧¬w2.heap.size=w.heap.size∧¬w2.heap.size=q.sp:=fun w2 hb=>by
  have l1:=World.block_lt_of_cell? _ _ c0
  have l2:=World.block_lt_of_cell? _ _ c6
  have l3:=World.block_lt_of_cell? _ _ d40
  have hz:=hb.size
  dsimp only at l1 l2 l3
  exact⟨⟨(hb.cell l1).trans c0,(hb.cell l2).trans c6,(hb.cell l3).trans d40,(hb.cell (World.block_lt_of_cell? _ _ d41)).trans d41⟩,by omega,by omega,by omega⟩
 have ka:∀o,(w0.alloc o).cell? ⟨(q.U n).ap,0,none⟩=some (.pointer (some ⟨(q.U n).tp,0,none⟩))∧(w0.alloc o).cell? ⟨q.sp,6,none⟩=some (.map (some q.pm))∧(w0.alloc o).cell? ⟨w.heap.size,0,none⟩=some (.int .i64 n)∧(w0.alloc o).cell? ⟨w.heap.size,1,none⟩=some (.int .i64 page):=fun o=>(kp _ ((Below.refl _ _).alloc (Nat.le_refl _) o)).1
 have ka0:=fun o=>(ka o).1
 have ka1:=fun o=>(ka o).2.1
 have ka2:=fun o=>(ka o).2.2.1
 have ka3:=fun o=>(ka o).2.2.2
 obtain⟨_,e1,e2,e3⟩:=kp w0 (Below.refl _ _)
 have e1':¬w.heap.size+2=(q.U n).ap:=by omega
 have e3':¬w.heap.size+2=q.sp:=by omega
 have G1:Hid (Calls Tryz.prog 35 #[.pointer (some ⟨(q.U n).tp,0,none⟩),.int .i64 page] w0.drew fun r w2=>r=.returned (.tuple #[entV old,.int .i64 0])∧(w2.cell? ⟨(q.U n).ap,0,none⟩=some (.pointer (some ⟨(q.U n).tp,0,none⟩))∧w2.cell? ⟨q.sp,6,none⟩=some (.map (some q.pm))∧w2.cell? ⟨w.heap.size,0,none⟩=some (.int .i64 n)∧w2.cell? ⟨w.heap.size,1,none⟩=some (.int .i64 page))∧
   (∀o,(w2.alloc o).cell? ⟨(q.U n).ap,0,none⟩=some (.pointer (some ⟨(q.U n).tp,0,none⟩)))∧(∀o,(w2.alloc o).cell? ⟨q.sp,6,none⟩=some (.map (some q.pm)))∧(∀o,(w2.alloc o).cell? ⟨w.heap.size,0,none⟩=some (.int .i64 n))∧(∀o,(w2.alloc o).cell? ⟨w.heap.size,1,none⟩=some (.int .i64 page))∧(¬w2.heap.size=(q.U n).ap∧¬w2.heap.size=w.heap.size∧¬w2.heap.size=q.sp)∧Below w0.heap.size w0 w2):=by
  refine(G.out w0.drew (Below.refl _ _).drew).mono ?_
  rintro r w2 ⟨rfl,hb⟩
  have hb:Below w0.heap.size w0 w2:=⟨hb.os,hb.tape,hb.output,hb.size,hb.block⟩
  have k:=kp w2 hb
  have ko:=fun o=>(kp (w2.alloc o) (hb.alloc hb.size o)).1
  exact⟨rfl,k.1,fun o=>(ko o).1,fun o=>(ko o).2.1,fun o=>(ko o).2.2.1,fun o=>(ko o).2.2.2,k.2,hb⟩
 have G2:Hid (Calls Tryz.prog 35 #[.pointer (some ⟨(q.U n).tp,0,none⟩),.int .i64 page] (w0.alloc (.cells #[.int .i64 0,.int .i64 0,.bool false] 70)).drew fun r w2=>r=.returned (.tuple #[entV old,.int .i64 0])∧(w2.cell? ⟨(q.U n).ap,0,none⟩=some (.pointer (some ⟨(q.U n).tp,0,none⟩))∧w2.cell? ⟨q.sp,6,none⟩=some (.map (some q.pm))∧w2.cell? ⟨w.heap.size,0,none⟩=some (.int .i64 n)∧w2.cell? ⟨w.heap.size,1,none⟩=some (.int .i64 page))∧
   (w2.cell? ⟨w.heap.size+2,0,none⟩=some (.int .i64 0)∧w2.cell? ⟨w.heap.size+2,1,none⟩=some (.int .i64 0)∧w2.cell? ⟨w.heap.size+2,2,none⟩=some (.bool false)∧w2.frozen? ⟨w.heap.size+2,0,none⟩=false∧w2.frozen? ⟨w.heap.size+2,1,none⟩=false∧w2.frozen? ⟨w.heap.size+2,2,none⟩=false)∧Below w0.heap.size w0 w2):=by
  refine(G.out _ ((Below.refl _ _).alloc (Nat.le_refl _) _).drew).mono ?_
  rintro r w2 ⟨rfl,hb⟩
  have hb:Below (w0.alloc (.cells #[.int .i64 0,.int .i64 0,.bool false] 70)).heap.size (w0.alloc (.cells #[.int .i64 0,.int .i64 0,.bool false] 70)) w2:=⟨hb.os,hb.tape,hb.output,hb.size,hb.block⟩
  have nb:=(hb.block w0.heap.size (by simp)).trans (heap_alloc_new w0 (.cells #[.int .i64 0,.int .i64 0,.bool false] 70))
  rw[z0]at nb
  have hbb:Below w0.heap.size w0 w2:=((Below.refl _ _).alloc (Nat.le_refl _) _).trans (hb.mono (by simp))
  exact⟨rfl,(kp w2 hbb).1,⟨by rw[cell_of_row _ _ 0 _ _ _ nb];rfl,by rw[cell_of_row _ _ 1 _ _ _ nb];rfl,by rw[cell_of_row _ _ 2 _ _ _ nb];rfl,by simp[World.frozen?,nb],by simp[World.frozen?,nb],by simp[World.frozen?,nb]⟩,hbb⟩
 have fin:Hid (∀W3,Turn (fun _=>False) w0 W3→∃tag',zb W3 tag' q x∧Step (CP n) tag w tag' W3):=fun W3 t=>⟨retag tag w 0,h0.below t.below,s0.trans (Step.of_below t.below)⟩
 have HW:=Lib.hid hw0
 unfold entV at G1 G2
 unfold ptrV Ar.enc
 have hk1:((old.kind:Int)==3)=false:=beq_eq_false_iff_ne.2 (by omega)
 have hk2:((old.kind:Int)==2)=false:=beq_eq_false_iff_ne.2 (by omega)
 have hk3:((old.kind:Int)==0)=false:=beq_eq_false_iff_ne.2 (by omega)
 rw[HW.out]at d40 d41 c0 c6
 clear h hb0 nb4 s0 h0 r1 hs lk kp ka G hw0 hold hk
 go_enter Tryz.func168,Tryz.ntmps168
 go_wp2_with fail
 rw[←HW.out]
 rw[←HW.out]at d40 d41 c0 c6
 go_region_held (fun W'=>W'.cell? ⟨(q.U n).ap,0,none⟩=some (.pointer (some ⟨(q.U n).tp,0,none⟩))∧W'.cell? ⟨q.sp,6,none⟩=some (.map (some q.pm))∧W'.cell? ⟨w.heap.size,0,none⟩=some (.int .i64 n)∧W'.cell? ⟨w.heap.size,1,none⟩=some (.int .i64 page)) (go_keep)
  (first
   | (go_at_call 35;refine G1.out.mono ?_;rintro r w2 ⟨rfl,⟨g1,g2,g3,g4⟩,y0,y1,y2,y3,⟨n1,n2,n3⟩,HX⟩;have hX:=Lib.hid HX;clear HX)
   | (go_at_call 35;refine G2.out.mono ?_;rintro r w2 ⟨rfl,⟨g1,g2,g3,g4⟩,⟨y0,y1,y2,y3,y4,y5⟩,HX⟩;have hX:=Lib.hid HX;clear HX))
 ·clear g1 g2 g3 g4 y0 y1 y2 y3 n1 n2 n3 d40 d41 c0 c6 ka0 ka1 ka2 ka3 lk1 lk2
  go_wp2_with fail
  exact bodyPost_ret (v:=.tuple #[.int .i64 old.n,.int .i64 0]) (by simp[results,Tryz.results168,go_sem]) rfl ⟨rfl,fin.out _ ((Turn.of_below hX.out).alloc _)⟩
 all_goals (
  have tX:Hid (∀a b c,Turn (fun _=>False) w0 (((w2.setCell ⟨w.heap.size+2,0,none⟩ a).setCell ⟨w.heap.size+2,1,none⟩ b).setCell ⟨w.heap.size+2,2,none⟩ c)):=fun a b c=>
   (((Turn.of_below hX.out).set (p:=⟨w.heap.size+2,0,none⟩) (.inr (Nat.le_of_eq z0)) a).set (p:=⟨w.heap.size+2,1,none⟩) (.inr (Nat.le_of_eq z0)) b).set (p:=⟨w.heap.size+2,2,none⟩) (.inr (Nat.le_of_eq z0)) c
  clear g1 g2 g3 g4 d40 d41 c0 c6 ka0 ka1 ka2 ka3 lk1 lk2
  go_wp2_with fail
  exact bodyPost_ret (v:=.tuple #[.int .i64 old.n,.int .i64 0]) (by simp[results,Tryz.results168,go_sem]) rfl ⟨rfl,fin.out _ (tX.out _ _ _)⟩)
end
section
variable {w w':World}{tag tag':Nat→Nat}{q:Sq}{x:za}
theorem zb7(h:zb w tag q x)(n page:Nat)(pr:yj)(hn:n<8)(hp:x.T n=some pr)(a:Ar)(N:List Nat→Option Nat)(ok:xm ⟨x.R,x.P,pr.T⟩ N)(hpg:page<4096)(old:Ent)(hold:mapOf x.R N page=old)(hk:old.kind=0)(Z:Value→World→Prop)(hF:∀W tag',zb W tag' q x→Step (CP n) tag w tag' W→Calls Tryz.prog 212 #[ptrV q.sp,.agg #[.int .i64 n,.int .i64 page],a.enc] W fun r w'=>∃v c,r=.returned (.tuple #[.int .i64 v,.int .i64 c])∧Z (.tuple #[.int .i64 v,.int .i64 c]) w'):
  Calls Tryz.prog 168 #[ptrV q.sp,.agg #[.int .i64 n,.int .i64 page],a.enc] w fun r w'=>∃v c,r=.returned (.tuple #[.int .i64 v,.int .i64 c])∧Z (.tuple #[.int .i64 v,.int .i64 c]) w':=by
 obtain⟨w0,hw0⟩:∃w0,w0=(w.alloc (.cells #[.int .i64 n,.int .i64 page] 58 (0,0))).alloc (.cells #[.int .i64 a.from_,.int .i64 a.pages,.bool a.write,.int .i64 a.kind,.int .i64 a.file,.int .i64 a.off] 32 (0,0)):=⟨_,rfl⟩
 have hb0:Below w.heap.size w w0:=by rw[hw0];exact((Below.refl w.heap.size w).alloc (Nat.le_refl _) _).alloc (by simp) _
 have z0:w0.heap.size=w.heap.size+2:=by rw[hw0];simp
 have nb4:w0.heap[w.heap.size]?=some (.cells #[.int .i64 n,.int .i64 page] 58 (0,0)):=by
  rw[hw0,Below.heap_alloc _ _ _ (by simp)]
  exact heap_alloc_new w _
 have nb5:w0.heap[w.heap.size+1]?=some (.cells #[.int .i64 a.from_,.int .i64 a.pages,.bool a.write,.int .i64 a.kind,.int .i64 a.file,.int .i64 a.off] 32 (0,0)):=by
  rw[hw0]
  have:=heap_alloc_new (w.alloc (.cells #[.int .i64 n,.int .i64 page] 58 (0,0))) (.cells #[.int .i64 a.from_,.int .i64 a.pages,.bool a.write,.int .i64 a.kind,.int .i64 a.file,.int .i64 a.off] 32 (0,0))
  rw[World.size_alloc]at this
  exact this
 have s0:Step (CP n) tag w (retag tag w 0) w0:=Step.anew hb0
 have h0:zb w0 (retag tag w 0) q x:=h.step (Step.anew hb0)
 have d40:w0.cell? ⟨w.heap.size,0,none⟩=some (.int .i64 n):=by rw[cell_of_row _ _ 0 _ _ _ nb4];rfl
 have d41:w0.cell? ⟨w.heap.size,1,none⟩=some (.int .i64 page):=by rw[cell_of_row _ _ 1 _ _ _ nb4];rfl
 obtain⟨av,r1,_,_⟩:=(h0.procs n pr hn hp).row
 have c0:w0.cell? ⟨(q.U n).ap,0,none⟩=some (.pointer (some ⟨(q.U n).tp,0,none⟩)):=r1.cell (i:=0) (by omega)
 have c6:w0.cell? ⟨q.sp,6,none⟩=some (.map (some q.pm)):=h0.row.cell (i:=6) (by omega)
 have hs:(x.T n).isSome=true:=by rw[hp];rfl
 have lk:∀W',Below w0.heap.size w0 W'→(Instr.lookup 53 (.map (some q.pm)) (.int .i64 n) false).run Tryz.prog W'=.ok (.pointer (some ⟨(q.U n).ap,0,none⟩)) W':=fun W' hW'=>(h0.below hW').zd0 n hs
 have lk1:=lk w0.drew (Below.refl _ _).drew
 have lk2:=fun o=>lk (w0.alloc o).drew (((Below.refl _ _).alloc (Nat.le_refl _) o).drew)
 have G:Hid (∀W',Below w0.heap.size w0 W'→Calls Tryz.prog 35 #[.pointer (some ⟨(q.U n).tp,0,none⟩),.int .i64 page] W' fun r w2=>r=.returned (.tuple #[entV old,.int .i64 0])∧Below W'.heap.size W' w2):=fun W' hW'=>by
  rw[←hold]
  exact Vb _ _ _ _ _ ((h0.below hW').rpt hn hp) ok.tree page page rfl hpg
 have kp:∀w2,Below w0.heap.size w0 w2→(w2.cell? ⟨(q.U n).ap,0,none⟩=some (.pointer (some ⟨(q.U n).tp,0,none⟩))∧w2.cell? ⟨q.sp,6,none⟩=some (.map (some q.pm))∧w2.cell? ⟨w.heap.size,0,none⟩=some (.int .i64 n)∧w2.cell? ⟨w.heap.size,1,none⟩=some (.int .i64 page))∧¬w2.heap.size=(q.U n).ap∧¬w2.heap.size=w.heap.size∧¬w2.heap.size=q.sp:=fun w2 hb=>by
  have l1:=World.block_lt_of_cell? _ _ c0
  have l2:=World.block_lt_of_cell? _ _ c6
  have l3:=World.block_lt_of_cell? _ _ d40
  have hz:=hb.size
  dsimp only at l1 l2 l3
  exact⟨⟨(hb.cell l1).trans c0,(hb.cell l2).trans c6,(hb.cell l3).trans d40,(hb.cell (World.block_lt_of_cell? _ _ d41)).trans d41⟩,by omega,by omega,by omega⟩
 have ka:∀o,(w0.alloc o).cell? ⟨(q.U n).ap,0,none⟩=some (.pointer (some ⟨(q.U n).tp,0,none⟩))∧(w0.alloc o).cell? ⟨q.sp,6,none⟩=some (.map (some q.pm))∧(w0.alloc o).cell? ⟨w.heap.size,0,none⟩=some (.int .i64 n)∧(w0.alloc o).cell? ⟨w.heap.size,1,none⟩=some (.int .i64 page):=fun o=>(kp _ ((Below.refl _ _).alloc (Nat.le_refl _) o)).1
 have ka0:=fun o=>(ka o).1
 have ka1:=fun o=>(ka o).2.1
 have ka2:=fun o=>(ka o).2.2.1
 have ka3:=fun o=>(ka o).2.2.2
 obtain⟨_,e1,e2,e3⟩:=kp w0 (Below.refl _ _)
 have e1':¬w.heap.size+2=(q.U n).ap:=by omega
 have e3':¬w.heap.size+2=q.sp:=by omega
 have G1:Hid (Calls Tryz.prog 35 #[.pointer (some ⟨(q.U n).tp,0,none⟩),.int .i64 page] w0.drew fun r w2=>r=.returned (.tuple #[entV old,.int .i64 0])∧(w2.cell? ⟨(q.U n).ap,0,none⟩=some (.pointer (some ⟨(q.U n).tp,0,none⟩))∧w2.cell? ⟨q.sp,6,none⟩=some (.map (some q.pm))∧w2.cell? ⟨w.heap.size,0,none⟩=some (.int .i64 n)∧w2.cell? ⟨w.heap.size,1,none⟩=some (.int .i64 page))∧
   (∀o,(w2.alloc o).cell? ⟨(q.U n).ap,0,none⟩=some (.pointer (some ⟨(q.U n).tp,0,none⟩)))∧(∀o,(w2.alloc o).cell? ⟨q.sp,6,none⟩=some (.map (some q.pm)))∧(∀o,(w2.alloc o).cell? ⟨w.heap.size,0,none⟩=some (.int .i64 n))∧(∀o,(w2.alloc o).cell? ⟨w.heap.size,1,none⟩=some (.int .i64 page))∧(¬w2.heap.size=(q.U n).ap∧¬w2.heap.size=w.heap.size∧¬w2.heap.size=q.sp)∧Below w0.heap.size w0 w2):=by
  refine(G.out w0.drew (Below.refl _ _).drew).mono ?_
  rintro r w2 ⟨rfl,hb⟩
  have hb:Below w0.heap.size w0 w2:=⟨hb.os,hb.tape,hb.output,hb.size,hb.block⟩
  have k:=kp w2 hb
  have ko:=fun o=>(kp (w2.alloc o) (hb.alloc hb.size o)).1
  exact⟨rfl,k.1,fun o=>(ko o).1,fun o=>(ko o).2.1,fun o=>(ko o).2.2.1,fun o=>(ko o).2.2.2,k.2,hb⟩
 have G2:Hid (Calls Tryz.prog 35 #[.pointer (some ⟨(q.U n).tp,0,none⟩),.int .i64 page] (w0.alloc (.cells #[.int .i64 0,.int .i64 0,.bool false] 70)).drew fun r w2=>r=.returned (.tuple #[entV old,.int .i64 0])∧(w2.cell? ⟨(q.U n).ap,0,none⟩=some (.pointer (some ⟨(q.U n).tp,0,none⟩))∧w2.cell? ⟨q.sp,6,none⟩=some (.map (some q.pm))∧w2.cell? ⟨w.heap.size,0,none⟩=some (.int .i64 n)∧w2.cell? ⟨w.heap.size,1,none⟩=some (.int .i64 page))∧
   (w2.cell? ⟨w.heap.size+2,0,none⟩=some (.int .i64 0)∧w2.cell? ⟨w.heap.size+2,1,none⟩=some (.int .i64 0)∧w2.cell? ⟨w.heap.size+2,2,none⟩=some (.bool false)∧w2.frozen? ⟨w.heap.size+2,0,none⟩=false∧w2.frozen? ⟨w.heap.size+2,1,none⟩=false∧w2.frozen? ⟨w.heap.size+2,2,none⟩=false)∧Below w0.heap.size w0 w2):=by
  refine(G.out _ ((Below.refl _ _).alloc (Nat.le_refl _) _).drew).mono ?_
  rintro r w2 ⟨rfl,hb⟩
  have hb:Below (w0.alloc (.cells #[.int .i64 0,.int .i64 0,.bool false] 70)).heap.size (w0.alloc (.cells #[.int .i64 0,.int .i64 0,.bool false] 70)) w2:=⟨hb.os,hb.tape,hb.output,hb.size,hb.block⟩
  have nb:=(hb.block w0.heap.size (by simp)).trans (heap_alloc_new w0 (.cells #[.int .i64 0,.int .i64 0,.bool false] 70))
  rw[z0]at nb
  have hbb:Below w0.heap.size w0 w2:=((Below.refl _ _).alloc (Nat.le_refl _) _).trans (hb.mono (by simp))
  exact⟨rfl,(kp w2 hbb).1,⟨by rw[cell_of_row _ _ 0 _ _ _ nb];rfl,by rw[cell_of_row _ _ 1 _ _ _ nb];rfl,by rw[cell_of_row _ _ 2 _ _ _ nb];rfl,by simp[World.frozen?,nb],by simp[World.frozen?,nb],by simp[World.frozen?,nb]⟩,hbb⟩
 have fin:Hid (∀W3,Turn (fun _=>False) w0 W3→(W3.cell? ⟨w.heap.size,0,none⟩=some (.int .i64 n)∧W3.cell? ⟨w.heap.size,1,none⟩=some (.int .i64 page)∧W3.cell? ⟨w.heap.size+1,0,none⟩=some (.int .i64 a.from_)∧W3.cell? ⟨w.heap.size+1,1,none⟩=some (.int .i64 a.pages)∧W3.cell? ⟨w.heap.size+1,2,none⟩=some (.bool a.write)∧W3.cell? ⟨w.heap.size+1,3,none⟩=some (.int .i64 a.kind)∧W3.cell? ⟨w.heap.size+1,4,none⟩=some (.int .i64 a.file)∧W3.cell? ⟨w.heap.size+1,5,none⟩=some (.int .i64 a.off))∧Calls Tryz.prog 212 #[ptrV q.sp,.agg #[.int .i64 n,.int .i64 page],a.enc] W3 fun r w'=>∃v c,r=.returned (.tuple #[.int .i64 v,.int .i64 c])∧Z (.tuple #[.int .i64 v,.int .i64 c]) w'):=fun W3 t=>by
  have n4:=(t.below.block w.heap.size (Array.getElem?_eq_some_iff.1 nb4).1).trans nb4
  have n5:=(t.below.block (w.heap.size+1) (Array.getElem?_eq_some_iff.1 nb5).1).trans nb5
  refine⟨⟨?_,?_,?_,?_,?_,?_,?_,?_⟩,hF W3 (retag tag w 0) (h0.below t.below) (s0.trans (Step.of_below t.below))⟩
  ·rw[cell_of_row _ _ 0 _ _ _ n4];rfl
  ·rw[cell_of_row _ _ 1 _ _ _ n4];rfl
  ·rw[cell_of_row _ _ 0 _ _ _ n5];rfl
  ·rw[cell_of_row _ _ 1 _ _ _ n5];rfl
  ·rw[cell_of_row _ _ 2 _ _ _ n5];rfl
  ·rw[cell_of_row _ _ 3 _ _ _ n5];rfl
  ·rw[cell_of_row _ _ 4 _ _ _ n5];rfl
  ·rw[cell_of_row _ _ 5 _ _ _ n5];rfl
 have HW:=Lib.hid hw0
 unfold entV at G1 G2
 unfold ptrV Ar.enc at fin
 unfold ptrV Ar.enc
 have hk1:((old.kind:Int)==3)=false:=beq_eq_false_iff_ne.2 (by omega)
 have hk2:((old.kind:Int)==2)=false:=beq_eq_false_iff_ne.2 (by omega)
 have hk3:((old.kind:Int)==0)=true:=beq_iff_eq.2 (by omega)
 rw[HW.out]at d40 d41 c0 c6
 clear h hb0 nb4 nb5 s0 h0 hF r1 hs lk kp ka G hw0 hold hk
 go_enter Tryz.func168,Tryz.ntmps168
 go_wp2_with fail
 rw[←HW.out]
 rw[←HW.out]at d40 d41 c0 c6
 go_region_held (fun W'=>W'.cell? ⟨(q.U n).ap,0,none⟩=some (.pointer (some ⟨(q.U n).tp,0,none⟩))∧W'.cell? ⟨q.sp,6,none⟩=some (.map (some q.pm))∧W'.cell? ⟨w.heap.size,0,none⟩=some (.int .i64 n)∧W'.cell? ⟨w.heap.size,1,none⟩=some (.int .i64 page)) (go_keep)
  (first
   | (go_at_call 35;refine G1.out.mono ?_;rintro r w2 ⟨rfl,⟨g1,g2,g3,g4⟩,y0,y1,y2,y3,⟨n1,n2,n3⟩,HX⟩;have hX:=Lib.hid HX;clear HX)
   | (go_at_call 35;refine G2.out.mono ?_;rintro r w2 ⟨rfl,⟨g1,g2,g3,g4⟩,⟨y0,y1,y2,y3,y4,y5⟩,HX⟩;have hX:=Lib.hid HX;clear HX))
 ·clear g1 g2 g3 g4 y0 y1 y2 y3 n1 n2 n3 d40 d41 c0 c6 ka0 ka1 ka2 ka3 lk1 lk2
  obtain⟨⟨t0,t1,t2,t3,t4,t5,t6,t7⟩,CF⟩:=fin.out _ ((Turn.of_below hX.out).alloc (.cells #[.int .i64 old.kind,.int .i64 old.n,.bool old.write] 70 (0,0)))
  have CF:=Lib.hid CF
  clear fin
  go_wp2_with fail
  refine CF.out.mono ?_
  rintro r w5 ⟨v,c,rfl,hz⟩
  have HZ:=Lib.hid hz
  clear hz t0 t1 t2 t3 t4 t5 t6 t7
  go_wp2_with fail
  exact bodyPost_ret (v:=.tuple #[.int .i64 v,.int .i64 c]) (by simp[results,Tryz.results168,go_sem]) rfl ⟨v,c,rfl,HZ.out⟩
 all_goals (
  have tX:Turn (fun _=>False) w0 (((w2.setCell ⟨w.heap.size+2,0,none⟩ (.int .i64 old.kind)).setCell ⟨w.heap.size+2,1,none⟩ (.int .i64 old.n)).setCell ⟨w.heap.size+2,2,none⟩ (.bool old.write)):=
   (((Turn.of_below hX.out).set (p:=⟨w.heap.size+2,0,none⟩) (.inr (Nat.le_of_eq z0)) _).set (p:=⟨w.heap.size+2,1,none⟩) (.inr (Nat.le_of_eq z0)) _).set (p:=⟨w.heap.size+2,2,none⟩) (.inr (Nat.le_of_eq z0)) _
  clear g1 g2 g3 g4 d40 d41 c0 c6 ka0 ka1 ka2 ka3 lk1 lk2
  obtain⟨⟨t0,t1,t2,t3,t4,t5,t6,t7⟩,CF⟩:=fin.out _ tX
  have CF:=Lib.hid CF
  clear fin
  go_wp2_with fail
  refine CF.out.mono ?_
  rintro r w5 ⟨v,c,rfl,hz⟩
  have HZ:=Lib.hid hz
  clear hz t0 t1 t2 t3 t4 t5 t6 t7
  go_wp2_with fail
  exact bodyPost_ret (v:=.tuple #[.int .i64 v,.int .i64 c]) (by simp[results,Tryz.results168,go_sem]) rfl ⟨v,c,rfl,HZ.out⟩)
end
end Go.Proofs.YtnhdmnijiphjjaaGreat
