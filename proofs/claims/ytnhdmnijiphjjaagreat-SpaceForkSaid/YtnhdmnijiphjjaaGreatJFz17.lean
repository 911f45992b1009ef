/- Processes: in: a slot's bytes come back, for all who hold it. -/
import Derived.Test.YtnhdmnijiphjjaaGreatJFz16
import Derived.Test.YtnhdmnijiphjjaaGreatJFz14
set_option linter.unusedVariables false
set_option linter.unusedSimpArgs false
set_option maxRecDepth 100000
set_option maxHeartbeats 2000000
namespace Go.Proofs.YtnhdmnijiphjjaaGreat
open Go Go.RowKit
section
variable {w w':World}{tag tag':Nat→Nat}{q:Sq}{x:za}
theorem zjd{bs bk:Nat}{k:Nat}(h:Loc w tag q x [(bs,0,ptrV q.sp),(bk,0,.int .i64 k)])(hk:k<32)(f:Nat)(hf:f<1024)(hb:x.R.bad f=false):
  Calls Tryz.prog 233 #[.int .i64 f,.pointer (some ⟨bs,0,none⟩),.pointer (some ⟨bk,0,none⟩)] w fun e w2=>∃c y tag2,e=.returned (.int .i64 c)∧zb w2 tag2 q y∧Step (fun c=>c=1∨c=3) tag w tag2 w2∧zmy x f (160+k) c y:=by
 have h0:=h.drew
 have g0:w.cell? ⟨bs,0,none⟩=some (.pointer (some ⟨q.sp,0,none⟩)):=h.get 0 rfl
 have g1:w.cell? ⟨bk,0,none⟩=some (.int .i64 k):=h.get 1 rfl
 have g3:w.cell? ⟨q.sp,1,none⟩=some (.pointer (some ⟨q.dp,0,none⟩)):=h.cell (i:=1) (by omega)
 obtain⟨rr,hrr⟩:∃rr,rr=x.D.work.2:=⟨_,rfl⟩
 have RD:Hid (Calls Tryz.prog 234 #[.pointer (some ⟨q.dp,0,none⟩),.int .i64 k] w.drew fun e w1=>∃v,e=.returned (.tuple #[v,.int .i64 rr])∧(w1.cell? ⟨bs,0,none⟩=some (.pointer (some ⟨q.sp,0,none⟩))∧w1.cell? ⟨bk,0,none⟩=some (.int .i64 k)∧w1.cell? ⟨q.sp,1,none⟩=some (.pointer (some ⟨q.dp,0,none⟩))∧w1.cell? ⟨q.sp,0,none⟩=some (.pointer (some ⟨q.rp,0,none⟩)))∧
   zb w1 tag q {x with D:=x.D.work.1}∧Step (fun c=>c=3) tag w tag w1∧(rr=0→ByAt w1 v (x.D.cur (160+k)))):=by
  obtain⟨sb,off,c,mb,V,L,hD⟩:=h0.sp.disk
  refine(zha w.drew hD k k rfl hk).mono ?_
  rintro e w1 ⟨v,rfl,hD1,t1,hv⟩
  have kk:=h0.sp.zgy t1 ⟨sb,off,c,mb,V,L,hD1⟩
  have L1:=h0.step kk.2 (by omega) kk.1
  refine⟨if rr=0 then v else .slice none 0 0,by rw[hrr];rfl,⟨L1.get 0 rfl,L1.get 1 rfl,L1.cell (i:=1) (by omega),L1.cell (i:=0) (by omega)⟩,kk.1,?_,fun e=>?_⟩
  ·exact(Step.of_below (Below.refl _ _).drew).trans kk.2
  ·rw[←hrr]at hv;rw[if_pos e];exact(hv e).1
 have hlen:(x.D.cur (160+k)).length=64:=by
  obtain⟨sb,off,c,mb,V,L,hD⟩:=h.sp.disk
  obtain⟨v,_,hv⟩:=Qm _ hD (160+k) (by omega)
  exact hv.1
 have HX:=Lib.hid (And.intro hf (And.intro hb (And.intro hrr hlen)))
 clear h h0 hf hb hrr hlen hk
 go_enter Tryz.func233,Tryz.ntmps233
 go_wp2_with fail
 go_region_held (fun W'=>W'.cell? ⟨bs,0,none⟩=some (.pointer (some ⟨q.sp,0,none⟩))∧W'.cell? ⟨bk,0,none⟩=some (.int .i64 k)∧W'.cell? ⟨q.sp,1,none⟩=some (.pointer (some ⟨q.dp,0,none⟩))) (go_keep)
  ((go_at_call 234;refine RD.out.mono ?_;rintro e w1 ⟨v,rfl,⟨m0,m1,m3,m4⟩,HS⟩;have hS:=Lib.hid HS;clear HS))
 clear RD g0 g1 g3
 by_cases hr:rr=0
 ·subst hr
  have hby:=hS.out.2.2 rfl
  have hl:=HX.out.2.2.2
  obtain⟨av,cv,rfl,_,_⟩:=SlAt.form hby
  have WR:Hid (Calls Tryz.prog 66 #[.pointer (some ⟨q.rp,0,none⟩),.int .i64 f,.int .i64 0,.slice av (x.D.cur (160+k)).length cv] w1 fun e w2=>e=.returned (.int .i64 0)∧zb w2 tag q {x with D:=x.D.work.1,R:=x.R.write f 0 (x.D.cur (160+k))}∧Step (fun c=>c=1) tag w1 tag w2):=by
   refine(Xx w1 _ _ _ _ hS.out.1.ram _ (x.D.cur (160+k)) (ByAt.reads hby) f 0 f 0 rfl rfl HX.out.1 (by omega) (by omega) HX.out.2.1).mono ?_
   rintro e w2 ⟨rfl,k1,k2,_⟩
   have kk:=hS.out.1.ram' k2 k1
   exact⟨rfl,kk.1,kk.2⟩
  generalize (x.D.cur (160+k)).length=nl at WR⊢
  clear hby hl
  go_wp2_with fail
  refine WR.out.mono ?_
  rintro e w2 ⟨rfl,h2,s2⟩
  have H2:=Lib.hid (And.intro h2 s2)
  clear h2 s2 m0 m1 m3 m4
  go_wp2_with fail
  exact bodyPost_ret (v:=.int .i64 0) (by simp[results,Tryz.results233,go_sem]) rfl ⟨0,_,tag,rfl,H2.out.1,(hS.out.2.1.mono fun c hc=>.inr hc).trans (H2.out.2.mono fun c hc=>.inl hc),.inl ⟨rfl,HX.out.2.2.1.symm,rfl⟩⟩
 ·have n1:((rr:Int)==0)=false:=beq_eq_false_iff_ne.2 (by omega)
  have n2:((rr:Int)=0)=False:=eq_false (by omega)
  have HR:=Lib.hid hr
  clear hr m0 m1 m3 m4
  go_wp2_with fail
  exact bodyPost_ret (v:=.int .i64 rr) (by simp[results,Tryz.results233,go_sem]) rfl ⟨rr,_,tag,rfl,hS.out.1,hS.out.2.1.mono fun c hc=>.inr hc,.inr ⟨by rw[HX.out.2.2.1],by rw[←HX.out.2.2.1];exact HR.out,rfl⟩⟩
theorem zb.ofS(h:zb w tag q x)(wf:WF x)(k:Nat)(hk:k<32):
  Calls Tryz.prog 112 #[.pointer (some ⟨q.wp,0,none⟩),.int .i64 k] w fun e w'=>∃v',e=.returned v'∧PlAt w' v' (x.S.getD k [])∧Below w.heap.size w w'∧∀b,v'.ownBlock=some b→w.heap.size≤b:=by
 obtain⟨S,V,hB,hS⟩:=h.swap
 have hl:k<x.S.length:=by rw[wf.slots.1];exact hk
 have e:x.S.getD k []=x.S[k]:=by rw[List.getD_eq_getElem?_getD,List.getElem?_eq_getElem hl];rfl
 have hm:=uj wf.slots k
 have hlen:=jk hm.1 hm.2
 rw[e]at hlen⊢
 exact zf1 w q.wp S V x.S hB k x.S[k] (List.getElem?_eq_getElem hl) (by omega)
def CA(c:Nat):Prop:=c=1∨c=2∨c=3∨c=4∨c=5∨c=6∨10≤c∧c<18
theorem Uz{n c:Nat}(hn:n<8)(h:CP n c):CA c:=by unfold CP at h;unfold CA;omega
theorem CA_CFi{c:Nat}(h:CFi c):CA c:=by unfold CFi at h;unfold CA;omega
theorem CA0:¬CA 0:=by unfold CA;omega
theorem Q4(x:za)(l:List (Int×Int))(p:Int×Int)(e:Ent):x.vg (l++[p]) e=((x.vg l e).putF p.1.toNat p.2.toNat e).2:=by
 unfold za.vg
 rw[List.foldl_append]
 rfl
theorem WF.putAny{x:za}(h:WF x)(o:∀n,8≤n→x.T n=none){n page:Nat}(hpg:page<4096){e:Ent}(he:e.ok=true):WF (x.putF n page e).2∧∀m,8≤m→(x.putF n page e).2.T m=none:=by
 cases hp:x.T n with
 | none=>
  have ev:x.putF n page e=(2,x):=by unfold za.putF;rw[hp]
  rw[ev]
  exact⟨h,o⟩
 | some pr=>
  have hn:n<8:=by
   rcases Nat.lt_or_ge n 8 with h8|h8
   ·exact h8
   ·rw[o n h8]at hp;cases hp
  have d:=h.putF hn hp hpg he
  refine⟨d.wf,fun m hm=>?_⟩
  rw[d.oth m (by omega)]
  exact o m hm
theorem WF.vg{x:za}(h:WF x)(o:∀n,8≤n→x.T n=none)(l:List (Int×Int))(hl:∀p∈l,InR p){e:Ent}(he:e.ok=true):WF (x.vg l e)∧∀m,8≤m→(x.vg l e).T m=none:=by
 induction l generalizing x with
 | nil=>exact⟨h,o⟩
 | cons p l ih=>
  obtain⟨a,b⟩:=h.putAny o (n:=p.1.toNat) (hl p (List.mem_cons_self ..)).plc.2.2 he
  exact ih a b fun q hq=>hl q (List.mem_cons_of_mem _ hq)
theorem zob(h:zb w tag q x)(wf:WF x)(k:Nat)(hk:k<32):
  Calls Tryz.prog 211 #[ptrV q.sp,.int .i64 k] w fun e w'=>e=.returned (.tuple #[.int .i64 (x.inF k).1.1,.int .i64 (x.inF k).1.2])∧∃tag',zb w' tag' q (x.inF k).2∧Step CA tag w tag' w':=by
 obtain⟨w0,hw0⟩:∃w0,w0=(w.alloc (.cells #[ptrV q.sp] 24 (0,0))).alloc (.cells #[.int .i64 k] 3 (0,0)):=⟨_,rfl⟩
 have hb0:Below w.heap.size w w0:=by rw[hw0];exact((Below.refl w.heap.size w).alloc (Nat.le_refl _) _).alloc (by simp) _
 have nb2:w0.heap[w.heap.size+1]?=some (.cells #[.int .i64 k] 3 (0,0)):=by
  rw[hw0]
  have:=heap_alloc_new (w.alloc (.cells #[ptrV q.sp] 24 (0,0))) (.cells #[.int .i64 k] 3 (0,0))
  rw[World.size_alloc]at this
  exact this
 have nb1:w0.heap[w.heap.size]?=some (.cells #[ptrV q.sp] 24 (0,0)):=by
  rw[hw0,Below.heap_alloc _ _ _ (by simp)]
  exact heap_alloc_new w _
 obtain⟨L0,s0⟩:=h.loc0.more hb0 [(w.heap.size,0,ptrV q.sp),(w.heap.size+1,0,.int .i64 k)] (fun t ht=>by
  simp at ht
  rcases ht with rfl|rfl
  ·exact⟨Nat.le_refl _,zq nb1 0 rfl⟩
  ·exact⟨by simp,zq nb2 0 rfl⟩)
 obtain⟨tag0,ht0⟩:∃tag0,tag0=retag tag w 0:=⟨_,rfl⟩
 rw[List.append_nil]at L0
 rw[←ht0]at L0 s0
 clear ht0 nb1 nb2 hb0
 have g0:w0.cell? ⟨w.heap.size,0,none⟩=some (.pointer (some ⟨q.sp,0,none⟩)):=L0.get 0 rfl
 obtain⟨R,hR⟩:∃R,R=x.inF k:=⟨_,rfl⟩
 have FH:Hid (∀fv,fv=Value.func (.func 233) #[] #[.pointer (some ⟨w.heap.size,0,none⟩),.pointer (some ⟨w.heap.size+1,0,none⟩)]→Calls Tryz.prog 213 #[.pointer (some ⟨q.sp,0,none⟩),.int .i64 3,fv] w0 fun e w2=>∃tag2,e=.returned (.tuple #[.int .i64 (x.zx 3 (160+k)).1.1,.int .i64 (x.zx 3 (160+k)).1.2])∧zb w2 tag2 q (x.zx 3 (160+k)).2∧Step (fun c=>c=1∨c=2∨c=3) tag0 w0 tag2 w2):=fun fv efv=>by
  cases hnx:x.P.next true with
  | none=>
   have ed:x.zx 3 (160+k)=((0,4),x):=by unfold za.zx;rw[hnx]
   rw[ed]
   refine(Yc L0.sp 3 (by omega) hnx fv).mono ?_
   rintro e w2 ⟨rfl,hb⟩
   exact⟨retag tag0 w0 0,rfl,L0.sp.step (Step.anew hb),Step.anew hb⟩
  | some f=>
   obtain⟨hf,hfu⟩:=Xt hnx
   have hbad:=wf.je hf (by omega)
   subst efv
   refine(zfk L0.sp 3 (by omega) f hnx hf 233 _ _ (enters_of Tryz.func233 (by kernel_rfl) rfl) (fun c=>c=1∨c=2∨c=3) (by omega) (zmy {x with P:=x.P.set f 3} f (160+k)) (fun w2 h2 s2=>?_)).mono ?_
   ·have L2:=L0.step s2 (by omega) h2
    refine(zjd L2 hk f hf hbad).mono ?_
    rintro e w3 ⟨c,y,tag3,rfl,h3,s3,hz⟩
    refine⟨c,y,tag3,rfl,h3,s3.mono fun c hc=>by omega,hz,fun _=>?_⟩
    have hu4:y.P.use f=3:=by
     rcases hz with⟨_,_,rfl⟩|⟨_,_,rfl⟩<;>exact if_pos rfl
    omega
   ·rintro e w3 ⟨c,y,tag3,rfl,h3,s3,hz⟩
    refine⟨tag3,?_,?_,s3⟩
    ·unfold za.zx
     rw[hnx]
     dsimp only
     rcases hz with⟨rfl,hw,rfl⟩|⟨rfl,hw,rfl⟩
     ·rw[if_pos hw];rfl
     ·rw[if_neg hw,if_neg (by omega)]
    ·unfold za.zx
     rw[hnx]
     dsimp only
     rcases hz with⟨rfl,hw,rfl⟩|⟨rfl,hw,rfl⟩
     ·rw[if_pos hw]
      rw[if_pos rfl]at h3
      exact h3
     ·rw[if_neg hw]
      rw[if_neg (by omega)]at h3
      dsimp only at h3⊢
      rw[Qh hf (by omega) (by omega)]
      exact h3
 have hD0:R=if(x.zx 3 (160+k)).1.2=0 then((x.zx 3 (160+k)).1,(x.zx 3 (160+k)).2.vg ((x.zx 3 (160+k)).2.S.getD k []) ⟨1,(x.zx 3 (160+k)).1.1,false⟩)else((0,(x.zx 3 (160+k)).1.2),(x.zx 3 (160+k)).2):=hR
 have wfD:WF (x.zx 3 (160+k)).2∧(x.zx 3 (160+k)).2.T=x.T∧((x.zx 3 (160+k)).1.2=0→∃f:Nat,(x.zx 3 (160+k)).1.1=f∧f<1024):=by
  rcases wf.zx 3 (160+k) (by omega) (by omega) (wf.secs _ (by omega))with⟨_,e⟩|⟨f,_,_,e,d,_⟩|⟨f,_,hw,e,d,_⟩
  ·rw[e];exact⟨wf,rfl,fun e=>by simp at e⟩
  ·exact⟨d.wf,d.keep.1,fun _=>⟨f,by rw[e],d.was.1⟩⟩
  ·exact⟨d.wf,d.keep.1,fun e2=>by rw[e]at e2;dsimp only at e2;omega⟩
 have hout:∀n,8≤n→(x.zx 3 (160+k)).2.T n=none:=by rw[wfD.2.1];exact h.out
 obtain⟨D,hD⟩:∃D,D=x.zx 3 (160+k):=⟨_,rfl⟩
 rw[←hD]at FH hD0 wfD hout
 have HE:=Lib.hid hD0
 have HV:=Lib.hid (And.intro wfD (And.intro hout hk))
 have HW:=Lib.hid hw0
 have HL0:=Lib.hid (And.intro L0 s0)
 rw[←hR]
 clear h L0 s0 hR hD hD0 wfD hout hk wf hw0
 unfold ptrV at HW⊢
 go_enter Tryz.func211,Tryz.ntmps211
 go_wp2_with fail
 rw[←HW.out]
 refine(FH.out _ rfl).mono ?_
 rintro e w2 ⟨tag2,rfl,h2,s2⟩
 obtain⟨⟨df,dc⟩,dy⟩:=D
 dsimp only at h2 HE HV⊢
 have L2:=HL0.out.1.step s2 (by omega) h2
 have S2:=Lib.hid (HL0.out.2.mono (C':=CA) (fun _ h=>h.elim) |>.trans (s2.mono fun c hc=>by unfold CA;omega))
 clear FH g0
 by_cases hc:dc=0
 ·subst hc
  obtain⟨f,rfl,hf⟩:=HV.out.1.2.2 rfl
  have g0:w2.cell? ⟨w.heap.size,0,none⟩=some (.pointer (some ⟨q.sp,0,none⟩)):=L2.get 0 rfl
  have g1:w2.cell? ⟨w.heap.size+1,0,none⟩=some (.int .i64 k):=L2.get 1 rfl
  have g3:w2.cell? ⟨q.sp,5,none⟩=some (.pointer (some ⟨q.wp,0,none⟩)):=L2.cell (i:=5) (by omega)
  obtain⟨l,hl⟩:∃l,l=dy.S.getD k []:=⟨_,rfl⟩
  have OF:Hid (Calls Tryz.prog 112 #[.pointer (some ⟨q.wp,0,none⟩),.int .i64 k] w2.drew fun e w3=>∃a c,e=.returned (.slice a l.length c)∧(w3.cell? ⟨w.heap.size,0,none⟩=some (.pointer (some ⟨q.sp,0,none⟩))∧w3.cell? ⟨w.heap.size+1,0,none⟩=some (.int .i64 k)∧w3.cell? ⟨q.sp,5,none⟩=some (.pointer (some ⟨q.wp,0,none⟩)))∧PlAt w3 (.slice a l.length c) l∧
    Loc w3 (retag tag2 w2 0) q dy [(w.heap.size,0,ptrV q.sp)]∧Step CA tag w (retag tag2 w2 0) w3∧∀b,(Value.slice a l.length c).ownBlock=some b→w2.heap.size≤b):=by
   have OS:=L2.drew.sp.ofS HV.out.1.1 k HV.out.2.2
   rw[←hl]at OS
   refine OS.mono ?_
   rintro e w3 ⟨v',rfl,hp,hb,ho⟩
   obtain⟨a,c,rfl,_,_⟩:=SlAt.form hp
   have hb2:Below w2.heap.size w2 w3:=(Below.refl _ w2).drew.trans hb
   obtain⟨L3,s3⟩:=L2.more hb2 [] (fun t ht=>by cases ht)
   exact⟨a,c,rfl,⟨L3.get 0 rfl,L3.get 1 rfl,L3.cell (i:=5) (by omega)⟩,hp,L3.sub (fun t ht=>by simp at ht;simp[ht]),S2.out.trans (s3.mono fun _ h=>h.elim),ho⟩
  have HL9:=Lib.hid hl
  clear L2 h2 s2 hl
  go_wp2_with fail
  go_region_held (fun W'=>W'.cell? ⟨w.heap.size,0,none⟩=some (.pointer (some ⟨q.sp,0,none⟩))∧W'.cell? ⟨w.heap.size+1,0,none⟩=some (.int .i64 k)∧W'.cell? ⟨q.sp,5,none⟩=some (.pointer (some ⟨q.wp,0,none⟩))) (go_keep)
   ((go_at_call 112;refine OF.out.mono ?_;rintro e w3 ⟨a,cc,rfl,⟨m0,m1,m2⟩,HL⟩;have hL3:=Lib.hid HL;clear HL))
  clear OF g0 g1 g3 m0 m1 m2
  have hR1:R=(((f:Int),0),dy.vg l ⟨1,(f:Int),false⟩):=by rw[HL9.out,HE.out];rfl
  have hin:∀p∈l,InR p:=by rw[HL9.out];exact(uj HV.out.1.1.slots k).2
  have hlen:l.length≤32768:=by rw[HL9.out];exact jk (uj HV.out.1.1.slots k).1 (uj HV.out.1.1.slots k).2
  have HR1:=Lib.hid (And.intro hR1 (And.intro hin hf))
  have HLEN:=Lib.hid hlen
  clear hR1 hin hlen
  go_wp2_with fail
  go_loopw [26] (fun iv W=>∃(i:Nat) (tag':Nat→Nat),i≤l.length∧iv=.int .i64 i∧Loc W tag' q (dy.vg (l.take i) ⟨1,(f:Int),false⟩) [(w.heap.size,0,ptrV q.sp)]∧Step CA tag w tag' W∧PlAt W (.slice a l.length cc) l∧∀b,(Value.slice a l.length cc).ownBlock=some b→tag' b=0) (fun iv _=>l.length-(intOf iv).toNat)
  case atStart=>
   refine⟨0,_,by omega,rfl,hL3.out.2.1,hL3.out.2.2.1,hL3.out.1,fun b hb=>zz _ _ _ _ (hL3.out.2.2.2 b hb)⟩
  case round=>
   obtain⟨i,tg,hi,rfl,hLoc,hSt,hPl,hOw⟩:=hrel
   by_cases hlt:i<l.length
   ·obtain⟨p,hp⟩:∃p,l[i]?=some p:=⟨l[i],List.getElem?_eq_getElem hlt⟩
    have hpos:0<(pl l).length:=by have:=hPl.1;omega
    obtain⟨pb,poff,pc,epv,_,_,_⟩:=SlAt.cells hPl hpos
    cases epv
    have hpe:p=l[i]:=by rw[List.getElem?_eq_getElem hlt]at hp;exact(Option.some.inj hp).symm
    obtain⟨k0,k1⟩:=PlAt.cell hPl i hlt
    rw[←hpe]at k0 k1
    obtain⟨pe,pn,ppg⟩:=(HR1.out.2.1 p (List.mem_of_getElem? hp)).plc
    have p1:p.1=(p.1.toNat:Int):=congrArg Prod.fst pe
    have p2:p.2=(p.2.toNat:Int):=congrArg Prod.snd pe
    have g0:wr.cell? ⟨w.heap.size,0,none⟩=some (.pointer (some ⟨q.sp,0,none⟩)):=hLoc.get 0 rfl
    have ga:∀o,(wr.alloc o).cell? ⟨w.heap.size,0,none⟩=some (.pointer (some ⟨q.sp,0,none⟩)):=fun o=>(World.cell?_alloc_lt _ _ _ (World.block_lt_of_cell? wr _ g0)).trans g0
    obtain⟨W2,hW2⟩:∃W2,W2=wr.alloc (.cells #[.int .i64 p.1,.int .i64 p.2] 58):=⟨_,rfl⟩
    have hbW:Below wr.heap.size wr W2:=by rw[hW2];exact(Below.refl _ _).alloc (Nat.le_refl _) _
    have wfz:=HV.out.1.1.vg HV.out.2.1 (l.take i) (fun q hq=>HR1.out.2.1 q (List.mem_of_mem_take hq)) (e:=⟨1,(f:Int),false⟩) (by have:=HR1.out.2.2;simp[Ent.ok,most];omega)
    have PC:Hid (Calls Tryz.prog 88 #[.pointer (some ⟨q.sp,0,none⟩),.agg #[.int .i64 p.1,.int .i64 p.2],.agg #[.int .i64 1,.int .i64 f,.bool false]] W2 fun e w5=>(∃c,e=.returned (.int .i64 c))∧∃tag',Loc w5 tag' q (dy.vg (l.take (i+1)) ⟨1,(f:Int),false⟩) [(w.heap.size,0,ptrV q.sp)]∧Step CA tag w tag' w5∧PlAt w5 (.slice (some ⟨pb,poff,none⟩) l.length cc) l∧∀b,(Value.slice (some ⟨pb,poff,none⟩) l.length cc).ownBlock=some b→tag' b=0):=by
     obtain⟨L2,s2⟩:=hLoc.more hbW [] (fun t ht=>by cases ht)
     have:=Yf L2.sp wfz.1 p.1.toNat p.2.toNat pn ppg ⟨1,(f:Int),false⟩ (by have:=HR1.out.2.2;simp[Ent.ok,most];omega)
     rw[←p1,←p2]at this
     refine this.mono ?_
     rintro e w5 ⟨rfl,tag5,h5,s5⟩
     have s5':Step CA (retag tg wr 0) W2 tag5 w5:=s5.mono fun c hc=>Uz pn hc
     have L5:=L2.step s5' CA0 h5
     have hOw2:∀b,(Value.slice (some ⟨pb,poff,none⟩) l.length cc).ownBlock=some b→retag tg wr 0 b=0:=fun b hb=>by
      unfold retag
      split
      ·exact hOw b hb
      ·rfl
     have hP2:PlAt W2 (.slice (some ⟨pb,poff,none⟩) l.length cc) l:=SlAt.below hPl hbW
     refine⟨⟨_,rfl⟩,tag5,⟨?_,L5.loc⟩,(hSt.trans (s2.mono fun _ h=>h.elim)).trans s5',SlAt.keep hP2 fun b hb=>(s5'.keeps CA0 b (SlAt.lt hP2 b hb) (hOw2 b hb)).2,fun b hb=>(s5'.keeps CA0 b (SlAt.lt hP2 b hb) (hOw2 b hb)).1⟩
     have e1:l.take (i+1)=l.take i++[p]:=by rw[List.take_add_one,hp];rfl
     rw[e1,Q4]
     exact L5.sp
    have HWW:=Lib.hid hW2
    have i1:(i:Int)<l.length:=by omega
    have i2:(0:Int)≤i:=by omega
    have HLT:=Lib.hid (And.intro hlt (And.intro hi HLEN.out))
    clear hLoc hSt hPl hOw hpos pe pn ppg p1 p2 hbW wfz hW2 hlt hi hpe hp
    go_wp2_with fail
    rw[←HWW.out]
    refine PC.out.mono ?_
    rintro e w5 ⟨⟨c,rfl⟩,h5⟩
    have H5:=Lib.hid h5
    clear h5 PC g0 k0 k1 ga
    have d5:IntKind.i64.wrap ((i:Int)+1)=i+1:=by have:=HLT.out;simp[IntKind.wrap,IntKind.bits,IntKind.signed];omega
    clear i1 i2
    go_wp2_with fail
    go_roundw
    case rel=>
     obtain⟨tag',a1,a2,a3,a4⟩:=H5.out
     exact⟨i+1,tag',HLT.out.1,by go_num,a1,a2,a3,a4⟩
    case measure=>have:=HLT.out.1;simp[intOf];omega
   ·obtain rfl:i=l.length:=by omega
    have H5:=Lib.hid (And.intro hLoc hSt)
    clear hLoc hSt hPl hOw
    go_wp2_with fail
    rw[HR1.out.1]
    refine bodyPost_ret (v:=.tuple #[.int .i64 f,.int .i64 0]) (by simp[results,Tryz.results211,go_sem]) rfl ⟨rfl,tg,?_,H5.out.2⟩
    have:=H5.out.1.sp
    rw[List.take_length]at this
    exact this
 ·have n1:(dc==0)=false:=beq_eq_false_iff_ne.2 hc
  have H2:=Lib.hid h2
  have HC:=Lib.hid hc
  clear L2 h2 s2 hc
  go_wp2_with fail
  have e1:R=((0,dc),dy):=by rw[HE.out];exact if_neg HC.out
  rw[e1]
  exact bodyPost_ret (v:=.tuple #[.int .i64 0,.int .i64 dc]) (by simp[results,Tryz.results211,go_sem]) rfl ⟨rfl,tag2,H2.out,S2.out⟩
end
section
variable {w w':World}{tag tag':Nat→Nat}{q:Sq}{x:za}
def zij(b:Nat)(n page:Nat)(a:Ar):List (Nat×Nat×Value):=
 [(b,0,.int .i64 n),(b,1,.int .i64 page),(b+1,0,.int .i64 a.from_),(b+1,1,.int .i64 a.pages),(b+1,2,.bool a.write),(b+1,3,.int .i64 a.kind),(b+1,4,.int .i64 a.file),(b+1,5,.int .i64 a.off)]
theorem zb.boxPA(h:zb w tag q x)(n page:Nat)(a:Ar)(w0:World)(hw0:w0=(w.alloc (.cells #[.int .i64 n,.int .i64 page] 58 (0,0))).alloc (.cells #[.int .i64 a.from_,.int .i64 a.pages,.bool a.write,.int .i64 a.kind,.int .i64 a.file,.int .i64 a.off] 32 (0,0))):
  Loc w0 (retag tag w 0) q x (zij w.heap.size n page a)∧Step (fun _=>False) tag w (retag tag w 0) w0:=by
 have hb0:Below w.heap.size w w0:=by rw[hw0];exact((Below.refl w.heap.size w).alloc (Nat.le_refl _) _).alloc (by simp) _
 have nb2:w0.heap[w.heap.size+1]?=some (.cells #[.int .i64 a.from_,.int .i64 a.pages,.bool a.write,.int .i64 a.kind,.int .i64 a.file,.int .i64 a.off] 32 (0,0)):=by
  rw[hw0]
  have:=heap_alloc_new (w.alloc (.cells #[.int .i64 n,.int .i64 page] 58 (0,0))) (.cells #[.int .i64 a.from_,.int .i64 a.pages,.bool a.write,.int .i64 a.kind,.int .i64 a.file,.int .i64 a.off] 32 (0,0))
  rw[World.size_alloc]at this
  exact this
 have nb1:w0.heap[w.heap.size]?=some (.cells #[.int .i64 n,.int .i64 page] 58 (0,0)):=by
  rw[hw0,Below.heap_alloc _ _ _ (by simp)]
  exact heap_alloc_new w _
 have:=h.loc0.more hb0 (zij w.heap.size n page a) (fun t ht=>by
  simp[zij]at ht
  rcases ht with rfl|rfl|rfl|rfl|rfl|rfl|rfl|rfl
  ·exact⟨Nat.le_refl _,zq nb1 0 rfl⟩
  ·exact⟨Nat.le_refl _,zq nb1 1 rfl⟩
  ·exact⟨by simp,zq nb2 0 rfl⟩
  ·exact⟨by simp,zq nb2 1 rfl⟩
  ·exact⟨by simp,zq nb2 2 rfl⟩
  ·exact⟨by simp,zq nb2 3 rfl⟩
  ·exact⟨by simp,zq nb2 4 rfl⟩
  ·exact⟨by simp,zq nb2 5 rfl⟩)
 rw[List.append_nil]at this
 exact this
theorem zk1(w:World)(a:Ar)(page:Nat)(hs:a.xe)(hp:page<4096):
  Calls Tryz.prog 236 #[a.enc,.int .i64 page] w fun e w'=>e=.returned (.agg #[.int .i64 (za.keyF a page).1,.int .i64 (za.keyF a page).2])∧Below w.heap.size w w':=by
 unfold Ar.xe at hs
 have d1:IntKind.i64.wrap (a.off+page)=a.off+page:=by simp[IntKind.wrap,IntKind.bits,IntKind.signed];omega
 have d2:IntKind.i64.wrap (a.off+page-a.from_)=a.off+page-a.from_:=by simp[IntKind.wrap,IntKind.bits,IntKind.signed];omega
 unfold Ar.enc za.keyF
 clear hs
 go_enter Tryz.func236,Tryz.ntmps236
 go_wp2_with fail
 exact bodyPost_ret (v:=.agg #[.int .i64 a.file,.int .i64 (a.off+page-a.from_)]) (by simp[results,Tryz.results236,go_sem]) rfl ⟨rfl,((Below.refl _ _).alloc (Nat.le_refl _) _).alloc (by simp) _⟩
theorem zgw(h:zb w tag q x)(wf:WF x)(n page:Nat)(pr:yg)(hn:n<8)(hp:x.T n=some pr)(hpg:page<4096)(a:Ar)(ha:z8 pr.A (page:Int)=some a):
  Calls Tryz.prog 212 #[ptrV q.sp,.agg #[.int .i64 n,.int .i64 page],a.enc] w fun e w'=>e=.returned (.tuple #[.int .i64 (x.uf n page a).1.1,.int .i64 (x.uf n page a).1.2])∧∃tag',zb w' tag' q (x.uf n page a).2∧Step CA tag w tag' w':=by
 obtain⟨w0,hw0⟩:∃w0,w0=(w.alloc (.cells #[.int .i64 n,.int .i64 page] 58 (0,0))).alloc (.cells #[.int .i64 a.from_,.int .i64 a.pages,.bool a.write,.int .i64 a.kind,.int .i64 a.file,.int .i64 a.off] 32 (0,0)):=⟨_,rfl⟩
 obtain⟨L0,s0⟩:=h.boxPA n page a w0 hw0
 obtain⟨tag0,ht0⟩:∃tag0,tag0=retag tag w 0:=⟨_,rfl⟩
 rw[←ht0]at L0 s0
 clear ht0
 have hsd:a.xe:=(wf.Zg n pr hp).1.1 a (List.mem_of_find?_eq_some ha)
 obtain⟨R,hR⟩:∃R,R=x.uf n page a:=⟨_,rfl⟩
 rw[←hR]
 unfold za.uf at hR
 by_cases hk:a.kind≠1
 ·rw[if_pos hk]at hR
  have hkey:=Vg (wf.Zg n pr hp).1 ha hk
  have g0:w0.cell? ⟨w.heap.size,0,none⟩=some (.int .i64 n):=L0.get 0 rfl
  have g1:w0.cell? ⟨w.heap.size,1,none⟩=some (.int .i64 page):=L0.get 1 rfl
  have a0:w0.cell? ⟨w.heap.size+1,0,none⟩=some (.int .i64 a.from_):=L0.get 2 rfl
  have a1:w0.cell? ⟨w.heap.size+1,1,none⟩=some (.int .i64 a.pages):=L0.get 3 rfl
  have a2:w0.cell? ⟨w.heap.size+1,2,none⟩=some (.bool a.write):=L0.get 4 rfl
  have a3:w0.cell? ⟨w.heap.size+1,3,none⟩=some (.int .i64 a.kind):=L0.get 5 rfl
  have a4:w0.cell? ⟨w.heap.size+1,4,none⟩=some (.int .i64 a.file):=L0.get 6 rfl
  have a5:w0.cell? ⟨w.heap.size+1,5,none⟩=some (.int .i64 a.off):=L0.get 7 rfl
  have KW:=Lib.hid (zk1 w0 a page hsd hpg)
  have FW:Hid (∀W,Below w0.heap.size w0 W→Calls Tryz.prog 235 #[.pointer (some ⟨q.sp,0,none⟩),.agg #[.int .i64 (za.keyF a page).1,.int .i64 (za.keyF a page).2]] W fun e w2=>e=.returned (.tuple #[.int .i64 (x.vo (za.keyF a page)).1.1,.int .i64 (x.vo (za.keyF a page)).1.2])∧∃tag2,Loc w2 tag2 q (x.vo (za.keyF a page)).2 (zij w.heap.size n page a)∧Step CA tag w tag2 w2):=fun W hb=>by
   have L1:=L0.below hb
   refine(zjf L1.sp wf hkey).mono ?_
   rintro e w2 ⟨rfl,tag2,h2,s2⟩
   exact⟨rfl,tag2,L1.step s2 (by unfold CFi;omega) h2,((s0.trans (Step.of_below hb)).mono fun _ h=>h.elim).trans (s2.mono fun c hc=>CA_CFi hc)⟩
  have hwf:WF (x.vo (za.keyF a page)).2∧((x.vo (za.keyF a page)).1.2=0→∃f:Nat,(x.vo (za.keyF a page)).1.1=f∧f<1024):=wf.vo hkey
  have HW:=Lib.hid hw0
  obtain⟨D,hD⟩:∃D,D=x.vo (za.keyF a page):=⟨_,rfl⟩
  rw[←hD]at hR FW hwf
  obtain⟨⟨df,dc⟩,dy⟩:=D
  dsimp only at hR FW hwf
  have HR:=Lib.hid hR
  have HV:=Lib.hid (And.intro hwf (And.intro hn (And.intro hp hpg)))
  obtain⟨kk,hkk⟩:∃kk,kk=za.keyF a page:=⟨_,rfl⟩
  rw[←hkk]at KW FW
  have hkb:(a.kind==1)=false:=beq_eq_false_iff_ne.2 hk
  have hkp:(a.kind=1)=False:=eq_false hk
  unfold ptrV
  unfold Ar.enc at KW⊢
  clear h L0 s0 hR hw0 wf hk hkey hD hkk hwf hp hsd ha hn
  go_enter Tryz.func212,Tryz.ntmps212
  go_wp2_with fail
  rw[←HW.out]
  refine KW.out.mono ?_
  rintro e w1 ⟨rfl,hb1⟩
  have F1:=Lib.hid (FW.out w1 hb1)
  clear hb1 KW FW
  go_wp2_with fail
  refine F1.out.mono ?_
  rintro e w2 ⟨rfl,tag2,L2,s2⟩
  clear F1 a0 a1 a2 a3 a4 a5 g0 g1
  by_cases hc:dc=0
  ·subst hc
   obtain⟨f,rfl,hf⟩:=HV.out.1.2 rfl
   have g0:w2.cell? ⟨w.heap.size,0,none⟩=some (.int .i64 n):=L2.get 0 rfl
   have g1:w2.cell? ⟨w.heap.size,1,none⟩=some (.int .i64 page):=L2.get 1 rfl
   have PW:=Lib.hid (Yf L2.sp HV.out.1.1 n page HV.out.2.1 HV.out.2.2.2 ⟨1,(f:Int),false⟩ (by simp[Ent.ok,most];omega))
   unfold ptrV entV at PW
   dsimp only at PW
   have S2:=Lib.hid s2
   clear L2 s2
   go_wp2_with fail
   refine PW.out.mono ?_
   rintro e w3 ⟨rfl,tag3,h3,s3⟩
   have H3:=Lib.hid (And.intro h3 s3)
   clear h3 s3 PW g0 g1
   go_wp2_with fail
   have e1:R=(((f:Int),(dy.putF n page ⟨1,(f:Int),false⟩).1),(dy.putF n page ⟨1,(f:Int),false⟩).2):=by rw[HR.out];rfl
   rw[e1]
   exact bodyPost_ret (v:=.tuple #[.int .i64 f,.int .i64 (dy.putF n page ⟨1,(f:Int),false⟩).1]) (by simp[results,Tryz.results212,go_sem]) rfl ⟨rfl,tag3,H3.out.1,S2.out.trans (H3.out.2.mono fun c hc=>Uz HV.out.2.1 hc)⟩
  ·have n1:(dc==0)=false:=beq_eq_false_iff_ne.2 hc
   have n2:(dc=0)=False:=eq_false hc
   have H2:=Lib.hid (And.intro L2.sp s2)
   have HC:=Lib.hid hc
   clear L2 s2 hc
   go_wp2_with fail
   have e1:R=((0,dc),dy):=by rw[HR.out];exact if_neg HC.out
   rw[e1]
   exact bodyPost_ret (v:=.tuple #[.int .i64 0,.int .i64 dc]) (by simp[results,Tryz.results212,go_sem]) rfl ⟨rfl,tag2,H2.out⟩
 ·rw[if_neg hk]at hR
  have hk1:a.kind=1:=by omega
  have g0:w0.cell? ⟨w.heap.size,0,none⟩=some (.int .i64 n):=L0.get 0 rfl
  have g1:w0.cell? ⟨w.heap.size,1,none⟩=some (.int .i64 page):=L0.get 1 rfl
  have a2:w0.cell? ⟨w.heap.size+1,2,none⟩=some (.bool a.write):=L0.get 4 rfl
  have a3:w0.cell? ⟨w.heap.size+1,3,none⟩=some (.int .i64 1):=by rw[←hk1];exact L0.get 5 rfl
  have c0:w0.cell? ⟨q.sp,0,none⟩=some (.pointer (some ⟨q.rp,0,none⟩)):=L0.cell (i:=0) (by omega)
  have FZ:Hid (Calls Tryz.prog 213 #[.pointer (some ⟨q.sp,0,none⟩),.int .i64 3,.func (.func 163) #[.pointer (some ⟨q.rp,0,none⟩)] #[]] w0 fun e w2=>e=.returned (.tuple #[.int .i64 (x.yo 3).1.1,.int .i64 (x.yo 3).1.2])∧∃tag2,Loc w2 tag2 q (x.yo 3).2 (zij w.heap.size n page a)∧Step CA tag w tag2 w2):=by
   rcases wf.yo 3 with⟨hnx,e⟩|⟨f,hnx,e,d0⟩
   ·rw[e]
    refine(Yc L0.sp 3 (by omega) hnx _).mono ?_
    rintro e w2 ⟨rfl,hb⟩
    exact⟨rfl,tag0,L0.below hb,(s0.trans (Step.of_below hb)).mono fun _ h=>h.elim⟩
   ·rw[e]
    refine(zef L0.sp 3 (by omega) f hnx d0.was.1 (wf.je d0.was.1 (by have:=d0.was.2;omega))).mono ?_
    rintro e w2 ⟨rfl,h2,s2⟩
    exact⟨rfl,tag0,L0.step s2 (by omega) h2,(s0.mono fun _ h=>h.elim).trans (s2.mono fun c hc=>by unfold CA;omega)⟩
  have hwf:WF (x.yo 3).2∧(x.yo 3).2.T=x.T∧((x.yo 3).1.2=0→∃f:Nat,(x.yo 3).1.1=f∧f<1024∧(x.yo 3).2.P.use f=3):=by
   rcases wf.yo 3 with⟨hnx,e⟩|⟨f,hnx,e,d0⟩
   ·rw[e];exact⟨wf,rfl,fun e=>by simp at e⟩
   ·rw[e];exact⟨d0.wf,d0.keep.1,fun _=>⟨f,rfl,d0.was.1,if_pos rfl⟩⟩
  have HW:=Lib.hid hw0
  obtain⟨D,hD⟩:∃D,D=x.yo 3:=⟨_,rfl⟩
  rw[←hD]at hR FZ hwf
  obtain⟨⟨df,dc⟩,dy⟩:=D
  dsimp only at hR FZ hwf
  have HR:=Lib.hid hR
  have HV:=Lib.hid (And.intro hwf (And.intro hn (And.intro hp hpg)))
  have HO:=Lib.hid h.out
  unfold ptrV
  unfold Ar.enc
  rw[hk1]at HW⊢
  rw[HW.out]at c0
  clear h L0 s0 hR hw0 wf hk hD hwf hp hsd ha hn
  go_enter Tryz.func212,Tryz.ntmps212
  go_wp2_with fail
  rw[←HW.out]
  refine FZ.out.mono ?_
  rintro e w2 ⟨rfl,tag2,L2,s2⟩
  clear FZ a2 a3 g0 g1 c0
  by_cases hc:dc=0
  ·subst hc
   obtain⟨f,rfl,hf,hfu⟩:=HV.out.1.2.2 rfl
   have g0:w2.cell? ⟨w.heap.size,0,none⟩=some (.int .i64 n):=L2.get 0 rfl
   have g1:w2.cell? ⟨w.heap.size,1,none⟩=some (.int .i64 page):=L2.get 1 rfl
   have a2:w2.cell? ⟨w.heap.size+1,2,none⟩=some (.bool a.write):=L2.get 4 rfl
   obtain⟨P,hP⟩:∃P,P=dy.putF n page ⟨1,(f:Int),a.write⟩:=⟨_,rfl⟩
   have PW:Hid (Calls Tryz.prog 88 #[.pointer (some ⟨q.sp,0,none⟩),.agg #[.int .i64 n,.int .i64 page],.agg #[.int .i64 1,.int .i64 f,.bool a.write]] w2 fun e w3=>e=.returned (.int .i64 P.1)∧∃tag3,zb w3 tag3 q P.2∧Step CA tag w tag3 w3):=by
    rw[hP]
    refine(Yf L2.sp HV.out.1.1 n page HV.out.2.1 HV.out.2.2.2 ⟨1,(f:Int),a.write⟩ (by simp[Ent.ok,most];omega)).mono ?_
    rintro e w3 ⟨rfl,tag3,h3,s3⟩
    exact⟨rfl,tag3,h3,s2.trans (s3.mono fun c hc=>Uz HV.out.2.1 hc)⟩
   have hu2:P.1≠0→P.2.P.use f=3:=fun hc=>by
    have hp':dy.T n=some pr:=by rw[HV.out.1.2.1];exact HV.out.2.2.1
    have d:=HV.out.1.1.putF HV.out.2.1 hp' HV.out.2.2.2 (e:=⟨1,(f:Int),a.write⟩) (by simp[Ent.ok,most];omega)
    rw[hP]at hc⊢
    rw[d.use f (fun ho=>by have:=(HV.out.1.1.yt ho).2.1;omega) (by omega),if_neg fun q=>hc q.1]
    exact hfu
   have HP:=Lib.hid (And.intro hP (And.intro hu2 hf))
   clear L2 s2 hP hu2 hfu hf
   go_wp2_with fail
   refine PW.out.mono ?_
   rintro e w3 ⟨rfl,tag3,h3,s3⟩
   obtain⟨pc,py⟩:=P
   dsimp only at HP h3⊢
   have HRR:Hid (R=if pc=0 then(((f:Int),0),py)else((0,pc),py.Yd (f:Int))):=by
    have:=HR.out
    first|rw[if_pos rfl,←HP.out.1]at this|rw[if_pos trivial,←HP.out.1]at this
    exact this
   clear PW g0 g1 a2
   by_cases hc:pc=0
   ·subst hc
    have H3:=Lib.hid (And.intro h3 s3)
    clear h3 s3
    go_wp2_with fail
    rw[HRR.out]
    first|rw[if_pos rfl]|rw[if_pos trivial]
    exact bodyPost_ret (v:=.tuple #[.int .i64 f,.int .i64 0]) (by simp[results,Tryz.results212,go_sem]) rfl ⟨rfl,tag3,H3.out⟩
   ·have n1:(pc==0)=false:=beq_eq_false_iff_ne.2 hc
    have n2:(pc=0)=False:=eq_false hc
    have g2:w3.cell? ⟨q.sp,2,none⟩=some (.pointer (some ⟨q.pp,0,none⟩)):=h3.row.cell (i:=2) (by omega)
    have FR:Hid (Calls Tryz.prog 44 #[.pointer (some ⟨q.pp,0,none⟩),.int .i64 f] w3 fun e w4=>e=.returned (.bool true)∧zb w4 tag3 q (py.Yd (f:Int))∧Step CA tag w tag3 w4):=by
     have hu:=HP.out.2.1 hc
     refine(Qr _ _ _ _ _ _ h3.pool f f rfl HP.out.2.2 (by omega) (by omega)).mono ?_
     rintro e w4 ⟨rfl,k1,k2⟩
     have k:=h3.zh7 k2 k1
     have ef:py.Yd (f:Int)={py with P:=py.P.set f 1}:=by
      unfold za.Yd zo.free
      rw[if_pos,Int.toNat_natCast]
      unfold zo.used
      rw[decide_eq_true_eq,Int.toNat_natCast,hu]
      have:=HP.out.2.2
      omega
     rw[ef]
     exact⟨rfl,k.1,s3.trans (k.2.mono fun c hc=>by unfold CA;omega)⟩
    have HC:=Lib.hid hc
    clear h3 s3 hc
    go_wp2_with fail
    refine FR.out.mono ?_
    rintro e w4 ⟨rfl,h4⟩
    have H4:=Lib.hid h4
    clear h4 FR g2
    go_wp2_with fail
    rw[HRR.out,if_neg HC.out]
    exact bodyPost_ret (v:=.tuple #[.int .i64 0,.int .i64 pc]) (by simp[results,Tryz.results212,go_sem]) rfl ⟨rfl,tag3,H4.out⟩
  ·have n1:(dc==0)=false:=beq_eq_false_iff_ne.2 hc
   have n2:(dc=0)=False:=eq_false hc
   have H2:=Lib.hid (And.intro L2.sp s2)
   have HC:=Lib.hid hc
   clear L2 s2 hc
   go_wp2_with fail
   have e1:R=((0,dc),dy):=by rw[HR.out];exact if_neg HC.out
   rw[e1]
   exact bodyPost_ret (v:=.tuple #[.int .i64 0,.int .i64 dc]) (by simp[results,Tryz.results212,go_sem]) rfl ⟨rfl,tag2,H2.out⟩
end
section
variable {w w':World}{tag tag':Nat→Nat}{q:Sq}{x:za}
theorem zb.zcr(h:zb w tag q x)(n:Nat)(hs:(x.T n).isSome=true):(Instr.lookup 53 (.map (some q.pm)) (.int .i64 n) false).run Tryz.prog w=.ok (.pointer (some ⟨(q.U n).ap,0,none⟩)) w:=by
 obtain⟨PV,m,nd,kb,hg⟩:=h.map
 have hn:n<8:=by
  rcases Nat.lt_or_ge n 8 with h8|h8
  ·exact h8
  ·rw[h.out n h8]at hs;cases hs
 have e:=hg n hn
 have hl:=jm (T:=53) Uw Tryz.underlying53 (.pointer none) zby m (n:Int) false
 rw[e]at hl
 obtain⟨pr,hpr⟩:=Option.isSome_iff_exists.1 hs
 rw[hpr]at hl
 exact hl
theorem zbc(h:zb w tag q x)(n page:Nat)(pr:yg)(hn:n<8)(hp:x.T n=some pr)(a:Ar)(N:List Nat→Option Nat)(ok:xc ⟨x.R,x.P,pr.T⟩ N)(hpg:page<4096)(old:Ent)(hold:mapOf x.R N page=old)(hk:old.kind=1):
  Calls Tryz.prog 168 #[ptrV q.sp,.agg #[.int .i64 n,.int .i64 page],a.enc] w fun r w'=>r=.returned (.tuple #[.int .i64 old.n,.int .i64 0])∧∃tag',zb w' tag' q x∧Step (CP n) tag w tag' w':=by
 obtain⟨w0,hw0⟩:∃w0,w0=(w.alloc (.cells #[.int .i64 n,.int .i64 page] 58 (0,0))).alloc (.cells #[.int .i64 a.from_,.int .i64 a.pages,.bool a.write,.int .i64 a.kind,.int .i64 a.file,.int .i64 a.off] 32 (0,0)):=⟨_,rfl⟩
 have hb0:Below w.heap.size w w0:=by rw[hw0];exact((Below.refl w.heap.size w).alloc (Nat.le_refl _) _).alloc (by simp) _
 have z0:w0.heap.size=w.heap.size+2:=by rw[hw0];simp
 have nb4:w0.heap[w.heap.size]?=some (.cells #[.int .i64 n,.int .i64 page] 58 (0,0)):=by
  rw[hw0,Below.heap_alloc _ _ _ (by simp)]
  exact heap_alloc_new w _
 have s0:Step (CP n) tag w (retag tag w 0) w0:=Step.anew hb0
 have h0:zb w0 (retag tag w 0) q x:=h.step (Step.anew hb0)
 have d40:w0.cell? ⟨w.heap.size,0,none⟩=some (.int .i64 n):=by rw[cell_of_row _ _ 0 _ _ _ nb4];rfl
 have d41:w0.cell? ⟨w.heap.size,1,none⟩=some (.int .i64 page):=by rw[cell_of_row _ _ 1 _ _ _ nb4];rfl
 obtain⟨av,r1,_,_⟩:=(h0.procs n pr hn hp).row
 have c0:w0.cell? ⟨(q.U n).ap,0,none⟩=some (.pointer (some ⟨(q.U n).tp,0,none⟩)):=r1.cell (i:=0) (by omega)
 have c6:w0.cell? ⟨q.sp,6,none⟩=some (.map (some q.pm)):=h0.row.cell (i:=6) (by omega)
 have hs:(x.T n).isSome=true:=by rw[hp];rfl
 have lk:∀W',Below w0.heap.size w0 W'→(Instr.lookup 53 (.map (some q.pm)) (.int .i64 n) false).run Tryz.prog W'=.ok (.pointer (some ⟨(q.U n).ap,0,none⟩)) W':=fun W' hW'=>(h0.below hW').zcr n hs
 have lk1:=lk w0.drew (Below.refl _ _).drew
 have lk2:=fun o=>lk (w0.alloc o).drew (((Below.refl _ _).alloc (Nat.le_refl _) o).drew)
 have G:Hid (∀W',Below w0.heap.size w0 W'→Calls Tryz.prog 35 #[.pointer (some ⟨(q.U n).tp,0,none⟩),.int .i64 page] W' fun r w2=>r=.returned (.tuple #[entV old,.int .i64 0])∧Below W'.heap.size W' w2):=fun W' hW'=>by
  rw[←hold]
  exact Xy _ _ _ _ _ ((h0.below hW').rpt hn hp) ok.tree page page rfl hpg
 have kp:∀w2,Below w0.heap.size w0 w2→(w2.cell? ⟨(q.U n).ap,0,none⟩=some (.pointer (some ⟨(q.U n).tp,0,none⟩))∧w2.cell? ⟨q.sp,6,none⟩=some (.map (some q.pm))∧w2.cell? ⟨w.heap.size,0,none⟩=some (.int .i64 n)∧w2.cell? ⟨w.heap.size,1,none⟩=some (.int .i64 page))∧¬w2.heap.size=(q.U n).ap∧¬w2.heap.size=w.heap.size∧¬w2.heap.size=q.sp:=fun w2 hb=>by
  have l1:=World.block_lt_of_cell? _ _ c0
  have l2:=World.block_lt_of_cell? _ _ c6
  have l3:=World.block_lt_of_cell? _ _ d40
  have hz:=hb.size
  dsimp only at l1 l2 l3
  exact⟨⟨(hb.cell l1).trans c0,(hb.cell l2).trans c6,(hb.cell l3).trans d40,(hb.cell (World.block_lt_of_cell? _ _ d41)).trans d41⟩,by omega,by omega,by omega⟩
 have ka:∀o,(w0.alloc o).cell? ⟨(q.U n).ap,0,none⟩=some (.pointer (some ⟨(q.U n).tp,0,none⟩))∧(w0.alloc o).cell? ⟨q.sp,6,none⟩=some (.map (some q.pm))∧(w0.alloc o).cell? ⟨w.heap.size,0,none⟩=some (.int .i64 n)∧(w0.alloc o).cell? ⟨w.heap.size,1,none⟩=some (.int .i64 page):=fun o=>(kp _ ((Below.refl _ _).alloc (Nat.le_refl _) o)).1
 have ka0:=fun o=>(ka o).1
 have ka1:=fun o=>(ka o).2.1
 have ka2:=fun o=>(ka o).2.2.1
 have ka3:=fun o=>(ka o).2.2.2
 obtain⟨_,e1,e2,e3⟩:=kp w0 (Below.refl _ _)
 have e1':¬w.heap.size+2=(q.U n).ap:=by omega
 have e3':¬w.heap.size+2=q.sp:=by omega
 have G1:Hid (Calls Tryz.prog 35 #[.pointer (some ⟨(q.U n).tp,0,none⟩),.int .i64 page] w0.drew fun r w2=>r=.returned (.tuple #[entV old,.int .i64 0])∧(w2.cell? ⟨(q.U n).ap,0,none⟩=some (.pointer (some ⟨(q.U n).tp,0,none⟩))∧w2.cell? ⟨q.sp,6,none⟩=some (.map (some q.pm))∧w2.cell? ⟨w.heap.size,0,none⟩=some (.int .i64 n)∧w2.cell? ⟨w.heap.size,1,none⟩=some (.int .i64 page))∧
   (∀o,(w2.alloc o).cell? ⟨(q.U n).ap,0,none⟩=some (.pointer (some ⟨(q.U n).tp,0,none⟩)))∧(∀o,(w2.alloc o).cell? ⟨q.sp,6,none⟩=some (.map (some q.pm)))∧(∀o,(w2.alloc o).cell? ⟨w.heap.size,0,none⟩=some (.int .i64 n))∧(∀o,(w2.alloc o).cell? ⟨w.heap.size,1,none⟩=some (.int .i64 page))∧(¬w2.heap.size=(q.U n).ap∧¬w2.heap.size=w.heap.size∧¬w2.heap.size=q.sp)∧Below w0.heap.size w0 w2):=by
  refine(G.out w0.drew (Below.refl _ _).drew).mono ?_
  rintro r w2 ⟨rfl,hb⟩
  have hb:Below w0.heap.size w0 w2:=⟨hb.os,hb.tape,hb.output,hb.size,hb.block⟩
  have k:=kp w2 hb
  have ko:=fun o=>(kp (w2.alloc o) (hb.alloc hb.size o)).1
  exact⟨rfl,k.1,fun o=>(ko o).1,fun o=>(ko o).2.1,fun o=>(ko o).2.2.1,fun o=>(ko o).2.2.2,k.2,hb⟩
 have G2:Hid (Calls Tryz.prog 35 #[.pointer (some ⟨(q.U n).tp,0,none⟩),.int .i64 page] (w0.alloc (.cells #[.int .i64 0,.int .i64 0,.bool false] 70)).drew fun r w2=>r=.returned (.tuple #[entV old,.int .i64 0])∧(w2.cell? ⟨(q.U n).ap,0,none⟩=some (.pointer (some ⟨(q.U n).tp,0,none⟩))∧w2.cell? ⟨q.sp,6,none⟩=some (.map (some q.pm))∧w2.cell? ⟨w.heap.size,0,none⟩=some (.int .i64 n)∧w2.cell? ⟨w.heap.size,1,none⟩=some (.int .i64 page))∧
   (w2.cell? ⟨w.heap.size+2,0,none⟩=some (.int .i64 0)∧w2.cell? ⟨w.heap.size+2,1,none⟩=some (.int .i64 0)∧w2.cell? ⟨w.heap.size+2,2,none⟩=some (.bool false)∧w2.frozen? ⟨w.heap.size+2,0,none⟩=false∧w2.frozen? ⟨w.heap.size+2,1,none⟩=false∧w2.frozen? ⟨w.heap.size+2,2,none⟩=false)∧Below w0.heap.size w0 w2):=by
  refine(G.out _ ((Below.refl _ _).alloc (Nat.le_refl _) _).drew).mono ?_
  rintro r w2 ⟨rfl,hb⟩
  have hb:Below (w0.alloc (.cells #[.int .i64 0,.int .i64 0,.bool false] 70)).heap.size (w0.alloc (.cells #[.int .i64 0,.int .i64 0,.bool false] 70)) w2:=⟨hb.os,hb.tape,hb.output,hb.size,hb.block⟩
  have nb:=(hb.block w0.heap.size (by simp)).trans (heap_alloc_new w0 (.cells #[.int .i64 0,.int .i64 0,.bool false] 70))
  rw[z0]at nb
  have hbb:Below w0.heap.size w0 w2:=((Below.refl _ _).alloc (Nat.le_refl _) _).trans (hb.mono (by simp))
  exact⟨rfl,(kp w2 hbb).1,⟨by rw[cell_of_row _ _ 0 _ _ _ nb];rfl,by rw[cell_of_row _ _ 1 _ _ _ nb];rfl,by rw[cell_of_row _ _ 2 _ _ _ nb];rfl,by simp[World.frozen?,nb],by simp[World.frozen?,nb],by simp[World.frozen?,nb]⟩,hbb⟩
 have fin:Hid (∀W3,Turn (fun _=>False) w0 W3→∃tag',zb W3 tag' q x∧Step (CP n) tag w tag' W3):=fun W3 t=>⟨retag tag w 0,h0.below t.below,s0.trans (Step.of_below t.below)⟩
 have HW:=Lib.hid hw0
 unfold entV at G1 G2
 unfold ptrV Ar.enc
 have hk1:((old.kind:Int)==3)=false:=beq_eq_false_iff_ne.2 (by omega)
 have hk2:((old.kind:Int)==2)=false:=beq_eq_false_iff_ne.2 (by omega)
 have hk3:((old.kind:Int)==0)=false:=beq_eq_false_iff_ne.2 (by omega)
 rw[HW.out]at d40 d41 c0 c6
 clear h hb0 nb4 s0 h0 r1 hs lk kp ka G hw0 hold hk
 go_enter Tryz.func168,Tryz.ntmps168
 go_wp2_with fail
 rw[←HW.out]
 rw[←HW.out]at d40 d41 c0 c6
 go_region_held (fun W'=>W'.cell? ⟨(q.U n).ap,0,none⟩=some (.pointer (some ⟨(q.U n).tp,0,none⟩))∧W'.cell? ⟨q.sp,6,none⟩=some (.map (some q.pm))∧W'.cell? ⟨w.heap.size,0,none⟩=some (.int .i64 n)∧W'.cell? ⟨w.heap.size,1,none⟩=some (.int .i64 page)) (go_keep)
  (first
   | (go_at_call 35;refine G1.out.mono ?_;rintro r w2 ⟨rfl,⟨g1,g2,g3,g4⟩,y0,y1,y2,y3,⟨n1,n2,n3⟩,HX⟩;have hX:=Lib.hid HX;clear HX)
   | (go_at_call 35;refine G2.out.mono ?_;rintro r w2 ⟨rfl,⟨g1,g2,g3,g4⟩,⟨y0,y1,y2,y3,y4,y5⟩,HX⟩;have hX:=Lib.hid HX;clear HX))
 ·clear g1 g2 g3 g4 y0 y1 y2 y3 n1 n2 n3 d40 d41 c0 c6 ka0 ka1 ka2 ka3 lk1 lk2
  go_wp2_with fail
  exact bodyPost_ret (v:=.tuple #[.int .i64 old.n,.int .i64 0]) (by simp[results,Tryz.results168,go_sem]) rfl ⟨rfl,fin.out _ ((Turn.of_below hX.out).alloc _)⟩
 all_goals (
  have tX:Hid (∀a b c,Turn (fun _=>False) w0 (((w2.setCell ⟨w.heap.size+2,0,none⟩ a).setCell ⟨w.heap.size+2,1,none⟩ b).setCell ⟨w.heap.size+2,2,none⟩ c)):=fun a b c=>
   (((Turn.of_below hX.out).set (p:=⟨w.heap.size+2,0,none⟩) (.inr (Nat.le_of_eq z0)) a).set (p:=⟨w.heap.size+2,1,none⟩) (.inr (Nat.le_of_eq z0)) b).set (p:=⟨w.heap.size+2,2,none⟩) (.inr (Nat.le_of_eq z0)) c
  clear g1 g2 g3 g4 d40 d41 c0 c6 ka0 ka1 ka2 ka3 lk1 lk2
  go_wp2_with fail
  exact bodyPost_ret (v:=.tuple #[.int .i64 old.n,.int .i64 0]) (by simp[results,Tryz.results168,go_sem]) rfl ⟨rfl,fin.out _ (tX.out _ _ _)⟩)
end
section
variable {w w':World}{tag tag':Nat→Nat}{q:Sq}{x:za}
theorem zci(h:zb w tag q x)(n page:Nat)(pr:yg)(hn:n<8)(hp:x.T n=some pr)(a:Ar)(N:List Nat→Option Nat)(ok:xc ⟨x.R,x.P,pr.T⟩ N)(hpg:page<4096)(old:Ent)(hold:mapOf x.R N page=old)(hk:old.kind=0)(Z:Value→World→Prop)(hF:∀W tag',zb W tag' q x→Step (CP n) tag w tag' W→Calls Tryz.prog 212 #[ptrV q.sp,.agg #[.int .i64 n,.int .i64 page],a.enc] W fun r w'=>∃v c,r=.returned (.tuple #[.int .i64 v,.int .i64 c])∧Z (.tuple #[.int .i64 v,.int .i64 c]) w'):
  Calls Tryz.prog 168 #[ptrV q.sp,.agg #[.int .i64 n,.int .i64 page],a.enc] w fun r w'=>∃v c,r=.returned (.tuple #[.int .i64 v,.int .i64 c])∧Z (.tuple #[.int .i64 v,.int .i64 c]) w':=by
 obtain⟨w0,hw0⟩:∃w0,w0=(w.alloc (.cells #[.int .i64 n,.int .i64 page] 58 (0,0))).alloc (.cells #[.int .i64 a.from_,.int .i64 a.pages,.bool a.write,.int .i64 a.kind,.int .i64 a.file,.int .i64 a.off] 32 (0,0)):=⟨_,rfl⟩
 have hb0:Below w.heap.size w w0:=by rw[hw0];exact((Below.refl w.heap.size w).alloc (Nat.le_refl _) _).alloc (by simp) _
 have z0:w0.heap.size=w.heap.size+2:=by rw[hw0];simp
 have nb4:w0.heap[w.heap.size]?=some (.cells #[.int .i64 n,.int .i64 page] 58 (0,0)):=by
  rw[hw0,Below.heap_alloc _ _ _ (by simp)]
  exact heap_alloc_new w _
 have nb5:w0.heap[w.heap.size+1]?=some (.cells #[.int .i64 a.from_,.int .i64 a.pages,.bool a.write,.int .i64 a.kind,.int .i64 a.file,.int .i64 a.off] 32 (0,0)):=by
  rw[hw0]
  have:=heap_alloc_new (w.alloc (.cells #[.int .i64 n,.int .i64 page] 58 (0,0))) (.cells #[.int .i64 a.from_,.int .i64 a.pages,.bool a.write,.int .i64 a.kind,.int .i64 a.file,.int .i64 a.off] 32 (0,0))
  rw[World.size_alloc]at this
  exact this
 have s0:Step (CP n) tag w (retag tag w 0) w0:=Step.anew hb0
 have h0:zb w0 (retag tag w 0) q x:=h.step (Step.anew hb0)
 have d40:w0.cell? ⟨w.heap.size,0,none⟩=some (.int .i64 n):=by rw[cell_of_row _ _ 0 _ _ _ nb4];rfl
 have d41:w0.cell? ⟨w.heap.size,1,none⟩=some (.int .i64 page):=by rw[cell_of_row _ _ 1 _ _ _ nb4];rfl
 obtain⟨av,r1,_,_⟩:=(h0.procs n pr hn hp).row
 have c0:w0.cell? ⟨(q.U n).ap,0,none⟩=some (.pointer (some ⟨(q.U n).tp,0,none⟩)):=r1.cell (i:=0) (by omega)
 have c6:w0.cell? ⟨q.sp,6,none⟩=some (.map (some q.pm)):=h0.row.cell (i:=6) (by omega)
 have hs:(x.T n).isSome=true:=by rw[hp];rfl
 have lk:∀W',Below w0.heap.size w0 W'→(Instr.lookup 53 (.map (some q.pm)) (.int .i64 n) false).run Tryz.prog W'=.ok (.pointer (some ⟨(q.U n).ap,0,none⟩)) W':=fun W' hW'=>(h0.below hW').zcr n hs
 have lk1:=lk w0.drew (Below.refl _ _).drew
 have lk2:=fun o=>lk (w0.alloc o).drew (((Below.refl _ _).alloc (Nat.le_refl _) o).drew)
 have G:Hid (∀W',Below w0.heap.size w0 W'→Calls Tryz.prog 35 #[.pointer (some ⟨(q.U n).tp,0,none⟩),.int .i64 page] W' fun r w2=>r=.returned (.tuple #[entV old,.int .i64 0])∧Below W'.heap.size W' w2):=fun W' hW'=>by
  rw[←hold]
  exact Xy _ _ _ _ _ ((h0.below hW').rpt hn hp) ok.tree page page rfl hpg
 have kp:∀w2,Below w0.heap.size w0 w2→(w2.cell? ⟨(q.U n).ap,0,none⟩=some (.pointer (some ⟨(q.U n).tp,0,none⟩))∧w2.cell? ⟨q.sp,6,none⟩=some (.map (some q.pm))∧w2.cell? ⟨w.heap.size,0,none⟩=some (.int .i64 n)∧w2.cell? ⟨w.heap.size,1,none⟩=some (.int .i64 page))∧¬w2.heap.size=(q.U n).ap∧¬w2.heap.size=w.heap.size∧¬w2.heap.size=q.sp:=fun w2 hb=>by
  have l1:=World.block_lt_of_cell? _ _ c0
  have l2:=World.block_lt_of_cell? _ _ c6
  have l3:=World.block_lt_of_cell? _ _ d40
  have hz:=hb.size
  dsimp only at l1 l2 l3
  exact⟨⟨(hb.cell l1).trans c0,(hb.cell l2).trans c6,(hb.cell l3).trans d40,(hb.cell (World.block_lt_of_cell? _ _ d41)).trans d41⟩,by omega,by omega,by omega⟩
 have ka:∀o,(w0.alloc o).cell? ⟨(q.U n).ap,0,none⟩=some (.pointer (some ⟨(q.U n).tp,0,none⟩))∧(w0.alloc o).cell? ⟨q.sp,6,none⟩=some (.map (some q.pm))∧(w0.alloc o).cell? ⟨w.heap.size,0,none⟩=some (.int .i64 n)∧(w0.alloc o).cell? ⟨w.heap.size,1,none⟩=some (.int .i64 page):=fun o=>(kp _ ((Below.refl _ _).alloc (Nat.le_refl _) o)).1
 have ka0:=fun o=>(ka o).1
 have ka1:=fun o=>(ka o).2.1
 have ka2:=fun o=>(ka o).2.2.1
 have ka3:=fun o=>(ka o).2.2.2
 obtain⟨_,e1,e2,e3⟩:=kp w0 (Below.refl _ _)
 have e1':¬w.heap.size+2=(q.U n).ap:=by omega
 have e3':¬w.heap.size+2=q.sp:=by omega
 have G1:Hid (Calls Tryz.prog 35 #[.pointer (some ⟨(q.U n).tp,0,none⟩),.int .i64 page] w0.drew fun r w2=>r=.returned (.tuple #[entV old,.int .i64 0])∧(w2.cell? ⟨(q.U n).ap,0,none⟩=some (.pointer (some ⟨(q.U n).tp,0,none⟩))∧w2.cell? ⟨q.sp,6,none⟩=some (.map (some q.pm))∧w2.cell? ⟨w.heap.size,0,none⟩=some (.int .i64 n)∧w2.cell? ⟨w.heap.size,1,none⟩=some (.int .i64 page))∧
   (∀o,(w2.alloc o).cell? ⟨(q.U n).ap,0,none⟩=some (.pointer (some ⟨(q.U n).tp,0,none⟩)))∧(∀o,(w2.alloc o).cell? ⟨q.sp,6,none⟩=some (.map (some q.pm)))∧(∀o,(w2.alloc o).cell? ⟨w.heap.size,0,none⟩=some (.int .i64 n))∧(∀o,(w2.alloc o).cell? ⟨w.heap.size,1,none⟩=some (.int .i64 page))∧(¬w2.heap.size=(q.U n).ap∧¬w2.heap.size=w.heap.size∧¬w2.heap.size=q.sp)∧Below w0.heap.size w0 w2):=by
  refine(G.out w0.drew (Below.refl _ _).drew).mono ?_
  rintro r w2 ⟨rfl,hb⟩
  have hb:Below w0.heap.size w0 w2:=⟨hb.os,hb.tape,hb.output,hb.size,hb.block⟩
  have k:=kp w2 hb
  have ko:=fun o=>(kp (w2.alloc o) (hb.alloc hb.size o)).1
  exact⟨rfl,k.1,fun o=>(ko o).1,fun o=>(ko o).2.1,fun o=>(ko o).2.2.1,fun o=>(ko o).2.2.2,k.2,hb⟩
 have G2:Hid (Calls Tryz.prog 35 #[.pointer (some ⟨(q.U n).tp,0,none⟩),.int .i64 page] (w0.alloc (.cells #[.int .i64 0,.int .i64 0,.bool false] 70)).drew fun r w2=>r=.returned (.tuple #[entV old,.int .i64 0])∧(w2.cell? ⟨(q.U n).ap,0,none⟩=some (.pointer (some ⟨(q.U n).tp,0,none⟩))∧w2.cell? ⟨q.sp,6,none⟩=some (.map (some q.pm))∧w2.cell? ⟨w.heap.size,0,none⟩=some (.int .i64 n)∧w2.cell? ⟨w.heap.size,1,none⟩=some (.int .i64 page))∧
   (w2.cell? ⟨w.heap.size+2,0,none⟩=some (.int .i64 0)∧w2.cell? ⟨w.heap.size+2,1,none⟩=some (.int .i64 0)∧w2.cell? ⟨w.heap.size+2,2,none⟩=some (.bool false)∧w2.frozen? ⟨w.heap.size+2,0,none⟩=false∧w2.frozen? ⟨w.heap.size+2,1,none⟩=false∧w2.frozen? ⟨w.heap.size+2,2,none⟩=false)∧Below w0.heap.size w0 w2):=by
  refine(G.out _ ((Below.refl _ _).alloc (Nat.le_refl _) _).drew).mono ?_
  rintro r w2 ⟨rfl,hb⟩
  have hb:Below (w0.alloc (.cells #[.int .i64 0,.int .i64 0,.bool false] 70)).heap.size (w0.alloc (.cells #[.int .i64 0,.int .i64 0,.bool false] 70)) w2:=⟨hb.os,hb.tape,hb.output,hb.size,hb.block⟩
  have nb:=(hb.block w0.heap.size (by simp)).trans (heap_alloc_new w0 (.cells #[.int .i64 0,.int .i64 0,.bool false] 70))
  rw[z0]at nb
  have hbb:Below w0.heap.size w0 w2:=((Below.refl _ _).alloc (Nat.le_refl _) _).trans (hb.mono (by simp))
  exact⟨rfl,(kp w2 hbb).1,⟨by rw[cell_of_row _ _ 0 _ _ _ nb];rfl,by rw[cell_of_row _ _ 1 _ _ _ nb];rfl,by rw[cell_of_row _ _ 2 _ _ _ nb];rfl,by simp[World.frozen?,nb],by simp[World.frozen?,nb],by simp[World.frozen?,nb]⟩,hbb⟩
 have fin:Hid (∀W3,Turn (fun _=>False) w0 W3→(W3.cell? ⟨w.heap.size,0,none⟩=some (.int .i64 n)∧W3.cell? ⟨w.heap.size,1,none⟩=some (.int .i64 page)∧W3.cell? ⟨w.heap.size+1,0,none⟩=some (.int .i64 a.from_)∧W3.cell? ⟨w.heap.size+1,1,none⟩=some (.int .i64 a.pages)∧W3.cell? ⟨w.heap.size+1,2,none⟩=some (.bool a.write)∧W3.cell? ⟨w.heap.size+1,3,none⟩=some (.int .i64 a.kind)∧W3.cell? ⟨w.heap.size+1,4,none⟩=some (.int .i64 a.file)∧W3.cell? ⟨w.heap.size+1,5,none⟩=some (.int .i64 a.off))∧Calls Tryz.prog 212 #[ptrV q.sp,.agg #[.int .i64 n,.int .i64 page],a.enc] W3 fun r w'=>∃v c,r=.returned (.tuple #[.int .i64 v,.int .i64 c])∧Z (.tuple #[.int .i64 v,.int .i64 c]) w'):=fun W3 t=>by
  have n4:=(t.below.block w.heap.size (Array.getElem?_eq_some_iff.1 nb4).1).trans nb4
  have n5:=(t.below.block (w.heap.size+1) (Array.getElem?_eq_some_iff.1 nb5).1).trans nb5
  refine⟨⟨?_,?_,?_,?_,?_,?_,?_,?_⟩,hF W3 (retag tag w 0) (h0.below t.below) (s0.trans (Step.of_below t.below))⟩
  ·rw[cell_of_row _ _ 0 _ _ _ n4];rfl
  ·rw[cell_of_row _ _ 1 _ _ _ n4];rfl
  ·rw[cell_of_row _ _ 0 _ _ _ n5];rfl
  ·rw[cell_of_row _ _ 1 _ _ _ n5];rfl
  ·rw[cell_of_row _ _ 2 _ _ _ n5];rfl
  ·rw[cell_of_row _ _ 3 _ _ _ n5];rfl
  ·rw[cell_of_row _ _ 4 _ _ _ n5];rfl
  ·rw[cell_of_row _ _ 5 _ _ _ n5];rfl
 have HW:=Lib.hid hw0
 unfold entV at G1 G2
 unfold ptrV Ar.enc at fin
 unfold ptrV Ar.enc
 have hk1:((old.kind:Int)==3)=false:=beq_eq_false_iff_ne.2 (by omega)
 have hk2:((old.kind:Int)==2)=false:=beq_eq_false_iff_ne.2 (by omega)
 have hk3:((old.kind:Int)==0)=true:=beq_iff_eq.2 (by omega)
 rw[HW.out]at d40 d41 c0 c6
 clear h hb0 nb4 nb5 s0 h0 hF r1 hs lk kp ka G hw0 hold hk
 go_enter Tryz.func168,Tryz.ntmps168
 go_wp2_with fail
 rw[←HW.out]
 rw[←HW.out]at d40 d41 c0 c6
 go_region_held (fun W'=>W'.cell? ⟨(q.U n).ap,0,none⟩=some (.pointer (some ⟨(q.U n).tp,0,none⟩))∧W'.cell? ⟨q.sp,6,none⟩=some (.map (some q.pm))∧W'.cell? ⟨w.heap.size,0,none⟩=some (.int .i64 n)∧W'.cell? ⟨w.heap.size,1,none⟩=some (.int .i64 page)) (go_keep)
  (first
   | (go_at_call 35;refine G1.out.mono ?_;rintro r w2 ⟨rfl,⟨g1,g2,g3,g4⟩,y0,y1,y2,y3,⟨n1,n2,n3⟩,HX⟩;have hX:=Lib.hid HX;clear HX)
   | (go_at_call 35;refine G2.out.mono ?_;rintro r w2 ⟨rfl,⟨g1,g2,g3,g4⟩,⟨y0,y1,y2,y3,y4,y5⟩,HX⟩;have hX:=Lib.hid HX;clear HX))
 ·clear g1 g2 g3 g4 y0 y1 y2 y3 n1 n2 n3 d40 d41 c0 c6 ka0 ka1 ka2 ka3 lk1 lk2
  obtain⟨⟨t0,t1,t2,t3,t4,t5,t6,t7⟩,CF⟩:=fin.out _ ((Turn.of_below hX.out).alloc (.cells #[.int .i64 old.kind,.int .i64 old.n,.bool old.write] 70 (0,0)))
  have CF:=Lib.hid CF
  clear fin
  go_wp2_with fail
  refine CF.out.mono ?_
  rintro r w5 ⟨v,c,rfl,hz⟩
  have HZ:=Lib.hid hz
  clear hz t0 t1 t2 t3 t4 t5 t6 t7
  go_wp2_with fail
  exact bodyPost_ret (v:=.tuple #[.int .i64 v,.int .i64 c]) (by simp[results,Tryz.results168,go_sem]) rfl ⟨v,c,rfl,HZ.out⟩
 all_goals (
  have tX:Turn (fun _=>False) w0 (((w2.setCell ⟨w.heap.size+2,0,none⟩ (.int .i64 old.kind)).setCell ⟨w.heap.size+2,1,none⟩ (.int .i64 old.n)).setCell ⟨w.heap.size+2,2,none⟩ (.bool old.write)):=
   (((Turn.of_below hX.out).set (p:=⟨w.heap.size+2,0,none⟩) (.inr (Nat.le_of_eq z0)) _).set (p:=⟨w.heap.size+2,1,none⟩) (.inr (Nat.le_of_eq z0)) _).set (p:=⟨w.heap.size+2,2,none⟩) (.inr (Nat.le_of_eq z0)) _
  clear g1 g2 g3 g4 d40 d41 c0 c6 ka0 ka1 ka2 ka3 lk1 lk2
  obtain⟨⟨t0,t1,t2,t3,t4,t5,t6,t7⟩,CF⟩:=fin.out _ tX
  have CF:=Lib.hid CF
  clear fin
  go_wp2_with fail
  refine CF.out.mono ?_
  rintro r w5 ⟨v,c,rfl,hz⟩
  have HZ:=Lib.hid hz
  clear hz t0 t1 t2 t3 t4 t5 t6 t7
  go_wp2_with fail
  exact bodyPost_ret (v:=.tuple #[.int .i64 v,.int .i64 c]) (by simp[results,Tryz.results168,go_sem]) rfl ⟨v,c,rfl,HZ.out⟩)
end
end Go.Proofs.YtnhdmnijiphjjaaGreat
