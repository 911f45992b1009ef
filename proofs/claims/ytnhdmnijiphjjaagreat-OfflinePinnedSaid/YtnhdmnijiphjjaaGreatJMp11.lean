/- Processes: New: what it answers and leaves. -/
import Derived.Test.YtnhdmnijiphjjaaGreatJMp10
import Derived.Deep.MidRow
import Derived.Deep.RegionHeld
import Derived.WalkKit
set_option linter.unusedVariables false
set_option linter.unusedSimpArgs false
set_option maxRecDepth 100000
set_option maxHeartbeats 2000000
namespace Go.Proofs.YtnhdmnijiphjjaaGreat
open Go Go.RowKit
def za.start(R:RamS)(P:zk)(D:zx):za:=⟨R,P,D,fun _=>[],[],[],List.replicate 32 [],fun _=>none⟩
section
variable {w w':World}{tag tag':Nat→Nat}{R:RamS}{P:zk}{D:zx}
theorem Step.renew{C:Nat→Prop}(c:Nat)(h:Below w.heap.size w w'):Step C tag w (Go.Proofs.YtnhdmnijiphjjaaGreat.retag tag w c) w':=⟨fun _ hb=>if_pos hb,Turn.of_below h⟩
theorem zc6(rp rb pp fs fb dp:Nat)(hR:qi w (fun b=>tag b=1) rp rb R)(hP:zq w (fun b=>tag b=2) pp fs fb P)(hD:Xw w (fun b=>tag b=3) dp D):
  Calls Tryz.prog 57 #[ptrV rp,ptrV dp,ptrV pp] w fun e w'=>∃q tag',e=.returned (ptrV q.sp)∧zb w' tag' q (.start R P D)∧Step (fun _=>False) tag w tag' w':=by
 have HR:=Lib.hid (And.intro hR (And.intro hP hD))
 clear hR hP hD
 unfold ptrV
 have hmm:=@run_makeMap Tryz.prog
 go_enter Tryz.func57,Tryz.ntmps57
 go_wp2_with fail
 refine(zm0 (K:=KF) w).mono ?_
 rintro e w1 ⟨bp,bm,rfl,hB,b1,b2,hb1⟩
 have H1:=Lib.hid (And.intro hB (And.intro b1 (And.intro b2 hb1)))
 clear hB b1 b2 hb1
 go_wp2_with fail
 refine(zj1 w1).mono ?_
 rintro e w2 ⟨rfl,hb2,hC⟩
 have H2:=Lib.hid (And.intro hC hb2)
 clear hb2 hC
 go_wp2_with fail
 refine(zmg w2).mono ?_
 rintro e w3 ⟨rfl,hS,hb3,hz3⟩
 have H3:=Lib.hid (And.intro hS (And.intro hb3 hz3))
 clear hS hb3 hz3
 go_wp2_with fail
 clear hmm
 go_ret
 generalize 55=TY
 obtain⟨hB,b1,b2,hb1⟩:=H1.out
 obtain⟨hC,hb2⟩:=H2.out
 obtain⟨hS,hb3,hz3⟩:=H3.out
 obtain⟨hR,hP,hD⟩:=HR.out
 have hb4:=(Below.refl w3.heap.size w3).alloc (Nat.le_refl _) (.map #[] 0)
 have m4:=MapAt.made (κ:=Int) (ν:=Value) w3 vz id
 obtain⟨w4,hw4⟩:∃w4,w4=w3.alloc (.map #[] 0):=⟨_,rfl⟩
 have z4:w4.heap.size=w3.heap.size+1:=by rw[hw4];simp
 rw[←hw4]at hb4 m4⊢
 have r5:=Row.new w4 7 (Z8 ⟨w4.heap.size,rp,rb,pp,fs,fb,dp,bp,bm,w1.heap.size+2,w1.heap.size,w1.heap.size+1,w2.heap.size,w3.heap.size,fun _=>⟨0,0,0,0⟩⟩) #[.pointer (some ⟨rp,0,none⟩),.pointer (some ⟨dp,0,none⟩),.pointer (some ⟨pp,0,none⟩),.pointer (some ⟨bp,0,none⟩),.pointer (some ⟨w1.heap.size+2,0,none⟩),.pointer (some ⟨w2.heap.size,0,none⟩),.map (some w3.heap.size)] TY rfl fun i hi=>by
  rcases(by omega:i=0∨i=1∨i=2∨i=3∨i=4∨i=5∨i=6)with rfl|rfl|rfl|rfl|rfl|rfl|rfl<;>rfl
 have hb5:=(Below.refl w4.heap.size w4).alloc (Nat.le_refl _) (.cells #[.pointer (some ⟨rp,0,none⟩),.pointer (some ⟨dp,0,none⟩),.pointer (some ⟨pp,0,none⟩),.pointer (some ⟨bp,0,none⟩),.pointer (some ⟨w1.heap.size+2,0,none⟩),.pointer (some ⟨w2.heap.size,0,none⟩),.map (some w3.heap.size)] TY (0,0))
 generalize (w4.alloc (.cells #[.pointer (some ⟨rp,0,none⟩),.pointer (some ⟨dp,0,none⟩),.pointer (some ⟨pp,0,none⟩),.pointer (some ⟨bp,0,none⟩),.pointer (some ⟨w1.heap.size+2,0,none⟩),.pointer (some ⟨w2.heap.size,0,none⟩),.map (some w3.heap.size)] TY (0,0)))=w5 at r5 hb5⊢
 have s1:Step (fun _=>False) tag w (retag tag w 4) w1:=Step.renew 4 hb1
 have s2:Step (fun _=>False) (retag tag w 4) w1 (retag (retag tag w 4) w1 5) w2:=Step.renew 5 hb2
 have t1:∀b,w.heap.size≤b→retag tag w 4 b=4:=fun b hb=>yc _ _ _ _ hb
 obtain⟨tag1,e1⟩:∃tag1,tag1=retag tag w 4:=⟨_,rfl⟩
 rw[←e1]at s1 s2 t1
 have t2:∀b,w1.heap.size≤b→retag tag1 w1 5 b=5:=fun b hb=>yc _ _ _ _ hb
 obtain⟨tag2,e2⟩:∃tag2,tag2=retag tag1 w1 5:=⟨_,rfl⟩
 rw[←e2]at s2 t2
 have s3:Step (fun _=>False) tag2 w2 (retag tag2 w2 6) w3:=Step.renew 6 hb3
 have t3:∀b,w2.heap.size≤b→retag tag2 w2 6 b=6:=fun b hb=>yc _ _ _ _ hb
 obtain⟨tag3,e3⟩:∃tag3,tag3=retag tag2 w2 6:=⟨_,rfl⟩
 rw[←e3]at s3 t3
 have s4:Step (fun _=>False) tag3 w3 (retag tag3 w3 7) w4:=Step.renew 7 hb4
 have t4:∀b,w3.heap.size≤b→retag tag3 w3 7 b=7:=fun b hb=>yc _ _ _ _ hb
 obtain⟨tag4,e4⟩:∃tag4,tag4=retag tag3 w3 7:=⟨_,rfl⟩
 rw[←e4]at s4 t4
 have s5:Step (fun _=>False) tag4 w4 (retag tag4 w4 8) w5:=Step.renew 8 hb5
 have t5:∀b,w4.heap.size≤b→retag tag4 w4 8 b=8:=fun b hb=>yc _ _ _ _ hb
 obtain⟨tag5,e5⟩:∃tag5,tag5=retag tag4 w4 8:=⟨_,rfl⟩
 rw[←e5]at s5 t5
 have s25:=(s3.trans s4).trans s5
 have s15:=s2.trans s25
 have s05:=s1.trans s15
 have bk:zau w1 tag1 bp bm (fun _=>[]):=⟨[bp,bm],[],hB,fun b hb=>by
  simp at hb
  rcases hb with rfl|rfl
  ·exact t1 _ b1
  ·exact t1 _ b2⟩
 have ck:Ux w2 tag2 (w1.heap.size+2) w1.heap.size (w1.heap.size+1) [] []:=⟨hC,t2 _ (by omega),t2 _ (by omega),t2 _ (by omega)⟩
 have sk:zaq w3 tag3 w2.heap.size (List.replicate 32 []):=⟨[w2.heap.size],_,hS,fun b hb=>by simp at hb;subst hb;exact t3 _ (Nat.le_refl _)⟩
 refine⟨⟨w4.heap.size,rp,rb,pp,fs,fb,dp,bp,bm,w1.heap.size+2,w1.heap.size,w1.heap.size+1,w2.heap.size,w3.heap.size,fun _=>⟨0,0,0,0⟩⟩,tag5,?_,?_,s05⟩
 ·show Ending.returned (.pointer (some ⟨w3.heap.size+1,0,none⟩))=Ending.returned (.pointer (some ⟨w4.heap.size,0,none⟩))
  rw[z4]
 ·exact {so:=t5 _ (Nat.le_refl _),row:=r5,ram:=hR.loc (s05.keeps id),pool:=hP.loc (s05.keeps id),disk:=hD.loc (s05.keeps id),back:=bk.step s15 id,cache:=ck.step s25 id,swap:=sk.step (s4.trans s5) id,po:=(s5.keeps id _ (by show w3.heap.size<_;omega) (t4 _ (Nat.le_refl _))).1,map:=⟨[],m4.keep (s5.keeps id _ (by show w3.heap.size<_;omega) (t4 _ (Nat.le_refl _))).2,by simp,fun y hy=>by simp at hy,fun n hn=>rfl⟩,procs:=fun n pr _ hx=>(by cases hx),out:=fun _ _=>rfl}
end
def fB(m idx:Nat):UInt8:=if idx<m then UInt8.ofNat (3*(idx/64)+idx%64)else 0
def fP(i:Nat):List UInt8:=(List.range 64).map fun k=>UInt8.ofNat (3*i+k)
def znf(W:World)(wp m:Nat):Prop:=∀idx,idx<4096→W.cell? ⟨wp,2+idx,none⟩=some (bV (fB m idx))∧W.frozen? ⟨wp,2+idx,none⟩=false
theorem znf.range{W:World}{wp m i:Nat}(h:znf W wp m)(hi:i<64)(hm:64*(i+1)≤m):W.rangeAt wp (2+i*64) ((fP i).map bV):=by
 intro j v hv
 have hj:j<64:=by have:=(List.getElem?_eq_some_iff.1 hv).1;simpa[fP]using this
 have:=(h (i*64+j) (by omega)).1
 rw[show 2+i*64+j=2+(i*64+j)by omega,this]
 unfold fB
 rw[if_pos (by omega),show(i*64+j)/64=i by omega,show(i*64+j)%64=j by omega]
 unfold fP at hv
 rw[List.map_map,List.getElem?_map,List.getElem?_range hj]at hv
 exact hv
def zng(l:List Ar)(a:Ar)(X:Int)(l':List Ar):Prop:=
 (a.yo∧anyA a l=false∧l.length<16∧X=0∧l'.Perm (l++[a])∧l'.Pairwise (fun x y=>¬y.from_<x.from_))∨
 (X≠0∧l'=l∧((¬a.yo∧X=1)∨(a.yo∧anyA a l=true∧X=3)∨(a.yo∧anyA a l=false∧16≤l.length∧X=4)))
section
variable {w w':World}{tag tag':Nat→Nat}{q:Sq}{x:za}
theorem za.zkh{n:Nat}{pr:yj}(h:x.T n=some pr):x.put n pr=x:=by
 unfold za.put
 cases x
 simp only[za.mk.injEq,true_and]at *
 funext m
 split
 ·rename_i e;rw[e];exact h.symm
 ·rfl
theorem zb.Yh(h:zb w tag q x){n:Nat}{pr:yj}(hn:n<8)(hp:x.T n=some pr){A:List Ar}{v:Value}(hb:Below w.heap.size w w')(hv:ArAt w' v A)(ho:∀b,v.ownBlock=some b→w.heap.size≤b):
  zb (w'.setCell ⟨(q.U n).ap,1,none⟩ v) (retag tag w (30+n)) q (x.put n ⟨pr.T,A,pr.Q⟩)∧Step (fun c=>c=20+n) tag w (retag tag w (30+n)) (w'.setCell ⟨(q.U n).ap,1,none⟩ v):=by
 obtain⟨h1,h2,⟨av,r1,r2,r3⟩,h4,h5,h6⟩:=h.procs n pr hn hp
 have t:Turn (fun b=>tag b=20+n) w (w'.setCell ⟨(q.U n).ap,1,none⟩ v):=(Turn.of_below hb).set (p:=⟨(q.U n).ap,1,none⟩) (.inl h2) v
 have s:Step (fun c=>c=20+n) tag w (retag tag w (30+n)) (w'.setCell ⟨(q.U n).ap,1,none⟩ v):=⟨fun b hb=>if_pos hb,t.mono fun k _ e=>e⟩
 have hT:∀m,(x.put n ⟨pr.T,A,pr.Q⟩).T m=if m=n then some ⟨pr.T,A,pr.Q⟩else x.T m:=fun m=>rfl
 have hapl:=r1.lt
 refine⟨h.turn s (by omega) (by omega) (fun m hm=>?_) (fun m hm=>?_) (.inl ⟨by omega,rfl⟩) (.inl ⟨by omega,rfl⟩) (.inl ⟨by omega,rfl⟩) (.inl ⟨by omega,rfl⟩) (.inl ⟨by omega,rfl,rfl⟩) (.inl ⟨by omega,rfl⟩) fun m pm hm hx=>?_,s⟩
 ·rw[hT]
  split
  ·rename_i e;rw[e,hp];rfl
  ·rfl
 ·rw[hT,if_neg (by omega)]
  exact h.out m hm
 ·rw[hT]at hx
  by_cases e:m=n
  ·rw[if_pos e]at hx
   subst e
   have e2:=Option.some.inj hx
   subst e2
   have q4:=h4.lt
   have k4:=s.keeps (c:=40+m) (by omega)
   refine .inr ⟨h1.loc (s.keeps (by omega)),(by rw[←h2];exact if_pos hapl),⟨v,?_,?_,fun b hb=>?_⟩,h4.keep fun b hb=>?_,(k4 _ q4.1 h5).1,(k4 _ q4.2.1 h6).1⟩
   ·refine((r1.below hb).set (i:=1) (by omega) v).congr fun i hi=>?_
    rcases(by omega:i=0∨i=1∨i=2)with rfl|rfl|rfl<;>rfl
   ·exact SlAt.keep hv fun b hb=>Below.heap_setCell w' ⟨(q.U m).ap,1,none⟩ v b (by have:=ho b hb;show b≠(q.U m).ap;omega)
   ·exact yc _ _ _ _ (ho b hb)
   ·rcases hb with rfl|rfl
    ·exact(k4 _ q4.1 h5).2
    ·exact(k4 _ q4.2.1 h6).2
  ·rw[if_neg e]at hx
   exact .inl ⟨⟨by omega,by omega,by omega,by omega⟩,hx⟩
theorem zms(h:zb w tag q x)(n:Nat)(pr:yj)(hn:n<8)(hp:x.T n=some pr)(a:Ar)(hwf:a.Wf)(hlen:pr.A.length≤100):
  Calls Tryz.prog 18 #[ptrV q.sp,.int .i64 n,a.enc] w fun e w'=>∃X A' tag',e=.returned (.int .i64 X)∧zng pr.A a X A'∧zb w' tag' q (x.put n ⟨pr.T,A',pr.Q⟩)∧Step (fun c=>c=20+n) tag w tag' w':=by
 have hb0:=(Below.refl w.heap.size w).alloc (Nat.le_refl _) (.cells a.cells.toArray 32 (0,0))
 have s0:Step (fun c=>c=20+n) tag w (retag tag w 0) (w.alloc (.cells a.cells.toArray 32 (0,0))):=Step.anew hb0
 have h0:zb (w.alloc (.cells a.cells.toArray 32 (0,0))) (retag tag w 0) q x:=h.step (Step.anew hb0)
 have F:=Lib.hid (Zh h0 (n:Int))
 have ev:Ye q x (n:Int)=.tuple #[ptrV (q.U n).ap,.bool true]:=by
  unfold Ye
  rw[show((n:Nat):Int).toNat=n by omega,hp]
  have:(0:Int)≤n:=by omega
  simp[this]
 rw[ev]at F
 obtain⟨av,r1,r2,r3⟩:=(h0.procs n pr hn hp).row
 have c1:=r1.cell (i:=1) (by omega)
 have z1:=r1.frozen 1
 dsimp only[X0]at c1
 obtain⟨W,hW⟩:∃W,W=(w.alloc (.cells a.cells.toArray 32 (0,0))).drew:=⟨_,rfl⟩
 have hbW:Below (w.alloc (.cells a.cells.toArray 32 (0,0))).heap.size (w.alloc (.cells a.cells.toArray 32 (0,0))) W:=by rw[hW];exact(Below.refl _ _).drew
 have q1:W.cell? ⟨(q.U n).ap,1,none⟩=some av:=by rw[hW];exact c1
 have hSW:zb W (retag tag w 0) q x:=h0.below hbW
 have sW:Step (fun c=>c=20+n) tag w (retag tag w 0) W:=s0.trans (Step.of_below hbW)
 have nb:W.heap[w.heap.size]?=some (.cells a.cells.toArray 32 (0,0)):=by rw[hW];exact heap_alloc_new w _
 have d:∀i,W.cell? ⟨w.heap.size,i,none⟩=a.cells.toArray[i]?:=fun i=>cell_of_row _ _ i _ _ _ nb
 have d0:W.cell? ⟨w.heap.size,0,none⟩=some (.int .i64 a.from_):=d 0
 have d1:W.cell? ⟨w.heap.size,1,none⟩=some (.int .i64 a.pages):=d 1
 have d2:W.cell? ⟨w.heap.size,2,none⟩=some (.bool a.write):=d 2
 have d3:W.cell? ⟨w.heap.size,3,none⟩=some (.int .i64 a.kind):=d 3
 have d4:W.cell? ⟨w.heap.size,4,none⟩=some (.int .i64 a.file):=d 4
 have d5:W.cell? ⟨w.heap.size,5,none⟩=some (.int .i64 a.off):=d 5
 have AD:=Lib.hid (zm2 W av pr.A (SlAt.rd (by
  obtain⟨av',r1',r2',_⟩:=(hSW.procs n pr hn hp).row
  have:=r1'.cell (i:=1) (by omega)
  rw[q1]at this
  cases this
  exact r2')) a hwf hlen)
 have CA:Hid (Calls Tryz.prog 63 #[av,a.enc] W fun e w2=>∃v' X A',e=.returned (.tuple #[v',.int .i64 X])∧zng pr.A a X A'∧(w2.cell? ⟨(q.U n).ap,1,none⟩=some av∧w2.frozen? ⟨(q.U n).ap,1,none⟩=false)∧
   (w2.cell? ⟨w.heap.size,0,none⟩=some (.int .i64 a.from_)∧w2.cell? ⟨w.heap.size,1,none⟩=some (.int .i64 a.pages)∧w2.cell? ⟨w.heap.size,2,none⟩=some (.bool a.write)∧w2.cell? ⟨w.heap.size,3,none⟩=some (.int .i64 a.kind)∧w2.cell? ⟨w.heap.size,4,none⟩=some (.int .i64 a.file)∧w2.cell? ⟨w.heap.size,5,none⟩=some (.int .i64 a.off))∧
   (∃aa cc nn,v'=.slice aa nn cc)∧(X=0→∃tag',zb (w2.setCell ⟨(q.U n).ap,1,none⟩ v') tag' q (x.put n ⟨pr.T,A',pr.Q⟩)∧Step (fun c=>c=20+n) tag w tag' (w2.setCell ⟨(q.U n).ap,1,none⟩ v'))∧
   (X≠0→∃tag',zb w2 tag' q (x.put n ⟨pr.T,A',pr.Q⟩)∧Step (fun c=>c=20+n) tag w tag' w2)):=by
  refine AD.out.mono ?_
  rintro e w2 ⟨v',X,rfl,hb2,ho2,hpost⟩
  have rW:=(hSW.procs n pr hn hp).row
  obtain⟨av',r1',_,_⟩:=rW
  have hcell:=hb2.cell (World.block_lt_of_cell? _ _ q1)
  have hfz:w2.frozen? ⟨(q.U n).ap,1,none⟩=false:=(Y0 (a:=⟨(q.U n).ap,1,none⟩) (hb2.block _ r1'.lt)).trans (r1'.frozen 1)
  have hd:∀i,w2.cell? ⟨w.heap.size,i,none⟩=W.cell? ⟨w.heap.size,i,none⟩:=fun i=>World.cell?_of_block (hb2.block _ (World.block_lt_of_cell? W ⟨w.heap.size,0,none⟩ d0))
  have bad:X≠0→∃tag',zb w2 tag' q (x.put n ⟨pr.T,pr.A,pr.Q⟩)∧Step (fun c=>c=20+n) tag w tag' w2:=fun _=>⟨retag tag w 0,by
   show zb w2 (retag tag w 0) q (x.put n pr)
   rw[za.zkh hp]
   exact hSW.below hb2,sW.trans (Step.of_below hb2)⟩
  by_cases hs:a.yo
  ·by_cases ha:anyA a pr.A=true
   ·obtain⟨rfl,rfl⟩:=hpost.there hs ha
    exact⟨_,3,pr.A,rfl,.inr ⟨by omega,rfl,.inr (.inl ⟨hs,ha,rfl⟩)⟩,⟨hcell.trans q1,hfz⟩,⟨(hd 0).trans d0,(hd 1).trans d1,(hd 2).trans d2,(hd 3).trans d3,(hd 4).trans d4,(hd 5).trans d5⟩,⟨_,_,_,rfl⟩,fun e=>by omega,bad⟩
   ·have ha:anyA a pr.A=false:=by cases h:anyA a pr.A<;>simp_all
    by_cases h16:16≤pr.A.length
    ·obtain⟨rfl,rfl⟩:=hpost.full hs ha h16
     exact⟨_,4,pr.A,rfl,.inr ⟨by omega,rfl,.inr (.inr ⟨hs,ha,h16,rfl⟩)⟩,⟨hcell.trans q1,hfz⟩,⟨(hd 0).trans d0,(hd 1).trans d1,(hd 2).trans d2,(hd 3).trans d3,(hd 4).trans d4,(hd 5).trans d5⟩,⟨_,_,_,rfl⟩,fun e=>by omega,bad⟩
    ·obtain⟨rfl,A',hA,hperm,hsrt⟩:=hpost.done hs ha (by omega)
     obtain⟨aa,cc,hv,_,_⟩:=SlAt.form hA
     have K:=hSW.Yh hn hp hb2 hA ho2
     exact⟨v',0,A',rfl,.inl ⟨hs,ha,by omega,rfl,hperm,hsrt⟩,⟨hcell.trans q1,hfz⟩,⟨(hd 0).trans d0,(hd 1).trans d1,(hd 2).trans d2,(hd 3).trans d3,(hd 4).trans d4,(hd 5).trans d5⟩,⟨_,_,_,hv⟩,fun _=>⟨_,K.1,sW.trans K.2⟩,fun e=>absurd rfl e⟩
  ·obtain⟨rfl,rfl⟩:=hpost.arg hs
   exact⟨_,1,pr.A,rfl,.inr ⟨by omega,rfl,.inl ⟨hs,rfl⟩⟩,⟨hcell.trans q1,hfz⟩,⟨(hd 0).trans d0,(hd 1).trans d1,(hd 2).trans d2,(hd 3).trans d3,(hd 4).trans d4,(hd 5).trans d5⟩,⟨_,_,_,rfl⟩,fun e=>by omega,bad⟩
 have hd:(w.alloc (.cells a.cells.toArray 32 (0,0))).drew=W:=hW.symm
 have ec:a.cells.toArray=#[.int .i64 a.from_,.int .i64 a.pages,.bool a.write,.int .i64 a.kind,.int .i64 a.file,.int .i64 a.off]:=rfl
 obtain⟨ava,avc,hav,_,_⟩:=SlAt.form r2
 rw[ec]at F hd c1 z1
 rw[hav]at q1 CA c1
 unfold ptrV at F⊢
 unfold Ar.enc at CA⊢
 clear h hp hb0 s0 h0 ev r1 r2 r3 hbW hSW sW nb d AD hW ec hwf hlen hav c1 z1
 go_enter Tryz.func18,Tryz.ntmps18
 go_wp2_with fail
 refine F.out.mono ?_
 rintro e u ⟨rfl,hu⟩
 have hu:=hu.symm
 subst hu
 clear F
 go_wp2_with fail
 go_region_held (fun W'=>W'.cell? ⟨(q.U n).ap,1,none⟩=some (.slice ava pr.A.length avc)∧W'.cell? ⟨w.heap.size,0,none⟩=some (.int .i64 a.from_)∧W'.cell? ⟨w.heap.size,1,none⟩=some (.int .i64 a.pages)∧W'.cell? ⟨w.heap.size,2,none⟩=some (.bool a.write)∧W'.cell? ⟨w.heap.size,3,none⟩=some (.int .i64 a.kind)∧W'.cell? ⟨w.heap.size,4,none⟩=some (.int .i64 a.file)∧W'.cell? ⟨w.heap.size,5,none⟩=some (.int .i64 a.off)) (go_keep)
  ((go_at_call 63;refine CA.out.mono ?_;rintro e w2 ⟨v',X,A',rfl,hAR,⟨g1,gz⟩,⟨g2,g3,g4,g5,g6,g7⟩,⟨aa,cc,nn,rfl⟩,HX⟩;have hX:=Lib.hid HX;have hA:=Lib.hid hAR;clear HX hAR))
 clear q1 d0 d1 d2 d3 d4 d5 g2 g3 g4 g5 g6 g7 hd CA
 by_cases hX0:X=0
 ·subst hX0
  go_wp2_with fail
  go_ret
  obtain⟨tag',k1,k2⟩:=hX.out.1 trivial
  exact⟨0,rfl,A',hA.out,tag',k1,k2⟩
 ·go_wp2_with fail
  go_ret
  obtain⟨tag',k1,k2⟩:=hX.out.2 hX0
  exact⟨X,A',tag',rfl,hA.out,k1,k2⟩
end
section
variable {w w':World}{tag tag':Nat→Nat}{q:Sq}{x:za}
theorem zeu{tag:Nat→Nat}{w:World}{c b:Nat}(h:tag b=c∨w.heap.size≤b):retag tag w c b=c:=by
 unfold retag
 split
 ·rcases h with h|h
  ·exact h
  ·omega
 ·rfl
theorem zb.back'(h:zb w tag q x){S S':List Nat}{V':List (Int×Value)}{B':Int→List (Int×Int)}(hS:∀b∈S,tag b=4)(t:Touch S w w')(hn:∀b∈S',b∈S∨w.heap.size≤b)(hB:u7 KF w' q.bp q.bm S' V' B'):
  zb w' (retag tag w 4) q {x with B:=B'}∧Step (fun c=>c=4) tag w (retag tag w 4) w':=by
 have s:Step (fun c=>c=4) tag w (retag tag w 4) w':=Step.retag (Turn.touch (O:=fun b=>tag b=4) t fun k hk=>.inl (hS k hk)) rfl
 exact⟨h.turn s (by omega) (by omega) (fun _ _=>rfl) h.out (.inl ⟨by omega,rfl⟩) (.inl ⟨by omega,rfl⟩) (.inl ⟨by omega,rfl⟩) (.inr ⟨S',V',hB,fun b hb=>zeu ((hn b hb).imp_left (hS b))⟩) (.inl ⟨by omega,rfl,rfl⟩) (.inl ⟨by omega,rfl⟩) fun _ _ _ hx=>.inl ⟨⟨by omega,by omega,by omega,by omega⟩,hx⟩,s⟩
theorem zb.swap'(h:zb w tag q x){S S':List Nat}{V':List Value}{L':List (List (Int×Int))}(hS:∀b∈S,tag b=6)(t:Touch S w w')(hn:∀b∈S',b∈S∨w.heap.size≤b)(hL:Zj w' q.wp S' V' L'):
  zb w' (retag tag w 6) q {x with S:=L'}∧Step (fun c=>c=6) tag w (retag tag w 6) w':=by
 have s:Step (fun c=>c=6) tag w (retag tag w 6) w':=Step.retag (Turn.touch (O:=fun b=>tag b=6) t fun k hk=>.inl (hS k hk)) rfl
 exact⟨h.turn s (by omega) (by omega) (fun _ _=>rfl) h.out (.inl ⟨by omega,rfl⟩) (.inl ⟨by omega,rfl⟩) (.inl ⟨by omega,rfl⟩) (.inl ⟨by omega,rfl⟩) (.inl ⟨by omega,rfl,rfl⟩) (.inr ⟨S',V',hL,fun b hb=>zeu ((hn b hb).imp_left (hS b))⟩) fun _ _ _ hx=>.inl ⟨⟨by omega,by omega,by omega,by omega⟩,hx⟩,s⟩
theorem zb.za7(h:zb w tag q x){P':zk}(t:Turn (fun b=>tag b=2) w w')(hP:zq w' (fun b=>tag b=2) q.pp q.fs q.fb P'):zb w' tag q {x with P:=P'}∧Step (fun c=>c=2) tag w tag w':=by
 have s:Step (fun c=>c=2) tag w tag w':=Step.Yy (c:=2) t rfl
 exact⟨h.turn s (by omega) (by omega) (fun _ _=>rfl) h.out (.inl ⟨by omega,rfl⟩) (.inr hP) (.inl ⟨by omega,rfl⟩) (.inl ⟨by omega,rfl⟩) (.inl ⟨by omega,rfl,rfl⟩) (.inl ⟨by omega,rfl⟩) fun _ _ _ hx=>.inl ⟨⟨by omega,by omega,by omega,by omega⟩,hx⟩,s⟩
theorem zb.ram'(h:zb w tag q x){R':RamS}(t:Turn (fun b=>tag b=1) w w')(hR:qi w' (fun b=>tag b=1) q.rp q.rb R'):zb w' tag q {x with R:=R'}∧Step (fun c=>c=1) tag w tag w':=by
 have s:Step (fun c=>c=1) tag w tag w':=Step.Yy (c:=1) t rfl
 exact⟨h.turn s (by omega) (by omega) (fun _ _=>rfl) h.out (.inr hR) (.inl ⟨by omega,rfl⟩) (.inl ⟨by omega,rfl⟩) (.inl ⟨by omega,rfl⟩) (.inl ⟨by omega,rfl,rfl⟩) (.inl ⟨by omega,rfl⟩) fun _ _ _ hx=>.inl ⟨⟨by omega,by omega,by omega,by omega⟩,hx⟩,s⟩
theorem zb.disk'(h:zb w tag q x){D':zx}(t:Turn (fun b=>tag b=3) w w')(hD:Xw w' (fun b=>tag b=3) q.dp D'):zb w' tag q {x with D:=D'}∧Step (fun c=>c=3) tag w tag w':=by
 have s:Step (fun c=>c=3) tag w tag w':=Step.Yy (c:=3) t rfl
 exact⟨h.turn s (by omega) (by omega) (fun _ _=>rfl) h.out (.inl ⟨by omega,rfl⟩) (.inl ⟨by omega,rfl⟩) (.inr hD) (.inl ⟨by omega,rfl⟩) (.inl ⟨by omega,rfl,rfl⟩) (.inl ⟨by omega,rfl⟩) fun _ _ _ hx=>.inl ⟨⟨by omega,by omega,by omega,by omega⟩,hx⟩,s⟩
theorem zb.zjj(h:zb w tag q x){l:zbo}{r:zdg}(t:Turn (fun b=>tag b=5) w w')(hC:ve w' q.cp q.c1 q.c2 l r):zb w' tag q {x with CL:=l,CR:=r}∧Step (fun c=>c=5) tag w tag w':=by
 have s:Step (fun c=>c=5) tag w tag w':=Step.Yy (c:=5) t rfl
 exact⟨h.turn s (by omega) (by omega) (fun _ _=>rfl) h.out (.inl ⟨by omega,rfl⟩) (.inl ⟨by omega,rfl⟩) (.inl ⟨by omega,rfl⟩) (.inl ⟨by omega,rfl⟩) (.inr ⟨hC,h.cache.2⟩) (.inl ⟨by omega,rfl⟩) fun _ _ _ hx=>.inl ⟨⟨by omega,by omega,by omega,by omega⟩,hx⟩,s⟩
end
section
variable {w w':World}{tag tag':Nat→Nat}{q:Sq}{x:za}
theorem zd6(h:zb w tag q x)(u:Nat)(hu:2≤u∧u≤5)(f:Nat)(hn:x.P.next true=some f)(hf:f<1024)(hb:x.R.bad f=false):
  Calls Tryz.prog 213 #[ptrV q.sp,.int .i64 u,.func (.func 163) #[ptrV q.rp] #[]] w fun e w'=>e=.returned (.tuple #[.int .i64 f,.int .i64 0])∧zb w' tag q {x with P:=x.P.set f u,R:=x.R.write f 0 (List.replicate 64 0)}∧Step (fun c=>c=1∨c=2) tag w tag w':=by
 have A:Hid (Calls Tryz.prog 43 #[.pointer (some ⟨q.pp,0,none⟩),.int .i64 u,.int .i64 0,.bool true] w fun e w1=>e=.returned (.tuple #[.int .i64 f,.int .i64 0])∧zb w1 tag q {x with P:=x.P.set f u}∧Step (fun c=>c=2) tag w tag w1):=by
  refine(Uc w _ _ _ _ _ h.pool u u rfl hu.1 hu.2).mono ?_
  rintro e w1 ⟨rfl,h1,h2,_⟩
  rw[hn]at h1⊢
  have k:=h.za7 h2 h1
  exact⟨rfl,k.1,k.2⟩
 have c2:w.cell? ⟨q.sp,2,none⟩=some (.pointer (some ⟨q.pp,0,none⟩)):=h.row.cell (i:=2) (by omega)
 unfold ptrV
 clear h
 go_enter Tryz.func213,Tryz.ntmps213
 go_wp2_with fail
 refine A.out.mono ?_
 rintro e w1 ⟨rfl,h1,s1⟩
 have Z:Hid (Calls Tryz.prog 163 #[.pointer (some ⟨q.rp,0,none⟩),.int .i64 f] w1 fun e w2=>e=.returned (.int .i64 0)∧zb w2 tag q {x with P:=x.P.set f u,R:=x.R.write f 0 (List.replicate 64 0)}∧Step (fun c=>c=1∨c=2) tag w tag w2):=by
  refine(zc1 w1 _ _ _ _ h1.ram f f rfl hf hb).mono ?_
  rintro e w2 ⟨rfl,h2,h3⟩
  have k:=h1.ram' h3.1 h2
  exact⟨rfl,k.1,(s1.mono fun c hc=>.inr hc).trans (k.2.mono fun c hc=>.inl hc)⟩
 clear h1 s1 A c2
 go_wp2_with fail
 refine Z.out.mono ?_
 rintro e w2 ⟨rfl,h2,s2⟩
 have X:=Lib.hid (And.intro h2 s2)
 clear h2 s2
 go_wp2_with fail
 exact bodyPost_ret (v:=.tuple #[.int .i64 f,.int .i64 0]) (by simp[results,Tryz.results213,go_sem]) rfl ⟨rfl,X.out⟩
theorem Yd(h:zb w tag q x)(u:Nat)(hu:2≤u∧u≤5)(hn:x.P.next true=none)(fv:Value):
  Calls Tryz.prog 213 #[ptrV q.sp,.int .i64 u,fv] w fun e w'=>e=.returned (.tuple #[.int .i64 0,.int .i64 4])∧Below w.heap.size w w':=by
 have A:Hid (Calls Tryz.prog 43 #[.pointer (some ⟨q.pp,0,none⟩),.int .i64 u,.int .i64 0,.bool true] w fun e w1=>e=.returned (.tuple #[.int .i64 0,.int .i64 4])∧Below w.heap.size w w1):=by
  refine(Uc w _ _ _ _ _ h.pool u u rfl hu.1 hu.2).mono ?_
  rintro e w1 ⟨rfl,_,_,h2⟩
  rw[hn]
  exact⟨rfl,h2 hn⟩
 have c2:w.cell? ⟨q.sp,2,none⟩=some (.pointer (some ⟨q.pp,0,none⟩)):=h.row.cell (i:=2) (by omega)
 unfold ptrV
 clear h hn
 go_enter Tryz.func213,Tryz.ntmps213
 go_wp2_with fail
 refine A.out.mono ?_
 rintro e w1 ⟨rfl,h1⟩
 have X:=Lib.hid h1
 clear h1
 go_wp2_with fail
 exact bodyPost_ret (v:=.tuple #[.int .i64 0,.int .i64 4]) (by simp[results,Tryz.results213,go_sem]) rfl ⟨rfl,X.out⟩
end
section
variable {P:Program}{md:Region.Mode}{ops:Array Oper}{Q:Exit→Act→World→Prop}{S:World→Prop}{fuel:Nat}{listed:Array Bool}{a:Act}{w:World}
theorem yf{oi:Oper}(i d:Nat)(hi:ops[i]?=some oi)(hd:oi.dst=some d)(hs:Region.noSelect ops=true)(hf:Region.free md ops listed i=true)(hr:(Region.ready md ops listed).contains i=true)
  (hQ:∀c a w,Q (.panic c) (a.put oi.dst undef) w→Q (.panic c) a w) (hw:Region.wanted oi (yielded ops a.tmps)=false) (hS:S w)
  (h:wpAnyH P md ops Q S fuel (listed.setIfInBounds i true) (a.put (some d) undef) w):wpAnyH P md ops Q S (fuel+1) listed a w:=
 wpAnyH_take (v:=undef) hi hs hf hr hQ (Or.inr ⟨hw,rfl⟩) hS (by rw[hd];exact h)
theorem zit{oi:Oper}{v:Value}(i d:Nat)(hi:ops[i]?=some oi)(hd:oi.dst=some d)(hs:Region.noSelect ops=true)(hf:Region.free md ops listed i=true)(hr:(Region.ready md ops listed).contains i=true)
  (hQ:∀c a w,Q (.panic c) (a.put oi.dst v) w→Q (.panic c) a w) (hy:YieldsIf P ops S oi v a) (hS:S w)
  (h:wpAnyH P md ops Q S fuel (listed.setIfInBounds i true) (a.put (some d) v) w):wpAnyH P md ops Q S (fuel+1) listed a w:=
 wpAnyH_take (v:=v) hi hs hf hr hQ hy hS (by rw[hd];exact h)
theorem zh{oi:Oper}{v:Value}(i d:Nat)(hi:ops[i]?=some oi)(hd:oi.dst=some d)(hS:S w)(h:wpAnyH P md ops Q S fuel (listed.setIfInBounds i true) (a.put (some d) v) w)
  (hs:Region.noSelect ops=true:=by kernel_rfl) (hf:Region.free md ops listed i=true:=by kernel_rfl) (hr:(Region.ready md ops listed).contains i=true:=by kernel_rfl)
  (hQ:∀c a w,Q (.panic c) (a.put oi.dst v) w→Q (.panic c) a w:=by exact fun _ _ _ h=>h) (hy:YieldsIf P ops S oi v a:=by exact Or.inl ⟨by rfl,by((intro w hSw;(try dsimp only at hSw);go_simp)<;>with_reducible rfl)⟩):wpAnyH P md ops Q S (fuel+1) listed a w:=
 zit i d hi hd hs hf hr hQ hy hS h
theorem zg{α:Type}:(∀(l:List α) (i:Nat) (a:α),l.toArray.setIfInBounds i a=(l.set i a).toArray)∧(∀(a b:α) (l:List α),(a::l).set 0 b=b::l)∧∀(a b:α) (l:List α) (n:Nat),(a::l).set (n+1) b=a::l.set n b:=⟨fun _ _ _=>List.setIfInBounds_toArray ..,fun _ _ _=>rfl,fun _ _ _ _=>rfl⟩
end
def za.letS(x:za)(f:Int)(p:Int×Int):za:=
 {x with B:=updF x.B f ((x.B f).erase p),P:=if p∈x.B f∧(x.B f).erase p=[]∧x.P.use f.toNat=3 then x.P.set f.toNat 1 else x.P}
section
variable {w w':World}{tag tag':Nat→Nat}{q:Sq}{x:za}
theorem zb.dropB(h:zb w tag q x)(f:Int)(p:Int×Int)(hK:KF f)(hlen:(x.B f).length≤100000):
  Calls Tryz.prog 186 #[.pointer (some ⟨q.bp,0,none⟩),.int .i64 f,.agg #[.int .i64 p.1,.int .i64 p.2]] w fun e w'=>e=.returned (.bool (decide (p∈x.B f)))∧zb w' (retag tag w 4) q {x with B:=updF x.B f ((x.B f).erase p)}∧Step (fun c=>c=4) tag w (retag tag w 4) w':=by
 obtain⟨S,V,hB,hS⟩:=h.back
 refine(zgz w q.bp q.bm S V x.B hB f p hlen hK).mono ?_
 rintro e w1 ⟨rfl,S',V',h1,h2,h3⟩
 exact⟨rfl,h.back' hS h2 h3 h1⟩
theorem zb.ofB(h:zb w tag q x)(f:Int)(hlen:(x.B f).length≤1000000):
  Calls Tryz.prog 87 #[.pointer (some ⟨q.bp,0,none⟩),.int .i64 f] w fun e w'=>∃a c,e=.returned (.slice a (x.B f).length c)∧PlAt w' (.slice a (x.B f).length c) (x.B f)∧Below w.heap.size w w'∧∀b,(Value.slice a (x.B f).length c).ownBlock=some b→w.heap.size≤b:=by
 obtain⟨S,V,hB,hS⟩:=h.back
 refine(zm1 w q.bp q.bm S V x.B hB f hlen).mono ?_
 rintro e w1 ⟨v',rfl,h1,h2,h3⟩
 obtain⟨a,c,rfl,_,_⟩:=SlAt.form h1
 exact⟨a,c,rfl,h1,h2,h3⟩
theorem zkv (h : zb w tag q x) (f : Nat) (p : Int × Int) (hf : f < 1024) (hlen : (x.B f).length ≤ 100000) :
    Calls Tryz.prog 142 #[ptrV q.sp, .int .i64 f, .agg #[.int .i64 p.1, .int .i64 p.2]] w fun e w' => e = .returned (.tuple #[]) ∧ ∃ tag', zb w' tag' q (x.letS f p) ∧ Step (fun c => c = 2 ∨ c = 4) tag w tag' w' := by
  obtain ⟨w0, hw0⟩ : ∃ w0, w0 = w.alloc (.cells #[.int .i64 p.1, .int .i64 p.2] 58 (0, 0)) := ⟨_, rfl⟩
  have hb0 : Below w.heap.size w w0 := by rw [hw0]; exact (Below.refl w.heap.size w).alloc (Nat.le_refl _) _
  have hbW : Below w.heap.size w w0.drew := hb0.drew
  have nb : w0.heap[w.heap.size]? = some (.cells #[.int .i64 p.1, .int .i64 p.2] 58 (0, 0)) := by rw [hw0]; exact heap_alloc_new w _
  have d0 : w0.cell? ⟨w.heap.size, 0, none⟩ = some (.int .i64 p.1) := by rw [cell_of_row _ _ 0 _ _ _ nb]; rfl
  have d1 : w0.cell? ⟨w.heap.size, 1, none⟩ = some (.int .i64 p.2) := by rw [cell_of_row _ _ 1 _ _ _ nb]; rfl
  have s0 : Step (fun c => c = 2 ∨ c = 4) tag w (retag tag w 0) w0.drew := Step.anew hbW
  have hS : zb w0.drew (retag tag w 0) q x := h.step (Step.anew hbW)
  have ht0 : retag tag w 0 w.heap.size = 0 := yc _ _ _ _ (Nat.le_refl _)
  obtain ⟨tag0, htag⟩ : ∃ tag0, tag0 = retag tag w 0 := ⟨_, rfl⟩
  rw [← htag] at s0 hS ht0
  clear htag
  have q3 : w0.cell? ⟨q.sp, 3, none⟩ = some (ptrV q.bp) := hS.row.cell (i := 3) (by omega)
  have q2 : w0.cell? ⟨q.sp, 2, none⟩ = some (ptrV q.pp) := hS.row.cell (i := 2) (by omega)
  have keep : ∀ (W' : World) (C : Nat → Prop) (tag' : Nat → Nat) , Step C tag0 w0.drew tag' W' → ¬ C 0 → ¬ C 8 → W'.cell? ⟨q.sp, 3, none⟩ = some (ptrV q.bp) ∧ W'.cell? ⟨q.sp, 2, none⟩ = some (ptrV q.pp) ∧ W'.cell? ⟨w.heap.size, 0, none⟩ = some (.int .i64 p.1) ∧ W'.cell? ⟨w.heap.size, 1, none⟩ = some (.int .i64 p.2) := fun W' C tag' s c0 c8 => by
    have k8 := (s.keeps c8 _ hS.row.lt hS.so).2
    have k0 := (s.keeps c0 w.heap.size (World.block_lt_of_cell? w0 ⟨w.heap.size, 0, none⟩ d0) ht0).2
    exact ⟨(World.cell?_of_block (w := w0.drew) k8).trans q3, (World.cell?_of_block (w := w0.drew) k8).trans q2, (World.cell?_of_block (w := w0.drew) k0).trans d0, (World.cell?_of_block (w := w0.drew) k0).trans d1⟩
  have D := Lib.hid (hS.dropB f p ⟨by omega, by omega⟩ hlen)
  unfold ptrV at keep q3 q2 ⊢
  have HK := Lib.hid keep
  have fin : Hid (∀ w' tag' (P' : zk), zb w' tag' q { x with B := updF x.B f ((x.B f).erase p), P := P' } → Step (fun c => c = 2 ∨ c = 4) tag0 w0.drew tag' w' → P' = (if p ∈ x.B f ∧ (x.B f).erase p = [] ∧ x.P.use f = 3 then x.P.set f 1 else x.P) → ∃ tag', zb w' tag' q (x.letS f p) ∧ Step (fun c => c = 2 ∨ c = 4) tag w tag' w') := fun w' tag' P' h1 h2 h3 => by
    subst h3
    exact ⟨tag', h1, s0.trans h2⟩
  clear keep
  by_cases hx : p ∈ x.B f
  · rw [decide_eq_true hx] at D
    have hn : ∃ n, n = ((x.B f).erase p).length := ⟨_, rfl⟩
    obtain ⟨n, hn⟩ := hn
    have hnl : n ≤ 1000000 := by rw [hn]; have := List.length_erase_le (a := p) (l := x.B f); omega
    have OFC : Hid (∀ w2 tag2, zb w2 tag2 q { x with B := updF x.B f ((x.B f).erase p) } → Step (fun c => c = 2 ∨ c = 4) tag0 w0.drew tag2 w2 → Calls Tryz.prog 87 #[.pointer (some ⟨q.bp, 0, none⟩), .int .i64 f] w2 fun e w3 => ∃ a c, e = .returned (.slice a n c) ∧ zb w3 tag2 q { x with B := updF x.B f ((x.B f).erase p) } ∧ Step (fun c => c = 2 ∨ c = 4) tag0 w0.drew tag2 w3) := fun w2 tag2 h2 s2 => by
      have e1 : (updF x.B f ((x.B f).erase p)) f = (x.B f).erase p := by unfold updF; rw [if_pos rfl]
      have := h2.ofB f (by dsimp only; rw [e1, ← hn]; exact hnl)
      dsimp only at this
      rw [e1, ← hn] at this
      refine this.mono ?_
      rintro e w3 ⟨a, c, rfl, _, hb, _⟩
      exact ⟨a, c, rfl, h2.below hb, s2.trans (Step.of_below hb)⟩
    by_cases he : (x.B f).erase p = []
    · have en : n = 0 := by rw [hn, he]; rfl
      subst en
      by_cases hu : x.P.use f = 3
      · have D2 : Hid (Calls Tryz.prog 186 #[.pointer (some ⟨q.bp, 0, none⟩), .int .i64 f, .agg #[.int .i64 p.1, .int .i64 p.2]] w0.drew fun e w2 => e = .returned (.bool true) ∧ w2.cell? ⟨q.sp, 3, none⟩ = some (.pointer (some ⟨q.bp, 0, none⟩)) ∧ w2.cell? ⟨q.sp, 2, none⟩ = some (.pointer (some ⟨q.pp, 0, none⟩)) ∧ w2.cell? ⟨w.heap.size, 0, none⟩ = some (.int .i64 p.1) ∧ w2.cell? ⟨w.heap.size, 1, none⟩ = some (.int .i64 p.2) ∧
            (Calls Tryz.prog 87 #[.pointer (some ⟨q.bp, 0, none⟩), .int .i64 f] w2 fun e w3 => ∃ a c, e = .returned (.slice a 0 c) ∧ w3.cell? ⟨q.sp, 3, none⟩ = some (.pointer (some ⟨q.bp, 0, none⟩)) ∧ w3.cell? ⟨q.sp, 2, none⟩ = some (.pointer (some ⟨q.pp, 0, none⟩)) ∧ w3.cell? ⟨w.heap.size, 0, none⟩ = some (.int .i64 p.1) ∧ w3.cell? ⟨w.heap.size, 1, none⟩ = some (.int .i64 p.2) ∧
              ((Calls Tryz.prog 38 #[.pointer (some ⟨q.pp, 0, none⟩), .int .i64 f] w3 fun e w4 => e = .returned (.int .i64 3) ∧ w4 = w3) ∧ (Calls Tryz.prog 44 #[.pointer (some ⟨q.pp, 0, none⟩), .int .i64 f] w3 fun e w' => e = .returned (.bool true) ∧ (∃ tag', zb w' tag' q (x.letS f p) ∧ Step (fun c => c = 2 ∨ c = 4) tag w tag' w'))))) := by
          refine D.out.mono ?_
          rintro e w2 ⟨rfl, h1, h2⟩
          have s2 := h2.mono (C' := fun c => c = 2 ∨ c = 4) fun c hc => .inr hc
          obtain ⟨k1, k2, k3, k4⟩ := HK.out _ _ _ s2 (by omega) (by omega)
          refine ⟨rfl, k1, k2, k3, k4, (OFC.out _ _ h1 s2).mono ?_⟩
          rintro e w3 ⟨a, c, rfl, h3, s3⟩
          obtain ⟨k1, k2, k3, k4⟩ := HK.out _ _ _ s3 (by omega) (by omega)
          refine ⟨a, c, rfl, k1, k2, k3, k4, ?_, ?_⟩
          · have := zc2 _ _ _ _ _ _ h3.pool f f rfl hf
            rw [show ({ x with B := updF x.B f ((x.B f).erase p) } : za).P.use f = x.P.use f from rfl, hu] at this
            exact this
          · refine (V9 _ _ _ _ _ _ h3.pool f f rfl hf (by show 2 ≤ x.P.use f; omega) (by show x.P.use f ≤ 5; omega)).mono ?_
            rintro e w' ⟨rfl, g1, g2⟩
            have g := h3.za7 g2 g1
            exact ⟨rfl, fin.out _ _ _ g.1 (s3.trans (g.2.mono fun c hc => .inl hc)) (by rw [if_pos ⟨hx, he, hu⟩])⟩
        have HW := Lib.hid hw0
        clear h hb0 hbW nb s0 hS ht0 D hlen HK fin hw0 hx he hn hnl OFC hu
        go_enter Tryz.func142, Tryz.ntmps142
        go_wp2_with fail
        rw [← HW.out]
        refine wp_region_held_drew (S := (fun X => X.cell? ⟨q.sp, 3, none⟩ = some (.pointer (some ⟨q.bp, 0, none⟩)) ∧ X.cell? ⟨q.sp, 2, none⟩ = some (.pointer (some ⟨q.pp, 0, none⟩)) ∧ X.cell? ⟨w.heap.size, 0, none⟩ = some (.int .i64 p.1) ∧ X.cell? ⟨w.heap.size, 1, none⟩ = some (.int .i64 p.2))) (by kernel_rfl) ⟨q3, q2, d0, d1⟩ (fun hHeld => ?_)
        refine zh 0 6 rfl rfl hHeld ?_
        simp only [Act.put, zg]
        refine zh 1 7 rfl rfl hHeld ?_
        simp only [Act.put, zg]
        refine zh 2 8 rfl rfl hHeld ?_
        simp only [Act.put, zg]
        refine zh 3 9 rfl rfl hHeld ?_
        simp only [Act.put, zg]
        refine zh 4 10 rfl rfl hHeld ?_
        simp only [Act.put, zg]
        refine zh 5 11 rfl rfl hHeld ?_
        simp only [Act.put, zg]
        refine wpAnyH_ready (rs := [6]) (by kernel_rfl) (by simp) ?_
        refine AllReadyH.cons rfl (fun K hK => ?_) AllReadyH.nil
        go_simp
        go_wp2_with (go_at_call 186; refine D2.out.mono ?_; rintro e w2 ⟨rfl, g1, g2, g3, g4, HX⟩)
        have hX := Lib.hid HX
        clear HX
        refine hK.out _ _ ⟨g1, g2, g3, g4⟩ (fun hHeld => ?_)
        clear hK K
        refine zh 7 13 rfl rfl hHeld ?_
        simp only [Act.put, zg]
        refine zh 8 14 rfl rfl hHeld ?_
        simp only [Act.put, zg]
        refine zh 9 15 rfl rfl hHeld ?_
        simp only [Act.put, zg]
        refine zh 10 16 rfl rfl hHeld ?_
        simp only [Act.put, zg]
        refine zh 11 17 rfl rfl hHeld ?_
        simp only [Act.put, zg]
        refine zh 12 18 rfl rfl hHeld ?_
        simp only [Act.put, zg]
        refine wpAnyH_ready (rs := [13]) (by kernel_rfl) (by simp) ?_
        refine AllReadyH.cons rfl (fun K hK => ?_) AllReadyH.nil
        go_simp
        go_wp2_with (go_at_call 87; refine hX.out.mono ?_; rintro e w3 ⟨aa, cc, rfl, j1, j2, j3, j4, HY⟩)
        have hY := Lib.hid HY
        clear HY
        refine hK.out _ _ ⟨j1, j2, j3, j4⟩ (fun hHeld => ?_)
        clear hK K
        refine zh 14 20 rfl rfl hHeld ?_
        simp only [Act.put, zg]
        refine zh 15 21 rfl rfl hHeld ?_
        simp only [Act.put, zg]
        refine zh 16 22 rfl rfl hHeld ?_
        simp only [Act.put, zg]
        refine zh 17 23 rfl rfl hHeld ?_
        simp only [Act.put, zg]
        refine zh 18 24 rfl rfl hHeld ?_
        simp only [Act.put, zg]
        refine zh 19 25 rfl rfl hHeld ?_
        simp only [Act.put, zg]
        refine zh 20 26 rfl rfl hHeld ?_
        simp only [Act.put, zg]
        refine zh 21 27 rfl rfl hHeld ?_
        simp only [Act.put, zg]
        refine zh 22 28 rfl rfl hHeld ?_
        simp only [Act.put, zg]
        refine wpAnyH_ready (rs := [23]) (by kernel_rfl) (by simp) ?_
        refine AllReadyH.cons rfl (fun K hK => ?_) AllReadyH.nil
        go_simp
        go_wp2_with (go_at_call 38; refine hY.out.1.mono ?_; rintro e w4 ⟨rfl, hw4⟩)
        have hw4 := hw4.symm
        subst hw4
        refine hK.out _ _ ⟨j1, j2, j3, j4⟩ (fun hHeld => ?_)
        clear hK K
        refine zh 24 30 rfl rfl hHeld ?_
        simp only [Act.put, zg]
        refine zh 25 31 rfl rfl hHeld ?_
        simp only [Act.put, zg]
        refine wpAnyH_done (by kernel_rfl) ?_ _
        go_wp2_with fail
        refine hY.out.2.mono ?_
        rintro e w5 ⟨rfl, HZ⟩
        have hZ := Lib.hid HZ
        clear HZ
        go_wp2_with fail
        exact bodyPost_end (v := .tuple #[]) (by simp [results, Tryz.results142, go_sem]) rfl ⟨rfl, hZ.out⟩
      · have D2 : Hid (Calls Tryz.prog 186 #[.pointer (some ⟨q.bp, 0, none⟩), .int .i64 f, .agg #[.int .i64 p.1, .int .i64 p.2]] w0.drew fun e w2 => e = .returned (.bool true) ∧ w2.cell? ⟨q.sp, 3, none⟩ = some (.pointer (some ⟨q.bp, 0, none⟩)) ∧ w2.cell? ⟨q.sp, 2, none⟩ = some (.pointer (some ⟨q.pp, 0, none⟩)) ∧ w2.cell? ⟨w.heap.size, 0, none⟩ = some (.int .i64 p.1) ∧ w2.cell? ⟨w.heap.size, 1, none⟩ = some (.int .i64 p.2) ∧
            (Calls Tryz.prog 87 #[.pointer (some ⟨q.bp, 0, none⟩), .int .i64 f] w2 fun e w3 => ∃ a c, e = .returned (.slice a 0 c) ∧ w3.cell? ⟨q.sp, 3, none⟩ = some (.pointer (some ⟨q.bp, 0, none⟩)) ∧ w3.cell? ⟨q.sp, 2, none⟩ = some (.pointer (some ⟨q.pp, 0, none⟩)) ∧ w3.cell? ⟨w.heap.size, 0, none⟩ = some (.int .i64 p.1) ∧ w3.cell? ⟨w.heap.size, 1, none⟩ = some (.int .i64 p.2) ∧
              ((Calls Tryz.prog 38 #[.pointer (some ⟨q.pp, 0, none⟩), .int .i64 f] w3 fun e w4 => e = .returned (.int .i64 (x.P.use f)) ∧ w4 = w3) ∧ (∃ tag', zb w3 tag' q (x.letS f p) ∧ Step (fun c => c = 2 ∨ c = 4) tag w tag' w3)))) := by
          refine D.out.mono ?_
          rintro e w2 ⟨rfl, h1, h2⟩
          have s2 := h2.mono (C' := fun c => c = 2 ∨ c = 4) fun c hc => .inr hc
          obtain ⟨k1, k2, k3, k4⟩ := HK.out _ _ _ s2 (by omega) (by omega)
          refine ⟨rfl, k1, k2, k3, k4, (OFC.out _ _ h1 s2).mono ?_⟩
          rintro e w3 ⟨a, c, rfl, h3, s3⟩
          obtain ⟨k1, k2, k3, k4⟩ := HK.out _ _ _ s3 (by omega) (by omega)
          refine ⟨a, c, rfl, k1, k2, k3, k4, zc2 _ _ _ _ _ _ h3.pool f f rfl hf, ?_⟩
          exact fin.out _ _ x.P h3 s3 (by rw [if_neg fun e => hu e.2.2])
        have hn0 : ((x.P.use f : Int) == 3) = false := beq_eq_false_iff_ne.2 (by omega)
        generalize x.P.use f = u at D2 hn0
        have HW := Lib.hid hw0
        clear h hb0 hbW nb s0 hS ht0 D hlen HK fin hw0 hx he hn hnl OFC hu
        go_enter Tryz.func142, Tryz.ntmps142
        go_wp2_with fail
        rw [← HW.out]
        refine wp_region_held_drew (S := (fun X => X.cell? ⟨q.sp, 3, none⟩ = some (.pointer (some ⟨q.bp, 0, none⟩)) ∧ X.cell? ⟨q.sp, 2, none⟩ = some (.pointer (some ⟨q.pp, 0, none⟩)) ∧ X.cell? ⟨w.heap.size, 0, none⟩ = some (.int .i64 p.1) ∧ X.cell? ⟨w.heap.size, 1, none⟩ = some (.int .i64 p.2))) (by kernel_rfl) ⟨q3, q2, d0, d1⟩ (fun hHeld => ?_)
        refine zh 0 6 rfl rfl hHeld ?_
        simp only [Act.put, zg]
        refine zh 1 7 rfl rfl hHeld ?_
        simp only [Act.put, zg]
        refine zh 2 8 rfl rfl hHeld ?_
        simp only [Act.put, zg]
        refine zh 3 9 rfl rfl hHeld ?_
        simp only [Act.put, zg]
        refine zh 4 10 rfl rfl hHeld ?_
        simp only [Act.put, zg]
        refine zh 5 11 rfl rfl hHeld ?_
        simp only [Act.put, zg]
        refine wpAnyH_ready (rs := [6]) (by kernel_rfl) (by simp) ?_
        refine AllReadyH.cons rfl (fun K hK => ?_) AllReadyH.nil
        go_simp
        go_wp2_with (go_at_call 186; refine D2.out.mono ?_; rintro e w2 ⟨rfl, g1, g2, g3, g4, HX⟩)
        have hX := Lib.hid HX
        clear HX
        refine hK.out _ _ ⟨g1, g2, g3, g4⟩ (fun hHeld => ?_)
        clear hK K
        refine zh 7 13 rfl rfl hHeld ?_
        simp only [Act.put, zg]
        refine zh 8 14 rfl rfl hHeld ?_
        simp only [Act.put, zg]
        refine zh 9 15 rfl rfl hHeld ?_
        simp only [Act.put, zg]
        refine zh 10 16 rfl rfl hHeld ?_
        simp only [Act.put, zg]
        refine zh 11 17 rfl rfl hHeld ?_
        simp only [Act.put, zg]
        refine zh 12 18 rfl rfl hHeld ?_
        simp only [Act.put, zg]
        refine wpAnyH_ready (rs := [13]) (by kernel_rfl) (by simp) ?_
        refine AllReadyH.cons rfl (fun K hK => ?_) AllReadyH.nil
        go_simp
        go_wp2_with (go_at_call 87; refine hX.out.mono ?_; rintro e w3 ⟨aa, cc, rfl, j1, j2, j3, j4, HY⟩)
        have hY := Lib.hid HY
        clear HY
        refine hK.out _ _ ⟨j1, j2, j3, j4⟩ (fun hHeld => ?_)
        clear hK K
        refine zh 14 20 rfl rfl hHeld ?_
        simp only [Act.put, zg]
        refine zh 15 21 rfl rfl hHeld ?_
        simp only [Act.put, zg]
        refine zh 16 22 rfl rfl hHeld ?_
        simp only [Act.put, zg]
        refine zh 17 23 rfl rfl hHeld ?_
        simp only [Act.put, zg]
        refine zh 18 24 rfl rfl hHeld ?_
        simp only [Act.put, zg]
        refine zh 19 25 rfl rfl hHeld ?_
        simp only [Act.put, zg]
        refine zh 20 26 rfl rfl hHeld ?_
        simp only [Act.put, zg]
        refine zh 21 27 rfl rfl hHeld ?_
        simp only [Act.put, zg]
        refine zh 22 28 rfl rfl hHeld ?_
        simp only [Act.put, zg]
        refine wpAnyH_ready (rs := [23]) (by kernel_rfl) (by simp) ?_
        refine AllReadyH.cons rfl (fun K hK => ?_) AllReadyH.nil
        go_simp
        go_wp2_with (go_at_call 38; refine hY.out.1.mono ?_; rintro e w4 ⟨rfl, hw4⟩)
        have hw4 := hw4.symm
        subst hw4
        refine hK.out _ _ ⟨j1, j2, j3, j4⟩ (fun hHeld => ?_)
        clear hK K
        refine zh 24 30 rfl rfl hHeld ?_
        simp only [Act.put, zg]
        refine zh 25 31 rfl rfl hHeld ?_
        simp only [Act.put, zg]
        refine wpAnyH_done (by kernel_rfl) ?_ _
        go_wp2_with fail
        exact bodyPost_end (v := .tuple #[]) (by simp [results, Tryz.results142, go_sem]) rfl ⟨rfl, hY.out.2⟩
    · have D2 : Hid (Calls Tryz.prog 186 #[.pointer (some ⟨q.bp, 0, none⟩), .int .i64 f, .agg #[.int .i64 p.1, .int .i64 p.2]] w0.drew fun e w2 => e = .returned (.bool true) ∧ w2.cell? ⟨q.sp, 3, none⟩ = some (.pointer (some ⟨q.bp, 0, none⟩)) ∧ w2.cell? ⟨q.sp, 2, none⟩ = some (.pointer (some ⟨q.pp, 0, none⟩)) ∧ w2.cell? ⟨w.heap.size, 0, none⟩ = some (.int .i64 p.1) ∧ w2.cell? ⟨w.heap.size, 1, none⟩ = some (.int .i64 p.2) ∧
          (Calls Tryz.prog 87 #[.pointer (some ⟨q.bp, 0, none⟩), .int .i64 f] w2 fun e w3 => ∃ a c, e = .returned (.slice a n c) ∧ w3.cell? ⟨q.sp, 3, none⟩ = some (.pointer (some ⟨q.bp, 0, none⟩)) ∧ w3.cell? ⟨q.sp, 2, none⟩ = some (.pointer (some ⟨q.pp, 0, none⟩)) ∧ w3.cell? ⟨w.heap.size, 0, none⟩ = some (.int .i64 p.1) ∧ w3.cell? ⟨w.heap.size, 1, none⟩ = some (.int .i64 p.2) ∧ (∃ tag', zb w3 tag' q (x.letS f p) ∧ Step (fun c => c = 2 ∨ c = 4) tag w tag' w3))) := by
        refine D.out.mono ?_
        rintro e w2 ⟨rfl, h1, h2⟩
        have s2 := h2.mono (C' := fun c => c = 2 ∨ c = 4) fun c hc => .inr hc
        obtain ⟨k1, k2, k3, k4⟩ := HK.out _ _ _ s2 (by omega) (by omega)
        refine ⟨rfl, k1, k2, k3, k4, (OFC.out _ _ h1 s2).mono ?_⟩
        rintro e w3 ⟨a, c, rfl, h3, s3⟩
        obtain ⟨k1, k2, k3, k4⟩ := HK.out _ _ _ s3 (by omega) (by omega)
        refine ⟨a, c, rfl, k1, k2, k3, k4, ?_⟩
        exact fin.out _ _ x.P h3 s3 (by rw [if_neg fun e => he e.2.1])
      have hn1 : n ≠ 0 := fun e => he (List.length_eq_zero_iff.1 (hn ▸ e))
      have hn0 : ((n : Int) == 0) = false := beq_eq_false_iff_ne.2 (by omega)
      have HW := Lib.hid hw0
      clear h hb0 hbW nb s0 hS ht0 D hlen HK fin hw0 hx he hn hnl OFC hn1
      go_enter Tryz.func142, Tryz.ntmps142
      go_wp2_with fail
      rw [← HW.out]
      refine wp_region_held_drew (S := (fun X => X.cell? ⟨q.sp, 3, none⟩ = some (.pointer (some ⟨q.bp, 0, none⟩)) ∧ X.cell? ⟨q.sp, 2, none⟩ = some (.pointer (some ⟨q.pp, 0, none⟩)) ∧ X.cell? ⟨w.heap.size, 0, none⟩ = some (.int .i64 p.1) ∧ X.cell? ⟨w.heap.size, 1, none⟩ = some (.int .i64 p.2))) (by kernel_rfl) ⟨q3, q2, d0, d1⟩ (fun hHeld => ?_)
      refine zh 0 6 rfl rfl hHeld ?_
      simp only [Act.put, zg]
      refine zh 1 7 rfl rfl hHeld ?_
      simp only [Act.put, zg]
      refine zh 2 8 rfl rfl hHeld ?_
      simp only [Act.put, zg]
      refine zh 3 9 rfl rfl hHeld ?_
      simp only [Act.put, zg]
      refine zh 4 10 rfl rfl hHeld ?_
      simp only [Act.put, zg]
      refine zh 5 11 rfl rfl hHeld ?_
      simp only [Act.put, zg]
      refine wpAnyH_ready (rs := [6]) (by kernel_rfl) (by simp) ?_
      refine AllReadyH.cons rfl (fun K hK => ?_) AllReadyH.nil
      go_simp
      go_wp2_with (go_at_call 186; refine D2.out.mono ?_; rintro e w2 ⟨rfl, g1, g2, g3, g4, HX⟩)
      have hX := Lib.hid HX
      clear HX
      refine hK.out _ _ ⟨g1, g2, g3, g4⟩ (fun hHeld => ?_)
      clear hK K
      refine zh 7 13 rfl rfl hHeld ?_
      simp only [Act.put, zg]
      refine zh 8 14 rfl rfl hHeld ?_
      simp only [Act.put, zg]
      refine zh 9 15 rfl rfl hHeld ?_
      simp only [Act.put, zg]
      refine zh 10 16 rfl rfl hHeld ?_
      simp only [Act.put, zg]
      refine zh 11 17 rfl rfl hHeld ?_
      simp only [Act.put, zg]
      refine zh 12 18 rfl rfl hHeld ?_
      simp only [Act.put, zg]
      refine wpAnyH_ready (rs := [13]) (by kernel_rfl) (by simp) ?_
      refine AllReadyH.cons rfl (fun K hK => ?_) AllReadyH.nil
      go_simp
      go_wp2_with (go_at_call 87; refine hX.out.mono ?_; rintro e w3 ⟨aa, cc, rfl, j1, j2, j3, j4, HY⟩)
      have hY := Lib.hid HY
      clear HY
      refine hK.out _ _ ⟨j1, j2, j3, j4⟩ (fun hHeld => ?_)
      clear hK K
      refine zh 14 20 rfl rfl hHeld ?_
      simp only [Act.put, zg]
      refine zh 15 21 rfl rfl hHeld ?_
      simp only [Act.put, zg]
      refine zh 16 22 rfl rfl hHeld ?_
      simp only [Act.put, zg]
      refine zh 17 23 rfl rfl hHeld ?_
      simp only [Act.put, zg]
      refine yf 18 24 rfl rfl (by kernel_rfl) (by kernel_rfl) (by kernel_rfl) (fun _ _ _ h => h) (by rfl) hHeld ?_
      simp only [Act.put, zg]
      refine yf 19 25 rfl rfl (by kernel_rfl) (by kernel_rfl) (by kernel_rfl) (fun _ _ _ h => h) (by rfl) hHeld ?_
      simp only [Act.put, zg]
      refine yf 20 26 rfl rfl (by kernel_rfl) (by kernel_rfl) (by kernel_rfl) (fun _ _ _ h => h) (by rfl) hHeld ?_
      simp only [Act.put, zg]
      refine yf 21 27 rfl rfl (by kernel_rfl) (by kernel_rfl) (by kernel_rfl) (fun _ _ _ h => h) (by rfl) hHeld ?_
      simp only [Act.put, zg]
      refine yf 22 28 rfl rfl (by kernel_rfl) (by kernel_rfl) (by kernel_rfl) (fun _ _ _ h => h) (by rfl) hHeld ?_
      simp only [Act.put, zg]
      refine yf 23 29 rfl rfl (by kernel_rfl) (by kernel_rfl) (by kernel_rfl) (fun _ _ _ h => h) (by rfl) hHeld ?_
      simp only [Act.put, zg]
      refine yf 24 30 rfl rfl (by kernel_rfl) (by kernel_rfl) (by kernel_rfl) (fun _ _ _ h => h) (by rfl) hHeld ?_
      simp only [Act.put, zg]
      refine zh 25 31 rfl rfl hHeld ?_
      simp only [Act.put, zg]
      refine wpAnyH_done (by kernel_rfl) ?_ _
      go_wp2_with fail
      exact bodyPost_end (v := .tuple #[]) (by simp [results, Tryz.results142, go_sem]) rfl ⟨rfl, hY.out⟩
  · rw [decide_eq_false hx] at D
    have D2 : Hid (Calls Tryz.prog 186 #[.pointer (some ⟨q.bp, 0, none⟩), .int .i64 f, .agg #[.int .i64 p.1, .int .i64 p.2]] w0.drew fun e w2 => e = .returned (.bool false) ∧ w2.cell? ⟨q.sp, 3, none⟩ = some (.pointer (some ⟨q.bp, 0, none⟩)) ∧ w2.cell? ⟨q.sp, 2, none⟩ = some (.pointer (some ⟨q.pp, 0, none⟩)) ∧ w2.cell? ⟨w.heap.size, 0, none⟩ = some (.int .i64 p.1) ∧ w2.cell? ⟨w.heap.size, 1, none⟩ = some (.int .i64 p.2) ∧ (∃ tag', zb w2 tag' q (x.letS f p) ∧ Step (fun c => c = 2 ∨ c = 4) tag w tag' w2)) := by
      refine D.out.mono ?_
      rintro e w2 ⟨rfl, h1, h2⟩
      have s2 := h2.mono (C' := fun c => c = 2 ∨ c = 4) fun c hc => .inr hc
      obtain ⟨k1, k2, k3, k4⟩ := HK.out _ _ _ s2 (by omega) (by omega)
      exact ⟨rfl, k1, k2, k3, k4, fin.out _ _ x.P h1 s2 (by rw [if_neg fun e => hx e.1])⟩
    have HW := Lib.hid hw0
    clear h hb0 hbW nb s0 hS ht0 D hlen HK fin hw0 hx
    go_enter Tryz.func142, Tryz.ntmps142
    go_wp2_with fail
    rw [← HW.out]
    refine wp_region_held_drew (S := (fun X => X.cell? ⟨q.sp, 3, none⟩ = some (.pointer (some ⟨q.bp, 0, none⟩)) ∧ X.cell? ⟨q.sp, 2, none⟩ = some (.pointer (some ⟨q.pp, 0, none⟩)) ∧ X.cell? ⟨w.heap.size, 0, none⟩ = some (.int .i64 p.1) ∧ X.cell? ⟨w.heap.size, 1, none⟩ = some (.int .i64 p.2))) (by kernel_rfl) ⟨q3, q2, d0, d1⟩ (fun hHeld => ?_)
    refine zh 0 6 rfl rfl hHeld ?_
    simp only [Act.put, zg]
    refine zh 1 7 rfl rfl hHeld ?_
    simp only [Act.put, zg]
    refine zh 2 8 rfl rfl hHeld ?_
    simp only [Act.put, zg]
    refine zh 3 9 rfl rfl hHeld ?_
    simp only [Act.put, zg]
    refine zh 4 10 rfl rfl hHeld ?_
    simp only [Act.put, zg]
    refine zh 5 11 rfl rfl hHeld ?_
    simp only [Act.put, zg]
    refine wpAnyH_ready (rs := [6]) (by kernel_rfl) (by simp) ?_
    refine AllReadyH.cons rfl (fun K hK => ?_) AllReadyH.nil
    go_simp
    go_wp2_with (go_at_call 186; refine D2.out.mono ?_; rintro e w2 ⟨rfl, g1, g2, g3, g4, HX⟩)
    have hX := Lib.hid HX
    clear HX
    refine hK.out _ _ ⟨g1, g2, g3, g4⟩ (fun hHeld => ?_)
    clear hK K
    refine zh 7 13 rfl rfl hHeld ?_
    simp only [Act.put, zg]
    refine yf 8 14 rfl rfl (by kernel_rfl) (by kernel_rfl) (by kernel_rfl) (fun _ _ _ h => h) (by rfl) hHeld ?_
    simp only [Act.put, zg]
    refine yf 9 15 rfl rfl (by kernel_rfl) (by kernel_rfl) (by kernel_rfl) (fun _ _ _ h => h) (by rfl) hHeld ?_
    simp only [Act.put, zg]
    refine yf 10 16 rfl rfl (by kernel_rfl) (by kernel_rfl) (by kernel_rfl) (fun _ _ _ h => h) (by rfl) hHeld ?_
    simp only [Act.put, zg]
    refine yf 11 17 rfl rfl (by kernel_rfl) (by kernel_rfl) (by kernel_rfl) (fun _ _ _ h => h) (by rfl) hHeld ?_
    simp only [Act.put, zg]
    refine yf 12 18 rfl rfl (by kernel_rfl) (by kernel_rfl) (by kernel_rfl) (fun _ _ _ h => h) (by rfl) hHeld ?_
    simp only [Act.put, zg]
    refine yf 13 19 rfl rfl (by kernel_rfl) (by kernel_rfl) (by kernel_rfl) (fun _ _ _ h => h) (by rfl) hHeld ?_
    simp only [Act.put, zg]
    refine yf 14 20 rfl rfl (by kernel_rfl) (by kernel_rfl) (by kernel_rfl) (fun _ _ _ h => h) (by rfl) hHeld ?_
    simp only [Act.put, zg]
    refine yf 15 21 rfl rfl (by kernel_rfl) (by kernel_rfl) (by kernel_rfl) (fun _ _ _ h => h) (by rfl) hHeld ?_
    simp only [Act.put, zg]
    refine zh 16 22 rfl rfl hHeld ?_
    simp only [Act.put, zg]
    refine zh 17 23 rfl rfl hHeld ?_
    simp only [Act.put, zg]
    refine yf 18 24 rfl rfl (by kernel_rfl) (by kernel_rfl) (by kernel_rfl) (fun _ _ _ h => h) (by rfl) hHeld ?_
    simp only [Act.put, zg]
    refine yf 19 25 rfl rfl (by kernel_rfl) (by kernel_rfl) (by kernel_rfl) (fun _ _ _ h => h) (by rfl) hHeld ?_
    simp only [Act.put, zg]
    refine yf 20 26 rfl rfl (by kernel_rfl) (by kernel_rfl) (by kernel_rfl) (fun _ _ _ h => h) (by rfl) hHeld ?_
    simp only [Act.put, zg]
    refine yf 21 27 rfl rfl (by kernel_rfl) (by kernel_rfl) (by kernel_rfl) (fun _ _ _ h => h) (by rfl) hHeld ?_
    simp only [Act.put, zg]
    refine yf 22 28 rfl rfl (by kernel_rfl) (by kernel_rfl) (by kernel_rfl) (fun _ _ _ h => h) (by rfl) hHeld ?_
    simp only [Act.put, zg]
    refine yf 23 29 rfl rfl (by kernel_rfl) (by kernel_rfl) (by kernel_rfl) (fun _ _ _ h => h) (by rfl) hHeld ?_
    simp only [Act.put, zg]
    refine yf 24 30 rfl rfl (by kernel_rfl) (by kernel_rfl) (by kernel_rfl) (fun _ _ _ h => h) (by rfl) hHeld ?_
    simp only [Act.put, zg]
    refine zh 25 31 rfl rfl hHeld ?_
    simp only [Act.put, zg]
    refine wpAnyH_done (by kernel_rfl) ?_ _
    go_wp2_with fail
    exact bodyPost_end (v := .tuple #[]) (by simp [results, Tryz.results142, go_sem]) rfl ⟨rfl, hX.out⟩
end
def za.put1(x:za)(e:Ent)(p:Int×Int):za:=if e.kind=1 then {x with B:=updF x.B e.n (putP (x.B e.n) p)} else x
def za.put2(x:za)(e:Ent)(p:Int×Int):za:=if e.kind=2 then {x with S:=x.S.set e.n.toNat (putP (x.S.getD e.n.toNat []) p)} else x
def za.put3(x:za)(e old:Ent)(p:Int×Int):za:=if old.kind=1∧(e.kind≠1∨e.n≠old.n)then x.letS old.n p else x
def za.put4(x:za)(e old:Ent)(p:Int×Int):za:=if old.kind=2∧(e.kind≠2∨e.n≠old.n)then {x with S:=x.S.set old.n.toNat ((x.S.getD old.n.toNat []).erase p)} else x
structure Zr(W:World)(tag:Nat→Nat)(q:Sq)(x:za)(b4 b5 b9:Nat)(p:Int×Int)(e old:Ent):Prop where
 sp:zb W tag q x
 t4:tag b4=0
 t5:tag b5=0
 t9:tag b9=0
 c40:W.cell? ⟨b4,0,none⟩=some (.int .i64 p.1)
 c41:W.cell? ⟨b4,1,none⟩=some (.int .i64 p.2)
 c50:W.cell? ⟨b5,0,none⟩=some (.int .i64 e.kind)
 c51:W.cell? ⟨b5,1,none⟩=some (.int .i64 e.n)
 c52:W.cell? ⟨b5,2,none⟩=some (.bool e.write)
 c90:W.cell? ⟨b9,0,none⟩=some (.int .i64 old.kind)
 c91:W.cell? ⟨b9,1,none⟩=some (.int .i64 old.n)
 c92:W.cell? ⟨b9,2,none⟩=some (.bool old.write)
theorem eqlEnt(a b:Ent)(w:World):(Op.equalIn 10000 70 (.agg #[.int .i64 a.kind,.int .i64 a.n,.bool a.write]) (.agg #[.int .i64 b.kind,.int .i64 b.n,.bool b.write])).run Tryz.prog w=.ok (decide (a=b)) w:=by
 have u3:=Tryz.underlying3
 have a3:=Tryz.isAgg3
 have z3:=Tryz.sizeOf3
 have u4:=Tryz.underlying4
 have a4:=Tryz.isAgg4
 have z4:=Tryz.sizeOf4
 have hS:Tryz.prog.underlying 70=some (.struct (Tryz.prog.fieldsOf 70)):=by kernel_rfl
 have hp:Tryz.prog.stoodInHeld 70=false:=by kernel_rfl
 show(Op.equalIn (9999+1) 70 _ _).run Tryz.prog w=_
 rw[run_equalIn_struct w 9999 70 _ _ hS hp]
 simp only[Program.fieldsOf,Tryz.underlying70]
 go_simp
 obtain⟨k1,n1,b1⟩:=a
 obtain⟨k2,n2,b2⟩:=b
 by_cases h1:k1=k2<;>by_cases h2:n1=n2<;>by_cases h3:b1=b2<;>simp[h1,h2,h3]<;>omega
section
variable {C:Nat→Prop}{W W':World}{tag tag':Nat→Nat}{q:Sq}{x x':za}{b4 b5 b9:Nat}{p:Int×Int}{e old:Ent}
theorem Zr.step(h:Zr W tag q x b4 b5 b9 p e old)(s:Step C tag W tag' W')(hc:¬C 0)(hx:zb W' tag' q x'):Zr W' tag' q x' b4 b5 b9 p e old:=by
 have k4:=s.keeps hc b4 (World.block_lt_of_cell? W _ h.c40) h.t4
 have k5:=s.keeps hc b5 (World.block_lt_of_cell? W _ h.c50) h.t5
 have k9:=s.keeps hc b9 (World.block_lt_of_cell? W _ h.c90) h.t9
 exact⟨hx,k4.1,k5.1,k9.1,(World.cell?_of_block (w:=W) k4.2).trans h.c40,(World.cell?_of_block (w:=W) k4.2).trans h.c41,(World.cell?_of_block (w:=W) k5.2).trans h.c50,(World.cell?_of_block (w:=W) k5.2).trans h.c51,(World.cell?_of_block (w:=W) k5.2).trans h.c52,(World.cell?_of_block (w:=W) k9.2).trans h.c90,(World.cell?_of_block (w:=W) k9.2).trans h.c91,(World.cell?_of_block (w:=W) k9.2).trans h.c92⟩
theorem Zr.drew(h:Zr W tag q x b4 b5 b9 p e old):Zr W.drew tag q x b4 b5 b9 p e old:=
 h.step (C:=fun _=>False) (Step.of_below (Below.refl _ _).drew) id (h.sp.below (Below.refl _ _).drew)
theorem Zr.start{w0 W3:World}{tag0:Nat→Nat}(h0:zb w0 tag0 q x)(nb4:w0.heap[b4]?=some (.cells #[.int .i64 p.1,.int .i64 p.2] 58 (0,0)))(nb5:w0.heap[b5]?=some (.cells #[.int .i64 e.kind,.int .i64 e.n,.bool e.write] 70 (0,0)))
  (t4:tag0 b4=0) (t5:tag0 b5=0) (hb:Below w0.heap.size w0 W3) (hb9:w0.heap.size≤b9) (c90:W3.cell? ⟨b9,0,none⟩=some (.int .i64 old.kind)) (c91:W3.cell? ⟨b9,1,none⟩=some (.int .i64 old.n)) (c92:W3.cell? ⟨b9,2,none⟩=some (.bool old.write)):
  Zr W3 (retag tag0 w0 0) q x b4 b5 b9 p e old∧Step (fun _=>False) tag0 w0 (retag tag0 w0 0) W3:=by
 have s:Step (fun _=>False) tag0 w0 (retag tag0 w0 0) W3:=Step.renew 0 hb
 have l4:=(Array.getElem?_eq_some_iff.1 nb4).1
 have l5:=(Array.getElem?_eq_some_iff.1 nb5).1
 have n4:=(hb.block b4 l4).trans nb4
 have n5:=(hb.block b5 l5).trans nb5
 refine⟨⟨h0.step s,(s.same b4 l4).trans t4,(s.same b5 l5).trans t5,yc _ _ _ _ hb9,?_,?_,?_,?_,?_,c90,c91,c92⟩,s⟩
 ·rw[cell_of_row _ _ 0 _ _ _ n4];rfl
 ·rw[cell_of_row _ _ 1 _ _ _ n4];rfl
 ·rw[cell_of_row _ _ 0 _ _ _ n5];rfl
 ·rw[cell_of_row _ _ 1 _ _ _ n5];rfl
 ·rw[cell_of_row _ _ 2 _ _ _ n5];rfl
end
theorem Vq{op:Oper}{a:Act}{w:World}{K:Act→World→Prop}{Q:Exit→Act→World→Prop}(x y:Operand)(t:TypeId)(ho:op.op=.binOp .eql 70 x y t)(b c:Ent)
  (hx:a.eval x=.agg #[.int .i64 b.kind,.int .i64 b.n,.bool b.write]) (hy:a.eval y=.agg #[.int .i64 c.kind,.int .i64 c.n,.bool c.write]) (r:Bool) (hr:Hid (decide (b=c)=r)) (h:K (a.put op.dst (.bool r)) w):op.wp Tryz.prog a w K Q:=by
 have g:Tryz.prog.eqGuardType Tryz.prog.depth 70=false:=by kernel_rfl
 have eg:∀A B,(eqGuard .eql 70 x y (.agg A) (.agg B)).run Tryz.prog w=.ok () w:=fun A B=>by simp[eqGuard,g]
 have e:(Op.equal 70 (.agg #[.int .i64 b.kind,.int .i64 b.n,.bool b.write]) (.agg #[.int .i64 c.kind,.int .i64 c.n,.bool c.write])).run Tryz.prog w=.ok (decide (b=c)) w:=eqlEnt b c w
 unfold Oper.wp execOp
 simp only[ho,hx,hy]
 unfold binOp
 simp only[Sem.run_bind,eg,Result.andThen_ok,e,Sem.run_pure]
 rw[hr.out]
 exact h
end Go.Proofs.YtnhdmnijiphjjaaGreat
