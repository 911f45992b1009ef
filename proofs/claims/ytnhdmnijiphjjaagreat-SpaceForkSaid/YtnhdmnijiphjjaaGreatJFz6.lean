/- A disk: Flush. -/
import Derived.Test.YtnhdmnijiphjjaaGreatJFz5
import Derived.Test.YtnhdmnijiphjjaaGreatJFz1
import Derived.Deep.RegionLaw
import Derived.Shelf.SlGeneric
import Derived.Ground.SlgfProg
import Derived.Ground.SlgnProg
import Derived.Ground.SlgqProg
import Derived.Shelf.SlLaysE0
import Derived.Shelf.SlLaysH0
import Derived.Shelf.SlLaysQ
import Derived.Test.YtnhdmnijiphjjaaGreatProg
import Derived.Test.YtnhdmnijiphjjaaGreatJFz4
import Derived.Shelf.SlicesQ.Contains
import Derived.Shelf.SlicesE.Clone
import Derived.Laws.StructEq
import Derived.Deep.RegionHeld
import Derived.WalkKit
import Derived.Shelf.SlSortCmp.InsertionK
import Derived.Ground.SlsfProg
import Derived.Shelf.SlLaysF0
set_option linter.unusedVariables false
set_option linter.unusedSimpArgs false
set_option maxRecDepth 100000
set_option maxHeartbeats 2000000
namespace Go.Proofs.YtnhdmnijiphjjaaGreat
open Go Go.RowKit
def flV(V:Nat→Value)(L:List (Int×Value))(done:List Nat)(j:Nat):Value:=
 match idxL L (j:Int)with
 | none=>V j
 | some i=>if i∈done then((L[i]?).map (·.2)).getD (V j)else V j
theorem zoe(V:Nat→Value)(L:List (Int×Value))(j:Nat):flV V L [] j=V j:=by
 unfold flV
 split<;>simp
theorem zk7{V:Nat→Value}{L:List (Int×Value)}{done:List Nat}(hn:(L.map (·.1)).Nodup){i n:Nat}{v:Value}(hi:L[i]?=some ((n:Int),v))(j:Nat):flV V L (i::done) j=if j=n then v else flV V L done j:=by
 have hx:((n:Int),v)∈L:=List.mem_of_getElem? hi
 have key:∀k,idxL L (n:Int)=some k→k=i:=fun k hk=>by
  obtain⟨h1,h2,_⟩:=Ya hk
  obtain⟨h3,h4⟩:=List.getElem?_eq_some_iff.1 hi
  have e:(L.map (·.1))[k]'(by simpa using h1)=(L.map (·.1))[i]'(by simpa using h3):=by simp[h2,h4]
  exact(List.getElem_inj hn).1 e
 by_cases e:j=n
 ·subst e
  rw[if_pos rfl]
  unfold flV
  cases hd:idxL L (j:Int)with
  | none=>
   have:=U7 hn hx
   rw[(Yb hd).1]at this
   cases this
  | some k=>
   have:=key k hd
   subst this
   simp[hi]
 ·rw[if_neg e]
  unfold flV
  cases hd:idxL L (j:Int)with
  | none=>rfl
  | some k=>
   have hk:k≠i:=fun ek=>by
    subst ek
    obtain⟨h1,h2,_⟩:=Ya hd
    obtain⟨h3,h4⟩:=List.getElem?_eq_some_iff.1 hi
    rw[h4]at h2
    have h2:(n:Int)=j:=h2
    omega
   simp[hk]
theorem zof{V:Nat→Value}{L:List (Int×Value)}{done:List Nat}(h:∀i,i<L.length→i∈done)(j:Nat):flV V L done j=(getL L (j:Int)).getD (V j):=by
 unfold flV
 cases hd:idxL L (j:Int)with
 | none=>rw[(Yb hd).1];rfl
 | some k=>
  obtain⟨h1,_,h3,_⟩:=Ya hd
  rw[h3]
  simp[h k h1,List.getElem?_eq_getElem h1]
section
variable {O:Nat→Prop}{p sb off c mb:Nat}{V:Nat→Value}{L:List (Int×Value)}{D:zw}
theorem yw.zfc{w:World}(h:yw w O p sb off c mb V L D):p≠mb∧sb≠mb∧∀v l,Xq w O v l→v.ownBlock≠some mb:=by
 obtain⟨es,cl,hm,_⟩:=h.map
 refine⟨fun e=>?_,fun e=>?_,fun v l hs e=>?_⟩
 ·obtain⟨T,hp⟩:=h.row
  rw[←e,hp]at hm
  cases hm
 ·have:=(h.cells 0 (by omega)).1
  rw[e]at this
  simp[World.cell?,hm]at this
 ·obtain⟨_,h2,b,o,c,rfl,h4⟩:=hs
  simp[Value.ownBlock]at e
  subst e
  rcases h2.2 with⟨e,_⟩|⟨b',o',c',arr,e,hbb,_⟩
  ·cases e
  ·have e':=congrArg Value.ownBlock e
   simp[Value.ownBlock]at e'
   subst e'
   rw[hm]at hbb
   cases hbb
theorem yw.apart4{w:World}(h:yw w O p sb off c mb V L D){x y:Int×Value}(hx:x∈L)(hy:y∈L)(hne:x.1≠y.1):x.2.ownBlock≠y.2.ownBlock:=by
 obtain⟨i,hi,rfl⟩:=List.getElem_of_mem hx
 obtain⟨j,hj,rfl⟩:=List.getElem_of_mem hy
 have hp:=List.pairwise_iff_getElem.1 h.own4
 rcases Nat.lt_trichotomy i j with e|e|e
 ·exact hp i j hi hj e
 ·subst e;exact absurd rfl hne
 ·exact Ne.symm (hp j i hj hi e)
structure FlAt(w1 W:World)(p sb off mb:Nat)(V:Nat→Value)(L:List (Int×Value))(done:List Nat):Prop where
 os:W.os=w1.os
 tape:W.tape=w1.tape
 output:W.output=w1.output
 size:W.heap.size=w1.heap.size+1
 block:∀k,k<w1.heap.size→k≠sb→W.heap[k]?=w1.heap[k]?
 cells:∀j,j<192→W.cell? ⟨sb,off+j,none⟩=some (flV V L done j)∧W.frozen? ⟨sb,off+j,none⟩=false
 ran:jg W mb w1.heap.size xw id L done
theorem FlAt.end_{w1 W W2:World}{done:List Nat}(h:yw w1 O p sb off c mb V L D)(f:FlAt w1 W p sb off mb V L done)(hall:∀i,i<L.length→i∈done)(hm:MapAt W2 mb xw id ([]:List (Int×Value)))(hg:W.grownBy W2 (some mb))(hs:W2.heap.size=W.heap.size):
  yw W2 O p sb off c mb (fun(j:Nat)=>(getL L (j:Int)).getD (V j)) [] D.flush∧Turn O w1 W2:=by
 have hsb:=h.sbl
 obtain⟨n1,n2,n3⟩:=h.zfc
 have hk:∀k,k<w1.heap.size→k≠sb→k≠mb→W2.heap[k]?=w1.heap[k]?:=fun k hk h1 h2=>(hg.block k (by rw[f.size];omega) (by simp;exact h2)).trans (f.block k hk h1)
 have hsb2:W2.heap[sb]?=W.heap[sb]?:=hg.block sb (by rw[f.size];omega) (by simp;exact n2)
 have sec:∀j:Nat,j<192→Xq w1 O ((getL L (j:Int)).getD (V j)) (D.cur j)∧((getL L (j:Int)).getD (V j)).ownBlock≠some p∧((getL L (j:Int)).getD (V j)).ownBlock≠some sb:=fun j hj=>by
  have hl:=h.loose j hj
  unfold zw.cur
  cases hd:D.loose j with
  | none=>
   rw[hd]at hl
   unfold Jt at hl
   rw[hl]
   exact⟨h.sure j hj,h.own1 j hj⟩
  | some l=>
   rw[hd]at hl
   obtain⟨v,h1,h2⟩:=hl
   rw[h1]
   exact⟨h2,(h.own2 _ (Yj h1)).1,(h.own2 _ (Yj h1)).2.1⟩
 refine⟨?_,⟨hg.os.trans f.os,hg.tape.trans f.tape,hg.output.trans f.output,by have:=f.size;omega,fun k hk' ho=>hk k hk' (fun e=>ho (e▸h.os)) (fun e=>ho (e▸h.om))⟩⟩
 refine {op:=h.op,os:=h.os,om:=h.om,ps:=h.ps,row:=h.row.keep (hk p h.row.lt h.ps n1),cap:=h.cap,cells:=fun j hj=>?_,sure:=fun j hj=>?_,map:=hm,keys:=fun x hx=>by simp at hx,nd:=by simp,loose:=fun j hj=>rfl,own1:=fun j hj=>(sec j hj).2,own2:=fun x hx=>by simp at hx,own3:=fun j k hj hk' hne=>?_,own4:=by simp,n1:=h.n1,n2:=h.n2,n3:=h.n3}
 ·have:=f.cells j hj
  rw[zof hall]at this
  exact⟨(World.cell?_of_block (w:=W) hsb2).trans this.1,(xy (a:=⟨sb,off+j,none⟩) hsb2).trans this.2⟩
 ·obtain⟨s1,s2,s3⟩:=sec j hj
  exact s1.keep fun b hb hl ho=>⟨ho,hk b hl (fun e=>s3 (by rw[hb,e])) (fun e=>n3 _ _ s1 (by rw[hb,e]))⟩
 ·cases hj':getL L (j:Int)with
  | none=>
   cases hk'':getL L (k:Int)with
   | none=>exact h.own3 j k hj hk' hne
   | some u=>exact Ne.symm ((h.own2 _ (Yj hk'')).2.2 j hj)
  | some v=>
   cases hk'':getL L (k:Int)with
   | none=>exact(h.own2 _ (Yj hj')).2.2 k hk'
   | some u=>exact h.apart4 (Yj hj') (Yj hk'') (by show(j:Int)≠k;omega)
theorem FlAt.start{w1:World}(h:yw w1 O p sb off c mb V L D){clock:Nat}(hr:jg (w1.alloc (.mapIter (some mb) clock #[] clock)) mb w1.heap.size xw id L []):FlAt w1 (w1.alloc (.mapIter (some mb) clock #[] clock)) p sb off mb V L []:=by
 have hb:=(Below.refl w1.heap.size w1).alloc (Nat.le_refl _) (.mapIter (some mb) clock #[] clock)
 have hsb:=h.sbl
 refine⟨rfl,rfl,rfl,by simp,fun k hk _=>hb.block k hk,fun j hj=>?_,hr⟩
 rw[zoe]
 exact⟨(World.cell?_of_block (w:=w1) (hb.block sb hsb)).trans (h.cells j hj).1,(xy (a:=⟨sb,off+j,none⟩) (hb.block sb hsb)).trans (h.cells j hj).2⟩
theorem FlAt.step{w1 W W1:World}{done:List Nat}{i n:Nat}{v:Value}(h:yw w1 O p sb off c mb V L D)(f:FlAt w1 W p sb off mb V L done)(hi:L[i]?=some ((n:Int),v))(hn:n<192)(hr:jg W1 mb w1.heap.size xw id L (i::done))(hg:W.grownBy W1 (some w1.heap.size))(hs:W1.heap.size=W.heap.size):
  FlAt w1 (W1.setCell ⟨sb,off+n,none⟩ v) p sb off mb V L (i::done)∧(W1.setCell ⟨sb,off+n,none⟩ v).rangeLeft mb w1.heap.size=W1.rangeLeft mb w1.heap.size:=by
 have hsb:=h.sbl
 obtain⟨n1,n2,n3⟩:=h.zfc
 have hb1:W1.heap[sb]?=W.heap[sb]?:=hg.block sb (by rw[f.size];omega) (by simp;omega)
 have hoth:∀k,k≠sb→(W1.setCell ⟨sb,off+n,none⟩ v).heap[k]?=W1.heap[k]?:=fun k hk=>Below.heap_setCell W1 ⟨sb,off+n,none⟩ v k hk
 have hsz:(W1.setCell ⟨sb,off+n,none⟩ v).heap.size=W1.heap.size:=by simp[World.setCell]
 refine⟨⟨hg.os.trans f.os,hg.tape.trans f.tape,hg.output.trans f.output,by rw[hsz,hs,f.size],fun k hk hne=>?_,fun j hj=>?_,hr.keep (hoth mb (Ne.symm n2)) (hoth _ (by omega))⟩,zik (hoth mb (Ne.symm n2)) (hoth _ (by omega))⟩
 ·exact(hoth k hne).trans ((hg.block k (by rw[f.size];omega) (by simp;omega)).trans (f.block k hk hne))
 ·rw[zk7 h.nd hi]
  have hc:∀j,j<192→W1.cell? ⟨sb,off+j,none⟩=some (flV V L done j)∧W1.frozen? ⟨sb,off+j,none⟩=false:=fun j hj=>⟨(World.cell?_of_block (w:=W) hb1).trans (f.cells j hj).1,(xy (a:=⟨sb,off+j,none⟩) hb1).trans (f.cells j hj).2⟩
  by_cases e:j=n
  ·subst e
   rw[if_pos rfl]
   have:=hc j hj
   refine⟨?_,?_⟩
   ·go_simp
   ·go_simp
  ·rw[if_neg e]
   have:=hc j hj
   refine⟨?_,?_⟩
   ·have e2:¬off+n=off+j:=by omega
    have e3:=this.1
    go_simp
   ·go_simp
theorem zhd(w:World)(h:yw w O p sb off c mb V L D):
  Calls Tryz.prog 56 #[.pointer (some ⟨p,0,none⟩)] w fun e w'=>e=.returned (.int .i64 D.work.2)∧Turn O w w'∧jr w' O p (if D.work.2=0 then D.work.1.flush else D.work.1):=by
 have W:=Lib.hid (Qt w h)
 obtain⟨r,hr⟩:∃r,D.work.2=r:=⟨_,rfl⟩
 obtain⟨D',hD⟩:∃D',D.work.1=D':=⟨_,rfl⟩
 rw[hr,hD]at W
 rw[hr,hD]
 clear h hr hD
 go_enter Tryz.func56,Tryz.ntmps56
 go_wp2_with fail
 refine W.out.mono ?_
 rintro e w1 ⟨rfl,hI,hT⟩
 have H1:=Lib.hid (And.intro hI hT)
 clear hI hT W
 by_cases hr:r=0
 ·subst hr
  have c1:=H1.out.1.row.cell (i:=1) (by omega)
  dsimp only[q9]at c1
  obtain⟨clock,hR0,hrun⟩:=jg.start w1 H1.out.1.map
  have hrun:=hrun Tryz.prog 155 _ _ Tryz.underlying155
  have F0:=Lib.hid (FlAt.start H1.out.1 hR0)
  clear hR0
  go_wp2_with fail
  clear hrun c1
  go_loopw [4] (fun _ W=>∃done,FlAt w1 W p sb off mb V L done) (fun _ W=>W.rangeLeft mb w1.heap.size)
  case atStart=>exact⟨[],F0.out⟩
  case round=>
   obtain⟨done,f⟩:=hrel
   rcases f.ran.next (P:=Tryz.prog) 0 with⟨hall,hrun⟩|⟨i,x,W1,hi,hnd,hrun,hR,hg,hsz,hlt,hen⟩
   ·obtain⟨W2,hc,M2,g2,z2⟩:=zjr (P:=Tryz.prog) (T:=155) Tryz.underlying155 f.ran.map 0
    have E:=Lib.hid (FlAt.end_ H1.out.1 f hall M2 g2 z2)
    have c1:wr.cell? ⟨p,1,none⟩=some (.map (some mb)):=(World.cell?_of_block (w:=w1) (f.block p H1.out.1.row.lt H1.out.1.ps)).trans (H1.out.1.row.cell (i:=1) (by omega))
    have HF:=Lib.hid (And.intro f hall)
    clear f hall M2 g2 z2
    go_wp2_with fail
    go_ret
    exact⟨rfl,H1.out.2.trans E.out.2,⟨sb,off,c,mb,_,_,E.out.1⟩⟩
   ·obtain⟨k,v⟩:=x
    have hmem:(k,v)∈L:=List.mem_of_getElem? hi
    have hk:=H1.out.1.keys _ hmem
    obtain⟨n,rfl⟩:=Int.eq_ofNat_of_zero_le hk.1
    have hn:n<192:=by have:=hk.2;dsimp only at this;omega
    obtain⟨l,hl,hs⟩:∃l,D'.loose n=some l∧Xq w1 O v l:=by
     obtain⟨j,h1,h2,h3⟩:=H1.out.1.entry hmem
     have:j=n:=by dsimp only at h2;omega
     subst this
     exact h3
    obtain⟨_,hs2,b0,off0,c0,rfl,_⟩:=hs
    have S:=Lib.hid (FlAt.step H1.out.1 f hi hn hR hg hsz)
    have hW1:∀k,k<w1.heap.size→W1.heap[k]?=wr.heap[k]?:=fun k hk=>hg.block k (by rw[f.size];omega) (by simp;omega)
    have c0':W1.cell? ⟨p,0,none⟩=some (.slice (some ⟨sb,off,none⟩) 192 c):=(World.cell?_of_block (w:=wr) (hW1 p H1.out.1.row.lt)).trans ((World.cell?_of_block (w:=w1) (f.block p H1.out.1.row.lt H1.out.1.ps)).trans (H1.out.1.row.cell (i:=0) (by omega)))
    have c2:W1.cell? ⟨sb,off+n,none⟩=some (flV V L done n):=(World.cell?_of_block (w:=wr) (hW1 sb H1.out.1.sbl)).trans (f.cells n hn).1
    have c3:W1.frozen? ⟨sb,off+n,none⟩=false:=(xy (w:=wr) (a:=⟨sb,off+n,none⟩) (hW1 sb H1.out.1.sbl)).trans (f.cells n hn).2
    obtain⟨ov,hov⟩:∃ov,flV V L done n=ov:=⟨_,rfl⟩
    rw[hov]at c2
    have i1:(n:Int)<192:=by omega
    have i2:(0:Int)≤n:=by omega
    have HLT:=Lib.hid hlt
    clear f hi hnd hR hg hsz hlt hmem hk hl hs2 hW1 hov
    dsimp only[xw,id]at hrun hen
    go_wp2_with fail
    go_roundw
    case rel=>exact⟨_,S.out.1⟩
    case measure=>rw[S.out.2];exact HLT.out
 ·have e1:(r:Int)≠0:=by omega
  go_wp2_with fail
  go_ret
  exact⟨rfl,H1.out.2,⟨sb,off,c,mb,V,L,H1.out.1⟩⟩
end
theorem Jz{P:Program}{ops:Array Oper}{o:Oper}{a:Act}{w:World}{K:Act→World→Prop}{Q:Exit→Act→World→Prop}{E:Prop}
  (hg:o.guard=none) (s x:Operand) (t:TypeId) (hop:o.op=Op.call {callee:=Callee.builtin Builtin.append,args:=#[s,x],argTypes:=#[t,t]})
  (v sv v':Value) (w':World) (hs:a.eval s=v) (hx:a.eval x=sv) (hr:(Builtin.append_ #[t,t] o.type #[v,sv]).run P w=.ok v' w')
  (hK:K (a.put o.dst v') w'):if Region.wanted o (yielded ops a.tmps)=true then Oper.wp P o a w K Q else E:=by
 have hw:Region.wanted o (yielded ops a.tmps)=true:=by simp[Region.wanted,hg]
 rw[if_pos hw]
 unfold Oper.wp
 simp[execOp,hop,resolve,invoke,builtin,hs,hx,hr,Result.andThen]
 exact hK
theorem zit:∃i,Tryz.prog.info? 22=some i∧i.zero=some (.slice none 0 0)∧i.size=1∧i.bytes=24:=by
 have h:(Tryz.prog.info? 22).map (fun i=>(i.zero,i.size,i.bytes))=some (some (.slice none 0 0),1,24):=by kernel_rfl
 obtain⟨i,hi,hb⟩:=Option.map_eq_some_iff.1 h
 simp at hb
 exact⟨i,hi,hb⟩
def zw.none:zw:=⟨fun _=>List.replicate 64 0,fun _=>.none,0,0,-1,false⟩
theorem zw.Jb:zw.none.Calm:=⟨rfl,rfl,rfl,rfl⟩
structure NewD(w0 W:World)(k:Nat)(sv:Value)(V:Nat→Value):Prop where
 below:Below w0.heap.size w0 W
 size:w0.heap.size+2≤W.heap.size
 row:Row W (w0.heap.size+1) 6 (q9 sv (.map (some w0.heap.size)) zw.none)
 map:MapAt W w0.heap.size xw id ([]:List (Int×Value))
 sl:SlAt W 22 1 sv k ((List.range k).map V)
 svb:∀b,sv.ownBlock=some b→w0.heap.size+2≤b
 sec:∀j,j<k→Xq W (fun b=>w0.heap.size+2≤b) (V j) (List.replicate 64 0)∧(V j).ownBlock≠sv.ownBlock
 own3:∀i j,i<k→j<k→i≠j→(V i).ownBlock≠(V j).ownBlock
theorem NewD.step{w0 W W1 w3:World}{k:Nat}{sv v':Value}{V:Nat→Value}(h:NewD w0 W k sv V)(T2:TypeId)(Z:Array Value)(hZ:Z.size=64∧∀i,i<64→Z[i]?=some (.int .u8 0))
  (e1:W1=(W.drew.alloc (.cells Z 5)).alloc (.cells #[.slice (some ⟨W.heap.size,0,none⟩) 64 64] T2)) (hs:SlAt w3 22 1 v' (k+1) ((List.range k).map V++[.slice (some ⟨W.heap.size,0,none⟩) 64 64]))
  (hg:W1.grownBy w3 sv.ownBlock) (ho:v'.ownBlock=sv.ownBlock∨v'.ownBlock=some W1.heap.size):
  NewD w0 (w3.setCell ⟨w0.heap.size+1,0,none⟩ v') (k+1) v' (fun j=>if j=k then .slice (some ⟨W.heap.size,0,none⟩) 64 64 else V j):=by
 have hb1:Below W.heap.size W W1:=by rw[e1];exact(((Below.refl _ _).drew).alloc (Nat.le_refl _) _).alloc (by show W.heap.size≤(W.drew.alloc _).heap.size;simp) _
 have hz1:W1.heap.size=W.heap.size+2:=by rw[e1];simp
 have hsz:=h.size
 have hcell:∀b,b<W.heap.size→sv.ownBlock≠some b→b≠w0.heap.size+1→(w3.setCell ⟨w0.heap.size+1,0,none⟩ v').heap[b]?=W.heap[b]?:=fun b hb hne hnp=>
  (Below.heap_setCell w3 ⟨w0.heap.size+1,0,none⟩ v' b hnp).trans ((hg.block b (by omega) (Ne.symm hne)).trans (hb1.block b hb))
 have svn:∀b,b<w0.heap.size+2→sv.ownBlock≠some b:=fun b hb e=>by have:=h.svb b e;omega
 have hz3:(w3.setCell ⟨w0.heap.size+1,0,none⟩ v').heap.size=w3.heap.size:=by simp[World.setCell]
 have hg3:=hg.size
 have nb:W1.heap[W.heap.size]?=some (.cells Z 5 (0,0)):=by
  rw[e1]
  have e2:(W.drew.alloc (.cells Z 5)).heap[W.heap.size]?=some (.cells Z 5 (0,0)):=heap_alloc_new W.drew _
  rw[Below.heap_alloc _ _ _ (by show W.heap.size<(W.drew.alloc _).heap.size;simp)]
  exact e2
 have svlt:∀b,sv.ownBlock=some b→b<W.heap.size:=fun b hb=>SlAt.lt h.sl b hb
 have nb3:(w3.setCell ⟨w0.heap.size+1,0,none⟩ v').heap[W.heap.size]?=some (.cells Z 5 (0,0)):=by
  rw[Below.heap_setCell w3 ⟨w0.heap.size+1,0,none⟩ v' W.heap.size (by show W.heap.size≠w0.heap.size+1;omega),hg.block W.heap.size (by omega) (fun e=>by have:=svlt _ e.symm;omega)]
  exact nb
 have vnew:∀b,v'.ownBlock=some b→w0.heap.size+2≤b:=fun b hb=>by
  rcases ho with e|e
  ·exact h.svb b (by rw[←e,hb])
  ·rw[hb]at e;simp at e;omega
 refine⟨⟨hg.os.trans (hb1.os.trans h.below.os),hg.tape.trans (hb1.tape.trans h.below.tape),hg.output.trans (hb1.output.trans h.below.output),by have:=h.below.size;omega,fun b hb=>?_⟩,by omega,?_,?_,?_,vnew,?_,?_⟩
 ·exact(hcell b (by omega) (svn b (by omega)) (by omega)).trans (h.below.block b hb)
 ·have hr:Row w3 (w0.heap.size+1) 6 (q9 sv (.map (some w0.heap.size)) zw.none):=h.row.keep ((hg.block _ (by omega) (Ne.symm (svn _ (by omega)))).trans (hb1.block _ (by omega)))
  refine(hr.set (i:=0) (by omega) v').congr fun i hi=>?_
  rcases(by omega:i=0∨i=1∨i=2∨i=3∨i=4∨i=5)with rfl|rfl|rfl|rfl|rfl|rfl<;>rfl
 ·exact h.map.keep (hcell _ (by omega) (svn _ (by omega)) (by omega))
 ·have e:(List.range (k+1)).map (fun j=>if j=k then Value.slice (some ⟨W.heap.size,0,none⟩) 64 64 else V j)=(List.range k).map V++[.slice (some ⟨W.heap.size,0,none⟩) 64 64]:=by
   rw[List.range_succ,List.map_append]
   congr 1
   ·refine List.map_congr_left fun j hj=>?_
    rw[if_neg (by have:=List.mem_range.1 hj;omega)]
   ·simp
  rw[e]
  exact hs.keep fun b hb=>Below.heap_setCell w3 ⟨w0.heap.size+1,0,none⟩ v' b (by have:=vnew b hb;show b≠w0.heap.size+1;omega)
 ·intro j hj
  by_cases ej:j=k
  ·rw[if_pos ej]
   refine⟨⟨by simp,⟨by simp[bV],.inr ⟨W.heap.size,0,64,Z,by simp,nb3,by simp,by unfold maxLen;omega,by rw[hZ.1];omega,fun i u hu=>?_⟩⟩,W.heap.size,0,64,rfl,by omega⟩,?_⟩
   ·have hi:i<64:=by have:=(List.getElem?_eq_some_iff.1 hu).1;simpa using this
    rw[Nat.zero_add,hZ.2 i hi]
    rw[List.getElem?_map,List.getElem?_replicate,if_pos hi]at hu
    simpa[bV]using hu
   ·rcases ho with e|e
    ·rw[e]
     intro e2
     have:=svlt W.heap.size e2.symm
     omega
    ·rw[e];simp[Value.ownBlock];omega
  ·rw[if_neg ej]
   obtain⟨s1,s2⟩:=h.sec j (by omega)
   refine⟨s1.keep fun b hb hl hO=>⟨hO,hcell b hl (fun e=>s2 (by rw[hb,e])) (by have:w0.heap.size+2≤b:=hO;omega)⟩,?_⟩
   obtain⟨b,hb,hbl,_⟩:=s1.lt
   rcases ho with e|e
   ·rw[e];exact s2
   ·rw[e,hb];simp;omega
 ·intro i j hi hj hne
  have lt:∀j,j<k→(V j).ownBlock≠some W.heap.size:=fun j hj e=>by
   obtain⟨b,hb,hbl,_⟩:=(h.sec j hj).1.lt
   rw[hb]at e
   simp at e
   omega
  by_cases ei:i=k
  ·rw[if_pos ei,if_neg (by omega)]
   exact Ne.symm (lt j (by omega))
  ·rw[if_neg ei]
   by_cases ej:j=k
   ·rw[if_pos ej]
    exact lt i (by omega)
   ·rw[if_neg ej]
    exact h.own3 i j (by omega) (by omega) hne
theorem NewD.end_{w0 W:World}{sv:Value}{V:Nat→Value}(h:NewD w0 W 192 sv V):jr W (fun b=>w0.heap.size≤b) (w0.heap.size+1) zw.none:=by
 obtain⟨sb,off,c,rfl,h1,h2,h3⟩:=h.sl.cells (by simp)
 obtain⟨_,_,e,_,hm⟩:=h.sl.form
 cases e
 have hsv:=h.svb sb rfl
 refine⟨sb,off,c,w0.heap.size,V,[],{op:=by show _≤_;omega,os:=by show _≤_;omega,om:=Nat.le_refl _,ps:=by omega,row:=h.row,cap:=⟨h1,hm⟩,cells:=fun j hj=>h3 j (V j) (by simp[hj]),sure:=fun j hj=>(h.sec j hj).1.keep fun b _ _ hO=>⟨by have:w0.heap.size+2≤b:=hO;show _≤_;omega,rfl⟩,map:=h.map,keys:=fun x hx=>by simp at hx,nd:=by simp,loose:=fun j hj=>rfl,own1:=fun j hj=>⟨?_,(h.sec j hj).2⟩,own2:=fun x hx=>by simp at hx,own3:=h.own3,own4:=by simp,n1:=by decide,n2:=by decide,n3:=by decide}⟩
 obtain⟨b,hb,_,hO⟩:=(h.sec j hj).1.lt
 rw[hb]
 have:w0.heap.size+2≤b:=hO
 simp
 omega
theorem zf2(w:World):Calls Tryz.prog 54 #[.int .i64 192] w fun e w'=>e=.returned (.pointer (some ⟨w.heap.size+1,0,none⟩))∧jr w' (fun b=>w.heap.size≤b) (w.heap.size+1) zw.none∧Below w.heap.size w w':=by
 obtain⟨Z,hZ⟩:∃Z,madeCells #[.int .u8 0] 64=Z:=⟨_,rfl⟩
 have mk:∀w,(Instr.makeSlice 22 (.int .i64 64) (.int .i64 64)).run Tryz.prog w=.ok (.slice (some ⟨w.heap.size,0,none⟩) 64 64) (w.alloc (.cells Z 5)):=fun w=>by
  have:=zd9 64 (by omega) w
  rw[hZ]at this
  exact this
 have HZ:Hid (Z.size=64∧∀i,i<64→Z[i]?=some (.int .u8 0)):=by
  subst hZ
  exact⟨size_madeCells _ _,fun i hi=>zdo _ _ hi⟩
 clear hZ
 have hmm:=@run_makeMap Tryz.prog
 go_enter Tryz.func54,Tryz.ntmps54
 go_wp2_with fail
 clear hmm
 have N0:Hid (NewD w ((w.alloc (.map #[] 0)).alloc (.cells #[.slice none 0 0,.map (some w.heap.size),.int .i64 0,.int .i64 0,.int .i64 (-1),.bool false] 157)) 0 (.slice none 0 0) (fun _=>undef)):=by
  have hb:=((Below.refl w.heap.size w).alloc (Nat.le_refl _) (.map #[] 0)).alloc (by simp) (.cells #[.slice none 0 0,.map (some w.heap.size),.int .i64 0,.int .i64 0,.int .i64 (-1),.bool false] 157 (0,0))
  refine⟨hb,by simp,?_,?_,SlAt.nil _ _ _,fun b hb=>by simp[Value.ownBlock]at hb,fun j hj=>by omega,fun i j hi=>by omega⟩
  ·have:=Row.new (w.alloc (.map #[] 0)) 6 (q9 (.slice none 0 0) (.map (some w.heap.size)) zw.none) #[.slice none 0 0,.map (some w.heap.size),.int .i64 0,.int .i64 0,.int .i64 (-1),.bool false] 157 rfl fun i hi=>by
    rcases(by omega:i=0∨i=1∨i=2∨i=3∨i=4∨i=5)with rfl|rfl|rfl|rfl|rfl|rfl<;>rfl
   rw[World.size_alloc]at this
   exact this
  ·exact(MapAt.made w _ _).below ((Below.refl _ _).alloc (Nat.le_refl _) _)
 go_loopw [10] (fun i W=>∃k:Nat,k≤192∧i=.int .i64 k∧∃sv V,NewD w W k sv V) (fun i _=>192-(intOf i).toNat)
 case atStart=>exact⟨0,by omega,rfl,_,_,N0.out⟩
 case round=>
  obtain⟨k,hk,rfl,sv,V,hN⟩:=hrel
  by_cases hlt:k<192
  ·have i1:(k:Int)<192:=by omega
   have c0:=hN.row.cell (i:=0) (by omega)
   have z0:=hN.row.frozen 0
   dsimp only[q9]at c0
   obtain⟨W1,hW1⟩:∃W1,W1=(wr.drew.alloc (.cells Z 5)).alloc (.cells #[.slice (some ⟨wr.heap.size,0,none⟩) 64 64] 22):=⟨_,rfl⟩
   have hb1:Below wr.heap.size wr W1:=by rw[hW1];exact(((Below.refl _ _).drew).alloc (Nat.le_refl _) _).alloc (by show wr.heap.size≤(wr.drew.alloc _).heap.size;simp) _
   obtain⟨i0,hi0,hz0,hs0,hy0⟩:=zit
   obtain⟨v',w3,hr,hsl,hgr,hown⟩:=qz (P:=Tryz.prog) W1 154 154 22 i0 _ 1 24 Tryz.underlying154 hi0 hz0 hs0 hy0 rfl sv k _ (hN.sl.below hb1) ⟨wr.heap.size+1,0,none⟩ 1 1 [.slice (some ⟨wr.heap.size,0,none⟩) 64 64] rfl (by
    rw[hW1]
    intro j u hu
    have:=V7 (wr.drew.alloc (.cells Z 5)) 22 [.slice (some ⟨wr.heap.size,0,none⟩) 64 64] j u hu
    rw[World.size_alloc]at this
    exact this) (by simp[Value.oneCell']) (by simp only[maxLen];omega) (by omega)
   have NS:=Lib.hid (hN.step 22 Z HZ.out hW1 hsl hgr hown)
   obtain⟨a',c',rfl,_,_⟩:=SlAt.form hsl
   have svn:sv.ownBlock≠some (w.heap.size+1):=fun e=>by have:=hN.svb _ e;omega
   have hpl:=hN.size
   have c3:w3.cell? ⟨w.heap.size+1,0,none⟩=some sv:=(World.cell?_of_block (w:=wr) ((hgr.block (w.heap.size+1) (by have:=hb1.size;omega) (Ne.symm svn)).trans (hb1.block _ (by omega)))).trans c0
   have z3:w3.frozen? ⟨w.heap.size+1,0,none⟩=false:=(xy (w:=wr) (a:=⟨w.heap.size+1,0,none⟩) ((hgr.block (w.heap.size+1) (by have:=hb1.size;omega) (Ne.symm svn)).trans (hb1.block _ (by omega)))).trans z0
   rw[hW1]at hr
   have c0a:∀o,(wr.alloc o).cell? ⟨w.heap.size+1,0,none⟩=some sv:=fun o=>(((Below.refl wr.heap.size wr).alloc (Nat.le_refl _) o).cell (by show w.heap.size+1<_;omega)).trans c0
   have c0b:∀o o',((wr.alloc o).alloc o').cell? ⟨w.heap.size+1,0,none⟩=some sv:=fun o o'=>((((Below.refl wr.heap.size wr).alloc (Nat.le_refl _) o).alloc (by simp) o').cell (by show w.heap.size+1<_;omega)).trans c0
   have HR:=Lib.hid hr
   have HN:=Lib.hid hN
   clear hr hN hpl hsl hgr hown hW1 hb1 svn
   go_wp2_with fail
   go_region_law (refine Jz rfl (.tmp 16) (.tmp 18) 154 rfl sv _ _ w3 (by simp[Act.eval]) (by simp[Act.eval]) HR.out ?_)
   all_goals (go_wp2_with fail;go_roundw)
   all_goals first
    | exact⟨k+1,by omega,by go_num,_,_,NS.out⟩
    | (simp[intOf];omega)
  ·obtain rfl:k=192:=by omega
   have HN:=Lib.hid hN
   clear hN
   go_wp2_with fail
   go_ret
   exact⟨rfl,HN.out.end_,HN.out.below⟩
section
variable {O:Nat→Prop}{p sb off c mb:Nat}{V:Nat→Value}{L:List (Int×Value)}{D:zw}
theorem zia(w:World)(f n:Nat)(fi ni:Int)(ef:fi=f)(en:ni=n)(hf:f<4)(hn:n<16):Calls Tryz.prog 192 #[.int .i64 fi,.int .i64 ni] w fun e w'=>e=.returned (.int .i64 ((96+(16*f+n):Nat):Int))∧w'=w:=by
 subst ef;subst en
 have i1:(0:Int)≤f:=by omega
 have i2:(f:Int)<4:=by omega
 have i3:(0:Int)≤n:=by omega
 have i4:(n:Int)<16:=by omega
 have w1:IntKind.i64.wrap ((f:Int)*16)=f*16:=by simp[IntKind.wrap,IntKind.bits,IntKind.signed];omega
 have w2:IntKind.i64.wrap (96+(f:Int)*16)=96+f*16:=by simp[IntKind.wrap,IntKind.bits,IntKind.signed];omega
 have w3:IntKind.i64.wrap (96+(f:Int)*16+n)=96+f*16+n:=by simp[IntKind.wrap,IntKind.bits,IntKind.signed];omega
 go_enter Tryz.func192,Tryz.ntmps192
 go_wp2_with fail
 go_ret
 refine⟨?_,rfl⟩
 show Ending.returned (.int .i64 (96+(f:Int)*16+n))=_
 congr 2
 omega
theorem zb9(w:World)(n:Nat)(ni:Int)(en:ni=n)(hn:n<32):Calls Tryz.prog 132 #[.int .i64 ni] w fun e w'=>e=.returned (.int .i64 ((160+n:Nat):Int))∧w'=w:=by
 subst en
 have i3:(0:Int)≤n:=by omega
 have i4:(n:Int)<32:=by omega
 have w1:IntKind.i64.wrap (160+(n:Int))=160+n:=by simp[IntKind.wrap,IntKind.bits,IntKind.signed];omega
 go_enter Tryz.func132,Tryz.ntmps132
 go_wp2_with fail
 go_ret
 refine⟨?_,rfl⟩
 congr 2
theorem zhe(w:World)(h:yw w O p sb off c mb V L D)(f n:Nat)(fi ni:Int)(ef:fi=f)(en:ni=n)(hf:f<4)(hn:n<16):
  Calls Tryz.prog 252 #[.pointer (some ⟨p,0,none⟩),.int .i64 fi,.int .i64 ni] w fun e w'=>∃v,e=.returned (zba D.work.2 v)∧yw w' O p sb off c mb V L D.work.1∧Turn O w w'∧(D.work.2=0→ByAt w' v (D.cur (96+(16*f+n)))∧∀b,v.ownBlock=some b→w.heap.size≤b):=by
 have P:=Lib.hid (zia w f n fi ni ef en hf hn)
 have R:=Lib.hid (zdf w h ((96+(16*f+n):Nat):Int) (96+(16*f+n)) rfl (by omega))
 clear h ef en
 generalize ((96+(16*f+n):Nat):Int)=q at P R
 generalize D.cur (96+(16*f+n))=l at R⊢
 generalize D.work.2=r at R⊢
 go_enter Tryz.func252,Tryz.ntmps252
 go_wp2_with fail
 refine P.out.mono ?_
 rintro e u ⟨rfl,hu⟩
 have hu:=hu.symm
 subst hu
 go_wp2_with fail
 refine R.out.mono ?_
 rintro e w1 ⟨v,rfl,h1⟩
 have H1:=Lib.hid h1
 obtain⟨x,hx⟩:∃x,(if r=0 then v else Value.slice none 0 0)=x:=⟨_,rfl⟩
 have hv:zba r v=.tuple #[x,.int .i64 r]:=by unfold zba;rw[hx]
 have HV:=Lib.hid hv
 rw[hv]
 clear h1 hx hv
 go_wp2_with fail
 exact bodyPost_ret (v:=.tuple #[x,.int .i64 r]) (by simp[results,Tryz.results252,go_sem]) rfl ⟨v,by rw[HV.out],H1.out⟩
theorem zha(w:World)(h:yw w O p sb off c mb V L D)(n:Nat)(ni:Int)(en:ni=n)(hn:n<32):
  Calls Tryz.prog 234 #[.pointer (some ⟨p,0,none⟩),.int .i64 ni] w fun e w'=>∃v,e=.returned (zba D.work.2 v)∧yw w' O p sb off c mb V L D.work.1∧Turn O w w'∧(D.work.2=0→ByAt w' v (D.cur (160+n))∧∀b,v.ownBlock=some b→w.heap.size≤b):=by
 have P:=Lib.hid (zb9 w n ni en hn)
 have R:=Lib.hid (zdf w h ((160+n:Nat):Int) (160+n) rfl (by omega))
 clear h en
 generalize ((160+n:Nat):Int)=q at P R
 generalize D.cur (160+n)=l at R⊢
 generalize D.work.2=r at R⊢
 go_enter Tryz.func234,Tryz.ntmps234
 go_wp2_with fail
 refine P.out.mono ?_
 rintro e u ⟨rfl,hu⟩
 have hu:=hu.symm
 subst hu
 go_wp2_with fail
 refine R.out.mono ?_
 rintro e w1 ⟨v,rfl,h1⟩
 have H1:=Lib.hid h1
 obtain⟨x,hx⟩:∃x,(if r=0 then v else Value.slice none 0 0)=x:=⟨_,rfl⟩
 have hv:zba r v=.tuple #[x,.int .i64 r]:=by unfold zba;rw[hx]
 have HV:=Lib.hid hv
 rw[hv]
 clear h1 hx hv
 go_wp2_with fail
 exact bodyPost_ret (v:=.tuple #[x,.int .i64 r]) (by simp[results,Tryz.results234,go_sem]) rfl ⟨v,by rw[HV.out],H1.out⟩
end
end Go.Proofs.YtnhdmnijiphjjaaGreat
namespace Go.Proofs
open Go.Shelf
def YtnhdmnijiphjjaaGreat.Qf:Go.Shelf.Ren:=⟨fun|7=>71|6=>127|n=>n,fun|22=>120|24=>58|4=>4|0=>0|3=>3|n=>n,fun|n=>n⟩
theorem YtnhdmnijiphjjaaGreat.zcu:Go.Proofs.SlLaysQ.n7 Tryz.prog YtnhdmnijiphjjaaGreat.Qf:={
 mixed:=by kernel_rfl
 f6:=⟨Tryz.f127.name,by decide,Tryz.func127.trans (congrArg some (by kernel_rfl))⟩
 f7:=⟨Tryz.f71.name,by decide,Tryz.func71.trans (congrArg some (by kernel_rfl))⟩
 t0:=Tryz.underlying0
 a0:=Tryz.isAgg0
 z0:=Tryz.sizeOf0
 v0:=Tryz.zeroValue0
 t3:=Tryz.underlying3
 a3:=Tryz.isAgg3
 z3:=Tryz.sizeOf3
 v3:=Tryz.zeroValue3
 t4:=Tryz.underlying4
 a4:=Tryz.isAgg4
 z4:=Tryz.sizeOf4
 v4:=Tryz.zeroValue4
 t22:=Tryz.underlying120
 a22:=Tryz.isAgg120
 z22:=Tryz.sizeOf120
 v22:=Tryz.zeroValue120}
def YtnhdmnijiphjjaaGreat.zbj:Go.Shelf.Ren:=⟨fun|6=>127|n=>n,fun|22=>120|24=>58|3=>3|0=>0|4=>4|n=>n,fun|n=>n⟩
theorem YtnhdmnijiphjjaaGreat.zio:Go.Proofs.SlLaysQ.n6 Tryz.prog YtnhdmnijiphjjaaGreat.zbj:={
 mixed:=by kernel_rfl
 f6:=⟨Tryz.f127.name,by decide,Tryz.func127.trans (congrArg some (by kernel_rfl))⟩
 t0:=Tryz.underlying0
 a0:=Tryz.isAgg0
 z0:=Tryz.sizeOf0
 v0:=Tryz.zeroValue0
 t3:=Tryz.underlying3
 a3:=Tryz.isAgg3
 z3:=Tryz.sizeOf3
 v3:=Tryz.zeroValue3
 t4:=Tryz.underlying4
 a4:=Tryz.isAgg4
 z4:=Tryz.sizeOf4
 v4:=Tryz.zeroValue4
 t22:=Tryz.underlying120
 a22:=Tryz.isAgg120
 z22:=Tryz.sizeOf120
 v22:=Tryz.zeroValue120}
def YtnhdmnijiphjjaaGreat.X0:Go.Shelf.Ren:=⟨fun|8=>200|6=>229|n=>n,fun|22=>120|23=>58|25=>273|4=>4|3=>3|0=>0|n=>n,fun|n=>n⟩
theorem YtnhdmnijiphjjaaGreat.laysContainsFunc:Go.Proofs.SlLaysH0.n8 Tryz.prog YtnhdmnijiphjjaaGreat.X0:={
 mixed:=by kernel_rfl
 f6:=⟨Tryz.f229.name,by decide,Tryz.func229.trans (congrArg some (by kernel_rfl))⟩
 f8:=⟨Tryz.f200.name,by decide,Tryz.func200.trans (congrArg some (by kernel_rfl))⟩
 t0:=Tryz.underlying0
 a0:=Tryz.isAgg0
 z0:=Tryz.sizeOf0
 v0:=Tryz.zeroValue0
 t3:=Tryz.underlying3
 a3:=Tryz.isAgg3
 z3:=Tryz.sizeOf3
 v3:=Tryz.zeroValue3
 t4:=Tryz.underlying4
 a4:=Tryz.isAgg4
 z4:=Tryz.sizeOf4
 v4:=Tryz.zeroValue4
 t22:=Tryz.underlying120
 a22:=Tryz.isAgg120
 z22:=Tryz.sizeOf120
 v22:=Tryz.zeroValue120
 t25:=Tryz.underlying273
 a25:=Tryz.isAgg273
 z25:=Tryz.sizeOf273
 v25:=Tryz.zeroValue273}
def YtnhdmnijiphjjaaGreat.zbk:Go.Shelf.Ren:=⟨fun|41=>139|n=>n,fun|22=>120|23=>58|4=>4|n=>n,fun|n=>n⟩
theorem YtnhdmnijiphjjaaGreat.zcv:Go.Proofs.SlLaysE0.n41 Tryz.prog YtnhdmnijiphjjaaGreat.zbk:={
 mixed:=by kernel_rfl
 f41:=⟨Tryz.f139.name,by decide,Tryz.func139.trans (congrArg some (by kernel_rfl))⟩
 t4:=Tryz.underlying4
 a4:=Tryz.isAgg4
 z4:=Tryz.sizeOf4
 v4:=Tryz.zeroValue4
 t22:=Tryz.underlying120
 a22:=Tryz.isAgg120
 z22:=Tryz.sizeOf120
 v22:=Tryz.zeroValue120}
end Go.Proofs
namespace Go.Proofs.YtnhdmnijiphjjaaGreat
open Go Go.RowKit
def encP(x:Int×Int):List Value:=[.int .i64 x.1,.int .i64 x.2]
theorem zbr(x:Int×Int):(encP x).length=2:=rfl
theorem zk9(x:Int×Int):∀v∈encP x,v.oneCell'=true:=by intro v hv;simp[encP]at hv;rcases hv with rfl|rfl<;>rfl
set_option maxHeartbeats 400000 in
theorem zkp:zbt Tryz.prog 58 where
 eq x y w:=by
  have u3:=Tryz.underlying3
  have a3:=Tryz.isAgg3
  have z3:=Tryz.sizeOf3
  have hS:Tryz.prog.underlying 58=some (.struct (Tryz.prog.fieldsOf 58)):=by kernel_rfl
  have hp:Tryz.prog.stoodInHeld 58=false:=by kernel_rfl
  show(Op.equalIn (9999+1) 58 (yf x) (yf y)).run Tryz.prog w=_
  simp only[yf]
  rw[run_equalIn_struct w 9999 58 _ _ hS hp]
  simp only[Program.fieldsOf,Tryz.underlying58]
  go_simp
  by_cases h1:x.fst=y.fst<;>by_cases h2:x.snd=y.snd<;>simp[h1,h2]
 check k b w:=by
  have u3:=Tryz.underlying3
  have a3:=Tryz.isAgg3
  have z3:=Tryz.sizeOf3
  have h:∀n,(Instr.checkKey b (n+2) 58 (yf k)).run Tryz.prog w=.ok () w:=fun n=>by
   simp[Instr.checkKey,run_underlying Tryz.underlying58,yf]
   go_simp
  exact h 9998
 desc:=⟨_,Tryz.underlying58⟩
theorem zfs:EqlAt Tryz.prog 58 (fun x=>.agg (encP x).toArray) (fun x y:Int×Int=>decide (x=y)):=by
 refine⟨fun x y w=>?_,fun op a b x y w=>?_⟩
 ·have e:=zkp.eq x y w
  show(binOp .eql 58 (yf x) (yf y)).run Tryz.prog w=_
  simp only
  rw[show(decide (x=y))=(x.1==y.1&&x.2==y.2)by
   obtain⟨x1,x2⟩:=x
   obtain⟨y1,y2⟩:=y
   by_cases h1:x1=y1<;>by_cases h2:x2=y2<;>simp[h1,h2]]
  simp only[yf]at e⊢
  simp[binOp,e]
 ·have hg:Tryz.prog.eqGuardType Tryz.prog.depth 58=false:=by kernel_rfl
  show(eqGuard op 58 a b (yf x) (yf y)).run Tryz.prog w=_
  unfold yf
  cases op<;>simp[eqGuard,hg]
theorem PlAt.hc{w:World}{b off c n:Nat}{l:List (Int×Int)}(h:PlAt w (.slice (some ⟨b,off,none⟩) n c) l):
  ∀j,j<l.length→∀i v,(encP l[j]!)[i]?=some v→w.cell? ⟨b,off+j*2+i,none⟩=some v:=by
 intro j hj i v hv
 obtain⟨h1,h2⟩:=h.cell j hj
 rw[getElem!_pos l j hj]at hv
 match i with
 | 0=>simp[encP]at hv;subst hv;exact h1
 | 1=>simp[encP]at hv;subst hv;exact h2
 | i+2=>simp[encP]at hv
theorem Ud(w:World)(v:Value)(l:List (Int×Int))(h:PlAt w v l)(p:Int×Int):
  Calls Tryz.prog 71 #[v,.agg #[.int .i64 p.1,.int .i64 p.2]] w fun e w'=>e=.returned (.bool (decide (p∈l)))∧Below w.heap.size w w':=by
 rcases h.form with⟨rfl,rfl⟩|⟨b,off,c,rfl,hc,hm,hb⟩
 ·simp only[List.not_mem_nil,decide_false]
  go_enter Tryz.func71,Tryz.ntmps71
  go_wp2
  refine wp_loop_rounds 1 ?_
  rw[rounds_succ]
  go_wp2
  go_ret
  exact⟨rfl,((Below.refl _ _).alloc (Nat.le_refl _) _).alloc (by simp) _⟩
 ·have:=AnyQ.slices_Contains zcu 2 (fun w=>by kernel_rfl) (fun w=>by kernel_rfl) encP zbr (fun x y=>decide (x=y)) zfs b off l.length c l p w (Nat.le_refl _) (by unfold maxLen at hm;omega) h.hc
  refine this.mono ?_
  rintro e w' ⟨rfl,hB⟩
  refine⟨?_,hB⟩
  congr 2
  rw[List.take_length]
  by_cases hp:p∈l<;>simp[hp,List.any_eq_true,List.any_eq_false]
  intro a b hab e
  exact hp (e▸hab)
def posP(l:List (Int×Int))(p:Int×Int):Int:=if p∈l then(l.idxOf p:Int)else -1
theorem zix(l:List (Int×Int))(p:Int×Int):Lib.idxBy (fun x y:Int×Int=>decide (x=y)) l p=posP l p:=by
 have key:∀(l:List (Int×Int)) (i:Nat),Lib.idxByFrom (fun x y:Int×Int=>decide (x=y)) p l i=if p∈l then((i+l.idxOf p:Nat):Int)else -1:=by
  intro l
  induction l with
  | nil=>intro i;rfl
  | cons x l ih=>
   intro i
   simp only[Lib.idxByFrom]
   by_cases e:p=x
   ·subst e;simp
   ·have e':(x==p)=false:=by simpa using fun h=>e h.symm
    rw[if_neg (by simpa using e),ih]
    by_cases hp:p∈l
    ·rw[if_pos hp,if_pos (List.mem_cons_of_mem _ hp),List.idxOf_cons,e']
     simp;omega
    ·rw[if_neg hp,if_neg (by simp[e,hp])]
 have:=key l 0
 simpa[Lib.idxBy,posP]using this
theorem zay(w:World)(v:Value)(l:List (Int×Int))(h:PlAt w v l)(p:Int×Int):
  Calls Tryz.prog 127 #[v,.agg #[.int .i64 p.1,.int .i64 p.2]] w fun e w'=>e=.returned (.int .i64 (posP l p))∧Below w.heap.size w w':=by
 rcases h.form with⟨rfl,rfl⟩|⟨b,off,c,rfl,hc,hm,hb⟩
 ·simp only[posP,List.not_mem_nil,if_false]
  go_enter Tryz.func127,Tryz.ntmps127
  go_wp2
  refine wp_loop_rounds 1 ?_
  rw[rounds_succ]
  go_wp2
  go_ret
  exact⟨rfl,(Below.refl _ _).alloc (Nat.le_refl _) _⟩
 ·have:=AnyQ.slices_Index zio 2 (fun w=>by kernel_rfl) (fun w=>by kernel_rfl) encP zbr (fun x y=>decide (x=y)) zfs b off l.length c l p w (Nat.le_refl _) (by unfold maxLen at hm;omega) h.hc
  refine this.mono ?_
  rintro e w' ⟨rfl,q,rfl⟩
  refine⟨?_,below_drewN' ((Below.refl _ _).alloc (Nat.le_refl _) _) q⟩
  rw[List.take_length,zix]
theorem Ji:∃i,Tryz.prog.info? 58=some i∧i.zero=some (.agg #[.int .i64 0,.int .i64 0])∧i.size=2∧i.bytes=16:=by
 have h:(Tryz.prog.info? 58).map (fun i=>(i.zero,i.size,i.bytes))=some (some (.agg #[.int .i64 0,.int .i64 0]),2,16):=by kernel_rfl
 obtain⟨i,hi,hb⟩:=Option.map_eq_some_iff.1 h
 simp at hb
 exact⟨i,hi,hb⟩
theorem zgk{w:World}{base:Nat}{v:Value}{l:List (Int×Int)}(h:w.ownsRow base 58 2 v l.length (pl l)):PlAt w v l:=by
 refine⟨h.1,?_⟩
 rcases h.2 with h0|⟨g,cap,cur,e,hg,hc,hn,hm,hs,ht⟩
 ·exact .inl h0
 ·refine .inr ⟨g,0,cap,cur,e,hc,hn,hm,by omega,fun j u hu=>?_⟩
  rw[←ht]at hu
  have hj:=(List.getElem?_eq_some_iff.1 hu).1
  rw[List.getElem?_take_of_lt (by simp at hj;omega)]at hu
  simpa using hu
theorem zaz(w:World)(v:Value)(l:List (Int×Int))(h:PlAt w v l)(hl:l.length≤1000000):
  Calls Tryz.prog 139 #[v] w fun e w'=>∃v',e=.returned v'∧PlAt w' v' l∧Below w.heap.size w w'∧∀b,v'.ownBlock=some b→w.heap.size≤b:=by
 rcases h.form with⟨rfl,rfl⟩|⟨b,off,c,rfl,hc,hm,hb⟩
 ·refine(AnyE.slices_Clone_nil zcv 0 0 w).mono ?_
  rintro e w' ⟨rfl,rfl⟩
  exact⟨_,rfl,PlAt.nil w',Below.refl _ _,by simp[Value.ownBlock]⟩
 ·obtain⟨i,hi,hz,hs,hby⟩:=Ji
  have:=AnyE.slices_Clone zcv i _ 2 16 hi hz hs hby (by rfl) (by omega) (fun w=>by kernel_rfl) b off l.length c (pl l) w (um l) (by unfold maxLen;omega) (by omega) (fun j u hu=>by
   obtain⟨g,off',c',e,_,_,hx⟩:=SlAt.cells h (by have:=(List.getElem?_eq_some_iff.1 hu).1;omega)
   cases e
   exact(hx j u hu).1) (zam l)
  refine this.mono ?_
  rintro e w' ⟨v',rfl,hown,hne,hB⟩
  refine⟨v',rfl,?_,hB,?_⟩
  ·exact zgk hown
  ·intro b' hb'
   rcases hown.2 with⟨e,_⟩|⟨g,cap,cur,e,hg,_⟩
   ·exact absurd e hne
   ·subst e;simp[Value.ownBlock]at hb';omega
section
open Go Go.RowKit
variable {K:Int→Prop}
theorem zm3(w:World)(p m:Nat)(S:List Nat)(V:List (Int×Value))(L:Int→List (Int×Int))(h:ut K w p m S V L)(f:Int)(hlen:(L f).length≤1000000):
  Calls Tryz.prog 87 #[.pointer (some ⟨p,0,none⟩),.int .i64 f] w fun e w'=>∃v',e=.returned v'∧PlAt w' v' (L f)∧Below w.heap.size w w'∧∀b,v'.ownBlock=some b→w.heap.size≤b:=by
 have hc:=h.c0
 have hp:=h.ps.1
 have hlk:=h.look f
 have hlkd:∀n,(Instr.lookup 212 (.map (some m)) (.int .i64 f) false).run Tryz.prog (w.drewN n)=.ok (jv V f) (w.drewN n):=fun n=>(h.below (below_drewN' (Below.refl _ _) n)).look f
 have cl:=Lib.hid (fun W (hW:Below w.heap.size w W)=>zaz W (jv V f) (L f) ((h.at_ f).below hW) hlen)
 clear h
 go_enter Tryz.func87,Tryz.ntmps87
 go_wp2_with fail
 refine(cl.out _ (Below.refl _ _)).mono ?_
 rintro e w2 ⟨v2,rfl,hp2,hb2,ho2⟩
 have H2:=Lib.hid (And.intro hp2 (And.intro hb2 ho2))
 clear hp2 hb2 ho2
 go_wp2_with fail
 refine(zdk w2 v2 (L f) H2.out.1).mono ?_
 rintro e w3 ⟨v3,rfl,hp3,rfl,ho3⟩
 have H3:=Lib.hid (And.intro hp3 ho3)
 clear hp3 ho3
 go_wp2_with fail
 go_ret
 exact⟨v3,rfl,H3.out.1,H2.out.2.1,fun b hb=>H2.out.2.2 b (by rw[←H3.out.2];exact hb)⟩
end
def ltP(x y:Int×Int):Prop:=x.1<y.1∨x.1=y.1∧x.2<y.2
instance (x y:Int×Int):Decidable (ltP x y):=inferInstanceAs (Decidable (_∨_))
theorem ltP.irrefl(x:Int×Int):¬ltP x x:=by unfold ltP;omega
theorem ltP.trans{x y z:Int×Int}(h:ltP x y)(k:ltP y z):ltP x z:=by unfold ltP at *;omega
theorem ltP.asymm{x y:Int×Int}(h:ltP x y):¬ltP y x:=by unfold ltP at *;omega
theorem ltP.tri(x y:Int×Int):ltP x y∨x=y∨ltP y x:=by
 obtain⟨a,b⟩:=x
 obtain⟨c,d⟩:=y
 simp only[ltP,Prod.mk.injEq]
 omega
def yz(l:List (Int×Int)):Prop:=l.Pairwise ltP
theorem yz.nodup{l:List (Int×Int)}(h:yz l):l.Nodup:=List.Pairwise.imp (S:=fun a b=>a≠b) (R:=ltP) (fun {a b} hab e=>by subst e;exact ltP.irrefl _ hab) h
theorem x9{a b:List (Int×Int)}(ha:yz a)(hb:yz b)(hp:a.Perm b):a=b:=
 hp.eq_of_pairwise (fun _ _ _ _ h1 h2=>absurd h2 h1.asymm) ha hb
def insP(p:Int×Int):List (Int×Int)→List (Int×Int)
 | []=>[p]
 | x::l=>if ltP x p then x::insP p l else p::x::l
theorem Vz(p:Int×Int)(l:List (Int×Int)):(insP p l).Perm (p::l):=by
 induction l with
 | nil=>exact List.Perm.refl _
 | cons x l ih=>
  simp only[insP]
  split
  ·exact(List.Perm.cons x ih).trans (List.Perm.swap p x l)
  ·exact List.Perm.refl _
theorem Jg{p:Int×Int}{l:List (Int×Int)}(h:yz l)(hn:p∉l):yz (insP p l):=by
 induction l with
 | nil=>exact List.pairwise_singleton _ _
 | cons x l ih=>
  obtain⟨h1,h2⟩:=List.pairwise_cons.1 h
  simp only[insP]
  split
  ·rename_i hx
   refine List.pairwise_cons.2 ⟨fun y hy=>?_,ih h2 (fun hm=>hn (List.mem_cons_of_mem _ hm))⟩
   rcases List.mem_cons.1 ((Vz p l).mem_iff.1 hy)with rfl|hy'
   ·exact hx
   ·exact h1 y hy'
  ·rename_i hx
   have hpx:ltP p x:=by
    rcases ltP.tri p x with h|h|h
    ·exact h
    ·exact absurd (h▸List.mem_cons_self) hn
    ·exact absurd h hx
   refine List.pairwise_cons.2 ⟨fun y hy=>?_,h⟩
   rcases List.mem_cons.1 hy with rfl|hy'
   ·exact hpx
   ·exact hpx.trans (h1 y hy')
def putP(l:List (Int×Int))(p:Int×Int):List (Int×Int):=if p∈l then l else insP p l
theorem zdz{l:List (Int×Int)}(h:yz l)(p:Int×Int):yz (putP l p):=by
 unfold putP
 split
 ·exact h
 ·exact Jg h ‹_›
theorem Vu{l:List (Int×Int)}{p q:Int×Int}:q∈putP l p↔q=p∨q∈l:=by
 unfold putP
 split
 ·constructor
  ·exact .inr
  ·rintro(rfl|h)
   ·assumption
   ·exact h
 ·rw[(Vz p l).mem_iff,List.mem_cons]
theorem ze0{l l':List (Int×Int)}{p:Int×Int}(h:yz l)(hn:p∉l)(hp:l'.Perm (l++[p]))(hs:l'.Pairwise (fun x y=>¬ltP y x)):l'=putP l p:=by
 have hpp:l'.Perm (insP p l):=hp.trans ((List.perm_append_singleton p l).trans (Vz p l).symm)
 have hsi:=Jg h hn
 unfold putP
 rw[if_neg hn]
 refine x9 ?_ hsi hpp
 have hnd:l'.Nodup:=hpp.nodup_iff.2 hsi.nodup
 exact(hs.and hnd).imp fun {a b} ⟨h1,h2⟩=>by
  rcases ltP.tri a b with h|h|h
  ·exact h
  ·exact absurd h h2
  ·exact absurd h h1
theorem zfr(l:List (Int×Int))(p:Int×Int):l.eraseIdx (l.idxOf p)=l.erase p:=by
 rw[List.erase_eq_eraseIdx_of_idxOf rfl]
section
open Go Go.RowKit
variable {K:Int→Prop}
theorem Touch.next{S S':List Nat}{a b c:World}(h:Touch S a b)(k:Touch S' b c)(hs:∀i∈S',i∈S∨a.heap.size≤i):Touch S a c:=
 ⟨k.os.trans h.os,k.tape.trans h.tape,k.output.trans h.output,Nat.le_trans h.size k.size,fun i hi hn=>(k.block i (Nat.lt_of_lt_of_le hi h.size) (fun e=>(hs i e).elim hn (by omega))).trans (h.block i hi hn)⟩
theorem zab(L:Int→List (Int×Int))(f:Int)(l l':List (Int×Int)):updF (updF L f l) f l'=updF L f l':=by
 funext g
 unfold updF
 split<;>rfl
theorem zhi(w:World)(p m:Nat)(S:List Nat)(V:List (Int×Value))(L:Int→List (Int×Int))(h:ut K w p m S V L)(f:Int)(x:Int×Int)(hlen:(L f).length≤100000)(hK:K f):
  Calls Tryz.prog 186 #[.pointer (some ⟨p,0,none⟩),.int .i64 f,.agg #[.int .i64 x.1,.int .i64 x.2]] w fun e w'=>e=.returned (.bool (decide (x∈L f)))∧∃S' V',ut K w' p m S' V' (updF L f ((L f).erase x))∧Touch S w w'∧∀b∈S',b∈S∨w.heap.size≤b:=by
 obtain⟨hp,hm,hpm⟩:=h.ps
 have hc:=h.c0
 obtain⟨v,hv⟩:∃v,v=jv V f:=⟨_,rfl⟩
 obtain⟨l,hl⟩:∃l,l=L f:=⟨_,rfl⟩
 have hlook:∀W,Below w.heap.size w W→(Instr.lookup 212 (.map (some m)) (.int .i64 f) false).run Tryz.prog W=.ok v W:=fun W hW=>by rw[hv];exact(h.below hW).look f
 have hpl:PlAt w v l:=by rw[hv,hl];exact h.at_ f
 rw[←hl]at hlen⊢
 have H:=Lib.hid h
 have HPL:=Lib.hid hpl
 have HV:=Lib.hid hv
 have HL:=Lib.hid hlook
 have HLL:=Lib.hid hl
 clear h hpl hv hlook hl
 go_enter Tryz.func186,Tryz.ntmps186
 go_wp2_with fail
 obtain⟨W,hW⟩:∃W,W=(w.alloc (.cells #[.int .i64 x.1,.int .i64 x.2] 58)).drew:=⟨_,rfl⟩
 have q0:W.cell? ⟨p,0,none⟩=some (.map (some m)):=by rw[hW];go_simp
 have q1:W.cell? ⟨w.heap.size,0,none⟩=some (.int .i64 x.1):=by rw[hW];go_simp
 have q2:W.cell? ⟨w.heap.size,1,none⟩=some (.int .i64 x.2):=by rw[hW];go_simp
 have hBW:Hid (Below w.heap.size w W∧W.heap.size=w.heap.size+1):=by
  rw[hW]
  exact⟨((Below.refl _ _).alloc (Nat.le_refl _) _).drew,by show(w.alloc _).heap.size=_;simp⟩
 have hd:(w.alloc (.cells #[.int .i64 x.1,.int .i64 x.2] 58)).drew=W:=hW.symm
 have hlk:=HL.out W hBW.out.1
 clear hW hc
 have cC:Hid (∀W',Below w.heap.size w W'→Calls Tryz.prog 127 #[v,.agg #[.int .i64 x.1,.int .i64 x.2]] W' fun e w'=>e=.returned (.int .i64 (posP l x))∧Below W'.heap.size W' w'):=fun W' hb=>zay W' v l (HPL.out.below hb) x
 by_cases hx:x∈l
 ·have hpos:posP l x=(l.idxOf x:Int):=by unfold posP;rw[if_pos hx]
  rw[hpos]at cC
  have hi:=List.idxOf_lt_length_of_mem hx
  obtain⟨i,hie⟩:∃i,i=l.idxOf x:=⟨_,rfl⟩
  rw[←hie]at cC hi
  have HI:=Lib.hid hie
  clear hie
  go_region_held (fun W'=>W'.cell? ⟨p,0,none⟩=some (.map (some m))∧W'.cell? ⟨w.heap.size,0,none⟩=some (.int .i64 x.1)∧W'.cell? ⟨w.heap.size,1,none⟩=some (.int .i64 x.2)) (go_keep)
   ((go_at_call 127;refine(cC.out _ hBW.out.1).mono ?_;rintro e w2 ⟨rfl,hb2⟩;have hb3:=Lib.hid hb2;have q0':=(hb2.cell (World.block_lt_of_cell? _ _ q0)).trans q0;have q1':=(hb2.cell (World.block_lt_of_cell? _ _ q1)).trans q1;have q2':=(hb2.cell (World.block_lt_of_cell? _ _ q2)).trans q2;clear hb2))
  have hB2:=Lib.hid (hBW.out.1.trans (hb3.out.mono (by rw[hBW.out.2];omega)))
  clear q0 q1 q2 cC hlk
  have hi0:(0:Int)≤i:=by omega
  go_wp2_with fail
  obtain⟨b,off,c,rfl,hbw⟩:∃b off c,v=.slice (some ⟨b,off,none⟩) l.length c∧b<w.heap.size:=by
   rcases HPL.out.form with⟨_,e⟩|⟨b,off,c,e,_,_,hb⟩
   ·rw[e]at hx;simp at hx
   ·exact⟨b,off,c,e,hb⟩
  obtain⟨W2,hW2⟩:∃W2,W2=w2.drew:=⟨_,rfl⟩
  have hB3:Hid (Below w.heap.size w W2):=by rw[hW2];exact hB2.out.drew
  have r0:W2.cell? ⟨p,0,none⟩=some (.map (some m)):=by rw[hW2];go_simp
  have hd2:w2.drew=W2:=hW2.symm
  have hlk2:=HL.out W2 hB3.out
  clear hW2 q0' q1' q2'
  have hown:=H.out.own f b (by rw[←HV.out];rfl)
  obtain⟨n',hn'⟩:∃n',n'=(l.erase x).length:=⟨_,rfl⟩
  have HN:=Lib.hid hn'
  have hdel:Hid (Calls Tryz.prog 187 #[.slice (some ⟨b,off,none⟩) l.length c,.int .i64 i,.int .i64 (i+1)] W2 fun e w3=>∃a c' w4,e=.returned (.slice a n' c')∧w3.cell? ⟨p,0,none⟩=some (.map (some m))∧
    (Instr.mapUpdate 212 (.map (some m)) (.int .i64 f) (.slice a n' c')).run Tryz.prog w3=.ok () w4∧w4.cell? ⟨p,0,none⟩=some (.map (some m))∧
    ∃S' V',jv V' f=.slice a n' c'∧ut K w4 p m S' V' (updF L f (l.erase x))∧Touch S w w4∧∀b∈S',b∈S∨w.heap.size≤b):=by
   have hb2:=H.out.below hB3.out
   have hpw2:=hb2.ps
   refine(Jv W2 b off c i l (HPL.out.below hB3.out) hi).mono ?_
   rintro e w3 ⟨v',rfl,hp3,t3,ho3⟩
   rw[HI.out,zfr]at hp3
   obtain⟨a',c',ev,_,_⟩:=SlAt.form hp3
   rw[←hn']at ev
   have hm3:MapAt w3 m xw idV V:=hb2.map.keep (t3.block m hpw2.2.1 (by simp;exact fun e=>hown.2.2 e.symm))
   obtain⟨w4,hr4,M4,g4,z4⟩:=Yr (T:=212) Uw Tryz.underlying212 hm3 f v'
   rw[show idV v'=v' from rfl,ev]at hr4
   have ho':v'.ownBlock=some b:=ho3
   have hlt3:b<w3.heap.size:=Nat.lt_of_lt_of_le (Nat.lt_of_lt_of_le hbw hB3.out.size) t3.size
   obtain⟨S',h1,h2,h3⟩:=H.out.set (f:=f) (v':=v') (l':=l.erase x) (Xh V f v') (Zq V f v' H.out.nd).1 (zfh H.out.keys H.out.nd f v' hK) M4
    (hp3.keep fun b' hb'=>by
     rw[ho']at hb'
     cases hb'
     exact g4.block b hlt3 (by simp;exact hown.2.2))
    (fun b' hb'=>.inl (by rw[ho']at hb';rw[←HV.out];exact hb'))
    (fun j hj hjm hjv=>by
     rw[g4.block j (Nat.lt_of_lt_of_le (Nat.lt_of_lt_of_le hj hB3.out.size) t3.size) (by simp;exact hjm),t3.block j (Nat.lt_of_lt_of_le hj hB3.out.size) (by
      simp only[List.mem_singleton]
      exact fun e=>hjv (by rw[←HV.out,e];rfl)),hB3.out.block j hj])
    (g4.os.trans (t3.os.trans hB3.out.os)) (g4.tape.trans (t3.tape.trans hB3.out.tape)) (g4.output.trans (t3.output.trans hB3.out.output))
    (by have:=g4.size;have:=t3.size;have:=hB3.out.size;omega)
   exact⟨a',c',w4,by rw[ev],t3.cell r0 (by simp;exact fun e=>hown.2.1 e.symm),hr4,h1.c0,S',_,by rw[Xh,if_pos rfl,ev],h1,h2,h3⟩
  clear hn'
  have hw:IntKind.i64.wrap ((i:Int)+1)=i+1:=by simp[IntKind.wrap,IntKind.bits,IntKind.signed];omega
  go_region_held (fun W'=>W'.cell? ⟨p,0,none⟩=some (.map (some m))) (go_keep)
   ((go_at_call 187;refine hdel.out.mono ?_;rintro e w3 ⟨a',c',w4,rfl,r3,hr4,r4,HX⟩;have hX:=Lib.hid HX;clear HX))
  clear hr4 r3 r0 hlk2 hd2 hd
  obtain⟨S',V',hs',hB',hT',hN'⟩:=hX.out
  have HB':=Lib.hid hB'
  have HT':=Lib.hid hT'
  have HN':=Lib.hid hN'
  clear hX hdel
  have hlk4:(Instr.lookup 212 (.map (some m)) (.int .i64 f) false).run Tryz.prog w4=.ok (.slice a' n' c') w4:=by rw[←hs'];exact hB'.look f
  clear hs' hB' hT' hN'
  by_cases hz:n'=0
  ·have hz':(n':Int)=0:=by omega
   have he:Hid (l.erase x=[]):=List.eq_nil_of_length_eq_zero (by rw[←HN.out];exact hz)
   obtain⟨w5,hr5,M5,g5,z5⟩:=zg0 (T:=212) Uw Tryz.underlying212 HB'.out.map f 0 3
   rw[show xw f=.int .i64 f from rfl]at hr5
   have fin:Hid (∃S'',ut K w5 p m S'' (delL V' f) (updF L f (l.erase x))∧Touch S w w5∧∀b∈S'',b∈S∨w.heap.size≤b):=by
    obtain⟨S'',h1,h2,h3⟩:=HB'.out.set (f:=f) (v':=.slice none 0 0) (l':=[]) (zht HB'.out.nd f) (nd_del HB'.out.nd f) (zk0 HB'.out.keys f) M5 (PlAt.nil _) (fun b hb=>by simp[Value.ownBlock]at hb)
     (fun j hj hjm _=>g5.block j hj (by simp;exact hjm)) g5.os g5.tape g5.output (by omega)
    rw[zab,←he.out]at h1
    refine⟨S'',h1,HT'.out.next h2 HN'.out,fun b hb=>?_⟩
    rcases h3 b hb with e|e
    ·exact HN'.out b e
    ·have:=HT'.out.size;omega
   clear M5 g5 z5
   go_wp2_with fail
   go_ret
   obtain⟨S'',h1,h2,h3⟩:=fin.out
   exact⟨by simp[hx],S'',_,h1,h2,h3⟩
  ·have hz':¬(n':Int)=0:=by omega
   go_wp2_with fail
   go_ret
   exact⟨by simp[hx],S',V',HB'.out,HT'.out,HN'.out⟩
 ·have hpos:posP l x=-1:=by unfold posP;rw[if_neg hx]
  rw[hpos]at cC
  go_region_held (fun W'=>W'.cell? ⟨p,0,none⟩=some (.map (some m))∧W'.cell? ⟨w.heap.size,0,none⟩=some (.int .i64 x.1)∧W'.cell? ⟨w.heap.size,1,none⟩=some (.int .i64 x.2)) (go_keep)
   ((go_at_call 127;refine(cC.out _ hBW.out.1).mono ?_;rintro e w2 ⟨rfl,hb2⟩;have hb3:=Lib.hid hb2;have q0':=(hb2.cell (World.block_lt_of_cell? _ _ q0)).trans q0;have q1':=(hb2.cell (World.block_lt_of_cell? _ _ q1)).trans q1;have q2':=(hb2.cell (World.block_lt_of_cell? _ _ q2)).trans q2;clear hb2))
  have hB2:=Lib.hid (hBW.out.1.trans (hb3.out.mono (by rw[hBW.out.2];omega)))
  go_wp2_with fail
  go_ret
  have e:updF L f (l.erase x)=L:=by
   rw[List.erase_of_not_mem hx]
   funext g
   unfold updF
   split
   ·rename_i e;rw[e];exact HLL.out
   ·rfl
  rw[e]
  exact⟨by simp[hx],S,V,H.out.below hB2.out,Touch.of_below hB2.out,fun b hb=>.inl hb⟩
end
theorem za5{α:Type}[Inhabited α](enc:α→Value)(off:Nat)(d:Array α)(c:Array Value):(Sort.putCells enc off d c).size=c.size:=by simp[Sort.putCells]
theorem zi9(l:List (Int×Int)):Sort.flatK encP 2 l.toArray=(pl l).toArray:=by
 refine Sort.ext_get! (by rw[Sort.size_flatK];simp[um]) fun t ht=>?_
 have ht':t<l.length*2:=by simpa using ht
 rw[Sort.get_flatK _ _ _ t (by simpa using ht')]
 have hq:t/2<l.length:=by omega
 obtain⟨h1,h2⟩:=znc l (t/2) hq
 have e0:(l.toArray)[t/2]! = l[t/2]:=by rw[getElem!_pos _ _ (by simpa using hq)];simp
 rw[e0,getElem!_pos (pl l).toArray t (by simp[um];omega)]
 rcases Nat.mod_two_eq_zero_or_one t with h|h
 ·have et:t=t/2*2:=by omega
  have h1':(pl l)[t]?=some (.int .i64 l[t/2].1):=by rw[←h1,←et]
  rw[h]
  simp only[List.getElem_toArray]
  rw[(List.getElem?_eq_some_iff.1 h1').2]
  rfl
 ·have et:t=t/2*2+1:=by omega
  have h2':(pl l)[t]?=some (.int .i64 l[t/2].2):=by rw[←h2,←et]
  rw[h]
  simp only[List.getElem_toArray]
  rw[(List.getElem?_eq_some_iff.1 h2').2]
  rfl
theorem zf8{w:World}{b off c:Nat}{l l':List (Int×Int)}(h:PlAt w (.slice (some ⟨b,off,none⟩) l.length c) l)(hl:l'.length=l.length)(n:Nat)(os:Array Obj):
  PlAt (sortWorldK encP 2 w b off n l'.toArray os) (.slice (some ⟨b,off,none⟩) l.length c) l'∧Touch [b] w (sortWorldK encP 2 w b off n l'.toArray os):=by
 obtain⟨arr,hg,hnc,hm,hfit,hx⟩:∃arr,w.heap[b]?=some (.cells arr 58 (0,0))∧l.length≤c∧c≤maxLen∧off+c*2≤arr.size∧∀j u,(pl l)[j]?=some u→arr[off+j]?=some u:=by
  rcases h.2 with⟨e,_⟩|⟨b',off',c',arr,e,rest⟩
  ·cases e
  ·cases e;exact⟨arr,rest⟩
 have hb:b<w.heap.size:=(Array.getElem?_eq_some_iff.1 hg).1
 obtain⟨F,hF⟩:∃F,F=(pl l').toArray:=⟨_,rfl⟩
 have hFs:F.size=l.length*2:=by rw[hF];simp[um,hl]
 have hheap:(sortWorldK encP 2 w b off n l'.toArray os).heap=w.heap.modify b (Sort.onCells (Sort.putCells id off F))++os:=by
  unfold sortWorldK Sort.putRowK
  rw[zi9,←hF]
  rfl
 have hbk:(sortWorldK encP 2 w b off n l'.toArray os).heap[b]?=some (.cells (Sort.putCells id off F arr) 58 (0,0)):=by
  rw[hheap,Array.getElem?_append_left (by simpa using hb),Array.getElem?_modify,if_pos rfl,hg]
  rfl
 constructor
 ·show SlAt _ _ _ _ _ _
  rw[hl]
  refine⟨by rw[um,hl],.inr ⟨b,off,c,_,rfl,hbk,hnc,hm,by rw[za5];exact hfit,fun j u hu=>?_⟩⟩
  have hj:=(List.getElem?_eq_some_iff.1 hu).1
  rw[um,hl]at hj
  have hja:off+j<arr.size:=by have:=Nat.mul_le_mul_right 2 hnc;omega
  simp only[Sort.putCells,Array.getElem?_mapIdx,Array.getElem?_eq_getElem hja,Option.map_some]
  rw[if_pos ⟨by omega,by rw[hFs];omega⟩,show off+j-off=j by omega,getElem!_pos F j (by rw[hFs];exact hj)]
  have:F[j]?=some u:=by rw[hF];simpa using hu
  rw[Array.getElem?_eq_getElem (by rw[hFs];exact hj)]at this
  simpa using this
 ·refine⟨rfl,rfl,rfl,by rw[hheap];simp,fun k hk hne=>?_⟩
  rw[hheap,Array.getElem?_append_left (by simpa using hk),Array.getElem?_modify,if_neg (fun e=>hne (by simp[e]))]
end Go.Proofs.YtnhdmnijiphjjaaGreat
namespace Go.Proofs
open Go.Shelf
def YtnhdmnijiphjjaaGreat.zct:Go.Shelf.Ren:=⟨fun|6=>72|15=>129|14=>128|28=>179|29=>180|20=>171|21=>172|22=>173|23=>174|24=>175|25=>176|26=>177|27=>178|46=>215|47=>216|48=>217|49=>218|50=>219|57=>237|n=>n,fun|22=>120|24=>58|25=>125|3=>3|39=>195|0=>0|53=>254|55=>145|4=>4|46=>248|45=>247|50=>126|5=>5|9=>9|66=>281|70=>285|76=>299|77=>167|n=>n,fun|n=>n⟩
theorem YtnhdmnijiphjjaaGreat.zkz:Go.Proofs.SlLaysF0.n6 Tryz.prog YtnhdmnijiphjjaaGreat.zct:={
 mixed:=by kernel_rfl
 f6:=⟨Tryz.f72.name,by decide,Tryz.func72.trans (congrArg some (by kernel_rfl))⟩
 f14:=⟨Tryz.f128.name,by decide,Tryz.func128.trans (congrArg some (by kernel_rfl))⟩
 f15:=Tryz.func129.trans (congrArg some (by kernel_rfl))
 f20:=⟨Tryz.f171.name,by decide,Tryz.func171.trans (congrArg some (by kernel_rfl))⟩
 f21:=⟨Tryz.f172.name,by decide,Tryz.func172.trans (congrArg some (by kernel_rfl))⟩
 f22:=⟨Tryz.f173.name,by decide,Tryz.func173.trans (congrArg some (by kernel_rfl))⟩
 f23:=⟨Tryz.f174.name,by decide,Tryz.func174.trans (congrArg some (by kernel_rfl))⟩
 f24:=⟨Tryz.f175.name,by decide,Tryz.func175.trans (congrArg some (by kernel_rfl))⟩
 f25:=⟨Tryz.f176.name,by decide,Tryz.func176.trans (congrArg some (by kernel_rfl))⟩
 f26:=⟨Tryz.f177.name,by decide,Tryz.func177.trans (congrArg some (by kernel_rfl))⟩
 f27:=⟨Tryz.f178.name,by decide,Tryz.func178.trans (congrArg some (by kernel_rfl))⟩
 f28:=Tryz.func179.trans (congrArg some (by kernel_rfl))
 f29:=Tryz.func180.trans (congrArg some (by kernel_rfl))
 f46:=⟨Tryz.f215.name,by decide,Tryz.func215.trans (congrArg some (by kernel_rfl))⟩
 f47:=Tryz.func216.trans (congrArg some (by kernel_rfl))
 f48:=Tryz.func217.trans (congrArg some (by kernel_rfl))
 f49:=⟨Tryz.f218.name,by decide,Tryz.func218.trans (congrArg some (by kernel_rfl))⟩
 f50:=⟨Tryz.f219.name,by decide,Tryz.func219.trans (congrArg some (by kernel_rfl))⟩
 f57:=⟨Tryz.f237.name,by decide,Tryz.func237.trans (congrArg some (by kernel_rfl))⟩
 t0:=Tryz.underlying0
 a0:=Tryz.isAgg0
 z0:=Tryz.sizeOf0
 v0:=Tryz.zeroValue0
 t3:=Tryz.underlying3
 a3:=Tryz.isAgg3
 z3:=Tryz.sizeOf3
 v3:=Tryz.zeroValue3
 t4:=Tryz.underlying4
 a4:=Tryz.isAgg4
 z4:=Tryz.sizeOf4
 v4:=Tryz.zeroValue4
 t5:=Tryz.underlying5
 a5:=Tryz.isAgg5
 z5:=Tryz.sizeOf5
 v5:=Tryz.zeroValue5
 t9:=Tryz.underlying9
 a9:=Tryz.isAgg9
 z9:=Tryz.sizeOf9
 v9:=Tryz.zeroValue9
 t22:=Tryz.underlying120
 a22:=Tryz.isAgg120
 z22:=Tryz.sizeOf120
 v22:=Tryz.zeroValue120
 t25:=Tryz.underlying125
 a25:=Tryz.isAgg125
 z25:=Tryz.sizeOf125
 v25:=Tryz.zeroValue125
 t39:=Tryz.underlying195
 a39:=Tryz.isAgg195
 z39:=Tryz.sizeOf195
 v39:=Tryz.zeroValue195
 t45:=Tryz.underlying247
 a45:=Tryz.isAgg247
 z45:=Tryz.sizeOf247
 v45:=Tryz.zeroValue247
 t46:=Tryz.underlying248
 a46:=Tryz.isAgg248
 z46:=Tryz.sizeOf248
 v46:=Tryz.zeroValue248
 t50:=Tryz.underlying126
 a50:=Tryz.isAgg126
 z50:=Tryz.sizeOf126
 v50:=Tryz.zeroValue126
 t53:=Tryz.underlying254
 a53:=Tryz.isAgg254
 z53:=Tryz.sizeOf254
 v53:=Tryz.zeroValue254
 t55:=Tryz.underlying145
 a55:=Tryz.isAgg145
 z55:=Tryz.sizeOf145
 v55:=Tryz.zeroValue145
 t66:=Tryz.underlying281
 a66:=Tryz.isAgg281
 z66:=Tryz.sizeOf281
 v66:=Tryz.zeroValue281
 t70:=Tryz.underlying285
 a70:=Tryz.isAgg285
 z70:=Tryz.sizeOf285
 v70:=Tryz.zeroValue285
 t76:=Tryz.underlying299
 a76:=Tryz.isAgg299
 z76:=Tryz.sizeOf299
 v76:=Tryz.zeroValue299
 t77:=Tryz.underlying167
 a77:=Tryz.isAgg167
 z77:=Tryz.sizeOf167
 v77:=Tryz.zeroValue167}
def YtnhdmnijiphjjaaGreat.Je:Go.Shelf.Ren:=⟨fun|6=>196|15=>129|14=>225|28=>179|29=>180|20=>240|21=>241|22=>242|23=>243|24=>244|25=>245|26=>246|27=>247|46=>254|47=>216|48=>217|49=>255|50=>256|57=>266|n=>n,fun|22=>170|24=>133|25=>233|3=>3|39=>195|0=>0|53=>254|55=>145|4=>4|46=>248|45=>247|50=>126|5=>5|9=>9|66=>281|70=>285|76=>299|77=>167|n=>n,fun|n=>n⟩
theorem YtnhdmnijiphjjaaGreat.laysSortKey:Go.Proofs.SlLaysF0.n6 Tryz.prog YtnhdmnijiphjjaaGreat.Je:={
 mixed:=by kernel_rfl
 f6:=⟨Tryz.f196.name,by decide,Tryz.func196.trans (congrArg some (by kernel_rfl))⟩
 f14:=⟨Tryz.f225.name,by decide,Tryz.func225.trans (congrArg some (by kernel_rfl))⟩
 f15:=Tryz.func129.trans (congrArg some (by kernel_rfl))
 f20:=⟨Tryz.f240.name,by decide,Tryz.func240.trans (congrArg some (by kernel_rfl))⟩
 f21:=⟨Tryz.f241.name,by decide,Tryz.func241.trans (congrArg some (by kernel_rfl))⟩
 f22:=⟨Tryz.f242.name,by decide,Tryz.func242.trans (congrArg some (by kernel_rfl))⟩
 f23:=⟨Tryz.f243.name,by decide,Tryz.func243.trans (congrArg some (by kernel_rfl))⟩
 f24:=⟨Tryz.f244.name,by decide,Tryz.func244.trans (congrArg some (by kernel_rfl))⟩
 f25:=⟨Tryz.f245.name,by decide,Tryz.func245.trans (congrArg some (by kernel_rfl))⟩
 f26:=⟨Tryz.f246.name,by decide,Tryz.func246.trans (congrArg some (by kernel_rfl))⟩
 f27:=⟨Tryz.f247.name,by decide,Tryz.func247.trans (congrArg some (by kernel_rfl))⟩
 f28:=Tryz.func179.trans (congrArg some (by kernel_rfl))
 f29:=Tryz.func180.trans (congrArg some (by kernel_rfl))
 f46:=⟨Tryz.f254.name,by decide,Tryz.func254.trans (congrArg some (by kernel_rfl))⟩
 f47:=Tryz.func216.trans (congrArg some (by kernel_rfl))
 f48:=Tryz.func217.trans (congrArg some (by kernel_rfl))
 f49:=⟨Tryz.f255.name,by decide,Tryz.func255.trans (congrArg some (by kernel_rfl))⟩
 f50:=⟨Tryz.f256.name,by decide,Tryz.func256.trans (congrArg some (by kernel_rfl))⟩
 f57:=⟨Tryz.f266.name,by decide,Tryz.func266.trans (congrArg some (by kernel_rfl))⟩
 t0:=Tryz.underlying0
 a0:=Tryz.isAgg0
 z0:=Tryz.sizeOf0
 v0:=Tryz.zeroValue0
 t3:=Tryz.underlying3
 a3:=Tryz.isAgg3
 z3:=Tryz.sizeOf3
 v3:=Tryz.zeroValue3
 t4:=Tryz.underlying4
 a4:=Tryz.isAgg4
 z4:=Tryz.sizeOf4
 v4:=Tryz.zeroValue4
 t5:=Tryz.underlying5
 a5:=Tryz.isAgg5
 z5:=Tryz.sizeOf5
 v5:=Tryz.zeroValue5
 t9:=Tryz.underlying9
 a9:=Tryz.isAgg9
 z9:=Tryz.sizeOf9
 v9:=Tryz.zeroValue9
 t22:=Tryz.underlying170
 a22:=Tryz.isAgg170
 z22:=Tryz.sizeOf170
 v22:=Tryz.zeroValue170
 t25:=Tryz.underlying233
 a25:=Tryz.isAgg233
 z25:=Tryz.sizeOf233
 v25:=Tryz.zeroValue233
 t39:=Tryz.underlying195
 a39:=Tryz.isAgg195
 z39:=Tryz.sizeOf195
 v39:=Tryz.zeroValue195
 t45:=Tryz.underlying247
 a45:=Tryz.isAgg247
 z45:=Tryz.sizeOf247
 v45:=Tryz.zeroValue247
 t46:=Tryz.underlying248
 a46:=Tryz.isAgg248
 z46:=Tryz.sizeOf248
 v46:=Tryz.zeroValue248
 t50:=Tryz.underlying126
 a50:=Tryz.isAgg126
 z50:=Tryz.sizeOf126
 v50:=Tryz.zeroValue126
 t53:=Tryz.underlying254
 a53:=Tryz.isAgg254
 z53:=Tryz.sizeOf254
 v53:=Tryz.zeroValue254
 t55:=Tryz.underlying145
 a55:=Tryz.isAgg145
 z55:=Tryz.sizeOf145
 v55:=Tryz.zeroValue145
 t66:=Tryz.underlying281
 a66:=Tryz.isAgg281
 z66:=Tryz.sizeOf281
 v66:=Tryz.zeroValue281
 t70:=Tryz.underlying285
 a70:=Tryz.isAgg285
 z70:=Tryz.sizeOf285
 v70:=Tryz.zeroValue285
 t76:=Tryz.underlying299
 a76:=Tryz.isAgg299
 z76:=Tryz.sizeOf299
 v76:=Tryz.zeroValue299
 t77:=Tryz.underlying167
 a77:=Tryz.isAgg167
 z77:=Tryz.sizeOf167
 v77:=Tryz.zeroValue167}
end Go.Proofs
