/- Trees of tables in memory: digits, may, empty: what each answers. -/
import Derived.Test.YtnhdmnijiphjjaaGreatJMp2
import Derived.Deep.MidRow
import Derived.Stop.BytesEq
import Derived.BigFrame
import Derived.Shelf.SlGeneric
import Derived.Ground.SlgfProg
import Derived.Shelf.SlLaysH
import Derived.Test.YtnhdmnijiphjjaaGreatProg
import Derived.Shelf.SlicesE.DeleteFunc
import Derived.Deep.RegionHeld
set_option linter.unusedVariables false
set_option linter.unusedSimpArgs false
set_option maxRecDepth 100000
set_option maxHeartbeats 2000000
namespace Go.Proofs.YtnhdmnijiphjjaaGreat
open Go Go.RowKit
def digV(page:Nat):Value:=.agg #[.int .i64 (digit page 0),.int .i64 (digit page 1),.int .i64 (digit page 2),.int .i64 (digit page 3)]
def Jg(page j i:Nat):Value:=.int .i64 (if 3<i+j then(digit page i:Nat)else 0:Nat)
def DigRel(w:World)(page:Nat)(s0 s4:Value)(W:World):Prop:=
 ∃j p:Nat,j≤4∧p=page/8 ^ j∧s4=.int .i64 (3-(j:Int))∧s0=.int .i64 p∧Hid (Row W (w.heap.size+1) 4 (Jg page j)∧Row W w.heap.size 4 (fun _=>.int .i64 0)∧Below w.heap.size w W)
theorem Qm(page j:Nat)(hj:j<4)(i:Nat)(hi:i<4):(if i=3-j then(.int .i64 (((page/8 ^ j:Nat):Int)%8):Value)else Jg page j i)=Jg page (j+1) i:=by
 unfold Jg
 by_cases e:i=3-j
 ·have h1:3<i+(j+1):=by omega
  simp only[if_pos e,if_pos h1]
  unfold digit
  rw[e,show 3-(3-j)=j by omega]
  rfl
 ·simp only[if_neg e]
  by_cases e2:3<i+j
  ·have h1:3<i+(j+1):=by omega
   simp only[if_pos e2,if_pos h1]
  ·have h1:¬3<i+(j+1):=by omega
   simp only[if_neg e2,if_neg h1]
theorem Zp(w:World)(pi:Int)(page:Nat)(ep:pi=page)(hp:page<4096):
  Calls Tryz.prog 94 #[.int .i64 pi] w fun e w'=>e=.returned (digV page)∧Below w.heap.size w w':=by
 subst ep
 have i0:(0:Int)≤page:=by omega
 go_enter Tryz.func94,Tryz.ntmps94
 go_wp2_with fail
 go_loopw [0,4] (DigRel w page) (fun _ k _=>(intOf k+1).toNat)
 case atStart=>
  refine⟨0,page,by omega,by simp,rfl,rfl,?_,?_,?_⟩
  ·have:=Row.new (w.alloc (.cells #[.int .i64 0,.int .i64 0,.int .i64 0,.int .i64 0] 148)) 4 (Jg page 0) #[.int .i64 0,.int .i64 0,.int .i64 0,.int .i64 0] 148 rfl (fun i hi=>by
    have:i=0∨i=1∨i=2∨i=3:=by omega
    rcases this with rfl|rfl|rfl|rfl<;>rfl)
   rw[World.size_alloc]at this
   exact this
  ·exact(Row.new w 4 (fun _=>.int .i64 0) #[.int .i64 0,.int .i64 0,.int .i64 0,.int .i64 0] 148 rfl (fun i hi=>by
    have:i=0∨i=1∨i=2∨i=3:=by omega
    rcases this with rfl|rfl|rfl|rfl<;>rfl)).alloc _
  ·exact((Below.refl _ _).alloc (Nat.le_refl _) _).alloc (by simp) _
 case round=>
  obtain⟨j,p,hj,hpj,rfl,rfl,hH⟩:=hrel
  have hpp:p≤page:=by rw[hpj];exact Nat.div_le_self _ _
  have j1:(0:Int)≤p:=by omega
  have j2:(p:Int)<4096:=by omega
  have HP:=Lib.hid hpj
  clear hpj
  have hj':j=0∨j=1∨j=2∨j=3∨j=4:=by omega
  rcases hj' with rfl|rfl|rfl|rfl|rfl
  ·have hc:=hH.out.1.cell (i:=3) (by omega)
   have hf:=hH.out.1.frozen 3
   go_wp2_with fail
   go_roundw
   case rel=>exact⟨1,p/8,by omega,by rw[HP.out,Nat.div_div_eq_div_mul],rfl,by go_num,(hH.out.1.set (i:=3) (by omega) _).congr (fun i hi=>by rw[HP.out];exact Qm page 0 (by omega) i hi),hH.out.2.1.other (by simp) _,hH.out.2.2.setCell (by simp) _⟩
   case measure=>simp[intOf]
  ·have hc:=hH.out.1.cell (i:=2) (by omega)
   have hf:=hH.out.1.frozen 2
   go_wp2_with fail
   go_roundw
   case rel=>exact⟨2,p/8,by omega,by rw[HP.out,Nat.div_div_eq_div_mul],rfl,by go_num,(hH.out.1.set (i:=2) (by omega) _).congr (fun i hi=>by rw[HP.out];exact Qm page 1 (by omega) i hi),hH.out.2.1.other (by simp) _,hH.out.2.2.setCell (by simp) _⟩
   case measure=>simp[intOf]
  ·have hc:=hH.out.1.cell (i:=1) (by omega)
   have hf:=hH.out.1.frozen 1
   go_wp2_with fail
   go_roundw
   case rel=>exact⟨3,p/8,by omega,by rw[HP.out,Nat.div_div_eq_div_mul],rfl,by go_num,(hH.out.1.set (i:=1) (by omega) _).congr (fun i hi=>by rw[HP.out];exact Qm page 2 (by omega) i hi),hH.out.2.1.other (by simp) _,hH.out.2.2.setCell (by simp) _⟩
   case measure=>simp[intOf]
  ·have hc:=hH.out.1.cell (i:=0) (by omega)
   have hf:=hH.out.1.frozen 0
   go_wp2_with fail
   go_roundw
   case rel=>exact⟨4,p/8,by omega,by rw[HP.out,Nat.div_div_eq_div_mul],rfl,by go_num,(hH.out.1.set (i:=0) (by omega) _).congr (fun i hi=>by rw[HP.out];exact Qm page 3 (by omega) i hi),hH.out.2.1.other (by simp) _,hH.out.2.2.setCell (by simp) _⟩
   case measure=>simp[intOf]
  ·have c0:wr.cell? ⟨w.heap.size+1,0,none⟩=some (.int .i64 (digit page 0)):=hH.out.1.cell (i:=0) (by omega)
   have c1:wr.cell? ⟨w.heap.size+1,1,none⟩=some (.int .i64 (digit page 1)):=hH.out.1.cell (i:=1) (by omega)
   have c2:wr.cell? ⟨w.heap.size+1,2,none⟩=some (.int .i64 (digit page 2)):=hH.out.1.cell (i:=2) (by omega)
   have c3:wr.cell? ⟨w.heap.size+1,3,none⟩=some (.int .i64 (digit page 3)):=hH.out.1.cell (i:=3) (by omega)
   have d0:=hH.out.2.1.cell (i:=0) (by omega)
   have d1:=hH.out.2.1.cell (i:=1) (by omega)
   have d2:=hH.out.2.1.cell (i:=2) (by omega)
   have d3:=hH.out.2.1.cell (i:=3) (by omega)
   have f0:=hH.out.2.1.frozen 0
   have f1:=hH.out.2.1.frozen 1
   have f2:=hH.out.2.1.frozen 2
   have f3:=hH.out.2.1.frozen 3
   go_wp2_with fail
   have hB:=hH.out.2.2
   clear hH HP
   exact bodyPost_ret (v:=digV page) (by simp[results,Tryz.results94,go_sem,d0,d1,d2,d3,f0,f1,f2,f3,digV]) rfl ⟨rfl,(((hB.setCell (Nat.le_refl _) _).setCell (Nat.le_refl _) _).setCell (Nat.le_refl _) _).setCell (Nat.le_refl _) _⟩
theorem Yw.own{w:World}{O:Nat→Prop}{t rp pp:Nat}{T:Z7}(h:Yw w O t rp pp T):∃a c,w.cell? ⟨t,3,none⟩=some (.slice a T.own.length c):=by
 obtain⟨sv,_,h2,h3,_⟩:=h
 obtain⟨a,c,rfl,_,_⟩:=SlAt.form h3
 exact⟨a,c,h2.cell (by omega)⟩
theorem zod:(Tryz.prog.info? 91).map (·.size)=some 64:=by kernel_rfl
theorem zni:#[Value.int .u8 0,Value.int .u8 0,Value.int .u8 0,Value.int .u8 0,Value.int .u8 0,Value.int .u8 0,Value.int .u8 0,Value.int .u8 0,Value.int .u8 0,Value.int .u8 0,Value.int .u8 0,Value.int .u8 0,Value.int .u8 0,Value.int .u8 0,Value.int .u8 0,Value.int .u8 0,Value.int .u8 0,Value.int .u8 0,Value.int .u8 0,Value.int .u8 0,Value.int .u8 0,Value.int .u8 0,Value.int .u8 0,Value.int .u8 0,Value.int .u8 0,Value.int .u8 0,Value.int .u8 0,Value.int .u8 0,Value.int .u8 0,Value.int .u8 0,Value.int .u8 0,Value.int .u8 0,Value.int .u8 0,Value.int .u8 0,Value.int .u8 0,Value.int .u8 0,Value.int .u8 0,Value.int .u8 0,Value.int .u8 0,Value.int .u8 0,Value.int .u8 0,Value.int .u8 0,Value.int .u8 0,Value.int .u8 0,Value.int .u8 0,Value.int .u8 0,Value.int .u8 0,Value.int .u8 0,Value.int .u8 0,Value.int .u8 0,Value.int .u8 0,Value.int .u8 0,Value.int .u8 0,Value.int .u8 0,Value.int .u8 0,Value.int .u8 0,Value.int .u8 0,Value.int .u8 0,Value.int .u8 0,Value.int .u8 0,Value.int .u8 0,Value.int .u8 0,Value.int .u8 0,Value.int .u8 0]=((List.replicate 64 (0:UInt8)).map bV).toArray:=rfl
section
variable (w:World)(tag:Nat→Nat)(q:Rq)(x:RPT)
theorem zic(h:xh w tag q x)(pi:Int)(h0:0≤pi)(h1:pi<4096)(hn:x.T.own≠[]):
  Calls Tryz.prog 91 #[.pointer (some ⟨q.t,0,none⟩),.int .i64 pi] w fun e w'=>e=.returned (.int .i64 0)∧w'=w:=by
 obtain⟨a,c,hc⟩:=h.tree.own
 have hl:0<x.T.own.length:=List.length_pos_iff.2 hn
 generalize x.T.own.length=n at hc hl
 have i1:((n:Int)==0)=false:=beq_eq_false_iff_ne.2 (by omega)
 clear h hn
 go_enter Tryz.func91,Tryz.ntmps91
 go_wp2_with fail
 go_ret
 exact⟨rfl,rfl⟩
theorem zgh(h:xh w tag q x)(fi:Int)(f:Nat)(ef:fi=f)(hf:f<1024)(hb:x.R.bad f=false):
  Calls Tryz.prog 221 #[.pointer (some ⟨q.t,0,none⟩),.int .i64 fi] w fun e w'=>e=.returned (.bool (Xr x.R f))∧Below w.heap.size w w':=by
 subst ef
 have hp:=h.ptr0
 have A:=Lib.hid (Jk w _ _ _ _ h.ram f 0 64 f 0 64 rfl rfl rfl hf (by omega) (by omega) hb)
 clear h
 go_enter Tryz.func221,Tryz.ntmps221
 go_wp2_with fail
 refine A.out.mono ?_
 rintro e w1 ⟨v,rfl,h1,h2,-⟩
 obtain⟨a,c,b0,off,rfl,ha,hx⟩:=h1.reads
 have hl:(x.R.read f 0 64).length=64:=by simp[RamS.read]
 have ha:=ha (by omega)
 subst ha
 rw[hl]
 have hr:w1.rangeAt b0 off ((x.R.read f 0 64).map bV):=fun j v hv=>hx j v hv
 have hI:(Tryz.prog.info? 91).map (·.size)=some ((x.R.read f 0 64).map bV).length:=by rw[List.length_map,hl];exact zod
 have harr:(Instr.arrayAt 91 (.slice (some ⟨b0,off,none⟩) 64 c)).run Tryz.prog w1=.ok (.pointer (some ⟨b0,off,none⟩)) w1:=by
  simp[Instr.arrayAt,run_underlying Tryz.underlying91]
 have heq:(Op.equalIn 10000 91 (.agg ((x.R.read f 0 64).map bV).toArray) (.agg #[Value.int .u8 0,Value.int .u8 0,Value.int .u8 0,Value.int .u8 0,Value.int .u8 0,Value.int .u8 0,Value.int .u8 0,Value.int .u8 0,Value.int .u8 0,Value.int .u8 0,Value.int .u8 0,Value.int .u8 0,Value.int .u8 0,Value.int .u8 0,Value.int .u8 0,Value.int .u8 0,Value.int .u8 0,Value.int .u8 0,Value.int .u8 0,Value.int .u8 0,Value.int .u8 0,Value.int .u8 0,Value.int .u8 0,Value.int .u8 0,Value.int .u8 0,Value.int .u8 0,Value.int .u8 0,Value.int .u8 0,Value.int .u8 0,Value.int .u8 0,Value.int .u8 0,Value.int .u8 0,Value.int .u8 0,Value.int .u8 0,Value.int .u8 0,Value.int .u8 0,Value.int .u8 0,Value.int .u8 0,Value.int .u8 0,Value.int .u8 0,Value.int .u8 0,Value.int .u8 0,Value.int .u8 0,Value.int .u8 0,Value.int .u8 0,Value.int .u8 0,Value.int .u8 0,Value.int .u8 0,Value.int .u8 0,Value.int .u8 0,Value.int .u8 0,Value.int .u8 0,Value.int .u8 0,Value.int .u8 0,Value.int .u8 0,Value.int .u8 0,Value.int .u8 0,Value.int .u8 0,Value.int .u8 0,Value.int .u8 0,Value.int .u8 0,Value.int .u8 0,Value.int .u8 0,Value.int .u8 0])).run Tryz.prog w1=.ok (Xr x.R f) w1:=by
  have hm:Xr x.R f=(x.R.read f 0 64==List.replicate 64 (0:UInt8)):=by
   have h0:ramE 1024 x.R f 0 64=0:=Uf (n:=1024) (R:=x.R) (f:=f) (a:=0) (k:=64) hf (by omega) hb
   unfold Xr
   rw[h0]
   simp only[decide_true,Bool.true_and,Int.toNat_natCast]
   rw[Bool.eq_iff_iff,beq_iff_eq,List.all_eq_true]
   constructor
   ·intro hall
    refine List.eq_replicate_iff.2 ⟨hl,fun b hb=>?_⟩
    simpa using hall b hb
   ·intro e b hb
    rw[e]at hb
    simp[List.eq_of_mem_replicate hb]
  rw[zni,hm]
  exact run_equalIn_bytes w1 9998 91 5 64 Tryz.underlying91 Tryz.underlying5 (fun w=>by obtain⟨i,hi,hs,_⟩:=zfa;simp[sizeOf,typeInfo,hi,hs]) _ _ hl (by simp)
 have H2:=Lib.hid h2
 have HR:=Lib.hid hr
 have HI:=Lib.hid hI
 generalize (x.R.read f 0 64).map bV=L at *
 obtain⟨r,hrr⟩:∃r,Xr x.R f=r:=⟨_,rfl⟩
 rw[hrr]at heq
 have HRR:=Lib.hid hrr
 clear hrr
 clear hx hl hr h1 h2 ha hI
 go_wp2_with (refine BigFrame.wpList_want rfl (fun K hK=>wp_load_mid 91 (.tmp 20) rfl b0 off rfl L _ HR.out Tryz.underlying91 rfl HI.out (hK _ _ ?_)))
 go_ret
 rw[HRR.out]
 exact⟨rfl,H2.out⟩
end
theorem zd3:∃i,Tryz.prog.info? 3=some i∧i.zero=some (.int .i64 0)∧i.size=1∧i.bytes=8:=by
 have h:(Tryz.prog.info? 3).map (fun i=>(i.size,i.bytes))=some (1,8):=by kernel_rfl
 have hz:(Tryz.prog.info? 3).bind (·.zero)=some (.int .i64 0):=by kernel_rfl
 obtain⟨i,hi,hb⟩:=Option.map_eq_some_iff.1 h
 rw[hi]at hz
 simp at hb
 exact⟨i,hi,hz,hb⟩
theorem Yw.znc{w w1:World}{O:Nat→Prop}{t rp pp:Nat}{T:Z7}{sv v':Value}{l:List Nat}(h1:O t)(h2:Row w t 4 (zep rp pp T.root sv))(hB:Turn (fun b=>O b∧b≠t) w w1)
  (hs:SlAt w1 3 1 v' l.length (l.map nV)) (ho:∀b,v'.ownBlock=some b→(O b∧b≠t)∨w.heap.size≤b):
  Yw ((w1.setCell ⟨t,3,none⟩ v')) (grow O w) t rp pp ⟨T.root,l⟩∧Turn O w (w1.setCell ⟨t,3,none⟩ v'):=by
 have ht:=h2.lt
 have e:w1.heap[t]?=w.heap[t]?:=hB.block t ht (fun e=>e.2 rfl)
 have hne:∀b,v'.ownBlock=some b→b≠t:=fun b hb=>(ho b hb).elim (fun e=>e.2) (fun e=>by omega)
 refine⟨⟨v',.inl h1,?_,hs.keep fun b hb=>Below.heap_setCell w1 ⟨t,3,none⟩ v' b (hne b hb),fun b hb=>⟨(ho b hb).elim (fun e=>.inl e.1) .inr,hne b hb⟩⟩,?_⟩
 ·refine((h2.keep e).set (i:=3) (by omega) v').congr fun i hi=>?_
  have:i=0∨i=1∨i=2∨i=3:=by omega
  rcases this with rfl|rfl|rfl|rfl<;>rfl
 ·exact(hB.mono fun k _ hk=>hk.1).set (.inl h1) _
section
variable (w:World)(tag:Nat→Nat)(q:Rq)(x:RPT)
theorem xh.zm3{w w':World}{tag:Nat→Nat}{q:Rq}{x:RPT}(h:xh w tag q x){T':Z7}(ht:Yw w' (grow (fun b=>tag b=q.ct) w) q.t q.rp q.pp T')(t:Turn (fun b=>tag b=q.ct) w w'):
  ∃tag',xh w' tag' q ⟨x.R,x.P,T'⟩∧Step (fun c=>c=q.ct) tag w tag' w':=by
 have s:Step (fun c=>c=q.ct) tag w (retag tag w q.ct) w':=Step.retag t rfl
 refine⟨retag tag w q.ct,⟨h.ram.loc (s.keeps (by have:=h.ct;omega)),h.pool.loc (s.keeps (by have:=h.ct;omega)),ht.loc fun k _ ho=>⟨zf1 ho,rfl⟩,h.ct⟩,s⟩
theorem zfu(h:xh w tag q x)(hn:x.P.next false=none):
  Calls Tryz.prog 118 #[.pointer (some ⟨q.t,0,none⟩)] w fun e w'=>e=.returned (.tuple #[.int .i64 0,.int .i64 4])∧Below w.heap.size w w':=by
 have hp:=h.ptr1
 have A:=Lib.hid (zdh w _ _ _ _ _ h.pool 2 2 rfl (by omega) (by omega))
 rw[hn]at A
 clear h hn
 go_enter Tryz.func118,Tryz.ntmps118
 go_wp2_with fail
 refine A.out.mono ?_
 rintro e w1 ⟨rfl,h1,h2,h3⟩
 have K:Hid (Below w.heap.size w w1):=by first|exact h3|exact h3 rfl|exact h3 trivial
 clear h1 h2 h3
 unfold Yn
 go_wp2_with fail
 exact bodyPost_ret (v:=.tuple #[.int .i64 0,.int .i64 4]) (by simp[results,Tryz.results118,go_sem]) rfl ⟨rfl,K.out⟩
theorem zac(h:xh w tag q x)(g:Nat)(hn:x.P.next false=some g)(hg:g<1024)(hb:x.R.bad g=false)(hlen:x.T.own.length≤2000):
  Calls Tryz.prog 118 #[.pointer (some ⟨q.t,0,none⟩)] w fun e w'=>e=.returned (.tuple #[.int .i64 g,.int .i64 0])∧
   ∃tag',xh w' tag' q ⟨x.R.write g 0 (List.replicate 64 0),x.P.set g 2,⟨x.T.root,x.T.own++[g]⟩⟩∧Step (fun c=>c=1∨c=2∨c=q.ct) tag w tag' w':=by
 have hp:=h.ptr1
 have A:=Lib.hid (zdh w _ _ _ _ _ h.pool 2 2 rfl (by omega) (by omega))
 rw[hn]at A
 have H:=Lib.hid h
 have HI:=Lib.hid zd3
 clear h hn
 go_enter Tryz.func118,Tryz.ntmps118
 go_wp2_with fail
 refine A.out.mono ?_
 rintro e w1 ⟨rfl,h1,h2,-⟩
 have K:=H.out.zna h1 h2
 have hp0:=K.1.ptr0
 have Z:=Lib.hid (zc1 w1 _ _ _ _ K.1.ram g g rfl hg hb)
 have KK:=Lib.hid K
 clear h1 h2 K
 unfold Yn
 go_wp2_with fail
 refine Z.out.mono ?_
 rintro e w2 ⟨rfl,h1,h2,-⟩
 have K2:=KK.out.1.ramTo h1 h2
 have S2:=Lib.hid ((KK.out.2.mono (C':=fun c=>c=1∨c=2∨c=q.ct) (fun c e=>.inr (.inl e))).trans (K2.2.mono (fun c e=>.inl e)))
 obtain⟨sv,o1,o2,o3,o4⟩:=K2.1.tree
 have c3:w2.cell? ⟨q.t,3,none⟩=some sv:=o2.cell (i:=3) (by omega)
 have f3:=o2.frozen 3
 have htl:=o2.lt
 obtain⟨a,c,rfl,_,_⟩:=SlAt.form o3
 have O:=Lib.hid (And.intro o1 (And.intro o2 (And.intro o3 o4)))
 have HK2:=Lib.hid K2.1
 clear h1 h2 K2 o1 o2 o3 o4
 obtain⟨inf,hI⟩:=HI.out
 have HI2:=Lib.hid hI
 clear hI
 have hs0:Hid (SlAt (w2.alloc (.cells #[.int .i64 g] 3)) 3 1 (.slice a x.T.own.length c) x.T.own.length (x.T.own.map nV)):=SlAt.below O.out.2.2.1 ((Below.refl _ _).alloc (Nat.le_refl _) _)
 have C2:Hid (∀j u,[nV g][j]?=some u→(w2.alloc (.cells #[.int .i64 g] 3)).cell? ((⟨w2.heap.size,0,none⟩:Addr).add j)=some u):=fun j u hu=>by
  have:j=0:=by have:=(List.getElem?_eq_some_iff.1 hu).1;simp at this;omega
  subst this
  simp at hu
  subst hu
  rw[add_plain,cell_of_row _ _ _ _ _ _ (heap_alloc_new w2 (.cells #[.int .i64 g] 3))]
  rfl
 generalize hnl:x.T.own.length=n at *
 have HNL:=Lib.hid hnl
 clear hnl
 go_wp2_with (at_builtin;refine x9 _ rfl _ _ 79 rfl 3 inf _ 1 8 Tryz.underlying79 HI2.out.1 HI2.out.2.1 HI2.out.2.2.1 HI2.out.2.2.2 rfl _ _ _ rfl hs0.out ⟨w2.heap.size,0,none⟩ 1 1 [nV g] rfl rfl C2.out ?c3 ?c4 ?c5 ?c6)
 case c3=>intro u hu;simp at hu;subst hu;rfl
 case c4=>unfold maxLen;omega
 case c5=>omega
 intro v' w4 hs hgr ho
 have hT:Turn (fun b=>tag b=q.ct∧b≠q.t) w2 w4:=((Turn.refl _ w2).alloc _).trans (Turn.vo hgr (fun m hm=>.inl (O.out.2.2.2 m hm)))
 have c3':=hT.cell c3 (fun e=>e.2 rfl)
 have f3':w4.frozen? ⟨q.t,3,none⟩=false:=(O.out.2.1.keep (hT.block q.t htl (fun e=>e.2 rfl))).frozen 3
 have hs':SlAt w4 3 1 v' (x.T.own++[g]).length ((x.T.own++[g]).map nV):=by
  rw[List.length_append,HNL.out,List.map_append];exact hs
 obtain⟨a',c',rfl,_,_⟩:=SlAt.form hs
 have fin:=Yw.znc (O:=fun b=>tag b=q.ct) (t:=q.t) (w:=w2) O.out.1 O.out.2.1 hT hs' (fun b hb=>by
  rcases ho with e|e
  ·rw[e]at hb;exact .inl (O.out.2.2.2 b hb)
  ·rw[e]at hb;cases hb;right;omega)
 obtain⟨tag',k1,k2⟩:=xh.zm3 HK2.out fin.1 fin.2
 have FIN:Hid (xh (w4.setCell ⟨q.t,3,none⟩ (.slice a' (n+1) c')) tag' q ⟨x.R.write g 0 (List.replicate 64 0),x.P.set g 2,⟨x.T.root,x.T.own++[g]⟩⟩∧Step (fun c=>c=1∨c=2∨c=q.ct) tag w tag' (w4.setCell ⟨q.t,3,none⟩ (.slice a' (n+1) c'))):=⟨k1,S2.out.trans (k2.mono (fun c e=>.inr (.inr e)))⟩
 clear hT hs hs' hgr ho fin k1 k2 c3
 go_wp2_with fail
 exact bodyPost_ret (v:=.tuple #[.int .i64 g,.int .i64 0]) (by simp[results,Tryz.results118,go_sem]) rfl ⟨rfl,tag',FIN.out⟩
end
theorem xh.fresh{w:World}{tag:Nat→Nat}{rp rb pp fs fb ct:Nat}{R:RamS}{P:zk}(hr:qi w (fun b=>tag b=1) rp rb R)(hp:zq w (fun b=>tag b=2) pp fs fb P)(hc:10≤ct)(T:TypeId):
  xh (w.alloc (.cells #[.pointer (some ⟨rp,0,none⟩),.pointer (some ⟨pp,0,none⟩),.int .i64 0,.slice none 0 0] T (0,0))) (retag tag w ct) ⟨rp,rb,pp,fs,fb,w.heap.size,ct⟩ ⟨R,P,⟨0,[]⟩⟩∧
   Step (fun c=>c=ct) tag w (retag tag w ct) (w.alloc (.cells #[.pointer (some ⟨rp,0,none⟩),.pointer (some ⟨pp,0,none⟩),.int .i64 0,.slice none 0 0] T (0,0))):=by
 have s:Step (fun c=>c=ct) tag w (retag tag w ct) (w.alloc (.cells #[.pointer (some ⟨rp,0,none⟩),.pointer (some ⟨pp,0,none⟩),.int .i64 0,.slice none 0 0] T (0,0))):=Step.retag ((Turn.refl _ w).alloc _) rfl
 refine⟨⟨hr.loc (s.keeps (by omega)),hp.loc (s.keeps (by omega)),⟨.slice none 0 0,?_,?_,SlAt.nil _ _ _,fun b hb=>by simp[Value.ownBlock]at hb⟩,hc⟩,s⟩
 ·show retag tag w ct w.heap.size=ct
  unfold retag
  rw[if_neg (by omega)]
 ·exact Row.new w 4 _ _ T rfl fun i hi=>by
   have:i=0∨i=1∨i=2∨i=3:=by omega
   rcases this with rfl|rfl|rfl|rfl<;>rfl
section
variable (w:World)(tag:Nat→Nat)(rp rb pp fs fb ct:Nat)(R:RamS)(P:zk)
theorem zg7(hr:qi w (fun b=>tag b=1) rp rb R)(hp:zq w (fun b=>tag b=2) pp fs fb P)(hc:10≤ct)(g:Nat)(hn:P.next false=some g)(hg:g<1024)(hb:R.bad g=false):
  Calls Tryz.prog 60 #[.pointer (some ⟨rp,0,none⟩),.pointer (some ⟨pp,0,none⟩)] w fun e w'=>∃t tag',e=.returned (.tuple #[.pointer (some ⟨t,0,none⟩),.int .i64 0])∧
   xh w' tag' ⟨rp,rb,pp,fs,fb,t,ct⟩ ⟨R.write g 0 (List.replicate 64 0),P.set g 2,⟨g,[g]⟩⟩∧Step (fun c=>c=1∨c=2∨c=ct) tag w tag' w':=by
 have H1:=Lib.hid (fun T=>xh.fresh hr hp hc T)
 clear hp hr
 go_enter Tryz.func60,Tryz.ntmps60
 go_wp2_with fail
 refine(zac _ _ _ _ (H1.out 183).1 g hn hg hb (by simp)).mono ?_
 rintro e w2 ⟨rfl,tag',h3,h4⟩
 have f2:w2.frozen? ⟨w.heap.size,2,none⟩=false:=by obtain⟨sv,_,r,_⟩:=h3.tree;exact r.frozen 2
 have c2:w2.cell? ⟨w.heap.size,2,none⟩=some (.int .i64 (0:Nat)):=h3.ptr2
 have S:=Lib.hid (((H1.out 183).2.mono (C':=fun c=>c=1∨c=2∨c=ct) (fun c e=>.inr (.inr e))).trans h4)
 have K:Hid (xh (w2.setCell ⟨w.heap.size,2,none⟩ (.int .i64 g)) tag' ⟨rp,rb,pp,fs,fb,w.heap.size,ct⟩ ⟨R.write g 0 (List.replicate 64 0),P.set g 2,⟨g,[g]⟩⟩∧Step (fun c=>c=1∨c=2∨c=ct) tag w tag' (w2.setCell ⟨w.heap.size,2,none⟩ (.int .i64 g))):=by
  obtain⟨sv,o1,o2,o3,o4⟩:=h3.tree
  have s:Step (fun c=>c=ct) tag' w2 tag' (w2.setCell ⟨w.heap.size,2,none⟩ (.int .i64 g)):=Step.Yy ((Turn.refl _ w2).set (.inl o1) _) rfl
  refine⟨⟨h3.ram.loc (s.keeps (by omega)),h3.pool.loc (s.keeps (by omega)),⟨sv,o1,?_,o3.keep fun b hb=>Below.heap_setCell _ _ _ _ (o4 b hb).2,o4⟩,hc⟩,S.out.trans (s.mono fun c e=>.inr (.inr e))⟩
  refine(o2.set (i:=2) (by omega) _).congr fun i hi=>?_
  have:i=0∨i=1∨i=2∨i=3:=by omega
  rcases this with rfl|rfl|rfl|rfl<;>rfl
 clear h3 h4
 go_wp2_with fail
 exact bodyPost_ret (v:=.tuple #[.pointer (some ⟨w.heap.size,0,none⟩),.int .i64 0]) (by simp[results,Tryz.results60,go_sem]) rfl ⟨_,tag',rfl,K.out⟩
end
end Go.Proofs.YtnhdmnijiphjjaaGreat
namespace Go.Proofs
open Go.Shelf
def YtnhdmnijiphjjaaGreat.Jb:Go.Shelf.Ren:=⟨fun|10=>238|6=>253|n=>n,fun|22=>79|23=>3|25=>65|3=>3|4=>4|0=>0|n=>n,fun|n=>n⟩
theorem YtnhdmnijiphjjaaGreat.zd2:Go.Proofs.SlLaysH.n10 Tryz.prog YtnhdmnijiphjjaaGreat.Jb:={
 mixed:=by kernel_rfl
 f6:=⟨Tryz.f253.name,by decide,Tryz.func253.trans (congrArg some (by kernel_rfl))⟩
 f10:=⟨Tryz.f238.name,by decide,Tryz.func238.trans (congrArg some (by kernel_rfl))⟩
 t0:=Tryz.underlying0
 a0:=Tryz.isAgg0
 z0:=Tryz.sizeOf0
 v0:=Tryz.zeroValue0
 t3:=Tryz.underlying3
 a3:=Tryz.isAgg3
 z3:=Tryz.sizeOf3
 v3:=Tryz.zeroValue3
 t4:=Tryz.underlying4
 a4:=Tryz.isAgg4
 z4:=Tryz.sizeOf4
 v4:=Tryz.zeroValue4
 t22:=Tryz.underlying79
 a22:=Tryz.isAgg79
 z22:=Tryz.sizeOf79
 v22:=Tryz.zeroValue79
 a23:=Tryz.isAgg3
 z23:=Tryz.sizeOf3
 t25:=Tryz.underlying65
 a25:=Tryz.isAgg65
 z25:=Tryz.sizeOf65
 v25:=Tryz.zeroValue65}
end Go.Proofs
namespace Go.Proofs.YtnhdmnijiphjjaaGreat
open Go Go.RowKit Go.Sort
theorem SlAt.putRow{w:World}{b off c n:Nat}{xs:List Value}(h:SlAt w 3 1 (.slice (some ⟨b,off,none⟩) n c) n xs)(q:Nat)(d:Array Int)(hd:d.size=n)(m:Nat)(hm:m≤n)(ys:List Value)(hy:ys.length=m)
  (he:∀(j:Nat) (u:Value),ys[j]?=some u→u=Value.int .i64 d[j]!):
  SlAt (Sort.putRow (Value.int .i64) (Sort.ahead w q) b off d) 3 1 (.slice (some ⟨b,off,none⟩) m c) m ys∧w.grownBy (Sort.putRow (Value.int .i64) (Sort.ahead w q) b off d) (some b):=by
 rcases h.2 with⟨e,_⟩|⟨b',off',c',arr,e,hg,hnc,hcm,hsz,hx⟩
 ·cases e
 ·cases e
  refine⟨⟨by omega,.inr ⟨b,off,c,putCells (Value.int .i64) off d arr,rfl,?_,by omega,hcm,by simp[putCells];omega,fun j u hu=>?_⟩⟩,⟨rfl,rfl,rfl,by simp[Sort.putRow,mapBlock,Sort.ahead],fun k hk hne=>?_⟩⟩
  ·unfold Sort.putRow mapBlock
   simp only[Array.getElem?_modify,if_true]
   show(w.heap[b]?).map _=_
   rw[hg]
   rfl
  ·have hj:=(List.getElem?_eq_some_iff.1 hu).1
   have:=hnc
   unfold putCells
   rw[Array.getElem?_mapIdx,Array.getElem?_eq_getElem (by omega),Option.map_some,if_pos ⟨by omega,by omega⟩,he j u hu,Nat.add_sub_cancel_left]
  ·unfold Sort.putRow mapBlock
   simp only[Array.getElem?_modify]
   rw[if_neg (fun e=>hne (by rw[e]))]
   rfl
theorem zan(f x:Int)(B:Nat)(W:World)(hc:W.cell? ⟨B,0,none⟩=some (.int .i64 f)):
  FnGives Tryz.prog 239 #[.pointer (some ⟨B,0,none⟩)] #[.int .i64 x] (.bool (decide (x=f))) W:=by
 show Calls Tryz.prog 239 #[.int .i64 x,.pointer (some ⟨B,0,none⟩)] W _
 have e:(x==f)=decide (x=f):=by rw[Bool.eq_iff_iff];simp
 rw[←e]
 go_enter Tryz.func239,Tryz.ntmps239
 go_wp2
 go_ret
 exact⟨rfl,0,rfl⟩
theorem zdc(w:World)(sv:Value)(l:List Nat)(h:SlAt w 3 1 sv l.length (l.map nV))(h0:l≠[])(hlen:l.length≤100000)(B:Nat)(f:Int)(hB:B<w.heap.size)(hne:sv.ownBlock≠some B)(hc:w.cell? ⟨B,0,none⟩=some (.int .i64 f)):
  Calls Tryz.prog 238 #[sv,.func (.func 239) #[] #[.pointer (some ⟨B,0,none⟩)]] w fun e w'=>
   ∃v',e=.returned v'∧SlAt w' 3 1 v' (l.filter fun(g:Nat)=>decide ((g:Int)≠f)).length ((l.filter fun(g:Nat)=>decide ((g:Int)≠f)).map nV)∧v'.ownBlock=sv.ownBlock∧w.grownBy w' sv.ownBlock:=by
 have hp:0<(l.map nV).length:=by simp;exact List.length_pos_iff.2 h0
 obtain⟨b,off,c,rfl,hnc,hb,hx⟩:=SlAt.cells h hp
 have eg:∀args w,(callFunc 239 args).run Tryz.prog w=.ok (.enter 239 args) w:=enters_of Tryz.func239 (by kernel_rfl) rfl
 obtain⟨d,hd⟩:∃d:Array Int,d=(l.map fun(n:Nat)=>(n:Int)).toArray:=⟨_,rfl⟩
 have hds:d.size=l.length:=by rw[hd];simp
 have hH:Holds (Value.int .i64) w b off d:=fun j hj=>by
  have hj':j<l.length:=by omega
  obtain⟨h1,h2⟩:=hx j (nV l[j]) (by simp[hj'])
  refine⟨?_,h2⟩
  rw[h1,getElem!_pos d j hj]
  subst hd
  simp[nV]
 have hcon:=AnyE.slices_DeleteFunc zd2 (Value.int .i64) (fun _=>rfl) (fun x=>decide (x=f)) 239 #[.pointer (some ⟨B,0,none⟩)] eg 0 Tryz.zeroValue3 b off c d w
  (fun W x hb'=>zan f x B W ((hb'.cell (p:=⟨B,0,none⟩) hB).trans hc))
  (fun n os dk x _=>zan f x B _ (by
   have hBb:B≠b:=fun e=>hne (by rw[e];rfl)
   unfold sortWorld
   rw[Sort.cell?_grow _ _ _ (by show B<(Sort.putRow _ _ _ _ _).heap.size;rw[Sort.size_putRow];exact hB),Sort.cell?_putRow_other _ _ b off _ _ (Or.inl hBb)]
   exact hc)) hH (by omega) (by omega)
 change Calls Tryz.prog 238 _ _ _ at hcon
 rw[hds]at hcon
 refine hcon.mono ?_
 rintro e w' ⟨rfl,q,rfl⟩
 have hfil:d.toList.filter (fun x=>!decide (x=f))=(l.filter fun(g:Nat)=>decide ((g:Int)≠f)).map fun(n:Nat)=>(n:Int):=by
  rw[hd,List.toList_toArray,List.filter_map]
  congr 1
  refine List.filter_congr fun g _=>?_
  simp
 have hle:(l.filter fun(g:Nat)=>decide ((g:Int)≠f)).length≤l.length:=List.length_filter_le _ _
 rw[hfil,List.length_map]
 generalize l.filter (fun(g:Nat)=>decide ((g:Int)≠f))=m at hle⊢
 have fin:=SlAt.putRow h q ((m.map fun(n:Nat)=>(n:Int))++List.replicate (l.length-m.length) 0).toArray (by simp;omega) m.length hle (m.map nV) (by simp) (fun j u hu=>by
  have hj:j<m.length:=by have:=(List.getElem?_eq_some_iff.1 hu).1;simpa using this
  rw[List.getElem?_map,List.getElem?_eq_getElem hj]at hu
  simp at hu
  rw[←hu,getElem!_pos _ j (by simp;omega)]
  simp[nV,hj])
 exact⟨_,rfl,fin.1,rfl,fin.2⟩
end Go.Proofs.YtnhdmnijiphjjaaGreat
namespace Go.Proofs.YtnhdmnijiphjjaaGreat
open Go Go.RowKit
theorem Vt(C:Nat→Prop)(tag:Nat→Nat)(w:World):Step C tag w (retag tag w 0) w:=⟨fun _ hb=>if_pos hb,Turn.refl _ _⟩
theorem Xe{tag:Nat→Nat}{w:World}{c b:Nat}(h:w.heap.size≤b):retag tag w c b=c:=if_neg (by omega)
theorem xh.norm{w:World}{tag:Nat→Nat}{q:Rq}{x:RPT}(h:xh w tag q x):xh w (retag tag w 0) q x:=
 h.step (C:=fun _=>False) (Vt _ tag w) (fun h=>h) (fun h=>h) (fun h=>h)
section
variable (w:World)(tag:Nat→Nat)(q:Rq)(x:RPT)
theorem zjb(h:xh w tag q x)(fi:Int)(g:Nat)(ef:fi=g)(hg:g<1024)(hu:x.P.use g=2)(hne:x.T.own≠[])(hlen:x.T.own.length≤2000):
  Calls Tryz.prog 222 #[.pointer (some ⟨q.t,0,none⟩),.int .i64 fi] w fun e w'=>e=.returned (.tuple #[])∧
   ∃tag',xh w' tag' q ⟨x.R,x.P.set g 1,⟨x.T.root,x.T.own.filter fun(a:Nat)=>decide ((a:Int)≠(g:Int))⟩⟩∧Step (fun c=>c=2∨c=q.ct) tag w tag' w':=by
 subst ef
 have hp:=h.ptr1
 have hpl:=World.block_lt_of_cell? _ _ hp
 have hB0:Below w.heap.size w (w.alloc (.cells #[.int .i64 g] 3 (0,0))):=(Below.refl _ _).alloc (Nat.le_refl _) _
 obtain⟨tag0,ht0⟩:∃tag0,retag tag w 0=tag0:=⟨_,rfl⟩
 have h:=h.norm
 have s0:Step (fun c=>c=2∨c=q.ct) tag w tag0 w:=by rw[←ht0];exact Vt _ tag w
 have hnew:tag0 w.heap.size=0:=by rw[←ht0];exact Xe (Nat.le_refl _)
 rw[ht0]at h
 have H:=Lib.hid h
 have S0:=Lib.hid s0
 have HN:=Lib.hid hnew
 have HB0:=Lib.hid hB0
 clear h hB0 s0 hnew ht0
 go_enter Tryz.func222,Tryz.ntmps222
 go_wp2_with fail
 obtain⟨W,hW⟩:∃W,W=(w.alloc (.cells #[.int .i64 g] 3)).drew:=⟨_,rfl⟩
 have q0:W.cell? ⟨q.t,1,none⟩=some (.pointer (some ⟨q.pp,0,none⟩)):=by rw[hW];go_simp
 have q1:W.cell? ⟨w.heap.size,0,none⟩=some (.int .i64 g):=by rw[hW];go_simp
 have HBW:Hid (Below w.heap.size w W∧W.heap.size=w.heap.size+1):=by
  rw[hW]
  exact⟨HB0.out.drew,by show(w.alloc _).heap.size=_;simp⟩
 have hd:(w.alloc (.cells #[.int .i64 g] 3)).drew=W:=hW.symm
 clear hW
 have HW:=Lib.hid (H.out.below HBW.out.1)
 have F:=Lib.hid (fun W' (hb:Below W.heap.size W W')=>V9 W' _ _ _ _ _ (HW.out.below hb).pool g g rfl hg (by rw[hu];omega) (by rw[hu];omega))
 go_region_held (fun W'=>W'.cell? ⟨q.t,1,none⟩=some (.pointer (some ⟨q.pp,0,none⟩))∧W'.cell? ⟨w.heap.size,0,none⟩=some (.int .i64 g)) (go_keep)
  ((go_at_call 44;refine(F.out _ (Below.refl _ _)).mono ?_;rintro e w2 ⟨rfl,h3,h4⟩;have K:=Lib.hid (HW.out.zna h3 h4);have q0':=K.out.1.ptr1;have q1':=h4.cell q1 (by show ¬tag0 w.heap.size=2;rw[HN.out];decide);clear h3 h4))
 obtain⟨sv,o1,o2,o3,o4⟩:=K.out.1.tree
 have c3:w2.cell? ⟨q.t,3,none⟩=some sv:=o2.cell (i:=3) (by omega)
 have htl:=o2.lt
 obtain⟨a,c,rfl,_,_⟩:=SlAt.form o3
 have hb2:w.heap.size<w2.heap.size:=World.block_lt_of_cell? _ _ q1'
 have DD:=Lib.hid (zdc w2 _ _ o3 hne (by simp only at hlen⊢;omega) w.heap.size g hb2 (fun e=>by have h5:tag0 w.heap.size=q.ct:=(o4 _ e).1;rw[HN.out]at h5;have:=H.out.ct;omega) q1')
 have O:=Lib.hid (And.intro o1 (And.intro o2 (And.intro o3 o4)))
 clear o1 o2 o3 o4
 go_wp2_with fail
 refine DD.out.mono ?_
 rintro e w4 ⟨v',rfl,hs,ho,hgr⟩
 obtain⟨m,hm⟩:∃m,x.T.own.filter (fun(a:Nat)=>decide ((a:Int)≠(g:Int)))=m:=⟨_,rfl⟩
 change SlAt w4 3 1 v' (x.T.own.filter (fun(a:Nat)=>decide ((a:Int)≠(g:Int)))).length ((x.T.own.filter (fun(a:Nat)=>decide ((a:Int)≠(g:Int)))).map nV)at hs
 rw[hm]at hs
 have HM:=Lib.hid hm
 clear hm
 have hT:Turn (fun b=>tag0 b=q.ct∧b≠q.t) w2 w4:=Turn.vo hgr (fun m hm=>.inl (O.out.2.2.2 m hm))
 have c3':=hT.cell c3 (fun e=>e.2 rfl)
 have f3':w4.frozen? ⟨q.t,3,none⟩=false:=(O.out.2.1.keep (hT.block q.t htl (fun e=>e.2 rfl))).frozen 3
 obtain⟨a',c',rfl,_,_⟩:=SlAt.form hs
 have fin:=Yw.znc (O:=fun b=>tag0 b=q.ct) (t:=q.t) (w:=w2) O.out.1 O.out.2.1 hT hs (fun b hb=>.inl (O.out.2.2.2 b (ho▸hb)))
 obtain⟨tag',k1,k2⟩:=xh.zm3 K.out.1 fin.1 fin.2
 have S:Hid (Step (fun c=>c=2∨c=q.ct) tag w tag0 w2):=(S0.out.trans (Step.of_below HBW.out.1)).trans (K.out.2.mono fun c e=>.inl e)
 have FIN:=Lib.hid (And.intro k1 (S.out.trans (k2.mono fun c e=>.inr e)))
 clear hT hs ho hgr fin k1 k2 c3
 go_wp2_with fail
 exact bodyPost_end (v:=.tuple #[]) (by simp[results,Tryz.results222,go_sem]) rfl ⟨rfl,tag',by rw[HM.out];exact FIN.out⟩
end
def iV(n:Int):Value:=.int .i64 n
def wayF(N:List Nat→Option Nat)(page j:Nat):List Int:=(List.range (j+1)).map fun m=>(((N ((high page).take m)).getD 0:Nat):Int)
theorem zay(N:List Nat→Option Nat)(page j:Nat):(wayF N page j).length=j+1:=by simp[wayF]
theorem zg3(N:List Nat→Option Nat)(page j:Nat):wayF N page (j+1)=wayF N page j++[(((N ((high page).take (j+1))).getD 0:Nat):Int)]:=by
 unfold wayF
 rw[List.range_succ,List.map_append]
 rfl
theorem zg4(N:List Nat→Option Nat)(page j:Nat):(wayF N page j)[j]?=some (((N ((high page).take j)).getD 0:Nat):Int):=by
 simp[wayF]
theorem zen{N:List Nat→Option Nat}{r page j:Nat}(hr:N []=some r)(hj:j≤3)(h:∀m,m≤j→(N ((high page).take m)).isSome=true)(he:j=3∨N ((high page).take (j+1))=none):wayF N page j=wayN N r page:=by
 have t0:(high page).take 0=[]:=rfl
 have t1:(high page).take 1=[digit page 0]:=rfl
 have t2:(high page).take 2=[digit page 0,digit page 1]:=rfl
 have t3:(high page).take 3=[digit page 0,digit page 1,digit page 2]:=rfl
 have:j=0∨j=1∨j=2∨j=3:=by omega
 unfold wayN
 rcases this with rfl|rfl|rfl|rfl
 ·have e1:N [digit page 0]=none:=by rcases he with he|he;omega;rw[←t1];exact he
  rw[e1]
  simp[wayF,hr]
 ·obtain⟨f1,e1⟩:=Option.isSome_iff_exists.1 (h 1 (by omega))
  rw[t1]at e1
  have e2:N [digit page 0,digit page 1]=none:=by rcases he with he|he;omega;rw[←t2];exact he
  rw[e1,e2]
  simp[wayF,List.range_succ,hr,t1,e1]
 ·obtain⟨f1,e1⟩:=Option.isSome_iff_exists.1 (h 1 (by omega))
  rw[t1]at e1
  obtain⟨f2,e2⟩:=Option.isSome_iff_exists.1 (h 2 (by omega))
  rw[t2]at e2
  have e3:N [digit page 0,digit page 1,digit page 2]=none:=by rcases he with he|he;omega;rw[←t3];exact he
  rw[e1,e2,e3]
  simp[wayF,List.range_succ,hr,t1,e1,t2,e2]
 ·obtain⟨f1,e1⟩:=Option.isSome_iff_exists.1 (h 1 (by omega))
  rw[t1]at e1
  obtain⟨f2,e2⟩:=Option.isSome_iff_exists.1 (h 2 (by omega))
  rw[t2]at e2
  obtain⟨f3,e3⟩:=Option.isSome_iff_exists.1 (h 3 (by omega))
  rw[t3]at e3
  rw[e1,e2,e3]
  simp[wayF,List.range_succ,hr,t1,e1,t2,e2,t3,e3]
def WayRel(w:World)(N:List Nat→Option Nat)(page db:Nat)(s6 s21:Value)(W:World):Prop:=
 ∃j:Nat,j≤3∧s21=.int .i64 j∧∃a c,s6=.slice a (j+1) c∧Hid (SlAt W 3 1 s6 (j+1) ((wayF N page j).map iV)∧(∀b,s6.ownBlock=some b→w.heap.size≤b∧b≠db))∧
  Hid (∀m,m≤j→(N ((high page).take m)).isSome=true)∧Hid (Row W db 4 (fun i=>.int .i64 (digit page i))∧Below w.heap.size w W)
section
variable (w:World)(tag:Nat→Nat)(q:Rq)(x:RPT)(N:List Nat→Option Nat)
theorem zek(h:xh w tag q x)(ok:vk x.R x.T N)(pi:Int)(page:Nat)(ep:pi=page)(hpg:page<4096):
  Calls Tryz.prog 92 #[.pointer (some ⟨q.t,0,none⟩),.int .i64 pi] w fun e w'=>∃v,e=.returned (.tuple #[v,.int .i64 0])∧
   SlAt w' 3 1 v (wayN N x.T.root page).length ((wayN N x.T.root page).map iV)∧(∀b,v.ownBlock=some b→w.heap.size≤b)∧Below w.heap.size w w':=by
 subst ep
 have hp:=h.ptr2
 have H:=Lib.hid h
 have OK:=Lib.hid ok
 have HI:=Lib.hid zd3
 clear h ok
 go_enter Tryz.func92,Tryz.ntmps92
 go_wp2_with fail
 refine(Zp _ page page rfl hpg).mono ?_
 rintro e w1 ⟨rfl,hb1⟩
 have hB1:Below w.heap.size w w1:=((Below.refl _ _).alloc (Nat.le_refl _) _).trans (hb1.mono (by simp))
 have hsz:w.heap.size<w1.heap.size:=by have:=hb1.size;simp at this;omega
 have c0:w1.cell? ⟨w.heap.size,0,none⟩=some (.int .i64 x.T.root):=(hb1.cell (p:=⟨w.heap.size,0,none⟩) (by simp)).trans (by go_simp)
 have HB1:=Lib.hid hB1
 have s1:Hid (SlAt w1 3 1 (.slice (some ⟨w.heap.size,0,none⟩) 1 1) 1 [.int .i64 x.T.root]):=⟨by simp,.inr ⟨w.heap.size,0,1,#[.int .i64 x.T.root],rfl,(hb1.block w.heap.size (by simp)).trans (heap_alloc_new w _),Nat.le_refl _,by unfold maxLen;omega,by simp,fun j u hu=>by simpa using hu⟩⟩
 clear hb1 hB1
 unfold digV
 go_wp2_with fail
 go_loopw [6,21] (WayRel w N page w1.heap.size) (fun _ k _=>3-(intOf k).toNat)
 case atStart=>
  have hb2:Below w1.heap.size w1 (w1.alloc (.cells #[.int .i64 (digit page 0),.int .i64 (digit page 1),.int .i64 (digit page 2),.int .i64 (digit page 3)] 148 (0,0))):=(Below.refl _ _).alloc (Nat.le_refl _) _
  refine⟨0,by omega,rfl,_,_,rfl,⟨?_,fun b hb=>by simp[Value.ownBlock]at hb;omega⟩,?_,?_,HB1.out.trans (hb2.mono HB1.out.size)⟩
  ·have e:(wayF N page 0).map iV=[.int .i64 x.T.root]:=by simp[wayF,OK.out.root,iV]
   rw[e]
   exact s1.out.below hb2
  ·intro m hm
   obtain rfl:m=0:=by omega
   simp[OK.out.root]
  ·exact Row.new w1 4 (fun i=>.int .i64 (digit page i)) _ 148 rfl (fun i hi=>by
    have:i=0∨i=1∨i=2∨i=3:=by omega
    rcases this with rfl|rfl|rfl|rfl<;>rfl)
 case round=>
  obtain⟨j,hj,rfl,a,c,rfl,hS,hN,hR⟩:=hrel
  by_cases hlt:j<3
  ·have i1:(j:Int)<3:=by omega
   have i2:(0:Int)≤j:=by omega
   obtain⟨f,hf⟩:=Option.isSome_iff_exists.1 (hN.out j (Nat.le_refl _))
   have hfl:=OK.out.lt _ _ hf
   obtain⟨b,off,c',ev,_,hbl,hx⟩:=SlAt.cells hS.out.1 (by simp[zay])
   cases ev
   have cl:wr.cell? ⟨b,off+j,none⟩=some (.int .i64 f):=(hx j _ (by rw[List.getElem?_map,zg4,hf];rfl)).1
   have cd:wr.cell? ⟨w1.heap.size,j,none⟩=some (.int .i64 (digit page j)):=hR.out.1.cell (by omega)
   have i3:((j:Int)+1-1)=j:=by omega
   have G:=Lib.hid (Qj wr tag q x (H.out.below hR.out.2) f (digit page j) f (digit page j) rfl rfl hfl.1 hfl.2.1 (yg _ _))
   have hkid:=OK.out.kid _ f _ hf (by simp[high];omega) (yg page j)
   rw[xy page j hlt]at hkid
   clear hx
   cases hnx:N ((high page).take (j+1))with
   | none=>
    rw[hnx]at hkid
    try simp only at hkid
    rw[hkid]at G
    have fin:Hid (wayF N page j=wayN N x.T.root page):=zen OK.out.root hj hN.out (.inr hnx)
    clear hkid hnx hf
    go_wp2_with fail
    refine G.out.mono ?_
    rintro e w3 ⟨rfl,hb3⟩
    have HB3:=Lib.hid hb3
    clear hb3
    go_wp2_with fail
    refine bodyPost_ret (v:=.tuple #[.slice (some ⟨b,off,none⟩) (j+1) c,.int .i64 0]) (by simp[results,Tryz.results92,go_sem]) rfl ⟨_,rfl,?_,fun b hb=>(hS.out.2 b hb).1,hR.out.2.trans (HB3.out.mono hR.out.2.size)⟩
    rw[←fin.out,zay]
    exact hS.out.1.below HB3.out
   | some g=>
    rw[hnx]at hkid
    try simp only at hkid
    have hgl:=OK.out.lt _ _ hnx
    obtain⟨n,hn⟩:∃n,n=g+1:=⟨_,rfl⟩
    rw[←hn]at hkid
    rw[hkid]at G
    have n1:((n:Int)==0)=false:=beq_eq_false_iff_ne.2 (by omega)
    have n2:(0:Int)≤n:=by omega
    have n3:(n:Int)≤1024:=by omega
    have n4:(0:Int)≤(n:Int)-1:=by omega
    have HN:=Lib.hid hn
    have HNX:=Lib.hid hnx
    clear hkid hnx hf hn
    obtain⟨inf,hI⟩:=HI.out
    have HI2:=Lib.hid hI
    clear hI
    go_wp2_with fail
    refine G.out.mono ?_
    rintro e w3 ⟨rfl,hb3⟩
    have hs0:Hid (SlAt (w3.alloc (.cells #[.int .i64 ((n:Int)-1)] 3)) 3 1 (.slice (some ⟨b,off,none⟩) (j+1) c) (j+1) ((wayF N page j).map iV)):=(SlAt.below hS.out.1 hb3).below ((Below.refl _ _).alloc (Nat.le_refl _) _)
    have C2:Hid (∀i u,[iV ((n:Int)-1)][i]?=some u→(w3.alloc (.cells #[.int .i64 ((n:Int)-1)] 3)).cell? ((⟨w3.heap.size,0,none⟩:Addr).add i)=some u):=fun i u hu=>by
     have:i=0:=by have:=(List.getElem?_eq_some_iff.1 hu).1;simp at this;omega
     subst this
     simp at hu
     subst hu
     rw[add_plain,cell_of_row _ _ _ _ _ _ (heap_alloc_new w3 (.cells #[.int .i64 ((n:Int)-1)] 3))]
     rfl
    have HB3:=Lib.hid hb3
    clear hb3
    go_wp2_with (at_builtin;refine x9 _ rfl _ _ 79 rfl 3 inf _ 1 8 Tryz.underlying79 HI2.out.1 HI2.out.2.1 HI2.out.2.2.1 HI2.out.2.2.2 rfl _ _ _ rfl hs0.out ⟨w3.heap.size,0,none⟩ 1 1 [iV ((n:Int)-1)] rfl rfl C2.out ?c3 ?c4 ?c5 ?c6)
    case c3=>intro u hu;simp at hu;subst hu;rfl
    case c4=>unfold maxLen;omega
    case c5=>omega
    intro v' w4 hs hgr ho
    have hb4:Below w.heap.size w w4:=by
     have h1:=hR.out.2.trans (HB3.out.mono hR.out.2.size)
     have h2:=h1.trans (((Below.refl w3.heap.size w3).alloc (Nat.le_refl _) (.cells #[.int .i64 ((n:Int)-1)] 3 (0,0))).mono h1.size)
     exact h2.grown hgr h2.size (fun k hk=>(hS.out.2 k hk).1)
    have hrow:Row w4 w1.heap.size 4 (fun i=>.int .i64 (digit page i)):=by
     have h1:=(hR.out.1.below HB3.out).alloc (.cells #[.int .i64 ((n:Int)-1)] 3 (0,0))
     exact h1.keep (hgr.block _ h1.lt (fun e=>(hS.out.2 _ e.symm).2 rfl))
    have hown:∀b',v'.ownBlock=some b'→w.heap.size≤b'∧b'≠w1.heap.size:=fun b' hb'=>by
     rcases ho with e|e
     ·exact hS.out.2 b' (e▸hb')
     ·rw[e]at hb'
      cases hb'
      have l1:=hR.out.1.lt
      have l2:=HB3.out.size
      have l3:=hR.out.2.size
      try simp only[World.size_alloc]
      omega
    have hs':SlAt w4 3 1 v' (j+1+1) ((wayF N page (j+1)).map iV):=by
     rw[zg3,List.map_append,HNX.out]
     have e:[(((some g).getD 0:Nat):Int)].map iV=[iV ((n:Int)-1)]:=by
      simp only[List.map_cons,List.map_nil,Option.getD_some]
      rw[show((n:Int)-1)=g by have:=HN.out;omega]
     rw[e]
     exact hs
    have hsome:∀m,m≤j+1→(N ((high page).take m)).isSome=true:=fun m hm=>by
     by_cases e:m=j+1
     ·rw[e,HNX.out];rfl
     ·exact hN.out m (by omega)
    obtain⟨a',c2,rfl,_,_⟩:=SlAt.form hs'
    have FIN:=Lib.hid (And.intro hs' (And.intro hown (And.intro hsome (And.intro hrow hb4))))
    clear hs hgr ho hb4 hrow hown hs' hsome
    go_wp2_with fail
    go_roundw
    case rel=>exact⟨j+1,by omega,by go_num,_,_,rfl,⟨FIN.out.1,FIN.out.2.1⟩,FIN.out.2.2.1,FIN.out.2.2.2⟩
    case measure=>simp[intOf];omega
  ·obtain rfl:j=3:=by omega
   have fin:Hid (wayF N page 3=wayN N x.T.root page):=zen OK.out.root (Nat.le_refl _) hN.out (.inl rfl)
   go_wp2_with fail
   refine bodyPost_ret (v:=.tuple #[.slice a (3+1) c,.int .i64 0]) (by simp[results,Tryz.results92,go_sem]) rfl ⟨_,rfl,?_,fun b hb=>(hS.out.2 b hb).1,hR.out.2⟩
   rw[←fin.out,zay]
   exact hS.out.1
end
theorem zem{R:RamS}{T:Z7}{N:List Nat→Option Nat}(ok:vk R T N)(page:Nat):(wayN N T.root page).length≤4∧((wayN N T.root page).length=4↔(N (high page)).isSome=true):=
 ⟨(Ud ok page).2.1,(Ud ok page).2.2.2.2⟩
theorem zcm(page:Nat)(W:World):(Instr.index 148 (.agg #[.int .i64 (digit page 0),.int .i64 (digit page 1),.int .i64 (digit page 2),.int .i64 (digit page 3)]) (.int .i64 3)).run Tryz.prog W=.ok (.int .i64 (digit page 3)) W:=by
 have z:=Tryz.sizeOf3
 have a:=Tryz.isAgg3
 simp[Instr.index,run_underlying Tryz.underlying148,asIntOf,part,z,a]
section
variable (w:World)(tag:Nat→Nat)(q:Rq)(x:RPT)(N:List Nat→Option Nat)
theorem Vb(h:xh w tag q x)(ok:vk x.R x.T N)(pi:Int)(page:Nat)(ep:pi=page)(hpg:page<4096):
  Calls Tryz.prog 35 #[.pointer (some ⟨q.t,0,none⟩),.int .i64 pi] w fun e w'=>e=.returned (.tuple #[entV (mapOf x.R N page),.int .i64 0])∧Below w.heap.size w w':=by
 subst ep
 have H:=Lib.hid h
 have OK:=Lib.hid ok
 have hlen:=zem ok page
 have i0:(0:Int)≤page:=by omega
 have i1:(page:Int)<4096:=by omega
 clear h ok
 have hb0:∀T,Below w.heap.size w (w.alloc (.cells #[.int .i64 0,.int .i64 0,.bool false] T (0,0))):=fun T=>(Below.refl _ _).alloc (Nat.le_refl _) _
 have HB0:=Lib.hid hb0
 clear hb0
 go_enter Tryz.func35,Tryz.ntmps35
 go_wp2_with fail
 refine(zic _ tag q x (H.out.below (HB0.out _)) page i0 i1 OK.out.own_ne).mono ?_
 rintro e w1 ⟨rfl,hw1⟩
 have hW1:=Lib.hid hw1
 have H1:Hid (xh w1 tag q x):=by rw[hw1];exact H.out.below (HB0.out _)
 have hb1:Below w.heap.size w w1:=by rw[hw1];exact HB0.out _
 have r1:Row w1 w.heap.size 3 (fun i=>if i=2 then .bool false else .int .i64 0):=by
  rw[hw1]
  exact Row.new w 3 _ _ _ rfl (fun i hi=>by
   have:i=0∨i=1∨i=2:=by omega
   rcases this with rfl|rfl|rfl<;>rfl)
 have hsz:w1.heap.size=w.heap.size+1:=by rw[hw1];simp
 clear hw1 hW1
 have HB1:=Lib.hid (And.intro hb1 (And.intro r1 hsz))
 clear hb1 r1 hsz
 go_wp2_with fail
 refine(zek w1 tag q x N H1.out OK.out page page rfl hpg).mono ?_
 rintro e w2 ⟨v,rfl,hs,ho,hb2⟩
 generalize hl:wayN N x.T.root page=L at *
 obtain⟨a,c,rfl,_,_⟩:=SlAt.form hs
 have r2:=HB1.out.2.1.below hb2
 have HS:=Lib.hid (And.intro hs (And.intro ho hb2))
 have HL:=Lib.hid hl
 have d0:w2.cell? ⟨w.heap.size,0,none⟩=some (.int .i64 0):=r2.cell (i:=0) (by omega)
 have d1:w2.cell? ⟨w.heap.size,1,none⟩=some (.int .i64 0):=r2.cell (i:=1) (by omega)
 have d2:w2.cell? ⟨w.heap.size,2,none⟩=some (.bool false):=r2.cell (i:=2) (by omega)
 have f0:=r2.frozen 0
 have f1:=r2.frozen 1
 have f2:=r2.frozen 2
 clear hs ho hb2 hl r2
 generalize hn:L.length=n at *
 have HN:=Lib.hid hn
 clear hn
 by_cases h4:n=4
 ·obtain⟨f,hf⟩:=Option.isSome_iff_exists.1 (hlen.2.1 h4)
  subst h4
  clear hlen
  obtain⟨b,off,c',ev,_,hbl,hx⟩:=SlAt.cells HS.out.1 (by simp[HN.out])
  cases ev
  have hl3:L[3]?=some (f:Int):=by
   have hw:=(Ud OK.out page).2.2.1
   rw[HL.out,HN.out]at hw
   obtain⟨f',e1,e2⟩:=hw 3 (by omega)
   have e3:N (high page)=some f':=e1
   rw[hf]at e3
   cases e3
   rw[List.getD_eq_getElem?_getD]at e2
   rw[List.getElem?_eq_getElem (by rw[HN.out];omega)]at e2⊢
   simpa using e2
  have cl:w2.cell? ⟨b,off+3,none⟩=some (.int .i64 f):=(hx 3 _ (by rw[List.getElem?_map,hl3];rfl)).1
  have hfl:=OK.out.lt _ _ hf
  obtain⟨en,he,hw⟩:=OK.out.leaf _ f (digit page 3) hf (by simp[high]) (yg page 3)
  have hmap:Hid (mapOf x.R N page=en):=by
   show _=_
   unfold mapOf
   rw[hf]
   show(zja (wordAt x.R f (digit page 3))).1=en
   rw[hw,Xq he]
  have hc3:w2.cell? ⟨b,off+3,none⟩=some (.int .i64 f):=cl
  have DG:=Lib.hid (fun W'=>Zp W' page page rfl hpg)
  have H2:=Lib.hid (H1.out.below HS.out.2.2)
  have DE:=Lib.hid (fun W'=>zj9 W' en he en.num rfl)
  have GT:=Lib.hid (fun W' (hb':Below w2.heap.size w2 W')=>Qj W' tag q x (H2.out.below hb') f (digit page 3) f (digit page 3) rfl rfl hfl.1 hfl.2.1 (yg _ _))
  have HW:=Lib.hid hw
  clear hx hl3 hw he hf
  have hidx:=zcm page
  have hwb:w.heap.size<w2.heap.size:=World.block_lt_of_cell? _ _ d0
  go_wp2_with fail
  obtain⟨W,hW⟩:∃W,W=w2.drew:=⟨_,rfl⟩
  have hdW:w2.drew=W:=hW.symm
  have q0:W.cell? ⟨b,off+3,none⟩=some (.int .i64 f):=by rw[hW];exact cl
  have HBW:Hid (Below w2.heap.size w2 W∧W.heap.size=w2.heap.size):=by rw[hW];exact⟨(Below.refl _ _).drew,rfl⟩
  clear hW
  unfold digV at DG
  go_region_held (fun W'=>W'.cell? ⟨b,off+3,none⟩=some (.int .i64 f)) (go_keep)
   (first
    | (go_at_call 94;refine(DG.out _).mono ?_;rintro e w5 ⟨rfl,hb5⟩;have q0':=(hb5.cell (World.block_lt_of_cell? _ _ q0)).trans q0;have HB5:=Lib.hid (HBW.out.1.trans (hb5.mono HBW.out.1.size));clear hb5)
    | (go_at_call 93;refine(GT.out _ HB5.out).mono ?_;rw[HW.out];rintro e w6 ⟨rfl,hb6⟩;have q0'':=(hb6.cell (World.block_lt_of_cell? _ _ q0')).trans q0';have HB6:=Lib.hid (HB5.out.trans (hb6.mono HB5.out.size));clear hb6))
  have e0:=(HB6.out.cell hwb).trans d0
  have e1:=(HB6.out.cell (p:=⟨w.heap.size,1,none⟩) hwb).trans d1
  have e2:=(HB6.out.cell (p:=⟨w.heap.size,2,none⟩) hwb).trans d2
  have g0:=(HB6.out.frozen (p:=⟨w.heap.size,0,none⟩) hwb).trans f0
  have g1:=(HB6.out.frozen (p:=⟨w.heap.size,1,none⟩) hwb).trans f1
  have g2:=(HB6.out.frozen (p:=⟨w.heap.size,2,none⟩) hwb).trans f2
  have HB:=Lib.hid (HB1.out.1.trans ((HS.out.2.2.trans (HB6.out.mono HS.out.2.2.size)).mono HB1.out.1.size))
  clear d0 d1 d2 f0 f1 f2 q0 q0' q0'' cl hc3
  go_wp2_with fail
  refine(DE.out _).mono ?_
  rintro e w7 ⟨rfl,hb7⟩
  have hw6:w.heap.size<w6.heap.size:=World.block_lt_of_cell? _ _ e0
  have d0:=(hb7.cell hw6).trans e0
  have d1:=(hb7.cell (p:=⟨w.heap.size,1,none⟩) hw6).trans e1
  have d2:=(hb7.cell (p:=⟨w.heap.size,2,none⟩) hw6).trans e2
  have f0:=(hb7.frozen (p:=⟨w.heap.size,0,none⟩) hw6).trans g0
  have f1:=(hb7.frozen (p:=⟨w.heap.size,1,none⟩) hw6).trans g1
  have f2:=(hb7.frozen (p:=⟨w.heap.size,2,none⟩) hw6).trans g2
  have HB7:=Lib.hid (HB.out.trans (hb7.mono HB.out.size))
  clear hb7 e0 e1 e2 g0 g1 g2
  unfold entV
  go_wp2_with fail
  rw[hmap.out]
  exact bodyPost_ret (v:=.tuple #[entV en,.int .i64 0]) (by simp[results,Tryz.results35,go_sem,entV,d0,d1,d2,f0,f1,f2]) rfl ⟨rfl,((HB7.out.setCell (Nat.le_refl _) _).setCell (Nat.le_refl _) _).setCell (Nat.le_refl _) _⟩
 ·have i2:n<4:=by omega
  have i3:(n:Int)<4:=by omega
  have hnone:N (high page)=none:=by
   cases e:N (high page)with
   | none=>rfl
   | some f=>rw[e]at hlen;simp at hlen;omega
  have hm:Hid (mapOf x.R N page=Ent.none):=by show _=_;unfold mapOf;rw[hnone]
  clear hlen hnone h4
  go_wp2_with fail
  rw[hm.out]
  exact bodyPost_ret (v:=.tuple #[entV Ent.none,.int .i64 0]) (by simp[results,Tryz.results35,go_sem,entV,Ent.none,d0,d1,d2,f0,f1,f2]) rfl ⟨rfl,(((HB1.out.1.trans (HS.out.2.2.mono HB1.out.1.size)).setCell (Nat.le_refl _) _).setCell (Nat.le_refl _) _).setCell (Nat.le_refl _) _⟩
end
theorem Q8:∀(n:Nat) (l:List Nat),l.Nodup→(∀f∈l,f<n)→l.length≤n
 | 0,l,_,h=>by
  cases l with
  | nil=>simp
  | cons a l=>have:=h a (by simp);omega
 | n+1,l,hn,h=>by
  have h1:=Q8 n (l.erase n) (hn.erase n) (fun f hf=>by
   have:=(hn.mem_erase_iff).1 hf
   have:=h f this.2
   omega)
  have h2:=List.length_erase (a:=n) (l:=l)
  split at h2<;>omega
theorem xm.zh2{x:RPT}{N:List Nat→Option Nat}(h:xm x N):x.T.own.length≤1024:=by
 refine Q8 1024 x.T.own h.tree.nd fun f hf=>?_
 obtain⟨p,hp⟩:=(h.tree.own f).1 hf
 exact(h.tree.lt p f hp).1
theorem xm.prune1{x:RPT}{N:List Nat→Option Nat}(h:xm x N)(page:Nat)(list:List Int)(k:Nat)(hk:k<3)(hw:Vo N page list (k+1)){f g:Nat}(hf:N ((high page).take k)=some f)(hg:N ((high page).take (k+1))=some g)
  (he:Xr x.R g=true):
  ∃N',RPT.qa page list (k+1) x=RPT.qa page list k ⟨x.R.write f (8*digit page k) (leBytes 0 8),x.P.set g 1,⟨x.T.root,x.T.own.filter fun(a:Nat)=>decide ((a:Int)≠(g:Int))⟩⟩∧
   xm ⟨x.R.write f (8*digit page k) (leBytes 0 8),x.P.set g 1,⟨x.T.root,x.T.own.filter fun(a:Nat)=>decide ((a:Int)≠(g:Int))⟩⟩ N'∧Vo N' page list k∧g∈x.T.own∧x.P.use g=2∧g<1024∧f<1024∧x.R.bad f=false:=by
 obtain⟨g',hg',eg⟩:=hw (k+1) (Nat.le_refl _)
 obtain⟨f',hf',ef⟩:=hw k (by omega)
 rw[hf]at hf'
 rw[hg]at hg'
 cases hf'
 cases hg'
 have qg:=h.tree.lt _ _ hg
 have qf:=h.tree.lt _ _ hf
 have he':=he
 rw[Jf qg.1 qg.2.1]at he
 have hgo:g∈x.T.own:=(h.tree.own g).2 ⟨_,hg⟩
 have hfo:f∈x.T.own:=(h.tree.own f).2 ⟨_,hf⟩
 rw[←xy page k (by omega)]at hg
 have hd:=yg page k
 have c1:=h.tree.cut1 hf hd hg he
 have hfg:f≠g:=fun e=>by
  subst e
  have:=congrArg List.length (h.tree.inj _ _ _ hf hg)
  simp at this
 have hu:x.P.used g=true:=by
  unfold zk.used
  rw[decide_eq_true_eq,Int.toNat_natCast,h.tab g hgo]
  omega
 have st:Zq x ⟨x.R.write f (8*digit page k) (leBytes 0 8),x.P.set g 1,⟨x.T.root,x.T.own.filter fun(a:Nat)=>decide ((a:Int)≠(g:Int))⟩⟩:=by
  refine⟨rfl,rfl,fun a i h1 h2=>?_,fun a=>?_,rfl,rfl,fun a ha=>?_⟩
  ·show(x.R.write f (8*digit page k) (leBytes 0 8)).b a i=_
   rw[qm,if_neg]
   rintro⟨rfl,_⟩
   exact h2 hfo
  ·show(if a=g then 1 else x.P.use a)=_
   simp only[List.mem_filter,decide_eq_true_eq]
   by_cases e:a=g
   ·subst e
    simp[hgo]
   ·rw[if_neg e]
    by_cases e2:a∈x.T.own
    ·rw[if_pos ⟨e2,by omega⟩];exact h.tab a e2
    ·rw[if_neg (fun e=>e2 e.1),if_neg e2]
  ·exact .inl (List.mem_filter.1 ha).1
 refine⟨_,?_,h.step st c1,fun m hm=>?_,hgo,h.tab g hgo,qg.1,qf.1,qf.2.1⟩
 ·conv=>lhs;unfold RPT.qa
  rw[eg,ef,if_pos he']
  have e2:x.drop g=⟨x.R,x.P.set g 1,⟨x.T.root,x.T.own.filter fun(a:Nat)=>decide ((a:Int)≠(g:Int))⟩⟩:=by
   unfold RPT.drop zk.free
   rw[if_pos hu,Int.toNat_natCast]
  rw[e2]
  try simp only
  rw[Uh qf.1 qf.2.1 hd]
 ·obtain⟨a,ha,ea⟩:=hw m (by omega)
  refine⟨a,?_,ea⟩
  refine(if_neg ?_).trans ha
  rw[xy page k (by omega)]
  intro e
  have:=congrArg List.length e
  simp[high]at this
  omega
theorem xm.prune0{x:RPT}{N:List Nat→Option Nat}(_h:xm x N)(page:Nat)(list:List Int)(k:Nat)(hw:Vo N page list (k+1)){g:Nat}(hg:N ((high page).take (k+1))=some g)(he:Xr x.R g=false):
  RPT.qa page list (k+1) x=x:=by
 obtain⟨g',hg',eg⟩:=hw (k+1) (Nat.le_refl _)
 rw[hg]at hg'
 cases hg'
 unfold RPT.qa
 rw[eg,he]
 simp
abbrev C3(ct:Nat):Nat→Prop:=fun c=>c=1∨c=2∨c=ct
theorem xh.anew{w0 w:World}{tag0 tag:Nat→Nat}{q:Rq}{x:RPT}{C:Nat→Prop}(h:xh w tag q x)(s:Step C tag0 w0 tag w):
  ∃tag1,xh w tag1 q x∧Step C tag0 w0 tag1 w∧∀b,w.heap.size≤b→tag1 b=0:=
 ⟨retag tag w 0,h.norm,s.trans (Vt C tag w),fun _ hb=>Xe hb⟩
def LiAt(w:World)(tag:Nat→Nat)(u:Nat)(v:Value)(l:List Int):Prop:=SlAt w 3 1 v l.length (l.map iV)∧∀b,v.ownBlock=some b→tag b=u
theorem LiAt.step{w w':World}{tag tag':Nat→Nat}{v:Value}{l:List Int}{C:Nat→Prop}{u:Nat}(h:LiAt w tag u v l)(s:Step C tag w tag' w')(hC:¬C u):LiAt w' tag' u v l:=
 ⟨h.1.keep fun b hb=>(s.keeps hC b (h.1.lt b hb) (h.2 b hb)).2,fun b hb=>(s.keeps hC b (h.1.lt b hb) (h.2 b hb)).1⟩
theorem LiAt.below{w w':World}{tag:Nat→Nat}{v:Value}{l:List Int}{u:Nat}(h:LiAt w tag u v l)(hb:Below w.heap.size w w'):LiAt w' tag u v l:=h.step (C:=fun _=>False) (Step.of_below hb) (fun h=>h)
theorem LiAt.at{w:World}{tag:Nat→Nat}{v:Value}{l:List Int}{u:Nat}(h:LiAt w tag u v l){k:Nat}(hk:k<l.length):∃b off c,v=.slice (some ⟨b,off,none⟩) l.length c∧∀i n,l[i]?=some n→w.cell? ⟨b,off+i,none⟩=some (.int .i64 n):=by
 obtain⟨b,off,c,e,_,_,hx⟩:=SlAt.cells h.1 (by simp;omega)
 exact⟨b,off,c,e,fun i n hn=>(hx i (iV n) (by rw[List.getElem?_map,hn];rfl)).1⟩
theorem row_step{w w':World}{tag tag':Nat→Nat}{b n:Nat}{g:Nat→Value}{C:Nat→Prop}(h:Row w b n g)(hb:tag b=0)(s:Step C tag w tag' w')(hC:¬C 0):Row w' b n g∧tag' b=0:=
 ⟨h.keep (s.keeps hC b h.lt hb).2,(s.keeps hC b h.lt hb).1⟩
theorem getD_some{l:List Int}{k:Nat}{f:Int}(hk:k<l.length)(h:l.getD k 0=f):l[k]?=some f:=by
 rw[List.getD_eq_getElem?_getD,List.getElem?_eq_getElem hk]at h
 rw[List.getElem?_eq_getElem hk]
 simpa using h
def zmq(w:World)(tag:Nat→Nat)(u:Nat)(q:Rq)(page:Nat)(l:List Int)(v:Value)(db:Nat)(y:RPT)(s7:Value)(W:World):Prop:=
 ∃(k:Nat) (x:RPT) (N:List Nat→Option Nat) (tag':Nat→Nat),k<l.length∧s7=.int .i64 k∧
  Hid (RPT.qa page l k x=y∧xm x N∧Vo N page l k∧xh W tag' q x∧Step (C3 q.ct) tag w tag' W∧LiAt W tag' u v l∧Row W db 4 (fun i=>.int .i64 (digit page i))∧tag' db=0∧∀b,W.heap.size≤b→tag' b=0)
section
variable (w:World)(tag:Nat→Nat)(q:Rq)(x:RPT)(N:List Nat→Option Nat)
theorem Ui(h:xh w tag q x)(ok:xm x N)(page:Nat)(hpg:page<4096)(l:List Int)(v:Value)(u:Nat)(hu:¬C3 q.ct u)(hl:LiAt w tag u v l)(h1:1≤l.length)(h4:l.length≤4)(hw:Vo N page l (l.length-1)):
  Calls Tryz.prog 185 #[.pointer (some ⟨q.t,0,none⟩),.int .i64 page,v] w fun e w'=>e=.returned (.tuple #[])∧
   ∃tag',xh w' tag' q (x.prune page l)∧Step (C3 q.ct) tag w tag' w':=by
 obtain⟨tag0,h,s0,hn0⟩:=h.anew (Step.refl (C3 q.ct) tag w)
 have hl0:=hl.step s0 hu
 obtain⟨y,hy⟩:∃y,x.prune page l=y:=⟨_,rfl⟩
 obtain⟨b,off,c,ev,_⟩:=hl0.at (k:=0) (by omega)
 subst ev
 have HY:=Lib.hid hy
 have H:=Lib.hid (And.intro h (And.intro ok (And.intro s0 (And.intro hl0 (And.intro hn0 hw)))))
 clear h ok s0 hn0 hl0 hw hl hy
 generalize hL:l.length=n at *
 have HL:=Lib.hid hL
 have i1:(1:Int)≤n:=by omega
 have i4:(n:Int)≤4:=by omega
 clear hL
 go_enter Tryz.func185,Tryz.ntmps185
 go_wp2_with fail
 refine(Zp _ page page rfl hpg).mono ?_
 rintro e w1 ⟨rfl,hb1⟩
 have HB1:=Lib.hid hb1
 clear hb1
 unfold digV
 go_wp2_with fail
 go_loopw [7] (zmq w tag u q page l (.slice (some ⟨b,off,none⟩) n c) w1.heap.size y) (fun k _=>(intOf k).toNat)
 case atStart=>
  have hb2:Below w.heap.size w (w1.alloc (.cells #[.int .i64 (digit page 0),.int .i64 (digit page 1),.int .i64 (digit page 2),.int .i64 (digit page 3)] 148 (0,0))):=HB1.out.trans (((Below.refl w1.heap.size w1).alloc (Nat.le_refl _) _).mono HB1.out.size)
  obtain⟨r1,r2,r3,r4,r5,r6⟩:=H.out
  refine⟨n-1,x,N,tag0,by rw[HL.out];omega,by go_num,?_,r2,r6,r1.below hb2,r3.trans (Step.of_below hb2),r4.below hb2,?_,r5 _ HB1.out.size,fun b hb=>r5 b (Nat.le_trans hb2.size hb)⟩
  ·have:=HY.out
   unfold RPT.prune at this
   rw[HL.out]at this
   exact this
  ·exact Row.new w1 4 (fun i=>.int .i64 (digit page i)) _ 148 rfl (fun i hi=>by
    have:i=0∨i=1∨i=2∨i=3:=by omega
    rcases this with rfl|rfl|rfl|rfl<;>rfl)
 case round=>
  obtain⟨k,z,M,tag1,hk,rfl,hR⟩:=hrel
  by_cases hk0:k=0
  ·subst hk0
   go_wp2_with fail
   refine bodyPost_end (v:=.tuple #[]) (by simp[results,Tryz.results185,go_sem]) rfl ⟨rfl,tag1,?_,hR.out.2.2.2.2.1⟩
   rw[HY.out,←hR.out.1]
   exact hR.out.2.2.2.1
  ·obtain⟨j,rfl⟩:∃j,k=j+1:=⟨k-1,by omega⟩
   obtain⟨r1,r2,r3,r4,r5,r6,r7,r8,r9⟩:=hR.out
   obtain⟨g,hg,eg⟩:=r3 (j+1) (Nat.le_refl _)
   obtain⟨f,hf,ef⟩:=r3 j (by omega)
   have qg:=r2.tree.lt _ _ hg
   obtain⟨b',off',c',ev,hcell⟩:=r6.at (k:=0) (by omega)
   rw[HL.out]at ev
   cases ev
   have cg:=hcell (j+1) g (getD_some hk eg)
   have cf:=hcell j f (getD_some (by omega) ef)
   have E:=Lib.hid (zgh wr tag1 q z r4 g g rfl qg.1 qg.2.1)
   have j1:(0:Int)<(j:Int)+1:=by omega
   have j2:(j:Int)+1<n:=by have:=HL.out;omega
   have j3:(0:Int)≤j:=by omega
   have j4:(j:Int)+1-1=j:=by omega
   have j5:j<4:=by have:=HL.out;omega
   have j6:j<3:=by have:=HL.out;omega
   have j7:(j:Int)<4:=by omega
   cases he:Xr z.R g with
   | false=>
    have e1:=r2.prune0 page l j r3 hg he
    rw[he]at E
    have FIN:Hid (xh wr tag1 q y∧Step (C3 q.ct) tag w tag1 wr):=by
     rw[←r1,e1]
     exact⟨r4,r5⟩
    clear r1 r2 r3 r4 r5 r6 r7 r8 r9 hcell hg hf eg ef he e1
    go_wp2_with fail
    refine E.out.mono ?_
    rintro e w3 ⟨rfl,hb3⟩
    have HB3:=Lib.hid hb3
    clear hb3
    go_wp2_with fail
    exact bodyPost_end (v:=.tuple #[]) (by simp[results,Tryz.results185,go_sem]) rfl ⟨rfl,tag1,by rw[HY.out];exact FIN.out.1.below HB3.out,FIN.out.2.trans (Step.of_below HB3.out)⟩
   | true=>
    obtain⟨M',p1,p2,p3,p4,p5,p6,p7,p8⟩:=r2.prune1 page l j j6 r3 hf hg he
    rw[he]at E
    have hlen:=r2.zh2
    have D:=Lib.hid (fun W' (hb:Below wr.heap.size wr W')=>zjb W' tag1 q z (r4.below hb) g g rfl p6 p5 (fun e=>by rw[e]at p4;cases p4) (by omega))
    have R:=Lib.hid (And.intro r1 (And.intro r4 (And.intro r5 (And.intro r6 (And.intro r7 (And.intro r8 r9))))))
    have PP:=Lib.hid (And.intro p1 (And.intro p2 (And.intro p3 (And.intro p7 p8))))
    clear r1 r2 r3 r4 r5 r6 r7 r8 r9 hcell hg hf eg ef he p1 p2 p3 p4 p5 p6 p7 p8 hlen
    go_wp2_with fail
    refine E.out.mono ?_
    rintro e w3 ⟨rfl,hb3⟩
    have cg3:=(hb3.cell (World.block_lt_of_cell? _ _ cg)).trans cg
    have HB3:=Lib.hid hb3
    clear hb3 cg
    go_wp2_with fail
    refine(D.out w3 HB3.out).mono ?_
    rintro e w4 ⟨rfl,tag2,d1,d2⟩
    obtain⟨tag3,e1,e2,e3⟩:=d1.anew d2
    obtain⟨r1,r4,r5,r6,r7,r8,r9⟩:=R.out
    have hc0:¬(0=2∨0=q.ct):=by have:=e1.ct;omega
    have hu0:¬(u=2∨u=q.ct):=fun e=>hu (.inr e)
    have L4:=(r6.below HB3.out).step e2 hu0
    have D4:=row_step (r7.below HB3.out) r8 e2 hc0
    have S4:=((r5.trans (Step.of_below HB3.out)).trans (e2.mono (C':=C3 q.ct) (fun c e=>.inr e)))
    have cf4:w4.cell? ⟨b,off+j,none⟩=some (.int .i64 f):=by
     have h5:=(HB3.out.cell (World.block_lt_of_cell? _ _ cf)).trans cf
     have hb0:tag1 b=u:=r6.2 b rfl
     exact e2.turn.cell h5 (by show ¬(tag1 b=2∨tag1 b=q.ct);rw[hb0];exact hu0)
    have cd4:w4.cell? ⟨w1.heap.size,j,none⟩=some (.int .i64 (digit page j)):=D4.1.cell j5
    have hlb:b<w4.heap.size:=World.block_lt_of_cell? _ _ cf4
    have hld:w1.heap.size<w4.heap.size:=World.block_lt_of_cell? _ _ cd4
    have F4:=Lib.hid (And.intro e1 (And.intro e3 (And.intro L4 (And.intro D4 (And.intro S4 r1)))))
    obtain⟨W,hW⟩:∃W,W=w4.drew:=⟨_,rfl⟩
    have hdW:w4.drew=W:=hW.symm
    have q0:W.cell? ⟨b,off+j,none⟩=some (.int .i64 f):=by rw[hW];exact cf4
    have q1:W.cell? ⟨w1.heap.size,j,none⟩=some (.int .i64 (digit page j)):=by rw[hW];exact cd4
    have HBW:Hid (Below w4.heap.size w4 W):=by rw[hW];exact(Below.refl _ _).drew
    have PT:=Lib.hid (fun(W':World) (hb:Below w4.heap.size w4 W')=>Vs W' tag3 q _ (F4.out.1.below hb) f (digit page j) 0 f (digit page j) 0 rfl rfl rfl PP.out.2.2.2.1 PP.out.2.2.2.2 (yg _ _) (by omega))
    clear d1 d2 e1 e2 e3 r1 r4 r5 r6 r7 r8 r9 L4 D4 S4 cf4 cd4 cf cg3 hW
    have j8:(j:Int)<n:=by have:=HL.out;omega
    have j9:IntKind.i64.wrap (j:Int)=j:=IntWalk.i64_in _ (by omega)
    have j10:j<n:=by have:=HL.out;omega
    go_wp2_with fail
    go_region_held (fun W'=>W'.cell? ⟨b,off+j,none⟩=some (.int .i64 f)∧W'.cell? ⟨w1.heap.size,j,none⟩=some (.int .i64 (digit page j))) (go_keep)
     ((go_at_call 184;refine(PT.out W HBW.out).mono ?_;rintro e w5 ⟨rfl,t1,t2⟩;have T5:=Lib.hid (And.intro t1 t2);have q0':w5.cell? ⟨b,off+j,none⟩=some (.int .i64 f):=t2.turn.cell q0 (by show ¬tag3 b=1;rw[F4.out.2.2.1.2 b rfl];exact fun e=>hu (.inl e));have q1':w5.cell? ⟨w1.heap.size,j,none⟩=some (.int .i64 (digit page j)):=t2.turn.cell q1 (by show ¬tag3 w1.heap.size=1;rw[F4.out.2.2.2.1.2];decide);clear t1 t2))
    obtain⟨u1,u2,u3,u4,u5,u6⟩:=F4.out
    obtain⟨tag4,v1,v2,v3⟩:=T5.out.1.anew T5.out.2
    have hc1:¬(0=1):=by decide
    have FIN:Hid (xh w5 tag4 q _∧Step (C3 q.ct) tag w tag4 w5∧LiAt w5 tag4 u (.slice (some ⟨b,off,none⟩) n c) l∧(Row w5 w1.heap.size 4 (fun i=>.int .i64 (digit page i))∧tag4 w1.heap.size=0)∧∀b,w5.heap.size≤b→tag4 b=0):=
     ⟨v1,(u5.trans (Step.of_below HBW.out)).trans (v2.mono (fun c e=>.inl e)),(u3.below HBW.out).step v2 (fun e=>hu (.inl e)),row_step (u4.1.below HBW.out) u4.2 v2 hc1,v3⟩
    have R1:=Lib.hid (PP.out.1.symm.trans u6)
    clear u1 u2 u3 u4 u5 u6 v1 v2 v3 q0 q1 q0' q1'
    go_wp2_with fail
    go_roundw
    case rel=>exact⟨j,_,M',tag4,by omega,rfl,R1.out,PP.out.2.1,PP.out.2.2.1,FIN.out.1,FIN.out.2.1,FIN.out.2.2.1,FIN.out.2.2.2.1.1,FIN.out.2.2.2.1.2,FIN.out.2.2.2.2⟩
    case measure=>simp[intOf]
end
end Go.Proofs.YtnhdmnijiphjjaaGreat
