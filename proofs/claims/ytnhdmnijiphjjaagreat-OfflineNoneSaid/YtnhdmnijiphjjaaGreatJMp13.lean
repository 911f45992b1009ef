/- Processes: Put: a place's entry is another one. -/
import Derived.Test.YtnhdmnijiphjjaaGreatJMp12
import Derived.Deep.RegionHeld
set_option linter.unusedVariables false
set_option linter.unusedSimpArgs false
set_option maxRecDepth 100000
set_option maxHeartbeats 2000000
namespace Go.Proofs.YtnhdmnijiphjjaaGreat
open Go Go.RowKit
def zoj(x:za)(n:Nat)(pr:yj)(page:Nat)(e old:Ent)(r:Int)(x':za):Prop:=
 (old=e∧r=0∧x'=x)∨(old≠e∧((⟨x.R,x.P,pr.T⟩:RPT).set page e).1≠0∧r=((⟨x.R,x.P,pr.T⟩:RPT).set page e).1∧x'=x.xc n pr ((⟨x.R,x.P,pr.T⟩:RPT).set page e).2)∨
 (old≠e∧((⟨x.R,x.P,pr.T⟩:RPT).set page e).1=0∧r=0∧x'=((((x.xc n pr ((⟨x.R,x.P,pr.T⟩:RPT).set page e).2).put1 e ((n:Int),(page:Int))).put2 e ((n:Int),(page:Int))).put3 e old ((n:Int),(page:Int))).put4 e old ((n:Int),(page:Int)))
def CP(n c:Nat):Prop:=c=1∨c=2∨c=4∨c=6∨c=10+n
theorem Zf{x:za}{e:Ent}{p:Int×Int}(h:e.kind≠1):x.put1 e p=x:=if_neg h
theorem Ze{x:za}{e:Ent}{p:Int×Int}(h:e.kind≠2):x.put2 e p=x:=if_neg h
theorem jg{x:za}{e old:Ent}{p:Int×Int}(h:¬(old.kind=1∧(e.kind≠1∨e.n≠old.n))):x.put3 e old p=x:=if_neg h
theorem jf{x:za}{e old:Ent}{p:Int×Int}(h:¬(old.kind=2∧(e.kind≠2∨e.n≠old.n))):x.put4 e old p=x:=if_neg h
theorem zey(l:List (Int×Int))(p:Int×Int):(putP l p).length≤l.length+1:=by
 unfold putP
 split
 ·omega
 ·have:=(V5 p l).length_eq
  simp at this
  omega
theorem zm9(x:za)(e:Ent)(p:Int×Int)(f:Int)(m:Nat)(h:∀f,(x.B f).length≤m):((x.put1 e p).B f).length≤m+1:=by
 unfold za.put1
 split
 ·show(updF x.B e.n _ f).length≤_
  unfold updF
  split
  ·have:=zey (x.B e.n) p
   have:=h e.n
   omega
  ·have:=h f
   omega
 ·have:=h f
  omega
theorem ze2(x:za)(e:Ent)(p:Int×Int):(x.put1 e p).S=x.S:=by unfold za.put1;split<;>rfl
theorem zm8(x:za)(e:Ent)(p:Int×Int):(x.put2 e p).B=x.B:=by unfold za.put2;split<;>rfl
theorem ze0(x:za)(e:Ent)(p:Int×Int)(m:Nat)(h:∀l∈x.S,l.length≤m):(x.put2 e p).S.length=x.S.length∧∀l∈(x.put2 e p).S,l.length≤m+1:=by
 unfold za.put2
 split
 ·refine⟨List.length_set,fun l hl=>?_⟩
  rcases List.mem_or_eq_of_mem_set hl with hl|rfl
  ·have:=h l hl;omega
  ·have h1:=zey (x.S.getD e.n.toNat []) p
   have h2:(x.S.getD e.n.toNat []).length≤m:=by
    rw[List.getD_eq_getElem?_getD]
    cases hg:x.S[e.n.toNat]? with
    | none=>simp
    | some a=>exact h a (List.mem_of_getElem? hg)
   omega
 ·exact⟨rfl,fun l hl=>by have:=h l hl;omega⟩
section
variable {w w':World}{tag tag':Nat→Nat}{q:Sq}{x:za}
set_option maxHeartbeats 40000000 in
theorem zmk(h:zb w tag q x)(n page:Nat)(pr:yj)(hn:n<8)(hp:x.T n=some pr)(N:List Nat→Option Nat)(ok:xm ⟨x.R,x.P,pr.T⟩ N)(hpg:page<4096)(e:Ent)(he:e.ok=true)(old:Ent)(hold:mapOf x.R N page=old)(ho:old.ok=true)(hL:zj4 x):
  Calls Tryz.prog 88 #[ptrV q.sp,.agg #[.int .i64 n,.int .i64 page],entV e] w fun r w'=>∃c x' tag',r=.returned (.int .i64 c)∧zoj x n pr page e old c x'∧zb w' tag' q x'∧Step (CP n) tag w tag' w':=by
 obtain⟨w0,hw0⟩:∃w0,w0=(w.alloc (.cells #[.int .i64 n,.int .i64 page] 58 (0,0))).alloc (.cells #[.int .i64 e.kind,.int .i64 e.n,.bool e.write] 70 (0,0)):=⟨_,rfl⟩
 have hb0:Below w.heap.size w w0:=by rw[hw0];exact((Below.refl w.heap.size w).alloc (Nat.le_refl _) _).alloc (by simp) _
 have z0:w0.heap.size=w.heap.size+2:=by rw[hw0];simp
 have nb5:w0.heap[w.heap.size+1]?=some (.cells #[.int .i64 e.kind,.int .i64 e.n,.bool e.write] 70 (0,0)):=by
  rw[hw0]
  have:=heap_alloc_new (w.alloc (.cells #[.int .i64 n,.int .i64 page] 58 (0,0))) (.cells #[.int .i64 e.kind,.int .i64 e.n,.bool e.write] 70 (0,0))
  rw[World.size_alloc]at this
  exact this
 have nb4:w0.heap[w.heap.size]?=some (.cells #[.int .i64 n,.int .i64 page] 58 (0,0)):=by
  rw[hw0,Below.heap_alloc _ _ _ (by simp)]
  exact heap_alloc_new w _
 have d41:w0.cell? ⟨w.heap.size,1,none⟩=some (.int .i64 page):=by rw[cell_of_row _ _ 1 _ _ _ nb4];rfl
 have s0:Step (fun _=>False) tag w (retag tag w 0) w0:=Step.anew hb0
 have h0:zb w0 (retag tag w 0) q x:=h.step s0
 have ht4:retag tag w 0 w.heap.size=0:=yc _ _ _ _ (Nat.le_refl _)
 have ht5:retag tag w 0 (w.heap.size+1)=0:=yc _ _ _ _ (Nat.le_succ _)
 obtain⟨tag0,htag⟩:∃tag0,tag0=retag tag w 0:=⟨_,rfl⟩
 rw[←htag]at s0 h0 ht4 ht5
 clear htag
 have F:=Lib.hid (Zh h0 (n:Int))
 have ev:Ye q x (n:Int)=.tuple #[ptrV (q.U n).ap,.bool true]:=by
  unfold Ye
  rw[show((n:Nat):Int).toNat=n by omega,hp]
  have:(0:Int)≤n:=by omega
  simp[this]
 rw[ev]at F
 obtain⟨av,r1,_,_⟩:=(h0.procs n pr hn hp).row
 have c0:w0.cell? ⟨(q.U n).ap,0,none⟩=some (ptrV (q.U n).tp):=r1.cell (i:=0) (by omega)
 have hapl:=r1.lt
 have G:Hid (∀W',Below w0.heap.size w0 W'→Calls Tryz.prog 35 #[.pointer (some ⟨(q.U n).tp,0,none⟩),.int .i64 page] W' fun r w2=>r=.returned (.tuple #[entV old,.int .i64 0])∧w2.cell? ⟨(q.U n).ap,0,none⟩=some (ptrV (q.U n).tp)∧w2.cell? ⟨w.heap.size,1,none⟩=some (.int .i64 page)∧
   (∀o,(w2.alloc o).cell? ⟨(q.U n).ap,0,none⟩=some (ptrV (q.U n).tp)∧(w2.alloc o).cell? ⟨w.heap.size,1,none⟩=some (.int .i64 page))∧(¬w2.heap.size=(q.U n).ap∧¬w2.heap.size=w.heap.size)∧Below W'.heap.size W' w2):=fun W' hW'=>by
  rw[←hold]
  refine(Vb _ _ _ _ _ ((h0.below hW').rpt hn hp) ok.tree page page rfl hpg).mono ?_
  rintro r w2 ⟨rfl,hb⟩
  have hbb:=hW'.trans (hb.mono hW'.size)
  have a1:=(hbb.cell (World.block_lt_of_cell? _ _ c0)).trans c0
  have a2:=(hbb.cell (World.block_lt_of_cell? _ _ d41)).trans d41
  exact⟨rfl,a1,a2,fun o=>⟨(World.cell?_alloc_lt _ _ _ (World.block_lt_of_cell? _ _ a1)).trans a1,(World.cell?_alloc_lt _ _ _ (World.block_lt_of_cell? _ _ a2)).trans a2⟩,⟨fun e=>by have:=World.block_lt_of_cell? _ _ a1;rw[e]at this;exact Nat.lt_irrefl _ this,fun e=>by have:=World.block_lt_of_cell? _ _ a2;rw[e]at this;exact Nat.lt_irrefl _ this⟩,hb⟩
 have hne2:¬w.heap.size+2=(q.U n).ap:=by rw[←z0];omega
 have k0a:∀o,(w0.alloc o).cell? ⟨(q.U n).ap,0,none⟩=some (ptrV (q.U n).tp):=fun o=>(World.cell?_alloc_lt _ _ _ (World.block_lt_of_cell? _ _ c0)).trans c0
 have k4a:∀o,(w0.alloc o).cell? ⟨w.heap.size,1,none⟩=some (.int .i64 page):=fun o=>(World.cell?_alloc_lt _ _ _ (World.block_lt_of_cell? _ _ d41)).trans d41
 have G1:=Lib.hid (G.out w0.drew (Below.refl _ _).drew)
 have G2:Hid (Calls Tryz.prog 35 #[.pointer (some ⟨(q.U n).tp,0,none⟩),.int .i64 page] (w0.alloc (.cells #[.int .i64 0,.int .i64 0,.bool false] 70)).drew fun r w2=>r=.returned (.tuple #[entV old,.int .i64 0])∧w2.cell? ⟨(q.U n).ap,0,none⟩=some (ptrV (q.U n).tp)∧w2.cell? ⟨w.heap.size,1,none⟩=some (.int .i64 page)∧
   (w2.cell? ⟨w.heap.size+2,0,none⟩=some (.int .i64 0)∧w2.cell? ⟨w.heap.size+2,1,none⟩=some (.int .i64 0)∧w2.cell? ⟨w.heap.size+2,2,none⟩=some (.bool false)∧w2.frozen? ⟨w.heap.size+2,0,none⟩=false∧w2.frozen? ⟨w.heap.size+2,1,none⟩=false∧w2.frozen? ⟨w.heap.size+2,2,none⟩=false)∧Below (w0.alloc (.cells #[.int .i64 0,.int .i64 0,.bool false] 70)).heap.size (w0.alloc (.cells #[.int .i64 0,.int .i64 0,.bool false] 70)) w2):=by
  refine(G.out _ ((Below.refl _ _).alloc (Nat.le_refl _) _).drew).mono ?_
  rintro r w2 ⟨rfl,g1,g2,g3,_,hb⟩
  have hb:Below (w0.alloc (.cells #[.int .i64 0,.int .i64 0,.bool false] 70)).heap.size (w0.alloc (.cells #[.int .i64 0,.int .i64 0,.bool false] 70)) w2:=⟨hb.os,hb.tape,hb.output,hb.size,hb.block⟩
  have nb:=(hb.block w0.heap.size (by simp)).trans (heap_alloc_new w0 (.cells #[.int .i64 0,.int .i64 0,.bool false] 70))
  rw[z0]at nb
  exact⟨rfl,g1,g2,⟨by rw[cell_of_row _ _ 0 _ _ _ nb];rfl,by rw[cell_of_row _ _ 1 _ _ _ nb];rfl,by rw[cell_of_row _ _ 2 _ _ _ nb];rfl,by simp[World.frozen?,nb],by simp[World.frozen?,nb],by simp[World.frozen?,nb]⟩,hb⟩
 clear G
 have HH:=Lib.hid (fun W3 b9 hb hb9 c90 c91 c92=>Zr.start (p:=((n:Int),(page:Int))) (old:=old) (b9:=b9) (W3:=W3) h0 nb4 nb5 ht4 ht5 hb hb9 c90 c91 c92)
 have HS0:=Lib.hid (And.intro s0 z0)
 have HW:=Lib.hid hw0
 unfold ptrV at F c0 G1 G2 k0a⊢
 unfold entV at G1 G2⊢
 clear h ev r1 hb0 nb4 nb5 s0 h0 hw0 ht4 ht5 hapl hold
 go_enter Tryz.func88,Tryz.ntmps88
 go_wp2_with fail
 rw[←HW.out]
 refine F.out.mono ?_
 rintro r u ⟨rfl,hu⟩
 have hu:=hu.symm
 subst hu
 clear F
 go_wp2_with fail
 go_region_held (fun W'=>W'.cell? ⟨(q.U n).ap,0,none⟩=some (.pointer (some ⟨(q.U n).tp,0,none⟩))∧W'.cell? ⟨w.heap.size,1,none⟩=some (.int .i64 page)) (go_keep)
  (first
   | (go_at_call 35;refine G1.out.mono ?_;rintro r w2 ⟨rfl,g1,g2,g3,⟨gn1,gn2⟩,HX⟩;have hX:=Lib.hid HX;clear HX)
   | (go_at_call 35;refine G2.out.mono ?_;rintro r w2 ⟨rfl,g1,g2,⟨y0,y1,y2,y3,y4,y5⟩,HX⟩;have hX:=Lib.hid HX;clear HX))
 ·have PI:=Lib.hid (HH.out (w2.alloc (.cells #[.int .i64 old.kind,.int .i64 old.n,.bool old.write] 70 (0,0))) w2.heap.size (Below.trans (b:=w2) ⟨hX.out.os,hX.out.tape,hX.out.output,hX.out.size,hX.out.block⟩ ((Below.refl _ _).alloc hX.out.size _)) hX.out.size (by go_simp) (by go_simp) (by go_simp))
  clear g1 g2 g3 gn1 gn2 HH hX c0 d41 k0a k4a z0 hne2
  generalize w2.heap.size=b9 at PI⊢
  generalize (w2.alloc (.cells #[.int .i64 old.kind,.int .i64 old.n,.bool old.write] 70 (0,0)))=W3 at PI⊢
  obtain⟨av3,r3,_,_⟩:=(PI.out.1.sp.procs n pr hn hp).row
  have e0:W3.cell? ⟨(q.U n).ap,0,none⟩=some (.pointer (some ⟨(q.U n).tp,0,none⟩)):=r3.cell (i:=0) (by omega)
  have e1:=PI.out.1.c41
  have e2:=PI.out.1.c50
  have e3:=PI.out.1.c51
  have e4:=PI.out.1.c52
  have e5:=PI.out.1.c90
  have e6:=PI.out.1.c91
  have e7:=PI.out.1.c92
  dsimp only at e1
  clear r3
  obtain⟨⟨y1,y2⟩,hy⟩:∃y,(⟨x.R,x.P,pr.T⟩:RPT).set page e=y:=⟨_,rfl⟩
  have HY:=Lib.hid hy
  clear hy
  have HL:=Lib.hid hL
  by_cases hoe:old=e
  ·have HEQ:Hid (decide (old=e)=true):=by rw[decide_eq_true hoe];trivial
   have HOE:=Lib.hid hoe
   clear hoe
   go_wp2_with (refine BigFrame.wpList_want rfl (fun K hK=>Vq (.tmp 34) (.tmp 35) _ rfl old e rfl rfl true HEQ (hK _ _ ?_)))
   exact bodyPost_ret (v:=.int .i64 0) (by simp[results,Tryz.results88,go_sem]) rfl ⟨0,x,_,rfl,.inl ⟨HOE.out,rfl,rfl⟩,PI.out.1.sp,(HS0.out.1.mono (fun _ h=>h.elim)).trans (PI.out.2.mono (fun _ h=>h.elim))⟩
  ·have HEQ:Hid (decide (old=e)=false):=by rw[decide_eq_false hoe];trivial
   have HOE:=Lib.hid hoe
   clear hoe
   go_wp2_with (refine BigFrame.wpList_want rfl (fun K hK=>Vq (.tmp 34) (.tmp 35) _ rfl old e rfl rfl false HEQ (hK _ _ ?_)))
   have SC:Hid (Calls Tryz.prog 140 #[.pointer (some ⟨(q.U n).tp,0,none⟩),.int .i64 page,.agg #[.int .i64 e.kind,.int .i64 e.n,.bool e.write]] W3.drew fun r w4=>r=.returned (.int .i64 y1)∧
     (w4.cell? ⟨(q.U n).ap,0,none⟩=some (.pointer (some ⟨(q.U n).tp,0,none⟩))∧w4.cell? ⟨w.heap.size,1,none⟩=some (.int .i64 page)∧w4.cell? ⟨w.heap.size+1,0,none⟩=some (.int .i64 e.kind)∧w4.cell? ⟨w.heap.size+1,1,none⟩=some (.int .i64 e.n)∧w4.cell? ⟨w.heap.size+1,2,none⟩=some (.bool e.write))∧
     ∃tag4,Zr w4 tag4 q (x.xc n pr y2) w.heap.size (w.heap.size+1) b9 ((n:Int),(page:Int)) e old∧Step (C3 (10+n)) tag0 w0 tag4 w4):=by
    have hD:=PI.out.1.drew
    have SW:=zfs _ _ _ _ _ (hD.sp.rpt hn hp) ok page page rfl hpg e he
    rw[HY.out]at SW
    refine SW.mono ?_
    rintro r w4 ⟨rfl,tag4,h4,s4⟩
    have S4:=hD.sp.ofRpt hn hp s4 h4
    have c0':¬C3 (10+n) 0:=by unfold C3;omega
    have P4:=hD.step s4 c0' S4
    obtain⟨av4,r4,_,_⟩:=(S4.procs n ⟨y2.T,pr.A,pr.Q⟩ hn (if_pos rfl)).row
    exact⟨rfl,⟨r4.cell (i:=0) (by omega),P4.c41,P4.c50,P4.c51,P4.c52⟩,tag4,P4,((PI.out.2.mono (fun _ h=>h.elim)).trans ((Step.of_below (Below.refl _ _).drew))).trans s4⟩
   go_region_held (fun W'=>W'.cell? ⟨(q.U n).ap,0,none⟩=some (.pointer (some ⟨(q.U n).tp,0,none⟩))∧W'.cell? ⟨w.heap.size,1,none⟩=some (.int .i64 page)∧W'.cell? ⟨w.heap.size+1,0,none⟩=some (.int .i64 e.kind)∧W'.cell? ⟨w.heap.size+1,1,none⟩=some (.int .i64 e.n)∧W'.cell? ⟨w.heap.size+1,2,none⟩=some (.bool e.write)) (go_keep)
    ((go_at_call 140;refine SC.out.mono ?_;rintro r w4 ⟨rfl,⟨m0,m1,m2,m3,m4⟩,HX⟩;have hX:=Lib.hid HX;clear HX))
   obtain⟨tag4,P4,S4⟩:=hX.out
   have X4:=Lib.hid (And.intro P4 S4)
   clear P4 S4 hX e0 e1 e2 e3 e4 e5 e6 e7 m0 m1 m2 m3 m4 SC hL
   by_cases hr:y1=0
   ·subst hr
    by_cases k1:e.kind=1
    ·by_cases o1:old.kind=1
     ·by_cases nn:e.n=old.n
      ·have K1b:((e.kind:Int)==1)=true:=beq_iff_eq.2 (by omega)
       have K2b:((e.kind:Int)==2)=false:=beq_eq_false_iff_ne.2 (by omega)
       have O1b:((old.kind:Int)==1)=true:=beq_iff_eq.2 (by omega)
       have O2b:((old.kind:Int)==2)=false:=beq_eq_false_iff_ne.2 (by omega)
       have NNb:(e.n==old.n)=true:=beq_iff_eq.2 nn
       have K1p:((e.kind:Int)=1)=True:=eq_true (by omega)
       have K2p:((e.kind:Int)=2)=False:=eq_false (by omega)
       have O1p:((old.kind:Int)=1)=True:=eq_true (by omega)
       have O2p:((old.kind:Int)=2)=False:=eq_false (by omega)
       have NNc:(e.n != old.n)=false:=by simp[bne,NNb]
       have NNp:(e.n=old.n)=True:=eq_true nn
       have K1:=Lib.hid k1
       have N2:Hid (e.kind≠2):=(by omega:e.kind≠2)
       have N3:Hid (¬(old.kind=1∧(e.kind≠1∨e.n≠old.n))):=(by omega:¬(old.kind=1∧(e.kind≠1∨e.n≠old.n)))
       have N4:Hid (¬(old.kind=2∧(e.kind≠2∨e.n≠old.n))):=(by omega:¬(old.kind=2∧(e.kind≠2∨e.n≠old.n)))
       clear k1 o1 nn
       obtain⟨c40,c41,c42,c43,c44,c45,c46,c47⟩:=X4.out.1.all
       dsimp only at c42 c43
       have A:=Lib.hid (X4.out.1.drew.add (HL.out.1 e.n) K1.out he)
       dsimp only at A
       go_wp2_with fail
       go_region_held (fun W'=>W'.cell? ⟨q.sp,3,none⟩=some (.pointer (some ⟨q.bp,0,none⟩))∧W'.cell? ⟨q.sp,5,none⟩=some (.pointer (some ⟨q.wp,0,none⟩))∧W'.cell? ⟨w.heap.size,0,none⟩=some (.int .i64 n)∧W'.cell? ⟨w.heap.size,1,none⟩=some (.int .i64 page)∧W'.cell? ⟨w.heap.size+1,0,none⟩=some (.int .i64 e.kind)∧W'.cell? ⟨w.heap.size+1,1,none⟩=some (.int .i64 e.n)∧W'.cell? ⟨b9,0,none⟩=some (.int .i64 old.kind)∧W'.cell? ⟨b9,1,none⟩=some (.int .i64 old.n)) (go_keep)
        ((go_at_call 141;refine A.out.mono ?_;rintro r w5 ⟨rfl,tag5,P5,S5⟩;have X5:=Lib.hid (And.intro P5 S5);obtain⟨c50,c51,c52,c53,c54,c55,c56,c57⟩:=P5.all;dsimp only at c52 c53;clear P5 S5))
       clear c40 c41 c42 c43 c44 c45 c46 c47
       clear A
       go_wp2_with fail
       refine bodyPost_ret (v:=.int .i64 0) (by simp[results,Tryz.results88,go_sem]) rfl ⟨0,_,tag5,rfl,.inr (.inr ⟨HOE.out,by rw[HY.out],rfl,by rw[HY.out]⟩),?_,?_⟩
       ·rw[Ze N2.out,jg N3.out,jf N4.out]
        exact X5.out.1.sp
       ·exact(((HS0.out.1.mono (fun _ h=>h.elim)).trans (X4.out.2.mono fun c hc=>by unfold CP;unfold C3 at hc;omega)).trans (Step.of_below (Below.refl _ _).drew)).trans (X5.out.2.mono fun c hc=>by unfold CP;omega)
      ·have K1b:((e.kind:Int)==1)=true:=beq_iff_eq.2 (by omega)
       have K2b:((e.kind:Int)==2)=false:=beq_eq_false_iff_ne.2 (by omega)
       have O1b:((old.kind:Int)==1)=true:=beq_iff_eq.2 (by omega)
       have O2b:((old.kind:Int)==2)=false:=beq_eq_false_iff_ne.2 (by omega)
       have NNb:(e.n==old.n)=false:=beq_eq_false_iff_ne.2 nn
       have K1p:((e.kind:Int)=1)=True:=eq_true (by omega)
       have K2p:((e.kind:Int)=2)=False:=eq_false (by omega)
       have O1p:((old.kind:Int)=1)=True:=eq_true (by omega)
       have O2p:((old.kind:Int)=2)=False:=eq_false (by omega)
       have NNc:(e.n != old.n)=true:=by simp[bne,NNb]
       have NNp:(e.n=old.n)=False:=eq_false nn
       have K1:=Lib.hid k1
       have N2:Hid (e.kind≠2):=(by omega:e.kind≠2)
       have LC:Hid (old.kind=1∧(e.kind≠1∨e.n≠old.n)):=(by omega:old.kind=1∧(e.kind≠1∨e.n≠old.n))
       have N4:Hid (¬(old.kind=2∧(e.kind≠2∨e.n≠old.n))):=(by omega:¬(old.kind=2∧(e.kind≠2∨e.n≠old.n)))
       clear k1 o1 nn
       obtain⟨c40,c41,c42,c43,c44,c45,c46,c47⟩:=X4.out.1.all
       dsimp only at c42 c43
       have A:=Lib.hid (X4.out.1.drew.add (HL.out.1 e.n) K1.out he)
       dsimp only at A
       go_wp2_with fail
       go_region_held (fun W'=>W'.cell? ⟨q.sp,3,none⟩=some (.pointer (some ⟨q.bp,0,none⟩))∧W'.cell? ⟨q.sp,5,none⟩=some (.pointer (some ⟨q.wp,0,none⟩))∧W'.cell? ⟨w.heap.size,0,none⟩=some (.int .i64 n)∧W'.cell? ⟨w.heap.size,1,none⟩=some (.int .i64 page)∧W'.cell? ⟨w.heap.size+1,0,none⟩=some (.int .i64 e.kind)∧W'.cell? ⟨w.heap.size+1,1,none⟩=some (.int .i64 e.n)∧W'.cell? ⟨b9,0,none⟩=some (.int .i64 old.kind)∧W'.cell? ⟨b9,1,none⟩=some (.int .i64 old.n)) (go_keep)
        ((go_at_call 141;refine A.out.mono ?_;rintro r w5 ⟨rfl,tag5,P5,S5⟩;have X5:=Lib.hid (And.intro P5 S5);obtain⟨c50,c51,c52,c53,c54,c55,c56,c57⟩:=P5.all;dsimp only at c52 c53;clear P5 S5))
       clear c40 c41 c42 c43 c44 c45 c46 c47
       clear A
       have B:=Lib.hid (X5.out.1.let (by have:=zm9 (x.xc n pr y2) e ((n:Int),(page:Int)) old.n 99000 (fun f=>(HL.out.1 f).2);omega) LC.out ho)
       dsimp only at B
       go_wp2_with fail
       refine B.out.mono ?_
       rintro r w6 ⟨rfl,tag6,P6,S6⟩
       have X6:=Lib.hid (And.intro P6 S6)
       clear P6 S6 B
       clear c50 c51 c52 c53 c54 c55 c56 c57
       obtain⟨c60,c61,c62,c63,c64,c65,c66,c67⟩:=X6.out.1.all
       dsimp only at c62 c63
       go_wp2_with fail
       refine bodyPost_ret (v:=.int .i64 0) (by simp[results,Tryz.results88,go_sem]) rfl ⟨0,_,tag6,rfl,.inr (.inr ⟨HOE.out,by rw[HY.out],rfl,by rw[HY.out]⟩),?_,?_⟩
       ·rw[Ze N2.out,jf N4.out]
        exact X6.out.1.sp
       ·exact((((HS0.out.1.mono (fun _ h=>h.elim)).trans (X4.out.2.mono fun c hc=>by unfold CP;unfold C3 at hc;omega)).trans (Step.of_below (Below.refl _ _).drew)).trans (X5.out.2.mono fun c hc=>by unfold CP;omega)).trans (X6.out.2.mono fun c hc=>by unfold CP;omega)
     ·by_cases o2:old.kind=2
      ·have K1b:((e.kind:Int)==1)=true:=beq_iff_eq.2 (by omega)
       have K2b:((e.kind:Int)==2)=false:=beq_eq_false_iff_ne.2 (by omega)
       have O1b:((old.kind:Int)==1)=false:=beq_eq_false_iff_ne.2 (by omega)
       have O2b:((old.kind:Int)==2)=true:=beq_iff_eq.2 (by omega)
       have K1p:((e.kind:Int)=1)=True:=eq_true (by omega)
       have K2p:((e.kind:Int)=2)=False:=eq_false (by omega)
       have O1p:((old.kind:Int)=1)=False:=eq_false (by omega)
       have O2p:((old.kind:Int)=2)=True:=eq_true (by omega)
       have K1:=Lib.hid k1
       have N2:Hid (e.kind≠2):=(by omega:e.kind≠2)
       have N3:Hid (¬(old.kind=1∧(e.kind≠1∨e.n≠old.n))):=(by omega:¬(old.kind=1∧(e.kind≠1∨e.n≠old.n)))
       have LC:Hid (old.kind=2∧(e.kind≠2∨e.n≠old.n)):=(by omega:old.kind=2∧(e.kind≠2∨e.n≠old.n))
       clear k1 o1 o2
       obtain⟨c40,c41,c42,c43,c44,c45,c46,c47⟩:=X4.out.1.all
       dsimp only at c42 c43
       have A:=Lib.hid (X4.out.1.drew.add (HL.out.1 e.n) K1.out he)
       dsimp only at A
       go_wp2_with fail
       go_region_held (fun W'=>W'.cell? ⟨q.sp,3,none⟩=some (.pointer (some ⟨q.bp,0,none⟩))∧W'.cell? ⟨q.sp,5,none⟩=some (.pointer (some ⟨q.wp,0,none⟩))∧W'.cell? ⟨w.heap.size,0,none⟩=some (.int .i64 n)∧W'.cell? ⟨w.heap.size,1,none⟩=some (.int .i64 page)∧W'.cell? ⟨w.heap.size+1,0,none⟩=some (.int .i64 e.kind)∧W'.cell? ⟨w.heap.size+1,1,none⟩=some (.int .i64 e.n)∧W'.cell? ⟨b9,0,none⟩=some (.int .i64 old.kind)∧W'.cell? ⟨b9,1,none⟩=some (.int .i64 old.n)) (go_keep)
        ((go_at_call 141;refine A.out.mono ?_;rintro r w5 ⟨rfl,tag5,P5,S5⟩;have X5:=Lib.hid (And.intro P5 S5);obtain⟨c50,c51,c52,c53,c54,c55,c56,c57⟩:=P5.all;dsimp only at c52 c53;clear P5 S5))
       clear c40 c41 c42 c43 c44 c45 c46 c47
       clear A
       have B:=Lib.hid (X5.out.1.drew.release (by rw[ze2];exact fun l hl=>Nat.le_trans (HL.out.2.1 l hl).2 (by omega)) (by rw[ze2];exact HL.out.2.2) LC.out ho)
       dsimp only at B
       go_wp2_with fail
       go_region_held (fun W'=>W'.cell? ⟨q.sp,3,none⟩=some (.pointer (some ⟨q.bp,0,none⟩))∧W'.cell? ⟨q.sp,5,none⟩=some (.pointer (some ⟨q.wp,0,none⟩))∧W'.cell? ⟨w.heap.size,0,none⟩=some (.int .i64 n)∧W'.cell? ⟨w.heap.size,1,none⟩=some (.int .i64 page)∧W'.cell? ⟨w.heap.size+1,0,none⟩=some (.int .i64 e.kind)∧W'.cell? ⟨w.heap.size+1,1,none⟩=some (.int .i64 e.n)∧W'.cell? ⟨b9,0,none⟩=some (.int .i64 old.kind)∧W'.cell? ⟨b9,1,none⟩=some (.int .i64 old.n)) (go_keep)
        ((go_at_call 143;refine B.out.mono ?_;rintro r w6 ⟨⟨bb,rfl⟩,tag6,P6,S6⟩;have X6:=Lib.hid (And.intro P6 S6);obtain⟨c60,c61,c62,c63,c64,c65,c66,c67⟩:=P6.all;dsimp only at c62 c63;clear P6 S6))
       clear c50 c51 c52 c53 c54 c55 c56 c57
       clear B
       go_wp2_with fail
       refine bodyPost_ret (v:=.int .i64 0) (by simp[results,Tryz.results88,go_sem]) rfl ⟨0,_,tag6,rfl,.inr (.inr ⟨HOE.out,by rw[HY.out],rfl,by rw[HY.out]⟩),?_,?_⟩
       ·rw[Ze N2.out,jg N3.out]
        exact X6.out.1.sp
       ·exact(((((HS0.out.1.mono (fun _ h=>h.elim)).trans (X4.out.2.mono fun c hc=>by unfold CP;unfold C3 at hc;omega)).trans (Step.of_below (Below.refl _ _).drew)).trans (X5.out.2.mono fun c hc=>by unfold CP;omega)).trans (Step.of_below (Below.refl _ _).drew)).trans (X6.out.2.mono fun c hc=>by unfold CP;omega)
      ·have K1b:((e.kind:Int)==1)=true:=beq_iff_eq.2 (by omega)
       have K2b:((e.kind:Int)==2)=false:=beq_eq_false_iff_ne.2 (by omega)
       have O1b:((old.kind:Int)==1)=false:=beq_eq_false_iff_ne.2 (by omega)
       have O2b:((old.kind:Int)==2)=false:=beq_eq_false_iff_ne.2 (by omega)
       have K1p:((e.kind:Int)=1)=True:=eq_true (by omega)
       have K2p:((e.kind:Int)=2)=False:=eq_false (by omega)
       have O1p:((old.kind:Int)=1)=False:=eq_false (by omega)
       have O2p:((old.kind:Int)=2)=False:=eq_false (by omega)
       have K1:=Lib.hid k1
       have N2:Hid (e.kind≠2):=(by omega:e.kind≠2)
       have N3:Hid (¬(old.kind=1∧(e.kind≠1∨e.n≠old.n))):=(by omega:¬(old.kind=1∧(e.kind≠1∨e.n≠old.n)))
       have N4:Hid (¬(old.kind=2∧(e.kind≠2∨e.n≠old.n))):=(by omega:¬(old.kind=2∧(e.kind≠2∨e.n≠old.n)))
       clear k1 o1 o2
       obtain⟨c40,c41,c42,c43,c44,c45,c46,c47⟩:=X4.out.1.all
       dsimp only at c42 c43
       have A:=Lib.hid (X4.out.1.drew.add (HL.out.1 e.n) K1.out he)
       dsimp only at A
       go_wp2_with fail
       go_region_held (fun W'=>W'.cell? ⟨q.sp,3,none⟩=some (.pointer (some ⟨q.bp,0,none⟩))∧W'.cell? ⟨q.sp,5,none⟩=some (.pointer (some ⟨q.wp,0,none⟩))∧W'.cell? ⟨w.heap.size,0,none⟩=some (.int .i64 n)∧W'.cell? ⟨w.heap.size,1,none⟩=some (.int .i64 page)∧W'.cell? ⟨w.heap.size+1,0,none⟩=some (.int .i64 e.kind)∧W'.cell? ⟨w.heap.size+1,1,none⟩=some (.int .i64 e.n)∧W'.cell? ⟨b9,0,none⟩=some (.int .i64 old.kind)∧W'.cell? ⟨b9,1,none⟩=some (.int .i64 old.n)) (go_keep)
        ((go_at_call 141;refine A.out.mono ?_;rintro r w5 ⟨rfl,tag5,P5,S5⟩;have X5:=Lib.hid (And.intro P5 S5);obtain⟨c50,c51,c52,c53,c54,c55,c56,c57⟩:=P5.all;dsimp only at c52 c53;clear P5 S5))
       clear c40 c41 c42 c43 c44 c45 c46 c47
       clear A
       go_wp2_with fail
       refine bodyPost_ret (v:=.int .i64 0) (by simp[results,Tryz.results88,go_sem]) rfl ⟨0,_,tag5,rfl,.inr (.inr ⟨HOE.out,by rw[HY.out],rfl,by rw[HY.out]⟩),?_,?_⟩
       ·rw[Ze N2.out,jg N3.out,jf N4.out]
        exact X5.out.1.sp
       ·exact(((HS0.out.1.mono (fun _ h=>h.elim)).trans (X4.out.2.mono fun c hc=>by unfold CP;unfold C3 at hc;omega)).trans (Step.of_below (Below.refl _ _).drew)).trans (X5.out.2.mono fun c hc=>by unfold CP;omega)
    ·by_cases k2:e.kind=2
     ·by_cases o1:old.kind=1
      ·have K1b:((e.kind:Int)==1)=false:=beq_eq_false_iff_ne.2 (by omega)
       have K2b:((e.kind:Int)==2)=true:=beq_iff_eq.2 (by omega)
       have O1b:((old.kind:Int)==1)=true:=beq_iff_eq.2 (by omega)
       have O2b:((old.kind:Int)==2)=false:=beq_eq_false_iff_ne.2 (by omega)
       have K1p:((e.kind:Int)=1)=False:=eq_false (by omega)
       have K2p:((e.kind:Int)=2)=True:=eq_true (by omega)
       have O1p:((old.kind:Int)=1)=True:=eq_true (by omega)
       have O2p:((old.kind:Int)=2)=False:=eq_false (by omega)
       have K1:=Lib.hid k2
       have N1:Hid (e.kind≠1):=(by omega:e.kind≠1)
       have LC:Hid (old.kind=1∧(e.kind≠1∨e.n≠old.n)):=(by omega:old.kind=1∧(e.kind≠1∨e.n≠old.n))
       have N4:Hid (¬(old.kind=2∧(e.kind≠2∨e.n≠old.n))):=(by omega:¬(old.kind=2∧(e.kind≠2∨e.n≠old.n)))
       clear k1 k2 o1
       obtain⟨c40,c41,c42,c43,c44,c45,c46,c47⟩:=X4.out.1.all
       dsimp only at c42 c43
       have A:=Lib.hid (X4.out.1.drew.hold HL.out.2.1 HL.out.2.2 K1.out he)
       dsimp only at A
       go_wp2_with fail
       go_region_held (fun W'=>W'.cell? ⟨q.sp,3,none⟩=some (.pointer (some ⟨q.bp,0,none⟩))∧W'.cell? ⟨q.sp,5,none⟩=some (.pointer (some ⟨q.wp,0,none⟩))∧W'.cell? ⟨w.heap.size,0,none⟩=some (.int .i64 n)∧W'.cell? ⟨w.heap.size,1,none⟩=some (.int .i64 page)∧W'.cell? ⟨w.heap.size+1,0,none⟩=some (.int .i64 e.kind)∧W'.cell? ⟨w.heap.size+1,1,none⟩=some (.int .i64 e.n)∧W'.cell? ⟨b9,0,none⟩=some (.int .i64 old.kind)∧W'.cell? ⟨b9,1,none⟩=some (.int .i64 old.n)) (go_keep)
        ((go_at_call 26;refine A.out.mono ?_;rintro r w5 ⟨rfl,tag5,P5,S5⟩;have X5:=Lib.hid (And.intro P5 S5);obtain⟨c50,c51,c52,c53,c54,c55,c56,c57⟩:=P5.all;dsimp only at c52 c53;clear P5 S5))
       clear c40 c41 c42 c43 c44 c45 c46 c47
       clear A
       have B:=Lib.hid (X5.out.1.let (by rw[zm8];have:=(HL.out.1 old.n).2;exact Nat.le_trans this (by omega)) LC.out ho)
       dsimp only at B
       go_wp2_with fail
       refine B.out.mono ?_
       rintro r w6 ⟨rfl,tag6,P6,S6⟩
       have X6:=Lib.hid (And.intro P6 S6)
       clear P6 S6 B
       clear c50 c51 c52 c53 c54 c55 c56 c57
       obtain⟨c60,c61,c62,c63,c64,c65,c66,c67⟩:=X6.out.1.all
       dsimp only at c62 c63
       go_wp2_with fail
       refine bodyPost_ret (v:=.int .i64 0) (by simp[results,Tryz.results88,go_sem]) rfl ⟨0,_,tag6,rfl,.inr (.inr ⟨HOE.out,by rw[HY.out],rfl,by rw[HY.out]⟩),?_,?_⟩
       ·rw[Zf N1.out,jf N4.out]
        exact X6.out.1.sp
       ·exact((((HS0.out.1.mono (fun _ h=>h.elim)).trans (X4.out.2.mono fun c hc=>by unfold CP;unfold C3 at hc;omega)).trans (Step.of_below (Below.refl _ _).drew)).trans (X5.out.2.mono fun c hc=>by unfold CP;omega)).trans (X6.out.2.mono fun c hc=>by unfold CP;omega)
      ·by_cases o2:old.kind=2
       ·by_cases nn:e.n=old.n
        ·have K1b:((e.kind:Int)==1)=false:=beq_eq_false_iff_ne.2 (by omega)
         have K2b:((e.kind:Int)==2)=true:=beq_iff_eq.2 (by omega)
         have O1b:((old.kind:Int)==1)=false:=beq_eq_false_iff_ne.2 (by omega)
         have O2b:((old.kind:Int)==2)=true:=beq_iff_eq.2 (by omega)
         have NNb:(e.n==old.n)=true:=beq_iff_eq.2 nn
         have K1p:((e.kind:Int)=1)=False:=eq_false (by omega)
         have K2p:((e.kind:Int)=2)=True:=eq_true (by omega)
         have O1p:((old.kind:Int)=1)=False:=eq_false (by omega)
         have O2p:((old.kind:Int)=2)=True:=eq_true (by omega)
         have NNc:(e.n != old.n)=false:=by simp[bne,NNb]
         have NNp:(e.n=old.n)=True:=eq_true nn
         have K1:=Lib.hid k2
         have N1:Hid (e.kind≠1):=(by omega:e.kind≠1)
         have N3:Hid (¬(old.kind=1∧(e.kind≠1∨e.n≠old.n))):=(by omega:¬(old.kind=1∧(e.kind≠1∨e.n≠old.n)))
         have N4:Hid (¬(old.kind=2∧(e.kind≠2∨e.n≠old.n))):=(by omega:¬(old.kind=2∧(e.kind≠2∨e.n≠old.n)))
         clear k1 k2 o1 o2 nn
         obtain⟨c40,c41,c42,c43,c44,c45,c46,c47⟩:=X4.out.1.all
         dsimp only at c42 c43
         have A:=Lib.hid (X4.out.1.drew.hold HL.out.2.1 HL.out.2.2 K1.out he)
         dsimp only at A
         go_wp2_with fail
         go_region_held (fun W'=>W'.cell? ⟨q.sp,3,none⟩=some (.pointer (some ⟨q.bp,0,none⟩))∧W'.cell? ⟨q.sp,5,none⟩=some (.pointer (some ⟨q.wp,0,none⟩))∧W'.cell? ⟨w.heap.size,0,none⟩=some (.int .i64 n)∧W'.cell? ⟨w.heap.size,1,none⟩=some (.int .i64 page)∧W'.cell? ⟨w.heap.size+1,0,none⟩=some (.int .i64 e.kind)∧W'.cell? ⟨w.heap.size+1,1,none⟩=some (.int .i64 e.n)∧W'.cell? ⟨b9,0,none⟩=some (.int .i64 old.kind)∧W'.cell? ⟨b9,1,none⟩=some (.int .i64 old.n)) (go_keep)
          ((go_at_call 26;refine A.out.mono ?_;rintro r w5 ⟨rfl,tag5,P5,S5⟩;have X5:=Lib.hid (And.intro P5 S5);obtain⟨c50,c51,c52,c53,c54,c55,c56,c57⟩:=P5.all;dsimp only at c52 c53;clear P5 S5))
         clear c40 c41 c42 c43 c44 c45 c46 c47
         clear A
         go_wp2_with fail
         refine bodyPost_ret (v:=.int .i64 0) (by simp[results,Tryz.results88,go_sem]) rfl ⟨0,_,tag5,rfl,.inr (.inr ⟨HOE.out,by rw[HY.out],rfl,by rw[HY.out]⟩),?_,?_⟩
         ·rw[Zf N1.out,jg N3.out,jf N4.out]
          exact X5.out.1.sp
         ·exact(((HS0.out.1.mono (fun _ h=>h.elim)).trans (X4.out.2.mono fun c hc=>by unfold CP;unfold C3 at hc;omega)).trans (Step.of_below (Below.refl _ _).drew)).trans (X5.out.2.mono fun c hc=>by unfold CP;omega)
        ·have K1b:((e.kind:Int)==1)=false:=beq_eq_false_iff_ne.2 (by omega)
         have K2b:((e.kind:Int)==2)=true:=beq_iff_eq.2 (by omega)
         have O1b:((old.kind:Int)==1)=false:=beq_eq_false_iff_ne.2 (by omega)
         have O2b:((old.kind:Int)==2)=true:=beq_iff_eq.2 (by omega)
         have NNb:(e.n==old.n)=false:=beq_eq_false_iff_ne.2 nn
         have K1p:((e.kind:Int)=1)=False:=eq_false (by omega)
         have K2p:((e.kind:Int)=2)=True:=eq_true (by omega)
         have O1p:((old.kind:Int)=1)=False:=eq_false (by omega)
         have O2p:((old.kind:Int)=2)=True:=eq_true (by omega)
         have NNc:(e.n != old.n)=true:=by simp[bne,NNb]
         have NNp:(e.n=old.n)=False:=eq_false nn
         have K1:=Lib.hid k2
         have N1:Hid (e.kind≠1):=(by omega:e.kind≠1)
         have N3:Hid (¬(old.kind=1∧(e.kind≠1∨e.n≠old.n))):=(by omega:¬(old.kind=1∧(e.kind≠1∨e.n≠old.n)))
         have LC:Hid (old.kind=2∧(e.kind≠2∨e.n≠old.n)):=(by omega:old.kind=2∧(e.kind≠2∨e.n≠old.n))
         clear k1 k2 o1 o2 nn
         obtain⟨c40,c41,c42,c43,c44,c45,c46,c47⟩:=X4.out.1.all
         dsimp only at c42 c43
         have A:=Lib.hid (X4.out.1.drew.hold HL.out.2.1 HL.out.2.2 K1.out he)
         dsimp only at A
         go_wp2_with fail
         go_region_held (fun W'=>W'.cell? ⟨q.sp,3,none⟩=some (.pointer (some ⟨q.bp,0,none⟩))∧W'.cell? ⟨q.sp,5,none⟩=some (.pointer (some ⟨q.wp,0,none⟩))∧W'.cell? ⟨w.heap.size,0,none⟩=some (.int .i64 n)∧W'.cell? ⟨w.heap.size,1,none⟩=some (.int .i64 page)∧W'.cell? ⟨w.heap.size+1,0,none⟩=some (.int .i64 e.kind)∧W'.cell? ⟨w.heap.size+1,1,none⟩=some (.int .i64 e.n)∧W'.cell? ⟨b9,0,none⟩=some (.int .i64 old.kind)∧W'.cell? ⟨b9,1,none⟩=some (.int .i64 old.n)) (go_keep)
          ((go_at_call 26;refine A.out.mono ?_;rintro r w5 ⟨rfl,tag5,P5,S5⟩;have X5:=Lib.hid (And.intro P5 S5);obtain⟨c50,c51,c52,c53,c54,c55,c56,c57⟩:=P5.all;dsimp only at c52 c53;clear P5 S5))
         clear c40 c41 c42 c43 c44 c45 c46 c47
         clear A
         have B:=Lib.hid (X5.out.1.drew.release (fun l hl=>Nat.le_trans ((ze0 (x.xc n pr y2) e ((n:Int),(page:Int)) 99000 (fun l hl=>(HL.out.2.1 l hl).2)).2 l hl) (by omega)) (by rw[(ze0 (x.xc n pr y2) e ((n:Int),(page:Int)) 99000 (fun l hl=>(HL.out.2.1 l hl).2)).1];exact HL.out.2.2) LC.out ho)
         dsimp only at B
         go_wp2_with fail
         go_region_held (fun W'=>W'.cell? ⟨q.sp,3,none⟩=some (.pointer (some ⟨q.bp,0,none⟩))∧W'.cell? ⟨q.sp,5,none⟩=some (.pointer (some ⟨q.wp,0,none⟩))∧W'.cell? ⟨w.heap.size,0,none⟩=some (.int .i64 n)∧W'.cell? ⟨w.heap.size,1,none⟩=some (.int .i64 page)∧W'.cell? ⟨w.heap.size+1,0,none⟩=some (.int .i64 e.kind)∧W'.cell? ⟨w.heap.size+1,1,none⟩=some (.int .i64 e.n)∧W'.cell? ⟨b9,0,none⟩=some (.int .i64 old.kind)∧W'.cell? ⟨b9,1,none⟩=some (.int .i64 old.n)) (go_keep)
          ((go_at_call 143;refine B.out.mono ?_;rintro r w6 ⟨⟨bb,rfl⟩,tag6,P6,S6⟩;have X6:=Lib.hid (And.intro P6 S6);obtain⟨c60,c61,c62,c63,c64,c65,c66,c67⟩:=P6.all;dsimp only at c62 c63;clear P6 S6))
         clear c50 c51 c52 c53 c54 c55 c56 c57
         clear B
         go_wp2_with fail
         refine bodyPost_ret (v:=.int .i64 0) (by simp[results,Tryz.results88,go_sem]) rfl ⟨0,_,tag6,rfl,.inr (.inr ⟨HOE.out,by rw[HY.out],rfl,by rw[HY.out]⟩),?_,?_⟩
         ·rw[Zf N1.out,jg N3.out]
          exact X6.out.1.sp
         ·exact(((((HS0.out.1.mono (fun _ h=>h.elim)).trans (X4.out.2.mono fun c hc=>by unfold CP;unfold C3 at hc;omega)).trans (Step.of_below (Below.refl _ _).drew)).trans (X5.out.2.mono fun c hc=>by unfold CP;omega)).trans (Step.of_below (Below.refl _ _).drew)).trans (X6.out.2.mono fun c hc=>by unfold CP;omega)
       ·have K1b:((e.kind:Int)==1)=false:=beq_eq_false_iff_ne.2 (by omega)
        have K2b:((e.kind:Int)==2)=true:=beq_iff_eq.2 (by omega)
        have O1b:((old.kind:Int)==1)=false:=beq_eq_false_iff_ne.2 (by omega)
        have O2b:((old.kind:Int)==2)=false:=beq_eq_false_iff_ne.2 (by omega)
        have K1p:((e.kind:Int)=1)=False:=eq_false (by omega)
        have K2p:((e.kind:Int)=2)=True:=eq_true (by omega)
        have O1p:((old.kind:Int)=1)=False:=eq_false (by omega)
        have O2p:((old.kind:Int)=2)=False:=eq_false (by omega)
        have K1:=Lib.hid k2
        have N1:Hid (e.kind≠1):=(by omega:e.kind≠1)
        have N3:Hid (¬(old.kind=1∧(e.kind≠1∨e.n≠old.n))):=(by omega:¬(old.kind=1∧(e.kind≠1∨e.n≠old.n)))
        have N4:Hid (¬(old.kind=2∧(e.kind≠2∨e.n≠old.n))):=(by omega:¬(old.kind=2∧(e.kind≠2∨e.n≠old.n)))
        clear k1 k2 o1 o2
        obtain⟨c40,c41,c42,c43,c44,c45,c46,c47⟩:=X4.out.1.all
        dsimp only at c42 c43
        have A:=Lib.hid (X4.out.1.drew.hold HL.out.2.1 HL.out.2.2 K1.out he)
        dsimp only at A
        go_wp2_with fail
        go_region_held (fun W'=>W'.cell? ⟨q.sp,3,none⟩=some (.pointer (some ⟨q.bp,0,none⟩))∧W'.cell? ⟨q.sp,5,none⟩=some (.pointer (some ⟨q.wp,0,none⟩))∧W'.cell? ⟨w.heap.size,0,none⟩=some (.int .i64 n)∧W'.cell? ⟨w.heap.size,1,none⟩=some (.int .i64 page)∧W'.cell? ⟨w.heap.size+1,0,none⟩=some (.int .i64 e.kind)∧W'.cell? ⟨w.heap.size+1,1,none⟩=some (.int .i64 e.n)∧W'.cell? ⟨b9,0,none⟩=some (.int .i64 old.kind)∧W'.cell? ⟨b9,1,none⟩=some (.int .i64 old.n)) (go_keep)
         ((go_at_call 26;refine A.out.mono ?_;rintro r w5 ⟨rfl,tag5,P5,S5⟩;have X5:=Lib.hid (And.intro P5 S5);obtain⟨c50,c51,c52,c53,c54,c55,c56,c57⟩:=P5.all;dsimp only at c52 c53;clear P5 S5))
        clear c40 c41 c42 c43 c44 c45 c46 c47
        clear A
        go_wp2_with fail
        refine bodyPost_ret (v:=.int .i64 0) (by simp[results,Tryz.results88,go_sem]) rfl ⟨0,_,tag5,rfl,.inr (.inr ⟨HOE.out,by rw[HY.out],rfl,by rw[HY.out]⟩),?_,?_⟩
        ·rw[Zf N1.out,jg N3.out,jf N4.out]
         exact X5.out.1.sp
        ·exact(((HS0.out.1.mono (fun _ h=>h.elim)).trans (X4.out.2.mono fun c hc=>by unfold CP;unfold C3 at hc;omega)).trans (Step.of_below (Below.refl _ _).drew)).trans (X5.out.2.mono fun c hc=>by unfold CP;omega)
     ·by_cases o1:old.kind=1
      ·have K1b:((e.kind:Int)==1)=false:=beq_eq_false_iff_ne.2 (by omega)
       have K2b:((e.kind:Int)==2)=false:=beq_eq_false_iff_ne.2 (by omega)
       have O1b:((old.kind:Int)==1)=true:=beq_iff_eq.2 (by omega)
       have O2b:((old.kind:Int)==2)=false:=beq_eq_false_iff_ne.2 (by omega)
       have K1p:((e.kind:Int)=1)=False:=eq_false (by omega)
       have K2p:((e.kind:Int)=2)=False:=eq_false (by omega)
       have O1p:((old.kind:Int)=1)=True:=eq_true (by omega)
       have O2p:((old.kind:Int)=2)=False:=eq_false (by omega)
       have N1:Hid (e.kind≠1):=(by omega:e.kind≠1)
       have N2:Hid (e.kind≠2):=(by omega:e.kind≠2)
       have LC:Hid (old.kind=1∧(e.kind≠1∨e.n≠old.n)):=(by omega:old.kind=1∧(e.kind≠1∨e.n≠old.n))
       have N4:Hid (¬(old.kind=2∧(e.kind≠2∨e.n≠old.n))):=(by omega:¬(old.kind=2∧(e.kind≠2∨e.n≠old.n)))
       clear k1 k2 o1
       obtain⟨c40,c41,c42,c43,c44,c45,c46,c47⟩:=X4.out.1.all
       dsimp only at c42 c43
       have B:=Lib.hid (X4.out.1.let (Nat.le_trans (HL.out.1 old.n).2 (by omega)) LC.out ho)
       dsimp only at B
       go_wp2_with fail
       refine B.out.mono ?_
       rintro r w6 ⟨rfl,tag6,P6,S6⟩
       have X6:=Lib.hid (And.intro P6 S6)
       clear P6 S6 B
       clear c40 c41 c42 c43 c44 c45 c46 c47
       obtain⟨c60,c61,c62,c63,c64,c65,c66,c67⟩:=X6.out.1.all
       dsimp only at c62 c63
       go_wp2_with fail
       refine bodyPost_ret (v:=.int .i64 0) (by simp[results,Tryz.results88,go_sem]) rfl ⟨0,_,tag6,rfl,.inr (.inr ⟨HOE.out,by rw[HY.out],rfl,by rw[HY.out]⟩),?_,?_⟩
       ·rw[Zf N1.out,Ze N2.out,jf N4.out]
        exact X6.out.1.sp
       ·exact(((HS0.out.1.mono (fun _ h=>h.elim)).trans (X4.out.2.mono fun c hc=>by unfold CP;unfold C3 at hc;omega))).trans (X6.out.2.mono fun c hc=>by unfold CP;omega)
      ·by_cases o2:old.kind=2
       ·have K1b:((e.kind:Int)==1)=false:=beq_eq_false_iff_ne.2 (by omega)
        have K2b:((e.kind:Int)==2)=false:=beq_eq_false_iff_ne.2 (by omega)
        have O1b:((old.kind:Int)==1)=false:=beq_eq_false_iff_ne.2 (by omega)
        have O2b:((old.kind:Int)==2)=true:=beq_iff_eq.2 (by omega)
        have K1p:((e.kind:Int)=1)=False:=eq_false (by omega)
        have K2p:((e.kind:Int)=2)=False:=eq_false (by omega)
        have O1p:((old.kind:Int)=1)=False:=eq_false (by omega)
        have O2p:((old.kind:Int)=2)=True:=eq_true (by omega)
        have N1:Hid (e.kind≠1):=(by omega:e.kind≠1)
        have N2:Hid (e.kind≠2):=(by omega:e.kind≠2)
        have N3:Hid (¬(old.kind=1∧(e.kind≠1∨e.n≠old.n))):=(by omega:¬(old.kind=1∧(e.kind≠1∨e.n≠old.n)))
        have LC:Hid (old.kind=2∧(e.kind≠2∨e.n≠old.n)):=(by omega:old.kind=2∧(e.kind≠2∨e.n≠old.n))
        clear k1 k2 o1 o2
        obtain⟨c40,c41,c42,c43,c44,c45,c46,c47⟩:=X4.out.1.all
        dsimp only at c42 c43
        have B:=Lib.hid (X4.out.1.drew.release (fun l hl=>Nat.le_trans (HL.out.2.1 l hl).2 (by omega)) HL.out.2.2 LC.out ho)
        dsimp only at B
        go_wp2_with fail
        go_region_held (fun W'=>W'.cell? ⟨q.sp,3,none⟩=some (.pointer (some ⟨q.bp,0,none⟩))∧W'.cell? ⟨q.sp,5,none⟩=some (.pointer (some ⟨q.wp,0,none⟩))∧W'.cell? ⟨w.heap.size,0,none⟩=some (.int .i64 n)∧W'.cell? ⟨w.heap.size,1,none⟩=some (.int .i64 page)∧W'.cell? ⟨w.heap.size+1,0,none⟩=some (.int .i64 e.kind)∧W'.cell? ⟨w.heap.size+1,1,none⟩=some (.int .i64 e.n)∧W'.cell? ⟨b9,0,none⟩=some (.int .i64 old.kind)∧W'.cell? ⟨b9,1,none⟩=some (.int .i64 old.n)) (go_keep)
         ((go_at_call 143;refine B.out.mono ?_;rintro r w6 ⟨⟨bb,rfl⟩,tag6,P6,S6⟩;have X6:=Lib.hid (And.intro P6 S6);obtain⟨c60,c61,c62,c63,c64,c65,c66,c67⟩:=P6.all;dsimp only at c62 c63;clear P6 S6))
        clear c40 c41 c42 c43 c44 c45 c46 c47
        clear B
        go_wp2_with fail
        refine bodyPost_ret (v:=.int .i64 0) (by simp[results,Tryz.results88,go_sem]) rfl ⟨0,_,tag6,rfl,.inr (.inr ⟨HOE.out,by rw[HY.out],rfl,by rw[HY.out]⟩),?_,?_⟩
        ·rw[Zf N1.out,Ze N2.out,jg N3.out]
         exact X6.out.1.sp
        ·exact((((HS0.out.1.mono (fun _ h=>h.elim)).trans (X4.out.2.mono fun c hc=>by unfold CP;unfold C3 at hc;omega))).trans (Step.of_below (Below.refl _ _).drew)).trans (X6.out.2.mono fun c hc=>by unfold CP;omega)
       ·have K1b:((e.kind:Int)==1)=false:=beq_eq_false_iff_ne.2 (by omega)
        have K2b:((e.kind:Int)==2)=false:=beq_eq_false_iff_ne.2 (by omega)
        have O1b:((old.kind:Int)==1)=false:=beq_eq_false_iff_ne.2 (by omega)
        have O2b:((old.kind:Int)==2)=false:=beq_eq_false_iff_ne.2 (by omega)
        have K1p:((e.kind:Int)=1)=False:=eq_false (by omega)
        have K2p:((e.kind:Int)=2)=False:=eq_false (by omega)
        have O1p:((old.kind:Int)=1)=False:=eq_false (by omega)
        have O2p:((old.kind:Int)=2)=False:=eq_false (by omega)
        have N1:Hid (e.kind≠1):=(by omega:e.kind≠1)
        have N2:Hid (e.kind≠2):=(by omega:e.kind≠2)
        have N3:Hid (¬(old.kind=1∧(e.kind≠1∨e.n≠old.n))):=(by omega:¬(old.kind=1∧(e.kind≠1∨e.n≠old.n)))
        have N4:Hid (¬(old.kind=2∧(e.kind≠2∨e.n≠old.n))):=(by omega:¬(old.kind=2∧(e.kind≠2∨e.n≠old.n)))
        clear k1 k2 o1 o2
        obtain⟨c40,c41,c42,c43,c44,c45,c46,c47⟩:=X4.out.1.all
        dsimp only at c42 c43
        go_wp2_with fail
        refine bodyPost_ret (v:=.int .i64 0) (by simp[results,Tryz.results88,go_sem]) rfl ⟨0,_,tag4,rfl,.inr (.inr ⟨HOE.out,by rw[HY.out],rfl,by rw[HY.out]⟩),?_,?_⟩
        ·rw[Zf N1.out,Ze N2.out,jg N3.out,jf N4.out]
         exact X4.out.1.sp
        ·exact((HS0.out.1.mono (fun _ h=>h.elim)).trans (X4.out.2.mono fun c hc=>by unfold CP;unfold C3 at hc;omega))
   ·have hr0:(y1==0)=false:=beq_eq_false_iff_ne.2 hr
    go_wp2_with fail
    exact bodyPost_ret (v:=.int .i64 y1) (by simp[results,Tryz.results88,go_sem]) rfl ⟨y1,_,_,rfl,.inr (.inl ⟨HOE.out,by rw[HY.out];exact hr,by rw[HY.out],by rw[HY.out]⟩),X4.out.1.sp,(HS0.out.1.mono (fun _ h=>h.elim)).trans (X4.out.2.mono fun c hc=>by unfold CP;unfold C3 at hc;omega)⟩
 ·have tX:Turn (fun _=>False) w0 (((w2.setCell ⟨w.heap.size+2,0,none⟩ (.int .i64 old.kind)).setCell ⟨w.heap.size+2,1,none⟩ (.int .i64 old.n)).setCell ⟨w.heap.size+2,2,none⟩ (.bool old.write)):=by
   have t1:Turn (fun _=>False) w0 w2:=((Turn.refl _ w0).alloc _).trans (Turn.of_below hX.out)
   exact((t1.set (p:=⟨w.heap.size+2,0,none⟩) (.inr (Nat.le_of_eq z0)) _).set (p:=⟨w.heap.size+2,1,none⟩) (.inr (Nat.le_of_eq z0)) _).set (p:=⟨w.heap.size+2,2,none⟩) (.inr (Nat.le_of_eq z0)) _
  have PI:=Lib.hid (HH.out (((w2.setCell ⟨w.heap.size+2,0,none⟩ (.int .i64 old.kind)).setCell ⟨w.heap.size+2,1,none⟩ (.int .i64 old.n)).setCell ⟨w.heap.size+2,2,none⟩ (.bool old.write)) (w.heap.size+2) tX.below (Nat.le_of_eq z0) (by go_simp) (by go_simp) (by go_simp))
  clear g1 g2 y0 y1 y2 y3 y4 y5 HH hX c0 d41 k0a k4a z0 hne2 tX
  generalize w.heap.size+2=b9 at PI⊢
  generalize (((w2.setCell ⟨b9,0,none⟩ (.int .i64 old.kind)).setCell ⟨b9,1,none⟩ (.int .i64 old.n)).setCell ⟨b9,2,none⟩ (.bool old.write))=W3 at PI⊢
  obtain⟨av3,r3,_,_⟩:=(PI.out.1.sp.procs n pr hn hp).row
  have e0:W3.cell? ⟨(q.U n).ap,0,none⟩=some (.pointer (some ⟨(q.U n).tp,0,none⟩)):=r3.cell (i:=0) (by omega)
  have e1:=PI.out.1.c41
  have e2:=PI.out.1.c50
  have e3:=PI.out.1.c51
  have e4:=PI.out.1.c52
  have e5:=PI.out.1.c90
  have e6:=PI.out.1.c91
  have e7:=PI.out.1.c92
  dsimp only at e1
  clear r3
  obtain⟨⟨y1,y2⟩,hy⟩:∃y,(⟨x.R,x.P,pr.T⟩:RPT).set page e=y:=⟨_,rfl⟩
  have HY:=Lib.hid hy
  clear hy
  have HL:=Lib.hid hL
  by_cases hoe:old=e
  ·have HEQ:Hid (decide (old=e)=true):=by rw[decide_eq_true hoe];trivial
   have HOE:=Lib.hid hoe
   clear hoe
   go_wp2_with (refine BigFrame.wpList_want rfl (fun K hK=>Vq (.tmp 34) (.tmp 35) _ rfl old e rfl rfl true HEQ (hK _ _ ?_)))
   exact bodyPost_ret (v:=.int .i64 0) (by simp[results,Tryz.results88,go_sem]) rfl ⟨0,x,_,rfl,.inl ⟨HOE.out,rfl,rfl⟩,PI.out.1.sp,(HS0.out.1.mono (fun _ h=>h.elim)).trans (PI.out.2.mono (fun _ h=>h.elim))⟩
  ·have HEQ:Hid (decide (old=e)=false):=by rw[decide_eq_false hoe];trivial
   have HOE:=Lib.hid hoe
   clear hoe
   go_wp2_with (refine BigFrame.wpList_want rfl (fun K hK=>Vq (.tmp 34) (.tmp 35) _ rfl old e rfl rfl false HEQ (hK _ _ ?_)))
   have SC:Hid (Calls Tryz.prog 140 #[.pointer (some ⟨(q.U n).tp,0,none⟩),.int .i64 page,.agg #[.int .i64 e.kind,.int .i64 e.n,.bool e.write]] W3.drew fun r w4=>r=.returned (.int .i64 y1)∧
     (w4.cell? ⟨(q.U n).ap,0,none⟩=some (.pointer (some ⟨(q.U n).tp,0,none⟩))∧w4.cell? ⟨w.heap.size,1,none⟩=some (.int .i64 page)∧w4.cell? ⟨w.heap.size+1,0,none⟩=some (.int .i64 e.kind)∧w4.cell? ⟨w.heap.size+1,1,none⟩=some (.int .i64 e.n)∧w4.cell? ⟨w.heap.size+1,2,none⟩=some (.bool e.write))∧
     ∃tag4,Zr w4 tag4 q (x.xc n pr y2) w.heap.size (w.heap.size+1) b9 ((n:Int),(page:Int)) e old∧Step (C3 (10+n)) tag0 w0 tag4 w4):=by
    have hD:=PI.out.1.drew
    have SW:=zfs _ _ _ _ _ (hD.sp.rpt hn hp) ok page page rfl hpg e he
    rw[HY.out]at SW
    refine SW.mono ?_
    rintro r w4 ⟨rfl,tag4,h4,s4⟩
    have S4:=hD.sp.ofRpt hn hp s4 h4
    have c0':¬C3 (10+n) 0:=by unfold C3;omega
    have P4:=hD.step s4 c0' S4
    obtain⟨av4,r4,_,_⟩:=(S4.procs n ⟨y2.T,pr.A,pr.Q⟩ hn (if_pos rfl)).row
    exact⟨rfl,⟨r4.cell (i:=0) (by omega),P4.c41,P4.c50,P4.c51,P4.c52⟩,tag4,P4,((PI.out.2.mono (fun _ h=>h.elim)).trans ((Step.of_below (Below.refl _ _).drew))).trans s4⟩
   go_region_held (fun W'=>W'.cell? ⟨(q.U n).ap,0,none⟩=some (.pointer (some ⟨(q.U n).tp,0,none⟩))∧W'.cell? ⟨w.heap.size,1,none⟩=some (.int .i64 page)∧W'.cell? ⟨w.heap.size+1,0,none⟩=some (.int .i64 e.kind)∧W'.cell? ⟨w.heap.size+1,1,none⟩=some (.int .i64 e.n)∧W'.cell? ⟨w.heap.size+1,2,none⟩=some (.bool e.write)) (go_keep)
    ((go_at_call 140;refine SC.out.mono ?_;rintro r w4 ⟨rfl,⟨m0,m1,m2,m3,m4⟩,HX⟩;have hX:=Lib.hid HX;clear HX))
   obtain⟨tag4,P4,S4⟩:=hX.out
   have X4:=Lib.hid (And.intro P4 S4)
   clear P4 S4 hX e0 e1 e2 e3 e4 e5 e6 e7 m0 m1 m2 m3 m4 SC hL
   by_cases hr:y1=0
   ·subst hr
    by_cases k1:e.kind=1
    ·by_cases o1:old.kind=1
     ·by_cases nn:e.n=old.n
      ·have K1b:((e.kind:Int)==1)=true:=beq_iff_eq.2 (by omega)
       have K2b:((e.kind:Int)==2)=false:=beq_eq_false_iff_ne.2 (by omega)
       have O1b:((old.kind:Int)==1)=true:=beq_iff_eq.2 (by omega)
       have O2b:((old.kind:Int)==2)=false:=beq_eq_false_iff_ne.2 (by omega)
       have NNb:(e.n==old.n)=true:=beq_iff_eq.2 nn
       have K1p:((e.kind:Int)=1)=True:=eq_true (by omega)
       have K2p:((e.kind:Int)=2)=False:=eq_false (by omega)
       have O1p:((old.kind:Int)=1)=True:=eq_true (by omega)
       have O2p:((old.kind:Int)=2)=False:=eq_false (by omega)
       have NNc:(e.n != old.n)=false:=by simp[bne,NNb]
       have NNp:(e.n=old.n)=True:=eq_true nn
       have K1:=Lib.hid k1
       have N2:Hid (e.kind≠2):=(by omega:e.kind≠2)
       have N3:Hid (¬(old.kind=1∧(e.kind≠1∨e.n≠old.n))):=(by omega:¬(old.kind=1∧(e.kind≠1∨e.n≠old.n)))
       have N4:Hid (¬(old.kind=2∧(e.kind≠2∨e.n≠old.n))):=(by omega:¬(old.kind=2∧(e.kind≠2∨e.n≠old.n)))
       clear k1 o1 nn
       obtain⟨c40,c41,c42,c43,c44,c45,c46,c47⟩:=X4.out.1.all
       dsimp only at c42 c43
       have A:=Lib.hid (X4.out.1.drew.add (HL.out.1 e.n) K1.out he)
       dsimp only at A
       go_wp2_with fail
       go_region_held (fun W'=>W'.cell? ⟨q.sp,3,none⟩=some (.pointer (some ⟨q.bp,0,none⟩))∧W'.cell? ⟨q.sp,5,none⟩=some (.pointer (some ⟨q.wp,0,none⟩))∧W'.cell? ⟨w.heap.size,0,none⟩=some (.int .i64 n)∧W'.cell? ⟨w.heap.size,1,none⟩=some (.int .i64 page)∧W'.cell? ⟨w.heap.size+1,0,none⟩=some (.int .i64 e.kind)∧W'.cell? ⟨w.heap.size+1,1,none⟩=some (.int .i64 e.n)∧W'.cell? ⟨b9,0,none⟩=some (.int .i64 old.kind)∧W'.cell? ⟨b9,1,none⟩=some (.int .i64 old.n)) (go_keep)
        ((go_at_call 141;refine A.out.mono ?_;rintro r w5 ⟨rfl,tag5,P5,S5⟩;have X5:=Lib.hid (And.intro P5 S5);obtain⟨c50,c51,c52,c53,c54,c55,c56,c57⟩:=P5.all;dsimp only at c52 c53;clear P5 S5))
       clear c40 c41 c42 c43 c44 c45 c46 c47
       clear A
       go_wp2_with fail
       refine bodyPost_ret (v:=.int .i64 0) (by simp[results,Tryz.results88,go_sem]) rfl ⟨0,_,tag5,rfl,.inr (.inr ⟨HOE.out,by rw[HY.out],rfl,by rw[HY.out]⟩),?_,?_⟩
       ·rw[Ze N2.out,jg N3.out,jf N4.out]
        exact X5.out.1.sp
       ·exact(((HS0.out.1.mono (fun _ h=>h.elim)).trans (X4.out.2.mono fun c hc=>by unfold CP;unfold C3 at hc;omega)).trans (Step.of_below (Below.refl _ _).drew)).trans (X5.out.2.mono fun c hc=>by unfold CP;omega)
      ·have K1b:((e.kind:Int)==1)=true:=beq_iff_eq.2 (by omega)
       have K2b:((e.kind:Int)==2)=false:=beq_eq_false_iff_ne.2 (by omega)
       have O1b:((old.kind:Int)==1)=true:=beq_iff_eq.2 (by omega)
       have O2b:((old.kind:Int)==2)=false:=beq_eq_false_iff_ne.2 (by omega)
       have NNb:(e.n==old.n)=false:=beq_eq_false_iff_ne.2 nn
       have K1p:((e.kind:Int)=1)=True:=eq_true (by omega)
       have K2p:((e.kind:Int)=2)=False:=eq_false (by omega)
       have O1p:((old.kind:Int)=1)=True:=eq_true (by omega)
       have O2p:((old.kind:Int)=2)=False:=eq_false (by omega)
       have NNc:(e.n != old.n)=true:=by simp[bne,NNb]
       have NNp:(e.n=old.n)=False:=eq_false nn
       have K1:=Lib.hid k1
       have N2:Hid (e.kind≠2):=(by omega:e.kind≠2)
       have LC:Hid (old.kind=1∧(e.kind≠1∨e.n≠old.n)):=(by omega:old.kind=1∧(e.kind≠1∨e.n≠old.n))
       have N4:Hid (¬(old.kind=2∧(e.kind≠2∨e.n≠old.n))):=(by omega:¬(old.kind=2∧(e.kind≠2∨e.n≠old.n)))
       clear k1 o1 nn
       obtain⟨c40,c41,c42,c43,c44,c45,c46,c47⟩:=X4.out.1.all
       dsimp only at c42 c43
       have A:=Lib.hid (X4.out.1.drew.add (HL.out.1 e.n) K1.out he)
       dsimp only at A
       go_wp2_with fail
       go_region_held (fun W'=>W'.cell? ⟨q.sp,3,none⟩=some (.pointer (some ⟨q.bp,0,none⟩))∧W'.cell? ⟨q.sp,5,none⟩=some (.pointer (some ⟨q.wp,0,none⟩))∧W'.cell? ⟨w.heap.size,0,none⟩=some (.int .i64 n)∧W'.cell? ⟨w.heap.size,1,none⟩=some (.int .i64 page)∧W'.cell? ⟨w.heap.size+1,0,none⟩=some (.int .i64 e.kind)∧W'.cell? ⟨w.heap.size+1,1,none⟩=some (.int .i64 e.n)∧W'.cell? ⟨b9,0,none⟩=some (.int .i64 old.kind)∧W'.cell? ⟨b9,1,none⟩=some (.int .i64 old.n)) (go_keep)
        ((go_at_call 141;refine A.out.mono ?_;rintro r w5 ⟨rfl,tag5,P5,S5⟩;have X5:=Lib.hid (And.intro P5 S5);obtain⟨c50,c51,c52,c53,c54,c55,c56,c57⟩:=P5.all;dsimp only at c52 c53;clear P5 S5))
       clear c40 c41 c42 c43 c44 c45 c46 c47
       clear A
       have B:=Lib.hid (X5.out.1.let (by have:=zm9 (x.xc n pr y2) e ((n:Int),(page:Int)) old.n 99000 (fun f=>(HL.out.1 f).2);omega) LC.out ho)
       dsimp only at B
       go_wp2_with fail
       refine B.out.mono ?_
       rintro r w6 ⟨rfl,tag6,P6,S6⟩
       have X6:=Lib.hid (And.intro P6 S6)
       clear P6 S6 B
       clear c50 c51 c52 c53 c54 c55 c56 c57
       obtain⟨c60,c61,c62,c63,c64,c65,c66,c67⟩:=X6.out.1.all
       dsimp only at c62 c63
       go_wp2_with fail
       refine bodyPost_ret (v:=.int .i64 0) (by simp[results,Tryz.results88,go_sem]) rfl ⟨0,_,tag6,rfl,.inr (.inr ⟨HOE.out,by rw[HY.out],rfl,by rw[HY.out]⟩),?_,?_⟩
       ·rw[Ze N2.out,jf N4.out]
        exact X6.out.1.sp
       ·exact((((HS0.out.1.mono (fun _ h=>h.elim)).trans (X4.out.2.mono fun c hc=>by unfold CP;unfold C3 at hc;omega)).trans (Step.of_below (Below.refl _ _).drew)).trans (X5.out.2.mono fun c hc=>by unfold CP;omega)).trans (X6.out.2.mono fun c hc=>by unfold CP;omega)
     ·by_cases o2:old.kind=2
      ·have K1b:((e.kind:Int)==1)=true:=beq_iff_eq.2 (by omega)
       have K2b:((e.kind:Int)==2)=false:=beq_eq_false_iff_ne.2 (by omega)
       have O1b:((old.kind:Int)==1)=false:=beq_eq_false_iff_ne.2 (by omega)
       have O2b:((old.kind:Int)==2)=true:=beq_iff_eq.2 (by omega)
       have K1p:((e.kind:Int)=1)=True:=eq_true (by omega)
       have K2p:((e.kind:Int)=2)=False:=eq_false (by omega)
       have O1p:((old.kind:Int)=1)=False:=eq_false (by omega)
       have O2p:((old.kind:Int)=2)=True:=eq_true (by omega)
       have K1:=Lib.hid k1
       have N2:Hid (e.kind≠2):=(by omega:e.kind≠2)
       have N3:Hid (¬(old.kind=1∧(e.kind≠1∨e.n≠old.n))):=(by omega:¬(old.kind=1∧(e.kind≠1∨e.n≠old.n)))
       have LC:Hid (old.kind=2∧(e.kind≠2∨e.n≠old.n)):=(by omega:old.kind=2∧(e.kind≠2∨e.n≠old.n))
       clear k1 o1 o2
       obtain⟨c40,c41,c42,c43,c44,c45,c46,c47⟩:=X4.out.1.all
       dsimp only at c42 c43
       have A:=Lib.hid (X4.out.1.drew.add (HL.out.1 e.n) K1.out he)
       dsimp only at A
       go_wp2_with fail
       go_region_held (fun W'=>W'.cell? ⟨q.sp,3,none⟩=some (.pointer (some ⟨q.bp,0,none⟩))∧W'.cell? ⟨q.sp,5,none⟩=some (.pointer (some ⟨q.wp,0,none⟩))∧W'.cell? ⟨w.heap.size,0,none⟩=some (.int .i64 n)∧W'.cell? ⟨w.heap.size,1,none⟩=some (.int .i64 page)∧W'.cell? ⟨w.heap.size+1,0,none⟩=some (.int .i64 e.kind)∧W'.cell? ⟨w.heap.size+1,1,none⟩=some (.int .i64 e.n)∧W'.cell? ⟨b9,0,none⟩=some (.int .i64 old.kind)∧W'.cell? ⟨b9,1,none⟩=some (.int .i64 old.n)) (go_keep)
        ((go_at_call 141;refine A.out.mono ?_;rintro r w5 ⟨rfl,tag5,P5,S5⟩;have X5:=Lib.hid (And.intro P5 S5);obtain⟨c50,c51,c52,c53,c54,c55,c56,c57⟩:=P5.all;dsimp only at c52 c53;clear P5 S5))
       clear c40 c41 c42 c43 c44 c45 c46 c47
       clear A
       have B:=Lib.hid (X5.out.1.drew.release (by rw[ze2];exact fun l hl=>Nat.le_trans (HL.out.2.1 l hl).2 (by omega)) (by rw[ze2];exact HL.out.2.2) LC.out ho)
       dsimp only at B
       go_wp2_with fail
       go_region_held (fun W'=>W'.cell? ⟨q.sp,3,none⟩=some (.pointer (some ⟨q.bp,0,none⟩))∧W'.cell? ⟨q.sp,5,none⟩=some (.pointer (some ⟨q.wp,0,none⟩))∧W'.cell? ⟨w.heap.size,0,none⟩=some (.int .i64 n)∧W'.cell? ⟨w.heap.size,1,none⟩=some (.int .i64 page)∧W'.cell? ⟨w.heap.size+1,0,none⟩=some (.int .i64 e.kind)∧W'.cell? ⟨w.heap.size+1,1,none⟩=some (.int .i64 e.n)∧W'.cell? ⟨b9,0,none⟩=some (.int .i64 old.kind)∧W'.cell? ⟨b9,1,none⟩=some (.int .i64 old.n)) (go_keep)
        ((go_at_call 143;refine B.out.mono ?_;rintro r w6 ⟨⟨bb,rfl⟩,tag6,P6,S6⟩;have X6:=Lib.hid (And.intro P6 S6);obtain⟨c60,c61,c62,c63,c64,c65,c66,c67⟩:=P6.all;dsimp only at c62 c63;clear P6 S6))
       clear c50 c51 c52 c53 c54 c55 c56 c57
       clear B
       go_wp2_with fail
       refine bodyPost_ret (v:=.int .i64 0) (by simp[results,Tryz.results88,go_sem]) rfl ⟨0,_,tag6,rfl,.inr (.inr ⟨HOE.out,by rw[HY.out],rfl,by rw[HY.out]⟩),?_,?_⟩
       ·rw[Ze N2.out,jg N3.out]
        exact X6.out.1.sp
       ·exact(((((HS0.out.1.mono (fun _ h=>h.elim)).trans (X4.out.2.mono fun c hc=>by unfold CP;unfold C3 at hc;omega)).trans (Step.of_below (Below.refl _ _).drew)).trans (X5.out.2.mono fun c hc=>by unfold CP;omega)).trans (Step.of_below (Below.refl _ _).drew)).trans (X6.out.2.mono fun c hc=>by unfold CP;omega)
      ·have K1b:((e.kind:Int)==1)=true:=beq_iff_eq.2 (by omega)
       have K2b:((e.kind:Int)==2)=false:=beq_eq_false_iff_ne.2 (by omega)
       have O1b:((old.kind:Int)==1)=false:=beq_eq_false_iff_ne.2 (by omega)
       have O2b:((old.kind:Int)==2)=false:=beq_eq_false_iff_ne.2 (by omega)
       have K1p:((e.kind:Int)=1)=True:=eq_true (by omega)
       have K2p:((e.kind:Int)=2)=False:=eq_false (by omega)
       have O1p:((old.kind:Int)=1)=False:=eq_false (by omega)
       have O2p:((old.kind:Int)=2)=False:=eq_false (by omega)
       have K1:=Lib.hid k1
       have N2:Hid (e.kind≠2):=(by omega:e.kind≠2)
       have N3:Hid (¬(old.kind=1∧(e.kind≠1∨e.n≠old.n))):=(by omega:¬(old.kind=1∧(e.kind≠1∨e.n≠old.n)))
       have N4:Hid (¬(old.kind=2∧(e.kind≠2∨e.n≠old.n))):=(by omega:¬(old.kind=2∧(e.kind≠2∨e.n≠old.n)))
       clear k1 o1 o2
       obtain⟨c40,c41,c42,c43,c44,c45,c46,c47⟩:=X4.out.1.all
       dsimp only at c42 c43
       have A:=Lib.hid (X4.out.1.drew.add (HL.out.1 e.n) K1.out he)
       dsimp only at A
       go_wp2_with fail
       go_region_held (fun W'=>W'.cell? ⟨q.sp,3,none⟩=some (.pointer (some ⟨q.bp,0,none⟩))∧W'.cell? ⟨q.sp,5,none⟩=some (.pointer (some ⟨q.wp,0,none⟩))∧W'.cell? ⟨w.heap.size,0,none⟩=some (.int .i64 n)∧W'.cell? ⟨w.heap.size,1,none⟩=some (.int .i64 page)∧W'.cell? ⟨w.heap.size+1,0,none⟩=some (.int .i64 e.kind)∧W'.cell? ⟨w.heap.size+1,1,none⟩=some (.int .i64 e.n)∧W'.cell? ⟨b9,0,none⟩=some (.int .i64 old.kind)∧W'.cell? ⟨b9,1,none⟩=some (.int .i64 old.n)) (go_keep)
        ((go_at_call 141;refine A.out.mono ?_;rintro r w5 ⟨rfl,tag5,P5,S5⟩;have X5:=Lib.hid (And.intro P5 S5);obtain⟨c50,c51,c52,c53,c54,c55,c56,c57⟩:=P5.all;dsimp only at c52 c53;clear P5 S5))
       clear c40 c41 c42 c43 c44 c45 c46 c47
       clear A
       go_wp2_with fail
       refine bodyPost_ret (v:=.int .i64 0) (by simp[results,Tryz.results88,go_sem]) rfl ⟨0,_,tag5,rfl,.inr (.inr ⟨HOE.out,by rw[HY.out],rfl,by rw[HY.out]⟩),?_,?_⟩
       ·rw[Ze N2.out,jg N3.out,jf N4.out]
        exact X5.out.1.sp
       ·exact(((HS0.out.1.mono (fun _ h=>h.elim)).trans (X4.out.2.mono fun c hc=>by unfold CP;unfold C3 at hc;omega)).trans (Step.of_below (Below.refl _ _).drew)).trans (X5.out.2.mono fun c hc=>by unfold CP;omega)
    ·by_cases k2:e.kind=2
     ·by_cases o1:old.kind=1
      ·have K1b:((e.kind:Int)==1)=false:=beq_eq_false_iff_ne.2 (by omega)
       have K2b:((e.kind:Int)==2)=true:=beq_iff_eq.2 (by omega)
       have O1b:((old.kind:Int)==1)=true:=beq_iff_eq.2 (by omega)
       have O2b:((old.kind:Int)==2)=false:=beq_eq_false_iff_ne.2 (by omega)
       have K1p:((e.kind:Int)=1)=False:=eq_false (by omega)
       have K2p:((e.kind:Int)=2)=True:=eq_true (by omega)
       have O1p:((old.kind:Int)=1)=True:=eq_true (by omega)
       have O2p:((old.kind:Int)=2)=False:=eq_false (by omega)
       have K1:=Lib.hid k2
       have N1:Hid (e.kind≠1):=(by omega:e.kind≠1)
       have LC:Hid (old.kind=1∧(e.kind≠1∨e.n≠old.n)):=(by omega:old.kind=1∧(e.kind≠1∨e.n≠old.n))
       have N4:Hid (¬(old.kind=2∧(e.kind≠2∨e.n≠old.n))):=(by omega:¬(old.kind=2∧(e.kind≠2∨e.n≠old.n)))
       clear k1 k2 o1
       obtain⟨c40,c41,c42,c43,c44,c45,c46,c47⟩:=X4.out.1.all
       dsimp only at c42 c43
       have A:=Lib.hid (X4.out.1.drew.hold HL.out.2.1 HL.out.2.2 K1.out he)
       dsimp only at A
       go_wp2_with fail
       go_region_held (fun W'=>W'.cell? ⟨q.sp,3,none⟩=some (.pointer (some ⟨q.bp,0,none⟩))∧W'.cell? ⟨q.sp,5,none⟩=some (.pointer (some ⟨q.wp,0,none⟩))∧W'.cell? ⟨w.heap.size,0,none⟩=some (.int .i64 n)∧W'.cell? ⟨w.heap.size,1,none⟩=some (.int .i64 page)∧W'.cell? ⟨w.heap.size+1,0,none⟩=some (.int .i64 e.kind)∧W'.cell? ⟨w.heap.size+1,1,none⟩=some (.int .i64 e.n)∧W'.cell? ⟨b9,0,none⟩=some (.int .i64 old.kind)∧W'.cell? ⟨b9,1,none⟩=some (.int .i64 old.n)) (go_keep)
        ((go_at_call 26;refine A.out.mono ?_;rintro r w5 ⟨rfl,tag5,P5,S5⟩;have X5:=Lib.hid (And.intro P5 S5);obtain⟨c50,c51,c52,c53,c54,c55,c56,c57⟩:=P5.all;dsimp only at c52 c53;clear P5 S5))
       clear c40 c41 c42 c43 c44 c45 c46 c47
       clear A
       have B:=Lib.hid (X5.out.1.let (by rw[zm8];have:=(HL.out.1 old.n).2;exact Nat.le_trans this (by omega)) LC.out ho)
       dsimp only at B
       go_wp2_with fail
       refine B.out.mono ?_
       rintro r w6 ⟨rfl,tag6,P6,S6⟩
       have X6:=Lib.hid (And.intro P6 S6)
       clear P6 S6 B
       clear c50 c51 c52 c53 c54 c55 c56 c57
       obtain⟨c60,c61,c62,c63,c64,c65,c66,c67⟩:=X6.out.1.all
       dsimp only at c62 c63
       go_wp2_with fail
       refine bodyPost_ret (v:=.int .i64 0) (by simp[results,Tryz.results88,go_sem]) rfl ⟨0,_,tag6,rfl,.inr (.inr ⟨HOE.out,by rw[HY.out],rfl,by rw[HY.out]⟩),?_,?_⟩
       ·rw[Zf N1.out,jf N4.out]
        exact X6.out.1.sp
       ·exact((((HS0.out.1.mono (fun _ h=>h.elim)).trans (X4.out.2.mono fun c hc=>by unfold CP;unfold C3 at hc;omega)).trans (Step.of_below (Below.refl _ _).drew)).trans (X5.out.2.mono fun c hc=>by unfold CP;omega)).trans (X6.out.2.mono fun c hc=>by unfold CP;omega)
      ·by_cases o2:old.kind=2
       ·by_cases nn:e.n=old.n
        ·have K1b:((e.kind:Int)==1)=false:=beq_eq_false_iff_ne.2 (by omega)
         have K2b:((e.kind:Int)==2)=true:=beq_iff_eq.2 (by omega)
         have O1b:((old.kind:Int)==1)=false:=beq_eq_false_iff_ne.2 (by omega)
         have O2b:((old.kind:Int)==2)=true:=beq_iff_eq.2 (by omega)
         have NNb:(e.n==old.n)=true:=beq_iff_eq.2 nn
         have K1p:((e.kind:Int)=1)=False:=eq_false (by omega)
         have K2p:((e.kind:Int)=2)=True:=eq_true (by omega)
         have O1p:((old.kind:Int)=1)=False:=eq_false (by omega)
         have O2p:((old.kind:Int)=2)=True:=eq_true (by omega)
         have NNc:(e.n != old.n)=false:=by simp[bne,NNb]
         have NNp:(e.n=old.n)=True:=eq_true nn
         have K1:=Lib.hid k2
         have N1:Hid (e.kind≠1):=(by omega:e.kind≠1)
         have N3:Hid (¬(old.kind=1∧(e.kind≠1∨e.n≠old.n))):=(by omega:¬(old.kind=1∧(e.kind≠1∨e.n≠old.n)))
         have N4:Hid (¬(old.kind=2∧(e.kind≠2∨e.n≠old.n))):=(by omega:¬(old.kind=2∧(e.kind≠2∨e.n≠old.n)))
         clear k1 k2 o1 o2 nn
         obtain⟨c40,c41,c42,c43,c44,c45,c46,c47⟩:=X4.out.1.all
         dsimp only at c42 c43
         have A:=Lib.hid (X4.out.1.drew.hold HL.out.2.1 HL.out.2.2 K1.out he)
         dsimp only at A
         go_wp2_with fail
         go_region_held (fun W'=>W'.cell? ⟨q.sp,3,none⟩=some (.pointer (some ⟨q.bp,0,none⟩))∧W'.cell? ⟨q.sp,5,none⟩=some (.pointer (some ⟨q.wp,0,none⟩))∧W'.cell? ⟨w.heap.size,0,none⟩=some (.int .i64 n)∧W'.cell? ⟨w.heap.size,1,none⟩=some (.int .i64 page)∧W'.cell? ⟨w.heap.size+1,0,none⟩=some (.int .i64 e.kind)∧W'.cell? ⟨w.heap.size+1,1,none⟩=some (.int .i64 e.n)∧W'.cell? ⟨b9,0,none⟩=some (.int .i64 old.kind)∧W'.cell? ⟨b9,1,none⟩=some (.int .i64 old.n)) (go_keep)
          ((go_at_call 26;refine A.out.mono ?_;rintro r w5 ⟨rfl,tag5,P5,S5⟩;have X5:=Lib.hid (And.intro P5 S5);obtain⟨c50,c51,c52,c53,c54,c55,c56,c57⟩:=P5.all;dsimp only at c52 c53;clear P5 S5))
         clear c40 c41 c42 c43 c44 c45 c46 c47
         clear A
         go_wp2_with fail
         refine bodyPost_ret (v:=.int .i64 0) (by simp[results,Tryz.results88,go_sem]) rfl ⟨0,_,tag5,rfl,.inr (.inr ⟨HOE.out,by rw[HY.out],rfl,by rw[HY.out]⟩),?_,?_⟩
         ·rw[Zf N1.out,jg N3.out,jf N4.out]
          exact X5.out.1.sp
         ·exact(((HS0.out.1.mono (fun _ h=>h.elim)).trans (X4.out.2.mono fun c hc=>by unfold CP;unfold C3 at hc;omega)).trans (Step.of_below (Below.refl _ _).drew)).trans (X5.out.2.mono fun c hc=>by unfold CP;omega)
        ·have K1b:((e.kind:Int)==1)=false:=beq_eq_false_iff_ne.2 (by omega)
         have K2b:((e.kind:Int)==2)=true:=beq_iff_eq.2 (by omega)
         have O1b:((old.kind:Int)==1)=false:=beq_eq_false_iff_ne.2 (by omega)
         have O2b:((old.kind:Int)==2)=true:=beq_iff_eq.2 (by omega)
         have NNb:(e.n==old.n)=false:=beq_eq_false_iff_ne.2 nn
         have K1p:((e.kind:Int)=1)=False:=eq_false (by omega)
         have K2p:((e.kind:Int)=2)=True:=eq_true (by omega)
         have O1p:((old.kind:Int)=1)=False:=eq_false (by omega)
         have O2p:((old.kind:Int)=2)=True:=eq_true (by omega)
         have NNc:(e.n != old.n)=true:=by simp[bne,NNb]
         have NNp:(e.n=old.n)=False:=eq_false nn
         have K1:=Lib.hid k2
         have N1:Hid (e.kind≠1):=(by omega:e.kind≠1)
         have N3:Hid (¬(old.kind=1∧(e.kind≠1∨e.n≠old.n))):=(by omega:¬(old.kind=1∧(e.kind≠1∨e.n≠old.n)))
         have LC:Hid (old.kind=2∧(e.kind≠2∨e.n≠old.n)):=(by omega:old.kind=2∧(e.kind≠2∨e.n≠old.n))
         clear k1 k2 o1 o2 nn
         obtain⟨c40,c41,c42,c43,c44,c45,c46,c47⟩:=X4.out.1.all
         dsimp only at c42 c43
         have A:=Lib.hid (X4.out.1.drew.hold HL.out.2.1 HL.out.2.2 K1.out he)
         dsimp only at A
         go_wp2_with fail
         go_region_held (fun W'=>W'.cell? ⟨q.sp,3,none⟩=some (.pointer (some ⟨q.bp,0,none⟩))∧W'.cell? ⟨q.sp,5,none⟩=some (.pointer (some ⟨q.wp,0,none⟩))∧W'.cell? ⟨w.heap.size,0,none⟩=some (.int .i64 n)∧W'.cell? ⟨w.heap.size,1,none⟩=some (.int .i64 page)∧W'.cell? ⟨w.heap.size+1,0,none⟩=some (.int .i64 e.kind)∧W'.cell? ⟨w.heap.size+1,1,none⟩=some (.int .i64 e.n)∧W'.cell? ⟨b9,0,none⟩=some (.int .i64 old.kind)∧W'.cell? ⟨b9,1,none⟩=some (.int .i64 old.n)) (go_keep)
          ((go_at_call 26;refine A.out.mono ?_;rintro r w5 ⟨rfl,tag5,P5,S5⟩;have X5:=Lib.hid (And.intro P5 S5);obtain⟨c50,c51,c52,c53,c54,c55,c56,c57⟩:=P5.all;dsimp only at c52 c53;clear P5 S5))
         clear c40 c41 c42 c43 c44 c45 c46 c47
         clear A
         have B:=Lib.hid (X5.out.1.drew.release (fun l hl=>Nat.le_trans ((ze0 (x.xc n pr y2) e ((n:Int),(page:Int)) 99000 (fun l hl=>(HL.out.2.1 l hl).2)).2 l hl) (by omega)) (by rw[(ze0 (x.xc n pr y2) e ((n:Int),(page:Int)) 99000 (fun l hl=>(HL.out.2.1 l hl).2)).1];exact HL.out.2.2) LC.out ho)
         dsimp only at B
         go_wp2_with fail
         go_region_held (fun W'=>W'.cell? ⟨q.sp,3,none⟩=some (.pointer (some ⟨q.bp,0,none⟩))∧W'.cell? ⟨q.sp,5,none⟩=some (.pointer (some ⟨q.wp,0,none⟩))∧W'.cell? ⟨w.heap.size,0,none⟩=some (.int .i64 n)∧W'.cell? ⟨w.heap.size,1,none⟩=some (.int .i64 page)∧W'.cell? ⟨w.heap.size+1,0,none⟩=some (.int .i64 e.kind)∧W'.cell? ⟨w.heap.size+1,1,none⟩=some (.int .i64 e.n)∧W'.cell? ⟨b9,0,none⟩=some (.int .i64 old.kind)∧W'.cell? ⟨b9,1,none⟩=some (.int .i64 old.n)) (go_keep)
          ((go_at_call 143;refine B.out.mono ?_;rintro r w6 ⟨⟨bb,rfl⟩,tag6,P6,S6⟩;have X6:=Lib.hid (And.intro P6 S6);obtain⟨c60,c61,c62,c63,c64,c65,c66,c67⟩:=P6.all;dsimp only at c62 c63;clear P6 S6))
         clear c50 c51 c52 c53 c54 c55 c56 c57
         clear B
         go_wp2_with fail
         refine bodyPost_ret (v:=.int .i64 0) (by simp[results,Tryz.results88,go_sem]) rfl ⟨0,_,tag6,rfl,.inr (.inr ⟨HOE.out,by rw[HY.out],rfl,by rw[HY.out]⟩),?_,?_⟩
         ·rw[Zf N1.out,jg N3.out]
          exact X6.out.1.sp
         ·exact(((((HS0.out.1.mono (fun _ h=>h.elim)).trans (X4.out.2.mono fun c hc=>by unfold CP;unfold C3 at hc;omega)).trans (Step.of_below (Below.refl _ _).drew)).trans (X5.out.2.mono fun c hc=>by unfold CP;omega)).trans (Step.of_below (Below.refl _ _).drew)).trans (X6.out.2.mono fun c hc=>by unfold CP;omega)
       ·have K1b:((e.kind:Int)==1)=false:=beq_eq_false_iff_ne.2 (by omega)
        have K2b:((e.kind:Int)==2)=true:=beq_iff_eq.2 (by omega)
        have O1b:((old.kind:Int)==1)=false:=beq_eq_false_iff_ne.2 (by omega)
        have O2b:((old.kind:Int)==2)=false:=beq_eq_false_iff_ne.2 (by omega)
        have K1p:((e.kind:Int)=1)=False:=eq_false (by omega)
        have K2p:((e.kind:Int)=2)=True:=eq_true (by omega)
        have O1p:((old.kind:Int)=1)=False:=eq_false (by omega)
        have O2p:((old.kind:Int)=2)=False:=eq_false (by omega)
        have K1:=Lib.hid k2
        have N1:Hid (e.kind≠1):=(by omega:e.kind≠1)
        have N3:Hid (¬(old.kind=1∧(e.kind≠1∨e.n≠old.n))):=(by omega:¬(old.kind=1∧(e.kind≠1∨e.n≠old.n)))
        have N4:Hid (¬(old.kind=2∧(e.kind≠2∨e.n≠old.n))):=(by omega:¬(old.kind=2∧(e.kind≠2∨e.n≠old.n)))
        clear k1 k2 o1 o2
        obtain⟨c40,c41,c42,c43,c44,c45,c46,c47⟩:=X4.out.1.all
        dsimp only at c42 c43
        have A:=Lib.hid (X4.out.1.drew.hold HL.out.2.1 HL.out.2.2 K1.out he)
        dsimp only at A
        go_wp2_with fail
        go_region_held (fun W'=>W'.cell? ⟨q.sp,3,none⟩=some (.pointer (some ⟨q.bp,0,none⟩))∧W'.cell? ⟨q.sp,5,none⟩=some (.pointer (some ⟨q.wp,0,none⟩))∧W'.cell? ⟨w.heap.size,0,none⟩=some (.int .i64 n)∧W'.cell? ⟨w.heap.size,1,none⟩=some (.int .i64 page)∧W'.cell? ⟨w.heap.size+1,0,none⟩=some (.int .i64 e.kind)∧W'.cell? ⟨w.heap.size+1,1,none⟩=some (.int .i64 e.n)∧W'.cell? ⟨b9,0,none⟩=some (.int .i64 old.kind)∧W'.cell? ⟨b9,1,none⟩=some (.int .i64 old.n)) (go_keep)
         ((go_at_call 26;refine A.out.mono ?_;rintro r w5 ⟨rfl,tag5,P5,S5⟩;have X5:=Lib.hid (And.intro P5 S5);obtain⟨c50,c51,c52,c53,c54,c55,c56,c57⟩:=P5.all;dsimp only at c52 c53;clear P5 S5))
        clear c40 c41 c42 c43 c44 c45 c46 c47
        clear A
        go_wp2_with fail
        refine bodyPost_ret (v:=.int .i64 0) (by simp[results,Tryz.results88,go_sem]) rfl ⟨0,_,tag5,rfl,.inr (.inr ⟨HOE.out,by rw[HY.out],rfl,by rw[HY.out]⟩),?_,?_⟩
        ·rw[Zf N1.out,jg N3.out,jf N4.out]
         exact X5.out.1.sp
        ·exact(((HS0.out.1.mono (fun _ h=>h.elim)).trans (X4.out.2.mono fun c hc=>by unfold CP;unfold C3 at hc;omega)).trans (Step.of_below (Below.refl _ _).drew)).trans (X5.out.2.mono fun c hc=>by unfold CP;omega)
     ·by_cases o1:old.kind=1
      ·have K1b:((e.kind:Int)==1)=false:=beq_eq_false_iff_ne.2 (by omega)
       have K2b:((e.kind:Int)==2)=false:=beq_eq_false_iff_ne.2 (by omega)
       have O1b:((old.kind:Int)==1)=true:=beq_iff_eq.2 (by omega)
       have O2b:((old.kind:Int)==2)=false:=beq_eq_false_iff_ne.2 (by omega)
       have K1p:((e.kind:Int)=1)=False:=eq_false (by omega)
       have K2p:((e.kind:Int)=2)=False:=eq_false (by omega)
       have O1p:((old.kind:Int)=1)=True:=eq_true (by omega)
       have O2p:((old.kind:Int)=2)=False:=eq_false (by omega)
       have N1:Hid (e.kind≠1):=(by omega:e.kind≠1)
       have N2:Hid (e.kind≠2):=(by omega:e.kind≠2)
       have LC:Hid (old.kind=1∧(e.kind≠1∨e.n≠old.n)):=(by omega:old.kind=1∧(e.kind≠1∨e.n≠old.n))
       have N4:Hid (¬(old.kind=2∧(e.kind≠2∨e.n≠old.n))):=(by omega:¬(old.kind=2∧(e.kind≠2∨e.n≠old.n)))
       clear k1 k2 o1
       obtain⟨c40,c41,c42,c43,c44,c45,c46,c47⟩:=X4.out.1.all
       dsimp only at c42 c43
       have B:=Lib.hid (X4.out.1.let (Nat.le_trans (HL.out.1 old.n).2 (by omega)) LC.out ho)
       dsimp only at B
       go_wp2_with fail
       refine B.out.mono ?_
       rintro r w6 ⟨rfl,tag6,P6,S6⟩
       have X6:=Lib.hid (And.intro P6 S6)
       clear P6 S6 B
       clear c40 c41 c42 c43 c44 c45 c46 c47
       obtain⟨c60,c61,c62,c63,c64,c65,c66,c67⟩:=X6.out.1.all
       dsimp only at c62 c63
       go_wp2_with fail
       refine bodyPost_ret (v:=.int .i64 0) (by simp[results,Tryz.results88,go_sem]) rfl ⟨0,_,tag6,rfl,.inr (.inr ⟨HOE.out,by rw[HY.out],rfl,by rw[HY.out]⟩),?_,?_⟩
       ·rw[Zf N1.out,Ze N2.out,jf N4.out]
        exact X6.out.1.sp
       ·exact(((HS0.out.1.mono (fun _ h=>h.elim)).trans (X4.out.2.mono fun c hc=>by unfold CP;unfold C3 at hc;omega))).trans (X6.out.2.mono fun c hc=>by unfold CP;omega)
      ·by_cases o2:old.kind=2
       ·have K1b:((e.kind:Int)==1)=false:=beq_eq_false_iff_ne.2 (by omega)
        have K2b:((e.kind:Int)==2)=false:=beq_eq_false_iff_ne.2 (by omega)
        have O1b:((old.kind:Int)==1)=false:=beq_eq_false_iff_ne.2 (by omega)
        have O2b:((old.kind:Int)==2)=true:=beq_iff_eq.2 (by omega)
        have K1p:((e.kind:Int)=1)=False:=eq_false (by omega)
        have K2p:((e.kind:Int)=2)=False:=eq_false (by omega)
        have O1p:((old.kind:Int)=1)=False:=eq_false (by omega)
        have O2p:((old.kind:Int)=2)=True:=eq_true (by omega)
        have N1:Hid (e.kind≠1):=(by omega:e.kind≠1)
        have N2:Hid (e.kind≠2):=(by omega:e.kind≠2)
        have N3:Hid (¬(old.kind=1∧(e.kind≠1∨e.n≠old.n))):=(by omega:¬(old.kind=1∧(e.kind≠1∨e.n≠old.n)))
        have LC:Hid (old.kind=2∧(e.kind≠2∨e.n≠old.n)):=(by omega:old.kind=2∧(e.kind≠2∨e.n≠old.n))
        clear k1 k2 o1 o2
        obtain⟨c40,c41,c42,c43,c44,c45,c46,c47⟩:=X4.out.1.all
        dsimp only at c42 c43
        have B:=Lib.hid (X4.out.1.drew.release (fun l hl=>Nat.le_trans (HL.out.2.1 l hl).2 (by omega)) HL.out.2.2 LC.out ho)
        dsimp only at B
        go_wp2_with fail
        go_region_held (fun W'=>W'.cell? ⟨q.sp,3,none⟩=some (.pointer (some ⟨q.bp,0,none⟩))∧W'.cell? ⟨q.sp,5,none⟩=some (.pointer (some ⟨q.wp,0,none⟩))∧W'.cell? ⟨w.heap.size,0,none⟩=some (.int .i64 n)∧W'.cell? ⟨w.heap.size,1,none⟩=some (.int .i64 page)∧W'.cell? ⟨w.heap.size+1,0,none⟩=some (.int .i64 e.kind)∧W'.cell? ⟨w.heap.size+1,1,none⟩=some (.int .i64 e.n)∧W'.cell? ⟨b9,0,none⟩=some (.int .i64 old.kind)∧W'.cell? ⟨b9,1,none⟩=some (.int .i64 old.n)) (go_keep)
         ((go_at_call 143;refine B.out.mono ?_;rintro r w6 ⟨⟨bb,rfl⟩,tag6,P6,S6⟩;have X6:=Lib.hid (And.intro P6 S6);obtain⟨c60,c61,c62,c63,c64,c65,c66,c67⟩:=P6.all;dsimp only at c62 c63;clear P6 S6))
        clear c40 c41 c42 c43 c44 c45 c46 c47
        clear B
        go_wp2_with fail
        refine bodyPost_ret (v:=.int .i64 0) (by simp[results,Tryz.results88,go_sem]) rfl ⟨0,_,tag6,rfl,.inr (.inr ⟨HOE.out,by rw[HY.out],rfl,by rw[HY.out]⟩),?_,?_⟩
        ·rw[Zf N1.out,Ze N2.out,jg N3.out]
         exact X6.out.1.sp
        ·exact((((HS0.out.1.mono (fun _ h=>h.elim)).trans (X4.out.2.mono fun c hc=>by unfold CP;unfold C3 at hc;omega))).trans (Step.of_below (Below.refl _ _).drew)).trans (X6.out.2.mono fun c hc=>by unfold CP;omega)
       ·have K1b:((e.kind:Int)==1)=false:=beq_eq_false_iff_ne.2 (by omega)
        have K2b:((e.kind:Int)==2)=false:=beq_eq_false_iff_ne.2 (by omega)
        have O1b:((old.kind:Int)==1)=false:=beq_eq_false_iff_ne.2 (by omega)
        have O2b:((old.kind:Int)==2)=false:=beq_eq_false_iff_ne.2 (by omega)
        have K1p:((e.kind:Int)=1)=False:=eq_false (by omega)
        have K2p:((e.kind:Int)=2)=False:=eq_false (by omega)
        have O1p:((old.kind:Int)=1)=False:=eq_false (by omega)
        have O2p:((old.kind:Int)=2)=False:=eq_false (by omega)
        have N1:Hid (e.kind≠1):=(by omega:e.kind≠1)
        have N2:Hid (e.kind≠2):=(by omega:e.kind≠2)
        have N3:Hid (¬(old.kind=1∧(e.kind≠1∨e.n≠old.n))):=(by omega:¬(old.kind=1∧(e.kind≠1∨e.n≠old.n)))
        have N4:Hid (¬(old.kind=2∧(e.kind≠2∨e.n≠old.n))):=(by omega:¬(old.kind=2∧(e.kind≠2∨e.n≠old.n)))
        clear k1 k2 o1 o2
        obtain⟨c40,c41,c42,c43,c44,c45,c46,c47⟩:=X4.out.1.all
        dsimp only at c42 c43
        go_wp2_with fail
        refine bodyPost_ret (v:=.int .i64 0) (by simp[results,Tryz.results88,go_sem]) rfl ⟨0,_,tag4,rfl,.inr (.inr ⟨HOE.out,by rw[HY.out],rfl,by rw[HY.out]⟩),?_,?_⟩
        ·rw[Zf N1.out,Ze N2.out,jg N3.out,jf N4.out]
         exact X4.out.1.sp
        ·exact((HS0.out.1.mono (fun _ h=>h.elim)).trans (X4.out.2.mono fun c hc=>by unfold CP;unfold C3 at hc;omega))
   ·have hr0:(y1==0)=false:=beq_eq_false_iff_ne.2 hr
    go_wp2_with fail
    exact bodyPost_ret (v:=.int .i64 y1) (by simp[results,Tryz.results88,go_sem]) rfl ⟨y1,_,_,rfl,.inr (.inl ⟨HOE.out,by rw[HY.out];exact hr,by rw[HY.out],by rw[HY.out]⟩),X4.out.1.sp,(HS0.out.1.mono (fun _ h=>h.elim)).trans (X4.out.2.mono fun c hc=>by unfold CP;unfold C3 at hc;omega)⟩
end
end Go.Proofs.YtnhdmnijiphjjaaGreat
