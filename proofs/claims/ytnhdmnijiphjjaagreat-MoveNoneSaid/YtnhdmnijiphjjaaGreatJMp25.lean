/- Law 21's start: what fresh answers and leaves. -/
import Derived.Test.YtnhdmnijiphjjaaGreatJMp24
import Derived.Test.YtnhdmnijiphjjaaGreatJMp22
import Derived.Test.YtnhdmnijiphjjaaGreatJMp18
import Derived.Test.YtnhdmnijiphjjaaGreatJMp17
import Derived.Test.YtnhdmnijiphjjaaGreatJMp11
import Derived.Test.YtnhdmnijiphjjaaGreatJMp23
import Derived.Test.YtnhdmnijiphjjaaGreatJMp1
import Derived.Test.YtnhdmnijiphjjaaGreatJMp16
set_option linter.unusedVariables false
set_option linter.unusedSimpArgs false
set_option maxRecDepth 100000
set_option maxHeartbeats 2000000
namespace Go.Proofs.YtnhdmnijiphjjaaGreat
open Go Go.RowKit
theorem Vw:Tryz.zeroCells94.size=8194∧Tryz.zeroCells94.getD 0 undef=.slice none 0 0:=⟨by kernel_rfl,by kernel_rfl⟩
theorem zev(w:World):Row (w.alloc (.cells Tryz.zeroCells94 94 (0,0))) w.heap.size 8194 (fun i=>Tryz.zeroCells94.getD i undef):=by
 refine Row.new w 8194 _ _ _ Vw.1 fun i hi=>?_
 have:=Vw.1
 generalize Tryz.zeroCells94=Z at this⊢
 rw[Array.getElem?_eq_getElem (by omega)]
 simp[show i<Z.size by omega]
theorem zgm:jh [] arO.from_ (arO.from_+arO.pages)=[]∧jh [arO] arS.from_ (arS.from_+arS.pages)=[]∧jh [arO,arS] arP.from_ (arP.from_+arP.pages)=[]:=by
 refine⟨rfl,?_,?_⟩<;>simp[jh,qd,arO,arS,arP]<;>decide
theorem U6(w:World)(m:Nat)(hm:m≤4):Calls Tryz.prog 28 #[.int .i64 m] w fun e w'=>∃q x p,e=.returned (.tuple #[ptrV q.sp,ptrV p])∧AtQ w [] q x w'∧StK m zx.none x:=by
 have hm':(m:Int)≤4:=by omega
 go_enter Tryz.func28,Tryz.ntmps28
 go_wp2_with fail
 refine(ze3 w).mono ?_
 rintro e w1 ⟨rfl,hp,hb,hz⟩
 obtain⟨tag1,ht1⟩:∃tag1,tag1=retag (fun _=>0) w 2:=⟨_,rfl⟩
 have e1:Hid ((∀b,w.heap.size≤b→tag1 b=2)∧∀b,b<w.heap.size→tag1 b=0):=by rw[ht1];exact⟨fun b hb=>yc _ _ _ _ hb,fun b hb=>if_pos hb⟩
 have HP:Hid (zq w1 (fun b=>tag1 b=2) (w.heap.size+2) (w.heap.size+1) w.heap.size zk.none∧Below w.heap.size w w1):=⟨hp.loc fun k _ ho=>⟨e1.out.1 k ho,rfl⟩,hb⟩
 clear hp hb hz ht1
 obtain⟨pp,hpp⟩:∃pp,pp=w.heap.size+2:=⟨_,rfl⟩
 obtain⟨fs,hfs⟩:∃fs,fs=w.heap.size+1:=⟨_,rfl⟩
 obtain⟨fb,hfb⟩:∃fb,fb=w.heap.size:=⟨_,rfl⟩
 rw[←hpp,←hfs]at HP
 rw[←hpp]
 have HP2:Hid (zq w1 (fun b=>tag1 b=2) pp fs fb zk.none∧Below w.heap.size w w1):=by rw[hfb];exact HP
 clear hpp hfs hfb HP
 go_wp2_with fail
 refine(Y6 _ _ pp fs fb _ HP2.out.1 0 2 0 2 rfl rfl (by omega) (.inl rfl) rfl).mono ?_
 rintro e w2 ⟨rfl,h1,h2⟩
 have H2:Hid (zq w2 (fun b=>tag1 b=2) pp fs fb (vw 0)∧Turn (fun b=>tag1 b=2) w1 w2):=Lib.hid (And.intro h1 h2)
 clear h1 h2
 go_wp2_with fail
 go_loopw [5] (fun iv W=>∃j:Nat,j≤m∧iv=.int .i64 j∧zq W (fun b=>tag1 b=2) pp fs fb (vw j)∧Turn (fun b=>tag1 b=2) w1 W) (fun iv _=>m-(intOf iv).toNat)
 case atStart=>exact⟨0,by omega,rfl,H2.out.1,H2.out.2⟩
 case round=>
  clear H2
  obtain⟨j,hj,rfl,hP,hT⟩:=hrel
  by_cases hlt:j<m
  ·have hlt':(j:Int)<m:=by omega
   have i0:(0:Int)≤j:=by omega
   have OW:Hid (Calls Tryz.prog 53 #[.pointer (some ⟨pp,0,none⟩),.int .i64 (1+(j:Int)),.int .i64 3,.slice none 0 0] wr fun e w'=>e=.returned (.int .i64 0)∧zq w' (fun b=>tag1 b=2) pp fs fb (vw (j+1))∧Turn (fun b=>tag1 b=2) w1 w'):=by
    refine(Y6 _ _ pp fs fb _ hP (1+(j:Int)) 3 (1+j) 3 (by omega) rfl (by omega) (.inr rfl) (by rw[(jv j (1+j)).1,if_neg (by omega),if_neg (by omega)])).mono ?_
    rintro e w3 ⟨rfl,h1,h2⟩
    exact⟨rfl,h1,hT.trans h2⟩
   have HM:=Lib.hid (And.intro hlt hm)
   clear hP hT hm hlt
   go_wp2_with fail
   refine OW.out.mono ?_
   rintro e w3 ⟨rfl,h1,h2⟩
   have H3:=Lib.hid (And.intro h1 h2)
   clear h1 h2 OW
   have d5:IntKind.i64.wrap ((j:Int)+1)=((j+1:Nat):Int):=by simp[IntKind.wrap,IntKind.bits,IntKind.signed];omega
   go_wp2_with fail
   go_roundw
   case rel=>exact⟨j+1,by have:=HM.out.1;omega,by go_num,H3.out.1,H3.out.2⟩
   case measure=>have:=HM.out.1;simp[intOf];omega
  ·obtain rfl:j=m:=by omega
   have H3:Hid (zq wr (fun b=>tag1 b=2) pp fs fb (vw j)∧Turn (fun b=>tag1 b=2) w1 wr):=⟨hP,hT⟩
   obtain⟨w3,hw3⟩:∃w3,w3=wr:=⟨_,rfl⟩
   have hb3:Below w.heap.size w wr:=HP2.out.2.trans (hT.Xv (fun b hb=>by
    rcases Nat.lt_or_ge b w.heap.size with h|h
    ·exact absurd (e1.out.2 b h) (by omega)
    ·exact h) HP2.out.2.size)
   have HB3:=Lib.hid (And.intro hb3 e1.out.2)
   clear hb3 HP2 e1 hP hT hlt hj hm'
   rw[←hw3]at H3 HB3⊢
   clear hw3
   go_wp2_with fail
   refine(zjy w3).mono ?_
   rintro e w4 ⟨rfl,hR,hb4,_⟩
   have s4:Step (fun _=>False) tag1 w3 (retag tag1 w3 1) w4:=Step.renew 1 hb4
   have H4:Hid (qi w4 (fun b=>retag tag1 w3 1 b=1) (w3.heap.size+1) w3.heap.size RamS.none∧zq w4 (fun b=>retag tag1 w3 1 b=2) pp fs fb (vw j)∧Step (fun _=>False) tag1 w3 (retag tag1 w3 1) w4):=Lib.hid ⟨hR.loc fun k _ ho=>⟨yc _ _ _ _ ho,rfl⟩,H3.out.1.loc (s4.keeps id),s4⟩
   clear hR hb4 s4
   generalize w3.heap.size+1=rp at H4⊢
   generalize w3.heap.size=rb at H4
   generalize retag tag1 w3 1=tag4 at H4
   go_wp2_with fail
   refine(zft w4).mono ?_
   rintro e w5 ⟨rfl,hD,hb5⟩
   have s5:Step (fun _=>False) tag4 w4 (retag tag4 w4 3) w5:=Step.renew 3 hb5
   have H5:Hid (qi w5 (fun b=>retag tag4 w4 3 b=1) rp rb RamS.none∧zq w5 (fun b=>retag tag4 w4 3 b=2) pp fs fb (vw j)∧Xw w5 (fun b=>retag tag4 w4 3 b=3) (w4.heap.size+1) zx.none∧Step (fun _=>False) tag1 w3 (retag tag4 w4 3) w5):=Lib.hid ⟨H4.out.1.loc (s5.keeps id),H4.out.2.1.loc (s5.keeps id),hD.loc fun k _ ho=>⟨yc _ _ _ _ ho,rfl⟩,H4.out.2.2.trans s5⟩
   clear hD hb5 s5 H4
   generalize w4.heap.size+1=dp at H5⊢
   generalize retag tag4 w4 3=tag5 at H5
   have SN:=Lib.hid (zc6 (w:=w5) (tag:=tag5) rp rb pp fs fb dp H5.out.1 H5.out.2.1 H5.out.2.2.1)
   unfold ptrV at SN
   go_wp2_with fail
   refine SN.out.mono ?_
   rintro e w6 ⟨q,tag6,rfl,hS,s6⟩
   have h6:AtQ w [] q (za.start RamS.none (vw j) zx.none) w6:=by
    have st:=H5.out.2.2.2.trans s6
    have hb:=HB3.out.1.trans (st.turn.below.mono HB3.out.1.size)
    exact⟨⟨tag6,hS,fun b hb'=>(st.keeps (c:=0) id b (by have:=HB3.out.1.size;omega) (HB3.out.2 b hb')).1,fun p hp=>by cases hp⟩,hb⟩
   have hsz6:=Lib.hid h6.bel.size
   obtain⟨g,hg⟩:=ze5 (P:=vw j) (by have:=Uj j;omega)
   have ok6:Ok0 (za.start RamS.none (vw j) zx.none):=zaz (vw j) zx.none (fun f=>by rw[Xh];split<;>omega) fun s _=>Xt s
   have I0:=Lib.hid (StI.start (m:=j) (D:=zx.none) (fun s _=>Xt s) hg)
   obtain⟨p,hp⟩:∃p,p=w6.heap.size:=⟨_,rfl⟩
   obtain⟨W7,hW7⟩:∃W7,W7=w6.alloc (.cells Tryz.zeroCells94 94 (0,0)):=⟨_,rfl⟩
   have hR7:=zev w6
   have h7:AtB w [p] W7 q (za.start RamS.none (vw j) zx.none) W7:=by
    rw[hW7]
    exact(AtB.ofQ h6).own (S:=[]) (Touch.of_below ((Below.refl _ _).alloc (Nat.le_refl _) _)) (fun b hb=>by cases hb) fun b hb=>by
     simp at hb
     rw[hb,hp]
     exact⟨.inr (Nat.le_refl _),by simp⟩
   rw[←hW7,←hp]at hR7
   have SP:=Lib.hid (h7.spawn ok6 0 g (by omega) rfl hg)
   have H7:=Lib.hid (And.intro h7 (And.intro hR7 hp))
   unfold ptrV at SP
   clear hg h6 h7 hR7 SN H5 H3 HB3 hS s6 ok6
   go_wp2_with fail
   rw[←hW7,←hp]
   clear hW7 hp
   refine SP.out.mono ?_
   rintro e w8 ⟨rfl,u,h8⟩
   have e8:(q.at_ 0 u).sp=q.sp:=rfl
   generalize q.at_ 0 u=q8 at h8 e8
   rw[←e8]
   clear e8
   obtain⟨x8,hx8⟩:∃x8,x8=(za.start RamS.none (vw j) zx.none).qz 0 g:=⟨_,rfl⟩
   rw[←hx8]at h8 I0
   clear hx8 SP
   have hR8:=H7.out.2.1.keep (h8.same (by simp))
   have RS:=Lib.hid (zc3 w8 p _ hR8 Vw.2)
   have H8:=Lib.hid h8
   clear h8 hR8
   go_wp2_with fail
   refine RS.out.mono ?_
   rintro e w9 ⟨rfl,v9,k1,k2,t9,ho9⟩
   obtain⟨b,off,c,rfl,hc1,_,_⟩:=SlAt.cells k2 (by simp[prL])
   obtain⟨lb,hlb⟩:∃lb,lb=w9.heap.size:=⟨_,rfl⟩
   obtain⟨W10,hW10⟩:∃W10,W10=w9.alloc (.cells (Z4 arO++Z4 arS++Z4 arP).toArray 32 (0,0)):=⟨_,rfl⟩
   have hbA:Below w9.heap.size w9 W10:=by rw[hW10];exact(Below.refl _ _).alloc (Nat.le_refl _) _
   have hb8:=ho9 b rfl
   have hb9:=SlAt.lt k2 b rfl
   have hp8:=H8.out.lt (b:=p) (by simp)
   have hw8:=H8.out.bel.size
   have hRl:Row W10 lb 18 lG:=by
    rw[hW10,hlb]
    refine Row.new w9 18 lG _ _ rfl fun i hi=>?_
    unfold lG
    rw[←Array.getElem?_toList,List.getD_eq_getElem?_getD]
    show(Z4 arO++Z4 arS++Z4 arP)[i]?=_
    rw[List.getElem?_eq_getElem (by simpa[Z4]using hi)]
    rfl
   have h10:AtR w lb p b off c (fun i=>if i=0 then .slice (some ⟨b,off,none⟩) 1 c else Tryz.zeroCells94.getD i undef) q8 x8 [] W10:=by
    refine⟨⟨.slice none 0 0,.slice none 0 0,W10,?_,Row.below k1 hbA,SlAt.below k2 hbA,SlRd.nil _ _,hRl⟩,by omega,by omega,by omega,if_pos rfl⟩
    refine H8.out.own (S:=[p]) (t9.trans (Touch.of_below hbA)) (fun g hg=>by simp at hg;rw[hg];exact⟨by simp,by have:=H7.out.2.2;have:=hsz6.out;omega⟩) fun g hg=>?_
    have hsz:=hbA.size
    have h99:=t9.size
    have hlt:lb<W10.heap.size:=hRl.lt
    simp[ownL,Value.ownBlock]at hg
    rcases hg with rfl|rfl|rfl
    ·exact⟨.inr (by omega),hlt⟩
    ·exact⟨.inl (by simp),by omega⟩
    ·exact⟨.inr hb8,by omega⟩
   have H10:=Lib.hid h10
   clear k1 k2 t9 ho9 hc1 hbA hb8 hb9 hp8 hw8 hRl h10 H8 RS H7
   go_wp2_with fail
   rw[show w9.alloc (.cells #[.int .i64 0,.int .i64 8,.bool true,.int .i64 1,.int .i64 0,.int .i64 0,.int .i64 8,.int .i64 8,.bool true,.int .i64 2,.int .i64 0,.int .i64 0,.int .i64 16,.int .i64 8,.bool true,.int .i64 3,.int .i64 0,.int .i64 4] 32)=W10 from hW10.symm,←hlb]
   clear hW10 hlb
   obtain⟨T,hT⟩:=I0.out.proc
   have HT:=Lib.hid hT
   clear hT
   have c0:W10.cell? ⟨lb,0,none⟩=some (.int .i64 0):=H10.out.row.cell (by omega)
   have c1:W10.cell? ⟨lb,1,none⟩=some (.int .i64 8):=H10.out.row.cell (by omega)
   have c2:W10.cell? ⟨lb,2,none⟩=some (.bool true):=H10.out.row.cell (by omega)
   have c3:W10.cell? ⟨lb,3,none⟩=some (.int .i64 1):=H10.out.row.cell (by omega)
   have c4:W10.cell? ⟨lb,4,none⟩=some (.int .i64 0):=H10.out.row.cell (by omega)
   have c5:W10.cell? ⟨lb,5,none⟩=some (.int .i64 0):=H10.out.row.cell (by omega)
   refine wp_loop_rounds 4 ?_
   have M1:=Lib.hid (H10.out.map I0.out.ok HT.out arO xw.1.1 xw.1.2 xq.2.2.1 (by simp))
   rw[Yk]at M1
   have I1:Hid (StI j zx.none [arO] _ _):=Lib.hid (I0.out.map HT.out xw.1.1 xq.2.2.1 (by simp) (by rw[Yk];simp) (by rw[Yk];simp))
   rw[rounds_succ]
   go_wp2_with fail
   refine M1.out.mono ?_
   rintro e w11 ⟨rfl,ha⟩
   clear c0 c1 c2 c3 c4 c5 M1 H10
   have c0:w11.cell? ⟨lb,0,none⟩=some (.int .i64 0):=ha.row.cell (by omega)
   have c1:w11.cell? ⟨lb,1,none⟩=some (.int .i64 8):=ha.row.cell (by omega)
   have c2:w11.cell? ⟨lb,2,none⟩=some (.bool true):=ha.row.cell (by omega)
   have c3:w11.cell? ⟨lb,3,none⟩=some (.int .i64 1):=ha.row.cell (by omega)
   have c4:w11.cell? ⟨lb,4,none⟩=some (.int .i64 0):=ha.row.cell (by omega)
   have c5:w11.cell? ⟨lb,5,none⟩=some (.int .i64 0):=ha.row.cell (by omega)
   have RM:=Lib.hid (ha.rmap arO xw.1.1 xw.1.2 (by intro x hx;cases hx) (by simp) zgm.1)
   rw[Yk]at RM
   clear ha
   unfold ptrV at RM
   go_wp2_with fail
   refine RM.out.mono ?_
   rintro e w12 ⟨rfl,hb⟩
   have H12:=Lib.hid hb
   clear RM c0 c1 c2 c3 c4 c5
   have c0:w12.cell? ⟨lb,6,none⟩=some (.int .i64 8):=hb.row.cell (by omega)
   have c1:w12.cell? ⟨lb,7,none⟩=some (.int .i64 8):=hb.row.cell (by omega)
   have c2:w12.cell? ⟨lb,8,none⟩=some (.bool true):=hb.row.cell (by omega)
   have c3:w12.cell? ⟨lb,9,none⟩=some (.int .i64 2):=hb.row.cell (by omega)
   have c4:w12.cell? ⟨lb,10,none⟩=some (.int .i64 0):=hb.row.cell (by omega)
   have c5:w12.cell? ⟨lb,11,none⟩=some (.int .i64 0):=hb.row.cell (by omega)
   clear hb
   go_wp2_with fail
   have hT1:(x8.put 0 ⟨T,[arO],[]⟩).T 0=some ⟨T,[arO],[]⟩:=by simp[za.put]
   have M2:=Lib.hid (H12.out.map I1.out.ok hT1 arS xw.2.1.1 xw.2.1.2 xq.2.2.2.1 (by simp))
   have I2:=Lib.hid (I1.out.map hT1 xw.2.1.1 xq.2.2.2.1 (by simp) (by rw[xq.1];simp) (by rw[xq.1];simp[arO,arS]))
   rw[show insA ([arO]:List Ar) arS=[arO,arS]from xq.1]at M2 I2
   clear hT1
   rw[rounds_succ]
   go_wp2_with fail
   refine M2.out.mono ?_
   rintro e w13 ⟨rfl,ha⟩
   clear c0 c1 c2 c3 c4 c5 M2 H12
   have c0:w13.cell? ⟨lb,6,none⟩=some (.int .i64 8):=ha.row.cell (by omega)
   have c1:w13.cell? ⟨lb,7,none⟩=some (.int .i64 8):=ha.row.cell (by omega)
   have c2:w13.cell? ⟨lb,8,none⟩=some (.bool true):=ha.row.cell (by omega)
   have c3:w13.cell? ⟨lb,9,none⟩=some (.int .i64 2):=ha.row.cell (by omega)
   have c4:w13.cell? ⟨lb,10,none⟩=some (.int .i64 0):=ha.row.cell (by omega)
   have c5:w13.cell? ⟨lb,11,none⟩=some (.int .i64 0):=ha.row.cell (by omega)
   have RM:=Lib.hid (ha.rmap arS xw.2.1.1 xw.2.1.2 (by intro x hx;simp at hx;rw[hx];exact xw.1.1) (by simp) zgm.2.1)
   rw[(show insA ([arO]:List Ar) arS=[arO,arS]from xq.1)]at RM
   clear ha
   unfold ptrV at RM
   go_wp2_with fail
   refine RM.out.mono ?_
   rintro e w14 ⟨rfl,hb⟩
   have H14:=Lib.hid hb
   clear RM c0 c1 c2 c3 c4 c5
   have c0:w14.cell? ⟨lb,12,none⟩=some (.int .i64 16):=hb.row.cell (by omega)
   have c1:w14.cell? ⟨lb,13,none⟩=some (.int .i64 8):=hb.row.cell (by omega)
   have c2:w14.cell? ⟨lb,14,none⟩=some (.bool true):=hb.row.cell (by omega)
   have c3:w14.cell? ⟨lb,15,none⟩=some (.int .i64 3):=hb.row.cell (by omega)
   have c4:w14.cell? ⟨lb,16,none⟩=some (.int .i64 0):=hb.row.cell (by omega)
   have c5:w14.cell? ⟨lb,17,none⟩=some (.int .i64 4):=hb.row.cell (by omega)
   clear hb
   go_wp2_with fail
   have hT2:((x8.put 0 ⟨T,[arO],[]⟩).put 0 ⟨T,[arO,arS],[]⟩).T 0=some ⟨T,[arO,arS],[]⟩:=by simp[za.put]
   have M3:=Lib.hid (H14.out.map I2.out.ok hT2 arP xw.2.2.1 xw.2.2.2 xq.2.2.2.2 (by simp))
   have I3:=Lib.hid (I2.out.map hT2 xw.2.2.1 xq.2.2.2.2 (by simp) (by rw[xq.2.1];simp) (by rw[xq.2.1];simp[arO,arS,arP]))
   rw[xq.2.1]at M3 I3
   clear hT2
   rw[rounds_succ]
   go_wp2_with fail
   refine M3.out.mono ?_
   rintro e w15 ⟨rfl,ha⟩
   clear c0 c1 c2 c3 c4 c5 M3 H14
   have c0:w15.cell? ⟨lb,12,none⟩=some (.int .i64 16):=ha.row.cell (by omega)
   have c1:w15.cell? ⟨lb,13,none⟩=some (.int .i64 8):=ha.row.cell (by omega)
   have c2:w15.cell? ⟨lb,14,none⟩=some (.bool true):=ha.row.cell (by omega)
   have c3:w15.cell? ⟨lb,15,none⟩=some (.int .i64 3):=ha.row.cell (by omega)
   have c4:w15.cell? ⟨lb,16,none⟩=some (.int .i64 0):=ha.row.cell (by omega)
   have c5:w15.cell? ⟨lb,17,none⟩=some (.int .i64 4):=ha.row.cell (by omega)
   have RM:=Lib.hid (ha.rmap arP xw.2.2.1 xw.2.2.2 (by intro x hx;simp at hx;rcases hx with rfl|rfl;exact xw.1.1;exact xw.2.1.1) (by simp) zgm.2.2)
   rw[xq.2.1]at RM
   clear ha
   unfold ptrV at RM
   go_wp2_with fail
   refine RM.out.mono ?_
   rintro e w16 ⟨rfl,hb⟩
   have H16:=Lib.hid hb
   clear RM c0 c1 c2 c3 c4 c5
   clear hb
   go_wp2_with fail
   rw[rounds_succ]
   go_wp2_with fail
   have FN:Hid (AtQ w [] q8 (((x8.put 0 ⟨T,[arO],[]⟩).put 0 ⟨T,[arO,arS],[]⟩).put 0 ⟨T,[arO,arS,arP],[]⟩) w16):=by
    obtain⟨⟨av,s,wk,k,_⟩,_⟩:=H16.out
    exact k.toQ
   exact bodyPost_ret (v:=.tuple #[.pointer (some ⟨q8.sp,0,none⟩),.pointer (some ⟨p,0,none⟩)]) (by simp[results,Tryz.results28,go_sem]) rfl ⟨q8,_,p,rfl,FN.out,I3.out.done⟩
def l20:List UInt8:=[120,121,122]
theorem zch(j:Nat):(#[.int .u8 120,.int .u8 121,.int .u8 122]:Array Value)[j]?=(l20.map bV)[j]?:=by
 rw[←Array.getElem?_toList]
 rfl
theorem J4(w:World):Calls Tryz.prog 30 #[] w fun e w'=>e=.returned (.bool true)∧Below w.heap.size w w':=by
 have kc:=fun(w:World) (C:Array Value) (n c:Nat)=>Lib.run_convert_bytes_const (P:=Tryz.prog) w 22 5 C n c Tryz.underlying22 Tryz.underlying5
 go_enter Tryz.func30,Tryz.ntmps30
 go_wp2_with fail
 refine(U6 w 2 (by omega)).mono ?_
 rintro e w1 ⟨q,x,p,rfl,h1,hx⟩
 obtain⟨y,f,to,wr,md⟩:=mvD hx (pg:=0) (at_:=5) (b:=l20) (by omega) (by decide)
 have HM:=Lib.hid md
 have HX:=Lib.hid hx
 have H1:=Lib.hid h1
 clear h1 hx md
 unfold ptrV at *
 go_wp2_with fail
 have hb4:Below w1.heap.size w1 (w1.alloc (.cells #[.int .u8 120,.int .u8 121,.int .u8 122] 5 (3,4))):=(Below.refl _ _).alloc (Nat.le_refl _) _
 have hv4:BRd (w1.alloc (.cells #[.int .u8 120,.int .u8 121,.int .u8 122] 5 (3,4))) (.slice (some ⟨w1.heap.size,0,none⟩) 3 3) l20:=by
  refine⟨rfl,.inr ⟨w1.heap.size,0,3,rfl,Nat.le_refl _,by decide,by simp,fun j u hu=>?_⟩⟩
  rw[Nat.zero_add,zba,←hu]
  exact zch j
 have H4:=Lib.hid (H1.out.more hb4 hv4 fun b hb=>.inr (by simp[Value.ownBlock]at hb;omega))
 clear hb4 hv4 H1
 have ST:=Lib.hid (H4.out.store HX.out.ok (n:=0) (by omega) (outM HX.out).2.2 (64*0+5) (.inl (List.mem_cons_self ..)) HM.out.right)
 rw[show x.Yi ((0:Nat):Int) ((64*0+5:Nat):Int) l20=(0,y)from HM.out.store]at ST
 refine ST.out.mono ?_
 rintro e w5 ⟨rfl,h5⟩
 have H5:=Lib.hid h5
 obtain⟨t1,t2⟩:=h5.tree HM.out.ok.ok.wf 0 (by omega) HM.out.some
 have T1:=Lib.hid (And.intro t1 (t2 w5 (Below.refl _ _) 0 (by omega)))
 rw[HM.out.ent]at T1
 clear h5 ST H4 kc t1 t2
 unfold ptrV entV at T1
 go_wp2_with fail
 refine T1.out.1.mono ?_
 rintro e u ⟨rfl,hu⟩
 have hu:=hu.symm
 subst hu
 go_wp2_with fail
 refine T1.out.2.mono ?_
 rintro e w6 ⟨rfl,hb6⟩
 have h6:=(H5.out.below hb6).ent ⟨1,(f:Int),wr⟩
 have k6:=zbh (h6.kept (List.mem_cons_self ..))
 obtain⟨eb,heb⟩:∃eb,eb=w6.heap.size:=⟨_,rfl⟩
 obtain⟨W6,hW6⟩:∃W6,W6=w6.alloc (.cells #[.int .i64 (1:Nat),.int .i64 f,.bool wr] 70):=⟨_,rfl⟩
 have hW6':W6=w6.alloc (.cells #[.int .i64 1,.int .i64 f,.bool wr] 70):=hW6
 dsimp only at h6 k6
 rw[←hW6,←heb]at h6 k6
 have MV:=Lib.hid (h6.move HM.out.ok f to HM.out.lt HM.out.use HM.out.next)
 have c1:W6.cell? ⟨eb,1,none⟩=some (.int .i64 f):=k6.2.1
 unfold ptrV at MV
 clear hb6 T1 H5 h6 k6
 go_wp2_with fail
 rw[←hW6',←heb]
 clear hW6 hW6' heb
 refine MV.out.mono ?_
 rintro e w7 ⟨rfl,h7⟩
 have H7:=Lib.hid h7
 obtain⟨t1,t2⟩:=h7.tree HM.out.mv.ok.ok.wf 0 (by omega) HM.out.some2
 have T2:=Lib.hid (And.intro t1 (t2 w7 (Below.refl _ _) 0 (by omega)))
 rw[HM.out.ent2]at T2
 clear h7 t1 t2 MV c1
 unfold ptrV entV at T2
 go_wp2_with fail
 refine T2.out.1.mono ?_
 rintro e u ⟨rfl,hu⟩
 have hu:=hu.symm
 subst hu
 go_wp2_with fail
 refine T2.out.2.mono ?_
 rintro e w8 ⟨rfl,hb8⟩
 have h8:=(H7.out.below hb8).ent ⟨1,(to:Int),wr⟩
 obtain⟨eb2,heb2⟩:∃eb2,eb2=w8.heap.size:=⟨_,rfl⟩
 obtain⟨W8,hW8⟩:∃W8,W8=w8.alloc (.cells #[.int .i64 (1:Nat),.int .i64 to,.bool wr] 70):=⟨_,rfl⟩
 have hW8':W8=w8.alloc (.cells #[.int .i64 1,.int .i64 to,.bool wr] 70):=hW8
 dsimp only at h8
 rw[←hW8,←heb2]at h8
 obtain⟨v,hv⟩:=HM.out.load
 have LD:=Lib.hid (h8.load HM.out.mv.ok (n:=0) (by omega) HM.out.some2 ((64*0+5:Nat):Int) l20.length)
 rw[show(y.qh f to).Ve ((0:Nat):Int) ((64*0+5:Nat):Int) l20.length=((l20,0),v)from hv]at LD
 clear hb8 T2 H7 h8 hv
 unfold ptrV at LD
 go_wp2_with fail
 rw[←hW8',←heb2]
 clear hW8 hW8' heb2
 refine LD.out.mono ?_
 rintro e w9 ⟨vv,rfl,h9⟩
 have hv:=h9.get (List.mem_cons_self ..)
 have hbel:=Lib.hid h9.bel
 have k2:=zbh (h9.kept (List.mem_cons_of_mem _ (List.mem_cons_self ..)))
 have k1:=zbh (h9.kept (List.mem_cons_of_mem _ (List.mem_cons_of_mem _ (List.mem_cons_self ..))))
 have c1:w9.cell? ⟨eb,1,none⟩=some (.int .i64 f):=k1.2.1
 have c2:w9.cell? ⟨eb2,1,none⟩=some (.int .i64 to):=k2.2.1
 obtain⟨b,off,c,hve,_,_,hx⟩:=SlRd.cells hv (by simp[l20])
 subst hve
 have ks:(convert 22 9 (.slice (some ⟨b,off,none⟩) l20.length c)).run Tryz.prog w9=.ok (.string ⟨#[120,121,122]⟩) w9:=by
  have:=run_convert_bytes_back (P:=Tryz.prog) w9 22 9 5 ⟨b,off,none⟩ c [120,121,122] Tryz.underlying22 Tryz.underlying5 Tryz.underlying9 (fun j hj=>by
   have:=hx j _ (by rw[List.getElem?_map];exact congrArg _ (List.getElem?_eq_getElem (l:=l20) hj))
   rw[add_plain]
   exact this)
  exact this
 have hne:=HM.out.ne
 have n1:((to:Int)==(f:Int))=false:=beq_eq_false_iff_ne.2 (by omega)
 have n2:((to:Int)=(f:Int))=False:=eq_false (by omega)
 have n3:((to:Int) != (f:Int))=true:=by simp only[bne,n1];rfl
 clear hv hx h9 LD HX HM hne k1 k2
 go_wp2_with fail
 go_ret
 exact⟨rfl,hbel.out⟩
theorem zjg(w:World)(f:Int):Calls Tryz.prog 31 #[.pointer none,.int .i64 f] w fun e w'=>e=.returned (.int .i64 1)∧w'=w:=by
 go_enter Tryz.func31,Tryz.ntmps31
 go_wp2_with fail
 go_ret
 exact⟨rfl,rfl⟩
theorem AtQ.zn9{w0 w:World}{V:List (Value×List Value)}{q:Sq}{x:za}(h:AtQ w0 V q x w)(f:Nat)(hf:f<1024)(hu:¬(x.P.use f=3∨x.P.use f=4)):
  Calls Tryz.prog 31 #[ptrV q.sp,.int .i64 f] w fun e w'=>e=.returned (.int .i64 2)∧w'=w:=by
 obtain⟨tag,hS,_⟩:=h.st
 have MV:=Lib.hid (Xj hS f hf)
 rw[decide_eq_false hu]at MV
 clear hS h
 unfold ptrV at *
 go_enter Tryz.func31,Tryz.ntmps31
 go_wp2_with fail
 refine MV.out.mono ?_
 rintro e w1 ⟨rfl,hw⟩
 have hw:=hw.symm
 subst hw
 go_wp2_with fail
 go_ret
 exact⟨rfl,rfl⟩
theorem zcc(f:Int)(w:World)(hf:(Lit.int .i64 f).wf=true):Calls Tryz.prog 6 #[.int .i64 f] w fun e w'=>e=.returned (.bool true)∧Below w.heap.size w w':=by
 clear hf
 go_enter Tryz.func6,Tryz.ntmps6
 go_wp2_with fail
 refine(U6 w 1 (by omega)).mono ?_
 rintro e w1 ⟨q,x,p,rfl,h1,hx⟩
 have hu:¬(x.P.use 900=3∨x.P.use 900=4):=by
  have:=hx.use 900
  rw[if_neg (by omega)]at this
  omega
 have H1:=Lib.hid h1
 have HU:=Lib.hid hu
 clear h1 hx hu
 have MN:=Lib.hid (H1.out.moveNo 900 (by omega) HU.out)
 unfold ptrV at *
 go_wp2_with fail
 refine(zkq w1 f).mono ?_
 rintro e u ⟨rfl,hu⟩
 have hu:=hu.symm
 subst hu
 go_wp2_with fail
 refine MN.out.mono ?_
 rintro e u ⟨rfl,hu⟩
 have hu:=hu.symm
 subst hu
 clear MN
 go_wp2_with fail
 refine(J4 w1).mono ?_
 rintro e w2 ⟨rfl,hb⟩
 have H2:=Lib.hid (H1.out.below hb)
 have CN:=Lib.hid (H2.out.zn9 900 (by omega) HU.out)
 unfold ptrV at CN
 clear hb H1
 go_wp2_with fail
 refine(zjg w2 f).mono ?_
 rintro e u ⟨rfl,hu⟩
 have hu:=hu.symm
 subst hu
 go_wp2_with fail
 refine CN.out.mono ?_
 rintro e u ⟨rfl,hu⟩
 have hu:=hu.symm
 subst hu
 go_wp2_with fail
 go_ret
 exact⟨rfl,H2.out.bel⟩
def zk.Yg(P:zk)(s u j:Nat):Nat:=(List.range j).countP fun i=>decide (P.use (32*s+i)=u)
def zk.count(P:zk)(s u:Nat):Nat:=P.Yg s u 32
theorem U7(P:zk)(s u j:Nat):P.Yg s u (j+1)=P.Yg s u j+if P.use (32*s+j)=u then 1 else 0:=by
 unfold zk.Yg
 rw[List.range_succ,List.countP_append]
 by_cases h:P.use (32*s+j)=u<;>simp[h]
theorem Uw(P:zk)(s u j:Nat):P.Yg s u j≤j:=by
 unfold zk.Yg
 have:=List.countP_le_length (p:=fun i=>decide (P.use (32*s+i)=u)) (l:=List.range j)
 simpa using this
theorem Vd(w:World)(O:Nat→Prop)(p fs fb:Nat)(P:zk)(h:zq w O p fs fb P)(s u:Nat)(hs:s<32):
  Calls Tryz.prog 50 #[.pointer (some ⟨p,0,none⟩),.int .i64 s,.int .i64 u] w fun e w'=>e=.returned (.int .i64 (P.count s u))∧w'=w:=by
 have F:=Lib.hid (Zt w s s rfl hs)
 have HU:Hid (∀f,f<1024→_):=fun f hf=>h.use (f:=f) hf
 clear h
 go_enter Tryz.func50,Tryz.ntmps50
 go_wp2_with fail
 refine F.out.mono ?_
 rintro e w1 ⟨rfl,hw⟩
 have hw:=hw.symm
 subst hw
 clear F
 go_wp2_with fail
 go_loopw [7,10] (fun nv fv W=>∃j:Nat,j≤32∧fv=.int .i64 ((32*s+j:Nat):Int)∧nv=.int .i64 (P.Yg s u j)∧W=w) (fun _ fv _=>32*s+32-(intOf fv).toNat)
 case atStart=>exact⟨0,by omega,by go_num,rfl,rfl⟩
 case round=>
  obtain⟨j,hj,rfl,rfl,rfl⟩:=hrel
  have hc:=Uw P s u j
  by_cases hlt:j<32
  ·have hlt':((32*s+j:Nat):Int)<((s:Int)+1)*32:=by omega
   have i0:(0:Int)≤((32*s+j:Nat):Int):=by omega
   have i1:((32*s+j:Nat):Int)<1024:=by omega
   have hcell:=HU.out (32*s+j) (by omega)
   by_cases hu:P.use (32*s+j)=u
   ·have e1:((P.use (32*s+j):Nat):Int)==(u:Int):=beq_iff_eq.2 (by rw[hu])
    have hsucc:=Lib.hid (U7 P s u j)
    have HUU:=Lib.hid hu
    clear hu
    go_wp2_with fail
    go_roundw
    case rel=>exact⟨j+1,by omega,by go_num,by rw[hsucc.out,if_pos HUU.out];go_num,trivial⟩
    case measure=>simp[intOf];omega
   ·have e1:(((P.use (32*s+j):Nat):Int)==(u:Int))=false:=beq_eq_false_iff_ne.2 (by omega)
    have e2:(((P.use (32*s+j):Nat):Int)=(u:Int))=False:=eq_false (by omega)
    have hsucc:=Lib.hid (U7 P s u j)
    have HUU:=Lib.hid hu
    clear hu
    go_wp2_with fail
    go_roundw
    case rel=>exact⟨j+1,by omega,by go_num,by rw[hsucc.out,if_neg HUU.out,Nat.add_zero],trivial⟩
    case measure=>simp[intOf];omega
  ·obtain rfl:j=32:=by omega
   have hlt':¬((32*s+32:Nat):Int)<((s:Int)+1)*32:=by omega
   go_wp2_with fail
   go_ret
   exact⟨rfl,rfl⟩
theorem AtQ.count{w0 w:World}{V:List (Value×List Value)}{q:Sq}{x:za}(h:AtQ w0 V q x w)(s u:Nat)(hs:s<32):Calls Tryz.prog 50 #[.pointer (some ⟨q.pp,0,none⟩),.int .i64 s,.int .i64 u] w fun e w'=>e=.returned (.int .i64 (x.P.count s u))∧w'=w:=by
 obtain⟨tag,hS,_⟩:=h.st
 exact Vd _ _ _ _ _ _ hS.pool s u hs
section
variable {x y:za}
def za.has(x:za)(n:Nat)(l:List Nat):Nat:=l.countP fun pg=>decide ((x.ent n pg).kind≠0)
end
theorem count_one{P:zk}{s u f:Nat}(hf:32*s≤f∧f<32*s+32)(h:∀i,i<32→(P.use (32*s+i)=u↔32*s+i=f)):P.count s u=1:=by
 unfold zk.count zk.Yg
 have h0:(List.range 32).countP (fun i=>decide (P.use (32*s+i)=u))=(List.range 32).countP fun i=>decide (i=f-32*s):=by
  refine List.countP_congr fun i hi=>?_
  have hi:i<32:=by simpa using hi
  have:=h i hi
  simp only[decide_eq_true_eq]
  omega
 rw[h0]
 obtain⟨j,hj⟩:∃j,j=f-32*s:=⟨_,rfl⟩
 rw[←hj]
 have hj32:j<32:=by omega
 have:∀j,j<32→(List.range 32).countP (fun i=>decide (i=j))=1:=by decide
 exact this j hj32
theorem Uu{P:zk}{s u:Nat}(h:∀i,i<32→P.use (32*s+i)≠u):P.count s u=0:=by
 unfold zk.count zk.Yg
 rw[List.countP_eq_zero]
 intro i hi
 have hi:i<32:=by simpa using hi
 simpa using h i hi
section
variable {x:za}
theorem Ok0.inE(h:Ok0 x){n page k f:Nat}(_:n<8)(hpg:page<4096)(he:(x.ent n page).kind=2)(hk:(x.ent n page).n=k)(hc:x.D.Calm)(hf:x.P.next true=some f):
  (x.inF k).1=((f:Int),0)∧(∀m pg,pg<4096→(x.inF k).2.ent m pg=if plc m pg∈x.S.getD k []then⟨1,(f:Int),false⟩else x.ent m pg)∧(x.inF k).2.P.use f=3:=by
 have hk32:k<32:=by
  have:=(Ent.ok_n (h.ok.wf.Y8 n hpg)).2 he
  omega
 have o:=h.out
 unfold za.inF
 rcases h.ok.wf.zw 3 (160+k) (by omega) (by omega) (h.ok.wf.secs _ (by omega))with⟨hnx,e⟩|⟨g,hnx,hw,e,d,hD⟩|⟨g,hnx,hw,e,d,hD⟩
 ·rw[hf]at hnx;cases hnx
 ·have hgf:g=f:=by rw[hf]at hnx;exact(Option.some.inj hnx).symm
  subst hgf
  obtain⟨k1,s1,hB,hcr,hu,hrd⟩:=d.ok h.ok o
  have kp1:=d.keeps (.inl rfl)
  have e1:=d.ent
  have kS:=d.keep.2.2.1
  have kR:=d.keep.2.2.2.2
  have hf:=d.was.1
  have hcur:=d.cur
  have st1:=d.stay
  obtain⟨y,hy⟩:∃y,y=(x.zw 3 (160+k)).2:=⟨_,rfl⟩
  rw[←hy]at k1 s1 hu hrd kp1 e1 st1 kS kR hcur⊢
  rw[e]
  dsimp only
  rw[if_pos rfl]
  clear hy d e
  have hI:InI (fun _=>False) k g x y:=⟨k1,s1,kp1,hu,by rw[kR];exact hcr,by rw[hrd,hcur],fun g hg _ hgu hgB=>st1.backs g hg hgu hgB,kR⟩
  have hL:InL k g x y (y.S.getD k []):=fun p hp=>by
   rw[kS]at hp
   obtain⟨e2,h1,h2⟩:=((jq h.ok.wf.slots k).2 p hp).plc
   rw[e2]at hp
   have h3:=(h.ok.slotE k _ _ hk32 h1 h2).1 hp
   cases hq:x.T p.1.toNat with
   | none=>rw[Ym hq]at h3;exact absurd h3.1 (by decide)
   | some pr=>exact⟨_,_,pr,e2,h1,h2,hq,.inl (by rw[e1 _ _ h2];exact h3)⟩
  obtain⟨i1,_,i3⟩:=hI.go hf o _ _ hL
  refine⟨rfl,fun m pg hq=>?_,i1.use⟩
  rw[i3 m pg hq,kS,e1 m pg hq]
 ·exact absurd (by rw[hc.work]) hw
end
structure Prof(x:za)(m k f:Nat):Prop where
 ok:Ok0 x
 ent:∀i pg,i<8→pg<4096→(x.ent i pg).kind=if i≤m∧pg=k then 1 else 0
 n:∀i,i≤m→(x.ent i k).n=f
 use:x.P.use f=3
 sec:32≤f∧f<64
section
variable {x y:za}{m k f:Nat}
theorem zh9(h:Ok0 x)(hn:∀i pg,i<8→pg<4096→(x.ent i pg).kind≠2):(∀j,x.S.getD j []=[]):=fun j=>by
 by_cases hj:j<32
 ·cases hq:x.S.getD j []with
  | nil=>rfl
  | cons p l=>
   have hp:p∈x.S.getD j []:=by rw[hq];simp
   obtain⟨e2,h1,h2⟩:=((jq h.ok.wf.slots j).2 p hp).plc
   rw[e2]at hp
   exact absurd ((h.ok.slotE j _ _ hj h1 h2).1 hp).1 (hn _ _ h1 h2)
 ·rw[List.getD_eq_getElem?_getD,List.getElem?_eq_none (by rw[h.ok.wf.slots.1];omega)];rfl
theorem Prof.slots(h:Prof x m k f):∀j,x.S.getD j []=[]:=zh9 h.ok fun i pg h1 h2=>by
 rw[h.ent i pg h1 h2];split<;>decide
theorem Prof.held(h:Prof x m k f):zk3 x.S=0:=zir _ fun j _=>h.slots j
structure Gone(x:za)(m k j:Nat):Prop where
 ok:Ok0 x
 ent:∀i pg,i<8→pg<4096→(x.ent i pg).kind=if i≤m∧pg=k then 2 else 0
 n:∀i,i≤m→(x.ent i k).n=j
 lt:j<32
 held:zk3 x.S=1
theorem Gone.back{j g i:Nat}(h:Gone x m k j)(hm:m<8)(hk:k<4096)(hi:i≤m)(hc:x.D.Calm)(hg:x.P.next true=some g)(hs:32≤g∧g<64){a:Ar}{pr:yj}(hp:x.T i=some pr)(ha:yh pr.A (k:Int)=some a)(d:zj3 x i k y):Prof y m k g:=by
 have hk2:(x.ent i k).kind=2:=by rw[h.ent i k (by omega) hk,if_pos ⟨hi,rfl⟩]
 have hn:=h.n i hi
 obtain⟨q1,q2,q3⟩:=h.ok.inE (by omega) hk hk2 hn hc hg
 have hy:(x.inF j).2=y:=by
  rw[←d.eq]
  unfold za.askF
  rw[hp]
  dsimp only
  rw[ha]
  dsimp only
  rw[if_neg (by simp),if_neg (by simp)]
  unfold za.zt
  rw[if_neg (by omega),if_pos hk2,hn,Int.toNat_natCast]
 rw[hy]at q2 q3
 have hmem:∀i' pg,i'<8→pg<4096→(plc i' pg∈x.S.getD j []↔i'≤m∧pg=k):=fun i' pg h1 h2=>by
  rw[h.ok.ok.slotE j i' pg h.lt h1 h2]
  have he:=h.ent i' pg h1 h2
  constructor
  ·rintro⟨b,_⟩
   by_cases hc:i'≤m∧pg=k
   ·exact hc
   ·rw[if_neg hc,b]at he;cases he
  ·intro hc
   rw[if_pos hc]at he
   exact⟨he,by rw[hc.2];exact h.n i' hc.1⟩
 refine⟨d.ok,fun i' pg h1 h2=>?_,fun i' hi'=>?_,q3,hs⟩
 ·rw[q2 i' pg h2]
  by_cases hc:i'≤m∧pg=k
  ·rw[if_pos ((hmem i' pg h1 h2).2 hc),if_pos hc]
  ·rw[if_neg fun z=>hc ((hmem i' pg h1 h2).1 z),if_neg hc,h.ent i' pg h1 h2,if_neg hc]
 ·rw[q2 i' k hk,if_pos ((hmem i' k (by omega) hk).2 ⟨hi',rfl⟩)]
end
section
variable {x y:za}{m k f g:Nat}{b:List UInt8}
theorem Ok0.askNew(h:Ok0 x){n page:Nat}{pr:yj}(hp:x.T n=some pr)(hpg:page<4096){a:Ar}(ha:yh pr.A (page:Int)=some a)(hk:a.kind=1)(hw:a.write=true)(he:(x.ent n page).kind=0)(hg:x.P.next true=some g)(h0:(x.askF n page true).1.2=0):
  (x.askF n page true).1.1=g∧(∀m pg,pg<4096→(x.askF n page true).2.ent m pg=if m=n∧pg=page then⟨1,(g:Int),true⟩else x.ent m pg)∧(x.askF n page true).2=((x.Xo g 3).putF n page ⟨1,(g:Int),true⟩).2:=by
 have hn:=h.ok.Xg h.out hp
 rcases h.ok.wf.yt 3 with⟨hx,_⟩|⟨f,hx,e,d⟩
 ·rw[hg]at hx;cases hx
 obtain rfl:g=f:=by rw[hg]at hx;exact Option.some.inj hx
 obtain⟨_,_,hB,hcr,_,_⟩:=d.ok h.ok h.out
 have hp1:(x.Xo g 3).T n=some pr:=by rw[d.keep.1];exact hp
 have hok:(⟨1,(g:Int),true⟩:Ent).ok=true:=by have:=d.was.1;simp[Ent.ok,most];omega
 have d2:=d.wf.putF hn hp1 hpg (e:=⟨1,g,true⟩) hok
 obtain⟨⟨c,z⟩,hz⟩:∃r,r=(x.Xo g 3).putF n page ⟨1,g,true⟩:=⟨_,rfl⟩
 rw[←hz]at d2
 have hfirst:x.uk n page a=if c=0 then(((g:Int),0),z)else((0,c),z.uw g):=by
  unfold za.uk
  rw[if_neg (by omega),e]
  dsimp only
  rw[if_pos rfl,hw,←hz]
 have hpres:x.zt n page a=x.uk n page a:=by
  unfold za.zt
  rw[if_neg (by omega),if_neg (by omega),if_pos he]
 have hask:x.askF n page true=if(x.uk n page a).1.2=0 then(x.uk n page a).2.ownF n page a (x.uk n page a).1.1 else x.uk n page a:=by
  unfold za.askF
  rw[hp]
  dsimp only
  rw[ha]
  dsimp only
  rw[if_neg (by rw[hw];simp),hpres]
  by_cases q:(x.uk n page a).1.2=0
  ·rw[if_pos ⟨q,rfl⟩,if_pos q]
  ·rw[if_neg (fun z=>q z.1),if_neg q]
 by_cases hc:c=0
 ·subst hc
  rw[if_pos rfl]at hfirst
  rw[hfirst]at hask
  dsimp only at hask d2
  rw[if_pos rfl]at hask
  have hent:z.ent n page=⟨1,(g:Int),true⟩:=by rw[d2.ent n page hpg,if_pos ⟨rfl,rfl,rfl⟩]
  obtain⟨T',hT'⟩:=d2.this
  have hget:=d2.wf.get hT' hpg
  rw[hent]at hget
  have hput:z.putF n page ⟨1,(g:Int),true⟩=(0,z):=by
   unfold za.putF
   rw[hT']
   dsimp only at hget⊢
   rw[hget]
   dsimp only
   rw[if_neg (by simp),if_pos rfl]
  have hcr':getL z.CR (g:Int)=none:=by rw[d2.keep.2.2,d.keep.2.2.2.2];exact hcr
  have hmem:∀q,q∈z.B (g:Int)→q=plc n page:=fun q hq=>by
   have:=(d2.memB g q).1 hq
   by_cases r:(0:Int)=0∧q=plc n page∧(x.Xo g 3).ent n page≠⟨1,(g:Int),true⟩
   ·exact r.2.1
   ·rw[if_neg r,d.keep.2.1,hB]at this;cases this
  have hin:plc n page∈z.B (g:Int):=by
   refine(d2.memB g _).2 ?_
   rw[if_pos ⟨rfl,rfl,fun q=>by rw[d.ent n page hpg]at q;rw[q]at he;cases he⟩]
   exact .inl ⟨rfl,rfl⟩
  have hlen:(z.B (g:Int)).length=1:=by
   have hs:=(d2.wf.back (g:Int)).1
   cases hl:z.B (g:Int)with
   | nil=>rw[hl]at hin;cases hin
   | cons q l=>
    cases l with
    | nil=>rfl
    | cons r l=>
     rw[hl]at hs hmem
     have e1:=hmem q (by simp)
     have e2:=hmem r (by simp)
     subst e1;subst e2
     exact absurd ((List.pairwise_cons.1 hs).1 _ (by simp)) (ltP.irrefl _)
  have hown:z.ownF n page a (g:Int)=(((g:Int),0),z):=by
   unfold za.ownF
   rw[if_neg (by omega),if_pos ⟨hcr',hlen⟩,hput]
  rw[hask,hown]
  refine⟨rfl,fun m pg hq=>?_,congrArg Prod.snd hz⟩
  dsimp only
  rw[d2.ent m pg hq]
  by_cases r:m=n∧pg=page
  ·rw[if_pos ⟨rfl,r⟩,if_pos r]
  ·rw[if_neg (fun z=>r z.2),if_neg r,d.ent m pg hq]
 ·exfalso
  rw[if_neg hc]at hfirst
  rw[hask,hfirst]at h0
  dsimp only at h0
  rw[if_neg hc]at h0
  exact hc h0
end
def Zs(x y:RPT):Prop:=y.P.zone=x.P.zone∧∀f∈y.T.own,f∈x.T.own∨x.P.zone (f/32)=2
theorem Zs.refl(x:RPT):Zs x x:=⟨rfl,fun _ h=>.inl h⟩
theorem Zs.trans{x y z:RPT}(h:Zs x y)(k:Zs y z):Zs x z:=
 ⟨k.1.trans h.1,fun f hf=>(k.2 f hf).elim (h.2 f) fun e=>.inr (by rw[←h.1];exact e)⟩
theorem Zs.ram{x y:RPT}(h:Zs x y)(R:RamS):Zs x ⟨R,y.P,y.T⟩:=h
theorem ziy(P:zk)(f:Int):(P.free f).zone=P.zone:=by unfold zk.free;split<;>rfl
theorem zfw(P:zk)(f:Int):(P.zke f).zone=P.zone:=by unfold zk.zke;split<;>rfl
theorem zg9(x:RPT):Zs x x.table.2:=by
 unfold RPT.table
 cases hn:x.P.next false with
 | none=>exact Zs.refl x
 | some f=>
  obtain⟨_,hav,_⟩:=Yq hn
  have hz:x.P.zone (f/32)=2:=by
   unfold zk.Y3 at hav
   simp only[decide_eq_true_eq]at hav
   exact hav.2.1
  dsimp only
  obtain⟨c,hc⟩:∃c,c=ramE 1024 x.R f 0 64:=⟨_,rfl⟩
  rw[←hc]
  by_cases k:c=0
  ·rw[if_pos k]
   exact⟨rfl,fun g hg=>(List.mem_append.1 hg).imp id fun h=>by rw[List.mem_singleton.1 h];exact hz⟩
  ·rw[if_neg k]
   have h9:=(zfw (x.P.set f 2) f).trans (show(x.P.set f 2).zone=x.P.zone from rfl)
   generalize (x.P.set f 2).zke f=P9 at h9
   exact⟨h9,fun _ hg=>.inl hg⟩
theorem drop_z(x:RPT)(f:Int):Zs x (x.drop f):=⟨ziy _ _,fun g hg=>.inl (List.mem_filter.1 hg).1⟩
theorem zb5(page:Nat)(list:List Int):∀(k:Nat) (x:RPT),Zs x (RPT.qa page list k x)
 | 0,x=>Zs.refl x
 | k+1,x=>by
  unfold RPT.qa
  split
  ·exact((drop_z x _).ram _).trans (zb5 page list k _)
  ·exact Zs.refl x
theorem zhu(x:RPT)(page:Nat)(list:List Int):Zs x (x.prune page list):=zb5 page list _ x
theorem zbf(page:Nat):∀(j:Nat) (list:List Int) (x:RPT),Zs x (RPT.ym page j list x).2
 | 0,_,x=>Zs.refl x
 | j+1,list,x=>by
  unfold RPT.ym
  dsimp only
  split
  ·exact((zg9 x).ram _).trans (zbf page j _ _)
  ·exact(zg9 x).trans (zhu _ _ _)
theorem zbz(x:RPT)(page:Nat)(list:List Int)(v:Nat):Zs x (x.setLast page list v).2:=by
 unfold RPT.setLast
 dsimp only
 split
 ·exact((Zs.refl x).ram _).trans (zhu _ _ _)
 ·exact Zs.refl x
theorem zno(x:RPT)(page:Int)(e:Ent):Zs x (x.set page e).2:=by
 unfold RPT.set
 dsimp only
 split
 ·split
  ·split
   ·split
    ·split
     ·exact Zs.refl x
     ·split
      ·exact(zbf _ _ _ x).trans (zbz _ _ _ _)
      ·exact zbf _ _ _ x
    ·exact zbz _ _ _ _
   ·exact Zs.refl x
  ·exact Zs.refl x
 ·exact Zs.refl x
section
variable {x y:za}
theorem putF_z(x:za)(n page:Nat)(e:Ent):(x.putF n page e).2.P.zone=x.P.zone∧∀m f,(x.putF n page e).2.owns m f→x.owns m f∨x.P.zone (f/32)=2:=by
 have key:∀(pr:yj),x.T n=some pr→∀z:za,z.T=(x.xc n pr ((⟨x.R,x.P,pr.T⟩:RPT).set page e).2).T→∀m f,z.owns m f→x.owns m f∨x.P.zone (f/32)=2:=fun pr hp z hz m f ⟨pm,hm,hf⟩=>by
  rw[hz,Zd]at hm
  by_cases c:m=n
  ·rw[if_pos c]at hm
   cases hm
   rcases(zno ⟨x.R,x.P,pr.T⟩ page e).2 f hf with h|h
   ·exact .inl ⟨pr,by rw[c];exact hp,h⟩
   ·exact .inr h
  ·rw[if_neg c]at hm
   exact .inl ⟨pm,hm,hf⟩
 unfold za.putF
 cases hp:x.T n with
 | none=>exact⟨rfl,fun m f h=>.inl h⟩
 | some pr=>
  dsimp only
  split
  ·exact⟨rfl,fun m f h=>.inl h⟩
  ·split
   ·exact⟨rfl,fun m f h=>.inl h⟩
   ·split
    ·exact⟨(zno ⟨x.R,x.P,pr.T⟩ page e).1,key pr hp _ rfl⟩
    ·have hf:=zm5 (x.xc n pr ((⟨x.R,x.P,pr.T⟩:RPT).set page e).2) e (jr x.R pr.T page).1 ((n:Int),(page:Int))
     refine⟨?_,key pr hp _ hf.1⟩
     show((x.xc n pr ((⟨x.R,x.P,pr.T⟩:RPT).set page e).2).puts e (jr x.R pr.T page).1 ((n:Int),(page:Int))).P.zone=_
     rw[zm6]
     have hz:=(zno ⟨x.R,x.P,pr.T⟩ page e).1
     split
     ·exact hz
     ·exact hz
end
def zk.isol(P:zk)(s:Nat)(b:Bool):zk:={P with iso:=fun t=>if t=s then b else P.iso t}
def zk.offN(P:zk)(s k:Nat):zk:=
 ⟨fun f=>if 32*s≤f∧f<32*s+k then(if P.use f=6 then 6 else 0)else P.use f,fun t=>if t=s then 0 else P.zone t,fun t=>if t=s then false else P.iso t⟩
theorem zk.zh7(P:zk)(s k f:Nat)(hf:f=32*s+k):(P.offN s k).use f=P.use f:=by
 unfold zk.offN
 simp only
 rw[if_neg (by omega)]
theorem zk.zkp(P:zk)(s k f:Nat)(hf:f=32*s+k)(h6:P.use f=6):P.offN s k=P.offN s (k+1):=by
 unfold zk.offN
 simp only[zk.mk.injEq,and_true]
 funext g
 by_cases e:g=f
 ·subst e
  rw[if_neg (by omega),if_pos (by omega),if_pos h6];exact h6
 ·by_cases e2:32*s≤g∧g<32*s+k
  ·simp only[if_pos e2,if_pos (show 32*s≤g∧g<32*s+(k+1)by omega)]
  ·simp only[if_neg e2,if_neg (show ¬(32*s≤g∧g<32*s+(k+1))by omega)]
theorem zk.zh6(P:zk)(s k f:Nat)(hf:f=32*s+k)(h6:P.use f≠6):(P.offN s k).set f 0=P.offN s (k+1):=by
 unfold zk.offN zk.set
 simp only[zk.mk.injEq,and_true]
 funext g
 by_cases e:g=f
 ·subst e
  rw[if_pos rfl,if_pos (by omega),if_neg h6]
 ·rw[if_neg e]
  by_cases e2:32*s≤g∧g<32*s+k
  ·simp only[if_pos e2,if_pos (show 32*s≤g∧g<32*s+(k+1)by omega)]
  ·simp only[if_neg e2,if_neg (show ¬(32*s≤g∧g<32*s+(k+1))by omega)]
theorem on_off(P:zk)(s:Nat):P.on s 0 0=P.offN s 0:=by
 unfold zk.on zk.offN
 simp only[zk.mk.injEq,and_true]
 funext g
 rw[if_neg (by omega),if_neg (by omega)]
theorem zq.isol{w:World}{O:Nat→Prop}{p fs fb:Nat}{P:zk}(h:zq w O p fs fb P){s:Nat}(hs:s<32)(b:Bool):
  zq (w.setCell ⟨p,1025+s*2+1,none⟩ (.bool b)) O p fs fb (P.isol s b)∧Turn O w (w.setCell ⟨p,1025+s*2+1,none⟩ (.bool b)):=by
 refine⟨⟨h.o1,h.o2,h.o3,h.n1,h.n2,h.n3,?_,h.r2.other (p:=⟨p,1025+s*2+1,none⟩) h.n1 _,?_⟩,(Turn.refl O w).set (.inl h.o1) _⟩
 ·refine(h.r1.set (i:=1025+s*2+1) (by omega) _).congr fun i hi=>?_
  unfold Zg zk.isol
  simp only
  by_cases e1:i=1025+s*2+1
  ·subst e1
   rw[if_pos rfl,if_neg (by omega),if_neg (by omega),if_neg (by omega),if_pos (by omega)]
  ·rw[if_neg e1]
   by_cases e3:i<1024
   ·rw[if_pos e3,if_pos e3]
   ·rw[if_neg e3,if_neg e3]
    by_cases e4:i=1024
    ·rw[if_pos e4,if_pos e4]
    ·rw[if_neg e4,if_neg e4]
     by_cases e5:i%2=1
     ·rw[if_pos e5,if_pos e5]
     ·rw[if_neg e5,if_neg e5,if_neg (by omega)]
 ·exact h.r3.other (p:=⟨p,1025+s*2+1,none⟩) h.n2 _
theorem zeh(w:World)(O:Nat→Prop)(p fs fb:Nat)(P:zk)(h:zq w O p fs fb P)(s:Nat)(hs:s<32)(h0:P.zone s≠0)(b:Bool):
  Calls Tryz.prog 102 #[.pointer (some ⟨p,0,none⟩),.int .i64 s,.bool b] w fun e w'=>e=.returned (.bool true)∧zq w' O p fs fb (P.isol s b)∧Turn O w w':=by
 have Z:=Lib.hid (zju w O p fs fb P h s s rfl hs)
 have K:=Lib.hid (h.isol hs b)
 have hf1:=h.r1.frozen (1025+s*2+1)
 have hic:=h.iso hs
 have i0:(0:Int)≤s:=by omega
 have i1:(s:Int)<32:=by omega
 have e1:((P.zone s:Int)==0)=false:=beq_eq_false_iff_ne.2 (by omega)
 have e2:((P.zone s:Int)=0)=False:=eq_false (by omega)
 clear h h0
 go_enter Tryz.func102,Tryz.ntmps102
 go_wp2_with fail
 refine Z.out.mono ?_
 rintro e w1 ⟨rfl,hw⟩
 have hw:=hw.symm
 subst hw
 go_wp2_with fail
 go_ret
 exact⟨rfl,K.out⟩
theorem zar(w:World)(p:Nat)(s:Int)(b:Bool)(Z:Calls Tryz.prog 46 #[.pointer (some ⟨p,0,none⟩),.int .i64 s] w fun e w'=>e=.returned (.int .i64 0)∧w'=w):
  Calls Tryz.prog 102 #[.pointer (some ⟨p,0,none⟩),.int .i64 s,.bool b] w fun e w'=>e=.returned (.bool false)∧w'=w:=by
 have Z:=Lib.hid Z
 go_enter Tryz.func102,Tryz.ntmps102
 go_wp2_with fail
 refine Z.out.mono ?_
 rintro e w1 ⟨rfl,hw⟩
 have hw:=hw.symm
 subst hw
 go_wp2_with fail
 go_ret
 exact⟨rfl,rfl⟩
theorem zc9(w:World)(O:Nat→Prop)(p fs fb:Nat)(P:zk)(h:zq w O p fs fb P)(s:Nat)(hs:s<32)(h0:P.zone s≠0)(hc:P.count s 1+P.count s 6=32):
  Calls Tryz.prog 45 #[.pointer (some ⟨p,0,none⟩),.int .i64 s] w fun e w'=>e=.returned (.int .i64 0)∧zq w' O p fs fb (P.offN s 32)∧Turn O w w':=by
 have C1:=Lib.hid (Vd w O p fs fb P h s 1 hs)
 have C6:=Lib.hid (Vd w O p fs fb P h s 6 hs)
 have hzc:=h.zone hs
 have hic:=h.iso hs
 have hf0:=h.r1.frozen (1025+s*2)
 have hf1:=h.r1.frozen (1025+s*2+1)
 have i0:(0:Int)≤s:=by omega
 have i1:(s:Int)<32:=by omega
 have H:=Lib.hid h
 have e1:((P.zone s:Int)==0)=false:=beq_eq_false_iff_ne.2 (by omega)
 have e2:((P.zone s:Int)=0)=False:=eq_false (by omega)
 have hcc:(P.count s 1:Int)+(P.count s 6:Int)=32:=by omega
 have c1:P.count s 1≤32:=Uw P s 1 32
 have c6:P.count s 6≤32:=Uw P s 6 32
 obtain⟨n1,hn1⟩:∃n1,n1=P.count s 1:=⟨_,rfl⟩
 obtain⟨n6,hn6⟩:∃n6,n6=P.count s 6:=⟨_,rfl⟩
 rw[←hn1]at C1 hcc c1
 rw[←hn6]at C6 hcc c6
 clear h h0 hc hn1 hn6
 go_enter Tryz.func45,Tryz.ntmps45
 go_wp2_with ((go_at_call 107;refine(Xy _ s ⟨i0,i1⟩).mono ?_;rintro e w1 ⟨rfl,rfl⟩))
 refine C1.out.mono ?_
 rintro e u ⟨rfl,hu⟩
 have hu:=hu.symm
 subst hu
 go_wp2_with fail
 refine C6.out.mono ?_
 rintro e u ⟨rfl,hu⟩
 have hu:=hu.symm
 subst hu
 go_wp2_with fail
 refine(Zt _ _ s rfl hs).mono ?_
 rintro e w2 ⟨rfl,hw2⟩
 have K:=Lib.hid (H.out.on0 hs 0 0 rfl)
 rw[on_off]at K
 clear hzc hic hf0 hf1 C1 C6 hcc c1 c6
 replace K:Hid (zq w2 O p fs fb (P.offN s 0)∧Turn O w1 w2):=by rw[hw2];exact K
 clear hw2
 go_wp2_with fail
 go_loopw [7] (fun f W=>∃F:Nat,32*s≤F∧F≤32*s+32∧f=.int .i64 F∧zq W O p fs fb (P.offN s (F-32*s))∧Turn O w1 W) (fun f _=>32*s+32-(intOf f).toNat)
 case atStart=>exact⟨32*s,by omega,by omega,by go_num,by rw[Nat.sub_self];exact K.out.1,K.out.2⟩
 case round=>
  obtain⟨F,f1,f2,rfl,q1,q2⟩:=hrel
  have Q1:=Lib.hid q1
  have Q2:=Lib.hid q2
  clear q2 K
  by_cases hlt:F<32*s+32
  ·have j0:(F:Int)<((s:Int)+1)*32:=by omega
   have j1:(0:Int)≤F:=by omega
   have j2:(F:Int)<1024:=by omega
   have hu:=q1.use (f:=F) (by omega)
   rw[P.zh7 s (F-32*s) F (by omega)]at hu
   clear q1
   by_cases h6:P.use F=6
   ·rw[h6]at hu
    have Q3:Hid (zq wr O p fs fb (P.offN s (F+1-32*s))):=by
     rw[show F+1-32*s=F-32*s+1 by omega,←P.zkp s (F-32*s) F (by omega) h6]
     exact Q1.out
    go_wp2_with fail
    go_roundw
    case rel=>exact⟨F+1,by omega,by omega,by go_num,Q3.out,Q2.out⟩
    case measure=>simp[intOf];omega
   ·have n6:((P.use F:Int)==6)=false:=beq_eq_false_iff_ne.2 (by omega)
    have n7:((P.use F:Int)=6)=False:=eq_false (by omega)
    go_wp2_with fail
    refine(set_walk _ O p fs fb _ Q1.out F 0 F 0 rfl rfl (by omega)).mono ?_
    rintro e w5 ⟨rfl,g1,g2⟩
    rw[P.zh6 s (F-32*s) F (by omega) h6]at g1
    have G:=Lib.hid (And.intro g1 g2)
    clear g1 g2
    go_wp2_with fail
    go_roundw
    case rel=>exact⟨F+1,by omega,by omega,by go_num,by rw[show F+1-32*s=F-32*s+1 by omega];exact G.out.1,Q2.out.trans G.out.2⟩
    case measure=>simp[intOf];omega
  ·have j0:¬(F:Int)<((s:Int)+1)*32:=by omega
   obtain rfl:F=32*s+32:=by omega
   clear q1
   go_wp2_with fail
   go_ret
   rw[show 32*s+32-32*s=32 by omega]at Q1
   exact⟨rfl,Q1.out,Q2.out⟩
section
variable {x y:za}
theorem Ok0.pool(h:Ok0 x)(P:zk)(hP:∀g,P.use g=x.P.use g∨x.P.use g≤1∧P.use g≤1):Ok0 {x with P:=P}∧za.abs {x with P:=P}=x.abs:=by
 have iff_:∀g v,2≤v→(P.use g=v↔x.P.use g=v):=fun g v hv=>by have:=hP g;omega
 obtain⟨w,he⟩:=h.ok.wf.frames (y:={x with P:=P}) rfl rfl rfl rfl rfl rfl (fun n f ho=>⟨rfl,fun _=>rfl,(iff_ f 2 (by omega)).2 (h.ok.wf.xn ho).2.1⟩) fun f hf hb=>(iff_ f 6 (by omega)).2 (h.ok.wf.bad f hf hb)
 have o:=h.ok
 refine⟨⟨⟨w,o.backE,o.slotE,fun f hf hb=>?_,fun f hf hu=>o.anon f hf ((iff_ f 3 (by omega)).1 hu),fun f hf hu=>o.table f hf ((iff_ f 2 (by omega)).1 hu),fun f hf=>(iff_ f 4 (by omega)).trans (o.cached f hf),o.cacheE,o.cacheK,fun n pr page hp hq=>⟨(o.area n pr page hp hq).find,(o.area n pr page hp hq).own,(o.area n pr page hp hq).file,(o.area n pr page hp hq).shared,(o.area n pr page hp hq).slot⟩⟩,h.out⟩,rfl⟩
 show P.use f=3∨P.use f=4
 rw[iff_ f 3 (by omega),iff_ f 4 (by omega)]
 exact o.useB f hf hb
theorem zhg{P:zk}{z s i:Nat}(hs:s<32)(hz:P.zone s=z)(hi:P.iso s=false)(hb:∀t,t<s→¬(P.zone t=z∧P.iso t=false))(hf:32*s≤i∧i<32*s+32)(hu:P.use i=1):∃f,P.run z=some f∧32*s≤f∧f<32*s+32:=by
 have key:∀k t,t≤s→s<t+k→∃f,P.runFrom z t k=some f∧32*s≤f∧f<32*s+32:=by
  intro k
  induction k with
  | zero=>intro t h1 h2;omega
  | succ k ih=>
   intro t h1 h2
   unfold zk.runFrom
   by_cases e:t=s
   ·subst e
    rw[if_pos ⟨hz,hi⟩]
    cases hq:P.zfc t with
    | none=>
     exfalso
     have:P.runFrom z t 1=none:=by unfold zk.runFrom;rw[if_pos ⟨hz,hi⟩,hq];rfl
     exact U3 this i hf.1 (by omega) (by rw[show i/32=t by omega];exact hz) (by rw[show i/32=t by omega];exact hi) hu
    | some f=>
     have:P.runFrom z t 1=some f:=by unfold zk.runFrom;rw[if_pos ⟨hz,hi⟩,hq]
     obtain⟨a,b,_⟩:=q9 this
     exact⟨f,rfl,a,by omega⟩
   ·rw[if_neg (hb t (by omega))]
    exact ih (t+1) (by omega) (by omega)
 exact key 32 0 (by omega) (by omega)
theorem Um{P:zk}{s i:Nat}(hs:s<32)(hz:P.zone s=3)(hi:P.iso s=false)(hb:∀t,t<s→¬(P.zone t=3∧P.iso t=false))(hf:32*s≤i∧i<32*s+32)(hu:P.use i=1):∃f,P.next true=some f∧32*s≤f∧f<32*s+32:=by
 obtain⟨f,h,h1⟩:=zhg hs hz hi hb hf hu
 exact⟨f,by unfold zk.next;rw[if_pos rfl,h],h1⟩
theorem Ok0.zoc(h:Ok0 x){n page g:Nat}{pr:yj}(hp:x.T n=some pr)(hpg:page<4096){a:Ar}(ha:yh pr.A (page:Int)=some a)(hk:a.kind=1)(hw:a.write=true)(he:(x.ent n page).kind=0)(hg:x.P.next true=some g)(h0:(x.askF n page true).1.2=0):
  (x.askF n page true).1.1=g∧(∀m pg,pg<4096→(x.askF n page true).2.ent m pg=if m=n∧pg=page then⟨1,(g:Int),true⟩else x.ent m pg)∧(∀f,f≠g→x.P.use f=1→(x.askF n page true).2.P.use f=if(x.askF n page true).2.owns n f then 2 else 1)∧∀m f,(x.askF n page true).2.owns m f→x.owns m f∨x.P.zone (f/32)=2:=by
 obtain⟨n1,n2,n3⟩:=h.askNew hp hpg ha hk hw he hg h0
 refine⟨n1,n2,?_⟩
 rcases h.ok.wf.yt 3 with⟨hx,_⟩|⟨f,hx,e,d⟩
 ·rw[hg]at hx;cases hx
 obtain rfl:g=f:=by rw[hg]at hx;exact Option.some.inj hx
 have hp1:(x.Xo g 3).T n=some pr:=by rw[d.keep.1];exact hp
 have d2:=d.wf.putF (h.ok.Xg h.out hp) hp1 hpg (e:=⟨1,g,true⟩) (by have:=d.was.1;simp[Ent.ok,most];omega)
 have dz:=putF_z (x.Xo g 3) n page ⟨1,g,true⟩
 rw[n3]
 refine⟨fun f hf hu=>d2.free f (.inr (by rw[d.pool];show(if f=g then 3 else x.P.use f)=1;rw[if_neg hf];exact hu)),fun m f ho=>?_⟩
 rcases dz.2 m f ho with k|k
 ·refine .inl ?_
  obtain⟨pm,hm,hf⟩:=k
  exact⟨pm,by rw[←d.keep.1];exact hm,hf⟩
 ·refine .inr ?_
  rw[d.pool]at k
  exact k
structure OneD(x:za)(pg at_:Nat)(b:List UInt8)(y:za)(f:Nat):Prop where
 right:x.qw 0 ((64*pg+at_:Nat):Int) b.length=0
 store:x.Yi 0 ((64*pg+at_:Nat):Int) b=(0,y)
 ok:Ok0 y
 some:(y.T 0).isSome=true
 zone:y.P.zone=(vw 2).zone∧y.P.iso=(vw 2).iso
 sec:32≤f∧f<64
 use:∀g,32≤g→g<96→y.P.use g=if g=f then 3 else 1
 room:26≤y.P.room
 calm:y.D.Calm
 pgok:PgOk y.abs arO 0 pg
 ct:((y.abs.ct arO 0 pg).drop at_).take b.length=b
 ent:(y.ent 0 pg).kind=1∧(y.ent 0 pg).n=f
theorem oneD(h:StK 2 zx.none x){pg at_:Nat}(hpg:pg<8){b:List UInt8}(hb:0<b.length∧at_+b.length≤64):∃y f,OneD x pg at_ b y f:=by
 obtain⟨hK,hcalm,hs0⟩:=outM h
 have z1:(64*pg+at_)/64=pg:=by omega
 have z2:(64*pg+at_)%64=at_:=by omega
 have ek:arK pg=arO:=by unfold arK;rw[if_pos hpg]
 have hPk:=hK pg (by omega)
 rw[ek]at hPk
 obtain⟨r1,y,f,e1,d⟩:=h.ok.zm4 (n:=0) (a0:=64*pg+at_) (b:=b) (a:=arO) hb.1 (by rw[z2];omega) (by omega) (by rw[z1];exact hPk.can) rfl (by have:=h.room;omega) hcalm
 rw[z1,z2]at d
 have xu:∀g,32≤g→g<96→x.P.use g=1:=fun g h1 h2=>by
  have:=h.use g
  rw[if_pos (by omega),if_neg (by omega)]at this
  exact this
 have xz:∀s,s<3→x.P.zone s=if s=0 then 2 else 3:=fun s hs=>by
  rw[h.zone.1,(jv 2 s).1]
  by_cases e:s=0
  ·rw[if_pos e,if_pos e]
  ·rw[if_neg e,if_neg e,if_pos (by omega)]
 obtain⟨g,hg,hg1⟩:=Um (P:=x.P) (s:=1) (i:=32) (by omega) (by rw[xz 1 (by omega)];rfl) (by rw[h.zone.2];exact(jv 2 1).2) (fun t ht q=>by
  obtain rfl:t=0:=by omega
  rw[xz 0 (by omega)]at q;exact absurd q.1 (by decide)) (by omega) (xu 32 (by omega) (by omega))
 obtain⟨T,hT⟩:=h.proc
 have ha:yh [arO,arS,arP] ((pg:Nat):Int)=some arO:=by
  rw[Yt,if_pos (by unfold arO;dsimp only;omega)]
 have he0:=h.ents 0 pg (by omega) (by omega)
 obtain⟨n1,n2,n3⟩:=h.ok.zoc hT (page:=pg) (by omega) ha rfl rfl he0 hg (by rw[d.ents.1])
 rw[d.ents.1]at n1
 have hfg:f=g:=by dsimp only at n1;omega
 subst hfg
 obtain⟨z,f',c,eq1,eP,_,eT,_⟩:=d.eq
 rw[eq1]at n3
 dsimp only at n3
 obtain⟨pd,zn⟩:=n3
 have ow:∀m g,z.owns m g→32≤g→g<96→False:=fun m g ho h1 h2=>by
  rcases zn m g ho with k|k
  ·have:=(h.ok.ok.wf.xn k).2.1
   rw[xu g h1 h2]at this;omega
  ·rw[xz (g/32) (by omega)]at k
   rw[if_neg (by omega)]at k;omega
 have hct:y.abs.ct arO 0 pg=Abs.splice (x.abs.ct arO 0 pg) at_ b:=by
  rw[d.abs,Y2 (fun z=>absurd z (by decide)),Vn]
 refine⟨y,f,r1,e1,d.ok,by rw[d.keeps.some];exact hs0,by rw[d.keeps.zone.1,d.keeps.zone.2];exact h.zone,by omega,fun g h1 h2=>?_,by have:=d.keeps.room;have:=h.room;omega,by rw[d.disk];exact hcalm,by rw[d.abs];exact hPk.any hPk (by omega),?_,d.mine.ent⟩
 ·by_cases e:g=f
  ·rw[if_pos e,e]
   exact(zkr d.ok (by omega) (by omega) d.mine (by decide)).1
  ·rw[if_neg e,eP,pd g e (xu g h1 h2)]
   exact if_neg fun k=>ow 0 g k h1 h2
 ·rw[hct,Qu (x.abs.ct arO 0 pg) b at_ (by rw[hPk.len];omega)]
end
end Go.Proofs.YtnhdmnijiphjjaaGreat
