/- The law's start: processes over sections, and files whose bytes are known. -/
import Derived.Test.YtnhdmnijiphjjaaGreatJFz10
import Derived.Deep.RegionHeld
import Derived.WalkKit
set_option linter.unusedVariables false
set_option linter.unusedSimpArgs false
set_option maxRecDepth 100000
set_option maxHeartbeats 2000000
namespace Go.Proofs.YtnhdmnijiphjjaaGreat
open Go Go.RowKit
theorem zgs(w:World)(n m:Nat)(hn:n≤4)(hm:m≤4):
  Calls Tryz.prog 16 #[.int .i64 n,.int .i64 m] w fun e w'=>∃q tag D wp,e=.returned (.tuple #[ptrV q.sp,ptrV wp])∧zb w' tag q (.start RamS.none (Xc n m) D)∧Below w.heap.size w w'∧(∀b,b<w.heap.size→tag b=0)∧D.Calm∧(D.loose=fun _=>none)∧∀i,i<64→D.sure (96+i)=fP i:=by
 go_enter Tryz.func16,Tryz.ntmps16
 go_wp2_with fail
 refine(zfb w).mono ?_
 rintro e w1 ⟨rfl,hp,hb,hz⟩
 obtain⟨tag1,ht1⟩:∃tag1,tag1=retag (fun _=>0) w 2:=⟨_,rfl⟩
 have e1:Hid ((∀b,w.heap.size≤b→tag1 b=2)∧∀b,b<w.heap.size→tag1 b=0):=by rw[ht1];exact⟨fun b hb=>zz _ _ _ _ hb,fun b hb=>if_pos hb⟩
 have HP:Hid (yh w1 (fun b=>tag1 b=2) (w.heap.size+2) (w.heap.size+1) w.heap.size (Vf 0)∧Below w.heap.size w w1):=⟨hp.loc fun k _ ho=>⟨e1.out.1 k ho,rfl⟩,hb⟩
 clear hp hb hz ht1
 obtain⟨pp,hpp⟩:∃pp,pp=w.heap.size+2:=⟨_,rfl⟩
 obtain⟨fs,hfs⟩:∃fs,fs=w.heap.size+1:=⟨_,rfl⟩
 obtain⟨fb,hfb⟩:∃fb,fb=w.heap.size:=⟨_,rfl⟩
 rw[←hpp,←hfs]at HP
 rw[←hpp]
 have HP2:Hid (yh w1 (fun b=>tag1 b=2) pp fs fb (Vf 0)∧Below w.heap.size w w1):=by rw[hfb];exact HP
 clear hpp hfs hfb HP
 have i0:(0:Int)≤n:=by omega
 go_wp2_with fail
 go_loopw [7] (fun i W=>∃k:Nat,k≤n∧i=.int .i64 k∧yh W (fun b=>tag1 b=2) pp fs fb (Vf k)∧Turn (fun b=>tag1 b=2) w1 W) (fun i _=>n-(intOf i).toNat)
 case atStart=>exact⟨0,by omega,rfl,HP2.out.1,Turn.refl _ _⟩
 case round=>
  obtain⟨k,hk,rfl,hP,hT⟩:=hrel
  have H:=Lib.hid (And.intro hP hT)
  clear hP hT
  by_cases hlt:k<n
  ·have i1:(k:Int)<n:=by omega
   go_wp2_with fail
   refine(Y9 _ _ pp fs fb _ H.out.1 k 2 k 2 rfl rfl (by omega) (.inl rfl) (zaj k k (Nat.le_refl _))).mono ?_
   rintro e w2 ⟨rfl,h1,h2⟩
   have H2:=Lib.hid (And.intro h1 h2)
   clear h1 h2
   have w1':IntKind.i64.wrap ((k:Int)+1)=k+1:=by simp[IntKind.wrap,IntKind.bits,IntKind.signed];omega
   go_wp2_with fail
   go_roundw
   case rel=>exact⟨k+1,by omega,by go_num,H2.out.1,H.out.2.trans H2.out.2⟩
   case measure=>simp[intOf];omega
  ·obtain rfl:k=n:=by omega
   go_wp2_with fail
   go_loopw [8] (fun i W=>∃j:Nat,j≤m∧i=.int .i64 j∧yh W (fun b=>tag1 b=2) pp fs fb (Xc k j)∧Turn (fun b=>tag1 b=2) w1 W) (fun i _=>m-(intOf i).toNat)
   case atStart=>exact⟨0,by omega,rfl,H.out.1,H.out.2⟩
   case round=>
    obtain⟨j,hj,rfl,hP,hT⟩:=hrel
    have H3:=Lib.hid (And.intro hP hT)
    clear hP hT H
    by_cases hlt2:j<m
    ·have i2:(j:Int)<m:=by omega
     have w3':IntKind.i64.wrap (16+(j:Int))=16+j:=by simp[IntKind.wrap,IntKind.bits,IntKind.signed];omega
     go_wp2_with fail
     refine(Y9 _ _ pp fs fb _ H3.out.1 (16+(j:Int)) 3 (16+j) 3 (by omega) rfl (by omega) (.inr rfl) (zgf k j (16+j) (by omega) (Nat.le_refl _))).mono ?_
     rintro e w2 ⟨rfl,h1,h2⟩
     have H2:=Lib.hid (And.intro h1 h2)
     clear h1 h2
     have w1':IntKind.i64.wrap ((j:Int)+1)=j+1:=by simp[IntKind.wrap,IntKind.bits,IntKind.signed];omega
     go_wp2_with fail
     go_roundw
     case rel=>exact⟨j+1,by omega,by go_num,H2.out.1,H3.out.2.trans H2.out.2⟩
     case measure=>simp[intOf];omega
    ·obtain rfl:j=m:=by omega
     go_wp2_with fail
     refine(zf2 wr).mono ?_
     rintro e w3 ⟨rfl,hd,hb⟩
     obtain⟨dp,hdp⟩:∃dp,dp=wr.heap.size+1:=⟨_,rfl⟩
     rw[←hdp]at hd⊢
     have I0:Hid (∀T,FrI w (w3.alloc (.cells Tryz.zeroCells94 T (0,0))) (retag (retag tag1 wr 3) w3 0) pp fs fb dp w3.heap.size 0 (Xc k j) zw.none):=fun T=>by
      have s3:Step (fun _=>False) tag1 wr (retag tag1 wr 3) w3:=Step.renew 3 hb
      have hb4:=(Below.refl w3.heap.size w3).alloc (Nat.le_refl _) (.cells Tryz.zeroCells94 T (0,0))
      have s4:Step (fun _=>False) (retag tag1 wr 3) w3 (retag (retag tag1 wr 3) w3 0) (w3.alloc (.cells Tryz.zeroCells94 T (0,0))):=Step.renew 0 hb4
      have hbr:Below w.heap.size w wr:=HP2.out.2.trans (H3.out.2.Yw (fun b hb=>by
       rcases Nat.lt_or_ge b w.heap.size with h|h
       ·rw[e1.out.2 b h]at hb;cases hb
       ·exact h) HP2.out.2.size)
      have hd3:jr w3 (fun b=>retag tag1 wr 3 b=3) dp zw.none:=hd.loc fun k _ ho=>⟨zz _ _ _ _ ho,rfl⟩
      have hsz:=hbr.size
      have hsz3:=hb.size
      have F:=Yy.start w3 T
      exact⟨H3.out.1.loc ((s3.trans s4).keeps id),hd3.loc (s4.keeps id),(hbr.trans (hb.mono hsz)).trans (hb4.mono (by omega)),fun b hb'=>by
       show(if b<w3.heap.size then(if b<wr.heap.size then tag1 b else 3)else 0)=0
       rw[if_pos (by omega),if_pos (by omega)]
       exact e1.out.2 b hb',F.1,F.2,zz _ _ _ _ (Nat.le_refl _),by omega⟩
     clear hd hb hdp
     go_wp2_with fail
     have I1:=Lib.hid (I0.out 94)
     obtain⟨wp,hwp⟩:∃wp,wp=w3.heap.size:=⟨_,rfl⟩
     rw[←hwp]at I1⊢
     clear I0 hwp
     go_wp2_with fail
     go_loopw [11] (fun i W=>∃k2:Nat,k2≤64∧i=.int .i64 k2∧∃tag D,FrI w W tag pp fs fb dp wp (64*k2) (Xc k j) D∧DOK D k2) (fun i _=>64-(intOf i).toNat)
     case atStart=>exact⟨0,by omega,rfl,_,_,I1.out,zw.Jb,fun j hj=>by omega⟩
     case round=>
      obtain⟨i,hi,rfl,tag,D,hI,hD⟩:=hrel
      have II:=Lib.hid (And.intro hI hD)
      clear hI hD
      by_cases hlt3:i<64
      ·have i3:(i:Int)<64:=by omega
       have i4:(0:Int)≤i:=by omega
       go_wp2_with fail
       go_loopw [12] (fun x W=>∃y:Nat,y≤64∧x=.int .i64 y∧FrI w W tag pp fs fb dp wp (64*i+y) (Xc k j) D) (fun x _=>64-(intOf x).toNat)
       case atStart=>exact⟨0,by omega,rfl,II.out.1⟩
       case round=>
        obtain⟨y,hy,rfl,hI⟩:=hrel
        have IJ:=Lib.hid hI
        by_cases hlt4:y<64
        ·have i5:(y:Int)<64:=by omega
         have i6:(0:Int)≤y:=by omega
         have hc:=hI.file (i*64+y) (by omega)
         rw[←Nat.add_assoc]at hc
         have c0:=hc.1
         have c1:=hc.2
         unfold bV at c0
         have u1:IntKind.i64.wrap (3*(i:Int))=3*i:=by simp[IntKind.wrap,IntKind.bits,IntKind.signed];omega
         have u2:IntKind.i64.wrap (3*(i:Int)+y)=3*i+y:=by simp[IntKind.wrap,IntKind.bits,IntKind.signed];omega
         have u3:IntKind.i64.wrap ((y:Int)+1)=y+1:=by simp[IntKind.wrap,IntKind.bits,IntKind.signed];omega
         clear hI hc
         go_wp2_with fail
         go_roundw
         case rel=>
          refine⟨y+1,by omega,by go_num,?_⟩
          exact IJ.out.store (by omega) _ (by
           rw[show(64*i+y)/64=i by omega,show(64*i+y)%64=y by omega,UInt8.toNat_ofNat']
           omega) _ (by omega)
         case measure=>simp[intOf];omega
        ·obtain rfl:y=64:=by omega
         clear hI
         obtain⟨W,hW⟩:∃W,W=wr.drew:=⟨_,rfl⟩
         have hRD:W.rangeAt wp (2+i*64) ((fP i).map bV):=by rw[hW];exact(World.rangeAt_drew _ _ _ _).2 (IJ.out.file.range (by omega) (by omega))
         have hTD:W.there wp (4098+i*64) 64:=by
          rw[hW]
          exact(World.there_drew _ _ _ _).2 fun j' hj'=>by
           have:=IJ.out.there (i*64+j') (by omega)
           rw[←Nat.add_assoc]at this
           exact this
         have hd:wr.drew=W:=hW.symm
         have IW:Hid (FrI w (W.setCells wp (4098+i*64) ((fP i).map bV)) tag pp fs fb dp wp (64*(i+1)) (Xc k j) D):=by
          have:=IJ.out.turn (W':=W) (by rw[hW];exact(Turn.refl _ _).drew) (by rw[hW];exact IJ.out.file) (by rw[hW];exact(World.there_drew _ _ _ _).2 IJ.out.there)
          rw[show 64*(i+1)=64*i+64 by omega]
          exact this.cells _ (by omega) _
         clear hW
         obtain⟨cs,hcs⟩:∃cs,cs=(fP i).map bV:=⟨_,rfl⟩
         have hlen:cs.length=64:=by rw[hcs,List.length_map,zfq]
         have hone:∀v∈cs,v.oneCell'=true:=fun v hv=>by rw[hcs]at hv;obtain⟨b,_,rfl⟩:=List.mem_map.1 hv;rfl
         rw[←hcs]at hRD IW
         have hinfo:(Tryz.prog.info? 91).map (·.size)=some 64:=by kernel_rfl
         have hu91:=Tryz.underlying91
         have hi91:(Tryz.prog.info? 91).map (·.size)=some cs.length:=by rw[hlen];exact hinfo
         rw[←hd]at hRD hTD IW
         clear hd
         have HLE:=Lib.hid (And.intro hcs hlen)
         clear hcs hinfo
         go_wp2_with fail
         go_region_held (fun W'=>W'.rangeAt wp (2+i*64) cs∧W'.there wp (4098+i*64) 64) (go_keep_ranges) (fail)
         obtain⟨W5,hW5⟩:∃W5,W5=wr.drew.setCells wp (4098+i*64) cs:=⟨_,rfl⟩
         rw[←hW5]at IW⊢
         clear hW5 hu91 hi91 hlen hone hRD hTD
         obtain⟨inf,hinf,hz,hsz,hby⟩:=zb4
         have HI:=Lib.hid (And.intro hinf (And.intro hz (And.intro hsz hby)))
         clear hinf hz hsz hby
         have HE:Hid (SlAt (W5.alloc (.cells #[] 5)) 5 1 (.slice (some ⟨W5.heap.size,0,none⟩) 0 0) 0 []):=⟨rfl,.inr ⟨W5.heap.size,0,0,#[],rfl,heap_alloc_new W5 _,Nat.le_refl _,by unfold maxLen;omega,by simp,fun j u hu=>by simp at hu⟩⟩
         have hRG:Hid (∀j u,cs[j]?=some u→(W5.alloc (.cells #[] 5)).cell? ((⟨wp,2+i*64,none⟩:Addr).add j)=some u):=fun j u hu=>by
          rw[add_plain,World.cell?_alloc_lt _ _ _ IW.out.lt]
          rw[HLE.out.1]at hu
          exact IW.out.file.range (by omega) (by omega) j u hu
         have u4:IntKind.i64.wrap (96+(i:Int))=96+i:=by simp[IntKind.wrap,IntKind.bits,IntKind.signed];omega
         go_wp2_with (at_builtin;refine xx _ rfl _ _ 22 rfl 5 inf _ 1 1 Tryz.underlying22 HI.out.1 HI.out.2.1 HI.out.2.2.1 HI.out.2.2.2 rfl _ _ _ rfl HE.out ⟨wp,2+i*64,none⟩ 64 64 cs rfl ?c1 hRG.out ?c3 ?c4 ?c5 ?c6)
         case c1=>exact HLE.out.2
         case c3=>intro v hv;rw[HLE.out.1]at hv;obtain⟨b,_,rfl⟩:=List.mem_map.1 hv;rfl
         case c4=>unfold maxLen;omega
         case c5=>omega
         rintro v' w6 hs hg ho
         have hs':ByAt w6 v' (fP i):=by
          unfold ByAt
          rw[zfq]
          rw[HLE.out.1]at hs
          simpa using hs
         have hb6:Below W5.heap.size W5 w6:=by
          have h1:=Turn.uq (O:=fun k=>W5.heap.size≤k) hg (fun m hm=>by simp[Value.ownBlock]at hm;left;omega)
          exact((Below.refl _ _).alloc (Nat.le_refl _) _).trans (h1.Yw (fun i hi=>hi) (by simp))
         have ho':∀b,v'.ownBlock=some b→W5.heap.size≤b:=fun b hb=>by
          rcases ho with e|e<;>rw[hb]at e<;>simp[Value.ownBlock]at e<;>omega
         have IA:=Lib.hid (IW.out.anew hb6)
         have WR:Hid (Calls Tryz.prog 55 #[.pointer (some ⟨dp,0,none⟩),.int .i64 (96+(i:Int)),v'] w6 fun e w7=>e=.returned (.int .i64 D.work.2)∧Turn (fun b=>retag tag W5 0 b=3) w6 w7∧jr w7 (grow (fun b=>retag tag W5 0 b=3) w6) dp (if D.work.2=0 then D.work.1.write (96+i) (fP i)else D.work.1)):=by
          obtain⟨sb,off,c,mb,V,L,hDI⟩:=IA.out.disk
          exact zaw w6 hDI (96+(i:Int)) (96+i) (by omega) (by omega) v' (fP i) hs'.reads (zfq i) fun b hb e=>by
           have e:retag tag W5 0 b=3:=e
           rw[zz _ _ _ _ (ho' b hb)]at e
           cases e
         obtain⟨a',c',hv',_,_⟩:=SlAt.form hs'
         rw[zfq]at hv'
         subst hv'
         have hw0:=II.out.2.write
         rw[hw0.1]at WR
         have HW:=Lib.hid hw0.2
         clear hs' hs hg ho hb6 ho' hw0
         go_wp2_with fail
         refine WR.out.mono ?_
         rintro e w7 ⟨rfl,hT,hD7⟩
         rw[if_pos trivial]at hD7
         have I7:=Lib.hid (IA.out.zgy (tag':=retag (retag tag W5 0) w6 3) (Step.retag hT rfl) (hD7.loc fun k _ ho=>⟨Uh ho,rfl⟩))
         clear hT hD7
         have u5:IntKind.i64.wrap ((i:Int)+1)=i+1:=by simp[IntKind.wrap,IntKind.bits,IntKind.signed];omega
         go_wp2_with fail
         go_roundw
         case rel=>exact⟨i+1,by omega,by go_num,_,_,I7.out,HW.out⟩
         case measure=>simp[intOf];omega
      ·obtain rfl:i=64:=by omega
       have FL:Hid (Calls Tryz.prog 56 #[.pointer (some ⟨dp,0,none⟩)] wr fun e w'=>e=.returned (.int .i64 0)∧FrI w w' tag pp fs fb dp wp (64*64) (Xc k j) D.flush):=by
        obtain⟨sb,off,c,mb,V,L,hDI⟩:=II.out.1.disk
        refine(zhd wr hDI).mono ?_
        rintro e w' ⟨rfl,hT,hD⟩
        rw[II.out.2.1.work]at hD⊢
        rw[if_pos rfl]at hD
        exact⟨rfl,II.out.1.zgy (Step.Yp (c:=3) hT rfl) hD⟩
       go_wp2_with fail
       refine FL.out.mono ?_
       rintro e w6 ⟨rfl,hI⟩
       have I6:=Lib.hid hI
       clear hI FL
       go_wp2_with fail
       refine(zj6 w6).mono ?_
       rintro e w7 ⟨rfl,hR,hb,hz⟩
       have s7:Step (fun _=>False) tag w6 (retag tag w6 1) w7:=Step.renew 1 hb
       have SN:=Lib.hid (zdd (w:=w7) (tag:=retag tag w6 1) (w6.heap.size+1) w6.heap.size pp fs fb dp (hR.loc fun k _ ho=>⟨zz _ _ _ _ ho,rfl⟩) (I6.out.pool.loc (s7.keeps id)) (I6.out.disk.loc (s7.keeps id)))
       have H7:=Lib.hid (And.intro hb s7)
       clear hR hb hz s7
       unfold ptrV at SN
       go_wp2_with fail
       refine SN.out.mono ?_
       rintro e w8 ⟨q,tag8,rfl,hS,s8⟩
       have H8:=Lib.hid (And.intro hS s8)
       clear hS s8 SN
       go_wp2_with fail
       refine bodyPost_ret (v:=.tuple #[.pointer (some ⟨q.sp,0,none⟩),.pointer (some ⟨wp,0,none⟩)]) (by simp[results,Tryz.results16,go_sem]) rfl ⟨q,tag8,D.flush,wp,rfl,H8.out.1,?_,?_,II.out.2.1,rfl,fun i hi=>II.out.2.2 i hi⟩
       ·have b6:=I6.out.below
        have sz:=b6.size
        have b7:=b6.trans (H7.out.1.mono sz)
        exact b7.trans (H8.out.2.turn.below.mono b7.size)
       ·intro b hb
        have sz:=I6.out.below.size
        have e1:=(H7.out.2.keeps (c:=0) id b (by omega) (I6.out.tz b hb)).1
        have sz7:=H7.out.1.size
        exact(H8.out.2.keeps (c:=0) id b (by omega) e1).1
def znh(l:List Ar)(a:Ar)(X:Int)(l':List Ar):Prop:=
 (a.xe∧anyA a l=false∧l.length<16∧X=0∧l'.Perm (l++[a])∧l'.Pairwise (fun x y=>¬y.from_<x.from_))∨
 (X≠0∧l'=l∧((¬a.xe∧X=1)∨(a.xe∧anyA a l=true∧X=3)∨(a.xe∧anyA a l=false∧16≤l.length∧X=4)))
section
variable {w w':World}{tag tag':Nat→Nat}{q:Sq}{x:za}
theorem za.zko{n:Nat}{pr:yg}(h:x.T n=some pr):x.put n pr=x:=by
 unfold za.put
 cases x
 simp only[za.mk.injEq,true_and]at *
 funext m
 split
 ·rename_i e;rw[e];exact h.symm
 ·rfl
theorem zb.Zg(h:zb w tag q x){n:Nat}{pr:yg}(hn:n<8)(hp:x.T n=some pr){A:List Ar}{v:Value}(hb:Below w.heap.size w w')(hv:ArAt w' v A)(ho:∀b,v.ownBlock=some b→w.heap.size≤b):
  zb (w'.setCell ⟨(q.U n).ap,1,none⟩ v) (retag tag w (30+n)) q (x.put n ⟨pr.T,A,pr.Q⟩)∧Step (fun c=>c=20+n) tag w (retag tag w (30+n)) (w'.setCell ⟨(q.U n).ap,1,none⟩ v):=by
 obtain⟨h1,h2,⟨av,r1,r2,r3⟩,h4,h5,h6⟩:=h.procs n pr hn hp
 have t:Turn (fun b=>tag b=20+n) w (w'.setCell ⟨(q.U n).ap,1,none⟩ v):=(Turn.of_below hb).set (p:=⟨(q.U n).ap,1,none⟩) (.inl h2) v
 have s:Step (fun c=>c=20+n) tag w (retag tag w (30+n)) (w'.setCell ⟨(q.U n).ap,1,none⟩ v):=⟨fun b hb=>if_pos hb,t.mono fun k _ e=>e⟩
 have hT:∀m,(x.put n ⟨pr.T,A,pr.Q⟩).T m=if m=n then some ⟨pr.T,A,pr.Q⟩else x.T m:=fun m=>rfl
 have hapl:=r1.lt
 refine⟨h.turn s (by omega) (by omega) (fun m hm=>?_) (fun m hm=>?_) (.inl ⟨by omega,rfl⟩) (.inl ⟨by omega,rfl⟩) (.inl ⟨by omega,rfl⟩) (.inl ⟨by omega,rfl⟩) (.inl ⟨by omega,rfl,rfl⟩) (.inl ⟨by omega,rfl⟩) fun m pm hm hx=>?_,s⟩
 ·rw[hT]
  split
  ·rename_i e;rw[e,hp];rfl
  ·rfl
 ·rw[hT,if_neg (by omega)]
  exact h.out m hm
 ·rw[hT]at hx
  by_cases e:m=n
  ·rw[if_pos e]at hx
   subst e
   have e2:=Option.some.inj hx
   subst e2
   have q4:=h4.lt
   have k4:=s.keeps (c:=40+m) (by omega)
   refine .inr ⟨h1.loc (s.keeps (by omega)),(by rw[←h2];exact if_pos hapl),⟨v,?_,?_,fun b hb=>?_⟩,h4.keep fun b hb=>?_,(k4 _ q4.1 h5).1,(k4 _ q4.2.1 h6).1⟩
   ·refine((r1.below hb).set (i:=1) (by omega) v).congr fun i hi=>?_
    rcases(by omega:i=0∨i=1∨i=2)with rfl|rfl|rfl<;>rfl
   ·exact SlAt.keep hv fun b hb=>Below.heap_setCell w' ⟨(q.U m).ap,1,none⟩ v b (by have:=ho b hb;show b≠(q.U m).ap;omega)
   ·exact zz _ _ _ _ (ho b hb)
   ·rcases hb with rfl|rfl
    ·exact(k4 _ q4.1 h5).2
    ·exact(k4 _ q4.2.1 h6).2
  ·rw[if_neg e]at hx
   exact .inl ⟨⟨by omega,by omega,by omega,by omega⟩,hx⟩
theorem zf3(h:zb w tag q x)(n:Nat)(pr:yg)(hn:n<8)(hp:x.T n=some pr)(a:Ar)(hwf:a.Wf)(hlen:pr.A.length≤100):
  Calls Tryz.prog 18 #[ptrV q.sp,.int .i64 n,a.enc] w fun e w'=>∃X A' tag',e=.returned (.int .i64 X)∧znh pr.A a X A'∧zb w' tag' q (x.put n ⟨pr.T,A',pr.Q⟩)∧Step (fun c=>c=20+n) tag w tag' w':=by
 have hb0:=(Below.refl w.heap.size w).alloc (Nat.le_refl _) (.cells a.cells.toArray 32 (0,0))
 have s0:Step (fun c=>c=20+n) tag w (retag tag w 0) (w.alloc (.cells a.cells.toArray 32 (0,0))):=Step.anew hb0
 have h0:zb (w.alloc (.cells a.cells.toArray 32 (0,0))) (retag tag w 0) q x:=h.step (Step.anew hb0)
 have F:=Lib.hid (Za h0 (n:Int))
 have ev:Ye q x (n:Int)=.tuple #[ptrV (q.U n).ap,.bool true]:=by
  unfold Ye
  rw[show((n:Nat):Int).toNat=n by omega,hp]
  have:(0:Int)≤n:=by omega
  simp[this]
 rw[ev]at F
 obtain⟨av,r1,r2,r3⟩:=(h0.procs n pr hn hp).row
 have c1:=r1.cell (i:=1) (by omega)
 have z1:=r1.frozen 1
 dsimp only[Yi]at c1
 obtain⟨W,hW⟩:∃W,W=(w.alloc (.cells a.cells.toArray 32 (0,0))).drew:=⟨_,rfl⟩
 have hbW:Below (w.alloc (.cells a.cells.toArray 32 (0,0))).heap.size (w.alloc (.cells a.cells.toArray 32 (0,0))) W:=by rw[hW];exact(Below.refl _ _).drew
 have q1:W.cell? ⟨(q.U n).ap,1,none⟩=some av:=by rw[hW];exact c1
 have hSW:zb W (retag tag w 0) q x:=h0.below hbW
 have sW:Step (fun c=>c=20+n) tag w (retag tag w 0) W:=s0.trans (Step.of_below hbW)
 have nb:W.heap[w.heap.size]?=some (.cells a.cells.toArray 32 (0,0)):=by rw[hW];exact heap_alloc_new w _
 have d:∀i,W.cell? ⟨w.heap.size,i,none⟩=a.cells.toArray[i]?:=fun i=>cell_of_row _ _ i _ _ _ nb
 have d0:W.cell? ⟨w.heap.size,0,none⟩=some (.int .i64 a.from_):=d 0
 have d1:W.cell? ⟨w.heap.size,1,none⟩=some (.int .i64 a.pages):=d 1
 have d2:W.cell? ⟨w.heap.size,2,none⟩=some (.bool a.write):=d 2
 have d3:W.cell? ⟨w.heap.size,3,none⟩=some (.int .i64 a.kind):=d 3
 have d4:W.cell? ⟨w.heap.size,4,none⟩=some (.int .i64 a.file):=d 4
 have d5:W.cell? ⟨w.heap.size,5,none⟩=some (.int .i64 a.off):=d 5
 have AD:=Lib.hid (zm4 W av pr.A (SlAt.rd (by
  obtain⟨av',r1',r2',_⟩:=(hSW.procs n pr hn hp).row
  have:=r1'.cell (i:=1) (by omega)
  rw[q1]at this
  cases this
  exact r2')) a hwf hlen)
 have CA:Hid (Calls Tryz.prog 63 #[av,a.enc] W fun e w2=>∃v' X A',e=.returned (.tuple #[v',.int .i64 X])∧znh pr.A a X A'∧(w2.cell? ⟨(q.U n).ap,1,none⟩=some av∧w2.frozen? ⟨(q.U n).ap,1,none⟩=false)∧
   (w2.cell? ⟨w.heap.size,0,none⟩=some (.int .i64 a.from_)∧w2.cell? ⟨w.heap.size,1,none⟩=some (.int .i64 a.pages)∧w2.cell? ⟨w.heap.size,2,none⟩=some (.bool a.write)∧w2.cell? ⟨w.heap.size,3,none⟩=some (.int .i64 a.kind)∧w2.cell? ⟨w.heap.size,4,none⟩=some (.int .i64 a.file)∧w2.cell? ⟨w.heap.size,5,none⟩=some (.int .i64 a.off))∧
   (∃aa cc nn,v'=.slice aa nn cc)∧(X=0→∃tag',zb (w2.setCell ⟨(q.U n).ap,1,none⟩ v') tag' q (x.put n ⟨pr.T,A',pr.Q⟩)∧Step (fun c=>c=20+n) tag w tag' (w2.setCell ⟨(q.U n).ap,1,none⟩ v'))∧
   (X≠0→∃tag',zb w2 tag' q (x.put n ⟨pr.T,A',pr.Q⟩)∧Step (fun c=>c=20+n) tag w tag' w2)):=by
  refine AD.out.mono ?_
  rintro e w2 ⟨v',X,rfl,hb2,ho2,hpost⟩
  have rW:=(hSW.procs n pr hn hp).row
  obtain⟨av',r1',_,_⟩:=rW
  have hcell:=hb2.cell (World.block_lt_of_cell? _ _ q1)
  have hfz:w2.frozen? ⟨(q.U n).ap,1,none⟩=false:=(xy (a:=⟨(q.U n).ap,1,none⟩) (hb2.block _ r1'.lt)).trans (r1'.frozen 1)
  have hd:∀i,w2.cell? ⟨w.heap.size,i,none⟩=W.cell? ⟨w.heap.size,i,none⟩:=fun i=>World.cell?_of_block (hb2.block _ (World.block_lt_of_cell? W ⟨w.heap.size,0,none⟩ d0))
  have bad:X≠0→∃tag',zb w2 tag' q (x.put n ⟨pr.T,pr.A,pr.Q⟩)∧Step (fun c=>c=20+n) tag w tag' w2:=fun _=>⟨retag tag w 0,by
   show zb w2 (retag tag w 0) q (x.put n pr)
   rw[za.zko hp]
   exact hSW.below hb2,sW.trans (Step.of_below hb2)⟩
  by_cases hs:a.xe
  ·by_cases ha:anyA a pr.A=true
   ·obtain⟨rfl,rfl⟩:=hpost.there hs ha
    exact⟨_,3,pr.A,rfl,.inr ⟨by omega,rfl,.inr (.inl ⟨hs,ha,rfl⟩)⟩,⟨hcell.trans q1,hfz⟩,⟨(hd 0).trans d0,(hd 1).trans d1,(hd 2).trans d2,(hd 3).trans d3,(hd 4).trans d4,(hd 5).trans d5⟩,⟨_,_,_,rfl⟩,fun e=>by omega,bad⟩
   ·have ha:anyA a pr.A=false:=by cases h:anyA a pr.A<;>simp_all
    by_cases h16:16≤pr.A.length
    ·obtain⟨rfl,rfl⟩:=hpost.full hs ha h16
     exact⟨_,4,pr.A,rfl,.inr ⟨by omega,rfl,.inr (.inr ⟨hs,ha,h16,rfl⟩)⟩,⟨hcell.trans q1,hfz⟩,⟨(hd 0).trans d0,(hd 1).trans d1,(hd 2).trans d2,(hd 3).trans d3,(hd 4).trans d4,(hd 5).trans d5⟩,⟨_,_,_,rfl⟩,fun e=>by omega,bad⟩
    ·obtain⟨rfl,A',hA,hperm,hsrt⟩:=hpost.done hs ha (by omega)
     obtain⟨aa,cc,hv,_,_⟩:=SlAt.form hA
     have K:=hSW.Zg hn hp hb2 hA ho2
     exact⟨v',0,A',rfl,.inl ⟨hs,ha,by omega,rfl,hperm,hsrt⟩,⟨hcell.trans q1,hfz⟩,⟨(hd 0).trans d0,(hd 1).trans d1,(hd 2).trans d2,(hd 3).trans d3,(hd 4).trans d4,(hd 5).trans d5⟩,⟨_,_,_,hv⟩,fun _=>⟨_,K.1,sW.trans K.2⟩,fun e=>absurd rfl e⟩
  ·obtain⟨rfl,rfl⟩:=hpost.arg hs
   exact⟨_,1,pr.A,rfl,.inr ⟨by omega,rfl,.inl ⟨hs,rfl⟩⟩,⟨hcell.trans q1,hfz⟩,⟨(hd 0).trans d0,(hd 1).trans d1,(hd 2).trans d2,(hd 3).trans d3,(hd 4).trans d4,(hd 5).trans d5⟩,⟨_,_,_,rfl⟩,fun e=>by omega,bad⟩
 have hd:(w.alloc (.cells a.cells.toArray 32 (0,0))).drew=W:=hW.symm
 have ec:a.cells.toArray=#[.int .i64 a.from_,.int .i64 a.pages,.bool a.write,.int .i64 a.kind,.int .i64 a.file,.int .i64 a.off]:=rfl
 obtain⟨ava,avc,hav,_,_⟩:=SlAt.form r2
 rw[ec]at F hd c1 z1
 rw[hav]at q1 CA c1
 unfold ptrV at F⊢
 unfold Ar.enc at CA⊢
 clear h hp hb0 s0 h0 ev r1 r2 r3 hbW hSW sW nb d AD hW ec hwf hlen hav c1 z1
 go_enter Tryz.func18,Tryz.ntmps18
 go_wp2_with fail
 refine F.out.mono ?_
 rintro e u ⟨rfl,hu⟩
 have hu:=hu.symm
 subst hu
 clear F
 go_wp2_with fail
 go_region_held (fun W'=>W'.cell? ⟨(q.U n).ap,1,none⟩=some (.slice ava pr.A.length avc)∧W'.cell? ⟨w.heap.size,0,none⟩=some (.int .i64 a.from_)∧W'.cell? ⟨w.heap.size,1,none⟩=some (.int .i64 a.pages)∧W'.cell? ⟨w.heap.size,2,none⟩=some (.bool a.write)∧W'.cell? ⟨w.heap.size,3,none⟩=some (.int .i64 a.kind)∧W'.cell? ⟨w.heap.size,4,none⟩=some (.int .i64 a.file)∧W'.cell? ⟨w.heap.size,5,none⟩=some (.int .i64 a.off)) (go_keep)
  ((go_at_call 63;refine CA.out.mono ?_;rintro e w2 ⟨v',X,A',rfl,hAR,⟨g1,gz⟩,⟨g2,g3,g4,g5,g6,g7⟩,⟨aa,cc,nn,rfl⟩,HX⟩;have hX:=Lib.hid HX;have hA:=Lib.hid hAR;clear HX hAR))
 clear q1 d0 d1 d2 d3 d4 d5 g2 g3 g4 g5 g6 g7 hd CA
 by_cases hX0:X=0
 ·subst hX0
  go_wp2_with fail
  go_ret
  obtain⟨tag',k1,k2⟩:=hX.out.1 trivial
  exact⟨0,rfl,A',hA.out,tag',k1,k2⟩
 ·go_wp2_with fail
  go_ret
  obtain⟨tag',k1,k2⟩:=hX.out.2 hX0
  exact⟨X,A',tag',rfl,hA.out,k1,k2⟩
end
section
variable {w w':World}{tag tag':Nat→Nat}{q:Sq}{x:za}
theorem ze4{tag:Nat→Nat}{w:World}{c b:Nat}(h:tag b=c∨w.heap.size≤b):retag tag w c b=c:=by
 unfold retag
 split
 ·rcases h with h|h
  ·exact h
  ·omega
 ·rfl
theorem zb.back'(h:zb w tag q x){S S':List Nat}{V':List (Int×Value)}{B':Int→List (Int×Int)}(hS:∀b∈S,tag b=4)(t:Touch S w w')(hn:∀b∈S',b∈S∨w.heap.size≤b)(hB:ut KF w' q.bp q.bm S' V' B'):
  zb w' (retag tag w 4) q {x with B:=B'}∧Step (fun c=>c=4) tag w (retag tag w 4) w':=by
 have s:Step (fun c=>c=4) tag w (retag tag w 4) w':=Step.retag (Turn.touch (O:=fun b=>tag b=4) t fun k hk=>.inl (hS k hk)) rfl
 exact⟨h.turn s (by omega) (by omega) (fun _ _=>rfl) h.out (.inl ⟨by omega,rfl⟩) (.inl ⟨by omega,rfl⟩) (.inl ⟨by omega,rfl⟩) (.inr ⟨S',V',hB,fun b hb=>ze4 ((hn b hb).imp_left (hS b))⟩) (.inl ⟨by omega,rfl,rfl⟩) (.inl ⟨by omega,rfl⟩) fun _ _ _ hx=>.inl ⟨⟨by omega,by omega,by omega,by omega⟩,hx⟩,s⟩
theorem zb.swap'(h:zb w tag q x){S S':List Nat}{V':List Value}{L':List (List (Int×Int))}(hS:∀b∈S,tag b=6)(t:Touch S w w')(hn:∀b∈S',b∈S∨w.heap.size≤b)(hL:ji w' q.wp S' V' L'):
  zb w' (retag tag w 6) q {x with S:=L'}∧Step (fun c=>c=6) tag w (retag tag w 6) w':=by
 have s:Step (fun c=>c=6) tag w (retag tag w 6) w':=Step.retag (Turn.touch (O:=fun b=>tag b=6) t fun k hk=>.inl (hS k hk)) rfl
 exact⟨h.turn s (by omega) (by omega) (fun _ _=>rfl) h.out (.inl ⟨by omega,rfl⟩) (.inl ⟨by omega,rfl⟩) (.inl ⟨by omega,rfl⟩) (.inl ⟨by omega,rfl⟩) (.inl ⟨by omega,rfl,rfl⟩) (.inr ⟨S',V',hL,fun b hb=>ze4 ((hn b hb).imp_left (hS b))⟩) fun _ _ _ hx=>.inl ⟨⟨by omega,by omega,by omega,by omega⟩,hx⟩,s⟩
theorem zb.zh7(h:zb w tag q x){P':zo}(t:Turn (fun b=>tag b=2) w w')(hP:yh w' (fun b=>tag b=2) q.pp q.fs q.fb P'):zb w' tag q {x with P:=P'}∧Step (fun c=>c=2) tag w tag w':=by
 have s:Step (fun c=>c=2) tag w tag w':=Step.Yp (c:=2) t rfl
 exact⟨h.turn s (by omega) (by omega) (fun _ _=>rfl) h.out (.inl ⟨by omega,rfl⟩) (.inr hP) (.inl ⟨by omega,rfl⟩) (.inl ⟨by omega,rfl⟩) (.inl ⟨by omega,rfl,rfl⟩) (.inl ⟨by omega,rfl⟩) fun _ _ _ hx=>.inl ⟨⟨by omega,by omega,by omega,by omega⟩,hx⟩,s⟩
theorem zb.ram'(h:zb w tag q x){R':RamS}(t:Turn (fun b=>tag b=1) w w')(hR:qi w' (fun b=>tag b=1) q.rp q.rb R'):zb w' tag q {x with R:=R'}∧Step (fun c=>c=1) tag w tag w':=by
 have s:Step (fun c=>c=1) tag w tag w':=Step.Yp (c:=1) t rfl
 exact⟨h.turn s (by omega) (by omega) (fun _ _=>rfl) h.out (.inr hR) (.inl ⟨by omega,rfl⟩) (.inl ⟨by omega,rfl⟩) (.inl ⟨by omega,rfl⟩) (.inl ⟨by omega,rfl,rfl⟩) (.inl ⟨by omega,rfl⟩) fun _ _ _ hx=>.inl ⟨⟨by omega,by omega,by omega,by omega⟩,hx⟩,s⟩
theorem zb.zgy(h:zb w tag q x){D':zw}(t:Turn (fun b=>tag b=3) w w')(hD:jr w' (fun b=>tag b=3) q.dp D'):zb w' tag q {x with D:=D'}∧Step (fun c=>c=3) tag w tag w':=by
 have s:Step (fun c=>c=3) tag w tag w':=Step.Yp (c:=3) t rfl
 exact⟨h.turn s (by omega) (by omega) (fun _ _=>rfl) h.out (.inl ⟨by omega,rfl⟩) (.inl ⟨by omega,rfl⟩) (.inr hD) (.inl ⟨by omega,rfl⟩) (.inl ⟨by omega,rfl,rfl⟩) (.inl ⟨by omega,rfl⟩) fun _ _ _ hx=>.inl ⟨⟨by omega,by omega,by omega,by omega⟩,hx⟩,s⟩
theorem zb.zng(h:zb w tag q x){l:zbv}{r:zdm}(t:Turn (fun b=>tag b=5) w w')(hC:x8 w' q.cp q.c1 q.c2 l r):zb w' tag q {x with CL:=l,CR:=r}∧Step (fun c=>c=5) tag w tag w':=by
 have s:Step (fun c=>c=5) tag w tag w':=Step.Yp (c:=5) t rfl
 exact⟨h.turn s (by omega) (by omega) (fun _ _=>rfl) h.out (.inl ⟨by omega,rfl⟩) (.inl ⟨by omega,rfl⟩) (.inl ⟨by omega,rfl⟩) (.inl ⟨by omega,rfl⟩) (.inr ⟨hC,h.cache.2⟩) (.inl ⟨by omega,rfl⟩) fun _ _ _ hx=>.inl ⟨⟨by omega,by omega,by omega,by omega⟩,hx⟩,s⟩
end
section
variable {w w':World}{tag tag':Nat→Nat}{q:Sq}{x:za}
theorem zef(h:zb w tag q x)(u:Nat)(hu:2≤u∧u≤5)(f:Nat)(hn:x.P.next true=some f)(hf:f<1024)(hb:x.R.bad f=false):
  Calls Tryz.prog 213 #[ptrV q.sp,.int .i64 u,.func (.func 163) #[ptrV q.rp] #[]] w fun e w'=>e=.returned (.tuple #[.int .i64 f,.int .i64 0])∧zb w' tag q {x with P:=x.P.set f u,R:=x.R.write f 0 (List.replicate 64 0)}∧Step (fun c=>c=1∨c=2) tag w tag w':=by
 have A:Hid (Calls Tryz.prog 43 #[.pointer (some ⟨q.pp,0,none⟩),.int .i64 u,.int .i64 0,.bool true] w fun e w1=>e=.returned (.tuple #[.int .i64 f,.int .i64 0])∧zb w1 tag q {x with P:=x.P.set f u}∧Step (fun c=>c=2) tag w tag w1):=by
  refine(Jw w _ _ _ _ _ h.pool u u rfl hu.1 hu.2).mono ?_
  rintro e w1 ⟨rfl,h1,h2,_⟩
  rw[hn]at h1⊢
  have k:=h.zh7 h2 h1
  exact⟨rfl,k.1,k.2⟩
 have c2:w.cell? ⟨q.sp,2,none⟩=some (.pointer (some ⟨q.pp,0,none⟩)):=h.row.cell (i:=2) (by omega)
 unfold ptrV
 clear h
 go_enter Tryz.func213,Tryz.ntmps213
 go_wp2_with fail
 refine A.out.mono ?_
 rintro e w1 ⟨rfl,h1,s1⟩
 have Z:Hid (Calls Tryz.prog 163 #[.pointer (some ⟨q.rp,0,none⟩),.int .i64 f] w1 fun e w2=>e=.returned (.int .i64 0)∧zb w2 tag q {x with P:=x.P.set f u,R:=x.R.write f 0 (List.replicate 64 0)}∧Step (fun c=>c=1∨c=2) tag w tag w2):=by
  refine(zdb w1 _ _ _ _ h1.ram f f rfl hf hb).mono ?_
  rintro e w2 ⟨rfl,h2,h3⟩
  have k:=h1.ram' h3.1 h2
  exact⟨rfl,k.1,(s1.mono fun c hc=>.inr hc).trans (k.2.mono fun c hc=>.inl hc)⟩
 clear h1 s1 A c2
 go_wp2_with fail
 refine Z.out.mono ?_
 rintro e w2 ⟨rfl,h2,s2⟩
 have X:=Lib.hid (And.intro h2 s2)
 clear h2 s2
 go_wp2_with fail
 exact bodyPost_ret (v:=.tuple #[.int .i64 f,.int .i64 0]) (by simp[results,Tryz.results213,go_sem]) rfl ⟨rfl,X.out⟩
theorem Yc(h:zb w tag q x)(u:Nat)(hu:2≤u∧u≤5)(hn:x.P.next true=none)(fv:Value):
  Calls Tryz.prog 213 #[ptrV q.sp,.int .i64 u,fv] w fun e w'=>e=.returned (.tuple #[.int .i64 0,.int .i64 4])∧Below w.heap.size w w':=by
 have A:Hid (Calls Tryz.prog 43 #[.pointer (some ⟨q.pp,0,none⟩),.int .i64 u,.int .i64 0,.bool true] w fun e w1=>e=.returned (.tuple #[.int .i64 0,.int .i64 4])∧Below w.heap.size w w1):=by
  refine(Jw w _ _ _ _ _ h.pool u u rfl hu.1 hu.2).mono ?_
  rintro e w1 ⟨rfl,_,_,h2⟩
  rw[hn]
  exact⟨rfl,h2 hn⟩
 have c2:w.cell? ⟨q.sp,2,none⟩=some (.pointer (some ⟨q.pp,0,none⟩)):=h.row.cell (i:=2) (by omega)
 unfold ptrV
 clear h hn
 go_enter Tryz.func213,Tryz.ntmps213
 go_wp2_with fail
 refine A.out.mono ?_
 rintro e w1 ⟨rfl,h1⟩
 have X:=Lib.hid h1
 clear h1
 go_wp2_with fail
 exact bodyPost_ret (v:=.tuple #[.int .i64 0,.int .i64 4]) (by simp[results,Tryz.results213,go_sem]) rfl ⟨rfl,X.out⟩
end
section
variable {P:Program}{md:Region.Mode}{ops:Array Oper}{Q:Exit→Act→World→Prop}{S:World→Prop}{fuel:Nat}{listed:Array Bool}{a:Act}{w:World}
theorem zt{oi:Oper}(i d:Nat)(hi:ops[i]?=some oi)(hd:oi.dst=some d)(hs:Region.noSelect ops=true)(hf:Region.free md ops listed i=true)(hr:(Region.ready md ops listed).contains i=true)
  (hQ:∀c a w,Q (.panic c) (a.put oi.dst undef) w→Q (.panic c) a w) (hw:Region.wanted oi (yielded ops a.tmps)=false) (hS:S w)
  (h:wpAnyH P md ops Q S fuel (listed.setIfInBounds i true) (a.put (some d) undef) w):wpAnyH P md ops Q S (fuel+1) listed a w:=
 wpAnyH_take (v:=undef) hi hs hf hr hQ (Or.inr ⟨hw,rfl⟩) hS (by rw[hd];exact h)
theorem ziz{oi:Oper}{v:Value}(i d:Nat)(hi:ops[i]?=some oi)(hd:oi.dst=some d)(hs:Region.noSelect ops=true)(hf:Region.free md ops listed i=true)(hr:(Region.ready md ops listed).contains i=true)
  (hQ:∀c a w,Q (.panic c) (a.put oi.dst v) w→Q (.panic c) a w) (hy:YieldsIf P ops S oi v a) (hS:S w)
  (h:wpAnyH P md ops Q S fuel (listed.setIfInBounds i true) (a.put (some d) v) w):wpAnyH P md ops Q S (fuel+1) listed a w:=
 wpAnyH_take (v:=v) hi hs hf hr hQ hy hS (by rw[hd];exact h)
theorem zg{oi:Oper}{v:Value}(i d:Nat)(hi:ops[i]?=some oi)(hd:oi.dst=some d)(hS:S w)(h:wpAnyH P md ops Q S fuel (listed.setIfInBounds i true) (a.put (some d) v) w)
  (hs:Region.noSelect ops=true:=by kernel_rfl) (hf:Region.free md ops listed i=true:=by kernel_rfl) (hr:(Region.ready md ops listed).contains i=true:=by kernel_rfl)
  (hQ:∀c a w,Q (.panic c) (a.put oi.dst v) w→Q (.panic c) a w:=by exact fun _ _ _ h=>h) (hy:YieldsIf P ops S oi v a:=by exact Or.inl ⟨by rfl,by((intro w hSw;(try dsimp only at hSw);go_simp)<;>with_reducible rfl)⟩):wpAnyH P md ops Q S (fuel+1) listed a w:=
 ziz i d hi hd hs hf hr hQ hy hS h
theorem zh{α:Type}:(∀(l:List α) (i:Nat) (a:α),l.toArray.setIfInBounds i a=(l.set i a).toArray)∧(∀(a b:α) (l:List α),(a::l).set 0 b=b::l)∧∀(a b:α) (l:List α) (n:Nat),(a::l).set (n+1) b=a::l.set n b:=⟨fun _ _ _=>List.setIfInBounds_toArray ..,fun _ _ _=>rfl,fun _ _ _ _=>rfl⟩
end
def za.letS(x:za)(f:Int)(p:Int×Int):za:=
 {x with B:=updF x.B f ((x.B f).erase p),P:=if p∈x.B f∧(x.B f).erase p=[]∧x.P.use f.toNat=3 then x.P.set f.toNat 1 else x.P}
section
variable {w w':World}{tag tag':Nat→Nat}{q:Sq}{x:za}
theorem zb.dropB(h:zb w tag q x)(f:Int)(p:Int×Int)(hK:KF f)(hlen:(x.B f).length≤100000):
  Calls Tryz.prog 186 #[.pointer (some ⟨q.bp,0,none⟩),.int .i64 f,.agg #[.int .i64 p.1,.int .i64 p.2]] w fun e w'=>e=.returned (.bool (decide (p∈x.B f)))∧zb w' (retag tag w 4) q {x with B:=updF x.B f ((x.B f).erase p)}∧Step (fun c=>c=4) tag w (retag tag w 4) w':=by
 obtain⟨S,V,hB,hS⟩:=h.back
 refine(zhi w q.bp q.bm S V x.B hB f p hlen hK).mono ?_
 rintro e w1 ⟨rfl,S',V',h1,h2,h3⟩
 exact⟨rfl,h.back' hS h2 h3 h1⟩
theorem zb.ofB(h:zb w tag q x)(f:Int)(hlen:(x.B f).length≤1000000):
  Calls Tryz.prog 87 #[.pointer (some ⟨q.bp,0,none⟩),.int .i64 f] w fun e w'=>∃a c,e=.returned (.slice a (x.B f).length c)∧PlAt w' (.slice a (x.B f).length c) (x.B f)∧Below w.heap.size w w'∧∀b,(Value.slice a (x.B f).length c).ownBlock=some b→w.heap.size≤b:=by
 obtain⟨S,V,hB,hS⟩:=h.back
 refine(zm3 w q.bp q.bm S V x.B hB f hlen).mono ?_
 rintro e w1 ⟨v',rfl,h1,h2,h3⟩
 obtain⟨a,c,rfl,_,_⟩:=SlAt.form h1
 exact⟨a,c,rfl,h1,h2,h3⟩
theorem zkx (h : zb w tag q x) (f : Nat) (p : Int × Int) (hf : f < 1024) (hlen : (x.B f).length ≤ 100000) :
    Calls Tryz.prog 142 #[ptrV q.sp, .int .i64 f, .agg #[.int .i64 p.1, .int .i64 p.2]] w fun e w' => e = .returned (.tuple #[]) ∧ ∃ tag', zb w' tag' q (x.letS f p) ∧ Step (fun c => c = 2 ∨ c = 4) tag w tag' w' := by
  obtain ⟨w0, hw0⟩ : ∃ w0, w0 = w.alloc (.cells #[.int .i64 p.1, .int .i64 p.2] 58 (0, 0)) := ⟨_, rfl⟩
  have hb0 : Below w.heap.size w w0 := by rw [hw0]; exact (Below.refl w.heap.size w).alloc (Nat.le_refl _) _
  have hbW : Below w.heap.size w w0.drew := hb0.drew
  have nb : w0.heap[w.heap.size]? = some (.cells #[.int .i64 p.1, .int .i64 p.2] 58 (0, 0)) := by rw [hw0]; exact heap_alloc_new w _
  have d0 : w0.cell? ⟨w.heap.size, 0, none⟩ = some (.int .i64 p.1) := by rw [cell_of_row _ _ 0 _ _ _ nb]; rfl
  have d1 : w0.cell? ⟨w.heap.size, 1, none⟩ = some (.int .i64 p.2) := by rw [cell_of_row _ _ 1 _ _ _ nb]; rfl
  have s0 : Step (fun c => c = 2 ∨ c = 4) tag w (retag tag w 0) w0.drew := Step.anew hbW
  have hS : zb w0.drew (retag tag w 0) q x := h.step (Step.anew hbW)
  have ht0 : retag tag w 0 w.heap.size = 0 := zz _ _ _ _ (Nat.le_refl _)
  obtain ⟨tag0, htag⟩ : ∃ tag0, tag0 = retag tag w 0 := ⟨_, rfl⟩
  rw [← htag] at s0 hS ht0
  clear htag
  have q3 : w0.cell? ⟨q.sp, 3, none⟩ = some (ptrV q.bp) := hS.row.cell (i := 3) (by omega)
  have q2 : w0.cell? ⟨q.sp, 2, none⟩ = some (ptrV q.pp) := hS.row.cell (i := 2) (by omega)
  have keep : ∀ (W' : World) (C : Nat → Prop) (tag' : Nat → Nat) , Step C tag0 w0.drew tag' W' → ¬ C 0 → ¬ C 8 → W'.cell? ⟨q.sp, 3, none⟩ = some (ptrV q.bp) ∧ W'.cell? ⟨q.sp, 2, none⟩ = some (ptrV q.pp) ∧ W'.cell? ⟨w.heap.size, 0, none⟩ = some (.int .i64 p.1) ∧ W'.cell? ⟨w.heap.size, 1, none⟩ = some (.int .i64 p.2) := fun W' C tag' s c0 c8 => by
    have k8 := (s.keeps c8 _ hS.row.lt hS.so).2
    have k0 := (s.keeps c0 w.heap.size (World.block_lt_of_cell? w0 ⟨w.heap.size, 0, none⟩ d0) ht0).2
    exact ⟨(World.cell?_of_block (w := w0.drew) k8).trans q3, (World.cell?_of_block (w := w0.drew) k8).trans q2, (World.cell?_of_block (w := w0.drew) k0).trans d0, (World.cell?_of_block (w := w0.drew) k0).trans d1⟩
  have D := Lib.hid (hS.dropB f p ⟨by omega, by omega⟩ hlen)
  unfold ptrV at keep q3 q2 ⊢
  have HK := Lib.hid keep
  have fin : Hid (∀ w' tag' (P' : zo), zb w' tag' q { x with B := updF x.B f ((x.B f).erase p), P := P' } → Step (fun c => c = 2 ∨ c = 4) tag0 w0.drew tag' w' → P' = (if p ∈ x.B f ∧ (x.B f).erase p = [] ∧ x.P.use f = 3 then x.P.set f 1 else x.P) → ∃ tag', zb w' tag' q (x.letS f p) ∧ Step (fun c => c = 2 ∨ c = 4) tag w tag' w') := fun w' tag' P' h1 h2 h3 => by
    subst h3
    exact ⟨tag', h1, s0.trans h2⟩
  clear keep
  by_cases hx : p ∈ x.B f
  · rw [decide_eq_true hx] at D
    have hn : ∃ n, n = ((x.B f).erase p).length := ⟨_, rfl⟩
    obtain ⟨n, hn⟩ := hn
    have hnl : n ≤ 1000000 := by rw [hn]; have := List.length_erase_le (a := p) (l := x.B f); omega
    have OFC : Hid (∀ w2 tag2, zb w2 tag2 q { x with B := updF x.B f ((x.B f).erase p) } → Step (fun c => c = 2 ∨ c = 4) tag0 w0.drew tag2 w2 → Calls Tryz.prog 87 #[.pointer (some ⟨q.bp, 0, none⟩), .int .i64 f] w2 fun e w3 => ∃ a c, e = .returned (.slice a n c) ∧ zb w3 tag2 q { x with B := updF x.B f ((x.B f).erase p) } ∧ Step (fun c => c = 2 ∨ c = 4) tag0 w0.drew tag2 w3) := fun w2 tag2 h2 s2 => by
      have e1 : (updF x.B f ((x.B f).erase p)) f = (x.B f).erase p := by unfold updF; rw [if_pos rfl]
      have := h2.ofB f (by dsimp only; rw [e1, ← hn]; exact hnl)
      dsimp only at this
      rw [e1, ← hn] at this
      refine this.mono ?_
      rintro e w3 ⟨a, c, rfl, _, hb, _⟩
      exact ⟨a, c, rfl, h2.below hb, s2.trans (Step.of_below hb)⟩
    by_cases he : (x.B f).erase p = []
    · have en : n = 0 := by rw [hn, he]; rfl
      subst en
      by_cases hu : x.P.use f = 3
      · have D2 : Hid (Calls Tryz.prog 186 #[.pointer (some ⟨q.bp, 0, none⟩), .int .i64 f, .agg #[.int .i64 p.1, .int .i64 p.2]] w0.drew fun e w2 => e = .returned (.bool true) ∧ w2.cell? ⟨q.sp, 3, none⟩ = some (.pointer (some ⟨q.bp, 0, none⟩)) ∧ w2.cell? ⟨q.sp, 2, none⟩ = some (.pointer (some ⟨q.pp, 0, none⟩)) ∧ w2.cell? ⟨w.heap.size, 0, none⟩ = some (.int .i64 p.1) ∧ w2.cell? ⟨w.heap.size, 1, none⟩ = some (.int .i64 p.2) ∧
            (Calls Tryz.prog 87 #[.pointer (some ⟨q.bp, 0, none⟩), .int .i64 f] w2 fun e w3 => ∃ a c, e = .returned (.slice a 0 c) ∧ w3.cell? ⟨q.sp, 3, none⟩ = some (.pointer (some ⟨q.bp, 0, none⟩)) ∧ w3.cell? ⟨q.sp, 2, none⟩ = some (.pointer (some ⟨q.pp, 0, none⟩)) ∧ w3.cell? ⟨w.heap.size, 0, none⟩ = some (.int .i64 p.1) ∧ w3.cell? ⟨w.heap.size, 1, none⟩ = some (.int .i64 p.2) ∧
              ((Calls Tryz.prog 38 #[.pointer (some ⟨q.pp, 0, none⟩), .int .i64 f] w3 fun e w4 => e = .returned (.int .i64 3) ∧ w4 = w3) ∧ (Calls Tryz.prog 44 #[.pointer (some ⟨q.pp, 0, none⟩), .int .i64 f] w3 fun e w' => e = .returned (.bool true) ∧ (∃ tag', zb w' tag' q (x.letS f p) ∧ Step (fun c => c = 2 ∨ c = 4) tag w tag' w'))))) := by
          refine D.out.mono ?_
          rintro e w2 ⟨rfl, h1, h2⟩
          have s2 := h2.mono (C' := fun c => c = 2 ∨ c = 4) fun c hc => .inr hc
          obtain ⟨k1, k2, k3, k4⟩ := HK.out _ _ _ s2 (by omega) (by omega)
          refine ⟨rfl, k1, k2, k3, k4, (OFC.out _ _ h1 s2).mono ?_⟩
          rintro e w3 ⟨a, c, rfl, h3, s3⟩
          obtain ⟨k1, k2, k3, k4⟩ := HK.out _ _ _ s3 (by omega) (by omega)
          refine ⟨a, c, rfl, k1, k2, k3, k4, ?_, ?_⟩
          · have := zfz _ _ _ _ _ _ h3.pool f f rfl hf
            rw [show ({ x with B := updF x.B f ((x.B f).erase p) } : za).P.use f = x.P.use f from rfl, hu] at this
            exact this
          · refine (Qr _ _ _ _ _ _ h3.pool f f rfl hf (by show 2 ≤ x.P.use f; omega) (by show x.P.use f ≤ 5; omega)).mono ?_
            rintro e w' ⟨rfl, g1, g2⟩
            have g := h3.zh7 g2 g1
            exact ⟨rfl, fin.out _ _ _ g.1 (s3.trans (g.2.mono fun c hc => .inl hc)) (by rw [if_pos ⟨hx, he, hu⟩])⟩
        have HW := Lib.hid hw0
        clear h hb0 hbW nb s0 hS ht0 D hlen HK fin hw0 hx he hn hnl OFC hu
        go_enter Tryz.func142, Tryz.ntmps142
        go_wp2_with fail
        rw [← HW.out]
        refine wp_region_held_drew (S := (fun X => X.cell? ⟨q.sp, 3, none⟩ = some (.pointer (some ⟨q.bp, 0, none⟩)) ∧ X.cell? ⟨q.sp, 2, none⟩ = some (.pointer (some ⟨q.pp, 0, none⟩)) ∧ X.cell? ⟨w.heap.size, 0, none⟩ = some (.int .i64 p.1) ∧ X.cell? ⟨w.heap.size, 1, none⟩ = some (.int .i64 p.2))) (by kernel_rfl) ⟨q3, q2, d0, d1⟩ (fun hHeld => ?_)
        refine zg 0 6 rfl rfl hHeld ?_
        simp only [Act.put, zh]
        refine zg 1 7 rfl rfl hHeld ?_
        simp only [Act.put, zh]
        refine zg 2 8 rfl rfl hHeld ?_
        simp only [Act.put, zh]
        refine zg 3 9 rfl rfl hHeld ?_
        simp only [Act.put, zh]
        refine zg 4 10 rfl rfl hHeld ?_
        simp only [Act.put, zh]
        refine zg 5 11 rfl rfl hHeld ?_
        simp only [Act.put, zh]
        refine wpAnyH_ready (rs := [6]) (by kernel_rfl) (by simp) ?_
        refine AllReadyH.cons rfl (fun K hK => ?_) AllReadyH.nil
        go_simp
        go_wp2_with (go_at_call 186; refine D2.out.mono ?_; rintro e w2 ⟨rfl, g1, g2, g3, g4, HX⟩)
        have hX := Lib.hid HX
        clear HX
        refine hK.out _ _ ⟨g1, g2, g3, g4⟩ (fun hHeld => ?_)
        clear hK K
        refine zg 7 13 rfl rfl hHeld ?_
        simp only [Act.put, zh]
        refine zg 8 14 rfl rfl hHeld ?_
        simp only [Act.put, zh]
        refine zg 9 15 rfl rfl hHeld ?_
        simp only [Act.put, zh]
        refine zg 10 16 rfl rfl hHeld ?_
        simp only [Act.put, zh]
        refine zg 11 17 rfl rfl hHeld ?_
        simp only [Act.put, zh]
        refine zg 12 18 rfl rfl hHeld ?_
        simp only [Act.put, zh]
        refine wpAnyH_ready (rs := [13]) (by kernel_rfl) (by simp) ?_
        refine AllReadyH.cons rfl (fun K hK => ?_) AllReadyH.nil
        go_simp
        go_wp2_with (go_at_call 87; refine hX.out.mono ?_; rintro e w3 ⟨aa, cc, rfl, j1, j2, j3, j4, HY⟩)
        have hY := Lib.hid HY
        clear HY
        refine hK.out _ _ ⟨j1, j2, j3, j4⟩ (fun hHeld => ?_)
        clear hK K
        refine zg 14 20 rfl rfl hHeld ?_
        simp only [Act.put, zh]
        refine zg 15 21 rfl rfl hHeld ?_
        simp only [Act.put, zh]
        refine zg 16 22 rfl rfl hHeld ?_
        simp only [Act.put, zh]
        refine zg 17 23 rfl rfl hHeld ?_
        simp only [Act.put, zh]
        refine zg 18 24 rfl rfl hHeld ?_
        simp only [Act.put, zh]
        refine zg 19 25 rfl rfl hHeld ?_
        simp only [Act.put, zh]
        refine zg 20 26 rfl rfl hHeld ?_
        simp only [Act.put, zh]
        refine zg 21 27 rfl rfl hHeld ?_
        simp only [Act.put, zh]
        refine zg 22 28 rfl rfl hHeld ?_
        simp only [Act.put, zh]
        refine wpAnyH_ready (rs := [23]) (by kernel_rfl) (by simp) ?_
        refine AllReadyH.cons rfl (fun K hK => ?_) AllReadyH.nil
        go_simp
        go_wp2_with (go_at_call 38; refine hY.out.1.mono ?_; rintro e w4 ⟨rfl, hw4⟩)
        have hw4 := hw4.symm
        subst hw4
        refine hK.out _ _ ⟨j1, j2, j3, j4⟩ (fun hHeld => ?_)
        clear hK K
        refine zg 24 30 rfl rfl hHeld ?_
        simp only [Act.put, zh]
        refine zg 25 31 rfl rfl hHeld ?_
        simp only [Act.put, zh]
        refine wpAnyH_done (by kernel_rfl) ?_ _
        go_wp2_with fail
        refine hY.out.2.mono ?_
        rintro e w5 ⟨rfl, HZ⟩
        have hZ := Lib.hid HZ
        clear HZ
        go_wp2_with fail
        exact bodyPost_end (v := .tuple #[]) (by simp [results, Tryz.results142, go_sem]) rfl ⟨rfl, hZ.out⟩
      · have D2 : Hid (Calls Tryz.prog 186 #[.pointer (some ⟨q.bp, 0, none⟩), .int .i64 f, .agg #[.int .i64 p.1, .int .i64 p.2]] w0.drew fun e w2 => e = .returned (.bool true) ∧ w2.cell? ⟨q.sp, 3, none⟩ = some (.pointer (some ⟨q.bp, 0, none⟩)) ∧ w2.cell? ⟨q.sp, 2, none⟩ = some (.pointer (some ⟨q.pp, 0, none⟩)) ∧ w2.cell? ⟨w.heap.size, 0, none⟩ = some (.int .i64 p.1) ∧ w2.cell? ⟨w.heap.size, 1, none⟩ = some (.int .i64 p.2) ∧
            (Calls Tryz.prog 87 #[.pointer (some ⟨q.bp, 0, none⟩), .int .i64 f] w2 fun e w3 => ∃ a c, e = .returned (.slice a 0 c) ∧ w3.cell? ⟨q.sp, 3, none⟩ = some (.pointer (some ⟨q.bp, 0, none⟩)) ∧ w3.cell? ⟨q.sp, 2, none⟩ = some (.pointer (some ⟨q.pp, 0, none⟩)) ∧ w3.cell? ⟨w.heap.size, 0, none⟩ = some (.int .i64 p.1) ∧ w3.cell? ⟨w.heap.size, 1, none⟩ = some (.int .i64 p.2) ∧
              ((Calls Tryz.prog 38 #[.pointer (some ⟨q.pp, 0, none⟩), .int .i64 f] w3 fun e w4 => e = .returned (.int .i64 (x.P.use f)) ∧ w4 = w3) ∧ (∃ tag', zb w3 tag' q (x.letS f p) ∧ Step (fun c => c = 2 ∨ c = 4) tag w tag' w3)))) := by
          refine D.out.mono ?_
          rintro e w2 ⟨rfl, h1, h2⟩
          have s2 := h2.mono (C' := fun c => c = 2 ∨ c = 4) fun c hc => .inr hc
          obtain ⟨k1, k2, k3, k4⟩ := HK.out _ _ _ s2 (by omega) (by omega)
          refine ⟨rfl, k1, k2, k3, k4, (OFC.out _ _ h1 s2).mono ?_⟩
          rintro e w3 ⟨a, c, rfl, h3, s3⟩
          obtain ⟨k1, k2, k3, k4⟩ := HK.out _ _ _ s3 (by omega) (by omega)
          refine ⟨a, c, rfl, k1, k2, k3, k4, zfz _ _ _ _ _ _ h3.pool f f rfl hf, ?_⟩
          exact fin.out _ _ x.P h3 s3 (by rw [if_neg fun e => hu e.2.2])
        have hn0 : ((x.P.use f : Int) == 3) = false := beq_eq_false_iff_ne.2 (by omega)
        generalize x.P.use f = u at D2 hn0
        have HW := Lib.hid hw0
        clear h hb0 hbW nb s0 hS ht0 D hlen HK fin hw0 hx he hn hnl OFC hu
        go_enter Tryz.func142, Tryz.ntmps142
        go_wp2_with fail
        rw [← HW.out]
        refine wp_region_held_drew (S := (fun X => X.cell? ⟨q.sp, 3, none⟩ = some (.pointer (some ⟨q.bp, 0, none⟩)) ∧ X.cell? ⟨q.sp, 2, none⟩ = some (.pointer (some ⟨q.pp, 0, none⟩)) ∧ X.cell? ⟨w.heap.size, 0, none⟩ = some (.int .i64 p.1) ∧ X.cell? ⟨w.heap.size, 1, none⟩ = some (.int .i64 p.2))) (by kernel_rfl) ⟨q3, q2, d0, d1⟩ (fun hHeld => ?_)
        refine zg 0 6 rfl rfl hHeld ?_
        simp only [Act.put, zh]
        refine zg 1 7 rfl rfl hHeld ?_
        simp only [Act.put, zh]
        refine zg 2 8 rfl rfl hHeld ?_
        simp only [Act.put, zh]
        refine zg 3 9 rfl rfl hHeld ?_
        simp only [Act.put, zh]
        refine zg 4 10 rfl rfl hHeld ?_
        simp only [Act.put, zh]
        refine zg 5 11 rfl rfl hHeld ?_
        simp only [Act.put, zh]
        refine wpAnyH_ready (rs := [6]) (by kernel_rfl) (by simp) ?_
        refine AllReadyH.cons rfl (fun K hK => ?_) AllReadyH.nil
        go_simp
        go_wp2_with (go_at_call 186; refine D2.out.mono ?_; rintro e w2 ⟨rfl, g1, g2, g3, g4, HX⟩)
        have hX := Lib.hid HX
        clear HX
        refine hK.out _ _ ⟨g1, g2, g3, g4⟩ (fun hHeld => ?_)
        clear hK K
        refine zg 7 13 rfl rfl hHeld ?_
        simp only [Act.put, zh]
        refine zg 8 14 rfl rfl hHeld ?_
        simp only [Act.put, zh]
        refine zg 9 15 rfl rfl hHeld ?_
        simp only [Act.put, zh]
        refine zg 10 16 rfl rfl hHeld ?_
        simp only [Act.put, zh]
        refine zg 11 17 rfl rfl hHeld ?_
        simp only [Act.put, zh]
        refine zg 12 18 rfl rfl hHeld ?_
        simp only [Act.put, zh]
        refine wpAnyH_ready (rs := [13]) (by kernel_rfl) (by simp) ?_
        refine AllReadyH.cons rfl (fun K hK => ?_) AllReadyH.nil
        go_simp
        go_wp2_with (go_at_call 87; refine hX.out.mono ?_; rintro e w3 ⟨aa, cc, rfl, j1, j2, j3, j4, HY⟩)
        have hY := Lib.hid HY
        clear HY
        refine hK.out _ _ ⟨j1, j2, j3, j4⟩ (fun hHeld => ?_)
        clear hK K
        refine zg 14 20 rfl rfl hHeld ?_
        simp only [Act.put, zh]
        refine zg 15 21 rfl rfl hHeld ?_
        simp only [Act.put, zh]
        refine zg 16 22 rfl rfl hHeld ?_
        simp only [Act.put, zh]
        refine zg 17 23 rfl rfl hHeld ?_
        simp only [Act.put, zh]
        refine zg 18 24 rfl rfl hHeld ?_
        simp only [Act.put, zh]
        refine zg 19 25 rfl rfl hHeld ?_
        simp only [Act.put, zh]
        refine zg 20 26 rfl rfl hHeld ?_
        simp only [Act.put, zh]
        refine zg 21 27 rfl rfl hHeld ?_
        simp only [Act.put, zh]
        refine zg 22 28 rfl rfl hHeld ?_
        simp only [Act.put, zh]
        refine wpAnyH_ready (rs := [23]) (by kernel_rfl) (by simp) ?_
        refine AllReadyH.cons rfl (fun K hK => ?_) AllReadyH.nil
        go_simp
        go_wp2_with (go_at_call 38; refine hY.out.1.mono ?_; rintro e w4 ⟨rfl, hw4⟩)
        have hw4 := hw4.symm
        subst hw4
        refine hK.out _ _ ⟨j1, j2, j3, j4⟩ (fun hHeld => ?_)
        clear hK K
        refine zg 24 30 rfl rfl hHeld ?_
        simp only [Act.put, zh]
        refine zg 25 31 rfl rfl hHeld ?_
        simp only [Act.put, zh]
        refine wpAnyH_done (by kernel_rfl) ?_ _
        go_wp2_with fail
        exact bodyPost_end (v := .tuple #[]) (by simp [results, Tryz.results142, go_sem]) rfl ⟨rfl, hY.out.2⟩
    · have D2 : Hid (Calls Tryz.prog 186 #[.pointer (some ⟨q.bp, 0, none⟩), .int .i64 f, .agg #[.int .i64 p.1, .int .i64 p.2]] w0.drew fun e w2 => e = .returned (.bool true) ∧ w2.cell? ⟨q.sp, 3, none⟩ = some (.pointer (some ⟨q.bp, 0, none⟩)) ∧ w2.cell? ⟨q.sp, 2, none⟩ = some (.pointer (some ⟨q.pp, 0, none⟩)) ∧ w2.cell? ⟨w.heap.size, 0, none⟩ = some (.int .i64 p.1) ∧ w2.cell? ⟨w.heap.size, 1, none⟩ = some (.int .i64 p.2) ∧
          (Calls Tryz.prog 87 #[.pointer (some ⟨q.bp, 0, none⟩), .int .i64 f] w2 fun e w3 => ∃ a c, e = .returned (.slice a n c) ∧ w3.cell? ⟨q.sp, 3, none⟩ = some (.pointer (some ⟨q.bp, 0, none⟩)) ∧ w3.cell? ⟨q.sp, 2, none⟩ = some (.pointer (some ⟨q.pp, 0, none⟩)) ∧ w3.cell? ⟨w.heap.size, 0, none⟩ = some (.int .i64 p.1) ∧ w3.cell? ⟨w.heap.size, 1, none⟩ = some (.int .i64 p.2) ∧ (∃ tag', zb w3 tag' q (x.letS f p) ∧ Step (fun c => c = 2 ∨ c = 4) tag w tag' w3))) := by
        refine D.out.mono ?_
        rintro e w2 ⟨rfl, h1, h2⟩
        have s2 := h2.mono (C' := fun c => c = 2 ∨ c = 4) fun c hc => .inr hc
        obtain ⟨k1, k2, k3, k4⟩ := HK.out _ _ _ s2 (by omega) (by omega)
        refine ⟨rfl, k1, k2, k3, k4, (OFC.out _ _ h1 s2).mono ?_⟩
        rintro e w3 ⟨a, c, rfl, h3, s3⟩
        obtain ⟨k1, k2, k3, k4⟩ := HK.out _ _ _ s3 (by omega) (by omega)
        refine ⟨a, c, rfl, k1, k2, k3, k4, ?_⟩
        exact fin.out _ _ x.P h3 s3 (by rw [if_neg fun e => he e.2.1])
      have hn1 : n ≠ 0 := fun e => he (List.length_eq_zero_iff.1 (hn ▸ e))
      have hn0 : ((n : Int) == 0) = false := beq_eq_false_iff_ne.2 (by omega)
      have HW := Lib.hid hw0
      clear h hb0 hbW nb s0 hS ht0 D hlen HK fin hw0 hx he hn hnl OFC hn1
      go_enter Tryz.func142, Tryz.ntmps142
      go_wp2_with fail
      rw [← HW.out]
      refine wp_region_held_drew (S := (fun X => X.cell? ⟨q.sp, 3, none⟩ = some (.pointer (some ⟨q.bp, 0, none⟩)) ∧ X.cell? ⟨q.sp, 2, none⟩ = some (.pointer (some ⟨q.pp, 0, none⟩)) ∧ X.cell? ⟨w.heap.size, 0, none⟩ = some (.int .i64 p.1) ∧ X.cell? ⟨w.heap.size, 1, none⟩ = some (.int .i64 p.2))) (by kernel_rfl) ⟨q3, q2, d0, d1⟩ (fun hHeld => ?_)
      refine zg 0 6 rfl rfl hHeld ?_
      simp only [Act.put, zh]
      refine zg 1 7 rfl rfl hHeld ?_
      simp only [Act.put, zh]
      refine zg 2 8 rfl rfl hHeld ?_
      simp only [Act.put, zh]
      refine zg 3 9 rfl rfl hHeld ?_
      simp only [Act.put, zh]
      refine zg 4 10 rfl rfl hHeld ?_
      simp only [Act.put, zh]
      refine zg 5 11 rfl rfl hHeld ?_
      simp only [Act.put, zh]
      refine wpAnyH_ready (rs := [6]) (by kernel_rfl) (by simp) ?_
      refine AllReadyH.cons rfl (fun K hK => ?_) AllReadyH.nil
      go_simp
      go_wp2_with (go_at_call 186; refine D2.out.mono ?_; rintro e w2 ⟨rfl, g1, g2, g3, g4, HX⟩)
      have hX := Lib.hid HX
      clear HX
      refine hK.out _ _ ⟨g1, g2, g3, g4⟩ (fun hHeld => ?_)
      clear hK K
      refine zg 7 13 rfl rfl hHeld ?_
      simp only [Act.put, zh]
      refine zg 8 14 rfl rfl hHeld ?_
      simp only [Act.put, zh]
      refine zg 9 15 rfl rfl hHeld ?_
      simp only [Act.put, zh]
      refine zg 10 16 rfl rfl hHeld ?_
      simp only [Act.put, zh]
      refine zg 11 17 rfl rfl hHeld ?_
      simp only [Act.put, zh]
      refine zg 12 18 rfl rfl hHeld ?_
      simp only [Act.put, zh]
      refine wpAnyH_ready (rs := [13]) (by kernel_rfl) (by simp) ?_
      refine AllReadyH.cons rfl (fun K hK => ?_) AllReadyH.nil
      go_simp
      go_wp2_with (go_at_call 87; refine hX.out.mono ?_; rintro e w3 ⟨aa, cc, rfl, j1, j2, j3, j4, HY⟩)
      have hY := Lib.hid HY
      clear HY
      refine hK.out _ _ ⟨j1, j2, j3, j4⟩ (fun hHeld => ?_)
      clear hK K
      refine zg 14 20 rfl rfl hHeld ?_
      simp only [Act.put, zh]
      refine zg 15 21 rfl rfl hHeld ?_
      simp only [Act.put, zh]
      refine zg 16 22 rfl rfl hHeld ?_
      simp only [Act.put, zh]
      refine zg 17 23 rfl rfl hHeld ?_
      simp only [Act.put, zh]
      refine zt 18 24 rfl rfl (by kernel_rfl) (by kernel_rfl) (by kernel_rfl) (fun _ _ _ h => h) (by rfl) hHeld ?_
      simp only [Act.put, zh]
      refine zt 19 25 rfl rfl (by kernel_rfl) (by kernel_rfl) (by kernel_rfl) (fun _ _ _ h => h) (by rfl) hHeld ?_
      simp only [Act.put, zh]
      refine zt 20 26 rfl rfl (by kernel_rfl) (by kernel_rfl) (by kernel_rfl) (fun _ _ _ h => h) (by rfl) hHeld ?_
      simp only [Act.put, zh]
      refine zt 21 27 rfl rfl (by kernel_rfl) (by kernel_rfl) (by kernel_rfl) (fun _ _ _ h => h) (by rfl) hHeld ?_
      simp only [Act.put, zh]
      refine zt 22 28 rfl rfl (by kernel_rfl) (by kernel_rfl) (by kernel_rfl) (fun _ _ _ h => h) (by rfl) hHeld ?_
      simp only [Act.put, zh]
      refine zt 23 29 rfl rfl (by kernel_rfl) (by kernel_rfl) (by kernel_rfl) (fun _ _ _ h => h) (by rfl) hHeld ?_
      simp only [Act.put, zh]
      refine zt 24 30 rfl rfl (by kernel_rfl) (by kernel_rfl) (by kernel_rfl) (fun _ _ _ h => h) (by rfl) hHeld ?_
      simp only [Act.put, zh]
      refine zg 25 31 rfl rfl hHeld ?_
      simp only [Act.put, zh]
      refine wpAnyH_done (by kernel_rfl) ?_ _
      go_wp2_with fail
      exact bodyPost_end (v := .tuple #[]) (by simp [results, Tryz.results142, go_sem]) rfl ⟨rfl, hY.out⟩
  · rw [decide_eq_false hx] at D
    have D2 : Hid (Calls Tryz.prog 186 #[.pointer (some ⟨q.bp, 0, none⟩), .int .i64 f, .agg #[.int .i64 p.1, .int .i64 p.2]] w0.drew fun e w2 => e = .returned (.bool false) ∧ w2.cell? ⟨q.sp, 3, none⟩ = some (.pointer (some ⟨q.bp, 0, none⟩)) ∧ w2.cell? ⟨q.sp, 2, none⟩ = some (.pointer (some ⟨q.pp, 0, none⟩)) ∧ w2.cell? ⟨w.heap.size, 0, none⟩ = some (.int .i64 p.1) ∧ w2.cell? ⟨w.heap.size, 1, none⟩ = some (.int .i64 p.2) ∧ (∃ tag', zb w2 tag' q (x.letS f p) ∧ Step (fun c => c = 2 ∨ c = 4) tag w tag' w2)) := by
      refine D.out.mono ?_
      rintro e w2 ⟨rfl, h1, h2⟩
      have s2 := h2.mono (C' := fun c => c = 2 ∨ c = 4) fun c hc => .inr hc
      obtain ⟨k1, k2, k3, k4⟩ := HK.out _ _ _ s2 (by omega) (by omega)
      exact ⟨rfl, k1, k2, k3, k4, fin.out _ _ x.P h1 s2 (by rw [if_neg fun e => hx e.1])⟩
    have HW := Lib.hid hw0
    clear h hb0 hbW nb s0 hS ht0 D hlen HK fin hw0 hx
    go_enter Tryz.func142, Tryz.ntmps142
    go_wp2_with fail
    rw [← HW.out]
    refine wp_region_held_drew (S := (fun X => X.cell? ⟨q.sp, 3, none⟩ = some (.pointer (some ⟨q.bp, 0, none⟩)) ∧ X.cell? ⟨q.sp, 2, none⟩ = some (.pointer (some ⟨q.pp, 0, none⟩)) ∧ X.cell? ⟨w.heap.size, 0, none⟩ = some (.int .i64 p.1) ∧ X.cell? ⟨w.heap.size, 1, none⟩ = some (.int .i64 p.2))) (by kernel_rfl) ⟨q3, q2, d0, d1⟩ (fun hHeld => ?_)
    refine zg 0 6 rfl rfl hHeld ?_
    simp only [Act.put, zh]
    refine zg 1 7 rfl rfl hHeld ?_
    simp only [Act.put, zh]
    refine zg 2 8 rfl rfl hHeld ?_
    simp only [Act.put, zh]
    refine zg 3 9 rfl rfl hHeld ?_
    simp only [Act.put, zh]
    refine zg 4 10 rfl rfl hHeld ?_
    simp only [Act.put, zh]
    refine zg 5 11 rfl rfl hHeld ?_
    simp only [Act.put, zh]
    refine wpAnyH_ready (rs := [6]) (by kernel_rfl) (by simp) ?_
    refine AllReadyH.cons rfl (fun K hK => ?_) AllReadyH.nil
    go_simp
    go_wp2_with (go_at_call 186; refine D2.out.mono ?_; rintro e w2 ⟨rfl, g1, g2, g3, g4, HX⟩)
    have hX := Lib.hid HX
    clear HX
    refine hK.out _ _ ⟨g1, g2, g3, g4⟩ (fun hHeld => ?_)
    clear hK K
    refine zg 7 13 rfl rfl hHeld ?_
    simp only [Act.put, zh]
    refine zt 8 14 rfl rfl (by kernel_rfl) (by kernel_rfl) (by kernel_rfl) (fun _ _ _ h => h) (by rfl) hHeld ?_
    simp only [Act.put, zh]
    refine zt 9 15 rfl rfl (by kernel_rfl) (by kernel_rfl) (by kernel_rfl) (fun _ _ _ h => h) (by rfl) hHeld ?_
    simp only [Act.put, zh]
    refine zt 10 16 rfl rfl (by kernel_rfl) (by kernel_rfl) (by kernel_rfl) (fun _ _ _ h => h) (by rfl) hHeld ?_
    simp only [Act.put, zh]
    refine zt 11 17 rfl rfl (by kernel_rfl) (by kernel_rfl) (by kernel_rfl) (fun _ _ _ h => h) (by rfl) hHeld ?_
    simp only [Act.put, zh]
    refine zt 12 18 rfl rfl (by kernel_rfl) (by kernel_rfl) (by kernel_rfl) (fun _ _ _ h => h) (by rfl) hHeld ?_
    simp only [Act.put, zh]
    refine zt 13 19 rfl rfl (by kernel_rfl) (by kernel_rfl) (by kernel_rfl) (fun _ _ _ h => h) (by rfl) hHeld ?_
    simp only [Act.put, zh]
    refine zt 14 20 rfl rfl (by kernel_rfl) (by kernel_rfl) (by kernel_rfl) (fun _ _ _ h => h) (by rfl) hHeld ?_
    simp only [Act.put, zh]
    refine zt 15 21 rfl rfl (by kernel_rfl) (by kernel_rfl) (by kernel_rfl) (fun _ _ _ h => h) (by rfl) hHeld ?_
    simp only [Act.put, zh]
    refine zg 16 22 rfl rfl hHeld ?_
    simp only [Act.put, zh]
    refine zg 17 23 rfl rfl hHeld ?_
    simp only [Act.put, zh]
    refine zt 18 24 rfl rfl (by kernel_rfl) (by kernel_rfl) (by kernel_rfl) (fun _ _ _ h => h) (by rfl) hHeld ?_
    simp only [Act.put, zh]
    refine zt 19 25 rfl rfl (by kernel_rfl) (by kernel_rfl) (by kernel_rfl) (fun _ _ _ h => h) (by rfl) hHeld ?_
    simp only [Act.put, zh]
    refine zt 20 26 rfl rfl (by kernel_rfl) (by kernel_rfl) (by kernel_rfl) (fun _ _ _ h => h) (by rfl) hHeld ?_
    simp only [Act.put, zh]
    refine zt 21 27 rfl rfl (by kernel_rfl) (by kernel_rfl) (by kernel_rfl) (fun _ _ _ h => h) (by rfl) hHeld ?_
    simp only [Act.put, zh]
    refine zt 22 28 rfl rfl (by kernel_rfl) (by kernel_rfl) (by kernel_rfl) (fun _ _ _ h => h) (by rfl) hHeld ?_
    simp only [Act.put, zh]
    refine zt 23 29 rfl rfl (by kernel_rfl) (by kernel_rfl) (by kernel_rfl) (fun _ _ _ h => h) (by rfl) hHeld ?_
    simp only [Act.put, zh]
    refine zt 24 30 rfl rfl (by kernel_rfl) (by kernel_rfl) (by kernel_rfl) (fun _ _ _ h => h) (by rfl) hHeld ?_
    simp only [Act.put, zh]
    refine zg 25 31 rfl rfl hHeld ?_
    simp only [Act.put, zh]
    refine wpAnyH_done (by kernel_rfl) ?_ _
    go_wp2_with fail
    exact bodyPost_end (v := .tuple #[]) (by simp [results, Tryz.results142, go_sem]) rfl ⟨rfl, hX.out⟩
end
end Go.Proofs.YtnhdmnijiphjjaaGreat
