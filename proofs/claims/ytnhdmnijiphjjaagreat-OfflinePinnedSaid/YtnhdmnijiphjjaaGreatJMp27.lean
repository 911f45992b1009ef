/- OfflinePinned: a frame that is pinned keeps its section on line; freed, it lets it go. -/
import Derived.Test.YtnhdmnijiphjjaaGreatJMp26
set_option linter.unusedVariables false
set_option linter.unusedSimpArgs false
set_option maxRecDepth 100000
set_option maxHeartbeats 2000000
namespace Go.Proofs.YtnhdmnijiphjjaaGreat
open Go Go.RowKit
section
variable {w0 w w' wk:World}{K:List Nat}{V:List (Value×List Value)}{q:Sq}{x:za}
theorem AtB.alloc(h:AtB w0 K wk q x w)(u:Nat)(h2:2≤u)(h5:u≤5){f:Nat}(hn:x.P.next true=some f):Calls Tryz.prog 43 #[.pointer (some ⟨q.pp,0,none⟩),.int .i64 u,.int .i64 0,.bool true] w fun e w'=>e=.returned (.tuple #[.int .i64 f,.int .i64 0])∧AtB w0 K wk q (x.Zx (x.P.set f u)) w':=by
 refine(h.go (C:=fun c=>c=2) (by omega) (P:=fun e q' y=>e=.returned (.tuple #[.int .i64 f,.int .i64 0])∧q'=q∧y=x.Zx (x.P.set f u)) fun tag hS=>?_).mono ?_
 ·refine(hS.zne u h2 h5 hn).mono ?_
  rintro e w1 ⟨rfl,h1,s1⟩
  exact⟨_,_,tag,⟨rfl,rfl,rfl⟩,h1,s1⟩
 ·rintro e w1 ⟨_,_,⟨rfl,rfl,rfl⟩,h1⟩
  exact⟨rfl,h1⟩
theorem AtB.free(h:AtB w0 K wk q x w)(f:Nat)(hf:f<1024):Calls Tryz.prog 44 #[.pointer (some ⟨q.pp,0,none⟩),.int .i64 f] w fun e w'=>(∃b,e=.returned (.bool b))∧AtB w0 K wk q (x.Zx (x.P.free f)) w':=by
 refine(h.go (C:=fun c=>c=2) (by omega) (P:=fun e q' y=>(∃b,e=.returned (.bool b))∧q'=q∧y=x.Zx (x.P.free f)) fun tag hS=>?_).mono ?_
 ·refine(hS.zn4 f hf).mono ?_
  rintro e w1 ⟨he,h1,s1⟩
  exact⟨_,_,tag,⟨he,rfl,rfl⟩,h1,s1⟩
 ·rintro e w1 ⟨_,_,⟨he,rfl,rfl⟩,h1⟩
  exact⟨he,h1⟩
theorem AtB.cell(h:AtB w0 K wk q x w){i:Nat}(hi:i<7):w.cell? ⟨q.sp,i,none⟩=some (Z8 q i):=h.toQ.cell hi
theorem AtQ.znx(h:AtQ w0 V q x w)(s:Nat)(hs:s<32)(h0:x.P.zone s≠0)(hc:x.P.count s 1+x.P.count s 6=32):Calls Tryz.prog 45 #[.pointer (some ⟨q.pp,0,none⟩),.int .i64 s] w fun e w'=>e=.returned (.int .i64 0)∧AtQ w0 V q (x.Zx (x.P.offN s 32)) w':=by
 refine h.go (C:=fun c=>c=2) (by omega) fun tag hS=>?_
 refine(zc9 w _ _ _ _ _ hS.pool s hs h0 hc).mono ?_
 rintro e w1 ⟨rfl,hP,t⟩
 obtain⟨a,b⟩:=hS.za7 t hP
 exact⟨rfl,tag,a,b⟩
theorem AtQ.zone(h:AtQ w0 V q x w)(s:Nat)(hs:s<32):Calls Tryz.prog 46 #[.pointer (some ⟨q.pp,0,none⟩),.int .i64 s] w fun e w'=>e=.returned (.int .i64 (x.P.zone s))∧w'=w:=by
 obtain⟨tag,hS,_⟩:=h.st
 exact hS.znh s hs
end
def inL(fs:List Nat):List Value:=fs.map fun(f:Nat)=>.int .i64 (f:Int)
theorem zk2:∃i,Tryz.prog.info? 3=some i∧i.zero=some (.int .i64 0)∧i.size=1∧i.bytes=8:=by
 have h:(Tryz.prog.info? 3).map (fun i=>(i.zero,i.size,i.bytes))=some (some (.int .i64 0),1,8):=by kernel_rfl
 obtain⟨i,hi,hb⟩:=Option.map_eq_some_iff.1 h
 simp at hb
 exact⟨i,hi,hb⟩
set_option maxHeartbeats 4000000 in
theorem zdt(pn:Nat)(hpn:pn<256)(vb:Value)(b:List UInt8)(w:World)(hb0:BRd w vb b)(hlen:b.length≤64∧b.length≠0):
  Calls Tryz.prog 11 #[.int .u8 pn,vb] w fun e w'=>e=.returned (.bool true)∧Below w.heap.size w w':=by
 obtain⟨ba,bc,rfl,hc3,hc4⟩:=SlRd.form hb0
 obtain⟨n,hn⟩:∃n,n=b.length:=⟨_,rfl⟩
 rw[←hn]at hlen hc3⊢
 have HB:Hid (BRd w (.slice ba n bc) b∧b.length=n):=⟨by rw[hn];exact hb0,hn.symm⟩
 have hcap:n≤maxLen:=by omega
 clear hb0 hn hc3 hc4
 obtain⟨j0,hj0⟩:∃j0,j0=pn%20:=⟨_,rfl⟩
 have hmod2:=Lib.hid (show(pn:Int)%20=j0 by omega)
 have hm2:0≤(pn:Int)%20:=by omega
 have hm3:(pn:Int)%20<20:=by omega
 have hp1:(pn:Int)<256:=by omega
 have hj20:j0<20:=by omega
 have hn64:¬(64:Int)<n:=by omega
 have hn1:¬((n:Int)=0):=by omega
 have hn2:((n:Int)==0)=false:=beq_eq_false_iff_ne.2 hn1
 have hnn:¬n=0:=hlen.2
 clear hj0
 go_enter Tryz.func11,Tryz.ntmps11
 go_wp2_with fail
 refine(Xp w 2 (by omega)).mono ?_
 rintro e w1 ⟨q,x,p,rfl,h1,hx⟩
 obtain⟨y,f,hone⟩:=oneD hx (pg:=0) (at_:=0) (b:=b) (by omega) (by rw[HB.out.2];omega)
 obtain⟨to,z,hemp⟩:=empD hone (by omega) (by rw[HB.out.2];omega)
 have HO:=Lib.hid hone
 have HM:=Lib.hid hemp
 have ST:=Lib.hid (h1.store hx.ok (n:=0) (by omega) (outM hx).2.2 (64*0+0) (h1.arg HB.out.1) hone.right)
 rw[show x.Yi ((0:Nat):Int) ((64*0+0:Nat):Int) b=(0,y)from hone.store]at ST
 clear h1 hx hone hemp
 unfold ptrV at *
 go_wp2_with fail
 refine ST.out.mono ?_
 rintro e w2 ⟨rfl,h2⟩
 have H2:Hid (AtB w [] w2 q (y.Zx (y.P.pins [] 0)) w2):=by
  rw[show y.Zx (y.P.pins [] 0)=y by rw[zkj];rfl]
  exact AtB.ofQ h2
 clear h2 ST
 go_wp2_with fail
 rw[hmod2.out]
 clear hmod2 hm2 hm3 hp1 hpn
 obtain⟨M,hM⟩:∃M:Nat,M=j0+1:=⟨_,rfl⟩
 rw[show(j0:Int)+1=(M:Int)by omega]
 have hM1:0<M∧M<25:=by omega
 have HMM:=Lib.hid hM1
 clear hM hj20 hM1
 go_loopw [8,9,10,11] (fun lv iv _ _ W=>∃fs:List Nat,fs.length≤M∧iv=.int .i64 fs.length∧PinI y fs∧SlAt W 3 1 lv fs.length (inL fs)∧AtB w (ownL lv) W q (y.Zx (y.P.pins fs 0)) W∧∀g∈ownL lv,w.heap.size≤g) (fun _ iv _ _ _=>M-(intOf iv).toNat)
 case atStart=>exact⟨[],by simp,rfl,PinI.nil y,SlAt.nil w2 3 1,H2.out,fun g hg=>by simp[ownL,Value.ownBlock]at hg⟩
 case round=>
  clear H2
  obtain⟨fs,hl,rfl,hI,hSl,hAt,hown⟩:=hrel
  by_cases hlt:fs.length<M
  ·have hlt':(fs.length:Int)<M:=by omega
   have i0:(0:Int)≤fs.length:=by omega
   obtain⟨g,hng,hg,hI2⟩:=hI.more HO.out (by have:=HMM.out;omega)
   have AL:=Lib.hid (hAt.alloc 5 (by omega) (by omega) (f:=g) hng)
   have c2:wr.cell? ⟨q.sp,2,none⟩=some (.pointer (some ⟨q.pp,0,none⟩)):=hAt.cell (i:=2) (by omega)
   obtain⟨len,hlen2⟩:∃len,len=fs.length:=⟨_,rfl⟩
   have HS:=Lib.hid (And.intro hSl (And.intro hown (And.intro hI2 (And.intro hlt hlen2))))
   have e9:(y.Zx (y.P.pins fs 0)).Zx ((y.Zx (y.P.pins fs 0)).P.set g 5)=y.Zx (y.P.pins (fs++[g]) 0):=by rw[←zhx];rfl
   rw[e9]at AL
   clear e9
   rw[←hlen2]at hlt' i0⊢
   clear hSl hown hI2 hI hAt hng hlt hl
   go_wp2_with fail
   refine AL.out.mono ?_
   rintro e w3 ⟨rfl,h3⟩
   have hS3:SlAt w3 3 1 u8 len (inL fs):=by
    have:=SlAt.keep HS.out.1 (w':=w3) fun b hb=>h3.same (qx.2 hb)
    rw[←hlen2]at this
    exact this
   obtain⟨i0',hi0,hi1,hi2,hi3⟩:=zk2
   have HS3:=Lib.hid hS3
   have H3:=Lib.hid h3
   clear hS3 h3 AL c2 hlen2
   go_wp2_with (at_builtin;refine x9 _ rfl _ _ 79 rfl 3 i0' _ 1 8 Tryz.underlying79 hi0 hi1 hi2 hi3 rfl _ _ _ rfl (SlAt.below HS3.out ((Below.refl _ _).alloc (Nat.le_refl _) _)) ⟨w3.heap.size,0,none⟩ 1 1 [.int .i64 g] rfl rfl (fun j u hu=>Xu w3 3 [.int .i64 g] j u hu) ?c2 ?c3 ?c4 ?c5)
   case c2=>simp[Value.oneCell']
   case c3=>have:=HS.out.2.2.2.1;have:=HS.out.2.2.2.2;have:=HMM.out;simp only[maxLen];omega
   case c4=>have:=HS.out.2.2.2.1;have:=HS.out.2.2.2.2;have:=HMM.out;omega
   case c5=>
    intro v' w5 hsl3 hg3 ho3
    have hbA:Below w3.heap.size w3 (w3.alloc (.cells #[.int .i64 g] 3)):=(Below.refl _ _).alloc (Nat.le_refl _) _
    have hsz1:(w3.alloc (.cells #[.int .i64 g] 3)).heap.size=w3.heap.size+1:=by simp
    have hsz2:=(Touch.vo (S:=ownL u8) hg3 fun m hm=>qx.2 hm).size
    have HG:Hid (SlAt w5 3 1 v' (fs++[g]).length (inL (fs++[g]))∧AtB w (ownL v') w5 q (y.Zx (y.P.pins (fs++[g]) 0)) w5∧∀g∈ownL v',w.heap.size≤g):=by
     refine⟨by rw[List.length_append,show(inL (fs++[g]))=inL fs++[.int .i64 (g:Int)]by simp[inL],←HS.out.2.2.2.2];exact hsl3,?_,fun g' hg'=>?_⟩
     ·refine H3.out.own (S:=ownL u8) ((Touch.of_below hbA).trans (Touch.vo hg3 fun m hm=>qx.2 hm)) (fun g' hg'=>⟨hg',HS.out.2.1 g' hg'⟩) fun g' hg'=>⟨?_,SlAt.lt hsl3 g' (qx.1 hg')⟩
      rcases ho3 with e|e
      ·exact .inl (qx.2 (e▸qx.1 hg'))
      ·have:=qx.1 hg'
       rw[e]at this
       have:=Option.some.inj this
       exact .inr (by omega)
     ·rcases ho3 with e|e
      ·exact HS.out.2.1 g' (qx.2 (e▸qx.1 hg'))
      ·have:=qx.1 hg'
       rw[e]at this
       have:=Option.some.inj this
       have:=H3.out.bel.size
       omega
    have d5:IntKind.i64.wrap ((len:Int)+1)=((len+1:Nat):Int):=by have:=HS.out.2.2.2.1;have:=HS.out.2.2.2.2;have:=HMM.out;simp[IntKind.wrap,IntKind.bits,IntKind.signed];omega
    clear hsl3 hg3 ho3 hbA hsz1 hsz2 H3 HS3
    go_wp2_with fail
    go_roundw
    case rel=>
     have h1:=HS.out.2.2.2.1
     have h2:=HS.out.2.2.2.2
     exact⟨fs++[g],by simp;omega,by rw[List.length_append,←h2];go_num,HS.out.2.2.1,HG.out.1,HG.out.2.1,HG.out.2.2⟩
    case measure=>have:=HS.out.2.2.2.1;have:=HS.out.2.2.2.2;simp[intOf];omega
  ·have hM:fs.length=M:=by omega
   have hlt':¬(fs.length:Int)<M:=by omega
   have EN:=Lib.hid (hAt.toQ.zee 1 (by omega) (hI.busy (by have:=HMM.out;omega) (by rw[HO.out.zone.1];exact(jv 2 1).1)) (by omega))
   obtain⟨bb,off,cc,e9,_,_,hx⟩:=SlAt.cells hSl (by simp only[inL,List.length_map];have:=HMM.out;omega)
   subst e9
   rw[hM]at hSl hown hAt
   have HS:=Lib.hid (And.intro hSl (And.intro hown (And.intro hI (And.intro hM hx))))
   have HA:=Lib.hid hAt
   rw[hM]at hlt'⊢
   unfold ptrV at EN
   clear hSl hown hI hAt hlt hl hM hx
   go_wp2_with fail
   refine EN.out.mono ?_
   rintro e u ⟨rfl,hu⟩
   have hu:=hu.symm
   subst hu
   clear EN hlt'
   go_wp2_with fail
   obtain⟨wo,hwo⟩:∃wo:World,wo=wr:=⟨_,rfl⟩
   have HA2:Hid (AtB w (ownL (.slice (some ⟨bb,off,none⟩) M cc)) wo q (y.Zx (y.P.pins fs 0)) wr∧∀(j:Nat) f,fs[j]?=some f→wo.cell? ⟨bb,off+j,none⟩=some (.int .i64 (f:Nat))):=by
    rw[hwo]
    exact⟨HA.out,fun j f hj=>(HS.out.2.2.2.2 j _ (by simp[inL,hj])).1⟩
   clear HA hwo
   go_loopw [13] (fun iv W=>∃j:Nat,j≤M∧iv=.int .i64 j∧AtB w (ownL (.slice (some ⟨bb,off,none⟩) M cc)) wo q (y.Zx (y.P.pins fs j)) W) (fun iv _=>M-(intOf iv).toNat)
   case atStart=>exact⟨0,by omega,rfl,HA2.out.1⟩
   case round=>
    obtain⟨j,hj,rfl,hat⟩:=hrel
    by_cases hlt:j<M
    ·have hlt':(j:Int)<M:=by omega
     have hj25:(j:Int)<25:=by have:=HMM.out;omega
     have i0:(0:Int)≤j:=by omega
     obtain⟨f,hjf⟩:∃f,fs[j]?=some f:=⟨fs[j]'(by rw[HS.out.2.2.2.1];exact hlt),List.getElem?_eq_getElem _⟩
     have hf:=(HS.out.2.2.1.sec f (List.mem_of_getElem? hjf)).2.1
     have cj:wr.cell? ⟨bb,off+j,none⟩=some (.int .i64 f):=(World.cell?_of_block (a:=⟨bb,off+j,none⟩) (hat.same (qx.2 rfl))).trans (HA2.out.2 j f hjf)
     have c2:wr.cell? ⟨q.sp,2,none⟩=some (.pointer (some ⟨q.pp,0,none⟩)):=hat.cell (i:=2) (by omega)
     have FR:=Lib.hid ((hat.below (Below.refl _ _).drew).free f (by omega))
     have e9:(y.Zx (y.P.pins fs j)).Zx ((y.Zx (y.P.pins fs j)).P.free f)=y.Zx (y.P.pins fs (j+1)):=by rw[←zhy HS.out.2.2.1.nd hjf (by omega)];rfl
     rw[e9]at FR
     have HJ:=Lib.hid (And.intro hj hlt)
     have HC:=Lib.hid (HA2.out.2 j f hjf)
     clear e9 hat hf hjf hj hlt
     go_wp2_with fail
     go_region_held (fun X=>X.cell? ⟨q.sp,2,none⟩=some (.pointer (some ⟨q.pp,0,none⟩))∧X.cell? ⟨bb,off+j,none⟩=some (.int .i64 f)) (go_keep)
      ((go_at_call 44;refine FR.out.mono ?_;rintro r w4 ⟨⟨bo,rfl⟩,hS⟩;have m0:w4.cell? ⟨q.sp,2,none⟩=some (.pointer (some ⟨q.pp,0,none⟩)):=hS.cell (i:=2) (by omega);have m1:w4.cell? ⟨bb,off+j,none⟩=some (.int .i64 f):=(World.cell?_of_block (a:=⟨bb,off+j,none⟩) (hS.same (qx.2 rfl))).trans HC.out;have HS4:=Lib.hid hS;clear hS FR))
     clear m0 m1
     go_wp2_with fail
     go_roundw
     case rel=>exact⟨j+1,by have:=HJ.out.2;omega,by have:=HJ.out;have:=HMM.out;go_num,HS4.out⟩
     case measure=>have:=HJ.out.2;simp[intOf];omega
    ·obtain rfl:M=j:=by omega
     have hlt':¬(M:Int)<M:=by omega
     have EM:Hid (Calls Tryz.prog 42 #[ptrV q.sp,.int .i64 1] wr fun e w'=>e=.returned (.int .i64 0)∧AtQ w [] q z w'):=by
      have:=hat.toQ
      rw[←HS.out.2.2.2.1,HS.out.2.2.1.done]at this
      exact this.empty HM.out
     clear hat hj hlt HS HA2
     unfold ptrV at EM
     go_wp2_with fail
     refine EM.out.mono ?_
     rintro e w5 ⟨rfl,h5⟩
     have c2:w5.cell? ⟨q.sp,2,none⟩=some (.pointer (some ⟨q.pp,0,none⟩)):=h5.cell (i:=2) (by omega)
     have hz:z.P.zone 1=3:=by rw[HM.out.zone];exact(jv 2 1).1
     have OF:=Lib.hid (h5.znx 1 (by omega) (by rw[hz];decide) (by rw[zcx (u:=1) fun i hi=>HM.out.use (32*1+i) (by omega) (by omega),Uu (u:=6) fun i hi=>by rw[HM.out.use (32*1+i) (by omega) (by omega)];decide]))
     clear h5 EM hz hlt'
     go_wp2_with fail
     refine OF.out.mono ?_
     rintro e w6 ⟨rfl,h6⟩
     have LD:Hid (Calls Tryz.prog 20 #[.pointer (some ⟨q.sp,0,none⟩),.int .i64 0,.int .i64 0,.int .i64 n] w6 fun e w'=>∃v,e=.returned (.tuple #[v,.int .i64 0])∧AtQ w [(v,bys b)] q (z.Zx (z.P.offN 1 32)) w'):=by
      have ok:=(HM.out.okz.pool (z.P.offN 1 32) fun g=>by
       unfold zk.offN
       dsimp only
       by_cases c:32*1≤g∧g<32*1+32
       ·rw[if_pos c,HM.out.use g (by omega) (by omega)];exact .inr ⟨by decide,by decide⟩
       ·rw[if_neg c];exact .inl rfl).1
      obtain⟨k1,k2,k3,_⟩:=HM.out.ent
      obtain⟨f9,e9,_,_,_,hb9⟩:=HM.out.okz.ok.frame (n:=0) (page:=0) (by omega) (by omega) k1
      have ef:f9=to:=by rw[k2]at e9;omega
      rw[ef]at hb9
      obtain⟨pr,hp,ha⟩:=HM.out.area
      have:=h6.loadW (x:=z.Zx (z.P.offN 1 32)) ok.ok.wf 0 0 (by omega) hp (by omega) ha (f:=to) ⟨k1,k2,k3,hb9⟩ (a0:=0) (s:=n) rfl (by omega) (by omega)
      rw[show(((z.Zx (z.P.offN 1 32)).R.read to 0 64).drop (0%64)).take n=b from by rw[←HB.out.2];exact HM.out.bytes]at this
      exact this
     clear OF c2 h6
     go_wp2_with fail
     refine LD.out.mono ?_
     rintro e w7 ⟨v,rfl,h7⟩
     have H7:=Lib.hid h7
     clear h7 LD
     go_wp2_with fail
     refine(Zw w7).mono ?_
     rintro e w8 ⟨rfl,hb⟩
     have H8:=Lib.hid (H7.out.below hb)
     clear hb H7
     have SM:=Lib.hid (zmh w8 v _ b (H8.out.get (List.mem_cons_self ..)) (SlRd.below HB.out.1 H8.out.bel) (by rw[HB.out.2];omega))
     go_wp2_with fail
     refine SM.out.mono ?_
     rintro e w9 ⟨rfl,hb⟩
     have H9:=Lib.hid (H8.out.below hb)
     clear hb H8
     have c2:w9.cell? ⟨q.sp,2,none⟩=some (.pointer (some ⟨q.pp,0,none⟩)):=H9.out.cell (i:=2) (by omega)
     have ZN:=Lib.hid (H9.out.zone 1 (by omega))
     go_wp2_with fail
     refine ZN.out.mono ?_
     rintro e u ⟨rfl,hu⟩
     have hu:=hu.symm
     subst hu
     rw[show(z.Zx (z.P.offN 1 32)).P.zone 1=0 from rfl]
     go_wp2_with fail
     go_ret
     exact⟨rfl,H9.out.bel⟩
theorem zf3(p:Int)(vb:Value)(b:List UInt8)(w:World)(hp:(Lit.int .u8 p).wf=true)(hb:SlRd w 1 vb b.length (b.flatMap byL))(_:∀x∈b,AnyB x):
  Calls Tryz.prog 11 #[.int .u8 p,vb] w fun e w'=>e=.returned (.bool true)∧Below w.heap.size w w':=by
 have hp0:0≤p∧p≤255:=by simp[Lit.wf]at hp;exact⟨hp.1,hp.2⟩
 obtain⟨p,rfl⟩:=Int.eq_ofNat_of_zero_le hp0.1
 by_cases hok:b.length≤64∧b.length≠0
 ·exact zdt p (by omega) vb b w (BRd.of_law hb) hok
 ·obtain⟨aa,ac,rfl,h1,h2⟩:=SlRd.form hb
  obtain⟨n,hn⟩:∃n,n=b.length:=⟨_,rfl⟩
  rw[←hn]at hok h1⊢
  have hc1:n≤maxLen:=by omega
  have hs:(n=0)∨(n≠0∧64<n):=by omega
  clear hb hn hok hp hp0
  rcases hs with rfl|⟨h5,h6⟩
  ·go_enter Tryz.func11,Tryz.ntmps11
   go_wp2_with fail
   refine(Zw w).mono ?_
   rintro e w1 ⟨rfl,hb⟩
   have HB:=Lib.hid hb
   clear hb
   go_wp2_with fail
   go_ret
   exact⟨rfl,HB.out⟩
  ·have e1:¬((n:Int)=0):=by omega
   have e2:((n:Int)==0)=false:=beq_eq_false_iff_ne.2 e1
   have e3:(64:Int)<n:=by omega
   go_enter Tryz.func11,Tryz.ntmps11
   go_wp2_with fail
   refine(Zw w).mono ?_
   rintro e w1 ⟨rfl,hb⟩
   have HB:=Lib.hid hb
   clear hb
   go_wp2_with fail
   go_ret
   exact⟨rfl,HB.out⟩
end Go.Proofs.YtnhdmnijiphjjaaGreat
