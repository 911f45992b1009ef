/- A slice of flat structs among a law's arguments, as one that can be read. No program in it. -/
import Derived.Test.YtnhdmnijiphjjaaGreatJFz23
import Derived.Test.YtnhdmnijiphjjaaGreatJFz9
import Derived.Test.YtnhdmnijiphjjaaGreatJFz20
import Derived.Test.YtnhdmnijiphjjaaGreatJFz21
import Derived.Test.YtnhdmnijiphjjaaGreatJFz1
import Derived.Test.YtnhdmnijiphjjaaGreatJFz16
import Derived.Test.YtnhdmnijiphjjaaGreatJFz22
set_option linter.unusedVariables false
set_option linter.unusedSimpArgs false
set_option maxRecDepth 100000
set_option maxHeartbeats 2000000
namespace Go.Proofs.YtnhdmnijiphjjaaGreat.Open
open Go Go.ChangeShapes Go.WideShapes Go.RowKit Go.Deep
theorem zd7{P:Program}{w:World}{r:Reach}{base:Nat}{t e:TypeId}{x:Addr}{len cap:Nat}(ht:P.underlying t=some (.slice e))(h:Value.okWide P w r base t (.slice (some x) len cap)):x.spot=none∧x.block<w.heap.size:=by
 simp only[Value.okWide,ht,Cell.okWide,Cell.ok]at h
 obtain⟨_,_,_,hs,row,cells,hsh,_⟩:=h
 refine⟨hs,?_⟩
 unfold World.shape? at hsh
 by_cases hb:x.block<w.heap.size
 ·exact hb
 ·rw[Array.getElem?_eq_none (by omega)]at hsh
  simp at hsh
theorem flat_get{α:Type}{enc:α→List Value}{k:Nat}(hk:∀x,(enc x).length=k)(hk0:0<k){z:List α}{j:Nat}{u:Value}(h:(z.flatMap enc)[j]?=some u):∃x,z[j/k]?=some x∧(enc x)[j%k]?=some u:=by
 induction z generalizing j with
 | nil=>simp at h
 | cons y z ih=>
  rw[List.flatMap_cons]at h
  by_cases hj:j<k
  ·rw[List.getElem?_append_left (by rw[hk];exact hj)]at h
   exact⟨y,by simp[Nat.div_eq_of_lt hj],by rw[Nat.mod_eq_of_lt hj];exact h⟩
  ·rw[List.getElem?_append_right (by rw[hk];omega),hk]at h
   obtain⟨x,h1,h2⟩:=ih h
   have e:j/k=(j-k)/k+1:=by rw[Nat.div_eq_sub_div hk0 (by omega)]
   have e2:j%k=(j-k)%k:=by rw[Nat.mod_eq_sub_mod (by omega)]
   exact⟨x,by rw[e];simpa using h1,by rw[e2];exact h2⟩
theorem zdx{H:Type}{enc:TypeId×Value→H}{P:Program}{w:World}{base:Nat}{spare:Nat→Bool}{held:Bool}{α:Type}[Inhabited α]{encα:α→List Value}{k:Nat}{t e:TypeId}{a:Option Addr}{len cap:Nat}{d:DataW H}{p:List MemPlace}{l:List Leaf}{r:Reach}{b0:Nat}(P2:α→Prop)
  (ht:P.underlying t=some (.slice e)) (hl:Xu P 10 e=some l) (hk:P.cellsOf e=k) (hk0:0<k) (hek:∀x,(encα x).length=k) (dec:∀cs,X3 l cs→∃x,cs=encα x∧P2 x)
  (hv:Value.okWide P w r b0 t (.slice a len cap)) (h:DataW.Trod enc P w base spare held t (.slice a len cap) d p):∃z:List α,z.length=len∧SlRd w k (.slice a len cap) len (z.flatMap encα)∧∀x∈z,P2 x:=by
 obtain⟨z,⟨h1,h2,h3,h4⟩,h5⟩:=zhy (encα:=encα) (k:=k) P2 ht hl hk hk0 dec h
 refine⟨z,h1,⟨?_,?_⟩,h5⟩
 ·rw[←h1]
  clear h1 h4 h5
  induction z with
  | nil=>simp
  | cons x z ih=>rw[List.flatMap_cons,List.length_append,ih,hek,List.length_cons];rw[Nat.add_mul];omega
 ·cases a with
  | none=>
   left
   simp only[Value.okWide,ht,Cell.okWide]at hv
   cases len<;>cases cap<;>simp_all [Cell.ok]
  | some x=>
   right
   obtain⟨b,off,sp⟩:=x
   obtain⟨hs,hb⟩:=zd7 ht hv
   obtain rfl:sp=none:=hs
   refine⟨b,off,cap,rfl,h2,h3,hb,fun j u hu=>?_⟩
   obtain⟨y,hy1,hy2⟩:=flat_get hek hk0 hu
   have hi:j/k<len:=by rw[←h1];exact(List.getElem?_eq_some_iff.1 hy1).1
   obtain⟨b',off',e,_,hc⟩:=h4 (j/k) hi
   cases e
   have:=hc y hy1 (j%k) u hy2
   rw[show j/k*k+j%k=j by rw[Nat.mul_comm];exact Nat.div_add_mod j k]at this
   exact this
end Go.Proofs.YtnhdmnijiphjjaaGreat.Open
namespace Go.Proofs.YtnhdmnijiphjjaaGreat
open Go Go.RowKit
def byL(x:UInt8):List Value:=[bV x]
theorem zem(x:UInt8):(byL x).length=1:=rfl
def AnyB(_:UInt8):Prop:=True
theorem zoi(cs:List Value)(h:Open.X3 [some .u8] cs):∃x,cs=byL x∧AnyB x:=by
 have hlen:=h.length
 rcases cs with _|⟨c,_|⟨d,cs⟩⟩<;>simp at hlen
 obtain⟨⟨n,rfl,hn⟩,_⟩:=h
 simp[Lit.wf]at hn
 have h0:0≤n:=hn.1
 have h1:n≤255:=hn.2
 obtain⟨k,rfl⟩:=Int.eq_ofNat_of_zero_le h0
 refine⟨UInt8.ofNat k,?_,trivial⟩
 unfold byL bV
 have:(UInt8.ofNat k).toNat=k:=by simp;omega
 rw[this]
theorem BRd.of_law{w:World}{v:Value}{z:List UInt8}(h:SlRd w 1 v z.length (z.flatMap byL)):BRd w v z:=by
 have:∀z:List UInt8,z.flatMap byL=z.map bV:=fun z=>by
  induction z with
  | nil=>rfl
  | cons a z ih=>rw[List.flatMap_cons,List.map_cons,ih];rfl
 rw[this]at h
 exact h
def arF(kd:Int):Ar:=⟨3,3,true,kd,0,0⟩
theorem Jr(kd:Int)(h:kd=1∨kd=2∨kd=3):(arF kd).xe∧(arF kd).Wf:=by
 rcases h with rfl|rfl|rfl<;>exact⟨by decide,by unfold Ar.Wf;decide⟩
def arFc(kd:Int):List Value:=[.int .i64 3,.int .i64 3,.bool true,.int .i64 kd,.int .i64 0,.int .i64 0]
theorem zda{w0 w:World}{V:List (Value×List Value)}{sp r:Nat}{X:Abs}(h:At w0 V sp X r w){sb:Nat}{kd:Int}(hin:(.slice (some ⟨sb,0,none⟩) 6 6,arFc kd)∈V):
  w.cell? ⟨sb,0,none⟩=some (.int .i64 3)∧w.cell? ⟨sb,1,none⟩=some (.int .i64 3)∧w.cell? ⟨sb,2,none⟩=some (.bool true)∧w.cell? ⟨sb,3,none⟩=some (.int .i64 kd)∧w.cell? ⟨sb,4,none⟩=some (.int .i64 0)∧w.cell? ⟨sb,5,none⟩=some (.int .i64 0):=by
 obtain⟨b,off,c,he,_,_,hx⟩:=SlRd.cells (h.kept hin) (by show 0<6;omega)
 cases he
 exact⟨hx 0 _ rfl,hx 1 _ rfl,hx 2 _ rfl,hx 3 _ rfl,hx 4 _ rfl,hx 5 _ rfl⟩
section
variable {X Y:Abs}{a:Ar}{n m p a0 s:Nat}{l:List UInt8}
theorem zns{n':Nat}(h:∀p,p=a0/64∨p=a0/64+1→Y.ct a n' p=X.ct a n p):Y.rd a n' a0 s=X.rd a n a0 s:=by
 unfold Abs.rd
 rw[h _ (.inl rfl),h _ (.inr rfl)]
theorem zi8:(X.fork n m).ct a n p=X.ct a n p:=by
 refine Vh ?_ rfl
 show(if n=m then X.pv n p else X.pv n p)=X.pv n p
 split<;>rfl
theorem zk6:(X.fork n m).ct a m p=X.ct a n p:=by
 have:(X.fork n m).pv m p=X.pv n p:=if_pos rfl
 unfold Abs.ct
 rw[this]
 rfl
theorem PgOk.fork1(h:PgOk X a n p)(hnm:n≠m):PgOk (X.fork n m) a n p:=by
 have e1:(X.fork n m).pv n p=X.pv n p:=if_neg hnm
 have e2:(X.fork n m).A n=X.A n:=if_neg hnm
 exact⟨by unfold Abs.area;rw[e2];exact h.area,by rw[e1];exact h.there,fun k=>by rw[e1];exact h.shared k,by rw[zi8];exact h.len⟩
theorem PgOk.fork2(h:PgOk X a n p):PgOk (X.fork n m) a m p:=by
 have e1:(X.fork n m).pv m p=X.pv n p:=if_pos rfl
 have e2:(X.fork n m).A m=(X.A n).map fun p=>(p.1,[]):=if_pos rfl
 refine⟨?_,by rw[e1];exact h.there,fun k=>by rw[e1];exact h.shared k,by rw[zk6];exact h.len⟩
 have:=h.area
 unfold Abs.area at this⊢
 rw[e2]
 cases hq:X.A n with
 | none=>rw[hq]at this;cases this
 | some z=>rw[hq]at this;exact this
theorem zdr(hk:a.kind≠2)(hnm:n≠m):(X.st a m a0 l).ct a n p=X.ct a n p:=by
 have o:∀(Z:Abs) (q:Nat),(Z.own a m q).ct a n p=Z.ct a n p:=fun Z q=>Vh (by
  unfold Abs.own;split
  ·rfl
  ·exact if_neg fun z=>hnm z.1) (by unfold Abs.own;split<;>rfl)
 have wr:∀(Z:Abs) (q at_:Nat) (b:List UInt8),(Z.write a m q at_ b).ct a n p=Z.ct a n p:=fun Z q at_ b=>Vh (by
  unfold Abs.write;split
  ·rfl
  ·exact if_neg fun z=>hnm z.1) (by unfold Abs.write;rw[if_neg hk];rfl)
 unfold Abs.st
 split
 ·rw[wr,o]
 ·rw[wr,wr,o,o]
theorem zdq(_:a.kind≠2)(hnm:n≠m):(X.st a m a0 l).pv n p=X.pv n p:=by
 have o:∀(Z:Abs) (q:Nat),(Z.own a m q).pv n p=Z.pv n p:=fun Z q=>by
  unfold Abs.own;split
  ·rfl
  ·exact if_neg fun z=>hnm z.1
 have wr:∀(Z:Abs) (q at_:Nat) (b:List UInt8),(Z.write a m q at_ b).pv n p=Z.pv n p:=fun Z q at_ b=>by
  unfold Abs.write;split
  ·rfl
  ·exact if_neg fun z=>hnm z.1
 unfold Abs.st
 split
 ·rw[wr,o]
 ·rw[wr,wr,o,o]
theorem ct_two(h1:X.pv n p=.file)(h2:X.pv m p=.file):X.ct a n p=X.ct a m p:=by rw[Jm h1,Jm h2]
theorem Ug(hk:a.kind=2)(h:X.pv n p=.file):(X.st a m a0 l).pv n p=.file:=by
 have o:∀(Z:Abs) (q:Nat),(Z.own a m q).pv n p=Z.pv n p:=fun Z q=>by unfold Abs.own;rw[if_pos hk];rfl
 have wr:∀(Z:Abs) (q at_:Nat) (b:List UInt8),(Z.write a m q at_ b).pv n p=Z.pv n p:=fun Z q at_ b=>by unfold Abs.write;rw[if_pos hk];rfl
 unfold Abs.st
 split
 ·rw[wr,o];exact h
 ·rw[wr,wr,o,o];exact h
end
set_option maxHeartbeats 4000000 in
theorem zga(va:Value)(a:List UInt8)(vb:Value)(b:List UInt8)(at_ kn:Nat)(hat:at_<256)(hkn:kn<256)(w:World)(ha0:BRd w va a)(hb0:BRd w vb b)(hlen:a.length≤60∧a.length≠0∧b.length=a.length):
  Calls Tryz.prog 13 #[va,vb,.int .u8 at_,.int .u8 kn] w fun e w'=>e=.returned (.bool true)∧Below w.heap.size w w':=by
 obtain⟨aa,ac,rfl,hc1,hc2⟩:=SlRd.form ha0
 obtain⟨ba,bc,rfl,hc3,hc4⟩:=SlRd.form hb0
 obtain⟨n,hn⟩:∃n,n=a.length:=⟨_,rfl⟩
 obtain⟨hl1,hl2,hl3⟩:=hlen
 rw[hl3]at hc3⊢
 rw[←hn]at hl1 hl2 hc1 hc3⊢
 have HA:Hid (BRd w (.slice aa n ac) a∧a.length=n∧b.length=n∧BRd w (.slice ba n bc) b):=⟨by rw[hn];exact ha0,hn.symm,by rw[hl3,hn],by rw[hn,←hl3];exact hb0⟩
 have hcap:n≤maxLen:=by omega
 clear ha0 hb0 hl3 hn hc1 hc2 hc3 hc4
 obtain⟨k,hk⟩:∃k,k=at_%64:=⟨_,rfl⟩
 obtain⟨j,hj⟩:∃j,j=kn%3:=⟨_,rfl⟩
 have hk64:k<64:=by omega
 have hj3:j<3:=by omega
 have hmod:=Lib.hid (show(at_:Int)%64=k by omega)
 have hmod2:=Lib.hid (show(kn:Int)%3=j by omega)
 have hm0:0≤(at_:Int)%64:=by omega
 have hm1:(at_:Int)%64<64:=by omega
 have hm2:0≤(kn:Int)%3:=by omega
 have hm3:(kn:Int)%3<3:=by omega
 have hp0:(at_:Int)<256:=by omega
 have hp1:(kn:Int)<256:=by omega
 have hn0:(n==0)=false:=beq_eq_false_iff_ne.2 hl2
 have hn1:¬((n:Int)=0):=by omega
 have hn2:((n:Int)==0)=false:=beq_eq_false_iff_ne.2 hn1
 have hn64:¬(60:Int)<n:=by omega
 clear hk hj
 go_enter Tryz.func13,Tryz.ntmps13
 go_wp2_with fail
 refine(At.fresh w 4 4 (by omega) (by omega)).mono ?_
 rintro e w1 ⟨sp,wp,file,cur,rfl,h1⟩
 have H1:=Lib.hid (h1.less (r':=50+1) (by omega))
 clear h1
 unfold ptrV at *
 go_wp2_with fail
 rw[hmod.out,hmod2.out]
 clear hmod hm0 hm1 hp0 hat hmod2 hm2 hm3 hp1 hkn
 obtain⟨kd,hkd⟩:∃kd,kd=1+(j:Int):=⟨_,rfl⟩
 have hk3:=Lib.hid (show kd=1∨kd=2∨kd=3 by omega)
 rw[←hkd]
 clear hkd hj3
 have hb2:Below w1.heap.size w1 (w1.alloc (.cells #[.int .i64 3,.int .i64 3,.bool true,.int .i64 kd,.int .i64 0,.int .i64 0] 32)):=(Below.refl _ _).alloc (Nat.le_refl _) _
 have hv2:SlRd (w1.alloc (.cells #[.int .i64 3,.int .i64 3,.bool true,.int .i64 kd,.int .i64 0,.int .i64 0] 32)) 1 (.slice (some ⟨w1.heap.size,0,none⟩) 6 6) (arFc kd).length (arFc kd):=by
  refine⟨rfl,.inr ⟨w1.heap.size,0,6,rfl,Nat.le_refl _,by decide,by simp,fun u v hu=>?_⟩⟩
  rw[Nat.zero_add,zbg,←hu,←Array.getElem?_toList]
  rfl
 have h2:=H1.out.cells hb2 hv2 fun b hb=>.inr (by simp[Value.ownBlock]at hb;omega)
 obtain⟨sb,hsb⟩:∃sb,sb=w1.heap.size:=⟨_,rfl⟩
 obtain⟨W,hW⟩:∃W,W=w1.alloc (.cells #[.int .i64 3,.int .i64 3,.bool true,.int .i64 kd,.int .i64 0,.int .i64 0] 32):=⟨_,rfl⟩
 rw[←hW,←hsb]at h2
 rw[←hW,←hsb]
 have H2:Hid (At w [(.slice (some ⟨sb,0,none⟩) 6 6,arFc kd)] sp (.start file cur) (50+1) W):=Lib.hid h2
 clear hb2 hv2 h2 hsb hW H1
 refine(At.spawn H2.out 0 (by omega) rfl).mono ?_
 rintro e w3 ⟨rfl,h3⟩
 obtain⟨c0,c1,c2,c3,c4,c5⟩:=zda h3 (List.mem_cons_self ..)
 have H3:=Lib.hid h3
 clear h3 H2
 go_wp2_with fail
 refine(At.map H3.out 0 (A:=[]) (Q:=[]) rfl (arF kd) (Jr kd hk3.out).1 (Jr kd hk3.out).2 rfl (by simp)).mono ?_
 rintro e w4 ⟨rfl,h4⟩
 rw[V3]at h4
 have hP:∀p,3≤p→p<6→PgOk (((Abs.start file cur).spawn 0).map 0 (arF kd) [arF kd]) (arF kd) 0 p:=fun p p1 p2=>PgOk.new (fun q hq=>H3.out.zbq hq) (Q:=[]) rfl (Jr kd hk3.out).1 (by unfold Ar.Has arF;dsimp only;omega) (by omega)
 have hX:(((Abs.start file cur).spawn 0).map 0 (arF kd) [arF kd]).A 0=some ([arF kd],[]):=rfl
 have hX5:(((Abs.start file cur).spawn 0).map 0 (arF kd) [arF kd]).A 5=none:=rfl
 generalize ((Abs.start file cur).spawn 0).map 0 (arF kd) [arF kd]=X4 at h4 hP hX hX5
 have H4:Hid (At w [(.slice (some ⟨sb,0,none⟩) 6 6,arFc kd)] sp X4 (40+10) w4∧X4.A 0=some ([arF kd],[])∧X4.A 5=none∧∀p,3≤p→p<6→PgOk X4 (arF kd) 0 p):=Lib.hid ⟨h4,hX,hX5,hP⟩
 clear h4 hP hX hX5 H3 c0 c1 c2 c3 c4 c5
 go_wp2_with fail
 rw[show(192:Int)+(k:Int)=((192+k:Nat):Int)by omega]
 refine(At.zm7 H4.out.1 0 (a0:=192+k) (H4.out.1.arg HA.out.1) (by rw[HA.out.2.1];omega) (by rw[HA.out.2.1];omega) (by rw[HA.out.2.1];omega) (by omega) (H4.out.2.2.2 _ (by omega) (by omega)).can (fun z=>(H4.out.2.2.2 _ (by omega) (by rw[HA.out.2.1]at z;omega)).can) rfl).mono ?_
 rintro e w5 ⟨rfl,h5⟩
 have hP:∀p,3≤p→p<6→PgOk (X4.st (arF kd) 0 (192+k) a) (arF kd) 0 p:=fun p p1 p2=>(H4.out.2.2.2 p p1 p2).st (by rw[HA.out.2.1];omega)
 have hX:(X4.st (arF kd) 0 (192+k) a).A=X4.A:=st_A
 have hrd:(X4.st (arF kd) 0 (192+k) a).rd (arF kd) 0 (192+k) n=a:=by
  rw[←HA.out.2.1]
  exact st_rd (H4.out.2.2.2 _ (by omega) (by omega)) (fun z=>H4.out.2.2.2 _ (by omega) (by rw[HA.out.2.1]at z;omega)) (by rw[HA.out.2.1];omega)
 generalize X4.st (arF kd) 0 (192+k) a=X5 at h5 hP hX hrd
 have H5:Hid (At w [(.slice (some ⟨sb,0,none⟩) 6 6,arFc kd)] sp X5 (30+(1+3*3)) w5∧X5.A 0=some ([arF kd],[])∧X5.A 5=none∧(∀p,3≤p→p<6→PgOk X5 (arF kd) 0 p)∧X5.rd (arF kd) 0 (192+k) n=a):=Lib.hid ⟨h5,by rw[hX];exact H4.out.2.1,by rw[hX];exact H4.out.2.2.1,hP,hrd⟩
 clear h5 hP hX hrd H4
 go_wp2_with fail
 refine(At.fork H5.out.1 0 5 H5.out.2.1 (by omega) H5.out.2.2.1 (by simp[yc,X8,arF])).mono ?_
 rintro e w6 ⟨rfl,h6⟩
 have hP0:∀p,3≤p→p<6→PgOk (X5.fork 0 5) (arF kd) 0 p:=fun p p1 p2=>(H5.out.2.2.2.1 p p1 p2).fork1 (by omega)
 have hP5:∀p,3≤p→p<6→PgOk (X5.fork 0 5) (arF kd) 5 p:=fun p p1 p2=>(H5.out.2.2.2.1 p p1 p2).fork2
 have hrd:(X5.fork 0 5).rd (arF kd) 0 (192+k) n=a:=(zns fun p _=>zi8).trans H5.out.2.2.2.2
 generalize X5.fork 0 5=X6 at h6 hP0 hP5 hrd
 have H6:Hid (At w [(.slice (some ⟨sb,0,none⟩) 6 6,arFc kd)] sp X6 (20+10) w6∧(∀p,3≤p→p<6→PgOk X6 (arF kd) 0 p)∧(∀p,3≤p→p<6→PgOk X6 (arF kd) 5 p)∧X6.rd (arF kd) 0 (192+k) n=a):=Lib.hid ⟨h6,hP0,hP5,hrd⟩
 clear h6 hP0 hP5 hrd H5
 go_wp2_with fail
 rw[show(192:Int)+(k:Int)=((192+k:Nat):Int)by omega]
 refine(At.zm7 H6.out.1 5 (a0:=192+k) (H6.out.1.arg HA.out.2.2.2) (by rw[HA.out.2.2.1];omega) (by rw[HA.out.2.2.1];omega) (by rw[HA.out.2.2.1];omega) (by omega) (H6.out.2.2.1 _ (by omega) (by omega)).can (fun z=>(H6.out.2.2.1 _ (by omega) (by rw[HA.out.2.2.1]at z;omega)).can) rfl).mono ?_
 rintro e w7 ⟨rfl,h7⟩
 have hrd5:(X6.st (arF kd) 5 (192+k) b).rd (arF kd) 5 (192+k) n=b:=by
  rw[←HA.out.2.2.1]
  exact st_rd (H6.out.2.2.1 _ (by omega) (by omega)) (fun z=>H6.out.2.2.1 _ (by omega) (by rw[HA.out.2.2.1]at z;omega)) (by rw[HA.out.2.2.1];omega)
 have hP5:∀p,3≤p→p<6→PgOk (X6.st (arF kd) 5 (192+k) b) (arF kd) 5 p:=fun p p1 p2=>(H6.out.2.2.1 p p1 p2).st (by rw[HA.out.2.2.1];omega)
 have hC0:∀p,3≤p→p<6→xn (X6.st (arF kd) 5 (192+k) b) 0 p (arF kd):=fun p p1 p2=>by
  refine⟨by rw[znn];exact(H6.out.2.1 p p1 p2).area,?_⟩
  by_cases h2:kd=2
  ·rw[Ug h2 ((H6.out.2.1 p p1 p2).shared h2)];intro z;cases z
  ·rw[zdq h2 (by omega)];exact(H6.out.2.1 p p1 p2).there
 have hrd0:(X6.st (arF kd) 5 (192+k) b).rd (arF kd) 0 (192+k) n=if kd=2 then b else a:=by
  by_cases h2:kd=2
  ·rw[if_pos h2]
   refine(zns fun p hp=>?_).trans hrd5
   refine ct_two (Ug h2 ((H6.out.2.1 p ?_ ?_).shared h2)) (Ug h2 ((H6.out.2.2.1 p ?_ ?_).shared h2))<;>omega
  ·rw[if_neg h2]
   exact(zns fun p _=>zdr h2 (by omega)).trans H6.out.2.2.2
 generalize X6.st (arF kd) 5 (192+k) b=X7 at h7 hrd5 hP5 hC0 hrd0
 have H7:Hid (At w [(.slice (some ⟨sb,0,none⟩) 6 6,arFc kd)] sp X7 (10+10) w7∧(∀p,3≤p→p<6→PgOk X7 (arF kd) 5 p)∧(∀p,3≤p→p<6→xn X7 0 p (arF kd))∧X7.rd (arF kd) 5 (192+k) n=b∧X7.rd (arF kd) 0 (192+k) n=if kd=2 then b else a):=Lib.hid ⟨h7,hP5,hC0,hrd5,hrd0⟩
 clear h7 hP5 hC0 hrd5 hrd0 H6
 go_wp2_with fail
 rw[show(192:Int)+(k:Int)=((192+k:Nat):Int)by omega]
 refine(At.loadA H7.out.1 0 (a0:=192+k) (s:=n) (by omega) (by omega) (by omega) (by omega) (H7.out.2.2.1 _ (by omega) (by omega)) (fun z=>H7.out.2.2.1 _ (by omega) (by omega)) (l:=if kd=2 then b else a) H7.out.2.2.2.2).mono ?_
 rintro e w8 ⟨x,rfl,h8⟩
 have H8:Hid (At w [(x,bys (if kd=2 then b else a)),(.slice (some ⟨sb,0,none⟩) 6 6,arFc kd)] sp X7 (0+10) w8):=Lib.hid h8
 clear h8
 go_wp2_with fail
 rw[show(192:Int)+(k:Int)=((192+k:Nat):Int)by omega]
 refine(At.loadA H8.out 5 (a0:=192+k) (s:=n) (by omega) (by omega) (by omega) (by omega) (H7.out.2.1 _ (by omega) (by omega)).can (fun z=>(H7.out.2.1 _ (by omega) (by omega)).can) (l:=b) H7.out.2.2.2.1).mono ?_
 rintro e w9 ⟨y,rfl,h9⟩
 obtain⟨c0,c1,c2,c3,c4,c5⟩:=zda h9 (List.mem_cons_of_mem _ (List.mem_cons_of_mem _ (List.mem_cons_self ..)))
 have H9:Hid (At w [(y,bys b),(x,bys (if kd=2 then b else a)),(.slice (some ⟨sb,0,none⟩) 6 6,arFc kd)] sp X7 0 w9):=Lib.hid h9
 clear h9 H8 H7
 obtain⟨u,l,hu,hx,huw,hln⟩:∃u l,u=(if kd=2 then Value.slice ba n bc else .slice aa n ac)∧l=(if kd=2 then b else a)∧BRd w u l∧l.length=n:=by
  refine⟨_,_,rfl,rfl,?_⟩
  split
  ·exact⟨HA.out.2.2.2,HA.out.2.2.1⟩
  ·exact⟨HA.out.1,HA.out.2.1⟩
 rw[←hx]at H9
 have HU:=Lib.hid (And.intro huw hln)
 clear hx huw hln
 by_cases h2:kd=2
 ·rw[if_pos h2]at hu
  subst hu
  have e2:(kd==2)=true:=beq_iff_eq.2 h2
  clear hk3
  go_wp2_with fail
  refine(ug w9).mono ?_
  rintro e w10 ⟨rfl,hb⟩
  have H10:=Lib.hid (H9.out.below hb)
  clear hb H9 c0 c1 c2 c3 c4 c5
  go_wp2_with fail
  refine(Ua w10 x _ l (H10.out.get (by simp)) (SlRd.below HU.out.1 H10.out.bel) (by rw[HU.out.2];omega)).mono ?_
  rintro e w11 ⟨rfl,hb⟩
  have H11:=Lib.hid (H10.out.below hb)
  clear hb H10
  go_wp2_with fail
  refine(Ua w11 y _ b (H11.out.get (by simp)) (SlRd.below HA.out.2.2.2 H11.out.bel) (by rw[HA.out.2.2.1];omega)).mono ?_
  rintro e w12 ⟨rfl,hb⟩
  have H12:=Lib.hid (H11.out.below hb)
  clear hb H11
  go_wp2_with fail
  go_ret
  exact⟨rfl,H12.out.bel⟩
 ·rw[if_neg h2]at hu
  subst hu
  have e2:(kd==2)=false:=beq_eq_false_iff_ne.2 h2
  clear hk3
  go_wp2_with fail
  refine(ug w9).mono ?_
  rintro e w10 ⟨rfl,hb⟩
  have H10:=Lib.hid (H9.out.below hb)
  clear hb H9 c0 c1 c2 c3 c4 c5
  go_wp2_with fail
  refine(Ua w10 x _ l (H10.out.get (by simp)) (SlRd.below HU.out.1 H10.out.bel) (by rw[HU.out.2];omega)).mono ?_
  rintro e w11 ⟨rfl,hb⟩
  have H11:=Lib.hid (H10.out.below hb)
  clear hb H10
  go_wp2_with fail
  refine(Ua w11 y _ b (H11.out.get (by simp)) (SlRd.below HA.out.2.2.2 H11.out.bel) (by rw[HA.out.2.2.1];omega)).mono ?_
  rintro e w12 ⟨rfl,hb⟩
  have H12:=Lib.hid (H11.out.below hb)
  clear hb H11
  go_wp2_with fail
  go_ret
  exact⟨rfl,H12.out.bel⟩
theorem zhu(va:Value)(a:List UInt8)(vb:Value)(b:List UInt8)(p q:Int)(w:World)(ha:SlRd w 1 va a.length (a.flatMap byL))(_:∀x∈a,AnyB x)(hb:SlRd w 1 vb b.length (b.flatMap byL))(_:∀x∈b,AnyB x)(hp:(Lit.int .u8 p).wf=true)(hq:(Lit.int .u8 q).wf=true):
  Calls Tryz.prog 13 #[va,vb,.int .u8 p,.int .u8 q] w fun e w'=>e=.returned (.bool true)∧Below w.heap.size w w':=by
 have hp0:0≤p∧p≤255:=by simp[Lit.wf]at hp;exact⟨hp.1,hp.2⟩
 have hq0:0≤q∧q≤255:=by simp[Lit.wf]at hq;exact⟨hq.1,hq.2⟩
 obtain⟨p,rfl⟩:=Int.eq_ofNat_of_zero_le hp0.1
 obtain⟨q,rfl⟩:=Int.eq_ofNat_of_zero_le hq0.1
 by_cases hok:a.length≤60∧a.length≠0∧b.length=a.length
 ·exact zga va a vb b p q (by omega) (by omega) w (BRd.of_law ha) (BRd.of_law hb) hok
 ·obtain⟨aa,ac,rfl,h1,h2⟩:=SlRd.form ha
  obtain⟨ba,bc,rfl,h3,h4⟩:=SlRd.form hb
  obtain⟨n,hn⟩:∃n,n=a.length:=⟨_,rfl⟩
  obtain⟨m,hm⟩:∃m,m=b.length:=⟨_,rfl⟩
  rw[←hn]at hok h1⊢
  rw[←hm]at hok h3⊢
  have hc1:n≤maxLen:=by omega
  have hc2:m≤maxLen:=by omega
  have hs:(n=0)∨(n≠0∧60<n)∨(n≠0∧¬60<n∧m=0)∨(n≠0∧¬60<n∧m≠0∧60<m)∨(n≠0∧¬60<n∧m≠0∧¬60<m∧m≠n):=by omega
  clear ha hb hn hm hok hp hp0 hq hq0
  rcases hs with rfl|⟨h5,h6⟩|⟨h5,h6,rfl⟩|⟨h5,h6,h7,h8⟩|⟨h5,h6,h7,h8,h9⟩
  ·go_enter Tryz.func13,Tryz.ntmps13
   go_wp2_with fail
   refine(ug w).mono ?_
   rintro e w1 ⟨rfl,hb⟩
   have HB:=Lib.hid hb
   clear hb
   go_wp2_with fail
   go_ret
   exact⟨rfl,HB.out⟩
  ·have e1:¬((n:Int)=0):=by omega
   have e2:((n:Int)==0)=false:=beq_eq_false_iff_ne.2 e1
   have e3:(60:Int)<n:=by omega
   go_enter Tryz.func13,Tryz.ntmps13
   go_wp2_with fail
   refine(ug w).mono ?_
   rintro e w1 ⟨rfl,hb⟩
   have HB:=Lib.hid hb
   clear hb
   go_wp2_with fail
   go_ret
   exact⟨rfl,HB.out⟩
  ·have e1:¬((n:Int)=0):=by omega
   have e2:((n:Int)==0)=false:=beq_eq_false_iff_ne.2 e1
   have e3:¬(60:Int)<n:=by omega
   go_enter Tryz.func13,Tryz.ntmps13
   go_wp2_with fail
   refine(ug w).mono ?_
   rintro e w1 ⟨rfl,hb⟩
   have HB:=Lib.hid hb
   clear hb
   go_wp2_with fail
   go_ret
   exact⟨rfl,HB.out⟩
  ·have e1:¬((n:Int)=0):=by omega
   have e2:((n:Int)==0)=false:=beq_eq_false_iff_ne.2 e1
   have f1:¬((m:Int)=0):=by omega
   have f2:((m:Int)==0)=false:=beq_eq_false_iff_ne.2 f1
   have e3:¬(60:Int)<n:=by omega
   have f3:(60:Int)<m:=by omega
   go_enter Tryz.func13,Tryz.ntmps13
   go_wp2_with fail
   refine(ug w).mono ?_
   rintro e w1 ⟨rfl,hb⟩
   have HB:=Lib.hid hb
   clear hb
   go_wp2_with fail
   go_ret
   exact⟨rfl,HB.out⟩
  ·have e1:¬((n:Int)=0):=by omega
   have e2:((n:Int)==0)=false:=beq_eq_false_iff_ne.2 e1
   have f1:¬((m:Int)=0):=by omega
   have f2:((m:Int)==0)=false:=beq_eq_false_iff_ne.2 f1
   have e3:¬(60:Int)<n:=by omega
   have f3:¬(60:Int)<m:=by omega
   have e5:¬((n:Int)=(m:Int)):=by omega
   have e4:((n:Int)==(m:Int))=false:=beq_eq_false_iff_ne.2 e5
   go_enter Tryz.func13,Tryz.ntmps13
   go_wp2_with fail
   refine(ug w).mono ?_
   rintro e w1 ⟨rfl,hb⟩
   have HB:=Lib.hid hb
   clear hb
   go_wp2_with fail
   go_ret
   exact⟨rfl,HB.out⟩
def zo.Y8(P:zo)(s u j:Nat):Nat:=(List.range j).countP fun i=>decide (P.use (32*s+i)=u)
def zo.count(P:zo)(s u:Nat):Nat:=P.Y8 s u 32
theorem Qa(P:zo)(s u j:Nat):P.Y8 s u (j+1)=P.Y8 s u j+if P.use (32*s+j)=u then 1 else 0:=by
 unfold zo.Y8
 rw[List.range_succ,List.countP_append]
 by_cases h:P.use (32*s+j)=u<;>simp[h]
theorem zg2(P:zo)(s u j:Nat):P.Y8 s u j≤j:=by
 unfold zo.Y8
 have:=List.countP_le_length (p:=fun i=>decide (P.use (32*s+i)=u)) (l:=List.range j)
 simpa using this
theorem zhf(w:World)(O:Nat→Prop)(p fs fb:Nat)(P:zo)(h:yh w O p fs fb P)(s u:Nat)(hs:s<32):
  Calls Tryz.prog 50 #[.pointer (some ⟨p,0,none⟩),.int .i64 s,.int .i64 u] w fun e w'=>e=.returned (.int .i64 (P.count s u))∧w'=w:=by
 have F:=Lib.hid (Xa w s s rfl hs)
 have HU:Hid (∀f,f<1024→_):=fun f hf=>h.use (f:=f) hf
 clear h
 go_enter Tryz.func50,Tryz.ntmps50
 go_wp2_with fail
 refine F.out.mono ?_
 rintro e w1 ⟨rfl,hw⟩
 have hw:=hw.symm
 subst hw
 clear F
 go_wp2_with fail
 go_loopw [7,10] (fun nv fv W=>∃j:Nat,j≤32∧fv=.int .i64 ((32*s+j:Nat):Int)∧nv=.int .i64 (P.Y8 s u j)∧W=w) (fun _ fv _=>32*s+32-(intOf fv).toNat)
 case atStart=>exact⟨0,by omega,by go_num,rfl,rfl⟩
 case round=>
  obtain⟨j,hj,rfl,rfl,rfl⟩:=hrel
  have hc:=zg2 P s u j
  by_cases hlt:j<32
  ·have hlt':((32*s+j:Nat):Int)<((s:Int)+1)*32:=by omega
   have i0:(0:Int)≤((32*s+j:Nat):Int):=by omega
   have i1:((32*s+j:Nat):Int)<1024:=by omega
   have hcell:=HU.out (32*s+j) (by omega)
   by_cases hu:P.use (32*s+j)=u
   ·have e1:((P.use (32*s+j):Nat):Int)==(u:Int):=beq_iff_eq.2 (by rw[hu])
    have hsucc:=Lib.hid (Qa P s u j)
    have HUU:=Lib.hid hu
    clear hu
    go_wp2_with fail
    go_roundw
    case rel=>exact⟨j+1,by omega,by go_num,by rw[hsucc.out,if_pos HUU.out];go_num,trivial⟩
    case measure=>simp[intOf];omega
   ·have e1:(((P.use (32*s+j):Nat):Int)==(u:Int))=false:=beq_eq_false_iff_ne.2 (by omega)
    have e2:(((P.use (32*s+j):Nat):Int)=(u:Int))=False:=eq_false (by omega)
    have hsucc:=Lib.hid (Qa P s u j)
    have HUU:=Lib.hid hu
    clear hu
    go_wp2_with fail
    go_roundw
    case rel=>exact⟨j+1,by omega,by go_num,by rw[hsucc.out,if_neg HUU.out,Nat.add_zero],trivial⟩
    case measure=>simp[intOf];omega
  ·obtain rfl:j=32:=by omega
   have hlt':¬((32*s+32:Nat):Int)<((s:Int)+1)*32:=by omega
   go_wp2_with fail
   go_ret
   exact⟨rfl,rfl⟩
theorem AtQ.count{w0 w:World}{V:List (Value×List Value)}{q:Sq}{x:za}(h:AtQ w0 V q x w)(s u:Nat)(hs:s<32):Calls Tryz.prog 50 #[.pointer (some ⟨q.pp,0,none⟩),.int .i64 s,.int .i64 u] w fun e w'=>e=.returned (.int .i64 (x.P.count s u))∧w'=w:=by
 obtain⟨tag,hS,_⟩:=h.st
 exact zhf _ _ _ _ _ _ hS.pool s u hs
section
variable {F:Nat→Prop}{x y:za}
theorem zcf(x:za)(n page:Nat){e:Ent}(he:e.kind≠2)(ho:(x.ent n page).kind≠2):(x.putF n page e).2.S=x.S:=by
 unfold za.putF
 cases hp:x.T n with
 | none=>rfl
 | some pr=>
  have ho2:(Zd x.R pr.T page).1.kind≠2:=by unfold za.ent at ho;rw[hp]at ho;exact ho
  dsimp only
  split
  ·rfl
  ·split
   ·rfl
   ·split
    ·rfl
    ·show((x.yu n pr _).puts e (Zd x.R pr.T page).1 ((n:Int),(page:Int))).S=_
     rw[zh0,if_neg fun z=>ho2 z.1]
     unfold za.put2
     rw[if_neg he]
     rfl
theorem znm(x:za)(n:Nat)(at_:Int):(x.qy n at_).S=x.S:=(zhp x n at_).2.2.2.2.1
theorem zi4(h:WF x)(u:Nat):(x.yo u).2.S=x.S∧∀m pg,pg<4096→(x.yo u).2.ent m pg=x.ent m pg:=by
 rcases h.yo u with⟨_,e⟩|⟨f,_,e,d⟩
 ·rw[e];exact⟨rfl,fun _ _ _=>rfl⟩
 ·rw[e];exact⟨d.keep.2.2.1,d.ent⟩
theorem zk4(h:WF x)(u sec:Nat)(h2:2≤u)(h5:u≤5)(hs:(x.D.cur sec).length=64):(x.zx u sec).2.S=x.S∧∀m pg,pg<4096→(x.zx u sec).2.ent m pg=x.ent m pg:=by
 rcases h.zx u sec h2 h5 hs with⟨_,e⟩|⟨f,_,_,e,d,_⟩|⟨f,_,hw,e,d,_⟩
 ·rw[e];exact⟨rfl,fun _ _ _=>rfl⟩
 ·exact⟨d.keep.2.2.1,d.ent⟩
 ·exact⟨d.keep.2.2.1,d.ent⟩
theorem zk5(h:WF x)(g:Int):(x.yn g).2.S=x.S∧∀m pg,pg<4096→(x.yn g).2.ent m pg=x.ent m pg:=by
 rcases h.yn g with⟨_,e⟩|⟨f,_,_,e,d,_⟩|⟨f,_,hw,e,d,_⟩
 ·rw[e];exact⟨rfl,fun _ _ _=>rfl⟩
 ·exact⟨d.keep.2.2.1,d.ent⟩
 ·exact⟨d.keep.2.2.1,d.ent⟩
theorem zg4(x:za)(k:Int×Int)(f:Int):(x.uk k f).S=x.S∧∀m pg,(x.uk k f).ent m pg=x.ent m pg:=by
 unfold za.uk
 split
 ·exact⟨rfl,fun _ _=>rfl⟩
 ·exact⟨rfl,fun _ _=>rfl⟩
theorem zog(h:WF x){k:Int×Int}(hk:uz k):(x.vo k).2.S=x.S∧∀m pg,pg<4096→(x.vo k).2.ent m pg=x.ent m pg:=by
 unfold za.vo
 cases getL x.CL k with
 | some v=>exact⟨rfl,fun _ _ _=>rfl⟩
 | none=>
  dsimp only
  have d:=zk4 h 4 (za.vk k) (by omega) (by omega) (h.secs _ (Y0 hk))
  split
  ·obtain⟨c1,c2⟩:=zg4 (x.zx 4 (za.vk k)).2 k (x.zx 4 (za.vk k)).1.1
   exact⟨c1.trans d.1,fun m pg hp=>(c2 m pg).trans (d.2 m pg hp)⟩
  ·exact d
theorem zk8(h:WF x){n page:Nat}{pr:yg}(hp:x.T n=some pr)(hpg:page<4096){a:Ar}(ha:z8 pr.A (page:Int)=some a)(ho:(x.ent n page).kind≠2):(x.uf n page a).2.S=x.S:=by
 unfold za.uf
 by_cases k:a.kind≠1
 ·rw[if_pos k]
  have d:=zog h (Vg (h.Zg n pr hp).1 ha k)
  split
  ·exact(zcf _ n page (by show(1:Nat)≠2;omega) (by rw[d.2 n page hpg];exact ho)).trans d.1
  ·exact d.1
 ·rw[if_neg k]
  have d:=zi4 h 3
  split
  ·split
   ·exact(zcf _ n page (by show(1:Nat)≠2;omega) (by rw[d.2 n page hpg];exact ho)).trans d.1
   ·rw[(Y3 _ _).2.2.1]
    exact(zcf _ n page (by show(1:Nat)≠2;omega) (by rw[d.2 n page hpg];exact ho)).trans d.1
  ·exact d.1
theorem zge(h:WF x){n page:Nat}{pr:yg}(hp:x.T n=some pr)(hpg:page<4096){a:Ar}(ha:z8 pr.A (page:Int)=some a)(ho:(x.ent n page).kind≠2):(x.zy n page a).2.S=x.S:=by
 unfold za.zy
 split
 ·exact znm _ _ _
 ·split
  ·exact zk8 h hp hpg ha ho
  ·rfl
theorem ownF_S(h:WF x){n page:Nat}(hpg:page<4096)(a:Ar)(f:Int)(ho:(x.ent n page).kind≠2):(x.ownF n page a f).2.S=x.S:=by
 unfold za.ownF
 split
 ·unfold za.xk;rfl
 ·split
  ·exact zcf _ n page (by show(1:Nat)≠2;omega) ho
  ·have d:=zk5 h f
   split
   ·exact(zcf _ n page (by show(1:Nat)≠2;omega) (by rw[d.2 n page hpg];exact ho)).trans d.1
   ·exact d.1
theorem Ok0.ask_S(h:Ok0 x){n page:Nat}{pr:yg}(hp:x.T n=some pr)(hpg:page<4096)(wr:Bool)(ho:(x.ent n page).kind≠2):(x.askF n page wr).2.S=x.S:=by
 unfold za.askF
 rw[hp]
 dsimp only
 cases ha:z8 pr.A (page:Int)with
 | none=>rfl
 | some a=>
  dsimp only
  have hS:=zge h.ok.wf hp hpg ha ho
  split
  ·rfl
  ·split
   ·rename_i z
    rcases h.ok.zy h.out hp hpg ha with⟨_,e⟩|⟨_,g,fr⟩
    ·rw[e]at z;simp at z
    ·exact(ownF_S g.ok.wf hpg a _ (by rw[(fr z.1).1];omega)).trans hS
   ·exact hS
structure zop(x:za)(n page:Nat)(a:Ar)(at_:Nat)(b:List UInt8)(f:Nat)(y:za):Prop where
 ok:Ok0 y
 abs:y.abs=(x.abs.own a n page).write a n page at_ b
 keeps:uw 5 x y
 disk:y.D=x.D
 mine:Mine y a n page f
 ent1:∀m pg,pg<4096→¬(m=n∧pg=page)→(x.ent m pg).kind=1→y.ent m pg=x.ent m pg
 backs:∀(m pg g:Nat),m<8→pg<4096→¬(m=n∧pg=page)→g<1024→x.P.use g=3→x.B g=[plc m pg]→y.B g=[plc m pg]∧y.P.use g=3
 cr:∀g k,getL x.CR g=some k→getL y.CR g=some k
 slots:(x.ent n page).kind≠2→y.S=x.S
 eq:∃z f' c,x.askF n page true=((f',c),z)∧y.P=z.P∧y.B=z.B∧y.T=z.T∧y.CL=z.CL∧y.CR=z.CR∧f'=(f:Int)
 ents:(x.askF n page true).1=((f:Int),0)∧∀m pg,pg<4096→y.ent m pg=(x.askF n page true).2.ent m pg
theorem Ok0.zm6(h:Ok0 x){n:Nat}{a0:Nat}{b:List UInt8}{a:Ar}(h0:0<b.length)(h1:a0%64+b.length≤64)(h2:a0+b.length≤262144)(hc:xn x.abs n (a0/64) a)(hw:a.write=true)(hroom:5≤x.P.room)(hcalm:x.D.Calm):
  x.xq n a0 b.length=0∧∃y f,x.Zn n a0 b=(0,y)∧zop x n (a0/64) a (a0%64) b f y:=by
 have hpg:a0/64<4096:=by omega
 have hs:(x.T n).isSome=true:=by
  have:=hc.area
  cases hp:x.T n with
  | none=>unfold Abs.area za.abs at this;dsimp only at this;rw[hp]at this;cases this
  | some _=>rfl
 have hr:x.xq n a0 b.length=0:=by
  unfold za.xq
  rw[if_neg,if_neg (by omega)]
  rintro(k|k)
  ·omega
  ·rw[Int.toNat_natCast,hs]at k;cases k
 refine⟨hr,?_⟩
 obtain⟨ask0,hD⟩:=h.zc9 hpg hc (wr:=true) (fun _=>hw) hroom hcalm
 obtain⟨pr0,hp0⟩:=Option.isSome_iff_exists.1 hs
 have hSS:=h.ask_S hp0 hpg true
 have hn8:=h.ok.Zy h.out hp0
 unfold za.Zn
 rw[if_pos hr]
 simp only[Int.toNat_natCast]
 have hone:=Yu n true x a0 b.length h0 h1
 rw[if_pos ask0]at hone
 rcases h.pieces hs true h0 (by omega) h2 with⟨e,_⟩|⟨_,f,a1,y,e,ha,g⟩|⟨e,_⟩
 ·rw[hone]at e
  exact absurd rfl e
 ·have hz:(x.askF n (a0/64) true).2=y∧(x.askF n (a0/64) true).1.1.toNat=f:=by
   rw[hone]at e
   have e1:=congrArg Prod.snd e
   have e2:=congrArg (fun z=>z.1.1) e
   dsimp only at e1 e2
   exact⟨e1,congrArg Pc.f (List.cons.inj e2).1⟩
  rw[e]
  dsimp only
  rw[if_pos rfl]
  have haa:a1=a:=by rw[hc.area]at ha;cases ha;rfl
  subst haa
  have hab:y.abs=x.abs.own a1 n (a0/64):=g.abs rfl
  obtain⟨q,hq,hm⟩:=g.mine rfl rfl
  have hqf:q=f:=by omega
  subst hqf
  have hs2:(y.T n).isSome=true:=by rw[g.keeps.some];exact hs
  obtain⟨pr,hp⟩:=Option.isSome_iff_exists.1 hs2
  have har:z8 pr.A ((a0/64:Nat):Int)=some a1:=by
   rw[←jb hp,hab,←ha]
   unfold Abs.area Abs.own
   split<;>rfl
  obtain⟨w1,w2,w3⟩:=g.ok.wr1 hp hpg har hm (a0%64) b h1
  have ew:za.Yo [⟨q,a0%64,b.length⟩] b y.R=y.R.write q (a0%64) b:=by simp[za.Yo]
  rw[ew]
  have k:=g.keeps
  refine⟨_,q,rfl,w1,by rw[w2,hab],⟨k.zone,k.room,k.bad,k.fix,k.some⟩,hD q a1 y g,⟨hm.lt,by rw[w3 n _ hpg];exact hm.ent,hm.shared,hm.own⟩,fun m pg hp2 hne hk=>by rw[w3 m pg hp2];exact g.ent1 m pg hp2 hne hk,g.backs,g.cr,fun z=>by rw[←hz.1];exact hSS z,?_,Prod.ext (by have:=hz.2;show(x.askF n (a0/64) true).1.1=(q:Int);have hnat:=Xw h.ok.wf hp0 hpg true;omega) ask0,fun m pg hp2=>by rw[hz.1];exact w3 m pg hp2⟩
  obtain⟨⟨f1,c1⟩,z1⟩:∃r,r=x.askF n (a0/64) true:=⟨_,rfl⟩
  have hnat:=Xw h.ok.wf hp0 hpg true
  obtain⟨fn,hfn⟩:=hnat
  refine⟨y,(x.askF n (a0/64) true).1.1,(x.askF n (a0/64) true).1.2,?_,rfl,rfl,rfl,rfl,rfl,by have:=hz.2;omega⟩
  rw[←hz.1]
 ·omega
structure zeq(x:za)(n page:Nat)(y:za):Prop where
 ok:Ok0 y
 abs:y.abs=x.abs
 keeps:uw 5 x y
 disk:y.D=x.D
 frame:(y.ent n page).kind=1
 ent1:∀m pg,pg<4096→¬(m=n∧pg=page)→(x.ent m pg).kind=1→y.ent m pg=x.ent m pg
 backs:∀(m pg g:Nat),m<8→pg<4096→¬(m=n∧pg=page)→g<1024→x.P.use g=3→x.B g=[plc m pg]→y.B g=[plc m pg]∧y.P.use g=3
 cr:∀g k,getL x.CR g=some k→getL y.CR g=some k
 slots:(x.ent n page).kind≠2→y.S=x.S
 eq:(x.askF n page false).2=y
theorem Ok0.zn7(h:Ok0 x){n:Nat}(hn:n<8){a0 s:Nat}{a:Ar}(h0:0<s)(h1:a0%64+s≤64)(h2:a0+s≤262144)(hc:xn x.abs n (a0/64) a)(hroom:5≤x.P.room)(hcalm:x.D.Calm):
  ∃y,x.Yg n a0 s=((((x.abs.ct a n (a0/64)).drop (a0%64)).take s,0),y)∧zeq x n (a0/64) y:=by
 have hpg:a0/64<4096:=by omega
 have hs:(x.T n).isSome=true:=by
  have:=hc.area
  cases hp:x.T n with
  | none=>unfold Abs.area za.abs at this;dsimp only at this;rw[hp]at this;cases this
  | some _=>rfl
 have hr:x.xq n a0 s=0:=by
  unfold za.xq
  rw[if_neg,if_neg (by omega)]
  rintro(k|k)
  ·omega
  ·rw[Int.toNat_natCast,hs]at k;cases k
 obtain⟨ask0,hD⟩:=h.zc9 hpg hc (wr:=false) (fun e=>by cases e) hroom hcalm
 obtain⟨pr0,hp0⟩:=Option.isSome_iff_exists.1 hs
 have hSS:=h.ask_S hp0 hpg false
 unfold za.Yg
 rw[if_pos hr]
 simp only[Int.toNat_natCast]
 have hone:=Yu n false x a0 s h0 h1
 rw[if_pos ask0]at hone
 rcases h.pieces hs false h0 (by omega) h2 with⟨e,_⟩|⟨_,f,a1,y,e,ha,g⟩|⟨e,_⟩
 ·rw[hone]at e
  exact absurd rfl e
 ·have hz:(x.askF n (a0/64) false).2=y:=by
   rw[hone]at e
   exact congrArg Prod.snd e
  rw[e]
  dsimp only
  rw[if_pos rfl]
  have haa:a1=a:=by rw[hc.area]at ha;cases ha;rfl
  subst haa
  have hab:y.abs=x.abs:=g.abs rfl
  refine⟨y,?_,g.ok,hab,g.keeps,hD f a1 y g,(g.frame rfl).1,g.ent1,g.backs,g.cr,fun z=>by rw[←hz];exact hSS z,hz⟩
  have hb:=g.bytes hn hpg (by rw[hab];exact ha)
  have:Z9 y.R [⟨f,a0%64,s⟩]=((x.abs.ct a1 n (a0/64)).drop (a0%64)).take s:=by
   unfold Z9
   simp only[List.flatMap_cons,List.flatMap_nil,List.append_nil]
   rw[Qj _ _ _ _ h1,hb,hab]
  rw[this]
 ·omega
end
section
variable {w0 w w':World}{V:List (Value×List Value)}{q:Sq}{x:za}
theorem AtQ.spawn(h:AtQ w0 V q x w)(ok:Ok0 x)(n g:Nat)(hn:n<8)(hx:x.T n=none)(hg:x.P.next false=some g):
  Calls Tryz.prog 17 #[ptrV q.sp,.int .i64 n] w fun e w'=>e=.returned (.int .i64 0)∧∃u,AtQ w0 V (q.at_ n u) (x.xh n g) w':=by
 obtain⟨⟨tag,hS,low,hV⟩,hb⟩:=h
 obtain⟨hg1,hav,hgu⟩:=Zo hg
 refine(Ux hS n hn hx g hg hg1 (ok.ok.wf.je hg1 (by omega))).mono ?_
 rintro e w1 ⟨rfl,tag1,u,hS1,s1⟩
 obtain⟨a,b,c⟩:=vw (CS0 n) s1 hb low hV
 exact⟨rfl,u,⟨tag1,hS1,a,b⟩,c⟩
theorem AtQ.map(h:AtQ w0 V q x w)(ok:Ok0 x)(n:Nat){pr:yg}(hp:x.T n=some pr)(a:Ar)(ha:a.xe)(hwf:a.Wf)(hno:anyA a pr.A=false)(hlen:pr.A.length<16):
  Calls Tryz.prog 18 #[ptrV q.sp,.int .i64 n,a.enc] w fun e w'=>e=.returned (.int .i64 0)∧AtQ w0 V q (x.put n ⟨pr.T,insA pr.A a,pr.Q⟩) w':=by
 obtain⟨⟨tag,hS,low,hV⟩,hb⟩:=h
 have hn:=ok.ok.Zy ok.out hp
 refine(zf3 hS n pr hn hp a hwf (by omega)).mono ?_
 rintro e w1 ⟨Y,A',tag1,rfl,hres,hS1,s1⟩
 obtain⟨a1,b1,c1⟩:=vw (C:=fun c=>c=20+n) (by omega) s1 hb low hV
 rcases hres with⟨_,_,_,rfl,hperm,hsort⟩|⟨_,_,⟨q1,_⟩|⟨_,q1,_⟩|⟨_,_,q1,_⟩⟩
 ·have hL:=zen (ok.ok.wf.Zg n pr hp).1 ha hno hperm hsort
  rw[hL]at hS1
  exact⟨rfl,⟨tag1,hS1,a1,b1⟩,c1⟩
 ·exact absurd ha q1
 ·rw[hno]at q1;cases q1
 ·omega
end
def qh:Nat→zo
 | 0=>zo.none.on 0 2 32
 | k+1=>(qh k).on (1+k) 3 32
theorem Vt(m f:Nat):(qh m).use f=if f<32*(1+m)then 1 else 0:=by
 induction m with
 | zero=>
  show(if 32*0≤f∧f<32*0+32 then(if(0:Nat)=6 then 6 else 1)else 0)=_
  by_cases h:f<32*(1+0)
  ·rw[if_pos h,if_pos (by omega)];rfl
  ·rw[if_neg h,if_neg (by omega)]
 | succ k ih=>
  show(if 32*(1+k)≤f∧f<32*(1+k)+32 then(if(qh k).use f=6 then 6 else 1)else(qh k).use f)=_
  rw[ih]
  by_cases h1:f<32*(1+k)
  ·rw[if_pos h1,if_neg (by omega),if_pos (by omega)]
  ·rw[if_neg h1]
   by_cases h2:f<32*(1+(k+1))
   ·rw[if_pos (by omega),if_pos h2];rfl
   ·rw[if_neg (by omega),if_neg h2]
theorem Uo(m s:Nat):(qh m).zone s=(if s=0 then 2 else if s<1+m then 3 else 0)∧(qh m).iso s=false:=by
 induction m with
 | zero=>
  refine⟨?_,?_⟩
  ·show(if s=0 then 2 else 0)=_
   by_cases h:s=0
   ·rw[if_pos h,if_pos h]
   ·rw[if_neg h,if_neg h,if_neg (by omega)]
  ·show(if s=0 then false else false)=false
   split<;>rfl
 | succ k ih=>
  refine⟨?_,?_⟩
  ·show(if s=1+k then 3 else(qh k).zone s)=_
   rw[ih.1]
   by_cases h1:s=1+k
   ·rw[if_pos h1,if_neg (by omega),if_pos (by omega)]
   ·rw[if_neg h1]
    by_cases h0:s=0
    ·rw[if_pos h0,if_pos h0]
    ·rw[if_neg h0,if_neg h0]
     by_cases h2:s<1+k
     ·rw[if_pos h2,if_pos (by omega)]
     ·rw[if_neg h2,if_neg (by omega)]
  ·show(if s=1+k then false else(qh k).iso s)=_
   rw[ih.2];split<;>rfl
theorem zak(m:Nat):32≤(qh m).room:=by
 unfold zo.room
 have:=Jn 32 1024 (by omega)
 refine Nat.le_trans (Nat.le_of_eq this.symm) ?_
 refine List.countP_mono_left fun f hf h=>?_
 have h:f<32:=by simpa using h
 unfold zo.Xd
 have z:=Uo m (f/32)
 rw[Vt m f,if_pos (by omega),z.1,z.2,if_pos (by omega)]
 decide
def arO:Ar:=⟨0,8,true,1,0,0⟩
def arS:Ar:=⟨8,8,true,2,0,0⟩
def arP:Ar:=⟨16,8,true,3,0,4⟩
theorem V9:(arO.xe∧arO.Wf)∧(arS.xe∧arS.Wf)∧(arP.xe∧arP.Wf):=
 ⟨⟨by decide,by unfold Ar.Wf;decide⟩,⟨by decide,by unfold Ar.Wf;decide⟩,⟨by decide,by unfold Ar.Wf;decide⟩⟩
theorem Zw:insA [arO] arS=[arO,arS]∧insA [arO,arS] arP=[arO,arS,arP]∧anyA arO []=false∧anyA arS [arO]=false∧anyA arP [arO,arS]=false  :=by
 refine⟨rfl,rfl,rfl,?_,?_⟩<;>unfold anyA Vv<;>simp[arO,arS,arP,wrap64]
def absK(D:zw):Abs:=((((Abs.start (fun k=>if uz k then D.cur (za.vk k)else []) D.cur).spawn 0).map 0 arO [arO]).map 0 arS [arO,arS]).map 0 arP [arO,arS,arP]
structure StK(m:Nat)(D:zw)(x:za):Prop where
 ok:Ok0 x
 abs:x.abs=absK D
 use:∀f,x.P.use f=if f<32*(1+m)then(if f<32∧x.P.use f=2 then 2 else 1)else 0
 zone:x.P.zone=(qh m).zone∧x.P.iso=(qh m).iso
 room:31≤x.P.room
 disk:x.D=D
 cache:x.CL=[]∧x.CR=[]
 back:∀f,x.B f=[]
 slots:∀k,x.S.getD k []=[]
 proc:∃T,x.T 0=some ⟨T,[arO,arS,arP],[]⟩
 none:∀n,n≠0→x.T n=none
 ents:∀n pg,n<8→pg<4096→(x.ent n pg).kind=0
theorem zhz(k n:Nat):(List.replicate n ([]:List (Int×Int))).getD k []=[]:=by
 rw[List.getD_eq_getElem?_getD,List.getElem?_replicate]
 split<;>rfl
structure StI(m:Nat)(D:zw)(A:List Ar)(X:Abs)(x:za):Prop where
 ok:Ok0 x
 abs:x.abs=X
 use:∀f,x.P.use f=if f<32*(1+m)then(if f<32∧x.P.use f=2 then 2 else 1)else 0
 zone:x.P.zone=(qh m).zone∧x.P.iso=(qh m).iso
 room:31≤x.P.room
 disk:x.D=D
 cache:x.CL=[]∧x.CR=[]
 back:∀f,x.B f=[]
 slots:∀k,x.S.getD k []=[]
 proc:∃T,x.T 0=some ⟨T,A,[]⟩
 none:∀n,n≠0→x.T n=none
theorem zfe{P:zo}(h:0<P.room):∃g,P.next false=some g:=by
 cases hn:P.next false with
 | some g=>exact⟨g,rfl⟩
 | none=>have:=Xk hn;omega
theorem StI.start{m:Nat}{D:zw}(hD:∀s,s<192→(D.cur s).length=64){g:Nat}(hg:(qh m).next false=some g):StI m D [] ((Abs.start (fun k=>if uz k then D.cur (za.vk k)else []) D.cur).spawn 0) ((za.start RamS.none (qh m) D).xh 0 g):=by
 have ok0:=za4 (qh m) D (fun f=>by rw[Vt];split<;>omega) hD
 have hg':(za.start RamS.none (qh m) D).P.next false=some g:=hg
 obtain⟨k1,k2,k3,k4⟩:=ok0.spawn (n:=0) (by omega) rfl hg'
 obtain⟨hg1,hav,hgu⟩:=Zo hg
 have hg32:g<32:=by
  have h0:(qh m).zone (g/32)=2:=by
   unfold zo.Xd at hav
   simp only[decide_eq_true_eq]at hav
   exact hav.2.1
  rw[(Uo m (g/32)).1]at h0
  by_cases e:g/32=0
  ·omega
  ·rw[if_neg e]at h0;split at h0<;>omega
 have hu:∀f,((za.start RamS.none (qh m) D).xh 0 g).P.use f=if f=g then 2 else(qh m).use f:=fun _=>rfl
 refine⟨k1,by rw[k2,zb8],fun f=>?_,⟨rfl,rfl⟩,?_,k4,⟨rfl,rfl⟩,fun _=>rfl,fun k=>zhz k 32,⟨⟨g,[g]⟩,rfl⟩,fun n hn=>if_neg hn⟩
 ·rw[hu,Vt]
  by_cases e:f=g
  ·rw[if_pos e,if_pos (by omega),if_pos ⟨by omega,rfl⟩]
  ·rw[if_neg e]
   by_cases h:f<32*(1+m)
   ·rw[if_pos h,if_pos h,if_neg (by omega)]
   ·rw[if_neg h,if_neg h]
 ·have:=zak m
  have k3:(qh m).room≤_:=k3
  omega
theorem StI.map{m:Nat}{D:zw}{A:List Ar}{X:Abs}{x:za}(h:StI m D A X x){T:Zx}(hT:x.T 0=some ⟨T,A,[]⟩){a:Ar}(ha:a.xe)(hno:anyA a A=false)(hlen:A.length<16)(hperm:(insA A a).Perm (A++[a]))(hsort:(insA A a).Pairwise fun x y=>¬y.from_<x.from_):
  StI m D (insA A a) (X.map 0 a (insA A a)) (x.put 0 ⟨T,insA A a,[]⟩):=by
 obtain⟨k1,k2⟩:=h.ok.map hT ha hno hlen hperm hsort
 refine⟨k1,by rw[k2,h.abs],h.use,h.zone,h.room,h.disk,h.cache,h.back,h.slots,⟨T,by simp[za.put]⟩,fun n hn=>?_⟩
 show(if n=0 then _ else x.T n)=Option.none
 rw[if_neg hn]
 exact h.none n hn
theorem StI.done{m:Nat}{D:zw}{x:za}(h:StI m D [arO,arS,arP] (absK D) x):StK m D x:=by
 refine⟨h.ok,h.abs,h.use,h.zone,h.room,h.disk,h.cache,h.back,h.slots,h.proc,h.none,fun n pg hn hp=>?_⟩
 have hk:(x.ent n pg).kind≤3:=by
  have:=h.ok.ok.wf.Zc n hp
  unfold Ent.ok at this
  simp only[Bool.and_eq_true,decide_eq_true_eq]at this
  exact this.1.1
 by_cases e0:(x.ent n pg).kind=0
 ·exact e0
 by_cases e1:(x.ent n pg).kind=1
 ·obtain⟨f,q1,q2,q3,_⟩:=h.ok.ok.frame hn hp e1
  rw[h.back]at q3;cases q3
 by_cases e2:(x.ent n pg).kind=2
 ·have hr:=(Ent.ok_n (h.ok.ok.wf.Zc n hp)).2 e2
  have:=(h.ok.ok.slotE (x.ent n pg).n.toNat n pg (by omega) hn hp).2 ⟨e2,by omega⟩
  rw[h.slots]at this;cases this
 have e3:(x.ent n pg).kind=3:=by omega
 exfalso
 cases hT:x.T n with
 | none=>rw[Yk hT]at e0;exact e0 rfl
 | some pr=>
  obtain⟨a,ha⟩:=(h.ok.ok.area n pr pg hT hp).find e0
  have hpv:=Ze hT ha
  unfold za.pv1 at hpv
  rw[if_pos e3]at hpv
  have hab:x.abs.pv n pg=.lost:=by
   show(if pg<4096 then x.pv n pg else .none)=_
   rw[if_pos hp,hpv]
  rw[h.abs]at hab
  unfold absK at hab
  rw[Abs.Vw]at hab
  split at hab
  ·unfold Xz at hab;split at hab<;>cases hab
  ·rw[Abs.Vw]at hab
   split at hab
   ·unfold Xz at hab;split at hab<;>cases hab
   ·rw[Abs.Vw]at hab
    split at hab
    ·unfold Xz at hab;split at hab<;>cases hab
    ·cases hab
def arK(p:Nat):Ar:=if p<8 then arO else if p<16 then arS else arP
theorem zj0(p:Nat):(arK p).write=true:=by unfold arK;split;rfl;split<;>rfl
section
variable {X:Abs}{a b:Ar}{n m p q at_:Nat}{l:List UInt8}
theorem PgOk.any(h:PgOk X b m q)(g:PgOk X a n p)(hl:at_+l.length≤64):PgOk ((X.own a n p).write a n p at_ l) b m q:=by
 by_cases e:m=n∧q=p
 ·obtain⟨rfl,rfl⟩:=e
  have hab:b=a:=by have:=h.area;rw[g.area]at this;exact(Option.some.inj this).symm
  subst hab
  exact(g.own q).write fun _=>hl
 ·have hpv:((X.own a n p).write a n p at_ l).pv m q=X.pv m q:=by
   by_cases k:a.kind=2
   ·rw[(U2 X a n p at_ l k).1]
   ·rw[(zb7 X a n p at_ l k).1,if_neg e]
  refine⟨by rw[zf7];exact h.area,by rw[hpv];exact h.there,fun k=>by rw[hpv];exact h.shared k,?_⟩
  have hlen:=h.len
  unfold Abs.ct at hlen⊢
  rw[hpv]
  cases hx:X.pv m q with
  | own l'=>rw[hx]at hlen;exact hlen
  | none=>simp
  | lost=>simp
  | file=>
   rw[hx]at hlen
   dsimp only at hlen⊢
   by_cases k:a.kind=2
   ·rw[(U2 X a n p at_ l k).2]
    split
    ·rename_i e2
     rw[zaf]
     ·exact hlen
     ·rw[hlen];exact hl
    ·exact hlen
   ·rw[(zb7 X a n p at_ l k).2];exact hlen
theorem PgOk.cur(h:PgOk X a n p)(s:Nat)(l:List UInt8):PgOk (X.zhw s l) a n p:=⟨h.area,h.there,h.shared,h.len⟩
end
theorem zj1{D:zw}(hD:∀s,s<192→(D.cur s).length=64){p:Nat}(hp:p<24):PgOk (absK D) (arK p) 0 p:=by
 have hf:∀k,(absK D).file k=if uz k then D.cur (za.vk k)else []:=fun k=>rfl
 have hpv:(absK D).pv 0 p=Xz (arK p):=by
  unfold absK
  rw[Abs.Vw,Abs.Vw,Abs.Vw]
  unfold arK
  by_cases h1:p<8
  ·rw[if_neg (by unfold Ar.Has arP;dsimp only;omega),if_neg (by unfold Ar.Has arS;dsimp only;omega),if_pos ⟨rfl,by omega,by unfold Ar.Has arO;dsimp only;omega⟩,if_pos h1]
  ·rw[if_neg h1]
   by_cases h2:p<16
   ·rw[if_neg (by unfold Ar.Has arP;dsimp only;omega),if_pos ⟨rfl,by omega,by unfold Ar.Has arS;dsimp only;omega⟩,if_pos h2]
   ·rw[if_pos ⟨rfl,by omega,by unfold Ar.Has arP;dsimp only;omega⟩,if_neg h2]
 have har:(absK D).area 0 p=some (arK p):=by
  have hA:(absK D).A 0=some ([arO,arS,arP],[]):=rfl
  rw[Abs.zjw hA]
  show z8 [arO,arS,arP] (p:Int)=_
  rw[Z4,Z4,Z4]
  unfold arK
  by_cases h1:p<8
  ·rw[if_pos h1,if_pos (by unfold arO;dsimp only;omega)]
  ·rw[if_neg h1,if_neg (by unfold arO;dsimp only;omega)]
   by_cases h2:p<16
   ·rw[if_pos h2,if_pos (by unfold arS;dsimp only;omega)]
   ·rw[if_neg h2,if_neg (by unfold arS;dsimp only;omega),if_pos (by unfold arP;dsimp only;omega)]
 refine⟨har,?_,fun k=>?_,?_⟩
 ·rw[hpv];unfold Xz;split<;>intro z<;>cases z
 ·rw[hpv];unfold Xz;rw[if_neg (by omega)]
 ·unfold Abs.ct
  rw[hpv]
  unfold Xz
  by_cases k1:(arK p).kind=1
  ·rw[if_pos k1];simp
  ·rw[if_neg k1]
   have h8:¬p<8:=fun z=>k1 (by unfold arK;rw[if_pos z];rfl)
   dsimp only
   have hk:uz (za.keyF (arK p) p):=by
    unfold uz za.keyF arK
    rw[if_neg h8]
    by_cases h2:p<16
    ·rw[if_pos h2];unfold arS;dsimp only;omega
    ·rw[if_neg h2];unfold arP;dsimp only;omega
   rw[hf,if_pos hk]
   exact hD _ (Y0 hk)
section
variable {x y:za}{D:zw}
theorem zbo:∀(L:List (List (Int×Int))) (k:Nat) (l:List (Int×Int)),k<L.length→l≠[]→(∀j,j<L.length→L.getD j []=if j=k then l else [])→Yh L=1
 | [],k,l,h,_,_=>by simp at h
 | a::L,0,l,h,hl,hj=>by
  have h0:=hj 0 (by simp)
  simp at h0
  have hr:Yh L=0:=by
   unfold Yh
   rw[List.countP_eq_zero]
   intro z hz
   obtain⟨i,hi,rfl⟩:=List.getElem_of_mem hz
   have:=hj (i+1) (by simp;omega)
   simp at this
   rw[List.getElem?_eq_getElem hi]at this
   simp at this
   simp[this]
  unfold Yh at hr⊢
  rw[List.countP_cons,hr,h0]
  simp[hl]
 | a::L,k+1,l,h,hl,hj=>by
  have h0:=hj 0 (by simp)
  simp at h0
  have ih:=zbo L k l (by simp at h;omega) hl fun j hj2=>by
   have:=hj (j+1) (by simp;omega)
   simpa using this
  unfold Yh at ih⊢
  rw[List.countP_cons,ih,h0]
  simp
theorem ziy(L:List (List (Int×Int)))(h:∀j,j<L.length→L.getD j []=[]):Yh L=0:=by
 unfold Yh
 rw[List.countP_eq_zero]
 intro z hz
 obtain⟨i,hi,rfl⟩:=List.getElem_of_mem hz
 have:=h i hi
 rw[List.getD_eq_getElem?_getD,List.getElem?_eq_getElem hi]at this
 simpa using this
theorem zb5(h:WF x)(hS:∀k,x.S.getD k []=[]):∃k:Nat,Xf x.S=((k:Int),true)∧k<32:=by
 rcases Qv x.S with⟨k,h1,h2,_⟩|⟨_,h2⟩
 ·exact⟨k,h1,by rw[h.slots.1]at h2;exact h2⟩
 ·exfalso
  have hl:0<x.S.length:=by rw[h.slots.1];omega
  refine h2 x.S[0] (List.getElem_mem hl) ?_
  have:=hS 0
  rw[List.getD_eq_getElem?_getD,List.getElem?_eq_getElem hl]at this
  simpa using this
theorem zfg(h:Ok0 x){a:Ar}{n p f:Nat}(hn:n<8)(hp:p<4096)(m:Mine x a n p f)(hk:a.kind≠2):x.P.use f=3∧x.B f=[plc n p]:=by
 obtain⟨m1,m2⟩:=m.own hk
 obtain⟨g,q1,q2,q3,q4,q5⟩:=h.ok.frame hn hp m.ent.1
 have:g=f:=by have:=m.ent.2;omega
 subst this
 refine⟨?_,m2⟩
 rcases q4 with z|z
 ·exact z
 ·have:=(h.ok.cached g q2).1 z
  rw[m1]at this;cases this
end
theorem V6(s:Nat):(zw.none.cur s).length=64:=by simp[zw.none,zw.cur]
theorem U9(w:World):Calls Tryz.prog 25 #[] w fun e w'=>∃q x,e=.returned (ptrV q.sp)∧AtQ w [] q x w'∧StK 1 zw.none x:=by
 go_enter Tryz.func25,Tryz.ntmps25
 go_wp2_with fail
 refine(zfb w).mono ?_
 rintro e w1 ⟨rfl,hp,hb,hz⟩
 obtain⟨tag1,ht1⟩:∃tag1,tag1=retag (fun _=>0) w 2:=⟨_,rfl⟩
 have e1:Hid ((∀b,w.heap.size≤b→tag1 b=2)∧∀b,b<w.heap.size→tag1 b=0):=by rw[ht1];exact⟨fun b hb=>zz _ _ _ _ hb,fun b hb=>if_pos hb⟩
 have HP:Hid (yh w1 (fun b=>tag1 b=2) (w.heap.size+2) (w.heap.size+1) w.heap.size zo.none∧Below w.heap.size w w1):=⟨hp.loc fun k _ ho=>⟨e1.out.1 k ho,rfl⟩,hb⟩
 clear hp hb hz ht1
 obtain⟨pp,hpp⟩:∃pp,pp=w.heap.size+2:=⟨_,rfl⟩
 obtain⟨fs,hfs⟩:∃fs,fs=w.heap.size+1:=⟨_,rfl⟩
 obtain⟨fb,hfb⟩:∃fb,fb=w.heap.size:=⟨_,rfl⟩
 rw[←hpp,←hfs]at HP
 rw[←hpp]
 have HP2:Hid (yh w1 (fun b=>tag1 b=2) pp fs fb zo.none∧Below w.heap.size w w1):=by rw[hfb];exact HP
 clear hpp hfs hfb HP
 go_wp2_with fail
 refine(Y9 _ _ pp fs fb _ HP2.out.1 0 2 0 2 rfl rfl (by omega) (.inl rfl) rfl).mono ?_
 rintro e w2 ⟨rfl,h1,h2⟩
 have H2:Hid (yh w2 (fun b=>tag1 b=2) pp fs fb (qh 0)∧Turn (fun b=>tag1 b=2) w1 w2):=Lib.hid (And.intro h1 h2)
 clear h1 h2
 go_wp2_with fail
 refine(Y9 _ _ pp fs fb _ H2.out.1 1 3 1 3 rfl rfl (by omega) (.inr rfl) (by rw[(Uo 0 1).1];rfl)).mono ?_
 rintro e w3 ⟨rfl,h1,h2⟩
 have H3:Hid (yh w3 (fun b=>tag1 b=2) pp fs fb (qh 1)∧Turn (fun b=>tag1 b=2) w1 w3):=Lib.hid (And.intro h1 (H2.out.2.trans h2))
 clear h1 h2 H2
 have hb3:Below w.heap.size w w3:=HP2.out.2.trans (H3.out.2.Yw (fun b hb=>by
  rcases Nat.lt_or_ge b w.heap.size with h|h
  ·exact absurd (e1.out.2 b h) (by omega)
  ·exact h) HP2.out.2.size)
 have HB3:=Lib.hid (And.intro hb3 e1.out.2)
 clear hb3 HP2 e1
 go_wp2_with fail
 refine(zj6 w3).mono ?_
 rintro e w4 ⟨rfl,hR,hb4,_⟩
 have s4:Step (fun _=>False) tag1 w3 (retag tag1 w3 1) w4:=Step.renew 1 hb4
 have H4:Hid (qi w4 (fun b=>retag tag1 w3 1 b=1) (w3.heap.size+1) w3.heap.size RamS.none∧yh w4 (fun b=>retag tag1 w3 1 b=2) pp fs fb (qh 1)∧Step (fun _=>False) tag1 w3 (retag tag1 w3 1) w4):=Lib.hid ⟨hR.loc fun k _ ho=>⟨zz _ _ _ _ ho,rfl⟩,H3.out.1.loc (s4.keeps id),s4⟩
 clear hR hb4 s4
 generalize w3.heap.size+1=rp at H4⊢
 generalize w3.heap.size=rb at H4
 generalize retag tag1 w3 1=tag4 at H4
 go_wp2_with fail
 refine(zf2 w4).mono ?_
 rintro e w5 ⟨rfl,hD,hb5⟩
 have s5:Step (fun _=>False) tag4 w4 (retag tag4 w4 3) w5:=Step.renew 3 hb5
 have H5:Hid (qi w5 (fun b=>retag tag4 w4 3 b=1) rp rb RamS.none∧yh w5 (fun b=>retag tag4 w4 3 b=2) pp fs fb (qh 1)∧jr w5 (fun b=>retag tag4 w4 3 b=3) (w4.heap.size+1) zw.none∧Step (fun _=>False) tag1 w3 (retag tag4 w4 3) w5):=Lib.hid ⟨H4.out.1.loc (s5.keeps id),H4.out.2.1.loc (s5.keeps id),hD.loc fun k _ ho=>⟨zz _ _ _ _ ho,rfl⟩,H4.out.2.2.trans s5⟩
 clear hD hb5 s5 H4
 generalize w4.heap.size+1=dp at H5⊢
 generalize retag tag4 w4 3=tag5 at H5
 have SN:=Lib.hid (zdd (w:=w5) (tag:=tag5) rp rb pp fs fb dp H5.out.1 H5.out.2.1 H5.out.2.2.1)
 unfold ptrV at SN
 go_wp2_with fail
 refine SN.out.mono ?_
 rintro e w6 ⟨q,tag6,rfl,hS,s6⟩
 have h6:AtQ w [] q (za.start RamS.none (qh 1) zw.none) w6:=by
  have st:=H5.out.2.2.2.trans s6
  have hb:=HB3.out.1.trans (st.turn.below.mono HB3.out.1.size)
  exact⟨⟨tag6,hS,fun b hb'=>(st.keeps (c:=0) id b (by have:=HB3.out.1.size;omega) (HB3.out.2 b hb')).1,fun p hp=>by cases hp⟩,hb⟩
 have H6:=Lib.hid h6
 clear hS s6 SN h6 H5 H3 HB3
 obtain⟨g,hg⟩:=zfe (P:=qh 1) (by have:=zak 1;omega)
 have ok6:Ok0 (za.start RamS.none (qh 1) zw.none):=za4 (qh 1) zw.none (fun f=>by rw[Vt];split<;>omega) fun s _=>V6 s
 have SP:=Lib.hid (H6.out.spawn ok6 0 g (by omega) rfl hg)
 have I0:=Lib.hid (StI.start (D:=zw.none) (fun s _=>V6 s) hg)
 unfold ptrV at SP
 clear hg
 go_wp2_with fail
 refine SP.out.mono ?_
 rintro e w7 ⟨rfl,u,h7⟩
 have e7:(q.at_ 0 u).sp=q.sp:=rfl
 generalize q.at_ 0 u=q7 at h7 e7
 rw[←e7]
 have H7:=Lib.hid h7
 clear h7 SP H6 ok6 e7
 obtain⟨x7,hx7⟩:∃x7,x7=(za.start RamS.none (qh 1) zw.none).xh 0 g:=⟨_,rfl⟩
 rw[←hx7]at H7 I0
 clear hx7
 obtain⟨T,hT⟩:=I0.out.proc
 have HT:=Lib.hid hT
 clear hT
 have M1:=Lib.hid (H7.out.map I0.out.ok 0 HT.out arO V9.1.1 V9.1.2 Zw.2.2.1 (by simp))
 rw[V3]at M1
 have I1:Hid (StI 1 zw.none [arO] _ _):=Lib.hid (I0.out.map HT.out V9.1.1 Zw.2.2.1 (by simp) (by rw[V3];simp) (by rw[V3];simp))
 go_wp2_with fail
 refine M1.out.mono ?_
 rintro e w8 ⟨rfl,h8⟩
 have H8:=Lib.hid h8
 clear h8 M1 H7
 have hT1:(x7.put 0 ⟨T,[arO],[]⟩).T 0=some ⟨T,[arO],[]⟩:=by simp[za.put]
 have M2:=Lib.hid (H8.out.map I1.out.ok 0 hT1 arS V9.2.1.1 V9.2.1.2 Zw.2.2.2.1 (by simp))
 have I2:=Lib.hid (I1.out.map hT1 V9.2.1.1 Zw.2.2.2.1 (by simp) (by rw[Zw.1];simp) (by rw[Zw.1];simp[arO,arS]))
 rw[show insA ([arO]:List Ar) arS=[arO,arS]from Zw.1]at M2 I2
 clear hT1
 go_wp2_with fail
 refine M2.out.mono ?_
 rintro e w9 ⟨rfl,h9⟩
 have H9:=Lib.hid h9
 clear h9 M2 H8
 have hT2:((x7.put 0 ⟨T,[arO],[]⟩).put 0 ⟨T,[arO,arS],[]⟩).T 0=some ⟨T,[arO,arS],[]⟩:=by simp[za.put]
 have M3:=Lib.hid (H9.out.map I2.out.ok 0 hT2 arP V9.2.2.1 V9.2.2.2 Zw.2.2.2.2 (by simp))
 have I3:=Lib.hid (I2.out.map hT2 V9.2.2.1 Zw.2.2.2.2 (by simp) (by rw[Zw.2.1];simp) (by rw[Zw.2.1];simp[arO,arS,arP]))
 rw[Zw.2.1]at M3 I3
 clear hT2
 go_wp2_with fail
 refine M3.out.mono ?_
 rintro e w10 ⟨rfl,h10⟩
 have H10:=Lib.hid h10
 clear h10 M3 H9
 go_wp2_with fail
 exact bodyPost_ret (v:=.pointer (some ⟨q7.sp,0,none⟩)) (by simp[results,Tryz.results25,go_sem]) rfl ⟨q7,_,rfl,H10.out,I3.out.done⟩
theorem outK{x:za}(h:StK 1 zw.none x):(∀p,p<24→PgOk x.abs (arK p) 0 p)∧x.D.Calm∧(x.T 0).isSome=true:=by
 refine⟨fun p hp=>by rw[h.abs];exact zj1 (fun s _=>V6 s) hp,by rw[h.disk];exact zw.Jb,?_⟩
 obtain⟨T,hT⟩:=h.proc
 rw[hT];rfl
theorem zku{P:zo}{g:Nat}(hg:g<1024)(hu:P.use g=1)(hz:P.zone (g/32)=3)(hi:P.iso (g/32)=false):∃f,P.next true=some f∧f<1024∧P.use f=1∧P.zone (f/32)=3:=by
 cases hr:P.run 3 with
 | none=>exact absurd hu (U4 hr g (by omega) (by omega) hz hi)
 | some f=>
  obtain⟨h1,h2,h3,h4,h5⟩:=qm hr
  exact⟨f,by unfold zo.next;rw[if_pos rfl,hr],by omega,h3,h4⟩
theorem count_one{P:zo}{s u f:Nat}(hf:32*s≤f∧f<32*s+32)(h:∀i,i<32→(P.use (32*s+i)=u↔32*s+i=f)):P.count s u=1:=by
 unfold zo.count zo.Y8
 have h0:(List.range 32).countP (fun i=>decide (P.use (32*s+i)=u))=(List.range 32).countP fun i=>decide (i=f-32*s):=by
  refine List.countP_congr fun i hi=>?_
  have hi:i<32:=by simpa using hi
  have:=h i hi
  simp only[decide_eq_true_eq]
  omega
 rw[h0]
 obtain⟨j,hj⟩:∃j,j=f-32*s:=⟨_,rfl⟩
 rw[←hj]
 have hj32:j<32:=by omega
 have:∀j,j<32→(List.range 32).countP (fun i=>decide (i=j))=1:=by decide
 exact this j hj32
theorem zg1{P:zo}{s u:Nat}(h:∀i,i<32→P.use (32*s+i)≠u):P.count s u=0:=by
 unfold zo.count zo.Y8
 rw[List.countP_eq_zero]
 intro i hi
 have hi:i<32:=by simpa using hi
 simpa using h i hi
theorem Ok0.zfx{x:za}(h:Ok0 x){f:Nat}(hf:f<1024)(hu:x.P.use f=3):∃m pg,m<8∧pg<4096∧(x.ent m pg).kind=1∧(x.ent m pg).n=f:=by
 rcases h.ok.anon f hf hu with hb|hb
 ·obtain⟨p,hp⟩:=List.exists_mem_of_ne_nil _ hb
  have hin:=(h.ok.wf.back f).2 p hp
  obtain⟨i1,i2,i3,i4⟩:=hin
  obtain⟨m,hm⟩:=Int.eq_ofNat_of_zero_le i1
  obtain⟨pg,hpg⟩:=Int.eq_ofNat_of_zero_le i3
  have e:p=plc m pg:=Prod.ext hm hpg
  rw[e]at hp
  have:=(h.ok.backE f m pg hf (by omega) (by omega)).1 hp
  exact⟨m,pg,by omega,by omega,this.1,this.2⟩
 ·exact hb.elim
section
variable {x:za}
theorem Ok0.inE(h:Ok0 x){n page k f:Nat}(_:n<8)(hpg:page<4096)(he:(x.ent n page).kind=2)(hk:(x.ent n page).n=k)(hc:x.D.Calm)(hf:x.P.next true=some f):
  (x.inF k).1=((f:Int),0)∧(∀m pg,pg<4096→(x.inF k).2.ent m pg=if plc m pg∈x.S.getD k []then⟨1,(f:Int),false⟩else x.ent m pg)∧(x.inF k).2.P.use f=3:=by
 have hk32:k<32:=by
  have:=(Ent.ok_n (h.ok.wf.Zc n hpg)).2 he
  omega
 have o:=h.out
 unfold za.inF
 rcases h.ok.wf.zx 3 (160+k) (by omega) (by omega) (h.ok.wf.secs _ (by omega))with⟨hnx,e⟩|⟨g,hnx,hw,e,d,hD⟩|⟨g,hnx,hw,e,d,hD⟩
 ·rw[hf]at hnx;cases hnx
 ·have hgf:g=f:=by rw[hf]at hnx;exact(Option.some.inj hnx).symm
  subst hgf
  obtain⟨k1,s1,hB,hcr,hu,hrd⟩:=d.ok h.ok o
  have kp1:=d.keeps (.inl rfl)
  have e1:=d.ent
  have kS:=d.keep.2.2.1
  have kR:=d.keep.2.2.2.2
  have hf:=d.was.1
  have hcur:=d.cur
  have st1:=d.stay
  obtain⟨y,hy⟩:∃y,y=(x.zx 3 (160+k)).2:=⟨_,rfl⟩
  rw[←hy]at k1 s1 hu hrd kp1 e1 st1 kS kR hcur⊢
  rw[e]
  dsimp only
  rw[if_pos rfl]
  clear hy d e
  have hI:InI (fun _=>False) k g x y:=⟨k1,s1,kp1,hu,by rw[kR];exact hcr,by rw[hrd,hcur],fun g hg _ hgu hgB=>st1.backs g hg hgu hgB,kR⟩
  have hL:InL k g x y (y.S.getD k []):=fun p hp=>by
   rw[kS]at hp
   obtain⟨e2,h1,h2⟩:=((uj h.ok.wf.slots k).2 p hp).plc
   rw[e2]at hp
   have h3:=(h.ok.slotE k _ _ hk32 h1 h2).1 hp
   cases hq:x.T p.1.toNat with
   | none=>rw[Yk hq]at h3;exact absurd h3.1 (by decide)
   | some pr=>exact⟨_,_,pr,e2,h1,h2,hq,.inl (by rw[e1 _ _ h2];exact h3)⟩
  obtain⟨i1,_,i3⟩:=hI.go hf o _ _ hL
  refine⟨rfl,fun m pg hq=>?_,i1.use⟩
  rw[i3 m pg hq,kS,e1 m pg hq]
 ·exact absurd (by rw[hc.work]) hw
end
end Go.Proofs.YtnhdmnijiphjjaaGreat
