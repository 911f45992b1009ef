/- Sections that are emptied: check, Empty, Undo. -/
import Derived.Test.YtnhdmnijiphjjaaGreatJMp25
import Derived.Test.YtnhdmnijiphjjaaGreatJMp22
import Derived.Test.YtnhdmnijiphjjaaGreatJMp21
import Derived.Deep.QuietTactic
import Derived.BigQuiet
import Derived.ProofKit
import Derived.WalkKit
import Derived.Deep.Slices
import Derived.Test.YtnhdmnijiphjjaaGreatJMp9
set_option linter.unusedVariables false
set_option linter.unusedSimpArgs false
set_option maxRecDepth 100000
set_option maxHeartbeats 2000000
namespace Go.Proofs.YtnhdmnijiphjjaaGreat
open Go Go.RowKit
def za.xg(x:za)(n:Nat):Nat→za
 | 0=>{x with P:=x.P.isol n true}
 | j+1=>if(x.xg n j).P.use (32*n+j)=3∨(x.xg n j).P.use (32*n+j)=4 then(x.xg n j).qh (32*n+j) (((x.xg n j).P.next true).getD 0)else x.xg n j
def za.Yv(x:za)(n:Nat):Nat:=if x.P.zone n=0 then 2 else if x.P.zone n=2∨0<x.P.count n 5∨0<x.P.count n 2 then 5 else 0
section
variable {w w':World}{tag tag':Nat→Nat}{q:Sq}{x:za}
theorem zb.znh(h:zb w tag q x)(n:Nat)(hn:n<32):Calls Tryz.prog 46 #[.pointer (some ⟨q.pp,0,none⟩),.int .i64 n] w fun e w'=>e=.returned (.int .i64 (x.P.zone n))∧w'=w:=zju _ _ _ _ _ _ h.pool n n rfl hn
theorem zb.countP(h:zb w tag q x)(n u:Nat)(hn:n<32):Calls Tryz.prog 50 #[.pointer (some ⟨q.pp,0,none⟩),.int .i64 n,.int .i64 u] w fun e w'=>e=.returned (.int .i64 (x.P.count n u))∧w'=w:=Vd _ _ _ _ _ _ h.pool n u hn
theorem zb.isolP(h:zb w tag q x)(n:Nat)(hn:n<32)(h0:x.P.zone n≠0)(b:Bool):Calls Tryz.prog 102 #[.pointer (some ⟨q.pp,0,none⟩),.int .i64 n,.bool b] w fun e w'=>e=.returned (.bool true)∧zb w' tag q {x with P:=x.P.isol n b}∧Step (fun c=>c=2) tag w tag w':=by
 refine(zeh _ _ _ _ _ _ h.pool n hn h0 b).mono ?_
 rintro e w1 ⟨rfl,hP,t⟩
 obtain⟨a,c⟩:=h.za7 t hP
 exact⟨rfl,a,c⟩
theorem zjh(w:World)(n:Int):Calls Tryz.prog 103 #[.pointer none,.int .i64 n] w fun e w'=>e=.returned (.int .i64 1)∧w'=w:=by
 go_enter Tryz.func103,Tryz.ntmps103
 go_wp2_with fail
 go_ret
 exact⟨rfl,rfl⟩
theorem zcz(w:World)(sp:Nat)(n:Int)(hn:n<0∨32≤n):Calls Tryz.prog 103 #[.pointer (some ⟨sp,0,none⟩),.int .i64 n] w fun e w'=>e=.returned (.int .i64 1)∧w'=w:=by
 by_cases h:n<0
 ·clear hn
  go_enter Tryz.func103,Tryz.ntmps103
  go_wp2_with fail
  go_ret
  exact⟨rfl,rfl⟩
 ·have h2:32≤n:=by omega
  clear hn
  go_enter Tryz.func103,Tryz.ntmps103
  go_wp2_with fail
  go_ret
  exact⟨rfl,rfl⟩
theorem zfm(h:zb w tag q x)(n:Nat)(hn:n<32):Calls Tryz.prog 103 #[ptrV q.sp,.int .i64 n] w fun e w'=>e=.returned (.int .i64 (x.Yv n))∧w'=w:=by
 have Z:=Lib.hid (h.znh n hn)
 have C5:=Lib.hid (h.countP n 5 hn)
 have C2:=Lib.hid (h.countP n 2 hn)
 have c2:w.cell? ⟨q.sp,2,none⟩=some (.pointer (some ⟨q.pp,0,none⟩)):=h.loc0.cell (i:=2) (by omega)
 have i0:¬(n:Int)<0:=by omega
 have i1:¬(32:Int)≤n:=by omega
 unfold za.Yv
 generalize x.P.zone n=z at Z⊢
 generalize x.P.count n 5=m5 at C5⊢
 generalize x.P.count n 2=m2 at C2⊢
 clear h hn
 unfold ptrV
 by_cases h0:z=0
 ·subst h0
  rw[if_pos rfl]
  go_enter Tryz.func103,Tryz.ntmps103
  go_wp2_with fail
  refine Z.out.mono ?_
  rintro e u ⟨rfl,hu⟩
  have hu:=hu.symm
  subst hu
  go_wp2_with fail
  go_ret
  exact⟨rfl,rfl⟩
 ·rw[if_neg h0]
  have e1:((z:Int)==0)=false:=beq_eq_false_iff_ne.2 (by omega)
  have e2:((z:Int)=0)=False:=eq_false (by omega)
  by_cases h2:z=2
  ·subst h2
   rw[if_pos (.inl rfl)]
   clear h0
   go_enter Tryz.func103,Tryz.ntmps103
   go_wp2_with fail
   refine Z.out.mono ?_
   rintro e u ⟨rfl,hu⟩
   have hu:=hu.symm
   subst hu
   go_wp2_with fail
   refine Z.out.mono ?_
   rintro e u ⟨rfl,hu⟩
   have hu:=hu.symm
   subst hu
   go_wp2_with fail
   go_ret
   exact⟨rfl,rfl⟩
  ·have e3:((z:Int)==2)=false:=beq_eq_false_iff_ne.2 (by omega)
   have e4:((z:Int)=2)=False:=eq_false (by omega)
   by_cases h5:0<m5
   ·have e5:(0:Int)<m5:=by omega
    have HR:Hid ((if z=2∨0<m5∨0<m2 then 5 else 0)=5):=Lib.hid (if_pos (.inr (.inl h5)))
    rw[HR.out]
    clear h0 h2 h5
    go_enter Tryz.func103,Tryz.ntmps103
    go_wp2_with fail
    refine Z.out.mono ?_
    rintro e u ⟨rfl,hu⟩
    have hu:=hu.symm
    subst hu
    go_wp2_with fail
    refine Z.out.mono ?_
    rintro e u ⟨rfl,hu⟩
    have hu:=hu.symm
    subst hu
    go_wp2_with fail
    refine C5.out.mono ?_
    rintro e u ⟨rfl,hu⟩
    have hu:=hu.symm
    subst hu
    go_wp2_with fail
    go_ret
    exact⟨rfl,rfl⟩
   ·have e5:¬(0:Int)<m5:=by omega
    by_cases h6:0<m2
    ·have e6:(0:Int)<m2:=by omega
     have HR:Hid ((if z=2∨0<m5∨0<m2 then 5 else 0)=5):=Lib.hid (if_pos (.inr (.inr h6)))
     rw[HR.out]
     clear h0 h2 h5 h6
     go_enter Tryz.func103,Tryz.ntmps103
     go_wp2_with fail
     refine Z.out.mono ?_
     rintro e u ⟨rfl,hu⟩
     have hu:=hu.symm
     subst hu
     go_wp2_with fail
     refine Z.out.mono ?_
     rintro e u ⟨rfl,hu⟩
     have hu:=hu.symm
     subst hu
     go_wp2_with fail
     refine C5.out.mono ?_
     rintro e u ⟨rfl,hu⟩
     have hu:=hu.symm
     subst hu
     go_wp2_with fail
     refine C2.out.mono ?_
     rintro e u ⟨rfl,hu⟩
     have hu:=hu.symm
     subst hu
     go_wp2_with fail
     go_ret
     exact⟨rfl,rfl⟩
    ·have e6:¬(0:Int)<m2:=by omega
     have HR:Hid ((if z=2∨0<m5∨0<m2 then 5 else 0)=0):=Lib.hid (if_neg (by omega))
     rw[HR.out]
     clear h0 h2 h5 h6
     go_enter Tryz.func103,Tryz.ntmps103
     go_wp2_with fail
     refine Z.out.mono ?_
     rintro e u ⟨rfl,hu⟩
     have hu:=hu.symm
     subst hu
     go_wp2_with fail
     refine Z.out.mono ?_
     rintro e u ⟨rfl,hu⟩
     have hu:=hu.symm
     subst hu
     go_wp2_with fail
     refine C5.out.mono ?_
     rintro e u ⟨rfl,hu⟩
     have hu:=hu.symm
     subst hu
     go_wp2_with fail
     refine C2.out.mono ?_
     rintro e u ⟨rfl,hu⟩
     have hu:=hu.symm
     subst hu
     go_wp2_with fail
     go_ret
     exact⟨rfl,rfl⟩
theorem Qo(w:World)(v:Value)(n c:Int)(hc:c≠0)(CH:Calls Tryz.prog 103 #[v,.int .i64 n] w fun e w'=>e=.returned (.int .i64 c)∧w'=w):Calls Tryz.prog 42 #[v,.int .i64 n] w fun e w'=>e=.returned (.int .i64 c)∧w'=w:=by
 have CH:=Lib.hid CH
 have e1:(c==0)=false:=beq_eq_false_iff_ne.2 hc
 have e2:(c=0)=False:=eq_false hc
 clear hc
 go_enter Tryz.func42,Tryz.ntmps42
 go_wp2_with fail
 refine CH.out.mono ?_
 rintro e u ⟨rfl,hu⟩
 have hu:=hu.symm
 subst hu
 go_wp2_with fail
 go_ret
 exact⟨rfl,rfl⟩
theorem zgw(h:zb w tag q x)(n:Nat)(hn:n<32)(hc:x.Yv n=0)(ok:∀j,j<32→Ok0 (x.xg n j))(hN:∀j,j<32→((x.xg n j).P.use (32*n+j)=3∨(x.xg n j).P.use (32*n+j)=4)→∃to,(x.xg n j).P.next true=some to):
  Calls Tryz.prog 42 #[ptrV q.sp,.int .i64 n] w fun e w'=>e=.returned (.int .i64 0)∧∃tag',zb w' tag' q (x.xg n 32)∧Step CA tag w tag' w':=by
 have CH:=Lib.hid (zfm h n hn)
 rw[hc]at CH
 have hz:x.P.zone n≠0:=fun e=>by unfold za.Yv at hc;rw[if_pos e]at hc;cases hc
 have IS:Hid (Calls Tryz.prog 102 #[.pointer (some ⟨q.pp,0,none⟩),.int .i64 n,.bool true] w fun e w'=>e=.returned (.bool true)∧zb w' tag q (x.xg n 0)∧Step CA tag w tag w'):=by
  refine(h.isolP n hn hz true).mono ?_
  rintro e w1 ⟨rfl,h1,s1⟩
  exact⟨rfl,h1,s1.mono fun c hc=>by unfold CA;omega⟩
 have c2:w.cell? ⟨q.sp,2,none⟩=some (.pointer (some ⟨q.pp,0,none⟩)):=h.loc0.cell (i:=2) (by omega)
 have HN:=Lib.hid (And.intro ok hN)
 clear h hc hz ok hN
 unfold ptrV at *
 go_enter Tryz.func42,Tryz.ntmps42
 go_wp2_with fail
 refine CH.out.mono ?_
 rintro e u ⟨rfl,hu⟩
 have hu:=hu.symm
 subst hu
 clear CH
 go_wp2_with fail
 refine IS.out.mono ?_
 rintro e w1 ⟨rfl,h1,s1⟩
 have H1:=Lib.hid (And.intro h1 s1)
 clear IS c2 h1 s1
 go_wp2_with fail
 refine(Zt w1 n n rfl hn).mono ?_
 rintro e u ⟨rfl,hu⟩
 have hu:=hu.symm
 subst hu
 go_wp2_with fail
 go_loopw [8,9,10,11] (fun iv _ _ _ W=>∃(j:Nat) (tag':Nat→Nat),j≤32∧iv=.int .i64 ((32*n+j:Nat):Int)∧zb W tag' q (x.xg n j)∧Step CA tag w tag' W) (fun iv _ _ _ _=>32*n+32-(intOf iv).toNat)
 case atStart=>exact⟨0,tag,by omega,by go_num,H1.out.1,H1.out.2⟩
 case round=>
  clear H1
  obtain⟨j,tg,hj,rfl,hS,hT⟩:=hrel
  by_cases hlt:j<32
  ·have j0:((32*n+j:Nat):Int)<((n:Int)+1)*32:=by omega
   have US:=Lib.hid (hS.useP (32*n+j) (by omega))
   have c2:wr.cell? ⟨q.sp,2,none⟩=some (.pointer (some ⟨q.pp,0,none⟩)):=hS.loc0.cell (i:=2) (by omega)
   obtain⟨u,hU⟩:∃u,u=(x.xg n j).P.use (32*n+j):=⟨_,rfl⟩
   rw[←hU]at US
   have d5:IntKind.i64.wrap (((32*n+j:Nat):Int)+1)=((32*n+(j+1):Nat):Int):=by simp[IntKind.wrap,IntKind.bits,IntKind.signed];omega
   have HJ:=Lib.hid (And.intro hlt hn)
   by_cases hu:u=3∨u=4
   ·obtain⟨to,hto⟩:=HN.out.2 j hlt (by rw[←hU];exact hu)
    have MV:Hid (Calls Tryz.prog 29 #[.pointer (some ⟨q.sp,0,none⟩),.int .i64 ((32*n+j:Nat):Int)] wr fun e w'=>e=.returned (.tuple #[.int .i64 to,.int .i64 0])∧∃tag',zb w' tag' q (x.xg n (j+1))∧Step CA tag w tag' w'):=by
     refine(zcb hS (HN.out.1 j hlt) (32*n+j) to (by omega) (by rw[←hU];exact hu) hto).mono ?_
     rintro e w1 ⟨rfl,tag1,h1,s1⟩
     have e1:x.xg n (j+1)=(x.xg n j).qh (32*n+j) to:=by
      show(if _ then _ else _)=_
      rw[if_pos (by rw[←hU];exact hu),hto];rfl
     rw[e1]
     exact⟨rfl,tag1,h1,hT.trans s1⟩
    clear hS hT hto hU hlt hj
    rcases hu with rfl|rfl
    all_goals (
     go_wp2_with fail
     refine US.out.mono ?_
     rintro e v ⟨rfl,hv⟩
     have hv:=hv.symm
     subst hv
     go_wp2_with fail
     refine MV.out.mono ?_
     rintro e w2 ⟨rfl,tag2,h2⟩
     have H2:=Lib.hid h2
     clear h2 MV US c2
     go_wp2_with fail
     go_roundw
     case rel=>exact⟨j+1,tag2,by have:=HJ.out.1;omega,by go_num,H2.out.1,H2.out.2⟩
     case measure=>have:=HJ.out.1;simp[intOf];omega)
   ·have e3:((u:Int)==3)=false:=beq_eq_false_iff_ne.2 (by omega)
    have e4:((u:Int)==4)=false:=beq_eq_false_iff_ne.2 (by omega)
    have e5:((u:Int)=3)=False:=eq_false (by omega)
    have e6:((u:Int)=4)=False:=eq_false (by omega)
    have e7:((u:Int) != 3)=true:=by simp only[bne,e3];rfl
    have e8:((u:Int) != 4)=true:=by simp only[bne,e4];rfl
    have H2:Hid (zb wr tg q (x.xg n (j+1))∧Step CA tag w tg wr):=by
     have e1:x.xg n (j+1)=x.xg n j:=by
      show(if _ then _ else _)=_
      rw[if_neg (by rw[←hU];exact hu)]
     rw[e1]
     exact⟨hS,hT⟩
    clear hS hT hU hlt hj hu
    go_wp2_with fail
    refine US.out.mono ?_
    rintro e v ⟨rfl,hv⟩
    have hv:=hv.symm
    subst hv
    clear US c2
    go_wp2_with fail
    go_roundw
    case rel=>exact⟨j+1,tg,by have:=HJ.out.1;omega,by go_num,H2.out.1,H2.out.2⟩
    case measure=>have:=HJ.out.1;simp[intOf];omega
  ·obtain rfl:j=32:=by omega
   have j0:¬((32*n+32:Nat):Int)<((n:Int)+1)*32:=by omega
   have H2:=Lib.hid (And.intro hS hT)
   clear hS hT hlt
   go_wp2_with fail
   exact bodyPost_ret (v:=.int .i64 0) (by simp[results,Tryz.results42,go_sem]) rfl ⟨rfl,tg,H2.out⟩
theorem zkd(w:World)(n:Int):Calls Tryz.prog 40 #[.pointer none,.int .i64 n] w fun e w'=>e=.returned (.tuple #[])∧w'=w:=by
 go_enter Tryz.func40,Tryz.ntmps40
 go_wp2_with fail
 exact bodyPost_end (v:=.tuple #[]) (by simp[results,Tryz.results40,go_sem]) rfl ⟨rfl,rfl⟩
theorem zjv(h:zb w tag q x)(n:Int)(hI:∀t,x.P.iso t=false):Calls Tryz.prog 40 #[ptrV q.sp,.int .i64 n] w fun e w'=>e=.returned (.tuple #[])∧∃tag',zb w' tag' q x∧Step CA tag w tag' w':=by
 have IS:Hid (Calls Tryz.prog 102 #[.pointer (some ⟨q.pp,0,none⟩),.int .i64 n,.bool false] w fun e w'=>(∃b,e=.returned (.bool b))∧zb w' tag q x∧Step CA tag w tag w'):=by
  by_cases hn:0≤n∧n<32
  ·obtain⟨m,rfl⟩:=Int.eq_ofNat_of_zero_le hn.1
   by_cases hz:x.P.zone m=0
   ·have Z:=h.znh m (by omega)
    rw[hz]at Z
    refine(zar _ _ _ _ Z).mono ?_
    rintro e w1 ⟨rfl,rfl⟩
    exact⟨⟨_,rfl⟩,h,Step.refl _ _ _⟩
   ·refine(h.isolP m (by omega) hz false).mono ?_
    rintro e w1 ⟨rfl,h1,s1⟩
    have e1:x.P.isol m false=x.P:=by
     unfold zk.isol
     have:(fun t=>if t=m then false else x.P.iso t)=x.P.iso:=by
      funext t
      split
      ·exact(hI t).symm
      ·rfl
     rw[this]
    rw[e1]at h1
    exact⟨⟨_,rfl⟩,h1,s1.mono fun c hc=>by unfold CA;omega⟩
  ·refine(zar _ _ _ _ (zme w _ n (by omega))).mono ?_
   rintro e w1 ⟨rfl,rfl⟩
   exact⟨⟨_,rfl⟩,h,Step.refl _ _ _⟩
 have c2:w.cell? ⟨q.sp,2,none⟩=some (.pointer (some ⟨q.pp,0,none⟩)):=h.loc0.cell (i:=2) (by omega)
 clear h hI
 unfold ptrV
 go_enter Tryz.func40,Tryz.ntmps40
 go_wp2_with fail
 refine IS.out.mono ?_
 rintro e w1 ⟨⟨b,rfl⟩,h1⟩
 have H1:=Lib.hid h1
 clear h1 IS c2
 go_wp2_with fail
 exact bodyPost_end (v:=.tuple #[]) (by simp[results,Tryz.results40,go_sem]) rfl ⟨rfl,tag,H1.out⟩
end
theorem zhk{P:zk}{s:Nat}{b:Bool}(hz:P.zone s≠2):(P.isol s b).room=P.room:=by
 unfold zk.room
 refine List.countP_congr fun f _=>?_
 unfold zk.Y3 zk.isol
 dsimp only
 simp only[decide_eq_true_eq]
 by_cases e:f/32=s
 ·rw[if_pos e,e]
  exact⟨fun h=>absurd h.2.1 hz,fun h=>absurd h.2.1 hz⟩
 ·rw[if_neg e]
theorem zcx{P:zk}{s u:Nat}(h:∀i,i<32→P.use (32*s+i)=u):P.count s u=32:=by
 unfold zk.count zk.Yg
 have:(List.range 32).countP (fun i=>decide (P.use (32*s+i)=u))=(List.range 32).length:=by
  rw[List.countP_eq_length]
  intro i hi
  have hi:i<32:=by simpa using hi
  simpa using h i hi
 rw[this];rfl
structure EmpD(y:za)(to:Nat)(z:za)(pg at_:Nat)(b:List UInt8):Prop where
 check:y.Yv 1=0
 ok:∀j,j<32→Ok0 (y.xg 1 j)
 nx:∀j,j<32→((y.xg 1 j).P.use (32*1+j)=3∨(y.xg 1 j).P.use (32*1+j)=4)→∃to,(y.xg 1 j).P.next true=some to
 fin:y.xg 1 32=z
 okz:Ok0 z
 use:∀g,32≤g→g<64→z.P.use g=1
 some:(z.T 0).isSome=true
 zone:z.P.zone=(vw 2).zone
 load:z.Ve 0 ((64*pg+at_:Nat):Int) b.length=((b,0),z)
 ent:(z.ent 0 pg).kind=1∧(z.ent 0 pg).n=to∧to<1024∧64≤to
 area:∃pr,z.T 0=Option.some pr∧yh pr.A ((pg:Nat):Int)=Option.some arO
 bytes:((z.R.read to 0 64).drop at_).take b.length=b
theorem empD{x y:za}{pg at_ f:Nat}{b:List UInt8}(h:OneD x pg at_ b y f)(hpg:pg<8)(hb:0<b.length∧at_+b.length≤64):∃to z,EmpD y to z pg at_ b:=by
 obtain⟨y0,hy0⟩:∃y0:za,y0={y with P:=y.P.isol 1 true}:=⟨_,rfl⟩
 have hz:∀s,s<3→y.P.zone s=if s=0 then 2 else 3:=fun s hs=>by
  rw[h.zone.1,(jv 2 s).1]
  by_cases e:s=0
  ·rw[if_pos e,if_pos e]
  ·rw[if_neg e,if_neg e,if_pos (by omega)]
 have hz1:y.P.zone 1=3:=hz 1 (by omega)
 have hu:∀g,32≤g→g<64→y.P.use g=if g=f then 3 else 1:=fun g h1 h2=>h.use g h1 (by omega)
 have hf:=h.sec
 obtain⟨ok0,ab0⟩:=h.ok.pool (y.P.isol 1 true) (fun g=>.inl rfl)
 rw[←hy0]at ok0 ab0
 have u0:∀g,y0.P.use g=y.P.use g:=fun g=>by rw[hy0];rfl
 have hroom0:y0.P.room=y.P.room:=by rw[hy0];exact zhk (by omega)
 obtain⟨to,hto,ht1,ht2⟩:=Um (P:=y0.P) (s:=2) (i:=64) (by omega) (by rw[hy0];exact hz 2 (by omega)) (by
  rw[hy0]
  show(if 2=1 then true else y.P.iso 2)=false
  rw[if_neg (by decide),h.zone.2]
  exact(jv 2 2).2) (fun t ht q=>by
  rw[hy0]at q
  have q1:y.P.zone t=3:=q.1
  have q2:(if t=1 then true else y.P.iso t)=false:=q.2
  have ht:t=0∨t=1:=by omega
  rcases ht with rfl|rfl
  ·rw[hz 0 (by omega)]at q1;exact absurd q1 (by decide)
  ·rw[if_pos rfl]at q2;cases q2) (by omega) (by rw[u0,h.use 64 (by omega) (by omega),if_neg (by omega)])
 have huf:y0.P.use f=3:=by rw[u0,hu f (by omega) (by omega),if_pos rfl]
 have mv:=ok0.qh (f:=f) (by omega) (.inl huf) hto
 obtain⟨z,hzz⟩:∃z,z=y0.qh f to:=⟨_,rfl⟩
 rw[←hzz]at mv
 have uz:∀g,32≤g→g<64→z.P.use g=1:=fun g h1 h2=>by
  by_cases e:g=f
  ·rw[e];exact mv.use.1
  ·have e1:y0.P.use g=1:=by rw[u0,hu g h1 h2,if_neg e]
   rw[mv.others g e (by omega) (by omega)]
   exact e1
 have st:∀j,j≤32→y.xg 1 j=if j≤f-32 then y0 else z:=by
  intro j
  induction j with
  | zero=>
   intro _
   rw[if_pos (by omega),hy0];rfl
  | succ j ih=>
   intro hj
   have e0:y.xg 1 (j+1)=if(y.xg 1 j).P.use (32*1+j)=3∨(y.xg 1 j).P.use (32*1+j)=4 then(y.xg 1 j).qh (32*1+j) (((y.xg 1 j).P.next true).getD 0)else y.xg 1 j:=rfl
   rw[e0,ih (by omega)]
   by_cases c:j≤f-32
   ·rw[if_pos c]
    by_cases c2:j=f-32
    ·have e1:32*1+j=f:=by omega
     rw[e1,if_pos (.inl huf),hto,if_neg (by omega),hzz];rfl
    ·rw[if_neg,if_pos (by omega)]
     rw[u0,hu _ (by omega) (by omega),if_neg (by omega)]
     omega
   ·rw[if_neg c,if_neg,if_neg (by omega)]
    rw[uz _ (by omega) (by omega)]
    omega
 have habs:z.abs=y.abs:=mv.abs.trans ab0
 have hsz:(z.T 0).isSome=true:=by rw[mv.keeps.some,hy0];exact h.some
 have hpz:PgOk z.abs arO 0 pg:=by rw[habs];exact h.pgok
 have hent:(z.ent 0 pg).kind=1∧(z.ent 0 pg).n=to:=by
  have e0:y0.ent 0 pg=y.ent 0 pg:=by rw[hy0];rfl
  have hm:plc 0 pg∈y0.B (f:Int):=(ok0.ok.backE f 0 pg (by omega) (by omega) (by omega)).2 (by rw[e0];exact h.ent)
  have:=mv.ent 0 pg (by omega)
  rw[if_pos hm]at this
  rw[this]
  exact⟨rfl,rfl⟩
 obtain⟨pr,hpr⟩:=Option.isSome_iff_exists.1 hsz
 have har:yh pr.A ((pg:Nat):Int)=some arO:=by rw[←Y4 hpr];exact hpz.area
 have z1:(64*pg+at_)/64=pg:=by omega
 have z2:(64*pg+at_)%64=at_:=by omega
 have hcz:z.D.Calm:=by rw[mv.disk,hy0];exact h.calm
 obtain⟨v,e3,dl⟩:=mv.ok.loadQ (n:=0) (by omega) (a0:=64*pg+at_) (s:=b.length) hb.1 (by rw[z2];omega) (by omega) (by rw[z1];exact hpz.can) (by have:=mv.keeps.room;have:=h.room;omega) hcz
 have hvz:v=z:=by
  rw[←dl.eq,z1]
  unfold za.askF
  rw[hpr]
  dsimp only
  rw[har]
  dsimp only
  rw[if_neg (by simp),if_neg (by simp)]
  unfold za.zt
  rw[if_neg (by omega),if_neg (by omega),if_neg (by omega)]
 subst hvz
 refine⟨to,v,?_,fun j hj=>?_,fun j hj hq=>?_,by rw[st 32 (by omega),if_neg (by omega)],mv.ok,uz,hsz,by rw[mv.keeps.zone.1,hy0];exact h.zone.1,?_,⟨hent.1,hent.2,by omega,ht1⟩,⟨pr,hpr,har⟩,?_⟩
 ·unfold za.Yv
  rw[hz1,if_neg (by decide),if_neg]
  have c5:y.P.count 1 5=0:=Uu fun i hi=>by
   rw[hu (32*1+i) (by omega) (by omega)];split<;>omega
  have c2:y.P.count 1 2=0:=Uu fun i hi=>by
   rw[hu (32*1+i) (by omega) (by omega)];split<;>omega
  omega
 ·rw[st j (by omega)]
  split
  ·exact ok0
  ·exact mv.ok
 ·rw[st j (by omega)]at hq⊢
  by_cases c:j≤f-32
  ·rw[if_pos c];exact⟨to,hto⟩
  ·rw[if_neg c,uz _ (by omega) (by omega)]at hq;omega
 ·refine Eq.trans e3 ?_
  rw[z1,z2,habs,h.ct]
 ·have hct:=zfq mv.ok.ok (by omega) hpr (by omega) har hent.1
  rw[hent.2,Int.toNat_natCast,habs]at hct
  rw[←hct];exact h.ct
theorem Xp(w:World)(m:Nat)(hm:m≤4):Calls Tryz.prog 39 #[.int .i64 m] w fun e w'=>∃q x p,e=.returned (.tuple #[ptrV q.sp,ptrV p])∧AtQ w [] q x w'∧StK m zx.none x:=by
 have hm':(m:Int)≤4:=by omega
 go_enter Tryz.func39,Tryz.ntmps39
 go_wp2_with fail
 refine(ze3 w).mono ?_
 rintro e w1 ⟨rfl,hp,hb,hz⟩
 obtain⟨tag1,ht1⟩:∃tag1,tag1=retag (fun _=>0) w 2:=⟨_,rfl⟩
 have e1:Hid ((∀b,w.heap.size≤b→tag1 b=2)∧∀b,b<w.heap.size→tag1 b=0):=by rw[ht1];exact⟨fun b hb=>yc _ _ _ _ hb,fun b hb=>if_pos hb⟩
 have HP:Hid (zq w1 (fun b=>tag1 b=2) (w.heap.size+2) (w.heap.size+1) w.heap.size zk.none∧Below w.heap.size w w1):=⟨hp.loc fun k _ ho=>⟨e1.out.1 k ho,rfl⟩,hb⟩
 clear hp hb hz ht1
 obtain⟨pp,hpp⟩:∃pp,pp=w.heap.size+2:=⟨_,rfl⟩
 obtain⟨fs,hfs⟩:∃fs,fs=w.heap.size+1:=⟨_,rfl⟩
 obtain⟨fb,hfb⟩:∃fb,fb=w.heap.size:=⟨_,rfl⟩
 rw[←hpp,←hfs]at HP
 rw[←hpp]
 have HP2:Hid (zq w1 (fun b=>tag1 b=2) pp fs fb zk.none∧Below w.heap.size w w1):=by rw[hfb];exact HP
 clear hpp hfs hfb HP
 go_wp2_with fail
 refine(Y6 _ _ pp fs fb _ HP2.out.1 0 2 0 2 rfl rfl (by omega) (.inl rfl) rfl).mono ?_
 rintro e w2 ⟨rfl,h1,h2⟩
 have H2:Hid (zq w2 (fun b=>tag1 b=2) pp fs fb (vw 0)∧Turn (fun b=>tag1 b=2) w1 w2):=Lib.hid (And.intro h1 h2)
 clear h1 h2
 go_wp2_with fail
 go_loopw [5] (fun iv W=>∃j:Nat,j≤m∧iv=.int .i64 j∧zq W (fun b=>tag1 b=2) pp fs fb (vw j)∧Turn (fun b=>tag1 b=2) w1 W) (fun iv _=>m-(intOf iv).toNat)
 case atStart=>exact⟨0,by omega,rfl,H2.out.1,H2.out.2⟩
 case round=>
  clear H2
  obtain⟨j,hj,rfl,hP,hT⟩:=hrel
  by_cases hlt:j<m
  ·have hlt':(j:Int)<m:=by omega
   have i0:(0:Int)≤j:=by omega
   have OW:Hid (Calls Tryz.prog 53 #[.pointer (some ⟨pp,0,none⟩),.int .i64 (1+(j:Int)),.int .i64 3,.slice none 0 0] wr fun e w'=>e=.returned (.int .i64 0)∧zq w' (fun b=>tag1 b=2) pp fs fb (vw (j+1))∧Turn (fun b=>tag1 b=2) w1 w'):=by
    refine(Y6 _ _ pp fs fb _ hP (1+(j:Int)) 3 (1+j) 3 (by omega) rfl (by omega) (.inr rfl) (by rw[(jv j (1+j)).1,if_neg (by omega),if_neg (by omega)])).mono ?_
    rintro e w3 ⟨rfl,h1,h2⟩
    exact⟨rfl,h1,hT.trans h2⟩
   have HM:=Lib.hid (And.intro hlt hm)
   clear hP hT hm hlt
   go_wp2_with fail
   refine OW.out.mono ?_
   rintro e w3 ⟨rfl,h1,h2⟩
   have H3:=Lib.hid (And.intro h1 h2)
   clear h1 h2 OW
   have d5:IntKind.i64.wrap ((j:Int)+1)=((j+1:Nat):Int):=by simp[IntKind.wrap,IntKind.bits,IntKind.signed];omega
   go_wp2_with fail
   go_roundw
   case rel=>exact⟨j+1,by have:=HM.out.1;omega,by go_num,H3.out.1,H3.out.2⟩
   case measure=>have:=HM.out.1;simp[intOf];omega
  ·obtain rfl:j=m:=by omega
   have H3:Hid (zq wr (fun b=>tag1 b=2) pp fs fb (vw j)∧Turn (fun b=>tag1 b=2) w1 wr):=⟨hP,hT⟩
   obtain⟨w3,hw3⟩:∃w3,w3=wr:=⟨_,rfl⟩
   have hb3:Below w.heap.size w wr:=HP2.out.2.trans (hT.Xv (fun b hb=>by
    rcases Nat.lt_or_ge b w.heap.size with h|h
    ·exact absurd (e1.out.2 b h) (by omega)
    ·exact h) HP2.out.2.size)
   have HB3:=Lib.hid (And.intro hb3 e1.out.2)
   clear hb3 HP2 e1 hP hT hlt hj hm'
   rw[←hw3]at H3 HB3⊢
   clear hw3
   go_wp2_with fail
   refine(zjy w3).mono ?_
   rintro e w4 ⟨rfl,hR,hb4,_⟩
   have s4:Step (fun _=>False) tag1 w3 (retag tag1 w3 1) w4:=Step.renew 1 hb4
   have H4:Hid (qi w4 (fun b=>retag tag1 w3 1 b=1) (w3.heap.size+1) w3.heap.size RamS.none∧zq w4 (fun b=>retag tag1 w3 1 b=2) pp fs fb (vw j)∧Step (fun _=>False) tag1 w3 (retag tag1 w3 1) w4):=Lib.hid ⟨hR.loc fun k _ ho=>⟨yc _ _ _ _ ho,rfl⟩,H3.out.1.loc (s4.keeps id),s4⟩
   clear hR hb4 s4
   generalize w3.heap.size+1=rp at H4⊢
   generalize w3.heap.size=rb at H4
   generalize retag tag1 w3 1=tag4 at H4
   go_wp2_with fail
   refine(zft w4).mono ?_
   rintro e w5 ⟨rfl,hD,hb5⟩
   have s5:Step (fun _=>False) tag4 w4 (retag tag4 w4 3) w5:=Step.renew 3 hb5
   have H5:Hid (qi w5 (fun b=>retag tag4 w4 3 b=1) rp rb RamS.none∧zq w5 (fun b=>retag tag4 w4 3 b=2) pp fs fb (vw j)∧Xw w5 (fun b=>retag tag4 w4 3 b=3) (w4.heap.size+1) zx.none∧Step (fun _=>False) tag1 w3 (retag tag4 w4 3) w5):=Lib.hid ⟨H4.out.1.loc (s5.keeps id),H4.out.2.1.loc (s5.keeps id),hD.loc fun k _ ho=>⟨yc _ _ _ _ ho,rfl⟩,H4.out.2.2.trans s5⟩
   clear hD hb5 s5 H4
   generalize w4.heap.size+1=dp at H5⊢
   generalize retag tag4 w4 3=tag5 at H5
   have SN:=Lib.hid (zc6 (w:=w5) (tag:=tag5) rp rb pp fs fb dp H5.out.1 H5.out.2.1 H5.out.2.2.1)
   unfold ptrV at SN
   go_wp2_with fail
   refine SN.out.mono ?_
   rintro e w6 ⟨q,tag6,rfl,hS,s6⟩
   have h6:AtQ w [] q (za.start RamS.none (vw j) zx.none) w6:=by
    have st:=H5.out.2.2.2.trans s6
    have hb:=HB3.out.1.trans (st.turn.below.mono HB3.out.1.size)
    exact⟨⟨tag6,hS,fun b hb'=>(st.keeps (c:=0) id b (by have:=HB3.out.1.size;omega) (HB3.out.2 b hb')).1,fun p hp=>by cases hp⟩,hb⟩
   have hsz6:=Lib.hid h6.bel.size
   obtain⟨g,hg⟩:=ze5 (P:=vw j) (by have:=Uj j;omega)
   have ok6:Ok0 (za.start RamS.none (vw j) zx.none):=zaz (vw j) zx.none (fun f=>by rw[Xh];split<;>omega) fun s _=>Xt s
   have I0:=Lib.hid (StI.start (m:=j) (D:=zx.none) (fun s _=>Xt s) hg)
   obtain⟨p,hp⟩:∃p,p=w6.heap.size:=⟨_,rfl⟩
   obtain⟨W7,hW7⟩:∃W7,W7=w6.alloc (.cells Tryz.zeroCells94 94 (0,0)):=⟨_,rfl⟩
   have hR7:=zev w6
   have h7:AtB w [p] W7 q (za.start RamS.none (vw j) zx.none) W7:=by
    rw[hW7]
    exact(AtB.ofQ h6).own (S:=[]) (Touch.of_below ((Below.refl _ _).alloc (Nat.le_refl _) _)) (fun b hb=>by cases hb) fun b hb=>by
     simp at hb
     rw[hb,hp]
     exact⟨.inr (Nat.le_refl _),by simp⟩
   rw[←hW7,←hp]at hR7
   have SP:=Lib.hid (h7.spawn ok6 0 g (by omega) rfl hg)
   have H7:=Lib.hid (And.intro h7 (And.intro hR7 hp))
   unfold ptrV at SP
   clear hg h6 h7 hR7 SN H5 H3 HB3 hS s6 ok6
   go_wp2_with fail
   rw[←hW7,←hp]
   clear hW7 hp
   refine SP.out.mono ?_
   rintro e w8 ⟨rfl,u,h8⟩
   have e8:(q.at_ 0 u).sp=q.sp:=rfl
   generalize q.at_ 0 u=q8 at h8 e8
   rw[←e8]
   clear e8
   obtain⟨x8,hx8⟩:∃x8,x8=(za.start RamS.none (vw j) zx.none).qz 0 g:=⟨_,rfl⟩
   rw[←hx8]at h8 I0
   clear hx8 SP
   have hR8:=H7.out.2.1.keep (h8.same (by simp))
   have RS:=Lib.hid (zc3 w8 p _ hR8 Vw.2)
   have H8:=Lib.hid h8
   clear h8 hR8
   go_wp2_with fail
   refine RS.out.mono ?_
   rintro e w9 ⟨rfl,v9,k1,k2,t9,ho9⟩
   obtain⟨b,off,c,rfl,hc1,_,_⟩:=SlAt.cells k2 (by simp[prL])
   obtain⟨lb,hlb⟩:∃lb,lb=w9.heap.size:=⟨_,rfl⟩
   obtain⟨W10,hW10⟩:∃W10,W10=w9.alloc (.cells (Z4 arO++Z4 arS++Z4 arP).toArray 32 (0,0)):=⟨_,rfl⟩
   have hbA:Below w9.heap.size w9 W10:=by rw[hW10];exact(Below.refl _ _).alloc (Nat.le_refl _) _
   have hb8:=ho9 b rfl
   have hb9:=SlAt.lt k2 b rfl
   have hp8:=H8.out.lt (b:=p) (by simp)
   have hw8:=H8.out.bel.size
   have hRl:Row W10 lb 18 lG:=by
    rw[hW10,hlb]
    refine Row.new w9 18 lG _ _ rfl fun i hi=>?_
    unfold lG
    rw[←Array.getElem?_toList,List.getD_eq_getElem?_getD]
    show(Z4 arO++Z4 arS++Z4 arP)[i]?=_
    rw[List.getElem?_eq_getElem (by simpa[Z4]using hi)]
    rfl
   have h10:AtR w lb p b off c (fun i=>if i=0 then .slice (some ⟨b,off,none⟩) 1 c else Tryz.zeroCells94.getD i undef) q8 x8 [] W10:=by
    refine⟨⟨.slice none 0 0,.slice none 0 0,W10,?_,Row.below k1 hbA,SlAt.below k2 hbA,SlRd.nil _ _,hRl⟩,by omega,by omega,by omega,if_pos rfl⟩
    refine H8.out.own (S:=[p]) (t9.trans (Touch.of_below hbA)) (fun g hg=>by simp at hg;rw[hg];exact⟨by simp,by have:=H7.out.2.2;have:=hsz6.out;omega⟩) fun g hg=>?_
    have hsz:=hbA.size
    have h99:=t9.size
    have hlt:lb<W10.heap.size:=hRl.lt
    simp[ownL,Value.ownBlock]at hg
    rcases hg with rfl|rfl|rfl
    ·exact⟨.inr (by omega),hlt⟩
    ·exact⟨.inl (by simp),by omega⟩
    ·exact⟨.inr hb8,by omega⟩
   have H10:=Lib.hid h10
   clear k1 k2 t9 ho9 hc1 hbA hb8 hb9 hp8 hw8 hRl h10 H8 RS H7
   go_wp2_with fail
   rw[show w9.alloc (.cells #[.int .i64 0,.int .i64 8,.bool true,.int .i64 1,.int .i64 0,.int .i64 0,.int .i64 8,.int .i64 8,.bool true,.int .i64 2,.int .i64 0,.int .i64 0,.int .i64 16,.int .i64 8,.bool true,.int .i64 3,.int .i64 0,.int .i64 4] 32)=W10 from hW10.symm,←hlb]
   clear hW10 hlb
   obtain⟨T,hT⟩:=I0.out.proc
   have HT:=Lib.hid hT
   clear hT
   have c0:W10.cell? ⟨lb,0,none⟩=some (.int .i64 0):=H10.out.row.cell (by omega)
   have c1:W10.cell? ⟨lb,1,none⟩=some (.int .i64 8):=H10.out.row.cell (by omega)
   have c2:W10.cell? ⟨lb,2,none⟩=some (.bool true):=H10.out.row.cell (by omega)
   have c3:W10.cell? ⟨lb,3,none⟩=some (.int .i64 1):=H10.out.row.cell (by omega)
   have c4:W10.cell? ⟨lb,4,none⟩=some (.int .i64 0):=H10.out.row.cell (by omega)
   have c5:W10.cell? ⟨lb,5,none⟩=some (.int .i64 0):=H10.out.row.cell (by omega)
   refine wp_loop_rounds 4 ?_
   have M1:=Lib.hid (H10.out.map I0.out.ok HT.out arO xw.1.1 xw.1.2 xq.2.2.1 (by simp))
   rw[Yk]at M1
   have I1:Hid (StI j zx.none [arO] _ _):=Lib.hid (I0.out.map HT.out xw.1.1 xq.2.2.1 (by simp) (by rw[Yk];simp) (by rw[Yk];simp))
   rw[rounds_succ]
   go_wp2_with fail
   refine M1.out.mono ?_
   rintro e w11 ⟨rfl,ha⟩
   clear c0 c1 c2 c3 c4 c5 M1 H10
   have c0:w11.cell? ⟨lb,0,none⟩=some (.int .i64 0):=ha.row.cell (by omega)
   have c1:w11.cell? ⟨lb,1,none⟩=some (.int .i64 8):=ha.row.cell (by omega)
   have c2:w11.cell? ⟨lb,2,none⟩=some (.bool true):=ha.row.cell (by omega)
   have c3:w11.cell? ⟨lb,3,none⟩=some (.int .i64 1):=ha.row.cell (by omega)
   have c4:w11.cell? ⟨lb,4,none⟩=some (.int .i64 0):=ha.row.cell (by omega)
   have c5:w11.cell? ⟨lb,5,none⟩=some (.int .i64 0):=ha.row.cell (by omega)
   have RM:=Lib.hid (ha.rmap arO xw.1.1 xw.1.2 (by intro x hx;cases hx) (by simp) zgm.1)
   rw[Yk]at RM
   clear ha
   unfold ptrV at RM
   go_wp2_with fail
   refine RM.out.mono ?_
   rintro e w12 ⟨rfl,hb⟩
   have H12:=Lib.hid hb
   clear RM c0 c1 c2 c3 c4 c5
   have c0:w12.cell? ⟨lb,6,none⟩=some (.int .i64 8):=hb.row.cell (by omega)
   have c1:w12.cell? ⟨lb,7,none⟩=some (.int .i64 8):=hb.row.cell (by omega)
   have c2:w12.cell? ⟨lb,8,none⟩=some (.bool true):=hb.row.cell (by omega)
   have c3:w12.cell? ⟨lb,9,none⟩=some (.int .i64 2):=hb.row.cell (by omega)
   have c4:w12.cell? ⟨lb,10,none⟩=some (.int .i64 0):=hb.row.cell (by omega)
   have c5:w12.cell? ⟨lb,11,none⟩=some (.int .i64 0):=hb.row.cell (by omega)
   clear hb
   go_wp2_with fail
   have hT1:(x8.put 0 ⟨T,[arO],[]⟩).T 0=some ⟨T,[arO],[]⟩:=by simp[za.put]
   have M2:=Lib.hid (H12.out.map I1.out.ok hT1 arS xw.2.1.1 xw.2.1.2 xq.2.2.2.1 (by simp))
   have I2:=Lib.hid (I1.out.map hT1 xw.2.1.1 xq.2.2.2.1 (by simp) (by rw[xq.1];simp) (by rw[xq.1];simp[arO,arS]))
   rw[show insA ([arO]:List Ar) arS=[arO,arS]from xq.1]at M2 I2
   clear hT1
   rw[rounds_succ]
   go_wp2_with fail
   refine M2.out.mono ?_
   rintro e w13 ⟨rfl,ha⟩
   clear c0 c1 c2 c3 c4 c5 M2 H12
   have c0:w13.cell? ⟨lb,6,none⟩=some (.int .i64 8):=ha.row.cell (by omega)
   have c1:w13.cell? ⟨lb,7,none⟩=some (.int .i64 8):=ha.row.cell (by omega)
   have c2:w13.cell? ⟨lb,8,none⟩=some (.bool true):=ha.row.cell (by omega)
   have c3:w13.cell? ⟨lb,9,none⟩=some (.int .i64 2):=ha.row.cell (by omega)
   have c4:w13.cell? ⟨lb,10,none⟩=some (.int .i64 0):=ha.row.cell (by omega)
   have c5:w13.cell? ⟨lb,11,none⟩=some (.int .i64 0):=ha.row.cell (by omega)
   have RM:=Lib.hid (ha.rmap arS xw.2.1.1 xw.2.1.2 (by intro x hx;simp at hx;rw[hx];exact xw.1.1) (by simp) zgm.2.1)
   rw[(show insA ([arO]:List Ar) arS=[arO,arS]from xq.1)]at RM
   clear ha
   unfold ptrV at RM
   go_wp2_with fail
   refine RM.out.mono ?_
   rintro e w14 ⟨rfl,hb⟩
   have H14:=Lib.hid hb
   clear RM c0 c1 c2 c3 c4 c5
   have c0:w14.cell? ⟨lb,12,none⟩=some (.int .i64 16):=hb.row.cell (by omega)
   have c1:w14.cell? ⟨lb,13,none⟩=some (.int .i64 8):=hb.row.cell (by omega)
   have c2:w14.cell? ⟨lb,14,none⟩=some (.bool true):=hb.row.cell (by omega)
   have c3:w14.cell? ⟨lb,15,none⟩=some (.int .i64 3):=hb.row.cell (by omega)
   have c4:w14.cell? ⟨lb,16,none⟩=some (.int .i64 0):=hb.row.cell (by omega)
   have c5:w14.cell? ⟨lb,17,none⟩=some (.int .i64 4):=hb.row.cell (by omega)
   clear hb
   go_wp2_with fail
   have hT2:((x8.put 0 ⟨T,[arO],[]⟩).put 0 ⟨T,[arO,arS],[]⟩).T 0=some ⟨T,[arO,arS],[]⟩:=by simp[za.put]
   have M3:=Lib.hid (H14.out.map I2.out.ok hT2 arP xw.2.2.1 xw.2.2.2 xq.2.2.2.2 (by simp))
   have I3:=Lib.hid (I2.out.map hT2 xw.2.2.1 xq.2.2.2.2 (by simp) (by rw[xq.2.1];simp) (by rw[xq.2.1];simp[arO,arS,arP]))
   rw[xq.2.1]at M3 I3
   clear hT2
   rw[rounds_succ]
   go_wp2_with fail
   refine M3.out.mono ?_
   rintro e w15 ⟨rfl,ha⟩
   clear c0 c1 c2 c3 c4 c5 M3 H14
   have c0:w15.cell? ⟨lb,12,none⟩=some (.int .i64 16):=ha.row.cell (by omega)
   have c1:w15.cell? ⟨lb,13,none⟩=some (.int .i64 8):=ha.row.cell (by omega)
   have c2:w15.cell? ⟨lb,14,none⟩=some (.bool true):=ha.row.cell (by omega)
   have c3:w15.cell? ⟨lb,15,none⟩=some (.int .i64 3):=ha.row.cell (by omega)
   have c4:w15.cell? ⟨lb,16,none⟩=some (.int .i64 0):=ha.row.cell (by omega)
   have c5:w15.cell? ⟨lb,17,none⟩=some (.int .i64 4):=ha.row.cell (by omega)
   have RM:=Lib.hid (ha.rmap arP xw.2.2.1 xw.2.2.2 (by intro x hx;simp at hx;rcases hx with rfl|rfl;exact xw.1.1;exact xw.2.1.1) (by simp) zgm.2.2)
   rw[xq.2.1]at RM
   clear ha
   unfold ptrV at RM
   go_wp2_with fail
   refine RM.out.mono ?_
   rintro e w16 ⟨rfl,hb⟩
   have H16:=Lib.hid hb
   clear RM c0 c1 c2 c3 c4 c5
   clear hb
   go_wp2_with fail
   rw[rounds_succ]
   go_wp2_with fail
   have FN:Hid (AtQ w [] q8 (((x8.put 0 ⟨T,[arO],[]⟩).put 0 ⟨T,[arO,arS],[]⟩).put 0 ⟨T,[arO,arS,arP],[]⟩) w16):=by
    obtain⟨⟨av,s,wk,k,_⟩,_⟩:=H16.out
    exact k.toQ
   exact bodyPost_ret (v:=.tuple #[.pointer (some ⟨q8.sp,0,none⟩),.pointer (some ⟨p,0,none⟩)]) (by simp[results,Tryz.results39,go_sem]) rfl ⟨q8,_,p,rfl,FN.out,I3.out.done⟩
section
variable {w0 w w':World}{V:List (Value×List Value)}{q:Sq}{x y z:za}{pg at_ to:Nat}{b:List UInt8}
theorem AtQ.empty(h:AtQ w0 V q y w)(e:EmpD y to z pg at_ b):Calls Tryz.prog 42 #[ptrV q.sp,.int .i64 1] w fun e w'=>e=.returned (.int .i64 0)∧AtQ w0 V q z w':=by
 refine h.go CA0 fun tag hS=>?_
 have:=zgw hS 1 (by omega) e.check e.ok e.nx
 rw[e.fin]at this
 exact this
theorem AtQ.zee(h:AtQ w0 V q x w)(n:Nat)(hn:n<32){c:Nat}(hc:x.Yv n=c)(h0:c≠0):Calls Tryz.prog 42 #[ptrV q.sp,.int .i64 n] w fun e w'=>e=.returned (.int .i64 c)∧w'=w:=by
 obtain⟨tag,hS,_⟩:=h.st
 have:=zfm hS n hn
 rw[hc]at this
 exact Qo w _ n c (by omega) this
theorem AtQ.undo(h:AtQ w0 V q x w)(n:Int)(hI:∀t,x.P.iso t=false):Calls Tryz.prog 40 #[ptrV q.sp,.int .i64 n] w fun e w'=>e=.returned (.tuple #[])∧AtQ w0 V q x w':=
 h.go CA0 fun _ hS=>zjv hS n hI
theorem OneD.count{f:Nat}(h:OneD x pg at_ b y f):y.P.count 1 3=1:=by
 have hs:=h.sec
 refine count_one (f:=f) (by omega) fun i hi=>?_
 have:=h.use (32*1+i) (by omega) (by omega)
 rw[this]
 by_cases e:32*1+i=f
 ·rw[if_pos e];exact⟨fun _=>e,fun _=>rfl⟩
 ·rw[if_neg e];exact⟨fun k=>(by omega),fun k=>absurd k e⟩
end
theorem Zw(w:World):Calls Tryz.prog 41 #[] w fun e w'=>e=.returned (.bool true)∧Below w.heap.size w w':=by
 have kc:=fun(w:World) (C:Array Value) (n c:Nat)=>Lib.run_convert_bytes_const (P:=Tryz.prog) w 22 5 C n c Tryz.underlying22 Tryz.underlying5
 go_enter Tryz.func41,Tryz.ntmps41
 go_wp2_with fail
 refine(Xp w 2 (by omega)).mono ?_
 rintro e w1 ⟨q,x,p,rfl,h1,hx⟩
 obtain⟨y,f,hone⟩:=oneD hx (pg:=0) (at_:=5) (b:=l20) (by omega) (by decide)
 obtain⟨to,z,hemp⟩:=empD hone (by omega) (by decide)
 have HO:=Lib.hid hone
 have HM:=Lib.hid hemp
 have HX:=Lib.hid hx
 have H1:=Lib.hid h1
 clear h1 hx hone hemp
 unfold ptrV at *
 go_wp2_with fail
 have hb4:Below w1.heap.size w1 (w1.alloc (.cells #[.int .u8 120,.int .u8 121,.int .u8 122] 5 (3,4))):=(Below.refl _ _).alloc (Nat.le_refl _) _
 have hv4:BRd (w1.alloc (.cells #[.int .u8 120,.int .u8 121,.int .u8 122] 5 (3,4))) (.slice (some ⟨w1.heap.size,0,none⟩) 3 3) l20:=by
  refine⟨rfl,.inr ⟨w1.heap.size,0,3,rfl,Nat.le_refl _,by decide,by simp,fun j u hu=>?_⟩⟩
  rw[Nat.zero_add,zba,←hu]
  exact zch j
 have H4:=Lib.hid (H1.out.more hb4 hv4 fun b hb=>.inr (by simp[Value.ownBlock]at hb;omega))
 clear hb4 hv4 H1
 have ST:=Lib.hid (H4.out.store HX.out.ok (n:=0) (by omega) (outM HX.out).2.2 (64*0+5) (.inl (List.mem_cons_self ..)) HO.out.right)
 rw[show x.Yi ((0:Nat):Int) ((64*0+5:Nat):Int) l20=(0,y)from HO.out.store]at ST
 refine ST.out.mono ?_
 rintro e w5 ⟨rfl,h5⟩
 have c2:w5.cell? ⟨q.sp,2,none⟩=some (.pointer (some ⟨q.pp,0,none⟩)):=h5.cell (i:=2) (by omega)
 have CN:=h5.count 1 3 (by omega)
 rw[HO.out.count]at CN
 have CNN:=Lib.hid CN
 have EM:=Lib.hid (h5.empty HM.out)
 clear h5 ST H4 kc CN
 unfold ptrV at EM
 go_wp2_with fail
 refine CNN.out.mono ?_
 rintro e u ⟨rfl,hu⟩
 have hu:=hu.symm
 subst hu
 go_wp2_with fail
 refine EM.out.mono ?_
 rintro e w6 ⟨rfl,h6⟩
 have LD:=Lib.hid (h6.load HM.out.okz (n:=0) (by omega) HM.out.some ((64*0+5:Nat):Int) l20.length)
 rw[show z.Ve ((0:Nat):Int) ((64*0+5:Nat):Int) l20.length=((l20,0),z)from HM.out.load]at LD
 clear h6 EM CNN c2
 unfold ptrV at LD
 go_wp2_with fail
 refine LD.out.mono ?_
 rintro e w7 ⟨vv,rfl,h7⟩
 have hv:=h7.get (List.mem_cons_self ..)
 have hbel:=Lib.hid h7.bel
 have c2:w7.cell? ⟨q.sp,2,none⟩=some (.pointer (some ⟨q.pp,0,none⟩)):=h7.cell (i:=2) (by omega)
 have CN:=h7.count 1 1 (by omega)
 rw[zcx (u:=1) fun i hi=>HM.out.use (32*1+i) (by omega) (by omega)]at CN
 have CNN:=Lib.hid CN
 obtain⟨b,off,c,hve,_,_,hx⟩:=SlRd.cells hv (by simp[l20])
 subst hve
 have ks:(convert 22 9 (.slice (some ⟨b,off,none⟩) l20.length c)).run Tryz.prog w7=.ok (.string ⟨#[120,121,122]⟩) w7:=by
  have:=run_convert_bytes_back (P:=Tryz.prog) w7 22 9 5 ⟨b,off,none⟩ c [120,121,122] Tryz.underlying22 Tryz.underlying5 Tryz.underlying9 (fun j hj=>by
   have:=hx j _ (by rw[List.getElem?_map];exact congrArg _ (List.getElem?_eq_getElem (l:=l20) hj))
   rw[add_plain]
   exact this)
  exact this
 clear hv hx h7 LD HX HM HO CN
 go_wp2_with fail
 refine CNN.out.mono ?_
 rintro e u ⟨rfl,hu⟩
 have hu:=hu.symm
 subst hu
 go_wp2_with fail
 go_ret
 exact⟨rfl,hbel.out⟩
theorem zdw(n:Int)(w:World)(hn:(Lit.int .i64 n).wf=true):Calls Tryz.prog 10 #[.int .i64 n] w fun e w'=>e=.returned (.bool true)∧Below w.heap.size w w':=by
 clear hn
 go_enter Tryz.func10,Tryz.ntmps10
 go_wp2_with fail
 refine(Xp w 1 (by omega)).mono ?_
 rintro e w1 ⟨q,x,p,rfl,h1,hx⟩
 have k9:x.Yv 9=2:=by
  unfold za.Yv
  rw[hx.zone.1,(jv 1 9).1];rfl
 have k0:x.Yv 0=5:=by
  unfold za.Yv
  rw[hx.zone.1,(jv 1 0).1];rfl
 have UN:=Lib.hid (h1.undo n fun t=>by rw[hx.zone.2];exact(jv 1 t).2)
 have HK:=Lib.hid (And.intro k9 k0)
 clear h1 hx k9 k0
 unfold ptrV at *
 go_wp2_with fail
 refine(zkd w1 n).mono ?_
 rintro e u ⟨rfl,hu⟩
 have hu:=hu.symm
 subst hu
 go_wp2_with fail
 refine UN.out.mono ?_
 rintro e w2 ⟨rfl,h2⟩
 have H2:=Lib.hid h2
 clear h2 UN
 go_wp2_with fail
 refine(Zw w2).mono ?_
 rintro e w3 ⟨rfl,hb⟩
 have H3:=Lib.hid (H2.out.below hb)
 clear hb H2
 have E9:=Lib.hid (H3.out.zee 9 (by omega) HK.out.1 (by omega))
 have E0:=Lib.hid (H3.out.zee 0 (by omega) HK.out.2 (by omega))
 unfold ptrV at E9 E0
 go_wp2_with fail
 refine(Qo w3 _ n 1 (by omega) (zjh w3 n)).mono ?_
 rintro e u ⟨rfl,hu⟩
 have hu:=hu.symm
 subst hu
 go_wp2_with fail
 refine(Qo w3 _ (-1) 1 (by omega) (zcz w3 q.sp (-1) (by omega))).mono ?_
 rintro e u ⟨rfl,hu⟩
 have hu:=hu.symm
 subst hu
 go_wp2_with fail
 refine(Qo w3 _ 32 1 (by omega) (zcz w3 q.sp 32 (by omega))).mono ?_
 rintro e u ⟨rfl,hu⟩
 have hu:=hu.symm
 subst hu
 go_wp2_with fail
 refine E9.out.mono ?_
 rintro e u ⟨rfl,hu⟩
 have hu:=hu.symm
 subst hu
 go_wp2_with fail
 refine E0.out.mono ?_
 rintro e u ⟨rfl,hu⟩
 have hu:=hu.symm
 subst hu
 go_wp2_with fail
 go_ret
 exact⟨rfl,H3.out.bel⟩
def za.Zx(x:za)(P:zk):za:={x with P:=P}
theorem ziz(a:Nat):∀(n:Nat) (L:List Nat),L.length<n→∃g,g<n∧a+g∉L
 | 0,_,h=>by omega
 | n+1,L,h=>by
  by_cases c:a+n∈L
  ·have hl:(L.erase (a+n)).length<n:=by rw[List.length_erase_of_mem c];have:=List.length_pos_of_mem c;omega
   obtain⟨g,h1,h2⟩:=ziz a n (L.erase (a+n)) hl
   exact⟨g,by omega,fun k=>h2 ((List.mem_erase_of_ne (by omega)).2 k)⟩
  ·exact⟨n,by omega,c⟩
theorem zje{P:zk}{s u i:Nat}(hi:i<32)(h:P.use (32*s+i)=u):0<P.count s u:=by
 unfold zk.count zk.Yg
 exact List.countP_pos_iff.2 ⟨i,by simpa using hi,by simpa using h⟩
def zk.pins(P:zk)(fs:List Nat)(j:Nat):zk:={P with use:=fun g=>if g∈fs.take j then 1 else if g∈fs then 5 else P.use g}
theorem zkj(P:zk):P.pins [] 0=P:=by unfold zk.pins;simp
theorem zhx(P:zk)(fs:List Nat)(f:Nat):(P.pins fs 0).set f 5=P.pins (fs++[f]) 0:=by
 unfold zk.pins zk.set
 simp only[List.take_zero,List.not_mem_nil,if_false,List.mem_append,List.mem_singleton]
 congr 1
 funext g
 by_cases e:g=f
 ·simp[e]
 ·simp[e]
theorem zhy{P:zk}{fs:List Nat}(nd:fs.Nodup){j f:Nat}(hj:fs[j]?=some f)(hf:f<1024):(P.pins fs j).free (f:Int)=P.pins fs (j+1):=by
 have hlt:j<fs.length:=(List.getElem?_eq_some_iff.1 hj).1
 have hfj:fs[j]=f:=by rw[List.getElem?_eq_getElem hlt]at hj;exact Option.some.inj hj
 have hnt:f∉fs.take j:=fun hm=>by
  obtain⟨i,hi,e⟩:=List.getElem_of_mem hm
  rw[List.length_take]at hi
  rw[List.getElem_take]at e
  have h2:=List.pairwise_iff_getElem.1 (List.nodup_iff_pairwise_ne.1 nd) i j (by omega) hlt (by omega)
  rw[e,hfj]at h2
  exact h2 rfl
 have hin:f∈fs:=by rw[←hfj];exact List.getElem_mem hlt
 have hu:(P.pins fs j).use f=5:=by
  show(if f∈fs.take j then 1 else if f∈fs then 5 else P.use f)=5
  rw[if_neg hnt,if_pos hin]
 unfold zk.free
 rw[if_pos (by unfold zk.used;rw[decide_eq_true_eq,Int.toNat_natCast,hu];omega),Int.toNat_natCast]
 have ht:fs.take (j+1)=fs.take j++[f]:=by rw[List.take_add_one,hj];rfl
 unfold zk.pins zk.set
 simp only[ht,List.mem_append,List.mem_singleton]
 congr 1
 funext g
 by_cases e:g=f
 ·simp[e]
 ·simp[e]
theorem zkk{P:zk}{fs:List Nat}(h:∀f∈fs,P.use f=1):P.pins fs fs.length=P:=by
 unfold zk.pins
 have:(fun g=>if g∈fs.take fs.length then 1 else if g∈fs then 5 else P.use g)=P.use:=by
  funext g
  rw[List.take_length]
  by_cases c:g∈fs
  ·rw[if_pos c];exact(h g c).symm
  ·rw[if_neg c,if_neg c]
 rw[this]
structure PinI(y:za)(fs:List Nat):Prop where
 nd:fs.Nodup
 sec:∀f∈fs,32≤f∧f<64∧y.P.use f=1
theorem PinI.nil(y:za):PinI y []:=⟨List.nodup_nil,fun _ h=>by cases h⟩
theorem PinI.more{x y:za}{pg at_ f0:Nat}{b:List UInt8}(h:OneD x pg at_ b y f0){fs:List Nat}(hI:PinI y fs)(hl:fs.length<30):∃f,(y.P.pins fs 0).next true=some f∧f<1024∧PinI y (fs++[f]):=by
 obtain⟨g,h1,h2⟩:=ziz 32 32 (f0::fs) (by simp;omega)
 have hg:(y.P.pins fs 0).use (32+g)=1:=by
  show(if 32+g∈fs.take 0 then 1 else if 32+g∈fs then 5 else y.P.use (32+g))=1
  rw[if_neg (by simp),if_neg (fun k=>h2 (List.mem_cons_of_mem _ k)),h.use _ (by omega) (by omega),if_neg (fun k=>h2 (by rw[k];simp))]
 have hz:∀s,s<3→y.P.zone s=if s=0 then 2 else 3:=fun s hs=>by
  rw[h.zone.1,(jv 2 s).1]
  by_cases e:s=0
  ·rw[if_pos e,if_pos e]
  ·rw[if_neg e,if_neg e,if_pos (by omega)]
 obtain⟨f,hn,hf⟩:=Um (P:=y.P.pins fs 0) (s:=1) (i:=32+g) (by omega) (hz 1 (by omega)) (by show y.P.iso 1=false;rw[h.zone.2];exact(jv 2 1).2) (fun t ht q=>by
  obtain rfl:t=0:=by omega
  have q1:y.P.zone 0=3:=q.1
  rw[hz 0 (by omega)]at q1;exact absurd q1 (by decide)) (by omega) hg
 obtain⟨_,hu⟩:=Zv hn
 have hu':(if f∈fs.take 0 then 1 else if f∈fs then 5 else y.P.use f)=1:=hu
 rw[if_neg (by simp)]at hu'
 have hni:f∉fs:=fun k=>by rw[if_pos k]at hu';cases hu'
 rw[if_neg hni]at hu'
 refine⟨f,hn,by omega,⟨?_,fun a ha=>?_⟩⟩
 ·rw[List.nodup_append]
  exact⟨hI.nd,by simp,fun a ha b hb e=>by simp at hb;rw[hb]at e;rw[e]at ha;exact hni ha⟩
 ·rcases List.mem_append.1 ha with k|k
  ·exact hI.sec a k
  ·simp at k;rw[k];exact⟨by omega,by omega,hu'⟩
theorem PinI.busy{y:za}{fs:List Nat}(hI:PinI y fs)(hl:0<fs.length)(hz:y.P.zone 1=3):(y.Zx (y.P.pins fs 0)).Yv 1=5:=by
 have hz':(y.P.pins fs 0).zone 1=3:=hz
 unfold za.Yv za.Zx
 dsimp only
 rw[if_neg (show ¬(y.P.pins fs 0).zone 1=0 by omega),if_pos]
 refine .inr (.inl ?_)
 have hm:=List.getElem_mem hl
 obtain⟨a,b,_⟩:=hI.sec _ hm
 refine zje (i:=fs[0]-32) (by omega) ?_
 rw[show 32*1+(fs[0]-32)=fs[0]by omega]
 show(if fs[0]∈fs.take 0 then 1 else if fs[0]∈fs then 5 else y.P.use fs[0])=5
 rw[if_neg (by simp),if_pos hm]
theorem PinI.done{y:za}{fs:List Nat}(hI:PinI y fs):y.Zx (y.P.pins fs fs.length)=y:=by
 rw[zkk fun f hf=>(hI.sec f hf).2.2];rfl
theorem zmh(w:World)(x y:Value)(l:List UInt8)(hx:BRd w x l)(hy:BRd w y l)(hl:l.length≤4096):Calls Tryz.prog 21 #[x,y] w fun e w'=>e=.returned (.bool true)∧Below w.heap.size w w':=by
 obtain⟨a,c,rfl,_,_⟩:=SlRd.form hx
 obtain⟨a2,c2,rfl,_,_⟩:=SlRd.form hy
 obtain⟨n,hn⟩:∃n,n=l.length:=⟨_,rfl⟩
 have HX:=Lib.hid hx
 have HY:=Lib.hid hy
 have HN:=Lib.hid hn
 rw[←hn]at hl⊢
 have hcap:n≤maxLen:=by omega
 clear hx hy hn
 go_enter Tryz.func21,Tryz.ntmps21
 go_wp2_with fail
 go_loopw [5] (fun iv W=>∃i:Nat,i≤n∧iv=.int .i64 i∧Below w.heap.size w W) (fun iv _=>n-(intOf iv).toNat)
 case atStart=>exact⟨0,by omega,rfl,Below.refl _ _⟩
 case round=>
  obtain⟨i,hi,rfl,hb⟩:=hrel
  have HB:=Lib.hid hb
  clear hb
  by_cases hlt:i<n
  ·obtain⟨u,hu⟩:∃u,l[i]?=some u:=⟨_,List.getElem?_eq_getElem (by have:=HN.out;omega)⟩
   have hpos:0<(l.map bV).length:=by rw[List.length_map];have:=HN.out;omega
   obtain⟨b,off,c',he,_,_,hc⟩:=SlRd.cells (SlRd.below HX.out HB.out) hpos
   obtain⟨b2,off2,c2',he2,_,_,hc2⟩:=SlRd.cells (SlRd.below HY.out HB.out) hpos
   cases he
   cases he2
   have k0:wr.cell? ⟨b,off+i,none⟩=some (.int .u8 u.toNat):=hc i _ (by rw[List.getElem?_map,hu];rfl)
   have k1:wr.cell? ⟨b2,off2+i,none⟩=some (.int .u8 u.toNat):=hc2 i _ (by rw[List.getElem?_map,hu];rfl)
   clear hc hc2
   have hlt':(i:Int)<n:=by omega
   go_wp2_with fail
   go_quiet (fail)
   go_wp2_with fail
   go_roundw
   case rel=>exact⟨i+1,by omega,by go_num,HB.out.trans ⟨rfl,rfl,rfl,Nat.le_refl _,fun _ _=>rfl⟩⟩
   case measure=>simp[intOf];omega
  ·have hlt':¬(i:Int)<n:=by omega
   go_wp2_with fail
   go_ret
   exact⟨rfl,HB.out⟩
end Go.Proofs.YtnhdmnijiphjjaaGreat
namespace Go.Proofs.YtnhdmnijiphjjaaGreat.Open
open Go Go.ChangeShapes Go.WideShapes Go.RowKit Go.Deep
abbrev Leaf:=Option IntKind
def LeafOk:Leaf→Value→Prop
 | some k,v=>∃n,v=.int k n∧(Lit.int k n).wf=true
 | none,v=>∃b,v=.bool b
def Vg:List Leaf→List Value→Prop
 | [],[]=>True
 | l::ls,v::vs=>LeafOk l v∧Vg ls vs
 | _,_=>False
theorem Vg.append:∀{a b:List Leaf} {x y:List Value},Vg a x→Vg b y→Vg (a++b) (x++y)
 | [],_,[],_,_,h=>h
 | [],_,_::_,_,h,_=>h.elim
 | _::_,_,[],_,h,_=>h.elim
 | _::_,_,_::_,_,⟨h,t⟩,k=>⟨h,Vg.append t k⟩
theorem Vg.length:∀{a:List Leaf} {x:List Value},Vg a x→a.length=x.length
 | [],[],_=>rfl
 | [],_::_,h=>h.elim
 | _::_,[],h=>h.elim
 | _::_,_::_,h=>congrArg (·+1) (Vg.length h.2)
def Zz(P:Program)(g:TypeId→Option (List Leaf)):List Field→Nat→Option (List Leaf)
 | [],_=>some []
 | f::fs,off=>
  if f.offset=off then
   match g f.type with
   | some l=>if l.length=P.cellsOf f.type then(Zz P g fs (off+l.length)).map (l++·)else none
   | none=>none
  else none
def X7(P:Program):Nat→TypeId→Option (List Leaf)
 | 0,_=>none
 | n+1,t=>
  match P.underlying t with
  | some .bool=>some [none]
  | some (.int k)=>some [some k]
  | some (.struct fs)=>
   match Zz P (X7 P n) fs.toList 0 with
   | some l=>if l.length=P.cellsOf t then some l else none
   | none=>none
  | _=>none
section
variable {H:Type}{enc:TypeId×Value→H}{P:Program}{w:World}{base:Nat}{spare:Nat→Bool}{held:Bool}
theorem zct{g:TypeId→Option (List Leaf)}{n:Nat}{cs:List Value}
  (hg:∀t l cs x,g t=some l→DataW.trod enc P w base spare held n t cs=some x→Vg l cs):
  ∀(fs:List Field) (off:Nat) (l:List Leaf),Zz P g fs off=some l→(∀f∈fs,∃x,DataW.trod enc P w base spare held n f.type ((cs.drop f.offset).take (P.cellsOf f.type))=some x)→
   Vg l ((cs.drop off).take l.length)
 | [],_,l,h,_=>by simp[Zz]at h;subst h;simp[Vg]
 | f::fs,off,l,h,ht=>by
  unfold Zz at h
  split at h
  ·rename_i ho
   split at h
   ·rename_i l1 hl1
    split at h
    ·rename_i hlen
     obtain⟨l2,h2,rfl⟩:=Option.map_eq_some_iff.1 h
     obtain⟨x,hx⟩:=ht f (by simp)
     have a1:=hg _ _ _ _ hl1 hx
     have a2:=zct hg fs _ l2 h2 (fun f' hf'=>ht f' (by simp[hf']))
     rw[ho,←hlen]at a1
     have e:(cs.drop off).take (l1++l2).length=(cs.drop off).take l1.length++(cs.drop (off+l1.length)).take l2.length:=by
      rw[List.length_append,List.take_add,List.drop_drop]
     rw[e]
     exact a1.append a2
    ·cases h
   ·cases h
  ·cases h
theorem zcd:∀(m n:Nat) (t:TypeId) (l:List Leaf) (cs:List Value) (x:DataW H×List MemPlace),X7 P m t=some l→DataW.trod enc P w base spare held n t cs=some x→Vg l cs
 | 0,_,_,_,_,_,h,_=>by simp[X7]at h
 | m+1,n,t,l,cs,x,h,hx=>by
  unfold X7 at h
  split at h
  ·rename_i hu
   obtain⟨b,rfl,_⟩:=DataW.trod_bool hu hx
   cases h
   exact⟨⟨b,rfl⟩,trivial⟩
  ·rename_i k hu
   obtain⟨v,rfl,_,hw⟩:=DataW.trod_int hu hx
   cases h
   exact⟨⟨v,rfl,hw⟩,trivial⟩
  ·rename_i fs hu
   split at h
   ·rename_i l' hl'
    split at h
    ·rename_i hlen
     cases h
     obtain⟨xs,n',rfl,_,hcs,hsz,hf⟩:=DataW.trod_struct hu hx
     have:=zct (enc:=enc) (w:=w) (base:=base) (spare:=spare) (held:=held) (n:=n') (cs:=cs) (fun t l cs x h1 h2=>zcd m n' t l cs x h1 h2) fs.toList 0 l hl' (fun f hfm=>by
      obtain⟨i,hi,rfl⟩:=List.getElem_of_mem hfm
      have e:=hf i (fs.toList[i]) (by simp)
      rw[e,List.getElem?_eq_getElem (by simpa[hsz]using hi)]
      exact⟨_,rfl⟩)
     rw[List.drop_zero,List.take_of_length_le (by omega)]at this
     exact this
    ·cases h
   ·cases h
  ·cases h
def RowsAt{α:Type}(w:World)(enc:α→List Value)(k:Nat)(a:Option Addr)(len cap:Nat)(z:List α):Prop:=
 z.length=len∧len≤cap∧cap≤maxLen∧∀i,i<len→∃b off,a=some ⟨b,off,none⟩∧b<w.heap.size∧∀x,z[i]?=some x→∀j v,(enc x)[j]?=some v→w.cell? ⟨b,off+(i*k+j),none⟩=some v
theorem zhh{α:Type}[Inhabited α]{encα:α→List Value}{k:Nat}{t e:TypeId}{a:Option Addr}{len cap:Nat}{d:DataW H}{p:List MemPlace}{l:List Leaf}(P2:α→Prop)
  (ht:P.underlying t=some (.slice e)) (hl:X7 P 10 e=some l) (hk:P.cellsOf e=k) (hk0:0<k) (dec:∀cs,Vg l cs→∃x,cs=encα x∧P2 x)
  (h:DataW.Trod enc P w base spare held t (.slice a len cap) d p):∃z,RowsAt w encα k a len cap z∧∀x∈z,P2 x:=by
 obtain⟨fuel,hf⟩:=h
 rcases open_slice ht hf with⟨hcs,_⟩|⟨x,l',c',m,n,D,Pl,hcs,_,hle,hmx,hm,_,hx⟩
 ·simp[Value.cells]at hcs
  obtain⟨rfl,rfl,rfl⟩:=hcs
  exact⟨[],⟨rfl,Nat.le_refl _,by unfold maxLen;omega,fun i hi=>by omega⟩,by simp⟩
 ·simp[Value.cells]at hcs
  obtain⟨rfl,rfl,rfl⟩:=hcs
  have hlm:len≤m:=by rw[hm];split<;>omega
  have key:∀i,i<len→∃y,P2 y∧(encα y).length=k∧∀j,j<k→w.cell? ((x.add (i*k)).add j)=(encα y)[j]?:=fun i hi=>by
   obtain⟨cs',h1,h2⟩:=hx i (by omega)
   obtain⟨y,rfl,hp⟩:=dec cs' (zcd 10 n e l cs' _ hl h2)
   rw[hk]at h1
   obtain⟨_,hlen,hc⟩:=World.cells?_some h1
   exact⟨y,hp,hlen,hc⟩
  obtain⟨f,hf⟩:=choose_lt key
  refine⟨(List.range len).map f,⟨by simp,hle,hmx,fun i hi=>?_⟩,fun y hy=>?_⟩
  ·obtain⟨hp,hlen,hc⟩:=hf i hi
   obtain⟨_,hlen0,hc0'⟩:=hf 0 (by omega)
   have hc0:=hc0' 0 hk0
   rw[List.getElem?_eq_getElem (by omega),Nat.zero_mul]at hc0
   have e0:(x.add 0).add 0=x:=by simp[Addr.add]
   rw[e0]at hc0
   have hsp:x.spot=none:=by
    unfold World.cell? at hc0
    split at hc0
    ·split at hc0
     ·cases hc0
     ·rename_i hs;simpa using hs
    ·cases hc0
   have hb:x.block<w.heap.size:=World.block_lt_of_cell? w _ hc0
   obtain⟨b,off,sp⟩:=x
   obtain rfl:sp=none:=hsp
   have ea:∀i,(⟨b,off,none⟩:Addr).add i=⟨b,off+i,none⟩:=fun i=>by unfold Addr.add;split<;>simp_all
   have ea2:∀i j,((⟨b,off,none⟩:Addr).add i).add j=⟨b,off+i+j,none⟩:=fun i j=>by rw[ea];unfold Addr.add;split<;>simp_all
   refine⟨b,off,rfl,hb,fun y hy j v hv=>?_⟩
   simp[hi]at hy
   subst hy
   have hj:j<k:=by have:=(List.getElem?_eq_some_iff.1 hv).1;omega
   have:=hc j hj
   rw[ea2,hv,Nat.add_assoc]at this
   exact this
  ·obtain⟨i,hi,rfl⟩:=List.mem_map.1 hy
   exact(hf i (List.mem_range.1 hi)).1
end
end Go.Proofs.YtnhdmnijiphjjaaGreat.Open
namespace Go.Proofs.YtnhdmnijiphjjaaGreat.Open
open Go Go.ChangeShapes Go.WideShapes Go.RowKit Go.Deep
theorem zdv{P:Program}{w:World}{r:Reach}{base:Nat}{t e:TypeId}{x:Addr}{len cap:Nat}(ht:P.underlying t=some (.slice e))(h:Value.okWide P w r base t (.slice (some x) len cap)):x.spot=none∧x.block<w.heap.size:=by
 simp only[Value.okWide,ht,Cell.okWide,Cell.ok]at h
 obtain⟨_,_,_,hs,row,cells,hsh,_⟩:=h
 refine⟨hs,?_⟩
 unfold World.shape? at hsh
 by_cases hb:x.block<w.heap.size
 ·exact hb
 ·rw[Array.getElem?_eq_none (by omega)]at hsh
  simp at hsh
theorem flat_get{α:Type}{enc:α→List Value}{k:Nat}(hk:∀x,(enc x).length=k)(hk0:0<k){z:List α}{j:Nat}{u:Value}(h:(z.flatMap enc)[j]?=some u):∃x,z[j/k]?=some x∧(enc x)[j%k]?=some u:=by
 induction z generalizing j with
 | nil=>simp at h
 | cons y z ih=>
  rw[List.flatMap_cons]at h
  by_cases hj:j<k
  ·rw[List.getElem?_append_left (by rw[hk];exact hj)]at h
   exact⟨y,by simp[Nat.div_eq_of_lt hj],by rw[Nat.mod_eq_of_lt hj];exact h⟩
  ·rw[List.getElem?_append_right (by rw[hk];omega),hk]at h
   obtain⟨x,h1,h2⟩:=ih h
   have e:j/k=(j-k)/k+1:=by rw[Nat.div_eq_sub_div hk0 (by omega)]
   have e2:j%k=(j-k)%k:=by rw[Nat.mod_eq_sub_mod (by omega)]
   exact⟨x,by rw[e];simpa using h1,by rw[e2];exact h2⟩
theorem znq{H:Type}{enc:TypeId×Value→H}{P:Program}{w:World}{base:Nat}{spare:Nat→Bool}{held:Bool}{α:Type}[Inhabited α]{encα:α→List Value}{k:Nat}{t e:TypeId}{a:Option Addr}{len cap:Nat}{d:DataW H}{p:List MemPlace}{l:List Leaf}{r:Reach}{b0:Nat}(P2:α→Prop)
  (ht:P.underlying t=some (.slice e)) (hl:X7 P 10 e=some l) (hk:P.cellsOf e=k) (hk0:0<k) (hek:∀x,(encα x).length=k) (dec:∀cs,Vg l cs→∃x,cs=encα x∧P2 x)
  (hv:Value.okWide P w r b0 t (.slice a len cap)) (h:DataW.Trod enc P w base spare held t (.slice a len cap) d p):∃z:List α,z.length=len∧SlRd w k (.slice a len cap) len (z.flatMap encα)∧∀x∈z,P2 x:=by
 obtain⟨z,⟨h1,h2,h3,h4⟩,h5⟩:=zhh (encα:=encα) (k:=k) P2 ht hl hk hk0 dec h
 refine⟨z,h1,⟨?_,?_⟩,h5⟩
 ·rw[←h1]
  clear h1 h4 h5
  induction z with
  | nil=>simp
  | cons x z ih=>rw[List.flatMap_cons,List.length_append,ih,hek,List.length_cons];rw[Nat.add_mul];omega
 ·cases a with
  | none=>
   left
   simp only[Value.okWide,ht,Cell.okWide]at hv
   cases len<;>cases cap<;>simp_all [Cell.ok]
  | some x=>
   right
   obtain⟨b,off,sp⟩:=x
   obtain⟨hs,hb⟩:=zdv ht hv
   obtain rfl:sp=none:=hs
   refine⟨b,off,cap,rfl,h2,h3,hb,fun j u hu=>?_⟩
   obtain⟨y,hy1,hy2⟩:=flat_get hek hk0 hu
   have hi:j/k<len:=by rw[←h1];exact(List.getElem?_eq_some_iff.1 hy1).1
   obtain⟨b',off',e,_,hc⟩:=h4 (j/k) hi
   cases e
   have:=hc y hy1 (j%k) u hy2
   rw[show j/k*k+j%k=j by rw[Nat.mul_comm];exact Nat.div_add_mod j k]at this
   exact this
end Go.Proofs.YtnhdmnijiphjjaaGreat.Open
namespace Go.Proofs.YtnhdmnijiphjjaaGreat
open Go Go.RowKit
def byL(x:UInt8):List Value:=[bV x]
theorem zob(x:UInt8):(byL x).length=1:=rfl
def AnyB(_:UInt8):Prop:=True
theorem decBy(cs:List Value)(h:Open.Vg [some .u8] cs):∃x,cs=byL x∧AnyB x:=by
 have hlen:=h.length
 rcases cs with _|⟨c,_|⟨d,cs⟩⟩<;>simp at hlen
 obtain⟨⟨n,rfl,hn⟩,_⟩:=h
 simp[Lit.wf]at hn
 have h0:0≤n:=hn.1
 have h1:n≤255:=hn.2
 obtain⟨k,rfl⟩:=Int.eq_ofNat_of_zero_le h0
 refine⟨UInt8.ofNat k,?_,trivial⟩
 unfold byL bV
 have:(UInt8.ofNat k).toNat=k:=by simp;omega
 rw[this]
theorem BRd.of_law{w:World}{v:Value}{z:List UInt8}(h:SlRd w 1 v z.length (z.flatMap byL)):BRd w v z:=by
 have:∀z:List UInt8,z.flatMap byL=z.map bV:=fun z=>by
  induction z with
  | nil=>rfl
  | cons a z ih=>rw[List.flatMap_cons,List.map_cons,ih];rfl
 rw[this]at h
 exact h
section
variable {w0 w w':World}{V:List (Value×List Value)}{q:Sq}{x:za}
theorem AtQ.loadW(h:AtQ w0 V q x w)(wf:WF x)(n page:Nat)(hn:n<8){pr:yj}(hp:x.T n=some pr)(hpg:page<4096){a:Ar}(ha:yh pr.A (page:Int)=some a){f:Nat}(he:(x.ent n page).kind=1∧(x.ent n page).n=f∧f<1024∧x.R.bad f=false){a0 s:Nat}(hz:a0/64=page)(h0:0<s)(h1:a0%64+s≤64):
  Calls Tryz.prog 20 #[ptrV q.sp,.int .i64 n,.int .i64 a0,.int .i64 s] w fun e w'=>∃v,e=.returned (.tuple #[v,.int .i64 0])∧AtQ w0 ((v,bys (((x.R.read f 0 64).drop (a0%64)).take s))::V) q x w':=by
 obtain⟨⟨tag,hS,low,hV⟩,hbel⟩:=h
 have hpf:∀b,x.zt n page b=(((f:Int),0),x):=fun b=>by
  unfold za.zt
  rw[if_neg (by omega),if_neg (by omega),if_neg (by omega),he.2.1]
 have hask:x.askF n page false=(((f:Int),0),x):=by
  unfold za.askF
  rw[hp]
  dsimp only
  rw[ha]
  dsimp only
  rw[if_neg (by simp),if_neg (by simp),hpf]
 have hfi:Fine x n page:=⟨fun _ b _ _ _=>by rw[hpf];exact⟨wf,f,rfl,he.2.2.1,he.2.2.2⟩⟩
 have hrd:Yo x.R [⟨f,a0%64,s⟩]=((x.R.read f 0 64).drop (a0%64)).take s:=by
  unfold Yo
  simp only[List.flatMap_cons,List.flatMap_nil,List.append_nil]
  exact zew _ _ _ _ h1
 have RT:=zhm hS n a0 s (by rw[hp];rfl) (by omega) (by omega)
 refine(zda (tag:=tag) (CA:=CB) n a0 s RT (fun l x'=>l=[⟨f,a0%64,s⟩]∧x'=x) (fun _ _=>False) ?_ fun l x' ⟨e1,e2⟩=>?_).mono ?_
 ·refine(Q4 n false CB CB0 (fun l x' a t=>x'=x∧(l=[]∧a=a0∧t=s∨l=[⟨f,a0%64,s⟩]∧t=0)) (fun _ _=>False) (fun W tg x' l a t hj ht hSW=>?_) hS a0 s (by omega) (by omega) ⟨rfl,.inl ⟨rfl,rfl,rfl⟩⟩).mono ?_
  ·obtain⟨rfl,⟨rfl,rfl,rfl⟩|⟨_,rfl⟩⟩:=hj
   ·rw[hz]
    refine(zfo hSW wf n page pr hn hp hpg false hfi).mono ?_
    rintro e w1 ⟨rfl,tag1,h1',s1⟩
    rw[hask]at h1'⊢
    have hm:min t (64-a%64)=t:=by omega
    exact⟨f,0,x',tag1,rfl,h1',s1,fun _=>⟨rfl,.inr ⟨by rw[hm];rfl,by omega⟩⟩,fun z=>absurd rfl z⟩
   ·omega
  ·rintro e w1 (⟨v,l,x',a',tag1,rfl,hv,ho,h1',s1,hj⟩|⟨c,x',tag1,rfl,hc,h1',s1,hE⟩)
   ·obtain⟨rfl,⟨_,_,k3⟩|⟨k1,_⟩⟩:=hj
    ·omega
    ·exact .inl ⟨v,l,x',tag1,rfl,hv,h1',s1,k1,rfl⟩
   ·exact absurd hE id
 ·subst e1;subst e2
  exact⟨by simp,fun p hp=>by simp at hp;subst hp;exact⟨he.2.2.1,h0,h1,he.2.2.2⟩⟩
 ·rintro e w1 (⟨v,l,x',tag1,rfl,hv,ho,hS1,s1,rfl,rfl⟩|⟨c,x',tag1,rfl,hc,_,_,hE⟩)
  ·rw[hrd]at hv
   obtain⟨a1,b1,c1⟩:=Yj CB0 s1 hbel low hV
   refine⟨v,rfl,⟨tag1,hS1,a1,fun p hp=>?_⟩,c1⟩
   rcases List.mem_cons.1 hp with rfl|hp
   ·exact⟨zc0.1 (SlAt.rd hv),ho⟩
   ·exact b1 p hp
  ·exact absurd hE id
end
end Go.Proofs.YtnhdmnijiphjjaaGreat
