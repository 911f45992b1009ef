/- Processes: ask, for a read (present's contract is a parameter). -/
import Derived.Test.YtnhdmnijiphjjaaGreatJMp20
import Derived.Test.YtnhdmnijiphjjaaGreatJMp16
set_option linter.unusedVariables false
set_option linter.unusedSimpArgs false
set_option maxRecDepth 100000
set_option maxHeartbeats 2000000
namespace Go.Proofs.YtnhdmnijiphjjaaGreat
open Go Go.RowKit
section
variable {w w':World}{tag tag':Nat→Nat}{q:Sq}{x:za}
theorem zmd(h:zb w tag q x)(n page:Nat)(pr:yj)(hn:n<8)(hp:x.T n=some pr)(hpg:page<4096)(hsd:∀a∈pr.A,a.yo)(a:Ar)(ha:yh pr.A page=some a)(Z:Value→World→Prop)
  (hF:∀W tag',zb W tag' q x→Step CB tag w tag' W→Calls Tryz.prog 168 #[ptrV q.sp,.agg #[.int .i64 n,.int .i64 page],a.enc] W fun r w'=>∃v c,r=.returned (.tuple #[.int .i64 v,.int .i64 c])∧Z (.tuple #[.int .i64 v,.int .i64 c]) w'):
  Calls Tryz.prog 125 #[ptrV q.sp,.int .i64 n,.int .i64 page,.bool false] w fun r w'=>∃v c,r=.returned (.tuple #[.int .i64 v,.int .i64 c])∧Z (.tuple #[.int .i64 v,.int .i64 c]) w':=by
 obtain⟨av,r1,r2,r3⟩:=(h.procs n pr hn hp).row
 have c1:w.cell? ⟨(q.U n).ap,1,none⟩=some av:=r1.cell (i:=1) (by omega)
 have c6:w.cell? ⟨q.sp,6,none⟩=some (.map (some q.pm)):=h.row.cell (i:=6) (by omega)
 have lk:=h.zd0 n (by rw[hp];rfl)
 have FW:=Jn w av pr.A (SlAt.rd r2) page hsd (by omega)
 rw[ha]at FW
 have FW:=Lib.hid FW
 obtain⟨aa,ac,rfl,_,_⟩:=SlAt.form r2
 have H:=Lib.hid (And.intro h hF)
 clear h hF r1 r2 r3 hp hsd ha
 unfold ptrV
 have FW2:Hid (Calls Tryz.prog 167 #[.slice aa pr.A.length ac,.int .i64 page] w fun e w'=>e=.returned (.tuple #[.agg #[.int .i64 a.from_,.int .i64 a.pages,.bool a.write,.int .i64 a.kind,.int .i64 a.file,.int .i64 a.off],.bool true])∧Below w.heap.size w w'):=FW.out
 clear FW
 go_enter Tryz.func125,Tryz.ntmps125
 go_wp2_with fail
 refine FW2.out.mono ?_
 rintro e w1 ⟨rfl,hb⟩
 have CF:Hid (∀o o',Calls Tryz.prog 168 #[.pointer (some ⟨q.sp,0,none⟩),.agg #[.int .i64 n,.int .i64 page],.agg #[.int .i64 a.from_,.int .i64 a.pages,.bool a.write,.int .i64 a.kind,.int .i64 a.file,.int .i64 a.off]] ((w1.alloc o).alloc o') fun r w'=>∃v c,r=.returned (.tuple #[.int .i64 v,.int .i64 c])∧Z (.tuple #[.int .i64 v,.int .i64 c]) w'):=fun o o'=>by
  have hbb:Below w.heap.size w ((w1.alloc o).alloc o'):=(hb.alloc hb.size o).alloc (by have:=hb.size;simp;omega) o'
  exact H.out.2 _ tag (H.out.1.below hbb) (Step.of_below hbb)
 clear hb FW2 c1 c6 lk
 go_wp2_with fail
 refine(CF.out _ _).mono ?_
 rintro r w5 ⟨v,c,rfl,hz⟩
 have HZ:=Lib.hid hz
 clear hz CF
 by_cases hc:c=0
 ·subst hc
  go_wp2_with fail
  exact bodyPost_ret (v:=.tuple #[.int .i64 v,.int .i64 0]) (by simp[results,Tryz.results125,go_sem]) rfl ⟨v,0,rfl,HZ.out⟩
 ·have c1:(c==0)=false:=beq_eq_false_iff_ne.2 hc
  have c2:(c=0)=False:=eq_false hc
  clear hc
  go_wp2_with fail
  exact bodyPost_ret (v:=.tuple #[.int .i64 v,.int .i64 c]) (by simp[results,Tryz.results125,go_sem]) rfl ⟨v,c,rfl,HZ.out⟩
end
section
variable {w w':World}{tag tag':Nat→Nat}{q:Sq}{x:za}
theorem zjm(h:zb w tag q x)(n page:Nat)(pr:yj)(hn:n<8)(hp:x.T n=some pr)(hpg:page<4096)(hsd:∀a∈pr.A,a.yo)(a:Ar)(ha:yh pr.A page=some a)(hw:a.write=true)(Z:Value→World→Prop)(Y:Int→za→Prop)
  (hF:∀W tag',zb W tag' q x→Step CB tag w tag' W→Calls Tryz.prog 168 #[ptrV q.sp,.agg #[.int .i64 n,.int .i64 page],a.enc] W fun r w'=>∃v c x2 tag2,r=.returned (.tuple #[.int .i64 v,.int .i64 c])∧zb w' tag2 q x2∧Step CB tag' W tag2 w'∧(c≠0→Z (.tuple #[.int .i64 v,.int .i64 c]) w')∧(c=0→Y v x2))
  (hO:∀W tag' x2 v,zb W tag' q x2→Step CB tag w tag' W→Y v x2→Calls Tryz.prog 169 #[ptrV q.sp,.agg #[.int .i64 n,.int .i64 page],a.enc,.int .i64 v] W fun r w'=>∃v c,r=.returned (.tuple #[.int .i64 v,.int .i64 c])∧Z (.tuple #[.int .i64 v,.int .i64 c]) w'):
  Calls Tryz.prog 125 #[ptrV q.sp,.int .i64 n,.int .i64 page,.bool true] w fun r w'=>∃v c,r=.returned (.tuple #[.int .i64 v,.int .i64 c])∧Z (.tuple #[.int .i64 v,.int .i64 c]) w':=by
 obtain⟨av,r1,r2,r3⟩:=(h.procs n pr hn hp).row
 have c1:w.cell? ⟨(q.U n).ap,1,none⟩=some av:=r1.cell (i:=1) (by omega)
 have c6:w.cell? ⟨q.sp,6,none⟩=some (.map (some q.pm)):=h.row.cell (i:=6) (by omega)
 have lk:=h.zd0 n (by rw[hp];rfl)
 have FW:=Jn w av pr.A (SlAt.rd r2) page hsd (by omega)
 rw[ha]at FW
 have FW:=Lib.hid FW
 obtain⟨aa,ac,rfl,_,_⟩:=SlAt.form r2
 have H:=Lib.hid (And.intro h (And.intro hF hO))
 have HWR:=Lib.hid hw
 clear h hF hO hw r1 r2 r3 hp hsd ha
 unfold ptrV
 have FW2:Hid (Calls Tryz.prog 167 #[.slice aa pr.A.length ac,.int .i64 page] w fun e w'=>e=.returned (.tuple #[.agg #[.int .i64 a.from_,.int .i64 a.pages,.bool a.write,.int .i64 a.kind,.int .i64 a.file,.int .i64 a.off],.bool true])∧Below w.heap.size w w'):=FW.out
 clear FW
 go_enter Tryz.func125,Tryz.ntmps125
 go_wp2_with fail
 refine FW2.out.mono ?_
 rintro e w1 ⟨rfl,hb⟩
 rw[HWR.out]
 obtain⟨W,hW⟩:∃W,W=(w1.alloc (.cells #[.int .i64 a.from_,.int .i64 a.pages,.bool true,.int .i64 a.kind,.int .i64 a.file,.int .i64 a.off] 32 (0,0))).alloc (.cells #[.int .i64 n,.int .i64 page] 58 (0,0)):=⟨_,rfl⟩
 have b1:w1.heap[w1.heap.size]?=none:=by simp
 have hbW1:Below w1.heap.size w1 W:=by rw[hW];exact((Below.refl _ _).alloc (Nat.le_refl _) _).alloc (by simp) _
 have hbW:Below w.heap.size w W:=hb.trans (hbW1.mono hb.size)
 have nA:W.heap[w1.heap.size]?=some (.cells #[.int .i64 a.from_,.int .i64 a.pages,.bool true,.int .i64 a.kind,.int .i64 a.file,.int .i64 a.off] 32 (0,0)):=by
  rw[hW,Below.heap_alloc _ _ _ (by simp)]
  exact heap_alloc_new w1 _
 have nP:W.heap[w1.heap.size+1]?=some (.cells #[.int .i64 n,.int .i64 page] 58 (0,0)):=by
  rw[hW]
  have:=heap_alloc_new (w1.alloc (.cells #[.int .i64 a.from_,.int .i64 a.pages,.bool true,.int .i64 a.kind,.int .i64 a.file,.int .i64 a.off] 32 (0,0))) (.cells #[.int .i64 n,.int .i64 page] 58 (0,0))
  rw[World.size_alloc]at this
  exact this
 have sz:=hb.size
 have CF:Hid (Calls Tryz.prog 168 #[.pointer (some ⟨q.sp,0,none⟩),.agg #[.int .i64 n,.int .i64 page],.agg #[.int .i64 a.from_,.int .i64 a.pages,.bool true,.int .i64 a.kind,.int .i64 a.file,.int .i64 a.off]] W fun r w'=>∃v c,r=.returned (.tuple #[.int .i64 v,.int .i64 c])∧(w'.cell? ⟨w1.heap.size,0,none⟩=some (.int .i64 a.from_)∧w'.cell? ⟨w1.heap.size,1,none⟩=some (.int .i64 a.pages)∧w'.cell? ⟨w1.heap.size,2,none⟩=some (.bool true)∧w'.cell? ⟨w1.heap.size,3,none⟩=some (.int .i64 a.kind)∧w'.cell? ⟨w1.heap.size,4,none⟩=some (.int .i64 a.file)∧w'.cell? ⟨w1.heap.size,5,none⟩=some (.int .i64 a.off)∧w'.cell? ⟨w1.heap.size+1,0,none⟩=some (.int .i64 n)∧w'.cell? ⟨w1.heap.size+1,1,none⟩=some (.int .i64 page))∧
   (c≠0→Z (.tuple #[.int .i64 v,.int .i64 c]) w')∧(c=0→Calls Tryz.prog 169 #[.pointer (some ⟨q.sp,0,none⟩),.agg #[.int .i64 n,.int .i64 page],.agg #[.int .i64 a.from_,.int .i64 a.pages,.bool true,.int .i64 a.kind,.int .i64 a.file,.int .i64 a.off],.int .i64 v] w' fun r w'=>∃v c,r=.returned (.tuple #[.int .i64 v,.int .i64 c])∧Z (.tuple #[.int .i64 v,.int .i64 c]) w')):=by
  have s0:Step CB tag w (retag tag w 0) W:=Step.anew hbW
  have h0:=H.out.1.step (Step.anew (tag:=tag) hbW)
  have K:=H.out.2.1 W _ h0 s0
  have O:=H.out.2.2
  unfold Ar.enc at K O
  rw[HWR.out]at K O
  refine K.mono ?_
  rintro r w2 ⟨v,c,x2,tag2,rfl,h2,s2,hz,hy⟩
  have c00:¬CB 0:=CB0
  have k1:=(s2.keeps c00 w1.heap.size (Array.getElem?_eq_some_iff.1 nA).1 (yc _ _ _ _ sz)).2.trans nA
  have k2:=(s2.keeps c00 (w1.heap.size+1) (Array.getElem?_eq_some_iff.1 nP).1 (yc _ _ _ _ (by omega))).2.trans nP
  refine⟨v,c,rfl,⟨?_,?_,?_,?_,?_,?_,?_,?_⟩,hz,fun hc=>O w2 tag2 x2 v h2 (s0.trans s2) (hy hc)⟩
  ·rw[cell_of_row _ _ 0 _ _ _ k1];rfl
  ·rw[cell_of_row _ _ 1 _ _ _ k1];rfl
  ·rw[cell_of_row _ _ 2 _ _ _ k1];rfl
  ·rw[cell_of_row _ _ 3 _ _ _ k1];rfl
  ·rw[cell_of_row _ _ 4 _ _ _ k1];rfl
  ·rw[cell_of_row _ _ 5 _ _ _ k1];rfl
  ·rw[cell_of_row _ _ 0 _ _ _ k2];rfl
  ·rw[cell_of_row _ _ 1 _ _ _ k2];rfl
 have HWW:=Lib.hid hW
 clear hb FW2 c1 c6 lk hW b1 hbW1 hbW nA nP sz
 go_wp2_with fail
 rw[←HWW.out]
 refine CF.out.mono ?_
 rintro r w5 ⟨v,c,rfl,⟨t0,t1,t2,t3,t4,t5,t6,t7⟩,hz,ho⟩
 by_cases hc:c=0
 ·subst hc
  have HO:=Lib.hid (ho rfl)
  clear hz ho CF
  go_wp2_with fail
  refine HO.out.mono ?_
  rintro r w6 ⟨v2,c2,rfl,hz2⟩
  have HZ:=Lib.hid hz2
  clear hz2 t0 t1 t2 t3 t4 t5 t6 t7
  go_wp2_with fail
  exact bodyPost_ret (v:=.tuple #[.int .i64 v2,.int .i64 c2]) (by simp[results,Tryz.results125,go_sem]) rfl ⟨v2,c2,rfl,HZ.out⟩
 ·have HZ:=Lib.hid (hz hc)
  have c1:(c==0)=false:=beq_eq_false_iff_ne.2 hc
  have c2:(c=0)=False:=eq_false hc
  clear hc hz ho CF t0 t1 t2 t3 t4 t5 t6 t7
  go_wp2_with fail
  exact bodyPost_ret (v:=.tuple #[.int .i64 v,.int .i64 c]) (by simp[results,Tryz.results125,go_sem]) rfl ⟨v,c,rfl,HZ.out⟩
end
section
variable {w w':World}{tag tag':Nat→Nat}{q:Sq}{x:za}
theorem zao(h:zb w tag q x)(n page:Nat)(pr:yj)(hn:n<8)(hp:x.T n=some pr)(hpg:page<4096)(hsd:∀a∈pr.A,a.yo)(bw:Bool)(hd:yh pr.A page=none∨∃a,yh pr.A page=some a∧bw=true∧a.write=false):
  Calls Tryz.prog 125 #[ptrV q.sp,.int .i64 n,.int .i64 page,.bool bw] w fun r w'=>r=.returned (.tuple #[.int .i64 0,.int .i64 11])∧Below w.heap.size w w':=by
 obtain⟨av,r1,r2,r3⟩:=(h.procs n pr hn hp).row
 have c1:w.cell? ⟨(q.U n).ap,1,none⟩=some av:=r1.cell (i:=1) (by omega)
 have c6:w.cell? ⟨q.sp,6,none⟩=some (.map (some q.pm)):=h.row.cell (i:=6) (by omega)
 have lk:=h.zd0 n (by rw[hp];rfl)
 have FW:=Jn w av pr.A (SlAt.rd r2) page hsd (by omega)
 obtain⟨aa,ac,rfl,_,_⟩:=SlAt.form r2
 have FW2:Hid (Calls Tryz.prog 167 #[.slice aa pr.A.length ac,.int .i64 page] w fun e w'=>(∃(a:Ar) (b:Bool),e=.returned (.tuple #[.agg #[.int .i64 a.from_,.int .i64 a.pages,.bool a.write,.int .i64 a.kind,.int .i64 a.file,.int .i64 a.off],.bool b])∧(b=false∨bw=true∧a.write=false))∧Below w.heap.size w w'):=by
  refine FW.mono ?_
  rintro e w1 ⟨rfl,hb⟩
  refine⟨⟨(yh pr.A page).getD ⟨0,0,false,0,0,0⟩,(yh pr.A page).isSome,rfl,?_⟩,hb⟩
  rcases hd with hd|⟨a,hd,h1,h2⟩
  ·left;rw[hd];rfl
  ·right;rw[hd];exact⟨h1,h2⟩
 clear FW h r1 r2 r3 hp hsd hd
 unfold ptrV
 go_enter Tryz.func125,Tryz.ntmps125
 go_wp2_with fail
 refine FW2.out.mono ?_
 rintro e w1 ⟨⟨a,b,rfl,hab⟩,hb⟩
 have HB:Hid (∀o,Below w.heap.size w (w1.alloc o)):=fun o=>hb.alloc hb.size o
 clear hb FW2 c1 c6 lk
 cases b with
 | false=>
  clear hab
  go_wp2_with fail
  exact bodyPost_ret (v:=.tuple #[.int .i64 0,.int .i64 11]) (by simp[results,Tryz.results125,go_sem]) rfl ⟨rfl,HB.out _⟩
 | true=>
  obtain⟨rfl,h2⟩:bw=true∧a.write=false:=hab.resolve_left (by simp)
  rw[h2]
  clear h2 hab
  go_wp2_with fail
  exact bodyPost_ret (v:=.tuple #[.int .i64 0,.int .i64 11]) (by simp[results,Tryz.results125,go_sem]) rfl ⟨rfl,HB.out _⟩
end
structure Fine(x:za)(n page:Nat):Prop where
 ok:∀pr a,x.T n=some pr→yh pr.A (page:Int)=some a→(x.zt n page a).1.2=0→WF (x.zt n page a).2∧∃f:Nat,(x.zt n page a).1.1=f∧f<1024∧(x.zt n page a).2.R.bad f=false
section
variable {w w':World}{tag tag':Nat→Nat}{q:Sq}{x:za}
theorem zfo(h:zb w tag q x)(wf:WF x)(n page:Nat)(pr:yj)(hn:n<8)(hp:x.T n=some pr)(hpg:page<4096)(bw:Bool)(hfi:Fine x n page):
  Calls Tryz.prog 125 #[ptrV q.sp,.int .i64 n,.int .i64 page,.bool bw] w fun e w'=>e=.returned (.tuple #[.int .i64 (x.askF n page bw).1.1,.int .i64 (x.askF n page bw).1.2])∧∃tag',zb w' tag' q (x.askF n page bw).2∧Step CB tag w tag' w':=by
 have hsd:=(wf.Yh n pr hp).1.1
 unfold za.askF
 rw[hp]
 dsimp only
 cases ha:yh pr.A (page:Int)with
 | none=>
  refine(zao h n page pr hn hp hpg hsd bw (.inl ha)).mono ?_
  rintro e w1 ⟨rfl,hb⟩
  exact⟨rfl,tag,h.below hb,Step.of_below hb⟩
 | some a=>
  dsimp only
  by_cases hd:bw=true∧a.write=false
  ·rw[if_pos hd]
   refine(zao h n page pr hn hp hpg hsd bw (.inr ⟨a,ha,hd⟩)).mono ?_
   rintro e w1 ⟨rfl,hb⟩
   exact⟨rfl,tag,h.below hb,Step.of_below hb⟩
  ·rw[if_neg hd]
   cases bw with
   | false=>
    rw[if_neg (by simp)]
    refine(zmd h n page pr hn hp hpg hsd a ha (fun v w'=>v=.tuple #[.int .i64 (x.zt n page a).1.1,.int .i64 (x.zt n page a).1.2]∧∃tag',zb w' tag' q (x.zt n page a).2∧Step CB tag w tag' w') (fun W tag1 h1 s1=>?_)).mono ?_
    ·refine(U4 h1 wf n page pr hn hp hpg a ha).mono ?_
     rintro e w2 ⟨rfl,tag2,h2,s2⟩
     exact⟨_,_,rfl,rfl,tag2,h2,s1.trans s2⟩
    ·rintro e w2 ⟨v,c,rfl,hz,hy⟩
     exact⟨by rw[hz],hy⟩
   | true=>
    have hw:a.write=true:=by
     cases e:a.write with
     | true=>rfl
     | false=>exact absurd ⟨rfl,e⟩ hd
    obtain⟨R,hR⟩:∃R,R=if(x.zt n page a).1.2=0∧true=true then(x.zt n page a).2.ownF n page a (x.zt n page a).1.1 else x.zt n page a:=⟨_,rfl⟩
    rw[←hR]
    refine(zjm h n page pr hn hp hpg hsd a ha hw (fun v w'=>v=.tuple #[.int .i64 R.1.1,.int .i64 R.1.2]∧∃tag',zb w' tag' q R.2∧Step CB tag w tag' w') (fun v x2=>v=(x.zt n page a).1.1∧x2=(x.zt n page a).2∧(x.zt n page a).1.2=0) (fun W tag1 h1 s1=>?_) (fun W tag1 x2 v h2 s2 hy=>?_)).mono ?_
    ·refine(U4 h1 wf n page pr hn hp hpg a ha).mono ?_
     rintro e w2 ⟨rfl,tag2,h2,s2⟩
     refine⟨_,_,_,tag2,rfl,h2,s2,fun hc=>?_,fun hc=>⟨rfl,rfl,hc⟩⟩
     rw[if_neg fun e=>hc e.1]at hR
     rw[hR]
     exact⟨rfl,tag2,h2,s1.trans s2⟩
    ·obtain⟨rfl,rfl,hc⟩:=hy
     obtain⟨wf2,f,ef,hf,hb⟩:=hfi.ok pr a hp ha hc
     rw[if_pos ⟨hc,rfl⟩]at hR
     have:=zkn h2 wf2 n page hn hpg a f hf hb
     rw[←ef,←hR]at this
     refine this.mono ?_
     rintro e w3 ⟨rfl,tag3,h3,s3⟩
     exact⟨_,_,rfl,rfl,tag3,h3,s2.trans (s3.mono fun c hc=>zmz hc)⟩
    ·rintro e w2 ⟨v,c,rfl,hz,hy⟩
     exact⟨by rw[hz],hy⟩
end
section
variable {w w':World}{tag tag':Nat→Nat}{q:Sq}{x:za}
theorem Qx(h:zb w tag q x)(n at_ size:Int):
  Calls Tryz.prog 64 #[ptrV q.sp,.int .i64 n,.int .i64 at_,.int .i64 size] w fun e w'=>e=.returned (.int .i64 (x.qw n at_ size))∧w'=w:=by
 by_cases hs:(x.T n.toNat).isSome=true∧0≤n
 ·have F:=Lib.hid (Zh h n)
  have ev:Ye q x n=.tuple #[ptrV (q.U n.toNat).ap,.bool true]:=by
   unfold Ye
   rw[if_pos hs,decide_eq_true hs]
  rw[ev]at F
  have e0:x.qw n at_ size=if size<0∨64<size∨at_<0∨262144<at_∨262144-at_<size then 1 else 0:=by
   unfold za.qw
   rw[if_neg]
   rintro(a|a)
   ·omega
   ·rw[hs.1]at a;cases a
  have HE:=Lib.hid e0
  unfold ptrV at F⊢
  clear h ev hs e0
  by_cases c1:size<0
  ·go_enter Tryz.func64,Tryz.ntmps64
   go_wp2_with fail
   refine F.out.mono ?_
   rintro e u ⟨rfl,hu⟩
   have hu:=hu.symm
   subst hu
   clear F
   go_wp2_with fail
   go_ret
   rw[HE.out,if_pos (.inl c1)]
   exact⟨rfl,rfl⟩
  ·by_cases c2:64<size
   ·go_enter Tryz.func64,Tryz.ntmps64
    go_wp2_with fail
    refine F.out.mono ?_
    rintro e u ⟨rfl,hu⟩
    have hu:=hu.symm
    subst hu
    clear F
    go_wp2_with fail
    go_ret
    rw[HE.out,if_pos (.inr (.inl c2))]
    exact⟨rfl,rfl⟩
   ·by_cases c3:at_<0
    ·go_enter Tryz.func64,Tryz.ntmps64
     go_wp2_with fail
     refine F.out.mono ?_
     rintro e u ⟨rfl,hu⟩
     have hu:=hu.symm
     subst hu
     clear F
     go_wp2_with fail
     go_ret
     rw[HE.out,if_pos (.inr (.inr (.inl c3)))]
     exact⟨rfl,rfl⟩
    ·by_cases c4:262144<at_
     ·go_enter Tryz.func64,Tryz.ntmps64
      go_wp2_with fail
      refine F.out.mono ?_
      rintro e u ⟨rfl,hu⟩
      have hu:=hu.symm
      subst hu
      clear F
      go_wp2_with fail
      go_ret
      rw[HE.out,if_pos (.inr (.inr (.inr (.inl c4))))]
      exact⟨rfl,rfl⟩
     ·have d1:IntKind.i64.wrap (262144-at_)=262144-at_:=by simp[IntKind.wrap,IntKind.bits,IntKind.signed];omega
      by_cases c5:262144-at_<size
      ·go_enter Tryz.func64,Tryz.ntmps64
       go_wp2_with fail
       refine F.out.mono ?_
       rintro e u ⟨rfl,hu⟩
       have hu:=hu.symm
       subst hu
       clear F
       go_wp2_with fail
       go_ret
       rw[HE.out,if_pos (.inr (.inr (.inr (.inr c5))))]
       exact⟨rfl,rfl⟩
      ·go_enter Tryz.func64,Tryz.ntmps64
       go_wp2_with fail
       refine F.out.mono ?_
       rintro e u ⟨rfl,hu⟩
       have hu:=hu.symm
       subst hu
       clear F
       go_wp2_with fail
       go_ret
       rw[HE.out,if_neg (by omega)]
       exact⟨rfl,rfl⟩
 ·have e0:x.qw n at_ size=2:=by
   unfold za.qw
   rw[if_pos]
   by_cases k:n<0
   ·exact .inl k
   ·refine .inr ?_
    cases e:(x.T n.toNat).isSome with
    | true=>exact absurd ⟨e,by omega⟩ hs
    | false=>rfl
  rw[e0]
  exact zf0 h n at_ size hs
theorem zmu(n at_ size c:Int)(hc:c≠0)(hR:Calls Tryz.prog 64 #[.pointer (some ⟨q.sp,0,none⟩),.int .i64 n,.int .i64 at_,.int .i64 size] w fun e w'=>e=.returned (.int .i64 c)∧w'=w):
  Calls Tryz.prog 20 #[.pointer (some ⟨q.sp,0,none⟩),.int .i64 n,.int .i64 at_,.int .i64 size] w fun e w'=>e=.returned (.tuple #[.slice none 0 0,.int .i64 c])∧w'=w:=by
 have HR:=Lib.hid hR
 have c1:(c==0)=false:=beq_eq_false_iff_ne.2 hc
 have c2:(c=0)=False:=eq_false hc
 clear hR hc
 go_enter Tryz.func20,Tryz.ntmps20
 go_wp2_with fail
 refine HR.out.mono ?_
 rintro e u ⟨rfl,hu⟩
 have hu:=hu.symm
 subst hu
 clear HR
 go_wp2_with fail
 exact bodyPost_ret (v:=.tuple #[.slice none 0 0,.int .i64 c]) (by simp[results,Tryz.results20,go_sem]) rfl ⟨rfl,rfl⟩
structure Asks(n:Nat)(bw:Bool)(I:za→Prop):Prop where
 wf:∀x,I x→WF x
 proc:∀x,I x→∃pr,x.T n=some pr
 fine:∀x page,I x→page<4096→Fine x n page
 next:∀x page,I x→page<4096→(x.askF n page bw).1.2=0→I (x.askF n page bw).2
 nat:∀x page,I x→page<4096→∃f:Nat,(x.askF n page bw).1.1=f
def pcat(l:List Pc)(r:(List Pc×Int)×za):(List Pc×Int)×za:=if r.1.2=0 then((l++r.1.1,0),r.2)else(([],r.1.2),r.2)
theorem zkm{n:Nat}{bw:Bool}:∀{k:Nat} {x:za} {a s:Nat},pcat [] (za.zm n bw k x a s)=za.zm n bw k x a s:=by
 intro k x a s
 unfold pcat
 by_cases h:(za.zm n bw k x a s).1.2=0
 ·rw[if_pos h,List.nil_append]
  generalize za.zm n bw k x a s=r at h⊢
  obtain⟨⟨l,c⟩,y⟩:=r
  dsimp only at h⊢
  rw[h]
 ·rw[if_neg h]
  cases k with
  | zero=>unfold za.zm at h;simp at h
  | succ k=>
   unfold za.zm at h⊢
   by_cases c1:s=0
   ·rw[if_pos c1]at h;simp at h
   ·rw[if_neg c1]at h⊢
    by_cases c2:(x.askF n (a/64) bw).1.2=0
    ·rw[if_pos c2]at h⊢
     by_cases c3:(za.zm n bw k (x.askF n (a/64) bw).2 (a+min s (64-a%64)) (s-min s (64-a%64))).1.2=0
     ·rw[if_pos c3]at h;simp at h
     ·rw[if_neg c3]
    ·rw[if_neg c2]
theorem zhz {n : Nat} {bw : Bool} {k : Nat} {x : za} {a s : Nat} {l : List Pc} (hs : 0 < s) (hc : (x.askF n (a / 64) bw).1.2 = 0) :
    pcat l (za.zm n bw (k + 1) x a s) = pcat (l ++ [⟨(x.askF n (a / 64) bw).1.1.toNat, a % 64, min s (64 - a % 64)⟩]) (za.zm n bw k (x.askF n (a / 64) bw).2 (a + min s (64 - a % 64)) (s - min s (64 - a % 64))) := by
  have e : za.zm n bw (k + 1) x a s = if (za.zm n bw k (x.askF n (a / 64) bw).2 (a + min s (64 - a % 64)) (s - min s (64 - a % 64))).1.2 = 0 then
        ((⟨(x.askF n (a / 64) bw).1.1.toNat, a % 64, min s (64 - a % 64)⟩ :: (za.zm n bw k (x.askF n (a / 64) bw).2 (a + min s (64 - a % 64)) (s - min s (64 - a % 64))).1.1, 0), (za.zm n bw k (x.askF n (a / 64) bw).2 (a + min s (64 - a % 64)) (s - min s (64 - a % 64))).2)
      else (([], (za.zm n bw k (x.askF n (a / 64) bw).2 (a + min s (64 - a % 64)) (s - min s (64 - a % 64))).1.2), (za.zm n bw k (x.askF n (a / 64) bw).2 (a + min s (64 - a % 64)) (s - min s (64 - a % 64))).2) := by
    conv => lhs; unfold za.zm
    rw [if_neg (by omega), if_pos hc]
  rw [e]
  generalize za.zm n bw k (x.askF n (a / 64) bw).2 (a + min s (64 - a % 64)) (s - min s (64 - a % 64)) = r
  unfold pcat
  by_cases c : r.1.2 = 0
  · simp [c]
  · simp [c]
theorem zh0{n:Nat}{bw:Bool}{k:Nat}{x:za}{a s:Nat}{l:List Pc}(hs:0<s)(hc:(x.askF n (a/64) bw).1.2≠0):
  pcat l (za.zm n bw (k+1) x a s)=(([],(x.askF n (a/64) bw).1.2),(x.askF n (a/64) bw).2):=by
 have e:za.zm n bw (k+1) x a s=(([],(x.askF n (a/64) bw).1.2),(x.askF n (a/64) bw).2):=by
  conv=>lhs;unfold za.zm
  rw[if_neg (by omega),if_neg hc]
 rw[e]
 unfold pcat
 simp[hc]
structure AskJ(n:Nat)(bw:Bool)(I:za→Prop)(x0:za)(a0 s0:Nat)(l:List Pc)(x:za)(a s:Nat):Prop where
 inv:I x
 le:s≤64∧a+s≤262144
 st:(l.length=0)∨(l.length=1∧(s=0∨a%64=0))∨(l.length=2∧s=0)
 eq:za.zm n bw 3 x0 a0 s0=pcat l (za.zm n bw (3-l.length) x a s)
theorem zah(n:Nat)(hn:n<8)(bw:Bool)(I:za→Prop)(A:Asks n bw I)(h:zb w tag q x)(hx:I x)(a0 s0:Nat)(h1:s0≤64)(h2:a0+s0≤262144):
  Calls Tryz.prog 65 #[.pointer (some ⟨q.sp,0,none⟩),.int .i64 n,.int .i64 a0,.int .i64 s0,.bool bw] w fun e w'=>
   (∃v tag',e=.returned (.tuple #[v,.int .i64 0])∧(za.zm n bw 3 x a0 s0).1.2=0∧PcAt w' v (za.zm n bw 3 x a0 s0).1.1∧(∀b,v.ownBlock=some b→tag' b=0)∧zb w' tag' q (za.zm n bw 3 x a0 s0).2∧Step CB tag w tag' w'∧I (za.zm n bw 3 x a0 s0).2)∨
   (∃tag',e=.returned (.tuple #[.slice none 0 0,.int .i64 (za.zm n bw 3 x a0 s0).1.2])∧(za.zm n bw 3 x a0 s0).1.2≠0∧zb w' tag' q (za.zm n bw 3 x a0 s0).2∧Step CB tag w tag' w'):=by
 refine(Q4 (x:=x) n bw CB CB0 (AskJ n bw I x a0 s0) (fun c y=>c≠0→za.zm n bw 3 x a0 s0=(([],c),y)) (fun W tg z l a s hj hs hS=>?_) h a0 s0 h1 h2 ⟨hx,⟨h1,h2⟩,.inl rfl,?_⟩).mono ?_
 ·obtain⟨pr,hp⟩:=A.proc z hj.inv
  have hpg:a/64<4096:=by have:=hj.le;omega
  have hlen:3-l.length=(2-l.length)+1:=by have:=hj.st;omega
  refine(zfo hS (A.wf z hj.inv) n (a/64) pr hn hp hpg bw (A.fine z _ hj.inv hpg)).mono ?_
  rintro e w1 ⟨rfl,tag1,h1,s1⟩
  obtain⟨f,hf⟩:=A.nat z _ hj.inv hpg
  refine⟨f,_,_,tag1,by unfold askV;rw[hf],h1,s1,fun hc=>?_,fun hc _=>?_⟩
  ·refine⟨A.next z _ hj.inv hpg hc,by have:=hj.le;omega,?_,?_⟩
   ·have:=hj.le
    have:=hj.st
    simp only[List.length_append,List.length_cons,List.length_nil]
    omega
   ·rw[hj.eq,hlen,zhz hs hc,hf,Int.toNat_natCast]
    congr 2
    simp only[List.length_append,List.length_cons,List.length_nil]
    omega
  ·rw[hj.eq,hlen,zh0 hs hc]
 ·show _=pcat [] (za.zm n bw 3 x a0 s0)
  rw[zkm]
 ·rintro e w1 (⟨v,l,x',a',tag1,rfl,hv,ho,hS,hst,hj⟩|⟨c,x',tag1,rfl,hc,hS,hst,hE⟩)
  ·have e0:za.zm n bw 3 x a0 s0=((l,0),x'):=by
    rw[hj.eq]
    have e1:∀k,za.zm n bw k x' a' 0=(([],0),x'):=fun k=>by
     cases k with
     | zero=>rfl
     | succ k=>unfold za.zm;rw[if_pos rfl]
    rw[e1]
    unfold pcat
    rw[if_pos rfl,List.append_nil]
   rw[e0]
   exact .inl ⟨v,tag1,rfl,rfl,hv,ho,hS,hst,hj.inv⟩
  ·rw[hE hc]
   exact .inr ⟨tag1,rfl,hc,hS,hst⟩
theorem zmt(n:Nat)(hn:n<8)(I:za→Prop)(A:Asks n false I)(h:zb w tag q x)(hx:I x)(at_ size:Int)
  (hG:(x.qw n at_ size=0)→(za.zm n false 3 x at_.toNat size.toNat).1.2=0→(za.zm n false 3 x at_.toNat size.toNat).1.1.length≤64∧∀p∈(za.zm n false 3 x at_.toNat size.toNat).1.1,PcOk (za.zm n false 3 x at_.toNat size.toNat).2.R p):
  Calls Tryz.prog 20 #[.pointer (some ⟨q.sp,0,none⟩),.int .i64 n,.int .i64 at_,.int .i64 size] w fun e w'=>∃v tag',e=.returned (.tuple #[v,.int .i64 (x.Ve n at_ size).1.2])∧ByAt w' v (x.Ve n at_ size).1.1∧(∀b,v.ownBlock=some b→tag' b=0)∧zb w' tag' q (x.Ve n at_ size).2∧Step CB tag w tag' w':=by
 have hR:=Qx h n at_ size
 unfold za.Ve
 by_cases hr:x.qw n at_ size=0
 ·rw[if_pos hr]
  rw[hr]at hR
  have hb:0≤at_∧0≤size∧size≤64∧at_+size≤262144:=by
   unfold za.qw at hr
   split at hr
   ·omega
   ·split at hr
    ·omega
    ·omega
  have ea:at_=(at_.toNat:Int):=by omega
  have es:size=(size.toNat:Int):=by omega
  have P:=zah n hn false I A h hx at_.toNat size.toNat (by omega) (by omega)
  have hG:=hG hr
  rw[show((n:Int)).toNat=n by omega]
  rw[ea,es]at hR⊢
  simp only[Int.toNat_natCast]
  generalize za.zm n false 3 x at_.toNat size.toNat=r at P hG⊢
  refine(zda (tag:=tag) n at_.toNat size.toNat CB hR (fun l y=>r=((l,0),y)) (fun c y=>c≠0∧r=(([],c),y)∨c≠0∧r.1.2=c∧r.2=y) (P.mono ?_) (fun l y e=>?_)).mono ?_
  ·rintro e w1 (⟨v,tag1,rfl,h0,hv,ho,hS,hst,_⟩|⟨tag1,rfl,h0,hS,hst⟩)
   ·exact .inl ⟨v,_,_,tag1,rfl,hv,hS,hst,by obtain⟨⟨l,c⟩,y⟩:=r;dsimp only at h0;rw[h0]⟩
   ·exact .inr ⟨_,_,tag1,rfl,h0,hS,hst,.inr ⟨h0,rfl,rfl⟩⟩
  ·rw[e]at hG
   exact hG rfl
  ·rintro e w1 (⟨v,l,y,tag1,rfl,hv,ho,hS,hst,e0⟩|⟨c,y,tag1,rfl,hc,hS,hst,hE⟩)
   ·rw[e0]
    dsimp only
    rw[if_pos rfl]
    exact⟨v,tag1,rfl,hv,ho,hS,hst⟩
   ·have h1:r.1.2=c∧r.2=y:=by
     rcases hE with⟨_,e0⟩|⟨_,e0⟩
     ·rw[e0];exact⟨rfl,rfl⟩
     ·exact e0
    rw[if_neg (by rw[h1.1];exact hc),h1.1,h1.2]
    exact⟨_,tag1,rfl,SlAt.nil _ _ _,fun b hb=>by simp[Value.ownBlock]at hb,hS,hst⟩
 ·rw[if_neg hr]
  refine(zmu n at_ size (x.qw n at_ size) hr hR).mono ?_
  rintro e w1 ⟨rfl,rfl⟩
  exact⟨_,tag,rfl,SlAt.nil _ _ _,fun b hb=>by simp[Value.ownBlock]at hb,h,Step.refl _ _ _⟩
end
def BRd(w:World)(v:Value)(l:List UInt8):Prop:=SlRd w 1 v l.length (l.map bV)
theorem BRd.reads{w:World}{v:Value}{l:List UInt8}(h:BRd w v l):Reads w v l:=by
 rcases h.2 with⟨rfl,h0⟩|⟨b,off,c,rfl,_,_,_,hx⟩
 ·have:l=[]:=List.length_eq_zero_iff.1 h0
  subst this
  exact⟨none,0,0,0,rfl,fun h=>by simp at h,fun j u hu=>by simp at hu⟩
 ·exact⟨_,c,b,off,rfl,fun _=>rfl,hx⟩
theorem BRd.keep{w w':World}{v:Value}{l:List UInt8}(h:BRd w v l)(hk:∀b,v.ownBlock=some b→w'.heap[b]?=w.heap[b]?):BRd w' v l:=by
 refine⟨h.1,?_⟩
 rcases h.2 with h0|⟨b,off,c,rfl,hnc,hm,hg,hx⟩
 ·exact .inl h0
 ·have e:=hk b (by simp[Value.ownBlock])
  exact .inr ⟨b,off,c,rfl,hnc,hm,(Array.getElem?_eq_some_iff.1 (e.trans (Array.getElem?_eq_getElem hg))).1,fun j u hu=>(World.cell?_of_block (w:=w) e).trans (hx j u hu)⟩
theorem zfy(w1:World)(A:Addr)(n c m:Nat)(hA:A.add 0=A)(hm:m≤c):(Instr.slice 22 (.slice (some A) n c) none (some (.int .i64 m)) none).run Tryz.prog w1=.ok (.slice (some A) m c) w1:=by
 have hb:(Instr.sliceBound (.int .i64 (m:Int)) c .sliceAcap).run Tryz.prog w1=.ok m w1:=by
  rw[run_sliceBound (P:=Tryz.prog) (w:=w1) .i64 (m:Int) c .sliceAcap (by omega) (by omega)];simp
 obtain⟨i,hi,_,_,_⟩:=zeo
 simp[Instr.slice,run_underlying Tryz.underlying22,Instr.sliceBounds,hb,sizeOf,typeInfo,hi,hA]
theorem BRd.split{w:World}{a:Option Addr}{c:Nat}{l:List UInt8}(h:BRd w (.slice a l.length c) l)(m:Nat)(h0:0<m)(hm:m≤l.length):
  BRd w (.slice a m c) (l.take m)∧(∀w1,(Instr.slice 22 (.slice a l.length c) none (some (.int .i64 m)) none).run Tryz.prog w1=.ok (.slice a m c) w1)∧
  ∃a',BRd w (.slice a' (l.length-m) (c-m)) (l.drop m)∧(Value.slice a' (l.length-m) (c-m)).ownBlock=(Value.slice a l.length c).ownBlock∧∀w1,(Instr.slice 22 (.slice a l.length c) (some (.int .i64 m)) none none).run Tryz.prog w1=.ok (.slice a' (l.length-m) (c-m)) w1:=by
 have hpos:0<(l.map bV).length:=by simp;omega
 obtain⟨b,off,c',e,hnc,hb,_⟩:=SlRd.cells h hpos
 cases e
 have ht:=SlRd.take h m hm
 have e1:(l.take m).length=m:=by simp;omega
 refine⟨by unfold BRd;rw[e1,List.map_take];rw[Nat.mul_one]at ht;exact ht,fun w1=>zfy w1 _ _ _ _ (by rw[add_plain];rfl) (by omega),?_⟩
 obtain⟨A,hA⟩:∃A,(if c=m then(some ⟨b,off,none⟩:Option Addr)else some ⟨b,off+m*1,none⟩)=some A:=by split<;>exact⟨_,rfl⟩
 have hc:=SlRd.cut h m hm hA
 refine⟨some A,?_,?_,fun w1=>?_⟩
 ·unfold BRd
  rw[List.length_drop,List.map_drop]
  rw[Nat.mul_one]at hc
  exact hc
 ·split at hA<;>cases hA<;>rfl
 ·have hb2:(Instr.sliceBound (.int .i64 (m:Int)) l.length .sliceB).run Tryz.prog w1=.ok m w1:=by
   rw[run_sliceBound (P:=Tryz.prog) (w:=w1) .i64 (m:Int) l.length .sliceB (by omega) (by omega)];simp
  obtain⟨i,hi,_,hsz,_⟩:=zeo
  simp[Instr.slice,run_underlying Tryz.underlying22,Instr.sliceBounds,hb2,sizeOf,typeInfo,hi,hsz,add_plain]
  rw[←hA]
  split<;>simp
def sumK(l:List Pc):Nat:=(l.map (·.k)).sum
theorem Qs(l:List Pc)(p:Pc):sumK (l++[p])=sumK l+p.k:=by simp[sumK]
theorem J8:∀(l:List Pc) (b:List UInt8) (R:RamS) (p:Pc),za.Xa (l++[p]) b R=(za.Xa l b R).write p.f p.a ((b.drop (sumK l)).take p.k)
 | [],b,R,p=>by simp[za.Xa,sumK]
 | a::l,b,R,p=>by
  simp only[List.cons_append,za.Xa]
  rw[J8 l (b.drop a.k) _ p,List.drop_drop]
  congr 3
theorem zeq:∀{l:List Pc},(∀p∈l,0<p.k)→l.length≤sumK l
 | [],_=>by simp
 | a::l,h=>by
  have:=zeq (l:=l) fun p hp=>h p (List.mem_cons_of_mem _ hp)
  have:=h a (List.mem_cons_self ..)
  simp only[sumK,List.map_cons,List.sum_cons,List.length_cons]at *
  omega
theorem zbt:∀(l:List Pc) (b:List UInt8) (R:RamS),(za.Xa l b R).bad=R.bad
 | [],_,_=>rfl
 | a::l,b,R=>by
  simp only[za.Xa]
  rw[zbt l]
  rfl
section
variable {w w':World}{tag tag':Nat→Nat}{q:Sq}{x:za}
theorem zgn(n a0:Nat)(ba:Option Addr)(bc:Nat)(bb:List UInt8)(hRt:Calls Tryz.prog 64 #[.pointer (some ⟨q.sp,0,none⟩),.int .i64 n,.int .i64 a0,.int .i64 bb.length] w fun e w'=>e=.returned (.int .i64 0)∧w'=w)
  (hbb:BRd w (.slice ba bb.length bc) bb) (hbo:∀b,(Value.slice ba bb.length bc).ownBlock=some b→tag b=0) (hlen:bb.length≤64) (r:(List Pc×Int)×za)
  (hP:Calls Tryz.prog 65 #[.pointer (some ⟨q.sp,0,none⟩),.int .i64 n,.int .i64 a0,.int .i64 bb.length,.bool true] w fun e w'=>
   (∃v tag',e=.returned (.tuple #[v,.int .i64 0])∧r.1.2=0∧PcAt w' v r.1.1∧(∀b,v.ownBlock=some b→tag' b=0)∧zb w' tag' q r.2∧Step CB tag w tag' w')∨
   (∃tag',e=.returned (.tuple #[.slice none 0 0,.int .i64 r.1.2])∧r.1.2≠0∧zb w' tag' q r.2∧Step CB tag w tag' w'))
  (hG:r.1.2=0→(∀p∈r.1.1,PcOk r.2.R p)∧sumK r.1.1=bb.length):
  Calls Tryz.prog 19 #[.pointer (some ⟨q.sp,0,none⟩),.int .i64 n,.int .i64 a0,.slice ba bb.length bc] w fun e w'=>e=.returned (.int .i64 r.1.2)∧∃tag',zb w' tag' q (if r.1.2=0 then {r.2 with R:=za.Xa r.1.1 bb r.2.R} else r.2)∧Step CB tag w tag' w':=by
 have HR:=Lib.hid hRt
 have HP:=Lib.hid hP
 have HG:=Lib.hid hG
 have HB:=Lib.hid (And.intro hbb (And.intro hbo hlen))
 obtain⟨⟨l,c⟩,y⟩:=r
 dsimp only at HP HG⊢
 obtain⟨bn,hbn⟩:∃bn,bn=bb.length:=⟨_,rfl⟩
 rw[←hbn]at HR HP HG HB⊢
 have HBN:=Lib.hid hbn
 clear hRt hP hG hbb hbo hlen hbn
 go_enter Tryz.func19,Tryz.ntmps19
 go_wp2_with fail
 refine HR.out.mono ?_
 rintro e u ⟨rfl,hu⟩
 have hu:=hu.symm
 subst hu
 go_wp2_with fail
 refine HP.out.mono ?_
 rintro e w1 (⟨v,tag1,rfl,rfl,hv,ho,hS,hst⟩|⟨tag1,rfl,hc,hS,hst⟩)
 ·obtain⟨va,vc,rfl,_,_⟩:=SlAt.form hv
  have hb1:BRd w1 (.slice ba bn bc) bb:=HB.out.1.keep fun b hb=>(hst.keeps CB0 b (SlRd.lt HB.out.1 b hb) (HB.out.2.1 b hb)).2
  have ho1:∀b,(Value.slice ba bn bc).ownBlock=some b→tag1 b=0:=fun b hb=>(hst.keeps CB0 b (SlRd.lt HB.out.1 b hb) (HB.out.2.1 b hb)).1
  have H1:=Lib.hid (And.intro hv (And.intro ho (And.intro hS (And.intro hst (And.intro hb1 ho1)))))
  have hll:l.length≤64:=by
   have h1:=HG.out (by trivial)
   have h2:=zeq (l:=l) fun p hp=>(h1.1 p hp).2.1
   have:=HB.out.2.2
   omega
  have HLL:=Lib.hid hll
  clear hv ho hS hst hb1 ho1 hll
  go_wp2_with fail
  go_loopw [3,38] (fun bv iv W=>∃(i:Nat) (a':Option Addr) (c':Nat) (tg:Nat→Nat),i≤l.length∧iv=.int .i64 i∧bv=.slice a' (bn-sumK (l.take i)) c'∧BRd W (.slice a' (bn-sumK (l.take i)) c') (bb.drop (sumK (l.take i)))∧(∀b,(Value.slice a' (bn-sumK (l.take i)) c').ownBlock=some b→tg b=0)∧zb W tg q {y with R:=za.Xa (l.take i) bb y.R}∧Step CB tag w tg W∧PcAt W (.slice va l.length vc) l∧∀b,(Value.slice va l.length vc).ownBlock=some b→tg b=0) (fun _ iv _=>l.length-(intOf iv).toNat)
  case atStart=>exact⟨0,ba,bc,tag1,by omega,rfl,rfl,H1.out.2.2.2.2.1,H1.out.2.2.2.2.2,H1.out.2.2.1,H1.out.2.2.2.1,H1.out.1,H1.out.2.1⟩
  case round=>
   obtain⟨i,a',c',tg,hi,rfl,rfl,hbr,hbo,hS,hst,hPc,hPo⟩:=hrel
   by_cases hlt:i<l.length
   ·obtain⟨p,hp⟩:∃p,l[i]?=some p:=⟨l[i],List.getElem?_eq_getElem hlt⟩
    have hpos:0<(pcs l).length:=by have:=hPc.1;omega
    obtain⟨pb,poff,pc,epv,_,_,_⟩:=SlAt.cells hPc hpos
    cases epv
    obtain⟨k0,k1,k2⟩:=hPc.cell hp
    have hGG:=HG.out (by trivial)
    have hpk:=hGG.1 p (List.mem_of_getElem? hp)
    have e1:l.take (i+1)=l.take i++[p]:=by rw[List.take_add_one,hp];rfl
    have hsum:sumK (l.take i)+p.k≤bn:=by
     rw[←hGG.2,←Qs,←e1]
     have h4:sumK l=sumK (l.take (i+1))+sumK (l.drop (i+1)):=by
      unfold sumK
      rw[←List.sum_append,←List.map_append,List.take_append_drop]
     omega
    obtain⟨m,hm⟩:∃m,m=bn-sumK (l.take i):=⟨_,rfl⟩
    obtain⟨L,hL⟩:∃L,L=bb.drop (sumK (l.take i)):=⟨_,rfl⟩
    have hLm:L.length=m:=by rw[hL,hm,List.length_drop,HBN.out]
    rw[←hm,←hL]at hbr
    rw[←hm]at hbo
    have hbs:=BRd.split (w:=wr) (a:=a') (c:=c') (l:=L) (by rw[hLm];exact hbr) p.k hpk.2.1 (by omega)
    rw[hLm]at hbs
    obtain⟨hb1,run1,a2,hb2,how2,run2⟩:=hbs
    have i1:(i:Int)<l.length:=by omega
    have i2:(0:Int)≤i:=by omega
    obtain⟨W2,hW2⟩:∃W2,W2=wr.alloc (.cells #[.int .i64 p.f,.int .i64 p.a,.int .i64 p.k] 115):=⟨_,rfl⟩
    have hbW:Below wr.heap.size wr W2:=by rw[hW2];exact(Below.refl _ _).alloc (Nat.le_refl _) _
    have nb:W2.heap[wr.heap.size]?=some (.cells #[.int .i64 p.f,.int .i64 p.a,.int .i64 p.k] 115 (0,0)):=by rw[hW2];exact heap_alloc_new wr _
    obtain⟨L2,s2⟩:=hS.loc0.more hbW [(wr.heap.size,0,.int .i64 p.f),(wr.heap.size,1,.int .i64 p.a),(wr.heap.size,2,.int .i64 p.k)] (fun t ht=>by
     simp at ht
     rcases ht with rfl|rfl|rfl
     ·exact⟨Nat.le_refl _,zo nb 0 rfl⟩
     ·exact⟨Nat.le_refl _,zo nb 1 rfl⟩
     ·exact⟨Nat.le_refl _,zo nb 2 rfl⟩)
    rw[List.append_nil]at L2
    have m0:W2.cell? ⟨q.sp,0,none⟩=some (.pointer (some ⟨q.rp,0,none⟩)):=L2.cell (i:=0) (by omega)
    have m1:W2.cell? ⟨wr.heap.size,0,none⟩=some (.int .i64 p.f):=L2.get 0 rfl
    have m2:W2.cell? ⟨wr.heap.size,1,none⟩=some (.int .i64 p.a):=L2.get 1 rfl
    have m3:W2.cell? ⟨wr.heap.size,2,none⟩=some (.int .i64 p.k):=L2.get 2 rfl
    have t0:∀b,b<wr.heap.size→tg b=0→retag tg wr 0 b=0:=fun b h1 h2=>by unfold retag;rw[if_pos h1];exact h2
    have WR:Hid (Calls Tryz.prog 66 #[.pointer (some ⟨q.rp,0,none⟩),.int .i64 p.f,.int .i64 p.a,.slice a' p.k c'] W2.drew fun e w3=>e=.returned (.int .i64 0)∧(w3.cell? ⟨q.sp,0,none⟩=some (.pointer (some ⟨q.rp,0,none⟩))∧w3.cell? ⟨wr.heap.size,0,none⟩=some (.int .i64 p.f)∧w3.cell? ⟨wr.heap.size,1,none⟩=some (.int .i64 p.a)∧w3.cell? ⟨wr.heap.size,2,none⟩=some (.int .i64 p.k))∧
      ∃tg3,zb w3 tg3 q {y with R:=za.Xa (l.take (i+1)) bb y.R}∧Step CB tag w tg3 w3∧BRd w3 (.slice a2 (m-p.k) (c'-p.k)) (L.drop p.k)∧(∀b,(Value.slice a2 (m-p.k) (c'-p.k)).ownBlock=some b→tg3 b=0)∧PcAt w3 (.slice (some ⟨pb,poff,none⟩) l.length vc) l∧∀b,(Value.slice (some ⟨pb,poff,none⟩) l.length vc).ownBlock=some b→tg3 b=0):=by
     have e2:(L.take p.k).length=p.k:=by simp;omega
     have hrd:Reads W2.drew (.slice a' p.k c') (L.take p.k):=by
      have:=hb1.reads
      exact(Reads.below this hbW).below (Below.refl _ _).drew
     have hbad:(za.Xa (l.take i) bb y.R).bad p.f=false:=by rw[zbt];exact hpk.2.2.2
     refine(Va W2.drew _ _ _ _ L2.drew.sp.ram _ (L.take p.k) hrd p.f p.a p.f p.a rfl rfl hpk.1 (by rw[e2];exact hpk.2.1) (by rw[e2];exact hpk.2.2.1) hbad).mono ?_
     rintro e w3 ⟨rfl,r1,r2,_⟩
     have kk:=L2.drew.sp.ram' r2 r1
     have L3:=L2.drew.step kk.2 (by omega) kk.1
     have e3:za.Xa (l.take (i+1)) bb y.R=(za.Xa (l.take i) bb y.R).write p.f p.a (L.take p.k):=by rw[e1,J8,←hL]
     have sAll:Step CB tg wr (retag tg wr 0) w3:=(s2.mono fun _ h=>h.elim).trans ((Step.of_below (Below.refl _ _).drew).trans (kk.2.mono fun c hc=>by unfold CB;omega))
     refine⟨rfl,⟨L3.cell (i:=0) (by omega),L3.get 0 rfl,L3.get 1 rfl,L3.get 2 rfl⟩,retag tg wr 0,by rw[e3];exact kk.1,hst.trans sAll,?_,fun b hb=>?_,?_,fun b hb=>?_⟩
     ·exact hb2.keep fun b hb=>(sAll.keeps CB0 b (SlRd.lt hb2 b hb) (hbo b (by rw[←how2];exact hb))).2
     ·exact(sAll.keeps CB0 b (SlRd.lt hb2 b hb) (hbo b (by rw[←how2];exact hb))).1
     ·exact SlAt.keep hPc fun b hb=>(sAll.keeps CB0 b (SlAt.lt hPc b hb) (hPo b hb)).2
     ·exact(sAll.keeps CB0 b (SlAt.lt hPc b hb) (hPo b hb)).1
    have HLT:=Lib.hid (And.intro hlt (And.intro hm (And.intro hL (And.intro e1 hsum))))
    have HW:=Lib.hid hW2
    clear hi hbr hbo hS hst hPc hPo hp hpos hGG hpk e1 hsum hm hL hLm hb1 hb2 how2 hbW nb L2 s2 t0 hW2 hlt
    rw[←HLT.out.2.1]
    go_wp2_with fail
    rw[←HW.out]
    go_region_held (fun W'=>W'.cell? ⟨q.sp,0,none⟩=some (.pointer (some ⟨q.rp,0,none⟩))∧W'.cell? ⟨wr.heap.size,0,none⟩=some (.int .i64 p.f)∧W'.cell? ⟨wr.heap.size,1,none⟩=some (.int .i64 p.a)∧W'.cell? ⟨wr.heap.size,2,none⟩=some (.int .i64 p.k)) (go_keep)
     ((go_at_call 66;refine WR.out.mono ?_;rintro e w3 ⟨rfl,⟨g0,g1,g2,g3⟩,HX⟩;have hX:=Lib.hid HX;clear HX))
    clear WR m0 m1 m2 m3 k0 k1 k2 run1
    have d5:IntKind.i64.wrap ((i:Int)+1)=i+1:=by have:=HLT.out.1;have:=HLL.out;simp[IntKind.wrap,IntKind.bits,IntKind.signed];omega
    clear i1 i2
    go_wp2_with fail
    go_roundw
    case rel=>
     obtain⟨tg3,h1,h2,h3,h4,h5,h6⟩:=hX.out
     have e4:bn-sumK (l.take (i+1))=m-p.k:=by rw[HLT.out.2.2.2.1,Qs,HLT.out.2.1];omega
     have e5:bb.drop (sumK (l.take (i+1)))=L.drop p.k:=by rw[HLT.out.2.2.2.1,Qs,HLT.out.2.2.1,List.drop_drop]
     rw[←e4,←e5]at h3
     rw[←e4]at h4
     exact⟨i+1,a2,c'-p.k,tg3,HLT.out.1,by go_num,by rw[e4],h3,h4,h1,h2,h5,h6⟩
    case measure=>have:=HLT.out.1;simp[intOf];omega
   ·obtain rfl:i=l.length:=by omega
    have H5:=Lib.hid (And.intro hS hst)
    clear hbr hbo hS hst hPc hPo
    go_wp2_with fail
    refine bodyPost_ret (v:=.int .i64 0) (by simp[results,Tryz.results19,go_sem]) rfl ⟨rfl,tg,?_,H5.out.2⟩
    have:=H5.out.1
    rw[List.take_length]at this
    exact this
 ·have H1:=Lib.hid (And.intro hS hst)
  have HC:=Lib.hid hc
  have c1:(c==0)=false:=beq_eq_false_iff_ne.2 hc
  have c2:(c=0)=False:=eq_false hc
  clear hS hst hc
  go_wp2_with fail
  exact bodyPost_ret (v:=.int .i64 c) (by simp[results,Tryz.results19,go_sem]) rfl ⟨rfl,tag1,H1.out.1,H1.out.2⟩
end
theorem zdm(R:RamS)(f at_:Nat)(b:List UInt8)(h:at_+b.length≤64):(R.write f at_ b).read f 0 64=Abs.splice (R.read f 0 64) at_ b:=by
 unfold Abs.splice
 have hl:(R.read f 0 64).length=64:=by simp[RamS.read]
 refine List.ext_getElem? fun i=>?_
 by_cases hi:i<64
 ·have e1:((R.write f at_ b).read f 0 64)[i]?=some (if at_≤i∧i<at_+b.length then b.getD (i-at_) 0 else R.b f i):=by
   unfold RamS.read
   simp only[List.getElem?_map,List.getElem?_range hi,Option.map_some,Nat.zero_add]
   rw[qm]
   congr 1
   exact zcn ⟨fun a=>a.2,fun a=>⟨rfl,a⟩⟩ _ _
  have e2:(R.read f 0 64)[i]?=some (R.b f i):=by
   unfold RamS.read
   simp only[List.getElem?_map,List.getElem?_range hi,Option.map_some,Nat.zero_add]
  have lt:(List.take at_ (R.read f 0 64)).length=at_:=by rw[List.length_take,hl];omega
  rw[e1]
  by_cases c1:i<at_
  ·rw[if_neg (by omega),List.getElem?_append_left (by omega),List.getElem?_take_of_lt c1,e2]
  ·rw[List.getElem?_append_right (by omega),lt]
   by_cases c2:i<at_+b.length
   ·rw[if_pos ⟨by omega,c2⟩,List.getElem?_append_left (by omega),List.getD_eq_getElem?_getD,List.getElem?_eq_getElem (by omega)]
    rfl
   ·rw[if_neg (by omega),List.getElem?_append_right (by omega),List.getElem?_drop,show at_+b.length+(i-at_-b.length)=i by omega,e2]
 ·rw[List.getElem?_eq_none (by simp[RamS.read];omega),List.getElem?_eq_none]
  simp[hl]
  omega
section
variable {F:Nat→Prop}{x y:za}
theorem OK.wr(h:OK F x){f:Nat}(hu:x.P.use f≠2)(R:RamS)(hbad:R.bad=x.R.bad)(hby:∀g i,g≠f→R.b g i=x.R.b g i):OK F {x with R:=R}∧∀n page,page<4096→za.ent {x with R:=R} n page=x.ent n page:=by
 have k:=h.wf.frames (y:={x with R:=R}) rfl rfl rfl rfl rfl rfl (fun n g ho=>⟨by rw[hbad],fun i=>hby g i (fun e=>hu (e▸(h.wf.xn ho).2.1)),(h.wf.xn ho).2.1⟩) fun g hg hb=>h.wf.bad g hg (by rw[←hbad];exact hb)
 refine⟨⟨k.1,fun g n page h1 h2 h3=>by rw[k.2 n page h3];exact h.backE g n page h1 h2 h3,fun q n page h1 h2 h3=>by rw[k.2 n page h3];exact h.slotE q n page h1 h2 h3,h.useB,h.anon,h.table,h.cached,h.cacheE,h.cacheK,fun n pr page h1 h2=>?_⟩,k.2⟩
 have a:=h.area n pr page h1 h2
 rw[k.2 n page h2]
 exact⟨a.find,a.own,a.file,a.shared,a.slot⟩
theorem Ok0.wr1(h:Ok0 x){n page:Nat}{pr:yj}(hp:x.T n=some pr)(hpg:page<4096){a:Ar}(ha:yh pr.A (page:Int)=some a){f:Nat}(hm:Mine x a n page f)(at_:Nat)(b:List UInt8)(hb:at_+b.length≤64):
  Ok0 {x with R:=x.R.write f at_ b}∧za.abs {x with R:=x.R.write f at_ b}=x.abs.write a n page at_ b∧(∀m pg,pg<4096→za.ent {x with R:=x.R.write f at_ b} m pg=x.ent m pg):=by
 have hn:=h.ok.Xg h.out hp
 obtain⟨f',e1,e2,hmem,hu,_⟩:=h.ok.frame hn hpg hm.ent.1
 have hff:f'=f:=by have:=hm.ent.2;omega
 subst hff
 have hct:=zfq h.ok hn hp hpg ha hm.ent.1
 rw[hm.ent.2,Int.toNat_natCast]at hct
 obtain⟨k1,k2⟩:=h.ok.wr (f:=f') (by omega) (x.R.write f' at_ b) rfl fun g i hg=>by rw[qm,if_neg fun e=>hg e.1]
 refine⟨⟨k1,h.out⟩,?_,k2⟩
 have hrd:=zdm x.R f' at_ b hb
 have hoth:∀g,g≠f'→(x.R.write f' at_ b).read g 0 64=x.R.read g 0 64:=fun g hg=>Ya fun i _=>by rw[qm,if_neg fun e=>hg e.1]
 have hA:∀m,((za.abs {x with R:=x.R.write f' at_ b}).A m)=x.abs.A m:=fun m=>rfl
 -- other pages
 have hpv:∀m pg,pg<4096→(m=n∧pg=page→a.kind=2)→za.pv {x with R:=x.R.write f' at_ b} m pg=x.pv m pg:=fun m pg hq hne=>by
  unfold za.pv
  show(match x.T m with|none=>_|some pr=>_)=_
  cases hT:x.T m with
  | none=>rfl
  | some pm=>
   dsimp only
   cases hF:yh pm.A (pg:Int)with
   | none=>rfl
   | some am=>
    dsimp only
    rw[k2 m pg hq]
    unfold za.pv1
    by_cases c3:(x.ent m pg).kind=3
    ·rw[if_pos c3,if_pos c3]
    ·rw[if_neg c3,if_neg c3]
     by_cases c2:(x.ent m pg).kind=2
     ·rw[if_pos c2,if_pos c2]
     ·rw[if_neg c2,if_neg c2]
      by_cases c1:(x.ent m pg).kind=1
      ·rw[if_pos c1,if_pos c1]
       by_cases cc:getL x.CR (x.ent m pg).n=none
       ·rw[if_pos cc,if_pos cc]
        have hm8:=h.ok.Xg h.out hT
        obtain⟨g,g1,g2,g3,_,_⟩:=h.ok.frame hm8 hq c1
        have hgf:g≠f':=fun e=>by
         by_cases ck:a.kind=2
         ·have:=(hm.shared ck).1
          rw[←e,←g1,cc]at this
          cases this
         ·have:=(hm.own ck).2
          rw[e,this]at g3
          simp at g3
          exact ck (hne (Xi.1 g3))
        show PV.own ((x.R.write f' at_ b).read (x.ent m pg).n.toNat 0 64)=_
        rw[g1,Int.toNat_natCast,hoth g hgf]
       ·rw[if_neg cc,if_neg cc]
      ·rw[if_neg c1,if_neg c1]
 have hfile:∀q,(getL x.CR (f':Int)≠some q)→za.Yf {x with R:=x.R.write f' at_ b} q=x.Yf q:=fun q hq=>by
  unfold za.Yf
  cases hL:getL x.CL q with
  | none=>rfl
  | some v=>
   dsimp only
   obtain⟨g,g1,g2,_,g4,_⟩:=h.ok.Jh hL
   rw[g1,Int.toNat_natCast,hoth]
   intro e
   rw[g1,e]at g4
   exact hq g4
 unfold Abs.write
 by_cases ck:a.kind=2
 ·rw[if_pos ck]
  obtain⟨s1,s2⟩:=hm.shared ck
  have hko:=Us (h.ok.wf.Yh n pr hp).1 ha (by omega)
  unfold za.abs Abs.za1
  rw[Abs.mk.injEq]
  refine⟨rfl,?_,?_,rfl,rfl⟩
  ·funext m pg
   by_cases hq:pg<4096
   ·rw[if_pos hq]
    dsimp only
    rw[if_pos hq]
    exact hpv m pg hq fun _=>ck
   ·rw[if_neg hq]
    dsimp only
    rw[if_neg hq]
  ·funext q
   by_cases hq:Zc q
   ·rw[if_pos hq]
    dsimp only
    by_cases hqk:q=za.keyF a page
    ·rw[if_pos hqk,if_pos hko,hqk]
     obtain⟨d,hd⟩:=(h.ok.cacheE _ _).2 s1
     unfold za.Yf
     dsimp only
     rw[hd]
     dsimp only
     rw[Int.toNat_natCast,hrd]
    ·rw[if_neg hqk,if_pos hq]
     refine hfile q fun e=>?_
     rw[s1]at e
     cases e
     exact hqk rfl
   ·rw[if_neg hq]
    dsimp only
    rw[if_neg (fun e:q=za.keyF a page=>hq (by rw[e];exact hko)),if_neg hq]
 ·rw[if_neg ck,hct]
  obtain⟨s1,s2⟩:=hm.own ck
  unfold za.abs Abs.Qv
  rw[Abs.mk.injEq]
  refine⟨rfl,?_,?_,rfl,rfl⟩
  ·funext m pg
   by_cases hmp:m=n∧pg=page
   ·rw[if_pos hmp,hmp.1,hmp.2,if_pos hpg,Yx (x:={x with R:=x.R.write f' at_ b}) hp ha,k2 n page hpg]
    unfold za.pv1
    rw[if_neg (by have:=hm.ent.1;omega),if_neg (by have:=hm.ent.1;omega),if_pos hm.ent.1,hm.ent.2]
    dsimp only
    rw[if_pos s1,Int.toNat_natCast,hrd]
   ·rw[if_neg hmp]
    by_cases hq:pg<4096
    ·rw[if_pos hq]
     dsimp only
     rw[if_pos hq]
     exact hpv m pg hq fun e=>absurd e hmp
    ·rw[if_neg hq]
     dsimp only
     rw[if_neg hq]
  ·funext q
   by_cases hq:Zc q
   ·rw[if_pos hq]
    dsimp only
    rw[if_pos hq]
    exact hfile q (by rw[s1];simp)
   ·rw[if_neg hq]
    dsimp only
    rw[if_neg hq]
theorem Ok0.tell(h:Ok0 x)(n:Nat)(at_:Int):Ok0 (x.jc n at_)∧jm 0 x (x.jc n at_):=by
 obtain⟨a,_,_,_,b⟩:=h.ok.jc n at_
 refine⟨⟨a,fun m hm=>?_⟩,b⟩
 have:=b.some m
 rw[h.out m hm]at this
 cases e:(x.jc n at_).T m with
 | none=>rfl
 | some _=>rw[e]at this;cases this
theorem Ok0.zjn(h:Ok0 x){n page:Nat}(hs:(x.T n).isSome=true)(hpg:page<4096)(wr:Bool):Ok0 (x.askF n page wr).2∧jm 5 x (x.askF n page wr).2:=by
 obtain⟨pr,hp⟩:=Option.isSome_iff_exists.1 hs
 rcases h.askF hp hpg wr with⟨_,e⟩|⟨a,_,_,⟨_,e⟩|⟨_,g⟩⟩
 ·rw[e];exact⟨h,(jm.refl x).mono (by omega)⟩
 ·rw[e]
  have:=h.tell n (page*64)
  exact⟨this.1,this.2.mono (by omega)⟩
 ·exact⟨g.ok,g.keeps⟩
theorem zi9(h:WF x){k:Int×Int}(hk:Zc k):∃f:Nat,(x.uf k).1.1=f:=by
 unfold za.uf
 cases hL:getL x.CL k with
 | some v=>
  have:=h.keys k v hL
  exact⟨v.1.toNat,by dsimp only;omega⟩
 | none=>
  dsimp only
  rcases h.zw 4 (za.uh k) (by omega) (by omega) (h.secs _ (Xz hk))with⟨_,e⟩|⟨f,_,_,e,_,_⟩|⟨f,_,_,e,_,_⟩
  ·rw[e];exact⟨0,rfl⟩
  ·split<;>(rw[e];exact⟨f,rfl⟩)
  ·split<;>(rw[e];exact⟨0,rfl⟩)
theorem zd7(u:Nat):∃f:Nat,(x.yt u).1.1=f:=by
 unfold za.yt
 split
 ·exact⟨0,rfl⟩
 ·exact⟨_,rfl⟩
theorem zge(u s:Nat):∃f:Nat,(x.zw u s).1.1=f:=by
 unfold za.zw
 split
 ·exact⟨0,rfl⟩
 ·split
  ·exact⟨_,rfl⟩
  ·exact⟨0,rfl⟩
theorem zgf(g:Int):∃f:Nat,(x.yx g).1.1=f:=by
 unfold za.yx
 split
 ·exact⟨0,rfl⟩
 ·split
  ·exact⟨_,rfl⟩
  ·exact⟨0,rfl⟩
theorem zb9(h:WF x){n page:Nat}{pr:yj}(hp:x.T n=some pr)(hpg:page<4096){a:Ar}(ha:yh pr.A (page:Int)=some a):∃f:Nat,(x.zt n page a).1.1=f:=by
 unfold za.zt
 split
 ·exact⟨0,rfl⟩
 ·split
  ·unfold za.inF
   split
   ·exact zge _ _
   ·exact⟨0,rfl⟩
  ·split
   ·unfold za.uk
    split
    ·rename_i hk
     split
     ·exact zi9 h (Us (h.Yh n pr hp).1 ha hk)
     ·exact⟨0,rfl⟩
    ·split
     ·split
      ·exact zd7 _
      ·exact⟨0,rfl⟩
     ·exact⟨0,rfl⟩
   ·have hok:=h.Y8 n hpg
    have:0≤(x.ent n page).n:=by
     unfold Ent.ok at hok
     simp only[Bool.and_eq_true,decide_eq_true_eq]at hok
     exact hok.1.2.1
    exact⟨(x.ent n page).n.toNat,by dsimp only;omega⟩
theorem Qn(h:WF x){n page:Nat}{pr:yj}(hp:x.T n=some pr)(hpg:page<4096)(wr:Bool):∃f:Nat,(x.askF n page wr).1.1=f:=by
 unfold za.askF
 rw[hp]
 dsimp only
 cases ha:yh pr.A (page:Int)with
 | none=>exact⟨0,rfl⟩
 | some a=>
  dsimp only
  obtain⟨f,hf⟩:=zb9 h hp hpg ha
  split
  ·exact⟨0,rfl⟩
  ·split
   ·unfold za.ownF
    split
    ·exact⟨f,hf⟩
    ·split
     ·exact⟨f,hf⟩
     ·split
      ·exact zgf _
      ·exact⟨0,rfl⟩
   ·exact⟨f,hf⟩
theorem zjk(n:Nat)(bw:Bool):Asks n bw (fun x=>Ok0 x∧(x.T n).isSome=true) where
 wf:=fun x h=>h.1.ok.wf
 proc:=fun x h=>Option.isSome_iff_exists.1 h.2
 fine:=fun x page h hpg=>⟨fun pr a hp ha hc=>by
  have hn:=h.1.ok.Xg h.1.out hp
  rcases h.1.ok.zt h.1.out hp hpg ha with⟨_,e⟩|⟨_,g,fr⟩
  ·rw[e]at hc;simp at hc
  ·obtain⟨f1,f2⟩:=fr hc
   obtain⟨e1,e2,e3⟩:=g.ok.frame' hn hpg f1
   exact⟨g.ok.wf,_,by rw[←f2];exact e1,e2,e3⟩⟩
 next:=fun x page h hpg _=>by
  have k:=h.1.zjn h.2 hpg bw
  exact⟨k.1,by rw[k.2.some];exact h.2⟩
 nat:=fun x page h hpg=>by
  obtain⟨pr,hp⟩:=Option.isSome_iff_exists.1 h.2
  exact Qn h.1.ok.wf hp hpg bw
end
theorem Uk(n:Nat)(wr:Bool)(x:za)(a s:Nat)(h0:0<s)(h1:a%64+s≤64):
  za.zm n wr 3 x a s=if(x.askF n (a/64) wr).1.2=0 then(([⟨(x.askF n (a/64) wr).1.1.toNat,a%64,s⟩],0),(x.askF n (a/64) wr).2)else(([],(x.askF n (a/64) wr).1.2),(x.askF n (a/64) wr).2):=by
 have e1:min s (64-a%64)=s:=by omega
 have e2:∀k y b,za.zm n wr k y b 0=(([],0),y):=fun k y b=>by
  cases k with
  | zero=>rfl
  | succ k=>unfold za.zm;rw[if_pos rfl]
 conv=>lhs;unfold za.zm
 rw[if_neg (by omega),e1,Nat.sub_self,e2]
 simp
theorem zf4 (n : Nat) (wr : Bool) (x : za) (a s : Nat) (h0 : s ≤ 64) (h1 : 64 < a % 64 + s) :
    za.zm n wr 3 x a s = if (x.askF n (a / 64) wr).1.2 = 0 then
      (if ((x.askF n (a / 64) wr).2.askF n (a / 64 + 1) wr).1.2 = 0 then (([⟨(x.askF n (a / 64) wr).1.1.toNat, a % 64, 64 - a % 64⟩, ⟨((x.askF n (a / 64) wr).2.askF n (a / 64 + 1) wr).1.1.toNat, 0, s - (64 - a % 64)⟩], 0), ((x.askF n (a / 64) wr).2.askF n (a / 64 + 1) wr).2)
       else (([], ((x.askF n (a / 64) wr).2.askF n (a / 64 + 1) wr).1.2), ((x.askF n (a / 64) wr).2.askF n (a / 64 + 1) wr).2))
      else (([], (x.askF n (a / 64) wr).1.2), (x.askF n (a / 64) wr).2) := by
  have e1 : min s (64 - a % 64) = 64 - a % 64 := by omega
  have e3 : (a + (64 - a % 64)) / 64 = a / 64 + 1 := by omega
  have e4 : (a + (64 - a % 64)) % 64 = 0 := by omega
  have e5 : min (s - (64 - a % 64)) (64 - 0) = s - (64 - a % 64) := by omega
  have e2 : ∀ k y b, za.zm n wr k y b 0 = (([], 0), y) := fun k y b => by
    cases k with
    | zero => rfl
    | succ k => unfold za.zm; rw [if_pos rfl]
  conv => lhs; unfold za.zm
  rw [if_neg (by omega), e1]
  have e6 : ∀ y, za.zm n wr 2 y (a + (64 - a % 64)) (s - (64 - a % 64)) = if (y.askF n (a / 64 + 1) wr).1.2 = 0 then (([⟨(y.askF n (a / 64 + 1) wr).1.1.toNat, 0, s - (64 - a % 64)⟩], 0), (y.askF n (a / 64 + 1) wr).2) else (([], (y.askF n (a / 64 + 1) wr).1.2), (y.askF n (a / 64 + 1) wr).2) := fun y => by
    conv => lhs; unfold za.zm
    rw [if_neg (by omega), e4, e5, Nat.sub_self, e2, e3]
    simp
  rw [e6]
  by_cases c1 : (x.askF n (a / 64) wr).1.2 = 0
  · rw [if_pos c1, if_pos c1]
    by_cases c2 : ((x.askF n (a / 64) wr).2.askF n (a / 64 + 1) wr).1.2 = 0
    · simp [c2]
    · simp [c2]
  · rw [if_neg c1, if_neg c1]
section
variable {F:Nat→Prop}{x y:za}
theorem Ok0.pieces(h:Ok0 x){n:Nat}(hs:(x.T n).isSome=true)(wr:Bool){a s:Nat}(h0:0<s)(h1:s≤64)(h2:a+s≤262144):
  ((za.zm n wr 3 x a s).1.2≠0∧Ok0 (za.zm n wr 3 x a s).2∧jm 10 x (za.zm n wr 3 x a s).2)∨
  (a%64+s≤64∧∃f a1 y,za.zm n wr 3 x a s=(([⟨f,a%64,s⟩],0),y)∧x.abs.area n (a/64)=some a1∧Jr x n (a/64) wr a1 (f:Nat) 0 y)∨
  (64<a%64+s∧∃f1 f2 a1 a2 y1 y,za.zm n wr 3 x a s=(([⟨f1,a%64,64-a%64⟩,⟨f2,0,s-(64-a%64)⟩],0),y)∧x.abs.area n (a/64)=some a1∧x.abs.area n (a/64+1)=some a2∧Jr x n (a/64) wr a1 (f1:Nat) 0 y1∧Jr y1 n (a/64+1) wr a2 (f2:Nat) 0 y):=by
 obtain⟨pr,hp⟩:=Option.isSome_iff_exists.1 hs
 have hpg:a/64<4096:=by omega
 have got:∀z pg,Ok0 z→(z.T n).isSome=true→pg<4096→(z.askF n pg wr).1.2=0→∃f a1 prz,z.T n=some prz∧yh prz.A (pg:Int)=some a1∧(z.askF n pg wr).1.1=(f:Nat)∧Jr z n pg wr a1 (f:Nat) 0 (z.askF n pg wr).2:=fun z pg hz hzs hpg hc=>by
  obtain⟨prz,hpz⟩:=Option.isSome_iff_exists.1 hzs
  obtain⟨f,hf⟩:=Qn hz.ok.wf hpz hpg wr
  rcases hz.askF hpz hpg wr with⟨_,e⟩|⟨a1,ha1,_,⟨_,e⟩|⟨_,g⟩⟩
  ·rw[e]at hc;simp at hc
  ·rw[e]at hc;simp at hc
  ·rw[hc,hf]at g
   exact⟨f,a1,prz,hpz,ha1,hf,g⟩
 have any:=h.zjn hs hpg wr
 by_cases hone:a%64+s≤64
 ·rw[Uk n wr x a s h0 hone]
  by_cases hc:(x.askF n (a/64) wr).1.2=0
  ·obtain⟨f,a1,prz,e1,e2,e3,g⟩:=got x _ h hs hpg hc
   rw[if_pos hc,e3,Int.toNat_natCast]
   exact .inr (.inl ⟨hone,f,a1,_,rfl,by rw[Y4 e1];exact e2,g⟩)
  ·rw[if_neg hc]
   exact .inl ⟨hc,any.1,any.2.mono (by omega)⟩
 ·have hpg2:a/64+1<4096:=by omega
  rw[zf4 n wr x a s h1 (by omega)]
  by_cases hc:(x.askF n (a/64) wr).1.2=0
  ·rw[if_pos hc]
   obtain⟨f,a1,prz,e1,e2,e3,g⟩:=got x _ h hs hpg hc
   have hs2:((x.askF n (a/64) wr).2.T n).isSome=true:=by rw[any.2.some];exact hs
   have any2:=any.1.zjn hs2 hpg2 wr
   by_cases hc2:((x.askF n (a/64) wr).2.askF n (a/64+1) wr).1.2=0
   ·obtain⟨f2,a2,prz2,e4,e5,e6,g2⟩:=got _ _ any.1 hs2 hpg2 hc2
    rw[if_pos hc2,e3,e6,Int.toNat_natCast,Int.toNat_natCast]
    refine .inr (.inr ⟨by omega,f,f2,a1,a2,_,_,rfl,by rw[Y4 e1];exact e2,?_,g,g2⟩)
    have hA:(x.askF n (a/64) wr).2.abs.A n=x.abs.A n:=by
     rw[g.abs rfl]
     split
     ·unfold Abs.own;split<;>rfl
     ·rfl
    unfold Abs.area
    rw[←hA]
    exact(Y4 e4).trans e5
   ·rw[if_neg hc2]
    exact .inl ⟨hc2,any2.1,any.2.trans any2.2⟩
  ·rw[if_neg hc]
   exact .inl ⟨hc,any.1,any.2.mono (by omega)⟩
theorem Jr.pcOk{n page:Nat}{wr:Bool}{a:Ar}{f:Nat}(g:Jr x n page wr a (f:Nat) 0 y)(hn:n<8)(hpg:page<4096)(at_ k:Nat)(h0:0<k)(h1:at_+k≤64):PcOk y.R ⟨f,at_,k⟩:=by
 obtain⟨f1,f2⟩:=g.frame rfl
 obtain⟨e1,e2,e3⟩:=g.ok.ok.frame' hn hpg f1
 rw[f2,Int.toNat_natCast]at e2 e3
 exact⟨e2,h0,h1,e3⟩
theorem Ok0.Q6(h:Ok0 x){n:Nat}(hs:(x.T n).isSome=true)(wr:Bool){a s:Nat}(h1:s≤64)(h2:a+s≤262144)(hc:(za.zm n wr 3 x a s).1.2=0):
  (za.zm n wr 3 x a s).1.1.length≤64∧(∀p∈(za.zm n wr 3 x a s).1.1,PcOk (za.zm n wr 3 x a s).2.R p)∧sumK (za.zm n wr 3 x a s).1.1=s:=by
 obtain⟨pr,hp⟩:=Option.isSome_iff_exists.1 hs
 have hn:=h.ok.Xg h.out hp
 by_cases h0:0<s
 ·rcases h.pieces hs wr h0 h1 h2 with⟨a,_⟩|⟨a1,f,ar,y,e,_,g⟩|⟨a1,f1,f2,ar1,ar2,y1,y,e,_,_,g1,g2⟩
  ·exact absurd hc a
  ·rw[e]
   dsimp only
   refine⟨by simp,fun p hp=>?_,by simp[sumK]⟩
   simp at hp
   subst hp
   exact g.pcOk hn (by omega) _ _ h0 a1
  ·rw[e]
   dsimp only
   refine⟨by simp,fun p hp=>?_,by simp[sumK];omega⟩
   simp at hp
   rcases hp with rfl|rfl
   ·obtain⟨b1,b2,b3,b4⟩:=g1.pcOk hn (by omega) (a%64) (64-a%64) (by omega) (by omega)
    exact⟨b1,b2,b3,by rw[g2.keeps.bad];exact b4⟩
   ·exact g2.pcOk hn (by omega) 0 _ (by omega) (by omega)
 ·have:s=0:=by omega
  subst this
  have e:za.zm n wr 3 x a 0=(([],0),x):=by unfold za.zm;rw[if_pos rfl]
  rw[e]
  exact⟨by simp,fun p hp=>by simp at hp,rfl⟩
theorem zew(R:RamS)(f a k:Nat)(h:a+k≤64):R.read f a k=((R.read f 0 64).drop a).take k:=by
 refine List.ext_getElem? fun i=>?_
 by_cases hi:i<k
 ·rw[List.getElem?_take_of_lt hi,List.getElem?_drop]
  unfold RamS.read
  rw[List.getElem?_map,List.getElem?_map,List.getElem?_range hi,List.getElem?_range (by omega)]
  simp
 ·rw[List.getElem?_eq_none (by simp[RamS.read];omega),List.getElem?_eq_none (by simp[RamS.read];omega)]
theorem Jr.bytes{n page:Nat}{a:Ar}{f:Nat}{wr:Bool}(g:Jr x n page wr a (f:Nat) 0 y)(hn:n<8)(hpg:page<4096)(ha:y.abs.area n page=some a):y.R.read f 0 64=y.abs.ct a n page:=by
 obtain⟨f1,f2⟩:=g.frame rfl
 cases hp:y.T n with
 | none=>rw[Ym hp]at f1;cases f1
 | some pr=>
  rw[Y4 hp]at ha
  rw[zfq g.ok.ok hn hp hpg ha f1,f2,Int.toNat_natCast]
structure zbn(X:Abs)(n page:Nat)(a:Ar):Prop where
 area:X.area n page=some a
 there:X.pv n page≠.lost
theorem Ok0.askOk(h:Ok0 x){n page:Nat}(hpg:page<4096){a:Ar}(hc:zbn x.abs n page a){wr:Bool}(hw:wr=true→a.write=true)(hroom:5≤x.P.room)(hcalm:x.D.Calm):(x.askF n page wr).1.2=0∧∀(f:Nat) a1 y,Jr x n page wr a1 (f:Nat) 0 y→y.D=x.D:=by
 have hD:∀(f:Nat) a1 y,Jr x n page wr a1 (f:Nat) 0 y→y.D=x.D:=fun f a1 y g=>by
  rcases g.disk with e|e
  ·exact e
  ·rw[e,hcalm.work]
 refine⟨?_,hD⟩
 have har:=hc.area
 cases hp:x.T n with
 | none=>
  unfold Abs.area za.abs at har
  dsimp only at har
  rw[hp]at har
  cases har
 | some pr=>
  rw[Y4 hp]at har
  have hlost:x.pv n page≠.lost:=fun e=>hc.there (by show(if page<4096 then x.pv n page else PV.none)=_;rw[if_pos hpg,e])
  rcases h.askF hp hpg wr with⟨e,_⟩|⟨a1,ha1,hd,⟨e,_⟩|⟨_,g⟩⟩
  ·rcases e with e|⟨a1,e,w1,w2⟩
   ·rw[har]at e;cases e
   ·rw[har]at e;cases e
    rw[hw w1]at w2;cases w2
  ·exact absurd e hlost
  ·rcases g.code with e|⟨_,e,_⟩|⟨_,e,_⟩
   ·exact e
   ·omega
   ·rw[hcalm.work]at e;exact absurd rfl e
end
section
variable {F:Nat→Prop}{x y z:za}
theorem ze4(X:Abs)(a:Ar)(n page:Nat):(X.own a n page).A=X.A:=by unfold Abs.own;split<;>rfl
theorem zjo{X Y:Abs}(h:X.A=Y.A)(n page:Nat):X.area n page=Y.area n page:=by unfold Abs.area;rw[h]
end
end Go.Proofs.YtnhdmnijiphjjaaGreat
