/- Tables of pages, in plain words: one table more on a page's way. No program in it. -/
import Derived.Test.YtnhdmnijiphjjaaGreatJMp3
import Derived.WalkKit
import Derived.Lib.Hide
import Derived.Laws.StructEq
import Derived.Deep.QuietTactic
import Derived.Test.YtnhdmnijiphjjaaGreatJMp0
import Derived.Maps.RangeRun
import Derived.Shelf.SlIter.Collect
import Derived.Test.YtnhdmnijiphjjaaGreatProg
import Derived.KernelRfl
set_option linter.unusedVariables false
set_option linter.unusedSimpArgs false
set_option maxRecDepth 100000
set_option maxHeartbeats 2000000
namespace Go.Proofs.YtnhdmnijiphjjaaGreat
open Go Go.RowKit
def zgt(N:List Nat→Option Nat)(page j:Nat)(list:List Int):Prop:=j≤3∧list.length=4-j∧Vo N page list (3-j)∧(0<j→N ((high page).take (4-j))=none)
theorem xm.zn3{x:RPT}{N:List Nat→Option Nat}(_h:xm x N)(page j:Nat)(list:List Int)(hn:x.P.next false=none):RPT.ym page (j+1) list x=(([],4),x.prune page list):=by
 have et:x.table=((0,4),x):=by unfold RPT.table;rw[hn]
 unfold RPT.ym
 simp only[et]
 rfl
theorem xm.zk4{x:RPT}{N:List Nat→Option Nat}(h:xm x N)(page j:Nat)(list:List Int)(hG:zgt N page (j+1) list){g:Nat}(hnx:x.P.next false=some g):
  ∃(f:Nat) (N':List Nat→Option Nat),list.getD (2-j) 0=(f:Int)∧f<1024∧x.R.bad f=false∧g<1024∧x.R.bad g=false∧
   RPT.ym page (j+1) list x=RPT.ym page j (list++[(g:Int)]) ⟨(x.R.write g 0 (List.replicate 64 0)).write f (8*digit page (2-j)) (leBytes (g+1) 8),x.P.set g 2,⟨x.T.root,x.T.own++[g]⟩⟩∧
   xm ⟨(x.R.write g 0 (List.replicate 64 0)).write f (8*digit page (2-j)) (leBytes (g+1) 8),x.P.set g 2,⟨x.T.root,x.T.own++[g]⟩⟩ N'∧zgt N' page j (list++[(g:Int)]):=by
 obtain⟨hj,hl,hw,hn⟩:=hG
 rcases h.table with⟨et,er⟩|⟨g',hnx',hg,hu,hb,ho,ha,et⟩
 ·unfold RPT.table at et
  rw[hnx]at et
  have hg:=(Yq hnx)
  have hb:=h.good g hg.1 hg.2.2
  have:ramE 1024 x.R (g:Int) 0 64=0:=Uf (n:=1024) (R:=x.R) (f:=g) (a:=0) (k:=64) hg.1 (by omega) hb
  simp only[this,if_true]at et
  have:=congrArg (fun r:(Int×Int)×RPT=>r.1.2) et
  simp at this
 ·rw[hnx]at hnx'
  cases hnx'
  obtain⟨f,hf,ef⟩:=hw (3-(j+1)) (Nat.le_refl _)
  have qf:=h.tree.lt _ _ hf
  have hd:=yg page (3-(j+1))
  have hno:=hn (by omega)
  have e4:4-(j+1)=3-(j+1)+1:=by omega
  rw[e4,←xy page _ (by omega)]at hno
  have elast:list.getLast?.getD 0=(f:Int):=by
   rw[List.getLast?_eq_getElem?,hl,←ef,List.getD_eq_getElem?_getD]
   congr 2
   omega
  have hpl:((high page).take (3-(j+1))).length<3:=by simp[high];omega
  have g1:=h.tree.grow1 hf hpl hd hno hg hb ho
  have hfo:f∈x.T.own:=(h.tree.own f).2 ⟨_,hf⟩
  have hfg:f≠g:=fun e=>ho (e▸hfo)
  have st:Zq x ⟨(x.R.write g 0 (List.replicate 64 0)).write f (8*digit page (3-(j+1))) (leBytes (g+1) 8),x.P.set g 2,⟨x.T.root,x.T.own++[g]⟩⟩:=by
   refine⟨rfl,rfl,fun a i h1 h2=>?_,fun a=>?_,rfl,rfl,fun a ha=>?_⟩
   ·show((x.R.write g 0 (List.replicate 64 0)).write f _ _).b a i=_
    rw[qm,if_neg,qm,if_neg]
    ·rintro⟨rfl,_⟩;exact h1 hu
    ·rintro⟨rfl,_⟩;exact h2 hfo
   ·show(if a=g then 2 else x.P.use a)=_
    simp only[List.mem_append,List.mem_singleton]
    by_cases e:a=g
    ·simp[e]
    ·by_cases e2:a∈x.T.own
     ·simp[e,e2,h.tab a e2]
     ·simp[e,e2]
   ·rcases List.mem_append.1 ha with ha|ha
    ·exact .inl ha
    ·simp at ha;subst ha;exact .inr hu
  have ok:=h.step st g1
  refine⟨f,_,by rw[show 2-j=3-(j+1)by omega];exact ef,qf.1,qf.2.1,hg,hb,?_,by rw[show 2-j=3-(j+1)by omega];exact ok,⟨by omega,by simp[hl];omega,fun m hm=>?_,fun hj'=>?_⟩⟩
  ·conv=>lhs;unfold RPT.ym
   simp only[et,if_true,elast,Int.toNat_natCast]
   rw[Uh (R:=x.R.write g 0 (List.replicate 64 0)) qf.1 (by rw[Vp];exact qf.2.1) hd,show 2-j=3-(j+1)by omega]
  ·by_cases em:m=4-(j+1)
   ·refine⟨g,?_,?_⟩
    ·rw[em,e4,←xy page _ (by omega)];exact if_pos rfl
    ·rw[List.getD_eq_getElem?_getD,List.getElem?_append_right (by omega),em,hl];simp
   ·obtain⟨a,ha,ea⟩:=hw m (by omega)
    refine⟨a,?_,?_⟩
    ·refine(if_neg ?_).trans ha
     rw[xy page _ (by omega)]
     intro e
     have:=congrArg List.length e
     simp[high]at this
     omega
    ·rw[List.getD_eq_getElem?_getD,List.getElem?_append_left (by omega),←List.getD_eq_getElem?_getD];exact ea
  ·refine(if_neg ?_).trans ?_
   rotate_left
   ·cases e5:N ((high page).take (4-j))with
    | none=>rfl
    | some a=>
     rw[show 4-j=4-(j+1)+1 by omega,←xy page _ (by omega)]at e5
     obtain⟨b,hb⟩:=h.tree.par _ _ _ e5
     rw[e4,←xy page _ (by omega),hno]at hb
     cases hb
   ·rw[xy page _ (by omega)]
    intro e
    have:=congrArg List.length e
    simp[high]at this
    omega
theorem xm.set_eq {x : RPT} {N : List Nat → Option Nat} (h : xm x N) {page : Nat} (hpage : page < 4096) {e : Ent} (he : e.ok = true) :
    x.set page e = if (wayN N x.T.root page).length < 4 then
          if e.num = 0 then (0, x) else
          if (RPT.ym page (4 - (wayN N x.T.root page).length) (wayN N x.T.root page) x).1.2 = 0 then (RPT.ym page (4 - (wayN N x.T.root page).length) (wayN N x.T.root page) x).2.setLast page (RPT.ym page (4 - (wayN N x.T.root page).length) (wayN N x.T.root page) x).1.1 e.num
          else ((RPT.ym page (4 - (wayN N x.T.root page).length) (wayN N x.T.root page) x).1.2, (RPT.ym page (4 - (wayN N x.T.root page).length) (wayN N x.T.root page) x).2)
        else x.setLast page (wayN N x.T.root page) e.num := by
  have hm : x.T.may page = 0 := by
    unfold Z7.may
    rw [if_neg (by omega), if_neg h.tree.own_ne]
  unfold RPT.set
  rw [if_pos hm, if_pos he]
  simp only [Int.toNat_natCast, h.tree.way page]
  rfl
theorem xm.zae{x:RPT}{N:List Nat→Option Nat}(h:xm x N)(page:Nat)(list:List Int)(hl:list.length=4)(hw:Vo N page list 3){e:Ent}(he:e.ok=true):
  ∃f N',list.getD 3 0=((f:Nat):Int)∧f<1024∧x.R.bad f=false∧xm ⟨x.R.write f (8*digit page 3) (leBytes e.num 8),x.P,x.T⟩ N'∧Vo N' page list 3∧
   x.setLast page list e.num=(0,RPT.prune ⟨x.R.write f (8*digit page 3) (leBytes e.num 8),x.P,x.T⟩ page list):=by
 obtain⟨f,hf,ef⟩:=hw 3 (Nat.le_refl _)
 have hf':N (high page)=some f:=hf
 have qf:=h.tree.lt _ _ hf
 have hfo:f∈x.T.own:=(h.tree.own f).2 ⟨_,hf⟩
 have c1:=h.tree.zih hf' (by simp[high]) (yg page 3) he
 have st:Zq x ⟨x.R.write f (8*digit page 3) (leBytes e.num 8),x.P,x.T⟩:=by
  refine⟨rfl,rfl,fun a i h1 h2=>?_,fun a=>?_,rfl,rfl,fun a ha=>.inl ha⟩
  ·show(x.R.write f _ _).b a i=_
   rw[qm,if_neg]
   rintro⟨rfl,_⟩;exact h2 hfo
  ·show x.P.use a=_
   by_cases e2:a∈x.T.own
   ·rw[if_pos e2];exact h.tab a e2
   ·rw[if_neg e2,if_neg e2]
 refine⟨f,N,ef,qf.1,qf.2.1,h.step st c1,hw,?_⟩
 unfold RPT.setLast
 rw[ef,zbg qf.1 qf.2.1 (yg _ _),Uh qf.1 qf.2.1 (yg _ _)]
 rfl
theorem xm.zgd{x:RPT}{N:List Nat→Option Nat}(h:xm x N)(page:Nat)(hl:(wayN N x.T.root page).length<4):zgt N page (4-(wayN N x.T.root page).length) (wayN N x.T.root page):=by
 obtain⟨w1,w2,w3,w4,w5⟩:=Ud h.tree page
 exact⟨by omega,by omega,by rw[show 3-(4-(wayN N x.T.root page).length)=(wayN N x.T.root page).length-1 by omega];exact w3,fun _=>by rw[show 4-(4-(wayN N x.T.root page).length)=(wayN N x.T.root page).length by omega];exact w4 hl⟩
theorem xm.grow_end{x:RPT}{N:List Nat→Option Nat}(h:xm x N)(page j:Nat)(list:List Int)(hG:zgt N page j list):
  (∃N',(RPT.ym page j list x).1.2=0∧(RPT.ym page j list x).1.1.length=4∧xm (RPT.ym page j list x).2 N'∧Vo N' page (RPT.ym page j list x).1.1 3)∨(RPT.ym page j list x).1.2=4:=by
 rcases h.ym page j list hG.1 hG.2.1 hG.2.2.1 hG.2.2.2 with⟨l,N',i1,i2,i3,_,i5,_⟩|⟨N',i1,_⟩
 ·left
  refine⟨N',?_,?_,i3,?_⟩
  ·rw[i1]
  ·rw[i1];exact i2
  ·rw[i1];exact i5
 ·right
  rw[i1]
abbrev C4(ct u:Nat):Nat→Prop:=fun c=>C3 ct c∨c=u
def zoq(w:World)(tag:Nat→Nat)(u:Nat)(q:Rq)(page db:Nat)(y:(List Int×Int)×RPT)(s2 s9:Value)(W:World):Prop:=
 ∃(j:Nat) (l:List Int) (x:RPT) (N:List Nat→Option Nat) (tag':Nat→Nat) (b off c:Nat),j≤3∧l.length=4-j∧s9=.int .i64 ((4-j:Nat):Int)∧s2=.slice (some ⟨b,off,none⟩) (4-j) c∧
  Hid (RPT.ym page j l x=y∧xm x N∧zgt N page j l∧xh W tag' q x∧Step (C4 q.ct u) tag w tag' W∧LiAt W tag' u s2 l∧Row W db 4 (fun i=>.int .i64 (digit page i))∧tag' db=0∧∀b,W.heap.size≤b→tag' b=0)
def zmv(w:World)(tag:Nat→Nat)(u:Nat)(q:Rq)(y:(List Int×Int)×RPT)(e:Ending)(w':World):Prop:=
 ∃v tag',e=.returned (.tuple #[v,.int .i64 y.1.2])∧xh w' tag' q y.2∧Step (C4 q.ct u) tag w tag' w'∧(y.1.2=0→LiAt w' tag' u v y.1.1)
section
variable (w:World)(tag:Nat→Nat)(q:Rq)(x:RPT)(N:List Nat→Option Nat)
theorem ziu(h:xh w tag q x)(ok:xm x N)(page:Nat)(hpg:page<4096)(j0:Nat)(l:List Int)(v:Value)(u:Nat)(hu:¬C3 q.ct u)(hu0:u≠0)(hl:LiAt w tag u v l)(hG:zgt N page j0 l):
  Calls Tryz.prog 183 #[.pointer (some ⟨q.t,0,none⟩),.int .i64 page,v] w (zmv w tag u q (RPT.ym page j0 l x)):=by
 obtain⟨tag0,h,s0',hn0⟩:=h.anew (Step.refl (C3 q.ct) tag w)
 have hl0:=hl.step s0' hu
 have s0:Step (C4 q.ct u) tag w tag0 w:=s0'.mono fun c e=>.inl e
 clear s0'
 obtain⟨y,hy⟩:∃y,RPT.ym page j0 l x=y:=⟨_,rfl⟩
 rw[hy]
 have hlen:=hG.2.1
 have hj0:=hG.1
 obtain⟨b,off,c,ev,_⟩:=hl0.at (k:=0) (by omega)
 rw[hlen]at ev
 subst ev
 have HI:=Lib.hid zd3
 have H:=Lib.hid (And.intro hy (And.intro h (And.intro ok (And.intro s0 (And.intro hl0 (And.intro hn0 (And.intro hG hlen)))))))
 clear h ok s0 hn0 hl0 hG hl hy hlen
 go_enter Tryz.func183,Tryz.ntmps183
 go_wp2_with fail
 refine(Zp _ page page rfl hpg).mono ?_
 rintro e w1 ⟨rfl,hb1⟩
 have HB1:=Lib.hid hb1
 clear hb1
 unfold digV
 go_wp2_with fail
 go_loopw [2,9] (zoq w tag u q page w1.heap.size y) (fun _ k _=>4-(intOf k).toNat)
 case atStart=>
  have hb2:Below w.heap.size w (w1.alloc (.cells #[.int .i64 (digit page 0),.int .i64 (digit page 1),.int .i64 (digit page 2),.int .i64 (digit page 3)] 148 (0,0))):=HB1.out.trans (((Below.refl w1.heap.size w1).alloc (Nat.le_refl _) _).mono HB1.out.size)
  obtain⟨r0,r1,r2,r3,r4,r5,r6,r7⟩:=H.out
  exact⟨j0,l,x,N,tag0,b,off,c,hj0,r7,rfl,rfl,r0,r2,r6,r1.below hb2,r3.trans (Step.of_below hb2),r4.below hb2,Row.new w1 4 (fun i=>.int .i64 (digit page i)) _ 148 rfl (fun i hi=>by
    have:i=0∨i=1∨i=2∨i=3:=by omega
    rcases this with rfl|rfl|rfl|rfl<;>rfl),r5 _ HB1.out.size,fun b hb=>r5 b (Nat.le_trans hb2.size hb)⟩
 case round=>
  obtain⟨j,m,z,M,tag1,b1,off1,c1,hj,hml,rfl,rfl,hR⟩:=hrel
  cases j with
  | zero=>
   have FIN:Hid (y=((m,0),z)):=hR.out.1.symm
   go_wp2_with fail
   refine bodyPost_ret (v:=.tuple #[.slice (some ⟨b1,off1,none⟩) (4-0) c1,.int .i64 0]) (by simp[results,Tryz.results183,go_sem]) rfl ?_
   obtain⟨r1,r2,r3,r4,r5,r6,r7,r8,r9⟩:=hR.out
   rw[FIN.out]
   exact⟨_,tag1,rfl,r4,r5,fun _=>r6⟩
  | succ j=>
   obtain⟨r1,r2,r3,r4,r5,r6,r7,r8,r9⟩:=hR.out
   have k1:4-(j+1)=3-j:=by omega
   rw[k1]at r6 hml
   have k2:((3-j:Nat):Int)<4:=by omega
   have k3:(1:Int)≤((3-j:Nat):Int):=by omega
   obtain⟨n,hn⟩:∃n,n=3-j:=⟨_,rfl⟩
   have hcj:j≤2:=by omega
   rw[k1]
   rw[←hn]at k2 k3 r6 hml⊢
   have h5:n+j≤3:=by omega
   have h6:3≤n+j:=by omega
   have HNN:=Lib.hid hn
   clear hn k1
   cases hnx:z.P.next false with
   | none=>
    have T:=Lib.hid (zfu wr tag1 q z r4 hnx)
    have e1:=r2.zn3 page j m hnx
    have hon:Vo M page m (m.length-1):=by
     have:=r3.2.2.1
     rw[show 3-(j+1)=m.length-1 by omega]at this
     exact this
    have PR:=Lib.hid (fun W' (hb:Below wr.heap.size wr W')=>Ui W' tag1 q z M (r4.below hb) r2 page hpg m _ u hu (r6.below hb) (by omega) (by omega) hon)
    have Y:Hid (y=(([],4),z.prune page m)∧Step (C4 q.ct u) tag w tag1 wr):=⟨r1.symm.trans e1,r5⟩
    clear r1 r2 r3 r4 r5 r6 r7 r8 r9 e1 hon hnx
    go_wp2_with fail
    refine T.out.mono ?_
    rintro e w3 ⟨rfl,hb3⟩
    have HB3:=Lib.hid hb3
    clear hb3
    go_wp2_with fail
    refine(PR.out w3 HB3.out).mono ?_
    rintro e w4 ⟨rfl,tag2,p1,p2⟩
    have FIN:=Lib.hid (And.intro p1 ((Y.out.2.trans (Step.of_below HB3.out)).trans (p2.mono (C':=C4 q.ct u) (fun c e=>.inl e))))
    clear p1 p2
    go_wp2_with fail
    refine bodyPost_ret (v:=.tuple #[.slice none 0 0,.int .i64 4]) (by simp[results,Tryz.results183,go_sem]) rfl ?_
    rw[Y.out.1]
    exact⟨_,tag2,rfl,FIN.out.1,FIN.out.2,(fun e=>by simp at e)⟩
   | some g=>
    obtain⟨f,M',p1,p2,p3,p4,p5,p6,p7,p8⟩:=r2.zk4 page j m r3 hnx
    have hlen:=r2.zh2
    have T:=Lib.hid (zac wr tag1 q z r4 g hnx p4 p5 (by omega))
    obtain⟨b',off',c',ev,hcell⟩:=r6.at (k:=0) (by omega)
    rw[hml]at ev
    cases ev
    have hn2:2-j=n-1:=by omega
    rw[hn2]at p1 p6 p7
    have cf:=hcell (n-1) f (getD_some (by omega) p1)
    have R:=Lib.hid (And.intro r1 (And.intro r5 (And.intro r6 (And.intro r7 (And.intro r8 r9)))))
    have PP:=Lib.hid (And.intro p6 (And.intro p7 (And.intro p8 (And.intro p2 p3))))
    clear r1 r2 r3 r4 r5 r6 r7 r8 r9 hcell p1 p2 p3 p6 p7 p8 hlen hnx hn2
    go_wp2_with fail
    refine T.out.mono ?_
    rintro e w3 ⟨rfl,tag2,d1,d2⟩
    obtain⟨tag3,e1,e2,e3⟩:=d1.anew d2
    obtain⟨r1,r5,r6,r7,r8,r9⟩:=R.out
    have hc0:¬(0=1∨0=2∨0=q.ct):=by have:=e1.ct;omega
    have hcu:¬(u=1∨u=2∨u=q.ct):=hu
    have L3:=r6.step e2 hcu
    have D3:=row_step r7 r8 e2 hc0
    have S3:=r5.trans (e2.mono (C':=C4 q.ct u) (fun c e=>.inl e))
    have hb10:tag1 b1=u:=r6.2 b1 rfl
    have cf3:w3.cell? ⟨b1,off1+(n-1),none⟩=some (.int .i64 f):=e2.turn.cell cf (by show ¬(tag1 b1=1∨tag1 b1=2∨tag1 b1=q.ct);rw[hb10];exact hcu)
    have n1:1≤n:=by omega
    have n4:n≤3:=by omega
    have cd3:w3.cell? ⟨w1.heap.size,n-1,none⟩=some (.int .i64 (digit page (n-1))):=D3.1.cell (by omega)
    have hlb:b1<w3.heap.size:=World.block_lt_of_cell? _ _ cf3
    have hld:w1.heap.size<w3.heap.size:=World.block_lt_of_cell? _ _ cd3
    have F3:=Lib.hid (And.intro e1 (And.intro e3 (And.intro L3 (And.intro D3 (And.intro S3 r1)))))
    obtain⟨W,hW⟩:∃W,W=w3.drew:=⟨_,rfl⟩
    have hdW:w3.drew=W:=hW.symm
    have q0:W.cell? ⟨b1,off1+(n-1),none⟩=some (.int .i64 f):=by rw[hW];exact cf3
    have q1:W.cell? ⟨w1.heap.size,n-1,none⟩=some (.int .i64 (digit page (n-1))):=by rw[hW];exact cd3
    have HBW:Hid (Below w3.heap.size w3 W):=by rw[hW];exact(Below.refl _ _).drew
    have PT:=Lib.hid (fun(W':World) (hb:Below w3.heap.size w3 W')=>Vs W' tag3 q _ (F3.out.1.below hb) f (digit page (n-1)) ((g:Int)+1) f (digit page (n-1)) (g+1) rfl rfl (by omega) PP.out.2.2.2.1 (by rw[Vp];exact PP.out.2.2.2.2) (yg _ _) (by omega))
    clear d1 d2 e1 e2 e3 r1 r5 r6 r7 r8 r9 L3 D3 S3 cf3 cd3 cf hW
    obtain⟨i,rfl⟩:∃i,n=i+1:=⟨n-1,by omega⟩
    simp only[Nat.add_sub_cancel]at q0 q1 PT
    have w1':IntKind.i64.wrap (i:Int)=i:=IntWalk.i64_in _ (by omega)
    have w2':(i:Int)+1-1=i:=by omega
    have w3':IntKind.u64.wrap (g:Int)=g:=by rw[IntKind.wrap_u64];omega
    have w4':IntKind.u64.wrap ((g:Int)+1)=(g:Int)+1:=by rw[IntKind.wrap_u64];omega
    have b1':(0:Int)≤i:=by omega
    have b2':(i:Int)<4:=by omega
    have b3':i<4:=by omega
    have b4':(i:Int)<(i:Int)+1:=by omega
    have b5':(i:Int)+1<4:=by omega
    obtain⟨inf,hI⟩:=HI.out
    have HI2:=Lib.hid hI
    clear hI
    go_wp2_with fail
    go_region_held (fun W'=>W'.cell? ⟨b1,off1+i,none⟩=some (.int .i64 f)∧W'.cell? ⟨w1.heap.size,i,none⟩=some (.int .i64 (digit page i))) (go_keep)
     ((go_at_call 184;refine(PT W HBW.out).mono ?_;rintro e w5 ⟨rfl,t1,t2⟩;have T5:=Lib.hid (And.intro t1 t2);have q0':w5.cell? ⟨b1,off1+i,none⟩=some (.int .i64 f):=t2.turn.cell q0 (by show ¬tag3 b1=1;rw[F3.out.2.2.1.2 b1 rfl];exact fun e=>hu (.inl e));have q1':w5.cell? ⟨w1.heap.size,i,none⟩=some (.int .i64 (digit page i)):=t2.turn.cell q1 (by show ¬tag3 w1.heap.size=1;rw[F3.out.2.2.2.1.2];decide);clear t1 t2))
    obtain⟨u1,u2,u3,u4,u5,u6⟩:=F3.out
    obtain⟨tag4,v1,v2,v3⟩:=T5.out.1.anew T5.out.2
    have hc1:¬(0=1):=by decide
    have L5:=(u3.below HBW.out).step v2 (fun e=>hu (.inl e))
    have D5:=row_step (u4.1.below HBW.out) u4.2 v2 hc1
    have S5:=(u5.trans (Step.of_below HBW.out)).trans (v2.mono (C':=C4 q.ct u) (fun c e=>.inl (.inl e)))
    have Y5:=PP.out.1.symm.trans u6
    have F5:=Lib.hid (And.intro v1 (And.intro v3 (And.intro L5 (And.intro D5 (And.intro S5 Y5)))))
    clear u1 u2 u3 u4 u5 u6 v1 v2 v3 L5 D5 S5 Y5 q0 q1 q0' q1'
    have hs0:Hid (SlAt (w5.alloc (.cells #[.int .i64 g] 3)) 3 1 (.slice (some ⟨b1,off1,none⟩) (i+1) c1) (i+1) (m.map iV)):=by
     have:=F5.out.2.2.1.1
     rw[hml]at this
     exact this.below ((Below.refl _ _).alloc (Nat.le_refl _) _)
    have C2:Hid (∀k u,[iV (g:Int)][k]?=some u→(w5.alloc (.cells #[.int .i64 g] 3)).cell? ((⟨w5.heap.size,0,none⟩:Addr).add k)=some u):=fun k u hu=>by
     have:k=0:=by have:=(List.getElem?_eq_some_iff.1 hu).1;simp at this;omega
     subst this
     simp at hu
     subst hu
     rw[add_plain,cell_of_row _ _ _ _ _ _ (heap_alloc_new w5 (.cells #[.int .i64 g] 3))]
     rfl
    go_wp2_with (at_builtin;refine x9 _ rfl _ _ 79 rfl 3 inf _ 1 8 Tryz.underlying79 HI2.out.1 HI2.out.2.1 HI2.out.2.2.1 HI2.out.2.2.2 rfl _ _ _ rfl hs0.out ⟨w5.heap.size,0,none⟩ 1 1 [iV (g:Int)] rfl rfl C2.out ?c3 ?c4 ?c5 ?c6)
    case c3=>intro u hu;simp at hu;subst hu;rfl
    case c4=>unfold maxLen;omega
    case c5=>omega
    intro v' w6 hs hgr ho
    obtain⟨y1,y2,y3,y4,y5,y6⟩:=F5.out
    have hTu:Turn (fun b=>tag4 b=u) w5 w6:=((Turn.refl _ w5).alloc _).trans (Turn.vo hgr (fun k hk=>.inl (y3.2 k hk)))
    have s6:Step (fun c=>c=u) tag4 w5 (retag tag4 w5 u) w6:=Step.retag hTu rfl
    have A6:=y1.step s6 (fun e=>hu (.inl e.symm)) (fun e=>hu (.inr (.inl e.symm))) (fun e=>hu (.inr (.inr e.symm)))
    have D6:=row_step y4.1 y4.2 s6 (fun e=>hu0 e.symm)
    have S6:=y5.trans (s6.mono (C':=C4 q.ct u) (fun c e=>.inr e))
    have L6:LiAt w6 (retag tag4 w5 u) u v' (m++[(g:Int)]):=by
     refine⟨by rw[List.length_append,hml,List.map_append];exact hs,fun b' hb'=>?_⟩
     rcases ho with e|e
     ·rw[e]at hb'
      have h1:=y3.2 b' hb'
      show retag tag4 w5 u b'=u
      unfold retag
      split
      ·exact h1
      ·rfl
     ·rw[e]at hb'
      cases hb'
      exact Xe (by first|omega|simp)
    have sN:Step (fun _=>False) (retag tag4 w5 u) w6 (retag (retag tag4 w5 u) w6 0) w6:=Vt _ _ _
    have A7:=A6.step sN (fun e=>e) (fun e=>e) (fun e=>e)
    have D7:=row_step D6.1 D6.2 sN (fun e=>e)
    have L7:=L6.step sN (fun e=>e)
    have S7:=S6.trans (sN.mono (C':=C4 q.ct u) (fun c e=>e.elim))
    obtain⟨a',c',rfl,_,_⟩:=SlAt.form hs
    obtain⟨b2,off2,c2,ev,_⟩:=L7.at (k:=0) (by simp)
    simp only[Value.slice.injEq]at ev
    obtain⟨rfl,_,rfl⟩:=ev
    have FIN:=Lib.hid (And.intro A7 (And.intro D7 (And.intro L7 (And.intro S7 y6))))
    clear hs hgr ho y1 y2 y3 y4 y5 y6 hTu s6 A6 D6 S6 L6 sN A7 D7 L7 S7
    go_wp2_with fail
    go_roundw
    case rel=>exact⟨j,m++[(g:Int)],_,M',_,b2,off2,c',by omega,by rw[List.length_append,hml];simp;omega,by go_num,by rw[show 4-j=i+1+1 by omega],FIN.out.2.2.2.2,PP.out.2.1,PP.out.2.2.1,FIN.out.1,FIN.out.2.2.2.1,FIN.out.2.2.1,FIN.out.2.1.1,FIN.out.2.1.2,fun b hb=>Xe hb⟩
    case measure=>simp[intOf];omega
end
theorem ziw(tag:Nat→Nat)(n ct:Nat):∃u,20≤u∧u≠ct∧∀b,b<n→tag b≠u:=by
 have key:∃M,∀b,b<n→tag b<M:=by
  induction n with
  | zero=>exact⟨0,fun b hb=>by omega⟩
  | succ n ih=>
   obtain⟨M,hM⟩:=ih
   refine⟨M+tag n+1,fun b hb=>?_⟩
   by_cases e:b=n
   ·subst e;omega
   ·have:=hM b (by omega);omega
 obtain⟨M,hM⟩:=key
 exact⟨M+ct+20,by omega,by omega,fun b hb=>by have:=hM b hb;omega⟩
theorem Vu{w w':World}{tag tag':Nat→Nat}{ct u:Nat}(h:Step (C4 ct u) tag w tag' w')(hu:∀b,b<w.heap.size→tag b≠u):Step (C3 ct) tag w tag' w':=
 ⟨h.same,h.turn.mono fun k hk e=>e.resolve_right (hu k hk)⟩
section
variable (w:World)(tag:Nat→Nat)(q:Rq)(x:RPT)(N:List Nat→Option Nat)
theorem zfs(h:xh w tag q x)(ok:xm x N)(pi:Int)(page:Nat)(ep:pi=page)(hpg:page<4096)(e:Ent)(he:e.ok=true):
  Calls Tryz.prog 140 #[.pointer (some ⟨q.t,0,none⟩),.int .i64 pi,entV e] w fun r w'=>r=.returned (.int .i64 (x.set page e).1)∧∃tag',xh w' tag' q (x.set page e).2∧Step (C3 q.ct) tag w tag' w':=by
 subst ep
 obtain⟨y,hy⟩:∃y,x.set page e=y:=⟨_,rfl⟩
 rw[hy]
 have hset:=ok.set_eq hpg he
 rw[hy]at hset
 obtain⟨u,hu1,hu2,hu3⟩:=ziw tag w.heap.size q.ct
 have HU:Hid (∀b,b<w.heap.size→tag b≠u):=hu3
 have hu:¬C3 q.ct u:=by unfold C3;omega
 have hu0:u≠0:=by omega
 have s0:Step (C4 q.ct u) tag w (retag tag w u) w:=⟨fun b hb=>if_pos hb,Turn.refl _ _⟩
 have h0:=h.step (C:=fun _=>False) (tag':=retag tag w u) ⟨fun b hb=>if_pos hb,Turn.refl _ w⟩ (fun e=>e) (fun e=>e) (fun e=>e)
 have hnew:∀b,w.heap.size≤b→retag tag w u b=u:=fun b hb=>Xe hb
 generalize retag tag w u=tag0 at s0 h0 hnew
 have i0:(0:Int)≤page:=by omega
 have i1:(page:Int)<4096:=by omega
 obtain⟨en,hen⟩:∃en,e.num=en:=⟨_,rfl⟩
 have hlt:=(Ent.zca he).1
 rw[hen]at hlt hset
 have HEN:=Lib.hid hen
 have EN:=Lib.hid (fun W'=>zdb W' e he)
 rw[hen]at EN
 have hz:en=0↔e=Ent.none:=by rw[←hen];exact Ent.za9 he
 have HZ:=Lib.hid hz
 have HH:=Lib.hid (And.intro h0 (And.intro ok (And.intro s0 hnew)))
 have HSET:=Lib.hid hset
 clear h ok s0 h0 hnew hu3 hy hset hen hz
 have hb0:∀T v1 v2 v3,Below w.heap.size w (w.alloc (.cells #[v1,v2,v3] T (0,0))):=fun T _ _ _=>(Below.refl _ _).alloc (Nat.le_refl _) _
 have HB0:=Lib.hid hb0
 clear hb0
 have hidx:=zcm page
 unfold entV at EN⊢
 go_enter Tryz.func140,Tryz.ntmps140
 go_wp2_with fail
 refine(zic _ tag0 q x (HH.out.1.below (HB0.out _ _ _ _)) page i0 i1 HH.out.2.1.tree.own_ne).mono ?_
 rintro e1 w1 ⟨rfl,rfl⟩
 go_wp2_with fail
 refine(EN.out _).mono ?_
 rintro e2 w2 ⟨rfl,hb2⟩
 have HB2:Hid (Below w.heap.size w w2):=(HB0.out _ _ _ _).trans (hb2.mono (by simp))
 clear hb2
 go_wp2_with fail
 refine(zek w2 tag0 q x N (HH.out.1.below HB2.out) HH.out.2.1.tree page page rfl hpg).mono ?_
 rintro e3 w3 ⟨v,rfl,hs,ho,hb3⟩
 have HGS:=Lib.hid (fun hl=>HH.out.2.1.zgd page hl)
 have hwl:=zem HH.out.2.1.tree page
 have hw3:=(Ud HH.out.2.1.tree page).2.2.1
 generalize wayN N x.T.root page=L at *
 have hli:LiAt w3 tag0 u v L:=⟨hs,fun b hb=>HH.out.2.2.2 b (Nat.le_trans HB2.out.size (ho b hb))⟩
 obtain⟨a,c0,rfl,_,_⟩:=SlAt.form hs
 have HB3:Hid (Below w.heap.size w w3):=HB2.out.trans (hb3.mono HB2.out.size)
 have HLI0:=Lib.hid hli
 have HW3:=Lib.hid hw3
 clear hs ho hb3 hli hw3
 obtain⟨n,hn⟩:∃n,L.length=n:=⟨_,rfl⟩
 have HN:=Lib.hid hn
 rw[hn]at HSET HGS HW3 hwl⊢
 clear hn
 by_cases h4:n<4
 ·have i4:(n:Int)<4:=by omega
  by_cases hz0:en=0
  ·have FY:Hid (y=(0,x)):=by have:=HSET.out;rw[if_pos h4,if_pos hz0]at this;exact this
   subst hz0
   go_wp2_with fail
   refine bodyPost_ret (v:=.int .i64 0) (by simp[results,Tryz.results140,go_sem]) rfl ?_
   rw[FY.out]
   exact⟨rfl,tag0,HH.out.1.below HB3.out,Vu (HH.out.2.2.1.trans (Step.of_below HB3.out)) HU.out⟩
  ·have hz1:((en:Int)==0)=false:=beq_eq_false_iff_ne.2 (by omega)
   have FY:Hid (y=if(RPT.ym page (4-n) L x).1.2=0 then(RPT.ym page (4-n) L x).2.setLast page (RPT.ym page (4-n) L x).1.1 en else((RPT.ym page (4-n) L x).1.2,(RPT.ym page (4-n) L x).2)):=by have:=HSET.out;rw[if_pos h4,if_neg hz0]at this;exact this
   have GR:=Lib.hid (ziu w3 tag0 q x N (HH.out.1.below HB3.out) HH.out.2.1 page hpg (4-n) L _ u hu hu0 HLI0.out (HGS.out h4))
   rw[HN.out]at GR
   have GE:=Lib.hid (HH.out.2.1.grow_end page (4-n) L (HGS.out h4))
   clear hz0
   go_wp2_with fail
   refine GR.out.mono ?_
   rintro e4 w4 ⟨v4,tag4,rfl,g1,g2,g3⟩
   generalize RPT.ym page (4-n) L x=G at *
   rcases GE.out with⟨N',ge1,ge2,ge3,ge4⟩|ge1
   ·obtain⟨⟨LX,er⟩,ZX⟩:=G
    simp only at ge1 ge2 ge3 ge4 g1 g3 FY
    subst ge1
    have g3:=g3 rfl
    obtain⟨a4,c4,rfl,_,_⟩:=SlAt.form g3.1
    have HLI:Hid (LiAt w4 tag4 u (.slice a4 4 c4) LX):=by rw[ge2]at g3;exact g3
    have HA:=Lib.hid g1
    have HOK:=Lib.hid ge3
    have HON:=Lib.hid ge4
    have HL4:=Lib.hid ge2
    have HST:=Lib.hid ((HH.out.2.2.1.trans (Step.of_below HB3.out)).trans g2)
    have HY:Hid (y=ZX.setLast page LX e.num):=by have:=FY.out;rw[if_pos rfl]at this;rw[HEN.out];exact this
    clear g1 g2 g3 ge3 ge4 FY GR GE HSET
    rw[ge2]
    clear ge2
    generalize hTG:tag4=TG at *
    clear hTG

    obtain⟨f,N4,p1,p2,p3,p4,p5,p6⟩:=HOK.out.zae page LX HL4.out HON.out he
    obtain⟨b,off,c,ev,hcell⟩:=HLI.out.at (k:=0) (by rw[HL4.out];omega)
    rw[HL4.out]at ev
    simp only[Value.slice.injEq]at ev
    obtain⟨rfl,_,rfl⟩:=ev
    have cf:=hcell 3 f (getD_some (by rw[HL4.out];omega) p1)
    have PP:=Lib.hid (And.intro p3 (And.intro p4 (And.intro p5 p6)))
    clear hcell p1 p3 p4 p5 p6
    go_wp2_with fail
    refine(Zp _ page page rfl hpg).mono ?_
    rintro e5 w5 ⟨rfl,hb5⟩
    have cf5:=(hb5.cell (World.block_lt_of_cell? _ _ cf)).trans cf
    have HB5:=Lib.hid hb5
    have hbl5:=World.block_lt_of_cell? _ _ cf5
    clear hb5 cf
    unfold digV
    have GT:=Lib.hid (Qj w5 TG q ZX (HA.out.below HB5.out) f (digit page 3) f (digit page 3) rfl rfl p2 PP.out.1 (yg _ _))
    go_wp2_with fail
    refine GT.out.mono ?_
    rintro e6 w6 ⟨rfl,hb6⟩
    have cf6:=(hb6.cell hbl5).trans cf5
    have HB6:=Lib.hid (HB5.out.trans (hb6.mono HB5.out.size))
    clear hb6 cf5
    have PT:=Lib.hid (Vs w6 TG q ZX (HA.out.below HB6.out) f (digit page 3) en f (digit page 3) en rfl rfl rfl p2 PP.out.1 (yg _ _) (by omega))
    go_wp2_with fail
    refine PT.out.mono ?_
    rintro e7 w7 ⟨rfl,t1,t2⟩
    have L7:=(HLI.out.below HB6.out).step t2 (fun e=>hu (.inl e))
    rw[HEN.out]at PP
    have PR:=Lib.hid (Ui w7 TG q _ N4 t1 PP.out.2.1 page hpg LX _ u hu L7 (by rw[HL4.out];omega) (by rw[HL4.out];omega) (by rw[HL4.out];exact PP.out.2.2.1))
    have S7:=Lib.hid ((HST.out.trans (Step.of_below HB6.out)).trans (t2.mono (C':=C4 q.ct u) (fun c e=>.inl (.inl e))))
    clear t1 t2 L7 cf6
    go_wp2_with fail
    refine PR.out.mono ?_
    rintro e8 w8 ⟨rfl,tag8,s1,s2⟩
    have FIN:=Lib.hid (And.intro s1 (S7.out.trans (s2.mono (C':=C4 q.ct u) (fun c e=>.inl e))))
    clear s1 s2
    go_wp2_with fail
    refine bodyPost_ret (v:=.int .i64 0) (by simp[results,Tryz.results140,go_sem]) rfl ?_
    rw[HY.out,HEN.out,PP.out.2.2.2]
    exact⟨rfl,tag8,FIN.out.1,Vu FIN.out.2 HU.out⟩
   ·obtain⟨⟨LX,er⟩,ZX⟩:=G
    simp only at ge1 g1 g3 FY
    subst ge1
    have FIN:=Lib.hid (And.intro g1 ((HH.out.2.2.1.trans (Step.of_below HB3.out)).trans g2))
    have FY2:Hid (y=(4,ZX)):=by have:=FY.out;rw[if_neg (by decide)]at this;exact this
    clear g1 g2 g3 FY GR GE
    go_wp2_with fail
    refine bodyPost_ret (v:=.int .i64 4) (by simp[results,Tryz.results140,go_sem]) rfl ?_
    rw[FY2.out]
    exact⟨rfl,tag4,FIN.out.1,Vu FIN.out.2 HU.out⟩
 ·have i4:¬(n:Int)<4:=by omega
  have hn4:n=4:=by omega
  subst hn4
  have HY:Hid (y=x.setLast page L e.num):=by have:=HSET.out;rw[if_neg (by omega)]at this;rw[HEN.out];exact this
  have HLI:Hid (LiAt w3 tag0 u (.slice a 4 c0) L):=by have:=HLI0.out;rw[HN.out]at this;exact this
  have HA:=Lib.hid (HH.out.1.below HB3.out)
  have HOK:=Lib.hid HH.out.2.1
  have HON:=HW3
  have HL4:=HN
  have HST:=Lib.hid (HH.out.2.2.1.trans (Step.of_below HB3.out))
  clear HSET HGS HW3 hwl i4 h4

  obtain⟨f,N4,p1,p2,p3,p4,p5,p6⟩:=HOK.out.zae page L HL4.out HON.out he
  obtain⟨b,off,c,ev,hcell⟩:=HLI.out.at (k:=0) (by rw[HL4.out];omega)
  rw[HL4.out]at ev
  simp only[Value.slice.injEq]at ev
  obtain⟨rfl,_,rfl⟩:=ev
  have cf:=hcell 3 f (getD_some (by rw[HL4.out];omega) p1)
  have PP:=Lib.hid (And.intro p3 (And.intro p4 (And.intro p5 p6)))
  clear hcell p1 p3 p4 p5 p6
  go_wp2_with fail
  refine(Zp _ page page rfl hpg).mono ?_
  rintro e5 w5 ⟨rfl,hb5⟩
  have cf5:=(hb5.cell (World.block_lt_of_cell? _ _ cf)).trans cf
  have HB5:=Lib.hid hb5
  have hbl5:=World.block_lt_of_cell? _ _ cf5
  clear hb5 cf
  unfold digV
  have GT:=Lib.hid (Qj w5 tag0 q x (HA.out.below HB5.out) f (digit page 3) f (digit page 3) rfl rfl p2 PP.out.1 (yg _ _))
  go_wp2_with fail
  refine GT.out.mono ?_
  rintro e6 w6 ⟨rfl,hb6⟩
  have cf6:=(hb6.cell hbl5).trans cf5
  have HB6:=Lib.hid (HB5.out.trans (hb6.mono HB5.out.size))
  clear hb6 cf5
  have PT:=Lib.hid (Vs w6 tag0 q x (HA.out.below HB6.out) f (digit page 3) en f (digit page 3) en rfl rfl rfl p2 PP.out.1 (yg _ _) (by omega))
  go_wp2_with fail
  refine PT.out.mono ?_
  rintro e7 w7 ⟨rfl,t1,t2⟩
  have L7:=(HLI.out.below HB6.out).step t2 (fun e=>hu (.inl e))
  rw[HEN.out]at PP
  have PR:=Lib.hid (Ui w7 tag0 q _ N4 t1 PP.out.2.1 page hpg L _ u hu L7 (by rw[HL4.out];omega) (by rw[HL4.out];omega) (by rw[HL4.out];exact PP.out.2.2.1))
  have S7:=Lib.hid ((HST.out.trans (Step.of_below HB6.out)).trans (t2.mono (C':=C4 q.ct u) (fun c e=>.inl (.inl e))))
  clear t1 t2 L7 cf6
  go_wp2_with fail
  refine PR.out.mono ?_
  rintro e8 w8 ⟨rfl,tag8,s1,s2⟩
  have FIN:=Lib.hid (And.intro s1 (S7.out.trans (s2.mono (C':=C4 q.ct u) (fun c e=>.inl e))))
  clear s1 s2
  go_wp2_with fail
  refine bodyPost_ret (v:=.int .i64 0) (by simp[results,Tryz.results140,go_sem]) rfl ?_
  rw[HY.out,HEN.out,PP.out.2.2.2]
  exact⟨rfl,tag8,FIN.out.1,Vu FIN.out.2 HU.out⟩
end
section
variable {κ ν:Type}[DecidableEq κ]
def idxL:List (κ×ν)→κ→Option Nat
 | [],_=>none
 | x::l,k=>if k=x.1 then some 0 else(idxL l k).map (·+1)
def getL:List (κ×ν)→κ→Option ν
 | [],_=>none
 | x::l,k=>if k=x.1 then some x.2 else getL l k
def updL:List (κ×ν)→κ→ν→List (κ×ν)
 | [],k,v=>[(k,v)]
 | x::l,k,v=>if k=x.1 then(k,v)::l else x::updL l k v
def delL:List (κ×ν)→κ→List (κ×ν)
 | [],_=>[]
 | x::l,k=>if k=x.1 then l else x::delL l k
theorem V6{l:List (κ×ν)}{k:κ}{i:Nat}(h:idxL l k=some i):∃hi:i<l.length,l[i].1=k∧getL l k=some l[i].2∧(∀v,updL l k v=l.set i (k,v))∧delL l k=l.eraseIdx i:=by
 induction l generalizing i with
 | nil=>simp[idxL]at h
 | cons x l ih=>
  simp only[idxL]at h
  split at h
  ·rename_i e
   cases h
   simp[getL,updL,delL,e]
  ·rename_i e
   obtain⟨j,hj,rfl⟩:=Option.map_eq_some_iff.1 h
   obtain⟨hi,h1,h2,h3,h4⟩:=ih hj
   exact⟨by simp;omega,by simpa using h1,by simp[getL,e,h2],fun v=>by simp[updL,e,h3],by simp[delL,e,h4]⟩
theorem Xn{l:List (κ×ν)}{k:κ}(h:idxL l k=none):getL l k=none∧(∀v,updL l k v=l++[(k,v)])∧delL l k=l:=by
 induction l with
 | nil=>simp[getL,updL,delL]
 | cons x l ih=>
  simp only[idxL]at h
  split at h
  ·cases h
  ·rename_i e
   obtain⟨h2,h3,h4⟩:=ih (Option.map_eq_none_iff.1 h)
   exact⟨by simp[getL,e,h2],fun v=>by simp[updL,e,h3],by simp[delL,e,h4]⟩
theorem y8{l:List (κ×ν)}{k:κ}{v:ν}(q:κ):getL (updL l k v) q=if q=k then some v else getL l q:=by
 induction l with
 | nil=>simp[updL,getL]
 | cons x l ih=>
  simp only[updL]
  split
  ·rename_i e
   subst e
   by_cases hq:q=x.1<;>simp[getL,hq]
  ·rename_i e
   simp only[getL,ih]
   by_cases hq:q=x.1
   ·subst hq
    simp[Ne.symm e]
   ·simp[hq]
end
theorem jk{α:Type}{a b:List α}{n:Nat}{f:α→α}(h:a.length≤n):(a++b).modify n f=a++b.modify (n-a.length) f:=by
 refine List.ext_getElem? fun j=>?_
 rw[List.getElem?_modify]
 by_cases hj:j<a.length
 ·have hne:n≠j:=by omega
  rw[List.getElem?_append_left hj,List.getElem?_append_left hj]
  cases a[j]?<;>simp[hne]
 ·rw[List.getElem?_append_right (by omega),List.getElem?_append_right (by omega),List.getElem?_modify]
  by_cases e:n=j
  ·subst e;simp
  ·have e2:n-a.length≠j-a.length:=by omega
   cases b[j-a.length]?<;>simp[e,e2]
theorem Yz{α β:Type}(f:α→β)(l:List α)(i:Nat):(l.map f).eraseIdx i=(l.eraseIdx i).map f:=by
 induction l generalizing i with
 | nil=>rfl
 | cons x l ih=>cases i with
  | zero=>rfl
  | succ i=>simp[ih]
structure KeyLaw(P:Program)(K:TypeId){κ:Type}[DecidableEq κ](enc:κ→Value):Prop where
 find:∀(k:κ) (es:List MapEntry) (ks:List κ),es.map (·.key)=ks.map enc→∀w,(Instr.findKey K (enc k) es).run P w=.ok (((ks.map fun x=>(x,())) |> fun l=>idxL l k).bind fun i=>(es[i]?).map fun e=>(i,e.val)) w
 check:∀(k:κ) (b:Bool) w,(Instr.checkKey b 10000 K (enc k)).run P w=.ok () w
 same:∀k,Instr.sameBits 10000 (enc k) (enc k)=true
theorem zio{κ ν:Type}[DecidableEq κ](l:List (κ×ν))(k:κ):idxL ((l.map (·.1)).map fun x=>(x,())) k=idxL l k:=by
 induction l with
 | nil=>rfl
 | cons x l ih=>simp only[List.map_cons,idxL,ih]
def MapAt{κ ν:Type}(w:World)(m:Nat)(encK:κ→Value)(encV:ν→Value)(l:List (κ×ν)):Prop:=
 ∃es clock,w.heap[m]?=some (.map es clock)∧es.toList.map (fun e=>(e.key,e.val))=l.map (fun x=>(encK x.1,encV x.2))∧(∀e∈es.toList,e.born<clock)∧(es.toList.map (·.born)).Nodup
section
variable {κ ν:Type}{w w':World}{m:Nat}{encK:κ→Value}{encV:ν→Value}{l:List (κ×ν)}
theorem MapAt.lt(h:MapAt w m encK encV l):m<w.heap.size:=by
 obtain⟨es,c,h1,_⟩:=h
 exact(Array.getElem?_eq_some_iff.1 h1).1
theorem MapAt.keep(h:MapAt w m encK encV l)(hb:w'.heap[m]?=w.heap[m]?):MapAt w' m encK encV l:=by
 obtain⟨es,c,h1,h2⟩:=h
 exact⟨es,c,hb.trans h1,h2⟩
theorem MapAt.below(h:MapAt w m encK encV l)(hb:Below w.heap.size w w'):MapAt w' m encK encV l:=h.keep (hb.block m h.lt)
theorem MapAt.grown(h:MapAt w m encK encV l){row:Option Nat}(hg:w.grownBy w' row)(hne:some m≠row):MapAt w' m encK encV l:=h.keep (hg.block m h.lt hne)
theorem MapAt.made(w:World)(encK:κ→Value)(encV:ν→Value):MapAt (w.alloc (.map #[] 0)) w.heap.size encK encV []:=
 ⟨#[],0,heap_alloc_new w _,by simp,by simp,by simp⟩
end
section
variable {κ ν:Type}[DecidableEq κ]{P:Program}{K E T:TypeId}{encK:κ→Value}{encV:ν→Value}{l:List (κ×ν)}{w:World}{m:Nat}
omit [DecidableEq κ] in
theorem zcw{es:Array MapEntry}(h:es.toList.map (fun e=>(e.key,e.val))=l.map (fun x=>(encK x.1,encV x.2))):es.toList.map (·.key)=(l.map (·.1)).map encK:=by
 have:=congrArg (List.map Prod.fst) h
 rw[List.map_map,List.map_map]at this
 rw[List.map_map]
 exact this
omit [DecidableEq κ] in
theorem Yu{es:Array MapEntry}(h:es.toList.map (fun e=>(e.key,e.val))=l.map (fun x=>(encK x.1,encV x.2)))(i:Nat):(es[i]?).map (fun e=>(e.key,e.val))=(l[i]?).map (fun x=>(encK x.1,encV x.2)):=by
 have:=congrArg (·[i]?) h
 simpa using this
theorem Qk(L:KeyLaw P K encK){es:Array MapEntry}(h:es.toList.map (fun e=>(e.key,e.val))=l.map (fun x=>(encK x.1,encV x.2)))(k:κ)(w:World):
  (Instr.findKey K (encK k) es.toList).run P w=.ok ((idxL l k).bind fun i=>(l[i]?).map fun x=>(i,encV x.2)) w:=by
 rw[L.find k es.toList (l.map (·.1)) (zcw h) w]
 simp only[zio]
 congr 1
 cases idxL l k with
 | none=>rfl
 | some i=>
  have:=Yu h i
  simp only[Option.bind_some,Array.getElem?_toList]
  cases h1:es[i]?<;>cases h2:l[i]?<;>simp_all
theorem jw(L:KeyLaw P K encK)(hT:P.underlying T=some (.map K E))(z:Value)(hz:∀w,(zeroValue E).run P w=.ok z w)(h:MapAt w m encK encV l)(k:κ)(ok:Bool):
  (Instr.lookup T (.map (some m)) (encK k) ok).run P w=.ok (if ok then .tuple #[((getL l k).map encV).getD z,.bool (getL l k).isSome]else((getL l k).map encV).getD z) w:=by
 obtain⟨es,c,hb,he,_⟩:=h
 have hg:(getObj m).run P w=.ok (.map es c) w:=by simp[getObj,Sem.run,hb]
 have hf:=Qk L he k w
 cases hi:idxL l k with
 | none=>
  rw[hi]at hf
  simp only[Option.bind_none]at hf
  rw[(Xn hi).1]
  simp[Instr.lookup,run_underlying hT,hg,L.check,hf,hz]
 | some i=>
  obtain⟨hlt,_,h2,_⟩:=V6 hi
  rw[hi]at hf
  simp only[Option.bind_some,List.getElem?_eq_getElem hlt,Option.map_some]at hf
  rw[h2]
  simp[Instr.lookup,run_underlying hT,hg,L.check,hf]
theorem Xx(L:KeyLaw P K encK)(hT:P.underlying T=some (.map K E))(h:MapAt w m encK encV l)(k:κ)(v:ν):
  ∃w',(Instr.mapUpdate T (.map (some m)) (encK k) (encV v)).run P w=.ok () w'∧MapAt w' m encK encV (updL l k v)∧w.grownBy w' (some m)∧w'.heap.size=w.heap.size:=by
 obtain⟨es,c,hb,he,hborn,hnd⟩:=h
 have hlt:m<w.heap.size:=(Array.getElem?_eq_some_iff.1 hb).1
 have hg:(getObj m).run P w=.ok (.map es c) w:=by simp[getObj,Sem.run,hb]
 have hset:∀o,(setObj m o).run P w=.ok () {w with heap:=w.heap.setIfInBounds m o}:=fun o=>by simp[setObj,Sem.run,hb]
 have hgrown:∀o,w.grownBy {w with heap:=w.heap.setIfInBounds m o} (some m):=fun o=>⟨rfl,rfl,rfl,by simp,fun i hi hne=>by simp[Array.getElem?_setIfInBounds_ne (show m≠i from fun e=>hne (by rw[e]))]⟩
 have hblk:∀o,({w with heap:=w.heap.setIfInBounds m o}:World).heap[m]?=some o:=fun o=>by simp[hlt]
 have hf:=Qk L he k w
 cases hi:idxL l k with
 | none=>
  rw[hi]at hf
  simp only[Option.bind_none]at hf
  refine⟨_,?_,⟨es.push {key:=encK k,val:=encV v,born:=c},c+1,hblk _,?_,?_,?_⟩,hgrown _,by simp⟩
  ·simp[Instr.mapUpdate,run_underlying hT,hg,L.check,hf,hset]
  ·rw[(Xn hi).2.1 v];simp[he]
  ·intro e hm
   simp at hm
   rcases hm with hm|rfl
   ·have:=hborn e (by simpa using hm);omega
   ·simp
  ·simp only[Array.toList_push,List.map_append,List.map_cons,List.map_nil]
   refine List.nodup_append.2 ⟨hnd,by simp,fun a ha b hb=>?_⟩
   obtain⟨e,hm,rfl⟩:=List.mem_map.1 ha
   simp at hb
   have:=hborn e hm
   omega
 | some i=>
  obtain⟨hlt',hk,h2,h3,_⟩:=V6 hi
  rw[hi]at hf
  simp only[Option.bind_some,List.getElem?_eq_getElem hlt',Option.map_some]at hf
  have hei:=Yu he i
  rw[List.getElem?_eq_getElem hlt',Option.map_some,hk]at hei
  obtain⟨e0,he0,hee⟩:=Option.map_eq_some_iff.1 hei
  have hkey:e0.key=encK k:=congrArg Prod.fst hee
  refine⟨_,?_,⟨es.modify i fun e=>{e with key:=encK k,val:=encV v},c,hblk _,?_,?_,?_⟩,hgrown _,by simp⟩
  ·simp[Instr.mapUpdate,run_underlying hT,hg,L.check,hf,Instr.keyThatStays,he0,hkey,L.same,hset]
  ·rw[h3 v,Array.toList_modify]
   refine List.ext_getElem? fun j=>?_
   have:=Yu he j
   rw[List.getElem?_map,List.getElem?_modify,List.getElem?_map,List.getElem?_set]
   by_cases hj:i=j
   ·subst hj
    simp[he0,hlt']
   ·simp only[hj,if_false,Array.getElem?_toList]
    rw[←this]
    cases es[j]?<;>rfl
  ·intro e hm
   rw[Array.toList_modify]at hm
   obtain⟨j,hj,rfl⟩:=List.getElem_of_mem hm
   have hj':j<es.toList.length:=by simpa using hj
   rw[List.getElem_modify]
   split
   ·exact hborn (es.toList[j]'hj') (List.getElem_mem _)
   ·exact hborn (es.toList[j]'hj') (List.getElem_mem _)
  ·have e1:(es.modify i fun e=>{e with key:=encK k,val:=encV v}).toList.map (·.born)=es.toList.map (·.born):=by
    refine List.ext_getElem? fun j=>?_
    rw[Array.toList_modify,List.getElem?_map,List.getElem?_modify,List.getElem?_map]
    split<;>cases es.toList[j]?<;>rfl
   rw[e1];exact hnd
theorem Ut(L:KeyLaw P K encK)(hT:P.underlying T=some (.map K E))(h:MapAt w m encK encV l)(k:κ)(ty:TypeId)(u:TypeId):
  ∃w',(Builtin.delete_ #[T,u] ty #[.map (some m),encK k]).run P w=.ok (.tuple #[]) w'∧MapAt w' m encK encV (delL l k)∧w.grownBy w' (some m)∧w'.heap.size=w.heap.size:=by
 obtain⟨es,c,hb,he,hborn,hnd⟩:=h
 have hlt:m<w.heap.size:=(Array.getElem?_eq_some_iff.1 hb).1
 have hg:(getObj m).run P w=.ok (.map es c) w:=by simp[getObj,Sem.run,hb]
 have hset:∀o,(setObj m o).run P w=.ok () {w with heap:=w.heap.setIfInBounds m o}:=fun o=>by simp[setObj,Sem.run,hb]
 have hgrown:∀o,w.grownBy {w with heap:=w.heap.setIfInBounds m o} (some m):=fun o=>⟨rfl,rfl,rfl,by simp,fun i hi hne=>by simp[Array.getElem?_setIfInBounds_ne (show m≠i from fun e=>hne (by rw[e]))]⟩
 have hblk:∀o,({w with heap:=w.heap.setIfInBounds m o}:World).heap[m]?=some o:=fun o=>by simp[hlt]
 have hf:=Qk L he k w
 cases hi:idxL l k with
 | none=>
  rw[hi]at hf
  simp only[Option.bind_none]at hf
  refine⟨_,?_,⟨es,c,hblk _,?_,hborn,hnd⟩,hgrown _,by simp⟩
  ·simp[Builtin.delete_,run_underlying hT,hg,L.check,hf,hset]
  ·rw[(Xn hi).2.2,he]
 | some i=>
  obtain⟨hlt',hk,h2,_,h4⟩:=V6 hi
  rw[hi]at hf
  simp only[Option.bind_some,List.getElem?_eq_getElem hlt',Option.map_some]at hf
  have hsz:i<es.size:=by have:=congrArg List.length he;simp at this;omega
  have e1:(es.eraseIdxIfInBounds i).toList=es.toList.eraseIdx i:=by simp[Array.eraseIdxIfInBounds,hsz]
  refine⟨_,?_,⟨es.eraseIdxIfInBounds i,c,hblk _,?_,?_,?_⟩,hgrown _,by simp⟩
  ·simp[Builtin.delete_,run_underlying hT,hg,L.check,hf,hset]
  ·rw[h4,e1,←Yz,←Yz,he]
  ·intro e hm
   rw[e1]at hm
   exact hborn e (List.mem_of_mem_eraseIdx hm)
  ·rw[e1,←Yz]
   exact hnd.sublist (List.eraseIdx_sublist _ _)
theorem findIdx_born{es:List MapEntry}{i:Nat}(hi:i<es.length)(hnd:(es.map (·.born)).Nodup):es.findIdx? (fun e=>((e.born:Int)==((es[i].born:Nat):Int)))=some i:=by
 rw[List.findIdx?_eq_some_iff_getElem]
 refine⟨hi,by simp,fun j hj=>?_⟩
 have hne:es[j].born≠es[i].born:=fun e=>by
  have:=(List.getElem_inj (xs:=es.map (·.born)) (i:=j) (j:=i) (h₀:=by simp;omega) (h₁:=by simp;omega) hnd).1 (by simpa using e)
  omega
 simp;omega
theorem zcv(L:KeyLaw P K encK)(hT:P.underlying T=some (.map K E))(z:Value)(hz:∀w,(zeroValue E).run P w=.ok z w)(h:MapAt w m encK encV l)(k:κ):
  ∃w1 c,(Instr.mapEntry T (.map (some m)) (encK k)).run P w=.ok (.tuple #[((getL l k).map encV).getD z,.int .i64 c]) w1∧w.grownBy w1 (some m)∧w1.heap.size=w.heap.size∧
   ∀(v:ν) (u:TypeId) (w2:World),w2.heap[m]?=w1.heap[m]?→∃w3,(Instr.entryStore u (.map (some m)) (.int .i64 c) (encV v)).run P w2=.ok () w3∧MapAt w3 m encK encV (updL l k v)∧w2.grownBy w3 (some m)∧w3.heap.size=w2.heap.size:=by
 obtain⟨es,c,hb,he,hborn,hnd⟩:=h
 have hlt:m<w.heap.size:=(Array.getElem?_eq_some_iff.1 hb).1
 have hg:(getObj m).run P w=.ok (.map es c) w:=by simp[getObj,Sem.run,hb]
 have hset:∀(w:World) o es c,w.heap[m]?=some (.map es c)→(setObj m o).run P w=.ok () {w with heap:=w.heap.setIfInBounds m o}:=fun w o es c hb=>by simp[setObj,Sem.run,hb]
 have hgrown:∀(w:World) o,w.grownBy {w with heap:=w.heap.setIfInBounds m o} (some m):=fun w o=>⟨rfl,rfl,rfl,by simp,fun i hi hne=>by simp[Array.getElem?_setIfInBounds_ne (show m≠i from fun e=>hne (by rw[e]))]⟩
 have hblk:∀(w:World) o,m<w.heap.size→({w with heap:=w.heap.setIfInBounds m o}:World).heap[m]?=some o:=fun w o hlt=>by simp[hlt]
 have hf:=Qk L he k w
 cases hi:idxL l k with
 | none=>
  rw[hi]at hf
  simp only[Option.bind_none]at hf
  refine⟨_,(c:Int),?_,hgrown w (.map (es.push {key:=encK k,val:=z,born:=c}) (c+1)),by simp,fun v u w2 h2=>?_⟩
  ·rw[(Xn hi).1]
   simp[Instr.mapEntry,run_underlying hT,hg,L.check,hf,hz,hset w _ es c hb,goInt]
  ·rw[hblk w _ hlt]at h2
   have hlt2:m<w2.heap.size:=(Array.getElem?_eq_some_iff.1 h2).1
   have hg2:(getObj m).run P w2=.ok (.map (es.push {key:=encK k,val:=z,born:=c}) (c+1)) w2:=by simp[getObj,Sem.run,h2]
   have hidx:(es.push {key:=encK k,val:=z,born:=c}).findIdx? (fun e=>((e.born:Int)==(c:Int)))=some es.size:=by
    rw[Array.findIdx?_eq_some_iff_getElem]
    refine⟨by simp,by simp,fun j hj=>?_⟩
    have:=hborn es[j] (by simp)
    rw[Array.getElem_push_lt hj]
    simp;omega
   refine⟨_,?_,⟨(es.push {key:=encK k,val:=z,born:=c}).modify es.size fun e=>{e with val:=encV v},c+1,hblk w2 _ hlt2,?_,?_,?_⟩,hgrown w2 _,by simp⟩
   ·simp[Instr.entryStore,hg2,asInt,asIntOf,hidx,hset w2 _ _ _ h2]
   ·rw[(Xn hi).2.1 v,Array.toList_modify,Array.toList_push,jk (by simp)]
    simp[he]
   ·intro e hm
    rw[Array.toList_modify,Array.toList_push,jk (by simp)]at hm
    simp at hm
    rcases hm with hm|rfl
    ·have:=hborn e (by simpa using hm);omega
    ·simp
   ·rw[Array.toList_modify,Array.toList_push,jk (by simp)]
    simp only[Array.length_toList,Nat.sub_self,List.modify_zero_cons,List.map_append,List.map_cons,List.map_nil]
    refine List.nodup_append.2 ⟨hnd,by simp,fun a ha b hb=>?_⟩
    obtain⟨e,hm,rfl⟩:=List.mem_map.1 ha
    simp at hb
    have:=hborn e hm
    omega
 | some i=>
  obtain⟨hlt',hk,h2,h3,_⟩:=V6 hi
  rw[hi]at hf
  simp only[Option.bind_some,List.getElem?_eq_getElem hlt',Option.map_some]at hf
  have hei:=Yu he i
  rw[List.getElem?_eq_getElem hlt',Option.map_some,hk]at hei
  obtain⟨e0,he0,hee⟩:=Option.map_eq_some_iff.1 hei
  have hkey:e0.key=encK k:=congrArg Prod.fst hee
  have hsz:i<es.size:=(Array.getElem?_eq_some_iff.1 he0).1
  have he0':es[i]=e0:=(Array.getElem?_eq_some_iff.1 he0).2
  have hsame:(es.modify i fun e=>{e with key:=encK k})=es:=by
   refine Array.ext (by simp) fun j h1 h2=>?_
   rw[Array.getElem_modify]
   split
   ·rename_i e;subst e;rw[he0',←hkey]
   ·rfl
  refine⟨_,(e0.born:Int),?_,hgrown w (.map es c),by simp,fun v u w2 hw2=>?_⟩
  ·rw[h2]
   simp[Instr.mapEntry,run_underlying hT,hg,L.check,hf,Instr.keyThatStays,he0,hkey,L.same,hset w _ es c hb,goInt,hsame]
  ·rw[hblk w _ hlt]at hw2
   have hlt2:m<w2.heap.size:=(Array.getElem?_eq_some_iff.1 hw2).1
   have hg2:(getObj m).run P w2=.ok (.map es c) w2:=by simp[getObj,Sem.run,hw2]
   have hidx:es.findIdx? (fun e=>((e.born:Int)==(e0.born:Int)))=some i:=by
    have:=findIdx_born (es:=es.toList) (i:=i) (by simp;exact hsz) hnd
    rw[Array.getElem_toList,he0']at this
    rw[←this]
    obtain⟨q⟩:=es
    exact List.findIdx?_toArray _ q
   refine⟨_,?_,⟨es.modify i fun e=>{e with val:=encV v},c,hblk w2 _ hlt2,?_,?_,?_⟩,hgrown w2 _,by simp⟩
   ·simp[Instr.entryStore,hg2,asInt,asIntOf,hidx,hset w2 _ _ _ hw2]
   ·rw[h3 v,Array.toList_modify]
    refine List.ext_getElem? fun j=>?_
    have:=Yu he j
    rw[List.getElem?_map,List.getElem?_modify,List.getElem?_map,List.getElem?_set]
    by_cases hj:i=j
    ·subst hj
     simp[he0,hlt',hkey]
    ·simp only[hj,if_false,Array.getElem?_toList]
     rw[←this]
     cases es[j]?<;>rfl
   ·intro e hm
    rw[Array.toList_modify]at hm
    obtain⟨j,hj,rfl⟩:=List.getElem_of_mem hm
    have hj':j<es.toList.length:=by simpa using hj
    rw[List.getElem_modify]
    split
    ·exact hborn (es.toList[j]'hj') (List.getElem_mem _)
    ·exact hborn (es.toList[j]'hj') (List.getElem_mem _)
   ·have e1:(es.modify i fun e=>{e with val:=encV v}).toList.map (·.born)=es.toList.map (·.born):=by
     refine List.ext_getElem? fun j=>?_
     rw[Array.toList_modify,List.getElem?_map,List.getElem?_modify,List.getElem?_map]
     split<;>cases es.toList[j]?<;>rfl
    rw[e1];exact hnd
omit [DecidableEq κ] in
end
def vz(x:Int):Value:=.int .i64 x
def zy(x:Int×Int):Value:=.agg #[.int .i64 x.1,.int .i64 x.2]
theorem U2(n:Nat)(k:IntKind)(a:Int):Instr.sameBits n (.int k a) (.int k a)=true:=by cases n<;>simp[Instr.sameBits]
theorem za2(n:Nat)(k:Int×Int):Instr.sameBits (n+1) (zy k) (zy k)=true:=by simp[zy,Instr.sameBits,U2]
theorem zn0{P:Program}{K:TypeId}(hK:P.underlying K=some (.int .i64)):KeyLaw P K vz where
 find k es ks h w:=by
  have key:∀(es:List MapEntry) (ks:List Int) (i:Nat),es.map (·.key)=ks.map vz→Instr.findNow (.int .i64) (vz k) es i=some ((idxL (ks.map fun x=>(x,())) k).bind fun j=>(es[j]?).map fun e=>(i+j,e.val)):=by
   intro es
   induction es with
   | nil=>intro ks i h;cases ks with
    | nil=>rfl
    | cons _ _=>simp at h
   | cons e es ih=>
    intro ks i h
    cases ks with
    | nil=>simp at h
    | cons x ks=>
     simp only[List.map_cons,List.cons.injEq]at h
     obtain⟨h1,h2⟩:=h
     by_cases hx:k=x
     ·subst hx
      simp[Instr.findNow,h1,vz,Instr.sameNow,idxL]
     ·have hs:Instr.sameNow (.int .i64) (vz k) e.key=some false:=by rw[h1];simp[vz,Instr.sameNow,hx]
      unfold Instr.findNow
      rw[hs]
      simp only[ih ks (i+1) h2,List.map_cons,idxL,hx,if_false]
      cases idxL (ks.map fun x=>(x,())) k with
      | none=>rfl
      | some j=>simp only[Option.map_some,Option.bind_some,List.getElem?_cons_succ];congr 2;funext e;simp;omega
  have:=key es ks 0 h
  simp only[Nat.zero_add]at this
  simp[Instr.findKey,run_underlying hK,this]
 check k b w:=by
  have h:∀n,(Instr.checkKey b (n+1) K (vz k)).run P w=.ok () w:=fun n=>by simp[Instr.checkKey,run_underlying hK,vz]
  exact h 9999
 same k:=U2 10000 .i64 k
structure zbk(P:Program)(K:TypeId):Prop where
 eq:∀(x y:Int×Int) w,(Op.equal K (zy x) (zy y)).run P w=.ok (x.1==y.1&&x.2==y.2) w
 check:∀(k:Int×Int) (b:Bool) w,(Instr.checkKey b 10000 K (zy k)).run P w=.ok () w
 desc:∃fs,P.underlying K=some (.struct fs)
theorem zk1{P:Program}{K:TypeId}(T:zbk P K):KeyLaw P K zy where
 find k es ks h w:=by
  obtain⟨fs,hK⟩:=T.desc
  have key:∀(es:List MapEntry) (ks:List (Int×Int)) (i:Nat),es.map (·.key)=ks.map zy→(Instr.findAsking K (zy k) es i).run P w=.ok ((idxL (ks.map fun x=>(x,())) k).bind fun j=>(es[j]?).map fun e=>(i+j,e.val)) w:=by
   intro es
   induction es with
   | nil=>intro ks i h;cases ks with
    | nil=>simp[Instr.findAsking,idxL]
    | cons _ _=>simp at h
   | cons e es ih=>
    intro ks i h
    cases ks with
    | nil=>simp at h
    | cons x ks=>
     simp only[List.map_cons,List.cons.injEq]at h
     obtain⟨h1,h2⟩:=h
     by_cases hx:k=x
     ·subst hx
      simp[Instr.findAsking,h1,T.eq,idxL]
     ·have hs:(k.1==x.1&&k.2==x.2)=false:=by
       rw[Bool.and_eq_false_iff]
       by_cases h3:k.1=x.1
       ·right;rw[beq_eq_false_iff_ne];exact fun h4=>hx (Prod.ext h3 h4)
       ·left;rw[beq_eq_false_iff_ne];exact h3
      simp only[Instr.findAsking,h1,Sem.run_bind,T.eq,Result.andThen_ok,hs,Bool.false_eq_true,if_false,ih ks (i+1) h2,List.map_cons,idxL,hx]
      cases idxL (ks.map fun x=>(x,())) k with
      | none=>rfl
      | some j=>simp only[Option.map_some,Option.bind_some,List.getElem?_cons_succ];congr 2;funext e;simp;omega
  have:=key es ks 0 h
  simp only[Nat.zero_add]at this
  cases es with
  | nil=>
   cases ks with
   | nil=>simp[Instr.findKey,run_underlying hK,Instr.findNow,idxL]
   | cons _ _=>simp at h
  | cons e es=>simp[Instr.findKey,run_underlying hK,Instr.findNow,Instr.sameNow,this]
 check k b w:=T.check k b w
 same k:=za2 9999 k
set_option maxHeartbeats 400000 in
theorem znv:zbk Tryz.prog 133 where
 eq x y w:=by
  have u3:=Tryz.underlying3
  have a3:=Tryz.isAgg3
  have z3:=Tryz.sizeOf3
  have hS:Tryz.prog.underlying 133=some (.struct (Tryz.prog.fieldsOf 133)):=by kernel_rfl
  have hp:Tryz.prog.stoodInHeld 133=false:=by kernel_rfl
  show(Op.equalIn (9999+1) 133 (zy x) (zy y)).run Tryz.prog w=_
  simp only[zy]
  rw[run_equalIn_struct w 9999 133 _ _ hS hp]
  simp only[Program.fieldsOf,Tryz.underlying133]
  go_simp
  by_cases h1:x.fst=y.fst<;>by_cases h2:x.snd=y.snd<;>simp[h1,h2]
 check k b w:=by
  have u3:=Tryz.underlying3
  have a3:=Tryz.isAgg3
  have z3:=Tryz.sizeOf3
  have h:∀n,(Instr.checkKey b (n+2) 133 (zy k)).run Tryz.prog w=.ok () w:=fun n=>by
   simp[Instr.checkKey,run_underlying Tryz.underlying133,zy]
   go_simp
  exact h 9998
 desc:=⟨_,Tryz.underlying133⟩
def xx(x:Int×Bool):Value:=.agg #[.int .i64 x.1,.bool x.2]
theorem zky:KeyLaw Tryz.prog 133 zy:=zk1 znv
theorem Ur:KeyLaw Tryz.prog 3 vz:=zn0 Tryz.underlying3
theorem zbq(w:World):(zeroValue 207).run Tryz.prog w=.ok (xx (0,false)) w:=by kernel_rfl
theorem zav(w:World):(zeroValue 133).run Tryz.prog w=.ok (zy (0,0)) w:=by kernel_rfl
def ve(w:World)(p m1 m2:Nat)(l:List ((Int×Int)×(Int×Bool)))(r:List (Int×(Int×Int))):Prop:=
 w.cell? ⟨p,0,none⟩=some (.map (some m1))∧w.cell? ⟨p,1,none⟩=some (.map (some m2))∧MapAt w m1 zy xx l∧MapAt w m2 vz zy r∧m1≠m2
theorem Zn(w:World)(p m1 m2:Nat)(l:List ((Int×Int)×(Int×Bool)))(r:List (Int×(Int×Int)))(h:ve w p m1 m2 l r)(k:Int×Int):
  Calls Tryz.prog 137 #[.pointer (some ⟨p,0,none⟩),.agg #[.int .i64 k.1,.int .i64 k.2]] w fun e w'=>e=.returned (.tuple #[xx ((getL l k).getD (0,false)),.bool (getL l k).isSome])∧Below w.heap.size w w':=by
 obtain⟨h0,h1,hM,hR,hne⟩:=h
 have hp:p<w.heap.size:=World.block_lt_of_cell? w _ h0
 obtain⟨x,hx⟩:∃x,x=(getL l k).getD (0,false):=⟨_,rfl⟩
 obtain⟨b,hb⟩:∃b,b=(getL l k).isSome:=⟨_,rfl⟩
 have run:∀W,Below w.heap.size w W→(Instr.lookup 202 (.map (some m1)) (.agg #[.int .i64 k.1,.int .i64 k.2]) true).run Tryz.prog W=.ok (.tuple #[.agg #[.int .i64 x.1,.bool x.2],.bool b]) W:=fun W hW=>by
  have:=jw (T:=202) zky Tryz.underlying202 (xx (0,false)) zbq (hM.below hW) k true
  rw[if_pos rfl]at this
  rw[hb]
  refine this.trans ?_
  rw[hx]
  cases getL l k<;>rfl
 rw[←hx,←hb]
 have HB:=Lib.hid run
 clear run hx hb hM hR
 unfold xx
 go_enter Tryz.func137,Tryz.ntmps137
 go_wp2_with fail
 have hb1:Below w.heap.size w ((w.alloc (.cells #[.int .i64 k.1,.int .i64 k.2] 133)).alloc (.cells #[.int .i64 0,.bool false] 207)):=((Below.refl _ _).alloc (Nat.le_refl _) _).alloc (by simp) _
 have p0:((w.alloc (.cells #[.int .i64 k.1,.int .i64 k.2] 133)).alloc (.cells #[.int .i64 0,.bool false] 207)).cell? ⟨w.heap.size,0,none⟩=some (.int .i64 k.1):=by go_simp
 have p1:((w.alloc (.cells #[.int .i64 k.1,.int .i64 k.2] 133)).alloc (.cells #[.int .i64 0,.bool false] 207)).cell? ⟨w.heap.size,1,none⟩=some (.int .i64 k.2):=by go_simp
 have r0:((w.alloc (.cells #[.int .i64 k.1,.int .i64 k.2] 133)).alloc (.cells #[.int .i64 0,.bool false] 207)).heap[w.heap.size+1]?=some (.cells #[.int .i64 0,.bool false] 207 (0,0)):=by
  have:=heap_alloc_new (w.alloc (.cells #[.int .i64 k.1,.int .i64 k.2] 133)) (.cells #[.int .i64 0,.bool false] 207)
  rwa[World.size_alloc]at this
 have hsz:((w.alloc (.cells #[.int .i64 k.1,.int .i64 k.2] 133)).alloc (.cells #[.int .i64 0,.bool false] 207)).heap.size=w.heap.size+2:=by simp
 generalize (w.alloc (.cells #[.int .i64 k.1,.int .i64 k.2] 133)).alloc (.cells #[.int .i64 0,.bool false] 207)=W at hb1 p0 p1 r0 hsz⊢
 have g0:=(hb1.cell hp).trans h0
 have al:∀o (a:Addr),a.block<W.heap.size→(W.alloc o).cell? a=W.cell? a:=fun o a ha=>((Below.refl _ W).alloc (Nat.le_refl _) o).cell ha
 have G0:=fun o=>(al o ⟨p,0,none⟩ (by simp;omega)).trans g0
 have P0:=fun o=>(al o ⟨w.heap.size,0,none⟩ (by simp;omega)).trans p0
 have P1:=fun o=>(al o ⟨w.heap.size,1,none⟩ (by simp;omega)).trans p1
 have e1:=HB.out W.drew hb1.drew
 have e2:=fun o=>HB.out (W.alloc o).drew (hb1.alloc hb1.size o).drew
 have HBW:=Lib.hid hb1
 clear al h0 h1 hb1
 have HR:=Lib.hid r0
 have HS:=Lib.hid hsz
 clear r0 hsz
 go_region
 have f0:W.cell? ⟨w.heap.size+1,0,none⟩=some (.int .i64 0):=by rw[cell_of_row W _ 0 _ _ _ HR.out];rfl
 have f1:W.cell? ⟨w.heap.size+1,1,none⟩=some (.bool false):=by rw[cell_of_row W _ 1 _ _ _ HR.out];rfl
 have q0:W.frozen? ⟨w.heap.size+1,0,none⟩=false:=by simp[World.frozen?,HR.out]
 have q1:W.frozen? ⟨w.heap.size+1,1,none⟩=false:=by simp[World.frozen?,HR.out]
 have hlt1:w.heap.size+1<W.heap.size:=by have:=HS.out;omega
 clear e1 e2 G0 P0 P1 p0 p1 g0
 have hb:Below w.heap.size w W:=HBW.out
 go_wp2_with fail
 refine bodyPost_ret (v:=.tuple #[.agg #[.int .i64 x.1,.bool x.2],.bool b]) (by simp[results,Tryz.results137,go_sem,hlt1,f0,f1]) rfl ⟨rfl,?_⟩
 exact(((hb.setCell (by simp) _).setCell (by simp) _).alloc (by have:=hb.size;simpa using this) _).drew
end Go.Proofs.YtnhdmnijiphjjaaGreat
