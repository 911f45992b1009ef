/- Tables of pages, in plain words: what setting a page's entry makes of all pages, of frames' uses and bytes; when there is room. No program in it. -/
import Derived.Test.YtnhdmnijiphjjaaGreatJMp1
import Derived.Deep.MidRow
import Derived.Laws.BitsAllLaws
set_option linter.unusedVariables false
set_option linter.unusedSimpArgs false
set_option maxRecDepth 100000
set_option maxHeartbeats 2000000
namespace Go.Proofs.YtnhdmnijiphjjaaGreat
open Go Go.RowKit
def zk.Y3(P:zk)(f:Nat):Bool:=decide (P.use f=1∧P.zone (f/32)=2∧P.iso (f/32)=false)
def zk.room(P:zk):Nat:=(List.range 1024).countP P.Y3
theorem q9{P:zk}{z s k f:Nat}(h:P.runFrom z s k=some f):32*s≤f∧f<32*(s+k)∧P.use f=1∧P.zone (f/32)=z∧P.iso (f/32)=false:=by
 induction k generalizing s with
 | zero=>simp[zk.runFrom]at h
 | succ k ih=>
  simp only[zk.runFrom]at h
  split at h
  ·rename_i hz
   split at h
   ·rename_i g hg
    cases h
    obtain⟨h1,h2,h3⟩:=zcq hg
    have:f/32=s:=by omega
    rw[this]
    exact⟨h1,by omega,by simpa using h3,hz.1,hz.2⟩
   ·obtain⟨h1,h2,h3⟩:=ih h;exact⟨by omega,by omega,h3⟩
  ·obtain⟨h1,h2,h3⟩:=ih h;exact⟨by omega,by omega,h3⟩
theorem U3{P:zk}{z s k:Nat}(h:P.runFrom z s k=none):∀f,32*s≤f→f<32*(s+k)→P.zone (f/32)=z→P.iso (f/32)=false→P.use f≠1:=by
 induction k generalizing s with
 | zero=>intro f h1 h2;omega
 | succ k ih=>
  simp only[zk.runFrom]at h
  intro f h1 h2 hz hi hu
  by_cases e:f/32=s
  ·rw[e]at hz hi
   rw[if_pos ⟨hz,hi⟩]at h
   split at h
   ·cases h
   ·rename_i hn
    have:=zcr hn f (by omega) (by omega)
    simp[hu]at this
  ·split at h
   ·split at h
    ·cases h
    ·exact ih h f (by omega) (by omega) hz hi hu
   ·exact ih h f (by omega) (by omega) hz hi hu
theorem Yq{P:zk}{f:Nat}(h:P.next false=some f):f<1024∧P.Y3 f=true∧P.use f=1:=by
 unfold zk.next zk.run at h
 simp only[Bool.false_eq_true,if_false]at h
 obtain⟨_,h2,h3,h4,h5⟩:=q9 h
 exact⟨by omega,by simp[zk.Y3,h3,h4,h5],h3⟩
theorem Q9{P:zk}(h:P.next false=none):P.room=0:=by
 unfold zk.next zk.run at h
 simp only[Bool.false_eq_true,if_false]at h
 unfold zk.room
 rw[List.countP_eq_zero]
 intro f hf ha
 simp at hf
 simp only[zk.Y3,decide_eq_true_eq]at ha
 exact U3 h f (by omega) (by omega) ha.2.1 ha.2.2 ha.1
theorem zgj(t t':Nat→Bool)(f n:Nat)(hf:f<n)(ht:t f=true)(ht':t' f=false)(h:∀g,g≠f→t' g=t g):(List.range n).countP t=(List.range n).countP t'+1:=by
 induction n with
 | zero=>omega
 | succ n ih=>
  rw[List.range_succ,List.countP_append,List.countP_append]
  by_cases e:f=n
  ·subst e
   have:(List.range f).countP t=(List.range f).countP t':=List.countP_congr fun g hg=>by simp at hg;rw[h g (by omega)]
   rw[this]
   simp[ht,ht']
  ·rw[ih (by omega)]
   have:t' n=t n:=h n (Ne.symm e)
   simp[List.countP_cons,this]
   omega
theorem zet{P:zk}{f u:Nat}(hf:f<1024)(ha:P.Y3 f=true)(hu:u≠1):P.room=(P.set f u).room+1:=by
 unfold zk.room
 refine zgj _ _ f 1024 hf ha (by simp[zk.Y3,zk.set,hu]) fun g hg=>by simp[zk.Y3,zk.set,hg]
structure xm(x:RPT)(N:List Nat→Option Nat):Prop where
 tree:vk x.R x.T N
 tab:∀f,f∈x.T.own→x.P.use f=2
 good:∀f,f<1024→x.P.use f=1→x.R.bad f=false
structure Zq(x y:RPT):Prop where
 root:y.T.root=x.T.root
 bad:y.R.bad=x.R.bad
 bytes:∀g i,x.P.use g≠1→g∉x.T.own→y.R.b g i=x.R.b g i
 use:∀g,y.P.use g=if g∈y.T.own then 2 else if g∈x.T.own then 1 else x.P.use g
 zone:y.P.zone=x.P.zone
 iso:y.P.iso=x.P.iso
 new:∀g,g∈y.T.own→g∈x.T.own∨x.P.use g=1
theorem Zq.refl{x:RPT}(h:∀f,f∈x.T.own→x.P.use f=2):Zq x x:=
 ⟨rfl,rfl,fun _ _ _ _=>rfl,fun g=>by split;exact h g ‹_›;rfl,rfl,rfl,fun _ hg=>.inl hg⟩
theorem Zq.trans{x y z:RPT}(h:Zq x y)(k:Zq y z):Zq x z:=by
 have key:∀g,x.P.use g≠1→g∉x.T.own→g∉y.T.own∧y.P.use g=x.P.use g:=fun g h1 h2=>by
  have h3:g∉y.T.own:=fun e=>(h.new g e).elim h2 h1
  exact⟨h3,by rw[h.use,if_neg h3,if_neg h2]⟩
 refine⟨k.root.trans h.root,k.bad.trans h.bad,fun g i h1 h2=>?_,fun g=>?_,k.zone.trans h.zone,k.iso.trans h.iso,fun g hg=>?_⟩
 ·obtain⟨h3,h4⟩:=key g h1 h2
  rw[k.bytes g i (by rw[h4];exact h1) h3,h.bytes g i h1 h2]
 ·rw[k.use]
  by_cases e:g∈z.T.own
  ·rw[if_pos e,if_pos e]
  ·rw[if_neg e,if_neg e]
   by_cases e2:g∈y.T.own
   ·rw[if_pos e2]
    by_cases e3:g∈x.T.own
    ·rw[if_pos e3]
    ·rw[if_neg e3];exact((h.new g e2).resolve_left e3).symm
   ·rw[if_neg e2,h.use,if_neg e2]
 ·rcases k.new g hg with e|e
  ·exact h.new g e
  ·rw[h.use]at e
   by_cases e2:g∈x.T.own
   ·exact .inl e2
   ·right
    split at e
    ·cases e
    ·first|exact e|(rw[if_neg e2]at e;exact e)
theorem xm.step{x y:RPT}{N N':List Nat→Option Nat}(h:xm x N)(t:Zq x y)(k:vk y.R y.T N'):xm y N':=by
 refine⟨k,fun f hf=>by rw[t.use,if_pos hf],fun f hf hu=>?_⟩
 rw[t.bad]
 rw[t.use]at hu
 split at hu
 ·cases hu
 ·split at hu
  ·rename_i e
   obtain⟨p,hp⟩:=(h.tree.own f).1 e
   exact(h.tree.lt p f hp).2.1
  ·exact h.good f hf hu
theorem xm.table{x:RPT}{N:List Nat→Option Nat}(h:xm x N):
  (x.table=((0,4),x)∧x.P.room=0)∨∃g,x.P.next false=some g∧g<1024∧x.P.use g=1∧x.R.bad g=false∧g∉x.T.own∧x.P.Y3 g=true∧
   x.table=(((g:Int),0),⟨x.R.write g 0 (List.replicate 64 0),x.P.set g 2,⟨x.T.root,x.T.own++[g]⟩⟩):=by
 unfold RPT.table
 cases hn:x.P.next false with
 | none=>exact .inl ⟨rfl,Q9 hn⟩
 | some g=>
  right
  obtain⟨h1,h2,h3⟩:=Yq hn
  have h4:=h.good g h1 h3
  have h5:g∉x.T.own:=fun e=>by have:=h.tab g e;omega
  refine⟨g,rfl,h1,h3,h4,h5,h2,?_⟩
  have:ramE 1024 x.R (g:Int) 0 64=0:=Uf (n:=1024) (R:=x.R) (f:=g) (a:=0) (k:=64) h1 (by omega) h4
  simp only[this,if_true]
theorem xy(page k:Nat)(hk:k<3):(high page).take k++[digit page k]=(high page).take (k+1):=by
 have:k=0∨k=1∨k=2:=by omega
 rcases this with rfl|rfl|rfl<;>rfl
def Vo(N:List Nat→Option Nat)(page:Nat)(list:List Int)(k:Nat):Prop:=∀m,m≤k→∃f,N ((high page).take m)=some f∧list.getD m 0=(f:Int)
theorem xm.qa{x:RPT}{N:List Nat→Option Nat}(h:xm x N)(page:Nat)(list:List Int)(k:Nat)(hk:k≤3)(hw:Vo N page list k):
  ∃N',xm (RPT.qa page list k x) N'∧Zq x (RPT.qa page list k x)∧(∀pg,mapOf (RPT.qa page list k x).R N' pg=mapOf x.R N pg)∧∀g,g∈(RPT.qa page list k x).T.own→g∈x.T.own:=by
 induction k generalizing x N with
 | zero=>exact⟨N,h,Zq.refl h.tab,fun _=>rfl,fun _ h=>h⟩
 | succ k ih=>
  unfold RPT.qa
  obtain⟨g,hg,eg⟩:=hw (k+1) (Nat.le_refl _)
  obtain⟨f,hf,ef⟩:=hw k (by omega)
  rw[eg,ef]
  have qg:=h.tree.lt _ _ hg
  have qf:=h.tree.lt _ _ hf
  split
  ·rename_i he
   rw[Jf qg.1 qg.2.1]at he
   rw[←xy page k (by omega)]at hg
   have hd:=yg page k
   have c1:=h.tree.cut1 hf hd hg he
   have c2:=h.tree.zma hf hd hg he
   have hfg:f≠g:=fun e=>by
    subst e
    have:=congrArg List.length (h.tree.inj _ _ _ hf hg)
    simp at this
   have hgo:g∈x.T.own:=(h.tree.own g).2 ⟨_,hg⟩
   have hfo:f∈x.T.own:=(h.tree.own f).2 ⟨_,hf⟩
   have hu:x.P.used g=true:=by
    unfold zk.used
    rw[decide_eq_true_eq,Int.toNat_natCast,h.tab g hgo]
    omega
   have e2:x.drop g=⟨x.R,x.P.set g 1,⟨x.T.root,x.T.own.filter fun a=>(a:Int)≠g⟩⟩:=by
    unfold RPT.drop zk.free
    rw[if_pos hu,Int.toNat_natCast]
   rw[e2]
   try simp only
   rw[Uh qf.1 qf.2.1 hd]
   have st:Zq x ⟨x.R.write f (8*digit page k) (leBytes 0 8),x.P.set g 1,⟨x.T.root,x.T.own.filter fun a=>(a:Int)≠g⟩⟩:=by
    refine⟨rfl,rfl,fun a i h1 h2=>?_,fun a=>?_,rfl,rfl,fun a ha=>?_⟩
    ·show(x.R.write f (8*digit page k) (leBytes 0 8)).b a i=_
     rw[qm,if_neg]
     rintro⟨rfl,_⟩
     exact h2 hfo
    ·show(if a=g then 1 else x.P.use a)=_
     simp only[List.mem_filter,decide_eq_true_eq]
     by_cases e:a=g
     ·subst e
      simp[hgo]
     ·rw[if_neg e]
      by_cases e2:a∈x.T.own
      ·rw[if_pos ⟨e2,by omega⟩];exact h.tab a e2
      ·rw[if_neg (fun e=>e2 e.1),if_neg e2]
    ·exact .inl (List.mem_filter.1 ha).1
   have ok:=h.step st c1
   obtain⟨N',i1,i2,i3,i4⟩:=ih ok (by omega) (fun m hm=>by
    obtain⟨a,ha,ea⟩:=hw m (by omega)
    refine⟨a,?_,ea⟩
    rw[if_neg]
    ·exact ha
    ·rw[xy page k (by omega)]
     intro e
     have:=congrArg List.length e
     simp[high]at this
     omega)
   exact⟨N',i1,st.trans i2,fun pg=>(i3 pg).trans (c2 pg),fun a ha=>(List.mem_filter.1 (i4 a ha)).1⟩
  ·exact⟨N,h,Zq.refl h.tab,fun _=>rfl,fun _ h=>h⟩
theorem Zq.room{x y:RPT}(t:Zq x y)(ht:∀f,f∈x.T.own→x.P.use f=2)(h:∀g,g∈y.T.own→g∈x.T.own):x.P.room≤y.P.room:=by
 unfold zk.room
 refine List.countP_mono_left fun g _ ha=>?_
 simp only[zk.Y3,decide_eq_true_eq]at ha⊢
 have h1:g∉x.T.own:=fun e=>by have:=ht g e;omega
 rw[t.use,if_neg (fun e=>h1 (h g e)),if_neg h1,t.zone,t.iso]
 exact ha
theorem xm.ym{x:RPT}{N:List Nat→Option Nat}(h:xm x N)(page j:Nat)(list:List Int)(hj:j≤3)(hl:list.length=4-j)(hw:Vo N page list (3-j))(hn:0<j→N ((high page).take (4-j))=none):
  (∃l N',RPT.ym page j list x=((l,0),(RPT.ym page j list x).2)∧l.length=4∧xm (RPT.ym page j list x).2 N'∧Zq x (RPT.ym page j list x).2∧Vo N' page l 3∧(∀pg,mapOf (RPT.ym page j list x).2.R N' pg=mapOf x.R N pg)∧x.P.room≤(RPT.ym page j list x).2.P.room+j)∨
  (∃N',RPT.ym page j list x=(([],4),(RPT.ym page j list x).2)∧x.P.room<j∧xm (RPT.ym page j list x).2 N'∧Zq x (RPT.ym page j list x).2∧(∀pg,mapOf (RPT.ym page j list x).2.R N' pg=mapOf x.R N pg)∧x.P.room≤(RPT.ym page j list x).2.P.room+j):=by
 induction j generalizing x N list with
 | zero=>exact .inl ⟨list,N,rfl,hl,h,Zq.refl h.tab,hw,fun _=>rfl,by show x.P.room≤x.P.room+0;omega⟩
 | succ j ih=>
  rcases h.table with⟨et,er⟩|⟨g,_,hg,hu,hb,ho,ha,et⟩
  ·right
   have e:RPT.ym page (j+1) list x=(([],4),x.prune page list):=by
    unfold RPT.ym
    simp only[et]
    rfl
   rw[e]
   obtain⟨N',i1,i2,i3,i4⟩:=h.qa page list (list.length-1) (by omega) (fun m hm=>hw m (by omega))
   exact⟨N',rfl,by omega,i1,i2,i3,by omega⟩
  ·obtain⟨f,hf,ef⟩:=hw (3-(j+1)) (Nat.le_refl _)
   have qf:=h.tree.lt _ _ hf
   have hd:=yg page (3-(j+1))
   have hno:=hn (by omega)
   have e4:4-(j+1)=3-(j+1)+1:=by omega
   rw[e4,←xy page _ (by omega)]at hno
   have elast:list.getLast?.getD 0=(f:Int):=by
    rw[List.getLast?_eq_getElem?,hl,←ef,List.getD_eq_getElem?_getD]
    congr 2
    omega
   have hpl:((high page).take (3-(j+1))).length<3:=by simp[high];omega
   have g1:=h.tree.grow1 hf hpl hd hno hg hb ho
   have g2:=h.tree.ziv hf hpl hd hno ho hg
   have hfo:f∈x.T.own:=(h.tree.own f).2 ⟨_,hf⟩
   have hfg:f≠g:=fun e=>ho (e▸hfo)
   have st:Zq x ⟨(x.R.write g 0 (List.replicate 64 0)).write f (8*digit page (3-(j+1))) (leBytes (g+1) 8),x.P.set g 2,⟨x.T.root,x.T.own++[g]⟩⟩:=by
    refine⟨rfl,rfl,fun a i h1 h2=>?_,fun a=>?_,rfl,rfl,fun a ha=>?_⟩
    ·show((x.R.write g 0 (List.replicate 64 0)).write f _ _).b a i=_
     rw[qm,if_neg,qm,if_neg]
     ·rintro⟨rfl,_⟩;exact h1 hu
     ·rintro⟨rfl,_⟩;exact h2 hfo
    ·show(if a=g then 2 else x.P.use a)=_
     simp only[List.mem_append,List.mem_singleton]
     by_cases e:a=g
     ·simp[e]
     ·by_cases e2:a∈x.T.own
      ·simp[e,e2,h.tab a e2]
      ·simp[e,e2]
    ·rcases List.mem_append.1 ha with ha|ha
     ·exact .inl ha
     ·simp at ha;subst ha;exact .inr hu
   have ok:=h.step st g1
   have e:RPT.ym page (j+1) list x=RPT.ym page j (list++[(g:Int)]) ⟨(x.R.write g 0 (List.replicate 64 0)).write f (8*digit page (3-(j+1))) (leBytes (g+1) 8),x.P.set g 2,⟨x.T.root,x.T.own++[g]⟩⟩:=by
    conv=>lhs;unfold RPT.ym
    simp only[et,if_true,elast,Int.toNat_natCast]
    rw[Uh (R:=x.R.write g 0 (List.replicate 64 0)) qf.1 (by rw[Vp];exact qf.2.1) hd]
   rw[e]
   have r2:=ih ok (list++[(g:Int)]) (by omega) (by simp[hl];omega) (fun m hm=>by
     by_cases em:m=4-(j+1)
     ·refine⟨g,?_,?_⟩
      ·rw[em,e4,←xy page _ (by omega)];exact if_pos rfl
      ·rw[List.getD_eq_getElem?_getD,List.getElem?_append_right (by omega),em,hl];simp
     ·obtain⟨a,ha,ea⟩:=hw m (by omega)
      refine⟨a,?_,?_⟩
      ·refine(if_neg ?_).trans ha
       rw[xy page _ (by omega)]
       intro e
       have:=congrArg List.length e
       simp[high]at this
       omega
      ·rw[List.getD_eq_getElem?_getD,List.getElem?_append_left (by omega),←List.getD_eq_getElem?_getD];exact ea)
    (fun hj=>by
     refine(if_neg ?_).trans ?_
     rotate_left
     ·cases e5:N ((high page).take (4-j))with
      | none=>rfl
      | some a=>
       rw[show 4-j=4-(j+1)+1 by omega,←xy page _ (by omega)]at e5
       obtain⟨b,hb⟩:=h.tree.par _ _ _ e5
       rw[e4,←xy page _ (by omega),hno]at hb
       cases hb
     ·rw[xy page _ (by omega)]
      intro e
      have:=congrArg List.length e
      simp[high]at this
      omega)
   have hr:=zet (u:=2) hg ha (by decide)
   rcases r2 with⟨l,N',i1,i2,i3,i4,i5,i6,i7⟩|⟨N',i1,i2,i3,i4,i5,i6⟩
   ·refine .inl ⟨l,N',i1,i2,i3,st.trans i4,i5,fun pg=>(i6 pg).trans (g2 pg),?_⟩
    simp only at i7
    omega
   ·right
    simp only at i2 i6
    exact⟨N',i1,by omega,i3,st.trans i4,fun pg=>(i5 pg).trans (g2 pg),by omega⟩
theorem xm.setLast{x:RPT}{N:List Nat→Option Nat}(h:xm x N){page:Nat}(hpage:page<4096){list:List Int}(hl:list.length=4)(hw:Vo N page list 3){e:Ent}(he:e.ok=true):
  ∃N',(x.setLast page list e.num).1=0∧xm (x.setLast page list e.num).2 N'∧Zq x (x.setLast page list e.num).2∧(∀pg,pg<4096→mapOf (x.setLast page list e.num).2.R N' pg=if pg=page then e else mapOf x.R N pg)∧∀g,g∈(x.setLast page list e.num).2.T.own→g∈x.T.own:=by
 obtain⟨f,hf,ef⟩:=hw 3 (Nat.le_refl _)
 have hf':N (high page)=some f:=hf
 have qf:=h.tree.lt _ _ hf
 have hfo:f∈x.T.own:=(h.tree.own f).2 ⟨_,hf⟩
 have c1:=h.tree.zih hf' (by simp[high]) (yg page 3) he
 have c2:=h.tree.zd1 hpage hf' he
 have st:Zq x ⟨x.R.write f (8*digit page 3) (leBytes e.num 8),x.P,x.T⟩:=by
  refine⟨rfl,rfl,fun a i h1 h2=>?_,fun a=>?_,rfl,rfl,fun a ha=>.inl ha⟩
  ·show(x.R.write f _ _).b a i=_
   rw[qm,if_neg]
   rintro⟨rfl,_⟩;exact h2 hfo
  ·show x.P.use a=_
   by_cases e2:a∈x.T.own
   ·rw[if_pos e2];exact h.tab a e2
   ·rw[if_neg e2,if_neg e2]
 have ok:=h.step st c1
 obtain⟨N',i1,i2,i3,i4⟩:=ok.qa page list 3 (by omega) hw
 have e1:x.setLast page list e.num=(0,RPT.qa page list 3 ⟨x.R.write f (8*digit page 3) (leBytes e.num 8),x.P,x.T⟩):=by
  unfold RPT.setLast RPT.prune
  rw[ef,hl,zbg qf.1 qf.2.1 (yg _ _),Uh qf.1 qf.2.1 (yg _ _)]
  rfl
 rw[e1]
 exact⟨N',rfl,i1,st.trans i2,fun pg hpg=>(i3 pg).trans (c2 pg hpg),i4⟩
theorem Ud{R:RamS}{T:Z7}{N:List Nat→Option Nat}(h:vk R T N)(page:Nat):
  1≤(wayN N T.root page).length∧(wayN N T.root page).length≤4∧Vo N page (wayN N T.root page) ((wayN N T.root page).length-1)∧((wayN N T.root page).length<4→N ((high page).take (wayN N T.root page).length)=none)∧((wayN N T.root page).length=4↔(N (high page)).isSome=true):=by
 have hroot:=h.root
 have up1:N [digit page 0]=none→N [digit page 0,digit page 1]=none:=fun h1=>by
  cases e:N [digit page 0,digit page 1]with
  | none=>rfl
  | some g=>obtain⟨f,hf⟩:=h.par [digit page 0] (digit page 1) g e;rw[hf]at h1;cases h1
 have up2:N [digit page 0,digit page 1]=none→N [digit page 0,digit page 1,digit page 2]=none:=fun h1=>by
  cases e:N [digit page 0,digit page 1,digit page 2]with
  | none=>rfl
  | some g=>obtain⟨f,hf⟩:=h.par [digit page 0,digit page 1] (digit page 2) g e;rw[hf]at h1;cases h1
 have t0:(high page).take 0=[]:=rfl
 have t1:(high page).take 1=[digit page 0]:=rfl
 have t2:(high page).take 2=[digit page 0,digit page 1]:=rfl
 have t3:(high page).take 3=[digit page 0,digit page 1,digit page 2]:=rfl
 unfold wayN
 cases h1:N [digit page 0]with
 | none=>
  refine⟨by simp,by simp,fun m hm=>?_,fun _=>by simpa[t1]using h1,by simp[high,up2 (up1 h1)]⟩
  obtain rfl:m=0:=by simpa using hm
  exact⟨T.root,by rw[t0];exact hroot,rfl⟩
 | some f1=>
  cases h2:N [digit page 0,digit page 1]with
  | none=>
   refine⟨by simp,by simp,fun m hm=>?_,fun _=>by simpa[t2]using h2,by simp[high,up2 h2]⟩
   simp at hm
   have:m=0∨m=1:=by omega
   rcases this with rfl|rfl
   ·exact⟨T.root,by rw[t0];exact hroot,rfl⟩
   ·exact⟨f1,by rw[t1];exact h1,rfl⟩
  | some f2=>
   cases h3:N [digit page 0,digit page 1,digit page 2]with
   | none=>
    refine⟨by simp,by simp,fun m hm=>?_,fun _=>by simpa[t3]using h3,by simp[high,h3]⟩
    simp at hm
    have:m=0∨m=1∨m=2:=by omega
    rcases this with rfl|rfl|rfl
    ·exact⟨T.root,by rw[t0];exact hroot,rfl⟩
    ·exact⟨f1,by rw[t1];exact h1,rfl⟩
    ·exact⟨f2,by rw[t2];exact h2,rfl⟩
   | some f3=>
    refine⟨by simp,by simp,fun m hm=>?_,fun hl=>by simp at hl,by simp[high,h3]⟩
    simp at hm
    have:m=0∨m=1∨m=2∨m=3:=by omega
    rcases this with rfl|rfl|rfl|rfl
    ·exact⟨T.root,by rw[t0];exact hroot,rfl⟩
    ·exact⟨f1,by rw[t1];exact h1,rfl⟩
    ·exact⟨f2,by rw[t2];exact h2,rfl⟩
    ·exact⟨f3,by rw[t3];exact h3,rfl⟩
theorem xm.set {x : RPT} {N : List Nat → Option Nat} (h : xm x N) {page : Nat} (hpage : page < 4096) {e : Ent} (he : e.ok = true) :
    (∃ N', (x.set page e).1 = 0 ∧ xm (x.set page e).2 N' ∧ Zq x (x.set page e).2 ∧ (∀ pg, pg < 4096 → mapOf (x.set page e).2.R N' pg = if pg = page then e else mapOf x.R N pg) ∧ x.P.room ≤ (x.set page e).2.P.room + 3 ∧
      ((N (high page)).isSome = true ∨ e = Ent.none → x.P.room ≤ (x.set page e).2.P.room ∧ ∀ g, g ∈ (x.set page e).2.T.own → g ∈ x.T.own)) ∨
    (∃ N', (x.set page e).1 = 4 ∧ x.P.room < 3 ∧ N (high page) = none ∧ e ≠ Ent.none ∧ xm (x.set page e).2 N' ∧ Zq x (x.set page e).2 ∧ (∀ pg, mapOf (x.set page e).2.R N' pg = mapOf x.R N pg) ∧ x.P.room ≤ (x.set page e).2.P.room + 3) := by
  have hm : x.T.may page = 0 := by
    unfold Z7.may
    rw [if_neg (by omega), if_neg h.tree.own_ne]
  obtain ⟨w1, w2, w3, w4, w5⟩ := Ud h.tree page
  have hway := h.tree.way page
  have e0 : x.set page e = if (wayN N x.T.root page).length < 4 then
          if e.num = 0 then (0, x) else
          let g := RPT.ym page (4 - (wayN N x.T.root page).length) (wayN N x.T.root page) x
          if g.1.2 = 0 then g.2.setLast page g.1.1 e.num else (g.1.2, g.2)
        else x.setLast page (wayN N x.T.root page) e.num := by
    unfold RPT.set
    rw [if_pos hm, if_pos he]
    simp only [Int.toNat_natCast, hway]
    rfl
  generalize wayN N x.T.root page = l at w1 w2 w3 w4 w5 e0
  by_cases hl : l.length < 4
  · have hnone : N (high page) = none := by
      cases e5 : N (high page) with
      | none => rfl
      | some a => rw [e5] at w5; simp at w5; omega
    rw [if_pos hl] at e0
    by_cases hz : e.num = 0
    · rw [if_pos hz] at e0
      rw [e0]
      have e6 := (Ent.za9 he).1 hz
      refine .inl ⟨N, rfl, h, Zq.refl h.tab, fun pg hpg => ?_, by simp, fun _ => ⟨Nat.le_refl _, fun _ h => h⟩⟩
      split
      · rename_i e7
        rw [e7, e6]
        unfold mapOf
        rw [hnone]
      · rfl
    · rw [if_neg hz] at e0
      have hne : e ≠ Ent.none := fun e6 => hz ((Ent.za9 he).2 e6)
      rcases h.ym page (4 - l.length) l (by omega) (by omega) (by rw [show 3 - (4 - l.length) = l.length - 1 by omega]; exact w3) (fun _ => by rw [show 4 - (4 - l.length) = l.length by omega]; exact w4 hl) with ⟨l', N', i1, i2, i3, i4, i5, i6, i7⟩ | ⟨N', i1, i2, i3, i4, i5, i6⟩
      · left
        have e1 : x.set page e = (RPT.ym page (4 - l.length) l x).2.setLast page l' e.num := by
          rw [e0]
          try simp only
          rw [i1]
          rfl
        rw [e1]
        obtain ⟨N2, j1, j2, j3, j4, j5⟩ := i3.setLast hpage i2 i5 he
        refine ⟨N2, j1, j2, i4.trans j3, fun pg hpg => ?_, ?_, fun hs => ?_⟩
        · rw [j4 pg hpg, i6]
        · have := j3.room i3.tab j5
          omega
        · rcases hs with hs | hs
          · rw [hnone] at hs; cases hs
          · exact (hne hs).elim
      · right
        have e1 : x.set page e = (4, (RPT.ym page (4 - l.length) l x).2) := by
          rw [e0]
          try simp only
          rw [i1]
          rfl
        rw [e1]
        exact ⟨N', rfl, by omega, hnone, hne, i3, i4, i5, by simp only; omega⟩
  · rw [if_neg hl] at e0
    rw [e0]
    obtain ⟨N2, j1, j2, j3, j4, j5⟩ := h.setLast (list := l) hpage (by omega) (by rw [show (3 : Nat) = l.length - 1 by omega]; exact w3) he
    have := j3.room h.tab j5
    exact .inl ⟨N2, j1, j2, j3, j4, by omega, fun _ => ⟨this, j5⟩⟩
def Z9(P:zk)(fs:Nat):List Value:=(List.range 64).map fun j=>Zg P fs (1025+j)
theorem znp(P:zk)(fs k:Nat)(hk:k<32):(Z9 P fs)[k*2]?=some (.int .i64 (P.zone k))∧(Z9 P fs)[k*2+1]?=some (.bool (P.iso k)):=by
 unfold Z9
 rw[List.getElem?_map,List.getElem?_range (by omega),List.getElem?_map,List.getElem?_range (by omega)]
 simp only[Option.map_some,Zg]
 rw[if_neg (by omega),if_neg (by omega),if_pos (by omega),if_neg (by omega),if_neg (by omega),if_neg (by omega),show(1025+k*2-1025)/2=k by omega,show(1025+(k*2+1)-1025)/2=k by omega]
 exact⟨rfl,rfl⟩
theorem zgc(V:List Value)(k:Nat)(a b:Value)(hk:k<32)(ha:V[k*2]?=some a)(hb:V[k*2+1]?=some b)(W:World):(Instr.index 163 (.agg V.toArray) (.int .i64 k)).run Tryz.prog W=.ok (.agg #[a,b]) W:=by
 have z:=Tryz.sizeOf162
 have g:=Tryz.isAgg162
 have h0:(0:Int)≤k:=by omega
 have h1:(k:Int)<32:=by omega
 have hx:List.take 2 (List.drop (k*2) V)=[a,b]:=by
  refine List.ext_getElem? fun j=>?_
  by_cases hj:j<2
  ·rw[List.getElem?_take_of_lt hj,List.getElem?_drop]
   have:j=0∨j=1:=by omega
   rcases this with rfl|rfl
   ·simpa using ha
   ·simpa using hb
  ·rw[List.getElem?_eq_none (by simp;omega),List.getElem?_eq_none (by simp;omega)]
 simp[Instr.index,run_underlying Tryz.underlying163,asIntOf,part,h0,z,g]
 rw[if_pos hk,hx]
theorem zhf:(Tryz.prog.info? 163).map (·.size)=some 64:=by kernel_rfl
theorem zb0(P:zk)(z k:Nat)(hk:k<32):P.runFrom z k (32-k)=if P.zone k=z∧P.iso k=false then(match P.zfc k with|some f=>some f|none=>P.runFrom z (k+1) (32-(k+1)))else P.runFrom z (k+1) (32-(k+1)):=by
 rw[show 32-k=32-(k+1)+1 by omega]
 rfl
theorem prun_walk(w:World)(O:Nat→Prop)(p fs fb:Nat)(P:zk)(h:zq w O p fs fb P)(zi:Int)(z:Nat)(ez:zi=z):
  Calls Tryz.prog 105 #[.pointer (some ⟨p,0,none⟩),.int .i64 0,.int .i64 zi] w fun e w'=>e=.returned (runV (P.run z))∧Below w.heap.size w w':=by
 subst ez
 obtain⟨V,hV⟩:∃V,Z9 P fs=V:=⟨_,rfl⟩
 have hr:w.rangeAt p 1025 V:=fun j v hv=>by
  have hj:j<64:=by have:=(List.getElem?_eq_some_iff.1 hv).1;rw[←hV]at this;simpa[Z9]using this
  rw[h.r1.cell (by omega),←hv,←hV]
  simp[Z9,hj]
 have hi:(Tryz.prog.info? 163).map (·.size)=some V.length:=by
  have:V.length=64:=by rw[←hV];simp[Z9]
  rw[this];exact zhf
 have hat:=fun k hk=>znp P fs k hk
 rw[hV]at hat
 have HAT:=Lib.hid hat
 have HR:=Lib.hid hr
 have HI:=Lib.hid hi
 have HP:=Lib.hid h
 have hp:=h.r1.lt
 have hptr:=h.ptr
 clear h hV hr hi hat
 go_enter Tryz.func105,Tryz.ntmps105
 go_wp2_with (refine wpList_load_mid rfl 163 (.tmp 16) rfl p 1025 rfl V _ HR.out Tryz.underlying163 rfl HI.out ?_)
 go_loopw [18] (fun i W=>∃k:Nat,k≤32∧i=.int .i64 k∧Hid (Below w.heap.size w W)∧Hid (P.run z=P.runFrom z k (32-k))) (fun i _=>32-(intOf i).toNat)
 case atStart=>exact⟨0,by omega,rfl,Below.refl _ _,rfl⟩
 case round=>
  obtain⟨k,hk,rfl,hB,hF⟩:=hrel
  by_cases hlt:k<32
  ·have h1:(k:Int)<32:=by omega
   have h2:(0:Int)≤k:=by omega
   have hidx:=zgc V k _ _ hlt (HAT.out k hlt).1 (HAT.out k hlt).2
   have hstep:=zb0 P z k hlt
   have hpw:wr.cell? ⟨p,1024,none⟩=some (.pointer (some ⟨fs,0,none⟩)):=(hB.out.cell (World.block_lt_of_cell? _ _ hptr)).trans hptr
   have hpl:p<wr.heap.size:=Nat.lt_of_lt_of_le hp hB.out.size
   by_cases hz:P.zone k=z
   ·by_cases hiso:P.iso k=false
    ·rw[if_pos ⟨hz,hiso⟩]at hstep
     have e1:((P.zone k:Int) != (z:Int))=false:=by rw[hz];simp
     rw[hiso]at hidx
     have HS:=Lib.hid hstep
     clear hstep hz hiso
     go_wp2_with fail
     refine(Zt _ _ k rfl hlt).mono ?_
     rintro e w3 ⟨rfl,rfl⟩
     go_wp2_with fail
     have hB2:=Lib.hid (hB.out.trans (((Below.refl wr.heap.size wr).alloc (Nat.le_refl _) (.cells #[.int .i64 (P.zone k),.bool false] 162 (0,0))).mono hB.out.size))
     refine(zmi _ fs fb P (HP.out.r2.below hB2.out) (HP.out.r3.below hB2.out) (32*k) (by omega) _ _ (by omega) (by omega)).mono ?_
     rintro e w4 ⟨rfl,hb4⟩
     have hB4:=Lib.hid (hB2.out.trans (hb4.mono hB2.out.size))
     clear hb4
     cases hin:P.zfc k with
     | some f=>
      have hin':ut (fun f=>P.use f==1) (32*k) 32=some f:=hin
      have hres:Hid (P.run z=some f):=by show _=_;rw[hF.out,HS.out,hin]
      rw[hin']
      clear hin hin' HS
      unfold runV
      go_wp2_with fail
      exact bodyPost_ret (v:=runV (some f)) (by simp[results,Tryz.results105,go_sem,runV]) rfl ⟨by rw[hres.out],hB4.out⟩
     | none=>
      have hin':ut (fun f=>P.use f==1) (32*k) 32=none:=hin
      have hres:Hid (P.run z=P.runFrom z (k+1) (32-(k+1))):=by show _=_;rw[hF.out,HS.out,hin]
      rw[hin']
      clear hin hin' HS
      unfold runV
      go_wp2_with fail
      go_roundw
      case rel=>exact⟨k+1,by omega,by go_num,hB4,hres⟩
      case measure=>simp[intOf];omega
    ·rw[if_neg (fun e=>hiso e.2)]at hstep
     have hres:Hid (P.run z=P.runFrom z (k+1) (32-(k+1))):=by show _=_;rw[hF.out,hstep]
     have e1:((P.zone k:Int) != (z:Int))=false:=by rw[hz];simp
     have hiso':P.iso k=true:=by simpa using hiso
     rw[hiso']at hidx
     clear hstep hz hiso hiso'
     have hB2:=Lib.hid (hB.out.trans (((Below.refl wr.heap.size wr).alloc (Nat.le_refl _) (.cells #[.int .i64 (P.zone k),.bool true] 162 (0,0))).mono hB.out.size))
     go_wp2_with fail
     go_roundw
     case rel=>exact⟨k+1,by omega,by go_num,hB2,hres⟩
     case measure=>simp[intOf];omega
   ·rw[if_neg (fun e=>hz e.1)]at hstep
    have hres:Hid (P.run z=P.runFrom z (k+1) (32-(k+1))):=by show _=_;rw[hF.out,hstep]
    have e1:((P.zone k:Int) != (z:Int))=true:=by rw[bne_iff_ne];omega
    clear hstep hz
    have hB2:=Lib.hid (hB.out.trans (((Below.refl wr.heap.size wr).alloc (Nat.le_refl _) (.cells #[.int .i64 (P.zone k),.bool (P.iso k)] 162 (0,0))).mono hB.out.size))
    go_wp2_with fail
    go_roundw
    case rel=>exact⟨k+1,by omega,by go_num,hB2,hres⟩
    case measure=>simp[intOf];omega
  ·obtain rfl:k=32:=by omega
   have hres:Hid (P.run z=none):=by show _=_;rw[hF.out];rfl
   go_wp2_with fail
   exact bodyPost_ret (v:=runV none) (by simp[results,Tryz.results105,go_sem,runV]) rfl ⟨by rw[hres.out],hB.out⟩
def zj0(O:Nat→Prop)(w:World)(p fs fb:Nat)(P Q:zk)(k:Value)(W:World):Prop:=(k=.int .i64 0∧zq W O p fs fb P∧Turn O w W)∨(k=.int .i64 1∧zq W O p fs fb Q∧Turn O w W)
def Yn:Option Nat→Value
 | some f=>.tuple #[.int .i64 f,.int .i64 0]
 | none=>.tuple #[.int .i64 0,.int .i64 4]
def zk.took(P:zk)(u:Nat):Option Nat→zk
 | .some f=>P.set f u
 | .none=>P
theorem Uc(w:World)(O:Nat→Prop)(p fs fb:Nat)(P:zk)(h:zq w O p fs fb P)(ui:Int)(u:Nat)(eu:ui=u)(h2:2≤u)(h5:u≤5):
  Calls Tryz.prog 43 #[.pointer (some ⟨p,0,none⟩),.int .i64 ui,.int .i64 0,.bool true] w fun e w'=>e=.returned (Yn (P.next true))∧zq w' O p fs fb (P.took u (P.next true))∧Turn O w w'∧(P.next true=none→Below w.heap.size w w'):=by
 subst eu
 have i2:¬(u:Int)<2:=by omega
 have i5:¬(5:Int)<u:=by omega
 have HP:=Lib.hid h
 clear h
 go_enter Tryz.func43,Tryz.ntmps43
 go_wp2_with fail
 go_loopw [41] (fun i W=>∃j:Nat,j≤2∧i=.int .i64 j∧Hid (Below w.heap.size w W)∧W.cell? ⟨w.heap.size,0,none⟩=some (.int .i64 3)∧W.cell? ⟨w.heap.size,1,none⟩=some (.int .i64 2)∧Hid ((1≤j→P.run 3=none)∧(2≤j→P.run 2=none))) (fun i _=>2-(intOf i).toNat)
 case atStart=>exact⟨0,by omega,rfl,(Below.refl _ _).alloc (Nat.le_refl _) _,by go_simp,by go_simp,by omega,by omega⟩
 case round=>
  obtain⟨j,hj,rfl,hB,c0,c1,hN⟩:=hrel
  have hj':j=0∨j=1∨j=2:=by omega
  clear hj
  rcases hj' with rfl|rfl|rfl
  ·go_wp2_with fail
   refine(prun_walk _ O p fs fb P (HP.out.below hB.out) _ 3 rfl).mono ?_
   rintro e w3 ⟨rfl,hb3⟩
   have hB3:=Lib.hid (hB.out.trans (hb3.mono hB.out.size))
   have hlt:=World.block_lt_of_cell? _ _ c0
   have d0:=(hb3.cell hlt).trans c0
   have d1:=(hb3.cell (World.block_lt_of_cell? _ _ c1)).trans c1
   clear hb3 c0 c1
   cases hr:P.run 3 with
   | some f=>
    have hnext:Hid (P.next true=some f):=by show _=_;unfold zk.next;rw[if_pos rfl,hr]
    have hf:f<1024:=by have:=(q9 hr).2.1;omega
    clear hr
    unfold runV
    go_wp2_with fail
    go_loopw [55] (zj0 O w p fs fb P (P.set f u)) (fun k _=>1-(intOf k).toNat)
    case atStart=>exact .inl ⟨rfl,HP.out.below hB3.out,Turn.of_below hB3.out⟩
    case round=>
     rcases hrel with⟨rfl,q1,q2⟩|⟨rfl,q1,q2⟩
     ·have S:=Lib.hid (set_walk _ O p fs fb P q1 f u f u rfl rfl hf)
      have Q2:=Lib.hid q2
      clear q1 q2
      go_wp2_with fail
      refine S.out.mono ?_
      rintro e w5 ⟨rfl,g1,g2⟩
      have G:=Lib.hid (And.intro g1 g2)
      clear g1 g2
      go_wp2_with fail
      go_roundw
      case rel=>exact .inr ⟨rfl,G.out.1,Q2.out.trans G.out.2⟩
      case measure=>simp[intOf]
     ·have Q:=Lib.hid (And.intro q1 q2)
      clear q1 q2
      go_wp2_with fail
      exact bodyPost_ret (v:=Yn (some f)) (by simp[results,Tryz.results43,go_sem,Yn]) rfl ⟨by rw[hnext.out],by rw[hnext.out];exact Q.out.1,Q.out.2,fun e=>by rw[hnext.out]at e;cases e⟩
   | none=>
    have hres:=Lib.hid hr
    clear hr
    unfold runV
    go_wp2_with fail
    go_roundw
    case rel=>exact⟨1,by omega,by go_num,hB3,d0,d1,fun _=>hres.out,by omega⟩
    case measure=>simp[intOf]
  ·go_wp2_with fail
   refine(prun_walk _ O p fs fb P (HP.out.below hB.out) _ 2 rfl).mono ?_
   rintro e w3 ⟨rfl,hb3⟩
   have hB3:=Lib.hid (hB.out.trans (hb3.mono hB.out.size))
   have d0:=(hb3.cell (World.block_lt_of_cell? _ _ c0)).trans c0
   have d1:=(hb3.cell (World.block_lt_of_cell? _ _ c1)).trans c1
   clear hb3 c0 c1
   cases hr:P.run 2 with
   | some f=>
    have hnext:Hid (P.next true=some f):=by show _=_;unfold zk.next;rw[if_pos rfl,hN.out.1 (by omega)];exact hr
    have hf:f<1024:=by have:=(q9 hr).2.1;omega
    clear hr
    unfold runV
    go_wp2_with fail
    go_loopw [55] (zj0 O w p fs fb P (P.set f u)) (fun k _=>1-(intOf k).toNat)
    case atStart=>exact .inl ⟨rfl,HP.out.below hB3.out,Turn.of_below hB3.out⟩
    case round=>
     rcases hrel with⟨rfl,q1,q2⟩|⟨rfl,q1,q2⟩
     ·have S:=Lib.hid (set_walk _ O p fs fb P q1 f u f u rfl rfl hf)
      have Q2:=Lib.hid q2
      clear q1 q2
      go_wp2_with fail
      refine S.out.mono ?_
      rintro e w5 ⟨rfl,g1,g2⟩
      have G:=Lib.hid (And.intro g1 g2)
      clear g1 g2
      go_wp2_with fail
      go_roundw
      case rel=>exact .inr ⟨rfl,G.out.1,Q2.out.trans G.out.2⟩
      case measure=>simp[intOf]
     ·have Q:=Lib.hid (And.intro q1 q2)
      clear q1 q2
      go_wp2_with fail
      exact bodyPost_ret (v:=Yn (some f)) (by simp[results,Tryz.results43,go_sem,Yn]) rfl ⟨by rw[hnext.out],by rw[hnext.out];exact Q.out.1,Q.out.2,fun e=>by rw[hnext.out]at e;cases e⟩
   | none=>
    have hres:=Lib.hid hr
    clear hr
    unfold runV
    go_wp2_with fail
    go_roundw
    case rel=>exact⟨2,by omega,by go_num,hB3,d0,d1,fun _=>hN.out.1 (by omega),fun _=>hres.out⟩
    case measure=>simp[intOf]
  ·have hnext:Hid (P.next true=none):=by show _=_;unfold zk.next;rw[if_pos rfl,hN.out.1 (by omega)];exact hN.out.2 (by omega)
   go_wp2_with fail
   exact bodyPost_ret (v:=Yn none) (by simp[results,Tryz.results43,go_sem,Yn]) rfl ⟨by rw[hnext.out],by rw[hnext.out];exact HP.out.below hB.out,Turn.of_below hB.out,fun _=>hB.out⟩
theorem zdh(w:World)(O:Nat→Prop)(p fs fb:Nat)(P:zk)(h:zq w O p fs fb P)(ui:Int)(u:Nat)(eu:ui=u)(h2:2≤u)(h5:u≤5):
  Calls Tryz.prog 43 #[.pointer (some ⟨p,0,none⟩),.int .i64 ui,.int .i64 0,.bool false] w fun e w'=>e=.returned (Yn (P.next false))∧zq w' O p fs fb (P.took u (P.next false))∧Turn O w w'∧(P.next false=none→Below w.heap.size w w'):=by
 subst eu
 have i2:¬(u:Int)<2:=by omega
 have i5:¬(5:Int)<u:=by omega
 have HP:=Lib.hid h
 clear h
 go_enter Tryz.func43,Tryz.ntmps43
 go_wp2_with fail
 go_loopw [41] (fun i W=>∃j:Nat,j≤1∧i=.int .i64 j∧Hid (Below w.heap.size w W)∧W.cell? ⟨w.heap.size,1,none⟩=some (.int .i64 2)∧Hid (1≤j→P.run 2=none)) (fun i _=>1-(intOf i).toNat)
 case atStart=>exact⟨0,by omega,rfl,(Below.refl _ _).alloc (Nat.le_refl _) _,by go_simp,by show _→_;omega⟩
 case round=>
  obtain⟨j,hj,rfl,hB,c1,hN⟩:=hrel
  have hj':j=0∨j=1:=by omega
  clear hj
  rcases hj' with rfl|rfl
  ·go_wp2_with fail
   refine(prun_walk _ O p fs fb P (HP.out.below hB.out) _ 2 rfl).mono ?_
   rintro e w3 ⟨rfl,hb3⟩
   have hB3:=Lib.hid (hB.out.trans (hb3.mono hB.out.size))
   have d1:=(hb3.cell (World.block_lt_of_cell? _ _ c1)).trans c1
   clear hb3 c1
   cases hr:P.run 2 with
   | some f=>
    have hnext:Hid (P.next false=some f):=by show _=_;unfold zk.next;exact hr
    have hf:f<1024:=by have:=(q9 hr).2.1;omega
    clear hr
    unfold runV
    go_wp2_with fail
    go_loopw [55] (zj0 O w p fs fb P (P.set f u)) (fun k _=>1-(intOf k).toNat)
    case atStart=>exact .inl ⟨rfl,HP.out.below hB3.out,Turn.of_below hB3.out⟩
    case round=>
     rcases hrel with⟨rfl,q1,q2⟩|⟨rfl,q1,q2⟩
     ·have S:=Lib.hid (set_walk _ O p fs fb P q1 f u f u rfl rfl hf)
      have Q2:=Lib.hid q2
      clear q1 q2
      go_wp2_with fail
      refine S.out.mono ?_
      rintro e w5 ⟨rfl,g1,g2⟩
      have G:=Lib.hid (And.intro g1 g2)
      clear g1 g2
      go_wp2_with fail
      go_roundw
      case rel=>exact .inr ⟨rfl,G.out.1,Q2.out.trans G.out.2⟩
      case measure=>simp[intOf]
     ·have Q:=Lib.hid (And.intro q1 q2)
      clear q1 q2
      go_wp2_with fail
      exact bodyPost_ret (v:=Yn (some f)) (by simp[results,Tryz.results43,go_sem,Yn]) rfl ⟨by rw[hnext.out],by rw[hnext.out];exact Q.out.1,Q.out.2,fun e=>by rw[hnext.out]at e;cases e⟩
   | none=>
    have hres:=Lib.hid hr
    clear hr
    unfold runV
    go_wp2_with fail
    go_roundw
    case rel=>exact⟨1,by omega,by go_num,hB3,d1,fun _=>hres.out⟩
    case measure=>simp[intOf]
  ·have hnext:Hid (P.next false=none):=by show _=_;unfold zk.next;exact hN.out (by omega)
   go_wp2_with fail
   exact bodyPost_ret (v:=Yn none) (by simp[results,Tryz.results43,go_sem,Yn]) rfl ⟨by rw[hnext.out],by rw[hnext.out];exact HP.out.below hB.out,Turn.of_below hB.out,fun _=>hB.out⟩
theorem J7(w:World)(a:Option Addr)(m c:Nat)(ai ni:Int)(at_ n:Nat)(ea:ai=at_)(en:ni=n)(hn:n≤8)(h:at_+n≤m)(hm:m≤100000):
  Calls Tryz.prog 190 #[.slice a m c,.int .i64 ai,.int .i64 ni] w fun e w'=>e=.returned (.bool true)∧w'=w:=by
 subst ea;subst en
 have i1:(0:Int)≤n:=by omega
 have i2:(n:Int)≤8:=by omega
 have i3:(0:Int)≤at_:=by omega
 have i4:(at_:Int)≤m:=by omega
 have i5:(n:Int)≤(m:Int)-at_:=by omega
 have i6:at_≤m:=by omega
 have i8:(m:Int)≤100000:=by omega
 have i7:n≤m-at_:=by omega
 go_enter Tryz.func190,Tryz.ntmps190
 go_wp2_with fail
 go_ret
 exact⟨rfl,rfl⟩
theorem znw (x y j : Nat) (hx : x < 256 ^ j) (hy : y < 256) (hj : j < 8) : bits .or .u64 (x : Int) (IntKind.u64.wrap (IntKind.u64.wrap (y : Int) * 2 ^ (8 * j))) = ((x + y * 256 ^ j : Nat) : Int) := by
  have e256 : (256 : Nat) ^ j = 2 ^ (8 * j) := by rw [Nat.pow_mul]
  have hp : (2 : Nat) ^ (8 * j) * 256 ≤ 2 ^ 64 := by
    rw [show (256 : Nat) = 2 ^ 8 from rfl, ← Nat.pow_add]
    exact Nat.pow_le_pow_right (by decide) (by omega)
  have hyl : y * 2 ^ (8 * j) < 18446744073709551616 := by
    have h1 : y * 2 ^ (8 * j) + 2 ^ (8 * j) ≤ 2 ^ (8 * j) * 256 := by
      rw [← Nat.succ_mul, Nat.mul_comm]
      exact Nat.mul_le_mul_left _ hy
    have : 0 < (2 : Nat) ^ (8 * j) := Nat.pow_pos (by decide)
    omega
  have e1 : IntKind.u64.wrap (y : Int) = y := by rw [IntKind.wrap_u64]; omega
  have e2 : IntKind.u64.wrap ((y : Int) * 2 ^ (8 * j)) = ((y * 2 ^ (8 * j) : Nat) : Int) := by
    rw [show ((y : Int) * 2 ^ (8 * j)) = ((y * 2 ^ (8 * j) : Nat) : Int) by push_cast; rfl, IntKind.wrap_u64]
    omega
  rw [e1, e2, e256]
  rw [e256] at hx
  have hx2 : x < 18446744073709551616 := by
    have : (2 : Nat) ^ (8 * j) ≤ 2 ^ 64 := by have : 0 < (2 : Nat) ^ (8 * j) := Nat.pow_pos (by decide)
                                              omega
    omega
  rw [u64_or_nat _ _ hx2 hyl]
  congr 1
  have := Nat.shiftLeft_add_eq_or_of_lt hx y
  rw [Nat.shiftLeft_eq] at this
  rw [Nat.or_comm, ← this, Nat.add_comm]
theorem zga(l:List UInt8)(a j:Nat)(y:UInt8)(hy:l[a+j]?=some y):Z6 ((l.drop a).take (j+1))=Z6 ((l.drop a).take j)+y.toNat*256 ^ j∧Z6 ((l.drop a).take j)<256 ^ j:=by
 have hj:a+j<l.length:=(List.getElem?_eq_some_iff.1 hy).1
 have hl:((l.drop a).take j).length=j:=by simp;omega
 have e:(l.drop a).take (j+1)=(l.drop a).take j++[y]:=by
  rw[List.take_add_one,List.getElem?_drop,hy]
  rfl
 rw[e,zf9,hl]
 exact⟨rfl,by have:=zkw ((l.drop a).take j);rw[hl]at this;exact this⟩
def numV(v:Nat):Value:=.tuple #[.int .u64 v,.bool true]
theorem zmw(w:World)(v:Value)(l:List UInt8)(hv:Reads w v l)(at_:Nat)(ai ni:Int)(n:Nat)(ea:ai=at_)(en:ni=n)(hn:n≤8)(h:at_+n≤l.length)(hlen:l.length≤100000):
  Calls Tryz.prog 147 #[v,.int .i64 ai,.int .i64 ni] w fun e w'=>e=.returned (numV (Z6 ((l.drop at_).take n)))∧w'=w:=by
 obtain⟨a,c,b0,off,rfl,ha,hx⟩:=hv
 have T:=Lib.hid (J7 w a l.length c ai ni at_ n ea en hn h hlen)
 subst ea;subst en
 have HX:Hid (∀j u,(l.map bV)[j]?=some u→w.cell? ⟨b0,off+j,none⟩=some u):=hx
 have HL:Hid (at_+n≤l.length):=h
 have HA:=Lib.hid ha
 obtain⟨m,hm⟩:∃m,l.length=m:=⟨_,rfl⟩
 have HM:=Lib.hid hm
 rw[hm]at h hlen T⊢
 clear hx ha hm
 have i0:at_≤100000:=by omega
 have i1:(at_:Int)≤100000:=by omega
 have i2:(0:Int)≤at_:=by omega
 go_enter Tryz.func147,Tryz.ntmps147
 go_wp2_with fail
 refine T.out.mono ?_
 rintro e w1 ⟨rfl,rfl⟩
 go_wp2_with fail
 go_loop [8,16] (fun x k=>∃j:Nat,j≤n∧k=.int .i64 j∧x=.int .u64 (Z6 ((l.drop at_).take j))) (fun _ k=>n-(intOf k).toNat)
 case atStart=>exact⟨0,by omega,rfl,rfl⟩
 case round=>
  obtain⟨j,hj,rfl,rfl⟩:=hrel
  by_cases hlt:j<n
  ·have h1:(j:Int)<n:=by omega
   have h2:(j:Int)≤8:=by omega
   have h3:(0:Int)≤j:=by omega
   have hml:at_+j<l.length:=by rw[HM.out];omega
   obtain⟨y,hy⟩:∃y,l[at_+j]?=some y:=⟨_,List.getElem?_eq_getElem hml⟩
   have hc:w1.cell? ⟨b0,off+(at_+j),none⟩=some (.int .u8 y.toNat):=HX.out (at_+j) _ (by simp[hy,bV])
   have h4:(at_:Int)+j<m:=by omega
   have h5:(0:Int)≤(at_:Int)+j:=by omega
   have ha:a=some ⟨b0,off,none⟩:=HA.out (by rw[HM.out];omega)
   subst ha
   have hst:=zga l at_ j y hy
   have hres:Hid (bits .or .u64 (Z6 ((l.drop at_).take j):Int) (IntKind.u64.wrap (IntKind.u64.wrap (y.toNat:Int)*2 ^ (8*j)))=(Z6 ((l.drop at_).take (j+1)):Int)):=by
    show _=_
    rw[znw _ _ j hst.2 y.toNat_lt (by omega),hst.1]
   clear hst hy
   go_wp2_with fail
   exact⟨⟨j+1,by omega,by go_num,by rw[hres.out]⟩,by simp[intOf];omega⟩
  ·obtain rfl:j=n:=by omega
   go_wp2_with fail
   exact bodyPost_ret (v:=numV (Z6 ((l.drop at_).take j))) (by simp[results,Tryz.results147,go_sem,numV]) rfl ⟨rfl,rfl⟩
def putB(g:Nat→UInt8)(at_ v n i:Nat):UInt8:=if at_≤i∧i<at_+n then UInt8.ofNat (v/256 ^ (i-at_)%256)else g i
theorem zmj(w:World)(b m c:Nat)(g:Nat→UInt8)(hr:Row w b m (fun i=>bV (g i)))(at_ v:Nat)(ai vi ni:Int)(n:Nat)(ea:ai=at_)(ev:vi=v)(en:ni=n)(hn:n≤8)(h:at_+n≤m)(hm:m≤100000)(hv:v<18446744073709551616):
  Calls Tryz.prog 220 #[.slice (some ⟨b,0,none⟩) m c,.int .i64 ai,.int .u64 vi,.int .i64 ni] w fun e w'=>e=.returned (.bool true)∧Row w' b m (fun i=>bV (putB g at_ v n i))∧Turn (fun k=>k=b) w w'∧w'.heap.size=w.heap.size:=by
 have T:=Lib.hid (J7 w (some ⟨b,0,none⟩) m c ai ni at_ n ea en hn h hm)
 subst ea;subst en;subst ev
 have i1:(at_:Int)≤100000:=by omega
 have i2:(0:Int)≤at_:=by omega
 have i3:(0:Int)≤v:=by omega
 have R:=Lib.hid hr
 clear hr
 have e0:(fun i=>bV (putB g at_ v 0 i))=fun i=>bV (g i):=by
  funext i;unfold putB;rw[if_neg (by omega)]
 have E0:=Lib.hid e0
 clear e0
 go_enter Tryz.func220,Tryz.ntmps220
 go_wp2_with fail
 refine T.out.mono ?_
 rintro e w1 ⟨rfl,rfl⟩
 go_wp2_with fail
 go_loopw [16] (fun k W=>∃j:Nat,j≤n∧k=.int .i64 j∧Hid (Row W b m (fun i=>bV (putB g at_ v j i)))∧Hid (Turn (fun k=>k=b) w1 W∧W.heap.size=w1.heap.size)) (fun k _=>n-(intOf k).toNat)
 case atStart=>exact⟨0,by omega,rfl,by show Row _ _ _ _;rw[E0.out];exact R.out,Turn.refl _ _,rfl⟩
 case round=>
  obtain⟨j,hj,rfl,hR,hT⟩:=hrel
  by_cases hlt:j<n
  ·have h1:(j:Int)<n:=by omega
   have h2:(j:Int)≤8:=by omega
   have h3:(0:Int)≤j:=by omega
   have h4:(at_:Int)+j<m:=by omega
   have h5:(0:Int)≤(at_:Int)+j:=by omega
   have hc:=hR.out.cell (i:=at_+j) (by omega)
   have hfr:=hR.out.frozen (at_+j)
   go_wp2_with fail
   refine⟨⟨j+1,by omega,by go_num,(hR.out.set (i:=at_+j) (by omega) _).congr fun i hi=>?_,hT.out.1.set (.inl rfl) _,by simp[World.setCell,hT.out.2]⟩,by simp[intOf];omega⟩
   by_cases e:i=at_+j
   ·subst e
    rw[if_pos rfl]
    unfold putB bV
    rw[if_pos ⟨by omega,by omega⟩,Nat.add_sub_cancel_left]
    have e1:(UInt8.ofNat (v/256 ^ j%256)).toNat=v/256 ^ j%256:=by simp
    rw[e1,show(256:Nat) ^ j=2 ^ (8*j)by rw[Nat.pow_mul]]
    push_cast
    rfl
   ·rw[if_neg e]
    unfold putB
    by_cases e2:at_≤i∧i<at_+j
    ·rw[if_pos e2,if_pos ⟨e2.1,by omega⟩]
    ·rw[if_neg e2,if_neg (by omega)]
  ·obtain rfl:j=n:=by omega
   go_wp2_with fail
   go_ret
   exact⟨rfl,hR.out,hT.out⟩
def entV(e:Ent):Value:=.agg #[.int .i64 e.kind,.int .i64 e.n,.bool e.write]
theorem Xk(w:World)(k:Int)(m:Int)(hm:k=0∧m=1∨k=1∧m=1024∨k=2∧m=32∨k=3∧m=1):Calls Tryz.prog 191 #[.int .i64 k] w fun e w'=>e=.returned (.int .i64 m)∧w'=w:=by
 rcases hm with⟨rfl,rfl⟩|⟨rfl,rfl⟩|⟨rfl,rfl⟩|⟨rfl,rfl⟩
 all_goals
  go_enter Tryz.func191,Tryz.ntmps191
  go_wp2_with fail
  go_ret
  exact⟨rfl,rfl⟩
theorem Ent.cases{e:Ent}(h:e.ok=true):e=⟨0,0,false⟩∨(∃(n:Nat) (b:Bool),n<1024∧e=⟨1,n,b⟩)∨(∃n:Nat,n<32∧e=⟨2,n,false⟩)∨e=⟨3,0,false⟩:=by
 obtain⟨k,n,b⟩:=e
 simp only[Ent.ok,most,Bool.and_eq_true,decide_eq_true_eq,Bool.or_eq_true,Bool.not_eq_true',beq_iff_eq]at h
 obtain⟨⟨h1,h2,h3⟩,h4⟩:=h
 obtain⟨n,rfl⟩:=Int.eq_ofNat_of_zero_le h2
 have:k=0∨k=1∨k=2∨k=3:=by omega
 rcases this with rfl|rfl|rfl|rfl
 ·left;simp at h3 h4;simp[h4];omega
 ·right;left;simp at h3;exact⟨n,b,by omega,rfl⟩
 ·right;right;left;simp at h3 h4;exact⟨n,by omega,by simp[h4]⟩
 ·right;right;right;simp at h3 h4;simp[h4];omega
theorem zdb(w:World)(e:Ent)(h:e.ok=true):Calls Tryz.prog 148 #[entV e] w fun r w'=>r=.returned (.tuple #[.int .u64 e.num,.int .i64 0])∧Below w.heap.size w w':=by
 have hb:∀n,Below w.heap.size w ((w.alloc (.cells #[.int .i64 e.kind,.int .i64 e.n,.bool e.write] 70 (0,0))).drewN n):=fun n=>below_drewN' ((Below.refl _ _).alloc (Nat.le_refl _) _) n
 have HB:=Lib.hid hb
 clear hb
 rcases Ent.cases h with rfl|⟨n,b,hn,rfl⟩|⟨n,hn,rfl⟩|rfl
 ·clear h
  go_enter Tryz.func148,Tryz.ntmps148
  unfold entV
  go_wp2_with fail
  go_quiet ((go_at_call 191;exact Calls.quiet_of_same (Xk _ 0 1 (by omega))))
  go_wp2_with fail
  exact bodyPost_ret (v:=.tuple #[.int .u64 0,.int .i64 0]) (by simp[results,Tryz.results148,go_sem]) rfl ⟨rfl,HB.out _⟩
 ·clear h
  have i1:(n:Int)<1024:=by omega
  have i2:(0:Int)≤n:=by omega
  have i3:decide ((n:Int)<0)=false:=by simp
  have i4:decide ((1024:Int)≤n)=false:=by simp;omega
  have hW2:Hid (bits .or .u64 (1+4*(n:Int)) 1099511627776=((1+4*n+2 ^ 40:Nat):Int)):=by
   show _=_
   have e1:bits .or .u64 ((1+4*n:Nat):Int) ((1099511627776:Nat):Int)=((1+4*n ||| 1099511627776:Nat):Int):=u64_or_nat _ _ (by omega) (by omega)
   have e2:=Nat.shiftLeft_add_eq_or_of_lt (show 1+4*n<2 ^ 40 by omega) 1
   rw[Nat.shiftLeft_eq]at e2
   have e0:(1+4*(n:Int))=((1+4*n:Nat):Int):=by omega
   rw[e0]
   refine e1.trans ?_
   rw[Nat.or_comm]
   have e4:(1*2 ^ 40:Nat)=1099511627776:=by decide
   rw[e4]at e2
   rw[←e2]
   congr 1
   omega
  cases b
  ·go_enter Tryz.func148,Tryz.ntmps148
   unfold entV
   go_wp2_with fail
   go_quiet ((go_at_call 191;exact Calls.quiet_of_same (Xk _ 1 1024 (by omega))))
   go_wp2_with fail
   exact bodyPost_ret (v:=.tuple #[.int .u64 (1+4*n),.int .i64 0]) (by simp[results,Tryz.results148,go_sem]) rfl ⟨by unfold Ent.num;simp,HB.out _⟩
  ·go_enter Tryz.func148,Tryz.ntmps148
   unfold entV
   go_wp2_with fail
   go_quiet ((go_at_call 191;exact Calls.quiet_of_same (Xk _ 1 1024 (by omega))))
   go_wp2_with fail
   rw[hW2.out]
   exact bodyPost_ret (v:=.tuple #[.int .u64 ((1+4*n+2 ^ 40:Nat):Int),.int .i64 0]) (by simp[results,Tryz.results148,go_sem]) rfl ⟨by unfold Ent.num;simp,HB.out _⟩
 ·clear h
  have i1:(n:Int)<32:=by omega
  have i2:(0:Int)≤n:=by omega
  have i3:decide ((n:Int)<0)=false:=by simp
  have i4:decide ((32:Int)≤n)=false:=by simp;omega
  go_enter Tryz.func148,Tryz.ntmps148
  unfold entV
  go_wp2_with fail
  go_quiet ((go_at_call 191;exact Calls.quiet_of_same (Xk _ 2 32 (by omega))))
  go_wp2_with fail
  exact bodyPost_ret (v:=.tuple #[.int .u64 (2+4*n),.int .i64 0]) (by simp[results,Tryz.results148,go_sem]) rfl ⟨by unfold Ent.num;simp,HB.out _⟩
 ·clear h
  go_enter Tryz.func148,Tryz.ntmps148
  unfold entV
  go_wp2_with fail
  go_quiet ((go_at_call 191;exact Calls.quiet_of_same (Xk _ 3 1 (by omega))))
  go_wp2_with fail
  exact bodyPost_ret (v:=.tuple #[.int .u64 3,.int .i64 0]) (by simp[results,Tryz.results148,go_sem]) rfl ⟨rfl,HB.out _⟩
theorem zj9(w:World)(e:Ent)(h:e.ok=true)(v:Int)(hv:v=e.num):Calls Tryz.prog 95 #[.int .u64 v] w fun r w'=>r=.returned (.tuple #[entV e,.int .i64 0])∧Below w.heap.size w w':=by
 subst hv
 have E:=Lib.hid (fun W=>zdb W e h)
 have hlt:=Ent.zca h
 have h0:(0:Int)≤e.num:=by omega
 obtain⟨m,hm⟩:∃m,m=e.kind+4*e.n.toNat:=⟨_,rfl⟩
 have hnum:e.num=m+if e.write then 2 ^ 40 else 0:=by rw[hm];rfl
 have hm4:m<4096:=by omega
 have hk:e.kind≤3∧0≤e.n:=by
  simp only[Ent.ok,Bool.and_eq_true,decide_eq_true_eq]at h
  omega
 have k1:((m:Int)%4)=e.kind:=by omega
 have k2:((m:Int)/4)=e.n:=by omega
 have hn:bits .andNot .u64 (e.num:Int) 1099511627776=(m:Int):=by
  have h1:bits .andNot .u64 (e.num:Int) ((1099511627776:Nat):Int)=((e.num &&& (18446744073709551615-1099511627776):Nat):Int):=u64_andNot_nat _ _ (by omega) (by omega)
  refine h1.trans ?_
  congr 1
  refine Nat.eq_of_testBit_eq fun i=>?_
  rw[Nat.testBit_and,hnum]
  have hbits:(18446744073709551615-1099511627776:Nat).testBit i=(decide (i<64) && !decide (i=40)):=by
   have:(18446744073709551615-1099511627776:Nat)=(2 ^ 64-1) ^^^ 2 ^ 40:=by decide
   rw[this,Nat.testBit_xor,Nat.testBit_two_pow_sub_one,Nat.testBit_two_pow]
   by_cases e1:i=40
   ·subst e1;decide
   ·simp[e1,Ne.symm e1]
  rw[hbits]
  have hmi:12≤i→m.testBit i=false:=fun h=>Nat.testBit_lt_two_pow (Nat.lt_of_lt_of_le hm4 (by rw[show 4096=2 ^ 12 from rfl];exact Nat.pow_le_pow_right (by decide) h))
  have hadd:(m+if e.write=true then 2 ^ 40 else 0).testBit i=(m.testBit i || (e.write&&decide (i=40))):=by
   cases e.write
   ·simp
   ·simp only[if_true]
    rw[Nat.add_comm,show(2 ^ 40+m)=2 ^ 40 ||| m by
     have:=Nat.shiftLeft_add_eq_or_of_lt (show m<2 ^ 40 by omega) 1
     rw[Nat.shiftLeft_eq,Nat.one_mul]at this
     exact this,Nat.testBit_or,Nat.testBit_two_pow,Bool.or_comm]
    simp[eq_comm]
  rw[hadd]
  by_cases h12:12≤i
  ·rw[hmi h12]
   by_cases e1:i=40
   ·simp[e1]
   ·simp[e1]
  ·have e1:i≠40:=by omega
   have e2:i<64:=by omega
   simp[e1,e2]
 have hw:(bits .and .u64 (e.num:Int) 1099511627776 != 0)=e.write:=by
  have h1:bits .and .u64 (e.num:Int) ((1099511627776:Nat):Int)=((e.num &&& 1099511627776:Nat):Int):=u64_and_nat _ _ (by omega) (by omega)
  have h2:bits .and .u64 (e.num:Int) 1099511627776=((e.num &&& 1099511627776:Nat):Int):=h1
  rw[h2]
  have h3:e.num &&& 1099511627776=if e.write then 2 ^ 40 else 0:=by
   have:=zab m hm4 e.write
   rw[←hnum]at this
   refine Nat.eq_of_testBit_eq fun i=>?_
   rw[Nat.testBit_and,show(1099511627776:Nat)=2 ^ 40 from rfl,Nat.testBit_two_pow]
   by_cases e1:40=i
   ·subst e1
    rw[this]
    cases e.write
    ·rfl
    ·rw[if_pos rfl,Nat.testBit_two_pow];rfl
   ·rw[decide_eq_false e1,Bool.and_false]
    cases e.write
    ·rw[if_neg (by decide)];simp
    ·rw[if_pos rfl,Nat.testBit_two_pow,decide_eq_false e1]
  rw[h3]
  cases e.write<;>rfl
 clear hlt hnum hm
 have K1:=Lib.hid k1
 have K2:=Lib.hid k2
 have i1:(0:Int)≤m:=by omega
 have i2:(m:Int)<4096:=by omega
 have i3:(0:Int)≤(m:Int)%4:=by omega
 have i4:(0:Int)≤(m:Int)/4:=by omega
 have i5:(m:Int)/4<4096:=by omega
 have i6:(m:Int)%4<4:=by omega
 clear k1 k2 h hm4 hk
 generalize e.num=v at *
 go_enter Tryz.func95,Tryz.ntmps95
 go_wp2_with fail
 rw[K1.out,K2.out]
 refine(E.out _).mono ?_
 rintro r w3 ⟨rfl,hb⟩
 have c0:w3.cell? ⟨w.heap.size+1,0,none⟩=some (.int .i64 e.kind):=(hb.cell (p:=⟨w.heap.size+1,0,none⟩) (by simp)).trans (by go_simp)
 have c1:w3.cell? ⟨w.heap.size+1,1,none⟩=some (.int .i64 e.n):=(hb.cell (p:=⟨w.heap.size+1,1,none⟩) (by simp)).trans (by go_simp)
 have c2:w3.cell? ⟨w.heap.size+1,2,none⟩=some (.bool e.write):=(hb.cell (p:=⟨w.heap.size+1,2,none⟩) (by simp)).trans (by go_simp)
 have d0:w3.cell? ⟨w.heap.size,0,none⟩=some (.int .i64 0):=(hb.cell (p:=⟨w.heap.size,0,none⟩) (by simp;omega)).trans (by go_simp)
 have d1:w3.cell? ⟨w.heap.size,1,none⟩=some (.int .i64 0):=(hb.cell (p:=⟨w.heap.size,1,none⟩) (by simp;omega)).trans (by go_simp)
 have d2:w3.cell? ⟨w.heap.size,2,none⟩=some (.bool false):=(hb.cell (p:=⟨w.heap.size,2,none⟩) (by simp;omega)).trans (by go_simp)
 have f0:w3.frozen? ⟨w.heap.size,0,none⟩=false:=(hb.frozen (p:=⟨w.heap.size,0,none⟩) (by simp;omega)).trans (by go_simp)
 have f1:w3.frozen? ⟨w.heap.size,1,none⟩=false:=(hb.frozen (p:=⟨w.heap.size,1,none⟩) (by simp;omega)).trans (by go_simp)
 have f2:w3.frozen? ⟨w.heap.size,2,none⟩=false:=(hb.frozen (p:=⟨w.heap.size,2,none⟩) (by simp;omega)).trans (by go_simp)
 have hB:Below w.heap.size w w3:=(((Below.refl w.heap.size w).alloc (Nat.le_refl _) _).alloc (by simp) _).trans (hb.mono (by simp;omega))
 have HB:=Lib.hid hB
 clear hb hB
 go_wp2_with fail
 exact bodyPost_ret (v:=.tuple #[.agg #[.int .i64 e.kind,.int .i64 e.n,.bool e.write],.int .i64 0]) (by simp[results,Tryz.results95,go_sem,d0,d1,d2,f0,f1,f2]) rfl ⟨rfl,((HB.out.setCell (Nat.le_refl _) _).setCell (Nat.le_refl _) _).setCell (Nat.le_refl _) _⟩
structure Step(C:Nat→Prop)(tag:Nat→Nat)(w:World)(tag':Nat→Nat)(w':World):Prop where
 same:∀b,b<w.heap.size→tag' b=tag b
 turn:Turn (fun b=>C (tag b)) w w'
section
variable {C C':Nat→Prop}{tag tag' tag2:Nat→Nat}{w w' w2:World}
theorem Step.refl(C:Nat→Prop)(tag:Nat→Nat)(w:World):Step C tag w tag w:=⟨fun _ _=>rfl,Turn.refl _ _⟩
theorem Step.trans(h:Step C tag w tag' w')(k:Step C tag' w' tag2 w2):Step C tag w tag2 w2:=by
 refine⟨fun b hb=>(k.same b (Nat.lt_of_lt_of_le hb h.turn.size)).trans (h.same b hb),?_⟩
 refine⟨k.turn.os.trans h.turn.os,k.turn.tape.trans h.turn.tape,k.turn.output.trans h.turn.output,Nat.le_trans h.turn.size k.turn.size,fun i hi hn=>?_⟩
 refine(k.turn.block i (Nat.lt_of_lt_of_le hi h.turn.size) ?_).trans (h.turn.block i hi hn)
 rw[h.same i hi]
 exact hn
theorem Step.mono(h:Step C tag w tag' w')(hc:∀c,C c→C' c):Step C' tag w tag' w':=⟨h.same,h.turn.mono fun k _ hk=>hc _ hk⟩
theorem Step.of_below(h:Below w.heap.size w w'):Step C tag w tag w':=⟨fun _ _=>rfl,Turn.of_below h⟩
theorem Step.Yy{c:Nat}(h:Turn (fun b=>tag b=c) w w')(hc:C c):Step C tag w tag w':=⟨fun _ _=>rfl,h.mono fun k _ e=>by rw[e];exact hc⟩
theorem Step.keeps(h:Step C tag w tag' w'){c:Nat}(hc:¬C c):∀k,k<w.heap.size→tag k=c→tag' k=c∧w'.heap[k]?=w.heap[k]?:=
 fun k hk e=>⟨(h.same k hk).trans e,h.turn.block k hk (by rw[e];exact hc)⟩
end
def retag(tag:Nat→Nat)(w:World)(c:Nat):Nat→Nat:=fun b=>if b<w.heap.size then tag b else c
theorem Step.retag{C:Nat→Prop}{tag:Nat→Nat}{w w':World}{c:Nat}(h:Turn (fun b=>tag b=c) w w')(hc:C c):Step C tag w (retag tag w c) w':=
 ⟨fun b hb=>if_pos hb,h.mono fun k _ e=>by rw[e];exact hc⟩
theorem zf1{tag:Nat→Nat}{w:World}{c b:Nat}(h:grow (fun b=>tag b=c) w b):Go.Proofs.YtnhdmnijiphjjaaGreat.retag tag w c b=c:=by
 unfold Go.Proofs.YtnhdmnijiphjjaaGreat.retag
 split
 ·rcases h with h|h
  ·exact h
  ·omega
 ·rfl
def nV(n:Nat):Value:=.int .i64 n
def zep(rp pp root:Nat)(sv:Value):Nat→Value
 | 0=>.pointer (some ⟨rp,0,none⟩)
 | 1=>.pointer (some ⟨pp,0,none⟩)
 | 2=>.int .i64 root
 | _=>sv
def Yw(w:World)(O:Nat→Prop)(t rp pp:Nat)(T:Z7):Prop:=
 ∃sv,O t∧Row w t 4 (zep rp pp T.root sv)∧SlAt w 3 1 sv T.own.length (T.own.map nV)∧∀b,sv.ownBlock=some b→O b∧b≠t
theorem Yw.loc{w w':World}{O O':Nat→Prop}{t rp pp:Nat}{T:Z7}(h:Yw w O t rp pp T)(hk:∀k,k<w.heap.size→O k→O' k∧w'.heap[k]?=w.heap[k]?):Yw w' O' t rp pp T:=by
 obtain⟨sv,h1,h2,h3,h4⟩:=h
 exact⟨sv,(hk t h2.lt h1).1,h2.keep (hk t h2.lt h1).2,h3.keep fun b hb=>(hk b (h3.lt b hb) (h4 b hb).1).2,fun b hb=>⟨(hk b (h3.lt b hb) (h4 b hb).1).1,(h4 b hb).2⟩⟩
structure Rq where
 rp:Nat
 rb:Nat
 pp:Nat
 fs:Nat
 fb:Nat
 t:Nat
 ct:Nat
structure xh(w:World)(tag:Nat→Nat)(q:Rq)(x:RPT):Prop where
 ram:qi w (fun b=>tag b=1) q.rp q.rb x.R
 pool:zq w (fun b=>tag b=2) q.pp q.fs q.fb x.P
 tree:Yw w (fun b=>tag b=q.ct) q.t q.rp q.pp x.T
 ct:10≤q.ct
section
variable {w w':World}{tag tag':Nat→Nat}{q:Rq}{x:RPT}
theorem xh.step{C:Nat→Prop}(h:xh w tag q x)(s:Step C tag w tag' w')(h1:¬C 1)(h2:¬C 2)(h3:¬C q.ct):xh w' tag' q x:=
 ⟨h.ram.loc (s.keeps h1),h.pool.loc (s.keeps h2),h.tree.loc (s.keeps h3),h.ct⟩
theorem xh.below(h:xh w tag q x)(hb:Below w.heap.size w w'):xh w' tag q x:=h.step (C:=fun _=>False) (Step.of_below hb) (fun h=>h) (fun h=>h) (fun h=>h)
theorem xh.ptr0(h:xh w tag q x):w.cell? ⟨q.t,0,none⟩=some (.pointer (some ⟨q.rp,0,none⟩)):=by
 obtain⟨sv,_,h2,_⟩:=h.tree
 exact h2.cell (by omega)
theorem xh.ptr1(h:xh w tag q x):w.cell? ⟨q.t,1,none⟩=some (.pointer (some ⟨q.pp,0,none⟩)):=by
 obtain⟨sv,_,h2,_⟩:=h.tree
 exact h2.cell (by omega)
theorem xh.ptr2(h:xh w tag q x):w.cell? ⟨q.t,2,none⟩=some (.int .i64 x.T.root):=by
 obtain⟨sv,_,h2,_⟩:=h.tree
 exact h2.cell (by omega)
theorem xh.ramTo(h:xh w tag q x){R':RamS}(hr:qi w' (fun b=>tag b=1) q.rp q.rb R')(t:Turn (fun b=>tag b=1) w w'):xh w' tag q ⟨R',x.P,x.T⟩∧Step (fun c=>c=1) tag w tag w':=by
 have s:Step (fun c=>c=1) tag w tag w':=Step.Yy t rfl
 exact⟨⟨hr,h.pool.loc (s.keeps (by decide)),h.tree.loc (s.keeps (by have:=h.ct;omega)),h.ct⟩,s⟩
theorem xh.zna(h:xh w tag q x){P':zk}(hr:zq w' (fun b=>tag b=2) q.pp q.fs q.fb P')(t:Turn (fun b=>tag b=2) w w'):xh w' tag q ⟨x.R,P',x.T⟩∧Step (fun c=>c=2) tag w tag w':=by
 have s:Step (fun c=>c=2) tag w tag w':=Step.Yy t rfl
 exact⟨⟨h.ram.loc (s.keeps (by decide)),hr,h.tree.loc (s.keeps (by have:=h.ct;omega)),h.ct⟩,s⟩
end
section
variable (w:World)(tag:Nat→Nat)(q:Rq)(x:RPT)
theorem Qj(h:xh w tag q x)(fi di:Int)(f d:Nat)(ef:fi=f)(ed:di=d)(hf:f<1024)(hb:x.R.bad f=false)(hd:d<8):
  Calls Tryz.prog 93 #[.pointer (some ⟨q.t,0,none⟩),.int .i64 fi,.int .i64 di] w fun e w'=>e=.returned (.tuple #[.int .u64 (wordAt x.R f d),.int .i64 0])∧Below w.heap.size w w':=by
 subst ef;subst ed
 have hp:=h.ptr0
 have A:=Lib.hid (Jk w _ _ _ _ h.ram f ((d:Int)*8) 8 f (8*d) 8 rfl (by omega) rfl hf (by omega) (by omega) hb)
 have i1:(0:Int)≤d:=by omega
 have i2:(d:Int)<8:=by omega
 clear h hb
 go_enter Tryz.func93,Tryz.ntmps93
 go_wp2_with fail
 refine A.out.mono ?_
 rintro e w1 ⟨v,rfl,h1,h2,-⟩
 have hl:(x.R.read f (8*d) 8).length=8:=by simp[RamS.read]
 have G:=Lib.hid (zmw w1 v _ h1.reads 0 0 8 8 rfl rfl (by omega) (by omega) (by omega))
 have H2:=Lib.hid h2
 have hn:Hid (Z6 (((x.R.read f (8*d) 8).drop 0).take 8)=wordAt x.R f d):=by
  show _=_
  unfold wordAt
  rw[List.drop_zero,List.take_of_length_le (by omega)]
 clear h1 h2 hl
 go_wp2_with fail
 refine G.out.mono ?_
 rw[hn.out]
 rintro e w2 ⟨rfl,rfl⟩
 unfold numV
 go_wp2_with fail
 exact bodyPost_ret (v:=.tuple #[.int .u64 (wordAt x.R f d),.int .i64 0]) (by simp[results,Tryz.results93,go_sem]) rfl ⟨rfl,H2.out⟩
theorem Vs(h:xh w tag q x)(fi di vi:Int)(f d v:Nat)(ef:fi=f)(ed:di=d)(ev:vi=v)(hf:f<1024)(hb:x.R.bad f=false)(hd:d<8)(hv:v<18446744073709551616):
  Calls Tryz.prog 184 #[.pointer (some ⟨q.t,0,none⟩),.int .i64 fi,.int .i64 di,.int .u64 vi] w fun e w'=>e=.returned (.tuple #[])∧xh w' tag q ⟨x.R.write f (8*d) (leBytes v 8),x.P,x.T⟩∧Step (fun c=>c=1) tag w tag w':=by
 subst ef;subst ed;subst ev
 have hp:=h.ptr0
 have hpl:=World.block_lt_of_cell? _ _ hp
 have H:=Lib.hid h
 have i1:(0:Int)≤d:=by omega
 have i2:(d:Int)<8:=by omega
 obtain⟨Z,hZ⟩:∃Z,madeCells #[.int .u8 0] 8=Z:=⟨_,rfl⟩
 have mk:∀w,(Instr.makeSlice 22 (.int .i64 8) (.int .i64 8)).run Tryz.prog w=.ok (.slice (some ⟨w.heap.size,0,none⟩) 8 8) (w.alloc (.cells Z 5)):=fun w=>by
  have:=zdz 8 (by omega) w
  rw[hZ]at this
  exact this
 have HZ:Hid (Z.size=8∧∀i,i<8→Z[i]?=some (bV 0)):=by
  subst hZ
  exact⟨size_madeCells _ _,fun i hi=>zdi _ _ hi⟩
 clear hZ h
 go_enter Tryz.func184,Tryz.ntmps184
 go_wp2_with fail
 have R1:=Row.new w 8 (fun i=>bV ((fun _=>(0:UInt8)) i)) Z 5 HZ.out.1 HZ.out.2
 refine(zmj _ w.heap.size 8 8 (fun _=>0) R1 0 v 0 v 8 8 rfl rfl rfl (by omega) (by omega) (by omega) hv).mono ?_
 rintro e w1 ⟨rfl,r1,t1,z1⟩
 have hb1:Below w.heap.size w w1:=((Below.refl _ _).alloc (Nat.le_refl _) _).trans (t1.Xv (B:=w.heap.size) (fun i hi=>by omega) (by simp))
 have hp1:=(hb1.cell (p:=⟨q.t,0,none⟩) hpl).trans hp
 have hrd:Reads w1 (.slice (some ⟨w.heap.size,0,none⟩) 8 8) (leBytes v 8):=by
  refine⟨some ⟨w.heap.size,0,none⟩,8,w.heap.size,0,by rw[qj],fun _=>rfl,fun j u hu=>?_⟩
  have hj:j<8:=by have:=(List.getElem?_eq_some_iff.1 hu).1;simpa[qj]using this
  rw[Nat.zero_add,r1.cell hj,←hu,List.getElem?_map,leBytes_getElem? v 8 j hj]
  unfold putB
  rw[if_pos ⟨by omega,by omega⟩]
  rfl
 have A:=Lib.hid (Va w1 _ _ _ _ (H.out.below hb1).ram _ _ hrd f ((d:Int)*8) f (8*d) rfl (by omega) hf (by rw[qj];omega) (by rw[qj];omega) hb)
 have HB:=Lib.hid hb1
 clear r1 t1 z1 hb1 hrd R1
 go_wp2_with fail
 refine A.out.mono ?_
 rintro e w2 ⟨rfl,h2,h3,-⟩
 have K:=(H.out.below HB.out).ramTo h2 h3
 have KK:=Lib.hid (And.intro K.1 ((Step.of_below HB.out).trans K.2))
 clear h2 h3 K
 go_wp2_with fail
 exact bodyPost_end (v:=.tuple #[]) (by simp[results,Tryz.results184,go_sem]) rfl ⟨rfl,KK.out⟩
end
end Go.Proofs.YtnhdmnijiphjjaaGreat
