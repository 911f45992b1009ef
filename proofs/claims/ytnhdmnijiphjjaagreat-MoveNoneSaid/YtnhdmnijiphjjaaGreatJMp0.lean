/- What the rows of a seat ask of the whole program: closed facts, each for itself. -/
import Derived.Test.YtnhdmnijiphjjaaGreatRows
import Derived.ProofKit
import Derived.WalkKit
import Derived.Lib.Hide
import Derived.Deep.QuietTactic
import Derived.Test.YtnhdmnijiphjjaaGreatProg
import Derived.BigQuiet
set_option linter.unusedVariables false
set_option linter.unusedSimpArgs false
set_option maxRecDepth 100000
set_option maxHeartbeats 2000000
namespace Go.Proofs.YtnhdmnijiphjjaaGreat
open Go
theorem zfh:laidOutB Tryz.pinned.checked.prog=true:=by kernel_rfl
theorem zd9:mapsRowed Tryz.pinned.checked.prog=true:=by kernel_rfl
theorem zd8:(Tryz.pinned.checked.prog.stops==[])=true:=by kernel_rfl
theorem zea:(Tryz.pinned.checked.prog.stopKnobs==[])=true:=by kernel_rfl
theorem zeb:Tryz.pinned.checked.prog.stopsHeard=true:=by kernel_rfl
theorem zec:Tryz.pinned.checked.prog.mayEnter=true:=by kernel_rfl
theorem andT{a b:Bool}(h:a=true)(k:b=true):(a&&b)=true:=by rw[h,k];rfl
end Go.Proofs.YtnhdmnijiphjjaaGreat
namespace Go.Proofs.YtnhdmnijiphjjaaGreat
open Go Go.RowKit
def SlAt(w:World)(e:TypeId)(k:Nat)(v:Value)(n:Nat)(xs:List Value):Prop:=
 xs.length=n*k∧(v=.slice none 0 0∧n=0∨∃b off c arr,v=.slice (some ⟨b,off,none⟩) n c∧w.heap[b]?=some (.cells arr e (0,0))∧n≤c∧c≤maxLen∧off+c*k≤arr.size∧
  ∀j u,xs[j]?=some u→arr[off+j]?=some u)
theorem add_plain(b off j:Nat):(⟨b,off,none⟩:Addr).add j=⟨b,off+j,none⟩:=by unfold Addr.add;split<;>simp_all
section
variable {w w':World}{e:TypeId}{k:Nat}{v:Value}{n:Nat}{xs:List Value}
theorem SlAt.nil(w:World)(e:TypeId)(k:Nat):SlAt w e k (.slice none 0 0) 0 []:=⟨by simp,.inl ⟨rfl,rfl⟩⟩
theorem SlAt.lt(h:SlAt w e k v n xs):∀b,v.ownBlock=some b→b<w.heap.size:=by
 intro b hb
 rcases h.2 with⟨rfl,_⟩|⟨g,off,c,arr,rfl,hg,_⟩
 ·simp[Value.ownBlock]at hb
 ·simp[Value.ownBlock]at hb
  subst hb
  exact(Array.getElem?_eq_some_iff.1 hg).1
theorem SlAt.keep(h:SlAt w e k v n xs)(hb:∀b,v.ownBlock=some b→w'.heap[b]?=w.heap[b]?):SlAt w' e k v n xs:=by
 refine⟨h.1,?_⟩
 rcases h.2 with h0|⟨g,off,c,arr,rfl,hg,rest⟩
 ·exact .inl h0
 ·exact .inr ⟨g,off,c,arr,rfl,(hb g rfl).trans hg,rest⟩
theorem SlAt.below(h:SlAt w e k v n xs)(hb:Below w.heap.size w w'):SlAt w' e k v n xs:=h.keep fun b e=>hb.block b (h.lt b e)
theorem SlAt.grown (h : SlAt w e k v n xs) {row : Option Nat} (hg : w.grownBy w' row) (hne : v.ownBlock = none ∨ v.ownBlock ≠ row) : SlAt w' e k v n xs :=
  h.keep fun b e => hg.block b (h.lt b e) (by rcases hne with h0 | h0; · rw [h0] at e; cases e
                                              · rw [← e]; exact h0)
theorem SlAt.cells(h:SlAt w e k v n xs)(hp:0<xs.length):∃b off c,v=.slice (some ⟨b,off,none⟩) n c∧n≤c∧b<w.heap.size∧∀j u,xs[j]?=some u→w.cell? ⟨b,off+j,none⟩=some u∧w.frozen? ⟨b,off+j,none⟩=false:=by
 obtain⟨hl,h2⟩:=h
 rcases h2 with⟨rfl,rfl⟩|⟨g,off,c,arr,rfl,hg,hnc,_,_,hx⟩
 ·simp at hl;simp[hl]at hp
 ·refine⟨g,off,c,rfl,hnc,(Array.getElem?_eq_some_iff.1 hg).1,fun j u hu=>⟨?_,by simp[World.frozen?,hg]⟩⟩
  rw[cell_of_row w g (off+j) arr e (0,0) hg]
  exact hx j u hu
theorem SlAt.form(h:SlAt w e k v n xs):∃a c,v=.slice a n c∧n≤c∧c≤maxLen:=by
 rcases h.2 with⟨rfl,rfl⟩|⟨g,off,c,arr,rfl,_,hnc,hm,_⟩
 ·exact⟨none,0,rfl,Nat.le_refl _,by unfold maxLen;omega⟩
 ·exact⟨_,c,rfl,hnc,hm⟩
theorem grownBy_refl(w:World)(row:Option Nat):w.grownBy w row:=⟨rfl,rfl,rfl,Nat.le_refl _,fun _ _ _=>rfl⟩
theorem Qc{a b:World}(h:Below a.heap.size a b)(row:Option Nat):a.grownBy b row:=⟨h.os,h.tape,h.output,h.size,fun i hi _=>h.block i hi⟩
theorem below_drewN'{B:Nat}{a w:World}(h:Below B a w)(n:Nat):Below B a (w.drewN n):=⟨h.os,h.tape,h.output,h.size,h.block⟩
end
section
variable {P:Program}(w:World)
theorem jd(t ty e:TypeId)(i:TypeInfo)(z:Value)(size bytes:Nat)(ht:P.underlying t=some (.slice e))(hi:P.info? e=some i)(hz:i.zero=some z)
  (hsize:i.size=size) (hby:i.bytes=bytes) (hzs:z.cells.size=size) (v:Value) (n:Nat) (xs:List Value) (hown:SlAt w e size v n xs)
  (a:Addr) (m c:Nat) (news:List Value) (hl:news.length=m*size) (hnews:∀j u,news[j]?=some u→w.cell? (a.add j)=some u) (h1:∀u∈news,u.oneCell'=true)
  (h63:n+m≤maxLen) (hbytes:(n+m)*bytes≤140737488355328):
  ∃v' w',(Builtin.append_ #[t,t] ty #[v,.slice (some a) m c]).run P w=.ok v' w'∧SlAt w' e size v' (n+m) (xs++news)∧w.grownBy w' v.ownBlock∧(v'.ownBlock=v.ownBlock∨v'.ownBlock=some w.heap.size):=by
 subst hsize
 subst hby
 have hsmall:n+m≤9223372036854775807:=by simp only[maxLen]at h63;omega
 have hlen:(xs++news).length=(n+m)*i.size:=by rw[List.length_append,hown.1,hl,Nat.add_mul]
 have grown:∀(old:Nat),old<n+m→∀(row:Option Nat),
   SlAt (w.drew.alloc (.cells (xs.toArray++news.toArray++Builtin.zeroCells z.cells (grownCap w (n+m) old e-(n+m))) e)) e i.size
    (.slice (some ⟨w.heap.size,0,none⟩) (n+m) (grownCap w (n+m) old e)) (n+m) (xs++news)∧
   w.grownBy (w.drew.alloc (.cells (xs.toArray++news.toArray++Builtin.zeroCells z.cells (grownCap w (n+m) old e-(n+m))) e)) row:=by
  intro old ho row
  have hge:=grownCap_ge w (n+m) old e
  have hcm:grownCap w (n+m) old e≤maxLen:=grownCap_le_maxLen w (n+m) old e h63
  refine⟨⟨hlen,.inr ⟨w.heap.size,0,_,_,rfl,heap_alloc_new w.drew _,hge,hcm,?_,?_⟩⟩,⟨rfl,rfl,rfl,by simp,fun k hk _=>Below.heap_alloc w.drew _ k hk⟩⟩
  ·simp only[Array.size_append,List.size_toArray,size_zeroCells,hzs,hown.1,hl,←Nat.add_mul,Nat.zero_add]
   rw[show n+m+(grownCap w (n+m) old e-(n+m))=grownCap w (n+m) old e by omega]
   exact Nat.le_refl _
  ·intro j u hu
   have hj:=(List.getElem?_eq_some_iff.1 hu).1
   rw[Nat.zero_add,Array.getElem?_append_left (by simp at hj⊢;exact hj)]
   have e1:xs.toArray++news.toArray=(xs++news).toArray:=by simp
   rw[e1,List.getElem?_toArray]
   exact hu
 rcases hown.2 with⟨rfl,rfl⟩|⟨g,off,cap,cur,rfl,hg,hnc,hcm,hcs,htake⟩
 ·have hx:xs=[]:=List.eq_nil_of_length_eq_zero (by simpa using hown.1)
  subst hx
  by_cases hm:m=0
  ·subst hm
   have hn:news=[]:=List.eq_nil_of_length_eq_zero (by simpa using hl)
   subst hn
   refine⟨.slice none 0 0,w,?_,SlAt.nil w e i.size,grownBy_refl _ _,.inl rfl⟩
   simp[Builtin.append_,run_underlying ht,sizeOf,typeInfo,hi,Builtin.lenOf,Builtin.firstCells,loadCells,loadCellsFrom]
  ·have hr:=run_append_nil (P:=P) w t ty e i z ht hi hz a m c news hl hnews (by omega) (by omega) (by have hb:=hbytes;simp only[Nat.zero_add]at hb;omega)
   have hgr:=grown 0 (by omega) (Value.ownBlock (.slice none 0 0))
   simp only[Nat.zero_add,List.nil_append,Array.empty_append]at hgr⊢
   exact⟨_,_,hr,hgr.1,hgr.2,.inr rfl⟩
 ·by_cases hroom:n+m≤cap
  ·have hmul:(n+m)*i.size≤cap*i.size:=Nat.mul_le_mul_right _ hroom
   have hfit:off+n*i.size+0+news.length≤cur.size:=by rw[hl];rw[Nat.add_mul]at hmul;omega
   have hf:=run_firstCells_some (P:=P) w i.size m a m c news hl hnews
   have hst:=run_storeCells_at P g (off+n*i.size) e news 0 cur w hg hfit h1
   simp only[Nat.add_zero]at hst hfit
   refine⟨.slice (some ⟨g,off,none⟩) (n+m) cap,w.setRow g (cur.toList.take (off+n*i.size)++news++cur.toList.drop (off+n*i.size+news.length)).toArray,?_,⟨hlen,.inr ⟨g,off,cap,_,rfl,setRow_heap w g cur _ e _ hg,hroom,hcm,?_,?_⟩⟩,⟨rfl,rfl,rfl,by simp,fun k _ hk=>setRow_other w g k _ (fun e=>hk (by simp[Value.ownBlock,e]))⟩,.inl rfl⟩
   ·simp[Builtin.append_,run_underlying ht,sizeOf,typeInfo,hi,Builtin.lenOf,hroom,hf,add_plain,hst]
   ·simp only[List.size_toArray,List.length_append,List.length_take,List.length_drop,Array.length_toList]
    omega
   ·intro j u hu
    have hj:=(List.getElem?_eq_some_iff.1 hu).1
    rw[hlen]at hj
    have hxl:=hown.1
    have htl:(cur.toList.take (off+n*i.size)).length=off+n*i.size:=by simp;omega
    rw[List.getElem?_toArray]
    by_cases hjn:j<n*i.size
    ·rw[List.getElem?_append_left (by omega)]at hu
     rw[List.append_assoc,List.getElem?_append_left (by rw[htl];omega),List.getElem?_take_of_lt (by omega)]
     simpa using htake j u hu
    ·rw[List.getElem?_append_right (by omega)]at hu
     rw[List.append_assoc,List.getElem?_append_right (by rw[htl];omega),htl,show off+j-(off+n*i.size)=j-xs.length by omega,List.getElem?_append_left (by have:=(List.getElem?_eq_some_iff.1 hu).1;exact this)]
     exact hu
  ·have holds:∀j u,xs[j]?=some u→w.cell? ((⟨g,off,none⟩:Addr).add j)=some u:=fun j u hu=>by
    rw[add_plain,cell_of_row w g (off+j) cur e (0,0) hg];exact htake j u hu
   have hr:=run_append_grow (P:=P) w t ty e i z ht hi hz ⟨g,off,none⟩ n cap xs hown.1 holds a m c news hl hnews (by omega) (by omega) (growslice_fits (by omega) hbytes)
   have hgr:=grown cap (by omega) (Value.ownBlock (.slice (some ⟨g,off,none⟩) n cap))
   exact⟨_,_,hr,hgr.1,hgr.2,.inr rfl⟩
theorem zbu{o:Oper}{a:Act}{K:Act→World→Prop}{Q:Exit→Act→World→Prop}(s x:Operand)(t:TypeId)
  (ho:o.op=.call {callee:=.builtin .append,args:=#[s,x],argTypes:=#[t,t]})
  (e:TypeId) (i:TypeInfo) (z:Value) (size bytes:Nat) (ht:P.underlying t=some (.slice e)) (hi:P.info? e=some i) (hz:i.zero=some z)
  (hsize:i.size=size) (hby:i.bytes=bytes) (hzs:z.cells.size=size)
  (v:Value) (n:Nat) (xs:List Value) (hs:a.eval s=v) (hown:SlAt w e size v n xs)
  (ad:Addr) (m c:Nat) (news:List Value) (hx:a.eval x=.slice (some ad) m c) (hl:news.length=m*size) (hnews:∀j u,news[j]?=some u→w.cell? (ad.add j)=some u) (h1:∀u∈news,u.oneCell'=true)
  (h63:n+m≤maxLen) (hbytes:(n+m)*bytes≤140737488355328)
  (h:∀v' w',SlAt w' e size v' (n+m) (xs++news)→w.grownBy w' v.ownBlock→(v'.ownBlock=v.ownBlock∨v'.ownBlock=some w.heap.size)→K (a.put o.dst v') w'):o.wp P a w K Q:=by
 obtain⟨v',w',hr,h2,h3,h4⟩:=jd (P:=P) w t o.type e i z size bytes ht hi hz hsize hby hzs v n xs hown ad m c news hl hnews h1 h63 hbytes
 unfold Oper.wp execOp
 simp only[ho,resolve,invoke,builtin,Sem.run_bind,Sem.run_pure,Result.andThen_ok,List.map_toArray,List.map_cons,List.map_nil,hs,hx,hr]
 exact h v' w' h2 h3 h4
theorem x9{ops:Array Oper}{rest:List Oper}{o:Oper}{a:Act}{Q:Exit→Act→World→Prop}(hgd:o.guard=none)(s x:Operand)(t:TypeId)
  (ho:o.op=.call {callee:=.builtin .append,args:=#[s,x],argTypes:=#[t,t]})
  (e:TypeId) (i:TypeInfo) (z:Value) (size bytes:Nat) (ht:P.underlying t=some (.slice e)) (hi:P.info? e=some i) (hz:i.zero=some z)
  (hsize:i.size=size) (hby:i.bytes=bytes) (hzs:z.cells.size=size)
  (v:Value) (n:Nat) (xs:List Value) (hs:a.eval s=v) (hown:SlAt w e size v n xs)
  (ad:Addr) (m c:Nat) (news:List Value) (hx:a.eval x=.slice (some ad) m c) (hl:news.length=m*size) (hnews:∀j u,news[j]?=some u→w.cell? (ad.add j)=some u) (h1:∀u∈news,u.oneCell'=true)
  (h63:n+m≤maxLen) (hbytes:(n+m)*bytes≤140737488355328)
  (h:∀v' w',SlAt w' e size v' (n+m) (xs++news)→w.grownBy w' v.ownBlock→(v'.ownBlock=v.ownBlock∨v'.ownBlock=some w.heap.size)→wpList P ops Q rest (a.put o.dst v') w'):wpList P ops Q (o::rest) a w:=
 wpList_plain hgd fun _ hK=>zbu w s x t ho e i z size bytes ht hi hz hsize hby hzs v n xs hs hown ad m c news hx hl hnews h1 h63 hbytes fun v' w' h2 h3 h4=>hK _ _ (h v' w' h2 h3 h4)
end
theorem Xu(w:World)(e:TypeId)(xs:List Value):∀j u,xs[j]?=some u→(w.alloc (.cells xs.toArray e)).cell? ((⟨w.heap.size,0,none⟩:Addr).add j)=some u:=fun j u hu=>by
 rw[add_plain,cell_of_row _ w.heap.size (0+j) xs.toArray e (0,0) (heap_alloc_new w _),Nat.zero_add]
 simpa using hu
structure Touch(S:List Nat)(w w':World):Prop where
 os:w'.os=w.os
 tape:w'.tape=w.tape
 output:w'.output=w.output
 size:w.heap.size≤w'.heap.size
 block:∀k,k<w.heap.size→k∉S→w'.heap[k]?=w.heap[k]?
theorem Touch.trans{S:List Nat}{a b c:World}(h:Touch S a b)(k:Touch S b c):Touch S a c:=
 ⟨k.os.trans h.os,k.tape.trans h.tape,k.output.trans h.output,Nat.le_trans h.size k.size,fun i hi hn=>(k.block i (Nat.lt_of_lt_of_le hi h.size) hn).trans (h.block i hi hn)⟩
theorem Touch.mono{S S':List Nat}{a b:World}(h:Touch S a b)(hs:∀k,k<a.heap.size→k∈S→k∈S'):Touch S' a b:=
 ⟨h.os,h.tape,h.output,h.size,fun i hi hn=>h.block i hi (fun e=>hn (hs i hi e))⟩
theorem Touch.of_below{S:List Nat}{a b:World}(h:Below a.heap.size a b):Touch S a b:=⟨h.os,h.tape,h.output,h.size,fun i hi _=>h.block i hi⟩
theorem Touch.Zu{S:List Nat}{a b:World}{m:Nat}(h:a.grownBy b (some m))(hm:m∈S):Touch S a b:=⟨h.os,h.tape,h.output,h.size,fun i hi hn=>h.block i hi (fun e=>by cases e;exact hn hm)⟩
theorem Touch.vo{S:List Nat}{a b:World}{r:Option Nat}(h:a.grownBy b r)(hm:∀m,r=some m→m∈S):Touch S a b:=⟨h.os,h.tape,h.output,h.size,fun i hi hn=>h.block i hi (fun e=>hn (hm i e.symm))⟩
theorem Touch.from{S:List Nat}{B:Nat}{a b c:World}(h:Below B a b)(k:Touch S b c)(hB:B≤b.heap.size)(hs:∀i∈S,B≤i):Below B a c:=
 h.trans ⟨k.os,k.tape,k.output,k.size,fun i hi=>k.block i (by omega) (fun e=>by have:=hs i e;omega)⟩
theorem Touch.drew{S:List Nat}{a b:World}(h:Touch S a b):Touch S a b.drew:=h.trans (.of_below (Below.refl _ _).drew)
theorem Touch.drewN{S:List Nat}{a b:World}(h:Touch S a b)(n:Nat):Touch S a (b.drewN n):=h.trans (.of_below (below_drewN' (Below.refl _ _) n))
theorem Touch.set{S:List Nat}{a b:World}(h:Touch S a b){p:Addr}(hp:p.block∈S)(u:Value):Touch S a (b.setCell p u):=
 ⟨h.os,h.tape,h.output,by simp only[World.setCell,Array.size_modify];exact h.size,fun i hi hn=>(Below.heap_setCell b p u i (fun e=>hn (e▸hp))).trans (h.block i hi hn)⟩
theorem Touch.cell{S:List Nat}{a b:World}(h:Touch S a b){p:Addr}{v:Value}(hc:a.cell? p=some v)(hn:p.block∉S):b.cell? p=some v:=
 (World.cell?_of_block (w:=a) (h.block p.block (World.block_lt_of_cell? a p hc) hn)).trans hc
structure Turn(O:Nat→Prop)(w w':World):Prop where
 os:w'.os=w.os
 tape:w'.tape=w.tape
 output:w'.output=w.output
 size:w.heap.size≤w'.heap.size
 block:∀k,k<w.heap.size→¬O k→w'.heap[k]?=w.heap[k]?
def grow(O:Nat→Prop)(w:World):Nat→Prop:=fun b=>O b∨w.heap.size≤b
section
variable {O O':Nat→Prop}{a b c w w':World}
theorem Turn.refl(O:Nat→Prop)(w:World):Turn O w w:=⟨rfl,rfl,rfl,Nat.le_refl _,fun _ _ _=>rfl⟩
theorem Turn.trans(h:Turn O a b)(k:Turn O b c):Turn O a c:=
 ⟨k.os.trans h.os,k.tape.trans h.tape,k.output.trans h.output,Nat.le_trans h.size k.size,fun i hi hn=>(k.block i (Nat.lt_of_lt_of_le hi h.size) hn).trans (h.block i hi hn)⟩
theorem Turn.mono(h:Turn O a b)(hs:∀k,k<a.heap.size→O k→O' k):Turn O' a b:=
 ⟨h.os,h.tape,h.output,h.size,fun i hi hn=>h.block i hi (fun e=>hn (hs i hi e))⟩
theorem Turn.of_below(h:Below a.heap.size a b):Turn O a b:=⟨h.os,h.tape,h.output,h.size,fun i hi _=>h.block i hi⟩
theorem Turn.below(h:Turn (fun _=>False) a b):Below a.heap.size a b:=⟨h.os,h.tape,h.output,h.size,fun i hi=>h.block i hi (fun e=>e)⟩
theorem Turn.transG(h:Turn O a b)(k:Turn (grow O a) b c):Turn O a c:=
 ⟨k.os.trans h.os,k.tape.trans h.tape,k.output.trans h.output,Nat.le_trans h.size k.size,fun i hi hn=>(k.block i (Nat.lt_of_lt_of_le hi h.size) (fun e=>e.elim hn (by omega))).trans (h.block i hi hn)⟩
theorem Turn.Zu{m:Nat}(h:a.grownBy b (some m))(hm:O m):Turn O a b:=⟨h.os,h.tape,h.output,h.size,fun i hi hn=>h.block i hi (fun e=>by cases e;exact hn hm)⟩
theorem Turn.vo{r:Option Nat}(h:a.grownBy b r)(hm:∀m,r=some m→O m∨a.heap.size≤m):Turn O a b:=
 ⟨h.os,h.tape,h.output,h.size,fun i hi hn=>h.block i hi (fun e=>(hm i e.symm).elim hn (by omega))⟩
theorem Turn.alloc(h:Turn O a b)(o:Obj):Turn O a (b.alloc o):=h.trans (.of_below ((Below.refl _ _).alloc (Nat.le_refl _) o))
theorem Turn.drewN(h:Turn O a b)(n:Nat):Turn O a (b.drewN n):=h.trans (.of_below (below_drewN' (Below.refl _ _) n))
theorem Turn.set(h:Turn O a b){p:Addr}(hp:O p.block∨a.heap.size≤p.block)(u:Value):Turn O a (b.setCell p u):=
 ⟨h.os,h.tape,h.output,by simp only[World.setCell,Array.size_modify];exact h.size,fun i hi hn=>(Below.heap_setCell b p u i (fun e=>hp.elim (fun hp=>hn (e▸hp)) (fun hp=>by omega))).trans (h.block i hi hn)⟩
theorem Turn.setRow(h:Turn O a b){g:Nat}(hp:O g∨a.heap.size≤g)(cs:Array Value):Turn O a (b.setRow g cs):=
 ⟨h.os,h.tape,h.output,by simp only[World.setRow,Array.size_modify];exact h.size,fun i hi hn=>(setRow_other b g i cs (fun e=>hp.elim (fun hp=>hn (e▸hp)) (fun hp=>by omega))).trans (h.block i hi hn)⟩
theorem Turn.touch{S:List Nat}(h:Touch S a b)(hs:∀k,k∈S→O k∨a.heap.size≤k):Turn O a b:=
 ⟨h.os,h.tape,h.output,h.size,fun i hi hn=>h.block i hi (fun e=>(hs i e).elim hn (by omega))⟩
theorem Turn.cell(h:Turn O a b){p:Addr}{v:Value}(hc:a.cell? p=some v)(hn:¬O p.block):b.cell? p=some v:=
 (World.cell?_of_block (w:=a) (h.block p.block (World.block_lt_of_cell? a p hc) hn)).trans hc
theorem Turn.Xv{B:Nat}(h:Turn O a b)(hs:∀i,O i→B≤i)(hB:B≤a.heap.size):Below B a b:=
 ⟨h.os,h.tape,h.output,h.size,fun i hi=>h.block i (by omega) (fun e=>by have:=hs i e;omega)⟩
end
def Row(w:World)(b n:Nat)(g:Nat→Value):Prop:=∃T,w.heap[b]?=some (.cells ((List.range n).map g).toArray T (0,0))
section
variable {w w':World}{b n:Nat}{g g':Nat→Value}
theorem Row.lt(h:Row w b n g):b<w.heap.size:=by obtain⟨T,h⟩:=h;exact(Array.getElem?_eq_some_iff.1 h).1
theorem Row.keep(h:Row w b n g)(hb:w'.heap[b]?=w.heap[b]?):Row w' b n g:=by obtain⟨T,h⟩:=h;exact⟨T,hb.trans h⟩
theorem Row.below(h:Row w b n g)(hb:Below w.heap.size w w'):Row w' b n g:=h.keep (hb.block b h.lt)
theorem Row.congr(h:Row w b n g)(e:∀i,i<n→g i=g' i):Row w b n g':=by
 obtain⟨T,h⟩:=h
 refine⟨T,h.trans ?_⟩
 have:(List.range n).map g=(List.range n).map g':=List.map_congr_left fun i hi=>e i (by simpa using hi)
 rw[this]
theorem Row.cell(h:Row w b n g){i:Nat}(hi:i<n):w.cell? ⟨b,i,none⟩=some (g i):=by
 obtain⟨T,h⟩:=h
 rw[cell_of_row w b i _ _ _ h]
 simp[hi]
theorem Row.frozen(h:Row w b n g)(i:Nat):w.frozen? ⟨b,i,none⟩=false:=by
 obtain⟨T,h⟩:=h
 simp[World.frozen?,h]
theorem Row.set(h:Row w b n g){i:Nat}(hi:i<n)(v:Value):Row (w.setCell ⟨b,i,none⟩ v) b n (fun j=>if j=i then v else g j):=by
 obtain⟨T,h⟩:=h
 refine⟨T,?_⟩
 have e:((List.range n).map g).set i v=(List.range n).map (fun j=>if j=i then v else g j):=by
  refine List.ext_getElem? fun j=>?_
  by_cases hj:j<n
  ·by_cases e:i=j
   ·subst e
    rw[List.getElem?_set_self (by simpa using hj)]
    simp[hj]
   ·rw[List.getElem?_set_ne e]
    simp[hj,Ne.symm e]
  ·rw[List.getElem?_eq_none (by simp;omega),List.getElem?_eq_none (by simp;omega)]
 rw[←e]
 unfold World.setCell
 simp only[Array.getElem?_modify,if_true,h]
 simp
theorem Row.other(h:Row w b n g){p:Addr}(hp:p.block≠b)(v:Value):Row (w.setCell p v) b n g:=h.keep (Below.heap_setCell w p v b (Ne.symm hp))
theorem Row.alloc(h:Row w b n g)(o:Obj):Row (w.alloc o) b n g:=h.below ((Below.refl _ _).alloc (Nat.le_refl _) o)
theorem Row.splice(h:Row w b n g)(off:Nat)(cs:List Value)(hfit:off+cs.length≤n)(cur:Array Value)(T:TypeId)(fr:Nat×Nat)(hc:w.heap[b]?=some (.cells cur T fr)):
  Row (w.setRow b (cur.toList.take off++(cs++cur.toList.drop (off+cs.length))).toArray) b n (fun j=>if off≤j∧j<off+cs.length then cs.getD (j-off) undef else g j):=by
 obtain⟨T',h⟩:=h
 have e:=hc.symm.trans h
 simp only[Option.some.injEq,Obj.cells.injEq]at e
 obtain⟨rfl,rfl,rfl⟩:=e
 have e:(List.take off ((List.range n).map g).toArray.toList++(cs++List.drop (off+cs.length) ((List.range n).map g).toArray.toList))=(List.range n).map (fun j=>if off≤j∧j<off+cs.length then cs.getD (j-off) undef else g j) := ?_
 ·refine⟨T,(setRow_heap w b _ _ _ _ hc).trans ?_⟩
  rw[e]
 refine List.ext_getElem? fun j=>?_
 by_cases hj:j<n
 ·by_cases h1:j<off
  ·rw[List.getElem?_append_left (by simp;omega),List.getElem?_take_of_lt h1]
   have:¬(off≤j∧j<off+cs.length):=by omega
   simp[hj,this]
  ·rw[List.getElem?_append_right (by simp;omega)]
   have e1:(List.take off ((List.range n).map g)).length=off:=by simp;omega
   simp only[List.toList_toArray,e1]
   by_cases h2:j<off+cs.length
   ·rw[List.getElem?_append_left (by omega)]
    have:off≤j∧j<off+cs.length:=by omega
    simp only[List.getElem?_map,List.getElem?_range hj,Option.map_some,if_pos this]
    rw[List.getElem?_eq_getElem (by omega),List.getD_eq_getElem?_getD,List.getElem?_eq_getElem (by omega)]
    rfl
   ·rw[List.getElem?_append_right (by omega),List.getElem?_drop]
    have:¬(off≤j∧j<off+cs.length):=by omega
    rw[show off+cs.length+(j-off-cs.length)=j by omega]
    simp[hj,this]
 ·rw[List.getElem?_eq_none (by simp;omega),List.getElem?_eq_none (by simp;omega)]
end
theorem Row.new(w:World)(n:Nat)(g:Nat→Value)(arr:Array Value)(T:TypeId)(hn:arr.size=n)(h:∀i,i<n→arr[i]?=some (g i)):Row (w.alloc (.cells arr T (0,0))) w.heap.size n g:=by
 refine⟨T,(heap_alloc_new w _).trans ?_⟩
 simp only[Option.some.injEq,Obj.cells.injEq,and_true]
 apply Array.ext
 ·simp[hn]
 ·intro j h1 h2
  have hj:j<n:=by omega
  have:=h j hj
  rw[Array.getElem?_eq_getElem h1]at this
  simpa using this
theorem Row.one(w:World)(v:Value)(T:TypeId):Row (w.alloc (.cells #[v] T (0,0))) w.heap.size 1 (fun _=>v):=
 Row.new w 1 _ _ T rfl fun i hi=>by
  have:i=0:=by omega
  subst this
  rfl
structure zk where
 use:Nat→Nat
 zone:Nat→Nat
 iso:Nat→Bool
def zk.none:zk:=⟨fun _=>0,fun _=>0,fun _=>false⟩
def zk.set(P:zk)(f u:Nat):zk:={P with use:=fun g=>if g=f then u else P.use g}
def ut(t:Nat→Bool):Nat→Nat→Option Nat
 | _,0=>none
 | lo,k+1=>if t lo then some lo else ut t (lo+1) k
theorem zcq{t:Nat→Bool}{lo k f:Nat}(h:ut t lo k=some f):lo≤f∧f<lo+k∧t f=true:=by
 induction k generalizing lo with
 | zero=>simp[ut]at h
 | succ k ih=>
  simp only[ut]at h
  split at h
  ·cases h;exact⟨Nat.le_refl _,by omega,‹_›⟩
  ·obtain⟨a,b,c⟩:=ih h;exact⟨by omega,by omega,c⟩
theorem zcr{t:Nat→Bool}{lo k:Nat}(h:ut t lo k=none):∀f,lo≤f→f<lo+k→t f=false:=by
 induction k generalizing lo with
 | zero=>intro f h1 h2;omega
 | succ k ih=>
  simp only[ut]at h
  split at h
  ·cases h
  ·rename_i hn
   intro f h1 h2
   by_cases e:f=lo
   ·rw[e];simpa using hn
   ·exact ih h f (by omega) (by omega)
def zk.zfc(P:zk)(s:Nat):Option Nat:=ut (fun f=>P.use f==1) (32*s) 32
def zk.runFrom(P:zk)(z:Nat):Nat→Nat→Option Nat
 | _,0=>Option.none
 | s,k+1=>if P.zone s=z∧P.iso s=false then(match P.zfc s with | some f=>some f | Option.none=>P.runFrom z (s+1) k)else P.runFrom z (s+1) k
def zk.run(P:zk)(z:Nat):Option Nat:=P.runFrom z 0 32
def zk.next(P:zk)(mov:Bool):Option Nat:=match (if mov then P.run 3 else Option.none)with|some f=>some f|Option.none=>P.run 2
structure RamS where
 b:Nat→Nat→UInt8
 bad:Nat→Bool
def RamS.none:RamS:=⟨fun _ _=>0,fun _=>false⟩
def ramE(n:Nat)(R:RamS)(f a k:Int):Int:=if f<0∨n≤f∨a<0∨k<0∨64<a∨64-a<k then 1 else if R.bad f.toNat then 7 else 0
def RamS.read(R:RamS)(f a k:Nat):List UInt8:=(List.range k).map fun i=>R.b f (a+i)
def RamS.write(R:RamS)(f a:Nat)(l:List UInt8):RamS:={R with b:=fun g i=>if g=f∧a≤i∧i<a+l.length then l.getD (i-a) 0 else R.b g i}
def Z6:List UInt8→Nat
 | []=>0
 | b::l=>b.toNat+256*Z6 l
def leBytes(v:Nat):Nat→List UInt8
 | 0=>[]
 | k+1=>UInt8.ofNat (v%256)::leBytes (v/256) k
theorem zkw(l:List UInt8):Z6 l<256 ^ l.length:=by
 induction l with
 | nil=>simp[Z6]
 | cons b l ih=>
  have:=b.toNat_lt
  simp only[Z6,List.length_cons,Nat.pow_succ]
  omega
theorem qj(v k:Nat):(leBytes v k).length=k:=by
 induction k generalizing v with
 | zero=>rfl
 | succ k ih=>simp[leBytes,ih]
theorem zbb(v k:Nat):Z6 (leBytes v k)=v%256 ^ k:=by
 induction k generalizing v with
 | zero=>simp[leBytes,Z6,Nat.mod_one]
 | succ k ih=>
  simp only[leBytes,Z6,ih]
  have e:(UInt8.ofNat (v%256)).toNat=v%256:=by simp
  rw[e,Nat.pow_succ,Nat.mul_comm (256 ^ k) 256,Nat.mod_mul]
theorem zf9(l:List UInt8)(k:Nat)(b:UInt8):Z6 (l.take k++[b])=Z6 (l.take k)+b.toNat*256 ^ (l.take k).length:=by
 generalize l.take k=m
 induction m with
 | nil=>simp[Z6]
 | cons c m ih=>
  simp only[List.cons_append,Z6,ih,List.length_cons,Nat.pow_succ]
  rw[Nat.mul_add,Nat.add_assoc]
  congr 2
  rw[Nat.mul_comm (256 ^ m.length) 256,←Nat.mul_assoc,←Nat.mul_assoc,Nat.mul_comm 256 b.toNat]
theorem leBytes_getElem?(v k i:Nat)(h:i<k):(leBytes v k)[i]?=some (UInt8.ofNat (v/256 ^ i%256)):=by
 induction k generalizing v i with
 | zero=>omega
 | succ k ih=>
  cases i with
  | zero=>simp[leBytes]
  | succ i=>
   simp only[leBytes,List.getElem?_cons_succ]
   rw[ih (v/256) i (by omega),Nat.div_div_eq_div_mul,Nat.pow_succ,Nat.mul_comm 256]
structure Ent where
 kind:Nat
 n:Int
 write:Bool
deriving DecidableEq
def Ent.none:Ent:=⟨0,0,false⟩
def most(kind:Nat):Nat:=if kind=1 then 1024 else if kind=2 then 32 else 1
def Ent.ok(e:Ent):Bool:=decide (e.kind≤3∧0≤e.n∧e.n<most e.kind)&&(!e.write || e.kind==1)
def Ent.num(e:Ent):Nat:=e.kind+4*e.n.toNat+if e.write then 2 ^ 40 else 0
def zja(v:Nat):Ent×Int:=
 let w:=v.testBit 40
 let n:=if w then v-2 ^ 40 else v
 if 4096≤n then(Ent.none,8)else
 let e:Ent:=⟨n%4,n/4,w⟩
 if e.ok then(e,0)else(Ent.none,8)
theorem Ent.zca{e:Ent}(h:e.ok=true):e.num<2 ^ 41∧e.kind+4*e.n.toNat<4096:=by
 obtain⟨k,n,w⟩:=e
 simp only[Ent.ok,most,Bool.and_eq_true,decide_eq_true_eq]at h
 obtain⟨⟨h1,h2,h3⟩,_⟩:=h
 have:k+4*n.toNat<4096:=by
  split at h3<;>(try split at h3)<;>omega
 simp only[Ent.num]
 refine⟨?_,this⟩
 split<;>omega
theorem zab(m:Nat)(h:m<4096)(w:Bool):(m+if w then 2 ^ 40 else 0).testBit 40=w:=by
 rw[Nat.testBit_eq_decide_div_mod_eq]
 cases w
 ·simp;omega
 ·simp;omega
theorem Xq{e:Ent}(h:e.ok=true):zja e.num=(e,0):=by
 have hlt:=(Ent.zca h).2
 obtain⟨k,n,w⟩:=e
 have h0:0≤n∧k≤3:=by
  simp only[Ent.ok,Bool.and_eq_true,decide_eq_true_eq]at h
  omega
 simp only at hlt
 have hb:=zab (k+4*n.toNat) hlt w
 have e1:(if w=true then(k+4*n.toNat+if w=true then 2 ^ 40 else 0)-2 ^ 40 else k+4*n.toNat+if w=true then 2 ^ 40 else 0)=k+4*n.toNat:=by cases w<;>simp
 have e2:¬4096≤k+4*n.toNat:=by omega
 have e3:(k+4*n.toNat)%4=k:=by omega
 have e5:(((k+4*n.toNat:Nat):Int)/4:Int)=n:=by omega
 show(if 4096≤(if(k+4*n.toNat+if w=true then 2 ^ 40 else 0).testBit 40=true then(k+4*n.toNat+if w=true then 2 ^ 40 else 0)-2 ^ 40 else k+4*n.toNat+if w=true then 2 ^ 40 else 0)then(Ent.none,8)
  else if Ent.ok ⟨(if(k+4*n.toNat+if w=true then 2 ^ 40 else 0).testBit 40=true then(k+4*n.toNat+if w=true then 2 ^ 40 else 0)-2 ^ 40 else k+4*n.toNat+if w=true then 2 ^ 40 else 0)%4,
   ((if(k+4*n.toNat+if w=true then 2 ^ 40 else 0).testBit 40=true then(k+4*n.toNat+if w=true then 2 ^ 40 else 0)-2 ^ 40 else k+4*n.toNat+if w=true then 2 ^ 40 else 0:Nat):Int)/4,(k+4*n.toNat+if w=true then 2 ^ 40 else 0).testBit 40⟩=true then
   (⟨(if(k+4*n.toNat+if w=true then 2 ^ 40 else 0).testBit 40=true then(k+4*n.toNat+if w=true then 2 ^ 40 else 0)-2 ^ 40 else k+4*n.toNat+if w=true then 2 ^ 40 else 0)%4,
   ((if(k+4*n.toNat+if w=true then 2 ^ 40 else 0).testBit 40=true then(k+4*n.toNat+if w=true then 2 ^ 40 else 0)-2 ^ 40 else k+4*n.toNat+if w=true then 2 ^ 40 else 0:Nat):Int)/4,(k+4*n.toNat+if w=true then 2 ^ 40 else 0).testBit 40⟩,(0:Int))else(Ent.none,8))=_
 rw[hb,e1,e3,e5,if_neg e2,if_pos h]
theorem Ent.za9{e:Ent}(h:e.ok=true):e.num=0↔e=Ent.none:=by
 constructor
 ·intro h0
  have:=Xq h
  rw[h0]at this
  have e0:zja 0=(Ent.none,0):=by decide
  rw[e0]at this
  exact(congrArg Prod.fst this).symm
 ·rintro rfl;rfl
def digit(page k:Nat):Nat:=page/8 ^ (3-k)%8
theorem yg(page k:Nat):digit page k<8:=Nat.mod_lt _ (by decide)
structure Z7 where
 root:Nat
 own:List Nat
def getW(R:RamS)(f:Int)(d:Nat):Nat×Int:=
 if ramE 1024 R f (8*d) 8=0 then(Z6 (R.read f.toNat (8*d) 8),0)else(0,ramE 1024 R f (8*d) 8)
def putW(R:RamS)(f:Int)(d v:Nat):RamS:=if ramE 1024 R f (8*d) 8=0 then R.write f.toNat (8*d) (leBytes v 8)else R
structure RPT where
 R:RamS
 P:zk
 T:Z7
def qh(v:Nat):Int:=IntKind.i64.wrap (IntKind.i64.wrap v-1)
def zk.used(P:zk)(f:Int):Bool:=decide (0≤f∧f<1024∧2≤P.use f.toNat∧P.use f.toNat≤5)
def zk.free(P:zk)(f:Int):zk:=if P.used f then P.set f.toNat 1 else P
def zk.zke(P:zk)(f:Int):zk:=if 0≤f∧f<1024∧P.use f.toNat≠6 then P.set f.toNat 6 else P
def RPT.table(x:RPT):(Int×Int)×RPT:=
 match x.P.next false with
 | none=>((0,4),x)
 | some f=>
  if ramE 1024 x.R f 0 64=0 then((f,0),⟨x.R.write f 0 (List.replicate 64 0),x.P.set f 2,⟨x.T.root,x.T.own++[f]⟩⟩)
  else((0,ramE 1024 x.R f 0 64),⟨x.R,(x.P.set f 2).zke f,x.T⟩)
def znj(R:RamS)(page:Nat):Nat→List Int→List Int×Int
 | 0,acc=>(acc,0)
 | k+1,acc=>
  let r:=getW R (acc.getLast?.getD 0) (digit page (2-k))
  if r.2=0 then(if r.1=0 then(acc,0)else znj R page k (acc++[qh r.1]))else([],r.2)
def way(R:RamS)(T:Z7)(page:Nat):List Int×Int:=znj R page 3 [T.root]
def Z7.may(T:Z7)(page:Int):Int:=if page<0∨4096≤page then 1 else if T.own=[]then 2 else 0
def jr(R:RamS)(T:Z7)(page:Int):Ent×Int:=
 if T.may page=0 then
  let w:=way R T page.toNat
  if w.2=0∧4≤w.1.length then
   let r:=getW R (w.1.getD 3 0) (digit page.toNat 3)
   if r.2=0 then zja r.1 else(Ent.none,r.2)
  else(Ent.none,w.2)
 else(Ent.none,T.may page)
def Xr(R:RamS)(f:Int):Bool:=decide (ramE 1024 R f 0 64=0)&&(R.read f.toNat 0 64).all (·==0)
def RPT.drop(x:RPT)(f:Int):RPT:=⟨x.R,x.P.free f,⟨x.T.root,x.T.own.filter fun g=>(g:Int)≠f⟩⟩
def RPT.qa(page:Nat)(list:List Int):Nat→RPT→RPT
 | 0,x=>x
 | k+1,x=>if Xr x.R (list.getD (k+1) 0)then
   RPT.qa page list k ⟨putW (x.drop (list.getD (k+1) 0)).R (list.getD k 0) (digit page k) 0,(x.drop (list.getD (k+1) 0)).P,(x.drop (list.getD (k+1) 0)).T⟩
  else x
def RPT.prune(x:RPT)(page:Nat)(list:List Int):RPT:=RPT.qa page list (list.length-1) x
def RPT.ym(page:Nat):Nat→List Int→RPT→(List Int×Int)×RPT
 | 0,list,x=>((list,0),x)
 | j+1,list,x=>
  let r:=x.table
  if r.1.2=0 then RPT.ym page j (list++[r.1.1]) ⟨putW r.2.R (list.getLast?.getD 0) (digit page (3-(j+1))) (r.1.1.toNat+1),r.2.P,r.2.T⟩
  else(([],r.1.2),r.2.prune page list)
def RPT.setLast(x:RPT)(page:Nat)(list:List Int)(v:Nat):Int×RPT:=
 let r:=getW x.R (list.getD 3 0) (digit page 3)
 if r.2=0 then(0,RPT.prune ⟨putW x.R (list.getD 3 0) (digit page 3) v,x.P,x.T⟩ page list)else(r.2,x)
def RPT.set(x:RPT)(page:Int)(e:Ent):Int×RPT:=
 if x.T.may page=0 then
  if e.ok then
   let w:=way x.R x.T page.toNat
   if w.2=0 then
    if w.1.length<4 then
     if e.num=0 then(0,x)else
     let g:=RPT.ym page.toNat (4-w.1.length) w.1 x
     if g.1.2=0 then g.2.setLast page.toNat g.1.1 e.num else(g.1.2,g.2)
    else x.setLast page.toNat w.1 e.num
   else(w.2,x)
  else(8,x)
 else(x.T.may page,x)
def xe(R:RamS)(i:Nat):Value:=if i%65=64 then .bool (R.bad (i/65))else .int .u8 (R.b (i/65) (i%65)).toNat
def qi(w:World)(O:Nat→Prop)(p b:Nat)(R:RamS):Prop:=
 O p∧O b∧p≠b∧Row w p 1 (fun _=>.slice (some ⟨b,0,none⟩) 1024 1024)∧Row w b 66560 (xe R)
section
variable {w w':World}{O O':Nat→Prop}{p b:Nat}{R:RamS}
theorem qi.loc(h:qi w O p b R)(hk:∀k,k<w.heap.size→O k→O' k∧w'.heap[k]?=w.heap[k]?):qi w' O' p b R:=by
 obtain⟨h1,h2,h3,h4,h5⟩:=h
 exact⟨(hk p h4.lt h1).1,(hk b h5.lt h2).1,h3,h4.keep (hk p h4.lt h1).2,h5.keep (hk b h5.lt h2).2⟩
end
theorem zei(w:World)(p:Nat)(a:Option Addr)(hc:w.cell? ⟨p,0,none⟩=some (.slice a 1024 1024)):
  Calls Tryz.prog 170 #[.pointer (some ⟨p,0,none⟩)] w fun e w'=>e=.returned (.int .i64 1024)∧w'=w:=by
 go_enter Tryz.func170,Tryz.ntmps170
 go_wp2_with fail
 go_ret
 exact⟨rfl,rfl⟩
theorem zmb{w:World}{b:Nat}{R:RamS}(h:Row w b 66560 (xe R)){f:Nat}(hf:f<1024):w.cell? ⟨b,f*65+64,none⟩=some (.bool (R.bad f)):=by
 rw[h.cell (by omega)]
 unfold xe
 rw[if_pos (by omega),show(f*65+64)/65=f by omega]
theorem zji{w:World}{b:Nat}{R:RamS}(h:Row w b 66560 (xe R)){f i:Nat}(hf:f<1024)(hi:i<64):w.cell? ⟨b,f*65+i,none⟩=some (.int .u8 (R.b f i).toNat):=by
 rw[h.cell (by omega)]
 unfold xe
 rw[if_neg (by omega),show(f*65+i)/65=f by omega,show(f*65+i)%65=i by omega]
theorem zfz(P:Program)(w:World)(t e:TypeId)(i:TypeInfo)(n:Nat)(hu:P.underlying t=some (.array n e))(hi:P.info? e=some i)(hs:i.size=1)(b o a k:Nat)(hk:0<k)(h:a+k≤n):
  (Instr.sliceAt t (.pointer (some ⟨b,o,none⟩)) (some (.int .i64 a)) (some (.int .i64 ((a:Int)+k))) (some (.int .i64 ((a:Int)+k)))).run P w=.ok (.slice (some ⟨b,o+a,none⟩) k k) w:=by
 have b1:(Instr.sliceBound (.int .i64 ((a:Int)+k)) n .slice3Alen).run P w=.ok (a+k) w:=by
  rw[run_sliceBound (P:=P) (w:=w) .i64 ((a:Int)+k) n .slice3Alen (by omega) (by omega)]
  congr 1
 have b2:(Instr.sliceBound (.int .i64 ((a:Int)+k)) (a+k) .slice3B).run P w=.ok (a+k) w:=by
  rw[run_sliceBound (P:=P) (w:=w) .i64 ((a:Int)+k) (a+k) .slice3B (by omega) (by omega)]
  congr 1
 have b3:(Instr.sliceBound (.int .i64 (a:Int)) (a+k) .slice3C).run P w=.ok a w:=by
  rw[run_sliceBound (P:=P) (w:=w) .i64 (a:Int) (a+k) .slice3C (by omega) (by omega)]
  congr 1
 have hne:¬(a+k=a):=by omega
 simp[Instr.sliceAt,Instr.sureAddr,run_underlying hu,Instr.sliceBounds,b1,b2,b3,sizeOf,typeInfo,hi,hs,hne,add_plain]
 omega
theorem zfa:∃i,Tryz.prog.info? 5=some i∧i.size=1∧i.bytes=1:=by
 have h:(Tryz.prog.info? 5).map (fun i=>(i.size,i.bytes))=some (1,1):=by kernel_rfl
 obtain⟨i,hi,hb⟩:=Option.map_eq_some_iff.1 h
 simp at hb
 exact⟨i,hi,hb⟩
theorem Ji(w:World)(O:Nat→Prop)(p b:Nat)(R:RamS)(h:qi w O p b R)(f a k:Nat)(hf:f<1024)(hk:0<k)(hak:a+k≤64)(hb:R.bad f=false):
  Calls Tryz.prog 126 #[.pointer (some ⟨p,0,none⟩),.int .i64 f,.int .i64 a,.int .i64 k] w fun e w'=>e=.returned (.tuple #[.slice (some ⟨b,f*65+a,none⟩) k k,.int .i64 0])∧w'=w:=by
 obtain⟨_,_,_,h1,h2⟩:=h
 have hc:=h1.cell (i:=0) (by omega)
 have hbad:=zmb h2 hf
 rw[hb]at hbad
 have F:=Lib.hid (zei w p _ hc)
 have i1:¬(f:Int)<0:=by omega
 have i2:(f:Int)<1024:=by omega
 have i3:¬(a:Int)<0:=by omega
 have i4:¬(k:Int)<0:=by omega
 have i5:¬(64:Int)<a:=by omega
 have i6:¬(64:Int)-a<k:=by omega
 obtain⟨inf,hinf,hsz,_⟩:=zfa
 have hsl:=fun w=>zfz Tryz.prog w 91 5 inf 64 Tryz.underlying91 hinf hsz b (f*65) a k hk hak
 clear h1 h2 hb hinf hsz
 go_enter Tryz.func126,Tryz.ntmps126
 go_wp2_with ((go_at_call 170;refine F.out.mono ?_;rintro e w1 ⟨rfl,rfl⟩))
 exact bodyPost_ret (v:=.tuple #[.slice (some ⟨b,f*65+a,none⟩) k k,.int .i64 0]) (by simp[results,Tryz.results126,go_sem]) rfl ⟨rfl,rfl⟩
def wordAt(R:RamS)(f d:Nat):Nat:=Z6 (R.read f (8*d) 8)
theorem Uf{n:Nat}{R:RamS}{f a k:Nat}(hf:f<n)(ha:a+k≤64)(hb:R.bad f=false):ramE n R f a k=0:=by
 unfold ramE
 rw[if_neg (by omega),if_neg (by simp[hb])]
theorem zbg{R:RamS}{f d:Nat}(hf:f<1024)(hb:R.bad f=false)(hd:d<8):getW R f d=(wordAt R f d,0):=by
 have h:ramE 1024 R f (8*(d:Int)) 8=0:=by
  have:=Uf (n:=1024) (R:=R) (f:=f) (a:=8*d) (k:=8) hf (by omega) hb
  simpa using this
 unfold getW
 rw[if_pos h]
 simp[wordAt]
theorem Uh{R:RamS}{f d v:Nat}(hf:f<1024)(hb:R.bad f=false)(hd:d<8):putW R f d v=R.write f (8*d) (leBytes v 8):=by
 have h:ramE 1024 R f (8*(d:Int)) 8=0:=by
  have:=Uf (n:=1024) (R:=R) (f:=f) (a:=8*d) (k:=8) hf (by omega) hb
  simpa using this
 unfold putW
 rw[if_pos h]
 simp
theorem qm(R:RamS)(f a:Nat)(l:List UInt8)(g i:Nat):(R.write f a l).b g i=if g=f∧a≤i∧i<a+l.length then l.getD (i-a) 0 else R.b g i:=rfl
theorem Vp(R:RamS)(f a:Nat)(l:List UInt8):(R.write f a l).bad=R.bad:=rfl
theorem Xf(R:RamS)(f a:Nat)(l:List UInt8):(R.write f a l).read f a l.length=l:=by
 refine List.ext_getElem? fun i=>?_
 unfold RamS.read
 by_cases hi:i<l.length
 ·simp only[List.getElem?_map,List.getElem?_range hi,Option.map_some,qm]
  rw[if_pos (by refine⟨?_,?_,?_⟩<;>first|trivial|omega),Nat.add_sub_cancel_left,List.getD_eq_getElem?_getD,List.getElem?_eq_getElem hi]
  rfl
 ·rw[List.getElem?_eq_none (by simp;omega),List.getElem?_eq_none (by omega)]
theorem Y7(R:RamS)(f a:Nat)(l:List UInt8)(g c k:Nat)(h:g≠f∨c+k≤a∨a+l.length≤c):(R.write f a l).read g c k=R.read g c k:=by
 unfold RamS.read
 refine List.map_congr_left fun i hi=>?_
 rw[qm,if_neg]
 simp at hi
 omega
theorem jb(R:RamS)(f d v g e:Nat)(hv:v<2 ^ 64)(hd:d<8)(he:e<8):wordAt (R.write f (8*d) (leBytes v 8)) g e=if g=f∧e=d then v else wordAt R g e:=by
 unfold wordAt
 by_cases h:g=f∧e=d
 ·obtain⟨rfl,rfl⟩:=h
  rw[if_pos ⟨rfl,rfl⟩]
  have:=Xf R g (8*e) (leBytes v 8)
  rw[qj]at this
  rw[this,zbb]
  exact Nat.mod_eq_of_lt (by simpa using hv)
 ·rw[if_neg h,Y7]
  rw[qj]
  omega
theorem Un{l:List UInt8}:Z6 l=0↔∀b∈l,b=0:=by
 induction l with
 | nil=>simp[Z6]
 | cons b l ih=>
  simp only[Z6,List.mem_cons,forall_eq_or_imp]
  rw[←ih]
  constructor
  ·intro h
   have h1:b.toNat=0:=by omega
   exact⟨UInt8.toNat_inj.1 (by simpa using h1),by omega⟩
  ·rintro⟨rfl,h⟩
   simp[h]
theorem Jf{R:RamS}{f:Nat}(hf:f<1024)(hb:R.bad f=false):Xr R f=true↔∀d,d<8→wordAt R f d=0:=by
 have h0:ramE 1024 R f 0 64=0:=Uf (n:=1024) (R:=R) (f:=f) (a:=0) (k:=64) hf (by omega) hb
 unfold Xr
 rw[h0]
 simp only[decide_true,Bool.true_and,Int.toNat_natCast,List.all_eq_true,beq_iff_eq]
 constructor
 ·intro h d hd
  unfold wordAt
  rw[Un]
  intro b hb
  unfold RamS.read at hb
  obtain⟨i,hi,rfl⟩:=List.mem_map.1 hb
  simp at hi
  refine h _ (List.mem_map.2 ⟨8*d+i,by simp;omega,?_⟩)
  simp
 ·intro h b hb
  unfold RamS.read at hb
  obtain⟨i,hi,rfl⟩:=List.mem_map.1 hb
  simp at hi
  have:=h (i/8) (by omega)
  unfold wordAt at this
  rw[Un]at this
  refine this _ (List.mem_map.2 ⟨i%8,by simp;omega,?_⟩)
  congr 1
  omega
theorem uj{g:Nat}(h:g<1024):qh (g+1)=g:=by
 unfold qh
 rw[IntWalk.i64_in ((g+1:Nat):Int) (by omega),IntWalk.i64_in _ (by omega)]
 omega
structure vk(R:RamS)(T:Z7)(N:List Nat→Option Nat):Prop where
 root:N []=some T.root
 lt:∀p f,N p=some f→f<1024∧R.bad f=false∧p.length≤3∧∀d∈p,d<8
 inj:∀p q f,N p=some f→N q=some f→p=q
 own:∀f,f∈T.own↔∃p,N p=some f
 nd:T.own.Nodup
 kid:∀p f d,N p=some f→p.length<3→d<8→wordAt R f d=match N (p++[d])with|some g=>g+1|none=>0
 par:∀p d g,N (p++[d])=some g→∃f,N p=some f
 leaf:∀p f d,N p=some f→p.length=3→d<8→∃e:Ent,e.ok=true∧wordAt R f d=e.num
def high(page:Nat):List Nat:=[digit page 0,digit page 1,digit page 2]
def mapOf(R:RamS)(N:List Nat→Option Nat)(page:Nat):Ent:=match N (high page)with|some f=>(zja (wordAt R f (digit page 3))).1|none=>Ent.none
def wayN(N:List Nat→Option Nat)(r:Nat)(page:Nat):List Int:=
 match N [digit page 0]with
 | none=>[(r:Int)]
 | some f1=>match N [digit page 0,digit page 1]with
  | none=>[(r:Int),f1]
  | some f2=>match N [digit page 0,digit page 1,digit page 2]with
   | none=>[(r:Int),f1,f2]
   | some f3=>[(r:Int),f1,f2,f3]
section
variable {R:RamS}{T:Z7}{N:List Nat→Option Nat}
theorem vk.own_ne(h:vk R T N):T.own≠[]:=fun e=>by
 have:=(h.own T.root).2 ⟨[],h.root⟩
 rw[e]at this
 cases this
theorem vk.way(h:vk R T N)(page:Nat):way R T page=(wayN N T.root page,0):=by
 have r:=h.lt _ _ h.root
 have step:∀p f d,N p=some f→p.length<3→d<8→getW R f d=(match N (p++[d])with|some g=>g+1|none=>0,0):=fun p f d hp hl hd=>by
  have:=h.lt _ _ hp
  rw[zbg this.1 this.2.1 hd,h.kid p f d hp hl hd]
 have s0:=step [] T.root (digit page 0) h.root (by simp) (yg _ _)
 simp only[List.nil_append]at s0
 unfold Go.Proofs.YtnhdmnijiphjjaaGreat.way
 simp only[znj,List.getLast?_singleton,Option.getD_some,s0,Nat.sub_self]
 unfold wayN
 cases h1:N [digit page 0]with
 | none=>simp
 | some f1=>
  have q1:=h.lt _ _ h1
  have s1:=step [digit page 0] f1 (digit page 1) h1 (by simp) (yg _ _)
  simp only[List.cons_append,List.nil_append]at s1
  have e1:([(T.root:Int)]++[qh (f1+1)]).getLast? = some (f1:Int):=by rw[uj q1.1];rfl
  simp only[if_true,Nat.add_one_ne_zero,if_false,e1,Option.getD_some,s1,show 2-1=1 from rfl]
  cases h2:N [digit page 0,digit page 1]with
  | none=>simp[uj q1.1]
  | some f2=>
   have q2:=h.lt _ _ h2
   have s2:=step [digit page 0,digit page 1] f2 (digit page 2) h2 (by simp) (yg _ _)
   simp only[List.cons_append,List.nil_append]at s2
   have e2:([(T.root:Int)]++[qh (f1+1)]++[qh (f2+1)]).getLast? = some (f2:Int):=by rw[uj q1.1,uj q2.1];rfl
   simp only[if_true,Nat.add_one_ne_zero,if_false,e2,Option.getD_some,s2,show 2-0=2 from rfl]
   cases h3:N [digit page 0,digit page 1,digit page 2]with
   | none=>simp[uj q1.1,uj q2.1]
   | some f3=>
    have q3:=h.lt _ _ h3
    simp[uj q1.1,uj q2.1,uj q3.1]
theorem vk.get(h:vk R T N)(page:Nat)(hp:page<4096):jr R T page=(mapOf R N page,0):=by
 have hm:T.may page=0:=by
  unfold Z7.may
  rw[if_neg (by omega),if_neg h.own_ne]
 unfold jr
 rw[if_pos hm]
 simp only[Int.toNat_natCast,h.way page]
 unfold mapOf wayN high
 cases h1:N [digit page 0]with
 | none=>
  have h2:N [digit page 0,digit page 1]=none:=by
   cases e:N [digit page 0,digit page 1]with
   | none=>rfl
   | some g=>obtain⟨f,hf⟩:=h.par [digit page 0] (digit page 1) g e;rw[hf]at h1;cases h1
  have h3:N [digit page 0,digit page 1,digit page 2]=none:=by
   cases e:N [digit page 0,digit page 1,digit page 2]with
   | none=>rfl
   | some g=>obtain⟨f,hf⟩:=h.par [digit page 0,digit page 1] (digit page 2) g e;rw[hf]at h2;cases h2
  simp[h3]
 | some f1=>
  cases h2:N [digit page 0,digit page 1]with
  | none=>
   have h3:N [digit page 0,digit page 1,digit page 2]=none:=by
    cases e:N [digit page 0,digit page 1,digit page 2]with
    | none=>rfl
    | some g=>obtain⟨f,hf⟩:=h.par [digit page 0,digit page 1] (digit page 2) g e;rw[hf]at h2;cases h2
   simp[h3]
  | some f2=>
   cases h3:N [digit page 0,digit page 1,digit page 2]with
   | none=>simp
   | some f3=>
    have q3:=h.lt _ _ h3
    obtain⟨e,he,hw⟩:=h.leaf _ f3 (digit page 3) h3 (by simp) (yg _ _)
    simp only[List.length_cons,List.length_nil,List.getD_cons_succ,List.getD_cons_zero]
    rw[zbg q3.1 q3.2.1 (yg _ _)]
    simp[hw,Xq he]
end
end Go.Proofs.YtnhdmnijiphjjaaGreat
