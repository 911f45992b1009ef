/- slices.SortFunc at places, by back.Compare. -/
import Derived.Test.YtnhdmnijiphjjaaGreatJFz6
import Derived.Shelf.SlSortCmp.WholeK
import Derived.Test.YtnhdmnijiphjjaaGreatJFz0
import Derived.Deep.RegionHeld
import Derived.Deep.RegionLaw
import Derived.Test.YtnhdmnijiphjjaaGreatJFz5
import Derived.Deep.MidRow
set_option linter.unusedVariables false
set_option linter.unusedSimpArgs false
set_option maxRecDepth 100000
set_option maxHeartbeats 2000000
namespace Go.Proofs.YtnhdmnijiphjjaaGreat
open Go Go.RowKit
theorem Vx(x y:Int×Int):ltOf cmpP x y=decide (ltP x y):=by
 unfold ltOf cmpP orI cmpI
 congr 1
 obtain⟨a,b⟩:=x
 obtain⟨c,d⟩:=y
 simp only[ltP,eq_iff_iff]
 split<;>(repeat' split at *)<;>omega
theorem swoP:Sort.SWO (ltOf cmpP) where
 irrefl x:=by rw[Vx];simpa using ltP.irrefl x
 trans x y z h1 h2:=by rw[Vx]at *;simp only[decide_eq_true_eq]at *;exact h1.trans h2
 ntrans x y z h1 h2:=by
  rw[Vx]at *
  simp only[decide_eq_false_iff_not]at *
  unfold ltP at *
  omega
theorem zdc(w:World)(b off c:Nat)(l:List (Int×Int))(h:PlAt w (.slice (some ⟨b,off,none⟩) l.length c) l)(hl:l.length≤1000000):
  Calls Tryz.prog 72 #[.slice (some ⟨b,off,none⟩) l.length c,.func (.func 73) #[] #[]] w fun e w'=>
   e=.returned (.tuple #[])∧∃l',l'.Perm l∧l'.Pairwise (fun x y=>¬ltP y x)∧PlAt w' (.slice (some ⟨b,off,none⟩) l.length c) l'∧Touch [b] w w':=by
 have eg:∀args w,(callFunc 73 args).run Tryz.prog w=.ok (.enter 73 args) w:=enters_of Tryz.func73 (by kernel_rfl) rfl
 have hH:Sort.HoldsK encP 2 w b off l.toArray:=by
  unfold Sort.HoldsK
  rw[zi9]
  intro j hj
  have hj':j<l.length*2:=by simpa[um]using hj
  obtain⟨g,off',c',e,_,_,hx⟩:=SlAt.cells h (by rw[um];omega)
  cases e
  refine hx j _ ?_
  rw[getElem!_pos ((pl l).toArray) j hj]
  simp
 have hb:b<w.heap.size:=SlAt.lt h b rfl
 have:=AnyQ.slices_SortFunc zkz 2 (fun w=>by kernel_rfl) (fun w=>by kernel_rfl) encP zbr zk9 cmpP swoP 73 #[] b off c l.toArray w eg (fun m os dk _ x y=>zdj _ x y) hH hb (by simp;omega)
 simp only[List.size_toArray]at this
 refine this.mono ?_
 rintro e w' ⟨rfl,d',n,os,hp,hs,rfl⟩
 obtain⟨hp1,_,hp3⟩:=hp
 have hsz:d'.toList.length=l.length:=by simpa using hp1
 have ed:d'=d'.toList.toArray:=by simp
 have hw:=zf8 h hsz n os
 rw[←ed]at hw
 refine⟨rfl,d'.toList,?_,?_,hw.1,hw.2⟩
 ·have e1:d'.extract 0 l.length=d':=by rw[←hsz];simp
  have e2:l.toArray.extract 0 l.length=l.toArray:=by simp
  rw[e1,e2]at hp3
  simpa using hp3
 ·refine List.pairwise_iff_getElem.2 fun i j hi hj hij=>?_
  have:=hs i j (Nat.zero_le _) hij (by rw[←hsz];exact hj)
  rw[Vx,getElem!_pos d' j (by simpa using hj),getElem!_pos d' i (by simpa using hi)]at this
  simpa using this
theorem Xg{P:Program}{ops:Array Oper}{o:Oper}{a:Act}{w:World}{K:Act→World→Prop}{Q:Exit→Act→World→Prop}{E:Prop}
  (hg:o.guard=none) (s x:Operand) (t:TypeId) (hop:o.op=Op.call {callee:=Callee.builtin Builtin.append,args:=#[s,x],argTypes:=#[t,t]})
  (v sv v':Value) (w':World) (hs:a.eval s=v) (hx:a.eval x=sv) (hr:(Builtin.append_ #[t,t] o.type #[v,sv]).run P w=.ok v' w')
  (hK:K (a.put o.dst v') w'):if Region.wanted o (yielded ops a.tmps)=true then Oper.wp P o a w K Q else E:=by
 have hw:Region.wanted o (yielded ops a.tmps)=true:=by simp[Region.wanted,hg]
 rw[if_pos hw]
 unfold Oper.wp
 simp[execOp,hop,resolve,invoke,builtin,hs,hx,hr,Result.andThen]
 exact hK
structure ji(w:World)(p:Nat)(S:List Nat)(V:List Value)(L:List (List (Int×Int))):Prop where
 blk:∃T,w.heap[p]?=some (.cells V.toArray T (0,0))
 lenV:V.length=32
 lenL:L.length=32
 at_:∀(i:Nat) (v:Value) (l:List (Int×Int)),V[i]?=some v→L[i]?=some l→PlAt w v l
 own:∀(i:Nat) (v:Value) (b:Nat),V[i]?=some v→v.ownBlock=some b→b∈S∧b≠p
 inj:∀(i j:Nat) (u v:Value) (b:Nat),V[i]?=some u→V[j]?=some v→u.ownBlock=some b→v.ownBlock=some b→i=j
 pin:p∈S
theorem ji.touch{w w':World}{p:Nat}{S S0:List Nat}{V:List Value}{L:List (List (Int×Int))}(h:ji w p S V L)(t:Touch S0 w w')(hn:∀b∈S,b∉S0):ji w' p S V L:=by
 obtain⟨⟨T,hb⟩,h2,h3,h4,h5,h6,h7⟩:=h
 exact⟨⟨T,(t.block p (Array.getElem?_eq_some_iff.1 hb).1 (hn p h7)).trans hb⟩,h2,h3,fun i v l hv hl=>(h4 i v l hv hl).touch t fun b hb=>hn b (h5 i v b hv hb).1,h5,h6,h7⟩
theorem ji.below{w w':World}{p:Nat}{S:List Nat}{V:List Value}{L:List (List (Int×Int))}(h:ji w p S V L)(hb:Below w.heap.size w w'):ji w' p S V L:=
 h.touch (Touch.of_below (S:=[]) hb) (by simp)
theorem ji.put{w w':World}{p:Nat}{S:List Nat}{V:List Value}{L:List (List (Int×Int))}(h:ji w p S V L){k:Nat}{v v':Value}{l':List (Int×Int)}(hv:V[k]?=some v)
  (hp:∃T,w'.heap[p]?=some (.cells (V.set k v').toArray T (0,0))) (hl:PlAt w' v' l') (hown:∀b,v'.ownBlock=some b→v.ownBlock=some b∨w.heap.size≤b)
  (hrest:∀j,j<w.heap.size→j≠p→v.ownBlock≠some j→w'.heap[j]?=w.heap[j]?) (ho:w'.os=w.os) (ht:w'.tape=w.tape) (hout:w'.output=w.output) (hs:w.heap.size≤w'.heap.size):
  ∃S' V',ji w' p S' V' (L.set k l')∧Touch S w w'∧∀b∈S',b∈S∨w.heap.size≤b:=by
 have hk:k<32:=by have:=(List.getElem?_eq_some_iff.1 hv).1;rw[h.lenV]at this;exact this
 have hpw:p<w.heap.size:=by obtain⟨T,hb⟩:=h.blk;exact(Array.getElem?_eq_some_iff.1 hb).1
 have hlt:∀(i:Nat) (u:Value) (b:Nat),V[i]?=some u→u.ownBlock=some b→b<w.heap.size:=fun i u b hu hb=>by
  have hi:i<L.length:=by rw[h.lenL,←h.lenV];exact(List.getElem?_eq_some_iff.1 hu).1
  exact SlAt.lt (h.at_ i u _ hu (List.getElem?_eq_getElem hi)) b hb
 obtain⟨S',hS',hS2⟩:∃S':List Nat,(∀b,b∈S'↔b∈S∨v'.ownBlock=some b)∧True:=by
  cases e:v'.ownBlock with
  | none=>exact⟨S,by simp,trivial⟩
  | some b=>exact⟨b::S,by intro c;simp[eq_comm,or_comm],trivial⟩
 refine⟨S',V.set k v',⟨hp,by simp[h.lenV],by simp[h.lenL],?_,?_,?_,(hS' p).2 (.inl h.pin)⟩,⟨ho,ht,hout,hs,fun j hj hn=>hrest j hj (fun e=>hn (e▸h.pin)) (fun e=>hn (h.own k v j hv e).1)⟩,fun b hb=>?_⟩
 ·intro i u m hu hm
  by_cases hik:i=k
  ·subst hik
   rw[List.getElem?_set_self (by rw[h.lenV];exact hk)]at hu
   rw[List.getElem?_set_self (by rw[h.lenL];exact hk)]at hm
   cases hu;cases hm
   exact hl
  ·rw[List.getElem?_set_ne (Ne.symm hik)]at hu hm
   refine(h.at_ i u m hu hm).keep fun b hb=>hrest b (hlt i u b hu hb) (h.own i u b hu hb).2 (fun e=>hik (h.inj i k u v b hu hv hb e))
 ·intro i u b hu hb
  by_cases hik:i=k
  ·subst hik
   rw[List.getElem?_set_self (by rw[h.lenV];exact hk)]at hu
   cases hu
   refine⟨(hS' b).2 (.inr hb),?_⟩
   rcases hown b hb with e|e
   ·exact(h.own i v b hv e).2
   ·omega
  ·rw[List.getElem?_set_ne (Ne.symm hik)]at hu
   exact⟨(hS' b).2 (.inl (h.own i u b hu hb).1),(h.own i u b hu hb).2⟩
 ·have key:∀(i:Nat) (u:Value) (b:Nat),i≠k→V[i]?=some u→u.ownBlock=some b→v'.ownBlock=some b→False:=fun i u b hik hu hb hb'=>by
   rcases hown b hb' with e|e
   ·exact hik (h.inj i k u v b hu hv hb e)
   ·have:=hlt i u b hu hb;omega
  intro i j u u' b hu hu' hb hb'
  by_cases hik:i=k
  ·subst hik
   rw[List.getElem?_set_self (by rw[h.lenV];exact hk)]at hu
   cases hu
   by_cases hjk:j=i
   ·exact hjk.symm
   ·rw[List.getElem?_set_ne (Ne.symm hjk)]at hu'
    exact(key j u' b hjk hu' hb' hb).elim
  ·rw[List.getElem?_set_ne (Ne.symm hik)]at hu
   by_cases hjk:j=k
   ·subst hjk
    rw[List.getElem?_set_self (by rw[h.lenV];exact hk)]at hu'
    cases hu'
    exact(key i u b hik hu hb hb').elim
   ·rw[List.getElem?_set_ne (Ne.symm hjk)]at hu'
    exact h.inj i j u u' b hu hu' hb hb'
 ·rcases(hS' b).1 hb with hb|hb
  ·exact .inl hb
  ·rcases hown b hb with e|e
   ·exact .inl (h.own k v b hv e).1
   ·exact .inr e
theorem Qz{w:World}{p k:Nat}{V:List Value}{T:TypeId}(h:w.heap[p]?=some (.cells V.toArray T (0,0)))(v:Value):(w.setCell ⟨p,k,none⟩ v).heap[p]?=some (.cells (V.set k v).toArray T (0,0)):=by
 unfold World.setCell
 simp only[Array.getElem?_modify,if_true,h]
 simp
theorem Qu(w:World)(p:Nat)(k:Nat)(hk:k<32):Calls Tryz.prog 70 #[.pointer (some ⟨p,0,none⟩),.int .i64 k] w fun e w'=>e=.returned (.bool true)∧w'=w:=by
 have h0:(0:Int)≤k:=by omega
 have h1:(k:Int)<32:=by omega
 go_enter Tryz.func70,Tryz.ntmps70
 go_wp2_with fail
 go_ret
 exact⟨rfl,rfl⟩
theorem zmi(w:World):Calls Tryz.prog 117 #[] w fun e w'=>e=.returned (.pointer (some ⟨w.heap.size,0,none⟩))∧ji w' w.heap.size [w.heap.size] (List.replicate 32 (.slice none 0 0)) (List.replicate 32 [])∧Below w.heap.size w w'∧w'.heap.size=w.heap.size+1:=by
 go_enter Tryz.func117,Tryz.ntmps117
 go_wp2_with fail
 go_ret
 refine⟨rfl,⟨⟨_,heap_alloc_new w _⟩,by simp,by simp,?_,?_,?_,by simp⟩,(Below.refl _ _).alloc (Nat.le_refl _) _,by simp⟩
 ·intro i v l hv hl
  simp only[List.getElem?_replicate]at hv hl
  split at hv
  ·rw[if_pos ‹_›]at hl;cases hv;cases hl;exact PlAt.nil _
  ·cases hv
 ·intro i v b hv hb
  simp only[List.getElem?_replicate]at hv
  split at hv
  ·cases hv;simp[Value.ownBlock]at hb
  ·cases hv
 ·intro i j u v b hu hv hb
  simp only[List.getElem?_replicate]at hu
  split at hu
  ·cases hu;simp[Value.ownBlock]at hb
  ·cases hu
theorem ze2{α:Type}{L:List α}{k:Nat}{l:α}(h:L[k]?=some l):L.set k l=L:=by
 obtain⟨hk,e⟩:=List.getElem?_eq_some_iff.1 h
 subst e
 exact List.set_getElem_self hk
theorem zke(w:World)(p:Nat)(S:List Nat)(V:List Value)(L:List (List (Int×Int)))(h:ji w p S V L)(k:Nat)(l:List (Int×Int))(hl:L[k]?=some l)(x:Int×Int)(hs:yz l)(hlen:l.length≤100000):
  Calls Tryz.prog 26 #[.pointer (some ⟨p,0,none⟩),.int .i64 k,.agg #[.int .i64 x.1,.int .i64 x.2]] w fun e w'=>e=.returned (.bool true)∧∃S' V',ji w' p S' V' (L.set k (putP l x))∧Touch S w w'∧∀b∈S',b∈S∨w.heap.size≤b:=by
 have hk:k<32:=by have:=(List.getElem?_eq_some_iff.1 hl).1;rw[h.lenL]at this;exact this
 obtain⟨v,hv⟩:∃v,V[k]?=some v:=⟨_,List.getElem?_eq_getElem (by rw[h.lenV];exact hk)⟩
 obtain⟨T,hblk⟩:=h.blk
 have hp:p<w.heap.size:=(Array.getElem?_eq_some_iff.1 hblk).1
 have hc:w.cell? ⟨p,k,none⟩=some v:=by rw[cell_of_row w p k _ _ _ hblk];simpa using hv
 have hpl:=h.at_ k v l hv hl
 have H:=Lib.hid h
 have HPL:=Lib.hid hpl
 clear h hpl
 have hk0:(0:Int)≤k:=by omega
 have hk1:(k:Int)<32:=by omega
 go_enter Tryz.func26,Tryz.ntmps26
 go_wp2_with fail
 refine(Qu _ _ k hk).mono ?_
 rintro e w1 ⟨rfl,rfl⟩
 go_wp2_with fail
 obtain⟨W,hW⟩:∃W,W=(w.alloc (.cells #[.int .i64 x.1,.int .i64 x.2] 58)).drew:=⟨_,rfl⟩
 have q0:W.cell? ⟨p,k,none⟩=some v:=by rw[hW];go_simp
 have q1:W.cell? ⟨w.heap.size,0,none⟩=some (.int .i64 x.1):=by rw[hW];go_simp
 have q2:W.cell? ⟨w.heap.size,1,none⟩=some (.int .i64 x.2):=by rw[hW];go_simp
 have hBW:Hid (Below w.heap.size w W∧W.heap.size=w.heap.size+1):=by
  rw[hW]
  exact⟨((Below.refl _ _).alloc (Nat.le_refl _) _).drew,by show(w.alloc _).heap.size=_;simp⟩
 have hd:(w.alloc (.cells #[.int .i64 x.1,.int .i64 x.2] 58)).drew=W:=hW.symm
 clear hW hc
 have cC:Hid (∀W',Below w.heap.size w W'→Calls Tryz.prog 71 #[v,.agg #[.int .i64 x.1,.int .i64 x.2]] W' fun e w'=>e=.returned (.bool (decide (x∈l)))∧Below W'.heap.size W' w'):=fun W' hb=>Ud W' v l (HPL.out.below hb) x
 clear hblk
 by_cases hx:x∈l
 ·rw[decide_eq_true hx]at cC
  have hput:putP l x=l:=by unfold putP;rw[if_pos hx]
  have hset:L.set k (putP l x)=L:=by rw[hput];exact ze2 hl
  go_region_held (fun W'=>W'.cell? ⟨p,k,none⟩=some v∧W'.cell? ⟨w.heap.size,0,none⟩=some (.int .i64 x.1)∧W'.cell? ⟨w.heap.size,1,none⟩=some (.int .i64 x.2)) (go_keep)
   ((go_at_call 71;refine(cC.out _ hBW.out.1).mono ?_;rintro e w2 ⟨rfl,hb2⟩;have hb3:=Lib.hid hb2;have q0':=(hb2.cell (World.block_lt_of_cell? _ _ q0)).trans q0;have q1':=(hb2.cell (World.block_lt_of_cell? _ _ q1)).trans q1;have q2':=(hb2.cell (World.block_lt_of_cell? _ _ q2)).trans q2;clear hb2))
  go_wp2_with fail
  go_ret
  have hB:Below w.heap.size w w2:=hBW.out.1.trans (hb3.out.mono (by rw[hBW.out.2];omega))
  rw[hset]
  exact⟨rfl,S,V,H.out.below hB,Touch.of_below hB,fun b hb=>.inl hb⟩
 ·rw[decide_eq_false hx]at cC
  go_region_held (fun W'=>W'.cell? ⟨p,k,none⟩=some v∧W'.cell? ⟨w.heap.size,0,none⟩=some (.int .i64 x.1)∧W'.cell? ⟨w.heap.size,1,none⟩=some (.int .i64 x.2)) (go_keep)
   ((go_at_call 71;refine(cC.out _ hBW.out.1).mono ?_;rintro e w2 ⟨rfl,hb2⟩;have hb3:=Lib.hid hb2;have q0':=(hb2.cell (World.block_lt_of_cell? _ _ q0)).trans q0;have q1':=(hb2.cell (World.block_lt_of_cell? _ _ q1)).trans q1;have q2':=(hb2.cell (World.block_lt_of_cell? _ _ q2)).trans q2;clear hb2))
  have hB2:=Lib.hid (hBW.out.1.trans (hb3.out.mono (by rw[hBW.out.2];omega)))
  clear q0 q1 q2 cC
  go_wp2_with fail
  -- the append
  obtain⟨i0,hi0,hz0,hs0,hb0⟩:=Ji
  have hsw2:=H.out.below hB2.out
  have hp2:PlAt w2 v l:=hsw2.at_ k v l hv hl
  obtain⟨T2,hblk2⟩:=hsw2.blk
  obtain⟨w2a,hw2a⟩:∃w2a,w2a=(w2.alloc (.cells #[.int .i64 x.1,.int .i64 x.2] 58)).drew:=⟨_,rfl⟩
  have hb2a:Below w2.heap.size w2 w2a:=by rw[hw2a];exact((Below.refl _ _).alloc (Nat.le_refl _) _).drew
  obtain⟨v',w3,hr,hsl,hgr,hown⟩:=qz (P:=Tryz.prog) w2a 120 120 58 i0 _ 2 16 Tryz.underlying120 hi0 hz0 hs0 hb0 rfl v l.length (pl l) (hp2.below hb2a) ⟨w2.heap.size,0,none⟩ 1 1 (pl [x]) rfl (by
    rw[hw2a]
    intro j u hu
    exact V7 w2 58 (pl [x]) j u hu) (zam [x]) (by simp only[maxLen];omega) (by omega)
  have hp3:PlAt w3 v' (l++[x]):=by
   show SlAt _ _ _ _ _ _
   rw[Q8,List.length_append]
   exact hsl
  have hownv:∀b,v.ownBlock=some b→b∈S∧b≠p:=fun b hb=>H.out.own k v b hv hb
  have hpw2:p<w2.heap.size:=Nat.lt_of_lt_of_le hp hB2.out.size
  have hpw3:w3.heap[p]?=some (.cells V.toArray T2 (0,0)):=by
   rw[hgr.block p (Nat.lt_of_lt_of_le hpw2 hb2a.size) (fun e=>(hownv p e.symm).2 rfl),hb2a.block p hpw2]
   exact hblk2
  have c3:w3.cell? ⟨p,k,none⟩=some v:=by rw[cell_of_row w3 p k _ _ _ hpw3];simpa using hv
  have f3:w3.frozen? ⟨p,k,none⟩=false:=by simp[World.frozen?,hpw3]
  have hsz2a:w2.heap.size<w2a.heap.size:=by rw[hw2a];show _<(w2.alloc _).heap.size;simp
  rw[hw2a]at hr
  obtain⟨b,off,c,rfl,hbw⟩:∃b off c,v'=.slice (some ⟨b,off,none⟩) (l.length+1) c∧b<w3.heap.size:=by
   rcases hp3.form with⟨_,e⟩|⟨b,off,c,e,_,_,hb⟩
   ·simp at e
   ·exact⟨b,off,c,by simpa using e,hb⟩
  have hbnew:v.ownBlock=some b∨w.heap.size≤b:=by
   rcases hown with e|e
   ·left;rw[←e];rfl
   ·right
    have:b=w2a.heap.size:=by simpa[Value.ownBlock]using e
    have:=hB2.out.size
    omega
  have hbp:b≠p:=by
   rcases hbnew with e|e
   ·exact(hownv b e).2
   ·omega
  have fin:Hid (Calls Tryz.prog 72 #[.slice (some ⟨b,off,none⟩) (l.length+1) c,.func (.func 73) #[] #[]] (w3.setCell ⟨p,k,none⟩ (.slice (some ⟨b,off,none⟩) (l.length+1) c)) fun e w5=>
    e=.returned (.tuple #[])∧∃S' V',ji w5 p S' V' (L.set k (putP l x))∧Touch S w w5∧∀b∈S',b∈S∨w.heap.size≤b):=by
   have hp4:PlAt (w3.setCell ⟨p,k,none⟩ (.slice (some ⟨b,off,none⟩) (l.length+1) c)) (.slice (some ⟨b,off,none⟩) (l++[x]).length c) (l++[x]):=by
    rw[List.length_append]
    refine hp3.keep fun b' hb'=>?_
    have:b'=b:=by simpa[Value.ownBlock]using hb'.symm
    subst this
    exact Below.heap_setCell w3 _ _ b' hbp
   have hrow:=Qz (k:=k) hpw3 (.slice (some ⟨b,off,none⟩) (l.length+1) c)
   have hS:=zdc _ b off c (l++[x]) hp4 (by simp;omega)
   rw[List.length_append]at hS
   refine hS.mono ?_
   rintro e w5 ⟨rfl,l',hperm,hsort,hp5,t5⟩
   refine⟨rfl,?_⟩
   rw[←ze0 hs hx hperm hsort]
   have hb4:∀j,j≠p→(w3.setCell ⟨p,k,none⟩ (.slice (some ⟨b,off,none⟩) (l.length+1) c)).heap[j]?=w3.heap[j]?:=fun j hj=>Below.heap_setCell w3 _ _ j (fun e=>hj e)
   have hs4:(w3.setCell ⟨p,k,none⟩ (.slice (some ⟨b,off,none⟩) (l.length+1) c)).heap.size=w3.heap.size:=by simp[World.setCell]
   have hpw3':=(Array.getElem?_eq_some_iff.1 hpw3).1
   refine H.out.put (v:=v) (v':=.slice (some ⟨b,off,none⟩) (l.length+1) c) hv ⟨T2,?_⟩ hp5 ?_ ?_ ?_ ?_ ?_ ?_
   ·rw[t5.block p (by rw[hs4];exact hpw3') (by simp;exact fun e=>hbp e.symm)]
    exact hrow
   ·intro b' hb'
    have:b'=b:=by simpa[Value.ownBlock]using hb'.symm
    subst this
    exact hbnew
   ·intro j hj hjp hjv
    have h1:j<w2.heap.size:=Nat.lt_of_lt_of_le hj hB2.out.size
    have h2:j<w2a.heap.size:=Nat.lt_of_lt_of_le h1 hb2a.size
    have hjb:j≠b:=fun e=>by
     subst e
     rcases hbnew with e|e
     ·exact hjv e
     ·omega
    rw[t5.block j (by rw[hs4];exact Nat.lt_of_lt_of_le h2 hgr.size) (by simpa using hjb),hb4 j hjp,hgr.block j h2 (fun e=>hjv e.symm),hb2a.block j h1,hB2.out.block j hj]
   ·exact t5.os.trans (hgr.os.trans (hb2a.os.trans hB2.out.os))
   ·exact t5.tape.trans (hgr.tape.trans (hb2a.tape.trans hB2.out.tape))
   ·exact t5.output.trans (hgr.output.trans (hb2a.output.trans hB2.out.output))
   ·have:=t5.size;rw[hs4]at this;have:=hgr.size;have:=hb2a.size;have:=hB2.out.size;omega
  have HR:=Lib.hid hr
  clear hr hsl hgr hown hp3 hpw3 hownv hw2a hb2a hsz2a hp2 hblk2 hsw2
  go_region_law (refine Xg rfl (.tmp 27) (.tmp 29) 120 rfl v _ _ w3 (by simp[Act.eval,Act.put]) (by simp[Act.eval,Act.put]) HR.out ?_)
  all_goals (go_wp2_with fail;refine fin.out.mono ?_;rintro e w5 ⟨rfl,S',V',h1,h2,h3⟩;have h1':=Lib.hid h1;have h2':=Lib.hid h2;have h3':=Lib.hid h3;clear h1 h2 h3;go_wp2_with fail;go_ret;exact⟨rfl,S',V',h1'.out,h2'.out,h3'.out⟩)
section
open Go Go.RowKit
variable {K:Int→Prop}
theorem zhn(L:Int→List (Int×Int))(f:Int){l:List (Int×Int)}(h:l=L f):updF L f l=L:=by
 funext g
 unfold updF
 split
 ·rename_i e;rw[e];exact h
 ·rfl
theorem zki(w:World)(p m:Nat)(S:List Nat)(V:List (Int×Value))(L:Int→List (Int×Int))(h:ut K w p m S V L)(f:Int)(x:Int×Int)(hs:yz (L f))(hlen:(L f).length≤100000)(hK:K f):
  Calls Tryz.prog 141 #[.pointer (some ⟨p,0,none⟩),.int .i64 f,.agg #[.int .i64 x.1,.int .i64 x.2]] w fun e w'=>e=.returned (.tuple #[])∧∃S' V',ut K w' p m S' V' (updF L f (putP (L f) x))∧Touch S w w'∧∀b∈S',b∈S∨w.heap.size≤b:=by
 obtain⟨hp,hm,hpm⟩:=h.ps
 have hc:=h.c0
 obtain⟨v,hv⟩:∃v,v=jv V f:=⟨_,rfl⟩
 obtain⟨l,hl⟩:∃l,l=L f:=⟨_,rfl⟩
 have hlook:∀W,Below w.heap.size w W→(Instr.lookup 212 (.map (some m)) (.int .i64 f) false).run Tryz.prog W=.ok v W:=fun W hW=>by rw[hv];exact(h.below hW).look f
 have hpl:PlAt w v l:=by rw[hv,hl];exact h.at_ f
 rw[←hl]at hlen hs⊢
 have H:=Lib.hid h
 have HPL:=Lib.hid hpl
 have HV:=Lib.hid hv
 have HL:=Lib.hid hlook
 have HLL:=Lib.hid hl
 clear h hpl hv hlook hl
 go_enter Tryz.func141,Tryz.ntmps141
 go_wp2_with fail
 obtain⟨W,hW⟩:∃W,W=(w.alloc (.cells #[.int .i64 x.1,.int .i64 x.2] 58)).drew:=⟨_,rfl⟩
 have q0:W.cell? ⟨p,0,none⟩=some (.map (some m)):=by rw[hW];go_simp
 have q1:W.cell? ⟨w.heap.size,0,none⟩=some (.int .i64 x.1):=by rw[hW];go_simp
 have q2:W.cell? ⟨w.heap.size,1,none⟩=some (.int .i64 x.2):=by rw[hW];go_simp
 have hBW:Hid (Below w.heap.size w W∧W.heap.size=w.heap.size+1):=by
  rw[hW]
  exact⟨((Below.refl _ _).alloc (Nat.le_refl _) _).drew,by show(w.alloc _).heap.size=_;simp⟩
 have hd:(w.alloc (.cells #[.int .i64 x.1,.int .i64 x.2] 58)).drew=W:=hW.symm
 have hlk:=HL.out W hBW.out.1
 clear hW hc
 have cC:Hid (∀W',Below w.heap.size w W'→Calls Tryz.prog 71 #[v,.agg #[.int .i64 x.1,.int .i64 x.2]] W' fun e w'=>e=.returned (.bool (decide (x∈l)))∧Below W'.heap.size W' w'):=fun W' hb=>Ud W' v l (HPL.out.below hb) x
 by_cases hx:x∈l
 ·rw[decide_eq_true hx]at cC
  have hput:putP l x=l:=by unfold putP;rw[if_pos hx]
  go_region_held (fun W'=>W'.cell? ⟨p,0,none⟩=some (.map (some m))∧W'.cell? ⟨w.heap.size,0,none⟩=some (.int .i64 x.1)∧W'.cell? ⟨w.heap.size,1,none⟩=some (.int .i64 x.2)) (go_keep)
   ((go_at_call 71;refine(cC.out _ hBW.out.1).mono ?_;rintro e w2 ⟨rfl,hb2⟩;have hb3:=Lib.hid hb2;have q0':=(hb2.cell (World.block_lt_of_cell? _ _ q0)).trans q0;have q1':=(hb2.cell (World.block_lt_of_cell? _ _ q1)).trans q1;have q2':=(hb2.cell (World.block_lt_of_cell? _ _ q2)).trans q2;clear hb2))
  have hB2:=Lib.hid (hBW.out.1.trans (hb3.out.mono (by rw[hBW.out.2];omega)))
  go_wp2_with fail
  refine bodyPost_ret (v:=.tuple #[]) (by simp[results,Tryz.results141,go_sem]) rfl ⟨rfl,?_⟩
  rw[hput,zhn L f HLL.out]
  exact⟨S,V,H.out.below hB2.out,Touch.of_below hB2.out,fun b hb=>.inl hb⟩
 ·rw[decide_eq_false hx]at cC
  go_region_held (fun W'=>W'.cell? ⟨p,0,none⟩=some (.map (some m))∧W'.cell? ⟨w.heap.size,0,none⟩=some (.int .i64 x.1)∧W'.cell? ⟨w.heap.size,1,none⟩=some (.int .i64 x.2)) (go_keep)
   ((go_at_call 71;refine(cC.out _ hBW.out.1).mono ?_;rintro e w2 ⟨rfl,hb2⟩;have hb3:=Lib.hid hb2;have q0':=(hb2.cell (World.block_lt_of_cell? _ _ q0)).trans q0;have q1':=(hb2.cell (World.block_lt_of_cell? _ _ q1)).trans q1;have q2':=(hb2.cell (World.block_lt_of_cell? _ _ q2)).trans q2;clear hb2))
  have hB2:=Lib.hid (hBW.out.1.trans (hb3.out.mono (by rw[hBW.out.2];omega)))
  clear q0 q1 q2 cC hlk
  go_wp2_with fail
  obtain⟨W2,hW2⟩:∃W2,W2=w2.drew:=⟨_,rfl⟩
  have hB3:Hid (Below w.heap.size w W2):=by rw[hW2];exact hB2.out.drew
  have r0:W2.cell? ⟨p,0,none⟩=some (.map (some m)):=by rw[hW2];go_simp
  have r1:W2.cell? ⟨w.heap.size,0,none⟩=some (.int .i64 x.1):=by rw[hW2];go_simp
  have r2:W2.cell? ⟨w.heap.size,1,none⟩=some (.int .i64 x.2):=by rw[hW2];go_simp
  have hd2:w2.drew=W2:=hW2.symm
  have hlk2:=HL.out W2 hB3.out
  clear hW2 q0' q1' q2'
  obtain⟨W3,hW3⟩:∃W3,W3=W2.alloc (.cells #[.int .i64 x.1,.int .i64 x.2] 58):=⟨_,rfl⟩
  have hb3':Hid (Below W2.heap.size W2 W3):=by rw[hW3];exact(Below.refl _ _).alloc (Nat.le_refl _) _
  have hlk3:=HL.out W3 (hB3.out.trans (hb3'.out.mono hB3.out.size))
  have r30:=(hb3'.out.cell (World.block_lt_of_cell? _ _ r0)).trans r0
  have r31:=(hb3'.out.cell (World.block_lt_of_cell? _ _ r1)).trans r1
  have r32:=(hb3'.out.cell (World.block_lt_of_cell? _ _ r2)).trans r2
  have hd3:W2.alloc (.cells #[.int .i64 x.1,.int .i64 x.2] 58)=W3:=hW3.symm
  obtain⟨i0,hi0,hz0,hs0,hby0⟩:=Ji
  have hB4:=Lib.hid (hB3.out.trans (hb3'.out.mono hB3.out.size))
  obtain⟨v',w3,hr,hsl,hgr,hown⟩:=qz (P:=Tryz.prog) W3 120 120 58 i0 _ 2 16 Tryz.underlying120 hi0 hz0 hs0 hby0 rfl v l.length (pl l) (HPL.out.below hB4.out) ⟨W2.heap.size,0,none⟩ 1 1 (pl [x]) rfl (by
    rw[hW3]
    intro j u hu
    exact V7 W2 58 (pl [x]) j u hu) (zam [x]) (by simp only[maxLen];omega) (by omega)
  have hp3:PlAt w3 v' (l++[x]):=by
   show SlAt _ _ _ _ _ _
   rw[Q8,List.length_append]
   exact hsl
  have hownv:∀b,v.ownBlock=some b→b∈S∧b≠p∧b≠m:=fun b hb=>H.out.own f b (by rw[←HV.out];exact hb)
  have hps3:=(H.out.below hB4.out).ps
  have hm3:MapAt w3 m xw idV V:=(H.out.below hB4.out).map.keep (hgr.block m hps3.2.1 (fun e=>(hownv m e.symm).2.2 rfl))
  have r40:w3.cell? ⟨p,0,none⟩=some (.map (some m)):=(World.cell?_of_block (w:=W3) (hgr.block p hps3.1 (fun e=>(hownv p e.symm).2.1 rfl))).trans r30
  have hW3lt:w.heap.size<W3.heap.size:=World.block_lt_of_cell? _ _ r31
  have r41:w3.cell? ⟨w.heap.size,0,none⟩=some (.int .i64 x.1):=(World.cell?_of_block (w:=W3) (hgr.block w.heap.size hW3lt (fun e=>by have:=SlAt.lt HPL.out w.heap.size e.symm;omega))).trans r31
  have r42:w3.cell? ⟨w.heap.size,1,none⟩=some (.int .i64 x.2):=(World.cell?_of_block (w:=W3) (hgr.block w.heap.size hW3lt (fun e=>by have:=SlAt.lt HPL.out w.heap.size e.symm;omega))).trans r32
  obtain⟨w4,hr4,M4,g4,z4⟩:=Yr (T:=212) Uw Tryz.underlying212 hm3 f v'
  obtain⟨b,off,c,rfl,hbw⟩:∃b off c,v'=.slice (some ⟨b,off,none⟩) (l.length+1) c∧b<w3.heap.size:=by
   rcases hp3.form with⟨_,e⟩|⟨b,off,c,e,_,_,hb⟩
   ·simp at e
   ·exact⟨b,off,c,by simpa using e,hb⟩
  have hbnew:v.ownBlock=some b∨w.heap.size≤b:=by
   rcases hown with e|e
   ·left;rw[←e];rfl
   ·right
    have:b=W3.heap.size:=by simpa[Value.ownBlock]using e
    have:=hB4.out.size
    omega
  have hbm:b≠m:=by
   rcases hbnew with e|e
   ·exact(hownv b e).2.2
   ·omega
  have hg4p:∀j,j<w3.heap.size→j≠m→w4.heap[j]?=w3.heap[j]?:=fun j hj hjm=>g4.block j hj (by simp;exact hjm)
  obtain⟨S1,hA1,hT1,hN1⟩:=H.out.set (f:=f) (v':=.slice (some ⟨b,off,none⟩) (l.length+1) c) (l':=l++[x]) (Xh V f _) (Zq V f _ H.out.nd).1 (zfh H.out.keys H.out.nd f _ hK) M4
   (hp3.keep fun b' hb'=>by
    have:b'=b:=by simpa[Value.ownBlock]using hb'.symm
    subst this
    exact hg4p b' hbw hbm)
   (fun b' hb'=>by
    have:b'=b:=by simpa[Value.ownBlock]using hb'.symm
    subst this
    rw[←HV.out];exact hbnew)
   (fun j hj hjm hjv=>by
    have h1:j<W3.heap.size:=Nat.lt_of_lt_of_le hj hB4.out.size
    rw[hg4p j (Nat.lt_of_lt_of_le h1 hgr.size) hjm,hgr.block j h1 (fun e=>hjv (by rw[←HV.out];exact e.symm)),hB4.out.block j hj])
   (g4.os.trans (hgr.os.trans hB4.out.os)) (g4.tape.trans (hgr.tape.trans hB4.out.tape)) (g4.output.trans (hgr.output.trans hB4.out.output))
   (by have:=g4.size;have:=hgr.size;have:=hB4.out.size;omega)
  have k0:=hA1.c0
  have k1:w4.cell? ⟨w.heap.size,0,none⟩=some (.int .i64 x.1):=(World.cell?_of_block (w:=w3) (hg4p w.heap.size (World.block_lt_of_cell? _ _ r41) (show w.heap.size≠m by omega))).trans r41
  have k2:w4.cell? ⟨w.heap.size,1,none⟩=some (.int .i64 x.2):=(World.cell?_of_block (w:=w3) (hg4p w.heap.size (World.block_lt_of_cell? _ _ r41) (show w.heap.size≠m by omega))).trans r42
  have HA1:=Lib.hid hA1
  have HT1:=Lib.hid hT1
  have HN1:=Lib.hid hN1
  unfold idV xw at hr4
  rw[hW3]at hr
  have HP3:=Lib.hid hp3
  have HBM:=Lib.hid hbm
  clear hA1 hT1 hN1 hp3 hsl hgr hown hownv hm3 M4 g4 z4 hg4p hps3 hbnew hW3lt hbm hbw
  rw[←hW3]at hr
  clear hW3 hp hm hpm
  have hslot:jv (updL V f (.slice (some ⟨b,off,none⟩) (l.length+1) c)) f=.slice (some ⟨b,off,none⟩) (l.length+1) c:=by rw[Xh,if_pos rfl]
  have hlk4:(Instr.lookup 212 (.map (some m)) (.int .i64 f) false).run Tryz.prog w4=.ok (.slice (some ⟨b,off,none⟩) (l.length+1) c) w4:=by
   have:=HA1.out.look f
   rwa[hslot]at this
  have fin:Hid (Calls Tryz.prog 72 #[.slice (some ⟨b,off,none⟩) (l.length+1) c,.func (.func 73) #[] #[]] w4 fun e w5=>
    e=.returned (.tuple #[])∧∃S' V',ut K w5 p m S' V' (updF L f (putP l x))∧Touch S w w5∧∀b∈S',b∈S∨w.heap.size≤b):=by
   have hp4:PlAt w4 (.slice (some ⟨b,off,none⟩) (l++[x]).length c) (l++[x]):=by
    have h:=HA1.out.at_ f
    rw[hslot]at h
    unfold updF at h
    rw[if_pos rfl]at h
    rw[List.length_append]
    exact h
   have hS:=zdc w4 b off c (l++[x]) hp4 (by simp;omega)
   rw[List.length_append]at hS
   refine hS.mono ?_
   rintro e w5 ⟨rfl,l',hperm,hsort,hp5,t5⟩
   refine⟨rfl,?_⟩
   rw[←ze0 hs hx hperm hsort]
   have hps:=HA1.out.ps
   have hbS:=HA1.out.own f b (by rw[hslot];rfl)
   obtain⟨S'',h1,h2,h3⟩:=HA1.out.set (f:=f) (v':=.slice (some ⟨b,off,none⟩) (l.length+1) c) (l':=l') (V':=updL V f (.slice (some ⟨b,off,none⟩) (l.length+1) c))
    (fun g=>by
     rw[Xh]
     split<;>rfl) HA1.out.nd HA1.out.keys (HA1.out.map.keep (t5.block m hps.2.1 (by simp;exact fun e=>hbS.2.2 e.symm))) hp5 (fun b' hb'=>.inl (by rw[hslot];exact hb'))
    (fun j hj _ hjv=>t5.block j hj (by
     simp only[List.mem_singleton]
     intro e
     rw[hslot]at hjv
     exact hjv (by rw[e];rfl))) t5.os t5.tape t5.output t5.size
   rw[zab]at h1
   refine⟨S'',_,h1,HT1.out.next h2 HN1.out,fun b hb=>?_⟩
   rcases h3 b hb with e|e
   ·exact HN1.out b e
   ·have:=HT1.out.size;omega
  clear hslot
  have HR:=Lib.hid hr
  clear hr
  go_region_law (refine Xg rfl (.tmp 28) (.tmp 30) 120 rfl v _ _ w3 (by simp[Act.eval]) (by simp[Act.eval]) HR.out ?_)
  all_goals (go_wp2_with fail;refine fin.out.mono ?_;rintro e w5 ⟨rfl,hx5⟩;have HX5:=Lib.hid hx5;clear hx5;go_wp2_with fail;exact bodyPost_end (v:=.tuple #[]) (by simp[results,Tryz.results141,go_sem]) rfl ⟨rfl,HX5.out⟩)
end
abbrev zbv:=List ((Int×Int)×(Int×Bool))
abbrev zdm:=List (Int×(Int×Int))
section
variable {w w':World}{p m1 m2:Nat}{l:zbv}{r:zdm}
theorem x8.ps(h:x8 w p m1 m2 l r):p<w.heap.size∧m1<w.heap.size∧m2<w.heap.size∧p≠m1∧p≠m2∧m1≠m2:=by
 obtain⟨h0,h1,hM,hR,hne⟩:=h
 refine⟨World.block_lt_of_cell? w _ h0,hM.lt,hR.lt,fun e=>?_,fun e=>?_,hne⟩
 ·subst e;obtain⟨es,c,hb,_⟩:=hM;simp[World.cell?,hb]at h0
 ·subst e;obtain⟨es,c,hb,_⟩:=hR;simp[World.cell?,hb]at h0
theorem x8.keep(h:x8 w p m1 m2 l r)(hb:∀k,k=p∨k=m1∨k=m2→w'.heap[k]?=w.heap[k]?):x8 w' p m1 m2 l r:=by
 obtain⟨h0,h1,hM,hR,hne⟩:=h
 exact⟨(World.cell?_of_block (w:=w) (hb p (.inl rfl))).trans h0,(World.cell?_of_block (w:=w) (hb p (.inl rfl))).trans h1,hM.keep (hb m1 (.inr (.inl rfl))),hR.keep (hb m2 (.inr (.inr rfl))),hne⟩
theorem x8.touch{S:List Nat}(h:x8 w p m1 m2 l r)(ht:Touch S w w')(hS:p∉S∧m1∉S∧m2∉S):x8 w' p m1 m2 l r:=
 h.keep fun k hk=>ht.block k (by have:=h.ps;omega) (by
  rcases hk with rfl|rfl|rfl
  ·exact hS.1
  ·exact hS.2.1
  ·exact hS.2.2)
theorem x8.both{l':zbv}{r':zdm}(h:x8 w p m1 m2 l r)(ht:Touch [m1,m2] w w')(hM:MapAt w' m1 yf ve l')(hR:MapAt w' m2 xw yf r'):x8 w' p m1 m2 l' r':=by
 have hps:=h.ps
 obtain⟨h0,h1,_,_,hne⟩:=h
 exact⟨ht.cell h0 (by simp;omega),ht.cell h1 (by simp;omega),hM,hR,hne⟩
theorem x8.first{l':zbv}(h:x8 w p m1 m2 l r)(ht:Touch [m1] w w')(hM:MapAt w' m1 yf ve l'):x8 w' p m1 m2 l' r:=by
 have hps:=h.ps
 exact h.both (ht.mono fun k _ hk=>by simp at hk⊢;exact .inl hk) hM (h.2.2.2.1.keep (ht.block m2 hps.2.2.1 (by simp;omega)))
theorem x8.below(h:x8 w p m1 m2 l r)(hb:Below w.heap.size w w'):x8 w' p m1 m2 l r:=h.keep fun k hk=>hb.block k (by have:=h.ps;omega)
end
section
variable (w:World)(p m1 m2:Nat)(l:zbv)(r:zdm)(h:x8 w p m1 m2 l r)(k:Int×Int)
include h
theorem zhc:Calls Tryz.prog 96 #[.pointer (some ⟨p,0,none⟩),.agg #[.int .i64 k.1,.int .i64 k.2]] w fun e w'=>e=.returned (.tuple #[.int .i64 ((getL l k).getD (0,false)).1,.bool (getL l k).isSome])∧Below w.heap.size w w':=by
 have hc:=Yt _ p m1 m2 l r (h.below ((Below.refl _ _).alloc (Nat.le_refl _) (.cells #[.int .i64 k.1,.int .i64 k.2] 133))) k
 generalize (getL l k).getD (0,false)=x at hc⊢
 generalize (getL l k).isSome=b at hc⊢
 have HC:=Lib.hid hc
 clear hc h
 go_enter Tryz.func96,Tryz.ntmps96
 go_wp2_with fail
 refine HC.out.mono ?_
 rintro e w1 ⟨rfl,hb⟩
 have HB:=Lib.hid hb
 clear hb
 unfold ve
 go_wp2_with fail
 go_ret2
 have hb:=HB.out
 exact⟨rfl,((((Below.refl _ w).alloc (Nat.le_refl _) _).trans (hb.mono (by simp))).alloc (by have:=hb.size;simp at this;omega) _)⟩
theorem zka(d:Bool):Calls Tryz.prog 86 #[.pointer (some ⟨p,0,none⟩),.agg #[.int .i64 k.1,.int .i64 k.2],.bool d] w fun e w'=>e=.returned (.bool (getL l k).isSome)∧Touch [m1] w w'∧
  x8 w' p m1 m2 (match getL l k with|some x=>updL l k (x.1,d)|none=>l) r:=by
 have hps:=h.ps
 have hc:=Yt _ p m1 m2 l r (h.below ((Below.refl _ _).alloc (Nat.le_refl _) (.cells #[.int .i64 k.1,.int .i64 k.2] 133))) k
 obtain⟨y,hy⟩:∃y,y=getL l k:=⟨_,rfl⟩
 rw[←hy]at hc⊢
 have HC:=Lib.hid hc
 have HY:=Lib.hid hy
 have HH:=Lib.hid h
 clear hc h hy
 go_enter Tryz.func86,Tryz.ntmps86
 go_wp2_with fail
 refine HC.out.mono ?_
 rintro e w1 ⟨rfl,hb⟩
 have hk0:w1.cell? ⟨w.heap.size,0,none⟩=some (.int .i64 k.1):=(hb.cell (p:=⟨w.heap.size,0,none⟩) (by simp)).trans (by go_simp)
 have hk1:w1.cell? ⟨w.heap.size,1,none⟩=some (.int .i64 k.2):=(hb.cell (p:=⟨w.heap.size,1,none⟩) (by simp)).trans (by go_simp)
 have hlt:w.heap.size<w1.heap.size:=by have:=hb.size;simp at this;omega
 have HB:=Lib.hid (((Below.refl _ w).alloc (Nat.le_refl _) _).trans (hb.mono (by simp)))
 clear hb
 cases y with
 | none=>
  unfold ve
  clear hk0 hk1
  go_wp2_with fail
  go_ret
  have hb:=HB.out.alloc HB.out.size (.cells #[.int .i64 0,.bool false] 207)
  exact⟨rfl,.of_below hb,HH.out.below hb⟩
 | some x=>
  have hC1:=HH.out.below HB.out
  obtain⟨c0,c1,hM,hR,hne⟩:=hC1
  have hM2:=(hM.below ((Below.refl _ _).alloc (Nat.le_refl _) (.cells #[.int .i64 x.1,.bool x.2] 207))).below (Below.refl _ _).drew
  obtain⟨w3,hrun,hM3,hg3,hs3⟩:=Yr (T:=202) zn9 Tryz.underlying202 hM2 k (x.1,d)
  unfold yf ve at hrun
  have HM3:=Lib.hid hM3
  have HG3:=Lib.hid hg3
  have hpl:p<w1.heap.size:=World.block_lt_of_cell? w1 _ c0
  clear hM hR hM2 hM3 hg3 hs3 c1
  simp only[Option.getD_some,Option.isSome_some]
  unfold ve
  go_wp2_with fail
  go_region
  all_goals go_wp2_with fail
  go_ret
  have ht:Touch [m1] w w3:=(Touch.of_below ((HB.out.alloc HB.out.size _).drew)).trans (.Zz HG3.out (by simp))
  exact⟨rfl,ht,HH.out.first ht HM3.out⟩
theorem zot(f:Int):Calls Tryz.prog 82 #[.pointer (some ⟨p,0,none⟩),.int .i64 f] w fun e w'=>e=.returned (.tuple #[yf ((getL r f).getD (0,0)),.bool (getL r f).isSome])∧Below w.heap.size w w':=by
 have hps:=h.ps
 obtain⟨h0,h1,hM,hR,hne⟩:=h
 have run:∀o,(Instr.lookup 203 (.map (some m2)) (.int .i64 f) true).run Tryz.prog (w.alloc o)=.ok (.tuple #[yf ((getL r f).getD (0,0)),.bool (getL r f).isSome]) (w.alloc o):=fun o=>by
  have:=jm (T:=203) Uw Tryz.underlying203 (yf (0,0)) za1 (hR.below ((Below.refl _ _).alloc (Nat.le_refl _) o)) f true
  rw[if_pos rfl]at this
  refine this.trans ?_
  cases getL r f<;>rfl
 generalize (getL r f).getD (0,0)=x at run⊢
 generalize (getL r f).isSome=b at run⊢
 unfold yf at run⊢
 clear hM hR h0
 have hpl:=hps.1
 go_enter Tryz.func82,Tryz.ntmps82
 go_wp2_with fail
 refine bodyPost_ret (v:=.tuple #[.agg #[.int .i64 x.1,.int .i64 x.2],.bool b]) (by simp[results,Tryz.results82,go_sem]) rfl ⟨rfl,?_⟩
 exact((Below.refl _ _).alloc (Nat.le_refl _) _).alloc (by simp) _
theorem zj7(f:Int)(hy:(getL l k).isSome=true):Calls Tryz.prog 85 #[.pointer (some ⟨p,0,none⟩),.agg #[.int .i64 k.1,.int .i64 k.2],.int .i64 f] w fun e w'=>e=.returned (.bool false)∧Below w.heap.size w w':=by
 have hc:=Yt _ p m1 m2 l r (h.below ((Below.refl _ _).alloc (Nat.le_refl _) (.cells #[.int .i64 k.1,.int .i64 k.2] 133))) k
 rw[hy]at hc
 generalize (getL l k).getD (0,false)=x at hc
 have HC:=Lib.hid hc
 clear hc h hy
 go_enter Tryz.func85,Tryz.ntmps85
 go_wp2_with fail
 refine HC.out.mono ?_
 rintro e w1 ⟨rfl,hb⟩
 have HB:=Lib.hid (((Below.refl _ w).alloc (Nat.le_refl _) _).trans (hb.mono (by simp)))
 clear hb
 unfold ve
 go_wp2_with fail
 go_ret
 exact⟨rfl,HB.out.alloc HB.out.size _⟩
theorem zmn(f:Int)(hy:(getL l k).isSome=false)(hf:(getL r f).isSome=true):Calls Tryz.prog 85 #[.pointer (some ⟨p,0,none⟩),.agg #[.int .i64 k.1,.int .i64 k.2],.int .i64 f] w fun e w'=>e=.returned (.bool false)∧Below w.heap.size w w':=by
 have hc:=Yt _ p m1 m2 l r (h.below ((Below.refl _ _).alloc (Nat.le_refl _) (.cells #[.int .i64 k.1,.int .i64 k.2] 133))) k
 rw[hy]at hc
 generalize (getL l k).getD (0,false)=x at hc
 have HC:=Lib.hid hc
 have HH:=Lib.hid h
 have HF:=Lib.hid hf
 clear hc h hy hf
 go_enter Tryz.func85,Tryz.ntmps85
 go_wp2_with fail
 refine HC.out.mono ?_
 rintro e w1 ⟨rfl,hb⟩
 have HB:=Lib.hid (((Below.refl _ w).alloc (Nat.le_refl _) _).trans (hb.mono (by simp)))
 clear hb
 obtain⟨c0,c1,hM,hR,hne⟩:=HH.out.below HB.out
 have hpl:p<w1.heap.size:=World.block_lt_of_cell? w1 _ c0
 have run:∀o,(Instr.lookup 203 (.map (some m2)) (.int .i64 f) true).run Tryz.prog (w1.alloc o)=.ok (.tuple #[yf ((getL r f).getD (0,0)),.bool true]) (w1.alloc o):=fun o=>by
  have:=jm (T:=203) Uw Tryz.underlying203 (yf (0,0)) za1 (hR.below ((Below.refl _ _).alloc (Nat.le_refl _) o)) f true
  rw[if_pos rfl,HF.out]at this
  refine this.trans ?_
  cases getL r f<;>rfl
 generalize (getL r f).getD (0,0)=y at run
 unfold yf at run
 clear hM hR hne c0
 unfold ve
 go_wp2_with fail
 go_ret
 exact⟨rfl,(HB.out.alloc HB.out.size _).alloc (by have:=HB.out.size;simp;omega) _⟩
theorem zoq(f:Int)(hy:getL l k=none)(hf:getL r f=none):Calls Tryz.prog 85 #[.pointer (some ⟨p,0,none⟩),.agg #[.int .i64 k.1,.int .i64 k.2],.int .i64 f] w fun e w'=>e=.returned (.bool true)∧Touch [m1,m2] w w'∧
  x8 w' p m1 m2 (updL l k (f,false)) (updL r f k):=by
 have hps:=h.ps
 have hc:=Yt _ p m1 m2 l r (h.below ((Below.refl _ _).alloc (Nat.le_refl _) (.cells #[.int .i64 k.1,.int .i64 k.2] 133))) k
 rw[hy]at hc
 simp only[Option.getD_none,Option.isSome_none]at hc
 have HC:=Lib.hid hc
 have HH:=Lib.hid h
 have HF:=Lib.hid hf
 have HY:=Lib.hid hy
 clear hc h hy hf
 go_enter Tryz.func85,Tryz.ntmps85
 go_wp2_with fail
 refine HC.out.mono ?_
 rintro e w1 ⟨rfl,hb⟩
 have hk0:w1.cell? ⟨w.heap.size,0,none⟩=some (.int .i64 k.1):=(hb.cell (p:=⟨w.heap.size,0,none⟩) (by simp)).trans (by go_simp)
 have hk1:w1.cell? ⟨w.heap.size,1,none⟩=some (.int .i64 k.2):=(hb.cell (p:=⟨w.heap.size,1,none⟩) (by simp)).trans (by go_simp)
 have hlt:w.heap.size<w1.heap.size:=by have:=hb.size;simp at this;omega
 have HB:=Lib.hid (((Below.refl _ w).alloc (Nat.le_refl _) _).trans (hb.mono (by simp)))
 clear hb
 obtain⟨c0,c1,hM,hR,hne⟩:=HH.out.below HB.out
 have hpl:p<w1.heap.size:=World.block_lt_of_cell? w1 _ c0
 have hm1:m1<w1.heap.size:=hM.lt
 have run:∀o,(Instr.lookup 203 (.map (some m2)) (.int .i64 f) true).run Tryz.prog (w1.alloc o)=.ok (.tuple #[.agg #[.int .i64 0,.int .i64 0],.bool false]) (w1.alloc o):=fun o=>by
  have:=jm (T:=203) Uw Tryz.underlying203 (yf (0,0)) za1 (hR.below ((Below.refl _ _).alloc (Nat.le_refl _) o)) f true
  rw[if_pos rfl,HF.out]at this
  exact this
 have hbel:Below w1.heap.size w1 ((w1.alloc (.cells #[.int .i64 0,.bool false] 207)).alloc (.cells #[.int .i64 0,.int .i64 0] 133)).drew:=(((Below.refl _ _).alloc (Nat.le_refl _) _).alloc (by simp) _).drew
 have HM:=Lib.hid hM
 have HR:=Lib.hid hR
 have HNE:=Lib.hid hne
 clear hM hR hne
 unfold ve
 go_wp2_with fail
 generalize (w1.alloc (.cells #[.int .i64 0,.bool false] 207)).alloc (.cells #[.int .i64 0,.int .i64 0] 133)=W at hbel⊢
 have hW0:W.cell? ⟨p,0,none⟩=some (.map (some m1)):=(hbel.cell hpl).trans c0
 have hW1:W.cell? ⟨p,1,none⟩=some (.map (some m2)):=(hbel.cell hpl).trans c1
 have hW2:W.cell? ⟨w.heap.size,0,none⟩=some (.int .i64 k.1):=(hbel.cell hlt).trans hk0
 have hW3:W.cell? ⟨w.heap.size,1,none⟩=some (.int .i64 k.2):=(hbel.cell hlt).trans hk1
 -- the entries of the two maps
 obtain⟨w2,s2,hr2,g2,z2,st2⟩:=zc7 (T:=202) zn9 Tryz.underlying202 (ve (0,false)) zbx (HM.out.below hbel) k
 obtain⟨w3,hr3,M3,g3,z3⟩:=st2 (f,false) 202 w2 rfl
 have R3:MapAt w3 m2 xw yf r:=((HR.out.below hbel).grown g2 (by simp;exact Ne.symm HNE.out)).grown g3 (by simp;exact Ne.symm HNE.out)
 obtain⟨w4,s4,hr4,g4,z4,st4⟩:=zc7 (T:=203) Uw Tryz.underlying203 (yf (0,0)) za1 R3 f
 obtain⟨w5,hr5,M5,g5,z5⟩:=st4 k 203 w4 rfl
 rw[HY.out]at hr2
 rw[HF.out]at hr4
 have hWp:w.heap.size<W.heap.size:=Nat.lt_of_lt_of_le hlt hbel.size
 have kk:∀(a b:World) (m:Nat),a.grownBy b (some m)→m≠w.heap.size→w.heap.size<a.heap.size→∀j,b.cell? ⟨w.heap.size,j,none⟩=a.cell? ⟨w.heap.size,j,none⟩:=fun a b m g hn hl j=>World.cell?_of_block (w:=a) (g.block w.heap.size hl (by simp;omega))
 have n1:m1≠w.heap.size:=by omega
 have n2:m2≠w.heap.size:=by omega
 have y20:=(kk _ _ _ g2 n1 hWp 0).trans hW2
 have y21:=(kk _ _ _ g2 n1 hWp 1).trans hW3
 have l2:w.heap.size<w2.heap.size:=Nat.lt_of_lt_of_le hWp g2.size
 have y30:=(kk _ _ _ g3 n1 l2 0).trans y20
 have y31:=(kk _ _ _ g3 n1 l2 1).trans y21
 have l3:w.heap.size<w3.heap.size:=Nat.lt_of_lt_of_le l2 g3.size
 have y40:=(kk _ _ _ g4 n2 l3 0).trans y30
 have y41:=(kk _ _ _ g4 n2 l3 1).trans y31
 have ht:Touch [m1,m2] w w5:=(Touch.of_below (HB.out.trans (hbel.mono HB.out.size))).trans (((Touch.Zz g2 (by simp)).trans (.Zz g3 (by simp))).trans ((Touch.Zz g4 (by simp)).trans (.Zz g5 (by simp))))
 have hM5:MapAt w5 m1 yf ve (updL l k (f,false)):=(M3.grown g4 (by simp;exact HNE.out)).grown g5 (by simp;exact HNE.out)
 have HT:=Lib.hid ht
 have HM5:=Lib.hid hM5
 have HR5:=Lib.hid M5
 clear ht hM5 M5 st4 st2 g2 g3 g4 g5 z2 z3 z4 z5 M3 R3 kk
 unfold yf at hr2 hr5 hr4
 unfold xw at hr4
 unfold ve at hr2 hr3
 go_region
 all_goals go_wp2_with fail
 go_ret
 exact⟨rfl,HT.out,HH.out.both HT.out HM5.out HR5.out⟩
end
theorem zj9(w:World):Calls Tryz.prog 116 #[] w fun e w'=>e=.returned (.pointer (some ⟨w.heap.size+2,0,none⟩))∧Below w.heap.size w w'∧x8 w' (w.heap.size+2) w.heap.size (w.heap.size+1) [] []:=by
 have hmm:=@run_makeMap Tryz.prog
 go_enter Tryz.func116,Tryz.ntmps116
 go_wp2_with fail
 go_ret
 have m1:=MapAt.made (κ:=Int×Int) (ν:=Int×Bool) w yf ve
 have m2:=MapAt.made (κ:=Int) (ν:=Int×Int) (w.alloc (.map #[] 0)) xw yf
 rw[World.size_alloc]at m2
 have b3:=(Below.refl ((w.alloc (.map #[] 0)).alloc (.map #[] 0)).heap.size _).alloc (Nat.le_refl _) (.cells #[.map (some w.heap.size),.map (some (w.heap.size+1))] 205)
 have hb:=heap_alloc_new ((w.alloc (.map #[] 0)).alloc (.map #[] 0)) (.cells #[.map (some w.heap.size),.map (some (w.heap.size+1))] 205)
 rw[World.size_alloc,World.size_alloc]at hb
 refine⟨rfl,(((Below.refl _ _).alloc (Nat.le_refl _) _).alloc (by simp) _).alloc (by simp;omega) _,?_,?_,?_,?_,by omega⟩
 ·rw[cell_of_row _ _ 0 _ _ _ hb];rfl
 ·rw[cell_of_row _ _ 1 _ _ _ hb];rfl
 ·exact(m1.below ((Below.refl _ _).alloc (Nat.le_refl _) _)).below b3
 ·exact m2.below b3
theorem zf1(w:World)(p:Nat)(S:List Nat)(V:List Value)(L:List (List (Int×Int)))(h:ji w p S V L)(k:Nat)(l:List (Int×Int))(hl:L[k]?=some l)(hlen:l.length≤1000000):
  Calls Tryz.prog 112 #[.pointer (some ⟨p,0,none⟩),.int .i64 k] w fun e w'=>∃v',e=.returned v'∧PlAt w' v' l∧Below w.heap.size w w'∧∀b,v'.ownBlock=some b→w.heap.size≤b:=by
 have hk:k<32:=by have:=(List.getElem?_eq_some_iff.1 hl).1;rw[h.lenL]at this;exact this
 obtain⟨v,hv⟩:∃v,V[k]?=some v:=⟨_,List.getElem?_eq_getElem (by rw[h.lenV];exact hk)⟩
 obtain⟨T,hblk⟩:=h.blk
 have hp:p<w.heap.size:=(Array.getElem?_eq_some_iff.1 hblk).1
 have hc:w.cell? ⟨p,k,none⟩=some v:=by rw[cell_of_row w p k _ _ _ hblk];simpa using hv
 have cl:=Lib.hid (fun W (hW:Below w.heap.size w W)=>zaz W v l ((h.at_ k v l hv hl).below hW) hlen)
 have hk0:(0:Int)≤k:=by omega
 have hk1:(k:Int)<32:=by omega
 clear h hblk
 go_enter Tryz.func112,Tryz.ntmps112
 go_wp2_with fail
 refine(Qu _ _ k hk).mono ?_
 rintro e w1 ⟨rfl,rfl⟩
 go_wp2_with fail
 refine(cl.out _ (Below.refl _ _)).mono ?_
 rintro e w2 ⟨v2,rfl,hp2,hb2,ho2⟩
 have H2:=Lib.hid (And.intro hp2 (And.intro hb2 ho2))
 clear hp2 hb2 ho2
 go_wp2_with fail
 refine(zdk w2 v2 l H2.out.1).mono ?_
 rintro e w3 ⟨v3,rfl,hp3,rfl,ho3⟩
 have H3:=Lib.hid (And.intro hp3 ho3)
 clear hp3 ho3
 go_wp2_with fail
 go_ret
 exact⟨v3,rfl,H3.out.1,H2.out.2.1,fun b hb=>H2.out.2.2 b (by rw[←H3.out.2];exact hb)⟩
theorem ziu(V:List Value)(k:Nat)(v:Value)(hk:(k:Int)<32)(hv:V[k]?=some v)(W:World):(Instr.index 121 (.agg V.toArray) (.int .i64 k)).run Tryz.prog W=.ok v W:=by
 have z:=Tryz.sizeOf120
 have a:=Tryz.isAgg120
 have h0:(0:Int)≤k:=by omega
 have hva:V.toArray[k]?=some v:=by simpa using hv
 simp[Instr.index,run_underlying Tryz.underlying121,asIntOf,part,h0,z,a,hv]
 intro h
 omega
def Zm:List (List (Int×Int))→Nat→Option Nat
 | [],_=>none
 | l::r,i=>if l=[]then some i else Zm r (i+1)
def Xf(L:List (List (Int×Int))):Int×Bool:=match Zm L 0 with
 | some i=>(i,true)
 | none=>(0,false)
theorem V5(L:List (List (Int×Int)))(k:Nat)(h:∀j l,j<k→L[j]?=some l→l≠[])(i:Nat):Zm L i=Zm (L.drop k) (i+k):=by
 induction k generalizing L i with
 | zero=>simp
 | succ k ih=>
  cases L with
  | nil=>simp[Zm]
  | cons x L=>
   have h0:=h 0 x (by omega) rfl
   rw[Zm,if_neg h0,List.drop_succ_cons,ih L (fun j l hj hl=>h (j+1) l (by omega) (by simpa using hl)) (i+1)]
   congr 1;omega
set_option maxHeartbeats 400000 in
theorem zj4(w:World)(p:Nat)(S:List Nat)(V:List Value)(L:List (List (Int×Int)))(h:ji w p S V L):
  Calls Tryz.prog 74 #[.pointer (some ⟨p,0,none⟩)] w fun e w'=>e=.returned (.tuple #[.int .i64 (Xf L).1,.bool (Xf L).2])∧w'=w:=by
 obtain⟨T,hblk⟩:=h.blk
 have hr:w.rangeAt p 0 V:=fun j v hv=>by rw[Nat.zero_add,cell_of_row w p j _ _ _ hblk];simpa using hv
 have hi:(Tryz.prog.info? 121).map (·.size)=some V.length:=by rw[h.lenV];kernel_rfl
 have hR:=Lib.hid hr
 have hI:=Lib.hid hi
 have H:=Lib.hid h
 clear hr hi hblk h
 go_enter Tryz.func74,Tryz.ntmps74
 go_wp2_with (refine wpList_load_mid rfl 121 (.tmp 10) rfl p 0 rfl V _ hR.out Tryz.underlying121 rfl hI.out ?_)
 go_loopw [4,5,12] (fun _ _ i wr=>∃k:Nat,k≤32∧i=.int .i64 k∧wr=w∧∀j l,j<k→L[j]?=some l→l≠[]) (fun _ _ i _=>32-(intOf i).toNat)
 case atStart=>exact⟨0,by omega,rfl,rfl,fun j l hj=>absurd hj (Nat.not_lt_zero _)⟩
 case round=>
  obtain⟨k,hk,rfl,rfl,hlo⟩:=hrel
  have HL:=Lib.hid hlo
  clear hlo
  by_cases hlt:k<32
  ·obtain⟨v,hv⟩:∃v,V[k]?=some v:=⟨_,List.getElem?_eq_getElem (by rw[H.out.lenV];exact hlt)⟩
   obtain⟨l,hl⟩:∃l,L[k]?=some l:=⟨_,List.getElem?_eq_getElem (by rw[H.out.lenL];exact hlt)⟩
   obtain⟨a,c,rfl,_,_⟩:=SlAt.form (H.out.at_ k v l hv hl)
   have h1:(k:Int)<32:=by omega
   have h2:(0:Int)≤k:=by omega
   have hidx:=ziu V k _ h1 hv
   by_cases he:l=[]
   ·subst he
    go_wp2_with fail
    have e:Xf L=((k:Int),true):=by
     unfold Xf
     rw[V5 L k HL.out 0,List.drop_eq_getElem_cons (by rw[H.out.lenL];exact hlt)]
     have:L[k]'(by rw[H.out.lenL];exact hlt)=[]:=(List.getElem?_eq_some_iff.1 hl).2
     rw[this,Zm,if_pos rfl]
     simp
    exact bodyPost_ret (v:=.tuple #[.int .i64 k,.bool true]) (by simp[results,Tryz.results74,go_sem]) rfl ⟨by rw[e],rfl⟩
   ·have hne:¬((l.length:Int)=0):=by
     intro e
     exact he (List.eq_nil_of_length_eq_zero (by omega))
    go_wp2_with fail
    go_roundw
    case rel=>
     refine⟨k+1,by omega,by go_num,trivial,fun j m hj hm=>?_⟩
     by_cases hjk:j=k
     ·subst hjk;rw[hl]at hm;cases hm;exact he
     ·exact HL.out j m (by omega) hm
    case measure=>simp[intOf];omega
  ·go_wp2_with fail
   have e:Xf L=(0,false):=by
    unfold Xf
    rw[V5 L k HL.out 0,List.drop_eq_nil_of_le (by rw[H.out.lenL];omega)]
    rfl
   exact bodyPost_ret (v:=.tuple #[.int .i64 0,.bool false]) (by simp[results,Tryz.results74,go_sem]) rfl ⟨by rw[e],rfl⟩
def Yh(L:List (List (Int×Int))):Nat:=L.countP fun l=>decide (l≠[])
set_option maxHeartbeats 400000 in
theorem zj2(w:World)(p:Nat)(S:List Nat)(V:List Value)(L:List (List (Int×Int)))(h:ji w p S V L)(hlen:∀l∈L,l.length≤1000000):
  Calls Tryz.prog 51 #[.pointer (some ⟨p,0,none⟩)] w fun e w'=>e=.returned (.int .i64 (Yh L))∧Below w.heap.size w w':=by
 have H:=Lib.hid h
 clear h
 go_enter Tryz.func51,Tryz.ntmps51
 go_wp2_with fail
 go_loopw [3,4,5] (fun n _ i wr=>∃k:Nat,k≤32∧i=.int .i64 k∧n=.int .i64 (Yh (L.take k))∧Below w.heap.size w wr) (fun _ _ i _=>32-(intOf i).toNat)
 case atStart=>exact⟨0,by omega,rfl,rfl,Below.refl _ _⟩
 case round=>
  obtain⟨k,hk,rfl,rfl,hb⟩:=hrel
  have HB:=Lib.hid hb
  clear hb
  have hcnt:Yh (L.take k)≤32:=by
   have h1:Yh (L.take k)≤(L.take k).length:=List.countP_le_length
   rw[List.length_take]at h1;omega
  by_cases hlt:k<32
  ·obtain⟨l,hl⟩:∃l,L[k]?=some l:=⟨_,List.getElem?_eq_getElem (by rw[H.out.lenL];exact hlt)⟩
   have h1:(k:Int)<32:=by omega
   have hL:=H.out.lenL
   have htake:L.take (k+1)=L.take k++[l]:=by
    rw[List.take_succ_eq_append_getElem (by omega),(List.getElem?_eq_some_iff.1 hl).2]
   obtain⟨m,hm⟩:∃m,m=Yh (L.take k):=⟨_,rfl⟩
   rw[←hm]at hcnt⊢
   have hM:=Lib.hid hm
   clear hm
   go_wp2_with fail
   refine(zf1 wr p S V L (H.out.below HB.out) k l hl (hlen l (List.mem_of_getElem? hl))).mono ?_
   rintro e w2 ⟨v2,rfl,hp2,hb2,-⟩
   obtain⟨a,c,rfl,_,_⟩:=SlAt.form hp2
   have HB2:=Lib.hid (HB.out.trans (hb2.mono HB.out.size))
   clear hp2 hb2
   by_cases he:l=[]
   ·subst he
    go_wp2_with fail
    go_roundw
    case rel=>
     refine⟨k+1,by omega,by go_num,?_,HB2.out⟩
     rw[htake,hM.out]
     simp[Yh]
    case measure=>simp[intOf];omega
   ·have hne:(0:Int)<(l.length:Int):=by
     have:l.length≠0:=fun e=>he (List.eq_nil_of_length_eq_zero e)
     omega
    go_wp2_with fail
    go_roundw
    case rel=>
     refine⟨k+1,by omega,by go_num,?_,HB2.out⟩
     rw[htake,show Yh (L.take k++[l])=m+1 by rw[hM.out];simp[Yh,he]]
     go_num
    case measure=>simp[intOf];omega
  ·have hkk:k=32:=by omega
   subst hkk
   have e:L.take 32=L:=List.take_of_length_le (by rw[H.out.lenL];exact Nat.le_refl _)
   rw[e]
   clear hlt
   go_wp2_with fail
   go_ret
   exact⟨rfl,HB.out⟩
theorem zde(w:World)(p:Nat)(S:List Nat)(V:List Value)(L:List (List (Int×Int)))(h:ji w p S V L)(k:Nat)(l:List (Int×Int))(hl:L[k]?=some l)(x:Int×Int)(hlen:l.length≤100000):
  Calls Tryz.prog 143 #[.pointer (some ⟨p,0,none⟩),.int .i64 k,.agg #[.int .i64 x.1,.int .i64 x.2]] w fun e w'=>e=.returned (.bool (decide (x∈l)))∧∃S' V',ji w' p S' V' (L.set k (l.erase x))∧Touch S w w'∧∀b∈S',b∈S∨w.heap.size≤b:=by
 have hk:k<32:=by have:=(List.getElem?_eq_some_iff.1 hl).1;rw[h.lenL]at this;exact this
 obtain⟨v,hv⟩:∃v,V[k]?=some v:=⟨_,List.getElem?_eq_getElem (by rw[h.lenV];exact hk)⟩
 obtain⟨T,hblk⟩:=h.blk
 have hp:p<w.heap.size:=(Array.getElem?_eq_some_iff.1 hblk).1
 have hc:w.cell? ⟨p,k,none⟩=some v:=by rw[cell_of_row w p k _ _ _ hblk];simpa using hv
 have hpl:=h.at_ k v l hv hl
 have H:=Lib.hid h
 have HPL:=Lib.hid hpl
 clear h hpl
 have hk0:(0:Int)≤k:=by omega
 have hk1:(k:Int)<32:=by omega
 go_enter Tryz.func143,Tryz.ntmps143
 go_wp2_with fail
 refine(Qu _ _ k hk).mono ?_
 rintro e w1 ⟨rfl,rfl⟩
 go_wp2_with fail
 obtain⟨W,hW⟩:∃W,W=(w.alloc (.cells #[.int .i64 x.1,.int .i64 x.2] 58)).drew:=⟨_,rfl⟩
 have q0:W.cell? ⟨p,k,none⟩=some v:=by rw[hW];go_simp
 have q1:W.cell? ⟨w.heap.size,0,none⟩=some (.int .i64 x.1):=by rw[hW];go_simp
 have q2:W.cell? ⟨w.heap.size,1,none⟩=some (.int .i64 x.2):=by rw[hW];go_simp
 have hBW:Hid (Below w.heap.size w W∧W.heap.size=w.heap.size+1):=by
  rw[hW]
  exact⟨((Below.refl _ _).alloc (Nat.le_refl _) _).drew,by show(w.alloc _).heap.size=_;simp⟩
 have hd:(w.alloc (.cells #[.int .i64 x.1,.int .i64 x.2] 58)).drew=W:=hW.symm
 clear hW hc hblk
 have cC:Hid (∀W',Below w.heap.size w W'→Calls Tryz.prog 127 #[v,.agg #[.int .i64 x.1,.int .i64 x.2]] W' fun e w'=>e=.returned (.int .i64 (posP l x))∧Below W'.heap.size W' w'):=fun W' hb=>zay W' v l (HPL.out.below hb) x
 by_cases hx:x∈l
 ·have hpos:posP l x=(l.idxOf x:Int):=by unfold posP;rw[if_pos hx]
  rw[hpos]at cC
  have hi:=List.idxOf_lt_length_of_mem hx
  obtain⟨i,hie⟩:∃i,i=l.idxOf x:=⟨_,rfl⟩
  rw[←hie]at cC hi
  have HI:=Lib.hid hie
  clear hie
  go_region_held (fun W'=>W'.cell? ⟨p,k,none⟩=some v∧W'.cell? ⟨w.heap.size,0,none⟩=some (.int .i64 x.1)∧W'.cell? ⟨w.heap.size,1,none⟩=some (.int .i64 x.2)) (go_keep)
   ((go_at_call 127;refine(cC.out _ hBW.out.1).mono ?_;rintro e w2 ⟨rfl,hb2⟩;have hb3:=Lib.hid hb2;have q0':=(hb2.cell (World.block_lt_of_cell? _ _ q0)).trans q0;have q1':=(hb2.cell (World.block_lt_of_cell? _ _ q1)).trans q1;have q2':=(hb2.cell (World.block_lt_of_cell? _ _ q2)).trans q2;clear hb2))
  have hB2:=Lib.hid (hBW.out.1.trans (hb3.out.mono (by rw[hBW.out.2];omega)))
  clear q0 q1 q2 cC
  have hi0:(0:Int)≤i:=by omega
  go_wp2_with fail
  obtain⟨b,off,c,rfl,hbw⟩:∃b off c,v=.slice (some ⟨b,off,none⟩) l.length c∧b<w.heap.size:=by
   rcases HPL.out.form with⟨_,e⟩|⟨b,off,c,e,_,_,hb⟩
   ·rw[e]at hx;simp at hx
   ·exact⟨b,off,c,e,hb⟩
  have hsw2:=H.out.below hB2.out
  obtain⟨T2,hblk2⟩:=hsw2.blk
  have hpw2:p<w2.heap.size:=Nat.lt_of_lt_of_le hp hB2.out.size
  have hown:=H.out.own k _ b hv rfl
  have hp2d:PlAt w2.drew (.slice (some ⟨b,off,none⟩) l.length c) l:=(hsw2.at_ k _ l hv hl).below (Below.refl _ _).drew
  have hdel:Hid (Calls Tryz.prog 187 #[.slice (some ⟨b,off,none⟩) l.length c,.int .i64 i,.int .i64 (i+1)] w2.drew fun e w3=>∃a m c',e=.returned (.slice a m c')∧w3.cell? ⟨p,k,none⟩=some (.slice (some ⟨b,off,none⟩) l.length c)∧w3.frozen? ⟨p,k,none⟩=false∧
    ∃S' V',ji (w3.setCell ⟨p,k,none⟩ (.slice a m c')) p S' V' (L.set k (l.erase x))∧Touch S w (w3.setCell ⟨p,k,none⟩ (.slice a m c'))∧∀b∈S',b∈S∨w.heap.size≤b):=by
   refine(Jv w2.drew b off c i l hp2d hi).mono ?_
   rintro e w3 ⟨v',rfl,hp3,t3,ho3⟩
   rw[HI.out,zfr]at hp3
   have hpw3:w3.heap[p]?=some (.cells V.toArray T2 (0,0)):=by
    rw[t3.block p hpw2 (by simp;exact fun e=>hown.2 e.symm)]
    exact hblk2
   have hpw3':=(Array.getElem?_eq_some_iff.1 hpw3).1
   obtain⟨a',c',ev,_,_⟩:=SlAt.form hp3
   refine⟨a',_,c',by rw[ev],by rw[cell_of_row w3 p k _ _ _ hpw3];simpa using hv,by simp[World.frozen?,hpw3],?_⟩
   rw[←ev]
   have hs4:(w3.setCell ⟨p,k,none⟩ v').heap.size=w3.heap.size:=by simp[World.setCell]
   have hb4:∀j,j≠p→(w3.setCell ⟨p,k,none⟩ v').heap[j]?=w3.heap[j]?:=fun j hj=>Below.heap_setCell w3 _ _ j hj
   refine H.out.put hv ⟨T2,Qz hpw3 v'⟩ (hp3.keep fun b' hb'=>hb4 b' ?_) (fun b' hb'=>.inl (ho3.symm.trans hb')) ?_ ?_ ?_ ?_ ?_
   ·rw[ho3]at hb'
    cases hb'
    exact hown.2
   ·intro j hj hjp hjv
    have h1:j<w2.heap.size:=Nat.lt_of_lt_of_le hj hB2.out.size
    rw[hb4 j hjp,t3.block j h1 (by simp;exact fun e=>hjv (by simp[Value.ownBlock,e]))]
    exact hB2.out.block j hj
   ·exact t3.os.trans hB2.out.os
   ·exact t3.tape.trans hB2.out.tape
   ·exact t3.output.trans hB2.out.output
   ·rw[hs4];have:=t3.size;have:=hB2.out.size;have e:w2.drew.heap.size=w2.heap.size:=rfl;omega
  have hw:IntKind.i64.wrap ((i:Int)+1)=i+1:=by simp[IntKind.wrap,IntKind.bits,IntKind.signed];omega
  clear hsw2 hblk2 hp2d
  go_region_with (go_at_call 187;refine hdel.out.mono ?_;rintro e w3 ⟨a',m',c',rfl,c3,f3,G3⟩;have HG3:=Lib.hid G3;clear G3)
  go_wp2_with fail
  go_ret
  obtain⟨S',V',h1,h2,h3⟩:=HG3.out
  exact⟨by simp[hx],S',V',h1,h2,h3⟩
 ·have hpos:posP l x=-1:=by unfold posP;rw[if_neg hx]
  rw[hpos]at cC
  go_region_held (fun W'=>W'.cell? ⟨p,k,none⟩=some v∧W'.cell? ⟨w.heap.size,0,none⟩=some (.int .i64 x.1)∧W'.cell? ⟨w.heap.size,1,none⟩=some (.int .i64 x.2)) (go_keep)
   ((go_at_call 127;refine(cC.out _ hBW.out.1).mono ?_;rintro e w2 ⟨rfl,hb2⟩;have hb3:=Lib.hid hb2;have q0':=(hb2.cell (World.block_lt_of_cell? _ _ q0)).trans q0;have q1':=(hb2.cell (World.block_lt_of_cell? _ _ q1)).trans q1;have q2':=(hb2.cell (World.block_lt_of_cell? _ _ q2)).trans q2;clear hb2))
  have hB2:=Lib.hid (hBW.out.1.trans (hb3.out.mono (by rw[hBW.out.2];omega)))
  go_wp2_with fail
  go_ret
  rw[List.erase_of_not_mem hx,ze2 hl]
  exact⟨by simp[hx],S,V,H.out.below hB2.out,Touch.of_below hB2.out,fun b hb=>.inl hb⟩
end Go.Proofs.YtnhdmnijiphjjaaGreat
