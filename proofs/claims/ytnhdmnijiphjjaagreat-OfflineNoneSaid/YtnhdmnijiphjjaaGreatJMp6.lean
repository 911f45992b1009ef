/- DERIVED: THE SHELF's CONTRACTS AT THIS DUMP, IN PLAIN WORDS (tools/lay-plain.mjs out of 'YtnhdmnijiphjjaaGreatShelf.lean', which tools/lay-shelf.mjs wrote): THE SAME DECLARATIONS UNDER THE SAME NAMES: 'import', 'namespace', 'open', 'def', 'theorem' AND NOTHING ELSE: no command of the shelf's: FOR A HAND-IN. Each laying: the table of numbers ('.._ren') and one theorem, a field a fact of the dump's own or the kernel's comparison; each contract: ONE APPLICATION. -/
import Derived.Shelf.SlGeneric
import Derived.Ground.SlgfProg
import Derived.Ground.SlgnProg
import Derived.Ground.SlgqProg
import Derived.Shelf.SlLaysE0
import Derived.Shelf.SlLaysH0
import Derived.Shelf.SlLaysQ
import Derived.Test.YtnhdmnijiphjjaaGreatProg
import Derived.Test.YtnhdmnijiphjjaaGreatJMp5
import Derived.Test.YtnhdmnijiphjjaaGreatJMp4
import Derived.Shelf.SlicesQ.Contains
import Derived.Shelf.SlicesE.Clone
import Derived.Laws.StructEq
import Derived.Deep.RegionHeld
import Derived.Deep.RegionLaw
import Derived.WalkKit
import Derived.Shelf.SlSortCmp.InsertionK
import Derived.Ground.SlsfProg
import Derived.Shelf.SlLaysF0
import Derived.Shelf.SlSortCmp.WholeK
import Derived.Test.YtnhdmnijiphjjaaGreatJMp0
set_option linter.unusedVariables false
set_option linter.unusedSimpArgs false
set_option maxRecDepth 100000
set_option maxHeartbeats 2000000
namespace Go.Proofs
open Go.Shelf
def YtnhdmnijiphjjaaGreat.Qb:Go.Shelf.Ren:=⟨fun|7=>71|6=>127|n=>n,fun|22=>120|24=>58|4=>4|0=>0|3=>3|n=>n,fun|n=>n⟩
theorem YtnhdmnijiphjjaaGreat.zcf:Go.Proofs.SlLaysQ.n7 Tryz.prog YtnhdmnijiphjjaaGreat.Qb:={
 mixed:=by kernel_rfl
 f6:=⟨Tryz.f127.name,by decide,Tryz.func127.trans (congrArg some (by kernel_rfl))⟩
 f7:=⟨Tryz.f71.name,by decide,Tryz.func71.trans (congrArg some (by kernel_rfl))⟩
 t0:=Tryz.underlying0
 a0:=Tryz.isAgg0
 z0:=Tryz.sizeOf0
 v0:=Tryz.zeroValue0
 t3:=Tryz.underlying3
 a3:=Tryz.isAgg3
 z3:=Tryz.sizeOf3
 v3:=Tryz.zeroValue3
 t4:=Tryz.underlying4
 a4:=Tryz.isAgg4
 z4:=Tryz.sizeOf4
 v4:=Tryz.zeroValue4
 t22:=Tryz.underlying120
 a22:=Tryz.isAgg120
 z22:=Tryz.sizeOf120
 v22:=Tryz.zeroValue120}
def YtnhdmnijiphjjaaGreat.zbd:Go.Shelf.Ren:=⟨fun|6=>127|n=>n,fun|22=>120|24=>58|3=>3|0=>0|4=>4|n=>n,fun|n=>n⟩
theorem YtnhdmnijiphjjaaGreat.zij:Go.Proofs.SlLaysQ.n6 Tryz.prog YtnhdmnijiphjjaaGreat.zbd:={
 mixed:=by kernel_rfl
 f6:=⟨Tryz.f127.name,by decide,Tryz.func127.trans (congrArg some (by kernel_rfl))⟩
 t0:=Tryz.underlying0
 a0:=Tryz.isAgg0
 z0:=Tryz.sizeOf0
 v0:=Tryz.zeroValue0
 t3:=Tryz.underlying3
 a3:=Tryz.isAgg3
 z3:=Tryz.sizeOf3
 v3:=Tryz.zeroValue3
 t4:=Tryz.underlying4
 a4:=Tryz.isAgg4
 z4:=Tryz.sizeOf4
 v4:=Tryz.zeroValue4
 t22:=Tryz.underlying120
 a22:=Tryz.isAgg120
 z22:=Tryz.sizeOf120
 v22:=Tryz.zeroValue120}
def YtnhdmnijiphjjaaGreat.Vf:Go.Shelf.Ren:=⟨fun|8=>200|6=>229|n=>n,fun|22=>120|23=>58|25=>273|4=>4|3=>3|0=>0|n=>n,fun|n=>n⟩
theorem YtnhdmnijiphjjaaGreat.laysContainsFunc:Go.Proofs.SlLaysH0.n8 Tryz.prog YtnhdmnijiphjjaaGreat.Vf:={
 mixed:=by kernel_rfl
 f6:=⟨Tryz.f229.name,by decide,Tryz.func229.trans (congrArg some (by kernel_rfl))⟩
 f8:=⟨Tryz.f200.name,by decide,Tryz.func200.trans (congrArg some (by kernel_rfl))⟩
 t0:=Tryz.underlying0
 a0:=Tryz.isAgg0
 z0:=Tryz.sizeOf0
 v0:=Tryz.zeroValue0
 t3:=Tryz.underlying3
 a3:=Tryz.isAgg3
 z3:=Tryz.sizeOf3
 v3:=Tryz.zeroValue3
 t4:=Tryz.underlying4
 a4:=Tryz.isAgg4
 z4:=Tryz.sizeOf4
 v4:=Tryz.zeroValue4
 t22:=Tryz.underlying120
 a22:=Tryz.isAgg120
 z22:=Tryz.sizeOf120
 v22:=Tryz.zeroValue120
 t25:=Tryz.underlying273
 a25:=Tryz.isAgg273
 z25:=Tryz.sizeOf273
 v25:=Tryz.zeroValue273}
def YtnhdmnijiphjjaaGreat.zbe:Go.Shelf.Ren:=⟨fun|41=>139|n=>n,fun|22=>120|23=>58|4=>4|n=>n,fun|n=>n⟩
theorem YtnhdmnijiphjjaaGreat.zcg:Go.Proofs.SlLaysE0.n41 Tryz.prog YtnhdmnijiphjjaaGreat.zbe:={
 mixed:=by kernel_rfl
 f41:=⟨Tryz.f139.name,by decide,Tryz.func139.trans (congrArg some (by kernel_rfl))⟩
 t4:=Tryz.underlying4
 a4:=Tryz.isAgg4
 z4:=Tryz.sizeOf4
 v4:=Tryz.zeroValue4
 t22:=Tryz.underlying120
 a22:=Tryz.isAgg120
 z22:=Tryz.sizeOf120
 v22:=Tryz.zeroValue120}
end Go.Proofs
namespace Go.Proofs.YtnhdmnijiphjjaaGreat
open Go Go.RowKit
def encP(x:Int×Int):List Value:=[.int .i64 x.1,.int .i64 x.2]
theorem zbi(x:Int×Int):(encP x).length=2:=rfl
theorem zk8(x:Int×Int):∀v∈encP x,v.oneCell'=true:=by intro v hv;simp[encP]at hv;rcases hv with rfl|rfl<;>rfl
set_option maxHeartbeats 400000 in
theorem zki:zbk Tryz.prog 58 where
 eq x y w:=by
  have u3:=Tryz.underlying3
  have a3:=Tryz.isAgg3
  have z3:=Tryz.sizeOf3
  have hS:Tryz.prog.underlying 58=some (.struct (Tryz.prog.fieldsOf 58)):=by kernel_rfl
  have hp:Tryz.prog.stoodInHeld 58=false:=by kernel_rfl
  show(Op.equalIn (9999+1) 58 (zy x) (zy y)).run Tryz.prog w=_
  simp only[zy]
  rw[run_equalIn_struct w 9999 58 _ _ hS hp]
  simp only[Program.fieldsOf,Tryz.underlying58]
  go_simp
  by_cases h1:x.fst=y.fst<;>by_cases h2:x.snd=y.snd<;>simp[h1,h2]
 check k b w:=by
  have u3:=Tryz.underlying3
  have a3:=Tryz.isAgg3
  have z3:=Tryz.sizeOf3
  have h:∀n,(Instr.checkKey b (n+2) 58 (zy k)).run Tryz.prog w=.ok () w:=fun n=>by
   simp[Instr.checkKey,run_underlying Tryz.underlying58,zy]
   go_simp
  exact h 9998
 desc:=⟨_,Tryz.underlying58⟩
theorem zfj:EqlAt Tryz.prog 58 (fun x=>.agg (encP x).toArray) (fun x y:Int×Int=>decide (x=y)):=by
 refine⟨fun x y w=>?_,fun op a b x y w=>?_⟩
 ·have e:=zki.eq x y w
  show(binOp .eql 58 (zy x) (zy y)).run Tryz.prog w=_
  simp only
  rw[show(decide (x=y))=(x.1==y.1&&x.2==y.2)by
   obtain⟨x1,x2⟩:=x
   obtain⟨y1,y2⟩:=y
   by_cases h1:x1=y1<;>by_cases h2:x2=y2<;>simp[h1,h2]]
  simp only[zy]at e⊢
  simp[binOp,e]
 ·have hg:Tryz.prog.eqGuardType Tryz.prog.depth 58=false:=by kernel_rfl
  show(eqGuard op 58 a b (zy x) (zy y)).run Tryz.prog w=_
  unfold zy
  cases op<;>simp[eqGuard,hg]
theorem PlAt.hc{w:World}{b off c n:Nat}{l:List (Int×Int)}(h:PlAt w (.slice (some ⟨b,off,none⟩) n c) l):
  ∀j,j<l.length→∀i v,(encP l[j]!)[i]?=some v→w.cell? ⟨b,off+j*2+i,none⟩=some v:=by
 intro j hj i v hv
 obtain⟨h1,h2⟩:=h.cell j hj
 rw[getElem!_pos l j hj]at hv
 match i with
 | 0=>simp[encP]at hv;subst hv;exact h1
 | 1=>simp[encP]at hv;subst hv;exact h2
 | i+2=>simp[encP]at hv
theorem Ua(w:World)(v:Value)(l:List (Int×Int))(h:PlAt w v l)(p:Int×Int):
  Calls Tryz.prog 71 #[v,.agg #[.int .i64 p.1,.int .i64 p.2]] w fun e w'=>e=.returned (.bool (decide (p∈l)))∧Below w.heap.size w w':=by
 rcases h.form with⟨rfl,rfl⟩|⟨b,off,c,rfl,hc,hm,hb⟩
 ·simp only[List.not_mem_nil,decide_false]
  go_enter Tryz.func71,Tryz.ntmps71
  go_wp2
  refine wp_loop_rounds 1 ?_
  rw[rounds_succ]
  go_wp2
  go_ret
  exact⟨rfl,((Below.refl _ _).alloc (Nat.le_refl _) _).alloc (by simp) _⟩
 ·have:=AnyQ.slices_Contains zcf 2 (fun w=>by kernel_rfl) (fun w=>by kernel_rfl) encP zbi (fun x y=>decide (x=y)) zfj b off l.length c l p w (Nat.le_refl _) (by unfold maxLen at hm;omega) h.hc
  refine this.mono ?_
  rintro e w' ⟨rfl,hB⟩
  refine⟨?_,hB⟩
  congr 2
  rw[List.take_length]
  by_cases hp:p∈l<;>simp[hp,List.any_eq_true,List.any_eq_false]
  intro a b hab e
  exact hp (e▸hab)
def posP(l:List (Int×Int))(p:Int×Int):Int:=if p∈l then(l.idxOf p:Int)else -1
theorem ziq(l:List (Int×Int))(p:Int×Int):Lib.idxBy (fun x y:Int×Int=>decide (x=y)) l p=posP l p:=by
 have key:∀(l:List (Int×Int)) (i:Nat),Lib.idxByFrom (fun x y:Int×Int=>decide (x=y)) p l i=if p∈l then((i+l.idxOf p:Nat):Int)else -1:=by
  intro l
  induction l with
  | nil=>intro i;rfl
  | cons x l ih=>
   intro i
   simp only[Lib.idxByFrom]
   by_cases e:p=x
   ·subst e;simp
   ·have e':(x==p)=false:=by simpa using fun h=>e h.symm
    rw[if_neg (by simpa using e),ih]
    by_cases hp:p∈l
    ·rw[if_pos hp,if_pos (List.mem_cons_of_mem _ hp),List.idxOf_cons,e']
     simp;omega
    ·rw[if_neg hp,if_neg (by simp[e,hp])]
 have:=key l 0
 simpa[Lib.idxBy,posP]using this
theorem zas(w:World)(v:Value)(l:List (Int×Int))(h:PlAt w v l)(p:Int×Int):
  Calls Tryz.prog 127 #[v,.agg #[.int .i64 p.1,.int .i64 p.2]] w fun e w'=>e=.returned (.int .i64 (posP l p))∧Below w.heap.size w w':=by
 rcases h.form with⟨rfl,rfl⟩|⟨b,off,c,rfl,hc,hm,hb⟩
 ·simp only[posP,List.not_mem_nil,if_false]
  go_enter Tryz.func127,Tryz.ntmps127
  go_wp2
  refine wp_loop_rounds 1 ?_
  rw[rounds_succ]
  go_wp2
  go_ret
  exact⟨rfl,(Below.refl _ _).alloc (Nat.le_refl _) _⟩
 ·have:=AnyQ.slices_Index zij 2 (fun w=>by kernel_rfl) (fun w=>by kernel_rfl) encP zbi (fun x y=>decide (x=y)) zfj b off l.length c l p w (Nat.le_refl _) (by unfold maxLen at hm;omega) h.hc
  refine this.mono ?_
  rintro e w' ⟨rfl,q,rfl⟩
  refine⟨?_,below_drewN' ((Below.refl _ _).alloc (Nat.le_refl _) _) q⟩
  rw[List.take_length,ziq]
theorem Je:∃i,Tryz.prog.info? 58=some i∧i.zero=some (.agg #[.int .i64 0,.int .i64 0])∧i.size=2∧i.bytes=16:=by
 have h:(Tryz.prog.info? 58).map (fun i=>(i.zero,i.size,i.bytes))=some (some (.agg #[.int .i64 0,.int .i64 0]),2,16):=by kernel_rfl
 obtain⟨i,hi,hb⟩:=Option.map_eq_some_iff.1 h
 simp at hb
 exact⟨i,hi,hb⟩
theorem zf7{w:World}{base:Nat}{v:Value}{l:List (Int×Int)}(h:w.ownsRow base 58 2 v l.length (pl l)):PlAt w v l:=by
 refine⟨h.1,?_⟩
 rcases h.2 with h0|⟨g,cap,cur,e,hg,hc,hn,hm,hs,ht⟩
 ·exact .inl h0
 ·refine .inr ⟨g,0,cap,cur,e,hc,hn,hm,by omega,fun j u hu=>?_⟩
  rw[←ht]at hu
  have hj:=(List.getElem?_eq_some_iff.1 hu).1
  rw[List.getElem?_take_of_lt (by simp at hj;omega)]at hu
  simpa using hu
theorem zat(w:World)(v:Value)(l:List (Int×Int))(h:PlAt w v l)(hl:l.length≤1000000):
  Calls Tryz.prog 139 #[v] w fun e w'=>∃v',e=.returned v'∧PlAt w' v' l∧Below w.heap.size w w'∧∀b,v'.ownBlock=some b→w.heap.size≤b:=by
 rcases h.form with⟨rfl,rfl⟩|⟨b,off,c,rfl,hc,hm,hb⟩
 ·refine(AnyE.slices_Clone_nil zcg 0 0 w).mono ?_
  rintro e w' ⟨rfl,rfl⟩
  exact⟨_,rfl,PlAt.nil w',Below.refl _ _,by simp[Value.ownBlock]⟩
 ·obtain⟨i,hi,hz,hs,hby⟩:=Je
  have:=AnyE.slices_Clone zcg i _ 2 16 hi hz hs hby (by rfl) (by omega) (fun w=>by kernel_rfl) b off l.length c (pl l) w (uo l) (by unfold maxLen;omega) (by omega) (fun j u hu=>by
   obtain⟨g,off',c',e,_,_,hx⟩:=SlAt.cells h (by have:=(List.getElem?_eq_some_iff.1 hu).1;omega)
   cases e
   exact(hx j u hu).1) (zaf l)
  refine this.mono ?_
  rintro e w' ⟨v',rfl,hown,hne,hB⟩
  refine⟨v',rfl,?_,hB,?_⟩
  ·exact zf7 hown
  ·intro b' hb'
   rcases hown.2 with⟨e,_⟩|⟨g,cap,cur,e,hg,_⟩
   ·exact absurd e hne
   ·subst e;simp[Value.ownBlock]at hb';omega
section
open Go Go.RowKit
variable {K:Int→Prop}
theorem zm1(w:World)(p m:Nat)(S:List Nat)(V:List (Int×Value))(L:Int→List (Int×Int))(h:u7 K w p m S V L)(f:Int)(hlen:(L f).length≤1000000):
  Calls Tryz.prog 87 #[.pointer (some ⟨p,0,none⟩),.int .i64 f] w fun e w'=>∃v',e=.returned v'∧PlAt w' v' (L f)∧Below w.heap.size w w'∧∀b,v'.ownBlock=some b→w.heap.size≤b:=by
 have hc:=h.c0
 have hp:=h.ps.1
 have hlk:=h.look f
 have hlkd:∀n,(Instr.lookup 212 (.map (some m)) (.int .i64 f) false).run Tryz.prog (w.drewN n)=.ok (Zb V f) (w.drewN n):=fun n=>(h.below (below_drewN' (Below.refl _ _) n)).look f
 have cl:=Lib.hid (fun W (hW:Below w.heap.size w W)=>zat W (Zb V f) (L f) ((h.at_ f).below hW) hlen)
 clear h
 go_enter Tryz.func87,Tryz.ntmps87
 go_wp2_with fail
 refine(cl.out _ (Below.refl _ _)).mono ?_
 rintro e w2 ⟨v2,rfl,hp2,hb2,ho2⟩
 have H2:=Lib.hid (And.intro hp2 (And.intro hb2 ho2))
 clear hp2 hb2 ho2
 go_wp2_with fail
 refine(zdf w2 v2 (L f) H2.out.1).mono ?_
 rintro e w3 ⟨v3,rfl,hp3,rfl,ho3⟩
 have H3:=Lib.hid (And.intro hp3 ho3)
 clear hp3 ho3
 go_wp2_with fail
 go_ret
 exact⟨v3,rfl,H3.out.1,H2.out.2.1,fun b hb=>H2.out.2.2 b (by rw[←H3.out.2];exact hb)⟩
end
def ltP(x y:Int×Int):Prop:=x.1<y.1∨x.1=y.1∧x.2<y.2
instance (x y:Int×Int):Decidable (ltP x y):=inferInstanceAs (Decidable (_∨_))
theorem ltP.irrefl(x:Int×Int):¬ltP x x:=by unfold ltP;omega
theorem ltP.trans{x y z:Int×Int}(h:ltP x y)(k:ltP y z):ltP x z:=by unfold ltP at *;omega
theorem ltP.asymm{x y:Int×Int}(h:ltP x y):¬ltP y x:=by unfold ltP at *;omega
theorem ltP.tri(x y:Int×Int):ltP x y∨x=y∨ltP y x:=by
 obtain⟨a,b⟩:=x
 obtain⟨c,d⟩:=y
 simp only[ltP,Prod.mk.injEq]
 omega
def y9(l:List (Int×Int)):Prop:=l.Pairwise ltP
theorem y9.nodup{l:List (Int×Int)}(h:y9 l):l.Nodup:=List.Pairwise.imp (S:=fun a b=>a≠b) (R:=ltP) (fun {a b} hab e=>by subst e;exact ltP.irrefl _ hab) h
theorem um{a b:List (Int×Int)}(ha:y9 a)(hb:y9 b)(hp:a.Perm b):a=b:=
 hp.eq_of_pairwise (fun _ _ _ _ h1 h2=>absurd h2 h1.asymm) ha hb
def insP(p:Int×Int):List (Int×Int)→List (Int×Int)
 | []=>[p]
 | x::l=>if ltP x p then x::insP p l else p::x::l
theorem V5(p:Int×Int)(l:List (Int×Int)):(insP p l).Perm (p::l):=by
 induction l with
 | nil=>exact List.Perm.refl _
 | cons x l ih=>
  simp only[insP]
  split
  ·exact(List.Perm.cons x ih).trans (List.Perm.swap p x l)
  ·exact List.Perm.refl _
theorem Jc{p:Int×Int}{l:List (Int×Int)}(h:y9 l)(hn:p∉l):y9 (insP p l):=by
 induction l with
 | nil=>exact List.pairwise_singleton _ _
 | cons x l ih=>
  obtain⟨h1,h2⟩:=List.pairwise_cons.1 h
  simp only[insP]
  split
  ·rename_i hx
   refine List.pairwise_cons.2 ⟨fun y hy=>?_,ih h2 (fun hm=>hn (List.mem_cons_of_mem _ hm))⟩
   rcases List.mem_cons.1 ((V5 p l).mem_iff.1 hy)with rfl|hy'
   ·exact hx
   ·exact h1 y hy'
  ·rename_i hx
   have hpx:ltP p x:=by
    rcases ltP.tri p x with h|h|h
    ·exact h
    ·exact absurd (h▸List.mem_cons_self) hn
    ·exact absurd h hx
   refine List.pairwise_cons.2 ⟨fun y hy=>?_,h⟩
   rcases List.mem_cons.1 hy with rfl|hy'
   ·exact hpx
   ·exact hpx.trans (h1 y hy')
def putP(l:List (Int×Int))(p:Int×Int):List (Int×Int):=if p∈l then l else insP p l
theorem zdo{l:List (Int×Int)}(h:y9 l)(p:Int×Int):y9 (putP l p):=by
 unfold putP
 split
 ·exact h
 ·exact Jc h ‹_›
theorem Vy{l:List (Int×Int)}{p q:Int×Int}:q∈putP l p↔q=p∨q∈l:=by
 unfold putP
 split
 ·constructor
  ·exact .inr
  ·rintro(rfl|h)
   ·assumption
   ·exact h
 ·rw[(V5 p l).mem_iff,List.mem_cons]
theorem zer{l l':List (Int×Int)}{p:Int×Int}(h:y9 l)(hn:p∉l)(hp:l'.Perm (l++[p]))(hs:l'.Pairwise (fun x y=>¬ltP y x)):l'=putP l p:=by
 have hpp:l'.Perm (insP p l):=hp.trans ((List.perm_append_singleton p l).trans (V5 p l).symm)
 have hsi:=Jc h hn
 unfold putP
 rw[if_neg hn]
 refine um ?_ hsi hpp
 have hnd:l'.Nodup:=hpp.nodup_iff.2 hsi.nodup
 exact(hs.and hnd).imp fun {a b} ⟨h1,h2⟩=>by
  rcases ltP.tri a b with h|h|h
  ·exact h
  ·exact absurd h h2
  ·exact absurd h h1
theorem zfi(l:List (Int×Int))(p:Int×Int):l.eraseIdx (l.idxOf p)=l.erase p:=by
 rw[List.erase_eq_eraseIdx_of_idxOf rfl]
section
open Go Go.RowKit
variable {K:Int→Prop}
theorem Touch.next{S S':List Nat}{a b c:World}(h:Touch S a b)(k:Touch S' b c)(hs:∀i∈S',i∈S∨a.heap.size≤i):Touch S a c:=
 ⟨k.os.trans h.os,k.tape.trans h.tape,k.output.trans h.output,Nat.le_trans h.size k.size,fun i hi hn=>(k.block i (Nat.lt_of_lt_of_le hi h.size) (fun e=>(hs i e).elim hn (by omega))).trans (h.block i hi hn)⟩
theorem zaa(L:Int→List (Int×Int))(f:Int)(l l':List (Int×Int)):updF (updF L f l) f l'=updF L f l':=by
 funext g
 unfold updF
 split<;>rfl
theorem zgz(w:World)(p m:Nat)(S:List Nat)(V:List (Int×Value))(L:Int→List (Int×Int))(h:u7 K w p m S V L)(f:Int)(x:Int×Int)(hlen:(L f).length≤100000)(hK:K f):
  Calls Tryz.prog 186 #[.pointer (some ⟨p,0,none⟩),.int .i64 f,.agg #[.int .i64 x.1,.int .i64 x.2]] w fun e w'=>e=.returned (.bool (decide (x∈L f)))∧∃S' V',u7 K w' p m S' V' (updF L f ((L f).erase x))∧Touch S w w'∧∀b∈S',b∈S∨w.heap.size≤b:=by
 obtain⟨hp,hm,hpm⟩:=h.ps
 have hc:=h.c0
 obtain⟨v,hv⟩:∃v,v=Zb V f:=⟨_,rfl⟩
 obtain⟨l,hl⟩:∃l,l=L f:=⟨_,rfl⟩
 have hlook:∀W,Below w.heap.size w W→(Instr.lookup 212 (.map (some m)) (.int .i64 f) false).run Tryz.prog W=.ok v W:=fun W hW=>by rw[hv];exact(h.below hW).look f
 have hpl:PlAt w v l:=by rw[hv,hl];exact h.at_ f
 rw[←hl]at hlen⊢
 have H:=Lib.hid h
 have HPL:=Lib.hid hpl
 have HV:=Lib.hid hv
 have HL:=Lib.hid hlook
 have HLL:=Lib.hid hl
 clear h hpl hv hlook hl
 go_enter Tryz.func186,Tryz.ntmps186
 go_wp2_with fail
 obtain⟨W,hW⟩:∃W,W=(w.alloc (.cells #[.int .i64 x.1,.int .i64 x.2] 58)).drew:=⟨_,rfl⟩
 have q0:W.cell? ⟨p,0,none⟩=some (.map (some m)):=by rw[hW];go_simp
 have q1:W.cell? ⟨w.heap.size,0,none⟩=some (.int .i64 x.1):=by rw[hW];go_simp
 have q2:W.cell? ⟨w.heap.size,1,none⟩=some (.int .i64 x.2):=by rw[hW];go_simp
 have hBW:Hid (Below w.heap.size w W∧W.heap.size=w.heap.size+1):=by
  rw[hW]
  exact⟨((Below.refl _ _).alloc (Nat.le_refl _) _).drew,by show(w.alloc _).heap.size=_;simp⟩
 have hd:(w.alloc (.cells #[.int .i64 x.1,.int .i64 x.2] 58)).drew=W:=hW.symm
 have hlk:=HL.out W hBW.out.1
 clear hW hc
 have cC:Hid (∀W',Below w.heap.size w W'→Calls Tryz.prog 127 #[v,.agg #[.int .i64 x.1,.int .i64 x.2]] W' fun e w'=>e=.returned (.int .i64 (posP l x))∧Below W'.heap.size W' w'):=fun W' hb=>zas W' v l (HPL.out.below hb) x
 by_cases hx:x∈l
 ·have hpos:posP l x=(l.idxOf x:Int):=by unfold posP;rw[if_pos hx]
  rw[hpos]at cC
  have hi:=List.idxOf_lt_length_of_mem hx
  obtain⟨i,hie⟩:∃i,i=l.idxOf x:=⟨_,rfl⟩
  rw[←hie]at cC hi
  have HI:=Lib.hid hie
  clear hie
  go_region_held (fun W'=>W'.cell? ⟨p,0,none⟩=some (.map (some m))∧W'.cell? ⟨w.heap.size,0,none⟩=some (.int .i64 x.1)∧W'.cell? ⟨w.heap.size,1,none⟩=some (.int .i64 x.2)) (go_keep)
   ((go_at_call 127;refine(cC.out _ hBW.out.1).mono ?_;rintro e w2 ⟨rfl,hb2⟩;have hb3:=Lib.hid hb2;have q0':=(hb2.cell (World.block_lt_of_cell? _ _ q0)).trans q0;have q1':=(hb2.cell (World.block_lt_of_cell? _ _ q1)).trans q1;have q2':=(hb2.cell (World.block_lt_of_cell? _ _ q2)).trans q2;clear hb2))
  have hB2:=Lib.hid (hBW.out.1.trans (hb3.out.mono (by rw[hBW.out.2];omega)))
  clear q0 q1 q2 cC hlk
  have hi0:(0:Int)≤i:=by omega
  go_wp2_with fail
  obtain⟨b,off,c,rfl,hbw⟩:∃b off c,v=.slice (some ⟨b,off,none⟩) l.length c∧b<w.heap.size:=by
   rcases HPL.out.form with⟨_,e⟩|⟨b,off,c,e,_,_,hb⟩
   ·rw[e]at hx;simp at hx
   ·exact⟨b,off,c,e,hb⟩
  obtain⟨W2,hW2⟩:∃W2,W2=w2.drew:=⟨_,rfl⟩
  have hB3:Hid (Below w.heap.size w W2):=by rw[hW2];exact hB2.out.drew
  have r0:W2.cell? ⟨p,0,none⟩=some (.map (some m)):=by rw[hW2];go_simp
  have hd2:w2.drew=W2:=hW2.symm
  have hlk2:=HL.out W2 hB3.out
  clear hW2 q0' q1' q2'
  have hown:=H.out.own f b (by rw[←HV.out];rfl)
  obtain⟨n',hn'⟩:∃n',n'=(l.erase x).length:=⟨_,rfl⟩
  have HN:=Lib.hid hn'
  have hdel:Hid (Calls Tryz.prog 187 #[.slice (some ⟨b,off,none⟩) l.length c,.int .i64 i,.int .i64 (i+1)] W2 fun e w3=>∃a c' w4,e=.returned (.slice a n' c')∧w3.cell? ⟨p,0,none⟩=some (.map (some m))∧
    (Instr.mapUpdate 212 (.map (some m)) (.int .i64 f) (.slice a n' c')).run Tryz.prog w3=.ok () w4∧w4.cell? ⟨p,0,none⟩=some (.map (some m))∧
    ∃S' V',Zb V' f=.slice a n' c'∧u7 K w4 p m S' V' (updF L f (l.erase x))∧Touch S w w4∧∀b∈S',b∈S∨w.heap.size≤b):=by
   have hb2:=H.out.below hB3.out
   have hpw2:=hb2.ps
   refine(Jo W2 b off c i l (HPL.out.below hB3.out) hi).mono ?_
   rintro e w3 ⟨v',rfl,hp3,t3,ho3⟩
   rw[HI.out,zfi]at hp3
   obtain⟨a',c',ev,_,_⟩:=SlAt.form hp3
   rw[←hn']at ev
   have hm3:MapAt w3 m vz idV V:=hb2.map.keep (t3.block m hpw2.2.1 (by simp;exact fun e=>hown.2.2 e.symm))
   obtain⟨w4,hr4,M4,g4,z4⟩:=Xx (T:=212) Ur Tryz.underlying212 hm3 f v'
   rw[show idV v'=v' from rfl,ev]at hr4
   have ho':v'.ownBlock=some b:=ho3
   have hlt3:b<w3.heap.size:=Nat.lt_of_lt_of_le (Nat.lt_of_lt_of_le hbw hB3.out.size) t3.size
   obtain⟨S',h1,h2,h3⟩:=H.out.set (f:=f) (v':=v') (l':=l.erase x) (Xc V f v') (Yb V f v' H.out.nd).1 (ze8 H.out.keys H.out.nd f v' hK) M4
    (hp3.keep fun b' hb'=>by
     rw[ho']at hb'
     cases hb'
     exact g4.block b hlt3 (by simp;exact hown.2.2))
    (fun b' hb'=>.inl (by rw[ho']at hb';rw[←HV.out];exact hb'))
    (fun j hj hjm hjv=>by
     rw[g4.block j (Nat.lt_of_lt_of_le (Nat.lt_of_lt_of_le hj hB3.out.size) t3.size) (by simp;exact hjm),t3.block j (Nat.lt_of_lt_of_le hj hB3.out.size) (by
      simp only[List.mem_singleton]
      exact fun e=>hjv (by rw[←HV.out,e];rfl)),hB3.out.block j hj])
    (g4.os.trans (t3.os.trans hB3.out.os)) (g4.tape.trans (t3.tape.trans hB3.out.tape)) (g4.output.trans (t3.output.trans hB3.out.output))
    (by have:=g4.size;have:=t3.size;have:=hB3.out.size;omega)
   exact⟨a',c',w4,by rw[ev],t3.cell r0 (by simp;exact fun e=>hown.2.1 e.symm),hr4,h1.c0,S',_,by rw[Xc,if_pos rfl,ev],h1,h2,h3⟩
  clear hn'
  have hw:IntKind.i64.wrap ((i:Int)+1)=i+1:=by simp[IntKind.wrap,IntKind.bits,IntKind.signed];omega
  go_region_held (fun W'=>W'.cell? ⟨p,0,none⟩=some (.map (some m))) (go_keep)
   ((go_at_call 187;refine hdel.out.mono ?_;rintro e w3 ⟨a',c',w4,rfl,r3,hr4,r4,HX⟩;have hX:=Lib.hid HX;clear HX))
  clear hr4 r3 r0 hlk2 hd2 hd
  obtain⟨S',V',hs',hB',hT',hN'⟩:=hX.out
  have HB':=Lib.hid hB'
  have HT':=Lib.hid hT'
  have HN':=Lib.hid hN'
  clear hX hdel
  have hlk4:(Instr.lookup 212 (.map (some m)) (.int .i64 f) false).run Tryz.prog w4=.ok (.slice a' n' c') w4:=by rw[←hs'];exact hB'.look f
  clear hs' hB' hT' hN'
  by_cases hz:n'=0
  ·have hz':(n':Int)=0:=by omega
   have he:Hid (l.erase x=[]):=List.eq_nil_of_length_eq_zero (by rw[←HN.out];exact hz)
   obtain⟨w5,hr5,M5,g5,z5⟩:=Ut (T:=212) Ur Tryz.underlying212 HB'.out.map f 0 3
   rw[show vz f=.int .i64 f from rfl]at hr5
   have fin:Hid (∃S'',u7 K w5 p m S'' (delL V' f) (updF L f (l.erase x))∧Touch S w w5∧∀b∈S'',b∈S∨w.heap.size≤b):=by
    obtain⟨S'',h1,h2,h3⟩:=HB'.out.set (f:=f) (v':=.slice none 0 0) (l':=[]) (zhe HB'.out.nd f) (nd_del HB'.out.nd f) (zkz HB'.out.keys f) M5 (PlAt.nil _) (fun b hb=>by simp[Value.ownBlock]at hb)
     (fun j hj hjm _=>g5.block j hj (by simp;exact hjm)) g5.os g5.tape g5.output (by omega)
    rw[zaa,←he.out]at h1
    refine⟨S'',h1,HT'.out.next h2 HN'.out,fun b hb=>?_⟩
    rcases h3 b hb with e|e
    ·exact HN'.out b e
    ·have:=HT'.out.size;omega
   clear M5 g5 z5
   go_wp2_with fail
   go_ret
   obtain⟨S'',h1,h2,h3⟩:=fin.out
   exact⟨by simp[hx],S'',_,h1,h2,h3⟩
  ·have hz':¬(n':Int)=0:=by omega
   go_wp2_with fail
   go_ret
   exact⟨by simp[hx],S',V',HB'.out,HT'.out,HN'.out⟩
 ·have hpos:posP l x=-1:=by unfold posP;rw[if_neg hx]
  rw[hpos]at cC
  go_region_held (fun W'=>W'.cell? ⟨p,0,none⟩=some (.map (some m))∧W'.cell? ⟨w.heap.size,0,none⟩=some (.int .i64 x.1)∧W'.cell? ⟨w.heap.size,1,none⟩=some (.int .i64 x.2)) (go_keep)
   ((go_at_call 127;refine(cC.out _ hBW.out.1).mono ?_;rintro e w2 ⟨rfl,hb2⟩;have hb3:=Lib.hid hb2;have q0':=(hb2.cell (World.block_lt_of_cell? _ _ q0)).trans q0;have q1':=(hb2.cell (World.block_lt_of_cell? _ _ q1)).trans q1;have q2':=(hb2.cell (World.block_lt_of_cell? _ _ q2)).trans q2;clear hb2))
  have hB2:=Lib.hid (hBW.out.1.trans (hb3.out.mono (by rw[hBW.out.2];omega)))
  go_wp2_with fail
  go_ret
  have e:updF L f (l.erase x)=L:=by
   rw[List.erase_of_not_mem hx]
   funext g
   unfold updF
   split
   ·rename_i e;rw[e];exact HLL.out
   ·rfl
  rw[e]
  exact⟨by simp[hx],S,V,H.out.below hB2.out,Touch.of_below hB2.out,fun b hb=>.inl hb⟩
end
theorem za0{α:Type}[Inhabited α](enc:α→Value)(off:Nat)(d:Array α)(c:Array Value):(Sort.putCells enc off d c).size=c.size:=by simp[Sort.putCells]
theorem zi3(l:List (Int×Int)):Sort.flatK encP 2 l.toArray=(pl l).toArray:=by
 refine Sort.ext_get! (by rw[Sort.size_flatK];simp[uo]) fun t ht=>?_
 have ht':t<l.length*2:=by simpa using ht
 rw[Sort.get_flatK _ _ _ t (by simpa using ht')]
 have hq:t/2<l.length:=by omega
 obtain⟨h1,h2⟩:=znb l (t/2) hq
 have e0:(l.toArray)[t/2]! = l[t/2]:=by rw[getElem!_pos _ _ (by simpa using hq)];simp
 rw[e0,getElem!_pos (pl l).toArray t (by simp[uo];omega)]
 rcases Nat.mod_two_eq_zero_or_one t with h|h
 ·have et:t=t/2*2:=by omega
  have h1':(pl l)[t]?=some (.int .i64 l[t/2].1):=by rw[←h1,←et]
  rw[h]
  simp only[List.getElem_toArray]
  rw[(List.getElem?_eq_some_iff.1 h1').2]
  rfl
 ·have et:t=t/2*2+1:=by omega
  have h2':(pl l)[t]?=some (.int .i64 l[t/2].2):=by rw[←h2,←et]
  rw[h]
  simp only[List.getElem_toArray]
  rw[(List.getElem?_eq_some_iff.1 h2').2]
  rfl
theorem zfx{w:World}{b off c:Nat}{l l':List (Int×Int)}(h:PlAt w (.slice (some ⟨b,off,none⟩) l.length c) l)(hl:l'.length=l.length)(n:Nat)(os:Array Obj):
  PlAt (sortWorldK encP 2 w b off n l'.toArray os) (.slice (some ⟨b,off,none⟩) l.length c) l'∧Touch [b] w (sortWorldK encP 2 w b off n l'.toArray os):=by
 obtain⟨arr,hg,hnc,hm,hfit,hx⟩:∃arr,w.heap[b]?=some (.cells arr 58 (0,0))∧l.length≤c∧c≤maxLen∧off+c*2≤arr.size∧∀j u,(pl l)[j]?=some u→arr[off+j]?=some u:=by
  rcases h.2 with⟨e,_⟩|⟨b',off',c',arr,e,rest⟩
  ·cases e
  ·cases e;exact⟨arr,rest⟩
 have hb:b<w.heap.size:=(Array.getElem?_eq_some_iff.1 hg).1
 obtain⟨F,hF⟩:∃F,F=(pl l').toArray:=⟨_,rfl⟩
 have hFs:F.size=l.length*2:=by rw[hF];simp[uo,hl]
 have hheap:(sortWorldK encP 2 w b off n l'.toArray os).heap=w.heap.modify b (Sort.onCells (Sort.putCells id off F))++os:=by
  unfold sortWorldK Sort.putRowK
  rw[zi3,←hF]
  rfl
 have hbk:(sortWorldK encP 2 w b off n l'.toArray os).heap[b]?=some (.cells (Sort.putCells id off F arr) 58 (0,0)):=by
  rw[hheap,Array.getElem?_append_left (by simpa using hb),Array.getElem?_modify,if_pos rfl,hg]
  rfl
 constructor
 ·show SlAt _ _ _ _ _ _
  rw[hl]
  refine⟨by rw[uo,hl],.inr ⟨b,off,c,_,rfl,hbk,hnc,hm,by rw[za0];exact hfit,fun j u hu=>?_⟩⟩
  have hj:=(List.getElem?_eq_some_iff.1 hu).1
  rw[uo,hl]at hj
  have hja:off+j<arr.size:=by have:=Nat.mul_le_mul_right 2 hnc;omega
  simp only[Sort.putCells,Array.getElem?_mapIdx,Array.getElem?_eq_getElem hja,Option.map_some]
  rw[if_pos ⟨by omega,by rw[hFs];omega⟩,show off+j-off=j by omega,getElem!_pos F j (by rw[hFs];exact hj)]
  have:F[j]?=some u:=by rw[hF];simpa using hu
  rw[Array.getElem?_eq_getElem (by rw[hFs];exact hj)]at this
  simpa using this
 ·refine⟨rfl,rfl,rfl,by rw[hheap];simp,fun k hk hne=>?_⟩
  rw[hheap,Array.getElem?_append_left (by simpa using hk),Array.getElem?_modify,if_neg (fun e=>hne (by simp[e]))]
end Go.Proofs.YtnhdmnijiphjjaaGreat
namespace Go.Proofs
open Go.Shelf
def YtnhdmnijiphjjaaGreat.zce:Go.Shelf.Ren:=⟨fun|6=>72|15=>129|14=>128|28=>179|29=>180|20=>171|21=>172|22=>173|23=>174|24=>175|25=>176|26=>177|27=>178|46=>215|47=>216|48=>217|49=>218|50=>219|57=>237|n=>n,fun|22=>120|24=>58|25=>125|3=>3|39=>195|0=>0|53=>254|55=>145|4=>4|46=>248|45=>247|50=>126|5=>5|9=>9|66=>281|70=>285|76=>299|77=>167|n=>n,fun|n=>n⟩
theorem YtnhdmnijiphjjaaGreat.zkx:Go.Proofs.SlLaysF0.n6 Tryz.prog YtnhdmnijiphjjaaGreat.zce:={
 mixed:=by kernel_rfl
 f6:=⟨Tryz.f72.name,by decide,Tryz.func72.trans (congrArg some (by kernel_rfl))⟩
 f14:=⟨Tryz.f128.name,by decide,Tryz.func128.trans (congrArg some (by kernel_rfl))⟩
 f15:=Tryz.func129.trans (congrArg some (by kernel_rfl))
 f20:=⟨Tryz.f171.name,by decide,Tryz.func171.trans (congrArg some (by kernel_rfl))⟩
 f21:=⟨Tryz.f172.name,by decide,Tryz.func172.trans (congrArg some (by kernel_rfl))⟩
 f22:=⟨Tryz.f173.name,by decide,Tryz.func173.trans (congrArg some (by kernel_rfl))⟩
 f23:=⟨Tryz.f174.name,by decide,Tryz.func174.trans (congrArg some (by kernel_rfl))⟩
 f24:=⟨Tryz.f175.name,by decide,Tryz.func175.trans (congrArg some (by kernel_rfl))⟩
 f25:=⟨Tryz.f176.name,by decide,Tryz.func176.trans (congrArg some (by kernel_rfl))⟩
 f26:=⟨Tryz.f177.name,by decide,Tryz.func177.trans (congrArg some (by kernel_rfl))⟩
 f27:=⟨Tryz.f178.name,by decide,Tryz.func178.trans (congrArg some (by kernel_rfl))⟩
 f28:=Tryz.func179.trans (congrArg some (by kernel_rfl))
 f29:=Tryz.func180.trans (congrArg some (by kernel_rfl))
 f46:=⟨Tryz.f215.name,by decide,Tryz.func215.trans (congrArg some (by kernel_rfl))⟩
 f47:=Tryz.func216.trans (congrArg some (by kernel_rfl))
 f48:=Tryz.func217.trans (congrArg some (by kernel_rfl))
 f49:=⟨Tryz.f218.name,by decide,Tryz.func218.trans (congrArg some (by kernel_rfl))⟩
 f50:=⟨Tryz.f219.name,by decide,Tryz.func219.trans (congrArg some (by kernel_rfl))⟩
 f57:=⟨Tryz.f237.name,by decide,Tryz.func237.trans (congrArg some (by kernel_rfl))⟩
 t0:=Tryz.underlying0
 a0:=Tryz.isAgg0
 z0:=Tryz.sizeOf0
 v0:=Tryz.zeroValue0
 t3:=Tryz.underlying3
 a3:=Tryz.isAgg3
 z3:=Tryz.sizeOf3
 v3:=Tryz.zeroValue3
 t4:=Tryz.underlying4
 a4:=Tryz.isAgg4
 z4:=Tryz.sizeOf4
 v4:=Tryz.zeroValue4
 t5:=Tryz.underlying5
 a5:=Tryz.isAgg5
 z5:=Tryz.sizeOf5
 v5:=Tryz.zeroValue5
 t9:=Tryz.underlying9
 a9:=Tryz.isAgg9
 z9:=Tryz.sizeOf9
 v9:=Tryz.zeroValue9
 t22:=Tryz.underlying120
 a22:=Tryz.isAgg120
 z22:=Tryz.sizeOf120
 v22:=Tryz.zeroValue120
 t25:=Tryz.underlying125
 a25:=Tryz.isAgg125
 z25:=Tryz.sizeOf125
 v25:=Tryz.zeroValue125
 t39:=Tryz.underlying195
 a39:=Tryz.isAgg195
 z39:=Tryz.sizeOf195
 v39:=Tryz.zeroValue195
 t45:=Tryz.underlying247
 a45:=Tryz.isAgg247
 z45:=Tryz.sizeOf247
 v45:=Tryz.zeroValue247
 t46:=Tryz.underlying248
 a46:=Tryz.isAgg248
 z46:=Tryz.sizeOf248
 v46:=Tryz.zeroValue248
 t50:=Tryz.underlying126
 a50:=Tryz.isAgg126
 z50:=Tryz.sizeOf126
 v50:=Tryz.zeroValue126
 t53:=Tryz.underlying254
 a53:=Tryz.isAgg254
 z53:=Tryz.sizeOf254
 v53:=Tryz.zeroValue254
 t55:=Tryz.underlying145
 a55:=Tryz.isAgg145
 z55:=Tryz.sizeOf145
 v55:=Tryz.zeroValue145
 t66:=Tryz.underlying281
 a66:=Tryz.isAgg281
 z66:=Tryz.sizeOf281
 v66:=Tryz.zeroValue281
 t70:=Tryz.underlying285
 a70:=Tryz.isAgg285
 z70:=Tryz.sizeOf285
 v70:=Tryz.zeroValue285
 t76:=Tryz.underlying299
 a76:=Tryz.isAgg299
 z76:=Tryz.sizeOf299
 v76:=Tryz.zeroValue299
 t77:=Tryz.underlying167
 a77:=Tryz.isAgg167
 z77:=Tryz.sizeOf167
 v77:=Tryz.zeroValue167}
def YtnhdmnijiphjjaaGreat.Ja:Go.Shelf.Ren:=⟨fun|6=>196|15=>129|14=>225|28=>179|29=>180|20=>240|21=>241|22=>242|23=>243|24=>244|25=>245|26=>246|27=>247|46=>254|47=>216|48=>217|49=>255|50=>256|57=>266|n=>n,fun|22=>170|24=>133|25=>233|3=>3|39=>195|0=>0|53=>254|55=>145|4=>4|46=>248|45=>247|50=>126|5=>5|9=>9|66=>281|70=>285|76=>299|77=>167|n=>n,fun|n=>n⟩
theorem YtnhdmnijiphjjaaGreat.laysSortKey:Go.Proofs.SlLaysF0.n6 Tryz.prog YtnhdmnijiphjjaaGreat.Ja:={
 mixed:=by kernel_rfl
 f6:=⟨Tryz.f196.name,by decide,Tryz.func196.trans (congrArg some (by kernel_rfl))⟩
 f14:=⟨Tryz.f225.name,by decide,Tryz.func225.trans (congrArg some (by kernel_rfl))⟩
 f15:=Tryz.func129.trans (congrArg some (by kernel_rfl))
 f20:=⟨Tryz.f240.name,by decide,Tryz.func240.trans (congrArg some (by kernel_rfl))⟩
 f21:=⟨Tryz.f241.name,by decide,Tryz.func241.trans (congrArg some (by kernel_rfl))⟩
 f22:=⟨Tryz.f242.name,by decide,Tryz.func242.trans (congrArg some (by kernel_rfl))⟩
 f23:=⟨Tryz.f243.name,by decide,Tryz.func243.trans (congrArg some (by kernel_rfl))⟩
 f24:=⟨Tryz.f244.name,by decide,Tryz.func244.trans (congrArg some (by kernel_rfl))⟩
 f25:=⟨Tryz.f245.name,by decide,Tryz.func245.trans (congrArg some (by kernel_rfl))⟩
 f26:=⟨Tryz.f246.name,by decide,Tryz.func246.trans (congrArg some (by kernel_rfl))⟩
 f27:=⟨Tryz.f247.name,by decide,Tryz.func247.trans (congrArg some (by kernel_rfl))⟩
 f28:=Tryz.func179.trans (congrArg some (by kernel_rfl))
 f29:=Tryz.func180.trans (congrArg some (by kernel_rfl))
 f46:=⟨Tryz.f254.name,by decide,Tryz.func254.trans (congrArg some (by kernel_rfl))⟩
 f47:=Tryz.func216.trans (congrArg some (by kernel_rfl))
 f48:=Tryz.func217.trans (congrArg some (by kernel_rfl))
 f49:=⟨Tryz.f255.name,by decide,Tryz.func255.trans (congrArg some (by kernel_rfl))⟩
 f50:=⟨Tryz.f256.name,by decide,Tryz.func256.trans (congrArg some (by kernel_rfl))⟩
 f57:=⟨Tryz.f266.name,by decide,Tryz.func266.trans (congrArg some (by kernel_rfl))⟩
 t0:=Tryz.underlying0
 a0:=Tryz.isAgg0
 z0:=Tryz.sizeOf0
 v0:=Tryz.zeroValue0
 t3:=Tryz.underlying3
 a3:=Tryz.isAgg3
 z3:=Tryz.sizeOf3
 v3:=Tryz.zeroValue3
 t4:=Tryz.underlying4
 a4:=Tryz.isAgg4
 z4:=Tryz.sizeOf4
 v4:=Tryz.zeroValue4
 t5:=Tryz.underlying5
 a5:=Tryz.isAgg5
 z5:=Tryz.sizeOf5
 v5:=Tryz.zeroValue5
 t9:=Tryz.underlying9
 a9:=Tryz.isAgg9
 z9:=Tryz.sizeOf9
 v9:=Tryz.zeroValue9
 t22:=Tryz.underlying170
 a22:=Tryz.isAgg170
 z22:=Tryz.sizeOf170
 v22:=Tryz.zeroValue170
 t25:=Tryz.underlying233
 a25:=Tryz.isAgg233
 z25:=Tryz.sizeOf233
 v25:=Tryz.zeroValue233
 t39:=Tryz.underlying195
 a39:=Tryz.isAgg195
 z39:=Tryz.sizeOf195
 v39:=Tryz.zeroValue195
 t45:=Tryz.underlying247
 a45:=Tryz.isAgg247
 z45:=Tryz.sizeOf247
 v45:=Tryz.zeroValue247
 t46:=Tryz.underlying248
 a46:=Tryz.isAgg248
 z46:=Tryz.sizeOf248
 v46:=Tryz.zeroValue248
 t50:=Tryz.underlying126
 a50:=Tryz.isAgg126
 z50:=Tryz.sizeOf126
 v50:=Tryz.zeroValue126
 t53:=Tryz.underlying254
 a53:=Tryz.isAgg254
 z53:=Tryz.sizeOf254
 v53:=Tryz.zeroValue254
 t55:=Tryz.underlying145
 a55:=Tryz.isAgg145
 z55:=Tryz.sizeOf145
 v55:=Tryz.zeroValue145
 t66:=Tryz.underlying281
 a66:=Tryz.isAgg281
 z66:=Tryz.sizeOf281
 v66:=Tryz.zeroValue281
 t70:=Tryz.underlying285
 a70:=Tryz.isAgg285
 z70:=Tryz.sizeOf285
 v70:=Tryz.zeroValue285
 t76:=Tryz.underlying299
 a76:=Tryz.isAgg299
 z76:=Tryz.sizeOf299
 v76:=Tryz.zeroValue299
 t77:=Tryz.underlying167
 a77:=Tryz.isAgg167
 z77:=Tryz.sizeOf167
 v77:=Tryz.zeroValue167}
end Go.Proofs
namespace Go.Proofs.YtnhdmnijiphjjaaGreat
open Go Go.RowKit
theorem V3(x y:Int×Int):ltOf cmpP x y=decide (ltP x y):=by
 unfold ltOf cmpP orI cmpI
 congr 1
 obtain⟨a,b⟩:=x
 obtain⟨c,d⟩:=y
 simp only[ltP,eq_iff_iff]
 split<;>(repeat' split at *)<;>omega
theorem swoP:Sort.SWO (ltOf cmpP) where
 irrefl x:=by rw[V3];simpa using ltP.irrefl x
 trans x y z h1 h2:=by rw[V3]at *;simp only[decide_eq_true_eq]at *;exact h1.trans h2
 ntrans x y z h1 h2:=by
  rw[V3]at *
  simp only[decide_eq_false_iff_not]at *
  unfold ltP at *
  omega
theorem zc4(w:World)(b off c:Nat)(l:List (Int×Int))(h:PlAt w (.slice (some ⟨b,off,none⟩) l.length c) l)(hl:l.length≤1000000):
  Calls Tryz.prog 72 #[.slice (some ⟨b,off,none⟩) l.length c,.func (.func 73) #[] #[]] w fun e w'=>
   e=.returned (.tuple #[])∧∃l',l'.Perm l∧l'.Pairwise (fun x y=>¬ltP y x)∧PlAt w' (.slice (some ⟨b,off,none⟩) l.length c) l'∧Touch [b] w w':=by
 have eg:∀args w,(callFunc 73 args).run Tryz.prog w=.ok (.enter 73 args) w:=enters_of Tryz.func73 (by kernel_rfl) rfl
 have hH:Sort.HoldsK encP 2 w b off l.toArray:=by
  unfold Sort.HoldsK
  rw[zi3]
  intro j hj
  have hj':j<l.length*2:=by simpa[uo]using hj
  obtain⟨g,off',c',e,_,_,hx⟩:=SlAt.cells h (by rw[uo];omega)
  cases e
  refine hx j _ ?_
  rw[getElem!_pos ((pl l).toArray) j hj]
  simp
 have hb:b<w.heap.size:=SlAt.lt h b rfl
 have:=AnyQ.slices_SortFunc zkx 2 (fun w=>by kernel_rfl) (fun w=>by kernel_rfl) encP zbi zk8 cmpP swoP 73 #[] b off c l.toArray w eg (fun m os dk _ x y=>zde _ x y) hH hb (by simp;omega)
 simp only[List.size_toArray]at this
 refine this.mono ?_
 rintro e w' ⟨rfl,d',n,os,hp,hs,rfl⟩
 obtain⟨hp1,_,hp3⟩:=hp
 have hsz:d'.toList.length=l.length:=by simpa using hp1
 have ed:d'=d'.toList.toArray:=by simp
 have hw:=zfx h hsz n os
 rw[←ed]at hw
 refine⟨rfl,d'.toList,?_,?_,hw.1,hw.2⟩
 ·have e1:d'.extract 0 l.length=d':=by rw[←hsz];simp
  have e2:l.toArray.extract 0 l.length=l.toArray:=by simp
  rw[e1,e2]at hp3
  simpa using hp3
 ·refine List.pairwise_iff_getElem.2 fun i j hi hj hij=>?_
  have:=hs i j (Nat.zero_le _) hij (by rw[←hsz];exact hj)
  rw[V3,getElem!_pos d' j (by simpa using hj),getElem!_pos d' i (by simpa using hi)]at this
  simpa using this
theorem Xb{P:Program}{ops:Array Oper}{o:Oper}{a:Act}{w:World}{K:Act→World→Prop}{Q:Exit→Act→World→Prop}{E:Prop}
  (hg:o.guard=none) (s x:Operand) (t:TypeId) (hop:o.op=Op.call {callee:=Callee.builtin Builtin.append,args:=#[s,x],argTypes:=#[t,t]})
  (v sv v':Value) (w':World) (hs:a.eval s=v) (hx:a.eval x=sv) (hr:(Builtin.append_ #[t,t] o.type #[v,sv]).run P w=.ok v' w')
  (hK:K (a.put o.dst v') w'):if Region.wanted o (yielded ops a.tmps)=true then Oper.wp P o a w K Q else E:=by
 have hw:Region.wanted o (yielded ops a.tmps)=true:=by simp[Region.wanted,hg]
 rw[if_pos hw]
 unfold Oper.wp
 simp[execOp,hop,resolve,invoke,builtin,hs,hx,hr,Result.andThen]
 exact hK
structure Zj(w:World)(p:Nat)(S:List Nat)(V:List Value)(L:List (List (Int×Int))):Prop where
 blk:∃T,w.heap[p]?=some (.cells V.toArray T (0,0))
 lenV:V.length=32
 lenL:L.length=32
 at_:∀(i:Nat) (v:Value) (l:List (Int×Int)),V[i]?=some v→L[i]?=some l→PlAt w v l
 own:∀(i:Nat) (v:Value) (b:Nat),V[i]?=some v→v.ownBlock=some b→b∈S∧b≠p
 inj:∀(i j:Nat) (u v:Value) (b:Nat),V[i]?=some u→V[j]?=some v→u.ownBlock=some b→v.ownBlock=some b→i=j
 pin:p∈S
theorem Zj.touch{w w':World}{p:Nat}{S S0:List Nat}{V:List Value}{L:List (List (Int×Int))}(h:Zj w p S V L)(t:Touch S0 w w')(hn:∀b∈S,b∉S0):Zj w' p S V L:=by
 obtain⟨⟨T,hb⟩,h2,h3,h4,h5,h6,h7⟩:=h
 exact⟨⟨T,(t.block p (Array.getElem?_eq_some_iff.1 hb).1 (hn p h7)).trans hb⟩,h2,h3,fun i v l hv hl=>(h4 i v l hv hl).touch t fun b hb=>hn b (h5 i v b hv hb).1,h5,h6,h7⟩
theorem Zj.below{w w':World}{p:Nat}{S:List Nat}{V:List Value}{L:List (List (Int×Int))}(h:Zj w p S V L)(hb:Below w.heap.size w w'):Zj w' p S V L:=
 h.touch (Touch.of_below (S:=[]) hb) (by simp)
theorem Zj.put{w w':World}{p:Nat}{S:List Nat}{V:List Value}{L:List (List (Int×Int))}(h:Zj w p S V L){k:Nat}{v v':Value}{l':List (Int×Int)}(hv:V[k]?=some v)
  (hp:∃T,w'.heap[p]?=some (.cells (V.set k v').toArray T (0,0))) (hl:PlAt w' v' l') (hown:∀b,v'.ownBlock=some b→v.ownBlock=some b∨w.heap.size≤b)
  (hrest:∀j,j<w.heap.size→j≠p→v.ownBlock≠some j→w'.heap[j]?=w.heap[j]?) (ho:w'.os=w.os) (ht:w'.tape=w.tape) (hout:w'.output=w.output) (hs:w.heap.size≤w'.heap.size):
  ∃S' V',Zj w' p S' V' (L.set k l')∧Touch S w w'∧∀b∈S',b∈S∨w.heap.size≤b:=by
 have hk:k<32:=by have:=(List.getElem?_eq_some_iff.1 hv).1;rw[h.lenV]at this;exact this
 have hpw:p<w.heap.size:=by obtain⟨T,hb⟩:=h.blk;exact(Array.getElem?_eq_some_iff.1 hb).1
 have hlt:∀(i:Nat) (u:Value) (b:Nat),V[i]?=some u→u.ownBlock=some b→b<w.heap.size:=fun i u b hu hb=>by
  have hi:i<L.length:=by rw[h.lenL,←h.lenV];exact(List.getElem?_eq_some_iff.1 hu).1
  exact SlAt.lt (h.at_ i u _ hu (List.getElem?_eq_getElem hi)) b hb
 obtain⟨S',hS',hS2⟩:∃S':List Nat,(∀b,b∈S'↔b∈S∨v'.ownBlock=some b)∧True:=by
  cases e:v'.ownBlock with
  | none=>exact⟨S,by simp,trivial⟩
  | some b=>exact⟨b::S,by intro c;simp[eq_comm,or_comm],trivial⟩
 refine⟨S',V.set k v',⟨hp,by simp[h.lenV],by simp[h.lenL],?_,?_,?_,(hS' p).2 (.inl h.pin)⟩,⟨ho,ht,hout,hs,fun j hj hn=>hrest j hj (fun e=>hn (e▸h.pin)) (fun e=>hn (h.own k v j hv e).1)⟩,fun b hb=>?_⟩
 ·intro i u m hu hm
  by_cases hik:i=k
  ·subst hik
   rw[List.getElem?_set_self (by rw[h.lenV];exact hk)]at hu
   rw[List.getElem?_set_self (by rw[h.lenL];exact hk)]at hm
   cases hu;cases hm
   exact hl
  ·rw[List.getElem?_set_ne (Ne.symm hik)]at hu hm
   refine(h.at_ i u m hu hm).keep fun b hb=>hrest b (hlt i u b hu hb) (h.own i u b hu hb).2 (fun e=>hik (h.inj i k u v b hu hv hb e))
 ·intro i u b hu hb
  by_cases hik:i=k
  ·subst hik
   rw[List.getElem?_set_self (by rw[h.lenV];exact hk)]at hu
   cases hu
   refine⟨(hS' b).2 (.inr hb),?_⟩
   rcases hown b hb with e|e
   ·exact(h.own i v b hv e).2
   ·omega
  ·rw[List.getElem?_set_ne (Ne.symm hik)]at hu
   exact⟨(hS' b).2 (.inl (h.own i u b hu hb).1),(h.own i u b hu hb).2⟩
 ·have key:∀(i:Nat) (u:Value) (b:Nat),i≠k→V[i]?=some u→u.ownBlock=some b→v'.ownBlock=some b→False:=fun i u b hik hu hb hb'=>by
   rcases hown b hb' with e|e
   ·exact hik (h.inj i k u v b hu hv hb e)
   ·have:=hlt i u b hu hb;omega
  intro i j u u' b hu hu' hb hb'
  by_cases hik:i=k
  ·subst hik
   rw[List.getElem?_set_self (by rw[h.lenV];exact hk)]at hu
   cases hu
   by_cases hjk:j=i
   ·exact hjk.symm
   ·rw[List.getElem?_set_ne (Ne.symm hjk)]at hu'
    exact(key j u' b hjk hu' hb' hb).elim
  ·rw[List.getElem?_set_ne (Ne.symm hik)]at hu
   by_cases hjk:j=k
   ·subst hjk
    rw[List.getElem?_set_self (by rw[h.lenV];exact hk)]at hu'
    cases hu'
    exact(key i u b hik hu hb hb').elim
   ·rw[List.getElem?_set_ne (Ne.symm hjk)]at hu'
    exact h.inj i j u u' b hu hu' hb hb'
 ·rcases(hS' b).1 hb with hb|hb
  ·exact .inl hb
  ·rcases hown b hb with e|e
   ·exact .inl (h.own k v b hv e).1
   ·exact .inr e
theorem Qw{w:World}{p k:Nat}{V:List Value}{T:TypeId}(h:w.heap[p]?=some (.cells V.toArray T (0,0)))(v:Value):(w.setCell ⟨p,k,none⟩ v).heap[p]?=some (.cells (V.set k v).toArray T (0,0)):=by
 unfold World.setCell
 simp only[Array.getElem?_modify,if_true,h]
 simp
theorem Qr(w:World)(p:Nat)(k:Nat)(hk:k<32):Calls Tryz.prog 70 #[.pointer (some ⟨p,0,none⟩),.int .i64 k] w fun e w'=>e=.returned (.bool true)∧w'=w:=by
 have h0:(0:Int)≤k:=by omega
 have h1:(k:Int)<32:=by omega
 go_enter Tryz.func70,Tryz.ntmps70
 go_wp2_with fail
 go_ret
 exact⟨rfl,rfl⟩
theorem zmg(w:World):Calls Tryz.prog 117 #[] w fun e w'=>e=.returned (.pointer (some ⟨w.heap.size,0,none⟩))∧Zj w' w.heap.size [w.heap.size] (List.replicate 32 (.slice none 0 0)) (List.replicate 32 [])∧Below w.heap.size w w'∧w'.heap.size=w.heap.size+1:=by
 go_enter Tryz.func117,Tryz.ntmps117
 go_wp2_with fail
 go_ret
 refine⟨rfl,⟨⟨_,heap_alloc_new w _⟩,by simp,by simp,?_,?_,?_,by simp⟩,(Below.refl _ _).alloc (Nat.le_refl _) _,by simp⟩
 ·intro i v l hv hl
  simp only[List.getElem?_replicate]at hv hl
  split at hv
  ·rw[if_pos ‹_›]at hl;cases hv;cases hl;exact PlAt.nil _
  ·cases hv
 ·intro i v b hv hb
  simp only[List.getElem?_replicate]at hv
  split at hv
  ·cases hv;simp[Value.ownBlock]at hb
  ·cases hv
 ·intro i j u v b hu hv hb
  simp only[List.getElem?_replicate]at hu
  split at hu
  ·cases hu;simp[Value.ownBlock]at hb
  ·cases hu
theorem zes{α:Type}{L:List α}{k:Nat}{l:α}(h:L[k]?=some l):L.set k l=L:=by
 obtain⟨hk,e⟩:=List.getElem?_eq_some_iff.1 h
 subst e
 exact List.set_getElem_self hk
theorem zj6(w:World)(p:Nat)(S:List Nat)(V:List Value)(L:List (List (Int×Int)))(h:Zj w p S V L)(k:Nat)(l:List (Int×Int))(hl:L[k]?=some l)(x:Int×Int)(hs:y9 l)(hlen:l.length≤100000):
  Calls Tryz.prog 26 #[.pointer (some ⟨p,0,none⟩),.int .i64 k,.agg #[.int .i64 x.1,.int .i64 x.2]] w fun e w'=>e=.returned (.bool true)∧∃S' V',Zj w' p S' V' (L.set k (putP l x))∧Touch S w w'∧∀b∈S',b∈S∨w.heap.size≤b:=by
 have hk:k<32:=by have:=(List.getElem?_eq_some_iff.1 hl).1;rw[h.lenL]at this;exact this
 obtain⟨v,hv⟩:∃v,V[k]?=some v:=⟨_,List.getElem?_eq_getElem (by rw[h.lenV];exact hk)⟩
 obtain⟨T,hblk⟩:=h.blk
 have hp:p<w.heap.size:=(Array.getElem?_eq_some_iff.1 hblk).1
 have hc:w.cell? ⟨p,k,none⟩=some v:=by rw[cell_of_row w p k _ _ _ hblk];simpa using hv
 have hpl:=h.at_ k v l hv hl
 have H:=Lib.hid h
 have HPL:=Lib.hid hpl
 clear h hpl
 have hk0:(0:Int)≤k:=by omega
 have hk1:(k:Int)<32:=by omega
 go_enter Tryz.func26,Tryz.ntmps26
 go_wp2_with fail
 refine(Qr _ _ k hk).mono ?_
 rintro e w1 ⟨rfl,rfl⟩
 go_wp2_with fail
 obtain⟨W,hW⟩:∃W,W=(w.alloc (.cells #[.int .i64 x.1,.int .i64 x.2] 58)).drew:=⟨_,rfl⟩
 have q0:W.cell? ⟨p,k,none⟩=some v:=by rw[hW];go_simp
 have q1:W.cell? ⟨w.heap.size,0,none⟩=some (.int .i64 x.1):=by rw[hW];go_simp
 have q2:W.cell? ⟨w.heap.size,1,none⟩=some (.int .i64 x.2):=by rw[hW];go_simp
 have hBW:Hid (Below w.heap.size w W∧W.heap.size=w.heap.size+1):=by
  rw[hW]
  exact⟨((Below.refl _ _).alloc (Nat.le_refl _) _).drew,by show(w.alloc _).heap.size=_;simp⟩
 have hd:(w.alloc (.cells #[.int .i64 x.1,.int .i64 x.2] 58)).drew=W:=hW.symm
 clear hW hc
 have cC:Hid (∀W',Below w.heap.size w W'→Calls Tryz.prog 71 #[v,.agg #[.int .i64 x.1,.int .i64 x.2]] W' fun e w'=>e=.returned (.bool (decide (x∈l)))∧Below W'.heap.size W' w'):=fun W' hb=>Ua W' v l (HPL.out.below hb) x
 clear hblk
 by_cases hx:x∈l
 ·rw[decide_eq_true hx]at cC
  have hput:putP l x=l:=by unfold putP;rw[if_pos hx]
  have hset:L.set k (putP l x)=L:=by rw[hput];exact zes hl
  go_region_held (fun W'=>W'.cell? ⟨p,k,none⟩=some v∧W'.cell? ⟨w.heap.size,0,none⟩=some (.int .i64 x.1)∧W'.cell? ⟨w.heap.size,1,none⟩=some (.int .i64 x.2)) (go_keep)
   ((go_at_call 71;refine(cC.out _ hBW.out.1).mono ?_;rintro e w2 ⟨rfl,hb2⟩;have hb3:=Lib.hid hb2;have q0':=(hb2.cell (World.block_lt_of_cell? _ _ q0)).trans q0;have q1':=(hb2.cell (World.block_lt_of_cell? _ _ q1)).trans q1;have q2':=(hb2.cell (World.block_lt_of_cell? _ _ q2)).trans q2;clear hb2))
  go_wp2_with fail
  go_ret
  have hB:Below w.heap.size w w2:=hBW.out.1.trans (hb3.out.mono (by rw[hBW.out.2];omega))
  rw[hset]
  exact⟨rfl,S,V,H.out.below hB,Touch.of_below hB,fun b hb=>.inl hb⟩
 ·rw[decide_eq_false hx]at cC
  go_region_held (fun W'=>W'.cell? ⟨p,k,none⟩=some v∧W'.cell? ⟨w.heap.size,0,none⟩=some (.int .i64 x.1)∧W'.cell? ⟨w.heap.size,1,none⟩=some (.int .i64 x.2)) (go_keep)
   ((go_at_call 71;refine(cC.out _ hBW.out.1).mono ?_;rintro e w2 ⟨rfl,hb2⟩;have hb3:=Lib.hid hb2;have q0':=(hb2.cell (World.block_lt_of_cell? _ _ q0)).trans q0;have q1':=(hb2.cell (World.block_lt_of_cell? _ _ q1)).trans q1;have q2':=(hb2.cell (World.block_lt_of_cell? _ _ q2)).trans q2;clear hb2))
  have hB2:=Lib.hid (hBW.out.1.trans (hb3.out.mono (by rw[hBW.out.2];omega)))
  clear q0 q1 q2 cC
  go_wp2_with fail
  -- the append
  obtain⟨i0,hi0,hz0,hs0,hb0⟩:=Je
  have hsw2:=H.out.below hB2.out
  have hp2:PlAt w2 v l:=hsw2.at_ k v l hv hl
  obtain⟨T2,hblk2⟩:=hsw2.blk
  obtain⟨w2a,hw2a⟩:∃w2a,w2a=(w2.alloc (.cells #[.int .i64 x.1,.int .i64 x.2] 58)).drew:=⟨_,rfl⟩
  have hb2a:Below w2.heap.size w2 w2a:=by rw[hw2a];exact((Below.refl _ _).alloc (Nat.le_refl _) _).drew
  obtain⟨v',w3,hr,hsl,hgr,hown⟩:=jd (P:=Tryz.prog) w2a 120 120 58 i0 _ 2 16 Tryz.underlying120 hi0 hz0 hs0 hb0 rfl v l.length (pl l) (hp2.below hb2a) ⟨w2.heap.size,0,none⟩ 1 1 (pl [x]) rfl (by
    rw[hw2a]
    intro j u hu
    exact Xu w2 58 (pl [x]) j u hu) (zaf [x]) (by simp only[maxLen];omega) (by omega)
  have hp3:PlAt w3 v' (l++[x]):=by
   show SlAt _ _ _ _ _ _
   rw[Q0,List.length_append]
   exact hsl
  have hownv:∀b,v.ownBlock=some b→b∈S∧b≠p:=fun b hb=>H.out.own k v b hv hb
  have hpw2:p<w2.heap.size:=Nat.lt_of_lt_of_le hp hB2.out.size
  have hpw3:w3.heap[p]?=some (.cells V.toArray T2 (0,0)):=by
   rw[hgr.block p (Nat.lt_of_lt_of_le hpw2 hb2a.size) (fun e=>(hownv p e.symm).2 rfl),hb2a.block p hpw2]
   exact hblk2
  have c3:w3.cell? ⟨p,k,none⟩=some v:=by rw[cell_of_row w3 p k _ _ _ hpw3];simpa using hv
  have f3:w3.frozen? ⟨p,k,none⟩=false:=by simp[World.frozen?,hpw3]
  have hsz2a:w2.heap.size<w2a.heap.size:=by rw[hw2a];show _<(w2.alloc _).heap.size;simp
  rw[hw2a]at hr
  obtain⟨b,off,c,rfl,hbw⟩:∃b off c,v'=.slice (some ⟨b,off,none⟩) (l.length+1) c∧b<w3.heap.size:=by
   rcases hp3.form with⟨_,e⟩|⟨b,off,c,e,_,_,hb⟩
   ·simp at e
   ·exact⟨b,off,c,by simpa using e,hb⟩
  have hbnew:v.ownBlock=some b∨w.heap.size≤b:=by
   rcases hown with e|e
   ·left;rw[←e];rfl
   ·right
    have:b=w2a.heap.size:=by simpa[Value.ownBlock]using e
    have:=hB2.out.size
    omega
  have hbp:b≠p:=by
   rcases hbnew with e|e
   ·exact(hownv b e).2
   ·omega
  have fin:Hid (Calls Tryz.prog 72 #[.slice (some ⟨b,off,none⟩) (l.length+1) c,.func (.func 73) #[] #[]] (w3.setCell ⟨p,k,none⟩ (.slice (some ⟨b,off,none⟩) (l.length+1) c)) fun e w5=>
    e=.returned (.tuple #[])∧∃S' V',Zj w5 p S' V' (L.set k (putP l x))∧Touch S w w5∧∀b∈S',b∈S∨w.heap.size≤b):=by
   have hp4:PlAt (w3.setCell ⟨p,k,none⟩ (.slice (some ⟨b,off,none⟩) (l.length+1) c)) (.slice (some ⟨b,off,none⟩) (l++[x]).length c) (l++[x]):=by
    rw[List.length_append]
    refine hp3.keep fun b' hb'=>?_
    have:b'=b:=by simpa[Value.ownBlock]using hb'.symm
    subst this
    exact Below.heap_setCell w3 _ _ b' hbp
   have hrow:=Qw (k:=k) hpw3 (.slice (some ⟨b,off,none⟩) (l.length+1) c)
   have hS:=zc4 _ b off c (l++[x]) hp4 (by simp;omega)
   rw[List.length_append]at hS
   refine hS.mono ?_
   rintro e w5 ⟨rfl,l',hperm,hsort,hp5,t5⟩
   refine⟨rfl,?_⟩
   rw[←zer hs hx hperm hsort]
   have hb4:∀j,j≠p→(w3.setCell ⟨p,k,none⟩ (.slice (some ⟨b,off,none⟩) (l.length+1) c)).heap[j]?=w3.heap[j]?:=fun j hj=>Below.heap_setCell w3 _ _ j (fun e=>hj e)
   have hs4:(w3.setCell ⟨p,k,none⟩ (.slice (some ⟨b,off,none⟩) (l.length+1) c)).heap.size=w3.heap.size:=by simp[World.setCell]
   have hpw3':=(Array.getElem?_eq_some_iff.1 hpw3).1
   refine H.out.put (v:=v) (v':=.slice (some ⟨b,off,none⟩) (l.length+1) c) hv ⟨T2,?_⟩ hp5 ?_ ?_ ?_ ?_ ?_ ?_
   ·rw[t5.block p (by rw[hs4];exact hpw3') (by simp;exact fun e=>hbp e.symm)]
    exact hrow
   ·intro b' hb'
    have:b'=b:=by simpa[Value.ownBlock]using hb'.symm
    subst this
    exact hbnew
   ·intro j hj hjp hjv
    have h1:j<w2.heap.size:=Nat.lt_of_lt_of_le hj hB2.out.size
    have h2:j<w2a.heap.size:=Nat.lt_of_lt_of_le h1 hb2a.size
    have hjb:j≠b:=fun e=>by
     subst e
     rcases hbnew with e|e
     ·exact hjv e
     ·omega
    rw[t5.block j (by rw[hs4];exact Nat.lt_of_lt_of_le h2 hgr.size) (by simpa using hjb),hb4 j hjp,hgr.block j h2 (fun e=>hjv e.symm),hb2a.block j h1,hB2.out.block j hj]
   ·exact t5.os.trans (hgr.os.trans (hb2a.os.trans hB2.out.os))
   ·exact t5.tape.trans (hgr.tape.trans (hb2a.tape.trans hB2.out.tape))
   ·exact t5.output.trans (hgr.output.trans (hb2a.output.trans hB2.out.output))
   ·have:=t5.size;rw[hs4]at this;have:=hgr.size;have:=hb2a.size;have:=hB2.out.size;omega
  have HR:=Lib.hid hr
  clear hr hsl hgr hown hp3 hpw3 hownv hw2a hb2a hsz2a hp2 hblk2 hsw2
  go_region_law (refine Xb rfl (.tmp 27) (.tmp 29) 120 rfl v _ _ w3 (by simp[Act.eval,Act.put]) (by simp[Act.eval,Act.put]) HR.out ?_)
  all_goals (go_wp2_with fail;refine fin.out.mono ?_;rintro e w5 ⟨rfl,S',V',h1,h2,h3⟩;have h1':=Lib.hid h1;have h2':=Lib.hid h2;have h3':=Lib.hid h3;clear h1 h2 h3;go_wp2_with fail;go_ret;exact⟨rfl,S',V',h1'.out,h2'.out,h3'.out⟩)
section
open Go Go.RowKit
variable {K:Int→Prop}
theorem zg6(L:Int→List (Int×Int))(f:Int){l:List (Int×Int)}(h:l=L f):updF L f l=L:=by
 funext g
 unfold updF
 split
 ·rename_i e;rw[e];exact h
 ·rfl
theorem zka(w:World)(p m:Nat)(S:List Nat)(V:List (Int×Value))(L:Int→List (Int×Int))(h:u7 K w p m S V L)(f:Int)(x:Int×Int)(hs:y9 (L f))(hlen:(L f).length≤100000)(hK:K f):
  Calls Tryz.prog 141 #[.pointer (some ⟨p,0,none⟩),.int .i64 f,.agg #[.int .i64 x.1,.int .i64 x.2]] w fun e w'=>e=.returned (.tuple #[])∧∃S' V',u7 K w' p m S' V' (updF L f (putP (L f) x))∧Touch S w w'∧∀b∈S',b∈S∨w.heap.size≤b:=by
 obtain⟨hp,hm,hpm⟩:=h.ps
 have hc:=h.c0
 obtain⟨v,hv⟩:∃v,v=Zb V f:=⟨_,rfl⟩
 obtain⟨l,hl⟩:∃l,l=L f:=⟨_,rfl⟩
 have hlook:∀W,Below w.heap.size w W→(Instr.lookup 212 (.map (some m)) (.int .i64 f) false).run Tryz.prog W=.ok v W:=fun W hW=>by rw[hv];exact(h.below hW).look f
 have hpl:PlAt w v l:=by rw[hv,hl];exact h.at_ f
 rw[←hl]at hlen hs⊢
 have H:=Lib.hid h
 have HPL:=Lib.hid hpl
 have HV:=Lib.hid hv
 have HL:=Lib.hid hlook
 have HLL:=Lib.hid hl
 clear h hpl hv hlook hl
 go_enter Tryz.func141,Tryz.ntmps141
 go_wp2_with fail
 obtain⟨W,hW⟩:∃W,W=(w.alloc (.cells #[.int .i64 x.1,.int .i64 x.2] 58)).drew:=⟨_,rfl⟩
 have q0:W.cell? ⟨p,0,none⟩=some (.map (some m)):=by rw[hW];go_simp
 have q1:W.cell? ⟨w.heap.size,0,none⟩=some (.int .i64 x.1):=by rw[hW];go_simp
 have q2:W.cell? ⟨w.heap.size,1,none⟩=some (.int .i64 x.2):=by rw[hW];go_simp
 have hBW:Hid (Below w.heap.size w W∧W.heap.size=w.heap.size+1):=by
  rw[hW]
  exact⟨((Below.refl _ _).alloc (Nat.le_refl _) _).drew,by show(w.alloc _).heap.size=_;simp⟩
 have hd:(w.alloc (.cells #[.int .i64 x.1,.int .i64 x.2] 58)).drew=W:=hW.symm
 have hlk:=HL.out W hBW.out.1
 clear hW hc
 have cC:Hid (∀W',Below w.heap.size w W'→Calls Tryz.prog 71 #[v,.agg #[.int .i64 x.1,.int .i64 x.2]] W' fun e w'=>e=.returned (.bool (decide (x∈l)))∧Below W'.heap.size W' w'):=fun W' hb=>Ua W' v l (HPL.out.below hb) x
 by_cases hx:x∈l
 ·rw[decide_eq_true hx]at cC
  have hput:putP l x=l:=by unfold putP;rw[if_pos hx]
  go_region_held (fun W'=>W'.cell? ⟨p,0,none⟩=some (.map (some m))∧W'.cell? ⟨w.heap.size,0,none⟩=some (.int .i64 x.1)∧W'.cell? ⟨w.heap.size,1,none⟩=some (.int .i64 x.2)) (go_keep)
   ((go_at_call 71;refine(cC.out _ hBW.out.1).mono ?_;rintro e w2 ⟨rfl,hb2⟩;have hb3:=Lib.hid hb2;have q0':=(hb2.cell (World.block_lt_of_cell? _ _ q0)).trans q0;have q1':=(hb2.cell (World.block_lt_of_cell? _ _ q1)).trans q1;have q2':=(hb2.cell (World.block_lt_of_cell? _ _ q2)).trans q2;clear hb2))
  have hB2:=Lib.hid (hBW.out.1.trans (hb3.out.mono (by rw[hBW.out.2];omega)))
  go_wp2_with fail
  refine bodyPost_ret (v:=.tuple #[]) (by simp[results,Tryz.results141,go_sem]) rfl ⟨rfl,?_⟩
  rw[hput,zg6 L f HLL.out]
  exact⟨S,V,H.out.below hB2.out,Touch.of_below hB2.out,fun b hb=>.inl hb⟩
 ·rw[decide_eq_false hx]at cC
  go_region_held (fun W'=>W'.cell? ⟨p,0,none⟩=some (.map (some m))∧W'.cell? ⟨w.heap.size,0,none⟩=some (.int .i64 x.1)∧W'.cell? ⟨w.heap.size,1,none⟩=some (.int .i64 x.2)) (go_keep)
   ((go_at_call 71;refine(cC.out _ hBW.out.1).mono ?_;rintro e w2 ⟨rfl,hb2⟩;have hb3:=Lib.hid hb2;have q0':=(hb2.cell (World.block_lt_of_cell? _ _ q0)).trans q0;have q1':=(hb2.cell (World.block_lt_of_cell? _ _ q1)).trans q1;have q2':=(hb2.cell (World.block_lt_of_cell? _ _ q2)).trans q2;clear hb2))
  have hB2:=Lib.hid (hBW.out.1.trans (hb3.out.mono (by rw[hBW.out.2];omega)))
  clear q0 q1 q2 cC hlk
  go_wp2_with fail
  obtain⟨W2,hW2⟩:∃W2,W2=w2.drew:=⟨_,rfl⟩
  have hB3:Hid (Below w.heap.size w W2):=by rw[hW2];exact hB2.out.drew
  have r0:W2.cell? ⟨p,0,none⟩=some (.map (some m)):=by rw[hW2];go_simp
  have r1:W2.cell? ⟨w.heap.size,0,none⟩=some (.int .i64 x.1):=by rw[hW2];go_simp
  have r2:W2.cell? ⟨w.heap.size,1,none⟩=some (.int .i64 x.2):=by rw[hW2];go_simp
  have hd2:w2.drew=W2:=hW2.symm
  have hlk2:=HL.out W2 hB3.out
  clear hW2 q0' q1' q2'
  obtain⟨W3,hW3⟩:∃W3,W3=W2.alloc (.cells #[.int .i64 x.1,.int .i64 x.2] 58):=⟨_,rfl⟩
  have hb3':Hid (Below W2.heap.size W2 W3):=by rw[hW3];exact(Below.refl _ _).alloc (Nat.le_refl _) _
  have hlk3:=HL.out W3 (hB3.out.trans (hb3'.out.mono hB3.out.size))
  have r30:=(hb3'.out.cell (World.block_lt_of_cell? _ _ r0)).trans r0
  have r31:=(hb3'.out.cell (World.block_lt_of_cell? _ _ r1)).trans r1
  have r32:=(hb3'.out.cell (World.block_lt_of_cell? _ _ r2)).trans r2
  have hd3:W2.alloc (.cells #[.int .i64 x.1,.int .i64 x.2] 58)=W3:=hW3.symm
  obtain⟨i0,hi0,hz0,hs0,hby0⟩:=Je
  have hB4:=Lib.hid (hB3.out.trans (hb3'.out.mono hB3.out.size))
  obtain⟨v',w3,hr,hsl,hgr,hown⟩:=jd (P:=Tryz.prog) W3 120 120 58 i0 _ 2 16 Tryz.underlying120 hi0 hz0 hs0 hby0 rfl v l.length (pl l) (HPL.out.below hB4.out) ⟨W2.heap.size,0,none⟩ 1 1 (pl [x]) rfl (by
    rw[hW3]
    intro j u hu
    exact Xu W2 58 (pl [x]) j u hu) (zaf [x]) (by simp only[maxLen];omega) (by omega)
  have hp3:PlAt w3 v' (l++[x]):=by
   show SlAt _ _ _ _ _ _
   rw[Q0,List.length_append]
   exact hsl
  have hownv:∀b,v.ownBlock=some b→b∈S∧b≠p∧b≠m:=fun b hb=>H.out.own f b (by rw[←HV.out];exact hb)
  have hps3:=(H.out.below hB4.out).ps
  have hm3:MapAt w3 m vz idV V:=(H.out.below hB4.out).map.keep (hgr.block m hps3.2.1 (fun e=>(hownv m e.symm).2.2 rfl))
  have r40:w3.cell? ⟨p,0,none⟩=some (.map (some m)):=(World.cell?_of_block (w:=W3) (hgr.block p hps3.1 (fun e=>(hownv p e.symm).2.1 rfl))).trans r30
  have hW3lt:w.heap.size<W3.heap.size:=World.block_lt_of_cell? _ _ r31
  have r41:w3.cell? ⟨w.heap.size,0,none⟩=some (.int .i64 x.1):=(World.cell?_of_block (w:=W3) (hgr.block w.heap.size hW3lt (fun e=>by have:=SlAt.lt HPL.out w.heap.size e.symm;omega))).trans r31
  have r42:w3.cell? ⟨w.heap.size,1,none⟩=some (.int .i64 x.2):=(World.cell?_of_block (w:=W3) (hgr.block w.heap.size hW3lt (fun e=>by have:=SlAt.lt HPL.out w.heap.size e.symm;omega))).trans r32
  obtain⟨w4,hr4,M4,g4,z4⟩:=Xx (T:=212) Ur Tryz.underlying212 hm3 f v'
  obtain⟨b,off,c,rfl,hbw⟩:∃b off c,v'=.slice (some ⟨b,off,none⟩) (l.length+1) c∧b<w3.heap.size:=by
   rcases hp3.form with⟨_,e⟩|⟨b,off,c,e,_,_,hb⟩
   ·simp at e
   ·exact⟨b,off,c,by simpa using e,hb⟩
  have hbnew:v.ownBlock=some b∨w.heap.size≤b:=by
   rcases hown with e|e
   ·left;rw[←e];rfl
   ·right
    have:b=W3.heap.size:=by simpa[Value.ownBlock]using e
    have:=hB4.out.size
    omega
  have hbm:b≠m:=by
   rcases hbnew with e|e
   ·exact(hownv b e).2.2
   ·omega
  have hg4p:∀j,j<w3.heap.size→j≠m→w4.heap[j]?=w3.heap[j]?:=fun j hj hjm=>g4.block j hj (by simp;exact hjm)
  obtain⟨S1,hA1,hT1,hN1⟩:=H.out.set (f:=f) (v':=.slice (some ⟨b,off,none⟩) (l.length+1) c) (l':=l++[x]) (Xc V f _) (Yb V f _ H.out.nd).1 (ze8 H.out.keys H.out.nd f _ hK) M4
   (hp3.keep fun b' hb'=>by
    have:b'=b:=by simpa[Value.ownBlock]using hb'.symm
    subst this
    exact hg4p b' hbw hbm)
   (fun b' hb'=>by
    have:b'=b:=by simpa[Value.ownBlock]using hb'.symm
    subst this
    rw[←HV.out];exact hbnew)
   (fun j hj hjm hjv=>by
    have h1:j<W3.heap.size:=Nat.lt_of_lt_of_le hj hB4.out.size
    rw[hg4p j (Nat.lt_of_lt_of_le h1 hgr.size) hjm,hgr.block j h1 (fun e=>hjv (by rw[←HV.out];exact e.symm)),hB4.out.block j hj])
   (g4.os.trans (hgr.os.trans hB4.out.os)) (g4.tape.trans (hgr.tape.trans hB4.out.tape)) (g4.output.trans (hgr.output.trans hB4.out.output))
   (by have:=g4.size;have:=hgr.size;have:=hB4.out.size;omega)
  have k0:=hA1.c0
  have k1:w4.cell? ⟨w.heap.size,0,none⟩=some (.int .i64 x.1):=(World.cell?_of_block (w:=w3) (hg4p w.heap.size (World.block_lt_of_cell? _ _ r41) (show w.heap.size≠m by omega))).trans r41
  have k2:w4.cell? ⟨w.heap.size,1,none⟩=some (.int .i64 x.2):=(World.cell?_of_block (w:=w3) (hg4p w.heap.size (World.block_lt_of_cell? _ _ r41) (show w.heap.size≠m by omega))).trans r42
  have HA1:=Lib.hid hA1
  have HT1:=Lib.hid hT1
  have HN1:=Lib.hid hN1
  unfold idV vz at hr4
  rw[hW3]at hr
  have HP3:=Lib.hid hp3
  have HBM:=Lib.hid hbm
  clear hA1 hT1 hN1 hp3 hsl hgr hown hownv hm3 M4 g4 z4 hg4p hps3 hbnew hW3lt hbm hbw
  rw[←hW3]at hr
  clear hW3 hp hm hpm
  have hslot:Zb (updL V f (.slice (some ⟨b,off,none⟩) (l.length+1) c)) f=.slice (some ⟨b,off,none⟩) (l.length+1) c:=by rw[Xc,if_pos rfl]
  have hlk4:(Instr.lookup 212 (.map (some m)) (.int .i64 f) false).run Tryz.prog w4=.ok (.slice (some ⟨b,off,none⟩) (l.length+1) c) w4:=by
   have:=HA1.out.look f
   rwa[hslot]at this
  have fin:Hid (Calls Tryz.prog 72 #[.slice (some ⟨b,off,none⟩) (l.length+1) c,.func (.func 73) #[] #[]] w4 fun e w5=>
    e=.returned (.tuple #[])∧∃S' V',u7 K w5 p m S' V' (updF L f (putP l x))∧Touch S w w5∧∀b∈S',b∈S∨w.heap.size≤b):=by
   have hp4:PlAt w4 (.slice (some ⟨b,off,none⟩) (l++[x]).length c) (l++[x]):=by
    have h:=HA1.out.at_ f
    rw[hslot]at h
    unfold updF at h
    rw[if_pos rfl]at h
    rw[List.length_append]
    exact h
   have hS:=zc4 w4 b off c (l++[x]) hp4 (by simp;omega)
   rw[List.length_append]at hS
   refine hS.mono ?_
   rintro e w5 ⟨rfl,l',hperm,hsort,hp5,t5⟩
   refine⟨rfl,?_⟩
   rw[←zer hs hx hperm hsort]
   have hps:=HA1.out.ps
   have hbS:=HA1.out.own f b (by rw[hslot];rfl)
   obtain⟨S'',h1,h2,h3⟩:=HA1.out.set (f:=f) (v':=.slice (some ⟨b,off,none⟩) (l.length+1) c) (l':=l') (V':=updL V f (.slice (some ⟨b,off,none⟩) (l.length+1) c))
    (fun g=>by
     rw[Xc]
     split<;>rfl) HA1.out.nd HA1.out.keys (HA1.out.map.keep (t5.block m hps.2.1 (by simp;exact fun e=>hbS.2.2 e.symm))) hp5 (fun b' hb'=>.inl (by rw[hslot];exact hb'))
    (fun j hj _ hjv=>t5.block j hj (by
     simp only[List.mem_singleton]
     intro e
     rw[hslot]at hjv
     exact hjv (by rw[e];rfl))) t5.os t5.tape t5.output t5.size
   rw[zaa]at h1
   refine⟨S'',_,h1,HT1.out.next h2 HN1.out,fun b hb=>?_⟩
   rcases h3 b hb with e|e
   ·exact HN1.out b e
   ·have:=HT1.out.size;omega
  clear hslot
  have HR:=Lib.hid hr
  clear hr
  go_region_law (refine Xb rfl (.tmp 28) (.tmp 30) 120 rfl v _ _ w3 (by simp[Act.eval]) (by simp[Act.eval]) HR.out ?_)
  all_goals (go_wp2_with fail;refine fin.out.mono ?_;rintro e w5 ⟨rfl,hx5⟩;have HX5:=Lib.hid hx5;clear hx5;go_wp2_with fail;exact bodyPost_end (v:=.tuple #[]) (by simp[results,Tryz.results141,go_sem]) rfl ⟨rfl,HX5.out⟩)
end
end Go.Proofs.YtnhdmnijiphjjaaGreat
