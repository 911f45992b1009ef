/- DERIVED: THE SHELF's CONTRACTS AT THIS DUMP, IN PLAIN WORDS (tools/lay-plain.mjs out of 'YtnhdmnijiphjjaaGreatAreaShelf.lean', which tools/lay-shelf.mjs wrote): THE SAME DECLARATIONS UNDER THE SAME NAMES: 'import', 'namespace', 'open', 'def', 'theorem' AND NOTHING ELSE: no command of the shelf's: FOR A HAND-IN. Each laying: the table of numbers ('.._ren') and one theorem, a field a fact of the dump's own or the kernel's comparison; each contract: ONE APPLICATION. -/
import Derived.Shelf.SlGeneric
import Derived.Ground.SlgfProg
import Derived.Ground.SlgnProg
import Derived.Ground.SlsfProg
import Derived.Shelf.SlLaysE0
import Derived.Shelf.SlLaysF0
import Derived.Shelf.SlLaysH0
import Derived.Test.YtnhdmnijiphjjaaGreatProg
import Derived.Test.YtnhdmnijiphjjaaGreatJMp9
import Derived.Shelf.SlicesQ.IndexFunc
import Derived.Shelf.SlicesE.Clone
import Derived.Shelf.SlSortCmp.InsertionK
import Derived.Shelf.SlSortCmp.WholeK
import Derived.Deep.RegionHeldLaw
import Derived.Test.YtnhdmnijiphjjaaGreatJMp4
import Derived.Test.YtnhdmnijiphjjaaGreatJMp5
import Derived.Test.YtnhdmnijiphjjaaGreatJMp6
import Derived.Test.YtnhdmnijiphjjaaGreatJMp7
import Derived.Test.YtnhdmnijiphjjaaGreatJMp8
set_option linter.unusedVariables false
set_option linter.unusedSimpArgs false
set_option maxRecDepth 100000
set_option maxHeartbeats 2000000
namespace Go.Proofs
open Go.Shelf
def YtnhdmnijiphjjaaGreat.Xm:Go.Shelf.Ren:=⟨fun|8=>121|6=>165|n=>n,fun|22=>104|23=>32|25=>188|4=>4|3=>3|0=>0|n=>n,fun|n=>n⟩
theorem YtnhdmnijiphjjaaGreat.Uo:Go.Proofs.SlLaysH0.n8 Tryz.prog YtnhdmnijiphjjaaGreat.Xm:={
 mixed:=by kernel_rfl
 f6:=⟨Tryz.f165.name,by decide,Tryz.func165.trans (congrArg some (by kernel_rfl))⟩
 f8:=⟨Tryz.f121.name,by decide,Tryz.func121.trans (congrArg some (by kernel_rfl))⟩
 t0:=Tryz.underlying0
 a0:=Tryz.isAgg0
 z0:=Tryz.sizeOf0
 v0:=Tryz.zeroValue0
 t3:=Tryz.underlying3
 a3:=Tryz.isAgg3
 z3:=Tryz.sizeOf3
 v3:=Tryz.zeroValue3
 t4:=Tryz.underlying4
 a4:=Tryz.isAgg4
 z4:=Tryz.sizeOf4
 v4:=Tryz.zeroValue4
 t22:=Tryz.underlying104
 a22:=Tryz.isAgg104
 z22:=Tryz.sizeOf104
 v22:=Tryz.zeroValue104
 t25:=Tryz.underlying188
 a25:=Tryz.isAgg188
 z25:=Tryz.sizeOf188
 v25:=Tryz.zeroValue188}
def YtnhdmnijiphjjaaGreat.Jz:Go.Shelf.Ren:=⟨fun|41=>109|n=>n,fun|22=>104|23=>32|4=>4|n=>n,fun|n=>n⟩
theorem YtnhdmnijiphjjaaGreat.zam:Go.Proofs.SlLaysE0.n41 Tryz.prog YtnhdmnijiphjjaaGreat.Jz:={
 mixed:=by kernel_rfl
 f41:=⟨Tryz.f109.name,by decide,Tryz.func109.trans (congrArg some (by kernel_rfl))⟩
 t4:=Tryz.underlying4
 a4:=Tryz.isAgg4
 z4:=Tryz.sizeOf4
 v4:=Tryz.zeroValue4
 t22:=Tryz.underlying104
 a22:=Tryz.isAgg104
 z22:=Tryz.sizeOf104
 v22:=Tryz.zeroValue104}
def YtnhdmnijiphjjaaGreat.zbc:Go.Shelf.Ren:=⟨fun|6=>122|15=>129|14=>166|28=>179|29=>180|20=>203|21=>204|22=>205|23=>206|24=>207|25=>208|26=>209|27=>210|46=>230|47=>216|48=>217|49=>231|50=>232|57=>250|n=>n,fun|22=>104|24=>32|25=>191|3=>3|39=>195|0=>0|53=>254|55=>145|4=>4|46=>248|45=>247|50=>126|5=>5|9=>9|66=>281|70=>285|76=>299|77=>167|n=>n,fun|n=>n⟩
theorem YtnhdmnijiphjjaaGreat.zii:Go.Proofs.SlLaysF0.n6 Tryz.prog YtnhdmnijiphjjaaGreat.zbc:={
 mixed:=by kernel_rfl
 f6:=⟨Tryz.f122.name,by decide,Tryz.func122.trans (congrArg some (by kernel_rfl))⟩
 f14:=⟨Tryz.f166.name,by decide,Tryz.func166.trans (congrArg some (by kernel_rfl))⟩
 f15:=Tryz.func129.trans (congrArg some (by kernel_rfl))
 f20:=⟨Tryz.f203.name,by decide,Tryz.func203.trans (congrArg some (by kernel_rfl))⟩
 f21:=⟨Tryz.f204.name,by decide,Tryz.func204.trans (congrArg some (by kernel_rfl))⟩
 f22:=⟨Tryz.f205.name,by decide,Tryz.func205.trans (congrArg some (by kernel_rfl))⟩
 f23:=⟨Tryz.f206.name,by decide,Tryz.func206.trans (congrArg some (by kernel_rfl))⟩
 f24:=⟨Tryz.f207.name,by decide,Tryz.func207.trans (congrArg some (by kernel_rfl))⟩
 f25:=⟨Tryz.f208.name,by decide,Tryz.func208.trans (congrArg some (by kernel_rfl))⟩
 f26:=⟨Tryz.f209.name,by decide,Tryz.func209.trans (congrArg some (by kernel_rfl))⟩
 f27:=⟨Tryz.f210.name,by decide,Tryz.func210.trans (congrArg some (by kernel_rfl))⟩
 f28:=Tryz.func179.trans (congrArg some (by kernel_rfl))
 f29:=Tryz.func180.trans (congrArg some (by kernel_rfl))
 f46:=⟨Tryz.f230.name,by decide,Tryz.func230.trans (congrArg some (by kernel_rfl))⟩
 f47:=Tryz.func216.trans (congrArg some (by kernel_rfl))
 f48:=Tryz.func217.trans (congrArg some (by kernel_rfl))
 f49:=⟨Tryz.f231.name,by decide,Tryz.func231.trans (congrArg some (by kernel_rfl))⟩
 f50:=⟨Tryz.f232.name,by decide,Tryz.func232.trans (congrArg some (by kernel_rfl))⟩
 f57:=⟨Tryz.f250.name,by decide,Tryz.func250.trans (congrArg some (by kernel_rfl))⟩
 t0:=Tryz.underlying0
 a0:=Tryz.isAgg0
 z0:=Tryz.sizeOf0
 v0:=Tryz.zeroValue0
 t3:=Tryz.underlying3
 a3:=Tryz.isAgg3
 z3:=Tryz.sizeOf3
 v3:=Tryz.zeroValue3
 t4:=Tryz.underlying4
 a4:=Tryz.isAgg4
 z4:=Tryz.sizeOf4
 v4:=Tryz.zeroValue4
 t5:=Tryz.underlying5
 a5:=Tryz.isAgg5
 z5:=Tryz.sizeOf5
 v5:=Tryz.zeroValue5
 t9:=Tryz.underlying9
 a9:=Tryz.isAgg9
 z9:=Tryz.sizeOf9
 v9:=Tryz.zeroValue9
 t22:=Tryz.underlying104
 a22:=Tryz.isAgg104
 z22:=Tryz.sizeOf104
 v22:=Tryz.zeroValue104
 t25:=Tryz.underlying191
 a25:=Tryz.isAgg191
 z25:=Tryz.sizeOf191
 v25:=Tryz.zeroValue191
 t39:=Tryz.underlying195
 a39:=Tryz.isAgg195
 z39:=Tryz.sizeOf195
 v39:=Tryz.zeroValue195
 t45:=Tryz.underlying247
 a45:=Tryz.isAgg247
 z45:=Tryz.sizeOf247
 v45:=Tryz.zeroValue247
 t46:=Tryz.underlying248
 a46:=Tryz.isAgg248
 z46:=Tryz.sizeOf248
 v46:=Tryz.zeroValue248
 t50:=Tryz.underlying126
 a50:=Tryz.isAgg126
 z50:=Tryz.sizeOf126
 v50:=Tryz.zeroValue126
 t53:=Tryz.underlying254
 a53:=Tryz.isAgg254
 z53:=Tryz.sizeOf254
 v53:=Tryz.zeroValue254
 t55:=Tryz.underlying145
 a55:=Tryz.isAgg145
 z55:=Tryz.sizeOf145
 v55:=Tryz.zeroValue145
 t66:=Tryz.underlying281
 a66:=Tryz.isAgg281
 z66:=Tryz.sizeOf281
 v66:=Tryz.zeroValue281
 t70:=Tryz.underlying285
 a70:=Tryz.isAgg285
 z70:=Tryz.sizeOf285
 v70:=Tryz.zeroValue285
 t76:=Tryz.underlying299
 a76:=Tryz.isAgg299
 z76:=Tryz.sizeOf299
 v76:=Tryz.zeroValue299
 t77:=Tryz.underlying167
 a77:=Tryz.isAgg167
 z77:=Tryz.sizeOf167
 v77:=Tryz.zeroValue167}
end Go.Proofs
namespace Go.Proofs.YtnhdmnijiphjjaaGreat
open Go Go.RowKit
instance:Inhabited Ar:=⟨⟨0,0,false,0,0,0⟩⟩
def Vz(a b:Ar):Bool:=decide (a.from_<wrap64 (b.from_+b.pages))&&decide (b.from_<wrap64 (a.from_+a.pages))
theorem zf8(w:World)(B:Nat)(a:Ar)(hB:B<w.heap.size)(h0:w.cell? ⟨B,0,none⟩=some (.int .i64 a.from_))(h1:w.cell? ⟨B,1,none⟩=some (.int .i64 a.pages)):
  PredBelow Tryz.prog 119 #[.pointer (some ⟨B,0,none⟩)] (fun x:Ar=>.agg x.cells.toArray) (fun x=>Vz a x) w:=by
 intro W x hb
 have g0:=(hb.cell (p:=⟨B,0,none⟩) hB).trans h0
 have g1:=(hb.cell (p:=⟨B,1,none⟩) hB).trans h1
 have hBW:B<W.heap.size:=Nat.lt_of_lt_of_le hB hb.size
 have HB:=Lib.hid hb
 clear hb h0 h1
 obtain⟨f,p,wt,k,fi,o⟩:=x
 obtain⟨f1,p1,wt1,k1,fi1,o1⟩:=a
 simp only[Ar.cells]at g0 g1⊢
 unfold Vz
 simp only
 by_cases c1:f1<wrap64 (f+p)
 ·rw[decide_eq_true c1,Bool.true_and]
  go_enter Tryz.func119,Tryz.ntmps119
  go_wp2_with fail
  go_ret
  exact⟨rfl,HB.out.alloc HB.out.size _⟩
 ·rw[decide_eq_false c1,Bool.false_and]
  go_enter Tryz.func119,Tryz.ntmps119
  go_wp2_with fail
  go_ret
  exact⟨rfl,HB.out.alloc HB.out.size _⟩
theorem ArRd.hc{w:World}{b off c n:Nat}{l:List Ar}(h:ArRd w (.slice (some ⟨b,off,none⟩) n c) l):
  ∀j,j<l.length→∀i v,(Ar.cells l[j]!)[i]?=some v→w.cell? ⟨b,off+j*6+i,none⟩=some v:=by
 intro j hj i v hv
 obtain⟨g,off',c',e,_,_,hx⟩:=SlRd.cells h (by rw[ja];omega)
 cases e
 rw[getElem!_pos l j hj]at hv
 rw[Nat.add_assoc]
 exact hx _ _ (zfp (List.getElem?_eq_getElem hj) hv)
theorem J6(w:World)(v:Value)(l:List Ar)(h:ArRd w v l)(B:Nat)(a:Ar)(hB:B<w.heap.size)(h0:w.cell? ⟨B,0,none⟩=some (.int .i64 a.from_))(h1:w.cell? ⟨B,1,none⟩=some (.int .i64 a.pages)):
  Calls Tryz.prog 121 #[v,.func (.func 119) #[] #[.pointer (some ⟨B,0,none⟩)]] w fun e w'=>e=.returned (.bool (l.any fun x=>Vz a x))∧Below w.heap.size w w':=by
 rcases h.form with⟨rfl,rfl⟩|⟨b,off,c,rfl,hcc,hm,hb⟩
 ·simp only[List.any_nil]
  go_enter Tryz.func121,Tryz.ntmps121
  go_wp2
  refine wp_loop_rounds 1 ?_
  rw[rounds_succ]
  go_wp2
  go_ret
  exact⟨rfl,Below.refl _ _⟩
 ·have eg:∀args w,(callFunc 119 args).run Tryz.prog w=.ok (.enter 119 args) w:=enters_of Tryz.func119 (by kernel_rfl) rfl
  have:=AnyQ.slices_ContainsFunc Uo 6 (fun w=>by kernel_rfl) (fun w=>by kernel_rfl) Ar.cells Ar.uu (fun x=>Vz a x) 119 #[.pointer (some ⟨B,0,none⟩)] eg b off l.length c l w (zf8 w B a hB h0 h1) (Nat.le_refl _) (by unfold maxLen at hm;omega) hb h.hc
  rw[List.take_length]at this
  exact this
theorem zdx{w:World}{base:Nat}{v:Value}{l:List Ar}(h:w.ownsRow base 32 6 v l.length (ar l)):ArAt w v l:=by
 refine⟨h.1,?_⟩
 rcases h.2 with h0|⟨g,cap,cur,e,hg,hc,hn,hm,hs,ht⟩
 ·exact .inl h0
 ·refine .inr ⟨g,0,cap,cur,e,hc,hn,hm,by omega,fun j u hu=>?_⟩
  rw[←ht]at hu
  have hj:=(List.getElem?_eq_some_iff.1 hu).1
  rw[List.getElem?_take_of_lt (by simp at hj;omega)]at hu
  simpa using hu
theorem zej(w:World)(v:Value)(l:List Ar)(h:ArRd w v l)(hl:l.length≤1000000):
  Calls Tryz.prog 109 #[v] w fun e w'=>∃a c,e=.returned (.slice a l.length c)∧J5 w.heap.size w' 32 6 (.slice a l.length c) l.length (ar l)∧Below w.heap.size w w':=by
 rcases h.form with⟨rfl,rfl⟩|⟨b,off,c,rfl,hc,hm,hb⟩
 ·refine(AnyE.slices_Clone_nil zam 0 0 w).mono ?_
  rintro e w' ⟨rfl,rfl⟩
  exact⟨_,_,rfl,.inl ⟨SlAt.nil w' _ _,by simp[Value.ownBlock]⟩,Below.refl _ _⟩
 ·obtain⟨i,hi,hz,hs,hby⟩:=Qi
  have:=AnyE.slices_Clone zam i _ 6 48 hi hz hs hby (by rfl) (by omega) (fun w=>by kernel_rfl) b off l.length c (ar l) w (ja l) (by unfold maxLen;omega) (by omega) (fun j u hu=>by
   obtain⟨g,off',c',e,_,_,hx⟩:=SlRd.cells h (by have:=(List.getElem?_eq_some_iff.1 hu).1;omega)
   cases e
   exact hx j u hu) (Za l)
  refine this.mono ?_
  rintro e w' ⟨v',rfl,hown,hne,hB⟩
  have hat:ArAt w' v' l:=zdx hown
  obtain⟨a,c',rfl,_,_⟩:=SlAt.form hat
  refine⟨a,c',rfl,.inl ⟨hat,?_⟩,hB⟩
  intro b' hb'
  rcases hown.2 with⟨e,_⟩|⟨g,cap,cur,e,hg,_⟩
  ·exact absurd e hne
  ·cases e;simp[Value.ownBlock]at hb';omega
def J3(x y:Int):Int:=if x<y then -1 else if y<x then 1 else 0
theorem zn8(x y:Int)(w:World):Calls Tryz.prog 131 #[.int .i64 x,.int .i64 y] w fun e w'=>e=.returned (.int .i64 (J3 x y))∧w'=w:=by
 by_cases h1:x<y
 ·rw[show J3 x y=-1 by simp[J3,h1]]
  go_enter Tryz.func131,Tryz.ntmps131
  go_wp2
  go_ret
  exact⟨rfl,rfl⟩
 ·by_cases h2:y<x
  ·rw[show J3 x y=1 by simp[J3,h1,h2]]
   go_enter Tryz.func131,Tryz.ntmps131
   go_wp2
   go_ret
   exact⟨rfl,rfl⟩
  ·rw[show J3 x y=0 by simp[J3,h1,h2]]
   go_enter Tryz.func131,Tryz.ntmps131
   go_wp2
   go_ret
   exact⟨rfl,rfl⟩
def cmpA(x y:Ar):Int:=J3 x.from_ y.from_
theorem zbm(w:World)(x y:Ar):
  Calls Tryz.prog 123 #[.agg x.cells.toArray,.agg y.cells.toArray] w fun e w'=>e=.returned (.int .i64 (cmpA x y))∧∃q os',w'=Sort.grow (w.drewN q) os':=by
 obtain⟨f,p,wt,k,fi,o⟩:=x
 obtain⟨f1,p1,wt1,k1,fi1,o1⟩:=y
 unfold cmpA
 simp only[Ar.cells]
 generalize hu:J3 f f1=u
 have c1:=Lib.hid (fun W=>zn8 f f1 W)
 rw[hu]at c1
 clear hu
 go_enter Tryz.func123,Tryz.ntmps123
 go_wp2_with fail
 refine(c1.out _).mono ?_
 rintro e w' ⟨rfl,rfl⟩
 go_wp2_with fail
 go_ret
 refine⟨rfl,0,#[.cells #[.int .i64 f,.int .i64 p,.bool wt,.int .i64 k,.int .i64 fi,.int .i64 o] 32,.cells #[.int .i64 f1,.int .i64 p1,.bool wt1,.int .i64 k1,.int .i64 fi1,.int .i64 o1] 32],?_⟩
 simp only[Sort.alloc_eq_grow,Sort.grow_grow]
 rfl
theorem V4(x y:Ar):ltOf cmpA x y=decide (x.from_<y.from_):=by
 unfold ltOf cmpA J3
 congr 1
 simp only[eq_iff_iff]
 split<;>(repeat' split at *)<;>omega
theorem swoA:Sort.SWO (ltOf cmpA) where
 irrefl x:=by rw[V4];simp
 trans x y z h1 h2:=by rw[V4]at *;simp only[decide_eq_true_eq]at *;omega
 ntrans x y z h1 h2:=by
  rw[V4]at *
  simp only[decide_eq_false_iff_not]at *
  omega
theorem Ju{α:Type}[Inhabited α](enc:α→Value)(off:Nat)(d:Array α)(c:Array Value):(Sort.putCells enc off d c).size=c.size:=by simp[Sort.putCells]
theorem zi4(l:List Ar):Sort.flatK Ar.cells 6 l.toArray=(ar l).toArray:=by
 refine Sort.ext_get! (by rw[Sort.size_flatK];simp[ja]) fun t ht=>?_
 have ht':t<l.length*6:=by simpa using ht
 rw[Sort.get_flatK _ _ _ t (by simpa using ht')]
 have hq:t/6<l.length:=by omega
 have e0:(l.toArray)[t/6]! = l[t/6]:=by rw[getElem!_pos _ _ (by simpa using hq)];simp
 have hm:t%6<(l[t/6]).cells.length:=by rw[Ar.uu];omega
 have h1:=zfp (List.getElem?_eq_getElem hq) (List.getElem?_eq_getElem hm)
 rw[show t/6*6+t%6=t by omega]at h1
 rw[e0,getElem!_pos (ar l).toArray t (by simp[ja];omega),getElem!_pos (l[t/6]).cells (t%6) hm]
 simp only[List.getElem_toArray]
 rw[(List.getElem?_eq_some_iff.1 h1).2]
theorem zdj{w:World}{b off c:Nat}{l l':List Ar}(h:ArAt w (.slice (some ⟨b,off,none⟩) l.length c) l)(hl:l'.length=l.length)(n:Nat)(os:Array Obj):
  ArAt (sortWorldK Ar.cells 6 w b off n l'.toArray os) (.slice (some ⟨b,off,none⟩) l.length c) l'∧Touch [b] w (sortWorldK Ar.cells 6 w b off n l'.toArray os):=by
 obtain⟨arr,hg,hnc,hm,hfit,hx⟩:∃arr,w.heap[b]?=some (.cells arr 32 (0,0))∧l.length≤c∧c≤maxLen∧off+c*6≤arr.size∧∀j u,(ar l)[j]?=some u→arr[off+j]?=some u:=by
  rcases h.2 with⟨e,_⟩|⟨b',off',c',arr,e,rest⟩
  ·cases e
  ·cases e;exact⟨arr,rest⟩
 have hb:b<w.heap.size:=(Array.getElem?_eq_some_iff.1 hg).1
 obtain⟨F,hF⟩:∃F,F=(ar l').toArray:=⟨_,rfl⟩
 have hFs:F.size=l.length*6:=by rw[hF];simp[ja,hl]
 have hheap:(sortWorldK Ar.cells 6 w b off n l'.toArray os).heap=w.heap.modify b (Sort.onCells (Sort.putCells id off F))++os:=by
  unfold sortWorldK Sort.putRowK
  rw[zi4,←hF]
  rfl
 have hbk:(sortWorldK Ar.cells 6 w b off n l'.toArray os).heap[b]?=some (.cells (Sort.putCells id off F arr) 32 (0,0)):=by
  rw[hheap,Array.getElem?_append_left (by simpa using hb),Array.getElem?_modify,if_pos rfl,hg]
  rfl
 constructor
 ·show SlAt _ _ _ _ _ _
  rw[hl]
  refine⟨by rw[ja,hl],.inr ⟨b,off,c,_,rfl,hbk,hnc,hm,by rw[Ju];exact hfit,fun j u hu=>?_⟩⟩
  have hj:=(List.getElem?_eq_some_iff.1 hu).1
  rw[ja,hl]at hj
  have hja:off+j<arr.size:=by have:=Nat.mul_le_mul_right 6 hnc;omega
  simp only[Sort.putCells,Array.getElem?_mapIdx,Array.getElem?_eq_getElem hja,Option.map_some]
  rw[if_pos ⟨by omega,by rw[hFs];omega⟩,show off+j-off=j by omega,getElem!_pos F j (by rw[hFs];exact hj)]
  have:F[j]?=some u:=by rw[hF];simpa using hu
  rw[Array.getElem?_eq_getElem (by rw[hFs];exact hj)]at this
  simpa using this
 ·refine⟨rfl,rfl,rfl,by rw[hheap];simp,fun k hk hne=>?_⟩
  rw[hheap,Array.getElem?_append_left (by simpa using hk),Array.getElem?_modify,if_neg (fun e=>hne (by simp[e]))]
theorem zgq(w:World)(b off c:Nat)(l:List Ar)(h:ArAt w (.slice (some ⟨b,off,none⟩) l.length c) l)(hl:l.length≤1000000):
  Calls Tryz.prog 122 #[.slice (some ⟨b,off,none⟩) l.length c,.func (.func 123) #[] #[]] w fun e w'=>
   e=.returned (.tuple #[])∧∃l',l'.Perm l∧l'.Pairwise (fun x y=>¬y.from_<x.from_)∧ArAt w' (.slice (some ⟨b,off,none⟩) l.length c) l'∧Touch [b] w w':=by
 have eg:∀args w,(callFunc 123 args).run Tryz.prog w=.ok (.enter 123 args) w:=enters_of Tryz.func123 (by kernel_rfl) rfl
 have hH:Sort.HoldsK Ar.cells 6 w b off l.toArray:=by
  unfold Sort.HoldsK
  rw[zi4]
  intro j hj
  have hj':j<l.length*6:=by simpa[ja]using hj
  obtain⟨g,off',c',e,_,_,hx⟩:=SlAt.cells h (by rw[ja];omega)
  cases e
  refine hx j _ ?_
  rw[getElem!_pos ((ar l).toArray) j hj]
  simp
 have hb:b<w.heap.size:=SlAt.lt h b rfl
 have:=AnyQ.slices_SortFunc zii 6 (fun w=>by kernel_rfl) (fun w=>by kernel_rfl) Ar.cells Ar.uu Ar.cells_one cmpA swoA 123 #[] b off c l.toArray w eg (fun m os dk _ x y=>zbm _ x y) hH hb (by simp;omega)
 simp only[List.size_toArray]at this
 refine this.mono ?_
 rintro e w' ⟨rfl,d',n,os,hp,hs,rfl⟩
 obtain⟨hp1,_,hp3⟩:=hp
 have hsz:d'.toList.length=l.length:=by simpa using hp1
 have ed:d'=d'.toList.toArray:=by simp
 have hw:=zdj h hsz n os
 rw[←ed]at hw
 refine⟨rfl,d'.toList,?_,?_,hw.1,hw.2⟩
 ·have e1:d'.extract 0 l.length=d':=by rw[←hsz];simp
  have e2:l.toArray.extract 0 l.length=l.toArray:=by simp
  rw[e1,e2]at hp3
  simpa using hp3
 ·refine List.pairwise_iff_getElem.2 fun i j hi hj hij=>?_
  have:=hs i j (Nat.zero_le _) hij (by rw[←hsz];exact hj)
  rw[V4,getElem!_pos d' j (by simpa using hj),getElem!_pos d' i (by simpa using hi)]at this
  simpa using this
def anyA(a:Ar)(l:List Ar):Bool:=l.any fun x=>Vz a x
theorem zkb (w : World) (v : Value) (l : List Ar) (h : ArRd w v l) (B : Nat) (a : Ar) (hB : B < w.heap.size) (h0 : w.cell? ⟨B, 0, none⟩ = some (.int .i64 a.from_)) (h1 : w.cell? ⟨B, 1, none⟩ = some (.int .i64 a.pages)) :
  Calls Tryz.prog 121 #[v, .func (.func 119) #[] #[.pointer (some ⟨B, 0, none⟩)]] w fun e w' => e = .returned (.bool (anyA a l)) ∧ Below w.heap.size w w' := J6 w v l h B a hB h0 h1
structure zou(w':World)(l:List Ar)(a:Ar)(v':Value)(x:Int):Prop where
 arg:¬a.yo→x=1∧v'=.slice none 0 0
 there:a.yo→anyA a l=true→x=3∧v'=.slice none 0 0
 full:a.yo→anyA a l=false→16≤l.length→x=4∧v'=.slice none 0 0
 done:a.yo→anyA a l=false→l.length<16→x=0∧∃l',ArAt w' v' l'∧l'.Perm (l++[a])∧l'.Pairwise (fun x y=>¬y.from_<x.from_)
theorem zm2 (w : World) (v : Value) (l : List Ar) (h : ArRd w v l) (a : Ar) (hwf : a.Wf) (hlen : l.length ≤ 100) :
    Calls Tryz.prog 63 #[v, a.enc] w fun e w' => ∃ v' x, e = .returned (.tuple #[v', .int .i64 x]) ∧ Below w.heap.size w w' ∧ (∀ b, v'.ownBlock = some b → w.heap.size ≤ b) ∧ zou w' l a v' x := by
  have hsw := Lib.hid (fun W => zgp W a hwf)
  obtain ⟨av, cv, rfl, _, _⟩ := ArRd.fm h
  have H := Lib.hid h
  clear h hwf
  obtain ⟨s, hs⟩ : ∃ s, s = decide a.yo := ⟨_, rfl⟩
  have HS := Lib.hid hs
  obtain ⟨m, hm⟩ : ∃ m, m = anyA a l := ⟨_, rfl⟩
  have HM := Lib.hid hm
  rw [← hs] at hsw
  have hcf := Lib.hid (fun W B k1 k2 k3 k4 => zkb W (.slice av l.length cv) l k1 B a k2 k3 k4)
  rw [← hm] at hcf
  clear hs hm
  have hSA := Lib.hid (ArAt.Qa w w.heap.size rfl a rfl)
  have hal : Hid (ar [a] = a.cells) := by show _ = _; simp [ar]
  obtain ⟨f, p, wt, k, fi, o⟩ := a
  unfold Ar.enc at hsw ⊢
  simp only at hsw hcf ⊢
  cases s
  · have hns : Hid (¬ Ar.yo ⟨f, p, wt, k, fi, o⟩) := by have := HS.out; show ¬ _; intro hh; rw [decide_eq_true hh] at this; cases this
    go_enter Tryz.func63, Tryz.ntmps63
    go_wp2_with fail
    refine (hsw.out _).mono ?_
    rintro e w1 ⟨rfl, b1⟩
    have B1 : Hid (Below w.heap.size w w1) := ((Below.refl _ _).alloc (Nat.le_refl _) _).trans (b1.mono (by simp))
    clear b1
    go_wp2_with fail
    exact bodyPost_ret (v := .tuple #[.slice none 0 0, .int .i64 1]) (by simp [results, Tryz.results63, go_sem]) rfl ⟨_, 1, rfl, B1.out, by simp [Value.ownBlock], ⟨fun _ => ⟨rfl, rfl⟩, fun h => absurd h hns.out, fun h => absurd h hns.out, fun h => absurd h hns.out⟩⟩
  · have hys : Hid (Ar.yo ⟨f, p, wt, k, fi, o⟩) := (of_decide_eq_true (p := Ar.yo ⟨f, p, wt, k, fi, o⟩) HS.out.symm)
    clear HS
    go_enter Tryz.func63, Tryz.ntmps63
    go_wp2_with fail
    refine (hsw.out _).mono ?_
    rintro e w1 ⟨rfl, b1⟩
    have B1 : Hid (Below w.heap.size w w1) := ((Below.refl _ _).alloc (Nat.le_refl _) _).trans (b1.mono (by simp))
    have K1 : Hid (w1.heap[w.heap.size]? = some (.cells #[.int .i64 f, .int .i64 p, .bool wt, .int .i64 k, .int .i64 fi, .int .i64 o] 32 (0, 0))) := (b1.block w.heap.size (by simp)).trans (heap_alloc_new w _)
    have S1 := Lib.hid (hSA.out.below b1)
    have q0 : w1.cell? ⟨w.heap.size, 0, none⟩ = some (.int .i64 f) := by rw [cell_of_row w1 _ 0 _ _ _ K1.out]; rfl
    have q1 : w1.cell? ⟨w.heap.size, 1, none⟩ = some (.int .i64 p) := by rw [cell_of_row w1 _ 1 _ _ _ K1.out]; rfl
    have H1 := Lib.hid (H.out.below B1.out)
    clear b1 hSA
    go_wp2_with fail
    refine (hcf.out w1 w.heap.size H1.out (Array.getElem?_eq_some_iff.1 K1.out).1 q0 q1).mono ?_
    rintro e w2 ⟨rfl, b2⟩
    have B2 := Lib.hid (B1.out.trans (b2.mono B1.out.size))
    have K2 := Lib.hid ((b2.block w.heap.size (Array.getElem?_eq_some_iff.1 K1.out).1).trans K1.out)
    have S2 := Lib.hid (S1.out.below b2)
    have H2 := Lib.hid (H1.out.below b2)
    clear b2 hcf q0 q1 H1 S1 K1 B1
    cases m
    · by_cases h16 : 16 ≤ l.length
      · have h16' : (16 : Int) ≤ l.length := by omega
        go_wp2_with fail
        exact bodyPost_ret (v := .tuple #[.slice none 0 0, .int .i64 4]) (by simp [results, Tryz.results63, go_sem]) rfl ⟨_, 4, rfl, B2.out, by simp [Value.ownBlock], ⟨fun h => absurd hys.out h, fun _ h => absurd (HM.out.trans h) (by simp), fun _ _ _ => ⟨rfl, rfl⟩, fun _ _ h => absurd h (by omega)⟩⟩
      · have h16' : ¬ (16 : Int) ≤ l.length := by omega
        go_wp2_with fail
        obtain ⟨i0, hi0, hz0, hs0, hb0⟩ := Qi
        obtain ⟨W, hW⟩ : ∃ W, W = w2.drew := ⟨_, rfl⟩
        have hd : w2.drew = W := hW.symm
        have HW : Hid (Below w.heap.size w W ∧ W.heap.size = w2.heap.size ∧ W.heap[w.heap.size]? = some (.cells #[.int .i64 f, .int .i64 p, .bool wt, .int .i64 k, .int .i64 fi, .int .i64 o] 32 (0, 0)) ∧ ArRd W (.slice av l.length cv) l) := by
          rw [hW]
          exact ⟨B2.out.drew, by simp, K2.out, H2.out.below (Below.refl _ _).drew⟩
        have HC : Hid (∀ X, Below W.heap.size W X → Calls Tryz.prog 109 #[.slice av l.length cv] X fun e w' => ∃ a c, e = .returned (.slice a l.length c) ∧ J5 W.heap.size w' 32 6 (.slice a l.length c) l.length (ar l) ∧ Below X.heap.size X w') := fun X hX => (zej X _ l (HW.out.2.2.2.below hX) (by omega)).mono fun e w' ⟨a, c, h1, h2, h3⟩ => ⟨a, c, h1, h2.low hX.size, h3⟩
        have HQ : Hid (∀ X, Below W.heap.size W X → X.cell? ⟨w.heap.size, 0, none⟩ = some (.int .i64 f) ∧ X.cell? ⟨w.heap.size, 1, none⟩ = some (.int .i64 p) ∧ X.cell? ⟨w.heap.size, 2, none⟩ = some (.bool wt) ∧ X.cell? ⟨w.heap.size, 3, none⟩ = some (.int .i64 k) ∧ X.cell? ⟨w.heap.size, 4, none⟩ = some (.int .i64 fi) ∧ X.cell? ⟨w.heap.size, 5, none⟩ = some (.int .i64 o)) := fun X hX => by
          have hX' := (hX.block w.heap.size (Array.getElem?_eq_some_iff.1 HW.out.2.2.1).1).trans HW.out.2.2.1
          refine ⟨?_, ?_, ?_, ?_, ?_, ?_⟩
          · rw [cell_of_row X _ 0 _ _ _ hX']; rfl
          · rw [cell_of_row X _ 1 _ _ _ hX']; rfl
          · rw [cell_of_row X _ 2 _ _ _ hX']; rfl
          · rw [cell_of_row X _ 3 _ _ _ hX']; rfl
          · rw [cell_of_row X _ 4 _ _ _ hX']; rfl
          · rw [cell_of_row X _ 5 _ _ _ hX']; rfl
        obtain ⟨p0, p1, p2, p3, p4, p5⟩ := HQ.out W (Below.refl _ _)
        clear hW H2 K2 S2
        go_region_held_law (fun W' => W'.cell? ⟨w.heap.size, 0, none⟩ = some (.int .i64 f) ∧ W'.cell? ⟨w.heap.size, 1, none⟩ = some (.int .i64 p) ∧ W'.cell? ⟨w.heap.size, 2, none⟩ = some (.bool wt) ∧ W'.cell? ⟨w.heap.size, 3, none⟩ = some (.int .i64 k) ∧ W'.cell? ⟨w.heap.size, 4, none⟩ = some (.int .i64 fi) ∧ W'.cell? ⟨w.heap.size, 5, none⟩ = some (.int .i64 o)) (go_keep) (first
          | (go_at_call 109
             refine (HC.out _ (by first | exact Below.refl _ _ | exact (Below.refl _ _).alloc (Nat.le_refl _) _)).mono ?_
             rintro e w3 ⟨a3, c3, rfl, hp3, b3⟩
             have BW3 : Hid (Below W.heap.size W w3) := by first | exact b3 | exact ((Below.refl W.heap.size W).alloc (Nat.le_refl _) _).trans (b3.mono (by simp))
             have P3 := Lib.hid hp3
             have B3 := Lib.hid b3
             obtain ⟨r0, r1, r2, r3, r4, r5⟩ := HQ.out w3 BW3.out
             clear hp3 b3)
          | (refine Qt (B := W.heap.size) (by first | exact BW3.out.size | exact Nat.le_trans BW3.out.size (by simp)) rfl (.tmp 22) (.tmp 24) 104 rfl i0 _ 48 Tryz.underlying104 hi0 hz0 hs0 hb0 rfl (.slice a3 l.length c3) l.length (ar l) (by simp [Act.eval]) (by first | exact P3.out | exact P3.out.below ((Below.refl _ _).alloc (Nat.le_refl _) _)) _ 1 (ar [⟨f, p, wt, k, fi, o⟩]) (by simp [Act.eval]; rfl) (by first | exact (ArAt.Qa w3 _ rfl ⟨f, p, wt, k, fi, o⟩ rfl).rd | exact ((ArAt.Qa W _ rfl ⟨f, p, wt, k, fi, o⟩ rfl).below B3.out).rd) (by omega) (Za _) (by simp only [maxLen]; omega) (by omega) ?_
             intro v4 w4 hs4 hg4 ho4
             have BW4 : Hid (Below W.heap.size W w4) := by first | exact BW3.out.trans hg4 | exact (BW3.out.alloc BW3.out.size _).trans hg4
             have O4 : Hid (∀ b, v4.ownBlock = some b → W.heap.size ≤ b) := ho4
             obtain ⟨b4, off4, c4, rfl⟩ : ∃ b off c, v4 = .slice (some ⟨b, off, none⟩) (l.length + 1) c := by
               rcases SlAt.form hs4 with ⟨a4, c4, e, _, _⟩
               rcases hs4.2 with ⟨_, e2⟩ | ⟨b, off, c, arr, e2, _⟩
               · simp at e2
               · exact ⟨b, off, c, e2⟩
             have P4 : Hid (ArAt w4 (.slice (some ⟨b4, off4, none⟩) (l ++ [(⟨f, p, wt, k, fi, o⟩ : Ar)]).length c4) (l ++ [(⟨f, p, wt, k, fi, o⟩ : Ar)])) := by
               show SlAt _ _ _ _ _ _
               rw [List.length_append, Z0]
               exact hs4
             obtain ⟨z0, z1, z2, z3, z4, z5⟩ := HQ.out w4 BW4.out
             clear hs4 hg4 ho4 P3 B3 BW3 r0 r1 r2 r3 r4 r5))
        all_goals go_wp2_with fail
        all_goals (
          have hS := zgq w4 b4 off4 c4 (l ++ [(⟨f, p, wt, k, fi, o⟩ : Ar)]) P4.out (by simp; omega)
          rw [List.length_append] at hS
          refine hS.mono ?_
          rintro e w5 ⟨rfl, l', hperm, hsort, hp5, t5⟩
          have B5 : Hid (Below w.heap.size w w5) := by
            have h1 := HW.out.1.trans (BW4.out.mono HW.out.1.size)
            have h2 : w.heap.size ≤ b4 := Nat.le_trans HW.out.1.size (O4.out b4 rfl)
            exact Touch.from h1 t5 (Nat.le_trans HW.out.1.size BW4.out.size) (fun b hb => by simp at hb; omega)
          have P5 := Lib.hid hp5
          have Q5 := Lib.hid (And.intro hperm hsort)
          clear hS hperm hsort hp5 t5 z0 z1 z2 z3 z4 z5 p0 p1 p2 p3 p4 p5
          go_wp2_with fail
          refine (zgy w5 _ l' P5.out).mono ?_
          rintro e w6 ⟨v6, rfl, hp6, rfl, ho6⟩
          have P6 := Lib.hid hp6
          have O6 := Lib.hid ho6
          clear hp6 ho6
          go_wp2_with fail
          exact bodyPost_ret (v := .tuple #[v6, .int .i64 0]) (by simp [results, Tryz.results63, go_sem]) rfl ⟨_, 0, rfl, B5.out, fun b hb => Nat.le_trans HW.out.1.size (O4.out b (by rw [← hb, O6.out]; rfl)), ⟨fun h => absurd hys.out h, fun _ h => absurd (HM.out.trans h) (by simp), fun _ _ h => absurd h h16, fun _ _ _ => ⟨rfl, l', P6.out, Q5.out.1, Q5.out.2.imp fun h => by omega⟩⟩⟩)
    · go_wp2_with fail
      exact bodyPost_ret (v := .tuple #[.slice none 0 0, .int .i64 3]) (by simp [results, Tryz.results63, go_sem]) rfl ⟨_, 3, rfl, B2.out, by simp [Value.ownBlock], ⟨fun h => absurd hys.out h, fun _ _ => ⟨rfl, rfl⟩, fun _ h => absurd (HM.out.trans h) (by simp), fun _ h => absurd (HM.out.trans h) (by simp)⟩⟩
structure yj where
 T:Z7
 A:List Ar
 Q:List (Int×Int)
structure za where
 R:RamS
 P:zk
 D:zx
 B:Int→List (Int×Int)
 CL:zbo
 CR:zdg
 S:List (List (Int×Int))
 T:Nat→Option yj
structure Pq where
 tp:Nat
 ap:Nat
 qp:Nat
 qc:Nat
structure Sq where
 sp:Nat
 rp:Nat
 rb:Nat
 pp:Nat
 fs:Nat
 fb:Nat
 dp:Nat
 bp:Nat
 bm:Nat
 cp:Nat
 c1:Nat
 c2:Nat
 wp:Nat
 pm:Nat
 U:Nat→Pq
def Sq.rq(q:Sq)(n:Nat):Rq:=⟨q.rp,q.rb,q.pp,q.fs,q.fb,(q.U n).tp,10+n⟩
def ptrV(b:Nat):Value:=.pointer (some ⟨b,0,none⟩)
def Z8(q:Sq):Nat→Value
 | 0=>ptrV q.rp
 | 1=>ptrV q.dp
 | 2=>ptrV q.pp
 | 3=>ptrV q.bp
 | 4=>ptrV q.cp
 | 5=>ptrV q.wp
 | _=>.map (some q.pm)
def X0(t s:Nat)(av:Value):Nat→Value
 | 0=>ptrV t
 | 1=>av
 | _=>ptrV s
def KF(f:Int):Prop:=0≤f∧f<1024
structure V8(w:World)(tag:Nat→Nat)(q:Sq)(n:Nat)(pr:yj):Prop where
 tree:Yw w (fun b=>tag b=10+n) (q.U n).tp q.rp q.pp pr.T
 own:tag (q.U n).ap=20+n
 row:∃av,Row w (q.U n).ap 3 (X0 (q.U n).tp (q.U n).qp av)∧ArAt w av pr.A∧∀b,av.ownBlock=some b→tag b=30+n
 sigs:QAt w (q.U n).qp (q.U n).qc 16 pr.Q
 qo:tag (q.U n).qp=40+n∧tag (q.U n).qc=40+n
def zau(w:World)(tag:Nat→Nat)(p m:Nat)(L:Int→List (Int×Int)):Prop:=∃S V,u7 KF w p m S V L∧∀b∈S,tag b=4
def zaq(w:World)(tag:Nat→Nat)(p:Nat)(L:List (List (Int×Int))):Prop:=∃S V,Zj w p S V L∧∀b∈S,tag b=6
def Ux(w:World)(tag:Nat→Nat)(p m1 m2:Nat)(l:zbo)(r:zdg):Prop:=ve w p m1 m2 l r∧tag p=5∧tag m1=5∧tag m2=5
def Jm(w:World)(q:Sq)(T:Nat→Option yj):Prop:=
 ∃PV:List (Int×Value),MapAt w q.pm vz id PV∧(PV.map (·.1)).Nodup∧(∀y∈PV,0≤y.1∧y.1<8)∧∀n:Nat,n<8→getL PV (n:Int)=(T n).map fun _=>ptrV (q.U n).ap
structure zb(w:World)(tag:Nat→Nat)(q:Sq)(x:za):Prop where
 so:tag q.sp=8
 row:Row w q.sp 7 (Z8 q)
 ram:qi w (fun b=>tag b=1) q.rp q.rb x.R
 pool:zq w (fun b=>tag b=2) q.pp q.fs q.fb x.P
 disk:Xw w (fun b=>tag b=3) q.dp x.D
 back:zau w tag q.bp q.bm x.B
 cache:Ux w tag q.cp q.c1 q.c2 x.CL x.CR
 swap:zaq w tag q.wp x.S
 po:tag q.pm=7
 map:Jm w q x.T
 procs:∀n pr,n<8→x.T n=some pr→V8 w tag q n pr
 out:∀n,8≤n→x.T n=none
section
variable {C:Nat→Prop}{w w':World}{tag tag':Nat→Nat}{q:Sq}{x x':za}
theorem u7.zhd{K:Int→Prop}{w:World}{p m:Nat}{S:List Nat}{V:List (Int×Value)}{L:Int→List (Int×Int)}(h:u7 K w p m S V L)(f:Int)(b:Nat)(hb:(Zb V f).ownBlock=some b):b<w.heap.size:=SlAt.lt (h.at_ f) b hb
theorem zau.step{p m:Nat}{L:Int→List (Int×Int)}(h:zau w tag p m L)(s:Step C tag w tag' w')(hc:¬C 4):zau w' tag' p m L:=by
 obtain⟨S,V,h,ht⟩:=h
 have k:=s.keeps hc
 obtain⟨p1,p2,_⟩:=h.ps
 refine⟨p::m::(V.flatMap fun y=>(Zb V y.1).ownBlock.toList),V,?_,?_⟩
 ·refine⟨(World.cell?_of_block (w:=w) (k p p1 (ht p h.pin)).2).trans h.c0,h.map.keep (k m p2 (ht m h.min)).2,fun f=>(h.at_ f).keep fun b hb=>(k b (h.zhd f b hb) (ht b (h.own f b hb).1)).2,fun f b hb=>⟨?_,(h.own f b hb).2⟩,h.inj,List.mem_cons_self ..,List.mem_cons_of_mem _ (List.mem_cons_self ..),h.nd,h.keys⟩
  refine List.mem_cons_of_mem _ (List.mem_cons_of_mem _ ?_)
  cases hg:getL V f with
  | none=>
   unfold Zb at hb
   rw[hg]at hb
   simp[Value.ownBlock]at hb
  | some v=>exact List.mem_flatMap.2 ⟨(f,v),zfd hg,by rw[hb];simp⟩
 ·intro b hb
  rcases List.mem_cons.1 hb with rfl|hb
  ·exact(k b p1 (ht b h.pin)).1
  ·rcases List.mem_cons.1 hb with rfl|hb
   ·exact(k b p2 (ht b h.min)).1
   ·obtain⟨y,_,hy⟩:=List.mem_flatMap.1 hb
    have hy:(Zb V y.1).ownBlock=some b:=by simpa using hy
    exact(k b (h.zhd _ b hy) (ht b (h.own _ b hy).1)).1
theorem zaq.step{p:Nat}{L:List (List (Int×Int))}(h:zaq w tag p L)(s:Step C tag w tag' w')(hc:¬C 6):zaq w' tag' p L:=by
 obtain⟨S,V,h,ht⟩:=h
 have k:=s.keeps hc
 have vlt:∀(i:Nat) (v:Value) (b:Nat),V[i]?=some v→v.ownBlock=some b→b<w.heap.size:=fun i v b hv hb=>by
  have hi:i<V.length:=(List.getElem?_eq_some_iff.1 hv).1
  have hl:i<L.length:=by rw[h.lenL,←h.lenV];exact hi
  exact SlAt.lt (h.at_ i v L[i] hv (List.getElem?_eq_getElem hl)) b hb
 obtain⟨T,hblk⟩:=h.blk
 have hpl:=(Array.getElem?_eq_some_iff.1 hblk).1
 refine⟨p::(V.flatMap fun v=>v.ownBlock.toList),V,?_,?_⟩
 ·refine⟨⟨T,(k p hpl (ht p h.pin)).2.trans hblk⟩,h.lenV,h.lenL,fun i v l hv hl=>(h.at_ i v l hv hl).keep fun b hb=>(k b (vlt i v b hv hb) (ht b (h.own i v b hv hb).1)).2,fun i v b hv hb=>⟨List.mem_cons_of_mem _ ?_,(h.own i v b hv hb).2⟩,h.inj,List.mem_cons_self ..⟩
  exact List.mem_flatMap.2 ⟨v,List.mem_of_getElem? hv,by rw[hb];simp⟩
 ·intro b hb
  rcases List.mem_cons.1 hb with rfl|hb
  ·exact(k b hpl (ht b h.pin)).1
  ·obtain⟨v,hv,hy⟩:=List.mem_flatMap.1 hb
   obtain⟨i,hi,rfl⟩:=List.getElem_of_mem hv
   have hy:V[i].ownBlock=some b:=by simpa using hy
   have hv':V[i]?=some V[i]:=List.getElem?_eq_getElem hi
   exact(k b (vlt i _ b hv' hy) (ht b (h.own i _ b hv' hy).1)).1
theorem Ux.step{p m1 m2:Nat}{l:zbo}{r:zdg}(h:Ux w tag p m1 m2 l r)(s:Step C tag w tag' w')(hc:¬C 5):Ux w' tag' p m1 m2 l r:=by
 obtain⟨h,t1,t2,t3⟩:=h
 have k:=s.keeps hc
 obtain⟨p1,p2,p3,_⟩:=h.ps
 exact⟨h.keep fun b hb=>by rcases hb with rfl|rfl|rfl<;>exact(k _ (by assumption) (by assumption)).2,(k _ p1 t1).1,(k _ p2 t2).1,(k _ p3 t3).1⟩
theorem Jm.keep{T T':Nat→Option yj}(h:Jm w q T)(hb:w'.heap[q.pm]?=w.heap[q.pm]?)(hT:∀n,n<8→(T' n).isSome=(T n).isSome):Jm w' q T':=by
 obtain⟨PV,h1,h2,h3,h4⟩:=h
 refine⟨PV,h1.keep hb,h2,h3,fun n hn=>?_⟩
 rw[h4 n hn]
 have:=hT n hn
 cases e:T n<;>cases e':T' n<;>rw[e,e']at this<;>first|rfl|cases this
theorem V8.step{n:Nat}{pr:yj}(h:V8 w tag q n pr)(s:Step C tag w tag' w')(c1:¬C (10+n))(c2:¬C (20+n))(c3:¬C (30+n))(c4:¬C (40+n)):V8 w' tag' q n pr:=by
 obtain⟨h1,h2,⟨av,r1,r2,r3⟩,h4,h5,h6⟩:=h
 have ql:=h4.lt
 have k4:=s.keeps c4
 refine⟨h1.loc (s.keeps c1),(s.keeps c2 _ r1.lt h2).1,⟨av,r1.keep (s.keeps c2 _ r1.lt h2).2,SlAt.keep r2 fun b hb=>(s.keeps c3 b (SlAt.lt r2 b hb) (r3 b hb)).2,fun b hb=>(s.keeps c3 b (SlAt.lt r2 b hb) (r3 b hb)).1⟩,h4.keep fun b hb=>?_,(k4 _ ql.1 h5).1,(k4 _ ql.2.1 h6).1⟩
 rcases hb with rfl|rfl
 ·exact(k4 _ ql.1 h5).2
 ·exact(k4 _ ql.2.1 h6).2
theorem V8.tree'{n:Nat}{pr:yj}{T:Z7}(h:V8 w tag q n pr)(s:Step C tag w tag' w')(ht:Yw w' (fun b=>tag' b=10+n) (q.U n).tp q.rp q.pp T)(c2:¬C (20+n))(c3:¬C (30+n))(c4:¬C (40+n)):V8 w' tag' q n ⟨T,pr.A,pr.Q⟩:=by
 obtain⟨h1,h2,⟨av,r1,r2,r3⟩,h4,h5,h6⟩:=h
 have ql:=h4.lt
 have k4:=s.keeps c4
 refine⟨ht,(s.keeps c2 _ r1.lt h2).1,⟨av,r1.keep (s.keeps c2 _ r1.lt h2).2,SlAt.keep r2 fun b hb=>(s.keeps c3 b (SlAt.lt r2 b hb) (r3 b hb)).2,fun b hb=>(s.keeps c3 b (SlAt.lt r2 b hb) (r3 b hb)).1⟩,h4.keep fun b hb=>?_,(k4 _ ql.1 h5).1,(k4 _ ql.2.1 h6).1⟩
 rcases hb with rfl|rfl
 ·exact(k4 _ ql.1 h5).2
 ·exact(k4 _ ql.2.1 h6).2
theorem zb.turn(h:zb w tag q x)(s:Step C tag w tag' w')(c8:¬C 8)(c7:¬C 7)(hT:∀n,n<8→(x'.T n).isSome=(x.T n).isSome)(hout:∀n,8≤n→x'.T n=none)
  (hR:(¬C 1∧x'.R=x.R)∨qi w' (fun b=>tag' b=1) q.rp q.rb x'.R) (hP:(¬C 2∧x'.P=x.P)∨zq w' (fun b=>tag' b=2) q.pp q.fs q.fb x'.P) (hD:(¬C 3∧x'.D=x.D)∨Xw w' (fun b=>tag' b=3) q.dp x'.D)
  (hB:(¬C 4∧x'.B=x.B)∨zau w' tag' q.bp q.bm x'.B) (hC:(¬C 5∧x'.CL=x.CL∧x'.CR=x.CR)∨Ux w' tag' q.cp q.c1 q.c2 x'.CL x'.CR) (hS:(¬C 6∧x'.S=x.S)∨zaq w' tag' q.wp x'.S)
  (hp:∀n pr,n<8→x'.T n=some pr→((¬C (10+n)∧¬C (20+n)∧¬C (30+n)∧¬C (40+n))∧x.T n=some pr)∨V8 w' tag' q n pr):zb w' tag' q x' where
 so:=(s.keeps c8 _ h.row.lt h.so).1
 row:=h.row.keep (s.keeps c8 _ h.row.lt h.so).2
 ram:=hR.elim (fun⟨c,e⟩=>by rw[e];exact h.ram.loc (s.keeps c)) id
 pool:=hP.elim (fun⟨c,e⟩=>by rw[e];exact h.pool.loc (s.keeps c)) id
 disk:=hD.elim (fun⟨c,e⟩=>by rw[e];exact h.disk.loc (s.keeps c)) id
 back:=hB.elim (fun⟨c,e⟩=>by rw[e];exact h.back.step s c) id
 cache:=hC.elim (fun⟨c,e,e'⟩=>by rw[e,e'];exact h.cache.step s c) id
 swap:=hS.elim (fun⟨c,e⟩=>by rw[e];exact h.swap.step s c) id
 po:=by
  obtain⟨PV,m,_⟩:=h.map
  exact(s.keeps c7 _ m.lt h.po).1
 map:=by
  obtain⟨PV,m,_⟩:=h.map
  exact h.map.keep (s.keeps c7 _ m.lt h.po).2 hT
 procs:=fun n pr hn hx=>(hp n pr hn hx).elim (fun⟨⟨a,b,c,d⟩,e⟩=>(h.procs n pr hn e).step s a b c d) id
 out:=hout
theorem zb.step(h:zb w tag q x)(s:Step (fun _=>False) tag w tag' w'):zb w' tag' q x:=
 h.turn s id id (fun _ _=>rfl) h.out (.inl ⟨id,rfl⟩) (.inl ⟨id,rfl⟩) (.inl ⟨id,rfl⟩) (.inl ⟨id,rfl⟩) (.inl ⟨id,rfl,rfl⟩) (.inl ⟨id,rfl⟩) fun _ _ _ hx=>.inl ⟨⟨id,id,id,id⟩,hx⟩
theorem zb.below(h:zb w tag q x)(hb:Below w.heap.size w w'):zb w' tag q x:=h.step (Step.of_below hb)
theorem zb.rpt(h:zb w tag q x){n:Nat}{pr:yj}(hn:n<8)(hp:x.T n=some pr):xh w tag (q.rq n) ⟨x.R,x.P,pr.T⟩:=⟨h.ram,h.pool,(h.procs n pr hn hp).tree,by show 10≤10+n;omega⟩
def za.put(x:za)(n:Nat)(pr:yj):za:={x with T:=fun m=>if m=n then some pr else x.T m}
def za.xc(x:za)(n:Nat)(pr:yj)(y:RPT):za:={x with R:=y.R,P:=y.P,T:=fun m=>if m=n then some ⟨y.T,pr.A,pr.Q⟩else x.T m}
theorem zb.ofRpt(h:zb w tag q x){n:Nat}{pr:yj}(hn:n<8)(hp:x.T n=some pr){y:RPT}(s:Step (C3 (10+n)) tag w tag' w')(hy:xh w' tag' (q.rq n) y):zb w' tag' q (x.xc n pr y):=by
 have c:∀k,k≠1→k≠2→k≠10+n→¬C3 (10+n) k:=fun k a b d=>by unfold C3;omega
 refine h.turn s (c 8 (by omega) (by omega) (by omega)) (c 7 (by omega) (by omega) (by omega)) (fun m hm=>?_) (fun m hm=>?_) (.inr hy.ram) (.inr hy.pool) (.inl ⟨c 3 (by omega) (by omega) (by omega),rfl⟩) (.inl ⟨c 4 (by omega) (by omega) (by omega),rfl⟩) (.inl ⟨c 5 (by omega) (by omega) (by omega),rfl,rfl⟩) (.inl ⟨c 6 (by omega) (by omega) (by omega),rfl⟩) fun m pm hm hx0=>?_
 ·show(if m=n then _ else _:Option yj).isSome=_
  split
  ·rename_i e;rw[e,hp];rfl
  ·rfl
 ·show(if m=n then _ else _:Option yj)=_
  rw[if_neg (by omega)]
  exact h.out m hm
 ·have hx:(if m=n then some ⟨y.T,pr.A,pr.Q⟩else x.T m:Option yj)=some pm:=hx0
  clear hx0
  by_cases e:m=n
  ·rw[if_pos e]at hx
   subst e
   cases hx
   exact .inr ((h.procs m pr hm hp).tree' s hy.tree (c _ (by omega) (by omega) (by omega)) (c _ (by omega) (by omega) (by omega)) (c _ (by omega) (by omega) (by omega)))
  ·rw[if_neg e]at hx
   exact .inl ⟨⟨c _ (by omega) (by omega) (by omega),c _ (by omega) (by omega) (by omega),c _ (by omega) (by omega) (by omega),c _ (by omega) (by omega) (by omega)⟩,hx⟩
end
section
variable {w:World}{tag:Nat→Nat}{q:Sq}{x:za}
theorem zbr(w:World):(zeroValue 101).run Tryz.prog w=.ok (.pointer none) w:=by kernel_rfl
def Ye(q:Sq)(x:za)(n:Int):Value:=.tuple #[if(x.T n.toNat).isSome∧0≤n then ptrV (q.U n.toNat).ap else .pointer none,.bool (decide ((x.T n.toNat).isSome∧0≤n))]
theorem zb.look(h:zb w tag q x)(n:Int):(Instr.lookup 53 (.map (some q.pm)) (.int .i64 n) true).run Tryz.prog w=.ok (Ye q x n) w:=by
 obtain⟨PV,m,nd,kb,hg⟩:=h.map
 have key:getL PV n=if(x.T n.toNat).isSome∧0≤n then some (ptrV (q.U n.toNat).ap)else none:=by
  by_cases h0:0≤n∧n<8
  ·have e:=hg n.toNat (by omega)
   rw[show((n.toNat:Nat):Int)=n by omega]at e
   rw[e]
   cases ht:x.T n.toNat with
   | none=>simp
   | some pr=>simp[h0.1]
  ·have e:getL PV n=none:=zco fun hm=>by
    obtain⟨y,hy,rfl⟩:=List.mem_map.1 hm
    exact h0 (kb y hy)
   rw[e]
   by_cases h1:0≤n
   ·have:x.T n.toNat=none:=h.out _ (by omega)
    simp[this]
   ·simp[h1]
 have hl:=jw (T:=53) Ur Tryz.underlying53 (.pointer none) zbr m n true
 rw[key]at hl
 unfold Ye
 refine hl.trans ?_
 by_cases hc:(x.T n.toNat).isSome∧0≤n
 ·rw[if_pos hc,if_pos hc,decide_eq_true hc];rfl
 ·rw[if_neg hc,if_neg hc,decide_eq_false hc];rfl
theorem Zh(h:zb w tag q x)(n:Int):Calls Tryz.prog 62 #[ptrV q.sp,.int .i64 n] w fun e w'=>e=.returned (Ye q x n)∧w'=w:=by
 have hl:=h.look n
 have c:=h.row.cell (i:=6) (by omega)
 dsimp only[Z8]at c
 obtain⟨v,hv⟩:∃v,(if(x.T n.toNat).isSome∧0≤n then ptrV (q.U n.toNat).ap else .pointer none)=v:=⟨_,rfl⟩
 obtain⟨b,hb⟩:∃b,decide ((x.T n.toNat).isSome∧0≤n)=b:=⟨_,rfl⟩
 have ev:Ye q x n=.tuple #[v,.bool b]:=by unfold Ye;rw[hv,hb]
 rw[ev]at hl⊢
 clear h hv hb ev
 unfold ptrV
 go_enter Tryz.func62,Tryz.ntmps62
 go_wp2_with fail
 exact bodyPost_ret (v:=.tuple #[v,.bool b]) (by simp[results,Tryz.results62,go_sem]) rfl ⟨rfl,rfl⟩
def za.room(x:za)(n:Int):Nat:=if n<0∨8≤n then 1 else if(x.T n.toNat).isSome then 3 else 0
theorem zhi(h:zb w tag q x)(n:Int):Calls Tryz.prog 59 #[ptrV q.sp,.int .i64 n] w fun e w'=>e=.returned (.int .i64 (x.room n))∧w'=w:=by
 have F:=Lib.hid (Zh h n)
 obtain⟨v,hv⟩:∃v,(if(x.T n.toNat).isSome∧0≤n then ptrV (q.U n.toNat).ap else .pointer none)=v:=⟨_,rfl⟩
 obtain⟨b,hb⟩:∃b,decide ((x.T n.toNat).isSome∧0≤n)=b:=⟨_,rfl⟩
 have ev:Ye q x n=.tuple #[v,.bool b]:=by unfold Ye;rw[hv,hb]
 rw[ev]at F
 have HR:Hid (x.room n=if n<0∨8≤n then 1 else if b=true then 3 else 0):=by
  unfold za.room
  by_cases h0:n<0∨8≤n
  ·rw[if_pos h0,if_pos h0]
   trivial
  ·rw[if_neg h0,if_neg h0,←hb]
   have h3:0≤n:=by omega
   cases hs:(x.T n.toNat).isSome with
   | true=>rw[if_pos rfl,if_pos (decide_eq_true ⟨rfl,h3⟩)];trivial
   | false=>rw[if_neg (by simp),if_neg (by simp)];trivial
 generalize x.room n=r at HR⊢
 clear h hv hb ev
 unfold ptrV at F⊢
 go_enter Tryz.func59,Tryz.ntmps59
 go_wp2_with fail
 refine F.out.mono ?_
 rintro e u ⟨rfl,hu⟩
 have hu:=hu.symm
 subst hu
 clear F
 by_cases h1:n<0
 ·go_wp2_with fail
  go_ret
  rw[HR.out,if_pos (.inl h1)]
  exact⟨rfl,rfl⟩
 ·by_cases h2:8≤n
  ·go_wp2_with fail
   go_ret
   rw[HR.out,if_pos (.inr h2)]
   exact⟨rfl,rfl⟩
  ·cases b with
   | true=>
    go_wp2_with fail
    go_ret
    rw[HR.out,if_neg (by omega),if_pos trivial]
    exact⟨rfl,rfl⟩
   | false=>
    go_wp2_with fail
    go_ret
    rw[HR.out,if_neg (by omega),if_neg (by simp)]
    exact⟨rfl,rfl⟩
end
section
variable {w w':World}{tag:Nat→Nat}{q:Sq}{x:za}
theorem zb.queue(h:zb w tag q x){n:Nat}{pr:yj}(hn:n<8)(hp:x.T n=some pr){Q:List (Int×Int)}(g:w.grownBy w' (some (q.U n).qc))(hq:QAt w' (q.U n).qp (q.U n).qc 16 Q):
  zb w' tag q (x.put n ⟨pr.T,pr.A,Q⟩)∧Step (fun c=>c=40+n) tag w tag w':=by
 have hpr:=h.procs n pr hn hp
 have s:Step (fun c=>c=40+n) tag w tag w':=Step.Yy (c:=40+n) (Turn.Zu g hpr.qo.2) rfl
 have hT:∀m,(x.put n ⟨pr.T,pr.A,Q⟩).T m=if m=n then some ⟨pr.T,pr.A,Q⟩else x.T m:=fun m=>rfl
 refine⟨h.turn s (by omega) (by omega) (fun m hm=>?_) (fun m hm=>?_) (.inl ⟨by omega,rfl⟩) (.inl ⟨by omega,rfl⟩) (.inl ⟨by omega,rfl⟩) (.inl ⟨by omega,rfl⟩) (.inl ⟨by omega,rfl,rfl⟩) (.inl ⟨by omega,rfl⟩) fun m pm hm hx=>?_,s⟩
 ·rw[hT]
  split
  ·rename_i e;rw[e,hp];rfl
  ·rfl
 ·rw[hT,if_neg (by omega)]
  exact h.out m hm
 ·rw[hT]at hx
  by_cases e:m=n
  ·rw[if_pos e]at hx
   subst e
   have e2:=Option.some.inj hx
   subst e2
   obtain⟨h1,h2,⟨av,r1,r2,r3⟩,h4,h5,h6⟩:=hpr
   refine .inr ⟨h1.loc (s.keeps (by omega)),h2,⟨av,r1.keep (s.keeps (c:=20+m) (by omega) _ r1.lt h2).2,SlAt.keep r2 fun b hb=>(s.keeps (c:=30+m) (by omega) b (SlAt.lt r2 b hb) (r3 b hb)).2,r3⟩,hq,h5,h6⟩
  ·rw[if_neg e]at hx
   exact .inl ⟨⟨by omega,by omega,by omega,by omega⟩,hx⟩
def U9(Q:List (Int×Int))(y:Int×Int):List (Int×Int):=if Q.length<16 then Q++[y]else Q
theorem zjw(h:zb w tag q x)(n:Nat)(ni at_:Int)(en:ni=n)(pr:yj)(hn:n<8)(hp:x.T n=some pr):
  Calls Tryz.prog 22 #[ptrV q.sp,.int .i64 ni,.int .i64 at_] w fun e w'=>e=.returned (.tuple #[])∧zb w' tag q (x.put n ⟨pr.T,pr.A,U9 pr.Q (ni,at_)⟩)∧Step (fun c=>c=40+n) tag w tag w':=by
 have F:=Lib.hid (Zh h ni)
 have ev:Ye q x ni=.tuple #[ptrV (q.U n).ap,.bool true]:=by
  unfold Ye
  rw[show ni.toNat=n by omega,hp]
  have:0≤ni:=by omega
  simp[this]
 rw[ev]at F
 have hpr:=h.procs n pr hn hp
 obtain⟨av,r1,_,_⟩:=hpr.row
 have c2:=r1.cell (i:=2) (by omega)
 dsimp only[X0]at c2
 have G:Hid (Calls Tryz.prog 68 #[.pointer (some ⟨(q.U n).qp,0,none⟩),.agg #[.int .i64 ni,.int .i64 at_]] w fun e w'=>(∃b,e=.returned (.bool b))∧zb w' tag q (x.put n ⟨pr.T,pr.A,U9 pr.Q (ni,at_)⟩)∧Step (fun c=>c=40+n) tag w tag w'):=by
  by_cases hr:pr.Q.length<16
  ·refine(zmn w _ _ 16 pr.Q (ni,at_) hpr.sigs hr).mono ?_
   rintro e w1 ⟨rfl,g,hq⟩
   refine⟨⟨_,rfl⟩,?_⟩
   unfold U9
   rw[if_pos hr]
   exact h.queue hn hp g hq
  ·refine(zmp w _ _ 16 pr.Q (ni,at_) hpr.sigs (by omega)).mono ?_
   rintro e w1 ⟨rfl,g,hq⟩
   refine⟨⟨_,rfl⟩,?_⟩
   unfold U9
   rw[if_neg hr]
   exact h.queue hn hp (Qc g _) hq
 unfold ptrV at F c2⊢
 generalize (x.put n ⟨pr.T,pr.A,U9 pr.Q (ni,at_)⟩)=y at G⊢
 clear h hp hpr ev en r1
 go_enter Tryz.func22,Tryz.ntmps22
 go_wp2_with fail
 refine F.out.mono ?_
 rintro e u ⟨rfl,hu⟩
 have hu:=hu.symm
 subst hu
 clear F
 go_wp2_with fail
 refine G.out.mono ?_
 rintro e w1 ⟨⟨b,rfl⟩,h1⟩
 have H1:=Lib.hid h1
 clear h1 c2
 go_wp2_with fail
 exact bodyPost_end (v:=.tuple #[]) (by simp[results,Tryz.results22,go_sem]) rfl ⟨rfl,H1.out⟩
theorem zb.free(h:zb w tag q x){tag':Nat→Nat}(s:Step (fun c=>c=0) tag w tag' w'):zb w' tag' q x:=
 h.turn s (by omega) (by omega) (fun _ _=>rfl) h.out (.inl ⟨by omega,rfl⟩) (.inl ⟨by omega,rfl⟩) (.inl ⟨by omega,rfl⟩) (.inl ⟨by omega,rfl⟩) (.inl ⟨by omega,rfl,rfl⟩) (.inl ⟨by omega,rfl⟩) fun _ _ _ hx=>.inl ⟨⟨by omega,by omega,by omega,by omega⟩,hx⟩
theorem yc(tag:Nat→Nat)(w:World)(c b:Nat)(h:w.heap.size≤b):retag tag w c b=c:=if_neg (by omega)
theorem Step.anew{C:Nat→Prop}(h:Below w.heap.size w w'):Step C tag w (Go.Proofs.YtnhdmnijiphjjaaGreat.retag tag w 0) w':=⟨fun b hb=>if_pos hb,Turn.of_below h⟩
end
section
variable {w w':World}{tag tag':Nat→Nat}{q:Sq}{x:za}
def Sq.at_(q:Sq)(n:Nat)(u:Pq):Sq:={q with U:=fun m=>if m=n then u else q.U m}
def CS(n:Nat)(c:Nat):Prop:=c=1∨c=2∨c=7∨c=10+n∨c=20+n∨c=30+n∨c=40+n
theorem zb.spawn(h:zb w tag q x){n:Nat}(hn:n<8)(s:Step (CS n) tag w tag' w')(u:Pq)(pr:yj)(R:RamS)(P:zk)(hR:qi w' (fun b=>tag' b=1) q.rp q.rb R)(hP:zq w' (fun b=>tag' b=2) q.pp q.fs q.fb P)
  (hm:Jm w' (q.at_ n u) (fun m=>if m=n then some pr else x.T m)) (hpm:tag' q.pm=7) (hpr:V8 w' tag' (q.at_ n u) n pr):zb w' tag' (q.at_ n u) {x with R:=R,P:=P,T:=fun m=>if m=n then some pr else x.T m}:=by
 have c:∀k,k≠1→k≠2→k≠7→k≠10+n→k≠20+n→k≠30+n→k≠40+n→¬CS n k:=fun k _ _ _ _ _ _ _=>by unfold CS;omega
 have c':∀k,3≤k→k≤6∨k=8→¬CS n k:=fun k _ _=>by unfold CS;omega
 refine {so:=(s.keeps (c' 8 (by omega) (by omega)) _ h.row.lt h.so).1,row:=h.row.keep (s.keeps (c' 8 (by omega) (by omega)) _ h.row.lt h.so).2,ram:=hR,pool:=hP,disk:=h.disk.loc (s.keeps (c' 3 (by omega) (by omega))),back:=h.back.step s (c' 4 (by omega) (by omega)),cache:=h.cache.step s (c' 5 (by omega) (by omega)),swap:=h.swap.step s (c' 6 (by omega) (by omega)),po:=hpm,map:=hm,procs:=fun m pm hm hx0=>?_,out:=fun m hm=>?_}
 ·have hx:(if m=n then some pr else x.T m:Option yj)=some pm:=hx0
  clear hx0
  by_cases e:m=n
  ·rw[if_pos e]at hx
   subst e
   have e2:=Option.some.inj hx
   subst e2
   exact hpr
  ·rw[if_neg e]at hx
   have e1:(q.at_ n u).U m=q.U m:=if_neg e
   have:=(h.procs m pm hm hx).step s (c _ (by omega) (by omega) (by omega) (by omega) (by omega) (by omega) (by omega)) (c _ (by omega) (by omega) (by omega) (by omega) (by omega) (by omega) (by omega)) (c _ (by omega) (by omega) (by omega) (by omega) (by omega) (by omega) (by omega)) (c _ (by omega) (by omega) (by omega) (by omega) (by omega) (by omega) (by omega))
   obtain⟨a1,a2,a3,a4,a5⟩:=this
   exact⟨by rw[e1];exact a1,by rw[e1];exact a2,by rw[e1];exact a3,by rw[e1];exact a4,by rw[e1];exact a5⟩
 ·show(if m=n then _ else _:Option yj)=_
  rw[if_neg (by omega)]
  exact h.out m hm
theorem zb.znn(h:zb w tag q x)(n:Nat)(hn:n<8)(hx:x.T n=none){w1:World}{tag1:Nat→Nat}{t:Nat}{R:RamS}{P:zk}{T:Z7}(hX:xh w1 tag1 ⟨q.rp,q.rb,q.pp,q.fs,q.fb,t,10+n⟩ ⟨R,P,T⟩)(s1:Step (fun c=>c=1∨c=2∨c=10+n) tag w tag1 w1)
  (W3:World) (hb3:Below w1.heap.size w1 W3) (p6:W3.cell? ⟨q.sp,6,none⟩=some (.map (some q.pm))):Calls Tryz.prog 61 #[.int .i64 16] W3 fun e w4=>∃qb,e=.returned (.pointer (some ⟨qb,0,none⟩))∧w4.cell? ⟨q.sp,6,none⟩=some (.map (some q.pm))∧
   (∃w6,(Instr.mapUpdate 53 (.map (some q.pm)) (.int .i64 n) (.pointer (some ⟨w4.heap.size,0,none⟩))).run Tryz.prog (w4.alloc (.cells #[.pointer (some ⟨t,0,none⟩),.slice none 0 0,.pointer (some ⟨qb,0,none⟩)] 106))=.ok () w6∧w6.cell? ⟨q.sp,6,none⟩=some (.map (some q.pm))∧
    ∃tag' u,zb w6 tag' (q.at_ n u) {x with R:=R,P:=P,T:=fun m=>if m=n then some ⟨T,[],[]⟩else x.T m}∧Step (CS n) tag w tag' w6)∧∀o,(w4.alloc o).cell? ⟨q.sp,6,none⟩=some (.map (some q.pm)):=by
 refine(New_at W3 16).mono ?_
 rintro e w4 ⟨rfl,hb4,hq⟩
 rw[show capOf 16=16 by decide]at hq
 obtain⟨PV,hm,nd,kb,hg⟩:=h.map
 have hpm:tag1 q.pm=7∧w1.heap[q.pm]?=w.heap[q.pm]?:=s1.keeps (c:=7) (by omega) _ hm.lt h.po
 have hpl:q.pm<w1.heap.size:=Nat.lt_of_lt_of_le hm.lt s1.turn.size
 have hql:=hq.lt
 have hb5:=(Below.refl w4.heap.size w4).alloc (Nat.le_refl _) (.cells #[.pointer (some ⟨t,0,none⟩),.slice none 0 0,.pointer (some ⟨W3.heap.size+1,0,none⟩)] 106 (0,0))
 obtain⟨w5,hw5⟩:∃w5,w5=w4.alloc (.cells #[.pointer (some ⟨t,0,none⟩),.slice none 0 0,.pointer (some ⟨W3.heap.size+1,0,none⟩)] 106 (0,0)):=⟨_,rfl⟩
 rw[←hw5]at hb5
 have z5:w5.heap.size=w4.heap.size+1:=by rw[hw5];simp
 have m5:MapAt w5 q.pm vz id PV:=(((hm.keep hpm.2).below hb3).below hb4).below hb5
 obtain⟨w6,hr,M6,g6,zz6⟩:=Xx (T:=53) Ur Tryz.underlying53 m5 (n:Int) (ptrV w4.heap.size)
 have sz3:=hb3.size
 have sz4:=hb4.size
 have hspl:=h.row.lt
 have hsp7:q.sp≠q.pm:=fun e=>by have h1:=h.so;rw[e,h.po]at h1;omega
 have hspl1:q.sp<w1.heap.size:=Nat.lt_of_lt_of_le h.row.lt s1.turn.size
 have c4:w4.cell? ⟨q.sp,6,none⟩=some (.map (some q.pm)):=(hb4.cell (World.block_lt_of_cell? _ _ p6)).trans p6
 have c4a:∀o,(w4.alloc o).cell? ⟨q.sp,6,none⟩=some (.map (some q.pm)):=fun o=>(World.cell?_alloc_lt _ _ _ (World.block_lt_of_cell? _ _ c4)).trans c4
 -- parts' numbers
 obtain⟨tag4,ht4⟩:∃tag4,tag4=retag tag1 W3 (40+n):=⟨_,rfl⟩
 obtain⟨tag5,ht5⟩:∃tag5,tag5=retag tag4 w4 (20+n):=⟨_,rfl⟩
 have e4:∀b,b<W3.heap.size→tag4 b=tag1 b:=fun b hb=>by rw[ht4];exact if_pos hb
 have e5:∀b,b<w4.heap.size→tag5 b=tag4 b:=fun b hb=>by rw[ht5];exact if_pos hb
 have e4n:∀b,W3.heap.size≤b→tag4 b=40+n:=fun b hb=>by rw[ht4];exact yc _ _ _ _ hb
 have e5n:tag5 w4.heap.size=20+n:=by rw[ht5];exact yc _ _ _ _ (Nat.le_refl _)
 have p5:tag5 q.pm=7:=by rw[e5 _ (by omega),e4 _ (by omega)];exact hpm.1
 have s13:Step (fun c=>c=7) tag1 w1 tag1 W3:=Step.of_below hb3
 have s34:Step (fun c=>c=7) tag1 W3 tag4 w4:=⟨fun b hb=>e4 b hb,Turn.of_below hb4⟩
 have s45:Step (fun c=>c=7) tag4 w4 tag5 w5:=⟨fun b hb=>e5 b hb,Turn.of_below hb5⟩
 have s56:Step (fun c=>c=7) tag5 w5 tag5 w6:=Step.Yy (c:=7) (Turn.Zu g6 p5) rfl
 have s16:=((s13.trans s34).trans s45).trans s56
 have sAll:Step (CS n) tag w tag5 w6:=(s1.mono fun c hc=>by unfold CS;omega).trans (s16.mono fun c hc=>by unfold CS;omega)
 refine⟨_,rfl,c4,⟨w6,?_,?_,tag5,⟨t,w4.heap.size,W3.heap.size+1,W3.heap.size⟩,h.spawn hn sAll ⟨t,w4.heap.size,W3.heap.size+1,W3.heap.size⟩ ⟨T,[],[]⟩ R P (hX.ram.loc (s16.keeps (by omega))) (hX.pool.loc (s16.keeps (by omega))) ?_ p5 ?_,sAll⟩,c4a⟩
 ·rw[hw5]at hr
  exact hr
 ·have c5:=c4a (.cells #[.pointer (some ⟨t,0,none⟩),.slice none 0 0,.pointer (some ⟨W3.heap.size+1,0,none⟩)] 106 (0,0))
  rw[←hw5]at c5
  exact(World.cell?_of_block (w:=w5) (g6.block q.sp (by omega) (by simp;exact hsp7))).trans c5
 ·refine⟨updL PV (n:Int) (ptrV w4.heap.size),M6,(Yb PV (n:Int) _ nd).1,fun y hy=>?_,fun m hm=>?_⟩
  ·rcases zks y hy with rfl|hy
   ·exact⟨by show(0:Int)≤n;omega,by show(n:Int)<8;omega⟩
   ·exact kb y hy
  ·rw[y8]
   by_cases e:m=n
   ·subst e
    unfold Sq.at_
    simp
   ·rw[if_neg (by omega),hg m hm]
    unfold Sq.at_
    simp[e]
 ·have eu:(q.at_ n ⟨t,w4.heap.size,W3.heap.size+1,W3.heap.size⟩).U n=⟨t,w4.heap.size,W3.heap.size+1,W3.heap.size⟩:=if_pos rfl
  have r5:Row w5 w4.heap.size 3 (X0 t (W3.heap.size+1) (.slice none 0 0)):=by
   rw[hw5]
   exact Row.new w4 3 _ _ _ rfl fun i hi=>by
    rcases(by omega:i=0∨i=1∨i=2)with rfl|rfl|rfl<;>rfl
  have r6:Row w6 w4.heap.size 3 (X0 t (W3.heap.size+1) (.slice none 0 0)):=r5.keep (g6.block w4.heap.size (by omega) (by simp;omega))
  have q6:QAt w6 (W3.heap.size+1) W3.heap.size 16 []:=hq.keep fun k hk=>by
   have hk':W3.heap.size≤k∧k<w4.heap.size:=by rcases hk with rfl|rfl<;>exact⟨by omega,by first|exact hql.1|exact hql.2.1⟩
   exact(g6.block k (by omega) (by simp;omega)).trans (hb5.block k hk'.2)
  have t6:=hX.tree.loc (s16.keeps (c:=10+n) (by omega))
  have o6:tag5 (W3.heap.size+1)=40+n∧tag5 W3.heap.size=40+n:=⟨by rw[e5 _ hql.1];exact e4n _ (by omega),by rw[e5 _ hql.2.1];exact e4n _ (by omega)⟩
  exact⟨by rw[eu];exact t6,by rw[eu];exact e5n,⟨.slice none 0 0,by rw[eu];exact r6,ArAt.nil _,fun b hb=>by simp[Value.ownBlock]at hb⟩,by rw[eu];exact q6,by rw[eu];exact o6⟩
theorem zgo(h:zb w tag q x)(n:Nat)(hn:n<8)(hx:x.T n=none)(g:Nat)(hg:x.P.next false=some g)(hg1:g<1024)(hb:x.R.bad g=false):
  Calls Tryz.prog 17 #[ptrV q.sp,.int .i64 n] w fun e w'=>e=.returned (.int .i64 0)∧∃tag' u,zb w' tag' (q.at_ n u) {x with R:=x.R.write g 0 (List.replicate 64 0),P:=x.P.set g 2,T:=fun m=>if m=n then some ⟨⟨g,[g]⟩,[],[]⟩else x.T m}∧Step (CS n) tag w tag' w':=by
 have F:=Lib.hid (zhi h (n:Int))
 have er:x.room (n:Int)=0:=by
  unfold za.room
  rw[if_neg (by omega),show((n:Nat):Int).toNat=n by omega,hx]
  rfl
 rw[er]at F
 have c0:=h.row.cell (i:=0) (by omega)
 have c2:=h.row.cell (i:=2) (by omega)
 have c6:=h.row.cell (i:=6) (by omega)
 dsimp only[Z8]at c0 c2 c6
 obtain⟨W,hW⟩:∃W,W=w.drew:=⟨_,rfl⟩
 have hbW:Below w.heap.size w W:=by rw[hW];exact(Below.refl _ _).drew
 have q0:W.cell? ⟨q.sp,0,none⟩=some (ptrV q.rp):=by rw[hW];exact c0
 have q2:W.cell? ⟨q.sp,2,none⟩=some (ptrV q.pp):=by rw[hW];exact c2
 have hWs:Hid (W.heap.size=w.heap.size):=by rw[hW];rfl
 have hd:w.drew=W:=hW.symm
 clear hW
 have hSW:zb W tag q x:=h.below hbW
 have TN:Hid (Calls Tryz.prog 60 #[.pointer (some ⟨q.rp,0,none⟩),.pointer (some ⟨q.pp,0,none⟩)] W fun e w1=>∃t tag',e=.returned (.tuple #[.pointer (some ⟨t,0,none⟩),.int .i64 0])∧w1.cell? ⟨q.sp,0,none⟩=some (ptrV q.rp)∧w1.cell? ⟨q.sp,2,none⟩=some (ptrV q.pp)∧w1.cell? ⟨q.sp,6,none⟩=some (.map (some q.pm))∧
   (xh w1 tag' ⟨q.rp,q.rb,q.pp,q.fs,q.fb,t,10+n⟩ ⟨x.R.write g 0 (List.replicate 64 0),x.P.set g 2,⟨g,[g]⟩⟩∧Step (fun c=>c=1∨c=2∨c=10+n) tag w tag' w1)):=by
  refine(zg7 W tag q.rp q.rb q.pp q.fs q.fb (10+n) x.R x.P hSW.ram hSW.pool (by omega) g hg hg1 hb).mono ?_
  rintro e w1 ⟨t,tag',rfl,h1,h2⟩
  have k:=(h2.keeps (c:=8) (by omega) _ hSW.row.lt hSW.so).2
  have R1:=hSW.row.keep k
  exact⟨t,tag',rfl,R1.cell (i:=0) (by omega),R1.cell (i:=2) (by omega),R1.cell (i:=6) (by omega),h1,(Step.of_below hbW).trans h2⟩
 have HS:=Lib.hid h
 unfold ptrV at F c0 c2 q0 q2 TN⊢
 clear h er hSW hbW hg hb c0 c2
 go_enter Tryz.func17,Tryz.ntmps17
 go_wp2_with fail
 refine F.out.mono ?_
 rintro e u ⟨rfl,hu⟩
 have hu:=hu.symm
 subst hu
 clear F
 go_wp2_with fail
 go_region_held (fun W'=>W'.cell? ⟨q.sp,0,none⟩=some (.pointer (some ⟨q.rp,0,none⟩))∧W'.cell? ⟨q.sp,2,none⟩=some (.pointer (some ⟨q.pp,0,none⟩))) (go_keep)
  ((go_at_call 60;refine TN.out.mono ?_;rintro e w1 ⟨t,tag1,rfl,q0',q2',r6,HX⟩;have hX:=Lib.hid HX;clear HX))
 clear q0 q2 hd q0' q2' TN
 have HU:=Lib.hid (zb.znn HS.out n hn hx hX.out.1 hX.out.2)
 go_wp2_with fail
 obtain⟨W3,hW3⟩:∃W3,W3=w1.drew:=⟨_,rfl⟩
 have p6:W3.cell? ⟨q.sp,6,none⟩=some (.map (some q.pm)):=by rw[hW3];exact r6
 have SN:=Lib.hid (HU.out W3 (by rw[hW3];exact(Below.refl _ _).drew) p6)
 have hd3:w1.drew=W3:=hW3.symm
 clear hW3 HU
 go_region_held (fun W'=>W'.cell? ⟨q.sp,6,none⟩=some (.map (some q.pm))) (go_keep)
  ((go_at_call 61;refine SN.out.mono ?_;rintro e w4 ⟨qb,rfl,p6',⟨w6,hr6,p66,HX⟩,p6a⟩;have hY:=Lib.hid HX;clear HX))
 clear p6 hd3 p6' hr6 p66 p6a r6
 go_wp2_with fail
 go_ret
 exact⟨rfl,hY.out⟩
end
end Go.Proofs.YtnhdmnijiphjjaaGreat
