/- The cache's functions: what each answers, and what becomes of its two maps. -/
import Derived.Test.YtnhdmnijiphjjaaGreatJMp4
import Derived.Test.YtnhdmnijiphjjaaGreatJMp0
import Derived.Test.YtnhdmnijiphjjaaGreatJMp6
import Derived.Deep.MidRow
import Derived.Deep.RegionHeld
set_option linter.unusedVariables false
set_option linter.unusedSimpArgs false
set_option maxRecDepth 100000
set_option maxHeartbeats 2000000
namespace Go.Proofs.YtnhdmnijiphjjaaGreat
open Go Go.RowKit
abbrev zbo:=List ((Int×Int)×(Int×Bool))
abbrev zdg:=List (Int×(Int×Int))
section
variable {w w':World}{p m1 m2:Nat}{l:zbo}{r:zdg}
theorem ve.ps(h:ve w p m1 m2 l r):p<w.heap.size∧m1<w.heap.size∧m2<w.heap.size∧p≠m1∧p≠m2∧m1≠m2:=by
 obtain⟨h0,h1,hM,hR,hne⟩:=h
 refine⟨World.block_lt_of_cell? w _ h0,hM.lt,hR.lt,fun e=>?_,fun e=>?_,hne⟩
 ·subst e;obtain⟨es,c,hb,_⟩:=hM;simp[World.cell?,hb]at h0
 ·subst e;obtain⟨es,c,hb,_⟩:=hR;simp[World.cell?,hb]at h0
theorem ve.keep(h:ve w p m1 m2 l r)(hb:∀k,k=p∨k=m1∨k=m2→w'.heap[k]?=w.heap[k]?):ve w' p m1 m2 l r:=by
 obtain⟨h0,h1,hM,hR,hne⟩:=h
 exact⟨(World.cell?_of_block (w:=w) (hb p (.inl rfl))).trans h0,(World.cell?_of_block (w:=w) (hb p (.inl rfl))).trans h1,hM.keep (hb m1 (.inr (.inl rfl))),hR.keep (hb m2 (.inr (.inr rfl))),hne⟩
theorem ve.touch{S:List Nat}(h:ve w p m1 m2 l r)(ht:Touch S w w')(hS:p∉S∧m1∉S∧m2∉S):ve w' p m1 m2 l r:=
 h.keep fun k hk=>ht.block k (by have:=h.ps;omega) (by
  rcases hk with rfl|rfl|rfl
  ·exact hS.1
  ·exact hS.2.1
  ·exact hS.2.2)
theorem ve.both{l':zbo}{r':zdg}(h:ve w p m1 m2 l r)(ht:Touch [m1,m2] w w')(hM:MapAt w' m1 zy xx l')(hR:MapAt w' m2 vz zy r'):ve w' p m1 m2 l' r':=by
 have hps:=h.ps
 obtain⟨h0,h1,_,_,hne⟩:=h
 exact⟨ht.cell h0 (by simp;omega),ht.cell h1 (by simp;omega),hM,hR,hne⟩
theorem ve.first{l':zbo}(h:ve w p m1 m2 l r)(ht:Touch [m1] w w')(hM:MapAt w' m1 zy xx l'):ve w' p m1 m2 l' r:=by
 have hps:=h.ps
 exact h.both (ht.mono fun k _ hk=>by simp at hk⊢;exact .inl hk) hM (h.2.2.2.1.keep (ht.block m2 hps.2.2.1 (by simp;omega)))
theorem ve.below(h:ve w p m1 m2 l r)(hb:Below w.heap.size w w'):ve w' p m1 m2 l r:=h.keep fun k hk=>hb.block k (by have:=h.ps;omega)
end
section
variable (w:World)(p m1 m2:Nat)(l:zbo)(r:zdg)(h:ve w p m1 m2 l r)(k:Int×Int)
include h
theorem zgu:Calls Tryz.prog 96 #[.pointer (some ⟨p,0,none⟩),.agg #[.int .i64 k.1,.int .i64 k.2]] w fun e w'=>e=.returned (.tuple #[.int .i64 ((getL l k).getD (0,false)).1,.bool (getL l k).isSome])∧Below w.heap.size w w':=by
 have hc:=Zn _ p m1 m2 l r (h.below ((Below.refl _ _).alloc (Nat.le_refl _) (.cells #[.int .i64 k.1,.int .i64 k.2] 133))) k
 generalize (getL l k).getD (0,false)=x at hc⊢
 generalize (getL l k).isSome=b at hc⊢
 have HC:=Lib.hid hc
 clear hc h
 go_enter Tryz.func96,Tryz.ntmps96
 go_wp2_with fail
 refine HC.out.mono ?_
 rintro e w1 ⟨rfl,hb⟩
 have HB:=Lib.hid hb
 clear hb
 unfold xx
 go_wp2_with fail
 go_ret2
 have hb:=HB.out
 exact⟨rfl,((((Below.refl _ w).alloc (Nat.le_refl _) _).trans (hb.mono (by simp))).alloc (by have:=hb.size;simp at this;omega) _)⟩
theorem zgx:Calls Tryz.prog 83 #[.pointer (some ⟨p,0,none⟩),.agg #[.int .i64 k.1,.int .i64 k.2]] w fun e w'=>e=.returned (.bool ((getL l k).getD (0,false)).2)∧Below w.heap.size w w':=by
 have hc:=Zn _ p m1 m2 l r (h.below ((Below.refl _ _).alloc (Nat.le_refl _) (.cells #[.int .i64 k.1,.int .i64 k.2] 133))) k
 generalize (getL l k).getD (0,false)=x at hc⊢
 generalize (getL l k).isSome=b at hc
 have HC:=Lib.hid hc
 clear hc h
 go_enter Tryz.func83,Tryz.ntmps83
 go_wp2_with fail
 refine HC.out.mono ?_
 rintro e w1 ⟨rfl,hb⟩
 have HB:=Lib.hid hb
 clear hb
 unfold xx
 go_wp2_with fail
 go_ret
 have hb:=HB.out
 exact⟨rfl,((((Below.refl _ w).alloc (Nat.le_refl _) _).trans (hb.mono (by simp))).alloc (by have:=hb.size;simp at this;omega) _)⟩
theorem zj2(d:Bool):Calls Tryz.prog 86 #[.pointer (some ⟨p,0,none⟩),.agg #[.int .i64 k.1,.int .i64 k.2],.bool d] w fun e w'=>e=.returned (.bool (getL l k).isSome)∧Touch [m1] w w'∧
  ve w' p m1 m2 (match getL l k with|some x=>updL l k (x.1,d)|none=>l) r:=by
 have hps:=h.ps
 have hc:=Zn _ p m1 m2 l r (h.below ((Below.refl _ _).alloc (Nat.le_refl _) (.cells #[.int .i64 k.1,.int .i64 k.2] 133))) k
 obtain⟨y,hy⟩:∃y,y=getL l k:=⟨_,rfl⟩
 rw[←hy]at hc⊢
 have HC:=Lib.hid hc
 have HY:=Lib.hid hy
 have HH:=Lib.hid h
 clear hc h hy
 go_enter Tryz.func86,Tryz.ntmps86
 go_wp2_with fail
 refine HC.out.mono ?_
 rintro e w1 ⟨rfl,hb⟩
 have hk0:w1.cell? ⟨w.heap.size,0,none⟩=some (.int .i64 k.1):=(hb.cell (p:=⟨w.heap.size,0,none⟩) (by simp)).trans (by go_simp)
 have hk1:w1.cell? ⟨w.heap.size,1,none⟩=some (.int .i64 k.2):=(hb.cell (p:=⟨w.heap.size,1,none⟩) (by simp)).trans (by go_simp)
 have hlt:w.heap.size<w1.heap.size:=by have:=hb.size;simp at this;omega
 have HB:=Lib.hid (((Below.refl _ w).alloc (Nat.le_refl _) _).trans (hb.mono (by simp)))
 clear hb
 cases y with
 | none=>
  unfold xx
  clear hk0 hk1
  go_wp2_with fail
  go_ret
  have hb:=HB.out.alloc HB.out.size (.cells #[.int .i64 0,.bool false] 207)
  exact⟨rfl,.of_below hb,HH.out.below hb⟩
 | some x=>
  have hC1:=HH.out.below HB.out
  obtain⟨c0,c1,hM,hR,hne⟩:=hC1
  have hM2:=(hM.below ((Below.refl _ _).alloc (Nat.le_refl _) (.cells #[.int .i64 x.1,.bool x.2] 207))).below (Below.refl _ _).drew
  obtain⟨w3,hrun,hM3,hg3,hs3⟩:=Xx (T:=202) zky Tryz.underlying202 hM2 k (x.1,d)
  unfold zy xx at hrun
  have HM3:=Lib.hid hM3
  have HG3:=Lib.hid hg3
  have hpl:p<w1.heap.size:=World.block_lt_of_cell? w1 _ c0
  clear hM hR hM2 hM3 hg3 hs3 c1
  simp only[Option.getD_some,Option.isSome_some]
  unfold xx
  go_wp2_with fail
  go_region
  all_goals go_wp2_with fail
  go_ret
  have ht:Touch [m1] w w3:=(Touch.of_below ((HB.out.alloc HB.out.size _).drew)).trans (.Zu HG3.out (by simp))
  exact⟨rfl,ht,HH.out.first ht HM3.out⟩
theorem zom(f:Int):Calls Tryz.prog 82 #[.pointer (some ⟨p,0,none⟩),.int .i64 f] w fun e w'=>e=.returned (.tuple #[zy ((getL r f).getD (0,0)),.bool (getL r f).isSome])∧Below w.heap.size w w':=by
 have hps:=h.ps
 obtain⟨h0,h1,hM,hR,hne⟩:=h
 have run:∀o,(Instr.lookup 203 (.map (some m2)) (.int .i64 f) true).run Tryz.prog (w.alloc o)=.ok (.tuple #[zy ((getL r f).getD (0,0)),.bool (getL r f).isSome]) (w.alloc o):=fun o=>by
  have:=jw (T:=203) Ur Tryz.underlying203 (zy (0,0)) zav (hR.below ((Below.refl _ _).alloc (Nat.le_refl _) o)) f true
  rw[if_pos rfl]at this
  refine this.trans ?_
  cases getL r f<;>rfl
 generalize (getL r f).getD (0,0)=x at run⊢
 generalize (getL r f).isSome=b at run⊢
 unfold zy at run⊢
 clear hM hR h0
 have hpl:=hps.1
 go_enter Tryz.func82,Tryz.ntmps82
 go_wp2_with fail
 refine bodyPost_ret (v:=.tuple #[.agg #[.int .i64 x.1,.int .i64 x.2],.bool b]) (by simp[results,Tryz.results82,go_sem]) rfl ⟨rfl,?_⟩
 exact((Below.refl _ _).alloc (Nat.le_refl _) _).alloc (by simp) _
theorem zj8:Calls Tryz.prog 84 #[.pointer (some ⟨p,0,none⟩),.agg #[.int .i64 k.1,.int .i64 k.2]] w fun e w'=>e=.returned (.bool (getL l k).isSome)∧Touch [m1,m2] w w'∧
  ve w' p m1 m2 (match getL l k with|some _=>delL l k|none=>l) (match getL l k with|some x=>delL r x.1|none=>r):=by
 have hps:=h.ps
 have hc:=Zn _ p m1 m2 l r (h.below ((Below.refl _ _).alloc (Nat.le_refl _) (.cells #[.int .i64 k.1,.int .i64 k.2] 133))) k
 obtain⟨y,hy⟩:∃y,y=getL l k:=⟨_,rfl⟩
 rw[←hy]at hc⊢
 have HC:=Lib.hid hc
 have HY:=Lib.hid hy
 have HH:=Lib.hid h
 clear hc h hy
 go_enter Tryz.func84,Tryz.ntmps84
 go_wp2_with fail
 refine HC.out.mono ?_
 rintro e w1 ⟨rfl,hb⟩
 have hk0:w1.cell? ⟨w.heap.size,0,none⟩=some (.int .i64 k.1):=(hb.cell (p:=⟨w.heap.size,0,none⟩) (by simp)).trans (by go_simp)
 have hk1:w1.cell? ⟨w.heap.size,1,none⟩=some (.int .i64 k.2):=(hb.cell (p:=⟨w.heap.size,1,none⟩) (by simp)).trans (by go_simp)
 have hlt:w.heap.size<w1.heap.size:=by have:=hb.size;simp at this;omega
 have HB:=Lib.hid (((Below.refl _ w).alloc (Nat.le_refl _) _).trans (hb.mono (by simp)))
 clear hb
 cases y with
 | none=>
  unfold xx
  clear hk0 hk1
  go_wp2_with fail
  go_ret
  have hb:=HB.out.alloc HB.out.size (.cells #[.int .i64 0,.bool false] 207)
  exact⟨rfl,.of_below hb,HH.out.below hb⟩
 | some x=>
  have hC1:=HH.out.below HB.out
  obtain⟨c0,c1,hM,hR,hne⟩:=hC1
  have hbel:Below w1.heap.size w1 (w1.alloc (.cells #[.int .i64 x.1,.bool x.2] 207)).drew:=((Below.refl _ _).alloc (Nat.le_refl _) _).drew
  obtain⟨w3,hrun,hM3,hg3,hs3⟩:=Ut (T:=202) zky Tryz.underlying202 (hM.below hbel) k 0 133
  have hR3:MapAt w3.drew m2 vz zy r:=((hR.below hbel).grown hg3 (by simp;omega)).below (Below.refl _ _).drew
  obtain⟨w4,hrun4,hM4,hg4,hs4⟩:=Ut (T:=203) Ur Tryz.underlying203 hR3 x.1 0 3
  unfold zy at hrun
  unfold vz at hrun4
  have hpl:p<w1.heap.size:=World.block_lt_of_cell? w1 _ c0
  have hp1:p≠m1:=hps.2.2.2.1
  have c13:w3.cell? ⟨p,1,none⟩=some (.map (some m2)):=(World.cell?_of_block (w:=(w1.alloc (.cells #[.int .i64 x.1,.bool x.2] 207)).drew) (hg3.block p (by have:=hbel.size;omega) (by simp;omega))).trans ((hbel.cell hpl).trans c1)
  have hm1:m1<w1.heap.size:=Nat.lt_of_lt_of_le hps.2.1 HB.out.size
  have d0:w3.cell? ⟨w1.heap.size,0,none⟩=some (.int .i64 x.1):=(World.cell?_of_block (w:=(w1.alloc (.cells #[.int .i64 x.1,.bool x.2] 207)).drew) (hg3.block w1.heap.size (by simp[World.drew]) (by simp;omega))).trans (by go_simp)
  have HM3:=Lib.hid hM3
  have HG3:=Lib.hid hg3
  have HM4:=Lib.hid hM4
  have HG4:=Lib.hid hg4
  have HBE:=Lib.hid hbel
  have HNE:=Lib.hid hne
  clear hM hR hR3 hM3 hg3 hs3 c1 hM4 hg4 hs4 hbel hne
  simp only[Option.getD_some,Option.isSome_some]
  unfold xx
  go_wp2_with fail
  go_region
  all_goals go_wp2_with fail
  go_region
  all_goals go_wp2_with fail
  go_ret
  have ht3:Touch [m1,m2] w w3.drew:=(Touch.of_below (HB.out.trans (HBE.out.mono HB.out.size))).trans ((Touch.Zu HG3.out (by simp)).drew)
  have ht:Touch [m1,m2] w w4:=ht3.trans (.Zu HG4.out (by simp))
  exact⟨rfl,ht,HH.out.both ht ((HM3.out.below (Below.refl _ _).drew).grown HG4.out (by simp;exact HNE.out)) HM4.out⟩
theorem zjz(f:Int)(hy:(getL l k).isSome=true):Calls Tryz.prog 85 #[.pointer (some ⟨p,0,none⟩),.agg #[.int .i64 k.1,.int .i64 k.2],.int .i64 f] w fun e w'=>e=.returned (.bool false)∧Below w.heap.size w w':=by
 have hc:=Zn _ p m1 m2 l r (h.below ((Below.refl _ _).alloc (Nat.le_refl _) (.cells #[.int .i64 k.1,.int .i64 k.2] 133))) k
 rw[hy]at hc
 generalize (getL l k).getD (0,false)=x at hc
 have HC:=Lib.hid hc
 clear hc h hy
 go_enter Tryz.func85,Tryz.ntmps85
 go_wp2_with fail
 refine HC.out.mono ?_
 rintro e w1 ⟨rfl,hb⟩
 have HB:=Lib.hid (((Below.refl _ w).alloc (Nat.le_refl _) _).trans (hb.mono (by simp)))
 clear hb
 unfold xx
 go_wp2_with fail
 go_ret
 exact⟨rfl,HB.out.alloc HB.out.size _⟩
theorem zmm(f:Int)(hy:(getL l k).isSome=false)(hf:(getL r f).isSome=true):Calls Tryz.prog 85 #[.pointer (some ⟨p,0,none⟩),.agg #[.int .i64 k.1,.int .i64 k.2],.int .i64 f] w fun e w'=>e=.returned (.bool false)∧Below w.heap.size w w':=by
 have hc:=Zn _ p m1 m2 l r (h.below ((Below.refl _ _).alloc (Nat.le_refl _) (.cells #[.int .i64 k.1,.int .i64 k.2] 133))) k
 rw[hy]at hc
 generalize (getL l k).getD (0,false)=x at hc
 have HC:=Lib.hid hc
 have HH:=Lib.hid h
 have HF:=Lib.hid hf
 clear hc h hy hf
 go_enter Tryz.func85,Tryz.ntmps85
 go_wp2_with fail
 refine HC.out.mono ?_
 rintro e w1 ⟨rfl,hb⟩
 have HB:=Lib.hid (((Below.refl _ w).alloc (Nat.le_refl _) _).trans (hb.mono (by simp)))
 clear hb
 obtain⟨c0,c1,hM,hR,hne⟩:=HH.out.below HB.out
 have hpl:p<w1.heap.size:=World.block_lt_of_cell? w1 _ c0
 have run:∀o,(Instr.lookup 203 (.map (some m2)) (.int .i64 f) true).run Tryz.prog (w1.alloc o)=.ok (.tuple #[zy ((getL r f).getD (0,0)),.bool true]) (w1.alloc o):=fun o=>by
  have:=jw (T:=203) Ur Tryz.underlying203 (zy (0,0)) zav (hR.below ((Below.refl _ _).alloc (Nat.le_refl _) o)) f true
  rw[if_pos rfl,HF.out]at this
  refine this.trans ?_
  cases getL r f<;>rfl
 generalize (getL r f).getD (0,0)=y at run
 unfold zy at run
 clear hM hR hne c0
 unfold xx
 go_wp2_with fail
 go_ret
 exact⟨rfl,(HB.out.alloc HB.out.size _).alloc (by have:=HB.out.size;simp;omega) _⟩
theorem zoi(f:Int)(hy:getL l k=none)(hf:getL r f=none):Calls Tryz.prog 85 #[.pointer (some ⟨p,0,none⟩),.agg #[.int .i64 k.1,.int .i64 k.2],.int .i64 f] w fun e w'=>e=.returned (.bool true)∧Touch [m1,m2] w w'∧
  ve w' p m1 m2 (updL l k (f,false)) (updL r f k):=by
 have hps:=h.ps
 have hc:=Zn _ p m1 m2 l r (h.below ((Below.refl _ _).alloc (Nat.le_refl _) (.cells #[.int .i64 k.1,.int .i64 k.2] 133))) k
 rw[hy]at hc
 simp only[Option.getD_none,Option.isSome_none]at hc
 have HC:=Lib.hid hc
 have HH:=Lib.hid h
 have HF:=Lib.hid hf
 have HY:=Lib.hid hy
 clear hc h hy hf
 go_enter Tryz.func85,Tryz.ntmps85
 go_wp2_with fail
 refine HC.out.mono ?_
 rintro e w1 ⟨rfl,hb⟩
 have hk0:w1.cell? ⟨w.heap.size,0,none⟩=some (.int .i64 k.1):=(hb.cell (p:=⟨w.heap.size,0,none⟩) (by simp)).trans (by go_simp)
 have hk1:w1.cell? ⟨w.heap.size,1,none⟩=some (.int .i64 k.2):=(hb.cell (p:=⟨w.heap.size,1,none⟩) (by simp)).trans (by go_simp)
 have hlt:w.heap.size<w1.heap.size:=by have:=hb.size;simp at this;omega
 have HB:=Lib.hid (((Below.refl _ w).alloc (Nat.le_refl _) _).trans (hb.mono (by simp)))
 clear hb
 obtain⟨c0,c1,hM,hR,hne⟩:=HH.out.below HB.out
 have hpl:p<w1.heap.size:=World.block_lt_of_cell? w1 _ c0
 have hm1:m1<w1.heap.size:=hM.lt
 have run:∀o,(Instr.lookup 203 (.map (some m2)) (.int .i64 f) true).run Tryz.prog (w1.alloc o)=.ok (.tuple #[.agg #[.int .i64 0,.int .i64 0],.bool false]) (w1.alloc o):=fun o=>by
  have:=jw (T:=203) Ur Tryz.underlying203 (zy (0,0)) zav (hR.below ((Below.refl _ _).alloc (Nat.le_refl _) o)) f true
  rw[if_pos rfl,HF.out]at this
  exact this
 have hbel:Below w1.heap.size w1 ((w1.alloc (.cells #[.int .i64 0,.bool false] 207)).alloc (.cells #[.int .i64 0,.int .i64 0] 133)).drew:=(((Below.refl _ _).alloc (Nat.le_refl _) _).alloc (by simp) _).drew
 have HM:=Lib.hid hM
 have HR:=Lib.hid hR
 have HNE:=Lib.hid hne
 clear hM hR hne
 unfold xx
 go_wp2_with fail
 generalize (w1.alloc (.cells #[.int .i64 0,.bool false] 207)).alloc (.cells #[.int .i64 0,.int .i64 0] 133)=W at hbel⊢
 have hW0:W.cell? ⟨p,0,none⟩=some (.map (some m1)):=(hbel.cell hpl).trans c0
 have hW1:W.cell? ⟨p,1,none⟩=some (.map (some m2)):=(hbel.cell hpl).trans c1
 have hW2:W.cell? ⟨w.heap.size,0,none⟩=some (.int .i64 k.1):=(hbel.cell hlt).trans hk0
 have hW3:W.cell? ⟨w.heap.size,1,none⟩=some (.int .i64 k.2):=(hbel.cell hlt).trans hk1
 -- the entries of the two maps
 obtain⟨w2,s2,hr2,g2,z2,st2⟩:=zcv (T:=202) zky Tryz.underlying202 (xx (0,false)) zbq (HM.out.below hbel) k
 obtain⟨w3,hr3,M3,g3,z3⟩:=st2 (f,false) 202 w2 rfl
 have R3:MapAt w3 m2 vz zy r:=((HR.out.below hbel).grown g2 (by simp;exact Ne.symm HNE.out)).grown g3 (by simp;exact Ne.symm HNE.out)
 obtain⟨w4,s4,hr4,g4,z4,st4⟩:=zcv (T:=203) Ur Tryz.underlying203 (zy (0,0)) zav R3 f
 obtain⟨w5,hr5,M5,g5,z5⟩:=st4 k 203 w4 rfl
 rw[HY.out]at hr2
 rw[HF.out]at hr4
 have hWp:w.heap.size<W.heap.size:=Nat.lt_of_lt_of_le hlt hbel.size
 have kk:∀(a b:World) (m:Nat),a.grownBy b (some m)→m≠w.heap.size→w.heap.size<a.heap.size→∀j,b.cell? ⟨w.heap.size,j,none⟩=a.cell? ⟨w.heap.size,j,none⟩:=fun a b m g hn hl j=>World.cell?_of_block (w:=a) (g.block w.heap.size hl (by simp;omega))
 have n1:m1≠w.heap.size:=by omega
 have n2:m2≠w.heap.size:=by omega
 have y20:=(kk _ _ _ g2 n1 hWp 0).trans hW2
 have y21:=(kk _ _ _ g2 n1 hWp 1).trans hW3
 have l2:w.heap.size<w2.heap.size:=Nat.lt_of_lt_of_le hWp g2.size
 have y30:=(kk _ _ _ g3 n1 l2 0).trans y20
 have y31:=(kk _ _ _ g3 n1 l2 1).trans y21
 have l3:w.heap.size<w3.heap.size:=Nat.lt_of_lt_of_le l2 g3.size
 have y40:=(kk _ _ _ g4 n2 l3 0).trans y30
 have y41:=(kk _ _ _ g4 n2 l3 1).trans y31
 have ht:Touch [m1,m2] w w5:=(Touch.of_below (HB.out.trans (hbel.mono HB.out.size))).trans (((Touch.Zu g2 (by simp)).trans (.Zu g3 (by simp))).trans ((Touch.Zu g4 (by simp)).trans (.Zu g5 (by simp))))
 have hM5:MapAt w5 m1 zy xx (updL l k (f,false)):=(M3.grown g4 (by simp;exact HNE.out)).grown g5 (by simp;exact HNE.out)
 have HT:=Lib.hid ht
 have HM5:=Lib.hid hM5
 have HR5:=Lib.hid M5
 clear ht hM5 M5 st4 st2 g2 g3 g4 g5 z2 z3 z4 z5 M3 R3 kk
 unfold zy at hr2 hr5 hr4
 unfold vz at hr4
 unfold xx at hr2 hr3
 go_region
 all_goals go_wp2_with fail
 go_ret
 exact⟨rfl,HT.out,HH.out.both HT.out HM5.out HR5.out⟩
end
theorem zj1(w:World):Calls Tryz.prog 116 #[] w fun e w'=>e=.returned (.pointer (some ⟨w.heap.size+2,0,none⟩))∧Below w.heap.size w w'∧ve w' (w.heap.size+2) w.heap.size (w.heap.size+1) [] []:=by
 have hmm:=@run_makeMap Tryz.prog
 go_enter Tryz.func116,Tryz.ntmps116
 go_wp2_with fail
 go_ret
 have m1:=MapAt.made (κ:=Int×Int) (ν:=Int×Bool) w zy xx
 have m2:=MapAt.made (κ:=Int) (ν:=Int×Int) (w.alloc (.map #[] 0)) vz zy
 rw[World.size_alloc]at m2
 have b3:=(Below.refl ((w.alloc (.map #[] 0)).alloc (.map #[] 0)).heap.size _).alloc (Nat.le_refl _) (.cells #[.map (some w.heap.size),.map (some (w.heap.size+1))] 205)
 have hb:=heap_alloc_new ((w.alloc (.map #[] 0)).alloc (.map #[] 0)) (.cells #[.map (some w.heap.size),.map (some (w.heap.size+1))] 205)
 rw[World.size_alloc,World.size_alloc]at hb
 refine⟨rfl,(((Below.refl _ _).alloc (Nat.le_refl _) _).alloc (by simp) _).alloc (by simp;omega) _,?_,?_,?_,?_,by omega⟩
 ·rw[cell_of_row _ _ 0 _ _ _ hb];rfl
 ·rw[cell_of_row _ _ 1 _ _ _ hb];rfl
 ·exact(m1.below ((Below.refl _ _).alloc (Nat.le_refl _) _)).below b3
 ·exact m2.below b3
theorem zmr(w:World)(p:Nat)(S:List Nat)(V:List Value)(L:List (List (Int×Int)))(h:Zj w p S V L)(k:Nat)(l:List (Int×Int))(hl:L[k]?=some l)(hlen:l.length≤1000000):
  Calls Tryz.prog 112 #[.pointer (some ⟨p,0,none⟩),.int .i64 k] w fun e w'=>∃v',e=.returned v'∧PlAt w' v' l∧Below w.heap.size w w'∧∀b,v'.ownBlock=some b→w.heap.size≤b:=by
 have hk:k<32:=by have:=(List.getElem?_eq_some_iff.1 hl).1;rw[h.lenL]at this;exact this
 obtain⟨v,hv⟩:∃v,V[k]?=some v:=⟨_,List.getElem?_eq_getElem (by rw[h.lenV];exact hk)⟩
 obtain⟨T,hblk⟩:=h.blk
 have hp:p<w.heap.size:=(Array.getElem?_eq_some_iff.1 hblk).1
 have hc:w.cell? ⟨p,k,none⟩=some v:=by rw[cell_of_row w p k _ _ _ hblk];simpa using hv
 have cl:=Lib.hid (fun W (hW:Below w.heap.size w W)=>zat W v l ((h.at_ k v l hv hl).below hW) hlen)
 have hk0:(0:Int)≤k:=by omega
 have hk1:(k:Int)<32:=by omega
 clear h hblk
 go_enter Tryz.func112,Tryz.ntmps112
 go_wp2_with fail
 refine(Qr _ _ k hk).mono ?_
 rintro e w1 ⟨rfl,rfl⟩
 go_wp2_with fail
 refine(cl.out _ (Below.refl _ _)).mono ?_
 rintro e w2 ⟨v2,rfl,hp2,hb2,ho2⟩
 have H2:=Lib.hid (And.intro hp2 (And.intro hb2 ho2))
 clear hp2 hb2 ho2
 go_wp2_with fail
 refine(zdf w2 v2 l H2.out.1).mono ?_
 rintro e w3 ⟨v3,rfl,hp3,rfl,ho3⟩
 have H3:=Lib.hid (And.intro hp3 ho3)
 clear hp3 ho3
 go_wp2_with fail
 go_ret
 exact⟨v3,rfl,H3.out.1,H2.out.2.1,fun b hb=>H2.out.2.2 b (by rw[←H3.out.2];exact hb)⟩
def zk3(L:List (List (Int×Int))):Nat:=L.countP fun l=>decide (l≠[])
theorem zc7(w:World)(p:Nat)(S:List Nat)(V:List Value)(L:List (List (Int×Int)))(h:Zj w p S V L)(k:Nat)(l:List (Int×Int))(hl:L[k]?=some l)(x:Int×Int)(hlen:l.length≤100000):
  Calls Tryz.prog 143 #[.pointer (some ⟨p,0,none⟩),.int .i64 k,.agg #[.int .i64 x.1,.int .i64 x.2]] w fun e w'=>e=.returned (.bool (decide (x∈l)))∧∃S' V',Zj w' p S' V' (L.set k (l.erase x))∧Touch S w w'∧∀b∈S',b∈S∨w.heap.size≤b:=by
 have hk:k<32:=by have:=(List.getElem?_eq_some_iff.1 hl).1;rw[h.lenL]at this;exact this
 obtain⟨v,hv⟩:∃v,V[k]?=some v:=⟨_,List.getElem?_eq_getElem (by rw[h.lenV];exact hk)⟩
 obtain⟨T,hblk⟩:=h.blk
 have hp:p<w.heap.size:=(Array.getElem?_eq_some_iff.1 hblk).1
 have hc:w.cell? ⟨p,k,none⟩=some v:=by rw[cell_of_row w p k _ _ _ hblk];simpa using hv
 have hpl:=h.at_ k v l hv hl
 have H:=Lib.hid h
 have HPL:=Lib.hid hpl
 clear h hpl
 have hk0:(0:Int)≤k:=by omega
 have hk1:(k:Int)<32:=by omega
 go_enter Tryz.func143,Tryz.ntmps143
 go_wp2_with fail
 refine(Qr _ _ k hk).mono ?_
 rintro e w1 ⟨rfl,rfl⟩
 go_wp2_with fail
 obtain⟨W,hW⟩:∃W,W=(w.alloc (.cells #[.int .i64 x.1,.int .i64 x.2] 58)).drew:=⟨_,rfl⟩
 have q0:W.cell? ⟨p,k,none⟩=some v:=by rw[hW];go_simp
 have q1:W.cell? ⟨w.heap.size,0,none⟩=some (.int .i64 x.1):=by rw[hW];go_simp
 have q2:W.cell? ⟨w.heap.size,1,none⟩=some (.int .i64 x.2):=by rw[hW];go_simp
 have hBW:Hid (Below w.heap.size w W∧W.heap.size=w.heap.size+1):=by
  rw[hW]
  exact⟨((Below.refl _ _).alloc (Nat.le_refl _) _).drew,by show(w.alloc _).heap.size=_;simp⟩
 have hd:(w.alloc (.cells #[.int .i64 x.1,.int .i64 x.2] 58)).drew=W:=hW.symm
 clear hW hc hblk
 have cC:Hid (∀W',Below w.heap.size w W'→Calls Tryz.prog 127 #[v,.agg #[.int .i64 x.1,.int .i64 x.2]] W' fun e w'=>e=.returned (.int .i64 (posP l x))∧Below W'.heap.size W' w'):=fun W' hb=>zas W' v l (HPL.out.below hb) x
 by_cases hx:x∈l
 ·have hpos:posP l x=(l.idxOf x:Int):=by unfold posP;rw[if_pos hx]
  rw[hpos]at cC
  have hi:=List.idxOf_lt_length_of_mem hx
  obtain⟨i,hie⟩:∃i,i=l.idxOf x:=⟨_,rfl⟩
  rw[←hie]at cC hi
  have HI:=Lib.hid hie
  clear hie
  go_region_held (fun W'=>W'.cell? ⟨p,k,none⟩=some v∧W'.cell? ⟨w.heap.size,0,none⟩=some (.int .i64 x.1)∧W'.cell? ⟨w.heap.size,1,none⟩=some (.int .i64 x.2)) (go_keep)
   ((go_at_call 127;refine(cC.out _ hBW.out.1).mono ?_;rintro e w2 ⟨rfl,hb2⟩;have hb3:=Lib.hid hb2;have q0':=(hb2.cell (World.block_lt_of_cell? _ _ q0)).trans q0;have q1':=(hb2.cell (World.block_lt_of_cell? _ _ q1)).trans q1;have q2':=(hb2.cell (World.block_lt_of_cell? _ _ q2)).trans q2;clear hb2))
  have hB2:=Lib.hid (hBW.out.1.trans (hb3.out.mono (by rw[hBW.out.2];omega)))
  clear q0 q1 q2 cC
  have hi0:(0:Int)≤i:=by omega
  go_wp2_with fail
  obtain⟨b,off,c,rfl,hbw⟩:∃b off c,v=.slice (some ⟨b,off,none⟩) l.length c∧b<w.heap.size:=by
   rcases HPL.out.form with⟨_,e⟩|⟨b,off,c,e,_,_,hb⟩
   ·rw[e]at hx;simp at hx
   ·exact⟨b,off,c,e,hb⟩
  have hsw2:=H.out.below hB2.out
  obtain⟨T2,hblk2⟩:=hsw2.blk
  have hpw2:p<w2.heap.size:=Nat.lt_of_lt_of_le hp hB2.out.size
  have hown:=H.out.own k _ b hv rfl
  have hp2d:PlAt w2.drew (.slice (some ⟨b,off,none⟩) l.length c) l:=(hsw2.at_ k _ l hv hl).below (Below.refl _ _).drew
  have hdel:Hid (Calls Tryz.prog 187 #[.slice (some ⟨b,off,none⟩) l.length c,.int .i64 i,.int .i64 (i+1)] w2.drew fun e w3=>∃a m c',e=.returned (.slice a m c')∧w3.cell? ⟨p,k,none⟩=some (.slice (some ⟨b,off,none⟩) l.length c)∧w3.frozen? ⟨p,k,none⟩=false∧
    ∃S' V',Zj (w3.setCell ⟨p,k,none⟩ (.slice a m c')) p S' V' (L.set k (l.erase x))∧Touch S w (w3.setCell ⟨p,k,none⟩ (.slice a m c'))∧∀b∈S',b∈S∨w.heap.size≤b):=by
   refine(Jo w2.drew b off c i l hp2d hi).mono ?_
   rintro e w3 ⟨v',rfl,hp3,t3,ho3⟩
   rw[HI.out,zfi]at hp3
   have hpw3:w3.heap[p]?=some (.cells V.toArray T2 (0,0)):=by
    rw[t3.block p hpw2 (by simp;exact fun e=>hown.2 e.symm)]
    exact hblk2
   have hpw3':=(Array.getElem?_eq_some_iff.1 hpw3).1
   obtain⟨a',c',ev,_,_⟩:=SlAt.form hp3
   refine⟨a',_,c',by rw[ev],by rw[cell_of_row w3 p k _ _ _ hpw3];simpa using hv,by simp[World.frozen?,hpw3],?_⟩
   rw[←ev]
   have hs4:(w3.setCell ⟨p,k,none⟩ v').heap.size=w3.heap.size:=by simp[World.setCell]
   have hb4:∀j,j≠p→(w3.setCell ⟨p,k,none⟩ v').heap[j]?=w3.heap[j]?:=fun j hj=>Below.heap_setCell w3 _ _ j hj
   refine H.out.put hv ⟨T2,Qw hpw3 v'⟩ (hp3.keep fun b' hb'=>hb4 b' ?_) (fun b' hb'=>.inl (ho3.symm.trans hb')) ?_ ?_ ?_ ?_ ?_
   ·rw[ho3]at hb'
    cases hb'
    exact hown.2
   ·intro j hj hjp hjv
    have h1:j<w2.heap.size:=Nat.lt_of_lt_of_le hj hB2.out.size
    rw[hb4 j hjp,t3.block j h1 (by simp;exact fun e=>hjv (by simp[Value.ownBlock,e]))]
    exact hB2.out.block j hj
   ·exact t3.os.trans hB2.out.os
   ·exact t3.tape.trans hB2.out.tape
   ·exact t3.output.trans hB2.out.output
   ·rw[hs4];have:=t3.size;have:=hB2.out.size;have e:w2.drew.heap.size=w2.heap.size:=rfl;omega
  have hw:IntKind.i64.wrap ((i:Int)+1)=i+1:=by simp[IntKind.wrap,IntKind.bits,IntKind.signed];omega
  clear hsw2 hblk2 hp2d
  go_region_with (go_at_call 187;refine hdel.out.mono ?_;rintro e w3 ⟨a',m',c',rfl,c3,f3,G3⟩;have HG3:=Lib.hid G3;clear G3)
  go_wp2_with fail
  go_ret
  obtain⟨S',V',h1,h2,h3⟩:=HG3.out
  exact⟨by simp[hx],S',V',h1,h2,h3⟩
 ·have hpos:posP l x=-1:=by unfold posP;rw[if_neg hx]
  rw[hpos]at cC
  go_region_held (fun W'=>W'.cell? ⟨p,k,none⟩=some v∧W'.cell? ⟨w.heap.size,0,none⟩=some (.int .i64 x.1)∧W'.cell? ⟨w.heap.size,1,none⟩=some (.int .i64 x.2)) (go_keep)
   ((go_at_call 127;refine(cC.out _ hBW.out.1).mono ?_;rintro e w2 ⟨rfl,hb2⟩;have hb3:=Lib.hid hb2;have q0':=(hb2.cell (World.block_lt_of_cell? _ _ q0)).trans q0;have q1':=(hb2.cell (World.block_lt_of_cell? _ _ q1)).trans q1;have q2':=(hb2.cell (World.block_lt_of_cell? _ _ q2)).trans q2;clear hb2))
  have hB2:=Lib.hid (hBW.out.1.trans (hb3.out.mono (by rw[hBW.out.2];omega)))
  go_wp2_with fail
  go_ret
  rw[List.erase_of_not_mem hx,zes hl]
  exact⟨by simp[hx],S,V,H.out.below hB2.out,Touch.of_below hB2.out,fun b hb=>.inl hb⟩
end Go.Proofs.YtnhdmnijiphjjaaGreat
