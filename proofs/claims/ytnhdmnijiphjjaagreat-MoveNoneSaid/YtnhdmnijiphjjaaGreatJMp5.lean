/- A disk: sectors that are sure, some that are loose; what work, Sectors, Read answer and leave. -/
import Derived.Test.YtnhdmnijiphjjaaGreatJMp1
import Derived.Test.YtnhdmnijiphjjaaGreatJMp4
import Derived.Deep.RegionHeld
import Derived.Test.YtnhdmnijiphjjaaGreatJMp0
import Derived.Test.YtnhdmnijiphjjaaGreatProg
import Derived.KernelRfl
import Derived.Deep.RegionWith
import Derived.Sort.Grow
import Derived.Deep.RegionLaw
set_option linter.unusedVariables false
set_option linter.unusedSimpArgs false
set_option maxRecDepth 100000
set_option maxHeartbeats 2000000
namespace Go.Proofs.YtnhdmnijiphjjaaGreat
section
open Go Go.RowKit
structure zx where
 sure:Nat→List UInt8
 loose:Nat→Option (List UInt8)
 first:Int
 fail:Int
 fuse:Int
 down:Bool
namespace zx
def cur(D:zx)(n:Nat):List UInt8:=(D.loose n).getD (D.sure n)
def burn(D:zx):zx:=if D.fuse=0 then {D with down:=true} else if D.down=true then D else if D.fuse > 0 then {D with fuse:=D.fuse-1} else D
def work(D:zx):zx×Nat:=
 if D.burn.down=true then(D.burn,9)
 else if D.burn.first > 0 then({D.burn with first:=D.burn.first-1},0)
 else if D.burn.fail > 0 then({D.burn with fail:=D.burn.fail-1},6)
 else(D.burn,0)
def Calm(D:zx):Prop:=D.first=0∧D.fail=0∧D.fuse=-1∧D.down=false
theorem Calm.work{D:zx}(h:D.Calm):D.work=(D,0):=by
 obtain⟨h1,h2,h3,h4⟩:=h
 have:D.burn=D:=by unfold burn;rw[if_neg (by omega),if_neg (by simp[h4]),if_neg (by omega)]
 unfold zx.work
 rw[this,if_neg (by simp[h4]),if_neg (by omega),if_neg (by omega)]
theorem V7(D:zx):D.burn.sure=D.sure∧D.burn.loose=D.loose:=by
 unfold burn
 split
 ·exact⟨rfl,rfl⟩
 ·split
  ·exact⟨rfl,rfl⟩
  ·split<;>exact⟨rfl,rfl⟩
theorem zbv(D:zx):D.work.1.sure=D.sure∧D.work.1.loose=D.loose:=by
 unfold zx.work
 split
 ·exact V7 D
 ·split
  ·exact V7 D
  ·split<;>exact V7 D
theorem zax(D:zx):D.work.1.cur=D.cur:=by
 funext n
 unfold cur
 rw[(zbv D).1,(zbv D).2]
end zx
def zbj(w:World)(O:Nat→Prop)(v:Value)(l:List UInt8):Prop:=
 l.length=64∧ByAt w v l∧∃b off c,v=.slice (some ⟨b,off,none⟩) 64 c∧O b
theorem zbj.keep{w w':World}{O O':Nat→Prop}{v:Value}{l:List UInt8}(h:zbj w O v l)(hk:∀b,v.ownBlock=some b→b<w.heap.size→O b→O' b∧w'.heap[b]?=w.heap[b]?):zbj w' O' v l:=by
 obtain⟨h1,h2,b,off,c,rfl,h4⟩:=h
 have hlt:=SlAt.lt h2 b rfl
 exact⟨h1,SlAt.keep h2 fun b' hb'=>by simp[Value.ownBlock]at hb';subst hb';exact(hk b rfl hlt h4).2,b,off,c,rfl,(hk b rfl hlt h4).1⟩
def Zi(sv mv:Value)(D:zx)(i:Nat):Value:=
 match i with
 | 0=>sv
 | 1=>mv
 | 2=>.int .i64 D.first
 | 3=>.int .i64 D.fail
 | 4=>.int .i64 D.fuse
 | _=>.bool D.down
def i63:Int:=9223372036854775807
def zop(w:World)(O:Nat→Prop)(L:List (Int×Value))(j:Nat):Option (List UInt8)→Prop
 | none=>getL L (j:Int)=none
 | some l=>∃v,getL L (j:Int)=some v∧zbj w O v l
structure uy(w:World)(O:Nat→Prop)(p sb off c mb:Nat)(V:Nat→Value)(L:List (Int×Value))(D:zx):Prop where
 op:O p
 os:O sb
 om:O mb
 ps:p≠sb
 row:Row w p 6 (Zi (.slice (some ⟨sb,off,none⟩) 192 c) (.map (some mb)) D)
 cap:192≤c∧c≤maxLen
 cells:∀j,j<192→w.cell? ⟨sb,off+j,none⟩=some (V j)∧w.frozen? ⟨sb,off+j,none⟩=false
 sure:∀j,j<192→zbj w O (V j) (D.sure j)
 map:MapAt w mb vz id L
 keys:∀x∈L,0≤x.1∧x.1<192
 nd:(L.map (·.1)).Nodup
 loose:∀j,j<192→zop w O L j (D.loose j)
 own1:∀j,j<192→(V j).ownBlock≠some p∧(V j).ownBlock≠some sb
 own2:∀x∈L,x.2.ownBlock≠some p∧x.2.ownBlock≠some sb∧∀j,j<192→x.2.ownBlock≠(V j).ownBlock
 own3:∀j k,j<192→k<192→j≠k→(V j).ownBlock≠(V k).ownBlock
 own4:L.Pairwise fun x y=>x.2.ownBlock≠y.2.ownBlock
 n1:0≤D.first∧D.first≤i63
 n2:0≤D.fail∧D.fail≤i63
 n3:-1≤D.fuse∧D.fuse≤i63
def Xw(w:World)(O:Nat→Prop)(p:Nat)(D:zx):Prop:=∃sb off c mb V L,uy w O p sb off c mb V L D
theorem zfd{κ ν:Type}[DecidableEq κ]{l:List (κ×ν)}{k:κ}{v:ν}(h:getL l k=some v):(k,v)∈l:=by
 induction l with
 | nil=>cases h
 | cons x l ih=>
  simp only[getL]at h
  split at h
  ·rename_i e
   cases h
   subst e
   exact List.mem_cons_self ..
  ·exact List.mem_cons_of_mem _ (ih h)
section
variable {w w':World}{O O':Nat→Prop}{p sb off c mb:Nat}{V:Nat→Value}{L:List (Int×Value)}{D:zx}
theorem uy.sbl(h:uy w O p sb off c mb V L D):sb<w.heap.size:=World.block_lt_of_cell? _ _ (h.cells 0 (by omega)).1
theorem Y0{w w':World}{a:Addr}(h:w'.heap[a.block]?=w.heap[a.block]?):w'.frozen? a=w.frozen? a:=by
 unfold World.frozen?
 rw[h]
theorem uy.loc(h:uy w O p sb off c mb V L D)(hk:∀k,k<w.heap.size→O k→O' k∧w'.heap[k]?=w.heap[k]?):uy w' O' p sb off c mb V L D:=by
 have hsb:=h.sbl
 refine {h with op:=(hk p h.row.lt h.op).1,os:=(hk sb hsb h.os).1,om:=(hk mb h.map.lt h.om).1,row:=h.row.keep (hk p h.row.lt h.op).2,cells:=fun j hj=>⟨(World.cell?_of_block (w:=w) (hk sb hsb h.os).2).trans (h.cells j hj).1,(Y0 (a:=⟨sb,off+j,none⟩) (hk sb hsb h.os).2).trans (h.cells j hj).2⟩,sure:=fun j hj=>(h.sure j hj).keep fun b _ hb ho=>hk b hb ho,map:=h.map.keep (hk mb h.map.lt h.om).2,loose:=fun j hj=>?_}
 have:=h.loose j hj
 revert this
 cases D.loose j with
 | none=>exact fun h=>h
 | some l=>exact fun⟨v,h1,h2⟩=>⟨v,h1,h2.keep fun b _ hb ho=>hk b hb ho⟩
theorem Xw.loc(h:Xw w O p D)(hk:∀k,k<w.heap.size→O k→O' k∧w'.heap[k]?=w.heap[k]?):Xw w' O' p D:=by
 obtain⟨sb,off,c,mb,V,L,h⟩:=h
 exact⟨sb,off,c,mb,V,L,h.loc hk⟩
theorem uy.ctl{D':zx}(h:uy w O p sb off c mb V L D)(hr:Row w' p 6 (Zi (.slice (some ⟨sb,off,none⟩) 192 c) (.map (some mb)) D'))(hk:∀k,k<w.heap.size→k≠p→w'.heap[k]?=w.heap[k]?)
  (e1:D'.sure=D.sure) (e2:D'.loose=D.loose) (n1:0≤D'.first∧D'.first≤i63) (n2:0≤D'.fail∧D'.fail≤i63) (n3:-1≤D'.fuse∧D'.fuse≤i63):uy w' O p sb off c mb V L D':=by
 have hsb:=h.sbl
 have hpm:mb≠p:=fun e=>by
  obtain⟨es,cl,hm,_⟩:=h.map
  obtain⟨T,hp⟩:=h.row
  rw[e,hp]at hm
  cases hm
 refine {h with row:=hr,cells:=fun j hj=>⟨(World.cell?_of_block (w:=w) (hk sb hsb (Ne.symm h.ps))).trans (h.cells j hj).1,(Y0 (a:=⟨sb,off+j,none⟩) (hk sb hsb (Ne.symm h.ps))).trans (h.cells j hj).2⟩,sure:=fun j hj=>?_,map:=h.map.keep (hk mb h.map.lt hpm),loose:=fun j hj=>?_,n1:=n1,n2:=n2,n3:=n3}
 ·rw[e1]
  exact(h.sure j hj).keep fun b hb hl ho=>⟨ho,hk b hl fun e=>(h.own1 j hj).1 (by rw[hb,e])⟩
 ·rw[e2]
  have:=h.loose j hj
  revert this
  cases D.loose j with
  | none=>exact fun h=>h
  | some l=>exact fun⟨v,h1,h2⟩=>⟨v,h1,h2.keep fun b hb hl ho=>⟨ho,hk b hl fun e=>(h.own2 _ (zfd h1)).1 (by rw[hb,e])⟩⟩
theorem uy.ctl1{D':zx}(h:uy w O p sb off c mb V L D)(i:Nat)(v:Value)(hi:i<6)(hv:∀j,j<6→Zi (.slice (some ⟨sb,off,none⟩) 192 c) (.map (some mb)) D' j=if j=i then v else Zi (.slice (some ⟨sb,off,none⟩) 192 c) (.map (some mb)) D j)
  (e1:D'.sure=D.sure) (e2:D'.loose=D.loose) (n1:0≤D'.first∧D'.first≤i63) (n2:0≤D'.fail∧D'.fail≤i63) (n3:-1≤D'.fuse∧D'.fuse≤i63):uy (w.setCell ⟨p,i,none⟩ v) O p sb off c mb V L D'∧Turn O w (w.setCell ⟨p,i,none⟩ v):=by
 refine⟨h.ctl ((h.row.set hi v).congr fun j hj=>(hv j hj).symm) (fun k hk hne=>Below.heap_setCell w ⟨p,i,none⟩ v k hne) e1 e2 n1 n2 n3,(Turn.refl O w).set (.inl h.op) _⟩
end
end
open Go Go.RowKit
section
variable {O:Nat→Prop}{p sb off c mb:Nat}{V:Nat→Value}{L:List (Int×Value)}{D:zx}
theorem burn_n(h1:0≤D.first∧D.first≤i63)(h2:0≤D.fail∧D.fail≤i63)(h3:-1≤D.fuse∧D.fuse≤i63):
  D.burn.first=D.first∧D.burn.fail=D.fail∧(-1≤D.burn.fuse∧D.burn.fuse≤i63):=by
 unfold zx.burn
 split
 ·exact⟨rfl,rfl,h3⟩
 ·split
  ·exact⟨rfl,rfl,h3⟩
  ·split
   ·exact⟨rfl,rfl,by show -1≤D.fuse-1∧D.fuse-1≤_;omega⟩
   ·exact⟨rfl,rfl,h3⟩
inductive WorkRel(w:World)(p:Nat)(D:zx):World→Prop
 | mk (w1 w2:World) (h1:(D.fuse=0∧w1=w.setCell ⟨p,5,none⟩ (.bool true))∨(D.fuse≠0∧(D.down=true∨D.fuse<0)∧w1=w)∨(D.fuse≠0∧D.down=false∧D.fuse > 0∧w1=w.setCell ⟨p,4,none⟩ (.int .i64 (D.fuse-1))))
   (h2:((D.burn.down=true∨D.burn.first≤0∧D.burn.fail≤0)∧w2=w1)∨(D.burn.down=false∧D.burn.first > 0∧w2=w1.setCell ⟨p,2,none⟩ (.int .i64 (D.first-1)))∨(D.burn.down=false∧D.burn.first≤0∧D.burn.fail > 0∧w2=w1.setCell ⟨p,3,none⟩ (.int .i64 (D.fail-1)))):WorkRel w p D w2
theorem WorkRel.at_ {w w2 : World} (r : WorkRel w p D w2) (h : uy w O p sb off c mb V L D) : uy w2 O p sb off c mb V L D.work.1 ∧ Turn O w w2 := by
  obtain ⟨w1, _, h1, h2⟩ := r
  have hb := burn_n h.n1 h.n2 h.n3
  have hs := zx.V7 D
  have H1 : uy w1 O p sb off c mb V L D.burn ∧ Turn O w w1 := by
    rcases h1 with ⟨e, rfl⟩ | ⟨e, h1, rfl⟩ | ⟨e, e1, e2, rfl⟩
    · have eb : D.burn = { D with down := true } := by unfold zx.burn; rw [if_pos e]
      rw [eb]
      exact h.ctl1 5 _ (by omega) (fun j hj => by
        rcases (by omega : j = 0 ∨ j = 1 ∨ j = 2 ∨ j = 3 ∨ j = 4 ∨ j = 5) with rfl | rfl | rfl | rfl | rfl | rfl <;> rfl) rfl rfl h.n1 h.n2 h.n3
    · have eb : D.burn = D := by
        unfold zx.burn
        rw [if_neg e]
        split
        · rfl
        · rw [if_neg (by rcases h1 with h1 | h1; · rename_i h2; exact absurd h1 h2
                         · omega)]
      rw [eb]
      exact ⟨h, Turn.refl _ _⟩
    · have eb : D.burn = { D with fuse := D.fuse - 1 } := by unfold zx.burn; rw [if_neg e, if_neg (by simp [e1]), if_pos e2]
      rw [eb]
      exact h.ctl1 4 _ (by omega) (fun j hj => by
        rcases (by omega : j = 0 ∨ j = 1 ∨ j = 2 ∨ j = 3 ∨ j = 4 ∨ j = 5) with rfl | rfl | rfl | rfl | rfl | rfl <;> rfl) rfl rfl h.n1 h.n2 (by have := h.n3; show -1 ≤ D.fuse - 1 ∧ D.fuse - 1 ≤ _; omega)
  obtain ⟨H1, T1⟩ := H1
  rcases h2 with ⟨e, rfl⟩ | ⟨e, e1, rfl⟩ | ⟨e, e1, e2, rfl⟩
  · have ew : D.work.1 = D.burn := by
      unfold zx.work
      split
      · rfl
      · rename_i hn
        rcases e with e | ⟨e1, e2⟩
        · exact absurd e hn
        · rw [if_neg (by omega), if_neg (by omega)]
    rw [ew]
    exact ⟨H1, T1⟩
  · have ew : D.work.1 = { D.burn with first := D.burn.first - 1 } := by unfold zx.work; rw [if_neg (by simp [e]), if_pos e1]
    rw [ew, ← hb.1]
    have := H1.ctl1 (D' := { D.burn with first := D.burn.first - 1 }) 2 (.int .i64 (D.burn.first - 1)) (by omega) (fun j hj => by
        rcases (by omega : j = 0 ∨ j = 1 ∨ j = 2 ∨ j = 3 ∨ j = 4 ∨ j = 5) with rfl | rfl | rfl | rfl | rfl | rfl <;> rfl) rfl rfl (by have := H1.n1; show 0 ≤ D.burn.first - 1 ∧ D.burn.first - 1 ≤ _; omega) H1.n2 H1.n3
    exact ⟨this.1, T1.trans this.2⟩
  · have ew : D.work.1 = { D.burn with fail := D.burn.fail - 1 } := by unfold zx.work; rw [if_neg (by simp [e]), if_neg (by omega), if_pos e2]
    rw [ew, ← hb.2.1]
    have := H1.ctl1 (D' := { D.burn with fail := D.burn.fail - 1 }) 3 (.int .i64 (D.burn.fail - 1)) (by omega) (fun j hj => by
        rcases (by omega : j = 0 ∨ j = 1 ∨ j = 2 ∨ j = 3 ∨ j = 4 ∨ j = 5) with rfl | rfl | rfl | rfl | rfl | rfl <;> rfl) rfl rfl H1.n1 (by have := H1.n2; show 0 ≤ D.burn.fail - 1 ∧ D.burn.fail - 1 ≤ _; omega) H1.n3
    exact ⟨this.1, T1.trans this.2⟩
theorem zc5(w:World)(h:uy w O p sb off c mb V L D):Calls Tryz.prog 98 #[.pointer (some ⟨p,0,none⟩)] w fun e w'=>e=.returned (.int .i64 192)∧w'=w:=by
 have h0:=h.row.cell (i:=0) (by omega)
 dsimp only[Zi]at h0
 clear h
 go_enter Tryz.func98,Tryz.ntmps98
 go_wp2_with fail
 go_ret
 exact⟨rfl,rfl⟩
theorem zkc(w:World)(fi fa fu:Int)(dn:Bool)(h2:w.cell? ⟨p,2,none⟩=some (.int .i64 fi))(h3:w.cell? ⟨p,3,none⟩=some (.int .i64 fa))(h4:w.cell? ⟨p,4,none⟩=some (.int .i64 fu))(h5:w.cell? ⟨p,5,none⟩=some (.bool dn))
  (z2:w.frozen? ⟨p,2,none⟩=false) (z3:w.frozen? ⟨p,3,none⟩=false) (z4:w.frozen? ⟨p,4,none⟩=false) (z5:w.frozen? ⟨p,5,none⟩=false)
  (n1:0≤fi∧fi≤i63) (n2:0≤fa∧fa≤i63) (n3:-1≤fu∧fu≤i63) (D:zx) (e1:D.first=fi) (e2:D.fail=fa) (e3:D.fuse=fu) (e4:D.down=dn):
  Calls Tryz.prog 99 #[.pointer (some ⟨p,0,none⟩)] w fun e w'=>e=.returned (.int .i64 D.work.2)∧Hid (WorkRel w p D w'):=by
 have w1:IntKind.i64.wrap (fi-1)=fi-1:=by unfold i63 at n1;simp[IntKind.wrap,IntKind.bits,IntKind.signed];omega
 have w2:IntKind.i64.wrap (fa-1)=fa-1:=by unfold i63 at n2;simp[IntKind.wrap,IntKind.bits,IntKind.signed];omega
 have w3:IntKind.i64.wrap (fu-1)=fu-1:=by unfold i63 at n3;simp[IntKind.wrap,IntKind.bits,IntKind.signed];omega
 have HE:=Lib.hid (And.intro e1 (And.intro e2 (And.intro e3 e4)))
 clear n1 n2 n3 e1 e2 e3 e4
 go_enter Tryz.func99,Tryz.ntmps99
 go_wp2_with fail
 all_goals (go_ret;obtain⟨rfl,rfl,rfl,rfl⟩:=HE.out)
 ·have f0:D.fuse=0:=by simp_all
  have eb:D.burn={D with down:=true}:=by unfold zx.burn;rw[if_pos f0]
  have ew:D.work.2=9:=by unfold zx.work;rw[eb,if_pos rfl]
  exact⟨by rw[ew];rfl,.mk _ _ (.inl ⟨f0,rfl⟩) (.inl ⟨.inl (by rw[eb]),rfl⟩)⟩
 ·have f0:D.fuse≠0:=by simp_all
  have f1:D.down=true:=by simp_all
  have eb:D.burn=D:=by unfold zx.burn;rw[if_neg f0,if_pos f1]
  have ew:D.work.2=9:=by unfold zx.work;rw[eb,if_pos f1]
  exact⟨by rw[ew];rfl,.mk _ _ (.inr (.inl ⟨f0,.inl f1,rfl⟩)) (.inl ⟨.inl (by rw[eb];exact f1),rfl⟩)⟩
 ·have f0:D.fuse≠0:=by simp_all
  have f1:D.down=false:=by simp_all
  have f2:D.fuse > 0:=by simp_all
  have eb:D.burn={D with fuse:=D.fuse-1}:=by unfold zx.burn;rw[if_neg f0,if_neg (by simp[f1]),if_pos f2]
  have eb1:D.burn.first=D.first:=by rw[eb]
  have eb2:D.burn.fail=D.fail:=by rw[eb]
  have eb3:D.burn.down=false:=by rw[eb];exact f1
  have g1:D.first > 0:=by simp_all
  have ew:D.work.2=0:=by unfold zx.work;rw[if_neg (by simp[eb3]),if_pos (by omega)]
  exact⟨by rw[ew];rfl,.mk _ _ (.inr (.inr ⟨f0,f1,f2,rfl⟩)) (.inr (.inl ⟨eb3,by omega,rfl⟩))⟩
 ·have f0:D.fuse≠0:=by simp_all
  have f1:D.down=false:=by simp_all
  have f2:D.fuse > 0:=by simp_all
  have eb:D.burn={D with fuse:=D.fuse-1}:=by unfold zx.burn;rw[if_neg f0,if_neg (by simp[f1]),if_pos f2]
  have eb1:D.burn.first=D.first:=by rw[eb]
  have eb2:D.burn.fail=D.fail:=by rw[eb]
  have eb3:D.burn.down=false:=by rw[eb];exact f1
  have g1:¬D.first > 0:=by simp_all
  have g2:D.fail > 0:=by simp_all
  have ew:D.work.2=6:=by unfold zx.work;rw[if_neg (by simp[eb3]),if_neg (by omega),if_pos (by omega)]
  exact⟨by rw[ew];rfl,.mk _ _ (.inr (.inr ⟨f0,f1,f2,rfl⟩)) (.inr (.inr ⟨eb3,by omega,by omega,rfl⟩))⟩
 ·have f0:D.fuse≠0:=by simp_all
  have f1:D.down=false:=by simp_all
  have f2:D.fuse > 0:=by simp_all
  have eb:D.burn={D with fuse:=D.fuse-1}:=by unfold zx.burn;rw[if_neg f0,if_neg (by simp[f1]),if_pos f2]
  have eb1:D.burn.first=D.first:=by rw[eb]
  have eb2:D.burn.fail=D.fail:=by rw[eb]
  have eb3:D.burn.down=false:=by rw[eb];exact f1
  have g1:¬D.first > 0:=by simp_all
  have g2:¬D.fail > 0:=by simp_all
  have ew:D.work.2=0:=by unfold zx.work;rw[if_neg (by simp[eb3]),if_neg (by omega),if_neg (by omega)]
  exact⟨by rw[ew];rfl,.mk _ _ (.inr (.inr ⟨f0,f1,f2,rfl⟩)) (.inl ⟨.inr ⟨by omega,by omega⟩,rfl⟩)⟩
 ·have f0:D.fuse≠0:=by simp_all
  have f1:D.down=false:=by simp_all
  have f2:¬D.fuse > 0:=by simp_all
  have eb:D.burn=D:=by unfold zx.burn;rw[if_neg f0,if_neg (by simp[f1]),if_neg f2]
  have eb1:D.burn.first=D.first:=by rw[eb]
  have eb2:D.burn.fail=D.fail:=by rw[eb]
  have eb3:D.burn.down=false:=by rw[eb];exact f1
  have g1:D.first > 0:=by simp_all
  have ew:D.work.2=0:=by unfold zx.work;rw[if_neg (by simp[eb3]),if_pos (by omega)]
  exact⟨by rw[ew];rfl,.mk _ _ (.inr (.inl ⟨f0,.inr (by omega),rfl⟩)) (.inr (.inl ⟨eb3,by omega,rfl⟩))⟩
 ·have f0:D.fuse≠0:=by simp_all
  have f1:D.down=false:=by simp_all
  have f2:¬D.fuse > 0:=by simp_all
  have eb:D.burn=D:=by unfold zx.burn;rw[if_neg f0,if_neg (by simp[f1]),if_neg f2]
  have eb1:D.burn.first=D.first:=by rw[eb]
  have eb2:D.burn.fail=D.fail:=by rw[eb]
  have eb3:D.burn.down=false:=by rw[eb];exact f1
  have g1:¬D.first > 0:=by simp_all
  have g2:D.fail > 0:=by simp_all
  have ew:D.work.2=6:=by unfold zx.work;rw[if_neg (by simp[eb3]),if_neg (by omega),if_pos (by omega)]
  exact⟨by rw[ew];rfl,.mk _ _ (.inr (.inl ⟨f0,.inr (by omega),rfl⟩)) (.inr (.inr ⟨eb3,by omega,by omega,rfl⟩))⟩
 ·have f0:D.fuse≠0:=by simp_all
  have f1:D.down=false:=by simp_all
  have f2:¬D.fuse > 0:=by simp_all
  have eb:D.burn=D:=by unfold zx.burn;rw[if_neg f0,if_neg (by simp[f1]),if_neg f2]
  have eb1:D.burn.first=D.first:=by rw[eb]
  have eb2:D.burn.fail=D.fail:=by rw[eb]
  have eb3:D.burn.down=false:=by rw[eb];exact f1
  have g1:¬D.first > 0:=by simp_all
  have g2:¬D.fail > 0:=by simp_all
  have ew:D.work.2=0:=by unfold zx.work;rw[if_neg (by simp[eb3]),if_neg (by omega),if_neg (by omega)]
  exact⟨by rw[ew];rfl,.mk _ _ (.inr (.inl ⟨f0,.inr (by omega),rfl⟩)) (.inl ⟨.inr ⟨by omega,by omega⟩,rfl⟩)⟩
theorem zg2(w:World)(h:uy w O p sb off c mb V L D):Calls Tryz.prog 99 #[.pointer (some ⟨p,0,none⟩)] w fun e w'=>e=.returned (.int .i64 D.work.2)∧uy w' O p sb off c mb V L D.work.1∧Turn O w w':=
 (zkc w _ _ _ _ (h.row.cell (i:=2) (by omega)) (h.row.cell (i:=3) (by omega)) (h.row.cell (i:=4) (by omega)) (h.row.cell (i:=5) (by omega)) (h.row.frozen 2) (h.row.frozen 3) (h.row.frozen 4) (h.row.frozen 5) h.n1 h.n2 h.n3 D rfl rfl rfl rfl).mono
  fun _ _ ⟨he,hw⟩=>⟨he,WorkRel.at_ hw.out h⟩
theorem Qh(w:World)(h:uy w O p sb off c mb V L D)(n:Nat)(hn:n<192):∃v,(getL L (n:Int)=some v∨getL L (n:Int)=none∧v=V n)∧zbj w O v (D.cur n):=by
 have:=h.loose n hn
 unfold zx.cur
 cases hd:D.loose n with
 | none=>rw[hd]at this;exact⟨V n,.inr ⟨this,rfl⟩,h.sure n hn⟩
 | some l=>rw[hd]at this;obtain⟨v,h1,h2⟩:=this;exact⟨v,.inl h1,h2⟩
theorem zeroBy(w:World):(zeroValue 22).run Tryz.prog w=.ok (.slice none 0 0) w:=by kernel_rfl
def za4(e:Nat)(v:Value):Value:=.tuple #[if e=0 then v else .slice none 0 0,.int .i64 e]
theorem zc8(w:World)(h:uy w O p sb off c mb V L D)(ni:Int)(n:Nat)(en:ni=n)(hn:n<192):
  Calls Tryz.prog 37 #[.pointer (some ⟨p,0,none⟩),.int .i64 ni] w fun e w'=>∃v,e=.returned (za4 D.work.2 v)∧uy w' O p sb off c mb V L D.work.1∧Turn O w w'∧(D.work.2=0→ByAt w' v (D.cur n)∧∀b,v.ownBlock=some b→w.heap.size≤b):=by
 subst en
 have S:=Lib.hid (zc5 w h)
 have W:=Lib.hid (zg2 w h)
 obtain⟨r,hr⟩:∃r,D.work.2=r:=⟨_,rfl⟩
 have HC:=Lib.hid (zx.zax D)
 obtain⟨D',hD⟩:∃D',D.work.1=D':=⟨_,rfl⟩
 rw[hr,hD]at W
 rw[hD]at HC
 rw[hr,hD]
 clear h hr hD
 have i1:(n:Int)<192:=by omega
 have i2:(0:Int)≤n:=by omega
 go_enter Tryz.func37,Tryz.ntmps37
 go_wp2_with fail
 refine S.out.mono ?_
 rintro e u ⟨rfl,hu⟩
 have hu:=hu.symm
 subst hu
 clear S
 go_wp2_with fail
 refine W.out.mono ?_
 rintro e w1 ⟨rfl,hI,hT⟩
 have H1:=Lib.hid (And.intro hI hT)
 clear hI hT W
 by_cases hr:r=0
 ·subst hr
  obtain⟨v,hv,hs⟩:=Qh w1 H1.out.1 n hn
  have hlk:=jw (T:=155) Ur Tryz.underlying155 (.slice none 0 0) zeroBy H1.out.1.map (n:Int) true
  have C:=Lib.hid (Jp w1 v (D.cur n) (by rw[←HC.out];exact hs.2.1.reads) (by rw[←HC.out,hs.1];omega) (by rw[←HC.out,hs.1];omega))
  have c1:=H1.out.1.row.cell (i:=1) (by omega)
  dsimp only[Zi]at c1
  have fin:Hid (∀v' w2,ByAt w2 v' (D.cur n)→Below w1.heap.size w1 w2→(∀b,v'.ownBlock=some b→w1.heap.size≤b)→∃v,Ending.returned (.tuple #[v',.int .i64 0])=.returned (za4 0 v)∧uy w2 O p sb off c mb V L D'∧Turn O w w2∧ByAt w2 v (D.cur n)∧∀b,v.ownBlock=some b→w.heap.size≤b):=fun v' w2 h1 h2 h3=>
   ⟨v',rfl,H1.out.1.loc fun k hk ho=>⟨ho,h2.block k hk⟩,H1.out.2.trans (.of_below h2),h1,fun b hb=>Nat.le_trans H1.out.2.size (h3 b hb)⟩
  rcases hv with hv|⟨hv,rfl⟩
  ·rw[hv]at hlk
   simp only[if_pos,Option.map_some,Option.getD_some,Option.isSome_some,id,vz]at hlk
   clear hs hv
   go_wp2_with fail
   refine C.out.mono ?_
   rintro e w2 ⟨v',rfl,hB⟩
   have HB:=Lib.hid hB
   clear hB hlk
   go_wp2_with fail
   exact bodyPost_ret (v:=.tuple #[v',.int .i64 0]) (by simp[results,Tryz.results37,go_sem]) rfl (fin.out _ _ HB.out.1 HB.out.2.1 HB.out.2.2)
  ·rw[hv]at hlk
   simp only[if_pos,Option.map_none,Option.getD_none,Option.isSome_none,vz]at hlk
   have c0:=H1.out.1.row.cell (i:=0) (by omega)
   dsimp only[Zi]at c0
   have c2:=(H1.out.1.cells n hn).1
   clear hs hv
   go_wp2_with fail
   refine C.out.mono ?_
   rintro e w2 ⟨v',rfl,hB⟩
   have HB:=Lib.hid hB
   clear hB hlk
   go_wp2_with fail
   exact bodyPost_ret (v:=.tuple #[v',.int .i64 0]) (by simp[results,Tryz.results37,go_sem]) rfl (fin.out _ _ HB.out.1 HB.out.2.1 HB.out.2.2)
 ·have e1:(r:Int)≠0:=by omega
  go_wp2_with fail
  exact bodyPost_ret (v:=.tuple #[.slice none 0 0,.int .i64 r]) (by simp[results,Tryz.results37,go_sem]) rfl ⟨undef,by unfold za4;rw[if_neg hr],H1.out.1,H1.out.2,fun e=>absurd e hr⟩
end
def pl(l:List (Int×Int)):List Value:=l.flatMap fun x=>[.int .i64 x.1,.int .i64 x.2]
theorem Qz(x:Int×Int)(l:List (Int×Int)):pl (x::l)=[.int .i64 x.1,.int .i64 x.2]++pl l:=rfl
theorem Q0(a b:List (Int×Int)):pl (a++b)=pl a++pl b:=by simp[pl]
theorem uo(l:List (Int×Int)):(pl l).length=l.length*2:=by
 induction l with
 | nil=>rfl
 | cons x l ih=>rw[Qz,List.length_append,ih];simp;omega
theorem znb(l:List (Int×Int))(j:Nat)(h:j<l.length):(pl l)[j*2]?=some (.int .i64 l[j].1)∧(pl l)[j*2+1]?=some (.int .i64 l[j].2):=by
 induction l generalizing j with
 | nil=>simp at h
 | cons x l ih=>
  rw[Qz]
  cases j with
  | zero=>simp
  | succ j=>
   have:=ih j (by simpa using h)
   rw[show(j+1)*2=j*2+2 by omega,show j*2+2+1=j*2+1+2 by omega]
   simpa using this
theorem zaf(l:List (Int×Int)):∀u∈pl l,u.oneCell'=true:=by
 intro u hu
 simp only[pl,List.mem_flatMap]at hu
 obtain⟨x,_,h⟩:=hu
 simp at h
 rcases h with rfl|rfl<;>rfl
theorem znt(l:List (Int×Int))(n:Nat):pl (l.take n)=(pl l).take (n*2):=by
 induction l generalizing n with
 | nil=>simp[pl]
 | cons x l ih=>cases n with
  | zero=>simp[pl]
  | succ n=>rw[List.take_succ_cons,Qz,Qz,ih,show(n+1)*2=n*2+2 by omega];simp
theorem znu(l:List (Int×Int))(n:Nat):pl (l.drop n)=(pl l).drop (n*2):=by
 induction l generalizing n with
 | nil=>simp[pl]
 | cons x l ih=>cases n with
  | zero=>simp
  | succ n=>rw[List.drop_succ_cons,Qz,ih,show(n+1)*2=n*2+2 by omega];simp
def PlAt(w:World)(v:Value)(l:List (Int×Int)):Prop:=SlAt w 58 2 v l.length (pl l)
theorem PlAt.nil(w:World):PlAt w (.slice none 0 0) []:=SlAt.nil w _ _
theorem PlAt.below{w w':World}{v:Value}{l:List (Int×Int)}(h:PlAt w v l)(hb:Below w.heap.size w w'):PlAt w' v l:=SlAt.below h hb
theorem PlAt.keep{w w':World}{v:Value}{l:List (Int×Int)}(h:PlAt w v l)(hb:∀b,v.ownBlock=some b→w'.heap[b]?=w.heap[b]?):PlAt w' v l:=SlAt.keep h hb
theorem PlAt.touch{w w':World}{v:Value}{l:List (Int×Int)}{S:List Nat}(h:PlAt w v l)(t:Touch S w w')(hn:∀b,v.ownBlock=some b→b∉S):PlAt w' v l:=
 SlAt.keep h fun b e=>t.block b (SlAt.lt h b e) (hn b e)
theorem PlAt.cell{w:World}{b off c:Nat}{l:List (Int×Int)}{n:Nat}(h:PlAt w (.slice (some ⟨b,off,none⟩) n c) l)(j:Nat)(hj:j<l.length):
  w.cell? ⟨b,off+j*2,none⟩=some (.int .i64 l[j].1)∧w.cell? ⟨b,off+j*2+1,none⟩=some (.int .i64 l[j].2):=by
 obtain⟨g,off',c',e,_,_,hx⟩:=SlAt.cells h (by rw[uo];omega)
 cases e
 obtain⟨h1,h2⟩:=znb l j hj
 exact⟨(hx _ _ h1).1,by rw[Nat.add_assoc];exact(hx _ _ h2).1⟩
theorem PlAt.form{w:World}{v:Value}{l:List (Int×Int)}(h:PlAt w v l):(v=.slice none 0 0∧l=[])∨∃b off c,v=.slice (some ⟨b,off,none⟩) l.length c∧l.length≤c∧c≤maxLen∧b<w.heap.size:=by
 rcases h.2 with⟨rfl,h2⟩|⟨b,off,c,arr,rfl,hg,hnc,hm,_⟩
 ·exact .inl ⟨rfl,List.eq_nil_of_length_eq_zero h2⟩
 ·exact .inr ⟨b,off,c,rfl,hnc,hm,(Array.getElem?_eq_some_iff.1 hg).1⟩
theorem zby(w:World)(b:Nat)(arr:Array Value)(e:TypeId)(hg:w.heap[b]?=some (.cells arr e (0,0))):w.setRow b arr=w:=setRow_self w b arr e (0,0) hg
theorem zbw(P:Program)(w:World)(b o:Nat)(vs:List Value)(arr:Array Value)(e:TypeId)(hg:w.heap[b]?=some (.cells arr e (0,0)))(hfit:o+vs.length≤arr.size)(h1:∀u∈vs,u.oneCell'=true):
  ∃arr':Array Value,(storeCells ⟨b,o,none⟩ vs 0).run P w=.ok () (w.setRow b arr')∧arr'.size=arr.size∧(∀j,j<o→arr'[j]?=arr[j]?)∧(∀j,o+vs.length≤j→arr'[j]?=arr[j]?)∧(∀j u,vs[j]?=some u→arr'[o+j]?=some u)∧(w.setRow b arr').heap[b]?=some (.cells arr' e (0,0)):=by
 have h:=run_storeCells_at P b o e vs 0 arr w hg (by simpa using hfit) h1
 simp only[Nat.add_zero]at h
 have htl:(arr.toList.take o).length=o:=by simp;omega
 refine⟨_,h,by simp;omega,fun j hj=>?_,fun j hj=>?_,fun j u hu=>?_,setRow_heap w b arr _ e _ hg⟩
 ·rw[List.getElem?_toArray,List.append_assoc,List.getElem?_append_left (by rw[htl];exact hj),List.getElem?_take_of_lt hj];simp
 ·rw[List.getElem?_toArray,List.getElem?_append_right (by rw[List.length_append,htl];exact hj),List.getElem?_drop]
  rw[List.length_append,htl]
  simp;congr 1;omega
 ·have hj:=(List.getElem?_eq_some_iff.1 hu).1
  rw[List.getElem?_toArray,List.append_assoc,List.getElem?_append_right (by rw[htl];omega),htl,List.getElem?_append_left (by omega),show o+j-o=j by omega]
  exact hu
theorem zjf(w:World)(ty:TypeId)(b o n c:Nat)(arr:Array Value)(e:TypeId)(hg:w.heap[b]?=some (.cells arr e (0,0)))(hfit:o+n*2≤arr.size):
  ∃arr':Array Value,(Builtin.clear_ #[120] ty #[.slice (some ⟨b,o,none⟩) n c]).run Tryz.prog w=.ok (.tuple #[]) (w.setRow b arr')∧arr'.size=arr.size∧(∀j,j<o→arr'[j]?=arr[j]?)∧(w.setRow b arr').heap[b]?=some (.cells arr' e (0,0)):=by
 cases n with
 | zero=>exact⟨arr,by rw[zby w b arr e hg];simp[Builtin.clear_,run_underlying Tryz.underlying120],rfl,fun _ _=>rfl,by rw[zby w b arr e hg];exact hg⟩
 | succ n=>
  have hz:∀w,(zeroValue 58).run Tryz.prog w=.ok (.agg #[.int .i64 0,.int .i64 0]) w:=fun w=>by kernel_rfl
  have hl:(Builtin.zeroCells (Value.agg #[.int .i64 0,.int .i64 0]).cells (n+1)).toList.length=(n+1)*2:=by simp[Builtin.zeroCells,Value.cells]
  have hall:∀u∈(Builtin.zeroCells (Value.agg #[.int .i64 0,.int .i64 0]).cells (n+1)).toList,u.oneCell'=true:=by
   intro u hu
   simp[Builtin.zeroCells,Value.cells]at hu
   obtain⟨i,hi,rfl⟩:=hu
   rcases Nat.mod_two_eq_zero_or_one i with h|h<;>simp[h,Value.oneCell']
  obtain⟨arr',h1,h2,h3,_,_,h6⟩:=zbw Tryz.prog w b o _ arr e hg (by rw[hl];exact hfit) hall
  exact⟨arr',by simp[Builtin.clear_,run_underlying Tryz.underlying120,hz,h1],h2,h3,h6⟩
theorem zdf(w:World)(v:Value)(l:List (Int×Int))(h:PlAt w v l):
  Calls Tryz.prog 138 #[v] w fun e w'=>∃v',e=.returned v'∧PlAt w v' l∧w'=w∧v'.ownBlock=v.ownBlock:=by
 rcases h.form with⟨rfl,rfl⟩|⟨b,off,c,rfl,hc,hm,hb⟩
 ·go_enter Tryz.func138,Tryz.ntmps138
  go_wp2_with fail
  go_ret
  exact⟨_,rfl,PlAt.nil w,rfl,rfl⟩
 ·have h':PlAt w (.slice (some ⟨b,off,none⟩) l.length l.length) l:=by
   refine⟨h.1,?_⟩
   rcases h.2 with⟨e,_⟩|⟨b',off',c',arr,e,hg,hnc,hm',hfit,hx⟩
   ·cases e
   ·cases e
    exact .inr ⟨b,off,l.length,arr,rfl,hg,Nat.le_refl _,by omega,by have:=Nat.mul_le_mul_right 2 hnc;omega,hx⟩
  have H:=Lib.hid h'
  clear h h'
  generalize hn:l.length=n at *
  clear hn
  go_enter Tryz.func138,Tryz.ntmps138
  go_wp2_with fail
  go_ret
  exact⟨_,rfl,H.out,rfl,rfl⟩
theorem zed(l:List (Int×Int))(i:Nat):pl (l.eraseIdx i)=pl (l.take i)++pl (l.drop (i+1)):=by
 rw[←Q0,List.eraseIdx_eq_take_drop_succ]
theorem Jo(w:World)(b off c i:Nat)(l:List (Int×Int))(h:PlAt w (.slice (some ⟨b,off,none⟩) l.length c) l)(hi:i<l.length):
  Calls Tryz.prog 187 #[.slice (some ⟨b,off,none⟩) l.length c,.int .i64 i,.int .i64 (i+1)] w fun e w'=>∃v',e=.returned v'∧PlAt w' v' (l.eraseIdx i)∧Touch [b] w w'∧v'.ownBlock=some b:=by
 obtain⟨arr,hg,hnc,hm,hfit,hx⟩:∃arr,w.heap[b]?=some (.cells arr 58 (0,0))∧l.length≤c∧c≤maxLen∧off+c*2≤arr.size∧∀j u,(pl l)[j]?=some u→arr[off+j]?=some u:=by
  rcases h.2 with⟨e,_⟩|⟨b',off',c',arr,e,rest⟩
  ·cases e
  ·cases e;exact⟨arr,rest⟩
 have hb:b<w.heap.size:=(Array.getElem?_eq_some_iff.1 hg).1
 obtain⟨n,hn⟩:∃n,l.length=n+1:=⟨l.length-1,by omega⟩
 obtain⟨news,hnews⟩:∃news,news=pl (l.drop (i+1)):=⟨_,rfl⟩
 have hlen:news.length=(n-i)*2:=by rw[hnews,uo,List.length_drop];omega
 -- the store of the cells that go to the left
 obtain⟨arr1,hs1,hz1,hlo1,_,hmid1,hg1⟩:=zbw Tryz.prog w.drew b (off+i*2) news arr 58 hg (by rw[hlen];omega) (by rw[hnews];exact zaf _)
 obtain⟨A,hA,hsrc⟩:∃A:Addr,(if c=i+1 then some (⟨b,off,none⟩:Addr)else some ⟨b,off+(i+1)*2,none⟩)=some A∧∀t u,news[t]?=some u→w.drew.cell? (A.add t)=some u:=by
  by_cases h:c=i+1
  ·refine⟨⟨b,off,none⟩,by simp[h],fun t u hu=>?_⟩
   have h0:news.length=0:=by rw[hlen];omega
   rw[List.length_eq_zero_iff.1 h0]at hu
   simp at hu
  ·refine⟨⟨b,off+(i+1)*2,none⟩,by simp[h],fun t u hu=>?_⟩
   rw[hnews,znu,List.getElem?_drop]at hu
   rw[add_plain,World.cell?_drew,cell_of_row w b _ arr _ _ hg,Nat.add_assoc]
   exact hx _ _ hu
 obtain⟨W1,hW1⟩:∃W1,W1=w.drew.setRow b arr1:=⟨_,rfl⟩
 rw[←hW1]at hg1
 have s3:Hid (∀t,t<news.length→(w.drew.cell? ⟨b,off+i*2+t,none⟩).isSome=true∧w.drew.frozen? ⟨b,off+i*2+t,none⟩=false):=by
  intro t ht
  rw[hlen]at ht
  refine⟨?_,by show w.frozen? _=false;simp[World.frozen?,hg]⟩
  rw[World.cell?_drew,cell_of_row w b _ arr _ _ hg,Array.getElem?_eq_getElem (by omega)]
  rfl
 have hset:w.drew.setCells b (off+i*2) news=W1:=by
  rw[hW1]
  have e:=run_storeCells_cells (P:=Tryz.prog) b (off+i*2) news 0 w.drew (fun j hj=>by simpa using(s3.out j hj).1) (fun j hj=>by simpa using(s3.out j hj).2) (by rw[hnews];exact zaf _)
  simp only[Nat.add_zero]at e
  rw[hs1]at e
  exact((Result.ok.inj e).2).symm
 obtain⟨arr2,hs2,hz2,hlo2,hg2⟩:∃arr':Array Value,(∀ty,(Builtin.clear_ #[120] ty #[.slice (some ⟨b,off+n*2,none⟩) 1 (c-n)]).run Tryz.prog W1=.ok (.tuple #[]) (W1.setRow b arr'))∧arr'.size=arr1.size∧(∀j,j<off+n*2→arr'[j]?=arr1[j]?)∧(W1.setRow b arr').heap[b]?=some (.cells arr' 58 (0,0)):=by
  obtain⟨a',h1,h2,h3,h4⟩:=zjf W1 0 b (off+n*2) 1 (c-n) arr1 58 hg1 (by rw[hz1];omega)
  exact⟨a',fun ty=>h1,h2,h3,h4⟩
 have fin:Hid (PlAt (W1.setRow b arr2) (.slice (some ⟨b,off,none⟩) n c) (l.eraseIdx i)∧Touch [b] w (W1.setRow b arr2)):=by
  have hle:(l.eraseIdx i).length=n:=by rw[List.length_eraseIdx_of_lt hi];omega
  constructor
  ·show SlAt _ _ _ _ _ _
   rw[hle]
   refine⟨by rw[uo,hle],.inr ⟨b,off,c,arr2,rfl,hg2,by omega,hm,by rw[hz2,hz1];omega,fun j u hu=>?_⟩⟩
   have hj:=(List.getElem?_eq_some_iff.1 hu).1
   rw[uo,hle]at hj
   rw[hlo2 (off+j) (by omega)]
   rw[zed]at hu
   have htl:(pl (l.take i)).length=i*2:=by rw[uo,List.length_take];omega
   by_cases hji:j<i*2
   ·rw[List.getElem?_append_left (by rw[htl];exact hji),znt,List.getElem?_take_of_lt hji]at hu
    rw[hlo1 (off+j) (by omega)]
    exact hx j u hu
   ·rw[List.getElem?_append_right (by rw[htl];omega),htl,←hnews]at hu
    have:=hmid1 _ _ hu
    rw[show off+i*2+(j-i*2)=off+j by omega]at this
    exact this
  ·have t1:Touch [b] w W1:=by
    rw[hW1]
    exact⟨rfl,rfl,rfl,by simp,fun k hk hne=>setRow_other w.drew b k _ (fun e=>hne (by simp[e]))⟩
   exact t1.trans ⟨rfl,rfl,rfl,by simp,fun k hk hne=>setRow_other W1 b k _ (fun e=>hne (by simp[e]))⟩
 obtain⟨i0,hi0,hsz0⟩:∃i,Tryz.prog.info? 58=some i∧i.size=2:=by
  have h:(Tryz.prog.info? 58).map (·.size)=some 2:=by kernel_rfl
  obtain⟨i,hi,hb⟩:=Option.map_eq_some_iff.1 h
  exact⟨i,hi,hb⟩
 have s1:=Lib.hid hlen
 have s2:Hid (∀u∈news,u.oneCell'=true):=by rw[hnews];exact zaf _
 have hs:=Lib.hid hsrc
 have hWr:Hid (w.drew.setCells b (off+i*2) news=W1):=hset
 have hin:i≤n:=by omega
 have hic:i≤c:=by omega
 have hjc:i+1≤c:=by omega
 have h0i:(0:Int)≤i+1:=by omega
 have hnc':n+1≤c:=by omega
 have e2:c-n≠0:=by omega
 have en:n+1-n=1:=by omega
 rw[hn]
 clear h hx hg hlo1 hmid1 hg1 hs1 hz1 hW1 hz2 hlo2 hg2 hset hlen hsrc hnews hfit hnc hn hi e2
 go_enter Tryz.func187,Tryz.ntmps187
 go_wp2_with fail
 go_region_law (refine step_append_room rfl (.tmp 22) (.tmp 25) 120 rfl 58 i0 2 Tryz.underlying120 hi0 hsz0 b off i c (by simp[Act.eval,Act.put]) A (n-i) (c-(i+1)) news (by simp[Act.eval,Act.put]) s1.out hs.out s2.out (by omega) s3.out ?_;rw[hWr.out])
 go_wp2_with fail
 go_ret
 exact⟨_,rfl,fin.out.1,fin.out.2,rfl⟩
def orI(x y:Int):Int:=if x=0 then y else x
theorem zok(w:World)(b:Nat)(x y:Int)(hx:w.cell? ⟨b,0,none⟩=some (.int .i64 x))(hy:w.cell? ⟨b,1,none⟩=some (.int .i64 y)):
  Calls Tryz.prog 130 #[.slice (some ⟨b,0,none⟩) 2 2] w fun e w'=>e=.returned (.int .i64 (orI x y))∧w'=w:=by
 by_cases h0:x=0
 ·subst h0
  by_cases h1:y=0
  ·subst h1
   go_enter Tryz.func130,Tryz.ntmps130
   go_wp2_with fail
   refine wp_loop_rounds 3 ?_
   rw[rounds_succ]
   go_wp2_with fail
   rw[rounds_succ]
   go_wp2_with fail
   rw[rounds_succ]
   go_wp2_with fail
   go_ret
   exact⟨by simp[orI],rfl⟩
  ·go_enter Tryz.func130,Tryz.ntmps130
   go_wp2_with fail
   refine wp_loop_rounds 3 ?_
   rw[rounds_succ]
   go_wp2_with fail
   rw[rounds_succ]
   go_wp2_with fail
   go_ret
   exact⟨by simp[orI],rfl⟩
 ·go_enter Tryz.func130,Tryz.ntmps130
  go_wp2_with fail
  refine wp_loop_rounds 3 ?_
  rw[rounds_succ]
  go_wp2_with fail
  go_ret
  exact⟨by simp[orI,h0],rfl⟩
def cmpI(x y:Int):Int:=if x<y then -1 else if y<x then 1 else 0
theorem znd(x y:Int)(w:World):Calls Tryz.prog 131 #[.int .i64 x,.int .i64 y] w fun e w'=>e=.returned (.int .i64 (cmpI x y))∧w'=w:=by
 by_cases h1:x<y
 ·rw[show cmpI x y=-1 by simp[cmpI,h1]]
  go_enter Tryz.func131,Tryz.ntmps131
  go_wp2
  go_ret
  exact⟨rfl,rfl⟩
 ·by_cases h2:y<x
  ·rw[show cmpI x y=1 by simp[cmpI,h1,h2]]
   go_enter Tryz.func131,Tryz.ntmps131
   go_wp2
   go_ret
   exact⟨rfl,rfl⟩
  ·rw[show cmpI x y=0 by simp[cmpI,h1,h2]]
   go_enter Tryz.func131,Tryz.ntmps131
   go_wp2
   go_ret
   exact⟨rfl,rfl⟩
theorem ze6(W:World)(k:Nat)(hk:W.heap.size=k)(cs:Array Value)(T:TypeId)(j:Nat):(W.alloc (.cells cs T)).cell? ⟨k,j,none⟩=cs[j]?:=by
 subst hk
 exact World.cell?_alloc_mark W cs T (0,0) j
def cmpP(x y:Int×Int):Int:=orI (cmpI x.1 y.1) (cmpI x.2 y.2)
theorem zde(w:World)(x y:Int×Int):
  Calls Tryz.prog 73 #[.agg #[.int .i64 x.1,.int .i64 x.2],.agg #[.int .i64 y.1,.int .i64 y.2]] w fun e w'=>e=.returned (.int .i64 (cmpP x y))∧∃q os',w'=Sort.grow (w.drewN q) os':=by
 obtain⟨x1,x2⟩:=x
 obtain⟨y1,y2⟩:=y
 unfold cmpP
 simp only
 generalize hu:cmpI x1 y1=u
 generalize hv:cmpI x2 y2=v
 have c1:=Lib.hid (fun W=>znd x1 y1 W)
 have c2:=Lib.hid (fun W=>znd x2 y2 W)
 rw[hu]at c1
 rw[hv]at c2
 clear hu hv
 go_enter Tryz.func73,Tryz.ntmps73
 go_wp2_with fail
 obtain⟨W,hW⟩:∃W,W=((w.alloc (.cells #[.int .i64 x1,.int .i64 x2] 58)).alloc (.cells #[.int .i64 y1,.int .i64 y2] 58)).drew:=⟨_,rfl⟩
 have p0:W.cell? ⟨w.heap.size,0,none⟩=some (.int .i64 x1):=by rw[hW];go_simp
 have p1:W.cell? ⟨w.heap.size,1,none⟩=some (.int .i64 x2):=by rw[hW];go_simp
 have p2:W.cell? ⟨w.heap.size+1,0,none⟩=some (.int .i64 y1):=by rw[hW];go_simp
 have p3:W.cell? ⟨w.heap.size+1,1,none⟩=some (.int .i64 y2):=by rw[hW];go_simp
 have hs:Hid (W.heap.size=w.heap.size+2):=by rw[hW];show _=_;simp
 have hWH:=Lib.hid hW
 have hd:(((w.alloc (.cells #[.int .i64 x1,.int .i64 x2] 58)).alloc (.cells #[.int .i64 y1,.int .i64 y2] 58)).drew)=W:=hW.symm
 clear hW
 go_region_held (fun W'=>W'.cell? ⟨w.heap.size,0,none⟩=some (.int .i64 x1)∧W'.cell? ⟨w.heap.size,1,none⟩=some (.int .i64 x2)∧W'.cell? ⟨w.heap.size+1,0,none⟩=some (.int .i64 y1)∧W'.cell? ⟨w.heap.size+1,1,none⟩=some (.int .i64 y2)) (go_keep) (first
  | (go_at_call_of 131 x1;refine(c1.out _).mono ?_;rintro e w' ⟨rfl,rfl⟩)
  | (go_at_call_of 131 x2;refine(c2.out _).mono ?_;rintro e w' ⟨rfl,rfl⟩)
  | (go_at_call 130;refine(zok _ _ u v (ze6 _ _ rfl _ _ _) (ze6 _ _ rfl _ _ _)).mono ?_;rintro e w' ⟨rfl,rfl⟩))
 all_goals (go_wp2_with fail;go_ret;refine⟨rfl,1,#[.cells #[.int .i64 x1,.int .i64 x2] 58,.cells #[.int .i64 y1,.int .i64 y2] 58,.cells #[.int .i64 u,.int .i64 v] 3],?_⟩)
 all_goals (rw[hWH.out];simp only[Sort.alloc_eq_grow,Sort.grow_grow];rfl)
section
open Go Go.RowKit
variable {K:Int→Prop}
section
variable {κ ν:Type}[DecidableEq κ]
theorem Yb(l:List (κ×ν))(k:κ)(v:ν)(h:(l.map (·.1)).Nodup):((updL l k v).map (·.1)).Nodup∧∀q,q∈(updL l k v).map (·.1)↔q=k∨q∈l.map (·.1):=by
 induction l with
 | nil=>simp[updL]
 | cons x l ih=>
  rw[List.map_cons,List.nodup_cons]at h
  obtain⟨i1,i2⟩:=ih h.2
  simp only[updL]
  split
  ·rename_i e
   subst e
   refine⟨by rw[List.map_cons,List.nodup_cons];exact h,fun q=>by simp⟩
  ·rename_i e
   refine⟨?_,fun q=>?_⟩
   ·rw[List.map_cons,List.nodup_cons]
    refine⟨fun hm=>?_,i1⟩
    rcases(i2 x.1).1 hm with hm|hm
    ·exact e hm.symm
    ·exact h.1 hm
   ·rw[List.map_cons,List.mem_cons,i2,List.map_cons,List.mem_cons]
    constructor
    ·rintro(h|h|h)
     ·exact .inr (.inl h)
     ·exact .inl h
     ·exact .inr (.inr h)
    ·rintro(h|h|h)
     ·exact .inr (.inl h)
     ·exact .inl h
     ·exact .inr (.inr h)
theorem zfk(l:List (κ×ν))(k:κ):List.Sublist (delL l k) l:=by
 induction l with
 | nil=>exact List.Sublist.refl _
 | cons x l ih=>
  simp only[delL]
  split
  ·exact List.sublist_cons_self _ _
  ·exact ih.cons_cons x
theorem zco{l:List (κ×ν)}{k:κ}(h:k∉l.map (·.1)):getL l k=none:=by
 induction l with
 | nil=>rfl
 | cons x l ih=>
  simp only[List.map_cons,List.mem_cons,not_or]at h
  rw[getL,if_neg h.1,ih h.2]
theorem Yc{l:List (κ×ν)}{k:κ}(h:(l.map (·.1)).Nodup)(q:κ):getL (delL l k) q=if q=k then none else getL l q:=by
 induction l with
 | nil=>simp[delL,getL]
 | cons x l ih=>
  rw[List.map_cons,List.nodup_cons]at h
  simp only[delL]
  split
  ·rename_i e
   subst e
   by_cases hq:q=x.1
   ·subst hq
    rw[if_pos rfl,zco h.1]
   ·rw[if_neg hq,getL,if_neg hq]
  ·rename_i e
   simp only[getL,ih h.2]
   by_cases hq:q=x.1
   ·subst hq
    simp[Ne.symm e]
   ·simp[hq]
end
def idV(v:Value):Value:=v
def Zb(V:List (Int×Value))(f:Int):Value:=(getL V f).getD (.slice none 0 0)
def updF(L:Int→List (Int×Int))(f:Int)(l:List (Int×Int)):Int→List (Int×Int):=fun g=>if g=f then l else L g
structure u7(K:Int→Prop)(w:World)(p m:Nat)(S:List Nat)(V:List (Int×Value))(L:Int→List (Int×Int)):Prop where
 c0:w.cell? ⟨p,0,none⟩=some (.map (some m))
 map:MapAt w m vz idV V
 at_:∀f,PlAt w (Zb V f) (L f)
 own:∀f b,(Zb V f).ownBlock=some b→b∈S∧b≠p∧b≠m
 inj:∀f g b,(Zb V f).ownBlock=some b→(Zb V g).ownBlock=some b→f=g
 pin:p∈S
 min:m∈S
 nd:(V.map (·.1)).Nodup
 keys:∀x∈V,K x.1
theorem u7.ps{w:World}{p m:Nat}{S:List Nat}{V:List (Int×Value)}{L:Int→List (Int×Int)}(h:u7 K w p m S V L):p<w.heap.size∧m<w.heap.size∧p≠m:=by
 refine⟨World.block_lt_of_cell? w _ h.c0,h.map.lt,fun e=>?_⟩
 obtain⟨es,c,hb,_⟩:=h.map
 have h0:=h.c0
 subst e
 simp[World.cell?,hb]at h0
theorem u7.touch{w w':World}{p m:Nat}{S S0:List Nat}{V:List (Int×Value)}{L:Int→List (Int×Int)}(h:u7 K w p m S V L)(t:Touch S0 w w')(hn:∀b∈S,b∉S0):u7 K w' p m S V L:=
 ⟨t.cell h.c0 (hn p h.pin),h.map.keep (t.block m h.ps.2.1 (hn m h.min)),fun f=>(h.at_ f).touch t fun b hb=>hn b (h.own f b hb).1,h.own,h.inj,h.pin,h.min,h.nd,h.keys⟩
theorem u7.below{w w':World}{p m:Nat}{S:List Nat}{V:List (Int×Value)}{L:Int→List (Int×Int)}(h:u7 K w p m S V L)(hb:Below w.heap.size w w'):u7 K w' p m S V L:=
 h.touch (Touch.of_below (S:=[]) hb) (by simp)
theorem u7.set{w w':World}{p m:Nat}{S:List Nat}{V V':List (Int×Value)}{L:Int→List (Int×Int)}(h:u7 K w p m S V L){f:Int}{v':Value}{l':List (Int×Int)}
  (hV:∀g,Zb V' g=if g=f then v' else Zb V g) (hnd:(V'.map (·.1)).Nodup) (hkeys:∀x∈V',K x.1) (hM:MapAt w' m vz idV V') (hl:PlAt w' v' l')
  (hown:∀b,v'.ownBlock=some b→(Zb V f).ownBlock=some b∨w.heap.size≤b)
  (hrest:∀j,j<w.heap.size→j≠m→(Zb V f).ownBlock≠some j→w'.heap[j]?=w.heap[j]?) (ho:w'.os=w.os) (ht:w'.tape=w.tape) (hout:w'.output=w.output) (hs:w.heap.size≤w'.heap.size):
  ∃S',u7 K w' p m S' V' (updF L f l')∧Touch S w w'∧∀b∈S',b∈S∨w.heap.size≤b:=by
 obtain⟨hp,hm,hpm⟩:=h.ps
 have hlt:∀g b,(Zb V g).ownBlock=some b→b<w.heap.size:=fun g b hb=>SlAt.lt (h.at_ g) b hb
 obtain⟨S',hS',_⟩:∃S':List Nat,(∀b,b∈S'↔b∈S∨v'.ownBlock=some b)∧True:=by
  cases e:v'.ownBlock with
  | none=>exact⟨S,by simp,trivial⟩
  | some b=>exact⟨b::S,by intro c;simp[eq_comm,or_comm],trivial⟩
 refine⟨S',⟨?_,hM,fun g=>?_,fun g b hb=>?_,fun g g' b hb hb'=>?_,(hS' p).2 (.inl h.pin),(hS' m).2 (.inl h.min),hnd,hkeys⟩,⟨ho,ht,hout,hs,fun j hj hn=>hrest j hj (fun e=>hn (e▸h.min)) (fun e=>hn (h.own f j e).1)⟩,fun b hb=>?_⟩
 ·exact(World.cell?_of_block (w:=w) (hrest p hp hpm (fun e=>(h.own f p e).2.1 rfl))).trans h.c0
 ·rw[hV]
  unfold updF
  split
  ·exact hl
  ·rename_i e
   exact(h.at_ g).keep fun b hb=>hrest b (hlt g b hb) (h.own g b hb).2.2 (fun e'=>e (h.inj g f b hb e'))
 ·rw[hV]at hb
  split at hb
  ·refine⟨(hS' b).2 (.inr hb),?_⟩
   rcases hown b hb with e|e
   ·exact(h.own f b e).2
   ·omega
  ·exact⟨(hS' b).2 (.inl (h.own g b hb).1),(h.own g b hb).2⟩
 ·have key:∀g b,g≠f→(Zb V g).ownBlock=some b→v'.ownBlock=some b→False:=fun g b hg hb hb'=>by
   rcases hown b hb' with e|e
   ·exact hg (h.inj g f b hb e)
   ·have:=hlt g b hb;omega
  rw[hV]at hb hb'
  split at hb
  ·rename_i e
   split at hb'
   ·rename_i e'
    rw[e,e']
   ·rename_i e'
    exact(key g' b e' hb' hb).elim
  ·rename_i e
   split at hb'
   ·exact(key g b e hb hb').elim
   ·exact h.inj g g' b hb hb'
 ·rcases(hS' b).1 hb with hb|hb
  ·exact .inl hb
  ·rcases hown b hb with e|e
   ·exact .inl (h.own f b e).1
   ·exact .inr e
theorem Xc(V:List (Int×Value))(f:Int)(v:Value)(g:Int):Zb (updL V f v) g=if g=f then v else Zb V g:=by
 unfold Zb
 rw[y8]
 split<;>rfl
theorem zhe{V:List (Int×Value)}(h:(V.map (·.1)).Nodup)(f:Int)(g:Int):Zb (delL V f) g=if g=f then .slice none 0 0 else Zb V g:=by
 unfold Zb
 rw[Yc h]
 split<;>rfl
theorem ze8{V:List (Int×Value)}(h:∀x∈V,K x.1)(hn:(V.map (·.1)).Nodup)(f:Int)(v:Value)(hf:K f):∀x∈updL V f v,K x.1:=by
 intro x hx
 rcases((Yb V f v hn).2 x.1).1 (List.mem_map_of_mem hx)with e|e
 ·rw[e];exact hf
 ·obtain⟨y,hy,e⟩:=List.mem_map.1 e
  rw[←e];exact h y hy
theorem zkz{V:List (Int×Value)}(h:∀x∈V,K x.1)(f:Int):∀x∈delL V f,K x.1:=fun x hx=>h x ((zfk V f).subset hx)
theorem nd_del{V:List (Int×Value)}(h:(V.map (·.1)).Nodup)(f:Int):((delL V f).map (·.1)).Nodup:=h.sublist ((zfk V f).map _)
theorem zeroSl(w:World):(zeroValue 120).run Tryz.prog w=.ok (.slice none 0 0) w:=by kernel_rfl
theorem u7.look{w:World}{p m:Nat}{S:List Nat}{V:List (Int×Value)}{L:Int→List (Int×Int)}(h:u7 K w p m S V L)(f:Int):
  (Instr.lookup 212 (.map (some m)) (.int .i64 f) false).run Tryz.prog w=.ok (Zb V f) w:=by
 have:=jw (T:=212) Ur Tryz.underlying212 (.slice none 0 0) zeroSl h.map f false
 refine this.trans ?_
 unfold Zb
 cases getL V f<;>rfl
theorem zm0(w:World):Calls Tryz.prog 115 #[] w fun e w'=>∃p m,e=.returned (.pointer (some ⟨p,0,none⟩))∧u7 K w' p m [p,m] [] (fun _=>[])∧w.heap.size≤p∧w.heap.size≤m∧Below w.heap.size w w':=by
 have hmm:=@run_makeMap Tryz.prog
 go_enter Tryz.func115,Tryz.ntmps115
 go_wp2_with fail
 go_ret
 have m1:=MapAt.made (κ:=Int) (ν:=Value) w vz idV
 have b3:=(Below.refl (w.alloc (.map #[] 0)).heap.size _).alloc (Nat.le_refl _) (.cells #[.map (some w.heap.size)] 214)
 have hb:=heap_alloc_new (w.alloc (.map #[] 0)) (.cells #[.map (some w.heap.size)] 214)
 rw[World.size_alloc]at hb
 refine⟨w.heap.size+1,w.heap.size,rfl,⟨?_,m1.below b3,fun f=>PlAt.nil _,fun f b hb=>?_,fun f g b hb=>?_,by simp,by simp,by simp,by simp⟩,by omega,by omega,((Below.refl _ _).alloc (Nat.le_refl _) _).alloc (by simp) _⟩
 ·rw[cell_of_row _ _ 0 _ _ _ hb];rfl
 ·simp[Zb,getL,Value.ownBlock]at hb
 ·simp[Zb,getL,Value.ownBlock]at hb
end
section
variable {κ ν:Type}[DecidableEq κ]
theorem zks{l:List (κ×ν)}{k:κ}{v:ν}:∀y∈updL l k v,y=(k,v)∨y∈l:=by
 induction l with
 | nil=>intro y hy;simp[updL]at hy;exact .inl hy
 | cons x l ih=>
  intro y hy
  simp only[updL]at hy
  split at hy
  ·rcases List.mem_cons.1 hy with e|e
   ·exact .inl e
   ·exact .inr (List.mem_cons_of_mem _ e)
  ·rcases List.mem_cons.1 hy with e|e
   ·exact .inr (by rw[e];exact List.mem_cons_self ..)
   ·rcases ih y e with e|e
    ·exact .inl e
    ·exact .inr (List.mem_cons_of_mem _ e)
end
section
variable {O:Nat→Prop}{p sb off c mb:Nat}{V:Nat→Value}{L:List (Int×Value)}{D:zx}
theorem zbj.lt{w:World}{O:Nat→Prop}{v:Value}{l:List UInt8}(h:zbj w O v l):∃b,v.ownBlock=some b∧b<w.heap.size∧O b:=by
 obtain⟨_,h2,b,o,c,rfl,h4⟩:=h
 exact⟨b,rfl,SlAt.lt h2 b rfl,h4⟩
end
theorem Jt{P:Program}{ops:Array Oper}{o:Oper}{a:Act}{w:World}{K:Act→World→Prop}{Q:Exit→Act→World→Prop}{E:Prop}
  (hg:o.guard=none) (s x:Operand) (t:TypeId) (hop:o.op=Op.call {callee:=Callee.builtin Builtin.append,args:=#[s,x],argTypes:=#[t,t]})
  (v sv v':Value) (w':World) (hs:a.eval s=v) (hx:a.eval x=sv) (hr:(Builtin.append_ #[t,t] o.type #[v,sv]).run P w=.ok v' w')
  (hK:K (a.put o.dst v') w'):if Region.wanted o (yielded ops a.tmps)=true then Oper.wp P o a w K Q else E:=by
 have hw:Region.wanted o (yielded ops a.tmps)=true:=by simp[Region.wanted,hg]
 rw[if_pos hw]
 unfold Oper.wp
 simp[execOp,hop,resolve,invoke,builtin,hs,hx,hr,Result.andThen]
 exact hK
theorem zin:∃i,Tryz.prog.info? 22=some i∧i.zero=some (.slice none 0 0)∧i.size=1∧i.bytes=24:=by
 have h:(Tryz.prog.info? 22).map (fun i=>(i.zero,i.size,i.bytes))=some (some (.slice none 0 0),1,24):=by kernel_rfl
 obtain⟨i,hi,hb⟩:=Option.map_eq_some_iff.1 h
 simp at hb
 exact⟨i,hi,hb⟩
def zx.none:zx:=⟨fun _=>List.replicate 64 0,fun _=>.none,0,0,-1,false⟩
theorem zx.zh8:zx.none.Calm:=⟨rfl,rfl,rfl,rfl⟩
structure NewD(w0 W:World)(k:Nat)(sv:Value)(V:Nat→Value):Prop where
 below:Below w0.heap.size w0 W
 size:w0.heap.size+2≤W.heap.size
 row:Row W (w0.heap.size+1) 6 (Zi sv (.map (some w0.heap.size)) zx.none)
 map:MapAt W w0.heap.size vz id ([]:List (Int×Value))
 sl:SlAt W 22 1 sv k ((List.range k).map V)
 svb:∀b,sv.ownBlock=some b→w0.heap.size+2≤b
 sec:∀j,j<k→zbj W (fun b=>w0.heap.size+2≤b) (V j) (List.replicate 64 0)∧(V j).ownBlock≠sv.ownBlock
 own3:∀i j,i<k→j<k→i≠j→(V i).ownBlock≠(V j).ownBlock
theorem NewD.step{w0 W W1 w3:World}{k:Nat}{sv v':Value}{V:Nat→Value}(h:NewD w0 W k sv V)(T2:TypeId)(Z:Array Value)(hZ:Z.size=64∧∀i,i<64→Z[i]?=some (.int .u8 0))
  (e1:W1=(W.drew.alloc (.cells Z 5)).alloc (.cells #[.slice (some ⟨W.heap.size,0,none⟩) 64 64] T2)) (hs:SlAt w3 22 1 v' (k+1) ((List.range k).map V++[.slice (some ⟨W.heap.size,0,none⟩) 64 64]))
  (hg:W1.grownBy w3 sv.ownBlock) (ho:v'.ownBlock=sv.ownBlock∨v'.ownBlock=some W1.heap.size):
  NewD w0 (w3.setCell ⟨w0.heap.size+1,0,none⟩ v') (k+1) v' (fun j=>if j=k then .slice (some ⟨W.heap.size,0,none⟩) 64 64 else V j):=by
 have hb1:Below W.heap.size W W1:=by rw[e1];exact(((Below.refl _ _).drew).alloc (Nat.le_refl _) _).alloc (by show W.heap.size≤(W.drew.alloc _).heap.size;simp) _
 have hz1:W1.heap.size=W.heap.size+2:=by rw[e1];simp
 have hsz:=h.size
 have hcell:∀b,b<W.heap.size→sv.ownBlock≠some b→b≠w0.heap.size+1→(w3.setCell ⟨w0.heap.size+1,0,none⟩ v').heap[b]?=W.heap[b]?:=fun b hb hne hnp=>
  (Below.heap_setCell w3 ⟨w0.heap.size+1,0,none⟩ v' b hnp).trans ((hg.block b (by omega) (Ne.symm hne)).trans (hb1.block b hb))
 have svn:∀b,b<w0.heap.size+2→sv.ownBlock≠some b:=fun b hb e=>by have:=h.svb b e;omega
 have hz3:(w3.setCell ⟨w0.heap.size+1,0,none⟩ v').heap.size=w3.heap.size:=by simp[World.setCell]
 have hg3:=hg.size
 have nb:W1.heap[W.heap.size]?=some (.cells Z 5 (0,0)):=by
  rw[e1]
  have e2:(W.drew.alloc (.cells Z 5)).heap[W.heap.size]?=some (.cells Z 5 (0,0)):=heap_alloc_new W.drew _
  rw[Below.heap_alloc _ _ _ (by show W.heap.size<(W.drew.alloc _).heap.size;simp)]
  exact e2
 have svlt:∀b,sv.ownBlock=some b→b<W.heap.size:=fun b hb=>SlAt.lt h.sl b hb
 have nb3:(w3.setCell ⟨w0.heap.size+1,0,none⟩ v').heap[W.heap.size]?=some (.cells Z 5 (0,0)):=by
  rw[Below.heap_setCell w3 ⟨w0.heap.size+1,0,none⟩ v' W.heap.size (by show W.heap.size≠w0.heap.size+1;omega),hg.block W.heap.size (by omega) (fun e=>by have:=svlt _ e.symm;omega)]
  exact nb
 have vnew:∀b,v'.ownBlock=some b→w0.heap.size+2≤b:=fun b hb=>by
  rcases ho with e|e
  ·exact h.svb b (by rw[←e,hb])
  ·rw[hb]at e;simp at e;omega
 refine⟨⟨hg.os.trans (hb1.os.trans h.below.os),hg.tape.trans (hb1.tape.trans h.below.tape),hg.output.trans (hb1.output.trans h.below.output),by have:=h.below.size;omega,fun b hb=>?_⟩,by omega,?_,?_,?_,vnew,?_,?_⟩
 ·exact(hcell b (by omega) (svn b (by omega)) (by omega)).trans (h.below.block b hb)
 ·have hr:Row w3 (w0.heap.size+1) 6 (Zi sv (.map (some w0.heap.size)) zx.none):=h.row.keep ((hg.block _ (by omega) (Ne.symm (svn _ (by omega)))).trans (hb1.block _ (by omega)))
  refine(hr.set (i:=0) (by omega) v').congr fun i hi=>?_
  rcases(by omega:i=0∨i=1∨i=2∨i=3∨i=4∨i=5)with rfl|rfl|rfl|rfl|rfl|rfl<;>rfl
 ·exact h.map.keep (hcell _ (by omega) (svn _ (by omega)) (by omega))
 ·have e:(List.range (k+1)).map (fun j=>if j=k then Value.slice (some ⟨W.heap.size,0,none⟩) 64 64 else V j)=(List.range k).map V++[.slice (some ⟨W.heap.size,0,none⟩) 64 64]:=by
   rw[List.range_succ,List.map_append]
   congr 1
   ·refine List.map_congr_left fun j hj=>?_
    rw[if_neg (by have:=List.mem_range.1 hj;omega)]
   ·simp
  rw[e]
  exact hs.keep fun b hb=>Below.heap_setCell w3 ⟨w0.heap.size+1,0,none⟩ v' b (by have:=vnew b hb;show b≠w0.heap.size+1;omega)
 ·intro j hj
  by_cases ej:j=k
  ·rw[if_pos ej]
   refine⟨⟨by simp,⟨by simp[bV],.inr ⟨W.heap.size,0,64,Z,by simp,nb3,by simp,by unfold maxLen;omega,by rw[hZ.1];omega,fun i u hu=>?_⟩⟩,W.heap.size,0,64,rfl,by omega⟩,?_⟩
   ·have hi:i<64:=by have:=(List.getElem?_eq_some_iff.1 hu).1;simpa using this
    rw[Nat.zero_add,hZ.2 i hi]
    rw[List.getElem?_map,List.getElem?_replicate,if_pos hi]at hu
    simpa[bV]using hu
   ·rcases ho with e|e
    ·rw[e]
     intro e2
     have:=svlt W.heap.size e2.symm
     omega
    ·rw[e];simp[Value.ownBlock];omega
  ·rw[if_neg ej]
   obtain⟨s1,s2⟩:=h.sec j (by omega)
   refine⟨s1.keep fun b hb hl hO=>⟨hO,hcell b hl (fun e=>s2 (by rw[hb,e])) (by have:w0.heap.size+2≤b:=hO;omega)⟩,?_⟩
   obtain⟨b,hb,hbl,_⟩:=s1.lt
   rcases ho with e|e
   ·rw[e];exact s2
   ·rw[e,hb];simp;omega
 ·intro i j hi hj hne
  have lt:∀j,j<k→(V j).ownBlock≠some W.heap.size:=fun j hj e=>by
   obtain⟨b,hb,hbl,_⟩:=(h.sec j hj).1.lt
   rw[hb]at e
   simp at e
   omega
  by_cases ei:i=k
  ·rw[if_pos ei,if_neg (by omega)]
   exact Ne.symm (lt j (by omega))
  ·rw[if_neg ei]
   by_cases ej:j=k
   ·rw[if_pos ej]
    exact lt i (by omega)
   ·rw[if_neg ej]
    exact h.own3 i j (by omega) (by omega) hne
theorem NewD.end_{w0 W:World}{sv:Value}{V:Nat→Value}(h:NewD w0 W 192 sv V):Xw W (fun b=>w0.heap.size≤b) (w0.heap.size+1) zx.none:=by
 obtain⟨sb,off,c,rfl,h1,h2,h3⟩:=h.sl.cells (by simp)
 obtain⟨_,_,e,_,hm⟩:=h.sl.form
 cases e
 have hsv:=h.svb sb rfl
 refine⟨sb,off,c,w0.heap.size,V,[],{op:=by show _≤_;omega,os:=by show _≤_;omega,om:=Nat.le_refl _,ps:=by omega,row:=h.row,cap:=⟨h1,hm⟩,cells:=fun j hj=>h3 j (V j) (by simp[hj]),sure:=fun j hj=>(h.sec j hj).1.keep fun b _ _ hO=>⟨by have:w0.heap.size+2≤b:=hO;show _≤_;omega,rfl⟩,map:=h.map,keys:=fun x hx=>by simp at hx,nd:=by simp,loose:=fun j hj=>rfl,own1:=fun j hj=>⟨?_,(h.sec j hj).2⟩,own2:=fun x hx=>by simp at hx,own3:=h.own3,own4:=by simp,n1:=by decide,n2:=by decide,n3:=by decide}⟩
 obtain⟨b,hb,_,hO⟩:=(h.sec j hj).1.lt
 rw[hb]
 have:w0.heap.size+2≤b:=hO
 simp
 omega
theorem zft(w:World):Calls Tryz.prog 54 #[.int .i64 192] w fun e w'=>e=.returned (.pointer (some ⟨w.heap.size+1,0,none⟩))∧Xw w' (fun b=>w.heap.size≤b) (w.heap.size+1) zx.none∧Below w.heap.size w w':=by
 obtain⟨Z,hZ⟩:∃Z,madeCells #[.int .u8 0] 64=Z:=⟨_,rfl⟩
 have mk:∀w,(Instr.makeSlice 22 (.int .i64 64) (.int .i64 64)).run Tryz.prog w=.ok (.slice (some ⟨w.heap.size,0,none⟩) 64 64) (w.alloc (.cells Z 5)):=fun w=>by
  have:=zdz 64 (by omega) w
  rw[hZ]at this
  exact this
 have HZ:Hid (Z.size=64∧∀i,i<64→Z[i]?=some (.int .u8 0)):=by
  subst hZ
  exact⟨size_madeCells _ _,fun i hi=>zdi _ _ hi⟩
 clear hZ
 have hmm:=@run_makeMap Tryz.prog
 go_enter Tryz.func54,Tryz.ntmps54
 go_wp2_with fail
 clear hmm
 have N0:Hid (NewD w ((w.alloc (.map #[] 0)).alloc (.cells #[.slice none 0 0,.map (some w.heap.size),.int .i64 0,.int .i64 0,.int .i64 (-1),.bool false] 157)) 0 (.slice none 0 0) (fun _=>undef)):=by
  have hb:=((Below.refl w.heap.size w).alloc (Nat.le_refl _) (.map #[] 0)).alloc (by simp) (.cells #[.slice none 0 0,.map (some w.heap.size),.int .i64 0,.int .i64 0,.int .i64 (-1),.bool false] 157 (0,0))
  refine⟨hb,by simp,?_,?_,SlAt.nil _ _ _,fun b hb=>by simp[Value.ownBlock]at hb,fun j hj=>by omega,fun i j hi=>by omega⟩
  ·have:=Row.new (w.alloc (.map #[] 0)) 6 (Zi (.slice none 0 0) (.map (some w.heap.size)) zx.none) #[.slice none 0 0,.map (some w.heap.size),.int .i64 0,.int .i64 0,.int .i64 (-1),.bool false] 157 rfl fun i hi=>by
    rcases(by omega:i=0∨i=1∨i=2∨i=3∨i=4∨i=5)with rfl|rfl|rfl|rfl|rfl|rfl<;>rfl
   rw[World.size_alloc]at this
   exact this
  ·exact(MapAt.made w _ _).below ((Below.refl _ _).alloc (Nat.le_refl _) _)
 go_loopw [10] (fun i W=>∃k:Nat,k≤192∧i=.int .i64 k∧∃sv V,NewD w W k sv V) (fun i _=>192-(intOf i).toNat)
 case atStart=>exact⟨0,by omega,rfl,_,_,N0.out⟩
 case round=>
  obtain⟨k,hk,rfl,sv,V,hN⟩:=hrel
  by_cases hlt:k<192
  ·have i1:(k:Int)<192:=by omega
   have c0:=hN.row.cell (i:=0) (by omega)
   have z0:=hN.row.frozen 0
   dsimp only[Zi]at c0
   obtain⟨W1,hW1⟩:∃W1,W1=(wr.drew.alloc (.cells Z 5)).alloc (.cells #[.slice (some ⟨wr.heap.size,0,none⟩) 64 64] 22):=⟨_,rfl⟩
   have hb1:Below wr.heap.size wr W1:=by rw[hW1];exact(((Below.refl _ _).drew).alloc (Nat.le_refl _) _).alloc (by show wr.heap.size≤(wr.drew.alloc _).heap.size;simp) _
   obtain⟨i0,hi0,hz0,hs0,hy0⟩:=zin
   obtain⟨v',w3,hr,hsl,hgr,hown⟩:=jd (P:=Tryz.prog) W1 154 154 22 i0 _ 1 24 Tryz.underlying154 hi0 hz0 hs0 hy0 rfl sv k _ (hN.sl.below hb1) ⟨wr.heap.size+1,0,none⟩ 1 1 [.slice (some ⟨wr.heap.size,0,none⟩) 64 64] rfl (by
    rw[hW1]
    intro j u hu
    have:=Xu (wr.drew.alloc (.cells Z 5)) 22 [.slice (some ⟨wr.heap.size,0,none⟩) 64 64] j u hu
    rw[World.size_alloc]at this
    exact this) (by simp[Value.oneCell']) (by simp only[maxLen];omega) (by omega)
   have NS:=Lib.hid (hN.step 22 Z HZ.out hW1 hsl hgr hown)
   obtain⟨a',c',rfl,_,_⟩:=SlAt.form hsl
   have svn:sv.ownBlock≠some (w.heap.size+1):=fun e=>by have:=hN.svb _ e;omega
   have hpl:=hN.size
   have c3:w3.cell? ⟨w.heap.size+1,0,none⟩=some sv:=(World.cell?_of_block (w:=wr) ((hgr.block (w.heap.size+1) (by have:=hb1.size;omega) (Ne.symm svn)).trans (hb1.block _ (by omega)))).trans c0
   have z3:w3.frozen? ⟨w.heap.size+1,0,none⟩=false:=(Y0 (w:=wr) (a:=⟨w.heap.size+1,0,none⟩) ((hgr.block (w.heap.size+1) (by have:=hb1.size;omega) (Ne.symm svn)).trans (hb1.block _ (by omega)))).trans z0
   rw[hW1]at hr
   have c0a:∀o,(wr.alloc o).cell? ⟨w.heap.size+1,0,none⟩=some sv:=fun o=>(((Below.refl wr.heap.size wr).alloc (Nat.le_refl _) o).cell (by show w.heap.size+1<_;omega)).trans c0
   have c0b:∀o o',((wr.alloc o).alloc o').cell? ⟨w.heap.size+1,0,none⟩=some sv:=fun o o'=>((((Below.refl wr.heap.size wr).alloc (Nat.le_refl _) o).alloc (by simp) o').cell (by show w.heap.size+1<_;omega)).trans c0
   have HR:=Lib.hid hr
   have HN:=Lib.hid hN
   clear hr hN hpl hsl hgr hown hW1 hb1 svn
   go_wp2_with fail
   go_region_law (refine Jt rfl (.tmp 16) (.tmp 18) 154 rfl sv _ _ w3 (by simp[Act.eval]) (by simp[Act.eval]) HR.out ?_)
   all_goals (go_wp2_with fail;go_roundw)
   all_goals first
    | exact⟨k+1,by omega,by go_num,_,_,NS.out⟩
    | (simp[intOf];omega)
  ·obtain rfl:k=192:=by omega
   have HN:=Lib.hid hN
   clear hN
   go_wp2_with fail
   go_ret
   exact⟨rfl,HN.out.end_,HN.out.below⟩
section
variable {O:Nat→Prop}{p sb off c mb:Nat}{V:Nat→Value}{L:List (Int×Value)}{D:zx}
theorem zh1(w:World)(f n:Nat)(fi ni:Int)(ef:fi=f)(en:ni=n)(hf:f<4)(hn:n<16):Calls Tryz.prog 192 #[.int .i64 fi,.int .i64 ni] w fun e w'=>e=.returned (.int .i64 ((96+(16*f+n):Nat):Int))∧w'=w:=by
 subst ef;subst en
 have i1:(0:Int)≤f:=by omega
 have i2:(f:Int)<4:=by omega
 have i3:(0:Int)≤n:=by omega
 have i4:(n:Int)<16:=by omega
 have w1:IntKind.i64.wrap ((f:Int)*16)=f*16:=by simp[IntKind.wrap,IntKind.bits,IntKind.signed];omega
 have w2:IntKind.i64.wrap (96+(f:Int)*16)=96+f*16:=by simp[IntKind.wrap,IntKind.bits,IntKind.signed];omega
 have w3:IntKind.i64.wrap (96+(f:Int)*16+n)=96+f*16+n:=by simp[IntKind.wrap,IntKind.bits,IntKind.signed];omega
 go_enter Tryz.func192,Tryz.ntmps192
 go_wp2_with fail
 go_ret
 refine⟨?_,rfl⟩
 show Ending.returned (.int .i64 (96+(f:Int)*16+n))=_
 congr 2
 omega
theorem zhc(w:World)(n:Nat)(ni:Int)(en:ni=n)(hn:n<32):Calls Tryz.prog 132 #[.int .i64 ni] w fun e w'=>e=.returned (.int .i64 ((160+n:Nat):Int))∧w'=w:=by
 subst en
 have i3:(0:Int)≤n:=by omega
 have i4:(n:Int)<32:=by omega
 have w1:IntKind.i64.wrap (160+(n:Int))=160+n:=by simp[IntKind.wrap,IntKind.bits,IntKind.signed];omega
 go_enter Tryz.func132,Tryz.ntmps132
 go_wp2_with fail
 go_ret
 refine⟨?_,rfl⟩
 congr 2
theorem zgv(w:World)(h:uy w O p sb off c mb V L D)(f n:Nat)(fi ni:Int)(ef:fi=f)(en:ni=n)(hf:f<4)(hn:n<16):
  Calls Tryz.prog 252 #[.pointer (some ⟨p,0,none⟩),.int .i64 fi,.int .i64 ni] w fun e w'=>∃v,e=.returned (za4 D.work.2 v)∧uy w' O p sb off c mb V L D.work.1∧Turn O w w'∧(D.work.2=0→ByAt w' v (D.cur (96+(16*f+n)))∧∀b,v.ownBlock=some b→w.heap.size≤b):=by
 have P:=Lib.hid (zh1 w f n fi ni ef en hf hn)
 have R:=Lib.hid (zc8 w h ((96+(16*f+n):Nat):Int) (96+(16*f+n)) rfl (by omega))
 clear h ef en
 generalize ((96+(16*f+n):Nat):Int)=q at P R
 generalize D.cur (96+(16*f+n))=l at R⊢
 generalize D.work.2=r at R⊢
 go_enter Tryz.func252,Tryz.ntmps252
 go_wp2_with fail
 refine P.out.mono ?_
 rintro e u ⟨rfl,hu⟩
 have hu:=hu.symm
 subst hu
 go_wp2_with fail
 refine R.out.mono ?_
 rintro e w1 ⟨v,rfl,h1⟩
 have H1:=Lib.hid h1
 obtain⟨x,hx⟩:∃x,(if r=0 then v else Value.slice none 0 0)=x:=⟨_,rfl⟩
 have hv:za4 r v=.tuple #[x,.int .i64 r]:=by unfold za4;rw[hx]
 have HV:=Lib.hid hv
 rw[hv]
 clear h1 hx hv
 go_wp2_with fail
 exact bodyPost_ret (v:=.tuple #[x,.int .i64 r]) (by simp[results,Tryz.results252,go_sem]) rfl ⟨v,by rw[HV.out],H1.out⟩
theorem zgr(w:World)(h:uy w O p sb off c mb V L D)(n:Nat)(ni:Int)(en:ni=n)(hn:n<32):
  Calls Tryz.prog 234 #[.pointer (some ⟨p,0,none⟩),.int .i64 ni] w fun e w'=>∃v,e=.returned (za4 D.work.2 v)∧uy w' O p sb off c mb V L D.work.1∧Turn O w w'∧(D.work.2=0→ByAt w' v (D.cur (160+n))∧∀b,v.ownBlock=some b→w.heap.size≤b):=by
 have P:=Lib.hid (zhc w n ni en hn)
 have R:=Lib.hid (zc8 w h ((160+n:Nat):Int) (160+n) rfl (by omega))
 clear h en
 generalize ((160+n:Nat):Int)=q at P R
 generalize D.cur (160+n)=l at R⊢
 generalize D.work.2=r at R⊢
 go_enter Tryz.func234,Tryz.ntmps234
 go_wp2_with fail
 refine P.out.mono ?_
 rintro e u ⟨rfl,hu⟩
 have hu:=hu.symm
 subst hu
 go_wp2_with fail
 refine R.out.mono ?_
 rintro e w1 ⟨v,rfl,h1⟩
 have H1:=Lib.hid h1
 obtain⟨x,hx⟩:∃x,(if r=0 then v else Value.slice none 0 0)=x:=⟨_,rfl⟩
 have hv:za4 r v=.tuple #[x,.int .i64 r]:=by unfold za4;rw[hx]
 have HV:=Lib.hid hv
 rw[hv]
 clear h1 hx hv
 go_wp2_with fail
 exact bodyPost_ret (v:=.tuple #[x,.int .i64 r]) (by simp[results,Tryz.results234,go_sem]) rfl ⟨v,by rw[HV.out],H1.out⟩
end
end Go.Proofs.YtnhdmnijiphjjaaGreat
