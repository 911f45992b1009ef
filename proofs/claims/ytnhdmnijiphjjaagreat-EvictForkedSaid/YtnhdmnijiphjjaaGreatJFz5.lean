/- The cache's types: its keys as map keys. -/
import Derived.Test.YtnhdmnijiphjjaaGreatJFz4
import Derived.Test.YtnhdmnijiphjjaaGreatJFz1
import Derived.Deep.RegionHeld
import Derived.Test.YtnhdmnijiphjjaaGreatJFz0
import Derived.Test.YtnhdmnijiphjjaaGreatProg
import Derived.KernelRfl
import Derived.Deep.RegionWith
import Derived.Sort.Grow
import Derived.Deep.RegionLaw
set_option linter.unusedVariables false
set_option linter.unusedSimpArgs false
set_option maxRecDepth 100000
set_option maxHeartbeats 2000000
namespace Go.Proofs.YtnhdmnijiphjjaaGreat
open Go Go.RowKit
set_option maxHeartbeats 400000 in
theorem zn0:zbt Tryz.prog 133 where
 eq x y w:=by
  have u3:=Tryz.underlying3
  have a3:=Tryz.isAgg3
  have z3:=Tryz.sizeOf3
  have hS:Tryz.prog.underlying 133=some (.struct (Tryz.prog.fieldsOf 133)):=by kernel_rfl
  have hp:Tryz.prog.stoodInHeld 133=false:=by kernel_rfl
  show(Op.equalIn (9999+1) 133 (yf x) (yf y)).run Tryz.prog w=_
  simp only[yf]
  rw[run_equalIn_struct w 9999 133 _ _ hS hp]
  simp only[Program.fieldsOf,Tryz.underlying133]
  go_simp
  by_cases h1:x.fst=y.fst<;>by_cases h2:x.snd=y.snd<;>simp[h1,h2]
 check k b w:=by
  have u3:=Tryz.underlying3
  have a3:=Tryz.isAgg3
  have z3:=Tryz.sizeOf3
  have h:∀n,(Instr.checkKey b (n+2) 133 (yf k)).run Tryz.prog w=.ok () w:=fun n=>by
   simp[Instr.checkKey,run_underlying Tryz.underlying133,yf]
   go_simp
  exact h 9998
 desc:=⟨_,Tryz.underlying133⟩
def ve(x:Int×Bool):Value:=.agg #[.int .i64 x.1,.bool x.2]
theorem zn9:KeyLaw Tryz.prog 133 yf:=zk2 zn0
theorem Uw:KeyLaw Tryz.prog 3 xw:=zoa Tryz.underlying3
theorem zbx(w:World):(zeroValue 207).run Tryz.prog w=.ok (ve (0,false)) w:=by kernel_rfl
theorem za1(w:World):(zeroValue 133).run Tryz.prog w=.ok (yf (0,0)) w:=by kernel_rfl
def x8(w:World)(p m1 m2:Nat)(l:List ((Int×Int)×(Int×Bool)))(r:List (Int×(Int×Int))):Prop:=
 w.cell? ⟨p,0,none⟩=some (.map (some m1))∧w.cell? ⟨p,1,none⟩=some (.map (some m2))∧MapAt w m1 yf ve l∧MapAt w m2 xw yf r∧m1≠m2
theorem Yt(w:World)(p m1 m2:Nat)(l:List ((Int×Int)×(Int×Bool)))(r:List (Int×(Int×Int)))(h:x8 w p m1 m2 l r)(k:Int×Int):
  Calls Tryz.prog 137 #[.pointer (some ⟨p,0,none⟩),.agg #[.int .i64 k.1,.int .i64 k.2]] w fun e w'=>e=.returned (.tuple #[ve ((getL l k).getD (0,false)),.bool (getL l k).isSome])∧Below w.heap.size w w':=by
 obtain⟨h0,h1,hM,hR,hne⟩:=h
 have hp:p<w.heap.size:=World.block_lt_of_cell? w _ h0
 obtain⟨x,hx⟩:∃x,x=(getL l k).getD (0,false):=⟨_,rfl⟩
 obtain⟨b,hb⟩:∃b,b=(getL l k).isSome:=⟨_,rfl⟩
 have run:∀W,Below w.heap.size w W→(Instr.lookup 202 (.map (some m1)) (.agg #[.int .i64 k.1,.int .i64 k.2]) true).run Tryz.prog W=.ok (.tuple #[.agg #[.int .i64 x.1,.bool x.2],.bool b]) W:=fun W hW=>by
  have:=jm (T:=202) zn9 Tryz.underlying202 (ve (0,false)) zbx (hM.below hW) k true
  rw[if_pos rfl]at this
  rw[hb]
  refine this.trans ?_
  rw[hx]
  cases getL l k<;>rfl
 rw[←hx,←hb]
 have HB:=Lib.hid run
 clear run hx hb hM hR
 unfold ve
 go_enter Tryz.func137,Tryz.ntmps137
 go_wp2_with fail
 have hb1:Below w.heap.size w ((w.alloc (.cells #[.int .i64 k.1,.int .i64 k.2] 133)).alloc (.cells #[.int .i64 0,.bool false] 207)):=((Below.refl _ _).alloc (Nat.le_refl _) _).alloc (by simp) _
 have p0:((w.alloc (.cells #[.int .i64 k.1,.int .i64 k.2] 133)).alloc (.cells #[.int .i64 0,.bool false] 207)).cell? ⟨w.heap.size,0,none⟩=some (.int .i64 k.1):=by go_simp
 have p1:((w.alloc (.cells #[.int .i64 k.1,.int .i64 k.2] 133)).alloc (.cells #[.int .i64 0,.bool false] 207)).cell? ⟨w.heap.size,1,none⟩=some (.int .i64 k.2):=by go_simp
 have r0:((w.alloc (.cells #[.int .i64 k.1,.int .i64 k.2] 133)).alloc (.cells #[.int .i64 0,.bool false] 207)).heap[w.heap.size+1]?=some (.cells #[.int .i64 0,.bool false] 207 (0,0)):=by
  have:=heap_alloc_new (w.alloc (.cells #[.int .i64 k.1,.int .i64 k.2] 133)) (.cells #[.int .i64 0,.bool false] 207)
  rwa[World.size_alloc]at this
 have hsz:((w.alloc (.cells #[.int .i64 k.1,.int .i64 k.2] 133)).alloc (.cells #[.int .i64 0,.bool false] 207)).heap.size=w.heap.size+2:=by simp
 generalize (w.alloc (.cells #[.int .i64 k.1,.int .i64 k.2] 133)).alloc (.cells #[.int .i64 0,.bool false] 207)=W at hb1 p0 p1 r0 hsz⊢
 have g0:=(hb1.cell hp).trans h0
 have al:∀o (a:Addr),a.block<W.heap.size→(W.alloc o).cell? a=W.cell? a:=fun o a ha=>((Below.refl _ W).alloc (Nat.le_refl _) o).cell ha
 have G0:=fun o=>(al o ⟨p,0,none⟩ (by simp;omega)).trans g0
 have P0:=fun o=>(al o ⟨w.heap.size,0,none⟩ (by simp;omega)).trans p0
 have P1:=fun o=>(al o ⟨w.heap.size,1,none⟩ (by simp;omega)).trans p1
 have e1:=HB.out W.drew hb1.drew
 have e2:=fun o=>HB.out (W.alloc o).drew (hb1.alloc hb1.size o).drew
 have HBW:=Lib.hid hb1
 clear al h0 h1 hb1
 have HR:=Lib.hid r0
 have HS:=Lib.hid hsz
 clear r0 hsz
 go_region
 have f0:W.cell? ⟨w.heap.size+1,0,none⟩=some (.int .i64 0):=by rw[cell_of_row W _ 0 _ _ _ HR.out];rfl
 have f1:W.cell? ⟨w.heap.size+1,1,none⟩=some (.bool false):=by rw[cell_of_row W _ 1 _ _ _ HR.out];rfl
 have q0:W.frozen? ⟨w.heap.size+1,0,none⟩=false:=by simp[World.frozen?,HR.out]
 have q1:W.frozen? ⟨w.heap.size+1,1,none⟩=false:=by simp[World.frozen?,HR.out]
 have hlt1:w.heap.size+1<W.heap.size:=by have:=HS.out;omega
 clear e1 e2 G0 P0 P1 p0 p1 g0
 have hb:Below w.heap.size w W:=HBW.out
 go_wp2_with fail
 refine bodyPost_ret (v:=.tuple #[.agg #[.int .i64 x.1,.bool x.2],.bool b]) (by simp[results,Tryz.results137,go_sem,hlt1,f0,f1]) rfl ⟨rfl,?_⟩
 exact(((hb.setCell (by simp) _).setCell (by simp) _).alloc (by have:=hb.size;simpa using this) _).drew
section
open Go Go.RowKit
structure zw where
 sure:Nat→List UInt8
 loose:Nat→Option (List UInt8)
 first:Int
 fail:Int
 fuse:Int
 down:Bool
namespace zw
def cur(D:zw)(n:Nat):List UInt8:=(D.loose n).getD (D.sure n)
def burn(D:zw):zw:=if D.fuse=0 then {D with down:=true} else if D.down=true then D else if D.fuse > 0 then {D with fuse:=D.fuse-1} else D
def work(D:zw):zw×Nat:=
 if D.burn.down=true then(D.burn,9)
 else if D.burn.first > 0 then({D.burn with first:=D.burn.first-1},0)
 else if D.burn.fail > 0 then({D.burn with fail:=D.burn.fail-1},6)
 else(D.burn,0)
def write(D:zw)(n:Nat)(l:List UInt8):zw:={D with loose:=fun k=>if k=n then some l else D.loose k}
def flush(D:zw):zw:={D with sure:=D.cur,loose:=fun _=>none}
def Calm(D:zw):Prop:=D.first=0∧D.fail=0∧D.fuse=-1∧D.down=false
theorem Calm.work{D:zw}(h:D.Calm):D.work=(D,0):=by
 obtain⟨h1,h2,h3,h4⟩:=h
 have:D.burn=D:=by unfold burn;rw[if_neg (by omega),if_neg (by simp[h4]),if_neg (by omega)]
 unfold zw.work
 rw[this,if_neg (by simp[h4]),if_neg (by omega),if_neg (by omega)]
theorem V8(D:zw):D.burn.sure=D.sure∧D.burn.loose=D.loose:=by
 unfold burn
 split
 ·exact⟨rfl,rfl⟩
 ·split
  ·exact⟨rfl,rfl⟩
  ·split<;>exact⟨rfl,rfl⟩
theorem zb3(D:zw):D.work.1.sure=D.sure∧D.work.1.loose=D.loose:=by
 unfold zw.work
 split
 ·exact V8 D
 ·split
  ·exact V8 D
  ·split<;>exact V8 D
theorem Xr(D:zw):D.work.1.cur=D.cur:=by
 funext n
 unfold cur
 rw[(zb3 D).1,(zb3 D).2]
end zw
def Xq(w:World)(O:Nat→Prop)(v:Value)(l:List UInt8):Prop:=
 l.length=64∧ByAt w v l∧∃b off c,v=.slice (some ⟨b,off,none⟩) 64 c∧O b
theorem Xq.keep{w w':World}{O O':Nat→Prop}{v:Value}{l:List UInt8}(h:Xq w O v l)(hk:∀b,v.ownBlock=some b→b<w.heap.size→O b→O' b∧w'.heap[b]?=w.heap[b]?):Xq w' O' v l:=by
 obtain⟨h1,h2,b,off,c,rfl,h4⟩:=h
 have hlt:=SlAt.lt h2 b rfl
 exact⟨h1,SlAt.keep h2 fun b' hb'=>by simp[Value.ownBlock]at hb';subst hb';exact(hk b rfl hlt h4).2,b,off,c,rfl,(hk b rfl hlt h4).1⟩
def q9(sv mv:Value)(D:zw)(i:Nat):Value:=
 match i with
 | 0=>sv
 | 1=>mv
 | 2=>.int .i64 D.first
 | 3=>.int .i64 D.fail
 | 4=>.int .i64 D.fuse
 | _=>.bool D.down
def i63:Int:=9223372036854775807
def Jt(w:World)(O:Nat→Prop)(L:List (Int×Value))(j:Nat):Option (List UInt8)→Prop
 | none=>getL L (j:Int)=none
 | some l=>∃v,getL L (j:Int)=some v∧Xq w O v l
structure yw(w:World)(O:Nat→Prop)(p sb off c mb:Nat)(V:Nat→Value)(L:List (Int×Value))(D:zw):Prop where
 op:O p
 os:O sb
 om:O mb
 ps:p≠sb
 row:Row w p 6 (q9 (.slice (some ⟨sb,off,none⟩) 192 c) (.map (some mb)) D)
 cap:192≤c∧c≤maxLen
 cells:∀j,j<192→w.cell? ⟨sb,off+j,none⟩=some (V j)∧w.frozen? ⟨sb,off+j,none⟩=false
 sure:∀j,j<192→Xq w O (V j) (D.sure j)
 map:MapAt w mb xw id L
 keys:∀x∈L,0≤x.1∧x.1<192
 nd:(L.map (·.1)).Nodup
 loose:∀j,j<192→Jt w O L j (D.loose j)
 own1:∀j,j<192→(V j).ownBlock≠some p∧(V j).ownBlock≠some sb
 own2:∀x∈L,x.2.ownBlock≠some p∧x.2.ownBlock≠some sb∧∀j,j<192→x.2.ownBlock≠(V j).ownBlock
 own3:∀j k,j<192→k<192→j≠k→(V j).ownBlock≠(V k).ownBlock
 own4:L.Pairwise fun x y=>x.2.ownBlock≠y.2.ownBlock
 n1:0≤D.first∧D.first≤i63
 n2:0≤D.fail∧D.fail≤i63
 n3:-1≤D.fuse∧D.fuse≤i63
def jr(w:World)(O:Nat→Prop)(p:Nat)(D:zw):Prop:=∃sb off c mb V L,yw w O p sb off c mb V L D
theorem Yj{κ ν:Type}[DecidableEq κ]{l:List (κ×ν)}{k:κ}{v:ν}(h:getL l k=some v):(k,v)∈l:=by
 induction l with
 | nil=>cases h
 | cons x l ih=>
  simp only[getL]at h
  split at h
  ·rename_i e
   cases h
   subst e
   exact List.mem_cons_self ..
  ·exact List.mem_cons_of_mem _ (ih h)
section
variable {w w':World}{O O':Nat→Prop}{p sb off c mb:Nat}{V:Nat→Value}{L:List (Int×Value)}{D:zw}
theorem yw.sbl(h:yw w O p sb off c mb V L D):sb<w.heap.size:=World.block_lt_of_cell? _ _ (h.cells 0 (by omega)).1
theorem xy{w w':World}{a:Addr}(h:w'.heap[a.block]?=w.heap[a.block]?):w'.frozen? a=w.frozen? a:=by
 unfold World.frozen?
 rw[h]
theorem yw.loc(h:yw w O p sb off c mb V L D)(hk:∀k,k<w.heap.size→O k→O' k∧w'.heap[k]?=w.heap[k]?):yw w' O' p sb off c mb V L D:=by
 have hsb:=h.sbl
 refine {h with op:=(hk p h.row.lt h.op).1,os:=(hk sb hsb h.os).1,om:=(hk mb h.map.lt h.om).1,row:=h.row.keep (hk p h.row.lt h.op).2,cells:=fun j hj=>⟨(World.cell?_of_block (w:=w) (hk sb hsb h.os).2).trans (h.cells j hj).1,(xy (a:=⟨sb,off+j,none⟩) (hk sb hsb h.os).2).trans (h.cells j hj).2⟩,sure:=fun j hj=>(h.sure j hj).keep fun b _ hb ho=>hk b hb ho,map:=h.map.keep (hk mb h.map.lt h.om).2,loose:=fun j hj=>?_}
 have:=h.loose j hj
 revert this
 cases D.loose j with
 | none=>exact fun h=>h
 | some l=>exact fun⟨v,h1,h2⟩=>⟨v,h1,h2.keep fun b _ hb ho=>hk b hb ho⟩
theorem jr.loc(h:jr w O p D)(hk:∀k,k<w.heap.size→O k→O' k∧w'.heap[k]?=w.heap[k]?):jr w' O' p D:=by
 obtain⟨sb,off,c,mb,V,L,h⟩:=h
 exact⟨sb,off,c,mb,V,L,h.loc hk⟩
theorem yw.ctl{D':zw}(h:yw w O p sb off c mb V L D)(hr:Row w' p 6 (q9 (.slice (some ⟨sb,off,none⟩) 192 c) (.map (some mb)) D'))(hk:∀k,k<w.heap.size→k≠p→w'.heap[k]?=w.heap[k]?)
  (e1:D'.sure=D.sure) (e2:D'.loose=D.loose) (n1:0≤D'.first∧D'.first≤i63) (n2:0≤D'.fail∧D'.fail≤i63) (n3:-1≤D'.fuse∧D'.fuse≤i63):yw w' O p sb off c mb V L D':=by
 have hsb:=h.sbl
 have hpm:mb≠p:=fun e=>by
  obtain⟨es,cl,hm,_⟩:=h.map
  obtain⟨T,hp⟩:=h.row
  rw[e,hp]at hm
  cases hm
 refine {h with row:=hr,cells:=fun j hj=>⟨(World.cell?_of_block (w:=w) (hk sb hsb (Ne.symm h.ps))).trans (h.cells j hj).1,(xy (a:=⟨sb,off+j,none⟩) (hk sb hsb (Ne.symm h.ps))).trans (h.cells j hj).2⟩,sure:=fun j hj=>?_,map:=h.map.keep (hk mb h.map.lt hpm),loose:=fun j hj=>?_,n1:=n1,n2:=n2,n3:=n3}
 ·rw[e1]
  exact(h.sure j hj).keep fun b hb hl ho=>⟨ho,hk b hl fun e=>(h.own1 j hj).1 (by rw[hb,e])⟩
 ·rw[e2]
  have:=h.loose j hj
  revert this
  cases D.loose j with
  | none=>exact fun h=>h
  | some l=>exact fun⟨v,h1,h2⟩=>⟨v,h1,h2.keep fun b hb hl ho=>⟨ho,hk b hl fun e=>(h.own2 _ (Yj h1)).1 (by rw[hb,e])⟩⟩
theorem yw.ctl1{D':zw}(h:yw w O p sb off c mb V L D)(i:Nat)(v:Value)(hi:i<6)(hv:∀j,j<6→q9 (.slice (some ⟨sb,off,none⟩) 192 c) (.map (some mb)) D' j=if j=i then v else q9 (.slice (some ⟨sb,off,none⟩) 192 c) (.map (some mb)) D j)
  (e1:D'.sure=D.sure) (e2:D'.loose=D.loose) (n1:0≤D'.first∧D'.first≤i63) (n2:0≤D'.fail∧D'.fail≤i63) (n3:-1≤D'.fuse∧D'.fuse≤i63):yw (w.setCell ⟨p,i,none⟩ v) O p sb off c mb V L D'∧Turn O w (w.setCell ⟨p,i,none⟩ v):=by
 refine⟨h.ctl ((h.row.set hi v).congr fun j hj=>(hv j hj).symm) (fun k hk hne=>Below.heap_setCell w ⟨p,i,none⟩ v k hne) e1 e2 n1 n2 n3,(Turn.refl O w).set (.inl h.op) _⟩
end
end
section
variable {O:Nat→Prop}{p sb off c mb:Nat}{V:Nat→Value}{L:List (Int×Value)}{D:zw}
theorem burn_n(h1:0≤D.first∧D.first≤i63)(h2:0≤D.fail∧D.fail≤i63)(h3:-1≤D.fuse∧D.fuse≤i63):
  D.burn.first=D.first∧D.burn.fail=D.fail∧(-1≤D.burn.fuse∧D.burn.fuse≤i63):=by
 unfold zw.burn
 split
 ·exact⟨rfl,rfl,h3⟩
 ·split
  ·exact⟨rfl,rfl,h3⟩
  ·split
   ·exact⟨rfl,rfl,by show -1≤D.fuse-1∧D.fuse-1≤_;omega⟩
   ·exact⟨rfl,rfl,h3⟩
inductive WorkRel(w:World)(p:Nat)(D:zw):World→Prop
 | mk (w1 w2:World) (h1:(D.fuse=0∧w1=w.setCell ⟨p,5,none⟩ (.bool true))∨(D.fuse≠0∧(D.down=true∨D.fuse<0)∧w1=w)∨(D.fuse≠0∧D.down=false∧D.fuse > 0∧w1=w.setCell ⟨p,4,none⟩ (.int .i64 (D.fuse-1))))
   (h2:((D.burn.down=true∨D.burn.first≤0∧D.burn.fail≤0)∧w2=w1)∨(D.burn.down=false∧D.burn.first > 0∧w2=w1.setCell ⟨p,2,none⟩ (.int .i64 (D.first-1)))∨(D.burn.down=false∧D.burn.first≤0∧D.burn.fail > 0∧w2=w1.setCell ⟨p,3,none⟩ (.int .i64 (D.fail-1)))):WorkRel w p D w2
theorem WorkRel.at_ {w w2 : World} (r : WorkRel w p D w2) (h : yw w O p sb off c mb V L D) : yw w2 O p sb off c mb V L D.work.1 ∧ Turn O w w2 := by
  obtain ⟨w1, _, h1, h2⟩ := r
  have hb := burn_n h.n1 h.n2 h.n3
  have hs := zw.V8 D
  have H1 : yw w1 O p sb off c mb V L D.burn ∧ Turn O w w1 := by
    rcases h1 with ⟨e, rfl⟩ | ⟨e, h1, rfl⟩ | ⟨e, e1, e2, rfl⟩
    · have eb : D.burn = { D with down := true } := by unfold zw.burn; rw [if_pos e]
      rw [eb]
      exact h.ctl1 5 _ (by omega) (fun j hj => by
        rcases (by omega : j = 0 ∨ j = 1 ∨ j = 2 ∨ j = 3 ∨ j = 4 ∨ j = 5) with rfl | rfl | rfl | rfl | rfl | rfl <;> rfl) rfl rfl h.n1 h.n2 h.n3
    · have eb : D.burn = D := by
        unfold zw.burn
        rw [if_neg e]
        split
        · rfl
        · rw [if_neg (by rcases h1 with h1 | h1; · rename_i h2; exact absurd h1 h2
                         · omega)]
      rw [eb]
      exact ⟨h, Turn.refl _ _⟩
    · have eb : D.burn = { D with fuse := D.fuse - 1 } := by unfold zw.burn; rw [if_neg e, if_neg (by simp [e1]), if_pos e2]
      rw [eb]
      exact h.ctl1 4 _ (by omega) (fun j hj => by
        rcases (by omega : j = 0 ∨ j = 1 ∨ j = 2 ∨ j = 3 ∨ j = 4 ∨ j = 5) with rfl | rfl | rfl | rfl | rfl | rfl <;> rfl) rfl rfl h.n1 h.n2 (by have := h.n3; show -1 ≤ D.fuse - 1 ∧ D.fuse - 1 ≤ _; omega)
  obtain ⟨H1, T1⟩ := H1
  rcases h2 with ⟨e, rfl⟩ | ⟨e, e1, rfl⟩ | ⟨e, e1, e2, rfl⟩
  · have ew : D.work.1 = D.burn := by
      unfold zw.work
      split
      · rfl
      · rename_i hn
        rcases e with e | ⟨e1, e2⟩
        · exact absurd e hn
        · rw [if_neg (by omega), if_neg (by omega)]
    rw [ew]
    exact ⟨H1, T1⟩
  · have ew : D.work.1 = { D.burn with first := D.burn.first - 1 } := by unfold zw.work; rw [if_neg (by simp [e]), if_pos e1]
    rw [ew, ← hb.1]
    have := H1.ctl1 (D' := { D.burn with first := D.burn.first - 1 }) 2 (.int .i64 (D.burn.first - 1)) (by omega) (fun j hj => by
        rcases (by omega : j = 0 ∨ j = 1 ∨ j = 2 ∨ j = 3 ∨ j = 4 ∨ j = 5) with rfl | rfl | rfl | rfl | rfl | rfl <;> rfl) rfl rfl (by have := H1.n1; show 0 ≤ D.burn.first - 1 ∧ D.burn.first - 1 ≤ _; omega) H1.n2 H1.n3
    exact ⟨this.1, T1.trans this.2⟩
  · have ew : D.work.1 = { D.burn with fail := D.burn.fail - 1 } := by unfold zw.work; rw [if_neg (by simp [e]), if_neg (by omega), if_pos e2]
    rw [ew, ← hb.2.1]
    have := H1.ctl1 (D' := { D.burn with fail := D.burn.fail - 1 }) 3 (.int .i64 (D.burn.fail - 1)) (by omega) (fun j hj => by
        rcases (by omega : j = 0 ∨ j = 1 ∨ j = 2 ∨ j = 3 ∨ j = 4 ∨ j = 5) with rfl | rfl | rfl | rfl | rfl | rfl <;> rfl) rfl rfl H1.n1 (by have := H1.n2; show 0 ≤ D.burn.fail - 1 ∧ D.burn.fail - 1 ≤ _; omega) H1.n3
    exact ⟨this.1, T1.trans this.2⟩
theorem Qc(w:World)(h:yw w O p sb off c mb V L D):Calls Tryz.prog 98 #[.pointer (some ⟨p,0,none⟩)] w fun e w'=>e=.returned (.int .i64 192)∧w'=w:=by
 have h0:=h.row.cell (i:=0) (by omega)
 dsimp only[q9]at h0
 clear h
 go_enter Tryz.func98,Tryz.ntmps98
 go_wp2_with fail
 go_ret
 exact⟨rfl,rfl⟩
theorem zkk(w:World)(fi fa fu:Int)(dn:Bool)(h2:w.cell? ⟨p,2,none⟩=some (.int .i64 fi))(h3:w.cell? ⟨p,3,none⟩=some (.int .i64 fa))(h4:w.cell? ⟨p,4,none⟩=some (.int .i64 fu))(h5:w.cell? ⟨p,5,none⟩=some (.bool dn))
  (z2:w.frozen? ⟨p,2,none⟩=false) (z3:w.frozen? ⟨p,3,none⟩=false) (z4:w.frozen? ⟨p,4,none⟩=false) (z5:w.frozen? ⟨p,5,none⟩=false)
  (n1:0≤fi∧fi≤i63) (n2:0≤fa∧fa≤i63) (n3:-1≤fu∧fu≤i63) (D:zw) (e1:D.first=fi) (e2:D.fail=fa) (e3:D.fuse=fu) (e4:D.down=dn):
  Calls Tryz.prog 99 #[.pointer (some ⟨p,0,none⟩)] w fun e w'=>e=.returned (.int .i64 D.work.2)∧Hid (WorkRel w p D w'):=by
 have w1:IntKind.i64.wrap (fi-1)=fi-1:=by unfold i63 at n1;simp[IntKind.wrap,IntKind.bits,IntKind.signed];omega
 have w2:IntKind.i64.wrap (fa-1)=fa-1:=by unfold i63 at n2;simp[IntKind.wrap,IntKind.bits,IntKind.signed];omega
 have w3:IntKind.i64.wrap (fu-1)=fu-1:=by unfold i63 at n3;simp[IntKind.wrap,IntKind.bits,IntKind.signed];omega
 have HE:=Lib.hid (And.intro e1 (And.intro e2 (And.intro e3 e4)))
 clear n1 n2 n3 e1 e2 e3 e4
 go_enter Tryz.func99,Tryz.ntmps99
 go_wp2_with fail
 all_goals (go_ret;obtain⟨rfl,rfl,rfl,rfl⟩:=HE.out)
 ·have f0:D.fuse=0:=by simp_all
  have eb:D.burn={D with down:=true}:=by unfold zw.burn;rw[if_pos f0]
  have ew:D.work.2=9:=by unfold zw.work;rw[eb,if_pos rfl]
  exact⟨by rw[ew];rfl,.mk _ _ (.inl ⟨f0,rfl⟩) (.inl ⟨.inl (by rw[eb]),rfl⟩)⟩
 ·have f0:D.fuse≠0:=by simp_all
  have f1:D.down=true:=by simp_all
  have eb:D.burn=D:=by unfold zw.burn;rw[if_neg f0,if_pos f1]
  have ew:D.work.2=9:=by unfold zw.work;rw[eb,if_pos f1]
  exact⟨by rw[ew];rfl,.mk _ _ (.inr (.inl ⟨f0,.inl f1,rfl⟩)) (.inl ⟨.inl (by rw[eb];exact f1),rfl⟩)⟩
 ·have f0:D.fuse≠0:=by simp_all
  have f1:D.down=false:=by simp_all
  have f2:D.fuse > 0:=by simp_all
  have eb:D.burn={D with fuse:=D.fuse-1}:=by unfold zw.burn;rw[if_neg f0,if_neg (by simp[f1]),if_pos f2]
  have eb1:D.burn.first=D.first:=by rw[eb]
  have eb2:D.burn.fail=D.fail:=by rw[eb]
  have eb3:D.burn.down=false:=by rw[eb];exact f1
  have g1:D.first > 0:=by simp_all
  have ew:D.work.2=0:=by unfold zw.work;rw[if_neg (by simp[eb3]),if_pos (by omega)]
  exact⟨by rw[ew];rfl,.mk _ _ (.inr (.inr ⟨f0,f1,f2,rfl⟩)) (.inr (.inl ⟨eb3,by omega,rfl⟩))⟩
 ·have f0:D.fuse≠0:=by simp_all
  have f1:D.down=false:=by simp_all
  have f2:D.fuse > 0:=by simp_all
  have eb:D.burn={D with fuse:=D.fuse-1}:=by unfold zw.burn;rw[if_neg f0,if_neg (by simp[f1]),if_pos f2]
  have eb1:D.burn.first=D.first:=by rw[eb]
  have eb2:D.burn.fail=D.fail:=by rw[eb]
  have eb3:D.burn.down=false:=by rw[eb];exact f1
  have g1:¬D.first > 0:=by simp_all
  have g2:D.fail > 0:=by simp_all
  have ew:D.work.2=6:=by unfold zw.work;rw[if_neg (by simp[eb3]),if_neg (by omega),if_pos (by omega)]
  exact⟨by rw[ew];rfl,.mk _ _ (.inr (.inr ⟨f0,f1,f2,rfl⟩)) (.inr (.inr ⟨eb3,by omega,by omega,rfl⟩))⟩
 ·have f0:D.fuse≠0:=by simp_all
  have f1:D.down=false:=by simp_all
  have f2:D.fuse > 0:=by simp_all
  have eb:D.burn={D with fuse:=D.fuse-1}:=by unfold zw.burn;rw[if_neg f0,if_neg (by simp[f1]),if_pos f2]
  have eb1:D.burn.first=D.first:=by rw[eb]
  have eb2:D.burn.fail=D.fail:=by rw[eb]
  have eb3:D.burn.down=false:=by rw[eb];exact f1
  have g1:¬D.first > 0:=by simp_all
  have g2:¬D.fail > 0:=by simp_all
  have ew:D.work.2=0:=by unfold zw.work;rw[if_neg (by simp[eb3]),if_neg (by omega),if_neg (by omega)]
  exact⟨by rw[ew];rfl,.mk _ _ (.inr (.inr ⟨f0,f1,f2,rfl⟩)) (.inl ⟨.inr ⟨by omega,by omega⟩,rfl⟩)⟩
 ·have f0:D.fuse≠0:=by simp_all
  have f1:D.down=false:=by simp_all
  have f2:¬D.fuse > 0:=by simp_all
  have eb:D.burn=D:=by unfold zw.burn;rw[if_neg f0,if_neg (by simp[f1]),if_neg f2]
  have eb1:D.burn.first=D.first:=by rw[eb]
  have eb2:D.burn.fail=D.fail:=by rw[eb]
  have eb3:D.burn.down=false:=by rw[eb];exact f1
  have g1:D.first > 0:=by simp_all
  have ew:D.work.2=0:=by unfold zw.work;rw[if_neg (by simp[eb3]),if_pos (by omega)]
  exact⟨by rw[ew];rfl,.mk _ _ (.inr (.inl ⟨f0,.inr (by omega),rfl⟩)) (.inr (.inl ⟨eb3,by omega,rfl⟩))⟩
 ·have f0:D.fuse≠0:=by simp_all
  have f1:D.down=false:=by simp_all
  have f2:¬D.fuse > 0:=by simp_all
  have eb:D.burn=D:=by unfold zw.burn;rw[if_neg f0,if_neg (by simp[f1]),if_neg f2]
  have eb1:D.burn.first=D.first:=by rw[eb]
  have eb2:D.burn.fail=D.fail:=by rw[eb]
  have eb3:D.burn.down=false:=by rw[eb];exact f1
  have g1:¬D.first > 0:=by simp_all
  have g2:D.fail > 0:=by simp_all
  have ew:D.work.2=6:=by unfold zw.work;rw[if_neg (by simp[eb3]),if_neg (by omega),if_pos (by omega)]
  exact⟨by rw[ew];rfl,.mk _ _ (.inr (.inl ⟨f0,.inr (by omega),rfl⟩)) (.inr (.inr ⟨eb3,by omega,by omega,rfl⟩))⟩
 ·have f0:D.fuse≠0:=by simp_all
  have f1:D.down=false:=by simp_all
  have f2:¬D.fuse > 0:=by simp_all
  have eb:D.burn=D:=by unfold zw.burn;rw[if_neg f0,if_neg (by simp[f1]),if_neg f2]
  have eb1:D.burn.first=D.first:=by rw[eb]
  have eb2:D.burn.fail=D.fail:=by rw[eb]
  have eb3:D.burn.down=false:=by rw[eb];exact f1
  have g1:¬D.first > 0:=by simp_all
  have g2:¬D.fail > 0:=by simp_all
  have ew:D.work.2=0:=by unfold zw.work;rw[if_neg (by simp[eb3]),if_neg (by omega),if_neg (by omega)]
  exact⟨by rw[ew];rfl,.mk _ _ (.inr (.inl ⟨f0,.inr (by omega),rfl⟩)) (.inl ⟨.inr ⟨by omega,by omega⟩,rfl⟩)⟩
theorem Qt(w:World)(h:yw w O p sb off c mb V L D):Calls Tryz.prog 99 #[.pointer (some ⟨p,0,none⟩)] w fun e w'=>e=.returned (.int .i64 D.work.2)∧yw w' O p sb off c mb V L D.work.1∧Turn O w w':=
 (zkk w _ _ _ _ (h.row.cell (i:=2) (by omega)) (h.row.cell (i:=3) (by omega)) (h.row.cell (i:=4) (by omega)) (h.row.cell (i:=5) (by omega)) (h.row.frozen 2) (h.row.frozen 3) (h.row.frozen 4) (h.row.frozen 5) h.n1 h.n2 h.n3 D rfl rfl rfl rfl).mono
  fun _ _ ⟨he,hw⟩=>⟨he,WorkRel.at_ hw.out h⟩
theorem Qm(w:World)(h:yw w O p sb off c mb V L D)(n:Nat)(hn:n<192):∃v,(getL L (n:Int)=some v∨getL L (n:Int)=none∧v=V n)∧Xq w O v (D.cur n):=by
 have:=h.loose n hn
 unfold zw.cur
 cases hd:D.loose n with
 | none=>rw[hd]at this;exact⟨V n,.inr ⟨this,rfl⟩,h.sure n hn⟩
 | some l=>rw[hd]at this;obtain⟨v,h1,h2⟩:=this;exact⟨v,.inl h1,h2⟩
theorem zeroBy(w:World):(zeroValue 22).run Tryz.prog w=.ok (.slice none 0 0) w:=by kernel_rfl
def zba(e:Nat)(v:Value):Value:=.tuple #[if e=0 then v else .slice none 0 0,.int .i64 e]
theorem zdf(w:World)(h:yw w O p sb off c mb V L D)(ni:Int)(n:Nat)(en:ni=n)(hn:n<192):
  Calls Tryz.prog 37 #[.pointer (some ⟨p,0,none⟩),.int .i64 ni] w fun e w'=>∃v,e=.returned (zba D.work.2 v)∧yw w' O p sb off c mb V L D.work.1∧Turn O w w'∧(D.work.2=0→ByAt w' v (D.cur n)∧∀b,v.ownBlock=some b→w.heap.size≤b):=by
 subst en
 have S:=Lib.hid (Qc w h)
 have W:=Lib.hid (Qt w h)
 obtain⟨r,hr⟩:∃r,D.work.2=r:=⟨_,rfl⟩
 have HC:=Lib.hid (zw.Xr D)
 obtain⟨D',hD⟩:∃D',D.work.1=D':=⟨_,rfl⟩
 rw[hr,hD]at W
 rw[hD]at HC
 rw[hr,hD]
 clear h hr hD
 have i1:(n:Int)<192:=by omega
 have i2:(0:Int)≤n:=by omega
 go_enter Tryz.func37,Tryz.ntmps37
 go_wp2_with fail
 refine S.out.mono ?_
 rintro e u ⟨rfl,hu⟩
 have hu:=hu.symm
 subst hu
 clear S
 go_wp2_with fail
 refine W.out.mono ?_
 rintro e w1 ⟨rfl,hI,hT⟩
 have H1:=Lib.hid (And.intro hI hT)
 clear hI hT W
 by_cases hr:r=0
 ·subst hr
  obtain⟨v,hv,hs⟩:=Qm w1 H1.out.1 n hn
  have hlk:=jm (T:=155) Uw Tryz.underlying155 (.slice none 0 0) zeroBy H1.out.1.map (n:Int) true
  have C:=Lib.hid (Vm w1 v (D.cur n) (by rw[←HC.out];exact hs.2.1.reads) (by rw[←HC.out,hs.1];omega) (by rw[←HC.out,hs.1];omega))
  have c1:=H1.out.1.row.cell (i:=1) (by omega)
  dsimp only[q9]at c1
  have fin:Hid (∀v' w2,ByAt w2 v' (D.cur n)→Below w1.heap.size w1 w2→(∀b,v'.ownBlock=some b→w1.heap.size≤b)→∃v,Ending.returned (.tuple #[v',.int .i64 0])=.returned (zba 0 v)∧yw w2 O p sb off c mb V L D'∧Turn O w w2∧ByAt w2 v (D.cur n)∧∀b,v.ownBlock=some b→w.heap.size≤b):=fun v' w2 h1 h2 h3=>
   ⟨v',rfl,H1.out.1.loc fun k hk ho=>⟨ho,h2.block k hk⟩,H1.out.2.trans (.of_below h2),h1,fun b hb=>Nat.le_trans H1.out.2.size (h3 b hb)⟩
  rcases hv with hv|⟨hv,rfl⟩
  ·rw[hv]at hlk
   simp only[if_pos,Option.map_some,Option.getD_some,Option.isSome_some,id,xw]at hlk
   clear hs hv
   go_wp2_with fail
   refine C.out.mono ?_
   rintro e w2 ⟨v',rfl,hB⟩
   have HB:=Lib.hid hB
   clear hB hlk
   go_wp2_with fail
   exact bodyPost_ret (v:=.tuple #[v',.int .i64 0]) (by simp[results,Tryz.results37,go_sem]) rfl (fin.out _ _ HB.out.1 HB.out.2.1 HB.out.2.2)
  ·rw[hv]at hlk
   simp only[if_pos,Option.map_none,Option.getD_none,Option.isSome_none,xw]at hlk
   have c0:=H1.out.1.row.cell (i:=0) (by omega)
   dsimp only[q9]at c0
   have c2:=(H1.out.1.cells n hn).1
   clear hs hv
   go_wp2_with fail
   refine C.out.mono ?_
   rintro e w2 ⟨v',rfl,hB⟩
   have HB:=Lib.hid hB
   clear hB hlk
   go_wp2_with fail
   exact bodyPost_ret (v:=.tuple #[v',.int .i64 0]) (by simp[results,Tryz.results37,go_sem]) rfl (fin.out _ _ HB.out.1 HB.out.2.1 HB.out.2.2)
 ·have e1:(r:Int)≠0:=by omega
  go_wp2_with fail
  exact bodyPost_ret (v:=.tuple #[.slice none 0 0,.int .i64 r]) (by simp[results,Tryz.results37,go_sem]) rfl ⟨undef,by unfold zba;rw[if_neg hr],H1.out.1,H1.out.2,fun e=>absurd e hr⟩
end
def pl(l:List (Int×Int)):List Value:=l.flatMap fun x=>[.int .i64 x.1,.int .i64 x.2]
theorem Q7(x:Int×Int)(l:List (Int×Int)):pl (x::l)=[.int .i64 x.1,.int .i64 x.2]++pl l:=rfl
theorem Q8(a b:List (Int×Int)):pl (a++b)=pl a++pl b:=by simp[pl]
theorem um(l:List (Int×Int)):(pl l).length=l.length*2:=by
 induction l with
 | nil=>rfl
 | cons x l ih=>rw[Q7,List.length_append,ih];simp;omega
theorem znc(l:List (Int×Int))(j:Nat)(h:j<l.length):(pl l)[j*2]?=some (.int .i64 l[j].1)∧(pl l)[j*2+1]?=some (.int .i64 l[j].2):=by
 induction l generalizing j with
 | nil=>simp at h
 | cons x l ih=>
  rw[Q7]
  cases j with
  | zero=>simp
  | succ j=>
   have:=ih j (by simpa using h)
   rw[show(j+1)*2=j*2+2 by omega,show j*2+2+1=j*2+1+2 by omega]
   simpa using this
theorem zam(l:List (Int×Int)):∀u∈pl l,u.oneCell'=true:=by
 intro u hu
 simp only[pl,List.mem_flatMap]at hu
 obtain⟨x,_,h⟩:=hu
 simp at h
 rcases h with rfl|rfl<;>rfl
theorem zny(l:List (Int×Int))(n:Nat):pl (l.take n)=(pl l).take (n*2):=by
 induction l generalizing n with
 | nil=>simp[pl]
 | cons x l ih=>cases n with
  | zero=>simp[pl]
  | succ n=>rw[List.take_succ_cons,Q7,Q7,ih,show(n+1)*2=n*2+2 by omega];simp
theorem znz(l:List (Int×Int))(n:Nat):pl (l.drop n)=(pl l).drop (n*2):=by
 induction l generalizing n with
 | nil=>simp[pl]
 | cons x l ih=>cases n with
  | zero=>simp
  | succ n=>rw[List.drop_succ_cons,Q7,ih,show(n+1)*2=n*2+2 by omega];simp
def PlAt(w:World)(v:Value)(l:List (Int×Int)):Prop:=SlAt w 58 2 v l.length (pl l)
theorem PlAt.nil(w:World):PlAt w (.slice none 0 0) []:=SlAt.nil w _ _
theorem PlAt.below{w w':World}{v:Value}{l:List (Int×Int)}(h:PlAt w v l)(hb:Below w.heap.size w w'):PlAt w' v l:=SlAt.below h hb
theorem PlAt.keep{w w':World}{v:Value}{l:List (Int×Int)}(h:PlAt w v l)(hb:∀b,v.ownBlock=some b→w'.heap[b]?=w.heap[b]?):PlAt w' v l:=SlAt.keep h hb
theorem PlAt.touch{w w':World}{v:Value}{l:List (Int×Int)}{S:List Nat}(h:PlAt w v l)(t:Touch S w w')(hn:∀b,v.ownBlock=some b→b∉S):PlAt w' v l:=
 SlAt.keep h fun b e=>t.block b (SlAt.lt h b e) (hn b e)
theorem PlAt.cell{w:World}{b off c:Nat}{l:List (Int×Int)}{n:Nat}(h:PlAt w (.slice (some ⟨b,off,none⟩) n c) l)(j:Nat)(hj:j<l.length):
  w.cell? ⟨b,off+j*2,none⟩=some (.int .i64 l[j].1)∧w.cell? ⟨b,off+j*2+1,none⟩=some (.int .i64 l[j].2):=by
 obtain⟨g,off',c',e,_,_,hx⟩:=SlAt.cells h (by rw[um];omega)
 cases e
 obtain⟨h1,h2⟩:=znc l j hj
 exact⟨(hx _ _ h1).1,by rw[Nat.add_assoc];exact(hx _ _ h2).1⟩
theorem PlAt.form{w:World}{v:Value}{l:List (Int×Int)}(h:PlAt w v l):(v=.slice none 0 0∧l=[])∨∃b off c,v=.slice (some ⟨b,off,none⟩) l.length c∧l.length≤c∧c≤maxLen∧b<w.heap.size:=by
 rcases h.2 with⟨rfl,h2⟩|⟨b,off,c,arr,rfl,hg,hnc,hm,_⟩
 ·exact .inl ⟨rfl,List.eq_nil_of_length_eq_zero h2⟩
 ·exact .inr ⟨b,off,c,rfl,hnc,hm,(Array.getElem?_eq_some_iff.1 hg).1⟩
theorem zca(w:World)(b:Nat)(arr:Array Value)(e:TypeId)(hg:w.heap[b]?=some (.cells arr e (0,0))):w.setRow b arr=w:=setRow_self w b arr e (0,0) hg
theorem zb6(P:Program)(w:World)(b o:Nat)(vs:List Value)(arr:Array Value)(e:TypeId)(hg:w.heap[b]?=some (.cells arr e (0,0)))(hfit:o+vs.length≤arr.size)(h1:∀u∈vs,u.oneCell'=true):
  ∃arr':Array Value,(storeCells ⟨b,o,none⟩ vs 0).run P w=.ok () (w.setRow b arr')∧arr'.size=arr.size∧(∀j,j<o→arr'[j]?=arr[j]?)∧(∀j,o+vs.length≤j→arr'[j]?=arr[j]?)∧(∀j u,vs[j]?=some u→arr'[o+j]?=some u)∧(w.setRow b arr').heap[b]?=some (.cells arr' e (0,0)):=by
 have h:=run_storeCells_at P b o e vs 0 arr w hg (by simpa using hfit) h1
 simp only[Nat.add_zero]at h
 have htl:(arr.toList.take o).length=o:=by simp;omega
 refine⟨_,h,by simp;omega,fun j hj=>?_,fun j hj=>?_,fun j u hu=>?_,setRow_heap w b arr _ e _ hg⟩
 ·rw[List.getElem?_toArray,List.append_assoc,List.getElem?_append_left (by rw[htl];exact hj),List.getElem?_take_of_lt hj];simp
 ·rw[List.getElem?_toArray,List.getElem?_append_right (by rw[List.length_append,htl];exact hj),List.getElem?_drop]
  rw[List.length_append,htl]
  simp;congr 1;omega
 ·have hj:=(List.getElem?_eq_some_iff.1 hu).1
  rw[List.getElem?_toArray,List.append_assoc,List.getElem?_append_right (by rw[htl];omega),htl,List.getElem?_append_left (by omega),show o+j-o=j by omega]
  exact hu
theorem zjq(w:World)(ty:TypeId)(b o n c:Nat)(arr:Array Value)(e:TypeId)(hg:w.heap[b]?=some (.cells arr e (0,0)))(hfit:o+n*2≤arr.size):
  ∃arr':Array Value,(Builtin.clear_ #[120] ty #[.slice (some ⟨b,o,none⟩) n c]).run Tryz.prog w=.ok (.tuple #[]) (w.setRow b arr')∧arr'.size=arr.size∧(∀j,j<o→arr'[j]?=arr[j]?)∧(w.setRow b arr').heap[b]?=some (.cells arr' e (0,0)):=by
 cases n with
 | zero=>exact⟨arr,by rw[zca w b arr e hg];simp[Builtin.clear_,run_underlying Tryz.underlying120],rfl,fun _ _=>rfl,by rw[zca w b arr e hg];exact hg⟩
 | succ n=>
  have hz:∀w,(zeroValue 58).run Tryz.prog w=.ok (.agg #[.int .i64 0,.int .i64 0]) w:=fun w=>by kernel_rfl
  have hl:(Builtin.zeroCells (Value.agg #[.int .i64 0,.int .i64 0]).cells (n+1)).toList.length=(n+1)*2:=by simp[Builtin.zeroCells,Value.cells]
  have hall:∀u∈(Builtin.zeroCells (Value.agg #[.int .i64 0,.int .i64 0]).cells (n+1)).toList,u.oneCell'=true:=by
   intro u hu
   simp[Builtin.zeroCells,Value.cells]at hu
   obtain⟨i,hi,rfl⟩:=hu
   rcases Nat.mod_two_eq_zero_or_one i with h|h<;>simp[h,Value.oneCell']
  obtain⟨arr',h1,h2,h3,_,_,h6⟩:=zb6 Tryz.prog w b o _ arr e hg (by rw[hl];exact hfit) hall
  exact⟨arr',by simp[Builtin.clear_,run_underlying Tryz.underlying120,hz,h1],h2,h3,h6⟩
theorem zdk(w:World)(v:Value)(l:List (Int×Int))(h:PlAt w v l):
  Calls Tryz.prog 138 #[v] w fun e w'=>∃v',e=.returned v'∧PlAt w v' l∧w'=w∧v'.ownBlock=v.ownBlock:=by
 rcases h.form with⟨rfl,rfl⟩|⟨b,off,c,rfl,hc,hm,hb⟩
 ·go_enter Tryz.func138,Tryz.ntmps138
  go_wp2_with fail
  go_ret
  exact⟨_,rfl,PlAt.nil w,rfl,rfl⟩
 ·have h':PlAt w (.slice (some ⟨b,off,none⟩) l.length l.length) l:=by
   refine⟨h.1,?_⟩
   rcases h.2 with⟨e,_⟩|⟨b',off',c',arr,e,hg,hnc,hm',hfit,hx⟩
   ·cases e
   ·cases e
    exact .inr ⟨b,off,l.length,arr,rfl,hg,Nat.le_refl _,by omega,by have:=Nat.mul_le_mul_right 2 hnc;omega,hx⟩
  have H:=Lib.hid h'
  clear h h'
  generalize hn:l.length=n at *
  clear hn
  go_enter Tryz.func138,Tryz.ntmps138
  go_wp2_with fail
  go_ret
  exact⟨_,rfl,H.out,rfl,rfl⟩
theorem zei(l:List (Int×Int))(i:Nat):pl (l.eraseIdx i)=pl (l.take i)++pl (l.drop (i+1)):=by
 rw[←Q8,List.eraseIdx_eq_take_drop_succ]
theorem Jv(w:World)(b off c i:Nat)(l:List (Int×Int))(h:PlAt w (.slice (some ⟨b,off,none⟩) l.length c) l)(hi:i<l.length):
  Calls Tryz.prog 187 #[.slice (some ⟨b,off,none⟩) l.length c,.int .i64 i,.int .i64 (i+1)] w fun e w'=>∃v',e=.returned v'∧PlAt w' v' (l.eraseIdx i)∧Touch [b] w w'∧v'.ownBlock=some b:=by
 obtain⟨arr,hg,hnc,hm,hfit,hx⟩:∃arr,w.heap[b]?=some (.cells arr 58 (0,0))∧l.length≤c∧c≤maxLen∧off+c*2≤arr.size∧∀j u,(pl l)[j]?=some u→arr[off+j]?=some u:=by
  rcases h.2 with⟨e,_⟩|⟨b',off',c',arr,e,rest⟩
  ·cases e
  ·cases e;exact⟨arr,rest⟩
 have hb:b<w.heap.size:=(Array.getElem?_eq_some_iff.1 hg).1
 obtain⟨n,hn⟩:∃n,l.length=n+1:=⟨l.length-1,by omega⟩
 obtain⟨news,hnews⟩:∃news,news=pl (l.drop (i+1)):=⟨_,rfl⟩
 have hlen:news.length=(n-i)*2:=by rw[hnews,um,List.length_drop];omega
 -- the store of the cells that go to the left
 obtain⟨arr1,hs1,hz1,hlo1,_,hmid1,hg1⟩:=zb6 Tryz.prog w.drew b (off+i*2) news arr 58 hg (by rw[hlen];omega) (by rw[hnews];exact zam _)
 obtain⟨A,hA,hsrc⟩:∃A:Addr,(if c=i+1 then some (⟨b,off,none⟩:Addr)else some ⟨b,off+(i+1)*2,none⟩)=some A∧∀t u,news[t]?=some u→w.drew.cell? (A.add t)=some u:=by
  by_cases h:c=i+1
  ·refine⟨⟨b,off,none⟩,by simp[h],fun t u hu=>?_⟩
   have h0:news.length=0:=by rw[hlen];omega
   rw[List.length_eq_zero_iff.1 h0]at hu
   simp at hu
  ·refine⟨⟨b,off+(i+1)*2,none⟩,by simp[h],fun t u hu=>?_⟩
   rw[hnews,znz,List.getElem?_drop]at hu
   rw[add_plain,World.cell?_drew,cell_of_row w b _ arr _ _ hg,Nat.add_assoc]
   exact hx _ _ hu
 obtain⟨W1,hW1⟩:∃W1,W1=w.drew.setRow b arr1:=⟨_,rfl⟩
 rw[←hW1]at hg1
 have s3:Hid (∀t,t<news.length→(w.drew.cell? ⟨b,off+i*2+t,none⟩).isSome=true∧w.drew.frozen? ⟨b,off+i*2+t,none⟩=false):=by
  intro t ht
  rw[hlen]at ht
  refine⟨?_,by show w.frozen? _=false;simp[World.frozen?,hg]⟩
  rw[World.cell?_drew,cell_of_row w b _ arr _ _ hg,Array.getElem?_eq_getElem (by omega)]
  rfl
 have hset:w.drew.setCells b (off+i*2) news=W1:=by
  rw[hW1]
  have e:=run_storeCells_cells (P:=Tryz.prog) b (off+i*2) news 0 w.drew (fun j hj=>by simpa using(s3.out j hj).1) (fun j hj=>by simpa using(s3.out j hj).2) (by rw[hnews];exact zam _)
  simp only[Nat.add_zero]at e
  rw[hs1]at e
  exact((Result.ok.inj e).2).symm
 obtain⟨arr2,hs2,hz2,hlo2,hg2⟩:∃arr':Array Value,(∀ty,(Builtin.clear_ #[120] ty #[.slice (some ⟨b,off+n*2,none⟩) 1 (c-n)]).run Tryz.prog W1=.ok (.tuple #[]) (W1.setRow b arr'))∧arr'.size=arr1.size∧(∀j,j<off+n*2→arr'[j]?=arr1[j]?)∧(W1.setRow b arr').heap[b]?=some (.cells arr' 58 (0,0)):=by
  obtain⟨a',h1,h2,h3,h4⟩:=zjq W1 0 b (off+n*2) 1 (c-n) arr1 58 hg1 (by rw[hz1];omega)
  exact⟨a',fun ty=>h1,h2,h3,h4⟩
 have fin:Hid (PlAt (W1.setRow b arr2) (.slice (some ⟨b,off,none⟩) n c) (l.eraseIdx i)∧Touch [b] w (W1.setRow b arr2)):=by
  have hle:(l.eraseIdx i).length=n:=by rw[List.length_eraseIdx_of_lt hi];omega
  constructor
  ·show SlAt _ _ _ _ _ _
   rw[hle]
   refine⟨by rw[um,hle],.inr ⟨b,off,c,arr2,rfl,hg2,by omega,hm,by rw[hz2,hz1];omega,fun j u hu=>?_⟩⟩
   have hj:=(List.getElem?_eq_some_iff.1 hu).1
   rw[um,hle]at hj
   rw[hlo2 (off+j) (by omega)]
   rw[zei]at hu
   have htl:(pl (l.take i)).length=i*2:=by rw[um,List.length_take];omega
   by_cases hji:j<i*2
   ·rw[List.getElem?_append_left (by rw[htl];exact hji),zny,List.getElem?_take_of_lt hji]at hu
    rw[hlo1 (off+j) (by omega)]
    exact hx j u hu
   ·rw[List.getElem?_append_right (by rw[htl];omega),htl,←hnews]at hu
    have:=hmid1 _ _ hu
    rw[show off+i*2+(j-i*2)=off+j by omega]at this
    exact this
  ·have t1:Touch [b] w W1:=by
    rw[hW1]
    exact⟨rfl,rfl,rfl,by simp,fun k hk hne=>setRow_other w.drew b k _ (fun e=>hne (by simp[e]))⟩
   exact t1.trans ⟨rfl,rfl,rfl,by simp,fun k hk hne=>setRow_other W1 b k _ (fun e=>hne (by simp[e]))⟩
 obtain⟨i0,hi0,hsz0⟩:∃i,Tryz.prog.info? 58=some i∧i.size=2:=by
  have h:(Tryz.prog.info? 58).map (·.size)=some 2:=by kernel_rfl
  obtain⟨i,hi,hb⟩:=Option.map_eq_some_iff.1 h
  exact⟨i,hi,hb⟩
 have s1:=Lib.hid hlen
 have s2:Hid (∀u∈news,u.oneCell'=true):=by rw[hnews];exact zam _
 have hs:=Lib.hid hsrc
 have hWr:Hid (w.drew.setCells b (off+i*2) news=W1):=hset
 have hin:i≤n:=by omega
 have hic:i≤c:=by omega
 have hjc:i+1≤c:=by omega
 have h0i:(0:Int)≤i+1:=by omega
 have hnc':n+1≤c:=by omega
 have e2:c-n≠0:=by omega
 have en:n+1-n=1:=by omega
 rw[hn]
 clear h hx hg hlo1 hmid1 hg1 hs1 hz1 hW1 hz2 hlo2 hg2 hset hlen hsrc hnews hfit hnc hn hi e2
 go_enter Tryz.func187,Tryz.ntmps187
 go_wp2_with fail
 go_region_law (refine step_append_room rfl (.tmp 22) (.tmp 25) 120 rfl 58 i0 2 Tryz.underlying120 hi0 hsz0 b off i c (by simp[Act.eval,Act.put]) A (n-i) (c-(i+1)) news (by simp[Act.eval,Act.put]) s1.out hs.out s2.out (by omega) s3.out ?_;rw[hWr.out])
 go_wp2_with fail
 go_ret
 exact⟨_,rfl,fin.out.1,fin.out.2,rfl⟩
def orI(x y:Int):Int:=if x=0 then y else x
theorem zos(w:World)(b:Nat)(x y:Int)(hx:w.cell? ⟨b,0,none⟩=some (.int .i64 x))(hy:w.cell? ⟨b,1,none⟩=some (.int .i64 y)):
  Calls Tryz.prog 130 #[.slice (some ⟨b,0,none⟩) 2 2] w fun e w'=>e=.returned (.int .i64 (orI x y))∧w'=w:=by
 by_cases h0:x=0
 ·subst h0
  by_cases h1:y=0
  ·subst h1
   go_enter Tryz.func130,Tryz.ntmps130
   go_wp2_with fail
   refine wp_loop_rounds 3 ?_
   rw[rounds_succ]
   go_wp2_with fail
   rw[rounds_succ]
   go_wp2_with fail
   rw[rounds_succ]
   go_wp2_with fail
   go_ret
   exact⟨by simp[orI],rfl⟩
  ·go_enter Tryz.func130,Tryz.ntmps130
   go_wp2_with fail
   refine wp_loop_rounds 3 ?_
   rw[rounds_succ]
   go_wp2_with fail
   rw[rounds_succ]
   go_wp2_with fail
   go_ret
   exact⟨by simp[orI],rfl⟩
 ·go_enter Tryz.func130,Tryz.ntmps130
  go_wp2_with fail
  refine wp_loop_rounds 3 ?_
  rw[rounds_succ]
  go_wp2_with fail
  go_ret
  exact⟨by simp[orI,h0],rfl⟩
def cmpI(x y:Int):Int:=if x<y then -1 else if y<x then 1 else 0
theorem zne(x y:Int)(w:World):Calls Tryz.prog 131 #[.int .i64 x,.int .i64 y] w fun e w'=>e=.returned (.int .i64 (cmpI x y))∧w'=w:=by
 by_cases h1:x<y
 ·rw[show cmpI x y=-1 by simp[cmpI,h1]]
  go_enter Tryz.func131,Tryz.ntmps131
  go_wp2
  go_ret
  exact⟨rfl,rfl⟩
 ·by_cases h2:y<x
  ·rw[show cmpI x y=1 by simp[cmpI,h1,h2]]
   go_enter Tryz.func131,Tryz.ntmps131
   go_wp2
   go_ret
   exact⟨rfl,rfl⟩
  ·rw[show cmpI x y=0 by simp[cmpI,h1,h2]]
   go_enter Tryz.func131,Tryz.ntmps131
   go_wp2
   go_ret
   exact⟨rfl,rfl⟩
theorem zff(W:World)(k:Nat)(hk:W.heap.size=k)(cs:Array Value)(T:TypeId)(j:Nat):(W.alloc (.cells cs T)).cell? ⟨k,j,none⟩=cs[j]?:=by
 subst hk
 exact World.cell?_alloc_mark W cs T (0,0) j
def cmpP(x y:Int×Int):Int:=orI (cmpI x.1 y.1) (cmpI x.2 y.2)
theorem zdj(w:World)(x y:Int×Int):
  Calls Tryz.prog 73 #[.agg #[.int .i64 x.1,.int .i64 x.2],.agg #[.int .i64 y.1,.int .i64 y.2]] w fun e w'=>e=.returned (.int .i64 (cmpP x y))∧∃q os',w'=Sort.grow (w.drewN q) os':=by
 obtain⟨x1,x2⟩:=x
 obtain⟨y1,y2⟩:=y
 unfold cmpP
 simp only
 generalize hu:cmpI x1 y1=u
 generalize hv:cmpI x2 y2=v
 have c1:=Lib.hid (fun W=>zne x1 y1 W)
 have c2:=Lib.hid (fun W=>zne x2 y2 W)
 rw[hu]at c1
 rw[hv]at c2
 clear hu hv
 go_enter Tryz.func73,Tryz.ntmps73
 go_wp2_with fail
 obtain⟨W,hW⟩:∃W,W=((w.alloc (.cells #[.int .i64 x1,.int .i64 x2] 58)).alloc (.cells #[.int .i64 y1,.int .i64 y2] 58)).drew:=⟨_,rfl⟩
 have p0:W.cell? ⟨w.heap.size,0,none⟩=some (.int .i64 x1):=by rw[hW];go_simp
 have p1:W.cell? ⟨w.heap.size,1,none⟩=some (.int .i64 x2):=by rw[hW];go_simp
 have p2:W.cell? ⟨w.heap.size+1,0,none⟩=some (.int .i64 y1):=by rw[hW];go_simp
 have p3:W.cell? ⟨w.heap.size+1,1,none⟩=some (.int .i64 y2):=by rw[hW];go_simp
 have hs:Hid (W.heap.size=w.heap.size+2):=by rw[hW];show _=_;simp
 have hWH:=Lib.hid hW
 have hd:(((w.alloc (.cells #[.int .i64 x1,.int .i64 x2] 58)).alloc (.cells #[.int .i64 y1,.int .i64 y2] 58)).drew)=W:=hW.symm
 clear hW
 go_region_held (fun W'=>W'.cell? ⟨w.heap.size,0,none⟩=some (.int .i64 x1)∧W'.cell? ⟨w.heap.size,1,none⟩=some (.int .i64 x2)∧W'.cell? ⟨w.heap.size+1,0,none⟩=some (.int .i64 y1)∧W'.cell? ⟨w.heap.size+1,1,none⟩=some (.int .i64 y2)) (go_keep) (first
  | (go_at_call_of 131 x1;refine(c1.out _).mono ?_;rintro e w' ⟨rfl,rfl⟩)
  | (go_at_call_of 131 x2;refine(c2.out _).mono ?_;rintro e w' ⟨rfl,rfl⟩)
  | (go_at_call 130;refine(zos _ _ u v (zff _ _ rfl _ _ _) (zff _ _ rfl _ _ _)).mono ?_;rintro e w' ⟨rfl,rfl⟩))
 all_goals (go_wp2_with fail;go_ret;refine⟨rfl,1,#[.cells #[.int .i64 x1,.int .i64 x2] 58,.cells #[.int .i64 y1,.int .i64 y2] 58,.cells #[.int .i64 u,.int .i64 v] 3],?_⟩)
 all_goals (rw[hWH.out];simp only[Sort.alloc_eq_grow,Sort.grow_grow];rfl)
section
open Go Go.RowKit
variable {K:Int→Prop}
section
variable {κ ν:Type}[DecidableEq κ]
theorem Zq(l:List (κ×ν))(k:κ)(v:ν)(h:(l.map (·.1)).Nodup):((updL l k v).map (·.1)).Nodup∧∀q,q∈(updL l k v).map (·.1)↔q=k∨q∈l.map (·.1):=by
 induction l with
 | nil=>simp[updL]
 | cons x l ih=>
  rw[List.map_cons,List.nodup_cons]at h
  obtain⟨i1,i2⟩:=ih h.2
  simp only[updL]
  split
  ·rename_i e
   subst e
   refine⟨by rw[List.map_cons,List.nodup_cons];exact h,fun q=>by simp⟩
  ·rename_i e
   refine⟨?_,fun q=>?_⟩
   ·rw[List.map_cons,List.nodup_cons]
    refine⟨fun hm=>?_,i1⟩
    rcases(i2 x.1).1 hm with hm|hm
    ·exact e hm.symm
    ·exact h.1 hm
   ·rw[List.map_cons,List.mem_cons,i2,List.map_cons,List.mem_cons]
    constructor
    ·rintro(h|h|h)
     ·exact .inr (.inl h)
     ·exact .inl h
     ·exact .inr (.inr h)
    ·rintro(h|h|h)
     ·exact .inr (.inl h)
     ·exact .inl h
     ·exact .inr (.inr h)
theorem zft(l:List (κ×ν))(k:κ):List.Sublist (delL l k) l:=by
 induction l with
 | nil=>exact List.Sublist.refl _
 | cons x l ih=>
  simp only[delL]
  split
  ·exact List.sublist_cons_self _ _
  ·exact ih.cons_cons x
theorem zcz{l:List (κ×ν)}{k:κ}(h:k∉l.map (·.1)):getL l k=none:=by
 induction l with
 | nil=>rfl
 | cons x l ih=>
  simp only[List.map_cons,List.mem_cons,not_or]at h
  rw[getL,if_neg h.1,ih h.2]
theorem zi2{l:List (κ×ν)}{k:κ}(h:(l.map (·.1)).Nodup)(q:κ):getL (delL l k) q=if q=k then none else getL l q:=by
 induction l with
 | nil=>simp[delL,getL]
 | cons x l ih=>
  rw[List.map_cons,List.nodup_cons]at h
  simp only[delL]
  split
  ·rename_i e
   subst e
   by_cases hq:q=x.1
   ·subst hq
    rw[if_pos rfl,zcz h.1]
   ·rw[if_neg hq,getL,if_neg hq]
  ·rename_i e
   simp only[getL,ih h.2]
   by_cases hq:q=x.1
   ·subst hq
    simp[Ne.symm e]
   ·simp[hq]
end
def idV(v:Value):Value:=v
def jv(V:List (Int×Value))(f:Int):Value:=(getL V f).getD (.slice none 0 0)
def updF(L:Int→List (Int×Int))(f:Int)(l:List (Int×Int)):Int→List (Int×Int):=fun g=>if g=f then l else L g
structure ut(K:Int→Prop)(w:World)(p m:Nat)(S:List Nat)(V:List (Int×Value))(L:Int→List (Int×Int)):Prop where
 c0:w.cell? ⟨p,0,none⟩=some (.map (some m))
 map:MapAt w m xw idV V
 at_:∀f,PlAt w (jv V f) (L f)
 own:∀f b,(jv V f).ownBlock=some b→b∈S∧b≠p∧b≠m
 inj:∀f g b,(jv V f).ownBlock=some b→(jv V g).ownBlock=some b→f=g
 pin:p∈S
 min:m∈S
 nd:(V.map (·.1)).Nodup
 keys:∀x∈V,K x.1
theorem ut.ps{w:World}{p m:Nat}{S:List Nat}{V:List (Int×Value)}{L:Int→List (Int×Int)}(h:ut K w p m S V L):p<w.heap.size∧m<w.heap.size∧p≠m:=by
 refine⟨World.block_lt_of_cell? w _ h.c0,h.map.lt,fun e=>?_⟩
 obtain⟨es,c,hb,_⟩:=h.map
 have h0:=h.c0
 subst e
 simp[World.cell?,hb]at h0
theorem ut.touch{w w':World}{p m:Nat}{S S0:List Nat}{V:List (Int×Value)}{L:Int→List (Int×Int)}(h:ut K w p m S V L)(t:Touch S0 w w')(hn:∀b∈S,b∉S0):ut K w' p m S V L:=
 ⟨t.cell h.c0 (hn p h.pin),h.map.keep (t.block m h.ps.2.1 (hn m h.min)),fun f=>(h.at_ f).touch t fun b hb=>hn b (h.own f b hb).1,h.own,h.inj,h.pin,h.min,h.nd,h.keys⟩
theorem ut.below{w w':World}{p m:Nat}{S:List Nat}{V:List (Int×Value)}{L:Int→List (Int×Int)}(h:ut K w p m S V L)(hb:Below w.heap.size w w'):ut K w' p m S V L:=
 h.touch (Touch.of_below (S:=[]) hb) (by simp)
theorem ut.set{w w':World}{p m:Nat}{S:List Nat}{V V':List (Int×Value)}{L:Int→List (Int×Int)}(h:ut K w p m S V L){f:Int}{v':Value}{l':List (Int×Int)}
  (hV:∀g,jv V' g=if g=f then v' else jv V g) (hnd:(V'.map (·.1)).Nodup) (hkeys:∀x∈V',K x.1) (hM:MapAt w' m xw idV V') (hl:PlAt w' v' l')
  (hown:∀b,v'.ownBlock=some b→(jv V f).ownBlock=some b∨w.heap.size≤b)
  (hrest:∀j,j<w.heap.size→j≠m→(jv V f).ownBlock≠some j→w'.heap[j]?=w.heap[j]?) (ho:w'.os=w.os) (ht:w'.tape=w.tape) (hout:w'.output=w.output) (hs:w.heap.size≤w'.heap.size):
  ∃S',ut K w' p m S' V' (updF L f l')∧Touch S w w'∧∀b∈S',b∈S∨w.heap.size≤b:=by
 obtain⟨hp,hm,hpm⟩:=h.ps
 have hlt:∀g b,(jv V g).ownBlock=some b→b<w.heap.size:=fun g b hb=>SlAt.lt (h.at_ g) b hb
 obtain⟨S',hS',_⟩:∃S':List Nat,(∀b,b∈S'↔b∈S∨v'.ownBlock=some b)∧True:=by
  cases e:v'.ownBlock with
  | none=>exact⟨S,by simp,trivial⟩
  | some b=>exact⟨b::S,by intro c;simp[eq_comm,or_comm],trivial⟩
 refine⟨S',⟨?_,hM,fun g=>?_,fun g b hb=>?_,fun g g' b hb hb'=>?_,(hS' p).2 (.inl h.pin),(hS' m).2 (.inl h.min),hnd,hkeys⟩,⟨ho,ht,hout,hs,fun j hj hn=>hrest j hj (fun e=>hn (e▸h.min)) (fun e=>hn (h.own f j e).1)⟩,fun b hb=>?_⟩
 ·exact(World.cell?_of_block (w:=w) (hrest p hp hpm (fun e=>(h.own f p e).2.1 rfl))).trans h.c0
 ·rw[hV]
  unfold updF
  split
  ·exact hl
  ·rename_i e
   exact(h.at_ g).keep fun b hb=>hrest b (hlt g b hb) (h.own g b hb).2.2 (fun e'=>e (h.inj g f b hb e'))
 ·rw[hV]at hb
  split at hb
  ·refine⟨(hS' b).2 (.inr hb),?_⟩
   rcases hown b hb with e|e
   ·exact(h.own f b e).2
   ·omega
  ·exact⟨(hS' b).2 (.inl (h.own g b hb).1),(h.own g b hb).2⟩
 ·have key:∀g b,g≠f→(jv V g).ownBlock=some b→v'.ownBlock=some b→False:=fun g b hg hb hb'=>by
   rcases hown b hb' with e|e
   ·exact hg (h.inj g f b hb e)
   ·have:=hlt g b hb;omega
  rw[hV]at hb hb'
  split at hb
  ·rename_i e
   split at hb'
   ·rename_i e'
    rw[e,e']
   ·rename_i e'
    exact(key g' b e' hb' hb).elim
  ·rename_i e
   split at hb'
   ·exact(key g b e hb hb').elim
   ·exact h.inj g g' b hb hb'
 ·rcases(hS' b).1 hb with hb|hb
  ·exact .inl hb
  ·rcases hown b hb with e|e
   ·exact .inl (h.own f b e).1
   ·exact .inr e
theorem Xh(V:List (Int×Value))(f:Int)(v:Value)(g:Int):jv (updL V f v) g=if g=f then v else jv V g:=by
 unfold jv
 rw[y8]
 split<;>rfl
theorem zht{V:List (Int×Value)}(h:(V.map (·.1)).Nodup)(f:Int)(g:Int):jv (delL V f) g=if g=f then .slice none 0 0 else jv V g:=by
 unfold jv
 rw[zi2 h]
 split<;>rfl
theorem zfh{V:List (Int×Value)}(h:∀x∈V,K x.1)(hn:(V.map (·.1)).Nodup)(f:Int)(v:Value)(hf:K f):∀x∈updL V f v,K x.1:=by
 intro x hx
 rcases((Zq V f v hn).2 x.1).1 (List.mem_map_of_mem hx)with e|e
 ·rw[e];exact hf
 ·obtain⟨y,hy,e⟩:=List.mem_map.1 e
  rw[←e];exact h y hy
theorem zk0{V:List (Int×Value)}(h:∀x∈V,K x.1)(f:Int):∀x∈delL V f,K x.1:=fun x hx=>h x ((zft V f).subset hx)
theorem nd_del{V:List (Int×Value)}(h:(V.map (·.1)).Nodup)(f:Int):((delL V f).map (·.1)).Nodup:=h.sublist ((zft V f).map _)
theorem zeroSl(w:World):(zeroValue 120).run Tryz.prog w=.ok (.slice none 0 0) w:=by kernel_rfl
theorem ut.look{w:World}{p m:Nat}{S:List Nat}{V:List (Int×Value)}{L:Int→List (Int×Int)}(h:ut K w p m S V L)(f:Int):
  (Instr.lookup 212 (.map (some m)) (.int .i64 f) false).run Tryz.prog w=.ok (jv V f) w:=by
 have:=jm (T:=212) Uw Tryz.underlying212 (.slice none 0 0) zeroSl h.map f false
 refine this.trans ?_
 unfold jv
 cases getL V f<;>rfl
theorem zm2(w:World):Calls Tryz.prog 115 #[] w fun e w'=>∃p m,e=.returned (.pointer (some ⟨p,0,none⟩))∧ut K w' p m [p,m] [] (fun _=>[])∧w.heap.size≤p∧w.heap.size≤m∧Below w.heap.size w w':=by
 have hmm:=@run_makeMap Tryz.prog
 go_enter Tryz.func115,Tryz.ntmps115
 go_wp2_with fail
 go_ret
 have m1:=MapAt.made (κ:=Int) (ν:=Value) w xw idV
 have b3:=(Below.refl (w.alloc (.map #[] 0)).heap.size _).alloc (Nat.le_refl _) (.cells #[.map (some w.heap.size)] 214)
 have hb:=heap_alloc_new (w.alloc (.map #[] 0)) (.cells #[.map (some w.heap.size)] 214)
 rw[World.size_alloc]at hb
 refine⟨w.heap.size+1,w.heap.size,rfl,⟨?_,m1.below b3,fun f=>PlAt.nil _,fun f b hb=>?_,fun f g b hb=>?_,by simp,by simp,by simp,by simp⟩,by omega,by omega,((Below.refl _ _).alloc (Nat.le_refl _) _).alloc (by simp) _⟩
 ·rw[cell_of_row _ _ 0 _ _ _ hb];rfl
 ·simp[jv,getL,Value.ownBlock]at hb
 ·simp[jv,getL,Value.ownBlock]at hb
end
section
variable {κ ν:Type}[DecidableEq κ]
theorem Qn{l:List (κ×ν)}{k:κ}{v:ν}:∀y∈updL l k v,y=(k,v)∨y∈l:=by
 induction l with
 | nil=>intro y hy;simp[updL]at hy;exact .inl hy
 | cons x l ih=>
  intro y hy
  simp only[updL]at hy
  split at hy
  ·rcases List.mem_cons.1 hy with e|e
   ·exact .inl e
   ·exact .inr (List.mem_cons_of_mem _ e)
  ·rcases List.mem_cons.1 hy with e|e
   ·exact .inr (by rw[e];exact List.mem_cons_self ..)
   ·rcases ih y e with e|e
    ·exact .inl e
    ·exact .inr (List.mem_cons_of_mem _ e)
theorem zkr{R:κ×ν→κ×ν→Prop}{l:List (κ×ν)}{k:κ}{v:ν}(h:l.Pairwise R)(hn:∀x∈l,R x (k,v)∧R (k,v) x):(updL l k v).Pairwise R:=by
 induction l with
 | nil=>simp[updL]
 | cons x l ih=>
  obtain⟨h1,h2⟩:=List.pairwise_cons.1 h
  simp only[updL]
  split
  ·exact List.pairwise_cons.2 ⟨fun y hy=>(hn y (List.mem_cons_of_mem _ hy)).2,h2⟩
  ·refine List.pairwise_cons.2 ⟨fun y hy=>?_,ih h2 fun y hy=>hn y (List.mem_cons_of_mem _ hy)⟩
   rcases Qn y hy with rfl|e
   ·exact(hn x (List.mem_cons_self ..)).1
   ·exact h1 y e
theorem U7{l:List (κ×ν)}(hn:(l.map (·.1)).Nodup){x:κ×ν}(hx:x∈l):getL l x.1=some x.2:=by
 induction l with
 | nil=>cases hx
 | cons a l ih=>
  rw[List.map_cons,List.nodup_cons]at hn
  simp only[getL]
  rcases List.mem_cons.1 hx with rfl|e
  ·rw[if_pos rfl]
  ·rw[if_neg (fun e1=>hn.1 (by rw[←e1];exact List.mem_map_of_mem e)),ih hn.2 e]
end
section
variable {O:Nat→Prop}{p sb off c mb:Nat}{V:Nat→Value}{L:List (Int×Value)}{D:zw}
theorem yw.entry{w:World}(h:yw w O p sb off c mb V L D){x:Int×Value}(hx:x∈L):∃j,j<192∧x.1=(j:Nat)∧∃l,D.loose j=some l∧Xq w O x.2 l:=by
 have hk:=h.keys x hx
 refine⟨x.1.toNat,by omega,by omega,?_⟩
 have hl:=h.loose x.1.toNat (by omega)
 have hg:=U7 h.nd hx
 cases hd:D.loose x.1.toNat with
 | none=>
  rw[hd]at hl
  unfold Jt at hl
  rw[show((x.1.toNat:Nat):Int)=x.1 by omega,hg]at hl
  cases hl
 | some l=>
  rw[hd]at hl
  obtain⟨v,h1,h2⟩:=hl
  rw[show((x.1.toNat:Nat):Int)=x.1 by omega,hg]at h1
  cases h1
  exact⟨l,rfl,h2⟩
theorem Xq.lt{w:World}{O:Nat→Prop}{v:Value}{l:List UInt8}(h:Xq w O v l):∃b,v.ownBlock=some b∧b<w.heap.size∧O b:=by
 obtain⟨_,h2,b,o,c,rfl,h4⟩:=h
 exact⟨b,rfl,SlAt.lt h2 b rfl,h4⟩
theorem yw.write{w w2 w3:World}(h:yw w O p sb off c mb V L D)(n:Nat)(hn:n<192)(v:Value)(l:List UInt8)(hl:l.length=64)(hv:ByAt w2 v l)(hb:Below w.heap.size w w2)(ho:∀b,v.ownBlock=some b→w.heap.size≤b)
  (hm:MapAt w3 mb xw id (updL L (n:Int) v)) (hg:w2.grownBy w3 (some mb)):yw w3 (grow O w) p sb off c mb V (updL L (n:Int) v) (D.write n l)∧Turn O w w3:=by
 have hsb:=h.sbl
 have hpm:p≠mb:=fun e=>by
  obtain⟨es,cl,hm,_⟩:=h.map
  obtain⟨T,hp⟩:=h.row
  rw[←e,hp]at hm
  cases hm
 have hcm:∀k,k<w.heap.size→k≠mb→w3.heap[k]?=w.heap[k]?:=fun k hk hne=>(hg.block k (Nat.lt_of_lt_of_le hk hb.size) (by simp;exact hne)).trans (hb.block k hk)
 have hsm:sb≠mb:=fun e=>by
  obtain⟨es,cl,hm,_⟩:=h.map
  have:=(h.cells 0 (by omega)).1
  rw[e]at this
  simp[World.cell?,hm]at this
 obtain⟨vb,off0,c0,rfl,_,hvb,_⟩:=hv.cells (by rw[List.length_map];omega)
 unfold ByAt at hv
 rw[hl]at hv ho hm⊢
 have hvm:vb≠mb:=by have:=ho vb rfl;have:=h.map.lt;omega
 have hvl:=ho vb rfl
 have sec:∀v l,Xq w O v l→v.ownBlock≠some mb→Xq w3 (grow O w) v l:=fun v l hs hne=>hs.keep fun b hb' hbl hbo=>⟨.inl hbo,hcm b hbl fun e=>hne (by rw[hb',e])⟩
 have zfc:∀v l,Xq w O v l→v.ownBlock≠some mb:=fun v l hs e=>by
  obtain⟨_,h2,b,o,c,rfl,h4⟩:=hs
  simp[Value.ownBlock]at e
  subst e
  rcases h2.2 with⟨e,_⟩|⟨b',o',c',arr,e,hbb,_⟩
  ·cases e
  ·have e':=congrArg Value.ownBlock e
   simp[Value.ownBlock]at e'
   subst e'
   obtain⟨es,cl,hm,_⟩:=h.map
   rw[hm]at hbb
   cases hbb
 have secs:=fun v l hs=>sec v l hs (zfc v l hs)
 have hnew:Xq w3 (grow O w) (.slice (some ⟨vb,off0,none⟩) 64 c0) l:=⟨hl,by
  have:=SlAt.keep (w':=w3) hv fun b hb'=>by
   simp[Value.ownBlock]at hb'
   subst hb'
   exact hg.block vb hvb (by simp;exact hvm)
  unfold ByAt
  rw[hl]
  exact this,vb,off0,c0,rfl,.inr hvl⟩
 refine⟨?_,?_⟩
 ·refine {op:=.inl h.op,os:=.inl h.os,om:=.inl h.om,ps:=h.ps,row:=h.row.keep (hcm p h.row.lt hpm),cap:=h.cap,cells:=fun j hj=>⟨(World.cell?_of_block (w:=w) (hcm sb hsb hsm)).trans (h.cells j hj).1,(xy (a:=⟨sb,off+j,none⟩) (hcm sb hsb hsm)).trans (h.cells j hj).2⟩,sure:=fun j hj=>secs _ _ (h.sure j hj),map:=hm,keys:=fun x hx=>?_,nd:=(Zq L (n:Int) _ h.nd).1,loose:=fun j hj=>?_,own1:=h.own1,own2:=fun x hx=>?_,own3:=h.own3,own4:=zkr h.own4 fun x hx=>?_,n1:=h.n1,n2:=h.n2,n3:=h.n3}
  ·rcases Qn x hx with rfl|hx
   ·exact⟨by show(0:Int)≤n;omega,by show(n:Int)<192;omega⟩
   ·exact h.keys x hx
  ·show Jt w3 _ _ j (if j=n then some l else D.loose j)
   by_cases e:j=n
   ·subst e
    rw[if_pos rfl]
    exact⟨_,by rw[y8,if_pos rfl],hnew⟩
   ·rw[if_neg e]
    have:=h.loose j hj
    revert this
    cases D.loose j with
    | none=>exact fun h=>by unfold Jt;rw[y8,if_neg (by omega)];exact h
    | some l'=>exact fun⟨v,h1,h2⟩=>⟨v,by rw[y8,if_neg (by omega)];exact h1,secs _ _ h2⟩
  ·rcases Qn x hx with rfl|hx
   ·have:=h.row.lt
    refine⟨by simp[Value.ownBlock];omega,by simp[Value.ownBlock];omega,fun j hj e=>?_⟩
    obtain⟨b,h1,h2,_⟩:=(h.sure j hj).lt
    rw[h1]at e
    simp[Value.ownBlock]at e
    omega
   ·exact h.own2 x hx
  ·obtain⟨_,_,_,l',_,hs⟩:=h.entry hx
   obtain⟨b,h1,h2,_⟩:=hs.lt
   rw[h1]
   simp[Value.ownBlock]
   omega
 ·exact(Turn.of_below hb).trans (Turn.Zz hg h.om)
theorem zaw(w:World)(h:yw w O p sb off c mb V L D)(ni:Int)(n:Nat)(en:ni=n)(hn:n<192)(v:Value)(l:List UInt8)(hv:Reads w v l)(hl:l.length=64)(hvo:∀b,v.ownBlock=some b→¬O b):
  Calls Tryz.prog 55 #[.pointer (some ⟨p,0,none⟩),.int .i64 ni,v] w fun e w'=>e=.returned (.int .i64 D.work.2)∧Turn O w w'∧jr w' (grow O w) p (if D.work.2=0 then D.work.1.write n l else D.work.1):=by
 subst en
 have S:=Lib.hid (Qc w h)
 have W:=Lib.hid (Qt w h)
 obtain⟨r,hr⟩:∃r,D.work.2=r:=⟨_,rfl⟩
 obtain⟨D',hD⟩:∃D',D.work.1=D':=⟨_,rfl⟩
 rw[hr,hD]at W
 rw[hr,hD]
 clear h hr hD
 obtain⟨a0,c0,b0,off0,rfl,ha0,hc0⟩:=hv
 rw[hl]at ha0 hvo⊢
 obtain rfl:=ha0 (by omega)
 have HC:=Lib.hid hc0
 have HO:Hid (¬O b0):=hvo b0 rfl
 have HL:=Lib.hid hl
 clear hc0 hvo hl ha0
 have i1:(n:Int)<192:=by omega
 have i2:(0:Int)≤n:=by omega
 go_enter Tryz.func55,Tryz.ntmps55
 go_wp2_with fail
 refine S.out.mono ?_
 rintro e u ⟨rfl,hu⟩
 have hu:=hu.symm
 subst hu
 clear S
 go_wp2_with fail
 refine W.out.mono ?_
 rintro e w1 ⟨rfl,hI,hT⟩
 have H1:=Lib.hid (And.intro hI hT)
 clear hI hT W
 by_cases hr:r=0
 ·subst hr
  have c1:=H1.out.1.row.cell (i:=1) (by omega)
  dsimp only[q9]at c1
  obtain⟨W1,hW⟩:∃W1,W1=w1.drew:=⟨_,rfl⟩
  have q0:W1.cell? ⟨p,1,none⟩=some (.map (some mb)):=by rw[hW];exact c1
  have hB1:Hid (Below w1.heap.size w1 W1∧W1.heap.size=w1.heap.size):=by rw[hW];exact⟨(Below.refl _ _).drew,rfl⟩
  have rd:Hid (Reads W1 (.slice (some ⟨b0,off0,none⟩) 64 c0) l):=⟨some ⟨b0,off0,none⟩,c0,b0,off0,by rw[HL.out],fun _=>rfl,fun j u hu=>by
   rw[hW]
   show w1.cell? _=_
   exact H1.out.2.cell (HC.out j u hu) HO.out⟩
  have C:Hid (Calls Tryz.prog 100 #[.slice (some ⟨b0,off0,none⟩) 64 c0] W1 fun e w2=>∃a c' w3,e=.returned (.slice a 64 c')∧w2.cell? ⟨p,1,none⟩=some (.map (some mb))∧
    (Instr.mapUpdate 155 (.map (some mb)) (.int .i64 n) (.slice a 64 c')).run Tryz.prog w2=.ok () w3∧w3.cell? ⟨p,1,none⟩=some (.map (some mb))∧(Turn O w w3∧jr w3 (grow O w) p (D'.write n l))):=by
   refine(Vm W1 _ l rd.out (by rw[HL.out];omega) (by rw[HL.out];omega)).mono ?_
   rintro e w2 ⟨v',rfl,h2,h3,h4⟩
   have hb:=hB1.out.1.trans (h3.mono (Nat.le_of_eq hB1.out.2.symm))
   have hI:=H1.out.1
   obtain⟨w3,hr3,M3,g3,z3⟩:=Yr (T:=155) Uw Tryz.underlying155 (hI.map.below hb) (n:Int) v'
   have hw:=hI.write n hn v' l HL.out h2 hb (fun b e=>by have:=h4 b e;rw[hB1.out.2]at this;exact this) M3 g3
   obtain⟨a,c',rfl,_,_⟩:=SlAt.form h2
   rw[HL.out]at *
   refine⟨a,c',w3,rfl,h3.cell (World.block_lt_of_cell? _ _ q0) |>.trans q0,hr3,hw.1.row.cell (i:=1) (by omega),H1.out.2.trans hw.2,⟨sb,off,c,mb,V,_,hw.1.loc fun k hk ho=>⟨?_,rfl⟩⟩⟩
   rcases ho with ho|ho
   ·exact .inl ho
   ·exact .inr (Nat.le_trans H1.out.2.size ho)
  have hd:w1.drew=W1:=hW.symm
  clear hW c1 rd hB1
  go_wp2_with fail
  go_region_held (fun W'=>W'.cell? ⟨p,1,none⟩=some (.map (some mb))) (go_keep)
   ((go_at_call 100;refine C.out.mono ?_;rintro e w2 ⟨a,c',w3,rfl,q1,hr3,q3,HX⟩;have hX:=Lib.hid HX;clear HX))
  clear hr3 q1 q0 hd q3
  go_wp2_with fail
  go_ret
  exact⟨rfl,hX.out⟩
 ·have e1:(r:Int)≠0:=by omega
  go_wp2_with fail
  go_ret
  exact⟨rfl,H1.out.2,⟨sb,off,c,mb,V,L,H1.out.1.loc fun k _ ho=>⟨.inl ho,rfl⟩⟩⟩
end
end Go.Proofs.YtnhdmnijiphjjaaGreat
