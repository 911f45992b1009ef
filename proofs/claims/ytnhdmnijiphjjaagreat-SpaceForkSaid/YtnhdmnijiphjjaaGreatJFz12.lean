/- Processes: Put, its first half: what lies where meanwhile. -/
import Derived.Test.YtnhdmnijiphjjaaGreatJFz11
set_option linter.unusedVariables false
set_option linter.unusedSimpArgs false
set_option maxRecDepth 100000
set_option maxHeartbeats 2000000
namespace Go.Proofs.YtnhdmnijiphjjaaGreat
open Go Go.RowKit
def za.put1(x:za)(e:Ent)(p:Int×Int):za:=if e.kind=1 then {x with B:=updF x.B e.n (putP (x.B e.n) p)} else x
def za.put2(x:za)(e:Ent)(p:Int×Int):za:=if e.kind=2 then {x with S:=x.S.set e.n.toNat (putP (x.S.getD e.n.toNat []) p)} else x
def za.put3(x:za)(e old:Ent)(p:Int×Int):za:=if old.kind=1∧(e.kind≠1∨e.n≠old.n)then x.letS old.n p else x
def za.put4(x:za)(e old:Ent)(p:Int×Int):za:=if old.kind=2∧(e.kind≠2∨e.n≠old.n)then {x with S:=x.S.set old.n.toNat ((x.S.getD old.n.toNat []).erase p)} else x
structure Zi(W:World)(tag:Nat→Nat)(q:Sq)(x:za)(b4 b5 b9:Nat)(p:Int×Int)(e old:Ent):Prop where
 sp:zb W tag q x
 t4:tag b4=0
 t5:tag b5=0
 t9:tag b9=0
 c40:W.cell? ⟨b4,0,none⟩=some (.int .i64 p.1)
 c41:W.cell? ⟨b4,1,none⟩=some (.int .i64 p.2)
 c50:W.cell? ⟨b5,0,none⟩=some (.int .i64 e.kind)
 c51:W.cell? ⟨b5,1,none⟩=some (.int .i64 e.n)
 c52:W.cell? ⟨b5,2,none⟩=some (.bool e.write)
 c90:W.cell? ⟨b9,0,none⟩=some (.int .i64 old.kind)
 c91:W.cell? ⟨b9,1,none⟩=some (.int .i64 old.n)
 c92:W.cell? ⟨b9,2,none⟩=some (.bool old.write)
theorem eqlEnt(a b:Ent)(w:World):(Op.equalIn 10000 70 (.agg #[.int .i64 a.kind,.int .i64 a.n,.bool a.write]) (.agg #[.int .i64 b.kind,.int .i64 b.n,.bool b.write])).run Tryz.prog w=.ok (decide (a=b)) w:=by
 have u3:=Tryz.underlying3
 have a3:=Tryz.isAgg3
 have z3:=Tryz.sizeOf3
 have u4:=Tryz.underlying4
 have a4:=Tryz.isAgg4
 have z4:=Tryz.sizeOf4
 have hS:Tryz.prog.underlying 70=some (.struct (Tryz.prog.fieldsOf 70)):=by kernel_rfl
 have hp:Tryz.prog.stoodInHeld 70=false:=by kernel_rfl
 show(Op.equalIn (9999+1) 70 _ _).run Tryz.prog w=_
 rw[run_equalIn_struct w 9999 70 _ _ hS hp]
 simp only[Program.fieldsOf,Tryz.underlying70]
 go_simp
 obtain⟨k1,n1,b1⟩:=a
 obtain⟨k2,n2,b2⟩:=b
 by_cases h1:k1=k2<;>by_cases h2:n1=n2<;>by_cases h3:b1=b2<;>simp[h1,h2,h3]<;>omega
section
variable {C:Nat→Prop}{W W':World}{tag tag':Nat→Nat}{q:Sq}{x x':za}{b4 b5 b9:Nat}{p:Int×Int}{e old:Ent}
theorem Zi.step(h:Zi W tag q x b4 b5 b9 p e old)(s:Step C tag W tag' W')(hc:¬C 0)(hx:zb W' tag' q x'):Zi W' tag' q x' b4 b5 b9 p e old:=by
 have k4:=s.keeps hc b4 (World.block_lt_of_cell? W _ h.c40) h.t4
 have k5:=s.keeps hc b5 (World.block_lt_of_cell? W _ h.c50) h.t5
 have k9:=s.keeps hc b9 (World.block_lt_of_cell? W _ h.c90) h.t9
 exact⟨hx,k4.1,k5.1,k9.1,(World.cell?_of_block (w:=W) k4.2).trans h.c40,(World.cell?_of_block (w:=W) k4.2).trans h.c41,(World.cell?_of_block (w:=W) k5.2).trans h.c50,(World.cell?_of_block (w:=W) k5.2).trans h.c51,(World.cell?_of_block (w:=W) k5.2).trans h.c52,(World.cell?_of_block (w:=W) k9.2).trans h.c90,(World.cell?_of_block (w:=W) k9.2).trans h.c91,(World.cell?_of_block (w:=W) k9.2).trans h.c92⟩
theorem Zi.drew(h:Zi W tag q x b4 b5 b9 p e old):Zi W.drew tag q x b4 b5 b9 p e old:=
 h.step (C:=fun _=>False) (Step.of_below (Below.refl _ _).drew) id (h.sp.below (Below.refl _ _).drew)
theorem Zi.start{w0 W3:World}{tag0:Nat→Nat}(h0:zb w0 tag0 q x)(nb4:w0.heap[b4]?=some (.cells #[.int .i64 p.1,.int .i64 p.2] 58 (0,0)))(nb5:w0.heap[b5]?=some (.cells #[.int .i64 e.kind,.int .i64 e.n,.bool e.write] 70 (0,0)))
  (t4:tag0 b4=0) (t5:tag0 b5=0) (hb:Below w0.heap.size w0 W3) (hb9:w0.heap.size≤b9) (c90:W3.cell? ⟨b9,0,none⟩=some (.int .i64 old.kind)) (c91:W3.cell? ⟨b9,1,none⟩=some (.int .i64 old.n)) (c92:W3.cell? ⟨b9,2,none⟩=some (.bool old.write)):
  Zi W3 (retag tag0 w0 0) q x b4 b5 b9 p e old∧Step (fun _=>False) tag0 w0 (retag tag0 w0 0) W3:=by
 have s:Step (fun _=>False) tag0 w0 (retag tag0 w0 0) W3:=Step.renew 0 hb
 have l4:=(Array.getElem?_eq_some_iff.1 nb4).1
 have l5:=(Array.getElem?_eq_some_iff.1 nb5).1
 have n4:=(hb.block b4 l4).trans nb4
 have n5:=(hb.block b5 l5).trans nb5
 refine⟨⟨h0.step s,(s.same b4 l4).trans t4,(s.same b5 l5).trans t5,zz _ _ _ _ hb9,?_,?_,?_,?_,?_,c90,c91,c92⟩,s⟩
 ·rw[cell_of_row _ _ 0 _ _ _ n4];rfl
 ·rw[cell_of_row _ _ 1 _ _ _ n4];rfl
 ·rw[cell_of_row _ _ 0 _ _ _ n5];rfl
 ·rw[cell_of_row _ _ 1 _ _ _ n5];rfl
 ·rw[cell_of_row _ _ 2 _ _ _ n5];rfl
end
theorem Vo{op:Oper}{a:Act}{w:World}{K:Act→World→Prop}{Q:Exit→Act→World→Prop}(x y:Operand)(t:TypeId)(ho:op.op=.binOp .eql 70 x y t)(b c:Ent)
  (hx:a.eval x=.agg #[.int .i64 b.kind,.int .i64 b.n,.bool b.write]) (hy:a.eval y=.agg #[.int .i64 c.kind,.int .i64 c.n,.bool c.write]) (r:Bool) (hr:Hid (decide (b=c)=r)) (h:K (a.put op.dst (.bool r)) w):op.wp Tryz.prog a w K Q:=by
 have g:Tryz.prog.eqGuardType Tryz.prog.depth 70=false:=by kernel_rfl
 have eg:∀A B,(eqGuard .eql 70 x y (.agg A) (.agg B)).run Tryz.prog w=.ok () w:=fun A B=>by simp[eqGuard,g]
 have e:(Op.equal 70 (.agg #[.int .i64 b.kind,.int .i64 b.n,.bool b.write]) (.agg #[.int .i64 c.kind,.int .i64 c.n,.bool c.write])).run Tryz.prog w=.ok (decide (b=c)) w:=eqlEnt b c w
 unfold Oper.wp execOp
 simp only[ho,hx,hy]
 unfold binOp
 simp only[Sem.run_bind,eg,Result.andThen_ok,e,Sem.run_pure]
 rw[hr.out]
 exact h
section
variable {W W':World}{tag tag':Nat→Nat}{q:Sq}{x x':za}{b4 b5 b9:Nat}{p:Int×Int}{e old:Ent}
def zkc(x:za):Prop:=(∀f,yz (x.B f)∧(x.B f).length≤99000)∧(∀l∈x.S,yz l∧l.length≤99000)∧x.S.length=32
theorem Zi.sp3(h:Zi W tag q x b4 b5 b9 p e old):W.cell? ⟨q.sp,3,none⟩=some (.pointer (some ⟨q.bp,0,none⟩))∧W.cell? ⟨q.sp,5,none⟩=some (.pointer (some ⟨q.wp,0,none⟩)):=⟨h.sp.row.cell (i:=3) (by omega),h.sp.row.cell (i:=5) (by omega)⟩
def PCells(W:World)(q:Sq)(b4 b5 b9:Nat)(p:Int×Int)(e old:Ent):Prop:=
 W.cell? ⟨q.sp,3,none⟩=some (.pointer (some ⟨q.bp,0,none⟩))∧W.cell? ⟨q.sp,5,none⟩=some (.pointer (some ⟨q.wp,0,none⟩))∧W.cell? ⟨b4,0,none⟩=some (.int .i64 p.1)∧W.cell? ⟨b4,1,none⟩=some (.int .i64 p.2)∧
 W.cell? ⟨b5,0,none⟩=some (.int .i64 e.kind)∧W.cell? ⟨b5,1,none⟩=some (.int .i64 e.n)∧W.cell? ⟨b9,0,none⟩=some (.int .i64 old.kind)∧W.cell? ⟨b9,1,none⟩=some (.int .i64 old.n)
theorem Zi.all(h:Zi W tag q x b4 b5 b9 p e old):PCells W q b4 b5 b9 p e old:=⟨h.sp3.1,h.sp3.2,h.c40,h.c41,h.c50,h.c51,h.c90,h.c91⟩
theorem Zi.add(h:Zi W tag q x b4 b5 b9 p e old)(hl:yz (x.B e.n)∧(x.B e.n).length≤99000)(hk:e.kind=1)(he:e.ok=true):
  Calls Tryz.prog 141 #[.pointer (some ⟨q.bp,0,none⟩),.int .i64 e.n,.agg #[.int .i64 p.1,.int .i64 p.2]] W fun r w5=>r=.returned (.tuple #[])∧∃tag5,Zi w5 tag5 q (x.put1 e p) b4 b5 b9 p e old∧Step (fun c=>c=4) tag W tag5 w5:=by
 obtain⟨S,V,hB,hS⟩:=h.sp.back
 have hK:KF e.n:=by
  obtain⟨k,n,wr⟩:=e
  dsimp only at hk
  subst hk
  simp[Ent.ok,most]at he
  exact⟨by dsimp only;omega,by dsimp only;omega⟩
 refine(zki W q.bp q.bm S V x.B hB e.n p hl.1 (by omega) hK).mono ?_
 rintro r w5 ⟨rfl,S',V',h1,h2,h3⟩
 have k:=h.sp.back' hS h2 h3 h1
 unfold za.put1
 rw[if_pos hk]
 exact⟨rfl,_,h.step k.2 (by omega) k.1,k.2⟩
theorem Zi.hold(h:Zi W tag q x b4 b5 b9 p e old)(hl:∀l∈x.S,yz l∧l.length≤99000)(hlen:x.S.length=32)(hk:e.kind=2)(he:e.ok=true):
  Calls Tryz.prog 26 #[.pointer (some ⟨q.wp,0,none⟩),.int .i64 e.n,.agg #[.int .i64 p.1,.int .i64 p.2]] W fun r w5=>r=.returned (.bool true)∧∃tag5,Zi w5 tag5 q (x.put2 e p) b4 b5 b9 p e old∧Step (fun c=>c=6) tag W tag5 w5:=by
 obtain⟨S,V,hB,hS⟩:=h.sp.swap
 have hK:0≤e.n∧e.n<32:=by
  obtain⟨k,n,wr⟩:=e
  dsimp only at hk
  subst hk
  simp[Ent.ok,most]at he
  exact⟨by dsimp only;omega,by dsimp only;omega⟩
 have hi:e.n.toNat<x.S.length:=by omega
 have hm:=hl _ (List.getElem_mem hi)
 have:=zke W q.wp S V x.S hB e.n.toNat x.S[e.n.toNat] (List.getElem?_eq_getElem hi) p hm.1 (by omega)
 rw[show((e.n.toNat:Nat):Int)=e.n by omega]at this
 refine this.mono ?_
 rintro r w5 ⟨rfl,S',V',h1,h2,h3⟩
 have k:=h.sp.swap' hS h2 h3 h1
 unfold za.put2
 rw[if_pos hk,List.getD_eq_getElem?_getD,List.getElem?_eq_getElem hi]
 exact⟨rfl,_,h.step k.2 (by omega) k.1,k.2⟩
theorem Zi.let(h:Zi W tag q x b4 b5 b9 p e old)(hl:(x.B old.n).length≤100000)(hc:old.kind=1∧(e.kind≠1∨e.n≠old.n))(ho:old.ok=true):
  Calls Tryz.prog 142 #[.pointer (some ⟨q.sp,0,none⟩),.int .i64 old.n,.agg #[.int .i64 p.1,.int .i64 p.2]] W fun r w5=>r=.returned (.tuple #[])∧∃tag5,Zi w5 tag5 q (x.put3 e old p) b4 b5 b9 p e old∧Step (fun c=>c=2∨c=4) tag W tag5 w5:=by
 have hK:0≤old.n∧old.n<1024:=by
  obtain⟨k,n,wr⟩:=old
  dsimp only at hc
  obtain⟨rfl,_⟩:=hc
  simp[Ent.ok,most]at ho
  exact⟨by dsimp only;omega,by dsimp only;omega⟩
 have e1:((old.n.toNat:Nat):Int)=old.n:=by omega
 have:=zkx h.sp old.n.toNat p (by omega) (by rw[e1];exact hl)
 rw[e1]at this
 refine this.mono ?_
 rintro r w5 ⟨rfl,tag5,h1,h2⟩
 unfold za.put3
 rw[if_pos hc]
 exact⟨rfl,tag5,h.step h2 (by omega) h1,h2⟩
theorem Zi.release(h:Zi W tag q x b4 b5 b9 p e old)(hl:∀l∈x.S,l.length≤100000)(hlen:x.S.length=32)(hc:old.kind=2∧(e.kind≠2∨e.n≠old.n))(ho:old.ok=true):
  Calls Tryz.prog 143 #[.pointer (some ⟨q.wp,0,none⟩),.int .i64 old.n,.agg #[.int .i64 p.1,.int .i64 p.2]] W fun r w5=>(∃b,r=.returned (.bool b))∧∃tag5,Zi w5 tag5 q (x.put4 e old p) b4 b5 b9 p e old∧Step (fun c=>c=6) tag W tag5 w5:=by
 obtain⟨S,V,hB,hS⟩:=h.sp.swap
 have hK:0≤old.n∧old.n<32:=by
  obtain⟨k,n,wr⟩:=old
  dsimp only at hc
  obtain⟨rfl,_⟩:=hc
  simp[Ent.ok,most]at ho
  exact⟨by dsimp only;omega,by dsimp only;omega⟩
 have hi:old.n.toNat<x.S.length:=by omega
 have hm:=hl _ (List.getElem_mem hi)
 have:=zde W q.wp S V x.S hB old.n.toNat x.S[old.n.toNat] (List.getElem?_eq_getElem hi) p hm
 rw[show((old.n.toNat:Nat):Int)=old.n by omega]at this
 refine this.mono ?_
 rintro r w5 ⟨rfl,S',V',h1,h2,h3⟩
 have k:=h.sp.swap' hS h2 h3 h1
 unfold za.put4
 rw[if_pos hc,List.getD_eq_getElem?_getD,List.getElem?_eq_getElem hi]
 exact⟨⟨_,rfl⟩,_,h.step k.2 (by omega) k.1,k.2⟩
end
end Go.Proofs.YtnhdmnijiphjjaaGreat
