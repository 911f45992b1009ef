/- Processes: Put, its calls behind the table's turn. -/
import Derived.Test.YtnhdmnijiphjjaaGreatJMp11
set_option linter.unusedVariables false
set_option linter.unusedSimpArgs false
set_option maxRecDepth 100000
set_option maxHeartbeats 2000000
namespace Go.Proofs.YtnhdmnijiphjjaaGreat
open Go Go.RowKit
section
variable {W W':World}{tag tag':Nat→Nat}{q:Sq}{x x':za}{b4 b5 b9:Nat}{p:Int×Int}{e old:Ent}
def zj4(x:za):Prop:=(∀f,y9 (x.B f)∧(x.B f).length≤99000)∧(∀l∈x.S,y9 l∧l.length≤99000)∧x.S.length=32
theorem Zr.sp3(h:Zr W tag q x b4 b5 b9 p e old):W.cell? ⟨q.sp,3,none⟩=some (.pointer (some ⟨q.bp,0,none⟩))∧W.cell? ⟨q.sp,5,none⟩=some (.pointer (some ⟨q.wp,0,none⟩)):=⟨h.sp.row.cell (i:=3) (by omega),h.sp.row.cell (i:=5) (by omega)⟩
def PCells(W:World)(q:Sq)(b4 b5 b9:Nat)(p:Int×Int)(e old:Ent):Prop:=
 W.cell? ⟨q.sp,3,none⟩=some (.pointer (some ⟨q.bp,0,none⟩))∧W.cell? ⟨q.sp,5,none⟩=some (.pointer (some ⟨q.wp,0,none⟩))∧W.cell? ⟨b4,0,none⟩=some (.int .i64 p.1)∧W.cell? ⟨b4,1,none⟩=some (.int .i64 p.2)∧
 W.cell? ⟨b5,0,none⟩=some (.int .i64 e.kind)∧W.cell? ⟨b5,1,none⟩=some (.int .i64 e.n)∧W.cell? ⟨b9,0,none⟩=some (.int .i64 old.kind)∧W.cell? ⟨b9,1,none⟩=some (.int .i64 old.n)
theorem Zr.all(h:Zr W tag q x b4 b5 b9 p e old):PCells W q b4 b5 b9 p e old:=⟨h.sp3.1,h.sp3.2,h.c40,h.c41,h.c50,h.c51,h.c90,h.c91⟩
theorem Zr.add(h:Zr W tag q x b4 b5 b9 p e old)(hl:y9 (x.B e.n)∧(x.B e.n).length≤99000)(hk:e.kind=1)(he:e.ok=true):
  Calls Tryz.prog 141 #[.pointer (some ⟨q.bp,0,none⟩),.int .i64 e.n,.agg #[.int .i64 p.1,.int .i64 p.2]] W fun r w5=>r=.returned (.tuple #[])∧∃tag5,Zr w5 tag5 q (x.put1 e p) b4 b5 b9 p e old∧Step (fun c=>c=4) tag W tag5 w5:=by
 obtain⟨S,V,hB,hS⟩:=h.sp.back
 have hK:KF e.n:=by
  obtain⟨k,n,wr⟩:=e
  dsimp only at hk
  subst hk
  simp[Ent.ok,most]at he
  exact⟨by dsimp only;omega,by dsimp only;omega⟩
 refine(zka W q.bp q.bm S V x.B hB e.n p hl.1 (by omega) hK).mono ?_
 rintro r w5 ⟨rfl,S',V',h1,h2,h3⟩
 have k:=h.sp.back' hS h2 h3 h1
 unfold za.put1
 rw[if_pos hk]
 exact⟨rfl,_,h.step k.2 (by omega) k.1,k.2⟩
theorem Zr.hold(h:Zr W tag q x b4 b5 b9 p e old)(hl:∀l∈x.S,y9 l∧l.length≤99000)(hlen:x.S.length=32)(hk:e.kind=2)(he:e.ok=true):
  Calls Tryz.prog 26 #[.pointer (some ⟨q.wp,0,none⟩),.int .i64 e.n,.agg #[.int .i64 p.1,.int .i64 p.2]] W fun r w5=>r=.returned (.bool true)∧∃tag5,Zr w5 tag5 q (x.put2 e p) b4 b5 b9 p e old∧Step (fun c=>c=6) tag W tag5 w5:=by
 obtain⟨S,V,hB,hS⟩:=h.sp.swap
 have hK:0≤e.n∧e.n<32:=by
  obtain⟨k,n,wr⟩:=e
  dsimp only at hk
  subst hk
  simp[Ent.ok,most]at he
  exact⟨by dsimp only;omega,by dsimp only;omega⟩
 have hi:e.n.toNat<x.S.length:=by omega
 have hm:=hl _ (List.getElem_mem hi)
 have:=zj6 W q.wp S V x.S hB e.n.toNat x.S[e.n.toNat] (List.getElem?_eq_getElem hi) p hm.1 (by omega)
 rw[show((e.n.toNat:Nat):Int)=e.n by omega]at this
 refine this.mono ?_
 rintro r w5 ⟨rfl,S',V',h1,h2,h3⟩
 have k:=h.sp.swap' hS h2 h3 h1
 unfold za.put2
 rw[if_pos hk,List.getD_eq_getElem?_getD,List.getElem?_eq_getElem hi]
 exact⟨rfl,_,h.step k.2 (by omega) k.1,k.2⟩
theorem Zr.let(h:Zr W tag q x b4 b5 b9 p e old)(hl:(x.B old.n).length≤100000)(hc:old.kind=1∧(e.kind≠1∨e.n≠old.n))(ho:old.ok=true):
  Calls Tryz.prog 142 #[.pointer (some ⟨q.sp,0,none⟩),.int .i64 old.n,.agg #[.int .i64 p.1,.int .i64 p.2]] W fun r w5=>r=.returned (.tuple #[])∧∃tag5,Zr w5 tag5 q (x.put3 e old p) b4 b5 b9 p e old∧Step (fun c=>c=2∨c=4) tag W tag5 w5:=by
 have hK:0≤old.n∧old.n<1024:=by
  obtain⟨k,n,wr⟩:=old
  dsimp only at hc
  obtain⟨rfl,_⟩:=hc
  simp[Ent.ok,most]at ho
  exact⟨by dsimp only;omega,by dsimp only;omega⟩
 have e1:((old.n.toNat:Nat):Int)=old.n:=by omega
 have:=zkv h.sp old.n.toNat p (by omega) (by rw[e1];exact hl)
 rw[e1]at this
 refine this.mono ?_
 rintro r w5 ⟨rfl,tag5,h1,h2⟩
 unfold za.put3
 rw[if_pos hc]
 exact⟨rfl,tag5,h.step h2 (by omega) h1,h2⟩
theorem Zr.release(h:Zr W tag q x b4 b5 b9 p e old)(hl:∀l∈x.S,l.length≤100000)(hlen:x.S.length=32)(hc:old.kind=2∧(e.kind≠2∨e.n≠old.n))(ho:old.ok=true):
  Calls Tryz.prog 143 #[.pointer (some ⟨q.wp,0,none⟩),.int .i64 old.n,.agg #[.int .i64 p.1,.int .i64 p.2]] W fun r w5=>(∃b,r=.returned (.bool b))∧∃tag5,Zr w5 tag5 q (x.put4 e old p) b4 b5 b9 p e old∧Step (fun c=>c=6) tag W tag5 w5:=by
 obtain⟨S,V,hB,hS⟩:=h.sp.swap
 have hK:0≤old.n∧old.n<32:=by
  obtain⟨k,n,wr⟩:=old
  dsimp only at hc
  obtain⟨rfl,_⟩:=hc
  simp[Ent.ok,most]at ho
  exact⟨by dsimp only;omega,by dsimp only;omega⟩
 have hi:old.n.toNat<x.S.length:=by omega
 have hm:=hl _ (List.getElem_mem hi)
 have:=zc7 W q.wp S V x.S hB old.n.toNat x.S[old.n.toNat] (List.getElem?_eq_getElem hi) p hm
 rw[show((old.n.toNat:Nat):Int)=old.n by omega]at this
 refine this.mono ?_
 rintro r w5 ⟨rfl,S',V',h1,h2,h3⟩
 have k:=h.sp.swap' hS h2 h3 h1
 unfold za.put4
 rw[if_pos hc,List.getD_eq_getElem?_getD,List.getElem?_eq_getElem hi]
 exact⟨⟨_,rfl⟩,_,h.step k.2 (by omega) k.1,k.2⟩
end
end Go.Proofs.YtnhdmnijiphjjaaGreat
