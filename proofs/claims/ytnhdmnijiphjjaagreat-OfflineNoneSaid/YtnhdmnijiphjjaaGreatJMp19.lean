/- Processes: present: the frame of any page. -/
import Derived.Test.YtnhdmnijiphjjaaGreatJMp18
set_option linter.unusedVariables false
set_option linter.unusedSimpArgs false
set_option maxRecDepth 100000
set_option maxHeartbeats 2000000
namespace Go.Proofs.YtnhdmnijiphjjaaGreat
open Go Go.RowKit
section
variable {w w':World}{tag tag':Nat→Nat}{q:Sq}{x:za}
theorem zb6(h:zb w tag q x)(n page:Nat)(pr:yj)(hn:n<8)(hp:x.T n=some pr)(a:Ar)(N:List Nat→Option Nat)(ok:xm ⟨x.R,x.P,pr.T⟩ N)(hpg:page<4096)(old:Ent)(hold:mapOf x.R N page=old)(hk:old.kind=2)(Z:Value→World→Prop)(hF:∀W tag',zb W tag' q x→Step (CP n) tag w tag' W→Calls Tryz.prog 211 #[ptrV q.sp,.int .i64 old.n] W fun r w'=>∃v c,r=.returned (.tuple #[.int .i64 v,.int .i64 c])∧Z (.tuple #[.int .i64 v,.int .i64 c]) w'):
  Calls Tryz.prog 168 #[ptrV q.sp,.agg #[.int .i64 n,.int .i64 page],a.enc] w fun r w'=>∃v c,r=.returned (.tuple #[.int .i64 v,.int .i64 c])∧Z (.tuple #[.int .i64 v,.int .i64 c]) w':=by
 obtain⟨w0,hw0⟩:∃w0,w0=(w.alloc (.cells #[.int .i64 n,.int .i64 page] 58 (0,0))).alloc (.cells #[.int .i64 a.from_,.int .i64 a.pages,.bool a.write,.int .i64 a.kind,.int .i64 a.file,.int .i64 a.off] 32 (0,0)):=⟨_,rfl⟩
 have hb0:Below w.heap.size w w0:=by rw[hw0];exact((Below.refl w.heap.size w).alloc (Nat.le_refl _) _).alloc (by simp) _
 have z0:w0.heap.size=w.heap.size+2:=by rw[hw0];simp
 have nb4:w0.heap[w.heap.size]?=some (.cells #[.int .i64 n,.int .i64 page] 58 (0,0)):=by
  rw[hw0,Below.heap_alloc _ _ _ (by simp)]
  exact heap_alloc_new w _
 have nb5:w0.heap[w.heap.size+1]?=some (.cells #[.int .i64 a.from_,.int .i64 a.pages,.bool a.write,.int .i64 a.kind,.int .i64 a.file,.int .i64 a.off] 32 (0,0)):=by
  rw[hw0]
  have:=heap_alloc_new (w.alloc (.cells #[.int .i64 n,.int .i64 page] 58 (0,0))) (.cells #[.int .i64 a.from_,.int .i64 a.pages,.bool a.write,.int .i64 a.kind,.int .i64 a.file,.int .i64 a.off] 32 (0,0))
  rw[World.size_alloc]at this
  exact this
 have s0:Step (CP n) tag w (retag tag w 0) w0:=Step.anew hb0
 have h0:zb w0 (retag tag w 0) q x:=h.step (Step.anew hb0)
 have d40:w0.cell? ⟨w.heap.size,0,none⟩=some (.int .i64 n):=by rw[cell_of_row _ _ 0 _ _ _ nb4];rfl
 have d41:w0.cell? ⟨w.heap.size,1,none⟩=some (.int .i64 page):=by rw[cell_of_row _ _ 1 _ _ _ nb4];rfl
 obtain⟨av,r1,_,_⟩:=(h0.procs n pr hn hp).row
 have c0:w0.cell? ⟨(q.U n).ap,0,none⟩=some (.pointer (some ⟨(q.U n).tp,0,none⟩)):=r1.cell (i:=0) (by omega)
 have c6:w0.cell? ⟨q.sp,6,none⟩=some (.map (some q.pm)):=h0.row.cell (i:=6) (by omega)
 have hs:(x.T n).isSome=true:=by rw[hp];rfl
 have lk:∀W',Below w0.heap.size w0 W'→(Instr.lookup 53 (.map (some q.pm)) (.int .i64 n) false).run Tryz.prog W'=.ok (.pointer (some ⟨(q.U n).ap,0,none⟩)) W':=fun W' hW'=>(h0.below hW').zd0 n hs
 have lk1:=lk w0.drew (Below.refl _ _).drew
 have lk2:=fun o=>lk (w0.alloc o).drew (((Below.refl _ _).alloc (Nat.le_refl _) o).drew)
 have G:Hid (∀W',Below w0.heap.size w0 W'→Calls Tryz.prog 35 #[.pointer (some ⟨(q.U n).tp,0,none⟩),.int .i64 page] W' fun r w2=>r=.returned (.tuple #[entV old,.int .i64 0])∧Below W'.heap.size W' w2):=fun W' hW'=>by
  rw[←hold]
  exact Vb _ _ _ _ _ ((h0.below hW').rpt hn hp) ok.tree page page rfl hpg
 have kp:∀w2,Below w0.heap.size w0 w2→(w2.cell? ⟨(q.U n).ap,0,none⟩=some (.pointer (some ⟨(q.U n).tp,0,none⟩))∧w2.cell? ⟨q.sp,6,none⟩=some (.map (some q.pm))∧w2.cell? ⟨w.heap.size,0,none⟩=some (.int .i64 n)∧w2.cell? ⟨w.heap.size,1,none⟩=some (.int .i64 page))∧¬w2.heap.size=(q.U n).ap∧¬w2.heap.size=w.heap.size∧¬w2.heap.size=q.sp:=fun w2 hb=>by
  have l1:=World.block_lt_of_cell? _ _ c0
  have l2:=World.block_lt_of_cell? _ _ c6
  have l3:=World.block_lt_of_cell? _ _ d40
  have hz:=hb.size
  dsimp only at l1 l2 l3
  exact⟨⟨(hb.cell l1).trans c0,(hb.cell l2).trans c6,(hb.cell l3).trans d40,(hb.cell (World.block_lt_of_cell? _ _ d41)).trans d41⟩,by omega,by omega,by omega⟩
 have ka:∀o,(w0.alloc o).cell? ⟨(q.U n).ap,0,none⟩=some (.pointer (some ⟨(q.U n).tp,0,none⟩))∧(w0.alloc o).cell? ⟨q.sp,6,none⟩=some (.map (some q.pm))∧(w0.alloc o).cell? ⟨w.heap.size,0,none⟩=some (.int .i64 n)∧(w0.alloc o).cell? ⟨w.heap.size,1,none⟩=some (.int .i64 page):=fun o=>(kp _ ((Below.refl _ _).alloc (Nat.le_refl _) o)).1
 have ka0:=fun o=>(ka o).1
 have ka1:=fun o=>(ka o).2.1
 have ka2:=fun o=>(ka o).2.2.1
 have ka3:=fun o=>(ka o).2.2.2
 obtain⟨_,e1,e2,e3⟩:=kp w0 (Below.refl _ _)
 have e1':¬w.heap.size+2=(q.U n).ap:=by omega
 have e3':¬w.heap.size+2=q.sp:=by omega
 have G1:Hid (Calls Tryz.prog 35 #[.pointer (some ⟨(q.U n).tp,0,none⟩),.int .i64 page] w0.drew fun r w2=>r=.returned (.tuple #[entV old,.int .i64 0])∧(w2.cell? ⟨(q.U n).ap,0,none⟩=some (.pointer (some ⟨(q.U n).tp,0,none⟩))∧w2.cell? ⟨q.sp,6,none⟩=some (.map (some q.pm))∧w2.cell? ⟨w.heap.size,0,none⟩=some (.int .i64 n)∧w2.cell? ⟨w.heap.size,1,none⟩=some (.int .i64 page))∧
   (∀o,(w2.alloc o).cell? ⟨(q.U n).ap,0,none⟩=some (.pointer (some ⟨(q.U n).tp,0,none⟩)))∧(∀o,(w2.alloc o).cell? ⟨q.sp,6,none⟩=some (.map (some q.pm)))∧(∀o,(w2.alloc o).cell? ⟨w.heap.size,0,none⟩=some (.int .i64 n))∧(∀o,(w2.alloc o).cell? ⟨w.heap.size,1,none⟩=some (.int .i64 page))∧(¬w2.heap.size=(q.U n).ap∧¬w2.heap.size=w.heap.size∧¬w2.heap.size=q.sp)∧Below w0.heap.size w0 w2):=by
  refine(G.out w0.drew (Below.refl _ _).drew).mono ?_
  rintro r w2 ⟨rfl,hb⟩
  have hb:Below w0.heap.size w0 w2:=⟨hb.os,hb.tape,hb.output,hb.size,hb.block⟩
  have k:=kp w2 hb
  have ko:=fun o=>(kp (w2.alloc o) (hb.alloc hb.size o)).1
  exact⟨rfl,k.1,fun o=>(ko o).1,fun o=>(ko o).2.1,fun o=>(ko o).2.2.1,fun o=>(ko o).2.2.2,k.2,hb⟩
 have G2:Hid (Calls Tryz.prog 35 #[.pointer (some ⟨(q.U n).tp,0,none⟩),.int .i64 page] (w0.alloc (.cells #[.int .i64 0,.int .i64 0,.bool false] 70)).drew fun r w2=>r=.returned (.tuple #[entV old,.int .i64 0])∧(w2.cell? ⟨(q.U n).ap,0,none⟩=some (.pointer (some ⟨(q.U n).tp,0,none⟩))∧w2.cell? ⟨q.sp,6,none⟩=some (.map (some q.pm))∧w2.cell? ⟨w.heap.size,0,none⟩=some (.int .i64 n)∧w2.cell? ⟨w.heap.size,1,none⟩=some (.int .i64 page))∧
   (w2.cell? ⟨w.heap.size+2,0,none⟩=some (.int .i64 0)∧w2.cell? ⟨w.heap.size+2,1,none⟩=some (.int .i64 0)∧w2.cell? ⟨w.heap.size+2,2,none⟩=some (.bool false)∧w2.frozen? ⟨w.heap.size+2,0,none⟩=false∧w2.frozen? ⟨w.heap.size+2,1,none⟩=false∧w2.frozen? ⟨w.heap.size+2,2,none⟩=false)∧Below w0.heap.size w0 w2):=by
  refine(G.out _ ((Below.refl _ _).alloc (Nat.le_refl _) _).drew).mono ?_
  rintro r w2 ⟨rfl,hb⟩
  have hb:Below (w0.alloc (.cells #[.int .i64 0,.int .i64 0,.bool false] 70)).heap.size (w0.alloc (.cells #[.int .i64 0,.int .i64 0,.bool false] 70)) w2:=⟨hb.os,hb.tape,hb.output,hb.size,hb.block⟩
  have nb:=(hb.block w0.heap.size (by simp)).trans (heap_alloc_new w0 (.cells #[.int .i64 0,.int .i64 0,.bool false] 70))
  rw[z0]at nb
  have hbb:Below w0.heap.size w0 w2:=((Below.refl _ _).alloc (Nat.le_refl _) _).trans (hb.mono (by simp))
  exact⟨rfl,(kp w2 hbb).1,⟨by rw[cell_of_row _ _ 0 _ _ _ nb];rfl,by rw[cell_of_row _ _ 1 _ _ _ nb];rfl,by rw[cell_of_row _ _ 2 _ _ _ nb];rfl,by simp[World.frozen?,nb],by simp[World.frozen?,nb],by simp[World.frozen?,nb]⟩,hbb⟩
 have fin:Hid (∀W3,Turn (fun _=>False) w0 W3→(W3.cell? ⟨w.heap.size,0,none⟩=some (.int .i64 n)∧W3.cell? ⟨w.heap.size,1,none⟩=some (.int .i64 page)∧W3.cell? ⟨w.heap.size+1,0,none⟩=some (.int .i64 a.from_)∧W3.cell? ⟨w.heap.size+1,1,none⟩=some (.int .i64 a.pages)∧W3.cell? ⟨w.heap.size+1,2,none⟩=some (.bool a.write)∧W3.cell? ⟨w.heap.size+1,3,none⟩=some (.int .i64 a.kind)∧W3.cell? ⟨w.heap.size+1,4,none⟩=some (.int .i64 a.file)∧W3.cell? ⟨w.heap.size+1,5,none⟩=some (.int .i64 a.off))∧Calls Tryz.prog 211 #[ptrV q.sp,.int .i64 old.n] W3 fun r w'=>∃v c,r=.returned (.tuple #[.int .i64 v,.int .i64 c])∧Z (.tuple #[.int .i64 v,.int .i64 c]) w'):=fun W3 t=>by
  have n4:=(t.below.block w.heap.size (Array.getElem?_eq_some_iff.1 nb4).1).trans nb4
  have n5:=(t.below.block (w.heap.size+1) (Array.getElem?_eq_some_iff.1 nb5).1).trans nb5
  refine⟨⟨?_,?_,?_,?_,?_,?_,?_,?_⟩,hF W3 (retag tag w 0) (h0.below t.below) (s0.trans (Step.of_below t.below))⟩
  ·rw[cell_of_row _ _ 0 _ _ _ n4];rfl
  ·rw[cell_of_row _ _ 1 _ _ _ n4];rfl
  ·rw[cell_of_row _ _ 0 _ _ _ n5];rfl
  ·rw[cell_of_row _ _ 1 _ _ _ n5];rfl
  ·rw[cell_of_row _ _ 2 _ _ _ n5];rfl
  ·rw[cell_of_row _ _ 3 _ _ _ n5];rfl
  ·rw[cell_of_row _ _ 4 _ _ _ n5];rfl
  ·rw[cell_of_row _ _ 5 _ _ _ n5];rfl
 have HW:=Lib.hid hw0
 unfold entV at G1 G2
 unfold ptrV at fin
 unfold ptrV Ar.enc
 have hk1:((old.kind:Int)==3)=false:=beq_eq_false_iff_ne.2 (by omega)
 have hk2:((old.kind:Int)==2)=true:=beq_iff_eq.2 (by omega)
 rw[HW.out]at d40 d41 c0 c6
 clear h hb0 nb4 nb5 s0 h0 hF r1 hs lk kp ka G hw0 hold hk
 go_enter Tryz.func168,Tryz.ntmps168
 go_wp2_with fail
 rw[←HW.out]
 rw[←HW.out]at d40 d41 c0 c6
 go_region_held (fun W'=>W'.cell? ⟨(q.U n).ap,0,none⟩=some (.pointer (some ⟨(q.U n).tp,0,none⟩))∧W'.cell? ⟨q.sp,6,none⟩=some (.map (some q.pm))∧W'.cell? ⟨w.heap.size,0,none⟩=some (.int .i64 n)∧W'.cell? ⟨w.heap.size,1,none⟩=some (.int .i64 page)) (go_keep)
  (first
   | (go_at_call 35;refine G1.out.mono ?_;rintro r w2 ⟨rfl,⟨g1,g2,g3,g4⟩,y0,y1,y2,y3,⟨n1,n2,n3⟩,HX⟩;have hX:=Lib.hid HX;clear HX)
   | (go_at_call 35;refine G2.out.mono ?_;rintro r w2 ⟨rfl,⟨g1,g2,g3,g4⟩,⟨y0,y1,y2,y3,y4,y5⟩,HX⟩;have hX:=Lib.hid HX;clear HX))
 ·clear g1 g2 g3 g4 y0 y1 y2 y3 n1 n2 n3 d40 d41 c0 c6 ka0 ka1 ka2 ka3 lk1 lk2
  obtain⟨⟨t0,t1,t2,t3,t4,t5,t6,t7⟩,CF⟩:=fin.out _ ((Turn.of_below hX.out).alloc (.cells #[.int .i64 old.kind,.int .i64 old.n,.bool old.write] 70 (0,0)))
  have CF:=Lib.hid CF
  clear fin
  go_wp2_with fail
  refine CF.out.mono ?_
  rintro r w5 ⟨v,c,rfl,hz⟩
  have HZ:=Lib.hid hz
  clear hz t0 t1 t2 t3 t4 t5 t6 t7
  go_wp2_with fail
  exact bodyPost_ret (v:=.tuple #[.int .i64 v,.int .i64 c]) (by simp[results,Tryz.results168,go_sem]) rfl ⟨v,c,rfl,HZ.out⟩
 all_goals (
  have tX:Turn (fun _=>False) w0 (((w2.setCell ⟨w.heap.size+2,0,none⟩ (.int .i64 old.kind)).setCell ⟨w.heap.size+2,1,none⟩ (.int .i64 old.n)).setCell ⟨w.heap.size+2,2,none⟩ (.bool old.write)):=
   (((Turn.of_below hX.out).set (p:=⟨w.heap.size+2,0,none⟩) (.inr (Nat.le_of_eq z0)) _).set (p:=⟨w.heap.size+2,1,none⟩) (.inr (Nat.le_of_eq z0)) _).set (p:=⟨w.heap.size+2,2,none⟩) (.inr (Nat.le_of_eq z0)) _
  clear g1 g2 g3 g4 d40 d41 c0 c6 ka0 ka1 ka2 ka3 lk1 lk2
  obtain⟨⟨t0,t1,t2,t3,t4,t5,t6,t7⟩,CF⟩:=fin.out _ tX
  have CF:=Lib.hid CF
  clear fin
  go_wp2_with fail
  refine CF.out.mono ?_
  rintro r w5 ⟨v,c,rfl,hz⟩
  have HZ:=Lib.hid hz
  clear hz t0 t1 t2 t3 t4 t5 t6 t7
  go_wp2_with fail
  exact bodyPost_ret (v:=.tuple #[.int .i64 v,.int .i64 c]) (by simp[results,Tryz.results168,go_sem]) rfl ⟨v,c,rfl,HZ.out⟩)
theorem zb8(h:zb w tag q x)(n page:Nat)(pr:yj)(hn:n<8)(hp:x.T n=some pr)(a:Ar)(N:List Nat→Option Nat)(ok:xm ⟨x.R,x.P,pr.T⟩ N)(hpg:page<4096)(old:Ent)(hold:mapOf x.R N page=old)(hk:old.kind=3)(Z:World→Prop)(hF:∀W tag',zb W tag' q x→Step (CP n) tag w tag' W→Calls Tryz.prog 22 #[ptrV q.sp,.int .i64 n,.int .i64 ((page:Int)*64)] W fun r w'=>r=.returned (.tuple #[])∧Z w'):
  Calls Tryz.prog 168 #[ptrV q.sp,.agg #[.int .i64 n,.int .i64 page],a.enc] w fun r w'=>r=.returned (.tuple #[.int .i64 0,.int .i64 7])∧Z w':=by
 obtain⟨w0,hw0⟩:∃w0,w0=(w.alloc (.cells #[.int .i64 n,.int .i64 page] 58 (0,0))).alloc (.cells #[.int .i64 a.from_,.int .i64 a.pages,.bool a.write,.int .i64 a.kind,.int .i64 a.file,.int .i64 a.off] 32 (0,0)):=⟨_,rfl⟩
 have hb0:Below w.heap.size w w0:=by rw[hw0];exact((Below.refl w.heap.size w).alloc (Nat.le_refl _) _).alloc (by simp) _
 have z0:w0.heap.size=w.heap.size+2:=by rw[hw0];simp
 have nb4:w0.heap[w.heap.size]?=some (.cells #[.int .i64 n,.int .i64 page] 58 (0,0)):=by
  rw[hw0,Below.heap_alloc _ _ _ (by simp)]
  exact heap_alloc_new w _
 have nb5:w0.heap[w.heap.size+1]?=some (.cells #[.int .i64 a.from_,.int .i64 a.pages,.bool a.write,.int .i64 a.kind,.int .i64 a.file,.int .i64 a.off] 32 (0,0)):=by
  rw[hw0]
  have:=heap_alloc_new (w.alloc (.cells #[.int .i64 n,.int .i64 page] 58 (0,0))) (.cells #[.int .i64 a.from_,.int .i64 a.pages,.bool a.write,.int .i64 a.kind,.int .i64 a.file,.int .i64 a.off] 32 (0,0))
  rw[World.size_alloc]at this
  exact this
 have s0:Step (CP n) tag w (retag tag w 0) w0:=Step.anew hb0
 have h0:zb w0 (retag tag w 0) q x:=h.step (Step.anew hb0)
 have d40:w0.cell? ⟨w.heap.size,0,none⟩=some (.int .i64 n):=by rw[cell_of_row _ _ 0 _ _ _ nb4];rfl
 have d41:w0.cell? ⟨w.heap.size,1,none⟩=some (.int .i64 page):=by rw[cell_of_row _ _ 1 _ _ _ nb4];rfl
 obtain⟨av,r1,_,_⟩:=(h0.procs n pr hn hp).row
 have c0:w0.cell? ⟨(q.U n).ap,0,none⟩=some (.pointer (some ⟨(q.U n).tp,0,none⟩)):=r1.cell (i:=0) (by omega)
 have c6:w0.cell? ⟨q.sp,6,none⟩=some (.map (some q.pm)):=h0.row.cell (i:=6) (by omega)
 have hs:(x.T n).isSome=true:=by rw[hp];rfl
 have lk:∀W',Below w0.heap.size w0 W'→(Instr.lookup 53 (.map (some q.pm)) (.int .i64 n) false).run Tryz.prog W'=.ok (.pointer (some ⟨(q.U n).ap,0,none⟩)) W':=fun W' hW'=>(h0.below hW').zd0 n hs
 have lk1:=lk w0.drew (Below.refl _ _).drew
 have lk2:=fun o=>lk (w0.alloc o).drew (((Below.refl _ _).alloc (Nat.le_refl _) o).drew)
 have G:Hid (∀W',Below w0.heap.size w0 W'→Calls Tryz.prog 35 #[.pointer (some ⟨(q.U n).tp,0,none⟩),.int .i64 page] W' fun r w2=>r=.returned (.tuple #[entV old,.int .i64 0])∧Below W'.heap.size W' w2):=fun W' hW'=>by
  rw[←hold]
  exact Vb _ _ _ _ _ ((h0.below hW').rpt hn hp) ok.tree page page rfl hpg
 have kp:∀w2,Below w0.heap.size w0 w2→(w2.cell? ⟨(q.U n).ap,0,none⟩=some (.pointer (some ⟨(q.U n).tp,0,none⟩))∧w2.cell? ⟨q.sp,6,none⟩=some (.map (some q.pm))∧w2.cell? ⟨w.heap.size,0,none⟩=some (.int .i64 n)∧w2.cell? ⟨w.heap.size,1,none⟩=some (.int .i64 page))∧¬w2.heap.size=(q.U n).ap∧¬w2.heap.size=w.heap.size∧¬w2.heap.size=q.sp:=fun w2 hb=>by
  have l1:=World.block_lt_of_cell? _ _ c0
  have l2:=World.block_lt_of_cell? _ _ c6
  have l3:=World.block_lt_of_cell? _ _ d40
  have hz:=hb.size
  dsimp only at l1 l2 l3
  exact⟨⟨(hb.cell l1).trans c0,(hb.cell l2).trans c6,(hb.cell l3).trans d40,(hb.cell (World.block_lt_of_cell? _ _ d41)).trans d41⟩,by omega,by omega,by omega⟩
 have ka:∀o,(w0.alloc o).cell? ⟨(q.U n).ap,0,none⟩=some (.pointer (some ⟨(q.U n).tp,0,none⟩))∧(w0.alloc o).cell? ⟨q.sp,6,none⟩=some (.map (some q.pm))∧(w0.alloc o).cell? ⟨w.heap.size,0,none⟩=some (.int .i64 n)∧(w0.alloc o).cell? ⟨w.heap.size,1,none⟩=some (.int .i64 page):=fun o=>(kp _ ((Below.refl _ _).alloc (Nat.le_refl _) o)).1
 have ka0:=fun o=>(ka o).1
 have ka1:=fun o=>(ka o).2.1
 have ka2:=fun o=>(ka o).2.2.1
 have ka3:=fun o=>(ka o).2.2.2
 obtain⟨_,e1,e2,e3⟩:=kp w0 (Below.refl _ _)
 have e1':¬w.heap.size+2=(q.U n).ap:=by omega
 have e3':¬w.heap.size+2=q.sp:=by omega
 have G1:Hid (Calls Tryz.prog 35 #[.pointer (some ⟨(q.U n).tp,0,none⟩),.int .i64 page] w0.drew fun r w2=>r=.returned (.tuple #[entV old,.int .i64 0])∧(w2.cell? ⟨(q.U n).ap,0,none⟩=some (.pointer (some ⟨(q.U n).tp,0,none⟩))∧w2.cell? ⟨q.sp,6,none⟩=some (.map (some q.pm))∧w2.cell? ⟨w.heap.size,0,none⟩=some (.int .i64 n)∧w2.cell? ⟨w.heap.size,1,none⟩=some (.int .i64 page))∧
   (∀o,(w2.alloc o).cell? ⟨(q.U n).ap,0,none⟩=some (.pointer (some ⟨(q.U n).tp,0,none⟩)))∧(∀o,(w2.alloc o).cell? ⟨q.sp,6,none⟩=some (.map (some q.pm)))∧(∀o,(w2.alloc o).cell? ⟨w.heap.size,0,none⟩=some (.int .i64 n))∧(∀o,(w2.alloc o).cell? ⟨w.heap.size,1,none⟩=some (.int .i64 page))∧(¬w2.heap.size=(q.U n).ap∧¬w2.heap.size=w.heap.size∧¬w2.heap.size=q.sp)∧Below w0.heap.size w0 w2):=by
  refine(G.out w0.drew (Below.refl _ _).drew).mono ?_
  rintro r w2 ⟨rfl,hb⟩
  have hb:Below w0.heap.size w0 w2:=⟨hb.os,hb.tape,hb.output,hb.size,hb.block⟩
  have k:=kp w2 hb
  have ko:=fun o=>(kp (w2.alloc o) (hb.alloc hb.size o)).1
  exact⟨rfl,k.1,fun o=>(ko o).1,fun o=>(ko o).2.1,fun o=>(ko o).2.2.1,fun o=>(ko o).2.2.2,k.2,hb⟩
 have G2:Hid (Calls Tryz.prog 35 #[.pointer (some ⟨(q.U n).tp,0,none⟩),.int .i64 page] (w0.alloc (.cells #[.int .i64 0,.int .i64 0,.bool false] 70)).drew fun r w2=>r=.returned (.tuple #[entV old,.int .i64 0])∧(w2.cell? ⟨(q.U n).ap,0,none⟩=some (.pointer (some ⟨(q.U n).tp,0,none⟩))∧w2.cell? ⟨q.sp,6,none⟩=some (.map (some q.pm))∧w2.cell? ⟨w.heap.size,0,none⟩=some (.int .i64 n)∧w2.cell? ⟨w.heap.size,1,none⟩=some (.int .i64 page))∧
   (w2.cell? ⟨w.heap.size+2,0,none⟩=some (.int .i64 0)∧w2.cell? ⟨w.heap.size+2,1,none⟩=some (.int .i64 0)∧w2.cell? ⟨w.heap.size+2,2,none⟩=some (.bool false)∧w2.frozen? ⟨w.heap.size+2,0,none⟩=false∧w2.frozen? ⟨w.heap.size+2,1,none⟩=false∧w2.frozen? ⟨w.heap.size+2,2,none⟩=false)∧Below w0.heap.size w0 w2):=by
  refine(G.out _ ((Below.refl _ _).alloc (Nat.le_refl _) _).drew).mono ?_
  rintro r w2 ⟨rfl,hb⟩
  have hb:Below (w0.alloc (.cells #[.int .i64 0,.int .i64 0,.bool false] 70)).heap.size (w0.alloc (.cells #[.int .i64 0,.int .i64 0,.bool false] 70)) w2:=⟨hb.os,hb.tape,hb.output,hb.size,hb.block⟩
  have nb:=(hb.block w0.heap.size (by simp)).trans (heap_alloc_new w0 (.cells #[.int .i64 0,.int .i64 0,.bool false] 70))
  rw[z0]at nb
  have hbb:Below w0.heap.size w0 w2:=((Below.refl _ _).alloc (Nat.le_refl _) _).trans (hb.mono (by simp))
  exact⟨rfl,(kp w2 hbb).1,⟨by rw[cell_of_row _ _ 0 _ _ _ nb];rfl,by rw[cell_of_row _ _ 1 _ _ _ nb];rfl,by rw[cell_of_row _ _ 2 _ _ _ nb];rfl,by simp[World.frozen?,nb],by simp[World.frozen?,nb],by simp[World.frozen?,nb]⟩,hbb⟩
 have fin:Hid (∀W3,Turn (fun _=>False) w0 W3→(W3.cell? ⟨w.heap.size,0,none⟩=some (.int .i64 n)∧W3.cell? ⟨w.heap.size,1,none⟩=some (.int .i64 page)∧W3.cell? ⟨w.heap.size+1,0,none⟩=some (.int .i64 a.from_)∧W3.cell? ⟨w.heap.size+1,1,none⟩=some (.int .i64 a.pages)∧W3.cell? ⟨w.heap.size+1,2,none⟩=some (.bool a.write)∧W3.cell? ⟨w.heap.size+1,3,none⟩=some (.int .i64 a.kind)∧W3.cell? ⟨w.heap.size+1,4,none⟩=some (.int .i64 a.file)∧W3.cell? ⟨w.heap.size+1,5,none⟩=some (.int .i64 a.off))∧Calls Tryz.prog 22 #[ptrV q.sp,.int .i64 n,.int .i64 ((page:Int)*64)] W3 fun r w'=>r=.returned (.tuple #[])∧Z w'):=fun W3 t=>by
  have n4:=(t.below.block w.heap.size (Array.getElem?_eq_some_iff.1 nb4).1).trans nb4
  have n5:=(t.below.block (w.heap.size+1) (Array.getElem?_eq_some_iff.1 nb5).1).trans nb5
  refine⟨⟨?_,?_,?_,?_,?_,?_,?_,?_⟩,hF W3 (retag tag w 0) (h0.below t.below) (s0.trans (Step.of_below t.below))⟩
  ·rw[cell_of_row _ _ 0 _ _ _ n4];rfl
  ·rw[cell_of_row _ _ 1 _ _ _ n4];rfl
  ·rw[cell_of_row _ _ 0 _ _ _ n5];rfl
  ·rw[cell_of_row _ _ 1 _ _ _ n5];rfl
  ·rw[cell_of_row _ _ 2 _ _ _ n5];rfl
  ·rw[cell_of_row _ _ 3 _ _ _ n5];rfl
  ·rw[cell_of_row _ _ 4 _ _ _ n5];rfl
  ·rw[cell_of_row _ _ 5 _ _ _ n5];rfl
 have HW:=Lib.hid hw0
 unfold entV at G1 G2
 unfold ptrV at fin
 unfold ptrV Ar.enc
 have hk1:((old.kind:Int)==3)=true:=beq_iff_eq.2 (by omega)
 have d64:IntKind.i64.wrap ((page:Int)*64)=(page:Int)*64:=by simp[IntKind.wrap,IntKind.bits,IntKind.signed];omega
 rw[HW.out]at d40 d41 c0 c6
 clear h hb0 nb4 nb5 s0 h0 hF r1 hs lk kp ka G hw0 hold hk
 go_enter Tryz.func168,Tryz.ntmps168
 go_wp2_with fail
 rw[←HW.out]
 rw[←HW.out]at d40 d41 c0 c6
 go_region_held (fun W'=>W'.cell? ⟨(q.U n).ap,0,none⟩=some (.pointer (some ⟨(q.U n).tp,0,none⟩))∧W'.cell? ⟨q.sp,6,none⟩=some (.map (some q.pm))∧W'.cell? ⟨w.heap.size,0,none⟩=some (.int .i64 n)∧W'.cell? ⟨w.heap.size,1,none⟩=some (.int .i64 page)) (go_keep)
  (first
   | (go_at_call 35;refine G1.out.mono ?_;rintro r w2 ⟨rfl,⟨g1,g2,g3,g4⟩,y0,y1,y2,y3,⟨n1,n2,n3⟩,HX⟩;have hX:=Lib.hid HX;clear HX)
   | (go_at_call 35;refine G2.out.mono ?_;rintro r w2 ⟨rfl,⟨g1,g2,g3,g4⟩,⟨y0,y1,y2,y3,y4,y5⟩,HX⟩;have hX:=Lib.hid HX;clear HX))
 ·clear g1 g2 g3 g4 y0 y1 y2 y3 n1 n2 n3 d40 d41 c0 c6 ka0 ka1 ka2 ka3 lk1 lk2
  obtain⟨⟨t0,t1,t2,t3,t4,t5,t6,t7⟩,CF⟩:=fin.out _ ((Turn.of_below hX.out).alloc (.cells #[.int .i64 old.kind,.int .i64 old.n,.bool old.write] 70 (0,0)))
  have CF:=Lib.hid CF
  clear fin
  go_wp2_with fail
  refine CF.out.mono ?_
  rintro r w5 ⟨rfl,hz⟩
  have HZ:=Lib.hid hz
  clear hz t0 t1 t2 t3 t4 t5 t6 t7
  go_wp2_with fail
  exact bodyPost_ret (v:=.tuple #[.int .i64 0,.int .i64 7]) (by simp[results,Tryz.results168,go_sem]) rfl ⟨rfl,HZ.out⟩
 all_goals (
  have tX:Turn (fun _=>False) w0 (((w2.setCell ⟨w.heap.size+2,0,none⟩ (.int .i64 old.kind)).setCell ⟨w.heap.size+2,1,none⟩ (.int .i64 old.n)).setCell ⟨w.heap.size+2,2,none⟩ (.bool old.write)):=
   (((Turn.of_below hX.out).set (p:=⟨w.heap.size+2,0,none⟩) (.inr (Nat.le_of_eq z0)) _).set (p:=⟨w.heap.size+2,1,none⟩) (.inr (Nat.le_of_eq z0)) _).set (p:=⟨w.heap.size+2,2,none⟩) (.inr (Nat.le_of_eq z0)) _
  clear g1 g2 g3 g4 d40 d41 c0 c6 ka0 ka1 ka2 ka3 lk1 lk2
  obtain⟨⟨t0,t1,t2,t3,t4,t5,t6,t7⟩,CF⟩:=fin.out _ tX
  have CF:=Lib.hid CF
  clear fin
  go_wp2_with fail
  refine CF.out.mono ?_
  rintro r w5 ⟨rfl,hz⟩
  have HZ:=Lib.hid hz
  clear hz t0 t1 t2 t3 t4 t5 t6 t7
  go_wp2_with fail
  exact bodyPost_ret (v:=.tuple #[.int .i64 0,.int .i64 7]) (by simp[results,Tryz.results168,go_sem]) rfl ⟨rfl,HZ.out⟩)
theorem zmf(h:zb w tag q x)(n:Nat)(hn:n<8)(at_:Int)(hp:(x.T n).isSome=true):Calls Tryz.prog 22 #[ptrV q.sp,.int .i64 n,.int .i64 at_] w fun e w'=>e=.returned (.tuple #[])∧zb w' tag q (x.jc n at_)∧Step (fun c=>c=40+n) tag w tag w':=by
 obtain⟨pr,hpr⟩:=Option.isSome_iff_exists.1 hp
 refine(zjw h n n at_ rfl pr hn hpr).mono ?_
 rintro e w1 ⟨rfl,h1,s1⟩
 unfold za.jc
 rw[hpr]
 exact⟨rfl,h1,s1⟩
def CB(c:Nat):Prop:=c=1∨c=2∨c=3∨c=4∨c=5∨c=6∨10≤c∧c<18∨40≤c∧c<48
theorem zmz{c:Nat}(h:CA c):CB c:=by unfold CA at h;unfold CB;omega
theorem zmy{n c:Nat}(hn:n<8)(h:CP n c):CB c:=zmz (Jq hn h)
theorem CB0:¬CB 0:=by unfold CB;omega
theorem U4(h:zb w tag q x)(wf:WF x)(n page:Nat)(pr:yj)(hn:n<8)(hp:x.T n=some pr)(hpg:page<4096)(a:Ar)(ha:yh pr.A (page:Int)=some a):
  Calls Tryz.prog 168 #[ptrV q.sp,.agg #[.int .i64 n,.int .i64 page],a.enc] w fun e w'=>e=.returned (.tuple #[.int .i64 (x.zt n page a).1.1,.int .i64 (x.zt n page a).1.2])∧∃tag',zb w' tag' q (x.zt n page a).2∧Step CB tag w tag' w':=by
 obtain⟨N,ok⟩:=wf.rpt n pr hp
 have hent:=wf.Vm hp ok hpg
 have hok:=wf.Y8 n hpg
 unfold za.zt
 by_cases k3:(x.ent n page).kind=3
 ·rw[if_pos k3]
  refine(zb8 h n page pr hn hp a N ok hpg (x.ent n page) hent.symm k3 (fun w'=>∃tag',zb w' tag' q (x.jc n (page*64))∧Step CB tag w tag' w') (fun W tag1 h1 s1=>?_)).mono ?_
  ·refine(zmf h1 n hn _ (by rw[hp];rfl)).mono ?_
   rintro e w2 ⟨rfl,h2,s2⟩
   exact⟨rfl,tag1,h2,(s1.mono fun c hc=>zmy hn hc).trans (s2.mono fun c hc=>by unfold CB;omega)⟩
  ·rintro e w2 ⟨rfl,hz⟩
   exact⟨rfl,hz⟩
 ·rw[if_neg k3]
  by_cases k2:(x.ent n page).kind=2
  ·rw[if_pos k2]
   have hr:=(Ent.ok_n hok).2 k2
   have en:(x.ent n page).n=((x.ent n page).n.toNat:Int):=by omega
   refine(zb6 h n page pr hn hp a N ok hpg (x.ent n page) hent.symm k2 (fun v w'=>v=.tuple #[.int .i64 (x.inF (x.ent n page).n.toNat).1.1,.int .i64 (x.inF (x.ent n page).n.toNat).1.2]∧∃tag',zb w' tag' q (x.inF (x.ent n page).n.toNat).2∧Step CB tag w tag' w') (fun W tag1 h1 s1=>?_)).mono ?_
   ·have:=zn1 h1 wf (x.ent n page).n.toNat (by omega)
    rw[←en]at this
    refine this.mono ?_
    rintro e w2 ⟨rfl,tag2,h2,s2⟩
    exact⟨_,_,rfl,rfl,tag2,h2,(s1.mono fun c hc=>zmy hn hc).trans (s2.mono fun c hc=>zmz hc)⟩
   ·rintro e w2 ⟨v,c,rfl,hz,hy⟩
    exact⟨by rw[hz],hy⟩
  ·rw[if_neg k2]
   by_cases k0:(x.ent n page).kind=0
   ·rw[if_pos k0]
    refine(zb7 h n page pr hn hp a N ok hpg (x.ent n page) hent.symm k0 (fun v w'=>v=.tuple #[.int .i64 (x.uk n page a).1.1,.int .i64 (x.uk n page a).1.2]∧∃tag',zb w' tag' q (x.uk n page a).2∧Step CB tag w tag' w') (fun W tag1 h1 s1=>?_)).mono ?_
    ·refine(zgg h1 wf n page pr hn hp hpg a ha).mono ?_
     rintro e w2 ⟨rfl,tag2,h2,s2⟩
     exact⟨_,_,rfl,rfl,tag2,h2,(s1.mono fun c hc=>zmy hn hc).trans (s2.mono fun c hc=>zmz hc)⟩
    ·rintro e w2 ⟨v,c,rfl,hz,hy⟩
     exact⟨by rw[hz],hy⟩
   ·rw[if_neg k0]
    have hk:(x.ent n page).kind≤3:=by
     unfold Ent.ok at hok
     simp only[Bool.and_eq_true,decide_eq_true_eq]at hok
     exact hok.1.1
    refine(za6 h n page pr hn hp a N ok hpg (x.ent n page) hent.symm (by omega)).mono ?_
    rintro e w2 ⟨rfl,tag2,h2,s2⟩
    exact⟨rfl,tag2,h2,s2.mono fun c hc=>zmy hn hc⟩
end
end Go.Proofs.YtnhdmnijiphjjaaGreat
