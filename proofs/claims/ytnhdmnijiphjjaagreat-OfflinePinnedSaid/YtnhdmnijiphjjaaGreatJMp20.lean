/- Processes: own: the frame of a page that is written. -/
import Derived.Test.YtnhdmnijiphjjaaGreatJMp19
set_option linter.unusedVariables false
set_option linter.unusedSimpArgs false
set_option maxRecDepth 100000
set_option maxHeartbeats 2000000
namespace Go.Proofs.YtnhdmnijiphjjaaGreat
open Go Go.RowKit
section
variable {w w':World}{tag tag':Nat→Nat}{q:Sq}{x:za}
def jy(q:Sq)(b:Nat)(n page:Nat)(a:Ar)(f:Nat):List (Nat×Nat×Value):=
 [(b,0,ptrV q.sp),(b+1,0,.int .i64 n),(b+1,1,.int .i64 page),(b+2,0,.int .i64 a.from_),(b+2,1,.int .i64 a.pages),(b+2,2,.bool a.write),(b+2,3,.int .i64 a.kind),(b+2,4,.int .i64 a.file),(b+2,5,.int .i64 a.off),(b+3,0,.int .i64 f)]
def ownW(w:World)(q:Sq)(n page:Nat)(a:Ar)(f:Nat):World:=
 (((w.alloc (.cells #[.pointer (some ⟨q.sp,0,none⟩)] 24 (0,0))).alloc (.cells #[.int .i64 n,.int .i64 page] 58 (0,0))).alloc (.cells #[.int .i64 a.from_,.int .i64 a.pages,.bool a.write,.int .i64 a.kind,.int .i64 a.file,.int .i64 a.off] 32 (0,0))).alloc (.cells #[.int .i64 f] 3 (0,0))
theorem zb.zfn(h:zb w tag q x)(n page:Nat)(a:Ar)(f:Nat)(w0:World)(hw0:w0=ownW w q n page a f):
  Loc w0 (retag tag w 0) q x (jy q w.heap.size n page a f)∧Step (fun _=>False) tag w (retag tag w 0) w0∧w0.heap.size=w.heap.size+4:=by
 unfold ownW at hw0
 have hb0:Below w.heap.size w w0:=by rw[hw0];exact((((Below.refl w.heap.size w).alloc (Nat.le_refl _) _).alloc (by simp) _).alloc (by simp only[World.size_alloc];omega) _).alloc (by simp only[World.size_alloc];omega) _
 have nb3:w0.heap[w.heap.size+3]?=some (.cells #[.int .i64 f] 3 (0,0)):=by
  rw[hw0]
  have:=heap_alloc_new (((w.alloc (.cells #[.pointer (some ⟨q.sp,0,none⟩)] 24 (0,0))).alloc (.cells #[.int .i64 n,.int .i64 page] 58 (0,0))).alloc (.cells #[.int .i64 a.from_,.int .i64 a.pages,.bool a.write,.int .i64 a.kind,.int .i64 a.file,.int .i64 a.off] 32 (0,0))) (.cells #[.int .i64 f] 3 (0,0))
  simp only[World.size_alloc]at this
  exact this
 have nb2:w0.heap[w.heap.size+2]?=some (.cells #[.int .i64 a.from_,.int .i64 a.pages,.bool a.write,.int .i64 a.kind,.int .i64 a.file,.int .i64 a.off] 32 (0,0)):=by
  rw[hw0,Below.heap_alloc _ _ _ (by simp only[World.size_alloc];omega)]
  have:=heap_alloc_new ((w.alloc (.cells #[.pointer (some ⟨q.sp,0,none⟩)] 24 (0,0))).alloc (.cells #[.int .i64 n,.int .i64 page] 58 (0,0))) (.cells #[.int .i64 a.from_,.int .i64 a.pages,.bool a.write,.int .i64 a.kind,.int .i64 a.file,.int .i64 a.off] 32 (0,0))
  simp only[World.size_alloc]at this
  exact this
 have nb1:w0.heap[w.heap.size+1]?=some (.cells #[.int .i64 n,.int .i64 page] 58 (0,0)):=by
  rw[hw0,Below.heap_alloc _ _ _ (by simp only[World.size_alloc];omega),Below.heap_alloc _ _ _ (by simp)]
  have:=heap_alloc_new (w.alloc (.cells #[.pointer (some ⟨q.sp,0,none⟩)] 24 (0,0))) (.cells #[.int .i64 n,.int .i64 page] 58 (0,0))
  simp only[World.size_alloc]at this
  exact this
 have nb0:w0.heap[w.heap.size]?=some (.cells #[.pointer (some ⟨q.sp,0,none⟩)] 24 (0,0)):=by
  rw[hw0,Below.heap_alloc _ _ _ (by simp only[World.size_alloc];omega),Below.heap_alloc _ _ _ (by simp only[World.size_alloc];omega),Below.heap_alloc _ _ _ (by simp)]
  exact heap_alloc_new w _
 have:=h.loc0.more hb0 (jy q w.heap.size n page a f) (fun t ht=>by
  simp[jy]at ht
  rcases ht with rfl|rfl|rfl|rfl|rfl|rfl|rfl|rfl|rfl|rfl
  ·exact⟨Nat.le_refl _,zo nb0 0 rfl⟩
  ·exact⟨by simp,zo nb1 0 rfl⟩
  ·exact⟨by simp,zo nb1 1 rfl⟩
  ·exact⟨by simp,zo nb2 0 rfl⟩
  ·exact⟨by simp,zo nb2 1 rfl⟩
  ·exact⟨by simp,zo nb2 2 rfl⟩
  ·exact⟨by simp,zo nb2 3 rfl⟩
  ·exact⟨by simp,zo nb2 4 rfl⟩
  ·exact⟨by simp,zo nb2 5 rfl⟩
  ·exact⟨by simp,zo nb3 0 rfl⟩)
 rw[List.append_nil]at this
 exact⟨this.1,this.2,by rw[hw0];simp⟩
theorem zcs{bs bk:Nat}{f:Nat}(h:Loc w tag q x [(bs,0,ptrV q.sp),(bk,0,.int .i64 f)])(hf:f<1024)(hb:x.R.bad f=false)(g:Nat)(hg:g<1024)(hbg:x.R.bad g=false):
  Calls Tryz.prog 214 #[.int .i64 g,.pointer (some ⟨bs,0,none⟩),.pointer (some ⟨bk,0,none⟩)] w fun e w2=>e=.returned (.int .i64 0)∧zb w2 tag q {x with R:=x.R.write g 0 (x.R.read f 0 64)}∧Step (fun c=>c=1) tag w tag w2:=by
 have g0:w.cell? ⟨bs,0,none⟩=some (.pointer (some ⟨q.sp,0,none⟩)):=h.get 0 rfl
 have g1:w.cell? ⟨bk,0,none⟩=some (.int .i64 f):=h.get 1 rfl
 have g3:w.cell? ⟨q.sp,0,none⟩=some (.pointer (some ⟨q.rp,0,none⟩)):=h.cell (i:=0) (by omega)
 have CP:Hid (Calls Tryz.prog 80 #[.pointer (some ⟨q.rp,0,none⟩),.int .i64 f,.int .i64 g] w.drew fun e w1=>e=.returned (.int .i64 0)∧(w1.cell? ⟨bs,0,none⟩=some (.pointer (some ⟨q.sp,0,none⟩))∧w1.cell? ⟨bk,0,none⟩=some (.int .i64 f)∧w1.cell? ⟨q.sp,0,none⟩=some (.pointer (some ⟨q.rp,0,none⟩)))∧zb w1 tag q {x with R:=x.R.write g 0 (x.R.read f 0 64)}∧Step (fun c=>c=1) tag w tag w1):=by
  refine(zdd _ _ _ _ _ h.drew.sp.ram f g f g rfl rfl hf hg hb hbg).mono ?_
  rintro e w1 ⟨rfl,k1,k2,_⟩
  have kk:=h.drew.sp.ram' k2 k1
  have L1:=h.drew.step kk.2 (by omega) kk.1
  exact⟨rfl,⟨L1.get 0 rfl,L1.get 1 rfl,L1.cell (i:=0) (by omega)⟩,kk.1,(Step.of_below (Below.refl _ _).drew).trans kk.2⟩
 clear h
 go_enter Tryz.func214,Tryz.ntmps214
 go_wp2_with fail
 go_region_held (fun W'=>W'.cell? ⟨bs,0,none⟩=some (.pointer (some ⟨q.sp,0,none⟩))∧W'.cell? ⟨bk,0,none⟩=some (.int .i64 f)∧W'.cell? ⟨q.sp,0,none⟩=some (.pointer (some ⟨q.rp,0,none⟩))) (go_keep)
  ((go_at_call 80;refine CP.out.mono ?_;rintro e w1 ⟨rfl,⟨m0,m1,m2⟩,HS⟩;have hS:=Lib.hid HS;clear HS))
 clear CP g0 g1 g3 m0 m1 m2
 go_wp2_with fail
 exact bodyPost_ret (v:=.int .i64 0) (by simp[results,Tryz.results214,go_sem]) rfl ⟨rfl,hS.out⟩
theorem zf6(h:zb w tag q x)(wf:WF x)(n page:Nat)(hn:n<8)(hpg:page<4096)(a:Ar)(f:Nat)(hf:f<1024)(hk:a.kind=2):
  Calls Tryz.prog 169 #[ptrV q.sp,.agg #[.int .i64 n,.int .i64 page],a.enc,.int .i64 f] w fun e w'=>e=.returned (.tuple #[.int .i64 (x.ownF n page a f).1.1,.int .i64 (x.ownF n page a f).1.2])∧∃tag',zb w' tag' q (x.ownF n page a f).2∧Step CA tag w tag' w':=by
 obtain⟨w0,hw0⟩:∃w0,w0=ownW w q n page a f:=⟨_,rfl⟩
 obtain⟨L0,s0,z0⟩:=h.zfn n page a f w0 hw0
 obtain⟨tag0,ht0⟩:∃tag0,tag0=retag tag w 0:=⟨_,rfl⟩
 rw[←ht0]at L0 s0
 clear ht0
 obtain⟨kv,hkv⟩:∃kv,kv=(getL x.CR f).getD (0,0):=⟨_,rfl⟩
 obtain⟨cc,hcc⟩:∃cc,cc=(getL x.CR f).isSome:=⟨_,rfl⟩
 have d0:w0.cell? ⟨w.heap.size,0,none⟩=some (.pointer (some ⟨q.sp,0,none⟩)):=L0.get 0 rfl
 have d3:w0.cell? ⟨w.heap.size+3,0,none⟩=some (.int .i64 f):=L0.get 9 rfl
 have c4:w0.cell? ⟨q.sp,4,none⟩=some (.pointer (some ⟨q.cp,0,none⟩)):=L0.cell (i:=4) (by omega)
 have ne1:¬w.heap.size+4=q.sp:=by have:=World.block_lt_of_cell? _ _ c4;dsimp only at this;omega
 have OF:Hid (∀W,Below w0.heap.size w0 W→Calls Tryz.prog 82 #[.pointer (some ⟨q.cp,0,none⟩),.int .i64 f] W fun e w2=>e=.returned (.tuple #[.agg #[.int .i64 kv.1,.int .i64 kv.2],.bool cc])∧Below W.heap.size W w2):=fun W hb=>by
  have:=(L0.below hb).sp.cof (f:Int)
  rw[←hkv,←hcc]at this
  exact this
 have ka:∀o,(w0.alloc o).cell? ⟨w.heap.size,0,none⟩=some (.pointer (some ⟨q.sp,0,none⟩))∧(w0.alloc o).cell? ⟨w.heap.size+3,0,none⟩=some (.int .i64 f)∧(w0.alloc o).cell? ⟨q.sp,4,none⟩=some (.pointer (some ⟨q.cp,0,none⟩)):=fun o=>by
  have L1:=L0.below ((Below.refl _ w0).alloc (Nat.le_refl _) o)
  exact⟨L1.get 0 rfl,L1.get 9 rfl,L1.cell (i:=4) (by omega)⟩
 have ka0:=fun o=>(ka o).1
 have ka1:=fun o=>(ka o).2.1
 have ka2:=fun o=>(ka o).2.2
 have kp:∀w2,Below w0.heap.size w0 w2→(w2.cell? ⟨w.heap.size,0,none⟩=some (.pointer (some ⟨q.sp,0,none⟩))∧w2.cell? ⟨w.heap.size+3,0,none⟩=some (.int .i64 f)∧w2.cell? ⟨q.sp,4,none⟩=some (.pointer (some ⟨q.cp,0,none⟩))):=fun w2 hb=>by
  have L1:=L0.below hb
  exact⟨L1.get 0 rfl,L1.get 9 rfl,L1.cell (i:=4) (by omega)⟩
 have G1:Hid (Calls Tryz.prog 82 #[.pointer (some ⟨q.cp,0,none⟩),.int .i64 f] w0.drew fun e w2=>e=.returned (.tuple #[.agg #[.int .i64 kv.1,.int .i64 kv.2],.bool cc])∧(w2.cell? ⟨w.heap.size,0,none⟩=some (.pointer (some ⟨q.sp,0,none⟩))∧w2.cell? ⟨w.heap.size+3,0,none⟩=some (.int .i64 f)∧w2.cell? ⟨q.sp,4,none⟩=some (.pointer (some ⟨q.cp,0,none⟩)))∧
   (∀o,(w2.alloc o).cell? ⟨w.heap.size,0,none⟩=some (.pointer (some ⟨q.sp,0,none⟩)))∧(∀o,(w2.alloc o).cell? ⟨w.heap.size+3,0,none⟩=some (.int .i64 f))∧(∀o,(w2.alloc o).cell? ⟨q.sp,4,none⟩=some (.pointer (some ⟨q.cp,0,none⟩)))∧Below w0.heap.size w0 w2):=by
  refine(OF.out w0.drew (Below.refl _ _).drew).mono ?_
  rintro e w2 ⟨rfl,hb⟩
  have hb:Below w0.heap.size w0 w2:=⟨hb.os,hb.tape,hb.output,hb.size,hb.block⟩
  exact⟨rfl,kp w2 hb,fun o=>(kp (w2.alloc o) (hb.alloc hb.size o)).1,fun o=>(kp (w2.alloc o) (hb.alloc hb.size o)).2.1,fun o=>(kp (w2.alloc o) (hb.alloc hb.size o)).2.2,hb⟩
 have G2:Hid (Calls Tryz.prog 82 #[.pointer (some ⟨q.cp,0,none⟩),.int .i64 f] (w0.alloc (.cells #[.int .i64 0,.int .i64 0] 133)).drew fun e w2=>e=.returned (.tuple #[.agg #[.int .i64 kv.1,.int .i64 kv.2],.bool cc])∧(w2.cell? ⟨w.heap.size,0,none⟩=some (.pointer (some ⟨q.sp,0,none⟩))∧w2.cell? ⟨w.heap.size+3,0,none⟩=some (.int .i64 f)∧w2.cell? ⟨q.sp,4,none⟩=some (.pointer (some ⟨q.cp,0,none⟩)))∧
   (w2.cell? ⟨w.heap.size+4,0,none⟩=some (.int .i64 0)∧w2.cell? ⟨w.heap.size+4,1,none⟩=some (.int .i64 0)∧w2.frozen? ⟨w.heap.size+4,0,none⟩=false∧w2.frozen? ⟨w.heap.size+4,1,none⟩=false)∧(Below w0.heap.size w0 w2∧w2.heap[w.heap.size+4]?=some (.cells #[.int .i64 0,.int .i64 0] 133 (0,0)))):=by
  refine(OF.out _ ((Below.refl _ _).alloc (Nat.le_refl _) _).drew).mono ?_
  rintro e w2 ⟨rfl,hb⟩
  have hb:Below (w0.alloc (.cells #[.int .i64 0,.int .i64 0] 133)).heap.size (w0.alloc (.cells #[.int .i64 0,.int .i64 0] 133)) w2:=⟨hb.os,hb.tape,hb.output,hb.size,hb.block⟩
  have nb:=(hb.block w0.heap.size (by simp)).trans (heap_alloc_new w0 (.cells #[.int .i64 0,.int .i64 0] 133))
  rw[z0]at nb
  have hbb:Below w0.heap.size w0 w2:=((Below.refl _ _).alloc (Nat.le_refl _) _).trans (hb.mono (by simp))
  exact⟨rfl,kp w2 hbb,⟨by rw[cell_of_row _ _ 0 _ _ _ nb];rfl,by rw[cell_of_row _ _ 1 _ _ _ nb];rfl,by simp[World.frozen?,nb],by simp[World.frozen?,nb]⟩,hbb,nb⟩
 have fin:Hid (∀W3 kb,Turn (fun _=>False) w0 W3→w0.heap.size≤kb→W3.cell? ⟨kb,0,none⟩=some (.int .i64 kv.1)→W3.cell? ⟨kb,1,none⟩=some (.int .i64 kv.2)→∃tag3,Loc W3 tag3 q x ([(kb,0,.int .i64 kv.1),(kb,1,.int .i64 kv.2)]++jy q w.heap.size n page a f)∧Step (fun _=>False) tag w tag3 W3):=fun W3 kb t hk e0 e1=>by
  obtain⟨L3,s3⟩:=L0.more t.below [(kb,0,.int .i64 kv.1),(kb,1,.int .i64 kv.2)] (fun t ht=>by
   simp at ht
   rcases ht with rfl|rfl
   ·exact⟨hk,e0⟩
   ·exact⟨hk,e1⟩)
  exact⟨_,L3,s0.trans s3⟩
 have mk:Hid (∀W3 kb tag3,Loc W3 tag3 q x ([(kb,0,.int .i64 kv.1),(kb,1,.int .i64 kv.2)]++jy q w.heap.size n page a f)→Step (fun _=>False) tag w tag3 W3→Calls Tryz.prog 86 #[.pointer (some ⟨q.cp,0,none⟩),.agg #[.int .i64 kv.1,.int .i64 kv.2],.bool true] W3.drew fun e w3=>∃b,e=.returned (.bool b)∧(w3.cell? ⟨w.heap.size,0,none⟩=some (.pointer (some ⟨q.sp,0,none⟩))∧w3.cell? ⟨q.sp,4,none⟩=some (.pointer (some ⟨q.cp,0,none⟩))∧w3.cell? ⟨kb,0,none⟩=some (.int .i64 kv.1)∧w3.cell? ⟨kb,1,none⟩=some (.int .i64 kv.2))∧w3.cell? ⟨w.heap.size+3,0,none⟩=some (.int .i64 f)∧zb w3 tag3 q (x.y7 kv true)∧Step CA tag w tag3 w3):=fun W3 kb tag3 L3 s3=>by
  refine(L3.drew.sp.cmark kv true).mono ?_
  rintro e w3 ⟨⟨b,rfl⟩,h3,s4⟩
  have L4:=L3.drew.step s4 (by omega) h3
  exact⟨b,rfl,⟨L4.get 2 rfl,L4.cell (i:=4) (by omega),L4.get 0 rfl,L4.get 1 rfl⟩,L4.get 11 rfl,h3,(s3.mono fun _ h=>h.elim).trans ((Step.of_below (Below.refl _ _).drew).trans (s4.mono fun c hc=>by unfold CA;omega))⟩
 have HR:Hid (x.ownF n page a f=(((f:Int),0),x.y7 kv true)):=by
  show _=_
  unfold za.ownF
  rw[if_pos hk,hkv]
 have HK:=Lib.hid hk
 have HW:=Lib.hid hw0
 unfold ownW at HW
 have HV:=Lib.hid (And.intro wf (And.intro hn (And.intro hpg (And.intro hf (And.intro hkv (And.intro hcc z0))))))
 unfold ptrV
 unfold Ar.enc
 have d3L:=d3
 rw[HW.out]at d0 d3L c4
 clear h L0 s0 wf hn hpg hf hkv hcc hw0 OF ka kp hk
 go_enter Tryz.func169,Tryz.ntmps169
 go_wp2_with fail
 rw[←HW.out]
 rw[←HW.out]at d0 c4
 clear d3L
 go_region_held (fun W'=>W'.cell? ⟨w.heap.size,0,none⟩=some (.pointer (some ⟨q.sp,0,none⟩))∧W'.cell? ⟨w.heap.size+3,0,none⟩=some (.int .i64 f)∧W'.cell? ⟨q.sp,4,none⟩=some (.pointer (some ⟨q.cp,0,none⟩))) (go_keep)
  (first
   | (go_at_call 82;refine G1.out.mono ?_;rintro e w2 ⟨rfl,⟨g1,g2,g3⟩,y0,y1,y2,HX⟩;have hX:=Lib.hid HX;clear HX)
   | (go_at_call 82;refine G2.out.mono ?_;rintro e w2 ⟨rfl,⟨g1,g2,g3⟩,⟨y0,y1,y2,y3⟩,HX⟩;have hX:=Lib.hid HX;clear HX))
 ·skip
  obtain⟨tag3,L3,s3⟩:=fin.out (w2.alloc (.cells #[.int .i64 kv.1,.int .i64 kv.2] 133 (0,0))) w2.heap.size ((Turn.of_below hX.out).alloc _) hX.out.size (zo (heap_alloc_new w2 _) 0 rfl) (zo (heap_alloc_new w2 _) 1 rfl)
  clear g1 g2 g3 y0 y1 y2 d0 d3 c4 ka0 ka1 ka2 G1 G2 fin ne1
  have t0:=L3.get 2 rfl
  have t4:=L3.get 8 rfl
  have t3:=L3.get 11 rfl
  have k0:=L3.get 0 rfl
  have k1:=L3.get 1 rfl
  have c4:=L3.cell (i:=4) (by omega)
  rw[HK.out]at t4
  dsimp only[Z8,ptrV]at t0 c4
  have MK:=Lib.hid (mk.out _ _ _ L3 s3)
  clear L3 s3 mk
  go_wp2_with fail
  go_region_held (fun W'=>W'.cell? ⟨w.heap.size,0,none⟩=some (.pointer (some ⟨q.sp,0,none⟩))∧W'.cell? ⟨q.sp,4,none⟩=some (.pointer (some ⟨q.cp,0,none⟩))∧W'.cell? ⟨(w2.heap.size),0,none⟩=some (.int .i64 kv.1)∧W'.cell? ⟨(w2.heap.size),1,none⟩=some (.int .i64 kv.2)) (go_keep)
   ((go_at_call 86;refine MK.out.mono ?_;rintro e w3 ⟨b,rfl,⟨m0,m1,m2,m3⟩,m4,HY⟩;have hY:=Lib.hid HY;clear HY))
  clear MK t0 t4 t3 k0 k1 c4
  go_wp2_with fail
  exact bodyPost_ret (v:=.tuple #[.int .i64 f,.int .i64 0]) (by simp[results,Tryz.results169,go_sem]) rfl ⟨by rw[HR.out],tag3,by rw[HR.out];exact hY.out.1,hY.out.2⟩
 all_goals (
  have tX:Turn (fun _=>False) w0 ((w2.setCell ⟨w.heap.size+4,0,none⟩ (.int .i64 kv.1)).setCell ⟨w.heap.size+4,1,none⟩ (.int .i64 kv.2)):=
   ((Turn.of_below hX.out.1).set (p:=⟨w.heap.size+4,0,none⟩) (.inr (Nat.le_of_eq HV.out.2.2.2.2.2.2)) _).set (p:=⟨w.heap.size+4,1,none⟩) (.inr (Nat.le_of_eq HV.out.2.2.2.2.2.2)) _
  obtain⟨tag3,L3,s3⟩:=fin.out _ (w.heap.size+4) tX (Nat.le_of_eq HV.out.2.2.2.2.2.2) (by go_simp) (by go_simp)
  clear g1 g2 g3 y0 y1 y2 y3 d0 d3 c4 ka0 ka1 ka2 G1 G2 fin ne1 tX
  have t0:=L3.get 2 rfl
  have t4:=L3.get 8 rfl
  have t3:=L3.get 11 rfl
  have k0:=L3.get 0 rfl
  have k1:=L3.get 1 rfl
  have c4:=L3.cell (i:=4) (by omega)
  rw[HK.out]at t4
  dsimp only[Z8,ptrV]at t0 c4
  have MK:=Lib.hid (mk.out _ _ _ L3 s3)
  clear L3 s3 mk
  go_wp2_with fail
  go_region_held (fun W'=>W'.cell? ⟨w.heap.size,0,none⟩=some (.pointer (some ⟨q.sp,0,none⟩))∧W'.cell? ⟨q.sp,4,none⟩=some (.pointer (some ⟨q.cp,0,none⟩))∧W'.cell? ⟨(w.heap.size+4),0,none⟩=some (.int .i64 kv.1)∧W'.cell? ⟨(w.heap.size+4),1,none⟩=some (.int .i64 kv.2)) (go_keep)
   ((go_at_call 86;refine MK.out.mono ?_;rintro e w3 ⟨b,rfl,⟨m0,m1,m2,m3⟩,m4,HY⟩;have hY:=Lib.hid HY;clear HY))
  clear MK t0 t4 t3 k0 k1 c4
  go_wp2_with fail
  exact bodyPost_ret (v:=.tuple #[.int .i64 f,.int .i64 0]) (by simp[results,Tryz.results169,go_sem]) rfl ⟨by rw[HR.out],tag3,by rw[HR.out];exact hY.out.1,hY.out.2⟩)
theorem zko(h:zb w tag q x)(wf:WF x)(n page:Nat)(hn:n<8)(hpg:page<4096)(a:Ar)(f:Nat)(hf:f<1024)(hk:a.kind≠2)(hC:getL x.CR (f:Int)=none)(hl:(x.B f).length=1):
  Calls Tryz.prog 169 #[ptrV q.sp,.agg #[.int .i64 n,.int .i64 page],a.enc,.int .i64 f] w fun e w'=>e=.returned (.tuple #[.int .i64 (x.ownF n page a f).1.1,.int .i64 (x.ownF n page a f).1.2])∧∃tag',zb w' tag' q (x.ownF n page a f).2∧Step CA tag w tag' w':=by
 obtain⟨w0,hw0⟩:∃w0,w0=ownW w q n page a f:=⟨_,rfl⟩
 obtain⟨L0,s0,z0⟩:=h.zfn n page a f w0 hw0
 obtain⟨tag0,ht0⟩:∃tag0,tag0=retag tag w 0:=⟨_,rfl⟩
 rw[←ht0]at L0 s0
 clear ht0
 obtain⟨kv,hkv⟩:∃kv,kv=(getL x.CR f).getD (0,0):=⟨_,rfl⟩
 have hcc:false=(getL x.CR (f:Int)).isSome:=by rw[hC];rfl
 have d0:w0.cell? ⟨w.heap.size,0,none⟩=some (.pointer (some ⟨q.sp,0,none⟩)):=L0.get 0 rfl
 have d3:w0.cell? ⟨w.heap.size+3,0,none⟩=some (.int .i64 f):=L0.get 9 rfl
 have c4:w0.cell? ⟨q.sp,4,none⟩=some (.pointer (some ⟨q.cp,0,none⟩)):=L0.cell (i:=4) (by omega)
 have ne1:¬w.heap.size+4=q.sp:=by have:=World.block_lt_of_cell? _ _ c4;dsimp only at this;omega
 have OF:Hid (∀W,Below w0.heap.size w0 W→Calls Tryz.prog 82 #[.pointer (some ⟨q.cp,0,none⟩),.int .i64 f] W fun e w2=>e=.returned (.tuple #[.agg #[.int .i64 kv.1,.int .i64 kv.2],.bool false])∧Below W.heap.size W w2):=fun W hb=>by
  have:=(L0.below hb).sp.cof (f:Int)
  rw[←hkv,←hcc]at this
  exact this
 have ka:∀o,(w0.alloc o).cell? ⟨w.heap.size,0,none⟩=some (.pointer (some ⟨q.sp,0,none⟩))∧(w0.alloc o).cell? ⟨w.heap.size+3,0,none⟩=some (.int .i64 f)∧(w0.alloc o).cell? ⟨q.sp,4,none⟩=some (.pointer (some ⟨q.cp,0,none⟩)):=fun o=>by
  have L1:=L0.below ((Below.refl _ w0).alloc (Nat.le_refl _) o)
  exact⟨L1.get 0 rfl,L1.get 9 rfl,L1.cell (i:=4) (by omega)⟩
 have ka0:=fun o=>(ka o).1
 have ka1:=fun o=>(ka o).2.1
 have ka2:=fun o=>(ka o).2.2
 have kp:∀w2,Below w0.heap.size w0 w2→(w2.cell? ⟨w.heap.size,0,none⟩=some (.pointer (some ⟨q.sp,0,none⟩))∧w2.cell? ⟨w.heap.size+3,0,none⟩=some (.int .i64 f)∧w2.cell? ⟨q.sp,4,none⟩=some (.pointer (some ⟨q.cp,0,none⟩))):=fun w2 hb=>by
  have L1:=L0.below hb
  exact⟨L1.get 0 rfl,L1.get 9 rfl,L1.cell (i:=4) (by omega)⟩
 have G1:Hid (Calls Tryz.prog 82 #[.pointer (some ⟨q.cp,0,none⟩),.int .i64 f] w0.drew fun e w2=>e=.returned (.tuple #[.agg #[.int .i64 kv.1,.int .i64 kv.2],.bool false])∧(w2.cell? ⟨w.heap.size,0,none⟩=some (.pointer (some ⟨q.sp,0,none⟩))∧w2.cell? ⟨w.heap.size+3,0,none⟩=some (.int .i64 f)∧w2.cell? ⟨q.sp,4,none⟩=some (.pointer (some ⟨q.cp,0,none⟩)))∧
   (∀o,(w2.alloc o).cell? ⟨w.heap.size,0,none⟩=some (.pointer (some ⟨q.sp,0,none⟩)))∧(∀o,(w2.alloc o).cell? ⟨w.heap.size+3,0,none⟩=some (.int .i64 f))∧(∀o,(w2.alloc o).cell? ⟨q.sp,4,none⟩=some (.pointer (some ⟨q.cp,0,none⟩)))∧Below w0.heap.size w0 w2):=by
  refine(OF.out w0.drew (Below.refl _ _).drew).mono ?_
  rintro e w2 ⟨rfl,hb⟩
  have hb:Below w0.heap.size w0 w2:=⟨hb.os,hb.tape,hb.output,hb.size,hb.block⟩
  exact⟨rfl,kp w2 hb,fun o=>(kp (w2.alloc o) (hb.alloc hb.size o)).1,fun o=>(kp (w2.alloc o) (hb.alloc hb.size o)).2.1,fun o=>(kp (w2.alloc o) (hb.alloc hb.size o)).2.2,hb⟩
 have G2:Hid (Calls Tryz.prog 82 #[.pointer (some ⟨q.cp,0,none⟩),.int .i64 f] (w0.alloc (.cells #[.int .i64 0,.int .i64 0] 133)).drew fun e w2=>e=.returned (.tuple #[.agg #[.int .i64 kv.1,.int .i64 kv.2],.bool false])∧(w2.cell? ⟨w.heap.size,0,none⟩=some (.pointer (some ⟨q.sp,0,none⟩))∧w2.cell? ⟨w.heap.size+3,0,none⟩=some (.int .i64 f)∧w2.cell? ⟨q.sp,4,none⟩=some (.pointer (some ⟨q.cp,0,none⟩)))∧
   (w2.cell? ⟨w.heap.size+4,0,none⟩=some (.int .i64 0)∧w2.cell? ⟨w.heap.size+4,1,none⟩=some (.int .i64 0)∧w2.frozen? ⟨w.heap.size+4,0,none⟩=false∧w2.frozen? ⟨w.heap.size+4,1,none⟩=false)∧(Below w0.heap.size w0 w2∧w2.heap[w.heap.size+4]?=some (.cells #[.int .i64 0,.int .i64 0] 133 (0,0)))):=by
  refine(OF.out _ ((Below.refl _ _).alloc (Nat.le_refl _) _).drew).mono ?_
  rintro e w2 ⟨rfl,hb⟩
  have hb:Below (w0.alloc (.cells #[.int .i64 0,.int .i64 0] 133)).heap.size (w0.alloc (.cells #[.int .i64 0,.int .i64 0] 133)) w2:=⟨hb.os,hb.tape,hb.output,hb.size,hb.block⟩
  have nb:=(hb.block w0.heap.size (by simp)).trans (heap_alloc_new w0 (.cells #[.int .i64 0,.int .i64 0] 133))
  rw[z0]at nb
  have hbb:Below w0.heap.size w0 w2:=((Below.refl _ _).alloc (Nat.le_refl _) _).trans (hb.mono (by simp))
  exact⟨rfl,kp w2 hbb,⟨by rw[cell_of_row _ _ 0 _ _ _ nb];rfl,by rw[cell_of_row _ _ 1 _ _ _ nb];rfl,by simp[World.frozen?,nb],by simp[World.frozen?,nb]⟩,hbb,nb⟩
 have fin:Hid (∀W3 kb,Turn (fun _=>False) w0 W3→w0.heap.size≤kb→W3.cell? ⟨kb,0,none⟩=some (.int .i64 kv.1)→W3.cell? ⟨kb,1,none⟩=some (.int .i64 kv.2)→∃tag3,Loc W3 tag3 q x ([(kb,0,.int .i64 kv.1),(kb,1,.int .i64 kv.2)]++jy q w.heap.size n page a f)∧Step (fun _=>False) tag w tag3 W3):=fun W3 kb t hk e0 e1=>by
  obtain⟨L3,s3⟩:=L0.more t.below [(kb,0,.int .i64 kv.1),(kb,1,.int .i64 kv.2)] (fun t ht=>by
   simp at ht
   rcases ht with rfl|rfl
   ·exact⟨hk,e0⟩
   ·exact⟨hk,e1⟩)
  exact⟨_,L3,s0.trans s3⟩
 obtain⟨nl,hnl⟩:∃nl,nl=(x.B f).length:=⟨_,rfl⟩
 have bo:Hid (∀W3 kb tag3,Loc W3 tag3 q x ([(kb,0,.int .i64 kv.1),(kb,1,.int .i64 kv.2)]++jy q w.heap.size n page a f)→Step (fun _=>False) tag w tag3 W3→Calls Tryz.prog 87 #[.pointer (some ⟨q.bp,0,none⟩),.int .i64 f] W3.drew fun e w3=>∃aa lc,e=.returned (.slice aa nl lc)∧(w3.cell? ⟨w.heap.size,0,none⟩=some (.pointer (some ⟨q.sp,0,none⟩))∧w3.cell? ⟨q.sp,3,none⟩=some (.pointer (some ⟨q.bp,0,none⟩))∧w3.cell? ⟨w.heap.size+3,0,none⟩=some (.int .i64 f))∧Loc w3 tag3 q x (jy q w.heap.size n page a f)∧Step (fun _=>False) tag w tag3 w3):=fun W3 kb tag3 L3 s3=>by
  have:=L3.drew.sp.ofB (f:Int) (by have:=Zo (wf.back (f:Int)).1 (wf.back (f:Int)).2;omega)
  rw[←hnl]at this
  refine this.mono ?_
  rintro e w3 ⟨aa,lc,rfl,_,hb,_⟩
  have L4:=L3.drew.below hb
  exact⟨aa,lc,rfl,⟨L4.get 2 rfl,L4.cell (i:=3) (by omega),L4.get 11 rfl⟩,L4.sub (fun t ht=>List.mem_append_right _ ht),s3.trans ((Step.of_below (Below.refl _ _).drew).trans (Step.of_below hb))⟩
 have nk:(a.kind==2)=false:=beq_eq_false_iff_ne.2 hk
 have nkp:(a.kind=2)=False:=eq_false hk
 have HR:Hid (x.ownF n page a f=(((f:Int),(x.putF n page ⟨1,(f:Int),true⟩).1),(x.putF n page ⟨1,(f:Int),true⟩).2)):=by
  show _=_
  unfold za.ownF
  rw[if_neg hk,if_pos ⟨hC,hl⟩]
 rw[hl]at hnl
 subst hnl
 have HW:=Lib.hid hw0
 unfold ownW at HW
 have HV:=Lib.hid (And.intro wf (And.intro hn (And.intro hpg (And.intro hf (And.intro hkv (And.intro hcc z0))))))
 unfold ptrV
 unfold Ar.enc
 have d3L:=d3
 rw[HW.out]at d0 d3L c4
 clear h L0 s0 wf hn hpg hf hkv hcc hw0 OF ka kp hk hC hl
 go_enter Tryz.func169,Tryz.ntmps169
 go_wp2_with fail
 rw[←HW.out]
 rw[←HW.out]at d0 c4
 clear d3L
 go_region_held (fun W'=>W'.cell? ⟨w.heap.size,0,none⟩=some (.pointer (some ⟨q.sp,0,none⟩))∧W'.cell? ⟨w.heap.size+3,0,none⟩=some (.int .i64 f)∧W'.cell? ⟨q.sp,4,none⟩=some (.pointer (some ⟨q.cp,0,none⟩))) (go_keep)
  (first
   | (go_at_call 82;refine G1.out.mono ?_;rintro e w2 ⟨rfl,⟨g1,g2,g3⟩,y0,y1,y2,HX⟩;have hX:=Lib.hid HX;clear HX)
   | (go_at_call 82;refine G2.out.mono ?_;rintro e w2 ⟨rfl,⟨g1,g2,g3⟩,⟨y0,y1,y2,y3⟩,HX⟩;have hX:=Lib.hid HX;clear HX))
 ·skip
  obtain⟨tag3,L3,s3⟩:=fin.out (w2.alloc (.cells #[.int .i64 kv.1,.int .i64 kv.2] 133 (0,0))) w2.heap.size ((Turn.of_below hX.out).alloc _) hX.out.size (zo (heap_alloc_new w2 _) 0 rfl) (zo (heap_alloc_new w2 _) 1 rfl)
  clear g1 g2 g3 y0 y1 y2 d0 d3 c4 ka0 ka1 ka2 G1 G2 fin ne1
  have t0:=L3.get 2 rfl
  have t4:=L3.get 8 rfl
  have t3:=L3.get 11 rfl
  have c3:=L3.cell (i:=3) (by omega)
  dsimp only[Z8,ptrV]at t0 c3
  have BO:=Lib.hid (bo.out _ _ _ L3 s3)
  clear L3 s3 bo
  go_wp2_with fail
  refine wp_region_held_drew (S:=(fun X=>X.cell? ⟨w.heap.size,0,none⟩=some (.pointer (some ⟨q.sp,0,none⟩))∧X.cell? ⟨q.sp,3,none⟩=some (.pointer (some ⟨q.bp,0,none⟩))∧X.cell? ⟨w.heap.size+3,0,none⟩=some (.int .i64 f))) (by kernel_rfl) ⟨t0,c3,t3⟩ (fun hHeld=>?_)
  refine zh 0 33 rfl rfl hHeld ?_
  simp only[Act.put,zg]
  refine zh 1 34 rfl rfl hHeld ?_
  simp only[Act.put,zg]
  refine zh 2 35 rfl rfl hHeld ?_
  simp only[Act.put,zg]
  refine zh 3 36 rfl rfl hHeld ?_
  simp only[Act.put,zg]
  refine zh 4 37 rfl rfl hHeld ?_
  simp only[Act.put,zg]
  refine zh 5 38 rfl rfl hHeld ?_
  simp only[Act.put,zg]
  refine zh 6 39 rfl rfl hHeld ?_
  simp only[Act.put,zg]
  refine zh 7 40 rfl rfl hHeld ?_
  simp only[Act.put,zg]
  refine wpAnyH_ready (rs:=[8]) (by kernel_rfl) (by simp) ?_
  refine AllReadyH.cons rfl (fun K hK=>?_) AllReadyH.nil
  go_simp
  go_wp2_with (go_at_call 87;refine BO.out.mono ?_;rintro e w3 ⟨aa,lc,rfl,⟨j1,j2,j3⟩,HY⟩)
  have hY:=Lib.hid HY
  clear HY
  refine hK.out _ _ ⟨j1,j2,j3⟩ (fun hHeld=>?_)
  clear hK K
  refine zh 9 42 rfl rfl hHeld ?_
  simp only[Act.put,zg]
  refine zh 10 43 rfl rfl hHeld ?_
  simp only[Act.put,zg]
  refine zh 11 44 rfl rfl hHeld ?_
  simp only[Act.put,zg]
  refine wpAnyH_done (by kernel_rfl) ?_ _
  have L4:=hY.out.1
  have g0:w3.cell? ⟨w.heap.size,0,none⟩=some (.pointer (some ⟨q.sp,0,none⟩)):=L4.get 0 rfl
  have g1:w3.cell? ⟨w.heap.size+1,0,none⟩=some (.int .i64 n):=L4.get 1 rfl
  have g2:w3.cell? ⟨w.heap.size+1,1,none⟩=some (.int .i64 page):=L4.get 2 rfl
  have g3:w3.cell? ⟨w.heap.size+3,0,none⟩=some (.int .i64 f):=L4.get 9 rfl
  have PW:Hid (Calls Tryz.prog 88 #[.pointer (some ⟨q.sp,0,none⟩),.agg #[.int .i64 n,.int .i64 page],.agg #[.int .i64 1,.int .i64 f,.bool true]] w3.drew fun e w5=>e=.returned (.int .i64 (x.putF n page ⟨1,(f:Int),true⟩).1)∧(w5.cell? ⟨w.heap.size,0,none⟩=some (.pointer (some ⟨q.sp,0,none⟩))∧w5.cell? ⟨w.heap.size+1,0,none⟩=some (.int .i64 n)∧w5.cell? ⟨w.heap.size+1,1,none⟩=some (.int .i64 page)∧w5.cell? ⟨w.heap.size+3,0,none⟩=some (.int .i64 f))∧∃tag5,zb w5 tag5 q (x.putF n page ⟨1,(f:Int),true⟩).2∧Step CA tag w tag5 w5):=by
   refine(Yp L4.drew.sp HV.out.1 n page HV.out.2.1 HV.out.2.2.1 ⟨1,(f:Int),true⟩ (by have:=HV.out.2.2.2.1;simp[Ent.ok,most];omega)).mono ?_
   rintro e w5 ⟨rfl,tag5,h5,s5⟩
   have s5':=s5.mono fun c hc=>Jq HV.out.2.1 hc
   have L5:=L4.drew.step s5' CA0 h5
   exact⟨rfl,⟨L5.get 0 rfl,L5.get 1 rfl,L5.get 2 rfl,L5.get 9 rfl⟩,tag5,h5,(hY.out.2.mono fun _ h=>h.elim).trans ((Step.of_below (Below.refl _ _).drew).trans s5')⟩
  obtain⟨PP,hPP⟩:∃PP,PP=x.putF n page ⟨1,(f:Int),true⟩:=⟨_,rfl⟩
  rw[←hPP]at PW HR
  clear L4 t0 t4 t3 c3 j1 j2 j3 BO hPP
  go_wp2_with fail
  go_region_held (fun W'=>W'.cell? ⟨w.heap.size,0,none⟩=some (.pointer (some ⟨q.sp,0,none⟩))∧W'.cell? ⟨w.heap.size+1,0,none⟩=some (.int .i64 n)∧W'.cell? ⟨w.heap.size+1,1,none⟩=some (.int .i64 page)∧W'.cell? ⟨w.heap.size+3,0,none⟩=some (.int .i64 f)) (go_keep)
   ((go_at_call 88;refine PW.out.mono ?_;rintro e w5 ⟨rfl,⟨m0,m1,m2,m3⟩,HZ⟩;have hZ:=Lib.hid HZ;clear HZ))
  clear PW g0 g1 g2 g3 m0 m1 m2 m3
  go_wp2_with fail
  exact bodyPost_ret (v:=.tuple #[.int .i64 f,.int .i64 PP.1]) (by simp[results,Tryz.results169,go_sem]) rfl ⟨by rw[HR.out],by rw[HR.out];exact hZ.out⟩
 all_goals (
  have tX:Turn (fun _=>False) w0 ((w2.setCell ⟨w.heap.size+4,0,none⟩ (.int .i64 kv.1)).setCell ⟨w.heap.size+4,1,none⟩ (.int .i64 kv.2)):=
   ((Turn.of_below hX.out.1).set (p:=⟨w.heap.size+4,0,none⟩) (.inr (Nat.le_of_eq HV.out.2.2.2.2.2.2)) _).set (p:=⟨w.heap.size+4,1,none⟩) (.inr (Nat.le_of_eq HV.out.2.2.2.2.2.2)) _
  obtain⟨tag3,L3,s3⟩:=fin.out _ (w.heap.size+4) tX (Nat.le_of_eq HV.out.2.2.2.2.2.2) (by go_simp) (by go_simp)
  clear g1 g2 g3 y0 y1 y2 y3 d0 d3 c4 ka0 ka1 ka2 G1 G2 fin ne1 tX
  have t0:=L3.get 2 rfl
  have t4:=L3.get 8 rfl
  have t3:=L3.get 11 rfl
  have c3:=L3.cell (i:=3) (by omega)
  dsimp only[Z8,ptrV]at t0 c3
  have BO:=Lib.hid (bo.out _ _ _ L3 s3)
  clear L3 s3 bo
  go_wp2_with fail
  refine wp_region_held_drew (S:=(fun X=>X.cell? ⟨w.heap.size,0,none⟩=some (.pointer (some ⟨q.sp,0,none⟩))∧X.cell? ⟨q.sp,3,none⟩=some (.pointer (some ⟨q.bp,0,none⟩))∧X.cell? ⟨w.heap.size+3,0,none⟩=some (.int .i64 f))) (by kernel_rfl) ⟨t0,c3,t3⟩ (fun hHeld=>?_)
  refine zh 0 33 rfl rfl hHeld ?_
  simp only[Act.put,zg]
  refine zh 1 34 rfl rfl hHeld ?_
  simp only[Act.put,zg]
  refine zh 2 35 rfl rfl hHeld ?_
  simp only[Act.put,zg]
  refine zh 3 36 rfl rfl hHeld ?_
  simp only[Act.put,zg]
  refine zh 4 37 rfl rfl hHeld ?_
  simp only[Act.put,zg]
  refine zh 5 38 rfl rfl hHeld ?_
  simp only[Act.put,zg]
  refine zh 6 39 rfl rfl hHeld ?_
  simp only[Act.put,zg]
  refine zh 7 40 rfl rfl hHeld ?_
  simp only[Act.put,zg]
  refine wpAnyH_ready (rs:=[8]) (by kernel_rfl) (by simp) ?_
  refine AllReadyH.cons rfl (fun K hK=>?_) AllReadyH.nil
  go_simp
  go_wp2_with (go_at_call 87;refine BO.out.mono ?_;rintro e w3 ⟨aa,lc,rfl,⟨j1,j2,j3⟩,HY⟩)
  have hY:=Lib.hid HY
  clear HY
  refine hK.out _ _ ⟨j1,j2,j3⟩ (fun hHeld=>?_)
  clear hK K
  refine zh 9 42 rfl rfl hHeld ?_
  simp only[Act.put,zg]
  refine zh 10 43 rfl rfl hHeld ?_
  simp only[Act.put,zg]
  refine zh 11 44 rfl rfl hHeld ?_
  simp only[Act.put,zg]
  refine wpAnyH_done (by kernel_rfl) ?_ _
  have L4:=hY.out.1
  have g0:w3.cell? ⟨w.heap.size,0,none⟩=some (.pointer (some ⟨q.sp,0,none⟩)):=L4.get 0 rfl
  have g1:w3.cell? ⟨w.heap.size+1,0,none⟩=some (.int .i64 n):=L4.get 1 rfl
  have g2:w3.cell? ⟨w.heap.size+1,1,none⟩=some (.int .i64 page):=L4.get 2 rfl
  have g3:w3.cell? ⟨w.heap.size+3,0,none⟩=some (.int .i64 f):=L4.get 9 rfl
  have PW:Hid (Calls Tryz.prog 88 #[.pointer (some ⟨q.sp,0,none⟩),.agg #[.int .i64 n,.int .i64 page],.agg #[.int .i64 1,.int .i64 f,.bool true]] w3.drew fun e w5=>e=.returned (.int .i64 (x.putF n page ⟨1,(f:Int),true⟩).1)∧(w5.cell? ⟨w.heap.size,0,none⟩=some (.pointer (some ⟨q.sp,0,none⟩))∧w5.cell? ⟨w.heap.size+1,0,none⟩=some (.int .i64 n)∧w5.cell? ⟨w.heap.size+1,1,none⟩=some (.int .i64 page)∧w5.cell? ⟨w.heap.size+3,0,none⟩=some (.int .i64 f))∧∃tag5,zb w5 tag5 q (x.putF n page ⟨1,(f:Int),true⟩).2∧Step CA tag w tag5 w5):=by
   refine(Yp L4.drew.sp HV.out.1 n page HV.out.2.1 HV.out.2.2.1 ⟨1,(f:Int),true⟩ (by have:=HV.out.2.2.2.1;simp[Ent.ok,most];omega)).mono ?_
   rintro e w5 ⟨rfl,tag5,h5,s5⟩
   have s5':=s5.mono fun c hc=>Jq HV.out.2.1 hc
   have L5:=L4.drew.step s5' CA0 h5
   exact⟨rfl,⟨L5.get 0 rfl,L5.get 1 rfl,L5.get 2 rfl,L5.get 9 rfl⟩,tag5,h5,(hY.out.2.mono fun _ h=>h.elim).trans ((Step.of_below (Below.refl _ _).drew).trans s5')⟩
  obtain⟨PP,hPP⟩:∃PP,PP=x.putF n page ⟨1,(f:Int),true⟩:=⟨_,rfl⟩
  rw[←hPP]at PW HR
  clear L4 t0 t4 t3 c3 j1 j2 j3 BO hPP
  go_wp2_with fail
  go_region_held (fun W'=>W'.cell? ⟨w.heap.size,0,none⟩=some (.pointer (some ⟨q.sp,0,none⟩))∧W'.cell? ⟨w.heap.size+1,0,none⟩=some (.int .i64 n)∧W'.cell? ⟨w.heap.size+1,1,none⟩=some (.int .i64 page)∧W'.cell? ⟨w.heap.size+3,0,none⟩=some (.int .i64 f)) (go_keep)
   ((go_at_call 88;refine PW.out.mono ?_;rintro e w5 ⟨rfl,⟨m0,m1,m2,m3⟩,HZ⟩;have hZ:=Lib.hid HZ;clear HZ))
  clear PW g0 g1 g2 g3 m0 m1 m2 m3
  go_wp2_with fail
  exact bodyPost_ret (v:=.tuple #[.int .i64 f,.int .i64 PP.1]) (by simp[results,Tryz.results169,go_sem]) rfl ⟨by rw[HR.out],by rw[HR.out];exact hZ.out⟩)
theorem zh4(h:zb w tag q x)(wf:WF x)(n page:Nat)(hn:n<8)(hpg:page<4096)(a:Ar)(f:Nat)(hf:f<1024)(hb:x.R.bad f=false)(hk:a.kind≠2)(hC:getL x.CR (f:Int)≠none):
  Calls Tryz.prog 169 #[ptrV q.sp,.agg #[.int .i64 n,.int .i64 page],a.enc,.int .i64 f] w fun e w'=>e=.returned (.tuple #[.int .i64 (x.ownF n page a f).1.1,.int .i64 (x.ownF n page a f).1.2])∧∃tag',zb w' tag' q (x.ownF n page a f).2∧Step CA tag w tag' w':=by
 obtain⟨w0,hw0⟩:∃w0,w0=ownW w q n page a f:=⟨_,rfl⟩
 obtain⟨L0,s0,z0⟩:=h.zfn n page a f w0 hw0
 obtain⟨tag0,ht0⟩:∃tag0,tag0=retag tag w 0:=⟨_,rfl⟩
 rw[←ht0]at L0 s0
 clear ht0
 obtain⟨kv,hkv⟩:∃kv,kv=(getL x.CR f).getD (0,0):=⟨_,rfl⟩
 have hcc:true=(getL x.CR (f:Int)).isSome:=by cases e:getL x.CR (f:Int)with|none=>exact absurd e hC|some _=>rfl
 have d0:w0.cell? ⟨w.heap.size,0,none⟩=some (.pointer (some ⟨q.sp,0,none⟩)):=L0.get 0 rfl
 have d3:w0.cell? ⟨w.heap.size+3,0,none⟩=some (.int .i64 f):=L0.get 9 rfl
 have c4:w0.cell? ⟨q.sp,4,none⟩=some (.pointer (some ⟨q.cp,0,none⟩)):=L0.cell (i:=4) (by omega)
 have ne1:¬w.heap.size+4=q.sp:=by have:=World.block_lt_of_cell? _ _ c4;dsimp only at this;omega
 have OF:Hid (∀W,Below w0.heap.size w0 W→Calls Tryz.prog 82 #[.pointer (some ⟨q.cp,0,none⟩),.int .i64 f] W fun e w2=>e=.returned (.tuple #[.agg #[.int .i64 kv.1,.int .i64 kv.2],.bool true])∧Below W.heap.size W w2):=fun W hb=>by
  have:=(L0.below hb).sp.cof (f:Int)
  rw[←hkv,←hcc]at this
  exact this
 have ka:∀o,(w0.alloc o).cell? ⟨w.heap.size,0,none⟩=some (.pointer (some ⟨q.sp,0,none⟩))∧(w0.alloc o).cell? ⟨w.heap.size+3,0,none⟩=some (.int .i64 f)∧(w0.alloc o).cell? ⟨q.sp,4,none⟩=some (.pointer (some ⟨q.cp,0,none⟩)):=fun o=>by
  have L1:=L0.below ((Below.refl _ w0).alloc (Nat.le_refl _) o)
  exact⟨L1.get 0 rfl,L1.get 9 rfl,L1.cell (i:=4) (by omega)⟩
 have ka0:=fun o=>(ka o).1
 have ka1:=fun o=>(ka o).2.1
 have ka2:=fun o=>(ka o).2.2
 have kp:∀w2,Below w0.heap.size w0 w2→(w2.cell? ⟨w.heap.size,0,none⟩=some (.pointer (some ⟨q.sp,0,none⟩))∧w2.cell? ⟨w.heap.size+3,0,none⟩=some (.int .i64 f)∧w2.cell? ⟨q.sp,4,none⟩=some (.pointer (some ⟨q.cp,0,none⟩))):=fun w2 hb=>by
  have L1:=L0.below hb
  exact⟨L1.get 0 rfl,L1.get 9 rfl,L1.cell (i:=4) (by omega)⟩
 have G1:Hid (Calls Tryz.prog 82 #[.pointer (some ⟨q.cp,0,none⟩),.int .i64 f] w0.drew fun e w2=>e=.returned (.tuple #[.agg #[.int .i64 kv.1,.int .i64 kv.2],.bool true])∧(w2.cell? ⟨w.heap.size,0,none⟩=some (.pointer (some ⟨q.sp,0,none⟩))∧w2.cell? ⟨w.heap.size+3,0,none⟩=some (.int .i64 f)∧w2.cell? ⟨q.sp,4,none⟩=some (.pointer (some ⟨q.cp,0,none⟩)))∧
   (∀o,(w2.alloc o).cell? ⟨w.heap.size,0,none⟩=some (.pointer (some ⟨q.sp,0,none⟩)))∧(∀o,(w2.alloc o).cell? ⟨w.heap.size+3,0,none⟩=some (.int .i64 f))∧(∀o,(w2.alloc o).cell? ⟨q.sp,4,none⟩=some (.pointer (some ⟨q.cp,0,none⟩)))∧Below w0.heap.size w0 w2):=by
  refine(OF.out w0.drew (Below.refl _ _).drew).mono ?_
  rintro e w2 ⟨rfl,hb⟩
  have hb:Below w0.heap.size w0 w2:=⟨hb.os,hb.tape,hb.output,hb.size,hb.block⟩
  exact⟨rfl,kp w2 hb,fun o=>(kp (w2.alloc o) (hb.alloc hb.size o)).1,fun o=>(kp (w2.alloc o) (hb.alloc hb.size o)).2.1,fun o=>(kp (w2.alloc o) (hb.alloc hb.size o)).2.2,hb⟩
 have G2:Hid (Calls Tryz.prog 82 #[.pointer (some ⟨q.cp,0,none⟩),.int .i64 f] (w0.alloc (.cells #[.int .i64 0,.int .i64 0] 133)).drew fun e w2=>e=.returned (.tuple #[.agg #[.int .i64 kv.1,.int .i64 kv.2],.bool true])∧(w2.cell? ⟨w.heap.size,0,none⟩=some (.pointer (some ⟨q.sp,0,none⟩))∧w2.cell? ⟨w.heap.size+3,0,none⟩=some (.int .i64 f)∧w2.cell? ⟨q.sp,4,none⟩=some (.pointer (some ⟨q.cp,0,none⟩)))∧
   (w2.cell? ⟨w.heap.size+4,0,none⟩=some (.int .i64 0)∧w2.cell? ⟨w.heap.size+4,1,none⟩=some (.int .i64 0)∧w2.frozen? ⟨w.heap.size+4,0,none⟩=false∧w2.frozen? ⟨w.heap.size+4,1,none⟩=false)∧(Below w0.heap.size w0 w2∧w2.heap[w.heap.size+4]?=some (.cells #[.int .i64 0,.int .i64 0] 133 (0,0)))):=by
  refine(OF.out _ ((Below.refl _ _).alloc (Nat.le_refl _) _).drew).mono ?_
  rintro e w2 ⟨rfl,hb⟩
  have hb:Below (w0.alloc (.cells #[.int .i64 0,.int .i64 0] 133)).heap.size (w0.alloc (.cells #[.int .i64 0,.int .i64 0] 133)) w2:=⟨hb.os,hb.tape,hb.output,hb.size,hb.block⟩
  have nb:=(hb.block w0.heap.size (by simp)).trans (heap_alloc_new w0 (.cells #[.int .i64 0,.int .i64 0] 133))
  rw[z0]at nb
  have hbb:Below w0.heap.size w0 w2:=((Below.refl _ _).alloc (Nat.le_refl _) _).trans (hb.mono (by simp))
  exact⟨rfl,kp w2 hbb,⟨by rw[cell_of_row _ _ 0 _ _ _ nb];rfl,by rw[cell_of_row _ _ 1 _ _ _ nb];rfl,by simp[World.frozen?,nb],by simp[World.frozen?,nb]⟩,hbb,nb⟩
 have fin:Hid (∀W3 kb,Turn (fun _=>False) w0 W3→w0.heap.size≤kb→W3.cell? ⟨kb,0,none⟩=some (.int .i64 kv.1)→W3.cell? ⟨kb,1,none⟩=some (.int .i64 kv.2)→∃tag3,Loc W3 tag3 q x ([(kb,0,.int .i64 kv.1),(kb,1,.int .i64 kv.2)]++jy q w.heap.size n page a f)∧Step (fun _=>False) tag w tag3 W3):=fun W3 kb t hk e0 e1=>by
  obtain⟨L3,s3⟩:=L0.more t.below [(kb,0,.int .i64 kv.1),(kb,1,.int .i64 kv.2)] (fun t ht=>by
   simp at ht
   rcases ht with rfl|rfl
   ·exact⟨hk,e0⟩
   ·exact⟨hk,e1⟩)
  exact⟨_,L3,s0.trans s3⟩
 have hn1:¬(getL x.CR (f:Int)=none∧(x.B f).length=1):=fun e=>hC e.1
 have nk:(a.kind==2)=false:=beq_eq_false_iff_ne.2 hk
 have nkp:(a.kind=2)=False:=eq_false hk
 have FH:Hid (∀W3 tag3,Loc W3 tag3 q x (jy q w.heap.size n page a f)→Step (fun _=>False) tag w tag3 W3→∀fv,fv=Value.func (.func 214) #[] #[.pointer (some ⟨w.heap.size,0,none⟩),.pointer (some ⟨w.heap.size+3,0,none⟩)]→Calls Tryz.prog 213 #[.pointer (some ⟨q.sp,0,none⟩),.int .i64 3,fv] W3 fun e w2=>∃tag2,e=.returned (.tuple #[.int .i64 (x.yx (f:Int)).1.1,.int .i64 (x.yx (f:Int)).1.2])∧Loc w2 tag2 q (x.yx (f:Int)).2 (jy q w.heap.size n page a f)∧Step CA tag w tag2 w2):=fun W3 tag3 L3 s3 fv efv=>by
  cases hnx:x.P.next true with
  | none=>
   have ed:x.yx (f:Int)=((0,4),x):=by unfold za.yx;rw[hnx]
   rw[ed]
   refine(Yd L3.sp 3 (by omega) hnx fv).mono ?_
   rintro e w2 ⟨rfl,hb⟩
   exact⟨tag3,rfl,L3.below hb,(s3.trans (Step.of_below hb)).mono fun _ h=>h.elim⟩
  | some g=>
   obtain⟨hg,hgu⟩:=Zv hnx
   have hbad:=wf.ji hg (by omega)
   subst efv
   refine(zfe L3.sp 3 (by omega) g hnx hg 214 _ _ (enters_of Tryz.func214 (by kernel_rfl) rfl) (fun c=>c=1∨c=2) (by omega) (fun c y=>c=0∧y={x with P:=x.P.set g 3,R:=x.R.write g 0 (x.R.read f 0 64)}) (fun w2 h2 s2=>?_)).mono ?_
   ·have L2:=(L3.step s2 (by omega) h2).sub (L':=[(w.heap.size,0,ptrV q.sp),(w.heap.size+3,0,.int .i64 f)]) (fun t ht=>by
     simp at ht
     rcases ht with rfl|rfl<;>simp[jy])
    refine(zcs L2 hf hb g hg hbad).mono ?_
    rintro e w3 ⟨rfl,h3,s3⟩
    exact⟨0,_,tag3,rfl,h3,s3.mono fun c hc=>by omega,⟨rfl,rfl⟩,fun e=>absurd rfl e⟩
   ·rintro e w3 ⟨c,y,tag4,rfl,h4,s4,rfl,rfl⟩
    have ef:x.yx (f:Int)=(((g:Int),0),{x with P:=x.P.set g 3,R:=x.R.write g 0 (x.R.read f 0 64)}):=by
     unfold za.yx
     rw[hnx]
     dsimp only
     rw[Int.toNat_natCast,if_pos hb]
    rw[ef]
    exact⟨tag4,rfl,L3.step s4 (by omega) h4,(s3.mono fun _ h=>h.elim).trans (s4.mono fun c hc=>by unfold CA;omega)⟩
 have hwf:WF (x.yx (f:Int)).2∧((x.yx (f:Int)).1.2=0→∃g:Nat,(x.yx (f:Int)).1.1=g∧g<1024):=by
  rcases wf.yx (f:Int)with⟨_,e⟩|⟨g,_,_,e,d,_⟩|⟨g,_,hb2,e,d,_⟩
  ·rw[e];exact⟨wf,fun e=>by simp at e⟩
  ·exact⟨d.wf,fun _=>⟨g,by rw[e],d.was.1⟩⟩
  ·rw[Int.toNat_natCast,hb]at hb2;cases hb2
 obtain⟨D,hD⟩:∃D,D=x.yx (f:Int):=⟨_,rfl⟩
 have HR:Hid (x.ownF n page a f=if D.1.2=0 then((D.1.1,(D.2.putF n page ⟨1,D.1.1,true⟩).1),(D.2.putF n page ⟨1,D.1.1,true⟩).2)else((0,D.1.2),D.2)):=by
  show _=_
  unfold za.ownF
  rw[if_neg hk,if_neg hn1,hD]
 rw[←hD]at FH hwf
 obtain⟨⟨df,dc⟩,dy⟩:=D
 dsimp only at FH hwf HR
 have HWF:=Lib.hid hwf
 have HW:=Lib.hid hw0
 unfold ownW at HW
 have HV:=Lib.hid (And.intro wf (And.intro hn (And.intro hpg (And.intro hf (And.intro hkv (And.intro hcc z0))))))
 unfold ptrV
 unfold Ar.enc
 have d3L:=d3
 rw[HW.out]at d0 d3L c4
 clear h L0 s0 wf hn hpg hf hkv hcc hw0 OF ka kp hk hC hb hn1 hwf hD
 go_enter Tryz.func169,Tryz.ntmps169
 go_wp2_with fail
 rw[←HW.out]
 rw[←HW.out]at d0 c4
 clear d3L
 go_region_held (fun W'=>W'.cell? ⟨w.heap.size,0,none⟩=some (.pointer (some ⟨q.sp,0,none⟩))∧W'.cell? ⟨w.heap.size+3,0,none⟩=some (.int .i64 f)∧W'.cell? ⟨q.sp,4,none⟩=some (.pointer (some ⟨q.cp,0,none⟩))) (go_keep)
  (first
   | (go_at_call 82;refine G1.out.mono ?_;rintro e w2 ⟨rfl,⟨g1,g2,g3⟩,y0,y1,y2,HX⟩;have hX:=Lib.hid HX;clear HX)
   | (go_at_call 82;refine G2.out.mono ?_;rintro e w2 ⟨rfl,⟨g1,g2,g3⟩,⟨y0,y1,y2,y3⟩,HX⟩;have hX:=Lib.hid HX;clear HX))
 ·skip
  obtain⟨tag3,L3,s3⟩:=fin.out (w2.alloc (.cells #[.int .i64 kv.1,.int .i64 kv.2] 133 (0,0))) w2.heap.size ((Turn.of_below hX.out).alloc _) hX.out.size (zo (heap_alloc_new w2 _) 0 rfl) (zo (heap_alloc_new w2 _) 1 rfl)
  clear g1 g2 g3 y0 y1 y2 d0 d3 c4 ka0 ka1 ka2 G1 G2 fin ne1
  have t0:=L3.get 2 rfl
  have t4:=L3.get 8 rfl
  have t3:=L3.get 11 rfl
  have c3:=L3.cell (i:=3) (by omega)
  dsimp only[Z8,ptrV]at t0 c3
  have L5:=L3.sub (L':=jy q w.heap.size n page a f) (fun t ht=>List.mem_append_right _ ht)
  have FF:=Lib.hid (FH.out _ _ L5.drew (s3.trans (Step.of_below (Below.refl _ _).drew)))
  clear L3 s3 L5 FH
  go_wp2_with fail
  refine wp_region_held_drew (S:=(fun X=>X.cell? ⟨w.heap.size,0,none⟩=some (.pointer (some ⟨q.sp,0,none⟩))∧X.cell? ⟨q.sp,3,none⟩=some (.pointer (some ⟨q.bp,0,none⟩))∧X.cell? ⟨w.heap.size+3,0,none⟩=some (.int .i64 f))) (by kernel_rfl) ⟨t0,c3,t3⟩ (fun hHeld=>?_)
  refine zh 0 33 rfl rfl hHeld ?_
  simp only[Act.put,zg]
  refine zh 1 34 rfl rfl hHeld ?_
  simp only[Act.put,zg]
  refine zh 2 35 rfl rfl hHeld ?_
  simp only[Act.put,zg]
  refine yf 3 36 rfl rfl (by kernel_rfl) (by kernel_rfl) (by kernel_rfl) (fun _ _ _ h=>h) (by rfl) hHeld ?_
  simp only[Act.put,zg]
  refine yf 4 37 rfl rfl (by kernel_rfl) (by kernel_rfl) (by kernel_rfl) (fun _ _ _ h=>h) (by rfl) hHeld ?_
  simp only[Act.put,zg]
  refine yf 5 38 rfl rfl (by kernel_rfl) (by kernel_rfl) (by kernel_rfl) (fun _ _ _ h=>h) (by rfl) hHeld ?_
  simp only[Act.put,zg]
  refine yf 6 39 rfl rfl (by kernel_rfl) (by kernel_rfl) (by kernel_rfl) (fun _ _ _ h=>h) (by rfl) hHeld ?_
  simp only[Act.put,zg]
  refine yf 7 40 rfl rfl (by kernel_rfl) (by kernel_rfl) (by kernel_rfl) (fun _ _ _ h=>h) (by rfl) hHeld ?_
  simp only[Act.put,zg]
  refine yf 8 41 rfl rfl (by kernel_rfl) (by kernel_rfl) (by kernel_rfl) (fun _ _ _ h=>h) (by rfl) hHeld ?_
  simp only[Act.put,zg]
  refine yf 9 42 rfl rfl (by kernel_rfl) (by kernel_rfl) (by kernel_rfl) (fun _ _ _ h=>h) (by rfl) hHeld ?_
  simp only[Act.put,zg]
  refine yf 10 43 rfl rfl (by kernel_rfl) (by kernel_rfl) (by kernel_rfl) (fun _ _ _ h=>h) (by rfl) hHeld ?_
  simp only[Act.put,zg]
  refine zh 11 44 rfl rfl hHeld ?_
  simp only[Act.put,zg]
  refine wpAnyH_done (by kernel_rfl) ?_ _
  clear t4 c3
  go_wp2_with fail
  refine(FF.out _ rfl).mono ?_
  rintro e w4 ⟨tag4,rfl,L4,s4⟩
  clear FF
  by_cases hc:dc=0
  ·subst hc
   obtain⟨g,rfl,hg⟩:=HWF.out.2 rfl
   have g0:w4.cell? ⟨w.heap.size,0,none⟩=some (.pointer (some ⟨q.sp,0,none⟩)):=L4.get 0 rfl
   have g1:w4.cell? ⟨w.heap.size+1,0,none⟩=some (.int .i64 n):=L4.get 1 rfl
   have g2:w4.cell? ⟨w.heap.size+1,1,none⟩=some (.int .i64 page):=L4.get 2 rfl
   obtain⟨PP,hPP⟩:∃PP,PP=dy.putF n page ⟨1,(g:Int),true⟩:=⟨_,rfl⟩
   have PW:Hid (Calls Tryz.prog 88 #[.pointer (some ⟨q.sp,0,none⟩),.agg #[.int .i64 n,.int .i64 page],.agg #[.int .i64 1,.int .i64 g,.bool true]] w4 fun e w5=>e=.returned (.int .i64 PP.1)∧∃tag5,zb w5 tag5 q PP.2∧Step CA tag w tag5 w5):=by
    rw[hPP]
    refine(Yp L4.sp HWF.out.1 n page HV.out.2.1 HV.out.2.2.1 ⟨1,(g:Int),true⟩ (by simp[Ent.ok,most];omega)).mono ?_
    rintro e w5 ⟨rfl,tag5,h5,s5⟩
    exact⟨rfl,tag5,h5,s4.trans (s5.mono fun c hc=>Jq HV.out.2.1 hc)⟩
   have HR2:Hid (x.ownF n page a f=(((g:Int),PP.1),PP.2)):=by
    have:=HR.out
    first|rw[if_pos rfl,←hPP]at this|rw[if_pos trivial,←hPP]at this
    exact this
   clear L4 s4 hPP hg
   go_wp2_with fail
   refine PW.out.mono ?_
   rintro e w5 ⟨rfl,h5⟩
   have H5:=Lib.hid h5
   clear h5 PW g0 g1 g2
   go_wp2_with fail
   exact bodyPost_ret (v:=.tuple #[.int .i64 g,.int .i64 PP.1]) (by simp[results,Tryz.results169,go_sem]) rfl ⟨by rw[HR2.out],by rw[HR2.out];exact H5.out⟩
  ·have m1:(dc==0)=false:=beq_eq_false_iff_ne.2 hc
   have m2:(dc=0)=False:=eq_false hc
   have H4:=Lib.hid (And.intro L4.sp s4)
   have HC:=Lib.hid hc
   clear L4 s4 hc
   go_wp2_with fail
   exact bodyPost_ret (v:=.tuple #[.int .i64 0,.int .i64 dc]) (by simp[results,Tryz.results169,go_sem]) rfl ⟨by rw[HR.out,if_neg HC.out],tag4,by rw[HR.out,if_neg HC.out];exact H4.out.1,H4.out.2⟩
 all_goals (
  have tX:Turn (fun _=>False) w0 ((w2.setCell ⟨w.heap.size+4,0,none⟩ (.int .i64 kv.1)).setCell ⟨w.heap.size+4,1,none⟩ (.int .i64 kv.2)):=
   ((Turn.of_below hX.out.1).set (p:=⟨w.heap.size+4,0,none⟩) (.inr (Nat.le_of_eq HV.out.2.2.2.2.2.2)) _).set (p:=⟨w.heap.size+4,1,none⟩) (.inr (Nat.le_of_eq HV.out.2.2.2.2.2.2)) _
  obtain⟨tag3,L3,s3⟩:=fin.out _ (w.heap.size+4) tX (Nat.le_of_eq HV.out.2.2.2.2.2.2) (by go_simp) (by go_simp)
  clear g1 g2 g3 y0 y1 y2 y3 d0 d3 c4 ka0 ka1 ka2 G1 G2 fin ne1 tX
  have t0:=L3.get 2 rfl
  have t4:=L3.get 8 rfl
  have t3:=L3.get 11 rfl
  have c3:=L3.cell (i:=3) (by omega)
  dsimp only[Z8,ptrV]at t0 c3
  have L5:=L3.sub (L':=jy q w.heap.size n page a f) (fun t ht=>List.mem_append_right _ ht)
  have FF:=Lib.hid (FH.out _ _ L5.drew (s3.trans (Step.of_below (Below.refl _ _).drew)))
  clear L3 s3 L5 FH
  go_wp2_with fail
  refine wp_region_held_drew (S:=(fun X=>X.cell? ⟨w.heap.size,0,none⟩=some (.pointer (some ⟨q.sp,0,none⟩))∧X.cell? ⟨q.sp,3,none⟩=some (.pointer (some ⟨q.bp,0,none⟩))∧X.cell? ⟨w.heap.size+3,0,none⟩=some (.int .i64 f))) (by kernel_rfl) ⟨t0,c3,t3⟩ (fun hHeld=>?_)
  refine zh 0 33 rfl rfl hHeld ?_
  simp only[Act.put,zg]
  refine zh 1 34 rfl rfl hHeld ?_
  simp only[Act.put,zg]
  refine zh 2 35 rfl rfl hHeld ?_
  simp only[Act.put,zg]
  refine yf 3 36 rfl rfl (by kernel_rfl) (by kernel_rfl) (by kernel_rfl) (fun _ _ _ h=>h) (by rfl) hHeld ?_
  simp only[Act.put,zg]
  refine yf 4 37 rfl rfl (by kernel_rfl) (by kernel_rfl) (by kernel_rfl) (fun _ _ _ h=>h) (by rfl) hHeld ?_
  simp only[Act.put,zg]
  refine yf 5 38 rfl rfl (by kernel_rfl) (by kernel_rfl) (by kernel_rfl) (fun _ _ _ h=>h) (by rfl) hHeld ?_
  simp only[Act.put,zg]
  refine yf 6 39 rfl rfl (by kernel_rfl) (by kernel_rfl) (by kernel_rfl) (fun _ _ _ h=>h) (by rfl) hHeld ?_
  simp only[Act.put,zg]
  refine yf 7 40 rfl rfl (by kernel_rfl) (by kernel_rfl) (by kernel_rfl) (fun _ _ _ h=>h) (by rfl) hHeld ?_
  simp only[Act.put,zg]
  refine yf 8 41 rfl rfl (by kernel_rfl) (by kernel_rfl) (by kernel_rfl) (fun _ _ _ h=>h) (by rfl) hHeld ?_
  simp only[Act.put,zg]
  refine yf 9 42 rfl rfl (by kernel_rfl) (by kernel_rfl) (by kernel_rfl) (fun _ _ _ h=>h) (by rfl) hHeld ?_
  simp only[Act.put,zg]
  refine yf 10 43 rfl rfl (by kernel_rfl) (by kernel_rfl) (by kernel_rfl) (fun _ _ _ h=>h) (by rfl) hHeld ?_
  simp only[Act.put,zg]
  refine zh 11 44 rfl rfl hHeld ?_
  simp only[Act.put,zg]
  refine wpAnyH_done (by kernel_rfl) ?_ _
  clear t4 c3
  go_wp2_with fail
  refine(FF.out _ rfl).mono ?_
  rintro e w4 ⟨tag4,rfl,L4,s4⟩
  clear FF
  by_cases hc:dc=0
  ·subst hc
   obtain⟨g,rfl,hg⟩:=HWF.out.2 rfl
   have g0:w4.cell? ⟨w.heap.size,0,none⟩=some (.pointer (some ⟨q.sp,0,none⟩)):=L4.get 0 rfl
   have g1:w4.cell? ⟨w.heap.size+1,0,none⟩=some (.int .i64 n):=L4.get 1 rfl
   have g2:w4.cell? ⟨w.heap.size+1,1,none⟩=some (.int .i64 page):=L4.get 2 rfl
   obtain⟨PP,hPP⟩:∃PP,PP=dy.putF n page ⟨1,(g:Int),true⟩:=⟨_,rfl⟩
   have PW:Hid (Calls Tryz.prog 88 #[.pointer (some ⟨q.sp,0,none⟩),.agg #[.int .i64 n,.int .i64 page],.agg #[.int .i64 1,.int .i64 g,.bool true]] w4 fun e w5=>e=.returned (.int .i64 PP.1)∧∃tag5,zb w5 tag5 q PP.2∧Step CA tag w tag5 w5):=by
    rw[hPP]
    refine(Yp L4.sp HWF.out.1 n page HV.out.2.1 HV.out.2.2.1 ⟨1,(g:Int),true⟩ (by simp[Ent.ok,most];omega)).mono ?_
    rintro e w5 ⟨rfl,tag5,h5,s5⟩
    exact⟨rfl,tag5,h5,s4.trans (s5.mono fun c hc=>Jq HV.out.2.1 hc)⟩
   have HR2:Hid (x.ownF n page a f=(((g:Int),PP.1),PP.2)):=by
    have:=HR.out
    first|rw[if_pos rfl,←hPP]at this|rw[if_pos trivial,←hPP]at this
    exact this
   clear L4 s4 hPP hg
   go_wp2_with fail
   refine PW.out.mono ?_
   rintro e w5 ⟨rfl,h5⟩
   have H5:=Lib.hid h5
   clear h5 PW g0 g1 g2
   go_wp2_with fail
   exact bodyPost_ret (v:=.tuple #[.int .i64 g,.int .i64 PP.1]) (by simp[results,Tryz.results169,go_sem]) rfl ⟨by rw[HR2.out],by rw[HR2.out];exact H5.out⟩
  ·have m1:(dc==0)=false:=beq_eq_false_iff_ne.2 hc
   have m2:(dc=0)=False:=eq_false hc
   have H4:=Lib.hid (And.intro L4.sp s4)
   have HC:=Lib.hid hc
   clear L4 s4 hc
   go_wp2_with fail
   exact bodyPost_ret (v:=.tuple #[.int .i64 0,.int .i64 dc]) (by simp[results,Tryz.results169,go_sem]) rfl ⟨by rw[HR.out,if_neg HC.out],tag4,by rw[HR.out,if_neg HC.out];exact H4.out.1,H4.out.2⟩)
theorem zh3(h:zb w tag q x)(wf:WF x)(n page:Nat)(hn:n<8)(hpg:page<4096)(a:Ar)(f:Nat)(hf:f<1024)(hb:x.R.bad f=false)(hk:a.kind≠2)(hC:getL x.CR (f:Int)=none)(hl:(x.B f).length≠1):
  Calls Tryz.prog 169 #[ptrV q.sp,.agg #[.int .i64 n,.int .i64 page],a.enc,.int .i64 f] w fun e w'=>e=.returned (.tuple #[.int .i64 (x.ownF n page a f).1.1,.int .i64 (x.ownF n page a f).1.2])∧∃tag',zb w' tag' q (x.ownF n page a f).2∧Step CA tag w tag' w':=by
 obtain⟨w0,hw0⟩:∃w0,w0=ownW w q n page a f:=⟨_,rfl⟩
 obtain⟨L0,s0,z0⟩:=h.zfn n page a f w0 hw0
 obtain⟨tag0,ht0⟩:∃tag0,tag0=retag tag w 0:=⟨_,rfl⟩
 rw[←ht0]at L0 s0
 clear ht0
 obtain⟨kv,hkv⟩:∃kv,kv=(getL x.CR f).getD (0,0):=⟨_,rfl⟩
 have hcc:false=(getL x.CR (f:Int)).isSome:=by rw[hC];rfl
 have d0:w0.cell? ⟨w.heap.size,0,none⟩=some (.pointer (some ⟨q.sp,0,none⟩)):=L0.get 0 rfl
 have d3:w0.cell? ⟨w.heap.size+3,0,none⟩=some (.int .i64 f):=L0.get 9 rfl
 have c4:w0.cell? ⟨q.sp,4,none⟩=some (.pointer (some ⟨q.cp,0,none⟩)):=L0.cell (i:=4) (by omega)
 have ne1:¬w.heap.size+4=q.sp:=by have:=World.block_lt_of_cell? _ _ c4;dsimp only at this;omega
 have OF:Hid (∀W,Below w0.heap.size w0 W→Calls Tryz.prog 82 #[.pointer (some ⟨q.cp,0,none⟩),.int .i64 f] W fun e w2=>e=.returned (.tuple #[.agg #[.int .i64 kv.1,.int .i64 kv.2],.bool false])∧Below W.heap.size W w2):=fun W hb=>by
  have:=(L0.below hb).sp.cof (f:Int)
  rw[←hkv,←hcc]at this
  exact this
 have ka:∀o,(w0.alloc o).cell? ⟨w.heap.size,0,none⟩=some (.pointer (some ⟨q.sp,0,none⟩))∧(w0.alloc o).cell? ⟨w.heap.size+3,0,none⟩=some (.int .i64 f)∧(w0.alloc o).cell? ⟨q.sp,4,none⟩=some (.pointer (some ⟨q.cp,0,none⟩)):=fun o=>by
  have L1:=L0.below ((Below.refl _ w0).alloc (Nat.le_refl _) o)
  exact⟨L1.get 0 rfl,L1.get 9 rfl,L1.cell (i:=4) (by omega)⟩
 have ka0:=fun o=>(ka o).1
 have ka1:=fun o=>(ka o).2.1
 have ka2:=fun o=>(ka o).2.2
 have kp:∀w2,Below w0.heap.size w0 w2→(w2.cell? ⟨w.heap.size,0,none⟩=some (.pointer (some ⟨q.sp,0,none⟩))∧w2.cell? ⟨w.heap.size+3,0,none⟩=some (.int .i64 f)∧w2.cell? ⟨q.sp,4,none⟩=some (.pointer (some ⟨q.cp,0,none⟩))):=fun w2 hb=>by
  have L1:=L0.below hb
  exact⟨L1.get 0 rfl,L1.get 9 rfl,L1.cell (i:=4) (by omega)⟩
 have G1:Hid (Calls Tryz.prog 82 #[.pointer (some ⟨q.cp,0,none⟩),.int .i64 f] w0.drew fun e w2=>e=.returned (.tuple #[.agg #[.int .i64 kv.1,.int .i64 kv.2],.bool false])∧(w2.cell? ⟨w.heap.size,0,none⟩=some (.pointer (some ⟨q.sp,0,none⟩))∧w2.cell? ⟨w.heap.size+3,0,none⟩=some (.int .i64 f)∧w2.cell? ⟨q.sp,4,none⟩=some (.pointer (some ⟨q.cp,0,none⟩)))∧
   (∀o,(w2.alloc o).cell? ⟨w.heap.size,0,none⟩=some (.pointer (some ⟨q.sp,0,none⟩)))∧(∀o,(w2.alloc o).cell? ⟨w.heap.size+3,0,none⟩=some (.int .i64 f))∧(∀o,(w2.alloc o).cell? ⟨q.sp,4,none⟩=some (.pointer (some ⟨q.cp,0,none⟩)))∧Below w0.heap.size w0 w2):=by
  refine(OF.out w0.drew (Below.refl _ _).drew).mono ?_
  rintro e w2 ⟨rfl,hb⟩
  have hb:Below w0.heap.size w0 w2:=⟨hb.os,hb.tape,hb.output,hb.size,hb.block⟩
  exact⟨rfl,kp w2 hb,fun o=>(kp (w2.alloc o) (hb.alloc hb.size o)).1,fun o=>(kp (w2.alloc o) (hb.alloc hb.size o)).2.1,fun o=>(kp (w2.alloc o) (hb.alloc hb.size o)).2.2,hb⟩
 have G2:Hid (Calls Tryz.prog 82 #[.pointer (some ⟨q.cp,0,none⟩),.int .i64 f] (w0.alloc (.cells #[.int .i64 0,.int .i64 0] 133)).drew fun e w2=>e=.returned (.tuple #[.agg #[.int .i64 kv.1,.int .i64 kv.2],.bool false])∧(w2.cell? ⟨w.heap.size,0,none⟩=some (.pointer (some ⟨q.sp,0,none⟩))∧w2.cell? ⟨w.heap.size+3,0,none⟩=some (.int .i64 f)∧w2.cell? ⟨q.sp,4,none⟩=some (.pointer (some ⟨q.cp,0,none⟩)))∧
   (w2.cell? ⟨w.heap.size+4,0,none⟩=some (.int .i64 0)∧w2.cell? ⟨w.heap.size+4,1,none⟩=some (.int .i64 0)∧w2.frozen? ⟨w.heap.size+4,0,none⟩=false∧w2.frozen? ⟨w.heap.size+4,1,none⟩=false)∧(Below w0.heap.size w0 w2∧w2.heap[w.heap.size+4]?=some (.cells #[.int .i64 0,.int .i64 0] 133 (0,0)))):=by
  refine(OF.out _ ((Below.refl _ _).alloc (Nat.le_refl _) _).drew).mono ?_
  rintro e w2 ⟨rfl,hb⟩
  have hb:Below (w0.alloc (.cells #[.int .i64 0,.int .i64 0] 133)).heap.size (w0.alloc (.cells #[.int .i64 0,.int .i64 0] 133)) w2:=⟨hb.os,hb.tape,hb.output,hb.size,hb.block⟩
  have nb:=(hb.block w0.heap.size (by simp)).trans (heap_alloc_new w0 (.cells #[.int .i64 0,.int .i64 0] 133))
  rw[z0]at nb
  have hbb:Below w0.heap.size w0 w2:=((Below.refl _ _).alloc (Nat.le_refl _) _).trans (hb.mono (by simp))
  exact⟨rfl,kp w2 hbb,⟨by rw[cell_of_row _ _ 0 _ _ _ nb];rfl,by rw[cell_of_row _ _ 1 _ _ _ nb];rfl,by simp[World.frozen?,nb],by simp[World.frozen?,nb]⟩,hbb,nb⟩
 have fin:Hid (∀W3 kb,Turn (fun _=>False) w0 W3→w0.heap.size≤kb→W3.cell? ⟨kb,0,none⟩=some (.int .i64 kv.1)→W3.cell? ⟨kb,1,none⟩=some (.int .i64 kv.2)→∃tag3,Loc W3 tag3 q x ([(kb,0,.int .i64 kv.1),(kb,1,.int .i64 kv.2)]++jy q w.heap.size n page a f)∧Step (fun _=>False) tag w tag3 W3):=fun W3 kb t hk e0 e1=>by
  obtain⟨L3,s3⟩:=L0.more t.below [(kb,0,.int .i64 kv.1),(kb,1,.int .i64 kv.2)] (fun t ht=>by
   simp at ht
   rcases ht with rfl|rfl
   ·exact⟨hk,e0⟩
   ·exact⟨hk,e1⟩)
  exact⟨_,L3,s0.trans s3⟩
 have hn1:¬(getL x.CR (f:Int)=none∧(x.B f).length=1):=fun e=>hl e.2
 obtain⟨nl,hnl⟩:∃nl,nl=(x.B f).length:=⟨_,rfl⟩
 have bo:Hid (∀W3 kb tag3,Loc W3 tag3 q x ([(kb,0,.int .i64 kv.1),(kb,1,.int .i64 kv.2)]++jy q w.heap.size n page a f)→Step (fun _=>False) tag w tag3 W3→Calls Tryz.prog 87 #[.pointer (some ⟨q.bp,0,none⟩),.int .i64 f] W3.drew fun e w3=>∃aa lc,e=.returned (.slice aa nl lc)∧(w3.cell? ⟨w.heap.size,0,none⟩=some (.pointer (some ⟨q.sp,0,none⟩))∧w3.cell? ⟨q.sp,3,none⟩=some (.pointer (some ⟨q.bp,0,none⟩))∧w3.cell? ⟨w.heap.size+3,0,none⟩=some (.int .i64 f))∧Loc w3 tag3 q x (jy q w.heap.size n page a f)∧Step (fun _=>False) tag w tag3 w3):=fun W3 kb tag3 L3 s3=>by
  have:=L3.drew.sp.ofB (f:Int) (by have:=Zo (wf.back (f:Int)).1 (wf.back (f:Int)).2;omega)
  rw[←hnl]at this
  refine this.mono ?_
  rintro e w3 ⟨aa,lc,rfl,_,hb,_⟩
  have L4:=L3.drew.below hb
  exact⟨aa,lc,rfl,⟨L4.get 2 rfl,L4.cell (i:=3) (by omega),L4.get 11 rfl⟩,L4.sub (fun t ht=>List.mem_append_right _ ht),s3.trans ((Step.of_below (Below.refl _ _).drew).trans (Step.of_below hb))⟩
 have nk:(a.kind==2)=false:=beq_eq_false_iff_ne.2 hk
 have nkp:(a.kind=2)=False:=eq_false hk
 have nl1:((nl:Int)==1)=false:=beq_eq_false_iff_ne.2 (by omega)
 have FH:Hid (∀W3 tag3,Loc W3 tag3 q x (jy q w.heap.size n page a f)→Step (fun _=>False) tag w tag3 W3→∀fv,fv=Value.func (.func 214) #[] #[.pointer (some ⟨w.heap.size,0,none⟩),.pointer (some ⟨w.heap.size+3,0,none⟩)]→Calls Tryz.prog 213 #[.pointer (some ⟨q.sp,0,none⟩),.int .i64 3,fv] W3 fun e w2=>∃tag2,e=.returned (.tuple #[.int .i64 (x.yx (f:Int)).1.1,.int .i64 (x.yx (f:Int)).1.2])∧Loc w2 tag2 q (x.yx (f:Int)).2 (jy q w.heap.size n page a f)∧Step CA tag w tag2 w2):=fun W3 tag3 L3 s3 fv efv=>by
  cases hnx:x.P.next true with
  | none=>
   have ed:x.yx (f:Int)=((0,4),x):=by unfold za.yx;rw[hnx]
   rw[ed]
   refine(Yd L3.sp 3 (by omega) hnx fv).mono ?_
   rintro e w2 ⟨rfl,hb⟩
   exact⟨tag3,rfl,L3.below hb,(s3.trans (Step.of_below hb)).mono fun _ h=>h.elim⟩
  | some g=>
   obtain⟨hg,hgu⟩:=Zv hnx
   have hbad:=wf.ji hg (by omega)
   subst efv
   refine(zfe L3.sp 3 (by omega) g hnx hg 214 _ _ (enters_of Tryz.func214 (by kernel_rfl) rfl) (fun c=>c=1∨c=2) (by omega) (fun c y=>c=0∧y={x with P:=x.P.set g 3,R:=x.R.write g 0 (x.R.read f 0 64)}) (fun w2 h2 s2=>?_)).mono ?_
   ·have L2:=(L3.step s2 (by omega) h2).sub (L':=[(w.heap.size,0,ptrV q.sp),(w.heap.size+3,0,.int .i64 f)]) (fun t ht=>by
     simp at ht
     rcases ht with rfl|rfl<;>simp[jy])
    refine(zcs L2 hf hb g hg hbad).mono ?_
    rintro e w3 ⟨rfl,h3,s3⟩
    exact⟨0,_,tag3,rfl,h3,s3.mono fun c hc=>by omega,⟨rfl,rfl⟩,fun e=>absurd rfl e⟩
   ·rintro e w3 ⟨c,y,tag4,rfl,h4,s4,rfl,rfl⟩
    have ef:x.yx (f:Int)=(((g:Int),0),{x with P:=x.P.set g 3,R:=x.R.write g 0 (x.R.read f 0 64)}):=by
     unfold za.yx
     rw[hnx]
     dsimp only
     rw[Int.toNat_natCast,if_pos hb]
    rw[ef]
    exact⟨tag4,rfl,L3.step s4 (by omega) h4,(s3.mono fun _ h=>h.elim).trans (s4.mono fun c hc=>by unfold CA;omega)⟩
 have hwf:WF (x.yx (f:Int)).2∧((x.yx (f:Int)).1.2=0→∃g:Nat,(x.yx (f:Int)).1.1=g∧g<1024):=by
  rcases wf.yx (f:Int)with⟨_,e⟩|⟨g,_,_,e,d,_⟩|⟨g,_,hb2,e,d,_⟩
  ·rw[e];exact⟨wf,fun e=>by simp at e⟩
  ·exact⟨d.wf,fun _=>⟨g,by rw[e],d.was.1⟩⟩
  ·rw[Int.toNat_natCast,hb]at hb2;cases hb2
 obtain⟨D,hD⟩:∃D,D=x.yx (f:Int):=⟨_,rfl⟩
 have HR:Hid (x.ownF n page a f=if D.1.2=0 then((D.1.1,(D.2.putF n page ⟨1,D.1.1,true⟩).1),(D.2.putF n page ⟨1,D.1.1,true⟩).2)else((0,D.1.2),D.2)):=by
  show _=_
  unfold za.ownF
  rw[if_neg hk,if_neg hn1,hD]
 rw[←hD]at FH hwf
 obtain⟨⟨df,dc⟩,dy⟩:=D
 dsimp only at FH hwf HR
 have HWF:=Lib.hid hwf
 have HW:=Lib.hid hw0
 unfold ownW at HW
 have HV:=Lib.hid (And.intro wf (And.intro hn (And.intro hpg (And.intro hf (And.intro hkv (And.intro hcc z0))))))
 unfold ptrV
 unfold Ar.enc
 have d3L:=d3
 rw[HW.out]at d0 d3L c4
 clear h L0 s0 wf hn hpg hf hkv hcc hw0 OF ka kp hk hC hl hb hn1 hwf hD hnl
 go_enter Tryz.func169,Tryz.ntmps169
 go_wp2_with fail
 rw[←HW.out]
 rw[←HW.out]at d0 c4
 clear d3L
 go_region_held (fun W'=>W'.cell? ⟨w.heap.size,0,none⟩=some (.pointer (some ⟨q.sp,0,none⟩))∧W'.cell? ⟨w.heap.size+3,0,none⟩=some (.int .i64 f)∧W'.cell? ⟨q.sp,4,none⟩=some (.pointer (some ⟨q.cp,0,none⟩))) (go_keep)
  (first
   | (go_at_call 82;refine G1.out.mono ?_;rintro e w2 ⟨rfl,⟨g1,g2,g3⟩,y0,y1,y2,HX⟩;have hX:=Lib.hid HX;clear HX)
   | (go_at_call 82;refine G2.out.mono ?_;rintro e w2 ⟨rfl,⟨g1,g2,g3⟩,⟨y0,y1,y2,y3⟩,HX⟩;have hX:=Lib.hid HX;clear HX))
 ·skip
  obtain⟨tag3,L3,s3⟩:=fin.out (w2.alloc (.cells #[.int .i64 kv.1,.int .i64 kv.2] 133 (0,0))) w2.heap.size ((Turn.of_below hX.out).alloc _) hX.out.size (zo (heap_alloc_new w2 _) 0 rfl) (zo (heap_alloc_new w2 _) 1 rfl)
  clear g1 g2 g3 y0 y1 y2 d0 d3 c4 ka0 ka1 ka2 G1 G2 fin ne1
  have t0:=L3.get 2 rfl
  have t4:=L3.get 8 rfl
  have t3:=L3.get 11 rfl
  have c3:=L3.cell (i:=3) (by omega)
  dsimp only[Z8,ptrV]at t0 c3
  have BO:=Lib.hid (bo.out _ _ _ L3 s3)
  clear L3 s3 bo
  go_wp2_with fail
  refine wp_region_held_drew (S:=(fun X=>X.cell? ⟨w.heap.size,0,none⟩=some (.pointer (some ⟨q.sp,0,none⟩))∧X.cell? ⟨q.sp,3,none⟩=some (.pointer (some ⟨q.bp,0,none⟩))∧X.cell? ⟨w.heap.size+3,0,none⟩=some (.int .i64 f))) (by kernel_rfl) ⟨t0,c3,t3⟩ (fun hHeld=>?_)
  refine zh 0 33 rfl rfl hHeld ?_
  simp only[Act.put,zg]
  refine zh 1 34 rfl rfl hHeld ?_
  simp only[Act.put,zg]
  refine zh 2 35 rfl rfl hHeld ?_
  simp only[Act.put,zg]
  refine zh 3 36 rfl rfl hHeld ?_
  simp only[Act.put,zg]
  refine zh 4 37 rfl rfl hHeld ?_
  simp only[Act.put,zg]
  refine zh 5 38 rfl rfl hHeld ?_
  simp only[Act.put,zg]
  refine zh 6 39 rfl rfl hHeld ?_
  simp only[Act.put,zg]
  refine zh 7 40 rfl rfl hHeld ?_
  simp only[Act.put,zg]
  refine wpAnyH_ready (rs:=[8]) (by kernel_rfl) (by simp) ?_
  refine AllReadyH.cons rfl (fun K hK=>?_) AllReadyH.nil
  go_simp
  go_wp2_with (go_at_call 87;refine BO.out.mono ?_;rintro e w3 ⟨aa,lc,rfl,⟨j1,j2,j3⟩,HY⟩)
  have hY:=Lib.hid HY
  clear HY
  refine hK.out _ _ ⟨j1,j2,j3⟩ (fun hHeld=>?_)
  clear hK K
  refine zh 9 42 rfl rfl hHeld ?_
  simp only[Act.put,zg]
  refine zh 10 43 rfl rfl hHeld ?_
  simp only[Act.put,zg]
  refine zh 11 44 rfl rfl hHeld ?_
  simp only[Act.put,zg]
  refine wpAnyH_done (by kernel_rfl) ?_ _
  have L5:=hY.out.1
  have FF:=Lib.hid (FH.out _ _ L5 hY.out.2)
  have t9:w3.cell? ⟨w.heap.size,0,none⟩=some (.pointer (some ⟨q.sp,0,none⟩)):=L5.get 0 rfl
  clear L5 FH t0 t4 t3 c3 j1 j2 j3 BO
  go_wp2_with fail
  refine(FF.out _ rfl).mono ?_
  rintro e w4 ⟨tag4,rfl,L4,s4⟩
  clear FF
  by_cases hc:dc=0
  ·subst hc
   obtain⟨g,rfl,hg⟩:=HWF.out.2 rfl
   have g0:w4.cell? ⟨w.heap.size,0,none⟩=some (.pointer (some ⟨q.sp,0,none⟩)):=L4.get 0 rfl
   have g1:w4.cell? ⟨w.heap.size+1,0,none⟩=some (.int .i64 n):=L4.get 1 rfl
   have g2:w4.cell? ⟨w.heap.size+1,1,none⟩=some (.int .i64 page):=L4.get 2 rfl
   obtain⟨PP,hPP⟩:∃PP,PP=dy.putF n page ⟨1,(g:Int),true⟩:=⟨_,rfl⟩
   have PW:Hid (Calls Tryz.prog 88 #[.pointer (some ⟨q.sp,0,none⟩),.agg #[.int .i64 n,.int .i64 page],.agg #[.int .i64 1,.int .i64 g,.bool true]] w4 fun e w5=>e=.returned (.int .i64 PP.1)∧∃tag5,zb w5 tag5 q PP.2∧Step CA tag w tag5 w5):=by
    rw[hPP]
    refine(Yp L4.sp HWF.out.1 n page HV.out.2.1 HV.out.2.2.1 ⟨1,(g:Int),true⟩ (by simp[Ent.ok,most];omega)).mono ?_
    rintro e w5 ⟨rfl,tag5,h5,s5⟩
    exact⟨rfl,tag5,h5,s4.trans (s5.mono fun c hc=>Jq HV.out.2.1 hc)⟩
   have HR2:Hid (x.ownF n page a f=(((g:Int),PP.1),PP.2)):=by
    have:=HR.out
    first|rw[if_pos rfl,←hPP]at this|rw[if_pos trivial,←hPP]at this
    exact this
   clear L4 s4 hPP hg
   go_wp2_with fail
   refine PW.out.mono ?_
   rintro e w5 ⟨rfl,h5⟩
   have H5:=Lib.hid h5
   clear h5 PW g0 g1 g2
   go_wp2_with fail
   exact bodyPost_ret (v:=.tuple #[.int .i64 g,.int .i64 PP.1]) (by simp[results,Tryz.results169,go_sem]) rfl ⟨by rw[HR2.out],by rw[HR2.out];exact H5.out⟩
  ·have m1:(dc==0)=false:=beq_eq_false_iff_ne.2 hc
   have m2:(dc=0)=False:=eq_false hc
   have H4:=Lib.hid (And.intro L4.sp s4)
   have HC:=Lib.hid hc
   clear L4 s4 hc
   go_wp2_with fail
   exact bodyPost_ret (v:=.tuple #[.int .i64 0,.int .i64 dc]) (by simp[results,Tryz.results169,go_sem]) rfl ⟨by rw[HR.out,if_neg HC.out],tag4,by rw[HR.out,if_neg HC.out];exact H4.out.1,H4.out.2⟩
 all_goals (
  have tX:Turn (fun _=>False) w0 ((w2.setCell ⟨w.heap.size+4,0,none⟩ (.int .i64 kv.1)).setCell ⟨w.heap.size+4,1,none⟩ (.int .i64 kv.2)):=
   ((Turn.of_below hX.out.1).set (p:=⟨w.heap.size+4,0,none⟩) (.inr (Nat.le_of_eq HV.out.2.2.2.2.2.2)) _).set (p:=⟨w.heap.size+4,1,none⟩) (.inr (Nat.le_of_eq HV.out.2.2.2.2.2.2)) _
  obtain⟨tag3,L3,s3⟩:=fin.out _ (w.heap.size+4) tX (Nat.le_of_eq HV.out.2.2.2.2.2.2) (by go_simp) (by go_simp)
  clear g1 g2 g3 y0 y1 y2 y3 d0 d3 c4 ka0 ka1 ka2 G1 G2 fin ne1 tX
  have t0:=L3.get 2 rfl
  have t4:=L3.get 8 rfl
  have t3:=L3.get 11 rfl
  have c3:=L3.cell (i:=3) (by omega)
  dsimp only[Z8,ptrV]at t0 c3
  have BO:=Lib.hid (bo.out _ _ _ L3 s3)
  clear L3 s3 bo
  go_wp2_with fail
  refine wp_region_held_drew (S:=(fun X=>X.cell? ⟨w.heap.size,0,none⟩=some (.pointer (some ⟨q.sp,0,none⟩))∧X.cell? ⟨q.sp,3,none⟩=some (.pointer (some ⟨q.bp,0,none⟩))∧X.cell? ⟨w.heap.size+3,0,none⟩=some (.int .i64 f))) (by kernel_rfl) ⟨t0,c3,t3⟩ (fun hHeld=>?_)
  refine zh 0 33 rfl rfl hHeld ?_
  simp only[Act.put,zg]
  refine zh 1 34 rfl rfl hHeld ?_
  simp only[Act.put,zg]
  refine zh 2 35 rfl rfl hHeld ?_
  simp only[Act.put,zg]
  refine zh 3 36 rfl rfl hHeld ?_
  simp only[Act.put,zg]
  refine zh 4 37 rfl rfl hHeld ?_
  simp only[Act.put,zg]
  refine zh 5 38 rfl rfl hHeld ?_
  simp only[Act.put,zg]
  refine zh 6 39 rfl rfl hHeld ?_
  simp only[Act.put,zg]
  refine zh 7 40 rfl rfl hHeld ?_
  simp only[Act.put,zg]
  refine wpAnyH_ready (rs:=[8]) (by kernel_rfl) (by simp) ?_
  refine AllReadyH.cons rfl (fun K hK=>?_) AllReadyH.nil
  go_simp
  go_wp2_with (go_at_call 87;refine BO.out.mono ?_;rintro e w3 ⟨aa,lc,rfl,⟨j1,j2,j3⟩,HY⟩)
  have hY:=Lib.hid HY
  clear HY
  refine hK.out _ _ ⟨j1,j2,j3⟩ (fun hHeld=>?_)
  clear hK K
  refine zh 9 42 rfl rfl hHeld ?_
  simp only[Act.put,zg]
  refine zh 10 43 rfl rfl hHeld ?_
  simp only[Act.put,zg]
  refine zh 11 44 rfl rfl hHeld ?_
  simp only[Act.put,zg]
  refine wpAnyH_done (by kernel_rfl) ?_ _
  have L5:=hY.out.1
  have FF:=Lib.hid (FH.out _ _ L5 hY.out.2)
  have t9:w3.cell? ⟨w.heap.size,0,none⟩=some (.pointer (some ⟨q.sp,0,none⟩)):=L5.get 0 rfl
  clear L5 FH t0 t4 t3 c3 j1 j2 j3 BO
  go_wp2_with fail
  refine(FF.out _ rfl).mono ?_
  rintro e w4 ⟨tag4,rfl,L4,s4⟩
  clear FF
  by_cases hc:dc=0
  ·subst hc
   obtain⟨g,rfl,hg⟩:=HWF.out.2 rfl
   have g0:w4.cell? ⟨w.heap.size,0,none⟩=some (.pointer (some ⟨q.sp,0,none⟩)):=L4.get 0 rfl
   have g1:w4.cell? ⟨w.heap.size+1,0,none⟩=some (.int .i64 n):=L4.get 1 rfl
   have g2:w4.cell? ⟨w.heap.size+1,1,none⟩=some (.int .i64 page):=L4.get 2 rfl
   obtain⟨PP,hPP⟩:∃PP,PP=dy.putF n page ⟨1,(g:Int),true⟩:=⟨_,rfl⟩
   have PW:Hid (Calls Tryz.prog 88 #[.pointer (some ⟨q.sp,0,none⟩),.agg #[.int .i64 n,.int .i64 page],.agg #[.int .i64 1,.int .i64 g,.bool true]] w4 fun e w5=>e=.returned (.int .i64 PP.1)∧∃tag5,zb w5 tag5 q PP.2∧Step CA tag w tag5 w5):=by
    rw[hPP]
    refine(Yp L4.sp HWF.out.1 n page HV.out.2.1 HV.out.2.2.1 ⟨1,(g:Int),true⟩ (by simp[Ent.ok,most];omega)).mono ?_
    rintro e w5 ⟨rfl,tag5,h5,s5⟩
    exact⟨rfl,tag5,h5,s4.trans (s5.mono fun c hc=>Jq HV.out.2.1 hc)⟩
   have HR2:Hid (x.ownF n page a f=(((g:Int),PP.1),PP.2)):=by
    have:=HR.out
    first|rw[if_pos rfl,←hPP]at this|rw[if_pos trivial,←hPP]at this
    exact this
   clear L4 s4 hPP hg
   go_wp2_with fail
   refine PW.out.mono ?_
   rintro e w5 ⟨rfl,h5⟩
   have H5:=Lib.hid h5
   clear h5 PW g0 g1 g2
   go_wp2_with fail
   exact bodyPost_ret (v:=.tuple #[.int .i64 g,.int .i64 PP.1]) (by simp[results,Tryz.results169,go_sem]) rfl ⟨by rw[HR2.out],by rw[HR2.out];exact H5.out⟩
  ·have m1:(dc==0)=false:=beq_eq_false_iff_ne.2 hc
   have m2:(dc=0)=False:=eq_false hc
   have H4:=Lib.hid (And.intro L4.sp s4)
   have HC:=Lib.hid hc
   clear L4 s4 hc
   go_wp2_with fail
   exact bodyPost_ret (v:=.tuple #[.int .i64 0,.int .i64 dc]) (by simp[results,Tryz.results169,go_sem]) rfl ⟨by rw[HR.out,if_neg HC.out],tag4,by rw[HR.out,if_neg HC.out];exact H4.out.1,H4.out.2⟩)
theorem zkn(h:zb w tag q x)(wf:WF x)(n page:Nat)(hn:n<8)(hpg:page<4096)(a:Ar)(f:Nat)(hf:f<1024)(hb:x.R.bad f=false):
  Calls Tryz.prog 169 #[ptrV q.sp,.agg #[.int .i64 n,.int .i64 page],a.enc,.int .i64 f] w fun e w'=>e=.returned (.tuple #[.int .i64 (x.ownF n page a f).1.1,.int .i64 (x.ownF n page a f).1.2])∧∃tag',zb w' tag' q (x.ownF n page a f).2∧Step CA tag w tag' w':=by
 by_cases hk:a.kind=2
 ·exact zf6 h wf n page hn hpg a f hf hk
 ·by_cases hC:getL x.CR (f:Int)=none
  ·by_cases hl:(x.B f).length=1
   ·exact zko h wf n page hn hpg a f hf hk hC hl
   ·exact zh3 h wf n page hn hpg a f hf hb hk hC hl
  ·exact zh4 h wf n page hn hpg a f hf hb hk hC
end
end Go.Proofs.YtnhdmnijiphjjaaGreat
