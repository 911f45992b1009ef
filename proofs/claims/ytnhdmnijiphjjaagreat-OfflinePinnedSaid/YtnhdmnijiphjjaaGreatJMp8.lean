/- The signal queue's functions New, Put, Take and Len: what each answers and what becomes of the channel's block; the caller has the queue's cell and the channel's block. -/
import Derived.Test.YtnhdmnijiphjjaaGreatProg
import Derived.WalkKit
import Derived.Conc.LoneCalls
import Derived.Conc.LoneSelect
import Derived.Conc.LoneSelectN
import Derived.KernelRfl
set_option linter.unusedVariables false
set_option linter.unusedSimpArgs false
set_option maxRecDepth 100000
set_option maxHeartbeats 2000000
namespace Go.Proofs.YtnhdmnijiphjjaaGreat
open Go Go.RowKit Go.Conc
def sigV(x:Int×Int):Value:=.agg #[.int .i64 x.1,.int .i64 x.2]
theorem zmc:∃i,Tryz.prog.info? 42=some i∧i.bytes=16:=by
 have h:(Tryz.prog.info? 42).map (·.bytes)=some 16:=by kernel_rfl
 obtain⟨i,hi,hb⟩:=Option.map_eq_some_iff.1 h
 exact⟨i,hi,hb⟩
theorem znz(n:Nat)(h:n≤16)(w:World):(Instr.makeChan 185 (.int .i64 n)).run Tryz.prog w=.ok (.chan (some w.heap.size)) (w.alloc (.chan n #[] false 0 0 false)):=by
 obtain⟨i,hi,hb⟩:=zmc
 exact run_makeChan (P:=Tryz.prog) (w:=w) Tryz.underlying185 hi .i64 n (by omega) (by rw[hb];omega)
theorem grownBy_alloc(w:World)(o:Obj):w.grownBy (w.alloc o) none:=
 ⟨rfl,rfl,rfl,by simp,fun i hi _=>Below.heap_alloc w o i hi⟩
theorem U5{w w1:World}{row:Option Nat}(h:w.grownBy w1 row)(c cap:Nat)(buf:Array Value)(cl:Bool)(s r:Nat)(tm:Bool)(hr:row=none∨row=some c:=by simp):
  w.grownBy (w1.setChan c cap buf cl s r tm) (some c):=by
 refine⟨h.os,h.tape,h.output,by rw[size_setChan];exact h.size,fun i hi hne=>?_⟩
 have hic:i≠c:=fun e=>hne (by rw[e])
 have e:(w1.setChan c cap buf cl s r tm).heap[i]?=w1.heap[i]?:=by simp[World.setChan,Array.getElem?_setIfInBounds_ne (Ne.symm hic)]
 rw[e]
 exact h.block i hi (by rcases hr with hr|hr<;>rw[hr]<;>simp[hic])
theorem Vi{w W:World}{row:Option Nat}(h:w.grownBy W row){p:Addr}(hp:w.heap.size≤p.block)(u:Value):w.grownBy (W.setCell p u) row:=
 ⟨h.os,h.tape,h.output,by simp only[World.setCell,Array.size_modify];exact h.size,fun i hi hne=>(Below.heap_setCell W p u i (by omega)).trans (h.block i hi hne)⟩
theorem grownBy_allocR{w W:World}{row:Option Nat}(h:w.grownBy W row)(o:Obj):w.grownBy (W.alloc o) row:=
 ⟨h.os,h.tape,h.output,by have:=h.size;simp;omega,fun i hi hne=>(Below.heap_alloc W o i (by have:=h.size;omega)).trans (h.block i hi hne)⟩
section
variable (q:Addr)(c:Nat)(w:World)(cap s r:Nat)
theorem put_room(buf:Array Value)(a b:Int)(hq:w.cell? q=some (.chan (some c)))(hc:w.heap[c]?=some (.chan cap buf false s r false))(hroom:buf.size<cap):
  Calls Tryz.prog 68 #[.pointer (some q),sigV (a,b)] w fun e w'=>e=.returned (.bool true)∧w.grownBy w' (some c)∧w'.heap[c]?=some (.chan cap (buf.push (sigV (a,b))) false (s+1) r false):=by
 have hlt:c<w.heap.size:=(Array.getElem?_eq_some_iff.1 hc).1
 have hq1:∀o,(w.alloc o).cell? q=some (.chan (some c)):=fun o=>(((Below.refl w.heap.size w).alloc (Nat.le_refl _) o).cell (World.block_lt_of_cell? w q hq)).trans hq
 refine calls_of_loneTo (fun cs=>?_) (by rintro _ ⟨h,_⟩;cases h)
 unfold sigV
 have e:Frame.enter Tryz.prog 68 #[.pointer (some q),.agg #[.int .i64 a,.int .i64 b]] .normal=(base 68).at ⟨#[.pointer (some q),.agg #[.int .i64 a,.int .i64 b],undef,undef,undef,undef,undef,undef,undef,undef,undef,undef,undef,undef,undef],[]⟩ [.code (Tryz.f68.body.getD .skip)]:=by
  simp[Frame.enter,Frame.at,Tryz.func68,base,Tryz.f68]
 rw[e]
 refine LoneTo.goes (n:=60) ?_
 simp only[Tryz.f68,Option.getD_some]
 s_c stepG_seq
 s_reg
 s_op
 s_op
 s_c stepG_region_end
 s_c stepG_seq
 s_c stepG_seq
 s_reg
 s_op
 s_op
 s_c stepG_region_end
 s_cond false
 s_c stepG_skip
 s_c stepG_seq
 s_c stepG_seq
 s_reg
 s_op
 s_op
 s_op
 s_op
 s_c stepG_region_end
 s_reg
 s_op
 s_c stepG_region_end
 s_c stepG_seq
 s_reg
 s_stop
 refine LoneTo.step (step_lone_select_send_room (c:=c) (cap:=cap) (buf:=buf) (s:=s) (r:=r) (tm:=false) (v:=.agg #[.int .i64 a,.int .i64 b]) (z':=.agg #[.int .i64 0,.int .i64 0])
  (stepG_comm (cases:=#[scase c (.agg #[.int .i64 a,.int .i64 b]) (.agg #[.int .i64 0,.int .i64 0])]) (blocking:=false) (shape:=.select) (w':=w.alloc (.cells #[.int .i64 a,.int .i64 b] 42)) rfl rfl (by decide) (by simp[go_sem,execOp,scase,Act.eval]))
  ((Below.heap_alloc w _ c hlt).trans hc) hroom) ?_
 rw[Frame.finish_at]
 walk_nrm
 refine LoneTo.goes (n:=30) ?_
 s_op
 s_op
 s_c stepG_region_end
 s_c stepG_block
 s_cond true
 s_c stepG_seq
 s_reg
 s_op
 s_c stepG_region_end
 s_c stepG_ret'
 s_stop
 exact LoneTo.done ⟨.returned (.bool true),_,rfl,⟨rfl,U5 (grownBy_alloc w _) _ _ _ _ _ _ _,heap_setChan _ _ _ _ _ _ _ _ (by simp;omega)⟩,rfl,rfl,rfl,rfl,_,Tryz.func68,by simp[results,Tryz.f68,Frame.at]⟩
theorem put_full(buf:Array Value)(a b:Int)(hq:w.cell? q=some (.chan (some c)))(hc:w.heap[c]?=some (.chan cap buf false s r false))(hroom:cap≤buf.size):
  Calls Tryz.prog 68 #[.pointer (some q),sigV (a,b)] w fun e w'=>e=.returned (.bool false)∧Below w.heap.size w w':=by
 have hlt:c<w.heap.size:=(Array.getElem?_eq_some_iff.1 hc).1
 have hq1:∀o,(w.alloc o).cell? q=some (.chan (some c)):=fun o=>(((Below.refl w.heap.size w).alloc (Nat.le_refl _) o).cell (World.block_lt_of_cell? w q hq)).trans hq
 refine calls_of_loneTo (fun cs=>?_) (by rintro _ ⟨h,_⟩;cases h)
 unfold sigV
 have e:Frame.enter Tryz.prog 68 #[.pointer (some q),.agg #[.int .i64 a,.int .i64 b]] .normal=(base 68).at ⟨#[.pointer (some q),.agg #[.int .i64 a,.int .i64 b],undef,undef,undef,undef,undef,undef,undef,undef,undef,undef,undef,undef,undef],[]⟩ [.code (Tryz.f68.body.getD .skip)]:=by
  simp[Frame.enter,Frame.at,Tryz.func68,base,Tryz.f68]
 rw[e]
 refine LoneTo.goes (n:=60) ?_
 simp only[Tryz.f68,Option.getD_some]
 s_c stepG_seq
 s_reg
 s_op
 s_op
 s_c stepG_region_end
 s_c stepG_seq
 s_c stepG_seq
 s_reg
 s_op
 s_op
 s_c stepG_region_end
 s_cond false
 s_c stepG_skip
 s_c stepG_seq
 s_c stepG_seq
 s_reg
 s_op
 s_op
 s_op
 s_op
 s_c stepG_region_end
 s_reg
 s_op
 s_c stepG_region_end
 s_c stepG_seq
 s_reg
 s_stop
 refine LoneTo.step (step_lone_select_send_full (c:=c) (cap:=cap) (buf:=buf) (s:=s) (r:=r) (tm:=false) (v:=.agg #[.int .i64 a,.int .i64 b]) (z':=.agg #[.int .i64 0,.int .i64 0])
  (stepG_comm (cases:=#[scase c (.agg #[.int .i64 a,.int .i64 b]) (.agg #[.int .i64 0,.int .i64 0])]) (blocking:=false) (shape:=.select) (w':=w.alloc (.cells #[.int .i64 a,.int .i64 b] 42)) rfl rfl (by decide) (by simp[go_sem,execOp,scase,Act.eval]))
  ((Below.heap_alloc w _ c hlt).trans hc) hroom) ?_
 rw[Frame.finish_at]
 walk_nrm
 refine LoneTo.goes (n:=30) ?_
 s_op
 s_op
 s_c stepG_region_end
 s_c stepG_block
 s_cond false
 s_c stepG_seq
 s_reg
 s_op
 s_c stepG_region_end
 s_c stepG_ret'
 s_stop
 exact LoneTo.done ⟨.returned (.bool false),_,rfl,⟨rfl,(Below.refl _ _).alloc (Nat.le_refl _) _⟩,rfl,rfl,rfl,rfl,_,Tryz.func68,by simp[results,Tryz.f68,Frame.at]⟩
theorem take_some(buf:Array Value)(a b:Int)(hq:w.cell? q=some (.chan (some c)))(hc:w.heap[c]?=some (.chan cap buf false s r false))(hb:buf[0]?=some (sigV (a,b))):
  Calls Tryz.prog 69 #[.pointer (some q)] w fun e w'=>e=.returned (.tuple #[sigV (a,b),.bool true])∧w.grownBy w' (some c)∧w'.heap[c]?=some (.chan cap (buf.extract 1 buf.size) false s (r+1) false):=by
 have hsome:0<buf.size:=(Array.getElem?_eq_some_iff.1 hb).1
 have hget:buf.getD 0 undef=sigV (a,b):=by simp[Array.getD_eq_getD_getElem?,hb]
 have hlt:c<w.heap.size:=(Array.getElem?_eq_some_iff.1 hc).1
 have hq1:∀o,(w.alloc o).cell? q=some (.chan (some c)):=fun o=>(((Below.refl w.heap.size w).alloc (Nat.le_refl _) o).cell (World.block_lt_of_cell? w q hq)).trans hq
 refine calls_of_loneTo (fun cs=>?_) (by rintro _ ⟨h,_⟩;cases h)
 have e:Frame.enter Tryz.prog 69 #[.pointer (some q)] .normal=(base 69).at ⟨#[.pointer (some q),undef,undef,undef,undef,undef,undef,undef,undef,undef,undef,undef,undef,undef,undef,undef,undef,undef],[]⟩ [.code (Tryz.f69.body.getD .skip)]:=by
  simp[Frame.enter,Frame.at,Tryz.func69,base,Tryz.f69]
 rw[e]
 refine LoneTo.goes (n:=60) ?_
 simp only[Tryz.f69,Option.getD_some]
 s_c stepG_seq
 s_reg
 s_op
 s_op
 s_c stepG_region_end
 s_c stepG_seq
 s_c stepG_seq
 s_reg
 s_op
 s_op
 s_c stepG_region_end
 s_cond false
 s_c stepG_skip
 s_c stepG_seq
 s_reg
 s_op
 s_op
 s_op
 s_op
 s_c stepG_region_end
 s_c stepG_seq
 s_reg
 s_stop
 refine LoneTo.step (step_lone_select_recv_buf (c:=c) (cap:=cap) (buf:=buf) (s:=s) (r:=r) (tm:=false) (closed:=false) (z:=.agg #[.int .i64 0,.int .i64 0])
  (stepG_comm (cases:=#[rcase c (.agg #[.int .i64 0,.int .i64 0])]) (blocking:=false) (shape:=.select) (w':=w.alloc (.cells #[.int .i64 0,.int .i64 0] 42)) rfl rfl (by decide) (by simp[go_sem,execOp,rcase,Act.eval]))
  ((Below.heap_alloc w _ c hlt).trans hc) hsome) ?_
 rw[Frame.finish_at,hget]
 unfold sigV
 walk_nrm
 have hne:w.heap.size≠c:=by omega
 have k1:w.grownBy ((w.alloc (.cells #[.int .i64 0,.int .i64 0] 42)).setChan c cap (buf.extract 1 buf.size) false s (r+1) false) (some c):=U5 (grownBy_alloc w _) _ _ _ _ _ _ _
 have k2:((w.alloc (.cells #[.int .i64 0,.int .i64 0] 42)).setChan c cap (buf.extract 1 buf.size) false s (r+1) false).heap[c]?=some (.chan cap (buf.extract 1 buf.size) false s (r+1) false):=heap_setChan _ _ _ _ _ _ _ _ (by simp;omega)
 have k3:((w.alloc (.cells #[.int .i64 0,.int .i64 0] 42)).setChan c cap (buf.extract 1 buf.size) false s (r+1) false).heap[w.heap.size]?=some (.cells #[.int .i64 0,.int .i64 0] 42 (0,0)):=by
  have e:∀(x:World),(x.setChan c cap (buf.extract 1 buf.size) false s (r+1) false).heap[w.heap.size]?=x.heap[w.heap.size]?:=fun x=>by simp[World.setChan,Array.getElem?_setIfInBounds_ne (Ne.symm hne)]
  rw[e]
  exact heap_alloc_new w _
 have k4:((w.alloc (.cells #[.int .i64 0,.int .i64 0] 42)).setChan c cap (buf.extract 1 buf.size) false s (r+1) false).heap.size=w.heap.size+1:=by rw[size_setChan];simp
 generalize (w.alloc (.cells #[.int .i64 0,.int .i64 0] 42)).setChan c cap (buf.extract 1 buf.size) false s (r+1) false=W at k1 k2 k3 k4⊢
 have f0:W.cell? ⟨w.heap.size,0,none⟩=some (.int .i64 0):=by rw[cell_of_row W _ 0 _ _ _ k3];rfl
 have f1:W.cell? ⟨w.heap.size,1,none⟩=some (.int .i64 0):=by rw[cell_of_row W _ 1 _ _ _ k3];rfl
 have g0:W.frozen? ⟨w.heap.size,0,none⟩=false:=by simp[World.frozen?,k3]
 have g1:W.frozen? ⟨w.heap.size,1,none⟩=false:=by simp[World.frozen?,k3]
 clear k3 e hget hb hsome hc hq
 refine LoneTo.goes (n:=30) ?_
 s_op
 s_op
 s_c stepG_region_end
 s_c stepG_block
 s_cond true
 s_c stepG_seq
 s_reg
 s_op
 s_op
 s_op
 s_c stepG_region_end
 s_c stepG_seq
 s_reg
 s_op
 s_op
 s_op
 s_c stepG_region_end
 s_c stepG_ret'
 s_stop
 refine LoneTo.done ⟨.returned (.tuple #[.agg #[.int .i64 a,.int .i64 b],.bool true]),_,rfl,⟨rfl,grownBy_allocR (Vi (Vi k1 (Nat.le_refl _) _) (Nat.le_refl _) _) _,?_⟩,rfl,rfl,rfl,rfl,_,Tryz.func69,by simp[results,Tryz.f69,Frame.at,go_sem,k4,f0,f1]⟩
 rw[Below.heap_alloc _ _ _ (by simp[World.setCell,k4];omega),Below.heap_setCell _ _ _ _ (Ne.symm hne),Below.heap_setCell _ _ _ _ (Ne.symm hne)]
 exact k2
theorem take_none(hq:w.cell? q=some (.chan (some c)))(hc:w.heap[c]?=some (.chan cap #[] false s r false)):
  Calls Tryz.prog 69 #[.pointer (some q)] w fun e w'=>e=.returned (.tuple #[sigV (0,0),.bool false])∧Below w.heap.size w w':=by
 have hlt:c<w.heap.size:=(Array.getElem?_eq_some_iff.1 hc).1
 have hq1:∀o,(w.alloc o).cell? q=some (.chan (some c)):=fun o=>(((Below.refl w.heap.size w).alloc (Nat.le_refl _) o).cell (World.block_lt_of_cell? w q hq)).trans hq
 refine calls_of_loneTo (fun cs=>?_) (by rintro _ ⟨h,_⟩;cases h)
 have e:Frame.enter Tryz.prog 69 #[.pointer (some q)] .normal=(base 69).at ⟨#[.pointer (some q),undef,undef,undef,undef,undef,undef,undef,undef,undef,undef,undef,undef,undef,undef,undef,undef,undef],[]⟩ [.code (Tryz.f69.body.getD .skip)]:=by
  simp[Frame.enter,Frame.at,Tryz.func69,base,Tryz.f69]
 rw[e]
 refine LoneTo.goes (n:=60) ?_
 simp only[Tryz.f69,Option.getD_some]
 s_c stepG_seq
 s_reg
 s_op
 s_op
 s_c stepG_region_end
 s_c stepG_seq
 s_c stepG_seq
 s_reg
 s_op
 s_op
 s_c stepG_region_end
 s_cond false
 s_c stepG_skip
 s_c stepG_seq
 s_reg
 s_op
 s_op
 s_op
 s_op
 s_c stepG_region_end
 s_c stepG_seq
 s_reg
 s_stop
 refine LoneTo.step (step_lone_select_default (c:=c) (cap:=cap) (s:=s) (r:=r) (tm:=false) (z:=.agg #[.int .i64 0,.int .i64 0])
  (stepG_comm (cases:=#[rcase c (.agg #[.int .i64 0,.int .i64 0])]) (blocking:=false) (shape:=.select) (w':=w.alloc (.cells #[.int .i64 0,.int .i64 0] 42)) rfl rfl (by decide) (by simp[go_sem,execOp,rcase,Act.eval]))
  ((Below.heap_alloc w _ c hlt).trans hc)) ?_
 rw[Frame.finish_at]
 unfold sigV
 walk_nrm
 refine LoneTo.goes (n:=30) ?_
 s_op
 s_op
 s_c stepG_region_end
 s_c stepG_block
 s_cond false
 s_c stepG_seq
 s_reg
 s_op
 s_op
 s_op
 s_c stepG_region_end
 s_c stepG_ret'
 s_stop
 exact LoneTo.done ⟨.returned (.tuple #[.agg #[.int .i64 0,.int .i64 0],.bool false]),_,rfl,⟨rfl,(Below.refl _ _).alloc (Nat.le_refl _) _⟩,rfl,rfl,rfl,rfl,_,Tryz.func69,by simp[results,Tryz.f69,Frame.at,go_sem]⟩
end
section
variable (w:World)
def capOf(most:Int):Nat:=(min (max most 0) 16).toNat
theorem new_at(most:Int):Calls Tryz.prog 61 #[.int .i64 most] w fun e w'=>e=.returned (.pointer (some ⟨w.heap.size+1,0,none⟩))∧w'=(w.alloc (.chan (capOf most) #[] false 0 0 false)).alloc (.cells #[.chan (some w.heap.size)] 187):=by
 have mk:=znz (capOf most) (by unfold capOf;omega)
 by_cases h1:most<0
 ·have e:capOf most=0:=by unfold capOf;omega
  rw[e]
  clear mk
  have mk:∀w,(Instr.makeChan 185 (.int .i64 0)).run Tryz.prog w=.ok (.chan (some w.heap.size)) (w.alloc (.chan 0 #[] false 0 0 false)):=znz 0 (by omega)
  go_enter Tryz.func61,Tryz.ntmps61
  go_wp2
  go_ret
  exact⟨rfl,rfl⟩
 by_cases h2:most≤16
 ·obtain⟨m,rfl⟩:=Int.eq_ofNat_of_zero_le (by omega:0≤most)
  have e:capOf m=m:=by unfold capOf;omega
  rw[e]at mk⊢
  go_enter Tryz.func61,Tryz.ntmps61
  go_wp2
  go_ret
  exact⟨rfl,rfl⟩
 ·have e:capOf most=16:=by unfold capOf;omega
  rw[e]
  clear mk
  have mk:∀w,(Instr.makeChan 185 (.int .i64 16)).run Tryz.prog w=.ok (.chan (some w.heap.size)) (w.alloc (.chan 16 #[] false 0 0 false)):=znz 16 (by omega)
  go_enter Tryz.func61,Tryz.ntmps61
  go_wp2
  go_ret
  exact⟨rfl,rfl⟩
end
def QAt(w:World)(q c cap:Nat)(l:List (Int×Int)):Prop:=
 w.cell? ⟨q,0,none⟩=some (.chan (some c))∧∃s r,w.heap[c]?=some (.chan cap (l.map sigV).toArray false s r false)
theorem QAt.lt{w:World}{q c cap:Nat}{l:List (Int×Int)}(h:QAt w q c cap l):q<w.heap.size∧c<w.heap.size∧q≠c:=by
 obtain⟨h1,s,r,h2⟩:=h
 refine⟨World.block_lt_of_cell? w _ h1,(Array.getElem?_eq_some_iff.1 h2).1,fun e=>?_⟩
 subst e
 simp[World.cell?,h2]at h1
theorem QAt.keep{w w':World}{q c cap:Nat}{l:List (Int×Int)}(h:QAt w q c cap l)(hb:∀k,k=q∨k=c→w'.heap[k]?=w.heap[k]?):QAt w' q c cap l:=by
 obtain⟨h1,s,r,h2⟩:=h
 exact⟨(World.cell?_of_block (w:=w) (hb q (.inl rfl))).trans h1,s,r,(hb c (.inr rfl)).trans h2⟩
theorem QAt.below{w w':World}{q c cap:Nat}{l:List (Int×Int)}(h:QAt w q c cap l)(hb:Below w.heap.size w w'):QAt w' q c cap l:=
 h.keep fun k hk=>hb.block k (by have:=h.lt;omega)
section
variable (w:World)(q c cap:Nat)(l:List (Int×Int))
theorem zmn(x:Int×Int)(h:QAt w q c cap l)(hr:l.length<cap):
  Calls Tryz.prog 68 #[.pointer (some ⟨q,0,none⟩),sigV x] w fun e w'=>e=.returned (.bool true)∧w.grownBy w' (some c)∧QAt w' q c cap (l++[x]):=by
 have hl:=h.lt
 obtain⟨h1,s,r,h2⟩:=h
 refine(put_room ⟨q,0,none⟩ c w cap s r _ x.1 x.2 h1 h2 (by simpa using hr)).mono fun e w' ⟨he,hg,hc⟩=>⟨he,hg,?_,s+1,r,?_⟩
 ·exact(World.cell?_of_block (w:=w) (hg.block q hl.1 (by simp;exact hl.2.2))).trans h1
 ·rw[hc];simp
theorem zmp(x:Int×Int)(h:QAt w q c cap l)(hr:cap≤l.length):
  Calls Tryz.prog 68 #[.pointer (some ⟨q,0,none⟩),sigV x] w fun e w'=>e=.returned (.bool false)∧Below w.heap.size w w'∧QAt w' q c cap l:=by
 have h':=h
 obtain⟨h1,s,r,h2⟩:=h
 exact(put_full ⟨q,0,none⟩ c w cap s r _ x.1 x.2 h1 h2 (by simpa using hr)).mono fun e w' ⟨he,hb⟩=>⟨he,hb,h'.below hb⟩
theorem New_at(most:Int):
  Calls Tryz.prog 61 #[.int .i64 most] w fun e w'=>e=.returned (.pointer (some ⟨w.heap.size+1,0,none⟩))∧Below w.heap.size w w'∧QAt w' (w.heap.size+1) w.heap.size (capOf most) []:=by
 refine(new_at w most).mono fun e w' ⟨he,hw⟩=>⟨he,?_,?_⟩
 ·rw[hw];exact((Below.refl _ _).alloc (Nat.le_refl _) _).alloc (by simp) _
 ·subst hw
  refine⟨?_,0,0,?_⟩
  ·have k:=heap_alloc_new (w.alloc (.chan (capOf most) #[] false 0 0 false)) (.cells #[.chan (some w.heap.size)] 187)
   rw[World.size_alloc]at k
   rw[cell_of_row _ _ 0 _ _ _ k];rfl
  ·rw[Below.heap_alloc _ _ _ (by simp)]
   exact heap_alloc_new w _
end
end Go.Proofs.YtnhdmnijiphjjaaGreat
