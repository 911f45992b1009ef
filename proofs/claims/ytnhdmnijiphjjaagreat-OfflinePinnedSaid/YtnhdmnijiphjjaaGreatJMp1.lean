/- Memory's functions Read, Write, Copy, Zero on frames that are not lost: what each answers and leaves. -/
import Derived.Test.YtnhdmnijiphjjaaGreatJMp0
import Derived.Deep.RegionHeld
import Derived.Laws.CopyOwn
import Derived.Laws.Cover3
set_option linter.unusedVariables false
set_option linter.unusedSimpArgs false
set_option maxRecDepth 100000
set_option maxHeartbeats 2000000
namespace Go.Proofs.YtnhdmnijiphjjaaGreat
open Go Go.RowKit
def bV(b:UInt8):Value:=.int .u8 b.toNat
def ByAt(w:World)(v:Value)(l:List UInt8):Prop:=SlAt w 5 1 v l.length (l.map bV)
def Reads(w:World)(v:Value)(l:List UInt8):Prop:=∃a c b off,v=.slice a l.length c∧(0<l.length→a=some ⟨b,off,none⟩)∧∀j u,(l.map bV)[j]?=some u→w.cell? ⟨b,off+j,none⟩=some u
theorem ByAt.reads{w:World}{v:Value}{l:List UInt8}(h:ByAt w v l):Reads w v l:=by
 obtain⟨a,c,e,_,_⟩:=SlAt.form h
 by_cases h0:0<l.length
 ·obtain⟨b,off,c',e',_,_,hx⟩:=SlAt.cells h (by simpa using h0)
  rw[e]at e'
  cases e'
  exact⟨_,c,b,off,e,fun _=>rfl,fun j u hu=>(hx j u hu).1⟩
 ·have hl:l=[]:=List.eq_nil_of_length_eq_zero (by omega)
  subst hl
  exact⟨a,c,0,0,e,fun h=>absurd h (by simp),fun j u hu=>by simp at hu⟩
theorem Reads.below{w w':World}{v:Value}{l:List UInt8}(h:Reads w v l)(hb:Below w.heap.size w w'):Reads w' v l:=by
 obtain⟨a,c,b,off,e,ha,hx⟩:=h
 exact⟨a,c,b,off,e,ha,fun j u hu=>(hb.cell (World.block_lt_of_cell? w _ (hx j u hu))).trans (hx j u hu)⟩
theorem zex{w:World}{O:Nat→Prop}{p b:Nat}{R:RamS}(h:qi w O p b R){f a k:Nat}(hf:f<1024)(hak:a+k≤64):Reads w (.slice (some ⟨b,f*65+a,none⟩) k k) (R.read f a k):=by
 obtain⟨_,_,_,_,h2⟩:=h
 refine⟨some ⟨b,f*65+a,none⟩,k,b,f*65+a,by simp[RamS.read],fun _=>rfl,fun j u hu=>?_⟩
 have hj:j<k:=by have:=(List.getElem?_eq_some_iff.1 hu).1;simpa[RamS.read]using this
 rw[Nat.add_assoc,zji h2 hf (by omega)]
 rw[←hu]
 simp[RamS.read,hj,bV]
theorem zn6(t e:TypeId)(P:Program)(h:P.underlying t=some (.slice e))(w:World)(a:Option Addr)(n c:Nat):(binOp .eql t (.slice a n c) (.slice none 0 0)).run P w=.ok (.bool a.isNone) w:=by
 have:=run_equal_slice_nil (P:=P) w t e a n c h
 unfold binOp
 simp[this]
theorem Jp(w:World)(v:Value)(l:List UInt8)(h:Reads w v l)(h0:0<l.length)(hlen:l.length≤100000):
  Calls Tryz.prog 100 #[v] w fun e w'=>∃v',e=.returned v'∧ByAt w' v' l∧Below w.heap.size w w'∧∀b,v'.ownBlock=some b→w.heap.size≤b:=by
 obtain⟨a,c,b0,off,rfl,ha,hx⟩:=h
 obtain rfl:=ha h0
 obtain⟨inf,hinf,hsz,hby⟩:=zfa
 have hz:inf.zero=some (.int .u8 0):=by
  have h1:(Tryz.prog.info? 5).bind (·.zero)=some (.int .u8 0):=by kernel_rfl
  rw[hinf]at h1
  exact h1
 have HX:Hid (∀j u,(l.map bV)[j]?=some u→w.cell? ((⟨b0,off,none⟩:Addr).add j)=some u):=fun j u hu=>by rw[add_plain];exact hx j u hu
 have HI:=Lib.hid (And.intro hinf (And.intro hsz (And.intro hby hz)))
 clear hx hinf hsz hby hz ha
 obtain⟨n,hn⟩:∃n,l.length=n:=⟨_,rfl⟩
 have HN:=Lib.hid hn
 rw[hn]at h0 hlen⊢
 clear hn
 have heq:=zn6 22 5 Tryz.prog Tryz.underlying22
 go_enter Tryz.func100,Tryz.ntmps100
 have HE:Hid (SlAt (w.alloc (.cells #[] 5)) 5 1 (.slice (some ⟨w.heap.size,0,none⟩) 0 0) 0 []):=⟨rfl,.inr ⟨w.heap.size,0,0,#[],rfl,heap_alloc_new w _,Nat.le_refl _,by unfold maxLen;omega,by simp,fun j u hu=>by simp at hu⟩⟩
 go_wp2_with (at_builtin;refine x9 _ rfl _ _ 22 rfl 5 inf _ 1 1 Tryz.underlying22 HI.out.1 HI.out.2.2.2 HI.out.2.1 HI.out.2.2.1 rfl _ _ _ rfl HE.out ⟨b0,off,none⟩ n c (l.map bV) rfl ?c1 ?c2 ?c3 ?c4 ?c5 ?c6)
 case c1=>rw[List.length_map,HN.out];omega
 case c2=>exact fun j u hu=>(World.cell?_of_block (w:=w) (Below.heap_alloc w _ _ (World.block_lt_of_cell? w _ (HX.out j u hu)))).trans (HX.out j u hu)
 case c3=>intro u hu;obtain⟨x,_,rfl⟩:=List.mem_map.1 hu;rfl
 case c4=>unfold maxLen;omega
 case c5=>omega
 rintro v' w' hs hg ho
 have hs':ByAt w' v' l:=by
  unfold ByAt
  rw[HN.out]
  simpa using hs
 have hb:Below w.heap.size w w':=by
  have h1:=Turn.vo (O:=fun k=>w.heap.size≤k) hg (fun m hm=>by simp[Value.ownBlock]at hm;left;omega)
  exact((Below.refl _ _).alloc (Nat.le_refl _) _).trans (h1.Xv (fun i hi=>hi) (by simp))
 have ho':∀b,v'.ownBlock=some b→w.heap.size≤b:=fun b hb=>by
  rcases ho with e|e<;>rw[hb]at e<;>simp[Value.ownBlock]at e<;>omega
 obtain⟨a',c',rfl,_,_⟩:=SlAt.form hs'
 have H1:=Lib.hid (And.intro hs' (And.intro hb ho'))
 clear hs hg ho hs' hb ho'
 go_wp2_with fail
 go_ret
 exact⟨_,rfl,H1.out⟩
theorem Vr{P:Program}{w:World}{ops:Array Oper}{rest:List Oper}{o:Oper}{a:Act}{Q:Exit→Act→World→Prop}(hgd:o.guard=none)(d s:Operand)(dT sT:TypeId)
  (ho:o.op=.call {callee:=.builtin .copy,args:=#[d,s],argTypes:=#[dT,sT]}) (elem:TypeId) (hu:P.underlying dT=some (.slice elem)) (hsz:(P.info? elem).map (·.size)=some 1)
  (g off dLen dCap:Nat) (ad:Addr) (sLen sCap:Nat) (hd:a.eval d=.slice (some ⟨g,off,none⟩) dLen dCap) (hs:a.eval s=.slice (some ad) sLen sCap)
  (cur:Array Value) (t:TypeId) (hg:w.heap[g]?=some (.cells cur t (0,0))) (cs:List Value) (hn:cs.length=Nat.min sLen dLen)
  (hsrc:∀j v,cs[j]?=some v→w.cell? (ad.add j)=some v) (hfit:off+cs.length≤cur.size) (h1:∀v∈cs,v.oneCell'=true)
  (X:World→Prop) (hX:X (w.setRow g (cur.toList.take off++(cs++cur.toList.drop (off+cs.length))).toArray))
  (h:∀w',Hid (X w')→wpList P ops Q rest (a.put o.dst (goInt cs.length)) w'):wpList P ops Q (o::rest) a w:=
 wpList_copy_own hgd d s dT sT ho elem hu hsz g off dLen dCap ad sLen sCap hd hs cur t hg cs hn hsrc hfit h1 (h _ hX)
theorem Row.heap{w:World}{b n:Nat}{g:Nat→Value}(h:Row w b n g):∃T,w.heap[b]?=some (.cells ((List.range n).map g).toArray T (0,0)):=h
theorem Jk(w:World)(O:Nat→Prop)(p b:Nat)(R:RamS)(h:qi w O p b R)(fi ai ki:Int)(f a k:Nat)(ef:fi=f)(ea:ai=a)(ek:ki=k)(hf:f<1024)(hk:0<k)(hak:a+k≤64)(hb:R.bad f=false):
  Calls Tryz.prog 67 #[.pointer (some ⟨p,0,none⟩),.int .i64 fi,.int .i64 ai,.int .i64 ki] w fun e w'=>∃v',e=.returned (.tuple #[v',.int .i64 0])∧ByAt w' v' (R.read f a k)∧Below w.heap.size w w'∧∀b,v'.ownBlock=some b→w.heap.size≤b:=by
 subst ef;subst ea;subst ek
 have A:=Lib.hid (Ji w O p b R h f a k hf hk hak hb)
 have hl:(R.read f a k).length=k:=by simp[RamS.read]
 have C:=Lib.hid (Jp w _ _ (zex h hf hak) (by omega) (by omega))
 clear h hb hl hf hk hak
 go_enter Tryz.func67,Tryz.ntmps67
 go_wp2_with fail
 refine A.out.mono ?_
 rintro e w1 ⟨rfl,rfl⟩
 go_wp2_with fail
 refine C.out.mono ?_
 rintro e w2 ⟨v',rfl,h2⟩
 have H2:=Lib.hid h2
 clear h2
 go_wp2_with fail
 exact bodyPost_ret (v:=.tuple #[v',.int .i64 0]) (by simp[results,Tryz.results67,go_sem]) rfl ⟨v',rfl,H2.out⟩
theorem qi.splice{w:World}{O:Nat→Prop}{p b:Nat}{R:RamS}(h:qi w O p b R){f a:Nat}(hf:f<1024)(l:List UInt8)(hal:a+l.length≤64)(cur:Array Value)(T:TypeId)(fr:Nat×Nat)(hc:w.heap[b]?=some (.cells cur T fr)):
  qi (w.setRow b (cur.toList.take (f*65+a)++(l.map bV++cur.toList.drop (f*65+a+(l.map bV).length))).toArray) O p b (R.write f a l):=by
 obtain⟨h1,h2,h3,h4,h5⟩:=h
 refine⟨h1,h2,h3,h4.keep (setRow_other w b p _ h3),(h5.splice (f*65+a) (l.map bV) (by simp;omega) cur T fr hc).congr fun i hi=>?_⟩
 simp only[List.length_map]
 unfold xe
 by_cases h64:i%65=64
 ·rw[if_neg (by omega),if_pos h64,if_pos h64,Vp]
 ·rw[if_neg h64,if_neg h64,qm]
  by_cases hin:f*65+a≤i∧i<f*65+a+l.length
  ·have e1:i/65=f:=by omega
   have e2:i%65-a=i-(f*65+a):=by omega
   rw[if_pos hin,if_pos ⟨e1,by omega,by omega⟩,e2]
   have hj:i-(f*65+a)<l.length:=by omega
   simp only[List.getD_eq_getElem?_getD,List.getElem?_map,List.getElem?_eq_getElem hj,Option.map_some,Option.getD_some]
   rfl
  ·rw[if_neg hin,if_neg (by omega)]
theorem Va(w:World)(O:Nat→Prop)(p b:Nat)(R:RamS)(h:qi w O p b R)(v:Value)(l:List UInt8)(hv:Reads w v l)(fi ai:Int)(f a:Nat)(ef:fi=f)(ea:ai=a)(hf:f<1024)(hk:0<l.length)(hal:a+l.length≤64)(hb:R.bad f=false):
  Calls Tryz.prog 66 #[.pointer (some ⟨p,0,none⟩),.int .i64 fi,.int .i64 ai,v] w fun e w'=>e=.returned (.int .i64 0)∧qi w' O p b (R.write f a l)∧Turn O w w'∧w'.heap.size=w.heap.size:=by
 subst ef;subst ea
 obtain⟨ad,c,b0,off,rfl,ha,hx⟩:=hv
 obtain rfl:=ha hk
 have HX:Hid (∀j u,(l.map bV)[j]?=some u→w.cell? ((⟨b0,off,none⟩:Addr).add j)=some u):=fun j u hu=>by rw[add_plain];exact hx j u hu
 obtain⟨n,hn⟩:∃n,l.length=n:=⟨_,rfl⟩
 have A:=Lib.hid (Ji w O p b R h f a n hf (by omega) (by omega) hb)
 obtain⟨T,hT⟩:=h.2.2.2.2.heap
 have HT:=Lib.hid hT
 have H:=Lib.hid h
 have HN:=Lib.hid hn
 rw[hn]at hk hal⊢
 clear h hb hx hT hn ha
 have hs1:(Tryz.prog.info? 5).map (·.size)=some 1:=by kernel_rfl
 have HS:=Lib.hid hs1
 clear hs1
 go_enter Tryz.func66,Tryz.ntmps66
 go_wp2_with fail
 refine A.out.mono ?_
 rintro e w1 ⟨rfl,rfl⟩
 have C1:Hid ((l.map bV).length=Nat.min n n):=by show(l.map bV).length=Nat.min n n;rw[List.length_map,HN.out];exact(Nat.min_self n).symm
 have C2:Hid (f*65+a+(l.map bV).length≤((List.range 66560).map (xe R)).toArray.size):=by show _≤_;rw[List.length_map,HN.out,List.size_toArray,List.length_map,List.length_range];omega
 have C3:Hid (∀u∈l.map bV,u.oneCell'=true):=fun u hu=>by obtain⟨x,_,rfl⟩:=List.mem_map.1 hu;rfl
 have C4:Hid (qi (w1.setRow b (((List.range 66560).map (xe R)).toArray.toList.take (f*65+a)++(l.map bV++((List.range 66560).map (xe R)).toArray.toList.drop (f*65+a+(l.map bV).length))).toArray) O p b (R.write f a l)∧Turn O w1 (w1.setRow b (((List.range 66560).map (xe R)).toArray.toList.take (f*65+a)++(l.map bV++((List.range 66560).map (xe R)).toArray.toList.drop (f*65+a+(l.map bV).length))).toArray)∧(w1.setRow b (((List.range 66560).map (xe R)).toArray.toList.take (f*65+a)++(l.map bV++((List.range 66560).map (xe R)).toArray.toList.drop (f*65+a+(l.map bV).length))).toArray).heap.size=w1.heap.size):=
  ⟨qi.splice H.out hf l (by rw[HN.out];exact hal) _ T _ HT.out,(Turn.refl O w1).setRow (.inl H.out.2.1) _,setRow_size _ _ _⟩
 go_wp2_with (refine Vr rfl _ _ 22 22 rfl 5 Tryz.underlying22 HS.out b (f*65+a) n n ⟨b0,off,none⟩ n c rfl rfl _ T HT.out (l.map bV) C1.out HX.out C2.out C3.out (fun w'=>qi w' O p b (R.write f a l)∧Turn O w1 w'∧w'.heap.size=w1.heap.size) C4.out ?_;intro w2 H2)
 go_ret
 exact⟨rfl,H2.out⟩
theorem zbs(n:Nat):(Builtin.zeroCells #[.int .u8 0] n).toList=(List.replicate n (0:UInt8)).map bV:=by
 simp[Builtin.zeroCells,bV,Nat.mod_one,List.map_const']
theorem Js{P:Program}{w:World}{ops:Array Oper}{rest:List Oper}{o:Oper}{a:Act}{Q:Exit→Act→World→Prop}(hgd:o.guard=none)(d:Operand)(dT:TypeId)
  (ho:o.op=.call {callee:=.builtin .clear,args:=#[d],argTypes:=#[dT]}) (elem:TypeId) (hu:P.underlying dT=some (.slice elem)) (inf:TypeInfo) (hi:P.info? elem=some inf) (hz:inf.zero=some (.int .u8 0))
  (g off n cap:Nat) (hn:0<n) (hd:a.eval d=.slice (some ⟨g,off,none⟩) n cap)
  (cur:Array Value) (t:TypeId) (hg:w.heap[g]?=some (.cells cur t (0,0))) (hfit:off+n≤cur.size)
  (X:World→Prop) (hX:X (w.setRow g (cur.toList.take off++((List.replicate n (0:UInt8)).map bV++cur.toList.drop (off+((List.replicate n (0:UInt8)).map bV).length))).toArray))
  (h:∀w',Hid (X w')→wpList P ops Q rest (a.put o.dst (.tuple #[])) w'):wpList P ops Q (o::rest) a w:=by
 refine wpList_plain hgd fun K hK=>?_
 have hst:=run_storeCells_at P g off t ((List.replicate n (0:UInt8)).map bV) 0 cur w hg (by simp;omega) (fun v hv=>by obtain⟨x,_,rfl⟩:=List.mem_map.1 hv;rfl)
 simp only[Nat.add_zero,List.append_assoc]at hst
 have hrun:(Builtin.clear_ #[dT] o.type #[.slice (some ⟨g,off,none⟩) n cap]).run P w=.ok (.tuple #[]) (w.setRow g (cur.toList.take off++((List.replicate n (0:UInt8)).map bV++cur.toList.drop (off+((List.replicate n (0:UInt8)).map bV).length))).toArray):=by
  obtain⟨m,rfl⟩:∃m,n=m+1:=⟨n-1,by omega⟩
  have hzz:(zeroValue elem).run P w=.ok (.int .u8 0) w:=by simp[zeroValue,typeInfo,hi,hz]
  generalize hL:(List.replicate (m+1) (0:UInt8)).map bV=L at hst⊢
  have hzc:(Builtin.zeroCells #[.int .u8 0] (m+1)).toList=L:=by rw[zbs,hL]
  simp[Builtin.clear_,run_underlying hu,hzz,Value.cells,hzc,hst]
 generalize (List.replicate n (0:UInt8)).map bV=L at hX hrun
 unfold Oper.wp
 simp[execOp,ho,resolve,invoke,builtin,hd,hrun,Result.andThen]
 exact hK _ _ (h _ hX)
theorem hasU8:∃inf,Tryz.prog.info? 5=some inf∧inf.zero=some (.int .u8 0):=by
 have h1:(Tryz.prog.info? 5).bind (·.zero)=some (.int .u8 0):=by kernel_rfl
 cases h:Tryz.prog.info? 5 with
 | none=>rw[h]at h1;cases h1
 | some inf=>rw[h]at h1;exact⟨inf,rfl,h1⟩
theorem zc1(w:World)(O:Nat→Prop)(p b:Nat)(R:RamS)(h:qi w O p b R)(fi:Int)(f:Nat)(ef:fi=f)(hf:f<1024)(hb:R.bad f=false):
  Calls Tryz.prog 163 #[.pointer (some ⟨p,0,none⟩),.int .i64 fi] w fun e w'=>e=.returned (.int .i64 0)∧qi w' O p b (R.write f 0 (List.replicate 64 0))∧Turn O w w'∧w'.heap.size=w.heap.size:=by
 subst ef
 have A:=Lib.hid (Ji w O p b R h f 0 64 hf (by omega) (by omega) hb)
 obtain⟨T,hT⟩:=h.2.2.2.2.heap
 have HT:=Lib.hid hT
 have H:=Lib.hid h
 clear h hb hT
 obtain⟨inf,hinf,hz⟩:=hasU8
 have HI:=Lib.hid (And.intro hinf hz)
 clear hinf hz
 go_enter Tryz.func163,Tryz.ntmps163
 go_wp2_with fail
 refine A.out.mono ?_
 rintro e w1 ⟨rfl,rfl⟩
 have C2:Hid (f*65+0+64≤((List.range 66560).map (xe R)).toArray.size):=by show _≤_;rw[List.size_toArray,List.length_map,List.length_range];omega
 have C4:Hid (qi (w1.setRow b (((List.range 66560).map (xe R)).toArray.toList.take (f*65+0)++((List.replicate 64 (0:UInt8)).map bV++((List.range 66560).map (xe R)).toArray.toList.drop (f*65+0+((List.replicate 64 (0:UInt8)).map bV).length))).toArray) O p b (R.write f 0 (List.replicate 64 0))∧Turn O w1 (w1.setRow b (((List.range 66560).map (xe R)).toArray.toList.take (f*65+0)++((List.replicate 64 (0:UInt8)).map bV++((List.range 66560).map (xe R)).toArray.toList.drop (f*65+0+((List.replicate 64 (0:UInt8)).map bV).length))).toArray)∧(w1.setRow b (((List.range 66560).map (xe R)).toArray.toList.take (f*65+0)++((List.replicate 64 (0:UInt8)).map bV++((List.range 66560).map (xe R)).toArray.toList.drop (f*65+0+((List.replicate 64 (0:UInt8)).map bV).length))).toArray).heap.size=w1.heap.size):=
  ⟨qi.splice H.out hf (List.replicate 64 0) (by rw[List.length_replicate];omega) _ T _ HT.out,(Turn.refl O w1).setRow (.inl H.out.2.1) _,setRow_size _ _ _⟩
 go_wp2_with (refine Js rfl _ 22 rfl 5 Tryz.underlying22 inf HI.out.1 HI.out.2 b (f*65+0) 64 64 (by decide) rfl _ T HT.out C2.out (fun w'=>qi w' O p b (R.write f 0 (List.replicate 64 0))∧Turn O w1 w'∧w'.heap.size=w1.heap.size) C4.out ?_;intro w2 H2)
 go_ret
 exact⟨rfl,H2.out⟩
theorem zdd(w:World)(O:Nat→Prop)(p b:Nat)(R:RamS)(h:qi w O p b R)(fi gi:Int)(f g:Nat)(ef:fi=f)(eg:gi=g)(hf:f<1024)(hg:g<1024)(hb:R.bad f=false)(hbg:R.bad g=false):
  Calls Tryz.prog 80 #[.pointer (some ⟨p,0,none⟩),.int .i64 fi,.int .i64 gi] w fun e w'=>e=.returned (.int .i64 0)∧qi w' O p b (R.write g 0 (R.read f 0 64))∧Turn O w w'∧w'.heap.size=w.heap.size:=by
 subst ef;subst eg
 have A:=Lib.hid (Ji w O p b R h f 0 64 hf (by omega) (by omega) hb)
 have A2:=Lib.hid (Ji w O p b R h g 0 64 hg (by omega) (by omega) hbg)
 have hR:=zex h (f:=f) (a:=0) (k:=64) hf (by omega)
 obtain⟨a,c,b0,off,ev,ha,hx⟩:=hR
 cases ev
 have ha:=ha (by simp[RamS.read])
 cases ha
 have HX:Hid (∀j u,((R.read f 0 64).map bV)[j]?=some u→w.cell? ((⟨b,f*65+0,none⟩:Addr).add j)=some u):=fun j u hu=>by rw[add_plain];exact hx j u hu
 obtain⟨T,hT⟩:=h.2.2.2.2.heap
 have HT:=Lib.hid hT
 have H:=Lib.hid h
 clear h hb hbg hT hx
 have hs1:(Tryz.prog.info? 5).map (·.size)=some 1:=by kernel_rfl
 have HS:=Lib.hid hs1
 clear hs1
 go_enter Tryz.func80,Tryz.ntmps80
 go_wp2_with fail
 refine A.out.mono ?_
 rintro e w1 ⟨rfl,rfl⟩
 go_wp2_with fail
 refine A2.out.mono ?_
 rintro e w2 ⟨rfl,rfl⟩
 have hl:(R.read f 0 64).length=64:=by simp[RamS.read]
 have HL:=Lib.hid hl
 clear hl
 obtain⟨l,el⟩:∃l,R.read f 0 64=l:=⟨_,rfl⟩
 rw[el]at HL HX
 have EL:=Lib.hid el
 clear el
 have C1:Hid ((l.map bV).length=Nat.min 64 64):=by show(l.map bV).length=Nat.min 64 64;rw[List.length_map,HL.out];rfl
 have C2:Hid (g*65+0+(l.map bV).length≤((List.range 66560).map (xe R)).toArray.size):=by show _≤_;rw[List.length_map,HL.out,List.size_toArray,List.length_map,List.length_range];omega
 have C3:Hid (∀u∈l.map bV,u.oneCell'=true):=fun u hu=>by obtain⟨x,_,rfl⟩:=List.mem_map.1 hu;rfl
 have C4:Hid (qi (w2.setRow b (((List.range 66560).map (xe R)).toArray.toList.take (g*65+0)++(l.map bV++((List.range 66560).map (xe R)).toArray.toList.drop (g*65+0+(l.map bV).length))).toArray) O p b (R.write g 0 l)∧Turn O w2 (w2.setRow b (((List.range 66560).map (xe R)).toArray.toList.take (g*65+0)++(l.map bV++((List.range 66560).map (xe R)).toArray.toList.drop (g*65+0+(l.map bV).length))).toArray)∧(w2.setRow b (((List.range 66560).map (xe R)).toArray.toList.take (g*65+0)++(l.map bV++((List.range 66560).map (xe R)).toArray.toList.drop (g*65+0+(l.map bV).length))).toArray).heap.size=w2.heap.size):=
  ⟨qi.splice H.out hg l (by rw[HL.out];omega) _ T _ HT.out,(Turn.refl O w2).setRow (.inl H.out.2.1) _,setRow_size _ _ _⟩
 go_wp2_with (refine Vr rfl _ _ 22 22 rfl 5 Tryz.underlying22 HS.out b (g*65+0) 64 64 ⟨b,f*65+0,none⟩ 64 64 rfl rfl _ T HT.out (l.map bV) C1.out HX.out C2.out C3.out (fun w'=>qi w' O p b (R.write g 0 l)∧Turn O w2 w'∧w'.heap.size=w2.heap.size) C4.out ?_;intro w3 H3)
 go_ret
 rw[EL.out]
 exact⟨rfl,H3.out⟩
theorem zi2:∃i z,Tryz.prog.info? 245=some i∧i.zero=some z∧i.size=65∧i.bytes=65∧z.cells=(List.replicate 64 (Value.int .u8 0)++[Value.bool false]).toArray:=by
 have hi:(Tryz.prog.info? 245).map (fun i=>(i.size,i.bytes))=some (65,65):=by kernel_rfl
 have hz:(Tryz.prog.info? 245).bind (fun i=>i.zero.map (·.cells))=some ((List.replicate 64 (Value.int .u8 0)++[Value.bool false]).toArray):=by kernel_rfl
 cases h:Tryz.prog.info? 245 with
 | none=>rw[h]at hi;cases hi
 | some i=>
  rw[h]at hi hz
  simp only[Option.map_some,Option.bind_some,Option.some.injEq,Prod.mk.injEq]at hi hz
  obtain⟨z,hz,hc⟩:=Option.map_eq_some_iff.1 hz
  exact⟨i,z,rfl,hz,hi.1,hi.2,hc⟩
theorem zg0(i:Nat)(h:i<66560):(madeCells ((List.replicate 64 (Value.int .u8 0)++[Value.bool false]).toArray) 66560)[i]?=some (xe RamS.none i):=by
 unfold madeCells xe RamS.none
 have hs:((List.replicate 64 (Value.int .u8 0)++[Value.bool false]).toArray).size=65:=by simp
 rw[Array.getElem?_map,Array.getElem?_range,if_pos h,Option.map_some,hs]
 congr 1
 have hm:i%65<65:=Nat.mod_lt _ (by decide)
 rw[List.getElem!_toArray,List.getElem!_eq_getElem?_getD]
 by_cases e:i%65=64
 ·rw[if_pos e,e];rfl
 ·rw[if_neg e,List.getElem?_append_left (by simp;omega),List.getElem?_replicate,if_pos (by omega)]
  rfl
theorem zjy(w:World):Calls Tryz.prog 58 #[.int .i64 1024] w fun e w'=>e=.returned (.pointer (some ⟨w.heap.size+1,0,none⟩))∧qi w' (fun k=>w.heap.size≤k) (w.heap.size+1) w.heap.size RamS.none∧Below w.heap.size w w'∧w'.heap.size=w.heap.size+2:=by
 obtain⟨i,z,h1,h2,h3,h4,h5⟩:=zi2
 obtain⟨Z,hZ⟩:∃Z,madeCells z.cells 66560=Z:=⟨_,rfl⟩
 have mk:∀w,(Instr.makeSlice 179 (.int .i64 1024) (.int .i64 1024)).run Tryz.prog w=.ok (.slice (some ⟨w.heap.size,0,none⟩) 1024 1024) (w.alloc (.cells Z 245)):=fun w=>by
  have:=run_makeSlice (P:=Tryz.prog) w 179 245 i z Tryz.underlying179 h1 h2 .i64 .i64 1024 1024 (by omega) (by omega) (by rw[h3];decide) (by rw[h4];decide) (by decide)
  rw[h3]at this
  rw[←hZ]
  exact this
 have HZ:Hid (Z.size=66560∧∀i,i<66560→Z[i]?=some (xe RamS.none i)):=by
  subst hZ
  refine⟨size_madeCells _ _,?_⟩
  rw[h5]
  exact zg0
 clear h1 h2 h3 h4 h5 hZ
 go_enter Tryz.func58,Tryz.ntmps58
 go_wp2_with fail
 go_ret
 have R1:=Row.new w 66560 (xe RamS.none) Z 245 HZ.out.1 HZ.out.2
 have R2:=Row.one (w.alloc (.cells Z 245)) (.slice (some ⟨w.heap.size,0,none⟩) 1024 1024) 181
 rw[World.size_alloc]at R2
 exact⟨rfl,⟨Nat.le_succ _,Nat.le_refl _,Nat.succ_ne_self _,R2,R1.alloc _⟩,((Below.refl _ _).alloc (Nat.le_refl _) _).alloc (by simp) _,by simp⟩
def Zg(P:zk)(fs i:Nat):Value:=if i<1024 then .int .i64 (P.use i)else if i=1024 then .pointer (some ⟨fs,0,none⟩)else if i%2=1 then .int .i64 (P.zone ((i-1025)/2))else .bool (P.iso ((i-1025)/2))
def Y1(P:zk)(i:Nat):Value:=.int .u8 (if P.use i=1 then 1 else 0)
structure zq(w:World)(O:Nat→Prop)(p fs fb:Nat)(P:zk):Prop where
 o1:O p
 o2:O fs
 o3:O fb
 n1:p≠fs
 n2:p≠fb
 n3:fs≠fb
 r1:Row w p 1089 (Zg P fs)
 r2:Row w fs 1 (fun _=>.slice (some ⟨fb,0,none⟩) 1024 1024)
 r3:Row w fb 1024 (Y1 P)
section
variable {w w':World}{O O':Nat→Prop}{p fs fb:Nat}{P:zk}
theorem zq.loc(h:zq w O p fs fb P)(hk:∀k,k<w.heap.size→O k→O' k∧w'.heap[k]?=w.heap[k]?):zq w' O' p fs fb P:=
 ⟨(hk p h.r1.lt h.o1).1,(hk fs h.r2.lt h.o2).1,(hk fb h.r3.lt h.o3).1,h.n1,h.n2,h.n3,h.r1.keep (hk p h.r1.lt h.o1).2,h.r2.keep (hk fs h.r2.lt h.o2).2,h.r3.keep (hk fb h.r3.lt h.o3).2⟩
theorem zq.below(h:zq w O p fs fb P)(hb:Below w.heap.size w w'):zq w' O p fs fb P:=h.loc fun k hk ho=>⟨ho,hb.block k hk⟩
theorem zq.use(h:zq w O p fs fb P){f:Nat}(hf:f<1024):w.cell? ⟨p,f,none⟩=some (.int .i64 (P.use f)):=by
 rw[h.r1.cell (by omega)];unfold Zg;rw[if_pos hf]
theorem zq.ptr(h:zq w O p fs fb P):w.cell? ⟨p,1024,none⟩=some (.pointer (some ⟨fs,0,none⟩)):=by
 rw[h.r1.cell (by omega)];rfl
theorem zq.zone(h:zq w O p fs fb P){s:Nat}(hs:s<32):w.cell? ⟨p,1025+s*2,none⟩=some (.int .i64 (P.zone s)):=by
 rw[h.r1.cell (by omega)];unfold Zg;rw[if_neg (by omega),if_neg (by omega),if_pos (by omega),show(1025+s*2-1025)/2=s by omega]
theorem zq.iso(h:zq w O p fs fb P){s:Nat}(hs:s<32):w.cell? ⟨p,1025+s*2+1,none⟩=some (.bool (P.iso s)):=by
 rw[h.r1.cell (by omega)];unfold Zg;rw[if_neg (by omega),if_neg (by omega),if_neg (by omega),show(1025+s*2+1-1025)/2=s by omega]
end
def PutRel(w:World)(fb f:Nat)(v:Int)(k:Value)(W:World):Prop:=(k=.int .i64 0∧W=w)∨(k=.int .i64 1∧W=w.setCell ⟨fb,f,none⟩ (.int .u8 v))
theorem put_one(w:World)(fs fb:Nat)(g:Nat→Value)(v:Int)(f:Nat)(ab c:Nat)(h1:Row w fs 1 (fun _=>.slice (some ⟨fb,0,none⟩) 1024 1024))(h2:Row w fb 1024 g)(hf:f<1024)(ha:w.cell? ⟨ab,0,none⟩=some (.int .i64 f))(hne:fs≠fb):
  Calls Tryz.prog 193 #[.pointer (some ⟨fs,0,none⟩),.int .u8 v,.slice (some ⟨ab,0,none⟩) 1 c] w fun e w'=>e=.returned (.tuple #[])∧w'=w.setCell ⟨fb,f,none⟩ (.int .u8 v):=by
 have hc:=h1.cell (i:=0) (by omega)
 have hg:=h2.cell hf
 have hfr:=h2.frozen f
 have i1:(0:Int)≤f:=by omega
 have i2:(f:Int)<1024:=by omega
 clear h1 h2
 go_enter Tryz.func193,Tryz.ntmps193
 go_wp2_with fail
 go_loopw [10] (PutRel w fb f v) (fun k _=>1-(intOf k).toNat)
 case atStart=>exact .inl ⟨rfl,rfl⟩
 case round=>
  rcases hrel with⟨rfl,rfl⟩|⟨rfl,rfl⟩
  ·go_wp2_with fail
   go_roundw
   case rel=>exact .inr ⟨rfl,rfl⟩
   case measure=>simp[intOf]
  ·go_wp2_with fail
   exact bodyPost_end (v:=.tuple #[]) (by simp[results,Tryz.results193,go_sem]) rfl ⟨rfl,rfl⟩
theorem zof(w:World)(fs fb:Nat)(g:Nat→Value)(f:Nat)(ab c:Nat)(h1:Row w fs 1 (fun _=>.slice (some ⟨fb,0,none⟩) 1024 1024))(h2:Row w fb 1024 g)(hf:f<1024)(ha:w.cell? ⟨ab,0,none⟩=some (.int .i64 f))(hne:fs≠fb):
  Calls Tryz.prog 151 #[.pointer (some ⟨fs,0,none⟩),.slice (some ⟨ab,0,none⟩) 1 c] w fun e w'=>e=.returned (.tuple #[])∧w'=w.setCell ⟨fb,f,none⟩ (.int .u8 1):=by
 have A:=Lib.hid (put_one w fs fb g 1 f ab c h1 h2 hf ha hne)
 clear h1 h2 ha
 go_enter Tryz.func151,Tryz.ntmps151
 go_wp2_with fail
 refine A.out.mono ?_
 rintro e w1 ⟨rfl,rfl⟩
 go_wp2_with fail
 exact bodyPost_end (v:=.tuple #[]) (by simp[results,Tryz.results151,go_sem]) rfl ⟨rfl,rfl⟩
theorem zk9(w:World)(fs fb:Nat)(g:Nat→Value)(f:Nat)(ab c:Nat)(h1:Row w fs 1 (fun _=>.slice (some ⟨fb,0,none⟩) 1024 1024))(h2:Row w fb 1024 g)(hf:f<1024)(ha:w.cell? ⟨ab,0,none⟩=some (.int .i64 f))(hne:fs≠fb):
  Calls Tryz.prog 152 #[.pointer (some ⟨fs,0,none⟩),.slice (some ⟨ab,0,none⟩) 1 c] w fun e w'=>e=.returned (.tuple #[])∧w'=w.setCell ⟨fb,f,none⟩ (.int .u8 0):=by
 have A:=Lib.hid (put_one w fs fb g 0 f ab c h1 h2 hf ha hne)
 clear h1 h2 ha
 go_enter Tryz.func152,Tryz.ntmps152
 go_wp2_with fail
 refine A.out.mono ?_
 rintro e w1 ⟨rfl,rfl⟩
 go_wp2_with fail
 exact bodyPost_end (v:=.tuple #[]) (by simp[results,Tryz.results152,go_sem]) rfl ⟨rfl,rfl⟩
theorem zq.put{w:World}{O:Nat→Prop}{p fs fb:Nat}{P:zk}(h:zq w O p fs fb P){f:Nat}(hf:f<1024)(u:Nat)(T:TypeId):
  zq (((w.setCell ⟨p,f,none⟩ (.int .i64 u)).alloc (.cells #[.int .i64 f] T (0,0))).setCell ⟨fb,f,none⟩ (.int .u8 (if u=1 then 1 else 0))) O p fs fb (P.set f u):=by
 have hw:∀x:World,Below x.heap.size x (x.alloc (.cells #[.int .i64 f] T (0,0))):=fun x=>(Below.refl _ _).alloc (Nat.le_refl _) _
 refine⟨h.o1,h.o2,h.o3,h.n1,h.n2,h.n3,?_,?_,?_⟩
 ·refine((((h.r1.set (i:=f) (by omega) (.int .i64 u)).below (hw _)).other (p:=⟨fb,f,none⟩) (Ne.symm h.n2) _).congr fun i hi=>?_)
  unfold Zg zk.set
  by_cases e:i=f
  ·subst e;simp[hf]
  ·simp[e]
 ·exact(((h.r2.other (p:=⟨p,f,none⟩) h.n1 _).below (hw _)).other (p:=⟨fb,f,none⟩) (Ne.symm h.n3) _)
 ·refine((((h.r3.other (p:=⟨p,f,none⟩) h.n2 _).below (hw _)).set hf _).congr fun i hi=>?_)
  unfold Y1 zk.set
  by_cases e:i=f
  ·subst e;simp
  ·simp[e]
theorem set_walk(w:World)(O:Nat→Prop)(p fs fb:Nat)(P:zk)(h:zq w O p fs fb P)(fi ui:Int)(f u:Nat)(ef:fi=f)(eu:ui=u)(hf:f<1024):
  Calls Tryz.prog 106 #[.pointer (some ⟨p,0,none⟩),.int .i64 fi,.int .i64 ui] w fun e w'=>e=.returned (.tuple #[])∧zq w' O p fs fb (P.set f u)∧Turn O w w':=by
 subst ef;subst eu
 have hc:=h.ptr
 have hu:=h.use hf
 have hfr:=h.r1.frozen f
 have hp:=h.r1.lt
 have n1:=h.n1
 have i1:(0:Int)≤f:=by omega
 have i2:(f:Int)<1024:=by omega
 have H:=Lib.hid h
 have r2:∀T,Row ((w.setCell ⟨p,f,none⟩ (.int .i64 u)).alloc (.cells #[.int .i64 f] T (0,0))) fs 1 (fun _=>.slice (some ⟨fb,0,none⟩) 1024 1024):=fun T=>((h.r2.other (p:=⟨p,f,none⟩) h.n1 _).alloc _)
 have r3:∀T,Row ((w.setCell ⟨p,f,none⟩ (.int .i64 u)).alloc (.cells #[.int .i64 f] T (0,0))) fb 1024 (Y1 P):=fun T=>((h.r3.other (p:=⟨p,f,none⟩) h.n2 _).alloc _)
 have A1:=Lib.hid (fun T=>zof _ fs fb _ f w.heap.size 1 (r2 T) (r3 T) hf (by go_simp) h.n3)
 have A2:=Lib.hid (fun T=>zk9 _ fs fb _ f w.heap.size 1 (r2 T) (r3 T) hf (by go_simp) h.n3)
 have T1:Hid (∀T v,Turn O w (((w.setCell ⟨p,f,none⟩ (.int .i64 u)).alloc (.cells #[.int .i64 f] T (0,0))).setCell ⟨fb,f,none⟩ v)):=fun T v=>(((Turn.refl O w).set (.inl h.o1) _).alloc _).set (.inl h.o3) _
 clear h r2 r3
 by_cases e:u=1
 ·subst e
  go_enter Tryz.func106,Tryz.ntmps106
  go_wp2_with fail
  refine(A1.out _).mono ?_
  rintro e w1 ⟨rfl,rfl⟩
  go_wp2_with fail
  exact bodyPost_end (v:=.tuple #[]) (by simp[results,Tryz.results106,go_sem]) rfl ⟨rfl,H.out.put hf 1 _,T1.out _ _⟩
 ·have i3:((u:Int)==1)=false:=beq_eq_false_iff_ne.2 (by omega)
  go_enter Tryz.func106,Tryz.ntmps106
  go_wp2_with fail
  refine(A2.out _).mono ?_
  rintro e w1 ⟨rfl,rfl⟩
  go_wp2_with fail
  have:=H.out.put hf u 3
  rw[if_neg ‹¬u=1›]at this
  exact bodyPost_end (v:=.tuple #[]) (by simp[results,Tryz.results106,go_sem]) rfl ⟨rfl,this,T1.out _ _⟩
theorem zi1(w:World)(fi:Int)(h:0≤fi∧fi<1024):Calls Tryz.prog 101 #[.int .i64 fi] w fun e w'=>e=.returned (.bool true)∧w'=w:=by
 obtain⟨h0,h1⟩:=h
 go_enter Tryz.func101,Tryz.ntmps101
 go_wp2_with fail
 go_ret
 exact⟨rfl,rfl⟩
theorem frame_no(w:World)(fi:Int)(h:fi<0∨1024≤fi):Calls Tryz.prog 101 #[.int .i64 fi] w fun e w'=>e=.returned (.bool false)∧w'=w:=by
 by_cases h0:fi<0
 ·have h0':¬(0:Int)≤fi:=by omega
  clear h
  go_enter Tryz.func101,Tryz.ntmps101
  go_wp2_with fail
  go_ret
  exact⟨rfl,rfl⟩
 ·have h0':(0:Int)≤fi:=by omega
  have h1:¬fi<1024:=by omega
  clear h h0
  go_enter Tryz.func101,Tryz.ntmps101
  go_wp2_with fail
  go_ret
  exact⟨rfl,rfl⟩
theorem Xy(w:World)(fi:Int)(h:0≤fi∧fi<32):Calls Tryz.prog 107 #[.int .i64 fi] w fun e w'=>e=.returned (.bool true)∧w'=w:=by
 obtain⟨h0,h1⟩:=h
 go_enter Tryz.func107,Tryz.ntmps107
 go_wp2_with fail
 go_ret
 exact⟨rfl,rfl⟩
theorem zha(w:World)(fi:Int)(h:fi<0∨32≤fi):Calls Tryz.prog 107 #[.int .i64 fi] w fun e w'=>e=.returned (.bool false)∧w'=w:=by
 by_cases h0:fi<0
 ·have h0':¬(0:Int)≤fi:=by omega
  clear h
  go_enter Tryz.func107,Tryz.ntmps107
  go_wp2_with fail
  go_ret
  exact⟨rfl,rfl⟩
 ·have h0':(0:Int)≤fi:=by omega
  have h1:¬fi<32:=by omega
  clear h h0
  go_enter Tryz.func107,Tryz.ntmps107
  go_wp2_with fail
  go_ret
  exact⟨rfl,rfl⟩
theorem Zt(w:World)(si:Int)(s:Nat)(es:si=s)(hs:s<32):Calls Tryz.prog 104 #[.int .i64 si] w fun e w'=>e=.returned (.tuple #[.int .i64 ((s:Int)*32),.int .i64 (((s:Int)+1)*32)])∧w'=w:=by
 subst es
 have h0:¬(s:Int)<0:=by omega
 have h1:¬(32:Int)≤s:=by omega
 have h2:(0:Int)≤s:=by omega
 have h3:(s:Int)<32:=by omega
 go_enter Tryz.func104,Tryz.ntmps104
 go_wp2_with fail
 go_ret2
 exact⟨rfl,rfl⟩
section
variable (w:World)(O:Nat→Prop)(p fs fb:Nat)(P:zk)
theorem zc2(h:zq w O p fs fb P)(fi:Int)(f:Nat)(ef:fi=f)(hf:f<1024):Calls Tryz.prog 38 #[.pointer (some ⟨p,0,none⟩),.int .i64 fi] w fun e w'=>e=.returned (.int .i64 (P.use f))∧w'=w:=by
 subst ef
 have hu:=h.use hf
 have h0:(0:Int)≤f:=by omega
 have h1:(f:Int)<1024:=by omega
 clear h
 go_enter Tryz.func38,Tryz.ntmps38
 go_wp2_with fail
 refine(zi1 w f ⟨h0,h1⟩).mono ?_
 rintro e w1 ⟨rfl,rfl⟩
 go_wp2_with fail
 go_ret
 exact⟨rfl,rfl⟩
theorem zju(h:zq w O p fs fb P)(si:Int)(s:Nat)(es:si=s)(hs:s<32):Calls Tryz.prog 46 #[.pointer (some ⟨p,0,none⟩),.int .i64 si] w fun e w'=>e=.returned (.int .i64 (P.zone s))∧w'=w:=by
 subst es
 have hu:=h.zone hs
 have h0:(0:Int)≤s:=by omega
 have h1:(s:Int)<32:=by omega
 clear h
 go_enter Tryz.func46,Tryz.ntmps46
 go_wp2_with fail
 refine(Xy w s ⟨h0,h1⟩).mono ?_
 rintro e w1 ⟨rfl,rfl⟩
 go_wp2_with fail
 go_ret
 exact⟨rfl,rfl⟩
theorem zme(si:Int)(hs:si<0∨32≤si):Calls Tryz.prog 46 #[.pointer (some ⟨p,0,none⟩),.int .i64 si] w fun e w'=>e=.returned (.int .i64 0)∧w'=w:=by
 have F:=Lib.hid (zha w si hs)
 clear hs
 go_enter Tryz.func46,Tryz.ntmps46
 go_wp2_with fail
 refine F.out.mono ?_
 rintro e w1 ⟨rfl,rfl⟩
 go_wp2_with fail
 go_ret
 exact⟨rfl,rfl⟩
theorem V9(h:zq w O p fs fb P)(fi:Int)(f:Nat)(ef:fi=f)(hf:f<1024)(h2:2≤P.use f)(h5:P.use f≤5):
  Calls Tryz.prog 44 #[.pointer (some ⟨p,0,none⟩),.int .i64 fi] w fun e w'=>e=.returned (.bool true)∧zq w' O p fs fb (P.set f 1)∧Turn O w w':=by
 subst ef
 have U:=Lib.hid (zc2 w O p fs fb P h f f rfl hf)
 have S:=Lib.hid (set_walk w O p fs fb P h f 1 f 1 rfl rfl hf)
 clear h
 generalize P.use f=u at h2 h5 U
 have i2:¬(u:Int)<2:=by omega
 have i5:¬(5:Int)<u:=by omega
 go_enter Tryz.func44,Tryz.ntmps44
 go_wp2_with fail
 refine U.out.mono ?_
 rintro e w1 ⟨rfl,rfl⟩
 go_wp2_with fail
 refine S.out.mono ?_
 rintro e w2 ⟨rfl,h3⟩
 have H3:=Lib.hid h3
 clear h3
 go_wp2_with fail
 go_ret
 exact⟨rfl,H3.out⟩
theorem zor(fi:Int)(u:Int)(hu:Calls Tryz.prog 38 #[.pointer (some ⟨p,0,none⟩),.int .i64 fi] w fun e w'=>e=.returned (.int .i64 u)∧w'=w)(hn:u<2∨5<u):
  Calls Tryz.prog 44 #[.pointer (some ⟨p,0,none⟩),.int .i64 fi] w fun e w'=>e=.returned (.bool false)∧w'=w:=by
 have U:=Lib.hid hu
 clear hu
 by_cases h2:u<2
 ·clear hn
  go_enter Tryz.func44,Tryz.ntmps44
  go_wp2_with fail
  refine U.out.mono ?_
  rintro e w1 ⟨rfl,rfl⟩
  go_wp2_with fail
  go_ret
  exact⟨rfl,rfl⟩
 ·have h5:5<u:=by omega
  clear hn
  go_enter Tryz.func44,Tryz.ntmps44
  go_wp2_with fail
  refine U.out.mono ?_
  rintro e w1 ⟨rfl,rfl⟩
  go_wp2_with fail
  go_ret
  exact⟨rfl,rfl⟩
end
theorem zeo:∃i,Tryz.prog.info? 5=some i∧i.zero=some (.int .u8 0)∧i.size=1∧i.bytes=1:=by
 obtain⟨i,h1,h2,h3⟩:=zfa
 obtain⟨j,h4,h5⟩:=hasU8
 rw[h1]at h4
 cases h4
 exact⟨i,h1,h5,h2,h3⟩
theorem zdz(n:Nat)(hn:n≤100000)(w:World):(Instr.makeSlice 22 (.int .i64 n) (.int .i64 n)).run Tryz.prog w=.ok (.slice (some ⟨w.heap.size,0,none⟩) n n) (w.alloc (.cells (madeCells #[.int .u8 0] n) 5)):=by
 obtain⟨i,h1,h2,h3,h4⟩:=zeo
 have:=run_makeSlice (P:=Tryz.prog) w 22 5 i (.int .u8 0) Tryz.underlying22 h1 h2 .i64 .i64 n n (by omega) (by omega) (by rw[h3];simp;omega) (by rw[h4];omega) (by omega)
 rw[h3,Nat.mul_one]at this
 simpa[Value.cells]using this
theorem zdi(n i:Nat)(h:i<n):(madeCells #[.int .u8 0] n)[i]?=some (.int .u8 0):=by
 unfold madeCells
 rw[Array.getElem?_map,Array.getElem?_range,if_pos h]
 simp[Nat.mod_one]
theorem zkf(w:World):Calls Tryz.prog 113 #[.int .i64 1024] w fun e w'=>e=.returned (.pointer (some ⟨w.heap.size+1,0,none⟩))∧Row w' (w.heap.size+1) 1 (fun _=>.slice (some ⟨w.heap.size,0,none⟩) 1024 1024)∧Row w' w.heap.size 1024 (fun _=>.int .u8 0)∧Below w.heap.size w w'∧w'.heap.size=w.heap.size+2:=by
 obtain⟨Z,hZ⟩:∃Z,madeCells #[.int .u8 0] 1024=Z:=⟨_,rfl⟩
 have mk:∀w,(Instr.makeSlice 22 (.int .i64 1024) (.int .i64 1024)).run Tryz.prog w=.ok (.slice (some ⟨w.heap.size,0,none⟩) 1024 1024) (w.alloc (.cells Z 5)):=fun w=>by
  have:=zdz 1024 (by omega) w
  rw[hZ]at this
  exact this
 have HZ:Hid (Z.size=1024∧∀i,i<1024→Z[i]?=some (.int .u8 0)):=by
  subst hZ
  exact⟨size_madeCells _ _,fun i hi=>zdi _ _ hi⟩
 clear hZ
 go_enter Tryz.func113,Tryz.ntmps113
 go_wp2_with fail
 go_ret
 have R1:=Row.new w 1024 (fun _=>.int .u8 0) Z 5 HZ.out.1 HZ.out.2
 have R2:=Row.one (w.alloc (.cells Z 5)) (.slice (some ⟨w.heap.size,0,none⟩) 1024 1024) 236
 rw[World.size_alloc]at R2
 exact⟨rfl,R2,R1.alloc _,((Below.refl _ _).alloc (Nat.le_refl _) _).alloc (by simp) _,by simp⟩
theorem Qy:Tryz.zeroCells165.toList=(List.range 1089).map (fun i=>if i<1024 then .int .i64 0 else if i=1024 then .pointer none else if i%2=1 then .int .i64 0 else .bool false):=by kernel_rfl
theorem ze3(w:World):Calls Tryz.prog 52 #[] w fun e w'=>e=.returned (.pointer (some ⟨w.heap.size+2,0,none⟩))∧zq w' (fun k=>w.heap.size≤k) (w.heap.size+2) (w.heap.size+1) w.heap.size zk.none∧Below w.heap.size w w'∧w'.heap.size=w.heap.size+3:=by
 go_enter Tryz.func52,Tryz.ntmps52
 go_wp2_with fail
 refine(zkf w).mono ?_
 rintro e w1 ⟨rfl,h1,h2,h3,h4⟩
 have H1:=Lib.hid (And.intro h1 (And.intro h2 h3))
 clear h1 h2 h3
 go_wp2_with fail
 go_ret
 have hs:(Tryz.zeroCells165.setIfInBounds 1024 (.pointer (some ⟨w.heap.size+1,0,none⟩))).size=1089:=by
  rw[Array.size_setIfInBounds,←Array.length_toList,Qy,List.length_map,List.length_range]
 have hc:∀i,i<1089→(Tryz.zeroCells165.setIfInBounds 1024 (.pointer (some ⟨w.heap.size+1,0,none⟩)))[i]?=some (Zg zk.none (w.heap.size+1) i):=fun i hi=>by
  rw[Array.getElem?_setIfInBounds]
  unfold Zg zk.none
  by_cases e:1024=i
  ·subst e
   rw[if_pos rfl,if_pos (by rw[←Array.length_toList,Qy,List.length_map,List.length_range];exact hi),if_neg (by omega),if_pos rfl]
  ·rw[if_neg e,←Array.getElem?_toList,Qy,List.getElem?_map,List.getElem?_range hi,Option.map_some,if_neg (Ne.symm e)]
   split
   ·rfl
   ·rw[if_neg (Ne.symm e)];rfl
 have R:=Row.new w1 1089 _ _ 165 hs hc
 rw[h4]at R
 have hb:=(Below.refl w1.heap.size w1).alloc (Nat.le_refl _) (.cells (Tryz.zeroCells165.setIfInBounds 1024 (.pointer (some ⟨w.heap.size+1,0,none⟩))) 165 (0,0))
 refine⟨rfl,⟨by show _≤_;omega,by show _≤_;omega,Nat.le_refl _,by omega,by omega,by omega,R,H1.out.1.below hb,(H1.out.2.1.below hb).congr fun i hi=>rfl⟩,H1.out.2.2.trans (hb.mono (by omega)),by simp[h4]⟩
theorem zj5(w:World)(x:Int):Calls Tryz.prog 162 #[.slice none 0 0,.int .i64 x] w fun e w'=>e=.returned (.int .i64 (-1))∧w'=w:=by
 go_enter Tryz.func162,Tryz.ntmps162
 go_wp2_with fail
 go_loop [8] (fun k=>k=.int .i64 0) (fun _=>0)
 case atStart=>rfl
 case round=>
  subst hrel
  go_wp2_with fail
  go_ret
  exact⟨rfl,rfl⟩
theorem U8(w:World)(x:Int):Calls Tryz.prog 114 #[.slice none 0 0,.int .i64 x] w fun e w'=>e=.returned (.bool false)∧w'=w:=by
 go_enter Tryz.func114,Tryz.ntmps114
 go_wp2_with fail
 refine(zj5 w x).mono ?_
 rintro e w1 ⟨rfl,rfl⟩
 go_wp2_with fail
 go_ret
 exact⟨rfl,rfl⟩
def zk.on(P:zk)(s z k:Nat):zk:=
 ⟨fun f=>if 32*s≤f∧f<32*s+k then(if P.use f=6 then 6 else 1)else P.use f,fun t=>if t=s then z else P.zone t,fun t=>if t=s then false else P.iso t⟩
theorem zk.zh5(P:zk)(s z k f:Nat)(hf:f=32*s+k):(P.on s z k).use f=P.use f:=by
 unfold zk.on
 simp only
 rw[if_neg (by omega)]
theorem zk.za8(P:zk)(s z k f u:Nat)(hf:f=32*s+k)(hu:u=if P.use f=6 then 6 else 1):(P.on s z k).set f u=P.on s z (k+1):=by
 unfold zk.on zk.set
 simp only[zk.mk.injEq,and_true]
 funext g
 by_cases e:g=f
 ·subst e
  have:32*s≤g∧g<32*s+(k+1):=by omega
  rw[if_pos rfl,if_pos this,hu]
 ·rw[if_neg e]
  by_cases e2:32*s≤g∧g<32*s+k
  ·have:32*s≤g∧g<32*s+(k+1):=by omega
   simp only[if_pos e2,if_pos this]
  ·have:¬(32*s≤g∧g<32*s+(k+1)):=by omega
   simp only[if_neg e2,if_neg this]
theorem zq.on0{w:World}{O:Nat→Prop}{p fs fb:Nat}{P:zk}(h:zq w O p fs fb P){s:Nat}(hs:s<32)(z:Nat)(zi:Int)(ez:zi=z):
  zq ((w.setCell ⟨p,1025+s*2,none⟩ (.int .i64 zi)).setCell ⟨p,1025+s*2+1,none⟩ (.bool false)) O p fs fb (P.on s z 0)∧Turn O w ((w.setCell ⟨p,1025+s*2,none⟩ (.int .i64 zi)).setCell ⟨p,1025+s*2+1,none⟩ (.bool false)):=by
 subst ez
 refine⟨⟨h.o1,h.o2,h.o3,h.n1,h.n2,h.n3,?_,(h.r2.other (p:=⟨p,1025+s*2,none⟩) h.n1 _).other (p:=⟨p,1025+s*2+1,none⟩) h.n1 _,?_⟩,((Turn.refl O w).set (.inl h.o1) _).set (.inl h.o1) _⟩
 ·refine((h.r1.set (i:=1025+s*2) (by omega) _).set (i:=1025+s*2+1) (by omega) _).congr fun i hi=>?_
  unfold Zg zk.on
  simp only
  by_cases e1:i=1025+s*2+1
  ·subst e1
   rw[if_pos rfl,if_neg (by omega),if_neg (by omega),if_neg (by omega),if_pos (by omega)]
  ·rw[if_neg e1]
   by_cases e2:i=1025+s*2
   ·subst e2
    rw[if_pos rfl,if_neg (by omega),if_neg (by omega),if_pos (by omega),if_pos (by omega)]
   ·rw[if_neg e2]
    by_cases e3:i<1024
    ·rw[if_pos e3,if_pos e3,if_neg (by omega)]
    ·rw[if_neg e3,if_neg e3]
     by_cases e4:i=1024
     ·rw[if_pos e4,if_pos e4]
     ·rw[if_neg e4,if_neg e4]
      by_cases e5:i%2=1
      ·rw[if_pos e5,if_pos e5,if_neg (by omega)]
      ·rw[if_neg e5,if_neg e5,if_neg (by omega)]
 ·refine((h.r3.other (p:=⟨p,1025+s*2,none⟩) h.n2 _).other (p:=⟨p,1025+s*2+1,none⟩) h.n2 _).congr fun i hi=>?_
  unfold Y1 zk.on
  have:¬(32*s≤i∧i<32*s+0):=by omega
  simp only[if_neg this]
theorem Y6(w:World)(O:Nat→Prop)(p fs fb:Nat)(P:zk)(h:zq w O p fs fb P)(si zi:Int)(s z:Nat)(es:si=s)(ez:zi=z)(hs:s<32)(hz:z=2∨z=3)(h0:P.zone s=0):
  Calls Tryz.prog 53 #[.pointer (some ⟨p,0,none⟩),.int .i64 si,.int .i64 zi,.slice none 0 0] w fun e w'=>e=.returned (.int .i64 0)∧zq w' O p fs fb (P.on s z 32)∧Turn O w w':=by
 subst es;subst ez
 have hzc:=h.zone hs
 rw[h0]at hzc
 have hic:=h.iso hs
 have hf0:=h.r1.frozen (1025+s*2)
 have hf1:=h.r1.frozen (1025+s*2+1)
 have i0:(0:Int)≤s:=by omega
 have i1:(s:Int)<32:=by omega
 have H:=Lib.hid h
 have z1:((z:Int)==2 || (z:Int)==3)=true:=by rcases hz with rfl|rfl<;>rfl
 clear h h0
 have Z1:=Lib.hid z1
 clear z1
 rcases hz with rfl|rfl
 ·go_enter Tryz.func53,Tryz.ntmps53
  go_wp2_with ((go_at_call 107;refine(Xy _ s ⟨i0,i1⟩).mono ?_;rintro e w1 ⟨rfl,rfl⟩))
  refine(Zt _ _ s rfl hs).mono ?_
  rintro e w2 ⟨rfl,hw2⟩
  have K:=Lib.hid (H.out.on0 hs 2 2 rfl)
  clear hzc hic hf0 hf1
  replace K:Hid (zq w2 O p fs fb (P.on s 2 0)∧Turn O w1 w2):=by rw[hw2];exact K
  clear hw2
  go_wp2_with fail
  go_loopw [11] (fun f W=>∃F:Nat,32*s≤F∧F≤32*s+32∧f=.int .i64 F∧zq W O p fs fb (P.on s 2 (F-32*s))∧Turn O w1 W) (fun f _=>32*s+32-(intOf f).toNat)
  case atStart=>exact⟨32*s,by omega,by omega,by go_num,by rw[Nat.sub_self];exact K.out.1,K.out.2⟩
  case round=>
   obtain⟨F,f1,f2,rfl,q1,q2⟩:=hrel
   have Q1:=Lib.hid q1
   have Q2:=Lib.hid q2
   clear q2
   by_cases hlt:F<32*s+32
   ·have j0:(F:Int)<((s:Int)+1)*32:=by omega
    have j1:(0:Int)≤F:=by omega
    have j2:(F:Int)<1024:=by omega
    have hu:=q1.use (f:=F) (by omega)
    rw[P.zh5 s 2 (F-32*s) F (by omega)]at hu
    clear q1
    by_cases h6:P.use F=6
    ·rw[h6]at hu
     go_wp2_with fail
     refine(set_walk _ O p fs fb _ Q1.out F 6 F 6 rfl rfl (by omega)).mono ?_
     rintro e w4 ⟨rfl,g1,g2⟩
     rw[P.za8 s 2 (F-32*s) F 6 (by omega) (by rw[if_pos h6])]at g1
     have G:=Lib.hid (And.intro g1 g2)
     clear g1 g2
     go_wp2_with fail
     go_roundw
     case rel=>exact⟨F+1,by omega,by omega,by go_num,by rw[show F+1-32*s=F-32*s+1 by omega];exact G.out.1,Q2.out.trans G.out.2⟩
     case measure=>simp[intOf];omega
    ·have n6:((P.use F:Int)==6)=false:=beq_eq_false_iff_ne.2 (by omega)
     go_wp2_with fail
     refine(U8 _ F).mono ?_
     rintro e w4 ⟨rfl,rfl⟩
     go_wp2_with fail
     refine(set_walk _ O p fs fb _ Q1.out F 1 F 1 rfl rfl (by omega)).mono ?_
     rintro e w5 ⟨rfl,g1,g2⟩
     rw[P.za8 s 2 (F-32*s) F 1 (by omega) (by rw[if_neg h6])]at g1
     have G:=Lib.hid (And.intro g1 g2)
     clear g1 g2
     go_wp2_with fail
     go_roundw
     case rel=>exact⟨F+1,by omega,by omega,by go_num,by rw[show F+1-32*s=F-32*s+1 by omega];exact G.out.1,Q2.out.trans G.out.2⟩
     case measure=>simp[intOf];omega
   ·have j0:¬(F:Int)<((s:Int)+1)*32:=by omega
    obtain rfl:F=32*s+32:=by omega
    clear q1
    go_wp2_with fail
    go_ret
    rw[show 32*s+32-32*s=32 by omega]at Q1
    exact⟨rfl,Q1.out,Q2.out⟩
 ·go_enter Tryz.func53,Tryz.ntmps53
  go_wp2_with ((go_at_call 107;refine(Xy _ s ⟨i0,i1⟩).mono ?_;rintro e w1 ⟨rfl,rfl⟩))
  refine(Zt _ _ s rfl hs).mono ?_
  rintro e w2 ⟨rfl,hw2⟩
  have K:=Lib.hid (H.out.on0 hs 3 3 rfl)
  clear hzc hic hf0 hf1
  replace K:Hid (zq w2 O p fs fb (P.on s 3 0)∧Turn O w1 w2):=by rw[hw2];exact K
  clear hw2
  go_wp2_with fail
  go_loopw [11] (fun f W=>∃F:Nat,32*s≤F∧F≤32*s+32∧f=.int .i64 F∧zq W O p fs fb (P.on s 3 (F-32*s))∧Turn O w1 W) (fun f _=>32*s+32-(intOf f).toNat)
  case atStart=>exact⟨32*s,by omega,by omega,by go_num,by rw[Nat.sub_self];exact K.out.1,K.out.2⟩
  case round=>
   obtain⟨F,f1,f2,rfl,q1,q2⟩:=hrel
   have Q1:=Lib.hid q1
   have Q2:=Lib.hid q2
   clear q2
   by_cases hlt:F<32*s+32
   ·have j0:(F:Int)<((s:Int)+1)*32:=by omega
    have j1:(0:Int)≤F:=by omega
    have j2:(F:Int)<1024:=by omega
    have hu:=q1.use (f:=F) (by omega)
    rw[P.zh5 s 3 (F-32*s) F (by omega)]at hu
    clear q1
    by_cases h6:P.use F=6
    ·rw[h6]at hu
     go_wp2_with fail
     refine(set_walk _ O p fs fb _ Q1.out F 6 F 6 rfl rfl (by omega)).mono ?_
     rintro e w4 ⟨rfl,g1,g2⟩
     rw[P.za8 s 3 (F-32*s) F 6 (by omega) (by rw[if_pos h6])]at g1
     have G:=Lib.hid (And.intro g1 g2)
     clear g1 g2
     go_wp2_with fail
     go_roundw
     case rel=>exact⟨F+1,by omega,by omega,by go_num,by rw[show F+1-32*s=F-32*s+1 by omega];exact G.out.1,Q2.out.trans G.out.2⟩
     case measure=>simp[intOf];omega
    ·have n6:((P.use F:Int)==6)=false:=beq_eq_false_iff_ne.2 (by omega)
     go_wp2_with fail
     refine(U8 _ F).mono ?_
     rintro e w4 ⟨rfl,rfl⟩
     go_wp2_with fail
     refine(set_walk _ O p fs fb _ Q1.out F 1 F 1 rfl rfl (by omega)).mono ?_
     rintro e w5 ⟨rfl,g1,g2⟩
     rw[P.za8 s 3 (F-32*s) F 1 (by omega) (by rw[if_neg h6])]at g1
     have G:=Lib.hid (And.intro g1 g2)
     clear g1 g2
     go_wp2_with fail
     go_roundw
     case rel=>exact⟨F+1,by omega,by omega,by go_num,by rw[show F+1-32*s=F-32*s+1 by omega];exact G.out.1,Q2.out.trans G.out.2⟩
     case measure=>simp[intOf];omega
   ·have j0:¬(F:Int)<((s:Int)+1)*32:=by omega
    obtain rfl:F=32*s+32:=by omega
    clear q1
    go_wp2_with fail
    go_ret
    rw[show 32*s+32-32*s=32 by omega]at Q1
    exact⟨rfl,Q1.out,Q2.out⟩
def runV:Option Nat→Value
 | some f=>.tuple #[.int .i64 f,.bool true]
 | none=>.tuple #[.int .i64 0,.bool false]
theorem zmi(w:World)(fs fb:Nat)(P:zk)(r2:Row w fs 1 (fun _=>.slice (some ⟨fb,0,none⟩) 1024 1024))(r3:Row w fb 1024 (Y1 P))(lo:Nat)(hlo:lo+32≤1024)(fi ti:Int)(ef:fi=lo)(et:ti=lo+32):
  Calls Tryz.prog 150 #[.pointer (some ⟨fs,0,none⟩),.int .i64 0,.int .i64 fi,.int .i64 ti] w fun e w'=>e=.returned (runV (ut (fun f=>P.use f==1) lo 32))∧Below w.heap.size w w':=by
 subst ef
 obtain⟨hi,hhi⟩:∃hi:Nat,hi=lo+32:=⟨_,rfl⟩
 have e1:ti=(hi:Int):=by omega
 have hhi1:hi≤1024:=by omega
 have hhi2:lo≤hi:=by omega
 have HH:=Lib.hid hhi
 subst e1
 clear et hlo hhi
 have hc:=r2.cell (i:=0) (by omega)
 have R3:=Lib.hid r3
 have i0:¬(lo:Int)<0:=by omega
 have i1:(0:Int)≤lo:=by omega
 have i2:(lo:Int)≤1024:=by omega
 have i3:(hi:Int)≤1024:=by omega
 clear r2 r3
 go_enter Tryz.func150,Tryz.ntmps150
 go_wp2_with fail
 go_quiet (fail)
 go_wp2_with fail
 have HF:Hid (ut (fun f=>P.use f==1) lo 32=ut (fun f=>P.use f==1) lo (hi-lo)):=by show _=_;rw[show hi-lo=32 by have:=HH.out;omega]
 go_loop [11,12] (fun n f=>∃F:Nat,lo≤F∧F≤hi∧n=.int .i64 0∧f=.int .i64 F∧Hid (ut (fun f=>P.use f==1) lo 32=ut (fun f=>P.use f==1) F (hi-F))) (fun _ f=>hi-(intOf f).toNat)
 case atStart=>exact⟨lo,Nat.le_refl _,hhi2,rfl,rfl,HF⟩
 case round=>
  obtain⟨F,f1,f2,rfl,rfl,hF⟩:=hrel
  by_cases hlt:F<hi
  ·have j0:(F:Int)<hi:=by omega
   have j1:(0:Int)≤F:=by omega
   have j2:(F:Int)<1024:=by omega
   have hg:(w.drewN nq).cell? ⟨fb,F,none⟩=some (Y1 P F):=R3.out.cell (by omega)
   unfold Y1 at hg
   have hstep:hi-F=(hi-(F+1))+1:=by omega
   by_cases hu:P.use F=1
   ·rw[if_pos hu]at hg
    have hres:Hid (ut (fun f=>P.use f==1) lo 32=some F):=by show _=_;rw[hF.out,hstep];simp[ut,hu]
    clear hu hF HF hstep
    go_wp2_with fail
    exact bodyPost_ret (v:=runV (some F)) (by simp[results,Tryz.results150,go_sem,runV]) rfl ⟨by rw[hres.out],below_drewN' (Below.refl _ _) _⟩
   ·rw[if_neg hu]at hg
    have hres:Hid (ut (fun f=>P.use f==1) lo 32=ut (fun f=>P.use f==1) (F+1) (hi-(F+1))):=by show _=_;rw[hF.out,hstep];simp[ut,hu]
    clear hu hF HF hstep
    go_wp2_with fail
    go_round
    case rel=>exact⟨F+1,by omega,by omega,rfl,by go_num,hres⟩
    case measure=>simp[intOf];omega
  ·obtain rfl:F=hi:=by omega
   have hres:Hid (ut (fun f=>P.use f==1) lo 32=none):=by show _=_;rw[hF.out,Nat.sub_self];rfl
   clear hF HF
   go_wp2_with fail
   exact bodyPost_ret (v:=runV none) (by simp[results,Tryz.results150,go_sem,runV]) rfl ⟨by rw[hres.out],below_drewN' (Below.refl _ _) _⟩
theorem zgi{a b:Nat}(ha:a<4096)(hb:b<4096)(h:high a=high b)(h3:digit a 3=digit b 3):a=b:=by
 unfold high at h
 simp only[List.cons.injEq,and_true]at h
 unfold digit at h h3
 simp at h h3
 omega
theorem Vk(R:RamS)(g d:Nat)(hd:d<8):wordAt (R.write g 0 (List.replicate 64 0)) g d=0:=by
 unfold wordAt
 rw[Un]
 intro b hb
 unfold RamS.read at hb
 obtain⟨i,hi,rfl⟩:=List.mem_map.1 hb
 simp at hi
 rw[qm,if_pos ⟨rfl,by omega,by simp;omega⟩,List.getD_eq_getElem?_getD,List.getElem?_replicate]
 split<;>rfl
theorem Uz(R:RamS)(g:Nat)(l:List UInt8)(a f d:Nat)(h:f≠g):wordAt (R.write g a l) f d=wordAt R f d:=by
 unfold wordAt
 rw[Y7]
 exact .inl h
section
variable {R:RamS}{T:Z7}{N:List Nat→Option Nat}
theorem vk.zih(h:vk R T N){p:List Nat}{f d:Nat}(hp:N p=some f)(hl:p.length=3)(hd:d<8){e:Ent}(he:e.ok=true):vk (R.write f (8*d) (leBytes e.num 8)) T N:=by
 have hv:e.num<2 ^ 64:=by have:=(Ent.zca he).1;omega
 refine⟨h.root,fun q g hq=>h.lt q g hq,h.inj,h.own,h.nd,fun q g c hq hql hc=>?_,h.par,fun q g c hq hql hc=>?_⟩
 ·rw[jb R f d _ g c hv hd hc,if_neg,h.kid q g c hq hql hc]
  rintro⟨rfl,rfl⟩
  have:=h.inj q p _ hq hp
  subst this
  omega
 ·rw[jb R f d _ g c hv hd hc]
  split
  ·exact⟨e,he,rfl⟩
  ·exact h.leaf q g c hq hql hc
theorem vk.zd1(h:vk R T N){f page:Nat}(hpage:page<4096)(hp:N (high page)=some f){e:Ent}(he:e.ok=true)(page':Nat)(hpage':page'<4096):
  mapOf (R.write f (8*digit page 3) (leBytes e.num 8)) N page'=if page'=page then e else mapOf R N page':=by
 have hv:e.num<2 ^ 64:=by have:=(Ent.zca he).1;omega
 unfold mapOf
 by_cases e1:page'=page
 ·subst e1
  rw[if_pos rfl,hp]
  try simp only
  rw[jb _ _ _ _ _ _ hv (yg _ _) (yg _ _),if_pos ⟨rfl,rfl⟩,Xq he]
 ·rw[if_neg e1]
  cases hq:N (high page')with
  | none=>rfl
  | some g=>
   try simp only
   rw[jb _ _ _ _ _ _ hv (yg _ _) (yg _ _),if_neg]
   rintro⟨rfl,h3⟩
   exact e1 (zgi hpage' hpage (h.inj _ _ _ hq hp) h3)
theorem vk.grow1(h:vk R T N){p:List Nat}{f d g:Nat}(hp:N p=some f)(hl:p.length<3)(hd:d<8)(hn:N (p++[d])=none)(hg:g<1024)(hb:R.bad g=false)(ho:g∉T.own):
  vk ((R.write g 0 (List.replicate 64 0)).write f (8*d) (leBytes (g+1) 8)) ⟨T.root,T.own++[g]⟩ (fun q=>if q=p++[d]then some g else N q):=by
 have hv:g+1<2 ^ 64:=by omega
 have hno:∀q,N q≠some g:=fun q e=>ho ((h.own g).2 ⟨q,e⟩)
 have hfg:f≠g:=fun e=>hno p (e▸hp)
 have hpf:=h.lt p f hp
 have hw:∀a c,c<8→wordAt ((R.write g 0 (List.replicate 64 0)).write f (8*d) (leBytes (g+1) 8)) a c=if a=f∧c=d then g+1 else if a=g then 0 else wordAt R a c:=fun a c hc=>by
  rw[jb _ _ _ _ _ _ hv hd hc]
  split
  ·rfl
  ·split
   ·rename_i e;subst e;exact Vk _ _ _ hc
   ·exact Uz _ _ _ _ _ _ ‹_›
 have hkid0:∀c,N (p++[d]++[c])=none:=fun c=>by
  cases e:N (p++[d]++[c])with
  | none=>rfl
  | some k=>obtain⟨k',hk'⟩:=h.par _ _ _ e;rw[hn]at hk';cases hk'
 refine⟨?_,fun q a hq=>?_,fun q r a hq hr=>?_,fun a=>?_,?_,fun q a c hq hql hc=>?_,fun q c a hq=>?_,fun q a c hq hql hc=>?_⟩
 ·rw[if_neg (by simp)];exact h.root
 ·try simp only at hq
  split at hq
  ·rename_i e
   subst e
   cases hq
   refine⟨hg,hb,by simp;omega,fun c hc=>?_⟩
   rcases List.mem_append.1 hc with hc|hc
   ·exact hpf.2.2.2 c hc
   ·simp at hc;omega
  ·exact h.lt q a hq
 ·try simp only at hq hr
  split at hq<;>split at hr
  ·rename_i e1 e2;rw[e1,e2]
  ·cases hq;exact(hno r hr).elim
  ·cases hr;exact(hno q hq).elim
  ·exact h.inj q r a hq hr
 ·rw[List.mem_append,h.own]
  constructor
  ·rintro(⟨q,hq⟩|hq)
   ·refine⟨q,?_⟩
    try simp only
    rw[if_neg]
    ·exact hq
    ·rintro rfl;rw[hn]at hq;cases hq
   ·simp at hq
    subst hq
    exact⟨p++[d],by simp⟩
  ·rintro⟨q,hq⟩
   try simp only at hq
   split at hq
   ·cases hq;right;simp
   ·exact .inl ⟨q,hq⟩
 ·rw[List.nodup_append]
  exact⟨h.nd,by simp,fun a ha b hb' e=>by simp at hb';subst hb';subst e;exact ho ha⟩
 ·try simp only at hq
  rw[hw a c hc]
  split at hq
  ·rename_i e
   subst e
   cases hq
   rw[if_neg (fun e=>hfg e.1.symm),if_pos rfl]
   try simp only
   rw[if_neg (by simp),hkid0 c]
  ·rename_i e
   have hag:a≠g:=fun e=>hno q (e▸hq)
   by_cases e1:a=f∧c=d
   ·obtain⟨rfl,rfl⟩:=e1
    have:=h.inj q p _ hq hp
    subst this
    simp
   ·rw[if_neg e1,if_neg hag,h.kid q a c hq hql hc]
    try simp only
    rw[if_neg]
    intro e2
    have:=List.append_inj' e2 rfl
    obtain⟨rfl,e3⟩:=this
    simp at e3
    rw[hp]at hq
    cases hq
    exact e1 ⟨rfl,e3⟩
 ·try simp only at hq⊢
  split at hq
  ·rename_i e
   have:=List.append_inj' e rfl
   obtain⟨rfl,e3⟩:=this
   refine⟨f,?_⟩
   rw[if_neg (by simp)];exact hp
  ·obtain⟨k,hk⟩:=h.par _ _ _ hq
   split
   ·exact⟨_,rfl⟩
   ·exact⟨k,hk⟩
 ·try simp only at hq
  rw[hw a c hc]
  split at hq
  ·cases hq
   rw[if_neg (fun e=>hfg e.1.symm),if_pos rfl]
   exact⟨Ent.none,rfl,rfl⟩
  ·have hag:a≠g:=fun e=>hno q (e▸hq)
   have haf:a≠f:=fun e=>by
    subst e
    have:=h.inj q p _ hq hp
    subst this
    omega
   rw[if_neg (fun e=>haf e.1),if_neg hag]
   exact h.leaf q a c hq hql hc
theorem vk.ziv(h:vk R T N){p:List Nat}{f d g:Nat}(hp:N p=some f)(hl:p.length<3)(hd:d<8)(hn:N (p++[d])=none)(ho:g∉T.own)(hg:g<1024)(page:Nat):
  mapOf ((R.write g 0 (List.replicate 64 0)).write f (8*d) (leBytes (g+1) 8)) (fun q=>if q=p++[d]then some g else N q) page=mapOf R N page:=by
 have hv:g+1<2 ^ 64:=by omega
 have hno:∀q,N q≠some g:=fun q e=>ho ((h.own g).2 ⟨q,e⟩)
 have hfg:f≠g:=fun e=>hno p (e▸hp)
 unfold mapOf
 try simp only
 by_cases e:high page=p++[d]
 ·rw[if_pos e,e,hn]
  try simp only
  rw[jb _ _ _ _ _ _ hv hd (yg _ _),if_neg (fun e=>hfg e.1.symm),Vk _ _ _ (yg _ _)]
  rfl
 ·rw[if_neg e]
  cases hq:N (high page)with
  | none=>rfl
  | some a=>
   try simp only
   have hag:a≠g:=fun e=>hno _ (e▸hq)
   have haf:a≠f:=fun e=>by
    subst e
    have:=h.inj _ p _ hq hp
    rw[←this]at hl
    simp[high]at hl
   rw[jb _ _ _ _ _ _ hv hd (yg _ _),if_neg (fun e=>haf e.1),Uz _ _ _ _ _ _ hag]
theorem vk.cut1(h:vk R T N){p:List Nat}{f d g:Nat}(hp:N p=some f)(hd:d<8)(hn:N (p++[d])=some g)(hz:∀c,c<8→wordAt R g c=0):
  vk (R.write f (8*d) (leBytes 0 8)) ⟨T.root,T.own.filter fun a=>(a:Int)≠g⟩ (fun q=>if q=p++[d]then none else N q):=by
 have hg:=h.lt _ _ hn
 have hpl:p.length<3:=by have:=hg.2.2.1;simp at this;omega
 have hfg:f≠g:=fun e=>by
  subst e
  have:=congrArg List.length (h.inj _ _ _ hp hn)
  simp at this
 have hw:∀a c,c<8→wordAt (R.write f (8*d) (leBytes 0 8)) a c=if a=f∧c=d then 0 else wordAt R a c:=fun a c hc=>jb _ _ _ _ _ _ (by omega) hd hc
 have hkid0:∀c,N (p++[d]++[c])=none:=fun c=>by
  cases e:N (p++[d]++[c])with
  | none=>rfl
  | some k=>
   have hk:=h.lt _ _ e
   have hc:c<8:=hk.2.2.2 c (by simp)
   have:=h.kid _ g c hn (by have:=hk.2.2.1;simp at this⊢;omega) hc
   rw[e,hz c hc]at this
   simp at this
 refine⟨?_,fun q a hq=>?_,fun q r a hq hr=>?_,fun a=>?_,h.nd.filter _,fun q a c hq hql hc=>?_,fun q c a hq=>?_,fun q a c hq hql hc=>?_⟩
 ·rw[if_neg (by simp)];exact h.root
 ·try simp only at hq
  split at hq
  ·cases hq
  ·exact h.lt q a hq
 ·try simp only at hq hr
  split at hq
  ·cases hq
  ·split at hr
   ·cases hr
   ·exact h.inj q r a hq hr
 ·rw[List.mem_filter,h.own]
  constructor
  ·rintro⟨⟨q,hq⟩,hne⟩
   refine⟨q,?_⟩
   try simp only
   rw[if_neg]
   ·exact hq
   ·rintro rfl
    rw[hn]at hq
    cases hq
    simp at hne
  ·rintro⟨q,hq⟩
   try simp only at hq
   split at hq
   ·cases hq
   ·rename_i e
    refine⟨⟨q,hq⟩,?_⟩
    simp only[decide_eq_true_eq]
    intro e'
    have:a=g:=by omega
    subst this
    exact e (h.inj _ _ _ hq hn)
 ·try simp only at hq
  rw[hw a c hc]
  split at hq
  ·cases hq
  ·rename_i e
   by_cases e1:a=f∧c=d
   ·obtain⟨rfl,rfl⟩:=e1
    have:=h.inj q p _ hq hp
    subst this
    simp
   ·rw[if_neg e1,h.kid q a c hq hql hc]
    try simp only
    rw[if_neg]
    intro e2
    have:=List.append_inj' e2 rfl
    obtain⟨rfl,e3⟩:=this
    simp at e3
    rw[hp]at hq
    cases hq
    exact e1 ⟨rfl,e3⟩
 ·try simp only at hq⊢
  split at hq
  ·cases hq
  ·obtain⟨k,hk⟩:=h.par _ _ _ hq
   split
   ·rename_i e2
    subst e2
    rw[hkid0 c]at hq
    cases hq
   ·exact⟨k,hk⟩
 ·try simp only at hq
  rw[hw a c hc]
  split at hq
  ·cases hq
  ·have haf:a≠f:=fun e=>by
    subst e
    have:=h.inj q p _ hq hp
    subst this
    omega
   rw[if_neg (fun e=>haf e.1)]
   exact h.leaf q a c hq hql hc
theorem vk.zma(h:vk R T N){p:List Nat}{f d g:Nat}(hp:N p=some f)(hd:d<8)(hn:N (p++[d])=some g)(hz:∀c,c<8→wordAt R g c=0)(page:Nat):
  mapOf (R.write f (8*d) (leBytes 0 8)) (fun q=>if q=p++[d]then none else N q) page=mapOf R N page:=by
 have hg:=h.lt _ _ hn
 have hpl:p.length<3:=by have:=hg.2.2.1;simp at this;omega
 unfold mapOf
 try simp only
 by_cases e:high page=p++[d]
 ·rw[if_pos e,e,hn]
  try simp only
  rw[hz _ (yg _ _)]
  rfl
 ·rw[if_neg e]
  cases hq:N (high page)with
  | none=>rfl
  | some a=>
   try simp only
   have haf:a≠f:=fun e=>by
    subst e
    have:=h.inj _ p _ hq hp
    rw[←this]at hpl
    simp[high]at hpl
   rw[jb _ _ _ _ _ _ (by omega) hd (yg _ _),if_neg (fun e=>haf e.1)]
end
end Go.Proofs.YtnhdmnijiphjjaaGreat
