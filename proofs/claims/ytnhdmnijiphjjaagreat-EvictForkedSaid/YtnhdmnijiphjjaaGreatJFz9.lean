/- Areas: what may be one. -/
import Derived.WalkKit
import Derived.Test.YtnhdmnijiphjjaaGreatProg
import Derived.Lib.Hide
import Derived.KernelRfl
import Derived.Test.YtnhdmnijiphjjaaGreatJFz0
import Derived.Deep.RegionLaw
import Derived.BigQuiet
import Derived.Deep.RegionHeld
import Derived.Shelf.SlGeneric
import Derived.Ground.SlgfProg
import Derived.Ground.SlgnProg
import Derived.Ground.SlsfProg
import Derived.Shelf.SlLaysE0
import Derived.Shelf.SlLaysF0
import Derived.Shelf.SlLaysH0
import Derived.Shelf.SlicesQ.IndexFunc
import Derived.Shelf.SlicesE.Clone
import Derived.Shelf.SlSortCmp.InsertionK
import Derived.Shelf.SlSortCmp.WholeK
set_option linter.unusedVariables false
set_option linter.unusedSimpArgs false
set_option maxRecDepth 100000
set_option maxHeartbeats 2000000
namespace Go.Proofs.YtnhdmnijiphjjaaGreat
open Go Go.RowKit
structure Ar where
 from_:Int
 pages:Int
 write:Bool
 kind:Int
 file:Int
 off:Int
deriving DecidableEq
def Ar.cells(a:Ar):List Value:=[.int .i64 a.from_,.int .i64 a.pages,.bool a.write,.int .i64 a.kind,.int .i64 a.file,.int .i64 a.off]
def Ar.enc(a:Ar):Value:=.agg #[.int .i64 a.from_,.int .i64 a.pages,.bool a.write,.int .i64 a.kind,.int .i64 a.file,.int .i64 a.off]
def Ar.Wf(a:Ar):Prop:=(Lit.int .i64 a.from_).wf=true∧(Lit.int .i64 a.pages).wf=true∧(Lit.int .i64 a.kind).wf=true∧(Lit.int .i64 a.file).wf=true∧(Lit.int .i64 a.off).wf=true
def Ar.xe(a:Ar):Prop:=1≤a.kind∧a.kind≤3∧0≤a.from_∧1≤a.pages∧a.from_<4096∧a.pages≤4096-a.from_∧
 (a.kind=1∧a.file=0∧a.off=0∨a.kind≠1∧0≤a.file∧a.file<4∧0≤a.off∧a.off<16∧a.pages≤16-a.off)
instance (a:Ar):Decidable a.xe:=inferInstanceAs (Decidable (_∧_∧_∧_∧_∧_∧(_∨_)))
theorem zg8(w:World)(a:Ar)(hw:a.Wf):Calls Tryz.prog 120 #[a.enc] w fun e w'=>e=.returned (.bool (decide a.xe))∧Below w.heap.size w w':=by
 obtain⟨f,p,wr,k,fi,o⟩:=a
 obtain⟨s,hs⟩:∃s,s=decide (Ar.xe ⟨f,p,wr,k,fi,o⟩):=⟨_,rfl⟩
 have HS:=Lib.hid hs
 rw[←hs]
 clear hs
 unfold Ar.enc
 simp only
 by_cases c1:k<1
 ·have hs:s=false:=by
   rw[HS.out]
   exact decide_eq_false (by unfold Ar.xe;simp only;first|omega|(simp;omega)|(have h9:=beq_eq_false_iff_ne.1 d1;omega)|(have h9:=beq_eq_false_iff_ne.1 d2;omega))
  subst hs
  clear HS hw
  go_enter Tryz.func120,Tryz.ntmps120
  go_wp2_with fail
  go_ret
  exact⟨rfl,(Below.refl _ _).alloc (Nat.le_refl _) _⟩
 ·have:=c1
  have c1':(1:Int)≤k:=by omega
  clear this
  by_cases c2:3<k
  ·have hs:s=false:=by
    rw[HS.out]
    exact decide_eq_false (by unfold Ar.xe;simp only;first|omega|(simp;omega)|(have h9:=beq_eq_false_iff_ne.1 d1;omega)|(have h9:=beq_eq_false_iff_ne.1 d2;omega))
   subst hs
   clear HS hw
   go_enter Tryz.func120,Tryz.ntmps120
   go_wp2_with fail
   go_ret
   exact⟨rfl,(Below.refl _ _).alloc (Nat.le_refl _) _⟩
  ·have:=c2
   have c2':k≤3:=by omega
   clear this
   by_cases c3:f<0
   ·have hs:s=false:=by
     rw[HS.out]
     exact decide_eq_false (by unfold Ar.xe;simp only;first|omega|(simp;omega)|(have h9:=beq_eq_false_iff_ne.1 d1;omega)|(have h9:=beq_eq_false_iff_ne.1 d2;omega))
    subst hs
    clear HS hw
    go_enter Tryz.func120,Tryz.ntmps120
    go_wp2_with fail
    go_ret
    exact⟨rfl,(Below.refl _ _).alloc (Nat.le_refl _) _⟩
   ·have:=c3
    have c3':(0:Int)≤f:=by omega
    clear this
    by_cases c4:p<1
    ·have hs:s=false:=by
      rw[HS.out]
      exact decide_eq_false (by unfold Ar.xe;simp only;first|omega|(simp;omega)|(have h9:=beq_eq_false_iff_ne.1 d1;omega)|(have h9:=beq_eq_false_iff_ne.1 d2;omega))
     subst hs
     clear HS hw
     go_enter Tryz.func120,Tryz.ntmps120
     go_wp2_with fail
     go_ret
     exact⟨rfl,(Below.refl _ _).alloc (Nat.le_refl _) _⟩
    ·have:=c4
     have c4':(1:Int)≤p:=by omega
     clear this
     by_cases c5:4095<f
     ·have hs:s=false:=by
       rw[HS.out]
       exact decide_eq_false (by unfold Ar.xe;simp only;first|omega|(simp;omega)|(have h9:=beq_eq_false_iff_ne.1 d1;omega)|(have h9:=beq_eq_false_iff_ne.1 d2;omega))
      subst hs
      clear HS hw
      go_enter Tryz.func120,Tryz.ntmps120
      go_wp2_with fail
      go_ret
      exact⟨rfl,(Below.refl _ _).alloc (Nat.le_refl _) _⟩
     ·have:=c5
      have c5':f<4096:=by omega
      have c5q:¬4096≤f:=by omega
      have w1:IntKind.i64.wrap (4096-f)=4096-f:=by simp[IntKind.wrap,IntKind.bits,IntKind.signed];omega
      clear this
      by_cases c6:4096-f<p
      ·have hs:s=false:=by
        rw[HS.out]
        exact decide_eq_false (by unfold Ar.xe;simp only;first|omega|(simp;omega)|(have h9:=beq_eq_false_iff_ne.1 d1;omega)|(have h9:=beq_eq_false_iff_ne.1 d2;omega))
       subst hs
       clear HS hw
       go_enter Tryz.func120,Tryz.ntmps120
       go_wp2_with fail
       go_ret
       exact⟨rfl,(Below.refl _ _).alloc (Nat.le_refl _) _⟩
      ·have:=c6
       have c6':p≤4096-f:=by omega
       clear this
       by_cases hk:k=1
       ·subst hk
        by_cases d1:(fi==0)=false
        ·have hs:s=false:=by
          rw[HS.out]
          exact decide_eq_false (by unfold Ar.xe;simp only;first|omega|(simp;omega)|(have h9:=beq_eq_false_iff_ne.1 d1;omega)|(have h9:=beq_eq_false_iff_ne.1 d2;omega))
         subst hs
         clear HS hw
         go_enter Tryz.func120,Tryz.ntmps120
         go_wp2_with fail
         go_ret
         exact⟨rfl,(Below.refl _ _).alloc (Nat.le_refl _) _⟩
        ·have:=d1
         have d1':fi=0:=by simpa using d1
         clear this
         by_cases d2:(o==0)=false
         ·have hs:s=false:=by
           rw[HS.out]
           exact decide_eq_false (by unfold Ar.xe;simp only;first|omega|(simp;omega)|(have h9:=beq_eq_false_iff_ne.1 d1;omega)|(have h9:=beq_eq_false_iff_ne.1 d2;omega))
          subst hs
          clear HS hw
          go_enter Tryz.func120,Tryz.ntmps120
          go_wp2_with fail
          go_ret
          exact⟨rfl,(Below.refl _ _).alloc (Nat.le_refl _) _⟩
         ·have:=d2
          have d2':o=0:=by simpa using d2
          clear this
          have hs:s=true:=by
           rw[HS.out]
           exact decide_eq_true (by unfold Ar.xe;simp only;first|omega|(simp;omega)|(have h9:=beq_eq_false_iff_ne.1 d1;omega)|(have h9:=beq_eq_false_iff_ne.1 d2;omega))
          subst hs
          clear HS hw
          go_enter Tryz.func120,Tryz.ntmps120
          go_wp2_with fail
          go_ret
          exact⟨rfl,(Below.refl _ _).alloc (Nat.le_refl _) _⟩
       ·have hk':¬k=1:=hk
        by_cases d1:fi<0
        ·have hs:s=false:=by
          rw[HS.out]
          exact decide_eq_false (by unfold Ar.xe;simp only;first|omega|(simp;omega)|(have h9:=beq_eq_false_iff_ne.1 d1;omega)|(have h9:=beq_eq_false_iff_ne.1 d2;omega))
         subst hs
         clear HS hw
         go_enter Tryz.func120,Tryz.ntmps120
         go_wp2_with fail
         go_ret
         exact⟨rfl,(Below.refl _ _).alloc (Nat.le_refl _) _⟩
        ·have:=d1
         have d1':(0:Int)≤fi:=by omega
         clear this
         by_cases d2:4≤fi
         ·have hs:s=false:=by
           rw[HS.out]
           exact decide_eq_false (by unfold Ar.xe;simp only;first|omega|(simp;omega)|(have h9:=beq_eq_false_iff_ne.1 d1;omega)|(have h9:=beq_eq_false_iff_ne.1 d2;omega))
          subst hs
          clear HS hw
          go_enter Tryz.func120,Tryz.ntmps120
          go_wp2_with fail
          go_ret
          exact⟨rfl,(Below.refl _ _).alloc (Nat.le_refl _) _⟩
         ·have:=d2
          have d2':fi<4:=by omega
          clear this
          by_cases d3:o<0
          ·have hs:s=false:=by
            rw[HS.out]
            exact decide_eq_false (by unfold Ar.xe;simp only;first|omega|(simp;omega)|(have h9:=beq_eq_false_iff_ne.1 d1;omega)|(have h9:=beq_eq_false_iff_ne.1 d2;omega))
           subst hs
           clear HS hw
           go_enter Tryz.func120,Tryz.ntmps120
           go_wp2_with fail
           go_ret
           exact⟨rfl,(Below.refl _ _).alloc (Nat.le_refl _) _⟩
          ·have:=d3
           have d3':(0:Int)≤o:=by omega
           clear this
           by_cases d4:16≤o
           ·have hs:s=false:=by
             rw[HS.out]
             exact decide_eq_false (by unfold Ar.xe;simp only;first|omega|(simp;omega)|(have h9:=beq_eq_false_iff_ne.1 d1;omega)|(have h9:=beq_eq_false_iff_ne.1 d2;omega))
            subst hs
            clear HS hw
            go_enter Tryz.func120,Tryz.ntmps120
            go_wp2_with fail
            go_ret
            exact⟨rfl,(Below.refl _ _).alloc (Nat.le_refl _) _⟩
           ·have:=d4
            have d4':o<16:=by omega
            have w2:IntKind.i64.wrap (16-o)=16-o:=by simp[IntKind.wrap,IntKind.bits,IntKind.signed];omega
            clear this
            by_cases d5:¬p≤16-o
            ·have hs:s=false:=by
              rw[HS.out]
              exact decide_eq_false (by unfold Ar.xe;simp only;first|omega|(simp;omega)|(have h9:=beq_eq_false_iff_ne.1 d1;omega)|(have h9:=beq_eq_false_iff_ne.1 d2;omega))
             subst hs
             clear HS hw
             go_enter Tryz.func120,Tryz.ntmps120
             go_wp2_with fail
             go_ret
             exact⟨rfl,(Below.refl _ _).alloc (Nat.le_refl _) _⟩
            ·have:=d5
             have d5':p≤16-o:=by omega
             clear this
             have hs:s=true:=by
              rw[HS.out]
              exact decide_eq_true (by unfold Ar.xe;simp only;first|omega|(simp;omega)|(have h9:=beq_eq_false_iff_ne.1 d1;omega)|(have h9:=beq_eq_false_iff_ne.1 d2;omega))
             subst hs
             clear HS hw
             go_enter Tryz.func120,Tryz.ntmps120
             go_wp2_with fail
             go_ret
             exact⟨rfl,(Below.refl _ _).alloc (Nat.le_refl _) _⟩
section
variable {P:Program}{w:World}{e:TypeId}{size:Nat}
theorem Qy(t ty:TypeId)(i:TypeInfo)(z:Value)(bytes:Nat)(ht:P.underlying t=some (.slice e))(hi:P.info? e=some i)(hz:i.zero=some z)
  (hsize:i.size=size) (hby:i.bytes=bytes) (hzs:z.cells.size=size) (v:Value) (n:Nat) (xs:List Value) (hown:SlAt w e size v n xs)
  (sv:Value) (m:Nat) (news:List Value) (hsrc:SlAt w e size sv m news) (h1:∀u∈news,u.oneCell'=true) (h63:n+m≤maxLen) (hbytes:(n+m)*bytes≤140737488355328):
  ∃v' w',(Builtin.append_ #[t,t] ty #[v,sv]).run P w=.ok v' w'∧SlAt w' e size v' (n+m) (xs++news)∧w.grownBy w' v.ownBlock∧(v'.ownBlock=v.ownBlock∨v'.ownBlock=some w.heap.size):=by
 rcases hsrc.2 with⟨rfl,rfl⟩|⟨b,off,c,arr,rfl,hg,_,_,hsz,hx⟩
 ·have hn:news=[]:=List.eq_nil_of_length_eq_zero (by simpa using hsrc.1)
  subst hn
  obtain⟨a,c,rfl,hc,_⟩:=hown.form
  refine⟨.slice a n c,w,?_,by simpa using hown,grownBy_refl _ _,.inl rfl⟩
  cases a<;>simp[Builtin.append_,run_underlying ht,sizeOf,typeInfo,hi,Builtin.lenOf,Builtin.firstCells,loadCells,storeCells,hc]
 ·exact qz w t ty e i z size bytes ht hi hz hsize hby hzs v n xs hown ⟨b,off,none⟩ m c news hsrc.1 (fun j u hu=>by rw[add_plain,cell_of_row w b (off+j) arr e (0,0) hg];exact hx j u hu) h1 h63 hbytes
end
def SlRd(w:World)(k:Nat)(v:Value)(n:Nat)(xs:List Value):Prop:=
 xs.length=n*k∧(v=.slice none 0 0∧n=0∨∃b off c,v=.slice (some ⟨b,off,none⟩) n c∧n≤c∧c≤maxLen∧b<w.heap.size∧∀j u,xs[j]?=some u→w.cell? ⟨b,off+j,none⟩=some u)
section
variable {w w':World}{e:TypeId}{k:Nat}{v:Value}{n:Nat}{xs:List Value}
theorem SlAt.rd(h:SlAt w e k v n xs):SlRd w k v n xs:=by
 refine⟨h.1,?_⟩
 rcases h.2 with h0|⟨b,off,c,arr,rfl,hg,hnc,hm,hs,hx⟩
 ·exact .inl h0
 ·refine .inr ⟨b,off,c,rfl,hnc,hm,(Array.getElem?_eq_some_iff.1 hg).1,fun j u hu=>?_⟩
  rw[cell_of_row w b (off+j) arr e (0,0) hg]
  exact hx j u hu
theorem SlRd.lt(h:SlRd w k v n xs):∀b,v.ownBlock=some b→b<w.heap.size:=by
 intro b hb
 rcases h.2 with⟨rfl,_⟩|⟨g,off,c,rfl,_,_,hg,_⟩
 ·simp[Value.ownBlock]at hb
 ·simp[Value.ownBlock]at hb
  subst hb
  exact hg
theorem SlRd.below(h:SlRd w k v n xs)(hb:Below w.heap.size w w'):SlRd w' k v n xs:=by
 refine⟨h.1,?_⟩
 rcases h.2 with h0|⟨b,off,c,rfl,hnc,hm,hg,hx⟩
 ·exact .inl h0
 ·exact .inr ⟨b,off,c,rfl,hnc,hm,Nat.lt_of_lt_of_le hg hb.size,fun j u hu=>(hb.cell (p:=⟨b,off+j,none⟩) hg).trans (hx j u hu)⟩
theorem SlRd.form(h:SlRd w k v n xs):∃a c,v=.slice a n c∧n≤c∧c≤maxLen:=by
 rcases h.2 with⟨rfl,rfl⟩|⟨g,off,c,rfl,hnc,hm,_⟩
 ·exact⟨none,0,rfl,Nat.le_refl _,by unfold maxLen;omega⟩
 ·exact⟨_,c,rfl,hnc,hm⟩
theorem SlRd.cells(h:SlRd w k v n xs)(hp:0<xs.length):∃b off c,v=.slice (some ⟨b,off,none⟩) n c∧n≤c∧b<w.heap.size∧∀j u,xs[j]?=some u→w.cell? ⟨b,off+j,none⟩=some u:=by
 obtain⟨hl,h2⟩:=h
 rcases h2 with⟨rfl,rfl⟩|⟨g,off,c,rfl,hnc,_,hg,hx⟩
 ·simp at hl;simp[hl]at hp
 ·exact⟨g,off,c,rfl,hnc,hg,hx⟩
theorem SlRd.take {a : Option Addr} {n c : Nat} {xs : List Value} (h : SlRd w k (.slice a n c) n xs) (m : Nat) (hm : m ≤ n) : SlRd w k (.slice a m c) m (xs.take (m * k)) := by
  refine ⟨by rw [List.length_take, h.1, Nat.min_eq_left (Nat.mul_le_mul_right _ hm)], ?_⟩
  rcases h.2 with ⟨e1, e2⟩ | ⟨b, off, c', e1, hnc, hcm, hg, hx⟩
  · cases e1
    exact .inl ⟨by have : m = 0 := by omega
                   rw [this], by omega⟩
  · cases e1
    refine .inr ⟨b, off, c, rfl, by omega, hcm, hg, fun j u hu => ?_⟩
    have hj := (List.getElem?_eq_some_iff.1 hu).1
    rw [List.getElem?_take_of_lt (by simp at hj; omega)] at hu
    exact hx j u hu
theorem SlRd.cut{b off n c:Nat}{xs:List Value}(h:SlRd w k (.slice (some ⟨b,off,none⟩) n c) n xs)(m:Nat)(hm:m≤n){A:Addr}(hA:(if c=m then(some ⟨b,off,none⟩:Option Addr)else some ⟨b,off+m*k,none⟩)=some A):
  SlRd w k (.slice (some A) (n-m) (c-m)) (n-m) (xs.drop (m*k)):=by
 refine⟨by rw[List.length_drop,h.1,Nat.sub_mul],?_⟩
 rcases h.2 with⟨e1,e2⟩|⟨b',off',c',e1,hnc',hcm,hg,hx⟩
 ·cases e1
 ·cases e1
  by_cases hcmq:c=m
  ·rw[if_pos hcmq]at hA
   cases hA
   subst hcmq
   refine .inr ⟨b,off,c-c,rfl,by omega,by simp[maxLen],hg,fun j u hu=>?_⟩
   have:xs.drop (c*k)=[]:=List.drop_eq_nil_of_le (by rw[h.1];exact Nat.mul_le_mul_right _ (by omega))
   rw[this]at hu
   simp at hu
  ·rw[if_neg hcmq]at hA
   cases hA
   refine .inr ⟨b,off+m*k,c-m,rfl,by omega,by simp only[maxLen]at hcm⊢;omega,hg,fun j u hu=>?_⟩
   rw[List.getElem?_drop]at hu
   have:=hx _ _ hu
   rw[Nat.add_assoc]
   exact this
end
section
variable {P:Program}{w:World}{e:TypeId}{size:Nat}
theorem za8(t ty:TypeId)(i:TypeInfo)(z:Value)(bytes:Nat)(ht:P.underlying t=some (.slice e))(hi:P.info? e=some i)(hz:i.zero=some z)
  (hsize:i.size=size) (hby:i.bytes=bytes) (hzs:z.cells.size=size) (v:Value) (n:Nat) (xs:List Value) (hown:SlAt w e size v n xs)
  (sv:Value) (m:Nat) (news:List Value) (hsrc:SlRd w size sv m news) (h1:∀u∈news,u.oneCell'=true) (h63:n+m≤maxLen) (hbytes:(n+m)*bytes≤140737488355328):
  ∃v' w',(Builtin.append_ #[t,t] ty #[v,sv]).run P w=.ok v' w'∧SlAt w' e size v' (n+m) (xs++news)∧w.grownBy w' v.ownBlock∧(v'.ownBlock=v.ownBlock∨v'.ownBlock=some w.heap.size):=by
 rcases hsrc.2 with⟨rfl,rfl⟩|⟨b,off,c,rfl,_,_,_,hx⟩
 ·exact Qy t ty i z bytes ht hi hz hsize hby hzs v n xs hown _ 0 news ⟨hsrc.1,.inl ⟨rfl,rfl⟩⟩ h1 h63 hbytes
 ·exact qz w t ty e i z size bytes ht hi hz hsize hby hzs v n xs hown ⟨b,off,none⟩ m c news hsrc.1 (fun j u hu=>by rw[add_plain];exact hx j u hu) h1 h63 hbytes
def J7(B:Nat)(w:World)(e:TypeId)(k:Nat)(v:Value)(n:Nat)(xs:List Value):Prop:=
 (SlAt w e k v n xs∧∀b,v.ownBlock=some b→B≤b)∨(n=0∧xs=[]∧∃A,v=.slice (some A) 0 0)
theorem J7.below{B:Nat}{w w':World}{k n:Nat}{v:Value}{xs:List Value}(h:J7 B w e k v n xs)(hb:Below w.heap.size w w'):J7 B w' e k v n xs:=by
 rcases h with⟨h1,h2⟩|h
 ·exact .inl ⟨h1.below hb,h2⟩
 ·exact .inr h
theorem J7.low{B B':Nat}{w:World}{k n:Nat}{v:Value}{xs:List Value}(h:J7 B w e k v n xs)(hb:B'≤B):J7 B' w e k v n xs:=by
 rcases h with⟨h1,h2⟩|h
 ·exact .inl ⟨h1,fun b e=>Nat.le_trans hb (h2 b e)⟩
 ·exact .inr h
theorem J3{B:Nat}(hB:B≤w.heap.size)(t ty:TypeId)(i:TypeInfo)(z:Value)(bytes:Nat)(ht:P.underlying t=some (.slice e))(hi:P.info? e=some i)(hz:i.zero=some z)
  (hsize:i.size=size) (hby:i.bytes=bytes) (hzs:z.cells.size=size) (v:Value) (n:Nat) (xs:List Value) (hown:J7 B w e size v n xs)
  (sv:Value) (m:Nat) (news:List Value) (hsrc:SlRd w size sv m news) (hm0:0<m) (h1:∀u∈news,u.oneCell'=true) (h63:n+m≤maxLen) (hbytes:(n+m)*bytes≤140737488355328):
  ∃v' w',(Builtin.append_ #[t,t] ty #[v,sv]).run P w=.ok v' w'∧SlAt w' e size v' (n+m) (xs++news)∧Below B w w'∧∀b,v'.ownBlock=some b→B≤b:=by
 rcases hown with⟨ho,hb⟩|⟨rfl,rfl,A,rfl⟩
 ·obtain⟨v',w',hr,h2,h3,h4⟩:=za8 (P:=P) t ty i z bytes ht hi hz hsize hby hzs v n xs ho sv m news hsrc h1 h63 hbytes
  refine⟨v',w',hr,h2,(Below.refl B w).grown h3 hB hb,fun b hbb=>?_⟩
  rcases h4 with e|e
  ·exact hb b (e.symm.trans hbb)
  ·rw[e]at hbb;cases hbb;exact hB
 ·subst hsize
  subst hby
  rcases hsrc.2 with⟨_,e2⟩|⟨b,off,c,rfl,_,_,_,hx⟩
  ·omega
  ·have hr:=run_append_grow (P:=P) w t ty e i z ht hi hz A 0 0 [] (by simp) (fun j u hu=>by simp at hu) ⟨b,off,none⟩ m c news hsrc.1 (fun j u hu=>by rw[add_plain];exact hx j u hu) (by omega) (by simp only[maxLen]at h63;omega) (growslice_fits (by omega) hbytes)
   have hge:=grownCap_ge w (0+m) 0 e
   have hcm:grownCap w (0+m) 0 e≤maxLen:=grownCap_le_maxLen w (0+m) 0 e h63
   refine⟨_,_,hr,⟨?_,.inr ⟨w.heap.size,0,_,_,rfl,heap_alloc_new w.drew _,hge,hcm,?_,?_⟩⟩,⟨rfl,rfl,rfl,by simp,fun k hk=>Below.heap_alloc w.drew _ k (show k<w.drew.heap.size from Nat.lt_of_lt_of_le hk hB)⟩,?_⟩
   ·simp[hsrc.1]
   ·have hl:=hsrc.1
    simp only[Array.size_append,List.size_toArray,size_zeroCells,hzs,Nat.zero_add,List.length_nil,hl]at hge⊢
    rw[←Nat.add_mul,show m+(grownCap w m 0 e-m)=grownCap w m 0 e by omega]
    exact Nat.le_refl _
   ·intro j u hu
    have hj:=(List.getElem?_eq_some_iff.1 hu).1
    simp at hu hj
    rw[Nat.zero_add,Array.getElem?_append_left (by simp;omega)]
    simpa using hu
   ·intro b' hb'
    simp[Value.ownBlock]at hb'
    omega
theorem Qx{B:Nat}{ops:Array Oper}{o:Oper}{a:Act}{K:Act→World→Prop}{Q:Exit→Act→World→Prop}{E:Prop}(hB:B≤w.heap.size)
  (hg:o.guard=none) (s x:Operand) (t:TypeId) (hop:o.op=Op.call {callee:=Callee.builtin Builtin.append,args:=#[s,x],argTypes:=#[t,t]})
  (i:TypeInfo) (z:Value) (bytes:Nat) (ht:P.underlying t=some (.slice e)) (hi:P.info? e=some i) (hz:i.zero=some z)
  (hsize:i.size=size) (hby:i.bytes=bytes) (hzs:z.cells.size=size) (v:Value) (n:Nat) (xs:List Value) (hs:a.eval s=v) (hown:J7 B w e size v n xs)
  (sv:Value) (m:Nat) (news:List Value) (hx:a.eval x=sv) (hsrc:SlRd w size sv m news) (hm0:0<m) (h1:∀u∈news,u.oneCell'=true) (h63:n+m≤maxLen) (hbytes:(n+m)*bytes≤140737488355328)
  (hK:∀v' w',SlAt w' e size v' (n+m) (xs++news)→Below B w w'→(∀b,v'.ownBlock=some b→B≤b)→K (a.put o.dst v') w'):if Region.wanted o (yielded ops a.tmps)=true then Oper.wp P o a w K Q else E:=by
 have hw:Region.wanted o (yielded ops a.tmps)=true:=by simp[Region.wanted,hg]
 obtain⟨v',w',hr,h2,h3,h4⟩:=J3 (P:=P) hB t o.type i z bytes ht hi hz hsize hby hzs v n xs hown sv m news hsrc hm0 h1 h63 hbytes
 rw[if_pos hw]
 unfold Oper.wp
 simp[execOp,hop,resolve,invoke,builtin,hs,hx,hr,Result.andThen]
 exact hK v' w' h2 h3 h4
end
theorem Ar.Zb(x:Ar):x.cells.length=6:=rfl
theorem Ar.cells_one(x:Ar):∀v∈x.cells,v.oneCell'=true:=by intro v hv;simp[Ar.cells]at hv;rcases hv with rfl|rfl|rfl|rfl|rfl|rfl<;>rfl
def ar(l:List Ar):List Value:=l.flatMap Ar.cells
theorem zjy(x:Ar)(l:List Ar):ar (x::l)=x.cells++ar l:=rfl
theorem zjz(a b:List Ar):ar (a++b)=ar a++ar b:=by simp[ar]
theorem uy(l:List Ar):(ar l).length=l.length*6:=by
 induction l with
 | nil=>rfl
 | cons x l ih=>rw[zjy,List.length_append,ih,x.Zb,List.length_cons];omega
theorem zfw{l:List Ar}{j:Nat}{x:Ar}(h:l[j]?=some x){i:Nat}{v:Value}(hv:x.cells[i]?=some v):(ar l)[j*6+i]?=some v:=by
 have hi:=(List.getElem?_eq_some_iff.1 hv).1
 rw[x.Zb]at hi
 induction l generalizing j with
 | nil=>simp at h
 | cons y l ih=>
  rw[zjy]
  cases j with
  | zero=>
   have:y=x:=by simpa using h
   subst this
   rw[Nat.zero_mul,Nat.zero_add,List.getElem?_append_left (by rw[y.Zb];exact hi)]
   exact hv
  | succ j=>
   rw[List.getElem?_append_right (by rw[y.Zb];omega),y.Zb,show(j+1)*6+i-6=j*6+i by omega]
   exact ih (by simpa using h)
theorem zjx(l:List Ar):∀u∈ar l,u.oneCell'=true:=by
 intro u hu
 simp only[ar,List.mem_flatMap]at hu
 obtain⟨x,_,h⟩:=hu
 exact x.cells_one u h
def ArAt(w:World)(v:Value)(l:List Ar):Prop:=SlAt w 32 6 v l.length (ar l)
theorem ArAt.nil(w:World):ArAt w (.slice none 0 0) []:=SlAt.nil w _ _
theorem ArAt.below{w w':World}{v:Value}{l:List Ar}(h:ArAt w v l)(hb:Below w.heap.size w w'):ArAt w' v l:=SlAt.below h hb
theorem ArAt.cell{w:World}{b off c n:Nat}{l:List Ar}(h:ArAt w (.slice (some ⟨b,off,none⟩) n c) l){j:Nat}{x:Ar}(hx:l[j]?=some x):
  w.cell? ⟨b,off+j*6,none⟩=some (.int .i64 x.from_)∧w.cell? ⟨b,off+j*6+1,none⟩=some (.int .i64 x.pages)∧w.cell? ⟨b,off+j*6+2,none⟩=some (.bool x.write)∧w.cell? ⟨b,off+j*6+3,none⟩=some (.int .i64 x.kind)∧
   w.cell? ⟨b,off+j*6+4,none⟩=some (.int .i64 x.file)∧w.cell? ⟨b,off+j*6+5,none⟩=some (.int .i64 x.off):=by
 have hj:=(List.getElem?_eq_some_iff.1 hx).1
 obtain⟨g,off',c',e,_,_,hv⟩:=SlAt.cells h (by rw[uy];omega)
 cases e
 have k:∀i v,x.cells[i]?=some v→w.cell? ⟨b,off+j*6+i,none⟩=some v:=fun i v hi=>by
  rw[Nat.add_assoc]
  exact(hv _ _ (zfw hx hi)).1
 exact⟨k 0 _ rfl,k 1 _ rfl,k 2 _ rfl,k 3 _ rfl,k 4 _ rfl,k 5 _ rfl⟩
theorem ArAt.form{w:World}{v:Value}{l:List Ar}(h:ArAt w v l):(v=.slice none 0 0∧l=[])∨∃b off c,v=.slice (some ⟨b,off,none⟩) l.length c∧l.length≤c∧c≤maxLen∧b<w.heap.size:=by
 rcases h.2 with⟨rfl,h2⟩|⟨b,off,c,arr,rfl,hg,hnc,hm,_⟩
 ·exact .inl ⟨rfl,List.eq_nil_of_length_eq_zero h2⟩
 ·exact .inr ⟨b,off,c,rfl,hnc,hm,(Array.getElem?_eq_some_iff.1 hg).1⟩
def ArRd(w:World)(v:Value)(l:List Ar):Prop:=SlRd w 6 v l.length (ar l)
theorem ArAt.rd{w:World}{v:Value}{l:List Ar}(h:ArAt w v l):ArRd w v l:=SlAt.rd h
theorem ArRd.below{w w':World}{v:Value}{l:List Ar}(h:ArRd w v l)(hb:Below w.heap.size w w'):ArRd w' v l:=SlRd.below h hb
theorem ArRd.fm{w:World}{v:Value}{l:List Ar}(h:ArRd w v l):∃a c,v=.slice a l.length c∧l.length≤c∧c≤maxLen:=SlRd.form h
theorem ArRd.cell{w:World}{b off c n:Nat}{l:List Ar}(h:ArRd w (.slice (some ⟨b,off,none⟩) n c) l){j:Nat}{x:Ar}(hx:l[j]?=some x):
  w.cell? ⟨b,off+j*6,none⟩=some (.int .i64 x.from_)∧w.cell? ⟨b,off+j*6+1,none⟩=some (.int .i64 x.pages)∧w.cell? ⟨b,off+j*6+2,none⟩=some (.bool x.write)∧w.cell? ⟨b,off+j*6+3,none⟩=some (.int .i64 x.kind)∧
   w.cell? ⟨b,off+j*6+4,none⟩=some (.int .i64 x.file)∧w.cell? ⟨b,off+j*6+5,none⟩=some (.int .i64 x.off):=by
 have hj:=(List.getElem?_eq_some_iff.1 hx).1
 obtain⟨g,off',c',e,_,_,hv⟩:=SlRd.cells h (by rw[uy];omega)
 cases e
 have k:∀i v,x.cells[i]?=some v→w.cell? ⟨b,off+j*6+i,none⟩=some v:=fun i v hi=>by
  rw[Nat.add_assoc]
  exact hv _ _ (zfw hx hi)
 exact⟨k 0 _ rfl,k 1 _ rfl,k 2 _ rfl,k 3 _ rfl,k 4 _ rfl,k 5 _ rfl⟩
theorem ArRd.form{w:World}{v:Value}{l:List Ar}(h:ArRd w v l):(v=.slice none 0 0∧l=[])∨∃b off c,v=.slice (some ⟨b,off,none⟩) l.length c∧l.length≤c∧c≤maxLen∧b<w.heap.size:=by
 rcases h.2 with⟨rfl,h2⟩|⟨b,off,c,rfl,hnc,hm,hg,_⟩
 ·exact .inl ⟨rfl,List.eq_nil_of_length_eq_zero h2⟩
 ·exact .inr ⟨b,off,c,rfl,hnc,hm,hg⟩
theorem ArRd.addr{w:World}{a:Option Addr}{c n:Nat}{l:List Ar}(h:ArRd w (.slice a n c) l)(hl:0<l.length):∃b off,a=some ⟨b,off,none⟩:=by
 rcases h.form with⟨_,e⟩|⟨b,off,c',e,_⟩
 ·rw[e]at hl;simp at hl
 ·cases e;exact⟨b,off,rfl⟩
theorem zbn:∃i,Tryz.prog.info? 32=some i∧i.zero=some (.agg #[.int .i64 0,.int .i64 0,.bool false,.int .i64 0,.int .i64 0,.int .i64 0])∧i.size=6∧i.bytes=48:=by
 have h:(Tryz.prog.info? 32).map (fun i=>(i.zero,i.size,i.bytes))=some (some (.agg #[.int .i64 0,.int .i64 0,.bool false,.int .i64 0,.int .i64 0,.int .i64 0]),6,48):=by kernel_rfl
 obtain⟨i,hi,hb⟩:=Option.map_eq_some_iff.1 h
 simp at hb
 exact⟨i,hi,hb⟩
def z8(l:List Ar)(p:Int):Option Ar:=l.find? fun a=>decide (a.from_≤p∧p-a.from_<a.pages)
theorem Zu{w:World}{p k:Nat}{V:List Value}{T:TypeId}(h:w.heap[p]?=some (.cells V.toArray T (0,0)))(v:Value):(w.setCell ⟨p,k,none⟩ v).heap[p]?=some (.cells (V.set k v).toArray T (0,0)):=by
 unfold World.setCell
 simp only[Array.getElem?_modify,if_true,h]
 simp
theorem zfo{R:Ending→World→Prop}{a:Act}{W:World}{B:Nat}{x:Ar}{b:Bool}(h4:a.tmps[4]?=some (.pointer (some ⟨B,0,none⟩)))(h5:a.tmps[5]?=some (.bool b))(hd:a.defers=[])
  (hrow:W.heap[B]?=some (.cells x.cells.toArray 32 (0,0))) (hR:R (.returned (.tuple #[x.enc,.bool b])) W):bodyPost Tryz.prog Tryz.f167 R .ret a W:=by
 have f0:W.cell? ⟨B,0,none⟩=some (.int .i64 x.from_):=by rw[cell_of_row W _ 0 _ _ _ hrow];rfl
 have f1:W.cell? ⟨B,1,none⟩=some (.int .i64 x.pages):=by rw[cell_of_row W _ 1 _ _ _ hrow];rfl
 have f2:W.cell? ⟨B,2,none⟩=some (.bool x.write):=by rw[cell_of_row W _ 2 _ _ _ hrow];rfl
 have f3:W.cell? ⟨B,3,none⟩=some (.int .i64 x.kind):=by rw[cell_of_row W _ 3 _ _ _ hrow];rfl
 have f4:W.cell? ⟨B,4,none⟩=some (.int .i64 x.file):=by rw[cell_of_row W _ 4 _ _ _ hrow];rfl
 have f5:W.cell? ⟨B,5,none⟩=some (.int .i64 x.off):=by rw[cell_of_row W _ 5 _ _ _ hrow];rfl
 refine bodyPost_ret (v:=.tuple #[x.enc,.bool b]) ?_ hd hR
 unfold Ar.enc
 simp[results,Tryz.results167,go_sem,h4,h5,f0,f1,f2,f3,f4,f5]
theorem Ju(w:World)(v:Value)(l:List Ar)(h:ArRd w v l)(p:Int)(hl:∀a∈l,a.xe)(hp:0≤p∧p<4096):
  Calls Tryz.prog 167 #[v,.int .i64 p] w fun e w'=>e=.returned (.tuple #[((z8 l p).getD ⟨0,0,false,0,0,0⟩).enc,.bool (z8 l p).isSome])∧Below w.heap.size w w':=by
 obtain⟨a,c,rfl,hc,hm⟩:=ArRd.fm h
 have H:=Lib.hid h
 have HL:=Lib.hid hl
 obtain⟨n,hn⟩:∃n,n=l.length:=⟨_,rfl⟩
 rw[←hn]at hc⊢ H
 have HN:=Lib.hid hn
 have hbig:n≤9223372036854775807:=by unfold maxLen at hm;omega
 clear hn h hl hm
 go_enter Tryz.func167,Tryz.ntmps167
 go_wp2_with fail
 obtain⟨W0,hW0⟩:∃W0,W0=w.alloc (.cells #[.int .i64 0,.int .i64 0,.bool false,.int .i64 0,.int .i64 0,.int .i64 0] 32):=⟨_,rfl⟩
 have hB0:Hid (Below w.heap.size w W0∧W0.heap.size=w.heap.size+1∧W0.heap[w.heap.size]?=some (.cells #[.int .i64 0,.int .i64 0,.bool false,.int .i64 0,.int .i64 0,.int .i64 0] 32 (0,0))):=by
  rw[hW0]
  exact⟨(Below.refl _ _).alloc (Nat.le_refl _) _,by simp,heap_alloc_new w _⟩
 rw[←hW0]
 clear hW0
 go_loopw [7,10] (fun _ i wr=>∃k:Nat,k≤n∧i=.int .i64 k∧Below W0.heap.size W0 wr∧z8 l p=z8 (l.drop k) p) (fun _ i _=>n-(intOf i).toNat)
 case atStart=>exact⟨0,by omega,rfl,Below.refl _ _,rfl⟩
 case round=>
  obtain⟨k,hk,rfl,hb,hlo⟩:=hrel
  have hblk:=(hb.block w.heap.size (by rw[hB0.out.2.1];omega)).trans hB0.out.2.2
  have hlt1:w.heap.size<wr.heap.size:=(Array.getElem?_eq_some_iff.1 hblk).1
  have HBLK:=Lib.hid hblk
  have HB:=Lib.hid (hB0.out.1.trans (hb.mono (by rw[hB0.out.2.1];omega)))
  have HB':=Lib.hid hb
  have HLo:=Lib.hid hlo
  clear hb hlo hblk
  by_cases hlt:k<n
  ·have hlt':(k:Int)<n:=by omega
   obtain⟨y,hy⟩:∃y,l[k]?=some y:=⟨_,List.getElem?_eq_getElem (by rw[←HN.out];exact hlt)⟩
   obtain⟨b,off,rfl⟩:=H.out.addr (by rw[←HN.out];omega)
   obtain⟨e0,e1,e2,e3,e4,e5⟩:=(H.out.below HB.out).cell hy
   have hs:=HL.out y (List.mem_of_getElem? hy)
   have hdr:Hid (z8 (l.drop k) p=if y.from_≤p∧p-y.from_<y.pages then some y else z8 (l.drop (k+1)) p):=by
    obtain⟨hj,rfl⟩:=List.getElem?_eq_some_iff.1 hy
    show _=_
    rw[List.drop_eq_getElem_cons hj]
    unfold z8
    rw[List.find?_cons]
    by_cases hc:(l[k]).from_≤p∧p-(l[k]).from_<(l[k]).pages
    ·rw[decide_eq_true hc,if_pos hc]
    ·rw[decide_eq_false hc,if_neg hc]
   obtain⟨f,pg,wr',kd,fi,o⟩:=y
   obtain⟨-,-,s3,s4,s5,s6,-⟩:=hs
   simp only at e0 e1 e2 e3 e4 e5 s3 s4 s5 s6 hdr
   have hw:IntKind.i64.wrap (p-f)=p-f:=by simp[IntKind.wrap,IntKind.bits,IntKind.signed];omega
   clear hy
   by_cases c1:f≤p
   ·by_cases c2:p-f<pg
    ·have e:z8 l p=some ⟨f,pg,wr',kd,fi,o⟩:=by rw[HLo.out,hdr.out,if_pos ⟨c1,c2⟩]
     have f0:wr.cell? ⟨w.heap.size,0,none⟩=some (.int .i64 0):=by rw[cell_of_row wr _ 0 _ _ _ HBLK.out];rfl
     have f1:wr.cell? ⟨w.heap.size,1,none⟩=some (.int .i64 0):=by rw[cell_of_row wr _ 1 _ _ _ HBLK.out];rfl
     have f2:wr.cell? ⟨w.heap.size,2,none⟩=some (.bool false):=by rw[cell_of_row wr _ 2 _ _ _ HBLK.out];rfl
     have f3:wr.cell? ⟨w.heap.size,3,none⟩=some (.int .i64 0):=by rw[cell_of_row wr _ 3 _ _ _ HBLK.out];rfl
     have f4:wr.cell? ⟨w.heap.size,4,none⟩=some (.int .i64 0):=by rw[cell_of_row wr _ 4 _ _ _ HBLK.out];rfl
     have f5:wr.cell? ⟨w.heap.size,5,none⟩=some (.int .i64 0):=by rw[cell_of_row wr _ 5 _ _ _ HBLK.out];rfl
     have qf:∀i,wr.frozen? ⟨w.heap.size,i,none⟩=false:=fun i=>by simp[World.frozen?,HBLK.out]
     have q0:=qf 0
     have q1:=qf 1
     have q2:=qf 2
     have q3:=qf 3
     have q4:=qf 4
     have q5:=qf 5
     clear qf
     go_wp2_with fail
     have hr:=Zu (k:=5) (Zu (k:=4) (Zu (k:=3) (Zu (k:=2) (Zu (k:=1) (Zu (V:=[.int .i64 0,.int .i64 0,.bool false,.int .i64 0,.int .i64 0,.int .i64 0]) (k:=0) HBLK.out (.int .i64 f)) (.int .i64 pg)) (.bool wr')) (.int .i64 kd)) (.int .i64 fi)) (.int .i64 o)
     have hbs:=(((((HB.out.setCell (p:=⟨w.heap.size,0,none⟩) (Nat.le_refl _) (.int .i64 f)).setCell (p:=⟨w.heap.size,1,none⟩) (Nat.le_refl _) (.int .i64 pg)).setCell (p:=⟨w.heap.size,2,none⟩) (Nat.le_refl _) (.bool wr')).setCell (p:=⟨w.heap.size,3,none⟩) (Nat.le_refl _) (.int .i64 kd)).setCell (p:=⟨w.heap.size,4,none⟩) (Nat.le_refl _) (.int .i64 fi)).setCell (p:=⟨w.heap.size,5,none⟩) (Nat.le_refl _) (.int .i64 o)
     generalize (((((wr.setCell ⟨w.heap.size,0,none⟩ (.int .i64 f)).setCell ⟨w.heap.size,1,none⟩ (.int .i64 pg)).setCell ⟨w.heap.size,2,none⟩ (.bool wr')).setCell ⟨w.heap.size,3,none⟩ (.int .i64 kd)).setCell ⟨w.heap.size,4,none⟩ (.int .i64 fi)).setCell ⟨w.heap.size,5,none⟩ (.int .i64 o)=Z at hr hbs⊢
     refine zfo (x:=⟨f,pg,wr',kd,fi,o⟩) (b:=true) rfl rfl rfl ?_ ⟨by rw[e];rfl,hbs.alloc hbs.size _⟩
     exact(Below.heap_alloc Z _ w.heap.size (Array.getElem?_eq_some_iff.1 hr).1).trans hr
    ·go_wp2_with fail
     go_roundw
     case rel=>exact⟨k+1,by omega,by go_num,HB'.out.alloc HB'.out.size _,by rw[HLo.out,hdr.out,if_neg (fun h=>c2 h.2)]⟩
     case measure=>simp[intOf];omega
   ·go_wp2_with fail
    go_roundw
    case rel=>exact⟨k+1,by omega,by go_num,HB'.out.alloc HB'.out.size _,by rw[HLo.out,hdr.out,if_neg (fun h=>c1 h.1)]⟩
    case measure=>simp[intOf];omega
  ·have e:z8 l p=none:=by
    rw[HLo.out,List.drop_of_length_le (by rw[←HN.out];omega)]
    rfl
   have f0:wr.cell? ⟨w.heap.size,0,none⟩=some (.int .i64 0):=by rw[cell_of_row wr _ 0 _ _ _ HBLK.out];rfl
   have f1:wr.cell? ⟨w.heap.size,1,none⟩=some (.int .i64 0):=by rw[cell_of_row wr _ 1 _ _ _ HBLK.out];rfl
   have f2:wr.cell? ⟨w.heap.size,2,none⟩=some (.bool false):=by rw[cell_of_row wr _ 2 _ _ _ HBLK.out];rfl
   have f3:wr.cell? ⟨w.heap.size,3,none⟩=some (.int .i64 0):=by rw[cell_of_row wr _ 3 _ _ _ HBLK.out];rfl
   have f4:wr.cell? ⟨w.heap.size,4,none⟩=some (.int .i64 0):=by rw[cell_of_row wr _ 4 _ _ _ HBLK.out];rfl
   have f5:wr.cell? ⟨w.heap.size,5,none⟩=some (.int .i64 0):=by rw[cell_of_row wr _ 5 _ _ _ HBLK.out];rfl
   have qf:∀i,wr.frozen? ⟨w.heap.size,i,none⟩=false:=fun i=>by simp[World.frozen?,HBLK.out]
   have q0:=qf 0
   have q1:=qf 1
   have q2:=qf 2
   have q3:=qf 3
   have q4:=qf 4
   have q5:=qf 5
   clear qf
   go_wp2_with fail
   have hr:=Zu (k:=5) (Zu (k:=4) (Zu (k:=3) (Zu (k:=2) (Zu (k:=1) (Zu (V:=[.int .i64 0,.int .i64 0,.bool false,.int .i64 0,.int .i64 0,.int .i64 0]) (k:=0) HBLK.out (.int .i64 0)) (.int .i64 0)) (.bool false)) (.int .i64 0)) (.int .i64 0)) (.int .i64 0)
   have hbs:=(((((HB.out.setCell (p:=⟨w.heap.size,0,none⟩) (Nat.le_refl _) (.int .i64 0)).setCell (p:=⟨w.heap.size,1,none⟩) (Nat.le_refl _) (.int .i64 0)).setCell (p:=⟨w.heap.size,2,none⟩) (Nat.le_refl _) (.bool false)).setCell (p:=⟨w.heap.size,3,none⟩) (Nat.le_refl _) (.int .i64 0)).setCell (p:=⟨w.heap.size,4,none⟩) (Nat.le_refl _) (.int .i64 0)).setCell (p:=⟨w.heap.size,5,none⟩) (Nat.le_refl _) (.int .i64 0)
   generalize (((((wr.setCell ⟨w.heap.size,0,none⟩ (.int .i64 0)).setCell ⟨w.heap.size,1,none⟩ (.int .i64 0)).setCell ⟨w.heap.size,2,none⟩ (.bool false)).setCell ⟨w.heap.size,3,none⟩ (.int .i64 0)).setCell ⟨w.heap.size,4,none⟩ (.int .i64 0)).setCell ⟨w.heap.size,5,none⟩ (.int .i64 0)=Z at hr hbs⊢
   exact zfo (x:=⟨0,0,false,0,0,0⟩) (b:=false) rfl rfl rfl hr ⟨by rw[e];rfl,hbs⟩
theorem ArAt.one(w:World)(x:Ar):ArAt (w.alloc (.cells x.cells.toArray 32)) (.slice (some ⟨w.heap.size,0,none⟩) 1 1) [x]:=
 ⟨rfl,.inr ⟨w.heap.size,0,1,_,rfl,heap_alloc_new w _,Nat.le_refl _,by simp[maxLen],by simp[Ar.Zb],fun j u hu=>by simpa[ar]using hu⟩⟩
theorem ArAt.zn2(w:World)(n:Nat)(hn:w.heap.size=n)(x:Ar){vs:Array Value}(hv:vs=x.cells.toArray):ArAt (w.alloc (.cells vs 32)) (.slice (some ⟨n,0,none⟩) 1 1) [x]:=by
 subst hv
 subst hn
 exact ArAt.one w x
theorem ArAt.two(w:World)(A B:Obj)(x:Ar){vs:Array Value}(hv:vs=x.cells.toArray):ArAt (((w.alloc A).alloc B).alloc (.cells vs 32)) (.slice (some ⟨w.heap.size+1+1,0,none⟩) 1 1) [x]:=by
 subst hv
 have:=ArAt.one ((w.alloc A).alloc B) x
 rwa[World.size_alloc,World.size_alloc]at this
theorem zhh(w:World)(v:Value)(l:List Ar)(h:ArAt w v l):
  Calls Tryz.prog 124 #[v] w fun e w'=>∃v',e=.returned v'∧ArAt w' v' l∧w'=w∧v'.ownBlock=v.ownBlock:=by
 rcases h.form with⟨rfl,rfl⟩|⟨b,off,c,rfl,hc,hm,hb⟩
 ·go_enter Tryz.func124,Tryz.ntmps124
  go_wp2_with fail
  go_ret
  exact⟨_,rfl,ArAt.nil w,rfl,rfl⟩
 ·go_enter Tryz.func124,Tryz.ntmps124
  go_wp2_with fail
  go_ret
  refine⟨_,rfl,?_,rfl,rfl⟩
  rcases h.2 with⟨e,_⟩|⟨b',off',c',arr,e,hg,hnc,hcm,hsz,hx⟩
  ·cases e
  ·cases e
   exact⟨h.1,.inr ⟨b,off,l.length,arr,rfl,hg,Nat.le_refl _,by omega,by omega,hx⟩⟩
structure Parts(w:World)(b off:Nat)(vs:List Value)(ls:List (List Ar)):Prop where
 len:vs.length=ls.length
 cell:∀(j:Nat) (v:Value),vs[j]?=some v→w.cell? ⟨b,off+j,none⟩=some v
 at_:∀(j:Nat) (v:Value) (l:List Ar),vs[j]?=some v→ls[j]?=some l→ArAt w v l
def RightA(fr pg:Int):Prop:=0≤fr∧1≤pg∧fr<4096∧pg≤4096-fr
instance (fr pg:Int):Decidable (RightA fr pg):=inferInstanceAs (Decidable (_∧_∧_∧_))
theorem Parts.two{w:World}{v1 v2:Value}{l1 l2:List Ar}(h1:ArAt w v1 l1)(h2:ArAt w v2 l2)(T:TypeId):Parts (w.alloc (.cells #[v1,v2] T)) w.heap.size 0 [v1,v2] [l1,l2]:=by
 have hb:Below w.heap.size w (w.alloc (.cells #[v1,v2] T)):=(Below.refl _ _).alloc (Nat.le_refl _) _
 refine⟨rfl,fun j v hv=>?_,fun j v l hv hl=>?_⟩
 ·rw[cell_of_row _ _ _ _ _ _ (heap_alloc_new w (.cells #[v1,v2] T))]
  rw[Nat.zero_add]
  simpa using hv
 ·match j with
  | 0=>cases hv;cases hl;exact h1.below hb
  | 1=>cases hv;cases hl;exact h2.below hb
  | j+2=>simp at hv
end Go.Proofs.YtnhdmnijiphjjaaGreat
namespace Go.Proofs
open Go.Shelf
def YtnhdmnijiphjjaaGreat.Xn:Go.Shelf.Ren:=⟨fun|8=>121|6=>165|n=>n,fun|22=>104|23=>32|25=>188|4=>4|3=>3|0=>0|n=>n,fun|n=>n⟩
theorem YtnhdmnijiphjjaaGreat.Uu:Go.Proofs.SlLaysH0.n8 Tryz.prog YtnhdmnijiphjjaaGreat.Xn:={
 mixed:=by kernel_rfl
 f6:=⟨Tryz.f165.name,by decide,Tryz.func165.trans (congrArg some (by kernel_rfl))⟩
 f8:=⟨Tryz.f121.name,by decide,Tryz.func121.trans (congrArg some (by kernel_rfl))⟩
 t0:=Tryz.underlying0
 a0:=Tryz.isAgg0
 z0:=Tryz.sizeOf0
 v0:=Tryz.zeroValue0
 t3:=Tryz.underlying3
 a3:=Tryz.isAgg3
 z3:=Tryz.sizeOf3
 v3:=Tryz.zeroValue3
 t4:=Tryz.underlying4
 a4:=Tryz.isAgg4
 z4:=Tryz.sizeOf4
 v4:=Tryz.zeroValue4
 t22:=Tryz.underlying104
 a22:=Tryz.isAgg104
 z22:=Tryz.sizeOf104
 v22:=Tryz.zeroValue104
 t25:=Tryz.underlying188
 a25:=Tryz.isAgg188
 z25:=Tryz.sizeOf188
 v25:=Tryz.zeroValue188}
def YtnhdmnijiphjjaaGreat.J4:Go.Shelf.Ren:=⟨fun|41=>109|n=>n,fun|22=>104|23=>32|4=>4|n=>n,fun|n=>n⟩
theorem YtnhdmnijiphjjaaGreat.Xv:Go.Proofs.SlLaysE0.n41 Tryz.prog YtnhdmnijiphjjaaGreat.J4:={
 mixed:=by kernel_rfl
 f41:=⟨Tryz.f109.name,by decide,Tryz.func109.trans (congrArg some (by kernel_rfl))⟩
 t4:=Tryz.underlying4
 a4:=Tryz.isAgg4
 z4:=Tryz.sizeOf4
 v4:=Tryz.zeroValue4
 t22:=Tryz.underlying104
 a22:=Tryz.isAgg104
 z22:=Tryz.sizeOf104
 v22:=Tryz.zeroValue104}
def YtnhdmnijiphjjaaGreat.zbi:Go.Shelf.Ren:=⟨fun|6=>122|15=>129|14=>166|28=>179|29=>180|20=>203|21=>204|22=>205|23=>206|24=>207|25=>208|26=>209|27=>210|46=>230|47=>216|48=>217|49=>231|50=>232|57=>250|n=>n,fun|22=>104|24=>32|25=>191|3=>3|39=>195|0=>0|53=>254|55=>145|4=>4|46=>248|45=>247|50=>126|5=>5|9=>9|66=>281|70=>285|76=>299|77=>167|n=>n,fun|n=>n⟩
theorem YtnhdmnijiphjjaaGreat.zin:Go.Proofs.SlLaysF0.n6 Tryz.prog YtnhdmnijiphjjaaGreat.zbi:={
 mixed:=by kernel_rfl
 f6:=⟨Tryz.f122.name,by decide,Tryz.func122.trans (congrArg some (by kernel_rfl))⟩
 f14:=⟨Tryz.f166.name,by decide,Tryz.func166.trans (congrArg some (by kernel_rfl))⟩
 f15:=Tryz.func129.trans (congrArg some (by kernel_rfl))
 f20:=⟨Tryz.f203.name,by decide,Tryz.func203.trans (congrArg some (by kernel_rfl))⟩
 f21:=⟨Tryz.f204.name,by decide,Tryz.func204.trans (congrArg some (by kernel_rfl))⟩
 f22:=⟨Tryz.f205.name,by decide,Tryz.func205.trans (congrArg some (by kernel_rfl))⟩
 f23:=⟨Tryz.f206.name,by decide,Tryz.func206.trans (congrArg some (by kernel_rfl))⟩
 f24:=⟨Tryz.f207.name,by decide,Tryz.func207.trans (congrArg some (by kernel_rfl))⟩
 f25:=⟨Tryz.f208.name,by decide,Tryz.func208.trans (congrArg some (by kernel_rfl))⟩
 f26:=⟨Tryz.f209.name,by decide,Tryz.func209.trans (congrArg some (by kernel_rfl))⟩
 f27:=⟨Tryz.f210.name,by decide,Tryz.func210.trans (congrArg some (by kernel_rfl))⟩
 f28:=Tryz.func179.trans (congrArg some (by kernel_rfl))
 f29:=Tryz.func180.trans (congrArg some (by kernel_rfl))
 f46:=⟨Tryz.f230.name,by decide,Tryz.func230.trans (congrArg some (by kernel_rfl))⟩
 f47:=Tryz.func216.trans (congrArg some (by kernel_rfl))
 f48:=Tryz.func217.trans (congrArg some (by kernel_rfl))
 f49:=⟨Tryz.f231.name,by decide,Tryz.func231.trans (congrArg some (by kernel_rfl))⟩
 f50:=⟨Tryz.f232.name,by decide,Tryz.func232.trans (congrArg some (by kernel_rfl))⟩
 f57:=⟨Tryz.f250.name,by decide,Tryz.func250.trans (congrArg some (by kernel_rfl))⟩
 t0:=Tryz.underlying0
 a0:=Tryz.isAgg0
 z0:=Tryz.sizeOf0
 v0:=Tryz.zeroValue0
 t3:=Tryz.underlying3
 a3:=Tryz.isAgg3
 z3:=Tryz.sizeOf3
 v3:=Tryz.zeroValue3
 t4:=Tryz.underlying4
 a4:=Tryz.isAgg4
 z4:=Tryz.sizeOf4
 v4:=Tryz.zeroValue4
 t5:=Tryz.underlying5
 a5:=Tryz.isAgg5
 z5:=Tryz.sizeOf5
 v5:=Tryz.zeroValue5
 t9:=Tryz.underlying9
 a9:=Tryz.isAgg9
 z9:=Tryz.sizeOf9
 v9:=Tryz.zeroValue9
 t22:=Tryz.underlying104
 a22:=Tryz.isAgg104
 z22:=Tryz.sizeOf104
 v22:=Tryz.zeroValue104
 t25:=Tryz.underlying191
 a25:=Tryz.isAgg191
 z25:=Tryz.sizeOf191
 v25:=Tryz.zeroValue191
 t39:=Tryz.underlying195
 a39:=Tryz.isAgg195
 z39:=Tryz.sizeOf195
 v39:=Tryz.zeroValue195
 t45:=Tryz.underlying247
 a45:=Tryz.isAgg247
 z45:=Tryz.sizeOf247
 v45:=Tryz.zeroValue247
 t46:=Tryz.underlying248
 a46:=Tryz.isAgg248
 z46:=Tryz.sizeOf248
 v46:=Tryz.zeroValue248
 t50:=Tryz.underlying126
 a50:=Tryz.isAgg126
 z50:=Tryz.sizeOf126
 v50:=Tryz.zeroValue126
 t53:=Tryz.underlying254
 a53:=Tryz.isAgg254
 z53:=Tryz.sizeOf254
 v53:=Tryz.zeroValue254
 t55:=Tryz.underlying145
 a55:=Tryz.isAgg145
 z55:=Tryz.sizeOf145
 v55:=Tryz.zeroValue145
 t66:=Tryz.underlying281
 a66:=Tryz.isAgg281
 z66:=Tryz.sizeOf281
 v66:=Tryz.zeroValue281
 t70:=Tryz.underlying285
 a70:=Tryz.isAgg285
 z70:=Tryz.sizeOf285
 v70:=Tryz.zeroValue285
 t76:=Tryz.underlying299
 a76:=Tryz.isAgg299
 z76:=Tryz.sizeOf299
 v76:=Tryz.zeroValue299
 t77:=Tryz.underlying167
 a77:=Tryz.isAgg167
 z77:=Tryz.sizeOf167
 v77:=Tryz.zeroValue167}
end Go.Proofs
namespace Go.Proofs.YtnhdmnijiphjjaaGreat
open Go Go.RowKit
instance:Inhabited Ar:=⟨⟨0,0,false,0,0,0⟩⟩
def Vv(a b:Ar):Bool:=decide (a.from_<wrap64 (b.from_+b.pages))&&decide (b.from_<wrap64 (a.from_+a.pages))
theorem zgn(w:World)(B:Nat)(a:Ar)(hB:B<w.heap.size)(h0:w.cell? ⟨B,0,none⟩=some (.int .i64 a.from_))(h1:w.cell? ⟨B,1,none⟩=some (.int .i64 a.pages)):
  PredBelow Tryz.prog 119 #[.pointer (some ⟨B,0,none⟩)] (fun x:Ar=>.agg x.cells.toArray) (fun x=>Vv a x) w:=by
 intro W x hb
 have g0:=(hb.cell (p:=⟨B,0,none⟩) hB).trans h0
 have g1:=(hb.cell (p:=⟨B,1,none⟩) hB).trans h1
 have hBW:B<W.heap.size:=Nat.lt_of_lt_of_le hB hb.size
 have HB:=Lib.hid hb
 clear hb h0 h1
 obtain⟨f,p,wt,k,fi,o⟩:=x
 obtain⟨f1,p1,wt1,k1,fi1,o1⟩:=a
 simp only[Ar.cells]at g0 g1⊢
 unfold Vv
 simp only
 by_cases c1:f1<wrap64 (f+p)
 ·rw[decide_eq_true c1,Bool.true_and]
  go_enter Tryz.func119,Tryz.ntmps119
  go_wp2_with fail
  go_ret
  exact⟨rfl,HB.out.alloc HB.out.size _⟩
 ·rw[decide_eq_false c1,Bool.false_and]
  go_enter Tryz.func119,Tryz.ntmps119
  go_wp2_with fail
  go_ret
  exact⟨rfl,HB.out.alloc HB.out.size _⟩
theorem ArRd.hc{w:World}{b off c n:Nat}{l:List Ar}(h:ArRd w (.slice (some ⟨b,off,none⟩) n c) l):
  ∀j,j<l.length→∀i v,(Ar.cells l[j]!)[i]?=some v→w.cell? ⟨b,off+j*6+i,none⟩=some v:=by
 intro j hj i v hv
 obtain⟨g,off',c',e,_,_,hx⟩:=SlRd.cells h (by rw[uy];omega)
 cases e
 rw[getElem!_pos l j hj]at hv
 rw[Nat.add_assoc]
 exact hx _ _ (zfw (List.getElem?_eq_getElem hj) hv)
theorem J8(w:World)(v:Value)(l:List Ar)(h:ArRd w v l)(B:Nat)(a:Ar)(hB:B<w.heap.size)(h0:w.cell? ⟨B,0,none⟩=some (.int .i64 a.from_))(h1:w.cell? ⟨B,1,none⟩=some (.int .i64 a.pages)):
  Calls Tryz.prog 121 #[v,.func (.func 119) #[] #[.pointer (some ⟨B,0,none⟩)]] w fun e w'=>e=.returned (.bool (l.any fun x=>Vv a x))∧Below w.heap.size w w':=by
 rcases h.form with⟨rfl,rfl⟩|⟨b,off,c,rfl,hcc,hm,hb⟩
 ·simp only[List.any_nil]
  go_enter Tryz.func121,Tryz.ntmps121
  go_wp2
  refine wp_loop_rounds 1 ?_
  rw[rounds_succ]
  go_wp2
  go_ret
  exact⟨rfl,Below.refl _ _⟩
 ·have eg:∀args w,(callFunc 119 args).run Tryz.prog w=.ok (.enter 119 args) w:=enters_of Tryz.func119 (by kernel_rfl) rfl
  have:=AnyQ.slices_ContainsFunc Uu 6 (fun w=>by kernel_rfl) (fun w=>by kernel_rfl) Ar.cells Ar.Zb (fun x=>Vv a x) 119 #[.pointer (some ⟨B,0,none⟩)] eg b off l.length c l w (zgn w B a hB h0 h1) (Nat.le_refl _) (by unfold maxLen at hm;omega) hb h.hc
  rw[List.take_length]at this
  exact this
theorem Ja{w:World}{base:Nat}{v:Value}{l:List Ar}(h:w.ownsRow base 32 6 v l.length (ar l)):ArAt w v l:=by
 refine⟨h.1,?_⟩
 rcases h.2 with h0|⟨g,cap,cur,e,hg,hc,hn,hm,hs,ht⟩
 ·exact .inl h0
 ·refine .inr ⟨g,0,cap,cur,e,hc,hn,hm,by omega,fun j u hu=>?_⟩
  rw[←ht]at hu
  have hj:=(List.getElem?_eq_some_iff.1 hu).1
  rw[List.getElem?_take_of_lt (by simp at hj;omega)]at hu
  simpa using hu
theorem zet(w:World)(v:Value)(l:List Ar)(h:ArRd w v l)(hl:l.length≤1000000):
  Calls Tryz.prog 109 #[v] w fun e w'=>∃a c,e=.returned (.slice a l.length c)∧J7 w.heap.size w' 32 6 (.slice a l.length c) l.length (ar l)∧Below w.heap.size w w':=by
 rcases h.form with⟨rfl,rfl⟩|⟨b,off,c,rfl,hc,hm,hb⟩
 ·refine(AnyE.slices_Clone_nil Xv 0 0 w).mono ?_
  rintro e w' ⟨rfl,rfl⟩
  exact⟨_,_,rfl,.inl ⟨SlAt.nil w' _ _,by simp[Value.ownBlock]⟩,Below.refl _ _⟩
 ·obtain⟨i,hi,hz,hs,hby⟩:=zbn
  have:=AnyE.slices_Clone Xv i _ 6 48 hi hz hs hby (by rfl) (by omega) (fun w=>by kernel_rfl) b off l.length c (ar l) w (uy l) (by unfold maxLen;omega) (by omega) (fun j u hu=>by
   obtain⟨g,off',c',e,_,_,hx⟩:=SlRd.cells h (by have:=(List.getElem?_eq_some_iff.1 hu).1;omega)
   cases e
   exact hx j u hu) (zjx l)
  refine this.mono ?_
  rintro e w' ⟨v',rfl,hown,hne,hB⟩
  have hat:ArAt w' v' l:=Ja hown
  obtain⟨a,c',rfl,_,_⟩:=SlAt.form hat
  refine⟨a,c',rfl,.inl ⟨hat,?_⟩,hB⟩
  intro b' hb'
  rcases hown.2 with⟨e,_⟩|⟨g,cap,cur,e,hg,_⟩
  ·exact absurd e hne
  ·cases e;simp[Value.ownBlock]at hb';omega
def J6(x y:Int):Int:=if x<y then -1 else if y<x then 1 else 0
theorem zoj(x y:Int)(w:World):Calls Tryz.prog 131 #[.int .i64 x,.int .i64 y] w fun e w'=>e=.returned (.int .i64 (J6 x y))∧w'=w:=by
 by_cases h1:x<y
 ·rw[show J6 x y=-1 by simp[J6,h1]]
  go_enter Tryz.func131,Tryz.ntmps131
  go_wp2
  go_ret
  exact⟨rfl,rfl⟩
 ·by_cases h2:y<x
  ·rw[show J6 x y=1 by simp[J6,h1,h2]]
   go_enter Tryz.func131,Tryz.ntmps131
   go_wp2
   go_ret
   exact⟨rfl,rfl⟩
  ·rw[show J6 x y=0 by simp[J6,h1,h2]]
   go_enter Tryz.func131,Tryz.ntmps131
   go_wp2
   go_ret
   exact⟨rfl,rfl⟩
def cmpA(x y:Ar):Int:=J6 x.from_ y.from_
theorem zbu(w:World)(x y:Ar):
  Calls Tryz.prog 123 #[.agg x.cells.toArray,.agg y.cells.toArray] w fun e w'=>e=.returned (.int .i64 (cmpA x y))∧∃q os',w'=Sort.grow (w.drewN q) os':=by
 obtain⟨f,p,wt,k,fi,o⟩:=x
 obtain⟨f1,p1,wt1,k1,fi1,o1⟩:=y
 unfold cmpA
 simp only[Ar.cells]
 generalize hu:J6 f f1=u
 have c1:=Lib.hid (fun W=>zoj f f1 W)
 rw[hu]at c1
 clear hu
 go_enter Tryz.func123,Tryz.ntmps123
 go_wp2_with fail
 refine(c1.out _).mono ?_
 rintro e w' ⟨rfl,rfl⟩
 go_wp2_with fail
 go_ret
 refine⟨rfl,0,#[.cells #[.int .i64 f,.int .i64 p,.bool wt,.int .i64 k,.int .i64 fi,.int .i64 o] 32,.cells #[.int .i64 f1,.int .i64 p1,.bool wt1,.int .i64 k1,.int .i64 fi1,.int .i64 o1] 32],?_⟩
 simp only[Sort.alloc_eq_grow,Sort.grow_grow]
 rfl
theorem Vy(x y:Ar):ltOf cmpA x y=decide (x.from_<y.from_):=by
 unfold ltOf cmpA J6
 congr 1
 simp only[eq_iff_iff]
 split<;>(repeat' split at *)<;>omega
theorem swoA:Sort.SWO (ltOf cmpA) where
 irrefl x:=by rw[Vy];simp
 trans x y z h1 h2:=by rw[Vy]at *;simp only[decide_eq_true_eq]at *;omega
 ntrans x y z h1 h2:=by
  rw[Vy]at *
  simp only[decide_eq_false_iff_not]at *
  omega
theorem J2{α:Type}[Inhabited α](enc:α→Value)(off:Nat)(d:Array α)(c:Array Value):(Sort.putCells enc off d c).size=c.size:=by simp[Sort.putCells]
theorem zja(l:List Ar):Sort.flatK Ar.cells 6 l.toArray=(ar l).toArray:=by
 refine Sort.ext_get! (by rw[Sort.size_flatK];simp[uy]) fun t ht=>?_
 have ht':t<l.length*6:=by simpa using ht
 rw[Sort.get_flatK _ _ _ t (by simpa using ht')]
 have hq:t/6<l.length:=by omega
 have e0:(l.toArray)[t/6]! = l[t/6]:=by rw[getElem!_pos _ _ (by simpa using hq)];simp
 have hm:t%6<(l[t/6]).cells.length:=by rw[Ar.Zb];omega
 have h1:=zfw (List.getElem?_eq_getElem hq) (List.getElem?_eq_getElem hm)
 rw[show t/6*6+t%6=t by omega]at h1
 rw[e0,getElem!_pos (ar l).toArray t (by simp[uy];omega),getElem!_pos (l[t/6]).cells (t%6) hm]
 simp only[List.getElem_toArray]
 rw[(List.getElem?_eq_some_iff.1 h1).2]
theorem zdu{w:World}{b off c:Nat}{l l':List Ar}(h:ArAt w (.slice (some ⟨b,off,none⟩) l.length c) l)(hl:l'.length=l.length)(n:Nat)(os:Array Obj):
  ArAt (sortWorldK Ar.cells 6 w b off n l'.toArray os) (.slice (some ⟨b,off,none⟩) l.length c) l'∧Touch [b] w (sortWorldK Ar.cells 6 w b off n l'.toArray os):=by
 obtain⟨arr,hg,hnc,hm,hfit,hx⟩:∃arr,w.heap[b]?=some (.cells arr 32 (0,0))∧l.length≤c∧c≤maxLen∧off+c*6≤arr.size∧∀j u,(ar l)[j]?=some u→arr[off+j]?=some u:=by
  rcases h.2 with⟨e,_⟩|⟨b',off',c',arr,e,rest⟩
  ·cases e
  ·cases e;exact⟨arr,rest⟩
 have hb:b<w.heap.size:=(Array.getElem?_eq_some_iff.1 hg).1
 obtain⟨F,hF⟩:∃F,F=(ar l').toArray:=⟨_,rfl⟩
 have hFs:F.size=l.length*6:=by rw[hF];simp[uy,hl]
 have hheap:(sortWorldK Ar.cells 6 w b off n l'.toArray os).heap=w.heap.modify b (Sort.onCells (Sort.putCells id off F))++os:=by
  unfold sortWorldK Sort.putRowK
  rw[zja,←hF]
  rfl
 have hbk:(sortWorldK Ar.cells 6 w b off n l'.toArray os).heap[b]?=some (.cells (Sort.putCells id off F arr) 32 (0,0)):=by
  rw[hheap,Array.getElem?_append_left (by simpa using hb),Array.getElem?_modify,if_pos rfl,hg]
  rfl
 constructor
 ·show SlAt _ _ _ _ _ _
  rw[hl]
  refine⟨by rw[uy,hl],.inr ⟨b,off,c,_,rfl,hbk,hnc,hm,by rw[J2];exact hfit,fun j u hu=>?_⟩⟩
  have hj:=(List.getElem?_eq_some_iff.1 hu).1
  rw[uy,hl]at hj
  have hja:off+j<arr.size:=by have:=Nat.mul_le_mul_right 6 hnc;omega
  simp only[Sort.putCells,Array.getElem?_mapIdx,Array.getElem?_eq_getElem hja,Option.map_some]
  rw[if_pos ⟨by omega,by rw[hFs];omega⟩,show off+j-off=j by omega,getElem!_pos F j (by rw[hFs];exact hj)]
  have:F[j]?=some u:=by rw[hF];simpa using hu
  rw[Array.getElem?_eq_getElem (by rw[hFs];exact hj)]at this
  simpa using this
 ·refine⟨rfl,rfl,rfl,by rw[hheap];simp,fun k hk hne=>?_⟩
  rw[hheap,Array.getElem?_append_left (by simpa using hk),Array.getElem?_modify,if_neg (fun e=>hne (by simp[e]))]
theorem zg9(w:World)(b off c:Nat)(l:List Ar)(h:ArAt w (.slice (some ⟨b,off,none⟩) l.length c) l)(hl:l.length≤1000000):
  Calls Tryz.prog 122 #[.slice (some ⟨b,off,none⟩) l.length c,.func (.func 123) #[] #[]] w fun e w'=>
   e=.returned (.tuple #[])∧∃l',l'.Perm l∧l'.Pairwise (fun x y=>¬y.from_<x.from_)∧ArAt w' (.slice (some ⟨b,off,none⟩) l.length c) l'∧Touch [b] w w':=by
 have eg:∀args w,(callFunc 123 args).run Tryz.prog w=.ok (.enter 123 args) w:=enters_of Tryz.func123 (by kernel_rfl) rfl
 have hH:Sort.HoldsK Ar.cells 6 w b off l.toArray:=by
  unfold Sort.HoldsK
  rw[zja]
  intro j hj
  have hj':j<l.length*6:=by simpa[uy]using hj
  obtain⟨g,off',c',e,_,_,hx⟩:=SlAt.cells h (by rw[uy];omega)
  cases e
  refine hx j _ ?_
  rw[getElem!_pos ((ar l).toArray) j hj]
  simp
 have hb:b<w.heap.size:=SlAt.lt h b rfl
 have:=AnyQ.slices_SortFunc zin 6 (fun w=>by kernel_rfl) (fun w=>by kernel_rfl) Ar.cells Ar.Zb Ar.cells_one cmpA swoA 123 #[] b off c l.toArray w eg (fun m os dk _ x y=>zbu _ x y) hH hb (by simp;omega)
 simp only[List.size_toArray]at this
 refine this.mono ?_
 rintro e w' ⟨rfl,d',n,os,hp,hs,rfl⟩
 obtain⟨hp1,_,hp3⟩:=hp
 have hsz:d'.toList.length=l.length:=by simpa using hp1
 have ed:d'=d'.toList.toArray:=by simp
 have hw:=zdu h hsz n os
 rw[←ed]at hw
 refine⟨rfl,d'.toList,?_,?_,hw.1,hw.2⟩
 ·have e1:d'.extract 0 l.length=d':=by rw[←hsz];simp
  have e2:l.toArray.extract 0 l.length=l.toArray:=by simp
  rw[e1,e2]at hp3
  simpa using hp3
 ·refine List.pairwise_iff_getElem.2 fun i j hi hj hij=>?_
  have:=hs i j (Nat.zero_le _) hij (by rw[←hsz];exact hj)
  rw[Vy,getElem!_pos d' j (by simpa using hj),getElem!_pos d' i (by simpa using hi)]at this
  simpa using this
end Go.Proofs.YtnhdmnijiphjjaaGreat
