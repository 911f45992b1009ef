/- Areas: what may be one. -/
import Derived.WalkKit
import Derived.Test.YtnhdmnijiphjjaaGreatProg
import Derived.Lib.Hide
import Derived.KernelRfl
import Derived.Test.YtnhdmnijiphjjaaGreatJMp0
import Derived.Deep.RegionLaw
import Derived.BigQuiet
import Derived.Deep.RegionHeld
set_option linter.unusedVariables false
set_option linter.unusedSimpArgs false
set_option maxRecDepth 100000
set_option maxHeartbeats 2000000
namespace Go.Proofs.YtnhdmnijiphjjaaGreat
open Go Go.RowKit
structure Ar where
 from_:Int
 pages:Int
 write:Bool
 kind:Int
 file:Int
 off:Int
deriving DecidableEq
def Ar.cells(a:Ar):List Value:=[.int .i64 a.from_,.int .i64 a.pages,.bool a.write,.int .i64 a.kind,.int .i64 a.file,.int .i64 a.off]
def Ar.enc(a:Ar):Value:=.agg #[.int .i64 a.from_,.int .i64 a.pages,.bool a.write,.int .i64 a.kind,.int .i64 a.file,.int .i64 a.off]
def Ar.Wf(a:Ar):Prop:=(Lit.int .i64 a.from_).wf=true∧(Lit.int .i64 a.pages).wf=true∧(Lit.int .i64 a.kind).wf=true∧(Lit.int .i64 a.file).wf=true∧(Lit.int .i64 a.off).wf=true
def Ar.yo(a:Ar):Prop:=1≤a.kind∧a.kind≤3∧0≤a.from_∧1≤a.pages∧a.from_<4096∧a.pages≤4096-a.from_∧
 (a.kind=1∧a.file=0∧a.off=0∨a.kind≠1∧0≤a.file∧a.file<4∧0≤a.off∧a.off<16∧a.pages≤16-a.off)
instance (a:Ar):Decidable a.yo:=inferInstanceAs (Decidable (_∧_∧_∧_∧_∧_∧(_∨_)))
theorem zgp(w:World)(a:Ar)(hw:a.Wf):Calls Tryz.prog 120 #[a.enc] w fun e w'=>e=.returned (.bool (decide a.yo))∧Below w.heap.size w w':=by
 obtain⟨f,p,wr,k,fi,o⟩:=a
 obtain⟨s,hs⟩:∃s,s=decide (Ar.yo ⟨f,p,wr,k,fi,o⟩):=⟨_,rfl⟩
 have HS:=Lib.hid hs
 rw[←hs]
 clear hs
 unfold Ar.enc
 simp only
 by_cases c1:k<1
 ·have hs:s=false:=by
   rw[HS.out]
   exact decide_eq_false (by unfold Ar.yo;simp only;first|omega|(simp;omega)|(have h9:=beq_eq_false_iff_ne.1 d1;omega)|(have h9:=beq_eq_false_iff_ne.1 d2;omega))
  subst hs
  clear HS hw
  go_enter Tryz.func120,Tryz.ntmps120
  go_wp2_with fail
  go_ret
  exact⟨rfl,(Below.refl _ _).alloc (Nat.le_refl _) _⟩
 ·have:=c1
  have c1':(1:Int)≤k:=by omega
  clear this
  by_cases c2:3<k
  ·have hs:s=false:=by
    rw[HS.out]
    exact decide_eq_false (by unfold Ar.yo;simp only;first|omega|(simp;omega)|(have h9:=beq_eq_false_iff_ne.1 d1;omega)|(have h9:=beq_eq_false_iff_ne.1 d2;omega))
   subst hs
   clear HS hw
   go_enter Tryz.func120,Tryz.ntmps120
   go_wp2_with fail
   go_ret
   exact⟨rfl,(Below.refl _ _).alloc (Nat.le_refl _) _⟩
  ·have:=c2
   have c2':k≤3:=by omega
   clear this
   by_cases c3:f<0
   ·have hs:s=false:=by
     rw[HS.out]
     exact decide_eq_false (by unfold Ar.yo;simp only;first|omega|(simp;omega)|(have h9:=beq_eq_false_iff_ne.1 d1;omega)|(have h9:=beq_eq_false_iff_ne.1 d2;omega))
    subst hs
    clear HS hw
    go_enter Tryz.func120,Tryz.ntmps120
    go_wp2_with fail
    go_ret
    exact⟨rfl,(Below.refl _ _).alloc (Nat.le_refl _) _⟩
   ·have:=c3
    have c3':(0:Int)≤f:=by omega
    clear this
    by_cases c4:p<1
    ·have hs:s=false:=by
      rw[HS.out]
      exact decide_eq_false (by unfold Ar.yo;simp only;first|omega|(simp;omega)|(have h9:=beq_eq_false_iff_ne.1 d1;omega)|(have h9:=beq_eq_false_iff_ne.1 d2;omega))
     subst hs
     clear HS hw
     go_enter Tryz.func120,Tryz.ntmps120
     go_wp2_with fail
     go_ret
     exact⟨rfl,(Below.refl _ _).alloc (Nat.le_refl _) _⟩
    ·have:=c4
     have c4':(1:Int)≤p:=by omega
     clear this
     by_cases c5:4095<f
     ·have hs:s=false:=by
       rw[HS.out]
       exact decide_eq_false (by unfold Ar.yo;simp only;first|omega|(simp;omega)|(have h9:=beq_eq_false_iff_ne.1 d1;omega)|(have h9:=beq_eq_false_iff_ne.1 d2;omega))
      subst hs
      clear HS hw
      go_enter Tryz.func120,Tryz.ntmps120
      go_wp2_with fail
      go_ret
      exact⟨rfl,(Below.refl _ _).alloc (Nat.le_refl _) _⟩
     ·have:=c5
      have c5':f<4096:=by omega
      have c5q:¬4096≤f:=by omega
      have w1:IntKind.i64.wrap (4096-f)=4096-f:=by simp[IntKind.wrap,IntKind.bits,IntKind.signed];omega
      clear this
      by_cases c6:4096-f<p
      ·have hs:s=false:=by
        rw[HS.out]
        exact decide_eq_false (by unfold Ar.yo;simp only;first|omega|(simp;omega)|(have h9:=beq_eq_false_iff_ne.1 d1;omega)|(have h9:=beq_eq_false_iff_ne.1 d2;omega))
       subst hs
       clear HS hw
       go_enter Tryz.func120,Tryz.ntmps120
       go_wp2_with fail
       go_ret
       exact⟨rfl,(Below.refl _ _).alloc (Nat.le_refl _) _⟩
      ·have:=c6
       have c6':p≤4096-f:=by omega
       clear this
       by_cases hk:k=1
       ·subst hk
        by_cases d1:(fi==0)=false
        ·have hs:s=false:=by
          rw[HS.out]
          exact decide_eq_false (by unfold Ar.yo;simp only;first|omega|(simp;omega)|(have h9:=beq_eq_false_iff_ne.1 d1;omega)|(have h9:=beq_eq_false_iff_ne.1 d2;omega))
         subst hs
         clear HS hw
         go_enter Tryz.func120,Tryz.ntmps120
         go_wp2_with fail
         go_ret
         exact⟨rfl,(Below.refl _ _).alloc (Nat.le_refl _) _⟩
        ·have:=d1
         have d1':fi=0:=by simpa using d1
         clear this
         by_cases d2:(o==0)=false
         ·have hs:s=false:=by
           rw[HS.out]
           exact decide_eq_false (by unfold Ar.yo;simp only;first|omega|(simp;omega)|(have h9:=beq_eq_false_iff_ne.1 d1;omega)|(have h9:=beq_eq_false_iff_ne.1 d2;omega))
          subst hs
          clear HS hw
          go_enter Tryz.func120,Tryz.ntmps120
          go_wp2_with fail
          go_ret
          exact⟨rfl,(Below.refl _ _).alloc (Nat.le_refl _) _⟩
         ·have:=d2
          have d2':o=0:=by simpa using d2
          clear this
          have hs:s=true:=by
           rw[HS.out]
           exact decide_eq_true (by unfold Ar.yo;simp only;first|omega|(simp;omega)|(have h9:=beq_eq_false_iff_ne.1 d1;omega)|(have h9:=beq_eq_false_iff_ne.1 d2;omega))
          subst hs
          clear HS hw
          go_enter Tryz.func120,Tryz.ntmps120
          go_wp2_with fail
          go_ret
          exact⟨rfl,(Below.refl _ _).alloc (Nat.le_refl _) _⟩
       ·have hk':¬k=1:=hk
        by_cases d1:fi<0
        ·have hs:s=false:=by
          rw[HS.out]
          exact decide_eq_false (by unfold Ar.yo;simp only;first|omega|(simp;omega)|(have h9:=beq_eq_false_iff_ne.1 d1;omega)|(have h9:=beq_eq_false_iff_ne.1 d2;omega))
         subst hs
         clear HS hw
         go_enter Tryz.func120,Tryz.ntmps120
         go_wp2_with fail
         go_ret
         exact⟨rfl,(Below.refl _ _).alloc (Nat.le_refl _) _⟩
        ·have:=d1
         have d1':(0:Int)≤fi:=by omega
         clear this
         by_cases d2:4≤fi
         ·have hs:s=false:=by
           rw[HS.out]
           exact decide_eq_false (by unfold Ar.yo;simp only;first|omega|(simp;omega)|(have h9:=beq_eq_false_iff_ne.1 d1;omega)|(have h9:=beq_eq_false_iff_ne.1 d2;omega))
          subst hs
          clear HS hw
          go_enter Tryz.func120,Tryz.ntmps120
          go_wp2_with fail
          go_ret
          exact⟨rfl,(Below.refl _ _).alloc (Nat.le_refl _) _⟩
         ·have:=d2
          have d2':fi<4:=by omega
          clear this
          by_cases d3:o<0
          ·have hs:s=false:=by
            rw[HS.out]
            exact decide_eq_false (by unfold Ar.yo;simp only;first|omega|(simp;omega)|(have h9:=beq_eq_false_iff_ne.1 d1;omega)|(have h9:=beq_eq_false_iff_ne.1 d2;omega))
           subst hs
           clear HS hw
           go_enter Tryz.func120,Tryz.ntmps120
           go_wp2_with fail
           go_ret
           exact⟨rfl,(Below.refl _ _).alloc (Nat.le_refl _) _⟩
          ·have:=d3
           have d3':(0:Int)≤o:=by omega
           clear this
           by_cases d4:16≤o
           ·have hs:s=false:=by
             rw[HS.out]
             exact decide_eq_false (by unfold Ar.yo;simp only;first|omega|(simp;omega)|(have h9:=beq_eq_false_iff_ne.1 d1;omega)|(have h9:=beq_eq_false_iff_ne.1 d2;omega))
            subst hs
            clear HS hw
            go_enter Tryz.func120,Tryz.ntmps120
            go_wp2_with fail
            go_ret
            exact⟨rfl,(Below.refl _ _).alloc (Nat.le_refl _) _⟩
           ·have:=d4
            have d4':o<16:=by omega
            have w2:IntKind.i64.wrap (16-o)=16-o:=by simp[IntKind.wrap,IntKind.bits,IntKind.signed];omega
            clear this
            by_cases d5:¬p≤16-o
            ·have hs:s=false:=by
              rw[HS.out]
              exact decide_eq_false (by unfold Ar.yo;simp only;first|omega|(simp;omega)|(have h9:=beq_eq_false_iff_ne.1 d1;omega)|(have h9:=beq_eq_false_iff_ne.1 d2;omega))
             subst hs
             clear HS hw
             go_enter Tryz.func120,Tryz.ntmps120
             go_wp2_with fail
             go_ret
             exact⟨rfl,(Below.refl _ _).alloc (Nat.le_refl _) _⟩
            ·have:=d5
             have d5':p≤16-o:=by omega
             clear this
             have hs:s=true:=by
              rw[HS.out]
              exact decide_eq_true (by unfold Ar.yo;simp only;first|omega|(simp;omega)|(have h9:=beq_eq_false_iff_ne.1 d1;omega)|(have h9:=beq_eq_false_iff_ne.1 d2;omega))
             subst hs
             clear HS hw
             go_enter Tryz.func120,Tryz.ntmps120
             go_wp2_with fail
             go_ret
             exact⟨rfl,(Below.refl _ _).alloc (Nat.le_refl _) _⟩
theorem zjx(w:World)(a:Ar)(hw:a.Wf):Calls Tryz.prog 134 #[a.enc] w fun e w'=>e=.returned (.bool (decide a.yo))∧Below w.heap.size w w':=by
 obtain⟨f,p,wr,k,fi,o⟩:=a
 obtain⟨s,hs⟩:∃s,s=decide (Ar.yo ⟨f,p,wr,k,fi,o⟩):=⟨_,rfl⟩
 have HS:=Lib.hid hs
 rw[←hs]
 clear hs
 unfold Ar.enc
 simp only
 by_cases c1:k<1
 ·have hs:s=false:=by
   rw[HS.out]
   exact decide_eq_false (by unfold Ar.yo;simp only;first|omega|(simp;omega)|(have h9:=beq_eq_false_iff_ne.1 d1;omega)|(have h9:=beq_eq_false_iff_ne.1 d2;omega))
  subst hs
  clear HS hw
  go_enter Tryz.func134,Tryz.ntmps134
  go_wp2_with fail
  go_ret
  exact⟨rfl,(Below.refl _ _).alloc (Nat.le_refl _) _⟩
 ·have:=c1
  have c1':(1:Int)≤k:=by omega
  clear this
  by_cases c2:3<k
  ·have hs:s=false:=by
    rw[HS.out]
    exact decide_eq_false (by unfold Ar.yo;simp only;first|omega|(simp;omega)|(have h9:=beq_eq_false_iff_ne.1 d1;omega)|(have h9:=beq_eq_false_iff_ne.1 d2;omega))
   subst hs
   clear HS hw
   go_enter Tryz.func134,Tryz.ntmps134
   go_wp2_with fail
   go_ret
   exact⟨rfl,(Below.refl _ _).alloc (Nat.le_refl _) _⟩
  ·have:=c2
   have c2':k≤3:=by omega
   clear this
   by_cases c3:f<0
   ·have hs:s=false:=by
     rw[HS.out]
     exact decide_eq_false (by unfold Ar.yo;simp only;first|omega|(simp;omega)|(have h9:=beq_eq_false_iff_ne.1 d1;omega)|(have h9:=beq_eq_false_iff_ne.1 d2;omega))
    subst hs
    clear HS hw
    go_enter Tryz.func134,Tryz.ntmps134
    go_wp2_with fail
    go_ret
    exact⟨rfl,(Below.refl _ _).alloc (Nat.le_refl _) _⟩
   ·have:=c3
    have c3':(0:Int)≤f:=by omega
    clear this
    by_cases c4:p<1
    ·have hs:s=false:=by
      rw[HS.out]
      exact decide_eq_false (by unfold Ar.yo;simp only;first|omega|(simp;omega)|(have h9:=beq_eq_false_iff_ne.1 d1;omega)|(have h9:=beq_eq_false_iff_ne.1 d2;omega))
     subst hs
     clear HS hw
     go_enter Tryz.func134,Tryz.ntmps134
     go_wp2_with fail
     go_ret
     exact⟨rfl,(Below.refl _ _).alloc (Nat.le_refl _) _⟩
    ·have:=c4
     have c4':(1:Int)≤p:=by omega
     clear this
     by_cases c5:4095<f
     ·have hs:s=false:=by
       rw[HS.out]
       exact decide_eq_false (by unfold Ar.yo;simp only;first|omega|(simp;omega)|(have h9:=beq_eq_false_iff_ne.1 d1;omega)|(have h9:=beq_eq_false_iff_ne.1 d2;omega))
      subst hs
      clear HS hw
      go_enter Tryz.func134,Tryz.ntmps134
      go_wp2_with fail
      go_ret
      exact⟨rfl,(Below.refl _ _).alloc (Nat.le_refl _) _⟩
     ·have:=c5
      have c5':f<4096:=by omega
      have c5q:¬4096≤f:=by omega
      have w1:IntKind.i64.wrap (4096-f)=4096-f:=by simp[IntKind.wrap,IntKind.bits,IntKind.signed];omega
      clear this
      by_cases c6:4096-f<p
      ·have hs:s=false:=by
        rw[HS.out]
        exact decide_eq_false (by unfold Ar.yo;simp only;first|omega|(simp;omega)|(have h9:=beq_eq_false_iff_ne.1 d1;omega)|(have h9:=beq_eq_false_iff_ne.1 d2;omega))
       subst hs
       clear HS hw
       go_enter Tryz.func134,Tryz.ntmps134
       go_wp2_with fail
       go_ret
       exact⟨rfl,(Below.refl _ _).alloc (Nat.le_refl _) _⟩
      ·have:=c6
       have c6':p≤4096-f:=by omega
       clear this
       by_cases hk:k=1
       ·subst hk
        by_cases d1:(fi==0)=false
        ·have hs:s=false:=by
          rw[HS.out]
          exact decide_eq_false (by unfold Ar.yo;simp only;first|omega|(simp;omega)|(have h9:=beq_eq_false_iff_ne.1 d1;omega)|(have h9:=beq_eq_false_iff_ne.1 d2;omega))
         subst hs
         clear HS hw
         go_enter Tryz.func134,Tryz.ntmps134
         go_wp2_with fail
         go_ret
         exact⟨rfl,(Below.refl _ _).alloc (Nat.le_refl _) _⟩
        ·have:=d1
         have d1':fi=0:=by simpa using d1
         clear this
         by_cases d2:(o==0)=false
         ·have hs:s=false:=by
           rw[HS.out]
           exact decide_eq_false (by unfold Ar.yo;simp only;first|omega|(simp;omega)|(have h9:=beq_eq_false_iff_ne.1 d1;omega)|(have h9:=beq_eq_false_iff_ne.1 d2;omega))
          subst hs
          clear HS hw
          go_enter Tryz.func134,Tryz.ntmps134
          go_wp2_with fail
          go_ret
          exact⟨rfl,(Below.refl _ _).alloc (Nat.le_refl _) _⟩
         ·have:=d2
          have d2':o=0:=by simpa using d2
          clear this
          have hs:s=true:=by
           rw[HS.out]
           exact decide_eq_true (by unfold Ar.yo;simp only;first|omega|(simp;omega)|(have h9:=beq_eq_false_iff_ne.1 d1;omega)|(have h9:=beq_eq_false_iff_ne.1 d2;omega))
          subst hs
          clear HS hw
          go_enter Tryz.func134,Tryz.ntmps134
          go_wp2_with fail
          go_ret
          exact⟨rfl,(Below.refl _ _).alloc (Nat.le_refl _) _⟩
       ·have hk':¬k=1:=hk
        by_cases d1:fi<0
        ·have hs:s=false:=by
          rw[HS.out]
          exact decide_eq_false (by unfold Ar.yo;simp only;first|omega|(simp;omega)|(have h9:=beq_eq_false_iff_ne.1 d1;omega)|(have h9:=beq_eq_false_iff_ne.1 d2;omega))
         subst hs
         clear HS hw
         go_enter Tryz.func134,Tryz.ntmps134
         go_wp2_with fail
         go_ret
         exact⟨rfl,(Below.refl _ _).alloc (Nat.le_refl _) _⟩
        ·have:=d1
         have d1':(0:Int)≤fi:=by omega
         clear this
         by_cases d2:4≤fi
         ·have hs:s=false:=by
           rw[HS.out]
           exact decide_eq_false (by unfold Ar.yo;simp only;first|omega|(simp;omega)|(have h9:=beq_eq_false_iff_ne.1 d1;omega)|(have h9:=beq_eq_false_iff_ne.1 d2;omega))
          subst hs
          clear HS hw
          go_enter Tryz.func134,Tryz.ntmps134
          go_wp2_with fail
          go_ret
          exact⟨rfl,(Below.refl _ _).alloc (Nat.le_refl _) _⟩
         ·have:=d2
          have d2':fi<4:=by omega
          clear this
          by_cases d3:o<0
          ·have hs:s=false:=by
            rw[HS.out]
            exact decide_eq_false (by unfold Ar.yo;simp only;first|omega|(simp;omega)|(have h9:=beq_eq_false_iff_ne.1 d1;omega)|(have h9:=beq_eq_false_iff_ne.1 d2;omega))
           subst hs
           clear HS hw
           go_enter Tryz.func134,Tryz.ntmps134
           go_wp2_with fail
           go_ret
           exact⟨rfl,(Below.refl _ _).alloc (Nat.le_refl _) _⟩
          ·have:=d3
           have d3':(0:Int)≤o:=by omega
           clear this
           by_cases d4:16≤o
           ·have hs:s=false:=by
             rw[HS.out]
             exact decide_eq_false (by unfold Ar.yo;simp only;first|omega|(simp;omega)|(have h9:=beq_eq_false_iff_ne.1 d1;omega)|(have h9:=beq_eq_false_iff_ne.1 d2;omega))
            subst hs
            clear HS hw
            go_enter Tryz.func134,Tryz.ntmps134
            go_wp2_with fail
            go_ret
            exact⟨rfl,(Below.refl _ _).alloc (Nat.le_refl _) _⟩
           ·have:=d4
            have d4':o<16:=by omega
            have w2:IntKind.i64.wrap (16-o)=16-o:=by simp[IntKind.wrap,IntKind.bits,IntKind.signed];omega
            clear this
            by_cases d5:¬p≤16-o
            ·have hs:s=false:=by
              rw[HS.out]
              exact decide_eq_false (by unfold Ar.yo;simp only;first|omega|(simp;omega)|(have h9:=beq_eq_false_iff_ne.1 d1;omega)|(have h9:=beq_eq_false_iff_ne.1 d2;omega))
             subst hs
             clear HS hw
             go_enter Tryz.func134,Tryz.ntmps134
             go_wp2_with fail
             go_ret
             exact⟨rfl,(Below.refl _ _).alloc (Nat.le_refl _) _⟩
            ·have:=d5
             have d5':p≤16-o:=by omega
             clear this
             have hs:s=true:=by
              rw[HS.out]
              exact decide_eq_true (by unfold Ar.yo;simp only;first|omega|(simp;omega)|(have h9:=beq_eq_false_iff_ne.1 d1;omega)|(have h9:=beq_eq_false_iff_ne.1 d2;omega))
             subst hs
             clear HS hw
             go_enter Tryz.func134,Tryz.ntmps134
             go_wp2_with fail
             go_ret
             exact⟨rfl,(Below.refl _ _).alloc (Nat.le_refl _) _⟩
section
variable {P:Program}{w:World}{e:TypeId}{size:Nat}
theorem SlAt.lit0(w:World)(e:TypeId)(size:Nat):SlAt (w.alloc (.cells #[] e)) e size (.slice (some ⟨w.heap.size,0,none⟩) 0 0) 0 []:=
 ⟨by simp,.inr ⟨w.heap.size,0,0,#[],rfl,heap_alloc_new w _,Nat.le_refl _,by simp[maxLen],by simp,fun j u hu=>by simp at hu⟩⟩
theorem Xd(t ty:TypeId)(i:TypeInfo)(z:Value)(bytes:Nat)(ht:P.underlying t=some (.slice e))(hi:P.info? e=some i)(hz:i.zero=some z)
  (hsize:i.size=size) (hby:i.bytes=bytes) (hzs:z.cells.size=size) (v:Value) (n:Nat) (xs:List Value) (hown:SlAt w e size v n xs)
  (sv:Value) (m:Nat) (news:List Value) (hsrc:SlAt w e size sv m news) (h1:∀u∈news,u.oneCell'=true) (h63:n+m≤maxLen) (hbytes:(n+m)*bytes≤140737488355328):
  ∃v' w',(Builtin.append_ #[t,t] ty #[v,sv]).run P w=.ok v' w'∧SlAt w' e size v' (n+m) (xs++news)∧w.grownBy w' v.ownBlock∧(v'.ownBlock=v.ownBlock∨v'.ownBlock=some w.heap.size):=by
 rcases hsrc.2 with⟨rfl,rfl⟩|⟨b,off,c,arr,rfl,hg,_,_,hsz,hx⟩
 ·have hn:news=[]:=List.eq_nil_of_length_eq_zero (by simpa using hsrc.1)
  subst hn
  obtain⟨a,c,rfl,hc,_⟩:=hown.form
  refine⟨.slice a n c,w,?_,by simpa using hown,grownBy_refl _ _,.inl rfl⟩
  cases a<;>simp[Builtin.append_,run_underlying ht,sizeOf,typeInfo,hi,Builtin.lenOf,Builtin.firstCells,loadCells,storeCells,hc]
 ·exact jd w t ty e i z size bytes ht hi hz hsize hby hzs v n xs hown ⟨b,off,none⟩ m c news hsrc.1 (fun j u hu=>by rw[add_plain,cell_of_row w b (off+j) arr e (0,0) hg];exact hx j u hu) h1 h63 hbytes
end
def SlRd(w:World)(k:Nat)(v:Value)(n:Nat)(xs:List Value):Prop:=
 xs.length=n*k∧(v=.slice none 0 0∧n=0∨∃b off c,v=.slice (some ⟨b,off,none⟩) n c∧n≤c∧c≤maxLen∧b<w.heap.size∧∀j u,xs[j]?=some u→w.cell? ⟨b,off+j,none⟩=some u)
section
variable {w w':World}{e:TypeId}{k:Nat}{v:Value}{n:Nat}{xs:List Value}
theorem SlAt.rd(h:SlAt w e k v n xs):SlRd w k v n xs:=by
 refine⟨h.1,?_⟩
 rcases h.2 with h0|⟨b,off,c,arr,rfl,hg,hnc,hm,hs,hx⟩
 ·exact .inl h0
 ·refine .inr ⟨b,off,c,rfl,hnc,hm,(Array.getElem?_eq_some_iff.1 hg).1,fun j u hu=>?_⟩
  rw[cell_of_row w b (off+j) arr e (0,0) hg]
  exact hx j u hu
theorem SlRd.nil(w:World)(k:Nat):SlRd w k (.slice none 0 0) 0 []:=⟨by simp,.inl ⟨rfl,rfl⟩⟩
theorem SlRd.lt(h:SlRd w k v n xs):∀b,v.ownBlock=some b→b<w.heap.size:=by
 intro b hb
 rcases h.2 with⟨rfl,_⟩|⟨g,off,c,rfl,_,_,hg,_⟩
 ·simp[Value.ownBlock]at hb
 ·simp[Value.ownBlock]at hb
  subst hb
  exact hg
theorem SlRd.below(h:SlRd w k v n xs)(hb:Below w.heap.size w w'):SlRd w' k v n xs:=by
 refine⟨h.1,?_⟩
 rcases h.2 with h0|⟨b,off,c,rfl,hnc,hm,hg,hx⟩
 ·exact .inl h0
 ·exact .inr ⟨b,off,c,rfl,hnc,hm,Nat.lt_of_lt_of_le hg hb.size,fun j u hu=>(hb.cell (p:=⟨b,off+j,none⟩) hg).trans (hx j u hu)⟩
theorem SlRd.form(h:SlRd w k v n xs):∃a c,v=.slice a n c∧n≤c∧c≤maxLen:=by
 rcases h.2 with⟨rfl,rfl⟩|⟨g,off,c,rfl,hnc,hm,_⟩
 ·exact⟨none,0,rfl,Nat.le_refl _,by unfold maxLen;omega⟩
 ·exact⟨_,c,rfl,hnc,hm⟩
theorem SlRd.cells(h:SlRd w k v n xs)(hp:0<xs.length):∃b off c,v=.slice (some ⟨b,off,none⟩) n c∧n≤c∧b<w.heap.size∧∀j u,xs[j]?=some u→w.cell? ⟨b,off+j,none⟩=some u:=by
 obtain⟨hl,h2⟩:=h
 rcases h2 with⟨rfl,rfl⟩|⟨g,off,c,rfl,hnc,_,hg,hx⟩
 ·simp at hl;simp[hl]at hp
 ·exact⟨g,off,c,rfl,hnc,hg,hx⟩
theorem SlRd.take {a : Option Addr} {n c : Nat} {xs : List Value} (h : SlRd w k (.slice a n c) n xs) (m : Nat) (hm : m ≤ n) : SlRd w k (.slice a m c) m (xs.take (m * k)) := by
  refine ⟨by rw [List.length_take, h.1, Nat.min_eq_left (Nat.mul_le_mul_right _ hm)], ?_⟩
  rcases h.2 with ⟨e1, e2⟩ | ⟨b, off, c', e1, hnc, hcm, hg, hx⟩
  · cases e1
    exact .inl ⟨by have : m = 0 := by omega
                   rw [this], by omega⟩
  · cases e1
    refine .inr ⟨b, off, c, rfl, by omega, hcm, hg, fun j u hu => ?_⟩
    have hj := (List.getElem?_eq_some_iff.1 hu).1
    rw [List.getElem?_take_of_lt (by simp at hj; omega)] at hu
    exact hx j u hu
theorem SlRd.cut{b off n c:Nat}{xs:List Value}(h:SlRd w k (.slice (some ⟨b,off,none⟩) n c) n xs)(m:Nat)(hm:m≤n){A:Addr}(hA:(if c=m then(some ⟨b,off,none⟩:Option Addr)else some ⟨b,off+m*k,none⟩)=some A):
  SlRd w k (.slice (some A) (n-m) (c-m)) (n-m) (xs.drop (m*k)):=by
 refine⟨by rw[List.length_drop,h.1,Nat.sub_mul],?_⟩
 rcases h.2 with⟨e1,e2⟩|⟨b',off',c',e1,hnc',hcm,hg,hx⟩
 ·cases e1
 ·cases e1
  by_cases hcmq:c=m
  ·rw[if_pos hcmq]at hA
   cases hA
   subst hcmq
   refine .inr ⟨b,off,c-c,rfl,by omega,by simp[maxLen],hg,fun j u hu=>?_⟩
   have:xs.drop (c*k)=[]:=List.drop_eq_nil_of_le (by rw[h.1];exact Nat.mul_le_mul_right _ (by omega))
   rw[this]at hu
   simp at hu
  ·rw[if_neg hcmq]at hA
   cases hA
   refine .inr ⟨b,off+m*k,c-m,rfl,by omega,by simp only[maxLen]at hcm⊢;omega,hg,fun j u hu=>?_⟩
   rw[List.getElem?_drop]at hu
   have:=hx _ _ hu
   rw[Nat.add_assoc]
   exact this
end
section
variable {P:Program}{w:World}{e:TypeId}{size:Nat}
theorem Vv(t ty:TypeId)(i:TypeInfo)(z:Value)(bytes:Nat)(ht:P.underlying t=some (.slice e))(hi:P.info? e=some i)(hz:i.zero=some z)
  (hsize:i.size=size) (hby:i.bytes=bytes) (hzs:z.cells.size=size) (v:Value) (n:Nat) (xs:List Value) (hown:SlAt w e size v n xs)
  (sv:Value) (m:Nat) (news:List Value) (hsrc:SlRd w size sv m news) (h1:∀u∈news,u.oneCell'=true) (h63:n+m≤maxLen) (hbytes:(n+m)*bytes≤140737488355328):
  ∃v' w',(Builtin.append_ #[t,t] ty #[v,sv]).run P w=.ok v' w'∧SlAt w' e size v' (n+m) (xs++news)∧w.grownBy w' v.ownBlock∧(v'.ownBlock=v.ownBlock∨v'.ownBlock=some w.heap.size):=by
 rcases hsrc.2 with⟨rfl,rfl⟩|⟨b,off,c,rfl,_,_,_,hx⟩
 ·exact Xd t ty i z bytes ht hi hz hsize hby hzs v n xs hown _ 0 news ⟨hsrc.1,.inl ⟨rfl,rfl⟩⟩ h1 h63 hbytes
 ·exact jd w t ty e i z size bytes ht hi hz hsize hby hzs v n xs hown ⟨b,off,none⟩ m c news hsrc.1 (fun j u hu=>by rw[add_plain];exact hx j u hu) h1 h63 hbytes
theorem z8{ops:Array Oper}{o:Oper}{a:Act}{K:Act→World→Prop}{Q:Exit→Act→World→Prop}{E:Prop}
  (hg:o.guard=none) (s x:Operand) (t:TypeId) (hop:o.op=Op.call {callee:=Callee.builtin Builtin.append,args:=#[s,x],argTypes:=#[t,t]})
  (i:TypeInfo) (z:Value) (bytes:Nat) (ht:P.underlying t=some (.slice e)) (hi:P.info? e=some i) (hz:i.zero=some z)
  (hsize:i.size=size) (hby:i.bytes=bytes) (hzs:z.cells.size=size) (v:Value) (n:Nat) (xs:List Value) (hs:a.eval s=v) (hown:SlAt w e size v n xs)
  (sv:Value) (m:Nat) (news:List Value) (hx:a.eval x=sv) (hsrc:SlRd w size sv m news) (h1:∀u∈news,u.oneCell'=true) (h63:n+m≤maxLen) (hbytes:(n+m)*bytes≤140737488355328)
  (hK:∀v' w',SlAt w' e size v' (n+m) (xs++news)→w.grownBy w' v.ownBlock→(v'.ownBlock=v.ownBlock∨v'.ownBlock=some w.heap.size)→K (a.put o.dst v') w'):if Region.wanted o (yielded ops a.tmps)=true then Oper.wp P o a w K Q else E:=by
 have hw:Region.wanted o (yielded ops a.tmps)=true:=by simp[Region.wanted,hg]
 obtain⟨v',w',hr,h2,h3,h4⟩:=Vv (P:=P) t o.type i z bytes ht hi hz hsize hby hzs v n xs hown sv m news hsrc h1 h63 hbytes
 rw[if_pos hw]
 unfold Oper.wp
 simp[execOp,hop,resolve,invoke,builtin,hs,hx,hr,Result.andThen]
 exact hK v' w' h2 h3 h4
def J5(B:Nat)(w:World)(e:TypeId)(k:Nat)(v:Value)(n:Nat)(xs:List Value):Prop:=
 (SlAt w e k v n xs∧∀b,v.ownBlock=some b→B≤b)∨(n=0∧xs=[]∧∃A,v=.slice (some A) 0 0)
theorem J5.below{B:Nat}{w w':World}{k n:Nat}{v:Value}{xs:List Value}(h:J5 B w e k v n xs)(hb:Below w.heap.size w w'):J5 B w' e k v n xs:=by
 rcases h with⟨h1,h2⟩|h
 ·exact .inl ⟨h1.below hb,h2⟩
 ·exact .inr h
theorem J5.low{B B':Nat}{w:World}{k n:Nat}{v:Value}{xs:List Value}(h:J5 B w e k v n xs)(hb:B'≤B):J5 B' w e k v n xs:=by
 rcases h with⟨h1,h2⟩|h
 ·exact .inl ⟨h1,fun b e=>Nat.le_trans hb (h2 b e)⟩
 ·exact .inr h
theorem Jv{B:Nat}(hB:B≤w.heap.size)(t ty:TypeId)(i:TypeInfo)(z:Value)(bytes:Nat)(ht:P.underlying t=some (.slice e))(hi:P.info? e=some i)(hz:i.zero=some z)
  (hsize:i.size=size) (hby:i.bytes=bytes) (hzs:z.cells.size=size) (v:Value) (n:Nat) (xs:List Value) (hown:J5 B w e size v n xs)
  (sv:Value) (m:Nat) (news:List Value) (hsrc:SlRd w size sv m news) (hm0:0<m) (h1:∀u∈news,u.oneCell'=true) (h63:n+m≤maxLen) (hbytes:(n+m)*bytes≤140737488355328):
  ∃v' w',(Builtin.append_ #[t,t] ty #[v,sv]).run P w=.ok v' w'∧SlAt w' e size v' (n+m) (xs++news)∧Below B w w'∧∀b,v'.ownBlock=some b→B≤b:=by
 rcases hown with⟨ho,hb⟩|⟨rfl,rfl,A,rfl⟩
 ·obtain⟨v',w',hr,h2,h3,h4⟩:=Vv (P:=P) t ty i z bytes ht hi hz hsize hby hzs v n xs ho sv m news hsrc h1 h63 hbytes
  refine⟨v',w',hr,h2,(Below.refl B w).grown h3 hB hb,fun b hbb=>?_⟩
  rcases h4 with e|e
  ·exact hb b (e.symm.trans hbb)
  ·rw[e]at hbb;cases hbb;exact hB
 ·subst hsize
  subst hby
  rcases hsrc.2 with⟨_,e2⟩|⟨b,off,c,rfl,_,_,_,hx⟩
  ·omega
  ·have hr:=run_append_grow (P:=P) w t ty e i z ht hi hz A 0 0 [] (by simp) (fun j u hu=>by simp at hu) ⟨b,off,none⟩ m c news hsrc.1 (fun j u hu=>by rw[add_plain];exact hx j u hu) (by omega) (by simp only[maxLen]at h63;omega) (growslice_fits (by omega) hbytes)
   have hge:=grownCap_ge w (0+m) 0 e
   have hcm:grownCap w (0+m) 0 e≤maxLen:=grownCap_le_maxLen w (0+m) 0 e h63
   refine⟨_,_,hr,⟨?_,.inr ⟨w.heap.size,0,_,_,rfl,heap_alloc_new w.drew _,hge,hcm,?_,?_⟩⟩,⟨rfl,rfl,rfl,by simp,fun k hk=>Below.heap_alloc w.drew _ k (show k<w.drew.heap.size from Nat.lt_of_lt_of_le hk hB)⟩,?_⟩
   ·simp[hsrc.1]
   ·have hl:=hsrc.1
    simp only[Array.size_append,List.size_toArray,size_zeroCells,hzs,Nat.zero_add,List.length_nil,hl]at hge⊢
    rw[←Nat.add_mul,show m+(grownCap w m 0 e-m)=grownCap w m 0 e by omega]
    exact Nat.le_refl _
   ·intro j u hu
    have hj:=(List.getElem?_eq_some_iff.1 hu).1
    simp at hu hj
    rw[Nat.zero_add,Array.getElem?_append_left (by simp;omega)]
    simpa using hu
   ·intro b' hb'
    simp[Value.ownBlock]at hb'
    omega
theorem Qt{B:Nat}{ops:Array Oper}{o:Oper}{a:Act}{K:Act→World→Prop}{Q:Exit→Act→World→Prop}{E:Prop}(hB:B≤w.heap.size)
  (hg:o.guard=none) (s x:Operand) (t:TypeId) (hop:o.op=Op.call {callee:=Callee.builtin Builtin.append,args:=#[s,x],argTypes:=#[t,t]})
  (i:TypeInfo) (z:Value) (bytes:Nat) (ht:P.underlying t=some (.slice e)) (hi:P.info? e=some i) (hz:i.zero=some z)
  (hsize:i.size=size) (hby:i.bytes=bytes) (hzs:z.cells.size=size) (v:Value) (n:Nat) (xs:List Value) (hs:a.eval s=v) (hown:J5 B w e size v n xs)
  (sv:Value) (m:Nat) (news:List Value) (hx:a.eval x=sv) (hsrc:SlRd w size sv m news) (hm0:0<m) (h1:∀u∈news,u.oneCell'=true) (h63:n+m≤maxLen) (hbytes:(n+m)*bytes≤140737488355328)
  (hK:∀v' w',SlAt w' e size v' (n+m) (xs++news)→Below B w w'→(∀b,v'.ownBlock=some b→B≤b)→K (a.put o.dst v') w'):if Region.wanted o (yielded ops a.tmps)=true then Oper.wp P o a w K Q else E:=by
 have hw:Region.wanted o (yielded ops a.tmps)=true:=by simp[Region.wanted,hg]
 obtain⟨v',w',hr,h2,h3,h4⟩:=Jv (P:=P) hB t o.type i z bytes ht hi hz hsize hby hzs v n xs hown sv m news hsrc hm0 h1 h63 hbytes
 rw[if_pos hw]
 unfold Oper.wp
 simp[execOp,hop,resolve,invoke,builtin,hs,hx,hr,Result.andThen]
 exact hK v' w' h2 h3 h4
end
theorem Ar.uu(x:Ar):x.cells.length=6:=rfl
theorem Ar.cells_one(x:Ar):∀v∈x.cells,v.oneCell'=true:=by intro v hv;simp[Ar.cells]at hv;rcases hv with rfl|rfl|rfl|rfl|rfl|rfl<;>rfl
def ar(l:List Ar):List Value:=l.flatMap Ar.cells
theorem Jj(x:Ar)(l:List Ar):ar (x::l)=x.cells++ar l:=rfl
theorem Z0(a b:List Ar):ar (a++b)=ar a++ar b:=by simp[ar]
theorem ja(l:List Ar):(ar l).length=l.length*6:=by
 induction l with
 | nil=>rfl
 | cons x l ih=>rw[Jj,List.length_append,ih,x.uu,List.length_cons];omega
theorem zfp{l:List Ar}{j:Nat}{x:Ar}(h:l[j]?=some x){i:Nat}{v:Value}(hv:x.cells[i]?=some v):(ar l)[j*6+i]?=some v:=by
 have hi:=(List.getElem?_eq_some_iff.1 hv).1
 rw[x.uu]at hi
 induction l generalizing j with
 | nil=>simp at h
 | cons y l ih=>
  rw[Jj]
  cases j with
  | zero=>
   have:y=x:=by simpa using h
   subst this
   rw[Nat.zero_mul,Nat.zero_add,List.getElem?_append_left (by rw[y.uu];exact hi)]
   exact hv
  | succ j=>
   rw[List.getElem?_append_right (by rw[y.uu];omega),y.uu,show(j+1)*6+i-6=j*6+i by omega]
   exact ih (by simpa using h)
theorem Za(l:List Ar):∀u∈ar l,u.oneCell'=true:=by
 intro u hu
 simp only[ar,List.mem_flatMap]at hu
 obtain⟨x,_,h⟩:=hu
 exact x.cells_one u h
theorem zjq(l:List Ar)(n:Nat):ar (l.take n)=(ar l).take (n*6):=by
 induction l generalizing n with
 | nil=>simp[ar]
 | cons x l ih=>cases n with
  | zero=>simp[ar]
  | succ n=>rw[List.take_succ_cons,Jj,Jj,ih,List.take_append,List.take_of_length_le (l:=x.cells) (i:=(n+1)*6) (by rw[x.uu];omega),x.uu,show(n+1)*6-6=n*6 by omega]
theorem zjr(l:List Ar)(n:Nat):ar (l.drop n)=(ar l).drop (n*6):=by
 induction l generalizing n with
 | nil=>simp[ar]
 | cons x l ih=>cases n with
  | zero=>simp
  | succ n=>rw[List.drop_succ_cons,Jj,ih,List.drop_append,(List.drop_eq_nil_of_le (by rw[x.uu];omega):x.cells.drop ((n+1)*6)=[]),x.uu,show(n+1)*6-6=n*6 by omega,List.nil_append]
def ArAt(w:World)(v:Value)(l:List Ar):Prop:=SlAt w 32 6 v l.length (ar l)
theorem ArAt.nil(w:World):ArAt w (.slice none 0 0) []:=SlAt.nil w _ _
theorem ArAt.below{w w':World}{v:Value}{l:List Ar}(h:ArAt w v l)(hb:Below w.heap.size w w'):ArAt w' v l:=SlAt.below h hb
theorem ArAt.keep{w w':World}{v:Value}{l:List Ar}(h:ArAt w v l)(hb:∀b,v.ownBlock=some b→w'.heap[b]?=w.heap[b]?):ArAt w' v l:=SlAt.keep h hb
theorem ArAt.cell{w:World}{b off c n:Nat}{l:List Ar}(h:ArAt w (.slice (some ⟨b,off,none⟩) n c) l){j:Nat}{x:Ar}(hx:l[j]?=some x):
  w.cell? ⟨b,off+j*6,none⟩=some (.int .i64 x.from_)∧w.cell? ⟨b,off+j*6+1,none⟩=some (.int .i64 x.pages)∧w.cell? ⟨b,off+j*6+2,none⟩=some (.bool x.write)∧w.cell? ⟨b,off+j*6+3,none⟩=some (.int .i64 x.kind)∧
   w.cell? ⟨b,off+j*6+4,none⟩=some (.int .i64 x.file)∧w.cell? ⟨b,off+j*6+5,none⟩=some (.int .i64 x.off):=by
 have hj:=(List.getElem?_eq_some_iff.1 hx).1
 obtain⟨g,off',c',e,_,_,hv⟩:=SlAt.cells h (by rw[ja];omega)
 cases e
 have k:∀i v,x.cells[i]?=some v→w.cell? ⟨b,off+j*6+i,none⟩=some v:=fun i v hi=>by
  rw[Nat.add_assoc]
  exact(hv _ _ (zfp hx hi)).1
 exact⟨k 0 _ rfl,k 1 _ rfl,k 2 _ rfl,k 3 _ rfl,k 4 _ rfl,k 5 _ rfl⟩
theorem ArAt.form{w:World}{v:Value}{l:List Ar}(h:ArAt w v l):(v=.slice none 0 0∧l=[])∨∃b off c,v=.slice (some ⟨b,off,none⟩) l.length c∧l.length≤c∧c≤maxLen∧b<w.heap.size:=by
 rcases h.2 with⟨rfl,h2⟩|⟨b,off,c,arr,rfl,hg,hnc,hm,_⟩
 ·exact .inl ⟨rfl,List.eq_nil_of_length_eq_zero h2⟩
 ·exact .inr ⟨b,off,c,rfl,hnc,hm,(Array.getElem?_eq_some_iff.1 hg).1⟩
def ArRd(w:World)(v:Value)(l:List Ar):Prop:=SlRd w 6 v l.length (ar l)
theorem ArAt.rd{w:World}{v:Value}{l:List Ar}(h:ArAt w v l):ArRd w v l:=SlAt.rd h
theorem ArRd.below{w w':World}{v:Value}{l:List Ar}(h:ArRd w v l)(hb:Below w.heap.size w w'):ArRd w' v l:=SlRd.below h hb
theorem ArRd.fm{w:World}{v:Value}{l:List Ar}(h:ArRd w v l):∃a c,v=.slice a l.length c∧l.length≤c∧c≤maxLen:=SlRd.form h
theorem ArRd.cell{w:World}{b off c n:Nat}{l:List Ar}(h:ArRd w (.slice (some ⟨b,off,none⟩) n c) l){j:Nat}{x:Ar}(hx:l[j]?=some x):
  w.cell? ⟨b,off+j*6,none⟩=some (.int .i64 x.from_)∧w.cell? ⟨b,off+j*6+1,none⟩=some (.int .i64 x.pages)∧w.cell? ⟨b,off+j*6+2,none⟩=some (.bool x.write)∧w.cell? ⟨b,off+j*6+3,none⟩=some (.int .i64 x.kind)∧
   w.cell? ⟨b,off+j*6+4,none⟩=some (.int .i64 x.file)∧w.cell? ⟨b,off+j*6+5,none⟩=some (.int .i64 x.off):=by
 have hj:=(List.getElem?_eq_some_iff.1 hx).1
 obtain⟨g,off',c',e,_,_,hv⟩:=SlRd.cells h (by rw[ja];omega)
 cases e
 have k:∀i v,x.cells[i]?=some v→w.cell? ⟨b,off+j*6+i,none⟩=some v:=fun i v hi=>by
  rw[Nat.add_assoc]
  exact hv _ _ (zfp hx hi)
 exact⟨k 0 _ rfl,k 1 _ rfl,k 2 _ rfl,k 3 _ rfl,k 4 _ rfl,k 5 _ rfl⟩
theorem ArRd.form{w:World}{v:Value}{l:List Ar}(h:ArRd w v l):(v=.slice none 0 0∧l=[])∨∃b off c,v=.slice (some ⟨b,off,none⟩) l.length c∧l.length≤c∧c≤maxLen∧b<w.heap.size:=by
 rcases h.2 with⟨rfl,h2⟩|⟨b,off,c,rfl,hnc,hm,hg,_⟩
 ·exact .inl ⟨rfl,List.eq_nil_of_length_eq_zero h2⟩
 ·exact .inr ⟨b,off,c,rfl,hnc,hm,hg⟩
theorem ArRd.addr{w:World}{a:Option Addr}{c n:Nat}{l:List Ar}(h:ArRd w (.slice a n c) l)(hl:0<l.length):∃b off,a=some ⟨b,off,none⟩:=by
 rcases h.form with⟨_,e⟩|⟨b,off,c',e,_⟩
 ·rw[e]at hl;simp at hl
 ·cases e;exact⟨b,off,rfl⟩
theorem takeA{l:List Ar}{k:Nat}{y:Ar}(hy:l[k]?=some y):l.take (k+1)=l.take k++[y]:=by
 obtain⟨hj,rfl⟩:=List.getElem?_eq_some_iff.1 hy
 rw[List.take_succ_eq_append_getElem hj]
theorem Qi:∃i,Tryz.prog.info? 32=some i∧i.zero=some (.agg #[.int .i64 0,.int .i64 0,.bool false,.int .i64 0,.int .i64 0,.int .i64 0])∧i.size=6∧i.bytes=48:=by
 have h:(Tryz.prog.info? 32).map (fun i=>(i.zero,i.size,i.bytes))=some (some (.agg #[.int .i64 0,.int .i64 0,.bool false,.int .i64 0,.int .i64 0,.int .i64 0]),6,48):=by kernel_rfl
 obtain⟨i,hi,hb⟩:=Option.map_eq_some_iff.1 h
 simp at hb
 exact⟨i,hi,hb⟩
def yh(l:List Ar)(p:Int):Option Ar:=l.find? fun a=>decide (a.from_≤p∧p-a.from_<a.pages)
theorem Z5{w:World}{p k:Nat}{V:List Value}{T:TypeId}(h:w.heap[p]?=some (.cells V.toArray T (0,0)))(v:Value):(w.setCell ⟨p,k,none⟩ v).heap[p]?=some (.cells (V.set k v).toArray T (0,0)):=by
 unfold World.setCell
 simp only[Array.getElem?_modify,if_true,h]
 simp
theorem zfg{R:Ending→World→Prop}{a:Act}{W:World}{B:Nat}{x:Ar}{b:Bool}(h4:a.tmps[4]?=some (.pointer (some ⟨B,0,none⟩)))(h5:a.tmps[5]?=some (.bool b))(hd:a.defers=[])
  (hrow:W.heap[B]?=some (.cells x.cells.toArray 32 (0,0))) (hR:R (.returned (.tuple #[x.enc,.bool b])) W):bodyPost Tryz.prog Tryz.f167 R .ret a W:=by
 have f0:W.cell? ⟨B,0,none⟩=some (.int .i64 x.from_):=by rw[cell_of_row W _ 0 _ _ _ hrow];rfl
 have f1:W.cell? ⟨B,1,none⟩=some (.int .i64 x.pages):=by rw[cell_of_row W _ 1 _ _ _ hrow];rfl
 have f2:W.cell? ⟨B,2,none⟩=some (.bool x.write):=by rw[cell_of_row W _ 2 _ _ _ hrow];rfl
 have f3:W.cell? ⟨B,3,none⟩=some (.int .i64 x.kind):=by rw[cell_of_row W _ 3 _ _ _ hrow];rfl
 have f4:W.cell? ⟨B,4,none⟩=some (.int .i64 x.file):=by rw[cell_of_row W _ 4 _ _ _ hrow];rfl
 have f5:W.cell? ⟨B,5,none⟩=some (.int .i64 x.off):=by rw[cell_of_row W _ 5 _ _ _ hrow];rfl
 refine bodyPost_ret (v:=.tuple #[x.enc,.bool b]) ?_ hd hR
 unfold Ar.enc
 simp[results,Tryz.results167,go_sem,h4,h5,f0,f1,f2,f3,f4,f5]
theorem Jn(w:World)(v:Value)(l:List Ar)(h:ArRd w v l)(p:Int)(hl:∀a∈l,a.yo)(hp:0≤p∧p<4096):
  Calls Tryz.prog 167 #[v,.int .i64 p] w fun e w'=>e=.returned (.tuple #[((yh l p).getD ⟨0,0,false,0,0,0⟩).enc,.bool (yh l p).isSome])∧Below w.heap.size w w':=by
 obtain⟨a,c,rfl,hc,hm⟩:=ArRd.fm h
 have H:=Lib.hid h
 have HL:=Lib.hid hl
 obtain⟨n,hn⟩:∃n,n=l.length:=⟨_,rfl⟩
 rw[←hn]at hc⊢ H
 have HN:=Lib.hid hn
 have hbig:n≤9223372036854775807:=by unfold maxLen at hm;omega
 clear hn h hl hm
 go_enter Tryz.func167,Tryz.ntmps167
 go_wp2_with fail
 obtain⟨W0,hW0⟩:∃W0,W0=w.alloc (.cells #[.int .i64 0,.int .i64 0,.bool false,.int .i64 0,.int .i64 0,.int .i64 0] 32):=⟨_,rfl⟩
 have hB0:Hid (Below w.heap.size w W0∧W0.heap.size=w.heap.size+1∧W0.heap[w.heap.size]?=some (.cells #[.int .i64 0,.int .i64 0,.bool false,.int .i64 0,.int .i64 0,.int .i64 0] 32 (0,0))):=by
  rw[hW0]
  exact⟨(Below.refl _ _).alloc (Nat.le_refl _) _,by simp,heap_alloc_new w _⟩
 rw[←hW0]
 clear hW0
 go_loopw [7,10] (fun _ i wr=>∃k:Nat,k≤n∧i=.int .i64 k∧Below W0.heap.size W0 wr∧yh l p=yh (l.drop k) p) (fun _ i _=>n-(intOf i).toNat)
 case atStart=>exact⟨0,by omega,rfl,Below.refl _ _,rfl⟩
 case round=>
  obtain⟨k,hk,rfl,hb,hlo⟩:=hrel
  have hblk:=(hb.block w.heap.size (by rw[hB0.out.2.1];omega)).trans hB0.out.2.2
  have hlt1:w.heap.size<wr.heap.size:=(Array.getElem?_eq_some_iff.1 hblk).1
  have HBLK:=Lib.hid hblk
  have HB:=Lib.hid (hB0.out.1.trans (hb.mono (by rw[hB0.out.2.1];omega)))
  have HB':=Lib.hid hb
  have HLo:=Lib.hid hlo
  clear hb hlo hblk
  by_cases hlt:k<n
  ·have hlt':(k:Int)<n:=by omega
   obtain⟨y,hy⟩:∃y,l[k]?=some y:=⟨_,List.getElem?_eq_getElem (by rw[←HN.out];exact hlt)⟩
   obtain⟨b,off,rfl⟩:=H.out.addr (by rw[←HN.out];omega)
   obtain⟨e0,e1,e2,e3,e4,e5⟩:=(H.out.below HB.out).cell hy
   have hs:=HL.out y (List.mem_of_getElem? hy)
   have hdr:Hid (yh (l.drop k) p=if y.from_≤p∧p-y.from_<y.pages then some y else yh (l.drop (k+1)) p):=by
    obtain⟨hj,rfl⟩:=List.getElem?_eq_some_iff.1 hy
    show _=_
    rw[List.drop_eq_getElem_cons hj]
    unfold yh
    rw[List.find?_cons]
    by_cases hc:(l[k]).from_≤p∧p-(l[k]).from_<(l[k]).pages
    ·rw[decide_eq_true hc,if_pos hc]
    ·rw[decide_eq_false hc,if_neg hc]
   obtain⟨f,pg,wr',kd,fi,o⟩:=y
   obtain⟨-,-,s3,s4,s5,s6,-⟩:=hs
   simp only at e0 e1 e2 e3 e4 e5 s3 s4 s5 s6 hdr
   have hw:IntKind.i64.wrap (p-f)=p-f:=by simp[IntKind.wrap,IntKind.bits,IntKind.signed];omega
   clear hy
   by_cases c1:f≤p
   ·by_cases c2:p-f<pg
    ·have e:yh l p=some ⟨f,pg,wr',kd,fi,o⟩:=by rw[HLo.out,hdr.out,if_pos ⟨c1,c2⟩]
     have f0:wr.cell? ⟨w.heap.size,0,none⟩=some (.int .i64 0):=by rw[cell_of_row wr _ 0 _ _ _ HBLK.out];rfl
     have f1:wr.cell? ⟨w.heap.size,1,none⟩=some (.int .i64 0):=by rw[cell_of_row wr _ 1 _ _ _ HBLK.out];rfl
     have f2:wr.cell? ⟨w.heap.size,2,none⟩=some (.bool false):=by rw[cell_of_row wr _ 2 _ _ _ HBLK.out];rfl
     have f3:wr.cell? ⟨w.heap.size,3,none⟩=some (.int .i64 0):=by rw[cell_of_row wr _ 3 _ _ _ HBLK.out];rfl
     have f4:wr.cell? ⟨w.heap.size,4,none⟩=some (.int .i64 0):=by rw[cell_of_row wr _ 4 _ _ _ HBLK.out];rfl
     have f5:wr.cell? ⟨w.heap.size,5,none⟩=some (.int .i64 0):=by rw[cell_of_row wr _ 5 _ _ _ HBLK.out];rfl
     have qf:∀i,wr.frozen? ⟨w.heap.size,i,none⟩=false:=fun i=>by simp[World.frozen?,HBLK.out]
     have q0:=qf 0
     have q1:=qf 1
     have q2:=qf 2
     have q3:=qf 3
     have q4:=qf 4
     have q5:=qf 5
     clear qf
     go_wp2_with fail
     have hr:=Z5 (k:=5) (Z5 (k:=4) (Z5 (k:=3) (Z5 (k:=2) (Z5 (k:=1) (Z5 (V:=[.int .i64 0,.int .i64 0,.bool false,.int .i64 0,.int .i64 0,.int .i64 0]) (k:=0) HBLK.out (.int .i64 f)) (.int .i64 pg)) (.bool wr')) (.int .i64 kd)) (.int .i64 fi)) (.int .i64 o)
     have hbs:=(((((HB.out.setCell (p:=⟨w.heap.size,0,none⟩) (Nat.le_refl _) (.int .i64 f)).setCell (p:=⟨w.heap.size,1,none⟩) (Nat.le_refl _) (.int .i64 pg)).setCell (p:=⟨w.heap.size,2,none⟩) (Nat.le_refl _) (.bool wr')).setCell (p:=⟨w.heap.size,3,none⟩) (Nat.le_refl _) (.int .i64 kd)).setCell (p:=⟨w.heap.size,4,none⟩) (Nat.le_refl _) (.int .i64 fi)).setCell (p:=⟨w.heap.size,5,none⟩) (Nat.le_refl _) (.int .i64 o)
     generalize (((((wr.setCell ⟨w.heap.size,0,none⟩ (.int .i64 f)).setCell ⟨w.heap.size,1,none⟩ (.int .i64 pg)).setCell ⟨w.heap.size,2,none⟩ (.bool wr')).setCell ⟨w.heap.size,3,none⟩ (.int .i64 kd)).setCell ⟨w.heap.size,4,none⟩ (.int .i64 fi)).setCell ⟨w.heap.size,5,none⟩ (.int .i64 o)=Z at hr hbs⊢
     refine zfg (x:=⟨f,pg,wr',kd,fi,o⟩) (b:=true) rfl rfl rfl ?_ ⟨by rw[e];rfl,hbs.alloc hbs.size _⟩
     exact(Below.heap_alloc Z _ w.heap.size (Array.getElem?_eq_some_iff.1 hr).1).trans hr
    ·go_wp2_with fail
     go_roundw
     case rel=>exact⟨k+1,by omega,by go_num,HB'.out.alloc HB'.out.size _,by rw[HLo.out,hdr.out,if_neg (fun h=>c2 h.2)]⟩
     case measure=>simp[intOf];omega
   ·go_wp2_with fail
    go_roundw
    case rel=>exact⟨k+1,by omega,by go_num,HB'.out.alloc HB'.out.size _,by rw[HLo.out,hdr.out,if_neg (fun h=>c1 h.1)]⟩
    case measure=>simp[intOf];omega
  ·have e:yh l p=none:=by
    rw[HLo.out,List.drop_of_length_le (by rw[←HN.out];omega)]
    rfl
   have f0:wr.cell? ⟨w.heap.size,0,none⟩=some (.int .i64 0):=by rw[cell_of_row wr _ 0 _ _ _ HBLK.out];rfl
   have f1:wr.cell? ⟨w.heap.size,1,none⟩=some (.int .i64 0):=by rw[cell_of_row wr _ 1 _ _ _ HBLK.out];rfl
   have f2:wr.cell? ⟨w.heap.size,2,none⟩=some (.bool false):=by rw[cell_of_row wr _ 2 _ _ _ HBLK.out];rfl
   have f3:wr.cell? ⟨w.heap.size,3,none⟩=some (.int .i64 0):=by rw[cell_of_row wr _ 3 _ _ _ HBLK.out];rfl
   have f4:wr.cell? ⟨w.heap.size,4,none⟩=some (.int .i64 0):=by rw[cell_of_row wr _ 4 _ _ _ HBLK.out];rfl
   have f5:wr.cell? ⟨w.heap.size,5,none⟩=some (.int .i64 0):=by rw[cell_of_row wr _ 5 _ _ _ HBLK.out];rfl
   have qf:∀i,wr.frozen? ⟨w.heap.size,i,none⟩=false:=fun i=>by simp[World.frozen?,HBLK.out]
   have q0:=qf 0
   have q1:=qf 1
   have q2:=qf 2
   have q3:=qf 3
   have q4:=qf 4
   have q5:=qf 5
   clear qf
   go_wp2_with fail
   have hr:=Z5 (k:=5) (Z5 (k:=4) (Z5 (k:=3) (Z5 (k:=2) (Z5 (k:=1) (Z5 (V:=[.int .i64 0,.int .i64 0,.bool false,.int .i64 0,.int .i64 0,.int .i64 0]) (k:=0) HBLK.out (.int .i64 0)) (.int .i64 0)) (.bool false)) (.int .i64 0)) (.int .i64 0)) (.int .i64 0)
   have hbs:=(((((HB.out.setCell (p:=⟨w.heap.size,0,none⟩) (Nat.le_refl _) (.int .i64 0)).setCell (p:=⟨w.heap.size,1,none⟩) (Nat.le_refl _) (.int .i64 0)).setCell (p:=⟨w.heap.size,2,none⟩) (Nat.le_refl _) (.bool false)).setCell (p:=⟨w.heap.size,3,none⟩) (Nat.le_refl _) (.int .i64 0)).setCell (p:=⟨w.heap.size,4,none⟩) (Nat.le_refl _) (.int .i64 0)).setCell (p:=⟨w.heap.size,5,none⟩) (Nat.le_refl _) (.int .i64 0)
   generalize (((((wr.setCell ⟨w.heap.size,0,none⟩ (.int .i64 0)).setCell ⟨w.heap.size,1,none⟩ (.int .i64 0)).setCell ⟨w.heap.size,2,none⟩ (.bool false)).setCell ⟨w.heap.size,3,none⟩ (.int .i64 0)).setCell ⟨w.heap.size,4,none⟩ (.int .i64 0)).setCell ⟨w.heap.size,5,none⟩ (.int .i64 0)=Z at hr hbs⊢
   exact zfg (x:=⟨0,0,false,0,0,0⟩) (b:=false) rfl rfl rfl hr ⟨by rw[e];rfl,hbs⟩
def qd(a:Ar)(lo hi:Int):List Ar:=
 let f:=max lo a.from_
 let e:=min hi (a.from_+a.pages)
 if e≤f then []else [⟨f,e-f,a.write,a.kind,a.file,if a.kind=1 then a.off else a.off+f-a.from_⟩]
theorem ArAt.one(w:World)(x:Ar):ArAt (w.alloc (.cells x.cells.toArray 32)) (.slice (some ⟨w.heap.size,0,none⟩) 1 1) [x]:=
 ⟨rfl,.inr ⟨w.heap.size,0,1,_,rfl,heap_alloc_new w _,Nat.le_refl _,by simp[maxLen],by simp[Ar.uu],fun j u hu=>by simpa[ar]using hu⟩⟩
theorem ArAt.Qa(w:World)(n:Nat)(hn:w.heap.size=n)(x:Ar){vs:Array Value}(hv:vs=x.cells.toArray):ArAt (w.alloc (.cells vs 32)) (.slice (some ⟨n,0,none⟩) 1 1) [x]:=by
 subst hv
 subst hn
 exact ArAt.one w x
theorem ArAt.two(w:World)(A B:Obj)(x:Ar){vs:Array Value}(hv:vs=x.cells.toArray):ArAt (((w.alloc A).alloc B).alloc (.cells vs 32)) (.slice (some ⟨w.heap.size+1+1,0,none⟩) 1 1) [x]:=by
 subst hv
 have:=ArAt.one ((w.alloc A).alloc B) x
 rwa[World.size_alloc,World.size_alloc]at this
set_option maxHeartbeats 8000000 in
theorem Q7(w:World)(a:Ar)(lo hi:Int)(hs:a.yo)(hlo:0≤lo∧lo≤4096)(hhi:0≤hi∧hi≤4096):
  Calls Tryz.prog 182 #[a.enc,.int .i64 lo,.int .i64 hi] w fun e w'=>∃v',e=.returned v'∧ArAt w' v' (qd a lo hi)∧Below w.heap.size w w'∧∀b,v'.ownBlock=some b→w.heap.size≤b:=by
 obtain⟨f,p,wr,k,fi,o⟩:=a
 obtain⟨s1,s2,s3,s4,s5,s6,s7⟩:=hs
 simp only at s1 s2 s3 s4 s5 s6 s7
 obtain⟨l0,l1⟩:=hlo
 obtain⟨h0,h1⟩:=hhi
 have so:0≤o∧o<16:=by omega
 obtain⟨o0,o1⟩:=so
 obtain⟨r,hr⟩:∃r,r=qd ⟨f,p,wr,k,fi,o⟩ lo hi:=⟨_,rfl⟩
 have HR:=Lib.hid hr
 rw[←hr]
 clear hr s7
 unfold Ar.enc
 simp only
 have w1:IntKind.i64.wrap (f+p)=f+p:=by simp[IntKind.wrap,IntKind.bits,IntKind.signed];omega
 by_cases c1:lo<f
 ·have d1:max lo f=f:=by omega
  by_cases c2:f+p<hi
  ·have d2:min hi (f+p)=(f+p):=by omega
   by_cases c3:(f+p)≤f
   ·exact absurd c3 (by omega)
   ·have c3':f<(f+p):=by omega
    have c3n:¬(f+p)≤f:=c3
    have w2:IntKind.i64.wrap ((f+p)-f)=(f+p)-f:=by simp[IntKind.wrap,IntKind.bits,IntKind.signed];omega
    have w3:IntKind.i64.wrap (o+f)=o+f:=by simp[IntKind.wrap,IntKind.bits,IntKind.signed];omega
    have w8:IntKind.i64.wrap o=o:=by simp[IntKind.wrap,IntKind.bits,IntKind.signed];omega
    have w9:IntKind.i64.wrap (0:Int)=0:=rfl
    by_cases ck:k=1
    ·have hrr:r=[⟨f,(f+p)-f,wr,k,fi,o⟩]:=by rw[HR.out];unfold qd;simp only[d1,d2];rw[if_neg c3,if_pos ck]
     have cb:(k != 1)=false:=by simpa using ck
     subst hrr
     clear HR d1 d2
     go_enter Tryz.func182,Tryz.ntmps182
     go_wp2_with fail
     go_ret
     exact⟨_,rfl,ArAt.two w _ _ _ rfl,(((Below.refl _ _).alloc (Nat.le_refl _) _).alloc (by simp) _).alloc (by simp;omega) _,by intro b hb;simp[Value.ownBlock]at hb;omega⟩
    ·have hrr:r=[⟨f,(f+p)-f,wr,k,fi,o⟩]:=by rw[HR.out];unfold qd;simp only[d1,d2];rw[if_neg c3,if_neg ck];rw[show o+f-f=o by omega]
     have cb:(k != 1)=true:=by simpa using ck
     subst hrr
     clear HR d1 d2
     go_enter Tryz.func182,Tryz.ntmps182
     go_wp2_with fail
     go_ret
     exact⟨_,rfl,ArAt.two w _ _ _ rfl,(((Below.refl _ _).alloc (Nat.le_refl _) _).alloc (by simp) _).alloc (by simp;omega) _,by intro b hb;simp[Value.ownBlock]at hb;omega⟩
  ·have d2:min hi (f+p)=hi:=by omega
   have c2':hi≤f+p:=by omega
   by_cases c3:hi≤f
   ·have hrr:r=[]:=by rw[HR.out];unfold qd;simp only[d1,d2];rw[if_pos c3]
    subst hrr
    clear HR
    go_enter Tryz.func182,Tryz.ntmps182
    go_wp2_with fail
    go_ret
    exact⟨_,rfl,ArAt.nil _,by repeat (first|exact Below.refl _ _|exact(Below.refl _ _).alloc (Nat.le_refl _) _|exact((Below.refl _ _).alloc (Nat.le_refl _) _).alloc (by simp) _),by simp[Value.ownBlock]⟩
   ·have c3':f<hi:=by omega
    have c3n:¬hi≤f:=c3
    have w2:IntKind.i64.wrap (hi-f)=hi-f:=by simp[IntKind.wrap,IntKind.bits,IntKind.signed];omega
    have w3:IntKind.i64.wrap (o+f)=o+f:=by simp[IntKind.wrap,IntKind.bits,IntKind.signed];omega
    have w8:IntKind.i64.wrap o=o:=by simp[IntKind.wrap,IntKind.bits,IntKind.signed];omega
    have w9:IntKind.i64.wrap (0:Int)=0:=rfl
    by_cases ck:k=1
    ·have hrr:r=[⟨f,hi-f,wr,k,fi,o⟩]:=by rw[HR.out];unfold qd;simp only[d1,d2];rw[if_neg c3,if_pos ck]
     have cb:(k != 1)=false:=by simpa using ck
     subst hrr
     clear HR d1 d2
     go_enter Tryz.func182,Tryz.ntmps182
     go_wp2_with fail
     go_ret
     exact⟨_,rfl,ArAt.two w _ _ _ rfl,(((Below.refl _ _).alloc (Nat.le_refl _) _).alloc (by simp) _).alloc (by simp;omega) _,by intro b hb;simp[Value.ownBlock]at hb;omega⟩
    ·have hrr:r=[⟨f,hi-f,wr,k,fi,o⟩]:=by rw[HR.out];unfold qd;simp only[d1,d2];rw[if_neg c3,if_neg ck];rw[show o+f-f=o by omega]
     have cb:(k != 1)=true:=by simpa using ck
     subst hrr
     clear HR d1 d2
     go_enter Tryz.func182,Tryz.ntmps182
     go_wp2_with fail
     go_ret
     exact⟨_,rfl,ArAt.two w _ _ _ rfl,(((Below.refl _ _).alloc (Nat.le_refl _) _).alloc (by simp) _).alloc (by simp;omega) _,by intro b hb;simp[Value.ownBlock]at hb;omega⟩
 ·have d1:max lo f=lo:=by omega
  have c1':f≤lo:=by omega
  by_cases c2:f+p<hi
  ·have d2:min hi (f+p)=(f+p):=by omega
   by_cases c3:(f+p)≤lo
   ·have hrr:r=[]:=by rw[HR.out];unfold qd;simp only[d1,d2];rw[if_pos c3]
    subst hrr
    clear HR
    go_enter Tryz.func182,Tryz.ntmps182
    go_wp2_with fail
    go_ret
    exact⟨_,rfl,ArAt.nil _,by repeat (first|exact Below.refl _ _|exact(Below.refl _ _).alloc (Nat.le_refl _) _|exact((Below.refl _ _).alloc (Nat.le_refl _) _).alloc (by simp) _),by simp[Value.ownBlock]⟩
   ·have c3':lo<(f+p):=by omega
    have c3n:¬(f+p)≤lo:=c3
    have w2:IntKind.i64.wrap ((f+p)-lo)=(f+p)-lo:=by simp[IntKind.wrap,IntKind.bits,IntKind.signed];omega
    have w3:IntKind.i64.wrap (o+lo)=o+lo:=by simp[IntKind.wrap,IntKind.bits,IntKind.signed];omega
    have w4:IntKind.i64.wrap (o+lo-f)=o+lo-f:=by simp[IntKind.wrap,IntKind.bits,IntKind.signed];omega
    have w5:IntKind.i64.wrap (lo-f)=lo-f:=by simp[IntKind.wrap,IntKind.bits,IntKind.signed];omega
    have w6:IntKind.i64.wrap (o+(lo-f))=o+(lo-f):=by simp[IntKind.wrap,IntKind.bits,IntKind.signed];omega
    have w7:o+(lo-f)=o+lo-f:=by omega
    by_cases ck:k=1
    ·have hrr:r=[⟨lo,(f+p)-lo,wr,k,fi,o⟩]:=by rw[HR.out];unfold qd;simp only[d1,d2];rw[if_neg c3,if_pos ck]
     have cb:(k != 1)=false:=by simpa using ck
     subst hrr
     clear HR d1 d2
     go_enter Tryz.func182,Tryz.ntmps182
     go_wp2_with fail
     go_ret
     exact⟨_,rfl,ArAt.two w _ _ _ rfl,(((Below.refl _ _).alloc (Nat.le_refl _) _).alloc (by simp) _).alloc (by simp;omega) _,by intro b hb;simp[Value.ownBlock]at hb;omega⟩
    ·have hrr:r=[⟨lo,(f+p)-lo,wr,k,fi,o+lo-f⟩]:=by rw[HR.out];unfold qd;simp only[d1,d2];rw[if_neg c3,if_neg ck]
     have cb:(k != 1)=true:=by simpa using ck
     subst hrr
     clear HR d1 d2
     go_enter Tryz.func182,Tryz.ntmps182
     go_wp2_with fail
     go_ret
     exact⟨_,rfl,ArAt.two w _ _ _ rfl,(((Below.refl _ _).alloc (Nat.le_refl _) _).alloc (by simp) _).alloc (by simp;omega) _,by intro b hb;simp[Value.ownBlock]at hb;omega⟩
  ·have d2:min hi (f+p)=hi:=by omega
   have c2':hi≤f+p:=by omega
   by_cases c3:hi≤lo
   ·have hrr:r=[]:=by rw[HR.out];unfold qd;simp only[d1,d2];rw[if_pos c3]
    subst hrr
    clear HR
    go_enter Tryz.func182,Tryz.ntmps182
    go_wp2_with fail
    go_ret
    exact⟨_,rfl,ArAt.nil _,by repeat (first|exact Below.refl _ _|exact(Below.refl _ _).alloc (Nat.le_refl _) _|exact((Below.refl _ _).alloc (Nat.le_refl _) _).alloc (by simp) _),by simp[Value.ownBlock]⟩
   ·have c3':lo<hi:=by omega
    have c3n:¬hi≤lo:=c3
    have w2:IntKind.i64.wrap (hi-lo)=hi-lo:=by simp[IntKind.wrap,IntKind.bits,IntKind.signed];omega
    have w3:IntKind.i64.wrap (o+lo)=o+lo:=by simp[IntKind.wrap,IntKind.bits,IntKind.signed];omega
    have w4:IntKind.i64.wrap (o+lo-f)=o+lo-f:=by simp[IntKind.wrap,IntKind.bits,IntKind.signed];omega
    have w5:IntKind.i64.wrap (lo-f)=lo-f:=by simp[IntKind.wrap,IntKind.bits,IntKind.signed];omega
    have w6:IntKind.i64.wrap (o+(lo-f))=o+(lo-f):=by simp[IntKind.wrap,IntKind.bits,IntKind.signed];omega
    have w7:o+(lo-f)=o+lo-f:=by omega
    by_cases ck:k=1
    ·have hrr:r=[⟨lo,hi-lo,wr,k,fi,o⟩]:=by rw[HR.out];unfold qd;simp only[d1,d2];rw[if_neg c3,if_pos ck]
     have cb:(k != 1)=false:=by simpa using ck
     subst hrr
     clear HR d1 d2
     go_enter Tryz.func182,Tryz.ntmps182
     go_wp2_with fail
     go_ret
     exact⟨_,rfl,ArAt.two w _ _ _ rfl,(((Below.refl _ _).alloc (Nat.le_refl _) _).alloc (by simp) _).alloc (by simp;omega) _,by intro b hb;simp[Value.ownBlock]at hb;omega⟩
    ·have hrr:r=[⟨lo,hi-lo,wr,k,fi,o+lo-f⟩]:=by rw[HR.out];unfold qd;simp only[d1,d2];rw[if_neg c3,if_neg ck]
     have cb:(k != 1)=true:=by simpa using ck
     subst hrr
     clear HR d1 d2
     go_enter Tryz.func182,Tryz.ntmps182
     go_wp2_with fail
     go_ret
     exact⟨_,rfl,ArAt.two w _ _ _ rfl,(((Below.refl _ _).alloc (Nat.le_refl _) _).alloc (by simp) _).alloc (by simp;omega) _,by intro b hb;simp[Value.ownBlock]at hb;omega⟩
structure Three(B:Nat)(w:World)(v1 v2 v3:Value)(l1 l2 l3:List Ar):Prop where
 a1:ArAt w v1 l1
 a2:ArAt w v2 l2
 a3:ArAt w v3 l3
 b1:∀b,v1.ownBlock=some b→B≤b
 b2:∀b,v2.ownBlock=some b→B≤b
 b3:∀b,v3.ownBlock=some b→B≤b
 n12:∀b,v1.ownBlock=some b→v2.ownBlock≠some b
 n13:∀b,v1.ownBlock=some b→v3.ownBlock≠some b
 n23:∀b,v2.ownBlock=some b→v3.ownBlock≠some b
theorem Three.start(B:Nat)(w:World):Three B w (.slice none 0 0) (.slice none 0 0) (.slice none 0 0) [] [] []:=
 ⟨ArAt.nil w,ArAt.nil w,ArAt.nil w,by simp[Value.ownBlock],by simp[Value.ownBlock],by simp[Value.ownBlock],by simp[Value.ownBlock],by simp[Value.ownBlock],by simp[Value.ownBlock]⟩
section
variable {B:Nat}{w w':World}{v1 v2 v3:Value}{l1 l2 l3:List Ar}
theorem Three.below(h:Three B w v1 v2 v3 l1 l2 l3)(hb:Below w.heap.size w w'):Three B w' v1 v2 v3 l1 l2 l3:=
 ⟨h.a1.below hb,h.a2.below hb,h.a3.below hb,h.b1,h.b2,h.b3,h.n12,h.n13,h.n23⟩
theorem Three.first(h:Three B w v1 v2 v3 l1 l2 l3)(hB:B≤w.heap.size){v':Value}{l':List Ar}(ha:ArAt w' v' l')(hg:w.grownBy w' v1.ownBlock)(ho:v'.ownBlock=v1.ownBlock∨v'.ownBlock=some w.heap.size):Three B w' v' v2 v3 l' l2 l3:=by
 have k2:∀b,v2.ownBlock=some b→b<w.heap.size∧v1.ownBlock≠some b:=fun b hb=>⟨SlAt.lt h.a2 b hb,fun e=>h.n12 b e hb⟩
 have k3:∀b,v3.ownBlock=some b→b<w.heap.size∧v1.ownBlock≠some b:=fun b hb=>⟨SlAt.lt h.a3 b hb,fun e=>h.n13 b e hb⟩
 refine⟨ha,h.a2.keep fun b hb=>hg.block b (k2 b hb).1 (Ne.symm (k2 b hb).2),h.a3.keep fun b hb=>hg.block b (k3 b hb).1 (Ne.symm (k3 b hb).2),fun b hb=>?_,h.b2,h.b3,fun b hb hb2=>?_,fun b hb hb3=>?_,h.n23⟩
 ·rcases ho with e|e
  ·exact h.b1 b (e.symm.trans hb)
  ·rw[e]at hb;cases hb;exact hB
 ·rcases ho with e|e
  ·exact h.n12 b (e.symm.trans hb) hb2
  ·rw[e]at hb;cases hb;exact Nat.lt_irrefl _ (k2 _ hb2).1
 ·rcases ho with e|e
  ·exact h.n13 b (e.symm.trans hb) hb3
  ·rw[e]at hb;cases hb;exact Nat.lt_irrefl _ (k3 _ hb3).1
theorem Three.turn(h:Three B w v1 v2 v3 l1 l2 l3):Three B w v2 v3 v1 l2 l3 l1:=
 ⟨h.a2,h.a3,h.a1,h.b2,h.b3,h.b1,h.n23,fun b hb hb'=>h.n12 b hb' hb,fun b hb hb'=>h.n13 b hb' hb⟩
end
section
variable {P:Program}{w:World}{e:TypeId}{size:Nat}
theorem Zm{ops:Array Oper}{rest:List Oper}{o:Oper}{a:Act}{Q:Exit→Act→World→Prop}(hgd:o.guard=none)(s x:Operand)(t:TypeId)
  (ho:o.op=.call {callee:=.builtin .append,args:=#[s,x],argTypes:=#[t,t]})
  (i:TypeInfo) (z:Value) (bytes:Nat) (ht:P.underlying t=some (.slice e)) (hi:P.info? e=some i) (hz:i.zero=some z)
  (hsize:i.size=size) (hby:i.bytes=bytes) (hzs:z.cells.size=size) (v:Value) (n:Nat) (xs:List Value) (hs:a.eval s=v) (hown:SlAt w e size v n xs)
  (sv:Value) (m:Nat) (news:List Value) (hx:a.eval x=sv) (hsrc:SlAt w e size sv m news) (h1:∀u∈news,u.oneCell'=true) (h63:n+m≤maxLen) (hbytes:(n+m)*bytes≤140737488355328)
  (h:∀v' w',SlAt w' e size v' (n+m) (xs++news)→w.grownBy w' v.ownBlock→(v'.ownBlock=v.ownBlock∨v'.ownBlock=some w.heap.size)→wpList P ops Q rest (a.put o.dst v') w'):wpList P ops Q (o::rest) a w:=by
 have hw:Region.wanted o (yielded ops a.tmps)=true:=by simp[Region.wanted,hgd]
 obtain⟨v',w',hr,h2,h3,h4⟩:=Xd (P:=P) t o.type i z bytes ht hi hz hsize hby hzs v n xs hown sv m news hsrc h1 h63 hbytes
 unfold wpList
 rw[if_pos hw]
 refine .inl ?_
 unfold Oper.wp execOp
 simp only[ho,resolve,invoke,builtin,Sem.run_bind,Sem.run_pure,Result.andThen_ok,List.map_toArray,List.map_cons,List.map_nil,hs,hx,hr]
 exact h v' w' h2 h3 h4
end
theorem je(a:Ar)(lo hi:Int):(qd a lo hi).length≤1:=by
 unfold qd
 simp only
 split<;>simp
def jh(l:List Ar)(lo hi:Int):List Ar:=l.flatMap fun a=>qd a lo hi
theorem Jw(l:List Ar)(lo hi:Int):(jh l lo hi).length≤l.length:=by
 induction l with
 | nil=>simp[jh]
 | cons x l ih=>
  have:=je x lo hi
  simp only[jh,List.flatMap_cons,List.length_append,List.length_cons]at ih⊢
  omega
theorem zgy(w:World)(v:Value)(l:List Ar)(h:ArAt w v l):
  Calls Tryz.prog 124 #[v] w fun e w'=>∃v',e=.returned v'∧ArAt w' v' l∧w'=w∧v'.ownBlock=v.ownBlock:=by
 rcases h.form with⟨rfl,rfl⟩|⟨b,off,c,rfl,hc,hm,hb⟩
 ·go_enter Tryz.func124,Tryz.ntmps124
  go_wp2_with fail
  go_ret
  exact⟨_,rfl,ArAt.nil w,rfl,rfl⟩
 ·go_enter Tryz.func124,Tryz.ntmps124
  go_wp2_with fail
  go_ret
  refine⟨_,rfl,?_,rfl,rfl⟩
  rcases h.2 with⟨e,_⟩|⟨b',off',c',arr,e,hg,hnc,hcm,hsz,hx⟩
  ·cases e
  ·cases e
   exact⟨h.1,.inr ⟨b,off,l.length,arr,rfl,hg,Nat.le_refl _,by omega,by omega,hx⟩⟩
def RightA(fr pg:Int):Prop:=0≤fr∧1≤pg∧fr<4096∧pg≤4096-fr
instance (fr pg:Int):Decidable (RightA fr pg):=inferInstanceAs (Decidable (_∧_∧_∧_))
end Go.Proofs.YtnhdmnijiphjjaaGreat
