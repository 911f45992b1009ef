/- Areas: Add. -/
import Derived.Test.YtnhdmnijiphjjaaGreatJFz9
import Derived.Deep.RegionHeldLaw
import Derived.Test.YtnhdmnijiphjjaaGreatJFz4
import Derived.Test.YtnhdmnijiphjjaaGreatJFz6
import Derived.Test.YtnhdmnijiphjjaaGreatJFz7
import Derived.Test.YtnhdmnijiphjjaaGreatJFz8
import Derived.Deep.MidRow
set_option linter.unusedVariables false
set_option linter.unusedSimpArgs false
set_option maxRecDepth 100000
set_option maxHeartbeats 2000000
namespace Go.Proofs.YtnhdmnijiphjjaaGreat
open Go Go.RowKit
def anyA(a:Ar)(l:List Ar):Bool:=l.any fun x=>Vv a x
theorem zkj (w : World) (v : Value) (l : List Ar) (h : ArRd w v l) (B : Nat) (a : Ar) (hB : B < w.heap.size) (h0 : w.cell? ⟨B, 0, none⟩ = some (.int .i64 a.from_)) (h1 : w.cell? ⟨B, 1, none⟩ = some (.int .i64 a.pages)) :
  Calls Tryz.prog 121 #[v, .func (.func 119) #[] #[.pointer (some ⟨B, 0, none⟩)]] w fun e w' => e = .returned (.bool (anyA a l)) ∧ Below w.heap.size w w' := J8 w v l h B a hB h0 h1
structure zov(w':World)(l:List Ar)(a:Ar)(v':Value)(x:Int):Prop where
 arg:¬a.xe→x=1∧v'=.slice none 0 0
 there:a.xe→anyA a l=true→x=3∧v'=.slice none 0 0
 full:a.xe→anyA a l=false→16≤l.length→x=4∧v'=.slice none 0 0
 done:a.xe→anyA a l=false→l.length<16→x=0∧∃l',ArAt w' v' l'∧l'.Perm (l++[a])∧l'.Pairwise (fun x y=>¬y.from_<x.from_)
theorem zm4 (w : World) (v : Value) (l : List Ar) (h : ArRd w v l) (a : Ar) (hwf : a.Wf) (hlen : l.length ≤ 100) :
    Calls Tryz.prog 63 #[v, a.enc] w fun e w' => ∃ v' x, e = .returned (.tuple #[v', .int .i64 x]) ∧ Below w.heap.size w w' ∧ (∀ b, v'.ownBlock = some b → w.heap.size ≤ b) ∧ zov w' l a v' x := by
  have hsw := Lib.hid (fun W => zg8 W a hwf)
  obtain ⟨av, cv, rfl, _, _⟩ := ArRd.fm h
  have H := Lib.hid h
  clear h hwf
  obtain ⟨s, hs⟩ : ∃ s, s = decide a.xe := ⟨_, rfl⟩
  have HS := Lib.hid hs
  obtain ⟨m, hm⟩ : ∃ m, m = anyA a l := ⟨_, rfl⟩
  have HM := Lib.hid hm
  rw [← hs] at hsw
  have hcf := Lib.hid (fun W B k1 k2 k3 k4 => zkj W (.slice av l.length cv) l k1 B a k2 k3 k4)
  rw [← hm] at hcf
  clear hs hm
  have hSA := Lib.hid (ArAt.zn2 w w.heap.size rfl a rfl)
  have hal : Hid (ar [a] = a.cells) := by show _ = _; simp [ar]
  obtain ⟨f, p, wt, k, fi, o⟩ := a
  unfold Ar.enc at hsw ⊢
  simp only at hsw hcf ⊢
  cases s
  · have hns : Hid (¬ Ar.xe ⟨f, p, wt, k, fi, o⟩) := by have := HS.out; show ¬ _; intro hh; rw [decide_eq_true hh] at this; cases this
    go_enter Tryz.func63, Tryz.ntmps63
    go_wp2_with fail
    refine (hsw.out _).mono ?_
    rintro e w1 ⟨rfl, b1⟩
    have B1 : Hid (Below w.heap.size w w1) := ((Below.refl _ _).alloc (Nat.le_refl _) _).trans (b1.mono (by simp))
    clear b1
    go_wp2_with fail
    exact bodyPost_ret (v := .tuple #[.slice none 0 0, .int .i64 1]) (by simp [results, Tryz.results63, go_sem]) rfl ⟨_, 1, rfl, B1.out, by simp [Value.ownBlock], ⟨fun _ => ⟨rfl, rfl⟩, fun h => absurd h hns.out, fun h => absurd h hns.out, fun h => absurd h hns.out⟩⟩
  · have hys : Hid (Ar.xe ⟨f, p, wt, k, fi, o⟩) := (of_decide_eq_true (p := Ar.xe ⟨f, p, wt, k, fi, o⟩) HS.out.symm)
    clear HS
    go_enter Tryz.func63, Tryz.ntmps63
    go_wp2_with fail
    refine (hsw.out _).mono ?_
    rintro e w1 ⟨rfl, b1⟩
    have B1 : Hid (Below w.heap.size w w1) := ((Below.refl _ _).alloc (Nat.le_refl _) _).trans (b1.mono (by simp))
    have K1 : Hid (w1.heap[w.heap.size]? = some (.cells #[.int .i64 f, .int .i64 p, .bool wt, .int .i64 k, .int .i64 fi, .int .i64 o] 32 (0, 0))) := (b1.block w.heap.size (by simp)).trans (heap_alloc_new w _)
    have S1 := Lib.hid (hSA.out.below b1)
    have q0 : w1.cell? ⟨w.heap.size, 0, none⟩ = some (.int .i64 f) := by rw [cell_of_row w1 _ 0 _ _ _ K1.out]; rfl
    have q1 : w1.cell? ⟨w.heap.size, 1, none⟩ = some (.int .i64 p) := by rw [cell_of_row w1 _ 1 _ _ _ K1.out]; rfl
    have H1 := Lib.hid (H.out.below B1.out)
    clear b1 hSA
    go_wp2_with fail
    refine (hcf.out w1 w.heap.size H1.out (Array.getElem?_eq_some_iff.1 K1.out).1 q0 q1).mono ?_
    rintro e w2 ⟨rfl, b2⟩
    have B2 := Lib.hid (B1.out.trans (b2.mono B1.out.size))
    have K2 := Lib.hid ((b2.block w.heap.size (Array.getElem?_eq_some_iff.1 K1.out).1).trans K1.out)
    have S2 := Lib.hid (S1.out.below b2)
    have H2 := Lib.hid (H1.out.below b2)
    clear b2 hcf q0 q1 H1 S1 K1 B1
    cases m
    · by_cases h16 : 16 ≤ l.length
      · have h16' : (16 : Int) ≤ l.length := by omega
        go_wp2_with fail
        exact bodyPost_ret (v := .tuple #[.slice none 0 0, .int .i64 4]) (by simp [results, Tryz.results63, go_sem]) rfl ⟨_, 4, rfl, B2.out, by simp [Value.ownBlock], ⟨fun h => absurd hys.out h, fun _ h => absurd (HM.out.trans h) (by simp), fun _ _ _ => ⟨rfl, rfl⟩, fun _ _ h => absurd h (by omega)⟩⟩
      · have h16' : ¬ (16 : Int) ≤ l.length := by omega
        go_wp2_with fail
        obtain ⟨i0, hi0, hz0, hs0, hb0⟩ := zbn
        obtain ⟨W, hW⟩ : ∃ W, W = w2.drew := ⟨_, rfl⟩
        have hd : w2.drew = W := hW.symm
        have HW : Hid (Below w.heap.size w W ∧ W.heap.size = w2.heap.size ∧ W.heap[w.heap.size]? = some (.cells #[.int .i64 f, .int .i64 p, .bool wt, .int .i64 k, .int .i64 fi, .int .i64 o] 32 (0, 0)) ∧ ArRd W (.slice av l.length cv) l) := by
          rw [hW]
          exact ⟨B2.out.drew, by simp, K2.out, H2.out.below (Below.refl _ _).drew⟩
        have HC : Hid (∀ X, Below W.heap.size W X → Calls Tryz.prog 109 #[.slice av l.length cv] X fun e w' => ∃ a c, e = .returned (.slice a l.length c) ∧ J7 W.heap.size w' 32 6 (.slice a l.length c) l.length (ar l) ∧ Below X.heap.size X w') := fun X hX => (zet X _ l (HW.out.2.2.2.below hX) (by omega)).mono fun e w' ⟨a, c, h1, h2, h3⟩ => ⟨a, c, h1, h2.low hX.size, h3⟩
        have HQ : Hid (∀ X, Below W.heap.size W X → X.cell? ⟨w.heap.size, 0, none⟩ = some (.int .i64 f) ∧ X.cell? ⟨w.heap.size, 1, none⟩ = some (.int .i64 p) ∧ X.cell? ⟨w.heap.size, 2, none⟩ = some (.bool wt) ∧ X.cell? ⟨w.heap.size, 3, none⟩ = some (.int .i64 k) ∧ X.cell? ⟨w.heap.size, 4, none⟩ = some (.int .i64 fi) ∧ X.cell? ⟨w.heap.size, 5, none⟩ = some (.int .i64 o)) := fun X hX => by
          have hX' := (hX.block w.heap.size (Array.getElem?_eq_some_iff.1 HW.out.2.2.1).1).trans HW.out.2.2.1
          refine ⟨?_, ?_, ?_, ?_, ?_, ?_⟩
          · rw [cell_of_row X _ 0 _ _ _ hX']; rfl
          · rw [cell_of_row X _ 1 _ _ _ hX']; rfl
          · rw [cell_of_row X _ 2 _ _ _ hX']; rfl
          · rw [cell_of_row X _ 3 _ _ _ hX']; rfl
          · rw [cell_of_row X _ 4 _ _ _ hX']; rfl
          · rw [cell_of_row X _ 5 _ _ _ hX']; rfl
        obtain ⟨p0, p1, p2, p3, p4, p5⟩ := HQ.out W (Below.refl _ _)
        clear hW H2 K2 S2
        go_region_held_law (fun W' => W'.cell? ⟨w.heap.size, 0, none⟩ = some (.int .i64 f) ∧ W'.cell? ⟨w.heap.size, 1, none⟩ = some (.int .i64 p) ∧ W'.cell? ⟨w.heap.size, 2, none⟩ = some (.bool wt) ∧ W'.cell? ⟨w.heap.size, 3, none⟩ = some (.int .i64 k) ∧ W'.cell? ⟨w.heap.size, 4, none⟩ = some (.int .i64 fi) ∧ W'.cell? ⟨w.heap.size, 5, none⟩ = some (.int .i64 o)) (go_keep) (first
          | (go_at_call 109
             refine (HC.out _ (by first | exact Below.refl _ _ | exact (Below.refl _ _).alloc (Nat.le_refl _) _)).mono ?_
             rintro e w3 ⟨a3, c3, rfl, hp3, b3⟩
             have BW3 : Hid (Below W.heap.size W w3) := by first | exact b3 | exact ((Below.refl W.heap.size W).alloc (Nat.le_refl _) _).trans (b3.mono (by simp))
             have P3 := Lib.hid hp3
             have B3 := Lib.hid b3
             obtain ⟨r0, r1, r2, r3, r4, r5⟩ := HQ.out w3 BW3.out
             clear hp3 b3)
          | (refine Qx (B := W.heap.size) (by first | exact BW3.out.size | exact Nat.le_trans BW3.out.size (by simp)) rfl (.tmp 22) (.tmp 24) 104 rfl i0 _ 48 Tryz.underlying104 hi0 hz0 hs0 hb0 rfl (.slice a3 l.length c3) l.length (ar l) (by simp [Act.eval]) (by first | exact P3.out | exact P3.out.below ((Below.refl _ _).alloc (Nat.le_refl _) _)) _ 1 (ar [⟨f, p, wt, k, fi, o⟩]) (by simp [Act.eval]; rfl) (by first | exact (ArAt.zn2 w3 _ rfl ⟨f, p, wt, k, fi, o⟩ rfl).rd | exact ((ArAt.zn2 W _ rfl ⟨f, p, wt, k, fi, o⟩ rfl).below B3.out).rd) (by omega) (zjx _) (by simp only [maxLen]; omega) (by omega) ?_
             intro v4 w4 hs4 hg4 ho4
             have BW4 : Hid (Below W.heap.size W w4) := by first | exact BW3.out.trans hg4 | exact (BW3.out.alloc BW3.out.size _).trans hg4
             have O4 : Hid (∀ b, v4.ownBlock = some b → W.heap.size ≤ b) := ho4
             obtain ⟨b4, off4, c4, rfl⟩ : ∃ b off c, v4 = .slice (some ⟨b, off, none⟩) (l.length + 1) c := by
               rcases SlAt.form hs4 with ⟨a4, c4, e, _, _⟩
               rcases hs4.2 with ⟨_, e2⟩ | ⟨b, off, c, arr, e2, _⟩
               · simp at e2
               · exact ⟨b, off, c, e2⟩
             have P4 : Hid (ArAt w4 (.slice (some ⟨b4, off4, none⟩) (l ++ [(⟨f, p, wt, k, fi, o⟩ : Ar)]).length c4) (l ++ [(⟨f, p, wt, k, fi, o⟩ : Ar)])) := by
               show SlAt _ _ _ _ _ _
               rw [List.length_append, zjz]
               exact hs4
             obtain ⟨z0, z1, z2, z3, z4, z5⟩ := HQ.out w4 BW4.out
             clear hs4 hg4 ho4 P3 B3 BW3 r0 r1 r2 r3 r4 r5))
        all_goals go_wp2_with fail
        all_goals (
          have hS := zg9 w4 b4 off4 c4 (l ++ [(⟨f, p, wt, k, fi, o⟩ : Ar)]) P4.out (by simp; omega)
          rw [List.length_append] at hS
          refine hS.mono ?_
          rintro e w5 ⟨rfl, l', hperm, hsort, hp5, t5⟩
          have B5 : Hid (Below w.heap.size w w5) := by
            have h1 := HW.out.1.trans (BW4.out.mono HW.out.1.size)
            have h2 : w.heap.size ≤ b4 := Nat.le_trans HW.out.1.size (O4.out b4 rfl)
            exact Touch.from h1 t5 (Nat.le_trans HW.out.1.size BW4.out.size) (fun b hb => by simp at hb; omega)
          have P5 := Lib.hid hp5
          have Q5 := Lib.hid (And.intro hperm hsort)
          clear hS hperm hsort hp5 t5 z0 z1 z2 z3 z4 z5 p0 p1 p2 p3 p4 p5
          go_wp2_with fail
          refine (zhh w5 _ l' P5.out).mono ?_
          rintro e w6 ⟨v6, rfl, hp6, rfl, ho6⟩
          have P6 := Lib.hid hp6
          have O6 := Lib.hid ho6
          clear hp6 ho6
          go_wp2_with fail
          exact bodyPost_ret (v := .tuple #[v6, .int .i64 0]) (by simp [results, Tryz.results63, go_sem]) rfl ⟨_, 0, rfl, B5.out, fun b hb => Nat.le_trans HW.out.1.size (O4.out b (by rw [← hb, O6.out]; rfl)), ⟨fun h => absurd hys.out h, fun _ h => absurd (HM.out.trans h) (by simp), fun _ _ h => absurd h h16, fun _ _ _ => ⟨rfl, l', P6.out, Q5.out.1, Q5.out.2.imp fun h => by omega⟩⟩⟩)
    · go_wp2_with fail
      exact bodyPost_ret (v := .tuple #[.slice none 0 0, .int .i64 3]) (by simp [results, Tryz.results63, go_sem]) rfl ⟨_, 3, rfl, B2.out, by simp [Value.ownBlock], ⟨fun h => absurd hys.out h, fun _ _ => ⟨rfl, rfl⟩, fun _ h => absurd (HM.out.trans h) (by simp), fun _ h => absurd (HM.out.trans h) (by simp)⟩⟩
structure yg where
 T:Zx
 A:List Ar
 Q:List (Int×Int)
structure za where
 R:RamS
 P:zo
 D:zw
 B:Int→List (Int×Int)
 CL:zbv
 CR:zdm
 S:List (List (Int×Int))
 T:Nat→Option yg
structure Pq where
 tp:Nat
 ap:Nat
 qp:Nat
 qc:Nat
structure Sq where
 sp:Nat
 rp:Nat
 rb:Nat
 pp:Nat
 fs:Nat
 fb:Nat
 dp:Nat
 bp:Nat
 bm:Nat
 cp:Nat
 c1:Nat
 c2:Nat
 wp:Nat
 pm:Nat
 U:Nat→Pq
def Sq.rq(q:Sq)(n:Nat):Rq:=⟨q.rp,q.rb,q.pp,q.fs,q.fb,(q.U n).tp,10+n⟩
def ptrV(b:Nat):Value:=.pointer (some ⟨b,0,none⟩)
def Z6(q:Sq):Nat→Value
 | 0=>ptrV q.rp
 | 1=>ptrV q.dp
 | 2=>ptrV q.pp
 | 3=>ptrV q.bp
 | 4=>ptrV q.cp
 | 5=>ptrV q.wp
 | _=>.map (some q.pm)
def Yi(t s:Nat)(av:Value):Nat→Value
 | 0=>ptrV t
 | 1=>av
 | _=>ptrV s
def KF(f:Int):Prop:=0≤f∧f<1024
structure Uc(w:World)(tag:Nat→Nat)(q:Sq)(n:Nat)(pr:yg):Prop where
 tree:Yx w (fun b=>tag b=10+n) (q.U n).tp q.rp q.pp pr.T
 own:tag (q.U n).ap=20+n
 row:∃av,Row w (q.U n).ap 3 (Yi (q.U n).tp (q.U n).qp av)∧ArAt w av pr.A∧∀b,av.ownBlock=some b→tag b=30+n
 sigs:QAt w (q.U n).qp (q.U n).qc 16 pr.Q
 qo:tag (q.U n).qp=40+n∧tag (q.U n).qc=40+n
def za0(w:World)(tag:Nat→Nat)(p m:Nat)(L:Int→List (Int×Int)):Prop:=∃S V,ut KF w p m S V L∧∀b∈S,tag b=4
def zax(w:World)(tag:Nat→Nat)(p:Nat)(L:List (List (Int×Int))):Prop:=∃S V,ji w p S V L∧∀b∈S,tag b=6
def Uy(w:World)(tag:Nat→Nat)(p m1 m2:Nat)(l:zbv)(r:zdm):Prop:=x8 w p m1 m2 l r∧tag p=5∧tag m1=5∧tag m2=5
def Js(w:World)(q:Sq)(T:Nat→Option yg):Prop:=
 ∃PV:List (Int×Value),MapAt w q.pm xw id PV∧(PV.map (·.1)).Nodup∧(∀y∈PV,0≤y.1∧y.1<8)∧∀n:Nat,n<8→getL PV (n:Int)=(T n).map fun _=>ptrV (q.U n).ap
structure zb(w:World)(tag:Nat→Nat)(q:Sq)(x:za):Prop where
 so:tag q.sp=8
 row:Row w q.sp 7 (Z6 q)
 ram:qi w (fun b=>tag b=1) q.rp q.rb x.R
 pool:yh w (fun b=>tag b=2) q.pp q.fs q.fb x.P
 disk:jr w (fun b=>tag b=3) q.dp x.D
 back:za0 w tag q.bp q.bm x.B
 cache:Uy w tag q.cp q.c1 q.c2 x.CL x.CR
 swap:zax w tag q.wp x.S
 po:tag q.pm=7
 map:Js w q x.T
 procs:∀n pr,n<8→x.T n=some pr→Uc w tag q n pr
 out:∀n,8≤n→x.T n=none
section
variable {C:Nat→Prop}{w w':World}{tag tag':Nat→Nat}{q:Sq}{x x':za}
theorem ut.zhs{K:Int→Prop}{w:World}{p m:Nat}{S:List Nat}{V:List (Int×Value)}{L:Int→List (Int×Int)}(h:ut K w p m S V L)(f:Int)(b:Nat)(hb:(jv V f).ownBlock=some b):b<w.heap.size:=SlAt.lt (h.at_ f) b hb
theorem za0.step{p m:Nat}{L:Int→List (Int×Int)}(h:za0 w tag p m L)(s:Step C tag w tag' w')(hc:¬C 4):za0 w' tag' p m L:=by
 obtain⟨S,V,h,ht⟩:=h
 have k:=s.keeps hc
 obtain⟨p1,p2,_⟩:=h.ps
 refine⟨p::m::(V.flatMap fun y=>(jv V y.1).ownBlock.toList),V,?_,?_⟩
 ·refine⟨(World.cell?_of_block (w:=w) (k p p1 (ht p h.pin)).2).trans h.c0,h.map.keep (k m p2 (ht m h.min)).2,fun f=>(h.at_ f).keep fun b hb=>(k b (h.zhs f b hb) (ht b (h.own f b hb).1)).2,fun f b hb=>⟨?_,(h.own f b hb).2⟩,h.inj,List.mem_cons_self ..,List.mem_cons_of_mem _ (List.mem_cons_self ..),h.nd,h.keys⟩
  refine List.mem_cons_of_mem _ (List.mem_cons_of_mem _ ?_)
  cases hg:getL V f with
  | none=>
   unfold jv at hb
   rw[hg]at hb
   simp[Value.ownBlock]at hb
  | some v=>exact List.mem_flatMap.2 ⟨(f,v),Yj hg,by rw[hb];simp⟩
 ·intro b hb
  rcases List.mem_cons.1 hb with rfl|hb
  ·exact(k b p1 (ht b h.pin)).1
  ·rcases List.mem_cons.1 hb with rfl|hb
   ·exact(k b p2 (ht b h.min)).1
   ·obtain⟨y,_,hy⟩:=List.mem_flatMap.1 hb
    have hy:(jv V y.1).ownBlock=some b:=by simpa using hy
    exact(k b (h.zhs _ b hy) (ht b (h.own _ b hy).1)).1
theorem zax.step{p:Nat}{L:List (List (Int×Int))}(h:zax w tag p L)(s:Step C tag w tag' w')(hc:¬C 6):zax w' tag' p L:=by
 obtain⟨S,V,h,ht⟩:=h
 have k:=s.keeps hc
 have vlt:∀(i:Nat) (v:Value) (b:Nat),V[i]?=some v→v.ownBlock=some b→b<w.heap.size:=fun i v b hv hb=>by
  have hi:i<V.length:=(List.getElem?_eq_some_iff.1 hv).1
  have hl:i<L.length:=by rw[h.lenL,←h.lenV];exact hi
  exact SlAt.lt (h.at_ i v L[i] hv (List.getElem?_eq_getElem hl)) b hb
 obtain⟨T,hblk⟩:=h.blk
 have hpl:=(Array.getElem?_eq_some_iff.1 hblk).1
 refine⟨p::(V.flatMap fun v=>v.ownBlock.toList),V,?_,?_⟩
 ·refine⟨⟨T,(k p hpl (ht p h.pin)).2.trans hblk⟩,h.lenV,h.lenL,fun i v l hv hl=>(h.at_ i v l hv hl).keep fun b hb=>(k b (vlt i v b hv hb) (ht b (h.own i v b hv hb).1)).2,fun i v b hv hb=>⟨List.mem_cons_of_mem _ ?_,(h.own i v b hv hb).2⟩,h.inj,List.mem_cons_self ..⟩
  exact List.mem_flatMap.2 ⟨v,List.mem_of_getElem? hv,by rw[hb];simp⟩
 ·intro b hb
  rcases List.mem_cons.1 hb with rfl|hb
  ·exact(k b hpl (ht b h.pin)).1
  ·obtain⟨v,hv,hy⟩:=List.mem_flatMap.1 hb
   obtain⟨i,hi,rfl⟩:=List.getElem_of_mem hv
   have hy:V[i].ownBlock=some b:=by simpa using hy
   have hv':V[i]?=some V[i]:=List.getElem?_eq_getElem hi
   exact(k b (vlt i _ b hv' hy) (ht b (h.own i _ b hv' hy).1)).1
theorem Uy.step{p m1 m2:Nat}{l:zbv}{r:zdm}(h:Uy w tag p m1 m2 l r)(s:Step C tag w tag' w')(hc:¬C 5):Uy w' tag' p m1 m2 l r:=by
 obtain⟨h,t1,t2,t3⟩:=h
 have k:=s.keeps hc
 obtain⟨p1,p2,p3,_⟩:=h.ps
 exact⟨h.keep fun b hb=>by rcases hb with rfl|rfl|rfl<;>exact(k _ (by assumption) (by assumption)).2,(k _ p1 t1).1,(k _ p2 t2).1,(k _ p3 t3).1⟩
theorem Js.keep{T T':Nat→Option yg}(h:Js w q T)(hb:w'.heap[q.pm]?=w.heap[q.pm]?)(hT:∀n,n<8→(T' n).isSome=(T n).isSome):Js w' q T':=by
 obtain⟨PV,h1,h2,h3,h4⟩:=h
 refine⟨PV,h1.keep hb,h2,h3,fun n hn=>?_⟩
 rw[h4 n hn]
 have:=hT n hn
 cases e:T n<;>cases e':T' n<;>rw[e,e']at this<;>first|rfl|cases this
theorem Uc.step{n:Nat}{pr:yg}(h:Uc w tag q n pr)(s:Step C tag w tag' w')(c1:¬C (10+n))(c2:¬C (20+n))(c3:¬C (30+n))(c4:¬C (40+n)):Uc w' tag' q n pr:=by
 obtain⟨h1,h2,⟨av,r1,r2,r3⟩,h4,h5,h6⟩:=h
 have ql:=h4.lt
 have k4:=s.keeps c4
 refine⟨h1.loc (s.keeps c1),(s.keeps c2 _ r1.lt h2).1,⟨av,r1.keep (s.keeps c2 _ r1.lt h2).2,SlAt.keep r2 fun b hb=>(s.keeps c3 b (SlAt.lt r2 b hb) (r3 b hb)).2,fun b hb=>(s.keeps c3 b (SlAt.lt r2 b hb) (r3 b hb)).1⟩,h4.keep fun b hb=>?_,(k4 _ ql.1 h5).1,(k4 _ ql.2.1 h6).1⟩
 rcases hb with rfl|rfl
 ·exact(k4 _ ql.1 h5).2
 ·exact(k4 _ ql.2.1 h6).2
theorem Uc.tree'{n:Nat}{pr:yg}{T:Zx}(h:Uc w tag q n pr)(s:Step C tag w tag' w')(ht:Yx w' (fun b=>tag' b=10+n) (q.U n).tp q.rp q.pp T)(c2:¬C (20+n))(c3:¬C (30+n))(c4:¬C (40+n)):Uc w' tag' q n ⟨T,pr.A,pr.Q⟩:=by
 obtain⟨h1,h2,⟨av,r1,r2,r3⟩,h4,h5,h6⟩:=h
 have ql:=h4.lt
 have k4:=s.keeps c4
 refine⟨ht,(s.keeps c2 _ r1.lt h2).1,⟨av,r1.keep (s.keeps c2 _ r1.lt h2).2,SlAt.keep r2 fun b hb=>(s.keeps c3 b (SlAt.lt r2 b hb) (r3 b hb)).2,fun b hb=>(s.keeps c3 b (SlAt.lt r2 b hb) (r3 b hb)).1⟩,h4.keep fun b hb=>?_,(k4 _ ql.1 h5).1,(k4 _ ql.2.1 h6).1⟩
 rcases hb with rfl|rfl
 ·exact(k4 _ ql.1 h5).2
 ·exact(k4 _ ql.2.1 h6).2
theorem zb.turn(h:zb w tag q x)(s:Step C tag w tag' w')(c8:¬C 8)(c7:¬C 7)(hT:∀n,n<8→(x'.T n).isSome=(x.T n).isSome)(hout:∀n,8≤n→x'.T n=none)
  (hR:(¬C 1∧x'.R=x.R)∨qi w' (fun b=>tag' b=1) q.rp q.rb x'.R) (hP:(¬C 2∧x'.P=x.P)∨yh w' (fun b=>tag' b=2) q.pp q.fs q.fb x'.P) (hD:(¬C 3∧x'.D=x.D)∨jr w' (fun b=>tag' b=3) q.dp x'.D)
  (hB:(¬C 4∧x'.B=x.B)∨za0 w' tag' q.bp q.bm x'.B) (hC:(¬C 5∧x'.CL=x.CL∧x'.CR=x.CR)∨Uy w' tag' q.cp q.c1 q.c2 x'.CL x'.CR) (hS:(¬C 6∧x'.S=x.S)∨zax w' tag' q.wp x'.S)
  (hp:∀n pr,n<8→x'.T n=some pr→((¬C (10+n)∧¬C (20+n)∧¬C (30+n)∧¬C (40+n))∧x.T n=some pr)∨Uc w' tag' q n pr):zb w' tag' q x' where
 so:=(s.keeps c8 _ h.row.lt h.so).1
 row:=h.row.keep (s.keeps c8 _ h.row.lt h.so).2
 ram:=hR.elim (fun⟨c,e⟩=>by rw[e];exact h.ram.loc (s.keeps c)) id
 pool:=hP.elim (fun⟨c,e⟩=>by rw[e];exact h.pool.loc (s.keeps c)) id
 disk:=hD.elim (fun⟨c,e⟩=>by rw[e];exact h.disk.loc (s.keeps c)) id
 back:=hB.elim (fun⟨c,e⟩=>by rw[e];exact h.back.step s c) id
 cache:=hC.elim (fun⟨c,e,e'⟩=>by rw[e,e'];exact h.cache.step s c) id
 swap:=hS.elim (fun⟨c,e⟩=>by rw[e];exact h.swap.step s c) id
 po:=by
  obtain⟨PV,m,_⟩:=h.map
  exact(s.keeps c7 _ m.lt h.po).1
 map:=by
  obtain⟨PV,m,_⟩:=h.map
  exact h.map.keep (s.keeps c7 _ m.lt h.po).2 hT
 procs:=fun n pr hn hx=>(hp n pr hn hx).elim (fun⟨⟨a,b,c,d⟩,e⟩=>(h.procs n pr hn e).step s a b c d) id
 out:=hout
theorem zb.step(h:zb w tag q x)(s:Step (fun _=>False) tag w tag' w'):zb w' tag' q x:=
 h.turn s id id (fun _ _=>rfl) h.out (.inl ⟨id,rfl⟩) (.inl ⟨id,rfl⟩) (.inl ⟨id,rfl⟩) (.inl ⟨id,rfl⟩) (.inl ⟨id,rfl,rfl⟩) (.inl ⟨id,rfl⟩) fun _ _ _ hx=>.inl ⟨⟨id,id,id,id⟩,hx⟩
theorem zb.below(h:zb w tag q x)(hb:Below w.heap.size w w'):zb w' tag q x:=h.step (Step.of_below hb)
theorem zb.rpt(h:zb w tag q x){n:Nat}{pr:yg}(hn:n<8)(hp:x.T n=some pr):y9 w tag (q.rq n) ⟨x.R,x.P,pr.T⟩:=⟨h.ram,h.pool,(h.procs n pr hn hp).tree,by show 10≤10+n;omega⟩
def za.put(x:za)(n:Nat)(pr:yg):za:={x with T:=fun m=>if m=n then some pr else x.T m}
def za.yu(x:za)(n:Nat)(pr:yg)(y:RPT):za:={x with R:=y.R,P:=y.P,T:=fun m=>if m=n then some ⟨y.T,pr.A,pr.Q⟩else x.T m}
theorem zb.zn3(h:zb w tag q x){n:Nat}{pr:yg}(hn:n<8)(hp:x.T n=some pr){y:RPT}(s:Step (C3 (10+n)) tag w tag' w')(hy:y9 w' tag' (q.rq n) y):zb w' tag' q (x.yu n pr y):=by
 have c:∀k,k≠1→k≠2→k≠10+n→¬C3 (10+n) k:=fun k a b d=>by unfold C3;omega
 refine h.turn s (c 8 (by omega) (by omega) (by omega)) (c 7 (by omega) (by omega) (by omega)) (fun m hm=>?_) (fun m hm=>?_) (.inr hy.ram) (.inr hy.pool) (.inl ⟨c 3 (by omega) (by omega) (by omega),rfl⟩) (.inl ⟨c 4 (by omega) (by omega) (by omega),rfl⟩) (.inl ⟨c 5 (by omega) (by omega) (by omega),rfl,rfl⟩) (.inl ⟨c 6 (by omega) (by omega) (by omega),rfl⟩) fun m pm hm hx0=>?_
 ·show(if m=n then _ else _:Option yg).isSome=_
  split
  ·rename_i e;rw[e,hp];rfl
  ·rfl
 ·show(if m=n then _ else _:Option yg)=_
  rw[if_neg (by omega)]
  exact h.out m hm
 ·have hx:(if m=n then some ⟨y.T,pr.A,pr.Q⟩else x.T m:Option yg)=some pm:=hx0
  clear hx0
  by_cases e:m=n
  ·rw[if_pos e]at hx
   subst e
   cases hx
   exact .inr ((h.procs m pr hm hp).tree' s hy.tree (c _ (by omega) (by omega) (by omega)) (c _ (by omega) (by omega) (by omega)) (c _ (by omega) (by omega) (by omega)))
  ·rw[if_neg e]at hx
   exact .inl ⟨⟨c _ (by omega) (by omega) (by omega),c _ (by omega) (by omega) (by omega),c _ (by omega) (by omega) (by omega),c _ (by omega) (by omega) (by omega)⟩,hx⟩
end
section
variable {w:World}{tag:Nat→Nat}{q:Sq}{x:za}
theorem zby(w:World):(zeroValue 101).run Tryz.prog w=.ok (.pointer none) w:=by kernel_rfl
def Ye(q:Sq)(x:za)(n:Int):Value:=.tuple #[if(x.T n.toNat).isSome∧0≤n then ptrV (q.U n.toNat).ap else .pointer none,.bool (decide ((x.T n.toNat).isSome∧0≤n))]
theorem zb.look(h:zb w tag q x)(n:Int):(Instr.lookup 53 (.map (some q.pm)) (.int .i64 n) true).run Tryz.prog w=.ok (Ye q x n) w:=by
 obtain⟨PV,m,nd,kb,hg⟩:=h.map
 have key:getL PV n=if(x.T n.toNat).isSome∧0≤n then some (ptrV (q.U n.toNat).ap)else none:=by
  by_cases h0:0≤n∧n<8
  ·have e:=hg n.toNat (by omega)
   rw[show((n.toNat:Nat):Int)=n by omega]at e
   rw[e]
   cases ht:x.T n.toNat with
   | none=>simp
   | some pr=>simp[h0.1]
  ·have e:getL PV n=none:=zcz fun hm=>by
    obtain⟨y,hy,rfl⟩:=List.mem_map.1 hm
    exact h0 (kb y hy)
   rw[e]
   by_cases h1:0≤n
   ·have:x.T n.toNat=none:=h.out _ (by omega)
    simp[this]
   ·simp[h1]
 have hl:=jm (T:=53) Uw Tryz.underlying53 (.pointer none) zby m n true
 rw[key]at hl
 unfold Ye
 refine hl.trans ?_
 by_cases hc:(x.T n.toNat).isSome∧0≤n
 ·rw[if_pos hc,if_pos hc,decide_eq_true hc];rfl
 ·rw[if_neg hc,if_neg hc,decide_eq_false hc];rfl
theorem Za(h:zb w tag q x)(n:Int):Calls Tryz.prog 62 #[ptrV q.sp,.int .i64 n] w fun e w'=>e=.returned (Ye q x n)∧w'=w:=by
 have hl:=h.look n
 have c:=h.row.cell (i:=6) (by omega)
 dsimp only[Z6]at c
 obtain⟨v,hv⟩:∃v,(if(x.T n.toNat).isSome∧0≤n then ptrV (q.U n.toNat).ap else .pointer none)=v:=⟨_,rfl⟩
 obtain⟨b,hb⟩:∃b,decide ((x.T n.toNat).isSome∧0≤n)=b:=⟨_,rfl⟩
 have ev:Ye q x n=.tuple #[v,.bool b]:=by unfold Ye;rw[hv,hb]
 rw[ev]at hl⊢
 clear h hv hb ev
 unfold ptrV
 go_enter Tryz.func62,Tryz.ntmps62
 go_wp2_with fail
 exact bodyPost_ret (v:=.tuple #[v,.bool b]) (by simp[results,Tryz.results62,go_sem]) rfl ⟨rfl,rfl⟩
def za.room(x:za)(n:Int):Nat:=if n<0∨8≤n then 1 else if(x.T n.toNat).isSome then 3 else 0
theorem zcc(h:zb w tag q x)(n:Int):Calls Tryz.prog 59 #[ptrV q.sp,.int .i64 n] w fun e w'=>e=.returned (.int .i64 (x.room n))∧w'=w:=by
 have F:=Lib.hid (Za h n)
 obtain⟨v,hv⟩:∃v,(if(x.T n.toNat).isSome∧0≤n then ptrV (q.U n.toNat).ap else .pointer none)=v:=⟨_,rfl⟩
 obtain⟨b,hb⟩:∃b,decide ((x.T n.toNat).isSome∧0≤n)=b:=⟨_,rfl⟩
 have ev:Ye q x n=.tuple #[v,.bool b]:=by unfold Ye;rw[hv,hb]
 rw[ev]at F
 have HR:Hid (x.room n=if n<0∨8≤n then 1 else if b=true then 3 else 0):=by
  unfold za.room
  by_cases h0:n<0∨8≤n
  ·rw[if_pos h0,if_pos h0]
   trivial
  ·rw[if_neg h0,if_neg h0,←hb]
   have h3:0≤n:=by omega
   cases hs:(x.T n.toNat).isSome with
   | true=>rw[if_pos rfl,if_pos (decide_eq_true ⟨rfl,h3⟩)];trivial
   | false=>rw[if_neg (by simp),if_neg (by simp)];trivial
 generalize x.room n=r at HR⊢
 clear h hv hb ev
 unfold ptrV at F⊢
 go_enter Tryz.func59,Tryz.ntmps59
 go_wp2_with fail
 refine F.out.mono ?_
 rintro e u ⟨rfl,hu⟩
 have hu:=hu.symm
 subst hu
 clear F
 by_cases h1:n<0
 ·go_wp2_with fail
  go_ret
  rw[HR.out,if_pos (.inl h1)]
  exact⟨rfl,rfl⟩
 ·by_cases h2:8≤n
  ·go_wp2_with fail
   go_ret
   rw[HR.out,if_pos (.inr h2)]
   exact⟨rfl,rfl⟩
  ·cases b with
   | true=>
    go_wp2_with fail
    go_ret
    rw[HR.out,if_neg (by omega),if_pos trivial]
    exact⟨rfl,rfl⟩
   | false=>
    go_wp2_with fail
    go_ret
    rw[HR.out,if_neg (by omega),if_neg (by simp)]
    exact⟨rfl,rfl⟩
end
section
variable {w w':World}{tag:Nat→Nat}{q:Sq}{x:za}
theorem zb.queue(h:zb w tag q x){n:Nat}{pr:yg}(hn:n<8)(hp:x.T n=some pr){Q:List (Int×Int)}(g:w.grownBy w' (some (q.U n).qc))(hq:QAt w' (q.U n).qp (q.U n).qc 16 Q):
  zb w' tag q (x.put n ⟨pr.T,pr.A,Q⟩)∧Step (fun c=>c=40+n) tag w tag w':=by
 have hpr:=h.procs n pr hn hp
 have s:Step (fun c=>c=40+n) tag w tag w':=Step.Yp (c:=40+n) (Turn.Zz g hpr.qo.2) rfl
 have hT:∀m,(x.put n ⟨pr.T,pr.A,Q⟩).T m=if m=n then some ⟨pr.T,pr.A,Q⟩else x.T m:=fun m=>rfl
 refine⟨h.turn s (by omega) (by omega) (fun m hm=>?_) (fun m hm=>?_) (.inl ⟨by omega,rfl⟩) (.inl ⟨by omega,rfl⟩) (.inl ⟨by omega,rfl⟩) (.inl ⟨by omega,rfl⟩) (.inl ⟨by omega,rfl,rfl⟩) (.inl ⟨by omega,rfl⟩) fun m pm hm hx=>?_,s⟩
 ·rw[hT]
  split
  ·rename_i e;rw[e,hp];rfl
  ·rfl
 ·rw[hT,if_neg (by omega)]
  exact h.out m hm
 ·rw[hT]at hx
  by_cases e:m=n
  ·rw[if_pos e]at hx
   subst e
   have e2:=Option.some.inj hx
   subst e2
   obtain⟨h1,h2,⟨av,r1,r2,r3⟩,h4,h5,h6⟩:=hpr
   refine .inr ⟨h1.loc (s.keeps (by omega)),h2,⟨av,r1.keep (s.keeps (c:=20+m) (by omega) _ r1.lt h2).2,SlAt.keep r2 fun b hb=>(s.keeps (c:=30+m) (by omega) b (SlAt.lt r2 b hb) (r3 b hb)).2,r3⟩,hq,h5,h6⟩
  ·rw[if_neg e]at hx
   exact .inl ⟨⟨by omega,by omega,by omega,by omega⟩,hx⟩
def Qe(Q:List (Int×Int))(y:Int×Int):List (Int×Int):=if Q.length<16 then Q++[y]else Q
theorem zj3(h:zb w tag q x)(n:Nat)(ni at_:Int)(en:ni=n)(pr:yg)(hn:n<8)(hp:x.T n=some pr):
  Calls Tryz.prog 22 #[ptrV q.sp,.int .i64 ni,.int .i64 at_] w fun e w'=>e=.returned (.tuple #[])∧zb w' tag q (x.put n ⟨pr.T,pr.A,Qe pr.Q (ni,at_)⟩)∧Step (fun c=>c=40+n) tag w tag w':=by
 have F:=Lib.hid (Za h ni)
 have ev:Ye q x ni=.tuple #[ptrV (q.U n).ap,.bool true]:=by
  unfold Ye
  rw[show ni.toNat=n by omega,hp]
  have:0≤ni:=by omega
  simp[this]
 rw[ev]at F
 have hpr:=h.procs n pr hn hp
 obtain⟨av,r1,_,_⟩:=hpr.row
 have c2:=r1.cell (i:=2) (by omega)
 dsimp only[Yi]at c2
 have G:Hid (Calls Tryz.prog 68 #[.pointer (some ⟨(q.U n).qp,0,none⟩),.agg #[.int .i64 ni,.int .i64 at_]] w fun e w'=>(∃b,e=.returned (.bool b))∧zb w' tag q (x.put n ⟨pr.T,pr.A,Qe pr.Q (ni,at_)⟩)∧Step (fun c=>c=40+n) tag w tag w'):=by
  by_cases hr:pr.Q.length<16
  ·refine(zmo w _ _ 16 pr.Q (ni,at_) hpr.sigs hr).mono ?_
   rintro e w1 ⟨rfl,g,hq⟩
   refine⟨⟨_,rfl⟩,?_⟩
   unfold Qe
   rw[if_pos hr]
   exact h.queue hn hp g hq
  ·refine(zmq w _ _ 16 pr.Q (ni,at_) hpr.sigs (by omega)).mono ?_
   rintro e w1 ⟨rfl,g,hq⟩
   refine⟨⟨_,rfl⟩,?_⟩
   unfold Qe
   rw[if_neg hr]
   exact h.queue hn hp (Qg g _) hq
 unfold ptrV at F c2⊢
 generalize (x.put n ⟨pr.T,pr.A,Qe pr.Q (ni,at_)⟩)=y at G⊢
 clear h hp hpr ev en r1
 go_enter Tryz.func22,Tryz.ntmps22
 go_wp2_with fail
 refine F.out.mono ?_
 rintro e u ⟨rfl,hu⟩
 have hu:=hu.symm
 subst hu
 clear F
 go_wp2_with fail
 refine G.out.mono ?_
 rintro e w1 ⟨⟨b,rfl⟩,h1⟩
 have H1:=Lib.hid h1
 clear h1 c2
 go_wp2_with fail
 exact bodyPost_end (v:=.tuple #[]) (by simp[results,Tryz.results22,go_sem]) rfl ⟨rfl,H1.out⟩
theorem zb.free(h:zb w tag q x){tag':Nat→Nat}(s:Step (fun c=>c=0) tag w tag' w'):zb w' tag' q x:=
 h.turn s (by omega) (by omega) (fun _ _=>rfl) h.out (.inl ⟨by omega,rfl⟩) (.inl ⟨by omega,rfl⟩) (.inl ⟨by omega,rfl⟩) (.inl ⟨by omega,rfl⟩) (.inl ⟨by omega,rfl,rfl⟩) (.inl ⟨by omega,rfl⟩) fun _ _ _ hx=>.inl ⟨⟨by omega,by omega,by omega,by omega⟩,hx⟩
theorem zz(tag:Nat→Nat)(w:World)(c b:Nat)(h:w.heap.size≤b):retag tag w c b=c:=if_neg (by omega)
theorem Step.anew{C:Nat→Prop}(h:Below w.heap.size w w'):Step C tag w (Go.Proofs.YtnhdmnijiphjjaaGreat.retag tag w 0) w':=⟨fun b hb=>if_pos hb,Turn.of_below h⟩
end
section
variable {w w':World}{tag tag':Nat→Nat}{q:Sq}{x:za}
def Sq.at_(q:Sq)(n:Nat)(u:Pq):Sq:={q with U:=fun m=>if m=n then u else q.U m}
def CS(n:Nat)(c:Nat):Prop:=c=1∨c=2∨c=7∨c=10+n∨c=20+n∨c=30+n∨c=40+n
theorem zb.spawn(h:zb w tag q x){n:Nat}(hn:n<8)(s:Step (CS n) tag w tag' w')(u:Pq)(pr:yg)(R:RamS)(P:zo)(hR:qi w' (fun b=>tag' b=1) q.rp q.rb R)(hP:yh w' (fun b=>tag' b=2) q.pp q.fs q.fb P)
  (hm:Js w' (q.at_ n u) (fun m=>if m=n then some pr else x.T m)) (hpm:tag' q.pm=7) (hpr:Uc w' tag' (q.at_ n u) n pr):zb w' tag' (q.at_ n u) {x with R:=R,P:=P,T:=fun m=>if m=n then some pr else x.T m}:=by
 have c:∀k,k≠1→k≠2→k≠7→k≠10+n→k≠20+n→k≠30+n→k≠40+n→¬CS n k:=fun k _ _ _ _ _ _ _=>by unfold CS;omega
 have c':∀k,3≤k→k≤6∨k=8→¬CS n k:=fun k _ _=>by unfold CS;omega
 refine {so:=(s.keeps (c' 8 (by omega) (by omega)) _ h.row.lt h.so).1,row:=h.row.keep (s.keeps (c' 8 (by omega) (by omega)) _ h.row.lt h.so).2,ram:=hR,pool:=hP,disk:=h.disk.loc (s.keeps (c' 3 (by omega) (by omega))),back:=h.back.step s (c' 4 (by omega) (by omega)),cache:=h.cache.step s (c' 5 (by omega) (by omega)),swap:=h.swap.step s (c' 6 (by omega) (by omega)),po:=hpm,map:=hm,procs:=fun m pm hm hx0=>?_,out:=fun m hm=>?_}
 ·have hx:(if m=n then some pr else x.T m:Option yg)=some pm:=hx0
  clear hx0
  by_cases e:m=n
  ·rw[if_pos e]at hx
   subst e
   have e2:=Option.some.inj hx
   subst e2
   exact hpr
  ·rw[if_neg e]at hx
   have e1:(q.at_ n u).U m=q.U m:=if_neg e
   have:=(h.procs m pm hm hx).step s (c _ (by omega) (by omega) (by omega) (by omega) (by omega) (by omega) (by omega)) (c _ (by omega) (by omega) (by omega) (by omega) (by omega) (by omega) (by omega)) (c _ (by omega) (by omega) (by omega) (by omega) (by omega) (by omega) (by omega)) (c _ (by omega) (by omega) (by omega) (by omega) (by omega) (by omega) (by omega))
   obtain⟨a1,a2,a3,a4,a5⟩:=this
   exact⟨by rw[e1];exact a1,by rw[e1];exact a2,by rw[e1];exact a3,by rw[e1];exact a4,by rw[e1];exact a5⟩
 ·show(if m=n then _ else _:Option yg)=_
  rw[if_neg (by omega)]
  exact h.out m hm
theorem zb.zno(h:zb w tag q x)(n:Nat)(hn:n<8)(hx:x.T n=none){w1:World}{tag1:Nat→Nat}{t:Nat}{R:RamS}{P:zo}{T:Zx}(hX:y9 w1 tag1 ⟨q.rp,q.rb,q.pp,q.fs,q.fb,t,10+n⟩ ⟨R,P,T⟩)(s1:Step (fun c=>c=1∨c=2∨c=10+n) tag w tag1 w1)
  (W3:World) (hb3:Below w1.heap.size w1 W3) (p6:W3.cell? ⟨q.sp,6,none⟩=some (.map (some q.pm))):Calls Tryz.prog 61 #[.int .i64 16] W3 fun e w4=>∃qb,e=.returned (.pointer (some ⟨qb,0,none⟩))∧w4.cell? ⟨q.sp,6,none⟩=some (.map (some q.pm))∧
   (∃w6,(Instr.mapUpdate 53 (.map (some q.pm)) (.int .i64 n) (.pointer (some ⟨w4.heap.size,0,none⟩))).run Tryz.prog (w4.alloc (.cells #[.pointer (some ⟨t,0,none⟩),.slice none 0 0,.pointer (some ⟨qb,0,none⟩)] 106))=.ok () w6∧w6.cell? ⟨q.sp,6,none⟩=some (.map (some q.pm))∧
    ∃tag' u,zb w6 tag' (q.at_ n u) {x with R:=R,P:=P,T:=fun m=>if m=n then some ⟨T,[],[]⟩else x.T m}∧Step (CS n) tag w tag' w6)∧∀o,(w4.alloc o).cell? ⟨q.sp,6,none⟩=some (.map (some q.pm)):=by
 refine(New_at W3 16).mono ?_
 rintro e w4 ⟨rfl,hb4,hq⟩
 rw[show capOf 16=16 by decide]at hq
 obtain⟨PV,hm,nd,kb,hg⟩:=h.map
 have hpm:tag1 q.pm=7∧w1.heap[q.pm]?=w.heap[q.pm]?:=s1.keeps (c:=7) (by omega) _ hm.lt h.po
 have hpl:q.pm<w1.heap.size:=Nat.lt_of_lt_of_le hm.lt s1.turn.size
 have hql:=hq.lt
 have hb5:=(Below.refl w4.heap.size w4).alloc (Nat.le_refl _) (.cells #[.pointer (some ⟨t,0,none⟩),.slice none 0 0,.pointer (some ⟨W3.heap.size+1,0,none⟩)] 106 (0,0))
 obtain⟨w5,hw5⟩:∃w5,w5=w4.alloc (.cells #[.pointer (some ⟨t,0,none⟩),.slice none 0 0,.pointer (some ⟨W3.heap.size+1,0,none⟩)] 106 (0,0)):=⟨_,rfl⟩
 rw[←hw5]at hb5
 have z5:w5.heap.size=w4.heap.size+1:=by rw[hw5];simp
 have m5:MapAt w5 q.pm xw id PV:=(((hm.keep hpm.2).below hb3).below hb4).below hb5
 obtain⟨w6,hr,M6,g6,zz6⟩:=Yr (T:=53) Uw Tryz.underlying53 m5 (n:Int) (ptrV w4.heap.size)
 have sz3:=hb3.size
 have sz4:=hb4.size
 have hspl:=h.row.lt
 have hsp7:q.sp≠q.pm:=fun e=>by have h1:=h.so;rw[e,h.po]at h1;omega
 have hspl1:q.sp<w1.heap.size:=Nat.lt_of_lt_of_le h.row.lt s1.turn.size
 have c4:w4.cell? ⟨q.sp,6,none⟩=some (.map (some q.pm)):=(hb4.cell (World.block_lt_of_cell? _ _ p6)).trans p6
 have c4a:∀o,(w4.alloc o).cell? ⟨q.sp,6,none⟩=some (.map (some q.pm)):=fun o=>(World.cell?_alloc_lt _ _ _ (World.block_lt_of_cell? _ _ c4)).trans c4
 -- parts' numbers
 obtain⟨tag4,ht4⟩:∃tag4,tag4=retag tag1 W3 (40+n):=⟨_,rfl⟩
 obtain⟨tag5,ht5⟩:∃tag5,tag5=retag tag4 w4 (20+n):=⟨_,rfl⟩
 have e4:∀b,b<W3.heap.size→tag4 b=tag1 b:=fun b hb=>by rw[ht4];exact if_pos hb
 have e5:∀b,b<w4.heap.size→tag5 b=tag4 b:=fun b hb=>by rw[ht5];exact if_pos hb
 have e4n:∀b,W3.heap.size≤b→tag4 b=40+n:=fun b hb=>by rw[ht4];exact zz _ _ _ _ hb
 have e5n:tag5 w4.heap.size=20+n:=by rw[ht5];exact zz _ _ _ _ (Nat.le_refl _)
 have p5:tag5 q.pm=7:=by rw[e5 _ (by omega),e4 _ (by omega)];exact hpm.1
 have s13:Step (fun c=>c=7) tag1 w1 tag1 W3:=Step.of_below hb3
 have s34:Step (fun c=>c=7) tag1 W3 tag4 w4:=⟨fun b hb=>e4 b hb,Turn.of_below hb4⟩
 have s45:Step (fun c=>c=7) tag4 w4 tag5 w5:=⟨fun b hb=>e5 b hb,Turn.of_below hb5⟩
 have s56:Step (fun c=>c=7) tag5 w5 tag5 w6:=Step.Yp (c:=7) (Turn.Zz g6 p5) rfl
 have s16:=((s13.trans s34).trans s45).trans s56
 have sAll:Step (CS n) tag w tag5 w6:=(s1.mono fun c hc=>by unfold CS;omega).trans (s16.mono fun c hc=>by unfold CS;omega)
 refine⟨_,rfl,c4,⟨w6,?_,?_,tag5,⟨t,w4.heap.size,W3.heap.size+1,W3.heap.size⟩,h.spawn hn sAll ⟨t,w4.heap.size,W3.heap.size+1,W3.heap.size⟩ ⟨T,[],[]⟩ R P (hX.ram.loc (s16.keeps (by omega))) (hX.pool.loc (s16.keeps (by omega))) ?_ p5 ?_,sAll⟩,c4a⟩
 ·rw[hw5]at hr
  exact hr
 ·have c5:=c4a (.cells #[.pointer (some ⟨t,0,none⟩),.slice none 0 0,.pointer (some ⟨W3.heap.size+1,0,none⟩)] 106 (0,0))
  rw[←hw5]at c5
  exact(World.cell?_of_block (w:=w5) (g6.block q.sp (by omega) (by simp;exact hsp7))).trans c5
 ·refine⟨updL PV (n:Int) (ptrV w4.heap.size),M6,(Zq PV (n:Int) _ nd).1,fun y hy=>?_,fun m hm=>?_⟩
  ·rcases Qn y hy with rfl|hy
   ·exact⟨by show(0:Int)≤n;omega,by show(n:Int)<8;omega⟩
   ·exact kb y hy
  ·rw[y8]
   by_cases e:m=n
   ·subst e
    unfold Sq.at_
    simp
   ·rw[if_neg (by omega),hg m hm]
    unfold Sq.at_
    simp[e]
 ·have eu:(q.at_ n ⟨t,w4.heap.size,W3.heap.size+1,W3.heap.size⟩).U n=⟨t,w4.heap.size,W3.heap.size+1,W3.heap.size⟩:=if_pos rfl
  have r5:Row w5 w4.heap.size 3 (Yi t (W3.heap.size+1) (.slice none 0 0)):=by
   rw[hw5]
   exact Row.new w4 3 _ _ _ rfl fun i hi=>by
    rcases(by omega:i=0∨i=1∨i=2)with rfl|rfl|rfl<;>rfl
  have r6:Row w6 w4.heap.size 3 (Yi t (W3.heap.size+1) (.slice none 0 0)):=r5.keep (g6.block w4.heap.size (by omega) (by simp;omega))
  have q6:QAt w6 (W3.heap.size+1) W3.heap.size 16 []:=hq.keep fun k hk=>by
   have hk':W3.heap.size≤k∧k<w4.heap.size:=by rcases hk with rfl|rfl<;>exact⟨by omega,by first|exact hql.1|exact hql.2.1⟩
   exact(g6.block k (by omega) (by simp;omega)).trans (hb5.block k hk'.2)
  have t6:=hX.tree.loc (s16.keeps (c:=10+n) (by omega))
  have o6:tag5 (W3.heap.size+1)=40+n∧tag5 W3.heap.size=40+n:=⟨by rw[e5 _ hql.1];exact e4n _ (by omega),by rw[e5 _ hql.2.1];exact e4n _ (by omega)⟩
  exact⟨by rw[eu];exact t6,by rw[eu];exact e5n,⟨.slice none 0 0,by rw[eu];exact r6,ArAt.nil _,fun b hb=>by simp[Value.ownBlock]at hb⟩,by rw[eu];exact q6,by rw[eu];exact o6⟩
theorem Ux(h:zb w tag q x)(n:Nat)(hn:n<8)(hx:x.T n=none)(g:Nat)(hg:x.P.next false=some g)(hg1:g<1024)(hb:x.R.bad g=false):
  Calls Tryz.prog 17 #[ptrV q.sp,.int .i64 n] w fun e w'=>e=.returned (.int .i64 0)∧∃tag' u,zb w' tag' (q.at_ n u) {x with R:=x.R.write g 0 (List.replicate 64 0),P:=x.P.set g 2,T:=fun m=>if m=n then some ⟨⟨g,[g]⟩,[],[]⟩else x.T m}∧Step (CS n) tag w tag' w':=by
 have F:=Lib.hid (zcc h (n:Int))
 have er:x.room (n:Int)=0:=by
  unfold za.room
  rw[if_neg (by omega),show((n:Nat):Int).toNat=n by omega,hx]
  rfl
 rw[er]at F
 have c0:=h.row.cell (i:=0) (by omega)
 have c2:=h.row.cell (i:=2) (by omega)
 have c6:=h.row.cell (i:=6) (by omega)
 dsimp only[Z6]at c0 c2 c6
 obtain⟨W,hW⟩:∃W,W=w.drew:=⟨_,rfl⟩
 have hbW:Below w.heap.size w W:=by rw[hW];exact(Below.refl _ _).drew
 have q0:W.cell? ⟨q.sp,0,none⟩=some (ptrV q.rp):=by rw[hW];exact c0
 have q2:W.cell? ⟨q.sp,2,none⟩=some (ptrV q.pp):=by rw[hW];exact c2
 have hWs:Hid (W.heap.size=w.heap.size):=by rw[hW];rfl
 have hd:w.drew=W:=hW.symm
 clear hW
 have hSW:zb W tag q x:=h.below hbW
 have TN:Hid (Calls Tryz.prog 60 #[.pointer (some ⟨q.rp,0,none⟩),.pointer (some ⟨q.pp,0,none⟩)] W fun e w1=>∃t tag',e=.returned (.tuple #[.pointer (some ⟨t,0,none⟩),.int .i64 0])∧w1.cell? ⟨q.sp,0,none⟩=some (ptrV q.rp)∧w1.cell? ⟨q.sp,2,none⟩=some (ptrV q.pp)∧w1.cell? ⟨q.sp,6,none⟩=some (.map (some q.pm))∧
   (y9 w1 tag' ⟨q.rp,q.rb,q.pp,q.fs,q.fb,t,10+n⟩ ⟨x.R.write g 0 (List.replicate 64 0),x.P.set g 2,⟨g,[g]⟩⟩∧Step (fun c=>c=1∨c=2∨c=10+n) tag w tag' w1)):=by
  refine(zho W tag q.rp q.rb q.pp q.fs q.fb (10+n) x.R x.P hSW.ram hSW.pool (by omega) g hg hg1 hb).mono ?_
  rintro e w1 ⟨t,tag',rfl,h1,h2⟩
  have k:=(h2.keeps (c:=8) (by omega) _ hSW.row.lt hSW.so).2
  have R1:=hSW.row.keep k
  exact⟨t,tag',rfl,R1.cell (i:=0) (by omega),R1.cell (i:=2) (by omega),R1.cell (i:=6) (by omega),h1,(Step.of_below hbW).trans h2⟩
 have HS:=Lib.hid h
 unfold ptrV at F c0 c2 q0 q2 TN⊢
 clear h er hSW hbW hg hb c0 c2
 go_enter Tryz.func17,Tryz.ntmps17
 go_wp2_with fail
 refine F.out.mono ?_
 rintro e u ⟨rfl,hu⟩
 have hu:=hu.symm
 subst hu
 clear F
 go_wp2_with fail
 go_region_held (fun W'=>W'.cell? ⟨q.sp,0,none⟩=some (.pointer (some ⟨q.rp,0,none⟩))∧W'.cell? ⟨q.sp,2,none⟩=some (.pointer (some ⟨q.pp,0,none⟩))) (go_keep)
  ((go_at_call 60;refine TN.out.mono ?_;rintro e w1 ⟨t,tag1,rfl,q0',q2',r6,HX⟩;have hX:=Lib.hid HX;clear HX))
 clear q0 q2 hd q0' q2' TN
 have HU:=Lib.hid (zb.zno HS.out n hn hx hX.out.1 hX.out.2)
 go_wp2_with fail
 obtain⟨W3,hW3⟩:∃W3,W3=w1.drew:=⟨_,rfl⟩
 have p6:W3.cell? ⟨q.sp,6,none⟩=some (.map (some q.pm)):=by rw[hW3];exact r6
 have SN:=Lib.hid (HU.out W3 (by rw[hW3];exact(Below.refl _ _).drew) p6)
 have hd3:w1.drew=W3:=hW3.symm
 clear hW3 HU
 go_region_held (fun W'=>W'.cell? ⟨q.sp,6,none⟩=some (.map (some q.pm))) (go_keep)
  ((go_at_call 61;refine SN.out.mono ?_;rintro e w4 ⟨qb,rfl,p6',⟨w6,hr6,p66,HX⟩,p6a⟩;have hY:=Lib.hid HX;clear HX))
 clear p6 hd3 p6' hr6 p66 p6a r6
 go_wp2_with fail
 go_ret
 exact⟨rfl,hY.out⟩
end
def za.start(R:RamS)(P:zo)(D:zw):za:=⟨R,P,D,fun _=>[],[],[],List.replicate 32 [],fun _=>none⟩
section
variable {w w':World}{tag tag':Nat→Nat}{R:RamS}{P:zo}{D:zw}
theorem Step.renew{C:Nat→Prop}(c:Nat)(h:Below w.heap.size w w'):Step C tag w (Go.Proofs.YtnhdmnijiphjjaaGreat.retag tag w c) w':=⟨fun _ hb=>if_pos hb,Turn.of_below h⟩
theorem zdd(rp rb pp fs fb dp:Nat)(hR:qi w (fun b=>tag b=1) rp rb R)(hP:yh w (fun b=>tag b=2) pp fs fb P)(hD:jr w (fun b=>tag b=3) dp D):
  Calls Tryz.prog 57 #[ptrV rp,ptrV dp,ptrV pp] w fun e w'=>∃q tag',e=.returned (ptrV q.sp)∧zb w' tag' q (.start R P D)∧Step (fun _=>False) tag w tag' w':=by
 have HR:=Lib.hid (And.intro hR (And.intro hP hD))
 clear hR hP hD
 unfold ptrV
 have hmm:=@run_makeMap Tryz.prog
 go_enter Tryz.func57,Tryz.ntmps57
 go_wp2_with fail
 refine(zm2 (K:=KF) w).mono ?_
 rintro e w1 ⟨bp,bm,rfl,hB,b1,b2,hb1⟩
 have H1:=Lib.hid (And.intro hB (And.intro b1 (And.intro b2 hb1)))
 clear hB b1 b2 hb1
 go_wp2_with fail
 refine(zj9 w1).mono ?_
 rintro e w2 ⟨rfl,hb2,hC⟩
 have H2:=Lib.hid (And.intro hC hb2)
 clear hb2 hC
 go_wp2_with fail
 refine(zmi w2).mono ?_
 rintro e w3 ⟨rfl,hS,hb3,hz3⟩
 have H3:=Lib.hid (And.intro hS (And.intro hb3 hz3))
 clear hS hb3 hz3
 go_wp2_with fail
 clear hmm
 go_ret
 generalize 55=TY
 obtain⟨hB,b1,b2,hb1⟩:=H1.out
 obtain⟨hC,hb2⟩:=H2.out
 obtain⟨hS,hb3,hz3⟩:=H3.out
 obtain⟨hR,hP,hD⟩:=HR.out
 have hb4:=(Below.refl w3.heap.size w3).alloc (Nat.le_refl _) (.map #[] 0)
 have m4:=MapAt.made (κ:=Int) (ν:=Value) w3 xw id
 obtain⟨w4,hw4⟩:∃w4,w4=w3.alloc (.map #[] 0):=⟨_,rfl⟩
 have z4:w4.heap.size=w3.heap.size+1:=by rw[hw4];simp
 rw[←hw4]at hb4 m4⊢
 have r5:=Row.new w4 7 (Z6 ⟨w4.heap.size,rp,rb,pp,fs,fb,dp,bp,bm,w1.heap.size+2,w1.heap.size,w1.heap.size+1,w2.heap.size,w3.heap.size,fun _=>⟨0,0,0,0⟩⟩) #[.pointer (some ⟨rp,0,none⟩),.pointer (some ⟨dp,0,none⟩),.pointer (some ⟨pp,0,none⟩),.pointer (some ⟨bp,0,none⟩),.pointer (some ⟨w1.heap.size+2,0,none⟩),.pointer (some ⟨w2.heap.size,0,none⟩),.map (some w3.heap.size)] TY rfl fun i hi=>by
  rcases(by omega:i=0∨i=1∨i=2∨i=3∨i=4∨i=5∨i=6)with rfl|rfl|rfl|rfl|rfl|rfl|rfl<;>rfl
 have hb5:=(Below.refl w4.heap.size w4).alloc (Nat.le_refl _) (.cells #[.pointer (some ⟨rp,0,none⟩),.pointer (some ⟨dp,0,none⟩),.pointer (some ⟨pp,0,none⟩),.pointer (some ⟨bp,0,none⟩),.pointer (some ⟨w1.heap.size+2,0,none⟩),.pointer (some ⟨w2.heap.size,0,none⟩),.map (some w3.heap.size)] TY (0,0))
 generalize (w4.alloc (.cells #[.pointer (some ⟨rp,0,none⟩),.pointer (some ⟨dp,0,none⟩),.pointer (some ⟨pp,0,none⟩),.pointer (some ⟨bp,0,none⟩),.pointer (some ⟨w1.heap.size+2,0,none⟩),.pointer (some ⟨w2.heap.size,0,none⟩),.map (some w3.heap.size)] TY (0,0)))=w5 at r5 hb5⊢
 have s1:Step (fun _=>False) tag w (retag tag w 4) w1:=Step.renew 4 hb1
 have s2:Step (fun _=>False) (retag tag w 4) w1 (retag (retag tag w 4) w1 5) w2:=Step.renew 5 hb2
 have t1:∀b,w.heap.size≤b→retag tag w 4 b=4:=fun b hb=>zz _ _ _ _ hb
 obtain⟨tag1,e1⟩:∃tag1,tag1=retag tag w 4:=⟨_,rfl⟩
 rw[←e1]at s1 s2 t1
 have t2:∀b,w1.heap.size≤b→retag tag1 w1 5 b=5:=fun b hb=>zz _ _ _ _ hb
 obtain⟨tag2,e2⟩:∃tag2,tag2=retag tag1 w1 5:=⟨_,rfl⟩
 rw[←e2]at s2 t2
 have s3:Step (fun _=>False) tag2 w2 (retag tag2 w2 6) w3:=Step.renew 6 hb3
 have t3:∀b,w2.heap.size≤b→retag tag2 w2 6 b=6:=fun b hb=>zz _ _ _ _ hb
 obtain⟨tag3,e3⟩:∃tag3,tag3=retag tag2 w2 6:=⟨_,rfl⟩
 rw[←e3]at s3 t3
 have s4:Step (fun _=>False) tag3 w3 (retag tag3 w3 7) w4:=Step.renew 7 hb4
 have t4:∀b,w3.heap.size≤b→retag tag3 w3 7 b=7:=fun b hb=>zz _ _ _ _ hb
 obtain⟨tag4,e4⟩:∃tag4,tag4=retag tag3 w3 7:=⟨_,rfl⟩
 rw[←e4]at s4 t4
 have s5:Step (fun _=>False) tag4 w4 (retag tag4 w4 8) w5:=Step.renew 8 hb5
 have t5:∀b,w4.heap.size≤b→retag tag4 w4 8 b=8:=fun b hb=>zz _ _ _ _ hb
 obtain⟨tag5,e5⟩:∃tag5,tag5=retag tag4 w4 8:=⟨_,rfl⟩
 rw[←e5]at s5 t5
 have s25:=(s3.trans s4).trans s5
 have s15:=s2.trans s25
 have s05:=s1.trans s15
 have bk:za0 w1 tag1 bp bm (fun _=>[]):=⟨[bp,bm],[],hB,fun b hb=>by
  simp at hb
  rcases hb with rfl|rfl
  ·exact t1 _ b1
  ·exact t1 _ b2⟩
 have ck:Uy w2 tag2 (w1.heap.size+2) w1.heap.size (w1.heap.size+1) [] []:=⟨hC,t2 _ (by omega),t2 _ (by omega),t2 _ (by omega)⟩
 have sk:zax w3 tag3 w2.heap.size (List.replicate 32 []):=⟨[w2.heap.size],_,hS,fun b hb=>by simp at hb;subst hb;exact t3 _ (Nat.le_refl _)⟩
 refine⟨⟨w4.heap.size,rp,rb,pp,fs,fb,dp,bp,bm,w1.heap.size+2,w1.heap.size,w1.heap.size+1,w2.heap.size,w3.heap.size,fun _=>⟨0,0,0,0⟩⟩,tag5,?_,?_,s05⟩
 ·show Ending.returned (.pointer (some ⟨w3.heap.size+1,0,none⟩))=Ending.returned (.pointer (some ⟨w4.heap.size,0,none⟩))
  rw[z4]
 ·exact {so:=t5 _ (Nat.le_refl _),row:=r5,ram:=hR.loc (s05.keeps id),pool:=hP.loc (s05.keeps id),disk:=hD.loc (s05.keeps id),back:=bk.step s15 id,cache:=ck.step s25 id,swap:=sk.step (s4.trans s5) id,po:=(s5.keeps id _ (by show w3.heap.size<_;omega) (t4 _ (Nat.le_refl _))).1,map:=⟨[],m4.keep (s5.keeps id _ (by show w3.heap.size<_;omega) (t4 _ (Nat.le_refl _))).2,by simp,fun y hy=>by simp at hy,fun n hn=>rfl⟩,procs:=fun n pr _ hx=>(by cases hx),out:=fun _ _=>rfl}
end
theorem zf4:Tryz.zeroCells94.toList=.slice none 0 0::.slice none 0 0::List.replicate 8192 (.int .u8 0):=by kernel_rfl
def Vf:Nat→zo
 | 0=>zo.none
 | k+1=>(Vf k).on k 2 32
def Xc(n:Nat):Nat→zo
 | 0=>Vf n
 | k+1=>(Xc n k).on (16+k) 3 32
theorem zaj(k s:Nat)(h:k≤s):(Vf k).zone s=0:=by
 induction k with
 | zero=>rfl
 | succ k ih=>
  show(if s=k then 2 else(Vf k).zone s)=0
  rw[if_neg (by omega),ih (by omega)]
theorem zgf(n k s:Nat)(hn:n≤16)(h:16+k≤s):(Xc n k).zone s=0:=by
 induction k with
 | zero=>exact zaj n s (by omega)
 | succ k ih=>
  show(if s=16+k then 3 else(Xc n k).zone s)=0
  rw[if_neg (by omega),ih (by omega)]
def fB(m idx:Nat):UInt8:=if idx<m then UInt8.ofNat (3*(idx/64)+idx%64)else 0
def fP(i:Nat):List UInt8:=(List.range 64).map fun k=>UInt8.ofNat (3*i+k)
def Yy(W:World)(wp m:Nat):Prop:=∀idx,idx<4096→W.cell? ⟨wp,2+idx,none⟩=some (bV (fB m idx))∧W.frozen? ⟨wp,2+idx,none⟩=false
theorem Yy.keep{W W':World}{wp m:Nat}(h:Yy W wp m)(hb:W'.heap[wp]?=W.heap[wp]?):Yy W' wp m:=fun idx hi=>
 ⟨(World.cell?_of_block (w:=W) hb).trans (h idx hi).1,(xy (a:=⟨wp,2+idx,none⟩) hb).trans (h idx hi).2⟩
theorem zf5{W W':World}{wp o n:Nat}(h:W.there wp o n)(hb:W'.heap[wp]?=W.heap[wp]?):W'.there wp o n:=fun j hj=>
 ⟨by rw[World.cell?_of_block (w:=W) hb];exact(h j hj).1,(xy (a:=⟨wp,o+j,none⟩) hb).trans (h j hj).2⟩
theorem Yy.start(w:World)(T:TypeId):Yy (w.alloc (.cells Tryz.zeroCells94 T (0,0))) w.heap.size 0∧(w.alloc (.cells Tryz.zeroCells94 T (0,0))).there w.heap.size 4098 4096:=by
 have hn:=heap_alloc_new w (.cells Tryz.zeroCells94 T (0,0))
 have hc:∀i,i<8192→Tryz.zeroCells94[2+i]?=some (.int .u8 0):=fun i hi=>by
  rw[←Array.getElem?_toList,zf4,show 2+i=i+1+1 by omega,List.getElem?_cons_succ,List.getElem?_cons_succ,List.getElem?_replicate,if_pos hi]
 generalize Tryz.zeroCells94=Z at hn hc⊢
 generalize w.alloc (.cells Z T (0,0))=W at hn⊢
 refine⟨fun idx hi=>⟨?_,by simp[World.frozen?,hn]⟩,fun j hj=>⟨?_,by simp[World.frozen?,hn]⟩⟩
 ·rw[cell_of_row _ _ _ _ _ _ hn,hc idx (by omega)]
  unfold fB bV
  rw[if_neg (by omega)]
  rfl
 ·rw[cell_of_row _ _ _ _ _ _ hn,show 4098+j=2+(4096+j)by omega,hc _ (by omega)]
  rfl
theorem Yy.step{W:World}{wp m:Nat}(h:Yy W wp m)(hm:m<4096)(v:Int)(hv:v=((UInt8.ofNat (3*(m/64)+m%64)).toNat:Int))(o:Nat)(ho:o=2+m):Yy (W.setCell ⟨wp,o,none⟩ (.int .u8 v)) wp (m+1):=by
 subst ho
 have HV:=Lib.hid hv
 clear hv
 intro idx hi
 have hc:=h idx hi
 by_cases e:idx=m
 ·subst e
  refine⟨?_,?_⟩
  ·have h1:=hc.1
   go_simp
   unfold bV fB
   rw[if_pos (by omega),HV.out]
  ·have h2:=hc.2
   go_simp
 ·have e1:¬2+m=2+idx:=by omega
  refine⟨?_,?_⟩
  ·have h1:W.cell? ⟨wp,2+idx,none⟩=some (bV (fB (m+1) idx)):=by
    rw[hc.1]
    unfold fB
    by_cases e2:idx<m
    ·rw[if_pos e2,if_pos (by omega)]
    ·rw[if_neg e2,if_neg (by omega)]
   clear hc h
   go_simp
  ·have h2:=hc.2
   go_simp
theorem Yy.range{W:World}{wp m i:Nat}(h:Yy W wp m)(hi:i<64)(hm:64*(i+1)≤m):W.rangeAt wp (2+i*64) ((fP i).map bV):=by
 intro j v hv
 have hj:j<64:=by have:=(List.getElem?_eq_some_iff.1 hv).1;simpa[fP]using this
 have:=(h (i*64+j) (by omega)).1
 rw[show 2+i*64+j=2+(i*64+j)by omega,this]
 unfold fB
 rw[if_pos (by omega),show(i*64+j)/64=i by omega,show(i*64+j)%64=j by omega]
 unfold fP at hv
 rw[List.map_map,List.getElem?_map,List.getElem?_range hj]at hv
 exact hv
theorem zfq(i:Nat):(fP i).length=64:=by simp[fP]
structure FrI(w W:World)(tag:Nat→Nat)(pp fs fb dp wp mm:Nat)(P:zo)(D:zw):Prop where
 pool:yh W (fun b=>tag b=2) pp fs fb P
 disk:jr W (fun b=>tag b=3) dp D
 below:Below w.heap.size w W
 tz:∀b,b<w.heap.size→tag b=0
 file:Yy W wp mm
 there:W.there wp 4098 4096
 t0:tag wp=0
 tl:w.heap.size≤wp
section
variable {w W W':World}{tag tag':Nat→Nat}{pp fs fb dp wp mm:Nat}{P:zo}{D D':zw}
theorem FrI.lt(h:FrI w W tag pp fs fb dp wp mm P D):wp<W.heap.size:=World.block_lt_of_cell? _ _ (h.file 0 (by omega)).1
theorem FrI.zgy(h:FrI w W tag pp fs fb dp wp mm P D)(s:Step (fun c=>c=3) tag W tag' W')(hD:jr W' (fun b=>tag' b=3) dp D'):FrI w W' tag' pp fs fb dp wp mm P D':=by
 have k0:=s.keeps (c:=0) (by omega) wp h.lt h.t0
 have hsz:=h.below.size
 refine⟨h.pool.loc (s.keeps (by omega)),hD,?_,fun b hb=>(s.keeps (c:=0) (by omega) b (by omega) (h.tz b hb)).1,h.file.keep k0.2,zf5 h.there k0.2,k0.1,h.tl⟩
 refine⟨s.turn.os.trans h.below.os,s.turn.tape.trans h.below.tape,s.turn.output.trans h.below.output,Nat.le_trans hsz s.turn.size,fun b hb=>?_⟩
 exact(s.keeps (c:=0) (by omega) b (by omega) (h.tz b hb)).2.trans (h.below.block b hb)
theorem FrI.anew(h:FrI w W tag pp fs fb dp wp mm P D)(hb:Below W.heap.size W W'):FrI w W' (retag tag W 0) pp fs fb dp wp mm P D:=
 have s:Step (fun c=>c=3) tag W (retag tag W 0) W':=Step.anew hb
 h.zgy s (h.disk.loc ((Step.anew (C:=fun _=>False) (tag:=tag) hb).keeps id))
theorem FrI.turn(h:FrI w W tag pp fs fb dp wp mm P D){m':Nat}(t:Turn (fun b=>b=wp) W W')(hF:Yy W' wp m')(hT:W'.there wp 4098 4096):FrI w W' tag pp fs fb dp wp m' P D:=by
 have hsz:=h.below.size
 have hk:∀c,c≠0→∀k,k<W.heap.size→tag k=c→tag k=c∧W'.heap[k]?=W.heap[k]?:=fun c hc k hk e=>⟨e,t.block k hk (fun e1=>hc (by rw[←e,e1];exact h.t0))⟩
 refine⟨h.pool.loc (hk 2 (by omega)),h.disk.loc (hk 3 (by omega)),⟨t.os.trans h.below.os,t.tape.trans h.below.tape,t.output.trans h.below.output,Nat.le_trans hsz t.size,fun b hb=>?_⟩,h.tz,hF,hT,h.t0,h.tl⟩
 exact(t.block b (by omega) (fun e=>by have:=h.tl;omega)).trans (h.below.block b hb)
theorem FrI.store(h:FrI w W tag pp fs fb dp wp mm P D)(hm:mm<4096)(v:Int)(hv:v=((UInt8.ofNat (3*(mm/64)+mm%64)).toNat:Int))(o:Nat)(ho:o=2+mm):FrI w (W.setCell ⟨wp,o,none⟩ (.int .u8 v)) tag pp fs fb dp wp (mm+1) P D:=by
 refine h.turn (Turn.set (O:=fun b=>b=wp) (p:=⟨wp,o,none⟩) (Turn.refl _ W) (.inl rfl) _) (h.file.step hm v hv o ho) fun j hj=>?_
 obtain⟨a,b⟩:=h.there j hj
 obtain⟨u,hu⟩:=Option.isSome_iff_exists.1 a
 have e1:¬o=4098+j:=by omega
 refine⟨?_,?_⟩
 ·rw[World.cell?_setCell_other _ _ _ _ (by simp[e1]),hu]
  rfl
 ·go_simp
theorem FrI.cells(h:FrI w W tag pp fs fb dp wp mm P D)(o:Nat)(ho:4098≤o)(vs:List Value):FrI w (W.setCells wp o vs) tag pp fs fb dp wp mm P D:=by
 have hturn:∀(vs:List Value) (o:Nat) (W1:World),Turn (fun b=>b=wp) W1 (W1.setCells wp o vs):=by
  intro vs
  induction vs with
  | nil=>exact fun o W1=>Turn.refl _ _
  | cons v r ih=>exact fun o W1=>(Turn.set (O:=fun b=>b=wp) (p:=⟨wp,o,none⟩) (Turn.refl _ W1) (.inl rfl) v).trans (ih (o+1) _)
 refine h.turn (hturn vs o W) (fun idx hi=>⟨?_,?_⟩) (World.there_setCells h.there _ _ _)
 ·rw[World.cell?_setCells_out wp vs o W ⟨wp,2+idx,none⟩ (fun _ _=>.inl (by show 2+idx<o;omega))]
  exact(h.file idx hi).1
 ·rw[World.frozen?_setCells]
  exact(h.file idx hi).2
end
def DOK(D:zw)(i:Nat):Prop:=D.Calm∧∀j,j<i→D.cur (96+j)=fP j
theorem DOK.write{D:zw}{i:Nat}(h:DOK D i):D.work.2=0∧DOK (D.work.1.write (96+i) (fP i)) (i+1):=by
 obtain⟨hc,hf⟩:=h
 rw[hc.work]
 refine⟨rfl,hc,fun j hj=>?_⟩
 show((if 96+j=96+i then some (fP i)else D.loose (96+j)).getD (D.sure (96+j)))=fP j
 by_cases e:j=i
 ·subst e;rw[if_pos rfl];rfl
 ·rw[if_neg (by omega)];exact hf j (by omega)
end Go.Proofs.YtnhdmnijiphjjaaGreat
