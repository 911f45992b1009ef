/- The law's start: processes over sections, and files whose bytes are known. -/
import Derived.Test.YtnhdmnijiphjjaaGreatJAl12
import Derived.Deep.RegionHeld
import Derived.WalkKit
set_option linter.unusedVariables false
set_option linter.unusedSimpArgs false
namespace Go.Proofs.YtnhdmnijiphjjaaGreat
open Go Go.RowKit
set_option maxRecDepth 100000 in
set_option maxHeartbeats 1000000 in
theorem zf0 (w : World) (n m : Nat) (hn : n ≤ 4) (hm : m ≤ 4) :
  Calls Tryz.prog 16 #[.int .i64 n, .int .i64 m] w fun e w' => ∃ q tag D wp, e = .returned (.tuple #[ptrV q.sp, ptrV wp]) ∧ zb w' tag q (.start RamS.none (Yy n m) D) ∧ Below w.heap.size w w' ∧ (∀ b, b < w.heap.size → tag b = 0) ∧ D.Calm ∧ (D.loose = fun _ => none) ∧ ∀ i, i < 64 → D.sure (96 + i) = fP i := by
 go_enter Tryz.func16, Tryz.ntmps16
 go_wp2_with fail
 refine (zjh w).mono ?_
 rintro e w1 ⟨rfl, hp, hb, hz⟩
 obtain ⟨tag1, ht1⟩ : ∃ tag1, tag1 = retag (fun _ => 0) w 2 := ⟨_, rfl⟩
 have e1 : Hid ((∀ b, w.heap.size ≤ b → tag1 b = 2) ∧ ∀ b, b < w.heap.size → tag1 b = 0) := by rw [ht1]; exact ⟨fun b hb => zx _ _ _ _ hb, fun b hb => if_pos hb⟩
 have HP : Hid (yc w1 (fun b => tag1 b = 2) (w.heap.size + 2) (w.heap.size + 1) w.heap.size (Xu 0) ∧ Below w.heap.size w w1) := ⟨hp.loc fun k _ ho => ⟨e1.out.1 k ho, rfl⟩, hb⟩
 clear hp hb hz ht1
 obtain ⟨pp, hpp⟩ : ∃ pp, pp = w.heap.size + 2 := ⟨_, rfl⟩
 obtain ⟨fs, hfs⟩ : ∃ fs, fs = w.heap.size + 1 := ⟨_, rfl⟩
 obtain ⟨fb, hfb⟩ : ∃ fb, fb = w.heap.size := ⟨_, rfl⟩
 rw [← hpp, ← hfs] at HP
 rw [← hpp]
 have HP2 : Hid (yc w1 (fun b => tag1 b = 2) pp fs fb (Xu 0) ∧ Below w.heap.size w w1) := by rw [hfb]; exact HP
 clear hpp hfs hfb HP
 have i0 : (0 : Int) ≤ n := by omega
 go_wp2_with fail
 go_loopw [7] (fun i W => ∃ k : Nat, k ≤ n ∧ i = .int .i64 k ∧ yc W (fun b => tag1 b = 2) pp fs fb (Xu k) ∧ Turn (fun b => tag1 b = 2) w1 W) (fun i _ => n - (intOf i).toNat)
 case atStart => exact ⟨0, by omega, rfl, HP2.out.1, Turn.refl _ _⟩
 case round =>
  obtain ⟨k, hk, rfl, hP, hT⟩ := hrel
  have H := Lib.hid (And.intro hP hT)
  clear hP hT
  by_cases hlt : k < n
  ·have i1 : (k : Int) < n := by omega
   go_wp2_with fail
   refine (Jc _ _ pp fs fb _ H.out.1 k 2 k 2 rfl rfl (by omega) (.inl rfl) (J5 k k (Nat.le_refl _))).mono ?_
   rintro e w2 ⟨rfl, h1, h2⟩
   have H2 := Lib.hid (And.intro h1 h2)
   clear h1 h2
   have w1' : IntKind.i64.wrap ((k : Int) + 1) = k + 1 := by simp [IntKind.wrap, IntKind.bits, IntKind.signed]; omega
   go_wp2_with fail
   go_roundw
   case rel => exact ⟨k + 1, by omega, by go_num, H2.out.1, H.out.2.trans H2.out.2⟩
   case measure => simp [intOf]; omega
  ·obtain rfl : k = n := by omega
   go_wp2_with fail
   go_loopw [8] (fun i W => ∃ j : Nat, j ≤ m ∧ i = .int .i64 j ∧ yc W (fun b => tag1 b = 2) pp fs fb (Yy k j) ∧ Turn (fun b => tag1 b = 2) w1 W) (fun i _ => m - (intOf i).toNat)
   case atStart => exact ⟨0, by omega, rfl, H.out.1, H.out.2⟩
   case round =>
    obtain ⟨j, hj, rfl, hP, hT⟩ := hrel
    have H3 := Lib.hid (And.intro hP hT)
    clear hP hT H
    by_cases hlt2 : j < m
    ·have i2 : (j : Int) < m := by omega
     have w3' : IntKind.i64.wrap (16 + (j : Int)) = 16 + j := by simp [IntKind.wrap, IntKind.bits, IntKind.signed]; omega
     go_wp2_with fail
     refine (Jc _ _ pp fs fb _ H3.out.1 (16 + (j : Int)) 3 (16 + j) 3 (by omega) rfl (by omega) (.inr rfl) (zfn k j (16 + j) (by omega) (Nat.le_refl _))).mono ?_
     rintro e w2 ⟨rfl, h1, h2⟩
     have H2 := Lib.hid (And.intro h1 h2)
     clear h1 h2
     have w1' : IntKind.i64.wrap ((j : Int) + 1) = j + 1 := by simp [IntKind.wrap, IntKind.bits, IntKind.signed]; omega
     go_wp2_with fail
     go_roundw
     case rel => exact ⟨j + 1, by omega, by go_num, H2.out.1, H3.out.2.trans H2.out.2⟩
     case measure => simp [intOf]; omega
    ·obtain rfl : j = m := by omega
     go_wp2_with fail
     refine (zkr wr).mono ?_
     rintro e w3 ⟨rfl, hd, hb⟩
     obtain ⟨dp, hdp⟩ : ∃ dp, dp = wr.heap.size + 1 := ⟨_, rfl⟩
     rw [← hdp] at hd ⊢
     have I0 : Hid (∀ T, FrI w (w3.alloc (.cells Tryz.zeroCells94 T (0, 0))) (retag (retag tag1 wr 3) w3 0) pp fs fb dp w3.heap.size 0 (Yy k j) z8.none) := fun T => by
      have s3 : Step (fun _ => False) tag1 wr (retag tag1 wr 3) w3 := Step.renew 3 hb
      have hb4 := (Below.refl w3.heap.size w3).alloc (Nat.le_refl _) (.cells Tryz.zeroCells94 T (0, 0))
      have s4 : Step (fun _ => False) (retag tag1 wr 3) w3 (retag (retag tag1 wr 3) w3 0) (w3.alloc (.cells Tryz.zeroCells94 T (0, 0))) := Step.renew 0 hb4
      have hbr : Below w.heap.size w wr := HP2.out.2.trans (H3.out.2.Xc (fun b hb => by
       rcases Nat.lt_or_ge b w.heap.size with h | h
       ·rw [e1.out.2 b h] at hb; cases hb
       ·exact h) HP2.out.2.size)
      have hd3 : jg w3 (fun b => retag tag1 wr 3 b = 3) dp z8.none := hd.loc fun k _ ho => ⟨zx _ _ _ _ ho, rfl⟩
      have hsz := hbr.size
      have hsz3 := hb.size
      have F := Yq.start w3 T
      exact ⟨H3.out.1.loc ((s3.trans s4).keeps id), hd3.loc (s4.keeps id), (hbr.trans (hb.mono hsz)).trans (hb4.mono (by omega)), fun b hb' => by
       show (if b < w3.heap.size then (if b < wr.heap.size then tag1 b else 3) else 0) = 0
       rw [if_pos (by omega), if_pos (by omega)]
       exact e1.out.2 b hb', F.1, F.2, zx _ _ _ _ (Nat.le_refl _), by omega⟩
     clear hd hb hdp
     go_wp2_with fail
     have I1 := Lib.hid (I0.out 94)
     obtain ⟨wp, hwp⟩ : ∃ wp, wp = w3.heap.size := ⟨_, rfl⟩
     rw [← hwp] at I1 ⊢
     clear I0 hwp
     go_wp2_with fail
     go_loopw [11] (fun i W => ∃ k2 : Nat, k2 ≤ 64 ∧ i = .int .i64 k2 ∧ ∃ tag D, FrI w W tag pp fs fb dp wp (64 * k2) (Yy k j) D ∧ DOK D k2) (fun i _ => 64 - (intOf i).toNat)
     case atStart => exact ⟨0, by omega, rfl, _, _, I1.out, z8.zhm, fun j hj => by omega⟩
     case round =>
      obtain ⟨i, hi, rfl, tag, D, hI, hD⟩ := hrel
      have II := Lib.hid (And.intro hI hD)
      clear hI hD
      by_cases hlt3 : i < 64
      ·have i3 : (i : Int) < 64 := by omega
       have i4 : (0 : Int) ≤ i := by omega
       go_wp2_with fail
       go_loopw [12] (fun x W => ∃ y : Nat, y ≤ 64 ∧ x = .int .i64 y ∧ FrI w W tag pp fs fb dp wp (64 * i + y) (Yy k j) D) (fun x _ => 64 - (intOf x).toNat)
       case atStart => exact ⟨0, by omega, rfl, II.out.1⟩
       case round =>
        obtain ⟨y, hy, rfl, hI⟩ := hrel
        have IJ := Lib.hid hI
        by_cases hlt4 : y < 64
        ·have i5 : (y : Int) < 64 := by omega
         have i6 : (0 : Int) ≤ y := by omega
         have hc := hI.file (i * 64 + y) (by omega)
         rw [← Nat.add_assoc] at hc
         have c0 := hc.1
         have c1 := hc.2
         unfold bV at c0
         have u1 : IntKind.i64.wrap (3 * (i : Int)) = 3 * i := by simp [IntKind.wrap, IntKind.bits, IntKind.signed]; omega
         have u2 : IntKind.i64.wrap (3 * (i : Int) + y) = 3 * i + y := by simp [IntKind.wrap, IntKind.bits, IntKind.signed]; omega
         have u3 : IntKind.i64.wrap ((y : Int) + 1) = y + 1 := by simp [IntKind.wrap, IntKind.bits, IntKind.signed]; omega
         clear hI hc
         go_wp2_with fail
         go_roundw
         case rel =>
          refine ⟨y + 1, by omega, by go_num, ?_⟩
          exact IJ.out.store (by omega) _ (by
           rw [show (64 * i + y) / 64 = i by omega, show (64 * i + y) % 64 = y by omega, UInt8.toNat_ofNat']
           omega) _ (by omega)
         case measure => simp [intOf]; omega
        ·obtain rfl : y = 64 := by omega
         clear hI
         obtain ⟨W, hW⟩ : ∃ W, W = wr.drew := ⟨_, rfl⟩
         have hRD : W.rangeAt wp (2 + i * 64) ((fP i).map bV) := by rw [hW]; exact (World.rangeAt_drew _ _ _ _).2 (IJ.out.file.range (by omega) (by omega))
         have hTD : W.there wp (4098 + i * 64) 64 := by
          rw [hW]
          exact (World.there_drew _ _ _ _).2 fun j' hj' => by
           have := IJ.out.there (i * 64 + j') (by omega)
           rw [← Nat.add_assoc] at this
           exact this
         have hd : wr.drew = W := hW.symm
         have IW : Hid (FrI w (W.setCells wp (4098 + i * 64) ((fP i).map bV)) tag pp fs fb dp wp (64 * (i + 1)) (Yy k j) D) := by
          have := IJ.out.turn (W' := W) (by rw [hW]; exact (Turn.refl _ _).drew) (by rw [hW]; exact IJ.out.file) (by rw [hW]; exact (World.there_drew _ _ _ _).2 IJ.out.there)
          rw [show 64 * (i + 1) = 64 * i + 64 by omega]
          exact this.cells _ (by omega) _
         clear hW
         obtain ⟨cs, hcs⟩ : ∃ cs, cs = (fP i).map bV := ⟨_, rfl⟩
         have hlen : cs.length = 64 := by rw [hcs, List.length_map, ze6]
         have hone : ∀ v ∈ cs, v.oneCell' = true := fun v hv => by rw [hcs] at hv; obtain ⟨b, _, rfl⟩ := List.mem_map.1 hv; rfl
         rw [← hcs] at hRD IW
         have hinfo : (Tryz.prog.info? 91).map (·.size) = some 64 := by kernel_rfl
         have hu91 := Tryz.underlying91
         have hi91 : (Tryz.prog.info? 91).map (·.size) = some cs.length := by rw [hlen]; exact hinfo
         rw [← hd] at hRD hTD IW
         clear hd
         have HLE := Lib.hid (And.intro hcs hlen)
         clear hcs hinfo
         go_wp2_with fail
         go_region_held (fun W' => W'.rangeAt wp (2 + i * 64) cs ∧ W'.there wp (4098 + i * 64) 64) (go_keep_ranges) (fail)
         obtain ⟨W5, hW5⟩ : ∃ W5, W5 = wr.drew.setCells wp (4098 + i * 64) cs := ⟨_, rfl⟩
         rw [← hW5] at IW ⊢
         clear hW5 hu91 hi91 hlen hone hRD hTD
         obtain ⟨inf, hinf, hz, hsz, hby⟩ := zb3
         have HI := Lib.hid (And.intro hinf (And.intro hz (And.intro hsz hby)))
         clear hinf hz hsz hby
         have HE : Hid (SlAt (W5.alloc (.cells #[] 5)) 5 1 (.slice (some ⟨W5.heap.size, 0, none⟩) 0 0) 0 []) := ⟨rfl, .inr ⟨W5.heap.size, 0, 0, #[], rfl, heap_alloc_new W5 _, Nat.le_refl _, by unfold maxLen; omega, by simp, fun j u hu => by simp at hu⟩⟩
         have hRG : Hid (∀ j u, cs[j]? = some u → (W5.alloc (.cells #[] 5)).cell? ((⟨wp, 2 + i * 64, none⟩ : Addr).add j) = some u) := fun j u hu => by
          rw [add_plain, World.cell?_alloc_lt _ _ _ IW.out.lt]
          rw [HLE.out.1] at hu
          exact IW.out.file.range (by omega) (by omega) j u hu
         have u4 : IntKind.i64.wrap (96 + (i : Int)) = 96 + i := by simp [IntKind.wrap, IntKind.bits, IntKind.signed]; omega
         go_wp2_with (at_builtin; refine xh _ rfl _ _ 22 rfl 5 inf _ 1 1 Tryz.underlying22 HI.out.1 HI.out.2.1 HI.out.2.2.1 HI.out.2.2.2 rfl _ _ _ rfl HE.out ⟨wp, 2 + i * 64, none⟩ 64 64 cs rfl ?c1 hRG.out ?c3 ?c4 ?c5 ?c6)
         case c1 => exact HLE.out.2
         case c3 => intro v hv; rw [HLE.out.1] at hv; obtain ⟨b, _, rfl⟩ := List.mem_map.1 hv; rfl
         case c4 => unfold maxLen; omega
         case c5 => omega
         rintro v' w6 hs hg ho
         have hs' : ByAt w6 v' (fP i) := by
          unfold ByAt
          rw [ze6]
          rw [HLE.out.1] at hs
          simpa using hs
         have hb6 : Below W5.heap.size W5 w6 := by
          have h1 := Turn.xx (O := fun k => W5.heap.size ≤ k) hg (fun m hm => by simp [Value.ownBlock] at hm; left; omega)
          exact ((Below.refl _ _).alloc (Nat.le_refl _) _).trans (h1.Xc (fun i hi => hi) (by simp))
         have ho' : ∀ b, v'.ownBlock = some b → W5.heap.size ≤ b := fun b hb => by
          rcases ho with e | e <;> rw [hb] at e <;> simp [Value.ownBlock] at e <;> omega
         have IA := Lib.hid (IW.out.anew hb6)
         have WR : Hid (Calls Tryz.prog 55 #[.pointer (some ⟨dp, 0, none⟩), .int .i64 (96 + (i : Int)), v'] w6 fun e w7 => e = .returned (.int .i64 D.work.2) ∧ Turn (fun b => retag tag W5 0 b = 3) w6 w7 ∧ jg w7 (grow (fun b => retag tag W5 0 b = 3) w6) dp (if D.work.2 = 0 then D.work.1.write (96 + i) (fP i) else D.work.1)) := by
          obtain ⟨sb, off, c, mb, V, L, hDI⟩ := IA.out.disk
          exact zge w6 hDI (96 + (i : Int)) (96 + i) (by omega) (by omega) v' (fP i) hs'.reads (ze6 i) fun b hb e => by
           have e : retag tag W5 0 b = 3 := e
           rw [zx _ _ _ _ (ho' b hb)] at e
           cases e
         obtain ⟨a', c', hv', _, _⟩ := SlAt.form hs'
         rw [ze6] at hv'
         subst hv'
         have hw0 := II.out.2.write
         rw [hw0.1] at WR
         have HW := Lib.hid hw0.2
         clear hs' hs hg ho hb6 ho' hw0
         go_wp2_with fail
         refine WR.out.mono ?_
         rintro e w7 ⟨rfl, hT, hD7⟩
         rw [if_pos trivial] at hD7
         have I7 := Lib.hid (IA.out.zf7 (tag' := retag (retag tag W5 0) w6 3) (Step.retag hT rfl) (hD7.loc fun k _ ho => ⟨J4 ho, rfl⟩))
         clear hT hD7
         have u5 : IntKind.i64.wrap ((i : Int) + 1) = i + 1 := by simp [IntKind.wrap, IntKind.bits, IntKind.signed]; omega
         go_wp2_with fail
         go_roundw
         case rel => exact ⟨i + 1, by omega, by go_num, _, _, I7.out, HW.out⟩
         case measure => simp [intOf]; omega
      ·obtain rfl : i = 64 := by omega
       have FL : Hid (Calls Tryz.prog 56 #[.pointer (some ⟨dp, 0, none⟩)] wr fun e w' => e = .returned (.int .i64 0) ∧ FrI w w' tag pp fs fb dp wp (64 * 64) (Yy k j) D.flush) := by
        obtain ⟨sb, off, c, mb, V, L, hDI⟩ := II.out.1.disk
        refine (zgp wr hDI).mono ?_
        rintro e w' ⟨rfl, hT, hD⟩
        rw [II.out.2.1.work] at hD ⊢
        rw [if_pos rfl] at hD
        exact ⟨rfl, II.out.1.zf7 (Step.Zy (c := 3) hT rfl) hD⟩
       go_wp2_with fail
       refine FL.out.mono ?_
       rintro e w6 ⟨rfl, hI⟩
       have I6 := Lib.hid hI
       clear hI FL
       go_wp2_with fail
       refine (znd w6).mono ?_
       rintro e w7 ⟨rfl, hR, hb, hz⟩
       have s7 : Step (fun _ => False) tag w6 (retag tag w6 1) w7 := Step.renew 1 hb
       have SN := Lib.hid (ziv (w := w7) (tag := retag tag w6 1) (w6.heap.size + 1) w6.heap.size pp fs fb dp (hR.loc fun k _ ho => ⟨zx _ _ _ _ ho, rfl⟩) (I6.out.pool.loc (s7.keeps id)) (I6.out.disk.loc (s7.keeps id)))
       have H7 := Lib.hid (And.intro hb s7)
       clear hR hb hz s7
       unfold ptrV at SN
       go_wp2_with fail
       refine SN.out.mono ?_
       rintro e w8 ⟨q, tag8, rfl, hS, s8⟩
       have H8 := Lib.hid (And.intro hS s8)
       clear hS s8 SN
       go_wp2_with fail
       refine bodyPost_ret (v := .tuple #[.pointer (some ⟨q.sp, 0, none⟩), .pointer (some ⟨wp, 0, none⟩)]) (by simp [results, Tryz.results16, go_sem]) rfl ⟨q, tag8, D.flush, wp, rfl, H8.out.1, ?_, ?_, II.out.2.1, rfl, fun i hi => II.out.2.2 i hi⟩
       ·have b6 := I6.out.below
        have sz := b6.size
        have b7 := b6.trans (H7.out.1.mono sz)
        exact b7.trans (H8.out.2.turn.below.mono b7.size)
       ·intro b hb
        have sz := I6.out.below.size
        have e1 := (H7.out.2.keeps (c := 0) id b (by omega) (I6.out.tz b hb)).1
        have sz7 := H7.out.1.size
        exact (H8.out.2.keeps (c := 0) id b (by omega) e1).1
def zmh (l : List Ar) (a : Ar) (X : Int) (l' : List Ar) : Prop :=
 (a.yu ∧ anyA a l = false ∧ l.length < 16 ∧ X = 0 ∧ l'.Perm (l ++ [a]) ∧ l'.Pairwise (fun x y => ¬ y.from_ < x.from_)) ∨
 (X ≠ 0 ∧ l' = l ∧ ((¬ a.yu ∧ X = 1) ∨ (a.yu ∧ anyA a l = true ∧ X = 3) ∨ (a.yu ∧ anyA a l = false ∧ 16 ≤ l.length ∧ X = 4)))
section
variable {w w' : World} {tag tag' : Nat → Nat} {q : Sq} {x : za}
theorem za.zes {n : Nat} {pr : yf} (h : x.T n = some pr) : x.put n pr = x := by
 unfold za.put
 cases x
 simp only [za.mk.injEq, true_and] at *
 funext m
 split
 ·rename_i e; rw [e]; exact h.symm
 ·rfl
theorem zb.jr (h : zb w tag q x) {n : Nat} {pr : yf} (hn : n < 8) (hp : x.T n = some pr) {A : List Ar} {v : Value} (hb : Below w.heap.size w w') (hv : ArAt w' v A) (ho : ∀ b, v.ownBlock = some b → w.heap.size ≤ b) :
  zb (w'.setCell ⟨(q.U n).ap, 1, none⟩ v) (retag tag w (30 + n)) q (x.put n ⟨pr.T, A, pr.Q⟩) ∧ Step (fun c => c = 20 + n) tag w (retag tag w (30 + n)) (w'.setCell ⟨(q.U n).ap, 1, none⟩ v) := by
 obtain ⟨h1, h2, ⟨av, r1, r2, r3⟩, h4, h5, h6⟩ := h.procs n pr hn hp
 have t : Turn (fun b => tag b = 20 + n) w (w'.setCell ⟨(q.U n).ap, 1, none⟩ v) := (Turn.of_below hb).set (p := ⟨(q.U n).ap, 1, none⟩) (.inl h2) v
 have s : Step (fun c => c = 20 + n) tag w (retag tag w (30 + n)) (w'.setCell ⟨(q.U n).ap, 1, none⟩ v) := ⟨fun b hb => if_pos hb, t.mono fun k _ e => e⟩
 have hT : ∀ m, (x.put n ⟨pr.T, A, pr.Q⟩).T m = if m = n then some ⟨pr.T, A, pr.Q⟩ else x.T m := fun m => rfl
 have hapl := r1.lt
 refine ⟨h.turn s (by omega) (by omega) (fun m hm => ?_) (fun m hm => ?_) (.inl ⟨by omega, rfl⟩) (.inl ⟨by omega, rfl⟩) (.inl ⟨by omega, rfl⟩) (.inl ⟨by omega, rfl⟩) (.inl ⟨by omega, rfl, rfl⟩) (.inl ⟨by omega, rfl⟩) fun m pm hm hx => ?_, s⟩
 ·rw [hT]
  split
  ·rename_i e; rw [e, hp]; rfl
  ·rfl
 ·rw [hT, if_neg (by omega)]
  exact h.out m hm
 ·rw [hT] at hx
  by_cases e : m = n
  ·rw [if_pos e] at hx
   subst e
   have e2 := Option.some.inj hx
   subst e2
   have q4 := h4.lt
   have k4 := s.keeps (c := 40 + m) (by omega)
   refine .inr ⟨h1.loc (s.keeps (by omega)), (by rw [← h2]; exact if_pos hapl), ⟨v, ?_, ?_, fun b hb => ?_⟩, h4.keep fun b hb => ?_, (k4 _ q4.1 h5).1, (k4 _ q4.2.1 h6).1⟩
   ·refine ((r1.below hb).set (i := 1) (by omega) v).congr fun i hi => ?_
    rcases (by omega : i = 0 ∨ i = 1 ∨ i = 2) with rfl | rfl | rfl <;> rfl
   ·exact SlAt.keep hv fun b hb => Below.heap_setCell w' ⟨(q.U m).ap, 1, none⟩ v b (by have := ho b hb; show b ≠ (q.U m).ap; omega)
   ·exact zx _ _ _ _ (ho b hb)
   ·rcases hb with rfl | rfl
    ·exact (k4 _ q4.1 h5).2
    ·exact (k4 _ q4.2.1 h6).2
  ·rw [if_neg e] at hx
   exact .inl ⟨⟨by omega, by omega, by omega, by omega⟩, hx⟩
set_option maxRecDepth 100000 in
theorem zks (h : zb w tag q x) (n : Nat) (pr : yf) (hn : n < 8) (hp : x.T n = some pr) (a : Ar) (hwf : a.Wf) (hlen : pr.A.length ≤ 100) :
  Calls Tryz.prog 18 #[ptrV q.sp, .int .i64 n, a.enc] w fun e w' => ∃ X A' tag', e = .returned (.int .i64 X) ∧ zmh pr.A a X A' ∧ zb w' tag' q (x.put n ⟨pr.T, A', pr.Q⟩) ∧ Step (fun c => c = 20 + n) tag w tag' w' := by
 have hb0 := (Below.refl w.heap.size w).alloc (Nat.le_refl _) (.cells a.cells.toArray 32 (0, 0))
 have s0 : Step (fun c => c = 20 + n) tag w (retag tag w 0) (w.alloc (.cells a.cells.toArray 32 (0, 0))) := Step.anew hb0
 have h0 : zb (w.alloc (.cells a.cells.toArray 32 (0, 0))) (retag tag w 0) q x := h.step (Step.anew hb0)
 have F := Lib.hid (qm h0 (n : Int))
 have ev : Zk q x (n : Int) = .tuple #[ptrV (q.U n).ap, .bool true] := by
  unfold Zk
  rw [show ((n : Nat) : Int).toNat = n by omega, hp]
  have : (0 : Int) ≤ n := by omega
  simp [this]
 rw [ev] at F
 obtain ⟨av, r1, r2, r3⟩ := (h0.procs n pr hn hp).row
 have c1 := r1.cell (i := 1) (by omega)
 have z1 := r1.frozen 1
 dsimp only [Z7] at c1
 obtain ⟨W, hW⟩ : ∃ W, W = (w.alloc (.cells a.cells.toArray 32 (0, 0))).drew := ⟨_, rfl⟩
 have hbW : Below (w.alloc (.cells a.cells.toArray 32 (0, 0))).heap.size (w.alloc (.cells a.cells.toArray 32 (0, 0))) W := by rw [hW]; exact (Below.refl _ _).drew
 have q1 : W.cell? ⟨(q.U n).ap, 1, none⟩ = some av := by rw [hW]; exact c1
 have hSW : zb W (retag tag w 0) q x := h0.below hbW
 have sW : Step (fun c => c = 20 + n) tag w (retag tag w 0) W := s0.trans (Step.of_below hbW)
 have nb : W.heap[w.heap.size]? = some (.cells a.cells.toArray 32 (0, 0)) := by rw [hW]; exact heap_alloc_new w _
 have d : ∀ i, W.cell? ⟨w.heap.size, i, none⟩ = a.cells.toArray[i]? := fun i => cell_of_row _ _ i _ _ _ nb
 have d0 : W.cell? ⟨w.heap.size, 0, none⟩ = some (.int .i64 a.from_) := d 0
 have d1 : W.cell? ⟨w.heap.size, 1, none⟩ = some (.int .i64 a.pages) := d 1
 have d2 : W.cell? ⟨w.heap.size, 2, none⟩ = some (.bool a.write) := d 2
 have d3 : W.cell? ⟨w.heap.size, 3, none⟩ = some (.int .i64 a.kind) := d 3
 have d4 : W.cell? ⟨w.heap.size, 4, none⟩ = some (.int .i64 a.file) := d 4
 have d5 : W.cell? ⟨w.heap.size, 5, none⟩ = some (.int .i64 a.off) := d 5
 have AD := Lib.hid (zk3 W av pr.A (SlAt.rd (by
  obtain ⟨av', r1', r2', _⟩ := (hSW.procs n pr hn hp).row
  have := r1'.cell (i := 1) (by omega)
  rw [q1] at this
  cases this
  exact r2')) a hwf hlen)
 have CA : Hid (Calls Tryz.prog 63 #[av, a.enc] W fun e w2 => ∃ v' X A', e = .returned (.tuple #[v', .int .i64 X]) ∧ zmh pr.A a X A' ∧ (w2.cell? ⟨(q.U n).ap, 1, none⟩ = some av ∧ w2.frozen? ⟨(q.U n).ap, 1, none⟩ = false) ∧
   (w2.cell? ⟨w.heap.size, 0, none⟩ = some (.int .i64 a.from_) ∧ w2.cell? ⟨w.heap.size, 1, none⟩ = some (.int .i64 a.pages) ∧ w2.cell? ⟨w.heap.size, 2, none⟩ = some (.bool a.write) ∧ w2.cell? ⟨w.heap.size, 3, none⟩ = some (.int .i64 a.kind) ∧ w2.cell? ⟨w.heap.size, 4, none⟩ = some (.int .i64 a.file) ∧ w2.cell? ⟨w.heap.size, 5, none⟩ = some (.int .i64 a.off)) ∧
   (∃ aa cc nn, v' = .slice aa nn cc) ∧ (X = 0 → ∃ tag', zb (w2.setCell ⟨(q.U n).ap, 1, none⟩ v') tag' q (x.put n ⟨pr.T, A', pr.Q⟩) ∧ Step (fun c => c = 20 + n) tag w tag' (w2.setCell ⟨(q.U n).ap, 1, none⟩ v')) ∧
   (X ≠ 0 → ∃ tag', zb w2 tag' q (x.put n ⟨pr.T, A', pr.Q⟩) ∧ Step (fun c => c = 20 + n) tag w tag' w2)) := by
  refine AD.out.mono ?_
  rintro e w2 ⟨v', X, rfl, hb2, ho2, hpost⟩
  have rW := (hSW.procs n pr hn hp).row
  obtain ⟨av', r1', _, _⟩ := rW
  have hcell := hb2.cell (World.block_lt_of_cell? _ _ q1)
  have hfz : w2.frozen? ⟨(q.U n).ap, 1, none⟩ = false := (xk (a := ⟨(q.U n).ap, 1, none⟩) (hb2.block _ r1'.lt)).trans (r1'.frozen 1)
  have hd : ∀ i, w2.cell? ⟨w.heap.size, i, none⟩ = W.cell? ⟨w.heap.size, i, none⟩ := fun i => World.cell?_of_block (hb2.block _ (World.block_lt_of_cell? W ⟨w.heap.size, 0, none⟩ d0))
  have bad : X ≠ 0 → ∃ tag', zb w2 tag' q (x.put n ⟨pr.T, pr.A, pr.Q⟩) ∧ Step (fun c => c = 20 + n) tag w tag' w2 := fun _ => ⟨retag tag w 0, by
   show zb w2 (retag tag w 0) q (x.put n pr)
   rw [za.zes hp]
   exact hSW.below hb2, sW.trans (Step.of_below hb2)⟩
  by_cases hs : a.yu
  ·by_cases ha : anyA a pr.A = true
   ·obtain ⟨rfl, rfl⟩ := hpost.there hs ha
    exact ⟨_, 3, pr.A, rfl, .inr ⟨by omega, rfl, .inr (.inl ⟨hs, ha, rfl⟩)⟩, ⟨hcell.trans q1, hfz⟩, ⟨(hd 0).trans d0, (hd 1).trans d1, (hd 2).trans d2, (hd 3).trans d3, (hd 4).trans d4, (hd 5).trans d5⟩, ⟨_, _, _, rfl⟩, fun e => by omega, bad⟩
   ·have ha : anyA a pr.A = false := by cases h : anyA a pr.A <;> simp_all
    by_cases h16 : 16 ≤ pr.A.length
    ·obtain ⟨rfl, rfl⟩ := hpost.full hs ha h16
     exact ⟨_, 4, pr.A, rfl, .inr ⟨by omega, rfl, .inr (.inr ⟨hs, ha, h16, rfl⟩)⟩, ⟨hcell.trans q1, hfz⟩, ⟨(hd 0).trans d0, (hd 1).trans d1, (hd 2).trans d2, (hd 3).trans d3, (hd 4).trans d4, (hd 5).trans d5⟩, ⟨_, _, _, rfl⟩, fun e => by omega, bad⟩
    ·obtain ⟨rfl, A', hA, hperm, hsrt⟩ := hpost.done hs ha (by omega)
     obtain ⟨aa, cc, hv, _, _⟩ := SlAt.form hA
     have K := hSW.jr hn hp hb2 hA ho2
     exact ⟨v', 0, A', rfl, .inl ⟨hs, ha, by omega, rfl, hperm, hsrt⟩, ⟨hcell.trans q1, hfz⟩, ⟨(hd 0).trans d0, (hd 1).trans d1, (hd 2).trans d2, (hd 3).trans d3, (hd 4).trans d4, (hd 5).trans d5⟩, ⟨_, _, _, hv⟩, fun _ => ⟨_, K.1, sW.trans K.2⟩, fun e => absurd rfl e⟩
  ·obtain ⟨rfl, rfl⟩ := hpost.arg hs
   exact ⟨_, 1, pr.A, rfl, .inr ⟨by omega, rfl, .inl ⟨hs, rfl⟩⟩, ⟨hcell.trans q1, hfz⟩, ⟨(hd 0).trans d0, (hd 1).trans d1, (hd 2).trans d2, (hd 3).trans d3, (hd 4).trans d4, (hd 5).trans d5⟩, ⟨_, _, _, rfl⟩, fun e => by omega, bad⟩
 have hd : (w.alloc (.cells a.cells.toArray 32 (0, 0))).drew = W := hW.symm
 have ec : a.cells.toArray = #[.int .i64 a.from_, .int .i64 a.pages, .bool a.write, .int .i64 a.kind, .int .i64 a.file, .int .i64 a.off] := rfl
 obtain ⟨ava, avc, hav, _, _⟩ := SlAt.form r2
 rw [ec] at F hd c1 z1
 rw [hav] at q1 CA c1
 unfold ptrV at F ⊢
 unfold Ar.enc at CA ⊢
 clear h hp hb0 s0 h0 ev r1 r2 r3 hbW hSW sW nb d AD hW ec hwf hlen hav c1 z1
 go_enter Tryz.func18, Tryz.ntmps18
 go_wp2_with fail
 refine F.out.mono ?_
 rintro e u ⟨rfl, hu⟩
 have hu := hu.symm
 subst hu
 clear F
 go_wp2_with fail
 go_region_held (fun W' => W'.cell? ⟨(q.U n).ap, 1, none⟩ = some (.slice ava pr.A.length avc) ∧ W'.cell? ⟨w.heap.size, 0, none⟩ = some (.int .i64 a.from_) ∧ W'.cell? ⟨w.heap.size, 1, none⟩ = some (.int .i64 a.pages) ∧ W'.cell? ⟨w.heap.size, 2, none⟩ = some (.bool a.write) ∧ W'.cell? ⟨w.heap.size, 3, none⟩ = some (.int .i64 a.kind) ∧ W'.cell? ⟨w.heap.size, 4, none⟩ = some (.int .i64 a.file) ∧ W'.cell? ⟨w.heap.size, 5, none⟩ = some (.int .i64 a.off)) (go_keep)
  ((go_at_call 63; refine CA.out.mono ?_; rintro e w2 ⟨v', X, A', rfl, hAR, ⟨g1, gz⟩, ⟨g2, g3, g4, g5, g6, g7⟩, ⟨aa, cc, nn, rfl⟩, HX⟩; have hX := Lib.hid HX; have hA := Lib.hid hAR; clear HX hAR))
 clear q1 d0 d1 d2 d3 d4 d5 g2 g3 g4 g5 g6 g7 hd CA
 by_cases hX0 : X = 0
 ·subst hX0
  go_wp2_with fail
  go_ret
  obtain ⟨tag', k1, k2⟩ := hX.out.1 trivial
  exact ⟨0, rfl, A', hA.out, tag', k1, k2⟩
 ·go_wp2_with fail
  go_ret
  obtain ⟨tag', k1, k2⟩ := hX.out.2 hX0
  exact ⟨X, A', tag', rfl, hA.out, k1, k2⟩
end
section
variable {w w' : World} {tag tag' : Nat → Nat} {q : Sq} {x : za}
theorem zeq {tag : Nat → Nat} {w : World} {c b : Nat} (h : tag b = c ∨ w.heap.size ≤ b) : retag tag w c b = c := by
 unfold retag
 split
 ·rcases h with h | h
  ·exact h
  ·omega
 ·rfl
theorem zb.back' (h : zb w tag q x) {S S' : List Nat} {V' : List (Int × Value)} {B' : Int → List (Int × Int)} (hS : ∀ b ∈ S, tag b = 4) (t : Touch S w w') (hn : ∀ b ∈ S', b ∈ S ∨ w.heap.size ≤ b) (hB : vo KF w' q.bp q.bm S' V' B') :
  zb w' (retag tag w 4) q { x with B := B' } ∧ Step (fun c => c = 4) tag w (retag tag w 4) w' := by
 have s : Step (fun c => c = 4) tag w (retag tag w 4) w' := Step.retag (Turn.touch (O := fun b => tag b = 4) t fun k hk => .inl (hS k hk)) rfl
 exact ⟨h.turn s (by omega) (by omega) (fun _ _ => rfl) h.out (.inl ⟨by omega, rfl⟩) (.inl ⟨by omega, rfl⟩) (.inl ⟨by omega, rfl⟩) (.inr ⟨S', V', hB, fun b hb => zeq ((hn b hb).imp_left (hS b))⟩) (.inl ⟨by omega, rfl, rfl⟩) (.inl ⟨by omega, rfl⟩) fun _ _ _ hx => .inl ⟨⟨by omega, by omega, by omega, by omega⟩, hx⟩, s⟩
theorem zb.swap' (h : zb w tag q x) {S S' : List Nat} {V' : List Value} {L' : List (List (Int × Int))} (hS : ∀ b ∈ S, tag b = 6) (t : Touch S w w') (hn : ∀ b ∈ S', b ∈ S ∨ w.heap.size ≤ b) (hL : je w' q.wp S' V' L') :
  zb w' (retag tag w 6) q { x with S := L' } ∧ Step (fun c => c = 6) tag w (retag tag w 6) w' := by
 have s : Step (fun c => c = 6) tag w (retag tag w 6) w' := Step.retag (Turn.touch (O := fun b => tag b = 6) t fun k hk => .inl (hS k hk)) rfl
 exact ⟨h.turn s (by omega) (by omega) (fun _ _ => rfl) h.out (.inl ⟨by omega, rfl⟩) (.inl ⟨by omega, rfl⟩) (.inl ⟨by omega, rfl⟩) (.inl ⟨by omega, rfl⟩) (.inl ⟨by omega, rfl, rfl⟩) (.inr ⟨S', V', hL, fun b hb => zeq ((hn b hb).imp_left (hS b))⟩) fun _ _ _ hx => .inl ⟨⟨by omega, by omega, by omega, by omega⟩, hx⟩, s⟩
theorem zb.zhd (h : zb w tag q x) {P' : zk} (t : Turn (fun b => tag b = 2) w w') (hP : yc w' (fun b => tag b = 2) q.pp q.fs q.fb P') : zb w' tag q { x with P := P' } ∧ Step (fun c => c = 2) tag w tag w' := by
 have s : Step (fun c => c = 2) tag w tag w' := Step.Zy (c := 2) t rfl
 exact ⟨h.turn s (by omega) (by omega) (fun _ _ => rfl) h.out (.inl ⟨by omega, rfl⟩) (.inr hP) (.inl ⟨by omega, rfl⟩) (.inl ⟨by omega, rfl⟩) (.inl ⟨by omega, rfl, rfl⟩) (.inl ⟨by omega, rfl⟩) fun _ _ _ hx => .inl ⟨⟨by omega, by omega, by omega, by omega⟩, hx⟩, s⟩
theorem zb.ram' (h : zb w tag q x) {R' : RamS} (t : Turn (fun b => tag b = 1) w w') (hR : uj w' (fun b => tag b = 1) q.rp q.rb R') : zb w' tag q { x with R := R' } ∧ Step (fun c => c = 1) tag w tag w' := by
 have s : Step (fun c => c = 1) tag w tag w' := Step.Zy (c := 1) t rfl
 exact ⟨h.turn s (by omega) (by omega) (fun _ _ => rfl) h.out (.inr hR) (.inl ⟨by omega, rfl⟩) (.inl ⟨by omega, rfl⟩) (.inl ⟨by omega, rfl⟩) (.inl ⟨by omega, rfl, rfl⟩) (.inl ⟨by omega, rfl⟩) fun _ _ _ hx => .inl ⟨⟨by omega, by omega, by omega, by omega⟩, hx⟩, s⟩
theorem zb.zf7 (h : zb w tag q x) {D' : z8} (t : Turn (fun b => tag b = 3) w w') (hD : jg w' (fun b => tag b = 3) q.dp D') : zb w' tag q { x with D := D' } ∧ Step (fun c => c = 3) tag w tag w' := by
 have s : Step (fun c => c = 3) tag w tag w' := Step.Zy (c := 3) t rfl
 exact ⟨h.turn s (by omega) (by omega) (fun _ _ => rfl) h.out (.inl ⟨by omega, rfl⟩) (.inl ⟨by omega, rfl⟩) (.inr hD) (.inl ⟨by omega, rfl⟩) (.inl ⟨by omega, rfl, rfl⟩) (.inl ⟨by omega, rfl⟩) fun _ _ _ hx => .inl ⟨⟨by omega, by omega, by omega, by omega⟩, hx⟩, s⟩
theorem zb.zmg (h : zb w tag q x) {l : zbv} {r : zdg} (t : Turn (fun b => tag b = 5) w w') (hC : xn w' q.cp q.c1 q.c2 l r) : zb w' tag q { x with CL := l, CR := r } ∧ Step (fun c => c = 5) tag w tag w' := by
 have s : Step (fun c => c = 5) tag w tag w' := Step.Zy (c := 5) t rfl
 exact ⟨h.turn s (by omega) (by omega) (fun _ _ => rfl) h.out (.inl ⟨by omega, rfl⟩) (.inl ⟨by omega, rfl⟩) (.inl ⟨by omega, rfl⟩) (.inl ⟨by omega, rfl⟩) (.inr ⟨hC, h.cache.2⟩) (.inl ⟨by omega, rfl⟩) fun _ _ _ hx => .inl ⟨⟨by omega, by omega, by omega, by omega⟩, hx⟩, s⟩
end
section
variable {w w' : World} {tag tag' : Nat → Nat} {q : Sq} {x : za}
set_option maxRecDepth 100000 in
theorem zd4 (h : zb w tag q x) (u : Nat) (hu : 2 ≤ u ∧ u ≤ 5) (f : Nat) (hn : x.P.next true = some f) (hf : f < 1024) (hb : x.R.bad f = false) :
  Calls Tryz.prog 213 #[ptrV q.sp, .int .i64 u, .func (.func 163) #[ptrV q.rp] #[]] w fun e w' => e = .returned (.tuple #[.int .i64 f, .int .i64 0]) ∧ zb w' tag q { x with P := x.P.set f u, R := x.R.write f 0 (List.replicate 64 0) } ∧ Step (fun c => c = 1 ∨ c = 2) tag w tag w' := by
 have A : Hid (Calls Tryz.prog 43 #[.pointer (some ⟨q.pp, 0, none⟩), .int .i64 u, .int .i64 0, .bool true] w fun e w1 => e = .returned (.tuple #[.int .i64 f, .int .i64 0]) ∧ zb w1 tag q { x with P := x.P.set f u } ∧ Step (fun c => c = 2) tag w tag w1) := by
  refine (Jg w _ _ _ _ _ h.pool u u rfl hu.1 hu.2).mono ?_
  rintro e w1 ⟨rfl, h1, h2, _⟩
  rw [hn] at h1 ⊢
  have k := h.zhd h2 h1
  exact ⟨rfl, k.1, k.2⟩
 have c2 : w.cell? ⟨q.sp, 2, none⟩ = some (.pointer (some ⟨q.pp, 0, none⟩)) := h.row.cell (i := 2) (by omega)
 unfold ptrV
 clear h
 go_enter Tryz.func213, Tryz.ntmps213
 go_wp2_with fail
 refine A.out.mono ?_
 rintro e w1 ⟨rfl, h1, s1⟩
 have Z : Hid (Calls Tryz.prog 163 #[.pointer (some ⟨q.rp, 0, none⟩), .int .i64 f] w1 fun e w2 => e = .returned (.int .i64 0) ∧ zb w2 tag q { x with P := x.P.set f u, R := x.R.write f 0 (List.replicate 64 0) } ∧ Step (fun c => c = 1 ∨ c = 2) tag w tag w2) := by
  refine (zc6 w1 _ _ _ _ h1.ram f f rfl hf hb).mono ?_
  rintro e w2 ⟨rfl, h2, h3⟩
  have k := h1.ram' h3.1 h2
  exact ⟨rfl, k.1, (s1.mono fun c hc => .inr hc).trans (k.2.mono fun c hc => .inl hc)⟩
 clear h1 s1 A c2
 go_wp2_with fail
 refine Z.out.mono ?_
 rintro e w2 ⟨rfl, h2, s2⟩
 have X := Lib.hid (And.intro h2 s2)
 clear h2 s2
 go_wp2_with fail
 exact bodyPost_ret (v := .tuple #[.int .i64 f, .int .i64 0]) (by simp [results, Tryz.results213, go_sem]) rfl ⟨rfl, X.out⟩
theorem Z4 (h : zb w tag q x) (u : Nat) (hu : 2 ≤ u ∧ u ≤ 5) (hn : x.P.next true = none) (fv : Value) :
  Calls Tryz.prog 213 #[ptrV q.sp, .int .i64 u, fv] w fun e w' => e = .returned (.tuple #[.int .i64 0, .int .i64 4]) ∧ Below w.heap.size w w' := by
 have A : Hid (Calls Tryz.prog 43 #[.pointer (some ⟨q.pp, 0, none⟩), .int .i64 u, .int .i64 0, .bool true] w fun e w1 => e = .returned (.tuple #[.int .i64 0, .int .i64 4]) ∧ Below w.heap.size w w1) := by
  refine (Jg w _ _ _ _ _ h.pool u u rfl hu.1 hu.2).mono ?_
  rintro e w1 ⟨rfl, _, _, h2⟩
  rw [hn]
  exact ⟨rfl, h2 hn⟩
 have c2 : w.cell? ⟨q.sp, 2, none⟩ = some (.pointer (some ⟨q.pp, 0, none⟩)) := h.row.cell (i := 2) (by omega)
 unfold ptrV
 clear h hn
 go_enter Tryz.func213, Tryz.ntmps213
 go_wp2_with fail
 refine A.out.mono ?_
 rintro e w1 ⟨rfl, h1⟩
 have X := Lib.hid h1
 clear h1
 go_wp2_with fail
 exact bodyPost_ret (v := .tuple #[.int .i64 0, .int .i64 4]) (by simp [results, Tryz.results213, go_sem]) rfl ⟨rfl, X.out⟩
end
section
variable {P : Program} {md : Region.Mode} {ops : Array Oper} {Q : Exit → Act → World → Prop} {S : World → Prop} {fuel : Nat} {listed : Array Bool} {a : Act} {w : World}
theorem zw {oi : Oper} (i d : Nat) (hi : ops[i]? = some oi) (hd : oi.dst = some d) (hs : Region.noSelect ops = true) (hf : Region.free md ops listed i = true) (hr : (Region.ready md ops listed).contains i = true)
  (hQ : ∀ c a w, Q (.panic c) (a.put oi.dst undef) w → Q (.panic c) a w) (hw : Region.wanted oi (yielded ops a.tmps) = false) (hS : S w)
  (h : wpAnyH P md ops Q S fuel (listed.setIfInBounds i true) (a.put (some d) undef) w) : wpAnyH P md ops Q S (fuel + 1) listed a w :=
 wpAnyH_take (v := undef) hi hs hf hr hQ (Or.inr ⟨hw, rfl⟩) hS (by rw [hd]; exact h)
theorem zg {oi : Oper} {v : Value} (i d : Nat) (hi : ops[i]? = some oi) (hd : oi.dst = some d) (hs : Region.noSelect ops = true) (hf : Region.free md ops listed i = true) (hr : (Region.ready md ops listed).contains i = true)
  (hQ : ∀ c a w, Q (.panic c) (a.put oi.dst v) w → Q (.panic c) a w) (hy : YieldsIf P ops S oi v a) (hS : S w)
  (h : wpAnyH P md ops Q S fuel (listed.setIfInBounds i true) (a.put (some d) v) w) : wpAnyH P md ops Q S (fuel + 1) listed a w :=
 wpAnyH_take (v := v) hi hs hf hr hQ hy hS (by rw [hd]; exact h)
end
end Go.Proofs.YtnhdmnijiphjjaaGreat
