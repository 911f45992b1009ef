/- Keys of maps: whole numbers, and structs of two whole numbers. -/
import Derived.Test.YtflbidbnbfndgaaMapLib
import Derived.Test.YtflbidbnbfndgaaProg
import Derived.KernelRfl
namespace Go.Proofs.Ytflbidbnbfndgaa
open Go Go.RowKit

def encInt (x : Int) : Value := .int .i64 x
def encPair (x : Int × Int) : Value := .agg #[.int .i64 x.1, .int .i64 x.2]

theorem sameBits_int (n : Nat) (k : IntKind) (a : Int) : Instr.sameBits n (.int k a) (.int k a) = true := by cases n <;> simp [Instr.sameBits]
theorem sameBits_pair (n : Nat) (k : Int × Int) : Instr.sameBits (n + 1) (encPair k) (encPair k) = true := by simp [encPair, Instr.sameBits, sameBits_int]

theorem key_int {P : Program} {K : TypeId} (hK : P.underlying K = some (.int .i64)) : KeyLaw P K encInt where
  find k es ks h w := by
    have key : ∀ (es : List MapEntry) (ks : List Int) (i : Nat), es.map (·.key) = ks.map encInt → Instr.findNow (.int .i64) (encInt k) es i = some ((idxL (ks.map fun x => (x, ())) k).bind fun j => (es[j]?).map fun e => (i + j, e.val)) := by
      intro es
      induction es with
      | nil => intro ks i h; cases ks with
        | nil => rfl
        | cons _ _ => simp at h
      | cons e es ih =>
        intro ks i h
        cases ks with
        | nil => simp at h
        | cons x ks =>
          simp only [List.map_cons, List.cons.injEq] at h
          obtain ⟨h1, h2⟩ := h
          by_cases hx : k = x
          · subst hx
            simp [Instr.findNow, h1, encInt, Instr.sameNow, idxL]
          · have hs : Instr.sameNow (.int .i64) (encInt k) e.key = some false := by rw [h1]; simp [encInt, Instr.sameNow, hx]
            unfold Instr.findNow
            rw [hs]
            simp only [ih ks (i + 1) h2, List.map_cons, idxL, hx, if_false]
            cases idxL (ks.map fun x => (x, ())) k with
            | none => rfl
            | some j => simp only [Option.map_some, Option.bind_some, List.getElem?_cons_succ]; congr 2; funext e; simp; omega
    have := key es ks 0 h
    simp only [Nat.zero_add] at this
    simp [Instr.findKey, run_underlying hK, this]
  check k b w := by
    have h : ∀ n, (Instr.checkKey b (n + 1) K (encInt k)).run P w = .ok () w := fun n => by simp [Instr.checkKey, run_underlying hK, encInt]
    exact h 9999
  same k := sameBits_int 10000 .i64 k

/-- A struct type of two whole numbers: two values are the same when both numbers are. -/
structure PairType (P : Program) (K : TypeId) : Prop where
  eq : ∀ (x y : Int × Int) w, (Op.equal K (encPair x) (encPair y)).run P w = .ok (x.1 == y.1 && x.2 == y.2) w
  check : ∀ (k : Int × Int) (b : Bool) w, (Instr.checkKey b 10000 K (encPair k)).run P w = .ok () w
  desc : ∃ fs, P.underlying K = some (.struct fs)

theorem key_pair {P : Program} {K : TypeId} (T : PairType P K) : KeyLaw P K encPair where
  find k es ks h w := by
    obtain ⟨fs, hK⟩ := T.desc
    have key : ∀ (es : List MapEntry) (ks : List (Int × Int)) (i : Nat), es.map (·.key) = ks.map encPair → (Instr.findAsking K (encPair k) es i).run P w = .ok ((idxL (ks.map fun x => (x, ())) k).bind fun j => (es[j]?).map fun e => (i + j, e.val)) w := by
      intro es
      induction es with
      | nil => intro ks i h; cases ks with
        | nil => simp [Instr.findAsking, idxL]
        | cons _ _ => simp at h
      | cons e es ih =>
        intro ks i h
        cases ks with
        | nil => simp at h
        | cons x ks =>
          simp only [List.map_cons, List.cons.injEq] at h
          obtain ⟨h1, h2⟩ := h
          by_cases hx : k = x
          · subst hx
            simp [Instr.findAsking, h1, T.eq, idxL]
          · have hs : (k.1 == x.1 && k.2 == x.2) = false := by
              rw [Bool.and_eq_false_iff]
              by_cases h3 : k.1 = x.1
              · right; rw [beq_eq_false_iff_ne]; exact fun h4 => hx (Prod.ext h3 h4)
              · left; rw [beq_eq_false_iff_ne]; exact h3
            simp only [Instr.findAsking, h1, Sem.run_bind, T.eq, Result.andThen_ok, hs, Bool.false_eq_true, if_false, ih ks (i + 1) h2, List.map_cons, idxL, hx]
            cases idxL (ks.map fun x => (x, ())) k with
            | none => rfl
            | some j => simp only [Option.map_some, Option.bind_some, List.getElem?_cons_succ]; congr 2; funext e; simp; omega
    have := key es ks 0 h
    simp only [Nat.zero_add] at this
    cases es with
    | nil =>
      cases ks with
      | nil => simp [Instr.findKey, run_underlying hK, Instr.findNow, idxL]
      | cons _ _ => simp at h
    | cons e es => simp [Instr.findKey, run_underlying hK, Instr.findNow, Instr.sameNow, this]
  check k b w := T.check k b w
  same k := sameBits_pair 9999 k
end Go.Proofs.Ytflbidbnbfndgaa
