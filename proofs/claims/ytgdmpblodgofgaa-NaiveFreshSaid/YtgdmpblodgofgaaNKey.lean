/- How the model finds a key of the plain manager's map of bytes: a struct of two whole numbers. -/
import Derived.Test.YtgdmpblodgofgaaRows
import Derived.Test.YtgdmpblodgofgaaBase
namespace Go.Proofs.Ytgdmpblodgofgaa
open Go.RowKit

structure Place where
  o : Nat
  a : Nat
  deriving DecidableEq
def encP (p : Place) : Value := .agg #[.int .u64 (p.o : Int), .int .u64 (p.a : Int)]
theorem eq_u (n : Nat) (a b : Nat) (w : World) : (Op.equalIn (n + 1) 23 (.int .u64 (a : Int)) (.int .u64 (b : Int))).run Try.prog w = .ok (decide (a = b)) w := by
  have e1 : ((a : Int) == (b : Int)) = decide (a = b) := Bool.eq_iff_iff.2 (by rw [beq_iff_eq, decide_eq_true_eq]; omega)
  simp [Op.equalIn, run_underlying Try.underlying23, e1]
theorem part_u0 (a b : Value) (w : World) : (part 23 #[a, b] 0).run Try.prog w = .ok a w := by
  simp [part, isAgg, run_underlying Try.underlying23]
theorem part_u1 (a b : Value) (w : World) : (part 23 #[a, b] 1).run Try.prog w = .ok b w := by
  simp [part, isAgg, run_underlying Try.underlying23]
theorem eq_place (n : Nat) (x y : Place) (w : World) : (Op.equalIn (n + 2) 113 (encP x) (encP y)).run Try.prog w = .ok (decide (x = y)) w := by
  have hp : (program).run Try.prog w = .ok Try.prog w := rfl
  have e := eq_u n
  obtain ⟨x1, x2⟩ := x
  obtain ⟨y1, y2⟩ := y
  unfold Op.equalIn
  simp [encP, run_underlying Try.underlying113, hp, part_u0, part_u1, e]
  by_cases h1 : x1 = y1 <;> by_cases h2 : x2 = y2 <;> simp [h1, h2]
theorem check_u' (n : Nat) (em : Bool) (a : Nat) (w : World) : (Instr.checkKey em (n + 1) 23 (.int .u64 (a : Int))).run Try.prog w = .ok () w := check_u Try.underlying23 w em n a
theorem check_place (n : Nat) (em : Bool) (x : Place) (w : World) : (Instr.checkKey em (n + 2) 113 (encP x)).run Try.prog w = .ok () w := by
  have e := check_u' n em
  unfold Instr.checkKey
  simp [encP, run_underlying Try.underlying113, part_u0, part_u1, e]
theorem sameNow_place (fs : Array Field) (x y : Place) : Instr.sameNow (.struct fs) (encP x) (encP y) = none := rfl
theorem asking_place (x : Place) (w : World) : ∀ (es : List MapEntry) (ks : List Place) (i : Nat), es.map (·.key) = ks.map encP →
    (Instr.findAsking 113 (encP x) es i).run Try.prog w = .ok ((ks.idxOf? x).bind fun j => (es[j]?).map fun e => (i + j, e.val)) w
  | [], [], i, _ => rfl
  | [], _ :: _, _, h => by simp at h
  | _ :: _, [], _, h => by simp at h
  | e :: es, y :: ks, i, h => by
    simp only [List.map_cons, List.cons.injEq] at h
    obtain ⟨h1, h2⟩ := h
    have ih := asking_place x w es ks (i + 1) h2
    have he : (Op.equal 113 (encP x) (encP y)).run Try.prog w = .ok (decide (x = y)) w := eq_place 9998 x y w
    simp only [Instr.findAsking, h1, Sem.run_bind, he, Result.andThen_ok]
    by_cases hy : x = y
    · subst hy
      simp [List.idxOf?_cons]
    · have hb : (y == x) = false := by simpa using Ne.symm hy
      simp only [hy, decide_false, Bool.false_eq_true, if_false, List.idxOf?_cons, hb, ih]
      cases ks.idxOf? x with
      | none => rfl
      | some j => simp [Nat.add_assoc, Nat.add_comm 1 j]
theorem mkey_place : MKey Try.prog 113 encP where
  check w em x := check_place 9998 em x w
  find w x es ks h := by
    cases es with
    | nil =>
      cases ks with
      | nil => simp [Instr.findKey, run_underlying Try.underlying113, Instr.findNow]
      | cons _ _ => simp at h
    | cons e es =>
      cases ks with
      | nil => simp at h
      | cons y ks =>
        have h1 : e.key = encP y := by simp at h; exact h.1
        have ha := asking_place x w (e :: es) (y :: ks) 0 h
        simp only [Nat.zero_add] at ha
        simp only [Instr.findKey, run_underlying Try.underlying113, Sem.run_bind, Result.andThen_ok, Instr.findNow, h1, sameNow_place, ha]
  stays w x := by
    have e : Instr.sameBits (9998 + 2) (encP x) (encP x) = true := by
      simp [encP, Instr.sameBits]
    unfold Instr.keyThatStays
    rw [show (10000 : Nat) = 9998 + 2 from rfl, e]; rfl
end Go.Proofs.Ytgdmpblodgofgaa
