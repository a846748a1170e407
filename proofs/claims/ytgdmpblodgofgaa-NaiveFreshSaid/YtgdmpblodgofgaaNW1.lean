/- bits.In, bits.Pow, the nil ledger, and what the plain manager says of bytes that are asked for. -/
import Derived.Test.YtgdmpblodgofgaaNSt
import Derived.Laws.BitsAllLaws
namespace Go.Proofs.Ytgdmpblodgofgaa
open Go.RowKit

def U64 : Nat := 18446744073709551616
def inB (at_ n size : Nat) : Bool := decide (n ≤ size) && decide (at_ ≤ size - n)
set_option maxHeartbeats 400000 in
theorem in_any (at_ n size : Nat) (hs : size < 18446744073709551616) (w : World) :
    Calls Try.prog 100 #[.int .u64 (at_ : Int), .int .u64 (n : Int), .int .u64 (size : Int)] w fun e w' => e = .returned (.bool (inB at_ n size)) ∧ w = w' := by
  unfold inB
  by_cases h : n ≤ size
  · have h1 : decide ((n : Int) ≤ (size : Int)) = true := by simpa using h
    have h2 : decide (n ≤ size) = true := by simpa using h
    by_cases h3 : at_ ≤ size - n
    · have h4 : decide ((at_ : Int) ≤ (size : Int) - (n : Int)) = true := by simp; omega
      have h5 : decide (at_ ≤ size - n) = true := by simpa using h3
      rw [h2, h5]
      go_enter Try.func100, Try.ntmps100
      go_wp2
      go_ret
      exact ⟨rfl, rfl⟩
    · have h4 : decide ((at_ : Int) ≤ (size : Int) - (n : Int)) = false := by simp; omega
      have h5 : decide (at_ ≤ size - n) = false := by simpa using h3
      rw [h2, h5]
      go_enter Try.func100, Try.ntmps100
      go_wp2
      go_ret
      exact ⟨rfl, rfl⟩
  · have h1 : decide ((n : Int) ≤ (size : Int)) = false := by simpa using h
    have h2 : decide (n ≤ size) = false := by simpa using h
    rw [h2, Bool.false_and]
    go_enter Try.func100, Try.ntmps100
    go_wp2
    go_ret
    exact ⟨rfl, rfl⟩
def powB (n : Nat) : Bool := decide (n ≠ 0) && decide (n &&& (n - 1) = 0)
set_option maxHeartbeats 400000 in
theorem pow_any (n : Nat) (h1 : n < 18446744073709551616) (w : World) :
    Calls Try.prog 58 #[.int .u64 (n : Int)] w fun e w' => e = .returned (.bool (powB n)) ∧ w = w' := by
  unfold powB
  by_cases h : n = 0
  · subst h
    go_enter Try.func58, Try.ntmps58
    go_wp2
    go_ret
    exact ⟨rfl, rfl⟩
  · have hb : ((n : Int) != 0) = true := by simp; omega
    have h0 : 0 < n := by omega
    have hbits : bits .and .u64 (n : Int) ((n : Int) - 1) = ((n &&& (n - 1) : Nat) : Int) := by
      rw [show (n : Int) - 1 = ((n - 1 : Nat) : Int) by omega]
      exact u64_and_nat n (n - 1) h1 (by omega)
    have hd : decide (n ≠ 0) = true := by simpa using h
    have he : (((n &&& (n - 1) : Nat) : Int) == 0) = decide (n &&& (n - 1) = 0) := Bool.eq_iff_iff.2 (by rw [beq_iff_eq, decide_eq_true_eq]; omega)
    rw [hd, Bool.true_and]
    have HE := Lib.hid he
    have HB := Lib.hid hbits
    clear he hbits
    go_enter Try.func58, Try.ntmps58
    go_wp2
    go_ret
    exact ⟨by rw [← HE.out, ← HB.out]; rfl, rfl⟩

/-! ### the ledger that there is none of -/
set_option maxHeartbeats 400000 in
theorem begin_nil (id : Int) (w : World) :
    Calls Try.prog 57 #[.pointer none, .int .u64 id] w fun e w' => e = .returned (.bool false) ∧ w = w' := by
  go_enter Try.func57, Try.ntmps57
  go_wp2
  go_ret
  exact ⟨rfl, rfl⟩
set_option maxHeartbeats 400000 in
theorem of_nil (id : Int) (w : World) :
    Calls Try.prog 95 #[.pointer none, .int .u64 id] w fun e w' => e = .returned (.pointer none) ∧ w = w' := by
  go_enter Try.func95, Try.ntmps95
  go_wp2
  go_ret
  exact ⟨rfl, rfl⟩
set_option maxHeartbeats 400000 in
theorem rewind_nil (id : Int) (c l a o p : Value) (w : World) :
    Calls Try.prog 62 #[.pointer none, .int .u64 id, .agg #[c, l, a, o, p]] w fun e w' => e = .returned (.int .i64 2) ∧ Below w.heap.size w w' := by
  go_enter Try.func62, Try.ntmps62
  go_wp2_with (go_at_call 95; refine (of_nil _ _).mono ?_; rintro e w' ⟨rfl, rfl⟩)
  go_ret
  exact ⟨rfl, (Below.refl _ _).alloc (Nat.le_refl _) _⟩

/-! ### bytes of an object that are asked for -/
def withinE (h at_ n : Nat) (E : List Ent) : Nat :=
  match liveE 2 h E with
  | none => 2
  | some e => if inB at_ n e.t.size = false then 3 else if 1048576 < n then 1 else 0
set_option maxHeartbeats 400000 in
theorem within_any {B : Nat} {w : World} {pn bm bb : Nat} {lv : Value} {last : Nat} {E : List Ent} {Y : List (Place × Nat)} (hN : NAt B w pn bm bb lv last E Y) (hs : ∀ e ∈ E, e.t.size < 18446744073709551616) (h at_ n : Nat) :
    Calls Try.prog 60 #[ptr pn, .int .u64 (h : Int), .int .u64 (at_ : Int), .int .u64 (n : Int)] w fun e w' => e = .returned (.int .i64 (withinE h at_ n E : Nat)) ∧ w = w' := by
  unfold withinE
  cases hf : liveE 2 h E with
  | none =>
    have hl := live_any hN 2 h
    rw [hf] at hl
    simp only [optPtr] at hl
    have HL := Lib.hid hl
    clear hl hN hf
    go_enter Try.func60, Try.ntmps60
    go_wp2_with (go_at_call 55; refine HL.out.mono ?_; rintro e w' ⟨rfl, rfl⟩)
    go_ret
    exact ⟨rfl, rfl⟩
  | some e =>
    have hl := live_any hN 2 h
    rw [hf] at hl
    simp only [optPtr] at hl
    have hm := (findE_mem (liveE_mem hf).1).1
    have c3 : w.cell? ⟨e.p, 3, none⟩ = some (.int .u64 (e.t.size : Int)) := (hN.ent e hm).blk.cell 3
    have hz := hs e hm
    have hi := in_any at_ n e.t.size hz w
    have HL := Lib.hid hl
    have HI := Lib.hid hi
    clear hl hN hf hi hs hm hz
    simp only []
    cases hb : inB at_ n e.t.size with
    | false =>
      rw [hb] at HI
      simp only [if_true]
      go_enter Try.func60, Try.ntmps60
      go_wp2_with (first | (go_at_call 55; refine HL.out.mono ?_; rintro e w' ⟨rfl, rfl⟩; simp only [ptr]) | (go_at_call 100; refine HI.out.mono ?_; rintro e w' ⟨rfl, rfl⟩))
      go_ret
      exact ⟨rfl, rfl⟩
    | true =>
      rw [hb] at HI
      simp only [Bool.true_eq_false, if_false]
      by_cases hk : 1048576 < n
      · have hd : decide ((n : Int) > 1048576) = true := by rw [decide_eq_true_eq]; omega
        rw [if_pos hk]
        go_enter Try.func60, Try.ntmps60
        go_wp2_with (first | (go_at_call 55; refine HL.out.mono ?_; rintro e w' ⟨rfl, rfl⟩; simp only [ptr]) | (go_at_call 100; refine HI.out.mono ?_; rintro e w' ⟨rfl, rfl⟩))
        go_ret
        exact ⟨rfl, rfl⟩
      · have hd : decide ((n : Int) > 1048576) = false := by rw [decide_eq_false_iff_not]; omega
        rw [if_neg hk]
        go_enter Try.func60, Try.ntmps60
        go_wp2_with (first | (go_at_call 55; refine HL.out.mono ?_; rintro e w' ⟨rfl, rfl⟩; simp only [ptr]) | (go_at_call 100; refine HI.out.mono ?_; rintro e w' ⟨rfl, rfl⟩))
        go_ret
        exact ⟨rfl, rfl⟩
end Go.Proofs.Ytgdmpblodgofgaa
