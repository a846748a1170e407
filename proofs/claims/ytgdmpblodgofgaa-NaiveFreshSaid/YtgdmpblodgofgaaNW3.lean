/- naive.Create, naive.Alloc. -/
import Derived.Test.YtgdmpblodgofgaaNW2
namespace Go.Proofs.Ytgdmpblodgofgaa
open Go.RowKit

def thing0 (kind of_ size : Nat) : Thing := ⟨kind, of_, [], size, 0, 0, 0, 0, 0, 0⟩
section
variable {B : Nat} {w : World} {pn bm bb : Nat} {lv : Value} {last : Nat} {E : List Ent} {Y : List (Place × Nat)}
/-- The new thing's block. -/
theorem NAt.newEnt (hN : NAt B w pn bm bb lv last E Y) (kind of_ size : Nat) :
    NAt B (w.alloc (.cells (thingCells (thing0 kind of_ size) (.slice none 0 0)) 109)) pn bm bb lv last E Y ∧
    EntAt B (w.alloc (.cells (thingCells (thing0 kind of_ size) (.slice none 0 0)) 109)) ⟨last + 1, w.heap.size, .slice none 0 0, thing0 kind of_ size⟩ ∧
    (∀ e' ∈ E, e'.p ≠ w.heap.size) :=
  ⟨hN.below ((Below.refl _ _).alloc (Nat.le_refl _) _), ⟨Nat.le_trans hN.hpn (Nat.le_of_lt hN.blk.lt), Blk.new _ _ _, World.ownsRow_nil _ _ _ _⟩, fun e' he => Nat.ne_of_lt (hN.ent e' he).plt⟩

/-- What Create leaves: the new region; then the ledger begins one. -/
def CreatePost (B : Nat) (w : World) (pn bm bb : Nat) (lv : Value) (last : Nat) (E : List Ent) (Y : List (Place × Nat)) (parent : Nat) (R : World → World → Prop) (e : Ending) (w' : World) : Prop :=
  e = .returned (.tuple #[.int .u64 ((last + 1 : Nat) : Int), .int .i64 0]) ∧ ∃ w2 E', NAt B w2 pn bm bb lv (last + 1) E' Y ∧
    Grew (last + 1) (addE E (last + 1) w.heap.size (thing0 1 parent 0)) E' (liveE 1 parent (addE E (last + 1) w.heap.size (thing0 1 parent 0))) ∧ Fr (NAt.foot pn bm bb E) w w2 ∧ R w2 w'

theorem Fr.foot_new {w1 : World} {h p : Nat} {t : Thing} (hf : Fr (NAt.foot pn bm bb (addE E h p t)) w w1) (hp : w.heap.size ≤ p) : Fr (NAt.foot pn bm bb E) w w1 :=
  (Fr.refl _ w).then_ hf (fun k hk => by
    rcases hk with h | h | h | ⟨e, he, hk⟩
    · exact .inl (.inl h)
    · exact .inl (.inr (.inl h))
    · exact .inl (.inr (.inr (.inl h)))
    · rcases List.mem_append.1 he with he | he
      · exact .inl (.inr (.inr (.inr ⟨e, he, hk⟩)))
      · rw [List.mem_singleton.1 he] at hk
        rcases hk with hk | hk
        · exact .inr (by simp at hk; omega)
        · simp [Value.ownBlock] at hk)

set_option maxRecDepth 100000 in
set_option maxHeartbeats 1000000 in
theorem create_any (hN : NAt B w pn bm bb lv last E Y) (h0 : 4611686018427387904 ≤ last) (h1 : last < 4611686018428387904) (parent : Nat) (hpar : parent = 0 ∨ (parent ≠ 0 ∧ ∃ r, liveE 1 parent E = some r)) (R : World → World → Prop)
    (hL : ∀ w2 E', NAt B w2 pn bm bb lv (last + 1) E' Y → Fr (NAt.foot pn bm bb E) w w2 → Calls Try.prog 57 #[lv, .int .u64 ((last : Int) + 1)] w2 fun e w' => (∃ b, e = .returned (.bool b)) ∧ R w2 w') :
    Calls Try.prog 15 #[ptr pn, .int .u64 (parent : Int)] w (CreatePost B w pn bm bb lv last E Y parent R) := by
  obtain ⟨hN1, he1, hp1⟩ := hN.newEnt 1 parent 0
  have hadd := add_any hN1 h0 h1 he1 hp1 rfl (by
    rcases hpar with rfl | ⟨_, r, hr⟩
    · exact Nat.zero_le _
    · have hm := findE_mem (liveE_mem hr).1
      have := (hN.num r hm.1).1
      have := hm.2
      show parent ≤ last
      omega)
  have HA := Lib.hid hadd
  have HLed := Lib.hid hL
  have hl := live_any hN 1 parent
  have hfn : ∀ w2, Fr (NAt.foot pn bm bb (addE E (last + 1) w.heap.size (thing0 1 parent 0))) (w.alloc (.cells (thingCells (thing0 1 parent 0) (.slice none 0 0)) 109)) w2 → Fr (NAt.foot pn bm bb E) w w2 := fun w2 h =>
    Fr.foot_new (h := last + 1) (t := thing0 1 parent 0) (((Fr.refl _ w).alloc _).trans h) (Nat.le_refl _)
  have HFN := Lib.hid hfn
  clear hadd hN1 hL hfn
  unfold ptr
  rcases hpar with rfl | ⟨hne, r, hr⟩
  · clear hl
    go_enter Try.func15, Try.ntmps15
    go_wp2_with (first
      | (go_at_call 56; refine HA.out.mono ?_; intro e w2 hpost; obtain ⟨rfl, E', hN2, hG, hfr⟩ := hpost; have c0 : w2.cell? ⟨pn, 0, none⟩ = some lv := hN2.blk.cell 0; have HP := Lib.hid (And.intro hN2 (And.intro hG (HFN.out _ hfr))); clear hN2 hG hfr)
      | (go_at_call 57; refine (HLed.out w2 E' HP.out.1 HP.out.2.2).mono ?_; rintro e w' ⟨⟨b, rfl⟩, hR⟩))
    go_ret2
    exact ⟨rfl, w2, E', HP.out.1, HP.out.2.1, HP.out.2.2, hR⟩
  · rw [hr] at hl
    simp only [optPtr, ptr] at hl
    have HL := Lib.hid hl
    have hb : ((parent : Int) != 0) = true := by rw [bne_iff_ne]; omega
    clear hl hr hne
    go_enter Try.func15, Try.ntmps15
    go_wp2_with (first
      | (go_at_call 55; refine HL.out.mono ?_; rintro e w' ⟨rfl, rfl⟩)
      | (go_at_call 56; refine HA.out.mono ?_; intro e w2 hpost; obtain ⟨rfl, E', hN2, hG, hfr⟩ := hpost; have c0 : w2.cell? ⟨pn, 0, none⟩ = some lv := hN2.blk.cell 0; have HP := Lib.hid (And.intro hN2 (And.intro hG (HFN.out _ hfr))); clear hN2 hG hfr)
      | (go_at_call 57; refine (HLed.out w2 E' HP.out.1 HP.out.2.2).mono ?_; rintro e w' ⟨⟨b, rfl⟩, hR⟩))
    go_ret2
    exact ⟨rfl, w2, E', HP.out.1, HP.out.2.1, HP.out.2.2, hR⟩

/-- What Alloc leaves. -/
def AllocPost (B : Nat) (w : World) (pn bm bb : Nat) (lv : Value) (last : Nat) (E : List Ent) (Y : List (Place × Nat)) (of_ size : Nat) (e : Ending) (w2 : World) : Prop :=
  e = .returned (.tuple #[.int .u64 ((last + 1 : Nat) : Int), .int .i64 0]) ∧ ∃ E', NAt B w2 pn bm bb lv (last + 1) E' Y ∧
    Grew (last + 1) (addE E (last + 1) w.heap.size (thing0 2 of_ size)) E' (liveE 1 of_ (addE E (last + 1) w.heap.size (thing0 2 of_ size))) ∧ Fr (NAt.foot pn bm bb E) w w2

set_option maxRecDepth 100000 in
set_option maxHeartbeats 1000000 in
/-- No ledger: there is always room. -/
theorem alloc_nil (hN : NAt B w pn bm bb (.pointer none) last E Y) (h0 : 4611686018427387904 ≤ last) (h1 : last < 4611686018428387904) (of_ size align : Nat) (hof : ∃ r, liveE 1 of_ E = some r) (hsz : size ≠ 0) (hal : powB align = true) (hal2 : align ≤ 4096) :
    Calls Try.prog 16 #[ptr pn, .int .u64 (of_ : Int), .int .u64 (size : Int), .int .u64 (align : Int)] w (AllocPost B w pn bm bb (.pointer none) last E Y of_ size) := by
  obtain ⟨hN1, he1, hp1⟩ := hN.newEnt 2 of_ size
  obtain ⟨r, hr⟩ := hof
  have hadd := add_any hN1 h0 h1 he1 hp1 rfl (by
    have hm := findE_mem (liveE_mem hr).1
    have := (hN.num r hm.1).1
    have := hm.2
    show of_ ≤ last
    omega)
  have HA := Lib.hid hadd
  have hl := live_any hN 1 of_
  rw [hr] at hl
  simp only [optPtr, ptr] at hl
  have HL := Lib.hid hl
  have hpw := pow_any align (by omega) w
  rw [hal] at hpw
  have HPW := Lib.hid hpw
  have hfn : ∀ w2, Fr (NAt.foot pn bm bb (addE E (last + 1) w.heap.size (thing0 2 of_ size))) (w.alloc (.cells (thingCells (thing0 2 of_ size) (.slice none 0 0)) 109)) w2 → Fr (NAt.foot pn bm bb E) w w2 := fun w2 h =>
    Fr.foot_new (h := last + 1) (t := thing0 2 of_ size) (((Fr.refl _ w).alloc _).trans h) (Nat.le_refl _)
  have HFN := Lib.hid hfn
  have c0 : w.cell? ⟨pn, 0, none⟩ = some (.pointer none) := hN.blk.cell 0
  have hb : ((size : Int) == 0) = false := by rw [beq_eq_false_iff_ne]; omega
  have hd : decide ((align : Int) > 4096) = false := by rw [decide_eq_false_iff_not]; omega
  clear hadd hN1 hfn hl hpw hr hal hsz
  unfold ptr
  go_enter Try.func16, Try.ntmps16
  go_wp2_with (first
      | (go_at_call 55; refine HL.out.mono ?_; rintro e w' ⟨rfl, rfl⟩)
      | (go_at_call 58; refine HPW.out.mono ?_; rintro e w' ⟨rfl, rfl⟩)
      | (go_at_call 56; refine HA.out.mono ?_; intro e w2 hpost; obtain ⟨rfl, E', hN2, hG, hfr⟩ := hpost; have HP := Lib.hid (And.intro hN2 (And.intro hG (HFN.out _ hfr))); clear hN2 hG hfr))
  go_ret2
  exact ⟨rfl, E', HP.out.1, HP.out.2.1, HP.out.2.2⟩

set_option maxRecDepth 100000 in
set_option maxHeartbeats 1000000 in
theorem alloc_zero (hN : NAt B w pn bm bb lv last E Y) (of_ : Nat) (align : Int) (hof : ∃ r, liveE 1 of_ E = some r) :
    Calls Try.prog 16 #[ptr pn, .int .u64 (of_ : Int), .int .u64 0, .int .u64 align] w fun e w' => e = .returned (.tuple #[.int .u64 0, .int .i64 1]) ∧ w = w' := by
  obtain ⟨r, hr⟩ := hof
  have hl := live_any hN 1 of_
  rw [hr] at hl
  simp only [optPtr, ptr] at hl
  have HL := Lib.hid hl
  clear hl hr hN
  unfold ptr
  go_enter Try.func16, Try.ntmps16
  go_wp2_with (go_at_call 55; refine HL.out.mono ?_; rintro e w' ⟨rfl, rfl⟩)
  go_ret2
  exact ⟨rfl, rfl⟩
end
end Go.Proofs.Ytgdmpblodgofgaa
