/- naive.Reset; the document's example (awake). -/
import Derived.Test.YtgdmpblodgofgaaNW5
import Derived.Laws.BytesArg
namespace Go.Proofs.Ytgdmpblodgofgaa
open Go.RowKit

/-- The ledger that there is none of. -/
def nilLed (B bm bb : Nat) : LedI B bm bb (.pointer none) Unit where
  Inv _ _ := True
  stable _ _ _ _ _ := trivial
  endF _ _ := ()
  endC w s h _ := by
    go_enter Try.func118, Try.ntmps118
    go_wp2_with (go_at_call 62; refine (rewind_nil _ _ _ _ _ _ _).mono ?_; rintro e w' ⟨rfl, hb⟩)
    go_ret
    exact ⟨⟨_, rfl⟩, trivial, Kp.of_below hb⟩

section
variable {B pn bm bb : Nat} {lv : Value} {σ : Type} (LI : LedI B bm bb lv σ) {last : Nat} {Y : List (Place × Nat)}
def ResetPost (S' : List Ent × σ) (r : Ent) (R : World → World → Prop) (w : World) (e : Ending) (w' : World) : Prop :=
  e = .returned (.int .i64 0) ∧ ∃ nv w2, NAt B w2 pn bm bb lv last (cutE r.h nv 0 S'.1) Y ∧ LI.Inv w2 S'.2 ∧ Kp (okEnd B) w w2 ∧ R w2 w'

set_option maxRecDepth 100000 in
set_option maxHeartbeats 1000000 in
theorem reset_any (hlast : last < 4611686018428387904) (n : Nat) (w : World) (S : List Ent × σ) (hN : NAt B w pn bm bb lv last S.1 Y) (hI : LI.Inv w S.2) (h : Nat) {r : Ent} (hr : liveE 1 h S.1 = some r) (hn : last < h + 1 + n) (R : World → World → Prop)
    (hL : ∀ w2 nv, NAt B w2 pn bm bb lv last (cutE r.h nv 0 (endsS LI.endF n S r.t.made).1) Y → LI.Inv w2 (endsS LI.endF n S r.t.made).2 →
      Calls Try.prog 62 #[lv, .int .u64 (h : Int), .agg #[.int .i64 0, .int .i64 0, .int .u64 0, .int .u64 0, .int .u64 0]] w2 fun e w' => (∃ x, e = .returned (.int .i64 x)) ∧ R w2 w') :
    Calls Try.prog 19 #[ptr pn, .int .u64 (h : Int)] w (ResetPost (pn := pn) (last := last) (Y := Y) LI (endsS LI.endF n S r.t.made) r R w) := by
  have hl := live_any hN 1 h
  rw [hr] at hl
  simp only [optPtr, ptr] at hl
  obtain ⟨hrm, hrh⟩ := findE_mem (liveE_mem hr).1
  have hcut := cut_any LI n (end_all LI hlast n) w S hN hI hrm 0 (fun m hm => by
    have := (hN.tree r hrm m (List.mem_of_mem_drop hm)).1
    omega) hlast (by omega)
  rw [List.drop_zero] at hcut
  have HC := Lib.hid hcut
  have HLv := Lib.hid hl
  have HLd := Lib.hid hL
  clear hcut hl hL hN hI hr hrm hrh
  generalize endsS LI.endF n S r.t.made = S1 at *
  unfold ptr
  go_enter Try.func19, Try.ntmps19
  go_wp2_with (first
    | (go_at_call 55; refine HLv.out.mono ?_; rintro e w' ⟨rfl, rfl⟩)
    | (go_at_call 61; refine HC.out.mono ?_; rintro e w2 ⟨rfl, ⟨nv, hN2⟩, hI2, hK2⟩; have c0 : w2.cell? ⟨pn, 0, none⟩ = some lv := hN2.blk.cell 0; have HQ := Lib.hid (And.intro hN2 (And.intro hI2 hK2)); clear hN2 hI2 hK2)
    | (go_at_call 62; refine (HLd.out _ _ HQ.out.1 HQ.out.2.1).mono ?_; rintro e w3 ⟨⟨x, rfl⟩, hR⟩))
  go_ret
  exact ⟨rfl, nv, w2, HQ.out.1, HQ.out.2.1, HQ.out.2.2, hR⟩
end

/-! ### bytes as a string -/
def strN (l : List Nat) : ByteArray := strOfNums (l.map fun (n : Nat) => (n : Int))
theorem strN_nil : strN [] = ByteArray.empty := by unfold strN strOfNums; rfl
theorem conv_row {W : World} {g : Nat} {f : Nat → Nat} {k : Nat} (hb : Blk W g 5 (rowB (fun i => .int .u8 (f i : Int)) k)) (c : Nat) :
    (convert 24 9 (.slice (some ⟨g, 0, none⟩) k c)).run Try.prog W = .ok (.string (strN ((List.range k).map f))) W := by
  refine run_convert_bytes_arg W 24 5 Try.underlying24 Try.underlying5 g 0 k c _ (by simp) (fun i hi => ?_) 9 Try.underlying9
  rw [Nat.zero_add, hb.cell i, rowB_get _ _ _ hi]
  simp [hi]
theorem conv_reads {W : World} {A : Option Addr} {l : List Nat} (hl : Reads8 W A l) (c : Nat) :
    (convert 24 9 (.slice A l.length c)).run Try.prog W = .ok (.string (strN l)) W := by
  rcases hl with rfl | ⟨b0, off, rfl, hc⟩
  · cases A with
    | none => exact (run_convert_bytes_nil W 24 5 Try.underlying24 Try.underlying5 _ c 9 Try.underlying9).trans (by rw [strN_nil])
    | some a =>
      obtain ⟨b, o, s⟩ := a
      rw [run_convert_bytes_string W 24 9 5 _ _ c Try.underlying24 Try.underlying5 Try.underlying9, run_bytesToString W _ _ c [] (by simp [loadCells, loadCellsFrom]), strN_nil]
      rfl
  · refine run_convert_bytes_arg W 24 5 Try.underlying24 Try.underlying5 b0 off l.length c _ (by simp) (fun i hi => ?_) 9 Try.underlying9
    rw [hc i hi]
    simp [hi]

/-! ### the first region -/
section
variable {B : Nat} {w : World} {pn bm bb : Nat} {last : Nat}
theorem create0 (hN : NAt B w pn bm bb (.pointer none) 4611686018427387904 [] []) :
    Calls Try.prog 15 #[ptr pn, .int .u64 0] w fun e w' => e = .returned (.tuple #[.int .u64 4611686018427387905, .int .i64 0]) ∧
      (∃ p, NAt B w' pn bm bb (.pointer none) 4611686018427387905 [⟨4611686018427387905, p, .slice none 0 0, thing0 1 0 0⟩] []) ∧ Below B w w' := by
  refine (create_any hN (Nat.le_refl _) (by omega) 0 (.inl rfl) (fun w2 w' => w2 = w') (fun w2 _ _ _ => (begin_nil _ w2).mono fun e w' ⟨he, hw⟩ => ⟨⟨_, he⟩, hw⟩)).mono ?_
  rintro e w' ⟨rfl, w2, E', hN2, hG, hF, rfl⟩
  have hE : E' = addE [] (4611686018427387904 + 1) w.heap.size (thing0 1 0 0) := by
    have : liveE 1 0 (addE [] (4611686018427387904 + 1) w.heap.size (thing0 1 0 0)) = none := by
      simp [liveE, findE, addE]
    rw [this] at hG
    exact hG
  subst hE
  exact ⟨rfl, ⟨_, hN2⟩, hF.to_below (fun k hk => (hN.foot_lt hk).1) (Nat.le_trans hN.hpn (Nat.le_of_lt hN.blk.lt))⟩
end

/-! ### lists of things -/
theorem findE_add {E : List Ent} {h p : Nat} {t : Thing} (hn : ∀ e ∈ E, e.h ≠ h) (x : Nat) : findE x (addE E h p t) = if x = h then some ⟨h, p, .slice none 0 0, t⟩ else findE x E := by
  unfold findE addE
  rw [List.find?_append]
  by_cases hx : x = h
  · subst hx
    have : E.find? (fun e => decide (e.h = x)) = none := by
      rw [List.find?_eq_none]
      intro e he
      simpa using hn e he
    simp [this]
  · have h3 : ¬ h = x := fun e => hx e.symm
    simp [hx, h3]
theorem findE_mapE {E : List Ent} (g : Ent → Ent) (hg : ∀ e, (g e).h = e.h) (x : Nat) : findE x (E.map g) = (findE x E).map g := by
  unfold findE
  rw [List.find?_map]
  simp only [Function.comp_def, hg]
theorem liveE_grow (k x r : Nat) (nv : Value) (h : Nat) (E : List Ent) : liveE k x (growE r nv h E) = (liveE k x E).map fun e => if e.h = r then e.grow nv h else e := by
  unfold liveE growE
  rw [findE_mapE _ (fun e => by split <;> rfl)]
  cases findE x E with
  | none => rfl
  | some e =>
    simp only [Option.map_some, Option.bind_some]
    by_cases hk : e.t.kind = k
    · have : (if e.h = r then e.grow nv h else e).t.kind = k := by split <;> simpa [Ent.grow] using hk
      rw [if_pos hk, if_pos this]; rfl
    · have : ¬ (if e.h = r then e.grow nv h else e).t.kind = k := by split <;> simpa [Ent.grow] using hk
      rw [if_neg hk, if_neg this]; rfl
theorem liveE_cut (k x r : Nat) (nv : Value) (n : Nat) (E : List Ent) : liveE k x (cutE r nv n E) = (liveE k x E).map fun e => if e.h = r then { e with v := nv, t := { e.t with made := e.t.made.take n } } else e := by
  unfold liveE cutE
  rw [findE_mapE _ (fun e => by split <;> rfl)]
  cases findE x E with
  | none => rfl
  | some e =>
    simp only [Option.map_some, Option.bind_some]
    by_cases hk : e.t.kind = k
    · have : (if e.h = r then { e with v := nv, t := { e.t with made := e.t.made.take n } } else e).t.kind = k := by split <;> simpa using hk
      rw [if_pos hk, if_pos this]; rfl
    · have : ¬ (if e.h = r then { e with v := nv, t := { e.t with made := e.t.made.take n } } else e).t.kind = k := by split <;> simpa using hk
      rw [if_neg hk, if_neg this]; rfl
theorem liveE_add {E : List Ent} {h p : Nat} {t : Thing} (hn : ∀ e ∈ E, e.h ≠ h) (k x : Nat) (hx : x ≠ h) : liveE k x (addE E h p t) = liveE k x E := by
  unfold liveE
  rw [findE_add hn, if_neg hx]
def Small (E : List Ent) : Prop := ∀ e ∈ E, e.t.size < 18446744073709551616

section
variable {B : Nat} {w : World} {pn bm bb : Nat} {last : Nat} {E : List Ent} {Y : List (Place × Nat)}
/-- Alloc, without a ledger, as the law sees it. -/
theorem alloc_say (hN : NAt B w pn bm bb (.pointer none) last E Y) (h0 : 4611686018427387904 ≤ last) (h1 : last < 4611686018428387904) (hS : Small E) (of_ size : Nat) (hof : ∃ r, liveE 1 of_ E = some r) (hsz : size ≠ 0) (hs2 : size < 18446744073709551616) :
    Calls Try.prog 16 #[ptr pn, .int .u64 (of_ : Int), .int .u64 (size : Int), .int .u64 1] w fun e w' => e = .returned (.tuple #[.int .u64 ((last : Int) + 1), .int .i64 0]) ∧
      (∃ E', NAt B w' pn bm bb (.pointer none) (last + 1) E' Y ∧ Small E' ∧ (∃ r, liveE 1 of_ E' = some r) ∧ ∃ o, liveE 2 (last + 1) E' = some o ∧ o.t.size = size) ∧ Below B w w' := by
  refine (alloc_nil hN h0 h1 of_ size 1 hof hsz (by decide) (by omega)).mono ?_
  rintro e w' ⟨rfl, E', hN2, hG, hF⟩
  refine ⟨rfl, ⟨E', hN2, ?_⟩, hF.to_below (fun k hk => (hN.foot_lt hk).1) (Nat.le_trans hN.hpn (Nat.le_of_lt hN.blk.lt))⟩
  obtain ⟨r, hr⟩ := hof
  have hrm := findE_mem (liveE_mem hr).1
  have hnew : ∀ e ∈ E, e.h ≠ last + 1 := fun e he => by have := (hN.num e he).1; omega
  have hro : of_ ≠ last + 1 := by have := hnew r hrm.1; have := hrm.2; omega
  rw [liveE_add hnew 1 of_ hro, hr] at hG
  obtain ⟨nv, rfl⟩ := hG
  have hSa : Small (addE E (last + 1) w.heap.size (thing0 2 of_ size)) := by
    intro e he
    rcases List.mem_append.1 he with h | h
    · exact hS e h
    · rw [List.mem_singleton.1 h]; exact hs2
  refine ⟨?_, ?_, ?_⟩
  · intro e he
    obtain ⟨e0, he0, rfl⟩ := List.mem_map.1 he
    have := hSa e0 he0
    split <;> exact this
  · rw [liveE_grow, liveE_add hnew 1 of_ hro, hr]
    exact ⟨_, rfl⟩
  · refine ⟨_, by rw [liveE_grow]; unfold liveE; rw [findE_add hnew, if_pos rfl]; rfl, ?_⟩
    dsimp only
    split <;> rfl
theorem within_ok {h a n : Nat} {o : Ent} (ho : liveE 2 h E = some o) (hin : inB a n o.t.size = true) (hn : n ≤ 1048576) : withinE h a n E = 0 := by
  unfold withinE
  rw [ho]
  simp [hin]
  omega
end

theorem NAt.find {B : Nat} {w : World} {pn bm bb : Nat} {lv : Value} {last : Nat} {E : List Ent} {Y : List (Place × Nat)} (hN : NAt B w pn bm bb lv last E Y) {e : Ent} (he : e ∈ E) : findE e.h E = some e := by
  cases hf : findE e.h E with
  | none =>
    unfold findE at hf
    rw [List.find?_eq_none] at hf
    have := hf e he
    simp at this
  | some e' =>
    have := findE_mem hf
    rw [hN.one this.1 he this.2]
theorem endsS_sub {σ : Type} (f : σ → Nat → σ) (n : Nat) {x : Ent} : ∀ (l : List Nat) (T : List Ent × σ), x ∈ (l.foldl (endS f n) T).1 → x ∈ T.1
  | [], _, h => h
  | m :: l, T, h => endS_keeps.endS_sub f n T m (endsS_sub f n l _ h)
theorem endsS_in {σ : Type} (f : σ → Nat → σ) (n : Nat) {r : Ent} : ∀ (l : List Nat) (T : List Ent × σ), (∀ m ∈ l, r.h < m) → (∀ e ∈ T.1, ∀ m ∈ e.t.made, e.h < m) → r ∈ T.1 → r ∈ (l.foldl (endS f n) T).1
  | [], _, _, _, h => h
  | m :: l, T, hl, hT, hr => endsS_in f n l _ (fun m' hm' => hl m' (by simp [hm'])) (fun e' he' => hT e' (endS_keeps.endS_sub f n T m he')) (endS_keeps f n T m r hT hr (hl m (by simp)))

/-- Reset, without a ledger, as the law sees it. -/
theorem reset_say {B : Nat} {w : World} {pn bm bb : Nat} {last : Nat} {E : List Ent} {Y : List (Place × Nat)} (hN : NAt B w pn bm bb (.pointer none) last E Y) (hlast : last < 4611686018428387904) (hS : Small E) (h : Nat) (hr : ∃ r, liveE 1 h E = some r) :
    Calls Try.prog 19 #[ptr pn, .int .u64 (h : Int)] w fun e w' => e = .returned (.int .i64 0) ∧ (∃ E', NAt B w' pn bm bb (.pointer none) last E' Y ∧ Small E' ∧ ∃ r, liveE 1 h E' = some r) ∧ Below B w w' := by
  obtain ⟨r, hr⟩ := hr
  refine (reset_any (nilLed B bm bb) hlast (last + 1) w (E, ()) hN trivial h hr (by omega) (fun w2 w' => Below w2.heap.size w2 w') (fun w2 nv _ _ => (rewind_nil _ _ _ _ _ _ w2).mono fun e w' ⟨he, hb⟩ => ⟨⟨_, he⟩, hb⟩)).mono ?_
  rintro e w' ⟨rfl, nv, w2, hN2, _, hK, hb⟩
  have hm := liveE_mem hr
  obtain ⟨hrm, hrh⟩ := findE_mem hm.1
  have hB2 : Below B w w2 := hK.below (fun k o hk => .inl hk) (Nat.le_trans hN.hpn (Nat.le_of_lt hN.blk.lt))
  refine ⟨rfl, ⟨_, hN2.below hb, ?_, ?_⟩, hB2.trans (hb.mono (Nat.le_trans hN2.hpn (Nat.le_of_lt hN2.blk.lt)))⟩
  · intro e he
    obtain ⟨e0, he0, rfl⟩ := List.mem_map.1 he
    have := hS e0 (endsS_sub _ _ _ _ he0)
    split <;> exact this
  · have hin : r ∈ (endsS (nilLed B bm bb).endF (last + 1) (E, ()) r.t.made).1 := endsS_in _ _ _ _ (fun m hm => (hN.tree r hrm m (by simpa using hm)).1) (fun e he m hm => (hN.tree e he m hm).1) hrm
    have hin2 := List.mem_map_of_mem (f := fun e : Ent => if e.h = r.h then { e with v := nv, t := { e.t with made := e.t.made.take 0 } } else e) hin
    rw [if_pos rfl] at hin2
    have hf := hN2.find hin2
    simp only [hrh] at hf
    refine ⟨_, by unfold liveE; rw [hrh, hf, Option.bind_some, if_pos hm.2]⟩

set_option maxRecDepth 100000 in
set_option maxHeartbeats 1000000 in
theorem awake_any (w : World) : Calls Try.prog 13 #[] w fun e w' => e = .returned (.bool true) ∧ Below w.heap.size w w' := by
  go_enter Try.func13, Try.ntmps13
  go_wp2_with (first
    | (go_at_call 14; refine (new_say _ _).mono ?_; rintro e w1 ⟨rfl, hN1, hB1⟩)
    | (go_at_call 15; refine (create0 hN1).mono ?_; rintro e w2 ⟨rfl, ⟨p, hN2⟩, hB2⟩))
  refine (alloc_say hN2 (by omega) (by omega) ?sm 4611686018427387905 1125899906842624 ⟨_, rfl⟩ (by omega) (by omega)).mono ?_
  case sm => intro e he; rw [List.mem_singleton.1 he]; simp [thing0]
  rintro e w3 ⟨rfl, ⟨E3, hN3, hS3, hr3, o, ho3, hos⟩, hB3⟩
  have hwi := within_ok ho3 (a := 1099511627776) (n := 4) (by rw [hos]; decide) (by omega)
  have HR := Lib.hid (read_any hN3 hS3 _ 1099511627776 4 (by omega) hwi (by omega))
  have HB := Lib.hid ((hB1.trans hB2).trans hB3)
  have hlt := (hB1.trans hB2).trans hB3 |>.size
  clear hwi hN1 hN2 hN3 hS3 hr3 ho3 hos hB1 hB2 hB3
  go_wp2_with fail
  refine HR.out.mono ?_
  rintro e w4 ⟨rfl, hb4, hB4⟩
  have hcv := conv_row hb4 4
  have hz : strN ((List.range 4).map fun i => byteN [] (4611686018427387905 + 1) (1099511627776 + i)) = ⟨#[0, 0, 0, 0]⟩ := rfl
  rw [hz] at hcv
  have HB4 := Lib.hid (HB.out.trans (hB4.mono (by omega)))
  clear hb4 hB4 hz HR HB
  go_wp2
  go_ret
  exact ⟨rfl, HB4.out⟩
end Go.Proofs.Ytgdmpblodgofgaa
