/- naive.add: one thing more. -/
import Derived.Test.YtgdmpblodgofgaaNSt2
import Derived.Test.YtgdmpblodgofgaaNW1
import Derived.StillTailTactics
import Derived.Deep.RegionHeld3
import Derived.Deep.AppendLies
import Derived.Outline
import Derived.Deep.RegionLaw
namespace Go.Proofs.Ytgdmpblodgofgaa
open Go.RowKit

theorem wp_still_tail {P : Program} {id : Nat} {Q : Exit → Act → World → Prop} {a : Act} {w : World} {l : List Oper} (n : Nat) (hm : P.follows .mixedOrders = true) (hB : Region.lexTailB .any l.toArray n = true)
    (h : wpStill P l.toArray w.drew (fun a' => wpList P l.toArray Q (l.drop n) a' w.drew) (l.take n) a) : (Code.region id l.toArray true).wp P Q a w :=
  wp_region_still_tail n hm hB h

/-- 'm[k] = v' at the operation. -/
theorem wpList_mapL_update {K : Type} [DecidableEq K] {enc : K → Value} {P : Program} {w : World} {ops : Array Oper} {rest : List Oper} {o : Oper} {a : Act} {Q : Exit → Act → World → Prop}
    (hg : o.guard = none) (m x v : Operand) (t : TypeId) (hop : o.op = Op.mapUpdate t m x v) {k e : TypeId} (M : MKey P k enc) (ht : P.underlying t = some (.map k e)) (r : Nat) (l : List (K × Value)) (hl : MapL enc w r l)
    (hm : a.eval m = .map (some r)) (key : K) (hx : a.eval x = enc key) (val : Value) (hv : a.eval v = val)
    (hK : ∀ w', MapL enc w' r (aput key val l) → w.grownBy w' (some r) → wpList P ops Q rest (a.put o.dst undef) w') : wpList P ops Q (o :: rest) a w := by
  refine wpList_plain hg fun K' hK' => ?_
  obtain ⟨w', hrun, r1, r2⟩ := hl.update M ht key val
  unfold Oper.wp
  simp [execOp, hop, hm, hx, hv, hrun, Result.andThen]
  exact hK' _ _ (hK w' r1 r2)

theorem info_u64 : (Try.prog.info? 23).map (fun i => (i.zero, i.size, i.bytes)) = some (some (.int .u64 0), 1, 8) := by kernel_rfl

def addE (E : List Ent) (h p : Nat) (t : Thing) : List Ent := E ++ [⟨h, p, .slice none 0 0, t⟩]
theorem grown_after {w w1 : World} {o : Obj} {row : Option Nat} (h : ((w.alloc o).drew).grownBy w1 row) : w.grownBy w1 row :=
  ⟨h.os, h.tape, h.output, Nat.le_trans (by simp) h.size, fun k hk hn => (h.block k (by simp; omega) hn).trans (Below.heap_alloc w o k hk)⟩

/-- The region's list has grown by h, if there is a region. -/
def Grew (h : Nat) (E E' : List Ent) (r : Option Ent) : Prop := match r with | none => E' = E | some r => ∃ nv, E' = growE r.h nv h E
/-- What add leaves: the new thing; the region's list has grown, if there is one. -/
def AddPost (B : Nat) (w : World) (pn bm bb : Nat) (lv : Value) (last : Nat) (E : List Ent) (Y : List (Place × Nat)) (p : Nat) (t : Thing) (e : Ending) (w' : World) : Prop :=
  e = .returned (.tuple #[.int .u64 ((last + 1 : Nat) : Int), .int .i64 0]) ∧ ∃ E', NAt B w' pn bm bb lv (last + 1) E' Y ∧
    Grew (last + 1) (addE E (last + 1) p t) E' (liveE 1 t.of (addE E (last + 1) p t)) ∧ Fr (NAt.foot pn bm bb (addE E (last + 1) p t)) w w'

set_option maxRecDepth 100000 in
set_option maxHeartbeats 1000000 in
theorem add_any {B : Nat} {w : World} {pn bm bb : Nat} {lv : Value} {last : Nat} {E : List Ent} {Y : List (Place × Nat)} (hN : NAt B w pn bm bb lv last E Y) (h0 : 4611686018427387904 ≤ last) (h1 : last < 4611686018428387904)
    {p : Nat} {t : Thing} (he : EntAt B w ⟨last + 1, p, .slice none 0 0, t⟩) (hp : ∀ e' ∈ E, e'.p ≠ p) (hmade : t.made = []) (hof : t.of ≤ last) :
    Calls Try.prog 56 #[ptr pn, ptr p] w (AddPost B w pn bm bb lv last E Y p t) := by
  unfold ptr
  have c1 : w.cell? ⟨pn, 1, none⟩ = some (.int .u64 (last : Int)) := hN.blk.cell 1
  have f1 : w.frozen? ⟨pn, 1, none⟩ = false := hN.blk.frozen 1
  have c2 : w.cell? ⟨pn, 2, none⟩ = some (.map (some bm)) := hN.blk.cell 2
  go_enter Try.func56, Try.ntmps56
  go_wp2_with fail
  obtain ⟨w1, hw1⟩ : ∃ w1, w.setCell ⟨pn, 1, none⟩ (.int .u64 ((last : Int) + 1)) = w1 := ⟨_, rfl⟩
  rw [hw1]
  have d1 : w1.cell? ⟨pn, 1, none⟩ = some (.int .u64 ((last : Int) + 1)) := by rw [← hw1]; exact (hN.blk.set_ 1 _).cell 1
  have d2 : w1.cell? ⟨pn, 2, none⟩ = some (.map (some bm)) := by rw [← hw1]; exact (hN.blk.set_ 1 _).cell 2
  have HW := Lib.hid hw1
  clear hw1 c1 c2 f1
  refine wp_still_tail 9 (by kernel_rfl) (by kernel_rfl) ?_
  simp only [List.take_succ_cons, List.take_zero, List.drop_succ_cons, List.drop_zero]
  repeat still_step
  refine wpStill_nil ?_
  refine wpList_mapL_update rfl (.tmp 17) (.tmp 21) (.tmp 22) 101 rfl key23 Try.underlying101 bm (kvs E) (hN.map.same ?hm1) rfl (last + 1) rfl (ptr p) rfl ?_
  case hm1 => exact (congrArg (fun (u : World) => u.heap[bm]?) HW.out.symm).trans (Below.heap_setCell _ _ _ _ (Ne.symm hN.pn_ne_bm))
  intro w2 hm2 hg2'
  have hg2 : (w.setCell ⟨pn, 1, none⟩ (.int .u64 ((last + 1 : Nat) : Int))).grownBy w2 (some bm) := by
    have e := HW.out
    subst e
    exact ⟨hg2'.os, hg2'.tape, hg2'.output, hg2'.size, hg2'.block⟩
  have hN2 : NAt B w2 pn bm bb lv (last + 1) (addE E (last + 1) p t) Y := hN.push he rfl hp rfl hmade h0 hm2 hg2
  have he2 : EntAt B w2 ⟨last + 1, p, .slice none 0 0, t⟩ := hN2.ent _ (by simp [addE])
  have c3 : w2.cell? ⟨p, 1, none⟩ = some (.int .u64 (t.of : Int)) := he2.blk.cell 1
  have hfr : Fr (NAt.foot pn bm bb (addE E (last + 1) p t)) w w2 :=
    ((Fr.refl _ w).setCell (.inl (.inl rfl)) _).grown hg2 (fun k hk => .inl (.inr (.inl (by injection hk with hk; exact hk.symm))))
  have hl := live_any hN2 1 t.of
  clear d1 d2 hm2 hg2 hg2' HW
  unfold AddPost
  cases hf : liveE 1 t.of (addE E (last + 1) p t) with
  | none =>
    rw [hf] at hl
    simp only [optPtr] at hl
    have HL := Lib.hid hl
    have c4 : w2.cell? ⟨pn, 1, none⟩ = some (.int .u64 ((last + 1 : Nat) : Int)) := hN2.blk.cell 1
    have HF := Lib.hid hf
    clear hl hf hmade
    go_wp2_with (go_at_call 55; refine HL.out.mono ?_; rintro e w' ⟨rfl, rfl⟩)
    go_ret2
    exact ⟨rfl, _, hN2, by rw [HF.out]; exact rfl, hfr⟩
  | some r =>
    rw [hf] at hl
    simp only [optPtr, ptr] at hl
    have HL := Lib.hid hl
    obtain ⟨hrm, hrh⟩ := findE_mem (liveE_mem hf).1
    have hR := hN2.ent r hrm
    have c4 : w2.cell? ⟨pn, 1, none⟩ = some (.int .u64 ((last : Int) + 1)) := hN2.blk.cell 1
    have c5 : w2.cell? ⟨r.p, 2, none⟩ = some r.v := hR.blk.cell 2
    have f5 : w2.frozen? ⟨r.p, 2, none⟩ = false := hR.blk.frozen 2
    have hpne : r.p ≠ pn := hN2.pn_ne_p hR
    have lpn := hN2.blk.lt
    have lrp := hR.plt
    have hown := hR.row
    have hB : B ≤ w2.heap.size := Nat.le_trans hN2.hpn (Nat.le_of_lt lpn)
    have hlen : r.t.made.length + 4611686018427387904 ≤ last := by
      rcases List.mem_append.1 hrm with h | h
      · exact (hN.num r h).2
      · rw [List.mem_singleton.1 h]; simp [hmade]; omega
    have nv1 : r.v.ownBlock ≠ some pn := hN2.pn_ne_v hR
    have nv2 : r.v.ownBlock ≠ some r.p := hR.p_ne_v hR
    obtain ⟨i0, hi0, hz0, hz1, hz2⟩ := info_parts info_u64
    have HF := Lib.hid hf
    clear hl hf hmade
    go_wp2_with (go_at_call 55; refine HL.out.mono ?_; rintro e w' ⟨rfl, rfl⟩)
    go_region_law (refine step_append_lies _ (by rfl) _ _ _ (by rfl) B 23 i0 _ 1 8 Try.underlying22 hi0 hz0 hz1 hz2 rfl (by omega) r.v r.t.made.length (r.t.made.map encU) (by rfl) ((hown.alloc _).drew) ⟨w2.heap.size, 0, none⟩ 1 1 [.int .u64 ((last : Int) + 1)] (by rfl) (by rfl) (World.news_of_block (cs := #[.int .u64 ((last : Int) + 1)]) (t := 23) (fr := (0, 0)) (heap_alloc_new w2 _)) (by simp [Value.oneCell']) (by omega) (by unfold maxLen; omega) (by omega) (by simp; omega) (w2.heap.size + 1) (by simp) ?_; intro gg cap w3 hown3 hgrow hat hlt; have k5 : w3.cell? ⟨r.p, 2, none⟩ = some r.v := (hgrow.cell_far _ (by simp; omega) (Ne.symm nv2)).trans (by simp [World.cell?_alloc_past _ _ _ lrp, c5]); have g5 : w3.frozen? ⟨r.p, 2, none⟩ = false := (hgrow.frozen_far _ (by simp; omega) (Ne.symm nv2)).trans (by simp [World.frozen?_alloc_past _ _ _ lrp, f5]))
    all_goals
      obtain ⟨w4, hw4⟩ : ∃ w4, w3.setCell ⟨r.p, 2, none⟩ (.slice (some ⟨gg, 0, none⟩) (r.t.made.length + 1) cap) = w4 := ⟨_, rfl⟩
      rw [hw4]
      have hg3 : w2.grownBy w3 r.v.ownBlock := grown_after hgrow
      have hN4 := hN2.grow hrm (nv := .slice (some ⟨gg, 0, none⟩) (r.t.made.length + 1) cap) (h := last + 1) (by omega) (by omega) (by rw [List.map_append]; exact hown3) hg3 (by rcases hat with h | h; exact .inl h.symm; exact .inr ⟨gg, rfl, by omega⟩)
      rw [hw4] at hN4
      have c6 : w4.cell? ⟨pn, 1, none⟩ = some (.int .u64 ((last + 1 : Nat) : Int)) := hN4.blk.cell 1
      have hfr4 : Fr (NAt.foot pn bm bb (addE E (last + 1) p t)) w w4 := by
        rw [← hw4]
        exact ((hfr.grown hg3 (fun k hk => .inl (.inr (.inr (.inr ⟨r, hrm, .inr hk⟩))))).setCell (.inl (.inr (.inr (.inr ⟨r, hrm, .inl rfl⟩)))) _)
      have HG : Hid (Grew (last + 1) (addE E (last + 1) p t) (growE r.h (.slice (some ⟨gg, 0, none⟩) (r.t.made.length + 1) cap) (last + 1) (addE E (last + 1) p t)) (liveE 1 t.of (addE E (last + 1) p t))) := by
        rw [HF.out]; exact ⟨_, rfl⟩
      clear hw4 hgrow hown3 hat hlt k5 g5 hg3 c4 c5 f5 hown hN2 hfr
      go_wp2
      go_ret2
      exact ⟨rfl, _, hN4, HG, hfr4⟩
end Go.Proofs.Ytgdmpblodgofgaa
