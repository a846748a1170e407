/- naive.end, naive.cut and the closure in it: they call each other. -/
import Derived.Test.YtgdmpblodgofgaaNSt3
namespace Go.Proofs.Ytgdmpblodgofgaa
open Go.RowKit

/-- 'delete(m, k)' at the operation. -/
theorem wpList_mapL_delete {K : Type} [DecidableEq K] {enc : K → Value} {P : Program} {w : World} {ops : Array Oper} {rest : List Oper} {o : Oper} {a : Act} {Q : Exit → Act → World → Prop}
    (hg : o.guard = none) (m x : Operand) (t kt : TypeId) (hop : o.op = .call { callee := .builtin .delete, args := #[m, x], argTypes := #[t, kt] }) {k e : TypeId} (M : MKey P k enc) (ht : P.underlying t = some (.map k e)) (r : Nat) (l : List (K × Value)) (hl : MapL enc w r l)
    (hm : a.eval m = .map (some r)) (key : K) (hx : a.eval x = enc key)
    (hK : ∀ w', MapL enc w' r (adel key l) → w.grownBy w' (some r) → wpList P ops Q rest (a.put o.dst (.tuple #[])) w') : wpList P ops Q (o :: rest) a w := by
  refine wpList_plain hg fun K' hK' => ?_
  obtain ⟨w', hrun, r1, r2⟩ := hl.delete M ht kt o.type key
  unfold Oper.wp
  simp [execOp, hop, resolve, invoke, builtin, hm, hx, hrun, Result.andThen]
  exact hK' _ _ (hK w' r1 r2)

section
variable {B pn bm bb : Nat} {lv : Value} {σ : Type} (LI : LedI B bm bb lv σ) {last : Nat} {Y : List (Place × Nat)}

def EndPost (S' : List Ent × σ) (w : World) (e : Ending) (w' : World) : Prop :=
  e = .returned (.tuple #[]) ∧ NAt B w' pn bm bb lv last S'.1 Y ∧ LI.Inv w' S'.2 ∧ Kp (okEnd B) w w'
def EndSaid (n : Nat) : Prop := ∀ (w : World) (S : List Ent × σ) (h : Nat), NAt B w pn bm bb lv last S.1 Y → LI.Inv w S.2 → last < h + n →
  Calls Try.prog 79 #[ptr pn, .int .u64 (h : Int)] w (EndPost (pn := pn) (last := last) (Y := Y) LI (endS LI.endF n S h) w)

/-- A slice of handles that reads as l, in the row of a thing that stays. -/
def ReadsU (w : World) (A : Option Addr) (l : List Nat) : Prop :=
  l = [] ∨ ∃ b0 off, A = some ⟨b0, off, none⟩ ∧ ∀ (j : Nat) (hj : j < l.length), w.cell? ⟨b0, off + j, none⟩ = some (.int .u64 (l[j] : Int))

set_option maxRecDepth 100000 in
set_option maxHeartbeats 1000000 in
theorem ends_any (n : Nat) (IH : EndSaid (pn := pn) (last := last) (Y := Y) LI n) (w : World) (S : List Ent × σ) (hN : NAt B w pn bm bb lv last S.1 Y) (hI : LI.Inv w S.2) {r : Ent} (hr : r ∈ S.1) (A : Option Addr) (c : Nat) (l : List Nat)
    (hrd : ∀ w', EntAt B w' r → ReadsU w' A l) (hl : ∀ m ∈ l, r.h < m ∧ last < m + n) (hlen : l.length < 9223372036854775807) (bx : Nat) (hbx : Blk w bx 26 #[ptr pn]) :
    Calls Try.prog 101 #[.slice A l.length c, ptr bx] w (EndPost (pn := pn) (last := last) (Y := Y) LI (endsS LI.endF n S l) w) := by
  unfold ptr
  go_enter Try.func101, Try.ntmps101
  go_wp2_with fail
  go_loopw [3] (fun iv wr => ∃ j : Nat, j ≤ l.length ∧ iv = .int .i64 ((j : Int) - 1) ∧ NAt B wr pn bm bb lv last (endsS LI.endF n S (l.drop j)).1 Y ∧ LI.Inv wr (endsS LI.endF n S (l.drop j)).2 ∧ r ∈ (endsS LI.endF n S (l.drop j)).1 ∧ Kp (okEnd B) w wr) (fun iv _ => (intOf iv + 1).toNat)
  case atStart =>
    refine ⟨l.length, Nat.le_refl _, rfl, ?_, ?_, ?_, Kp.refl _ _⟩
    · rw [List.drop_length]; exact hN
    · rw [List.drop_length]; exact hI
    · rw [List.drop_length]; exact hr
  case round =>
    obtain ⟨j, hj, rfl, hNj, hIj, hrj, hkp⟩ := hrel
    cases j with
    | zero =>
      go_wp2
      go_end0
      exact ⟨rfl, hNj, hIj, hkp⟩
    | succ j =>
      have hjl : j < l.length := by omega
      have hstep : endsS LI.endF n S (l.drop j) = endS LI.endF n (endsS LI.endF n S (l.drop (j + 1))) l[j] := by
        unfold endsS
        rw [List.drop_eq_getElem_cons hjl, List.reverse_cons, List.foldl_append]
        rfl
      obtain ⟨b0, off, rfl, hc⟩ : ∃ b0 off, A = some ⟨b0, off, none⟩ ∧ ∀ (j : Nat) (hj : j < l.length), wr.cell? ⟨b0, off + j, none⟩ = some (.int .u64 (l[j] : Int)) := by
        rcases hrd wr (hNj.ent r hrj) with rfl | h
        · simp at hjl
        · exact h
      have cj := hc j hjl
      have cb : wr.cell? ⟨bx, 0, none⟩ = some (.pointer (some ⟨pn, 0, none⟩)) := (hkp.blk hbx (.inr ⟨_, _, rfl⟩)).cell 0
      have hmem : l[j] ∈ l := List.getElem_mem hjl
      have hin : r ∈ (endsS LI.endF n S (l.drop j)).1 := by
        rw [hstep]
        exact endS_keeps LI.endF n _ _ r (fun e he m hm => (hNj.tree e he m hm).1) hrj (hl _ hmem).1
      have HI := Lib.hid (IH wr.drew _ l[j] hNj.drew (LI.stable _ _ _ hIj ⟨rfl, rfl, rfl, Nat.le_refl _, fun _ _ h _ => h⟩) (hl _ hmem).2)
      rw [← hstep] at HI
      rw [show ((j + 1 : Nat) : Int) - 1 = (j : Int) by omega]
      have HJ := Lib.hid hin
      have HK := Lib.hid hkp
      have hjlt : (j : Int) < (l.length : Int) := by omega
      have hbig : (l.length : Int) < 9223372036854775807 := by omega
      clear hc hin hkp hstep hmem hl hIj hNj hrj hrd IH hN hI hr
      generalize l[j] = lj at *
      go_wp2_with fail
      refine wp_still_tail 5 (by kernel_rfl) (by kernel_rfl) ?_
      simp only [List.take_succ_cons, List.take_zero, List.drop_succ_cons, List.drop_zero]
      repeat still_step
      refine wpStill_nil ?_
      go_wp2_with (go_at_call 79; refine HI.out.mono ?_; rintro e w2 ⟨rfl, hN2, hI2, hK2⟩)
      go_roundw
      case rel => exact ⟨j, by omega, by go_num, hN2, hI2, HJ.out, HK.out.trans ⟨hK2.os, hK2.tape, hK2.output, hK2.size, hK2.keep⟩⟩
      case measure => simp [intOf]

theorem cutE_same {w : World} {E : List Ent} (hN : NAt B w pn bm bb lv last E Y) {r : Ent} (hr : r ∈ E) {k : Nat} (hk : r.t.made.length ≤ k) : cutE r.h r.v k E = E := by
  unfold cutE
  conv => rhs; rw [← List.map_id E]
  refine List.map_congr_left fun e he => ?_
  by_cases hh : e.h = r.h
  · have : e = r := hN.one he hr hh
    subst this
    rw [if_pos rfl, List.take_of_length_le hk]; rfl
  · rw [if_neg hh]; rfl

def CutPost (S' : List Ent × σ) (r : Ent) (k : Nat) (w : World) (e : Ending) (w' : World) : Prop :=
  e = .returned (.tuple #[]) ∧ (∃ nv, NAt B w' pn bm bb lv last (cutE r.h nv k S'.1) Y) ∧ LI.Inv w' S'.2 ∧ Kp (okEnd B) w w'

set_option maxRecDepth 100000 in
set_option maxHeartbeats 1000000 in
theorem cut_any (n : Nat) (IH : EndSaid (pn := pn) (last := last) (Y := Y) LI n) (w : World) (S : List Ent × σ) (hN : NAt B w pn bm bb lv last S.1 Y) (hI : LI.Inv w S.2) {r : Ent} (hr : r ∈ S.1) (k : Nat) (hl : ∀ m ∈ r.t.made.drop k, last < m + n) (hlast : last < 4611686018428387904) (hk : k < 9223372036854775807) :
    Calls Try.prog 61 #[ptr pn, ptr r.p, .int .i64 (k : Int)] w (CutPost (pn := pn) (last := last) (Y := Y) LI (endsS LI.endF n S (r.t.made.drop k)) r k w) := by
  have hR := hN.ent r hr
  have hnum := (hN.num r hr).2
  have c2 : w.cell? ⟨r.p, 2, none⟩ = some r.v := hR.blk.cell 2
  have lrp := hR.plt
  by_cases hlt : k < r.t.made.length
  · obtain ⟨g, cap, cur, hv, hgB, hgh, hnc, hcm, hcs, hct⟩ : ∃ g cap cur, r.v = .slice (some ⟨g, 0, none⟩) r.t.made.length cap ∧ B ≤ g ∧ w.heap[g]? = some (.cells cur 23 (0, 0)) ∧ r.t.made.length ≤ cap ∧ cap ≤ maxLen ∧ cur.size = cap * 1 ∧ cur.toList.take (r.t.made.length * 1) = r.t.made.map encU := by
      rcases hR.row.2 with ⟨_, h2⟩ | h
      · omega
      · exact h
    have hdl : (r.t.made.drop k).length = r.t.made.length - k := List.length_drop
    have hrd : ∀ w', EntAt B w' r → ReadsU w' (some ⟨g, k, none⟩) (r.t.made.drop k) := by
      intro w' h'
      refine .inr ⟨g, k, rfl, fun j hj => ?_⟩
      have hc := h'.row.cells (g := g) (by rw [hv]; rfl) (k + j) (encU (r.t.made.drop k)[j]) (by
        rw [List.getElem?_map, List.getElem_drop, List.getElem?_eq_getElem (by omega)]; rfl)
      have ha : (⟨g, 0, none⟩ : Addr).add (k + j) = ⟨g, k + j, none⟩ := by unfold Addr.add; split <;> simp_all
      rw [ha] at hc
      exact hc
    have hbox : Below w.heap.size w (w.alloc (.cells #[ptr pn] 26)) := (Below.refl _ _).alloc (Nat.le_refl _) _
    have hends := ends_any LI n IH (w.alloc (.cells #[ptr pn] 26)) S (hN.below hbox) (LI.stable _ _ _ hI (Kp.of_below hbox)) hr (some ⟨g, k, none⟩) (cap - k) (r.t.made.drop k) hrd
      (fun m hm => ⟨(hN.tree r hr m (List.mem_of_mem_drop hm)).1, hl m hm⟩) (by omega) w.heap.size (Blk.new _ _ _)
    rw [hdl] at hends
    have hin : ∀ S', S' = endsS LI.endF n S (r.t.made.drop k) → r ∈ S'.1 := by
      rintro _ rfl
      have hsub : ∀ (l : List Nat) (T : List Ent × σ), (∀ m ∈ l, r.h < m) → (∀ e ∈ T.1, ∀ m ∈ e.t.made, e.h < m) → r ∈ T.1 → r ∈ (l.foldl (endS LI.endF n) T).1 := by
        intro l
        induction l with
        | nil => intro T _ _ hx; exact hx
        | cons m l ihl =>
          intro T hlm hT hxT
          refine ihl _ (fun m' hm' => hlm m' (by simp [hm'])) ?_ (endS_keeps LI.endF n T m r hT hxT (hlm m (by simp)))
          exact fun e' he' => hT e' (endS_keeps.endS_sub LI.endF n T m he')
      exact hsub _ S (fun m hm => (hN.tree r hr m (List.mem_of_mem_drop (by simpa using hm))).1) (fun e he m hm => (hN.tree e he m hm).1) hr
    have HE := Lib.hid hends
    have HIN := Lib.hid hin
    have h1 : ¬ cap = k := by omega
    have hd : decide (k < r.t.made.length) = true := by rw [decide_eq_true_eq]; omega
    have b1 : (k : Int) ≤ (r.t.made.length : Int) := by omega
    have b2 : k ≤ r.t.made.length := by omega
    rw [hv] at c2
    have HV := Lib.hid hv
    have hsz : r.t.made.length ≤ 1000000 := by omega
    have hck : k ≤ cap := by omega
    clear hN hI hl hR hnum hv hr IH hgB hgh hcm hcs hct hdl hrd hbox hends hin hlt
    unfold ptr
    generalize hln : r.t.made.length = ln at *
    have HLN := Lib.hid hln
    clear hln
    go_enter Try.func61, Try.ntmps61
    go_wp2_with fail
    refine HE.out.mono ?_
    rintro e w2 ⟨rfl, hN2, hI2, hK2⟩
    have hin2 := HIN.out _ rfl
    have hR2 := hN2.ent r hin2
    have d2 : w2.cell? ⟨r.p, 2, none⟩ = some (.slice (some ⟨g, 0, none⟩) ln cap) := by have := hR2.blk.cell 2; rw [← HV.out]; exact this
    have g2 : w2.frozen? ⟨r.p, 2, none⟩ = false := hR2.blk.frozen 2
    have HQ := Lib.hid (And.intro hN2 (And.intro hI2 (And.intro hK2 (And.intro hin2 hR2))))
    clear hN2 hI2 hK2 hin2 hR2 c2
    go_wp2
    go_end0
    obtain ⟨hN2, hI2, hK2, hin2, hR2⟩ := HQ.out
    have hown := hR2.row
    rw [HV.out, HLN.out] at hown
    have hNc := hN2.cut hin2 k (nv := .slice (some ⟨g, 0, none⟩) k cap) (by rw [HV.out]; rfl) (by
      have := own_take hown b2
      have e : (r.t.made.take k).length = k := by rw [List.length_take, HLN.out]; omega
      rw [e]
      exact this)
    have hset : Fr (fun j => j = r.p) w2 (w2.setCell ⟨r.p, 2, none⟩ (.slice (some ⟨g, 0, none⟩) k cap)) := (Fr.refl (fun j => j = r.p) w2).setCell (p := ⟨r.p, 2, none⟩) (.inl rfl) _
    refine ⟨rfl, ⟨_, hNc⟩, LI.stable _ _ _ hI2 (Kp.of_fr hset ?_), (Kp.of_below ((Below.refl _ _).alloc (Nat.le_refl _) _)).trans (hK2.trans (Kp.of_fr hset ?_))⟩
    · rintro j o ho ⟨_, _, h3⟩ rfl
      have h4 := hR2.blk
      unfold Blk at h4
      rw [h4] at ho
      exact (h3 _ _ _ (by injection ho with ho; exact ho.symm)).2.1 rfl
    · rintro j o ho hok rfl
      rcases hok with h3 | ⟨cs, fz, h3⟩
      · have := hR2.base; omega
      · have h4 := hR2.blk
        unfold Blk at h4
        rw [h4, h3] at ho
        injection ho with ho
        injection ho with _ h5
        exact absurd h5 (by decide)
  · have hv : ∃ A c, r.v = .slice A r.t.made.length c := by
      rcases hR.row.2 with ⟨h1, h2⟩ | ⟨g, cap, cur, h1, _⟩
      · exact ⟨none, 0, by rw [h1, h2]⟩
      · exact ⟨_, _, h1⟩
    obtain ⟨A, c, hv⟩ := hv
    have hS : endsS LI.endF n S (r.t.made.drop k) = S := by
      rw [List.drop_eq_nil_of_le (by omega)]; rfl
    have hE := cutE_same hN hr (k := k) (by omega)
    rw [hS]
    have HN : Hid (∃ nv, NAt B w pn bm bb lv last (cutE r.h nv k S.1) Y) := ⟨r.v, by rw [hE]; exact hN⟩
    rw [hv] at c2
    have hd : decide ((k : Int) < (r.t.made.length : Int)) = false := by rw [decide_eq_false_iff_not]; omega
    have HI := Lib.hid (And.intro hI hN)
    clear hN hI hl hR hnum hv hS hE hr IH
    unfold ptr
    generalize r.t.made.length = ln at *
    go_enter Try.func61, Try.ntmps61
    go_wp2
    go_end0
    refine ⟨rfl, ?_, LI.stable _ _ _ HI.out.1 (Kp.of_below ((Below.refl _ _).alloc (Nat.le_refl _) _)), Kp.of_below ((Below.refl _ _).alloc (Nat.le_refl _) _)⟩
    obtain ⟨nv, hn⟩ := HN.out
    exact ⟨nv, hn.below ((Below.refl _ _).alloc (Nat.le_refl _) _)⟩

theorem stable_drop {w w' : World} {s : σ} (hI : LI.Inv w s) (hg : w.grownBy w' (some bm)) : LI.Inv w' s :=
  LI.stable _ _ _ hI ⟨hg.os, hg.tape, hg.output, hg.size, fun k o hk hok => (hg.block k (lt_of_heap hk) (fun e => hok.1 (by injection e))).trans hk⟩

set_option maxRecDepth 100000 in
set_option maxHeartbeats 1000000 in
theorem end_all (hlast : last < 4611686018428387904) (n : Nat) : EndSaid (pn := pn) (last := last) (Y := Y) LI n := by
  induction n with
  | zero =>
    intro w S h hN hI hh
    have hf : findE h S.1 = none := by
      unfold findE
      rw [List.find?_eq_none]
      intro e he
      have := (hN.num e he).1
      simp
      omega
    have hl := hN.look h
    rw [hf] at hl
    simp only [optPtr] at hl
    have c2 : w.cell? ⟨pn, 2, none⟩ = some (.map (some bm)) := hN.blk.cell 2
    have HQ := Lib.hid (And.intro hN hI)
    clear hN hI hf
    unfold ptr
    go_enter Try.func79, Try.ntmps79
    go_wp2
    refine bodyPost_ret (results_none rfl _ _ _) rfl ?_
    exact ⟨rfl, HQ.out.1, HQ.out.2, Kp.refl _ _⟩
  | succ n ih =>
    intro w S h hN hI hh
    have hl := hN.look h
    have c2 : w.cell? ⟨pn, 2, none⟩ = some (.map (some bm)) := hN.blk.cell 2
    cases hf : findE h S.1 with
    | none =>
      rw [hf] at hl
      simp only [optPtr] at hl
      have hS : endS LI.endF (n + 1) S h = S := by simp [endS, hf]
      rw [hS]
      have HQ := Lib.hid (And.intro hN hI)
      clear hN hI hf hS ih
      unfold ptr
      go_enter Try.func79, Try.ntmps79
      go_wp2
      refine bodyPost_ret (results_none rfl _ _ _) rfl ?_
      exact ⟨rfl, HQ.out.1, HQ.out.2, Kp.refl _ _⟩
    | some r =>
      rw [hf] at hl
      simp only [optPtr, ptr] at hl
      obtain ⟨hr, hrh⟩ := findE_mem hf
      have hcut := cut_any LI n ih w S hN hI hr 0 (fun m hm => by
        have := (hN.tree r hr m (List.mem_of_mem_drop hm)).1
        omega) hlast (by omega)
      have hS : endS LI.endF (n + 1) S h = (dropE h (endsS LI.endF n S (r.t.made.drop 0)).1, if r.t.kind = 1 then LI.endF (endsS LI.endF n S (r.t.made.drop 0)).2 h else (endsS LI.endF n S (r.t.made.drop 0)).2) := by
        simp [endS, hf, endsS]
      have hin : r ∈ (endsS LI.endF n S (r.t.made.drop 0)).1 := by
        have hsub : ∀ (l : List Nat) (T : List Ent × σ), (∀ m ∈ l, r.h < m) → (∀ e ∈ T.1, ∀ m ∈ e.t.made, e.h < m) → r ∈ T.1 → r ∈ (l.foldl (endS LI.endF n) T).1 := by
          intro l
          induction l with
          | nil => intro T _ _ hx; exact hx
          | cons m l ihl =>
            intro T hlm hT hxT
            refine ihl _ (fun m' hm' => hlm m' (by simp [hm'])) ?_ (endS_keeps LI.endF n T m r hT hxT (hlm m (by simp)))
            exact fun e' he' => hT e' (endS_keeps.endS_sub LI.endF n T m he')
        exact hsub _ S (fun m hm => (hN.tree r hr m (by simpa using hm)).1) (fun e he m hm => (hN.tree e he m hm).1) hr
      rw [hS]
      generalize endsS LI.endF n S (r.t.made.drop 0) = S1 at *
      have HC := Lib.hid hcut
      have HIN := Lib.hid hin
      have HRH := Lib.hid hrh
      clear hcut hin hN hI hf hr hrh hS ih
      unfold ptr
      by_cases hk : r.t.kind = 1
      · have hd : ((r.t.kind : Int) == 1) = true := by rw [beq_iff_eq]; omega
        rw [if_pos hk]
        clear hk
        go_enter Try.func79, Try.ntmps79
        go_wp2_with fail
        refine HC.out.mono ?_
        rintro e w2 ⟨rfl, ⟨nv, hN2⟩, hI2, hK2⟩
        have d2 : w2.cell? ⟨pn, 2, none⟩ = some (.map (some bm)) := hN2.blk.cell 2
        have hrp : Blk w2 r.p 109 (thingCells { r.t with made := r.t.made.take 0 } nv) := (hN2.ent _ (List.mem_map.2 ⟨r, HIN.out, if_pos rfl⟩)).blk
        have hne : r.p ≠ bm := hN2.map.blk_ne hrp
        have hd3 : ∀ w3, w2.grownBy w3 (some bm) → w3.cell? ⟨r.p, 0, none⟩ = some (.int .i64 (r.t.kind : Int)) := fun w3 hg => (hrp.same (hg.block _ hrp.lt (fun e => hne (by injection e)))).cell 0
        have HD3 := Lib.hid hd3
        have hd0 : ∀ w3, w2.grownBy w3 (some bm) → w3.cell? ⟨pn, 0, none⟩ = some lv := fun w3 hg => (hN2.blk.same (hg.block _ hN2.blk.lt (fun e => hN2.pn_ne_bm (by injection e)))).cell 0
        have HD0 := Lib.hid hd0
        clear hd3 hd0
        go_wp2_with (at_delete; refine wpList_mapL_delete rfl (.tmp 19) (.tmp 20) 101 23 rfl key23 Try.underlying101 bm _ hN2.map rfl h rfl ?_; intro w3 hm3 hg3; have d3 := HD3.out _ hg3; have c0 := HD0.out _ hg3)
        have hN3 : NAt B w3 pn bm bb lv last (dropE h S1.1) Y := by
          have := hN2.drop h hg3 hm3
          rw [← HRH.out, drop_cut, HRH.out] at this
          exact this
        have hI3 := stable_drop LI hI2 hg3
        have hK3 : Kp (okEnd B) w w3 := by
          refine hK2.trans ⟨hg3.os, hg3.tape, hg3.output, hg3.size, fun j o hj hok => (hg3.block j (lt_of_heap hj) ?_).trans hj⟩
          intro e
          have e' : j = bm := by injection e
          subst e'
          obtain ⟨es, c, hm⟩ := hN2.map.heap
          rw [hm] at hj
          rcases hok with h3 | ⟨cs, fz, h3⟩
          · have := hN2.hbm; omega
          · injection hj with hj; rw [h3] at hj; cases hj
        have HLE := Lib.hid (LI.endC w3 S1.2 h hI3)
        have HQ := Lib.hid (And.intro hN3 hK3)
        clear hN3 hI3 hK3 hm3 hg3 hN2 hI2 hK2 hrp
        go_wp2_with (go_at_call 118; refine HLE.out.mono ?_; rintro e w4 ⟨⟨b, rfl⟩, hI4, hK4⟩)
        go_end0
        refine ⟨rfl, HQ.out.1.nav hK4, hI4, HQ.out.2.trans (hK4.mono ?_)⟩
        rintro j o (h3 | ⟨cs, fz, h3⟩)
        · exact .inl h3
        · exact .inr (.inr (.inr ⟨cs, _, fz, h3, .inr (.inr (.inr rfl))⟩))
      · have hd : ((r.t.kind : Int) == 1) = false := by rw [beq_eq_false_iff_ne]; omega
        rw [if_neg hk]
        clear hk
        go_enter Try.func79, Try.ntmps79
        go_wp2_with fail
        refine HC.out.mono ?_
        rintro e w2 ⟨rfl, ⟨nv, hN2⟩, hI2, hK2⟩
        have d2 : w2.cell? ⟨pn, 2, none⟩ = some (.map (some bm)) := hN2.blk.cell 2
        have hrp : Blk w2 r.p 109 (thingCells { r.t with made := r.t.made.take 0 } nv) := (hN2.ent _ (List.mem_map.2 ⟨r, HIN.out, if_pos rfl⟩)).blk
        have hne : r.p ≠ bm := hN2.map.blk_ne hrp
        have hd3 : ∀ w3, w2.grownBy w3 (some bm) → w3.cell? ⟨r.p, 0, none⟩ = some (.int .i64 (r.t.kind : Int)) := fun w3 hg => (hrp.same (hg.block _ hrp.lt (fun e => hne (by injection e)))).cell 0
        have HD3 := Lib.hid hd3
        have hd0 : ∀ w3, w2.grownBy w3 (some bm) → w3.cell? ⟨pn, 0, none⟩ = some lv := fun w3 hg => (hN2.blk.same (hg.block _ hN2.blk.lt (fun e => hN2.pn_ne_bm (by injection e)))).cell 0
        have HD0 := Lib.hid hd0
        clear hd3 hd0
        go_wp2_with (at_delete; refine wpList_mapL_delete rfl (.tmp 19) (.tmp 20) 101 23 rfl key23 Try.underlying101 bm _ hN2.map rfl h rfl ?_; intro w3 hm3 hg3; have d3 := HD3.out _ hg3; have c0 := HD0.out _ hg3)
        have hN3 : NAt B w3 pn bm bb lv last (dropE h S1.1) Y := by
          have := hN2.drop h hg3 hm3
          rw [← HRH.out, drop_cut, HRH.out] at this
          exact this
        have hI3 := stable_drop LI hI2 hg3
        have hK3 : Kp (okEnd B) w w3 := by
          refine hK2.trans ⟨hg3.os, hg3.tape, hg3.output, hg3.size, fun j o hj hok => (hg3.block j (lt_of_heap hj) ?_).trans hj⟩
          intro e
          have e' : j = bm := by injection e
          subst e'
          obtain ⟨es, c, hm⟩ := hN2.map.heap
          rw [hm] at hj
          rcases hok with h3 | ⟨cs, fz, h3⟩
          · have := hN2.hbm; omega
          · injection hj with hj; rw [h3] at hj; cases hj
        clear hm3 hg3 hN2 hI2 hK2 hrp
        go_wp2
        go_end0
        exact ⟨rfl, hN3, hI3, hK3⟩
end
end Go.Proofs.Ytgdmpblodgofgaa
