/- The plain manager in memory: how it stands behind things that are given up. No walk. -/
import Derived.Test.YtgdmpblodgofgaaNW4
namespace Go.Proofs.Ytgdmpblodgofgaa
open Go.RowKit

/-- What the plain manager leaves alone. -/
def okLed (bm bb : Nat) (k : Nat) (o : Obj) : Prop :=
  k ≠ bm ∧ k ≠ bb ∧ ∀ cs t fz, o = .cells cs t fz → t ≠ 104 ∧ t ≠ 109 ∧ t ≠ 23
/-- What a ledger leaves alone. -/
def okNav (B bm bb : Nat) (k : Nat) (o : Obj) : Prop :=
  k < B ∨ k = bm ∨ k = bb ∨ ∃ cs t fz, o = .cells cs t fz ∧ (t = 104 ∨ t = 109 ∨ t = 23 ∨ t = 26)
/-- What giving up leaves alone. -/
def okEnd (B : Nat) (k : Nat) (o : Obj) : Prop := k < B ∨ ∃ cs fz, o = .cells cs 26 fz

/-- A ledger, as far as the plain manager asks. -/
structure LedI (B bm bb : Nat) (lv : Value) (σ : Type) where
  Inv : World → σ → Prop
  stable : ∀ w w' s, Inv w s → Kp (okLed bm bb) w w' → Inv w' s
  endF : σ → Nat → σ
  endC : ∀ w s (h : Nat), Inv w s → Calls Try.prog 118 #[lv, .int .u64 (h : Int)] w fun e w' => (∃ b, e = .returned (.bool b)) ∧ Inv w' (endF s h) ∧ Kp (okNav B bm bb) w w'

section
variable {B : Nat} {w w' : World} {pn bm bb : Nat} {lv : Value} {last : Nat} {E : List Ent} {Y : List (Place × Nat)}
/-- A ledger's doing leaves the manager as it is. -/
theorem NAt.nav (hN : NAt B w pn bm bb lv last E Y) (h : Kp (okNav B bm bb) w w') : NAt B w' pn bm bb lv last E Y := by
  refine hN.same fun k hk => ?_
  have e : ∀ o, w.heap[k]? = some o → okNav B bm bb k o → w'.heap[k]? = w.heap[k]? := fun o ho hok => by rw [h.keep k o ho hok, ho]
  rcases hk with rfl | rfl | rfl | ⟨x, hx, rfl | hg⟩
  · exact e _ hN.blk (.inr (.inr (.inr ⟨_, _, _, rfl, .inl rfl⟩)))
  · obtain ⟨es, c, hm⟩ := hN.map.heap
    exact e _ hm (.inr (.inl rfl))
  · obtain ⟨es, c, hm⟩ := hN.byt.heap
    exact e _ hm (.inr (.inr (.inl rfl)))
  · exact e _ (hN.ent x hx).blk (.inr (.inr (.inr ⟨_, _, _, rfl, .inr (.inl rfl)⟩)))
  · have hr := (hN.ent x hx).row
    rcases hr.2 with ⟨hv, _⟩ | ⟨g, cap, cur, hv, _, hh, _⟩
    · rw [hv] at hg; simp [Value.ownBlock] at hg
    · rw [hv] at hg
      simp [Value.ownBlock] at hg
      subst hg
      exact e _ hh (.inr (.inr (.inr ⟨_, _, _, rfl, .inr (.inr (.inl rfl))⟩)))

/-- A thing is taken out of the map. -/
def dropE (h : Nat) (E : List Ent) : List Ent := E.filter fun e => decide (e.h ≠ h)
theorem dropE_kvs (h : Nat) (E : List Ent) : kvs (dropE h E) = adel h (kvs E) := by
  unfold dropE kvs adel
  rw [List.filter_map]
  rfl
theorem NAt.drop (hN : NAt B w pn bm bb lv last E Y) (h : Nat) (hg : w.grownBy w' (some bm)) (hm : MapL encU w' bm (adel h (kvs E))) : NAt B w' pn bm bb lv last (dropE h E) Y := by
  have hb : ∀ k, k < w.heap.size → k ≠ bm → w'.heap[k]? = w.heap[k]? := fun k hk hn => hg.block k hk (fun e => hn (by injection e))
  have hsub : ∀ e, e ∈ dropE h E → e ∈ E := fun e he => (List.mem_filter.1 he).1
  refine ⟨hN.hpn, hN.hbm, hN.hbb, hN.hne, hN.blk.same (hb _ hN.blk.lt hN.pn_ne_bm), by rw [dropE_kvs]; exact hm, hN.byt.same (hb _ hN.byt.lt (Ne.symm hN.hne)), fun e he => ?_, hN.sep.sublist List.filter_sublist, fun e he => hN.num e (hsub e he), fun e he => hN.tree e (hsub e he)⟩
  have hE := hN.ent e (hsub e he)
  exact hE.same (hb _ hE.plt (hN.bm_ne_p hE)) (fun g hg' => hb g (hE.vlt hg').2 (fun hc => hN.bm_ne_v hE (hc ▸ hg')))

/-- A region's list is cut. -/
def cutE (r : Nat) (nv : Value) (k : Nat) (E : List Ent) : List Ent := E.map fun e => if e.h = r then { e with v := nv, t := { e.t with made := e.t.made.take k } } else e
theorem cutE_kvs (r : Nat) (nv : Value) (k : Nat) (E : List Ent) : kvs (cutE r nv k E) = kvs E := by
  unfold kvs cutE
  rw [List.map_map]
  refine List.map_congr_left fun e _ => ?_
  simp only [Function.comp_def]
  split <;> rfl
theorem drop_cut (r : Nat) (nv : Value) (k : Nat) (E : List Ent) : dropE r (cutE r nv k E) = dropE r E := by
  unfold dropE cutE
  rw [List.filter_map]
  have : (E.filter ((fun e : Ent => decide (e.h ≠ r)) ∘ fun e => if e.h = r then { e with v := nv, t := { e.t with made := e.t.made.take k } } else e)) = E.filter fun e => decide (e.h ≠ r) := by
    refine List.filter_congr fun e _ => ?_
    simp only [Function.comp_def]
    split <;> rfl
  rw [this]
  conv => rhs; rw [← List.map_id (E.filter fun e => decide (e.h ≠ r))]
  refine List.map_congr_left fun e he => ?_
  have := (List.mem_filter.1 he).2
  have hne : e.h ≠ r := by simpa using this
  simp [hne]
theorem own_take {base : Nat} {n cap k : Nat} {g : Nat} {l : List Nat} (h : w.ownsRow base 23 1 (.slice (some ⟨g, 0, none⟩) n cap) n (l.map encU)) (hk : k ≤ n) :
    w.ownsRow base 23 1 (.slice (some ⟨g, 0, none⟩) k cap) k ((l.take k).map encU) := by
  rcases h.2 with ⟨hv, _⟩ | ⟨g', cap', cur, hv, hb, hh, hn, hc, hs, ht⟩
  · cases hv
  · have hl := h.1
    simp at hl
    refine ⟨by simp; omega, .inr ⟨g', cap', cur, ?_, hb, hh, by omega, hc, hs, ?_⟩⟩
    · injection hv with h1 h2 h3
      rw [h1, h3]
    · have : cur.toList.take (k * 1) = (cur.toList.take (n * 1)).take k := by
        rw [List.take_take]
        congr 1
        omega
      rw [this, ht, List.map_take]

theorem NAt.cut (hN : NAt B w pn bm bb lv last E Y) {r : Ent} (hr : r ∈ E) (k : Nat) {nv : Value} (hb : nv.ownBlock = r.v.ownBlock) (hown : w.ownsRow B 23 1 nv (r.t.made.take k).length ((r.t.made.take k).map encU)) :
    NAt B (w.setCell ⟨r.p, 2, none⟩ nv) pn bm bb lv last (cutE r.h nv k E) Y := by
  have hR := hN.ent r hr
  have hblk : ∀ j, j ≠ r.p → (w.setCell ⟨r.p, 2, none⟩ nv).heap[j]? = w.heap[j]? := fun j h1 => Below.heap_setCell _ _ _ _ h1
  have hsep : ∀ e ∈ E, e.h ≠ r.h → e.p ≠ r.p ∧ (∀ g, e.v.ownBlock = some g → r.v.ownBlock ≠ some g) := by
    intro e he hne
    rcases pair_of hN.sep he hr with rfl | h | h
    · exact absurd rfl hne
    · exact h.2
    · exact ⟨Ne.symm h.2.1, fun g hg hc => h.2.2 g hc hg⟩
  refine ⟨hN.hpn, hN.hbm, hN.hbb, hN.hne, hN.blk.same (hblk _ (Ne.symm (hN.pn_ne_p hR))), by rw [cutE_kvs]; exact hN.map.same (hblk _ (Ne.symm (hN.bm_ne_p hR))), hN.byt.same (hblk _ (Ne.symm (hN.bb_ne_p hR))), ?_, ?_, ?_, ?_⟩
  · intro e' he'
    obtain ⟨e, he, rfl⟩ := List.mem_map.1 he'
    by_cases hh : e.h = r.h
    · have : e = r := hN.one he hr hh
      subst this
      rw [if_pos rfl]
      refine ⟨hR.base, hR.blk.set_ 2 nv, own_same hown fun g hg => hblk g (fun hc => hR.p_ne_v hR (by rw [← hb, hg, hc]))⟩
    · rw [if_neg hh]
      have hE := hN.ent e he
      exact hE.same (hblk _ (hsep e he hh).1) (fun g hg => hblk g (fun hc => hR.p_ne_v hE (by rw [hg, hc])))
  · unfold cutE
    rw [List.pairwise_map]
    refine hN.sep.imp_of_mem fun {a b} ha hb' hab => ?_
    by_cases h1 : a.h = r.h
    · have h2 : b.h ≠ r.h := fun h => hab.1 (h1.trans h.symm)
      have : a = r := hN.one ha hr h1
      subst this
      rw [if_pos rfl, if_neg h2]
      exact ⟨hab.1, hab.2.1, fun g hg => hab.2.2 g (hb ▸ hg)⟩
    · rw [if_neg h1]
      by_cases h2 : b.h = r.h
      · have : b = r := hN.one hb' hr h2
        subst this
        rw [if_pos rfl]
        exact ⟨hab.1, hab.2.1, fun g hg hc => hab.2.2 g hg (hb ▸ hc)⟩
      · rw [if_neg h2]
        exact hab
  · intro e' he'
    obtain ⟨e, he, rfl⟩ := List.mem_map.1 he'
    have h1 := hN.num e he
    split
    · have : (e.t.made.take k).length ≤ e.t.made.length := by simp; omega
      exact ⟨h1.1, by simp only; omega⟩
    · exact h1
  · intro e' he' m hm'
    obtain ⟨e, he, rfl⟩ := List.mem_map.1 he'
    split at hm'
    · rename_i hh
      rw [if_pos hh]
      exact hN.tree e he m (List.mem_of_mem_take hm')
    · rename_i hh
      rw [if_neg hh]
      exact hN.tree e he m hm'
end

/-! ### what giving up comes to -/
section
variable {σ : Type} (f : σ → Nat → σ)
def endS : Nat → List Ent × σ → Nat → List Ent × σ
  | 0, S, _ => S
  | n + 1, S, h =>
    match findE h S.1 with
    | none => S
    | some e =>
      let S1 := e.t.made.reverse.foldl (endS n) S
      (dropE h S1.1, if e.t.kind = 1 then f S1.2 h else S1.2)
def endsS (n : Nat) (S : List Ent × σ) (l : List Nat) : List Ent × σ := l.reverse.foldl (endS f n) S
/-- Only things from h on go. -/
theorem endS_keeps (n : Nat) : ∀ (S : List Ent × σ) (h : Nat) (x : Ent), (∀ e ∈ S.1, ∀ m ∈ e.t.made, e.h < m) → x ∈ S.1 → x.h < h → x ∈ (endS f n S h).1 := by
  induction n with
  | zero => intro S h x _ hx _; exact hx
  | succ n ih =>
    intro S h x ht hx hlt
    unfold endS
    cases hf : findE h S.1 with
    | none => exact hx
    | some e =>
      have he := findE_mem hf
      have hsub : ∀ (l : List Nat) (T : List Ent × σ), (∀ m ∈ l, h < m) → (∀ e ∈ T.1, ∀ m ∈ e.t.made, e.h < m) → x ∈ T.1 → x ∈ (l.foldl (endS f n) T).1 := by
        intro l
        induction l with
        | nil => intro T _ _ hx; exact hx
        | cons m l ihl =>
          intro T hl hT hxT
          refine ihl _ (fun m' hm' => hl m' (by simp [hm'])) ?_ (ih T m x hT hxT (by have := hl m (by simp); omega))
          exact fun e' he' => hT e' (endS_sub n T m he')
      refine List.mem_filter.2 ⟨hsub _ _ (fun m hm => ?_) ht hx, by simp; omega⟩
      have := ht e he.1 m (by simpa using hm)
      omega
where
  endS_sub (n : Nat) : ∀ (S : List Ent × σ) (h : Nat) {x : Ent}, x ∈ (endS f n S h).1 → x ∈ S.1 := by
    induction n with
    | zero => intro S h x hx; exact hx
    | succ n ih =>
      intro S h x hx
      unfold endS at hx
      cases hf : findE h S.1 with
      | none => rw [hf] at hx; exact hx
      | some e =>
        rw [hf] at hx
        have hsub : ∀ (l : List Nat) (T : List Ent × σ), x ∈ (l.foldl (endS f n) T).1 → x ∈ T.1 := by
          intro l
          induction l with
          | nil => intro T hx; exact hx
          | cons m l ihl => intro T hx; exact ih T m (ihl _ hx)
        exact hsub _ _ (List.mem_filter.1 hx).1
end
end Go.Proofs.Ytgdmpblodgofgaa
