/- The plain manager in memory: how it stands behind one thing more, and behind a region's list that has grown. No walk. -/
import Derived.Test.YtgdmpblodgofgaaNSt
namespace Go.Proofs.Ytgdmpblodgofgaa
open Go.RowKit

theorem EntAt.same {B : Nat} {w w' : World} {e : Ent} (h : EntAt B w e) (hp : w'.heap[e.p]? = w.heap[e.p]?) (hv : ∀ g, e.v.ownBlock = some g → w'.heap[g]? = w.heap[g]?) : EntAt B w' e :=
  ⟨h.base, h.blk.same hp, own_same h.row hv⟩
theorem EntAt.plt {B : Nat} {w : World} {e : Ent} (h : EntAt B w e) : e.p < w.heap.size := h.blk.lt
theorem EntAt.vlt {B : Nat} {w : World} {e : Ent} (h : EntAt B w e) {g : Nat} (hg : e.v.ownBlock = some g) : B ≤ g ∧ g < w.heap.size := own_lt h.row hg
theorem EntAt.p_ne_v {B : Nat} {w : World} {e e' : Ent} (h : EntAt B w e) (h' : EntAt B w e') : e'.v.ownBlock ≠ some e.p := fun hc => own_blk_ne h'.row h.blk (by decide) hc.symm

section
variable {B : Nat} {w w' : World} {pn bm bb : Nat} {lv : Value} {last : Nat} {E : List Ent} {Y : List (Place × Nat)}
theorem NAt.pn_ne_p (hN : NAt B w pn bm bb lv last E Y) {e : Ent} (he : EntAt B w e) : e.p ≠ pn := he.blk.ne_ hN.blk (by decide)
theorem NAt.pn_ne_v (hN : NAt B w pn bm bb lv last E Y) {e : Ent} (he : EntAt B w e) : e.v.ownBlock ≠ some pn := fun hc => own_blk_ne he.row hN.blk (by decide) hc.symm
theorem NAt.bm_ne_p (hN : NAt B w pn bm bb lv last E Y) {e : Ent} (he : EntAt B w e) : e.p ≠ bm := hN.map.blk_ne he.blk
theorem NAt.bm_ne_v (hN : NAt B w pn bm bb lv last E Y) {e : Ent} (he : EntAt B w e) : e.v.ownBlock ≠ some bm := fun hc => hN.map.own_ne he.row hc.symm
theorem NAt.bb_ne_p (hN : NAt B w pn bm bb lv last E Y) {e : Ent} (he : EntAt B w e) : e.p ≠ bb := hN.byt.blk_ne he.blk
theorem NAt.bb_ne_v (hN : NAt B w pn bm bb lv last E Y) {e : Ent} (he : EntAt B w e) : e.v.ownBlock ≠ some bb := fun hc => hN.byt.own_ne he.row hc.symm
theorem NAt.pn_ne_bm (hN : NAt B w pn bm bb lv last E Y) : pn ≠ bm := hN.map.blk_ne hN.blk
theorem NAt.pn_ne_bb (hN : NAt B w pn bm bb lv last E Y) : pn ≠ bb := hN.byt.blk_ne hN.blk

/-- The blocks of the manager. -/
def NAt.foot (pn bm bb : Nat) (E : List Ent) (k : Nat) : Prop := k = pn ∨ k = bm ∨ k = bb ∨ ∃ e ∈ E, k = e.p ∨ e.v.ownBlock = some k
/-- Nothing of the manager's has turned. -/
theorem NAt.same (hN : NAt B w pn bm bb lv last E Y) (h : ∀ k, NAt.foot pn bm bb E k → w'.heap[k]? = w.heap[k]?) : NAt B w' pn bm bb lv last E Y where
  hpn := hN.hpn
  hbm := hN.hbm
  hbb := hN.hbb
  hne := hN.hne
  blk := hN.blk.same (h _ (.inl rfl))
  map := hN.map.same (h _ (.inr (.inl rfl)))
  byt := hN.byt.same (h _ (.inr (.inr (.inl rfl))))
  ent e he := (hN.ent e he).same (h _ (.inr (.inr (.inr ⟨e, he, .inl rfl⟩)))) (fun _ hg => h _ (.inr (.inr (.inr ⟨e, he, .inr hg⟩))))
  sep := hN.sep
  num := hN.num
  tree := hN.tree
theorem NAt.foot_lt (hN : NAt B w pn bm bb lv last E Y) {k : Nat} (h : NAt.foot pn bm bb E k) : B ≤ k ∧ k < w.heap.size := by
  rcases h with rfl | rfl | rfl | ⟨e, he, rfl | hg⟩
  · exact ⟨hN.hpn, hN.blk.lt⟩
  · exact ⟨hN.hbm, hN.map.lt⟩
  · exact ⟨hN.hbb, hN.byt.lt⟩
  · exact ⟨(hN.ent e he).base, (hN.ent e he).plt⟩
  · exact (hN.ent e he).vlt hg
theorem NAt.below (hN : NAt B w pn bm bb lv last E Y) (h : Below w.heap.size w w') : NAt B w' pn bm bb lv last E Y :=
  hN.same fun k hk => h.block k (hN.foot_lt hk).2
theorem NAt.drew (hN : NAt B w pn bm bb lv last E Y) : NAt B w.drew pn bm bb lv last E Y := hN.same fun _ _ => rfl

theorem kvs_app (E : List Ent) (e : Ent) : kvs (E ++ [e]) = kvs E ++ [(e.h, ptr e.p)] := by simp [kvs]
theorem kvs_keys (E : List Ent) : (kvs E).map (·.1) = E.map (·.h) := by simp [kvs, List.map_map, Function.comp_def]

/-- One thing more: the counter has moved, and the map has it. -/
theorem NAt.push (hN : NAt B w pn bm bb lv last E Y) {e : Ent} (he : EntAt B w e) (hh : e.h = last + 1) (hp : ∀ e' ∈ E, e'.p ≠ e.p) (hv : e.v = .slice none 0 0) (hmade : e.t.made = []) (hlast : 4611686018427387904 ≤ last)
    {w1 : World} (hm : MapL encU w1 bm (aput e.h (ptr e.p) (kvs E))) (hg : (w.setCell ⟨pn, 1, none⟩ (.int .u64 ((last + 1 : Nat) : Int))).grownBy w1 (some bm)) :
    NAt B w1 pn bm bb lv (last + 1) (E ++ [e]) Y := by
  have hsz : (w.setCell ⟨pn, 1, none⟩ (.int .u64 ((last + 1 : Nat) : Int))).heap.size = w.heap.size := by simp [World.setCell]
  have hblk : ∀ k, k < w.heap.size → k ≠ pn → k ≠ bm → w1.heap[k]? = w.heap[k]? := fun k hk h1 h2 =>
    (hg.block k (by rw [hsz]; exact hk) (fun e => h2 (by injection e))).trans (Below.heap_setCell _ _ _ _ h1)
  have hnew : e.h ∉ (kvs E).map (·.1) := by
    rw [kvs_keys]
    intro hmem
    obtain ⟨e', he', hh'⟩ := List.mem_map.1 hmem
    have := (hN.num e' he').1
    omega
  refine ⟨hN.hpn, hN.hbm, hN.hbb, hN.hne, ?_, ?_, ?_, ?_, ?_, ?_, ?_⟩
  · exact (Blk.set_ hN.blk 1 _).same (hg.block pn (by rw [hsz]; exact hN.blk.lt) (fun e => hN.pn_ne_bm (by injection e)))
  · rw [kvs_app]
    unfold aput at hm
    rw [if_neg hnew] at hm
    exact hm
  · exact hN.byt.same (hblk bb hN.byt.lt (Ne.symm hN.pn_ne_bb) (Ne.symm hN.hne))
  · intro e' he'
    have hE : EntAt B w e' := by
      rcases List.mem_append.1 he' with h | h
      · exact hN.ent e' h
      · rw [List.mem_singleton.1 h]; exact he
    exact hE.same (hblk _ hE.plt (hN.pn_ne_p hE) (hN.bm_ne_p hE)) (fun g hg' => hblk g (hE.vlt hg').2 (fun h => hN.pn_ne_v hE (h ▸ hg')) (fun h => hN.bm_ne_v hE (h ▸ hg')))
  · rw [List.pairwise_append]
    refine ⟨hN.sep, List.pairwise_singleton _ _, fun a ha b hb => ?_⟩
    rw [List.mem_singleton.1 hb]
    have := (hN.num a ha).1
    exact ⟨by omega, hp a ha, fun g _ => by rw [hv]; simp [Value.ownBlock]⟩
  · intro e' he'
    rcases List.mem_append.1 he' with h | h
    · have := hN.num e' h
      omega
    · rw [List.mem_singleton.1 h, hmade]
      simp
      omega
  · intro e' he' m hm'
    rcases List.mem_append.1 he' with h | h
    · have := hN.tree e' h m hm'
      omega
    · rw [List.mem_singleton.1 h, hmade] at hm'
      cases hm'

theorem NAt.one (hN : NAt B w pn bm bb lv last E Y) {e e' : Ent} (he : e ∈ E) (he' : e' ∈ E) (hh : e.h = e'.h) : e = e' := by
  rcases pair_of hN.sep he he' with h | h | h
  · exact h
  · exact absurd hh h.1
  · exact absurd hh.symm h.1

def Ent.grow (e : Ent) (nv : Value) (h : Nat) : Ent := { e with v := nv, t := { e.t with made := e.t.made ++ [h] } }
def growE (r : Nat) (nv : Value) (h : Nat) (E : List Ent) : List Ent := E.map fun e => if e.h = r then e.grow nv h else e
theorem growE_kvs (r : Nat) (nv : Value) (h : Nat) (E : List Ent) : kvs (growE r nv h E) = kvs E := by
  unfold kvs growE
  rw [List.map_map]
  refine List.map_congr_left fun e _ => ?_
  simp only [Function.comp_def]
  split <;> rfl

/-- A region's list has grown: in its own row or in a new one; then its field. -/
theorem NAt.grow (hN : NAt B w pn bm bb lv last E Y) {r : Ent} (hr : r ∈ E) {nv : Value} {h : Nat} (hlen : r.t.made.length + 1 + 4611686018427387904 ≤ last) (hrh : r.h < h ∧ h ≤ last)
    {w1 : World} (hown : w1.ownsRow B 23 1 nv (r.t.made.length + 1) ((r.t.made ++ [h]).map encU)) (hg : w.grownBy w1 r.v.ownBlock) (hat : nv.ownBlock = r.v.ownBlock ∨ ∃ b, nv.ownBlock = some b ∧ w.heap.size ≤ b) :
    NAt B (w1.setCell ⟨r.p, 2, none⟩ nv) pn bm bb lv last (growE r.h nv h E) Y := by
  have hR := hN.ent r hr
  have hblk : ∀ k, k < w.heap.size → k ≠ r.p → r.v.ownBlock ≠ some k → (w1.setCell ⟨r.p, 2, none⟩ nv).heap[k]? = w.heap[k]? := fun k hk h1 h2 =>
    (Below.heap_setCell _ _ _ _ h1).trans (hg.block k hk (fun e => h2 e.symm))
  have hsep : ∀ e ∈ E, e.h ≠ r.h → e.p ≠ r.p ∧ (∀ g, e.v.ownBlock = some g → r.v.ownBlock ≠ some g) := by
    intro e he hne
    rcases pair_of hN.sep he hr with rfl | h | h
    · exact absurd rfl hne
    · exact h.2
    · exact ⟨Ne.symm h.2.1, fun g hg hc => h.2.2 g hc hg⟩
  have hown' : (w1.setCell ⟨r.p, 2, none⟩ nv).ownsRow B 23 1 nv (r.t.made.length + 1) ((r.t.made ++ [h]).map encU) :=
    own_same hown fun g hg' => Below.heap_setCell _ _ _ _ (by
      intro hc
      rcases hat with h1 | ⟨b, h1, h2⟩
      · rw [h1] at hg'
        exact hR.p_ne_v hR (by rw [hg', hc])
      · rw [h1] at hg'
        have := hR.plt
        have h3 : b = g := by injection hg'
        simp at hc
        omega)
  have hrp : Blk w1 r.p 109 (thingCells r.t r.v) := hR.blk.grown hg (fun e => hR.p_ne_v hR e.symm)
  have hlt1 := hg.size
  refine ⟨hN.hpn, hN.hbm, hN.hbb, hN.hne, ?_, ?_, ?_, ?_, ?_, ?_, ?_⟩
  · exact hN.blk.same (hblk pn hN.blk.lt (Ne.symm (hN.pn_ne_p hR)) (hN.pn_ne_v hR))
  · rw [growE_kvs]
    exact hN.map.same (hblk bm hN.map.lt (Ne.symm (hN.bm_ne_p hR)) (hN.bm_ne_v hR))
  · exact hN.byt.same (hblk bb hN.byt.lt (Ne.symm (hN.bb_ne_p hR)) (hN.bb_ne_v hR))
  · intro e' he'
    obtain ⟨e, he, rfl⟩ := List.mem_map.1 he'
    by_cases hh : e.h = r.h
    · have : e = r := by
        exact hN.one he hr hh
      subst this
      rw [if_pos rfl]
      refine ⟨hR.base, ?_, by simpa [Ent.grow] using hown'⟩
      have := hrp.set_ 2 nv
      exact this
    · rw [if_neg hh]
      have hE := hN.ent e he
      have hs := hsep e he hh
      exact hE.same (hblk _ hE.plt hs.1 (hE.p_ne_v hR)) (fun g hg' => hblk g (hE.vlt hg').2 (fun hc => hR.p_ne_v hE (by rw [hg', hc])) (hs.2 g hg'))
  · unfold growE
    rw [List.pairwise_map]
    refine hN.sep.imp_of_mem fun {a b} ha hb hab => ?_
    have hA := hN.ent a ha
    have hB := hN.ent b hb
    by_cases h1 : a.h = r.h
    · have h2 : b.h ≠ r.h := fun h => hab.1 (h1.trans h.symm)
      have hs := hsep b hb h2
      rw [if_pos h1, if_neg h2]
      refine ⟨hab.1, hab.2.1, fun g hg' hc => ?_⟩
      have hg2 : nv.ownBlock = some g := hg'
      rcases hat with h3 | ⟨q, h3, h4⟩
      · exact hs.2 g hc (by rw [← h3]; exact hg2)
      · rw [h3] at hg2
        have : q = g := by injection hg2
        have := (hB.vlt hc).2
        omega
    · rw [if_neg h1]
      by_cases h2 : b.h = r.h
      · have hs := hsep a ha h1
        rw [if_pos h2]
        refine ⟨hab.1, hab.2.1, fun g hg' hc => ?_⟩
        have hg2 : nv.ownBlock = some g := hc
        rcases hat with h3 | ⟨q, h3, h4⟩
        · exact hs.2 g hg' (by rw [← h3]; exact hg2)
        · rw [h3] at hg2
          have : q = g := by injection hg2
          have := (hA.vlt hg').2
          omega
      · rw [if_neg h2]
        exact hab
  · intro e' he'
    obtain ⟨e, he, rfl⟩ := List.mem_map.1 he'
    by_cases hh : e.h = r.h
    · have : e = r := by
        exact hN.one he hr hh
      subst this
      have := (hN.num e he).1
      rw [if_pos rfl]
      simp [Ent.grow]
      omega
    · rw [if_neg hh]
      exact hN.num e he
  · intro e' he' m hm'
    obtain ⟨e, he, rfl⟩ := List.mem_map.1 he'
    by_cases hh : e.h = r.h
    · have : e = r := hN.one he hr hh
      subst this
      rw [if_pos rfl] at hm' ⊢
      simp only [Ent.grow, List.mem_append, List.mem_singleton] at hm' ⊢
      rcases hm' with h1 | rfl
      · exact hN.tree e he m h1
      · exact hrh
    · rw [if_neg hh] at hm' ⊢
      exact hN.tree e he m hm'
end
end Go.Proofs.Ytgdmpblodgofgaa
