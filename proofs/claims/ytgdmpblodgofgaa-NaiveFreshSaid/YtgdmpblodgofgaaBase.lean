/- Words for memory that this seat's proofs share: a block known whole, a map read as a list of pairs, frames. Plain theorems over the model; no program in sight. -/
import Derived.WalkKit
import Derived.WalkSpells
import Derived.WalkLawsBesides
import Derived.Lib.Hide
import Derived.Maps.OwnSet
import Derived.Deep.Draws
namespace Go.Proofs.Ytgdmpblodgofgaa
open Go.RowKit

/-! ### blocks -/
def Blk (w : World) (g : Nat) (t : TypeId) (cs : Array Value) : Prop := w.heap[g]? = some (.cells cs t (0, 0))

section
variable {w w' : World} {g : Nat} {t : TypeId} {cs : Array Value}
theorem lt_of_heap {o : Obj} (h : w.heap[g]? = some o) : g < w.heap.size := (Array.getElem?_eq_some_iff.1 h).1
theorem Blk.lt (h : Blk w g t cs) : g < w.heap.size := lt_of_heap h
theorem Blk.cell (h : Blk w g t cs) (i : Nat) : w.cell? ⟨g, i, none⟩ = cs[i]? := cell_of_row w g i cs t (0, 0) h
theorem Blk.frozen (h : Blk w g t cs) (i : Nat) : w.frozen? ⟨g, i, none⟩ = false := by
  unfold Blk at h
  simp [World.frozen?, h]
theorem Blk.new (w : World) (t : TypeId) (cs : Array Value) : Blk (w.alloc (.cells cs t)) w.heap.size t cs := heap_alloc_new w _
theorem Blk.drew (h : Blk w g t cs) : Blk w.drew g t cs := h
theorem Blk.drewN (h : Blk w g t cs) (n : Nat) : Blk (w.drewN n) g t cs := h
theorem Blk.alloc (h : Blk w g t cs) (o : Obj) : Blk (w.alloc o) g t cs := (Below.heap_alloc w o g h.lt).trans h
theorem Blk.set_ (h : Blk w g t cs) (i : Nat) (u : Value) : Blk (w.setCell ⟨g, i, none⟩ u) g t (cs.setIfInBounds i u) := by
  unfold Blk at h ⊢
  simp [World.setCell, Array.getElem?_modify, h]
theorem Blk.far (h : Blk w g t cs) {p : Addr} (hp : g ≠ p.block) (u : Value) : Blk (w.setCell p u) g t cs := (Below.heap_setCell w p u g hp).trans h
theorem Blk.same (h : Blk w g t cs) (hb : w'.heap[g]? = w.heap[g]?) : Blk w' g t cs := hb.trans h
theorem Blk.grown {row : Option Nat} (h : Blk w g t cs) (hb : w.grownBy w' row) (hg : some g ≠ row) : Blk w' g t cs := (hb.block g h.lt hg).trans h
theorem Blk.ne_ {g' : Nat} {t' : TypeId} {cs' : Array Value} (h : Blk w g t cs) (h' : Blk w g' t' cs') (hne : t ≠ t') : g ≠ g' := by
  rintro rfl
  unfold Blk at h h'
  rw [h] at h'
  injection h' with h'
  injection h' with _ ht
  exact hne ht
theorem Blk.ne_map {r : Nat} {es : Array MapEntry} {c : Nat} (h : Blk w g t cs) (h' : w.heap[r]? = some (.map es c)) : g ≠ r := by
  rintro rfl
  unfold Blk at h
  rw [h] at h'
  injection h' with h'
  cases h'
theorem own_blk_ne {base : Nat} {e : TypeId} {size n : Nat} {v : Value} {xs : List Value} (h : w.ownsRow base e size v n xs) (hg : Blk w g t cs) (hne : e ≠ t) : some g ≠ v.ownBlock := by
  rcases h.2 with ⟨rfl, _⟩ | ⟨g', cap, cur, rfl, _, hh, _⟩
  · simp [Value.ownBlock]
  · intro he
    have : g' = g := by simpa [Value.ownBlock] using he.symm
    subst this
    exact Blk.ne_ (t := e) hh hg hne rfl
theorem own_map_ne {base : Nat} {e : TypeId} {size n : Nat} {v : Value} {xs : List Value} {r : Nat} {es : Array MapEntry} {c : Nat} (h : w.ownsRow base e size v n xs) (hg : w.heap[r]? = some (.map es c)) : some r ≠ v.ownBlock := by
  rcases h.2 with ⟨rfl, _⟩ | ⟨g', cap, cur, rfl, _, hh, _⟩
  · simp [Value.ownBlock]
  · intro he
    have : g' = r := by simpa [Value.ownBlock] using he.symm
    subst this
    rw [hh] at hg
    injection hg with hg
    cases hg
theorem own_same {base : Nat} {e : TypeId} {size n : Nat} {v : Value} {xs : List Value} (h : w.ownsRow base e size v n xs) (hb : ∀ g, v.ownBlock = some g → w'.heap[g]? = w.heap[g]?) : w'.ownsRow base e size v n xs := by
  refine ⟨h.1, ?_⟩
  rcases h.2 with hn | ⟨g, cap, cur, rfl, hbg, hgg, rest⟩
  · exact .inl hn
  · exact .inr ⟨g, cap, cur, rfl, hbg, (hb g rfl).trans hgg, rest⟩
theorem own_lt {base : Nat} {e : TypeId} {size n : Nat} {v : Value} {xs : List Value} (h : w.ownsRow base e size v n xs) {g : Nat} (hg : v.ownBlock = some g) : base ≤ g ∧ g < w.heap.size := h.lt g hg
end

theorem pair_of {α : Type} {R : α → α → Prop} : ∀ {l : List α}, l.Pairwise R → ∀ {x y : α}, x ∈ l → y ∈ l → x = y ∨ R x y ∨ R y x
  | [], _, _, _, hx, _ => by cases hx
  | a :: l, h, x, y, hx, hy => by
    obtain ⟨h1, h2⟩ := List.pairwise_cons.1 h
    rcases List.mem_cons.1 hx with e | hx <;> rcases List.mem_cons.1 hy with e' | hy
    · exact .inl (e.trans e'.symm)
    · exact .inr (.inl (e ▸ h1 y hy))
    · exact .inr (.inr (e' ▸ h1 x hx))
    · exact pair_of h2 hx hy

/-! ### frames -/
section
variable {B : Nat} {w w1 w2 : World}
theorem Below.drewN' {a : World} (h : Below B a w) (n : Nat) : Below B a (w.drewN n) := ⟨h.os, h.tape, h.output, h.size, h.block⟩
/-- Only the blocks of S have turned, and what is new. -/
structure Fr (S : Nat → Prop) (w w' : World) : Prop where
  os : w'.os = w.os
  tape : w'.tape = w.tape
  output : w'.output = w.output
  size : w.heap.size ≤ w'.heap.size
  block : ∀ k, k < w.heap.size → ¬ S k → w'.heap[k]? = w.heap[k]?
variable {S S' : Nat → Prop}
theorem Fr.refl (S : Nat → Prop) (w : World) : Fr S w w := ⟨rfl, rfl, rfl, Nat.le_refl _, fun _ _ _ => rfl⟩
theorem Fr.mono (h : Fr S w w1) (hs : ∀ k, S k → S' k) : Fr S' w w1 := ⟨h.os, h.tape, h.output, h.size, fun k hk hn => h.block k hk (fun h' => hn (hs k h'))⟩
/-- Two steps: what the second one turns is of S, or new since w. -/
theorem Fr.then_ (h : Fr S w w1) (k : Fr S' w1 w2) (hs : ∀ j, S' j → S j ∨ w.heap.size ≤ j) : Fr S w w2 :=
  ⟨k.os.trans h.os, k.tape.trans h.tape, k.output.trans h.output, Nat.le_trans h.size k.size, fun i hi hn =>
    (k.block i (Nat.lt_of_lt_of_le hi h.size) (fun h' => (hs i h').elim hn (fun h2 => by omega))).trans (h.block i hi hn)⟩
theorem Fr.trans (h : Fr S w w1) (k : Fr S w1 w2) : Fr S w w2 := h.then_ k (fun _ h => .inl h)
theorem Fr.drew (h : Fr S w w1) : Fr S w w1.drew := ⟨h.os, h.tape, h.output, h.size, h.block⟩
theorem Fr.drewN (h : Fr S w w1) (n : Nat) : Fr S w (w1.drewN n) := ⟨h.os, h.tape, h.output, h.size, h.block⟩
theorem Fr.alloc (h : Fr S w w1) (o : Obj) : Fr S w (w1.alloc o) :=
  h.then_ (S' := fun _ => False) ⟨rfl, rfl, rfl, by simp, fun k hk _ => Below.heap_alloc _ _ _ hk⟩ (fun _ h => h.elim)
theorem Fr.setCell (h : Fr S w w1) {p : Addr} (hp : S p.block ∨ w.heap.size ≤ p.block) (u : Value) : Fr S w (w1.setCell p u) :=
  h.then_ (S' := fun k => k = p.block) ⟨rfl, rfl, rfl, by simp [World.setCell], fun k _ hn => Below.heap_setCell _ _ _ _ hn⟩ (fun j hj => by subst hj; exact hp)
theorem Fr.grown {row : Option Nat} (h : Fr S w w1) (hg : w1.grownBy w2 row) (hr : ∀ k, row = some k → S k ∨ w.heap.size ≤ k) : Fr S w w2 :=
  h.then_ (S' := fun k => row = some k) ⟨hg.os, hg.tape, hg.output, hg.size, fun k hk hn => hg.block k hk (fun e => hn e.symm)⟩ hr
theorem Fr.below (h : Fr S w w1) (hb : Below w1.heap.size w1 w2) : Fr S w w2 :=
  h.then_ (S' := fun _ => False) ⟨hb.os, hb.tape, hb.output, hb.size, fun k hk _ => hb.block k hk⟩ (fun _ h => h.elim)
theorem Fr.to_below (h : Fr S w w1) (hs : ∀ k, S k → B ≤ k) (hB : B ≤ w.heap.size) : Below B w w1 :=
  ⟨h.os, h.tape, h.output, h.size, fun k hk => h.block k (by omega) (fun h' => by have := hs k h'; omega)⟩
theorem Fr.blk {g : Nat} {t : TypeId} {cs : Array Value} (h : Fr S w w1) (hb : Blk w g t cs) (hn : ¬ S g) : Blk w1 g t cs := hb.same (h.block g hb.lt hn)
theorem Fr.of_below (h : Below w.heap.size w w1) : Fr S w w1 := (Fr.refl S w).below h
end

/-! ### what stays, by what a block is -/
/-- Each block that is ok is as it was. -/
structure Kp (ok : Nat → Obj → Prop) (w w' : World) : Prop where
  os : w'.os = w.os
  tape : w'.tape = w.tape
  output : w'.output = w.output
  size : w.heap.size ≤ w'.heap.size
  keep : ∀ k o, w.heap[k]? = some o → ok k o → w'.heap[k]? = some o
section
variable {ok ok' : Nat → Obj → Prop} {w w1 w2 : World} {B : Nat}
theorem Kp.refl (ok : Nat → Obj → Prop) (w : World) : Kp ok w w := ⟨rfl, rfl, rfl, Nat.le_refl _, fun _ _ h _ => h⟩
theorem Kp.trans (h : Kp ok w w1) (k : Kp ok w1 w2) : Kp ok w w2 :=
  ⟨k.os.trans h.os, k.tape.trans h.tape, k.output.trans h.output, Nat.le_trans h.size k.size, fun i o hi ho => k.keep i o (h.keep i o hi ho) ho⟩
theorem Kp.mono (h : Kp ok w w1) (hs : ∀ k o, ok' k o → ok k o) : Kp ok' w w1 := ⟨h.os, h.tape, h.output, h.size, fun i o hi ho => h.keep i o hi (hs i o ho)⟩
theorem Kp.of_fr {S : Nat → Prop} (h : Fr S w w1) (hs : ∀ k o, w.heap[k]? = some o → ok k o → ¬ S k) : Kp ok w w1 :=
  ⟨h.os, h.tape, h.output, h.size, fun i o hi ho => (h.block i (lt_of_heap hi) (hs i o hi ho)).trans hi⟩
theorem Kp.of_below (h : Below w.heap.size w w1) : Kp ok w w1 := ⟨h.os, h.tape, h.output, h.size, fun i _ hi _ => (h.block i (lt_of_heap hi)).trans hi⟩
theorem Kp.below (h : Kp ok w w1) (hs : ∀ k o, k < B → ok k o) (hB : B ≤ w.heap.size) : Below B w w1 :=
  ⟨h.os, h.tape, h.output, h.size, fun k hk => by
    have hlt : k < w.heap.size := Nat.lt_of_lt_of_le hk hB
    have e : w.heap[k]? = some w.heap[k] := Array.getElem?_eq_getElem hlt
    rw [h.keep k _ e (hs k _ hk), e]⟩
theorem Kp.blk {g : Nat} {t : TypeId} {cs : Array Value} (h : Kp ok w w1) (hb : Blk w g t cs) (ho : ok g (.cells cs t (0, 0))) : Blk w1 g t cs := h.keep _ _ hb ho
end

/-! ### maps, read as lists of pairs -/
section
variable {K : Type}
/-- Block r is a map that holds just the pairs of l, in the order in which they came. -/
def MapL (enc : K → Value) (w : World) (r : Nat) (l : List (K × Value)) : Prop :=
  ∃ es clk, w.heap[r]? = some (.map es clk) ∧ es.toList.map (fun e => (e.key, e.val)) = l.map (fun kv => (enc kv.1, kv.2)) ∧ (l.map (·.1)).Nodup ∧
    (es.toList.map (·.born)).Nodup ∧ ∀ e ∈ es.toList, e.born < clk
theorem MapL.lt {enc : K → Value} {w : World} {r : Nat} {l : List (K × Value)} (h : MapL enc w r l) : r < w.heap.size := by
  obtain ⟨es, clk, h, _⟩ := h
  exact lt_of_heap h
theorem MapL.same {enc : K → Value} {w w' : World} {r : Nat} {l : List (K × Value)} (h : MapL enc w r l) (hb : w'.heap[r]? = w.heap[r]?) : MapL enc w' r l := by
  obtain ⟨es, clk, h, rest⟩ := h
  exact ⟨es, clk, hb.trans h, rest⟩
theorem MapL.heap {enc : K → Value} {w : World} {r : Nat} {l : List (K × Value)} (h : MapL enc w r l) : ∃ es clk, w.heap[r]? = some (.map es clk) := by
  obtain ⟨es, clk, h, _⟩ := h
  exact ⟨es, clk, h⟩
theorem MapL.blk_ne {enc : K → Value} {w : World} {r g : Nat} {l : List (K × Value)} {t : TypeId} {cs : Array Value} (h : MapL enc w r l) (hb : Blk w g t cs) : g ≠ r := by
  obtain ⟨es, clk, h⟩ := h.heap
  exact hb.ne_map h
theorem MapL.own_ne {enc : K → Value} {w : World} {r : Nat} {l : List (K × Value)} {base : Nat} {e : TypeId} {size n : Nat} {v : Value} {xs : List Value} (h : MapL enc w r l) (ho : w.ownsRow base e size v n xs) : some r ≠ v.ownBlock := by
  obtain ⟨es, clk, h⟩ := h.heap
  exact own_map_ne ho h
theorem MapL.made (enc : K → Value) (w : World) : MapL enc (w.alloc (.map #[] 0)) w.heap.size [] :=
  ⟨#[], 0, heap_alloc_new w _, rfl, by simp, by simp, by simp⟩
theorem MapL.keys {enc : K → Value} {l : List (K × Value)} {es : Array MapEntry} (h : es.toList.map (fun e => (e.key, e.val)) = l.map (fun kv => (enc kv.1, kv.2))) : es.toList.map (·.key) = (l.map (·.1)).map enc := by
  have := congrArg (List.map Prod.fst) h
  simpa [List.map_map, Function.comp_def] using this
/-- A block that was a map holds another object. -/
def World.putMap (w : World) (r : Nat) (o : Obj) : World := { w with heap := w.heap.setIfInBounds r o }
theorem putMap_grown (w : World) (r : Nat) (o : Obj) : w.grownBy (World.putMap w r o) (some r) :=
  ⟨rfl, rfl, rfl, by simp [World.putMap], fun k _ hn => by
    have : r ≠ k := fun e => hn (by rw [e])
    simp [World.putMap, this]⟩
theorem putMap_at {w : World} {r : Nat} (h : r < w.heap.size) (o : Obj) : (World.putMap w r o).heap[r]? = some o := by
  simp [World.putMap, h]
end

section
variable {K : Type} [DecidableEq K]

/-- What the laws below ask of a key's type: how the model finds a key. -/
structure MKey (P : Program) (k : TypeId) (enc : K → Value) : Prop where
  check : ∀ (w : World) (em : Bool) (x : K), (Instr.checkKey em 10000 k (enc x)).run P w = .ok () w
  find : ∀ (w : World) (x : K) (es : List MapEntry) (ks : List K), es.map (·.key) = ks.map enc →
    (Instr.findKey k (enc x) es).run P w = .ok ((ks.idxOf? x).bind fun j => (es[j]?).map fun e => (j, e.val)) w
  stays : ∀ (w : World) (x : K), (Instr.keyThatStays (enc x) (enc x)).run P w = .ok (enc x) w

def aget {V : Type} (x : K) (l : List (K × V)) : Option V := (l.find? fun kv => decide (kv.1 = x)).map (·.2)
def aput {V : Type} (x : K) (v : V) (l : List (K × V)) : List (K × V) :=
  if x ∈ l.map (·.1) then l.map (fun kv => if kv.1 = x then (x, v) else kv) else l ++ [(x, v)]
def adel {V : Type} (x : K) (l : List (K × V)) : List (K × V) := l.filter fun kv => decide (kv.1 ≠ x)
theorem aget_map {V U : Type} (f : V → U) (x : K) : ∀ l : List (K × V), aget x (l.map fun kv => (kv.1, f kv.2)) = (aget x l).map f
  | [] => rfl
  | kv :: l => by
    have ih := aget_map f x l
    unfold aget at *
    by_cases h : kv.1 = x
    · simp [h]
    · simpa [h] using ih
theorem aput_map {V U : Type} (f : V → U) (x : K) (v : V) (l : List (K × V)) : aput x (f v) (l.map fun kv => (kv.1, f kv.2)) = (aput x v l).map fun kv => (kv.1, f kv.2) := by
  have hk : (l.map fun kv => (kv.1, f kv.2)).map (·.1) = l.map (·.1) := by simp [List.map_map, Function.comp_def]
  unfold aput
  rw [hk]
  split
  · rw [List.map_map, List.map_map]
    refine List.map_congr_left fun kv _ => ?_
    simp only [Function.comp_def]
    split <;> rfl
  · simp
theorem adel_map {V U : Type} (f : V → U) (x : K) (l : List (K × V)) : adel x (l.map fun kv => (kv.1, f kv.2)) = (adel x l).map fun kv => (kv.1, f kv.2) := by
  unfold adel
  rw [List.filter_map]
  rfl
theorem aget_aput {V : Type} (x y : K) (v : V) (l : List (K × V)) : aget y (aput x v l) = if y = x then some v else aget y l := by
  unfold aput
  by_cases hx : x ∈ l.map (·.1)
  · rw [if_pos hx]
    induction l with
    | nil => simp at hx
    | cons kv l ih =>
      unfold aget at ih ⊢
      by_cases h1 : kv.1 = x
      · by_cases h2 : y = x
        · subst h2; simp [h1]
        · have h3 : ¬ x = y := fun e => h2 e.symm
          have h4 : ¬ kv.1 = y := fun e => h3 (h1.symm.trans e)
          simp only [List.map_cons, h1, if_true, List.find?_cons, h3, decide_false, if_neg h2]
          by_cases hx2 : x ∈ l.map (·.1)
          · have := ih hx2
            rw [if_neg h2] at this
            exact this
          · have : l.map (fun kv => if kv.1 = x then (x, v) else kv) = l := by
              conv => rhs; rw [← List.map_id l]
              refine List.map_congr_left fun p hp => ?_
              have : p.1 ≠ x := fun e => hx2 (by rw [← e]; exact List.mem_map_of_mem hp)
              simp [this]
            rw [this]
      · have hx2 : x ∈ l.map (·.1) := by
          rcases List.mem_cons.1 (by simpa using hx : x ∈ kv.1 :: l.map (·.1)) with h | h
          · exact absurd h.symm h1
          · exact h
        have := ih hx2
        by_cases h4 : kv.1 = y
        · have h5 : ¬ y = x := fun e => h1 (h4.trans e)
          simp [h4, h5]
        · simp only [List.map_cons, h1, if_false, List.find?_cons, h4, decide_false]
          exact this
  · rw [if_neg hx]
    unfold aget
    rw [List.find?_append]
    by_cases h2 : y = x
    · subst h2
      have : l.find? (fun kv => decide (kv.1 = y)) = none := by
        rw [List.find?_eq_none]
        intro p hp
        have : p.1 ≠ y := fun e => hx (by rw [← e]; exact List.mem_map_of_mem hp)
        simpa using this
      simp [this]
    · have h3 : ¬ x = y := fun e => h2 e.symm
      simp [h2, h3]

theorem idx_find (enc : K → Value) (x : K) : ∀ (es : List MapEntry) (l : List (K × Value)), es.map (fun e => (e.key, e.val)) = l.map (fun kv => (enc kv.1, kv.2)) →
    (((l.map (·.1)).idxOf? x).bind fun j => (es[j]?).map fun e => e.val) = aget x l
  | [], [], _ => rfl
  | [], _ :: _, h => by simp at h
  | _ :: _, [], h => by simp at h
  | e :: es, kv :: l, h => by
    simp only [List.map_cons, List.cons.injEq, Prod.mk.injEq] at h
    obtain ⟨⟨_, h2⟩, h3⟩ := h
    have ih := idx_find enc x es l h3
    by_cases hk : kv.1 = x
    · simp [aget, List.idxOf?_cons, hk, h2]
    · have hb : (kv.1 == x) = false := by simpa using hk
      simp only [aget, List.map_cons, List.idxOf?_cons, hb, List.find?_cons, hk, decide_false] at ih ⊢
      rw [← ih]
      cases (l.map (·.1)).idxOf? x <;> simp
theorem idx_some {x : K} : ∀ {ks : List K} {j : Nat}, ks.idxOf? x = some j → ks[j]? = some x
  | [], _, h => by simp at h
  | y :: ks, j, h => by
    rw [List.idxOf?_cons] at h
    by_cases hy : (y == x) = true
    · simp [hy] at h
      subst h
      simpa using hy
    · simp [hy] at h
      obtain ⟨a, ha, rfl⟩ := h
      simpa using idx_some ha
theorem idx_none {x : K} : ∀ {ks : List K}, ks.idxOf? x = none → x ∉ ks
  | [], _ => by simp
  | y :: ks, h => by
    rw [List.idxOf?_cons] at h
    by_cases hy : (y == x) = true
    · simp [hy] at h
    · simp [hy] at h
      have hyx : y ≠ x := by simpa using hy
      simp [h, Ne.symm hyx]

section
variable {P : Program} {k : TypeId} {enc : K → Value}
theorem MapL.lookup (M : MKey P k enc) {w : World} {r : Nat} {l : List (K × Value)} (h : MapL enc w r l) {T E : TypeId} (hT : P.underlying T = some (.map k E)) {z : Value} (hz : (zeroValue E).run P w = .ok z w) (x : K) (ok : Bool) :
    (Instr.lookup T (.map (some r)) (enc x) ok).run P w = .ok (if ok then .tuple #[(aget x l).getD z, .bool (aget x l).isSome] else (aget x l).getD z) w := by
  obtain ⟨es, clk, hb, hl, hn, _⟩ := h
  have hg : (getObj r).run P w = .ok (.map es clk) w := MapKept.run_getObj_map hb
  have hf := M.find w x es.toList (l.map (·.1)) (MapL.keys hl)
  have hi := idx_find enc x es.toList l hl
  simp only [Instr.lookup, Sem.run_bind, run_underlying hT, Result.andThen_ok, hg, M.check, hf, Sem.run_pure]
  cases hj : (l.map (·.1)).idxOf? x with
  | none =>
    rw [hj] at hi
    simp at hi
    simp [← hi, hz]
  | some j =>
    rw [hj] at hi
    simp at hi
    cases he : es[j]? with
    | none => rw [he] at hi; simp at hi; simp [he, ← hi, hz]
    | some e => rw [he] at hi; simp at hi; simp [he, ← hi]

theorem map_modify_val (key : Value) (x : K) (v : Value) : ∀ (es : List MapEntry) (l : List (K × Value)) (j : Nat), es.map (fun e => (e.key, e.val)) = l.map (fun kv => (enc kv.1, kv.2)) → (l.map (·.1)).Nodup →
    (l.map (·.1))[j]? = some x → key = enc x → (es.modify j fun e => { e with key, val := v }).map (fun e => (e.key, e.val)) = (l.map (fun kv => if kv.1 = x then (x, v) else kv)).map (fun kv => (enc kv.1, kv.2))
  | [], [], j, _, _, h, _ => by simp at h
  | [], _ :: _, _, h, _, _, _ => by simp at h
  | _ :: _, [], _, h, _, _, _ => by simp at h
  | e :: es, kv :: l, 0, h, hn, hx, hk => by
    simp only [List.map_cons, List.cons.injEq, Prod.mk.injEq] at h
    obtain ⟨⟨h1, h2⟩, h3⟩ := h
    simp only [List.map_cons, List.nodup_cons] at hn
    have hx' : kv.1 = x := by simpa using hx
    have : l.map (fun kv => if kv.1 = x then (x, v) else kv) = l := by
      conv => rhs; rw [← List.map_id l]
      refine List.map_congr_left fun p hp => ?_
      have : p.1 ≠ x := fun e => hn.1 (by rw [hx', ← e]; exact List.mem_map_of_mem hp)
      simp [this]
    simp [hx', this, h3, hk]
  | e :: es, kv :: l, j + 1, h, hn, hx, hk => by
    simp only [List.map_cons, List.cons.injEq, Prod.mk.injEq] at h
    obtain ⟨⟨h1, h2⟩, h3⟩ := h
    simp only [List.map_cons, List.nodup_cons] at hn
    have hx' : (l.map (·.1))[j]? = some x := by simpa using hx
    have hne : kv.1 ≠ x := fun e => hn.1 (by rw [e]; exact List.mem_of_getElem? hx')
    have ih := map_modify_val key x v es l j h3 hn.2 hx' hk
    simp [hne, h1, h2, ih]
theorem aput_keys (x : K) (v : Value) (l : List (K × Value)) : (aput x v l).map (·.1) = if x ∈ l.map (·.1) then l.map (·.1) else l.map (·.1) ++ [x] := by
  unfold aput
  split
  · rw [List.map_map]
    refine List.map_congr_left fun p _ => ?_
    simp only [Function.comp_def]
    split <;> simp_all
  · simp
theorem aput_nodup {x : K} {v : Value} {l : List (K × Value)} (h : (l.map (·.1)).Nodup) : ((aput x v l).map (·.1)).Nodup := by
  rw [aput_keys]
  split
  · exact h
  · rename_i hn
    rw [List.nodup_append]
    exact ⟨h, by simp, by intro a ha b hb; simp at hb; subst hb; exact fun e => hn (e ▸ ha)⟩
/-- 'm[k] = v' -/
theorem MapL.update (M : MKey P k enc) {w : World} {r : Nat} {l : List (K × Value)} (h : MapL enc w r l) {T E : TypeId} (hT : P.underlying T = some (.map k E)) (x : K) (v : Value) :
    ∃ w', (Instr.mapUpdate T (.map (some r)) (enc x) v).run P w = .ok () w' ∧ MapL enc w' r (aput x v l) ∧ w.grownBy w' (some r) := by
  have hlt := h.lt
  obtain ⟨es, clk, hb, hl, hn, hbn, hbl⟩ := h
  have hg : (getObj r).run P w = .ok (.map es clk) w := MapKept.run_getObj_map hb
  have hf := M.find w x es.toList (l.map (·.1)) (MapL.keys hl)
  have hset : ∀ o, (setObj r o).run P w = .ok () (World.putMap w r o) := fun o => MapKept.run_setObj_map o hb
  simp only [Instr.mapUpdate, Sem.run_bind, run_underlying hT, Result.andThen_ok, hg, M.check, hf]
  cases hj : (l.map (·.1)).idxOf? x with
  | none =>
    have hx := idx_none hj
    refine ⟨World.putMap w r (.map (es.push { key := enc x, val := v, born := clk }) (clk + 1)), ?_, ⟨_, _, putMap_at hlt _, ?_, aput_nodup hn, ?_, ?_⟩, putMap_grown _ _ _⟩
    · simp [hset]
    · unfold aput
      rw [if_neg hx]
      simp [hl]
    · simp only [Array.toList_push, List.map_append, List.map_cons, List.map_nil]
      rw [List.nodup_append]
      refine ⟨hbn, by simp, ?_⟩
      intro a ha b hb2
      simp at hb2
      subst hb2
      obtain ⟨e, he, rfl⟩ := List.mem_map.1 ha
      have := hbl e he
      omega
    · intro e he
      simp only [Array.toList_push, List.mem_append, List.mem_singleton] at he
      rcases he with he | rfl
      · have := hbl e he; omega
      · simp
  | some j =>
    have hx := idx_some hj
    have hjl : j < es.toList.length := by
      have h1 : j < (l.map (·.1)).length := (List.getElem?_eq_some_iff.1 hx).1
      have h2 := congrArg List.length hl
      simp at h1 h2
      simpa [h2] using h1
    have hkey : (es.toList[j]?).map (·.key) = some (enc x) := by
      have h3 := congrArg (fun (q : List Value) => q[j]?) (MapL.keys hl)
      simp only [List.getElem?_map] at h3 hx ⊢
      rw [h3, hx]; rfl
    have he : es[j]? = some (es.toList[j]) := by rw [← Array.getElem?_toList]; exact List.getElem?_eq_getElem hjl
    have hek : (es.toList[j]).key = enc x := by
      rw [List.getElem?_eq_getElem hjl] at hkey
      simpa using hkey
    refine ⟨World.putMap w r (.map (es.modify j fun e => { e with key := enc x, val := v }) clk), ?_, ⟨_, _, putMap_at hlt _, ?_, aput_nodup hn, ?_, ?_⟩, putMap_grown _ _ _⟩
    · have he' : es.toList[j]? = some (es.toList[j]) := List.getElem?_eq_getElem hjl
      simp only [Option.bind_some, he', Option.map_some, he, Option.getD_some, hek, M.stays, Sem.run_bind, Result.andThen_ok, hset]
    · have hm : x ∈ l.map (·.1) := List.mem_of_getElem? hx
      unfold aput
      rw [if_pos hm, Array.toList_modify]
      exact map_modify_val (enc x) x v es.toList l j hl hn hx rfl
    · rw [Array.toList_modify]
      have : (es.toList.modify j fun e => { e with key := enc x, val := v }).map (·.born) = es.toList.map (·.born) := by
        apply List.ext_getElem?
        intro i
        simp only [List.getElem?_map, List.getElem?_modify]
        cases es.toList[i]? <;> simp
        split <;> rfl
      rw [this]; exact hbn
    · intro e he2
      rw [Array.toList_modify] at he2
      obtain ⟨i, hi⟩ := List.mem_iff_getElem?.1 he2
      rw [List.getElem?_modify] at hi
      cases hi2 : es.toList[i]? with
      | none => rw [hi2] at hi; simp at hi
      | some e0 =>
        rw [hi2] at hi
        have := hbl e0 (List.mem_of_getElem? hi2)
        simp at hi
        split at hi <;> (subst hi; exact this)
theorem map_erase (x : K) : ∀ (es : List MapEntry) (l : List (K × Value)) (j : Nat), es.map (fun e => (e.key, e.val)) = l.map (fun kv => (enc kv.1, kv.2)) → (l.map (·.1)).Nodup → (l.map (·.1))[j]? = some x →
    (es.eraseIdx j).map (fun e => (e.key, e.val)) = (adel x l).map (fun kv => (enc kv.1, kv.2))
  | [], [], j, _, _, h => by simp at h
  | [], _ :: _, _, h, _, _ => by simp at h
  | _ :: _, [], _, h, _, _ => by simp at h
  | e :: es, kv :: l, 0, h, hn, hx => by
    simp only [List.map_cons, List.cons.injEq, Prod.mk.injEq] at h
    obtain ⟨_, h3⟩ := h
    simp only [List.map_cons, List.nodup_cons] at hn
    have hx' : kv.1 = x := by simpa using hx
    have : adel x l = l := by
      unfold adel
      rw [List.filter_eq_self]
      intro p hp
      have : p.1 ≠ x := fun e => hn.1 (by rw [hx', ← e]; exact List.mem_map_of_mem hp)
      simp [this]
    have h4 : adel x (kv :: l) = adel x l := by unfold adel; simp [hx']
    rw [h4, this]; simpa using h3
  | e :: es, kv :: l, j + 1, h, hn, hx => by
    simp only [List.map_cons, List.cons.injEq, Prod.mk.injEq] at h
    obtain ⟨⟨h1, h2⟩, h3⟩ := h
    simp only [List.map_cons, List.nodup_cons] at hn
    have hx' : (l.map (·.1))[j]? = some x := by simpa using hx
    have hne : kv.1 ≠ x := fun e => hn.1 (by rw [e]; exact List.mem_of_getElem? hx')
    have ih := map_erase x es l j h3 hn.2 hx'
    have h4 : adel x (kv :: l) = kv :: adel x l := by unfold adel; simp [hne]
    rw [h4]; simp [h1, h2, ih]
theorem adel_nodup {x : K} {l : List (K × Value)} (h : (l.map (·.1)).Nodup) : ((adel x l).map (·.1)).Nodup :=
  h.sublist ((List.filter_sublist).map _)
/-- 'delete(m, k)' -/
theorem MapL.delete (M : MKey P k enc) {w : World} {r : Nat} {l : List (K × Value)} (h : MapL enc w r l) {T E : TypeId} (hT : P.underlying T = some (.map k E)) (kt ty : TypeId) (x : K) :
    ∃ w', (Builtin.delete_ #[T, kt] ty #[.map (some r), enc x]).run P w = .ok (.tuple #[]) w' ∧ MapL enc w' r (adel x l) ∧ w.grownBy w' (some r) := by
  have hlt := h.lt
  obtain ⟨es, clk, hb, hl, hn, hbn, hbl⟩ := h
  have hg : (getObj r).run P w = .ok (.map es clk) w := MapKept.run_getObj_map hb
  have hf := M.find w x es.toList (l.map (·.1)) (MapL.keys hl)
  have hset : ∀ o, (setObj r o).run P w = .ok () (World.putMap w r o) := fun o => MapKept.run_setObj_map o hb
  simp only [Builtin.delete_, List.getElem?_toArray, List.getElem?_cons_zero, List.getElem?_cons_succ, Sem.run_bind, run_underlying hT, Result.andThen_ok, hg, M.check, hf]
  cases hj : (l.map (·.1)).idxOf? x with
  | none =>
    have hx := idx_none hj
    have : adel x l = l := by
      unfold adel
      rw [List.filter_eq_self]
      intro p hp
      have : p.1 ≠ x := fun e => hx (by rw [← e]; exact List.mem_map_of_mem hp)
      simp [this]
    refine ⟨World.putMap w r (.map es clk), by simp [hset], ?_, putMap_grown _ _ _⟩
    rw [this]
    exact ⟨_, _, putMap_at hlt _, hl, hn, hbn, hbl⟩
  | some j =>
    have hx := idx_some hj
    have hjl : j < es.toList.length := by
      have h1 : j < (l.map (·.1)).length := (List.getElem?_eq_some_iff.1 hx).1
      have h2 := congrArg List.length hl
      simp at h1 h2
      simpa [h2] using h1
    have he' : es.toList[j]? = some (es.toList[j]) := List.getElem?_eq_getElem hjl
    have hel : (es.eraseIdxIfInBounds j).toList = es.toList.eraseIdx j := by simp
    refine ⟨World.putMap w r (.map (es.eraseIdxIfInBounds j) clk), ?_, ⟨_, _, putMap_at hlt _, ?_, adel_nodup hn, ?_, ?_⟩, putMap_grown _ _ _⟩
    · simp only [Option.bind_some, he', Option.map_some, hset, Result.andThen_ok, Sem.run_pure, Sem.run_bind]
    · rw [hel]; exact map_erase x es.toList l j hl hn hx
    · rw [hel]; exact hbn.sublist ((List.eraseIdx_sublist _ _).map _)
    · rw [hel]; exact fun e he2 => hbl e ((List.eraseIdx_sublist _ _).mem he2)
omit [DecidableEq K] in
/-- 'len(m)' -/
theorem MapL.len {w : World} {r : Nat} {l : List (K × Value)} (h : MapL enc w r l) {T E : TypeId} (hT : P.underlying T = some (.map k E)) (ty : TypeId) :
    (Builtin.len_ #[T] ty #[.map (some r)]).run P w = .ok (.int .i64 l.length) w := by
  obtain ⟨es, clk, hb, hl, _⟩ := h
  have hg : (getObj r).run P w = .ok (.map es clk) w := MapKept.run_getObj_map hb
  have h2 := congrArg List.length hl
  simp at h2
  simp [Builtin.len_, run_underlying hT, hg, goInt, h2]
end

/-! ### the key's type: whole numbers of 64 bits -/
def encU (n : Nat) : Value := .int .u64 (n : Int)
theorem findNow_u (x : Nat) : ∀ (es : List MapEntry) (ks : List Nat) (i : Nat), es.map (·.key) = ks.map encU →
    Instr.findNow (.int .u64) (encU x) es i = some ((ks.idxOf? x).bind fun j => (es[j]?).map fun e => (i + j, e.val))
  | [], [], i, _ => rfl
  | [], _ :: _, _, h => by simp at h
  | _ :: _, [], _, h => by simp at h
  | e :: es, y :: ks, i, h => by
    simp only [List.map_cons, List.cons.injEq] at h
    obtain ⟨h1, h2⟩ := h
    have ih := findNow_u x es ks (i + 1) h2
    have hs : Instr.sameNow (.int .u64) (encU x) e.key = some (decide (x = y)) := by
      rw [h1]
      have e1 : ((x : Int) == (y : Int)) = decide (x = y) := Bool.eq_iff_iff.2 (by rw [beq_iff_eq, decide_eq_true_eq]; omega)
      simp only [Instr.sameNow, encU, if_true, e1]
    simp only [Instr.findNow, hs]
    by_cases hy : x = y
    · subst hy
      simp [List.idxOf?_cons]
    · have hb : (y == x) = false := by simpa using Ne.symm hy
      simp only [hy, decide_false, List.idxOf?_cons, hb, ih]
      cases ks.idxOf? x with
      | none => rfl
      | some j => simp [Nat.add_assoc, Nat.add_comm 1 j]
theorem check_u {P : Program} {k : TypeId} (hk : P.underlying k = some (.int .u64)) (w : World) (em : Bool) (n : Nat) (x : Nat) : (Instr.checkKey em (n + 1) k (encU x)).run P w = .ok () w := by
  simp [Instr.checkKey, run_underlying hk, encU]
theorem mkey_u {P : Program} {k : TypeId} (hk : P.underlying k = some (.int .u64)) : MKey P k encU where
  check w em x := check_u hk w em 9999 x
  find w x es ks h := by
    have := findNow_u x es ks 0 h
    simp only [Nat.zero_add] at this
    simp [Instr.findKey, run_underlying hk, this]
  stays w x := by
    have e : Instr.sameBits 10000 (encU x) (encU x) = true := by
      unfold encU Instr.sameBits
      rw [beq_self_eq_true, beq_self_eq_true]; rfl
    simp only [Instr.keyThatStays, e, if_true]; rfl

end
end Go.Proofs.Ytgdmpblodgofgaa
