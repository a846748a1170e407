/- The plain manager in memory: its four cells, the map of things, the things, the map of bytes. -/
import Derived.Test.YtgdmpblodgofgaaNKey
namespace Go.Proofs.Ytgdmpblodgofgaa
open Go.RowKit

structure Thing where
  kind : Nat
  of : Nat
  made : List Nat
  size : Nat
  chunks : Int
  larges : Int
  at_ : Nat
  objects : Nat
  padding : Nat
  n : Int

structure Ent where
  h : Nat
  p : Nat
  v : Value
  t : Thing

def thingCells (t : Thing) (v : Value) : Array Value :=
  #[.int .i64 (t.kind : Int), .int .u64 (t.of : Int), v, .int .u64 (t.size : Int), .int .i64 t.chunks, .int .i64 t.larges, .int .u64 (t.at_ : Int), .int .u64 (t.objects : Int), .int .u64 (t.padding : Int), .int .i64 t.n]

def ptr (p : Nat) : Value := .pointer (some ⟨p, 0, none⟩)
def kvs (E : List Ent) : List (Nat × Value) := E.map fun e => (e.h, ptr e.p)
def findE (h : Nat) (E : List Ent) : Option Ent := E.find? fun e => decide (e.h = h)
def liveE (kind h : Nat) (E : List Ent) : Option Ent := (findE h E).bind fun e => if e.t.kind = kind then some e else none
def optPtr (e : Option Ent) : Value := match e with | some e => ptr e.p | none => .pointer none

def byV (n : Nat) : Value := .int .u8 (n : Int)
def bvs (Y : List (Place × Nat)) : List (Place × Value) := Y.map fun kv => (kv.1, byV kv.2)

/-- One thing in memory. -/
structure EntAt (B : Nat) (w : World) (e : Ent) : Prop where
  base : B ≤ e.p
  blk : Blk w e.p 109 (thingCells e.t e.v)
  row : w.ownsRow B 23 1 e.v e.t.made.length (e.t.made.map encU)

structure NAt (B : Nat) (w : World) (pn bm bb : Nat) (lv : Value) (last : Nat) (E : List Ent) (Y : List (Place × Nat)) : Prop where
  hpn : B ≤ pn
  hbm : B ≤ bm
  hbb : B ≤ bb
  hne : bm ≠ bb
  blk : Blk w pn 104 #[lv, .int .u64 (last : Int), .map (some bm), .map (some bb)]
  map : MapL encU w bm (kvs E)
  byt : MapL encP w bb (bvs Y)
  ent : ∀ e ∈ E, EntAt B w e
  sep : E.Pairwise fun e e' => e.h ≠ e'.h ∧ e.p ≠ e'.p ∧ (∀ g, e.v.ownBlock = some g → e'.v.ownBlock ≠ some g)
  num : ∀ e ∈ E, e.h ≤ last ∧ e.t.made.length + 4611686018427387904 ≤ last
  tree : ∀ e ∈ E, ∀ m ∈ e.t.made, e.h < m ∧ m ≤ last

theorem aget_kvs (h : Nat) : ∀ E : List Ent, aget h (kvs E) = (findE h E).map fun e => ptr e.p
  | [] => rfl
  | e :: E => by
    have ih := aget_kvs h E
    unfold aget kvs findE at *
    by_cases hh : e.h = h
    · simp [hh]
    · simp [hh] at ih ⊢
      exact ih
theorem findE_mem {h : Nat} {E : List Ent} {e : Ent} (hf : findE h E = some e) : e ∈ E ∧ e.h = h := by
  unfold findE at hf
  exact ⟨List.mem_of_find?_eq_some hf, by simpa using List.find?_some hf⟩
theorem liveE_mem {k h : Nat} {E : List Ent} {e : Ent} (hf : liveE k h E = some e) : findE h E = some e ∧ e.t.kind = k := by
  unfold liveE at hf
  cases hh : findE h E with
  | none => rw [hh] at hf; cases hf
  | some e0 =>
    rw [hh] at hf
    simp only [Option.bind_some] at hf
    split at hf
    · cases hf; exact ⟨rfl, ‹_›⟩
    · cases hf

theorem zero_thing (w : World) : (zeroValue 105).run Try.prog w = .ok (.pointer none) w := by kernel_rfl
theorem zero_byte (w : World) : (zeroValue 5).run Try.prog w = .ok (.int .u8 0) w := by kernel_rfl
theorem key23 : MKey Try.prog 23 encU := mkey_u Try.underlying23

theorem NAt.look {B : Nat} {w : World} {pn bm bb : Nat} {lv : Value} {last : Nat} {E : List Ent} {Y : List (Place × Nat)} (h : NAt B w pn bm bb lv last E Y) (x : Nat) :
    (Instr.lookup 101 (.map (some bm)) (.int .u64 (x : Int)) false).run Try.prog w = .ok (optPtr (findE x E)) w := by
  have := h.map.lookup key23 Try.underlying101 (zero_thing w) x false
  rw [aget_kvs] at this
  simp only [encU, Bool.false_eq_true, if_false] at this
  rw [this]
  cases findE x E <;> rfl

set_option maxHeartbeats 400000 in
theorem live_none (kind h : Int) (w : World) :
    Calls Try.prog 55 #[.pointer none, .int .i64 kind, .int .u64 h] w fun e w' => e = .returned (.pointer none) ∧ w = w' := by
  go_enter Try.func55, Try.ntmps55
  go_wp2
  go_ret
  exact ⟨rfl, rfl⟩

set_option maxHeartbeats 400000 in
theorem live_any {B : Nat} {w : World} {pn bm bb : Nat} {lv : Value} {last : Nat} {E : List Ent} {Y : List (Place × Nat)} (hN : NAt B w pn bm bb lv last E Y) (k h : Nat) :
    Calls Try.prog 55 #[ptr pn, .int .i64 (k : Int), .int .u64 (h : Int)] w fun e w' => e = .returned (optPtr (liveE k h E)) ∧ w = w' := by
  have hl := hN.look h
  have c : w.cell? ⟨pn, 2, none⟩ = some (.map (some bm)) := hN.blk.cell 2
  unfold liveE ptr
  cases hf : findE h E with
  | none =>
    simp only [hf, optPtr] at hl
    clear hN
    simp only [Option.bind_none, optPtr]
    go_enter Try.func55, Try.ntmps55
    go_wp2
    go_ret
    exact ⟨rfl, rfl⟩
  | some e =>
    have he := (hN.ent e (findE_mem hf).1).blk
    have ck : w.cell? ⟨e.p, 0, none⟩ = some (.int .i64 (e.t.kind : Int)) := he.cell 0
    simp only [hf, optPtr, ptr] at hl
    clear hN hf
    by_cases hk : e.t.kind = k
    · have hb : ((e.t.kind : Int) != (k : Int)) = false := by simp [hk]
      simp only [Option.bind_some, if_pos hk, optPtr, ptr]
      clear hk
      go_enter Try.func55, Try.ntmps55
      go_wp2
      go_ret
      exact ⟨rfl, rfl⟩
    · have hb : ((e.t.kind : Int) != (k : Int)) = true := by rw [bne_iff_ne]; omega
      simp only [Option.bind_some, if_neg hk, optPtr]
      clear hk
      go_enter Try.func55, Try.ntmps55
      go_wp2
      go_ret
      exact ⟨rfl, rfl⟩
end Go.Proofs.Ytgdmpblodgofgaa
