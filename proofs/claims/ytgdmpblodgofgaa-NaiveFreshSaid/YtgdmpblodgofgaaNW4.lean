/- naive.New, naive.Read, naive.Write. -/
import Derived.Test.YtgdmpblodgofgaaNW3
import Derived.LoopTactic
namespace Go.Proofs.Ytgdmpblodgofgaa
open Go.RowKit

def rowB (f : Nat → Value) (k : Nat) : Array Value := ((List.range k).map f).toArray
theorem rowB_size (f : Nat → Value) (k : Nat) : (rowB f k).size = k := by simp [rowB]
theorem rowB_get (f : Nat → Value) (k i : Nat) (h : i < k) : (rowB f k)[i]? = some (f i) := by simp [rowB, h]
theorem rowB_set (f : Nat → Value) (k i : Nat) (v : Value) : (rowB f k).setIfInBounds i v = rowB (fun j => if j = i then v else f j) k := by
  apply Array.ext_getElem?
  intro j
  rw [Array.getElem?_setIfInBounds]
  by_cases hj : j < k
  · by_cases hij : i = j
    · subst hij; simp [rowB, hj]
    · have : ¬ j = i := fun e => hij e.symm
      simp [rowB, hj, hij, this]
  · simp [rowB, hj]
    omega
theorem rowB_congr {f g : Nat → Value} {k : Nat} (h : ∀ i, i < k → f i = g i) : rowB f k = rowB g k := by
  unfold rowB
  congr 1
  exact List.map_congr_left fun i hi => h i (by simpa using hi)
theorem made_rowB (z : Value) (n : Nat) : madeCells #[z] n = rowB (fun _ => z) n := by
  apply Array.toList_inj.1
  rw [toList_madeCells_one]
  simp [rowB, List.map_const']

theorem info_u8 : (Try.prog.info? 5).map (fun i => (i.zero, i.size, i.bytes)) = some (some (.int .u8 0), 1, 1) := by kernel_rfl
theorem make_bytes (k : Nat) (hk : k ≤ 1048576) (kd : IntKind) (W : World) :
    (Instr.makeSlice 24 (.int kd (k : Int)) (.int kd (k : Int))).run Try.prog W = .ok (.slice (some ⟨W.heap.size, 0, none⟩) k k) (W.alloc (.cells (rowB (fun _ => .int .u8 0) k) 5)) := by
  obtain ⟨i0, hi0, hz0, hz1, hz2⟩ := info_parts info_u8
  have := run_make (P := Try.prog) W 24 5 i0 _ Try.underlying24 hi0 hz0 kd kd (k : Int) (k : Int) (by omega) (Int.le_refl _) (by rw [hz2]; omega) (by omega)
  rw [this, hz1]
  simp [Value.cells, made_rowB]

section
variable {B : Nat} {w : World} {pn bm bb : Nat} {lv : Value} {last : Nat} {E : List Ent} {Y : List (Place × Nat)}

/-- The byte of an object. -/
def byteN (Y : List (Place × Nat)) (h a : Nat) : Nat := (aget ⟨h, a⟩ Y).getD 0
theorem NAt.lookB (hN : NAt B w pn bm bb lv last E Y) (h a : Nat) (x : Int) (hx : x = (a : Int)) :
    (Instr.lookup 102 (.map (some bb)) (.agg #[.int .u64 (h : Int), .int .u64 x]) false).run Try.prog w = .ok (.int .u8 (byteN Y h a : Int)) w := by
  subst hx
  have := hN.byt.lookup mkey_place Try.underlying102 (zero_byte w) ⟨h, a⟩ false
  rw [show bvs Y = Y.map fun kv => (kv.1, byV kv.2) from rfl, aget_map] at this
  simp only [encP, Bool.false_eq_true, if_false] at this
  rw [this]
  unfold byteN
  cases aget (⟨h, a⟩ : Place) Y <;> rfl

set_option maxRecDepth 100000 in
set_option maxHeartbeats 1000000 in
theorem new_any (w : World) (q : Option Addr) :
    Calls Try.prog 14 #[.pointer q] w fun e w' => e = .returned (ptr (w.heap.size + 2)) ∧
      w' = ((w.alloc (.map #[] 0)).alloc (.map #[] 0)).alloc (.cells #[.pointer q, .int .u64 4611686018427387904, .map (some w.heap.size), .map (some (w.heap.size + 1))] 104) := by
  have hmm := @run_makeMap Try.prog
  unfold ptr
  go_enter Try.func14, Try.ntmps14
  go_wp2
  go_ret
  exact ⟨rfl, rfl⟩

theorem new_at (w : World) (lv : Value) : NAt w.heap.size (((w.alloc (.map #[] 0)).alloc (.map #[] 0)).alloc (.cells #[lv, .int .u64 4611686018427387904, .map (some w.heap.size), .map (some (w.heap.size + 1))] 104))
    (w.heap.size + 2) w.heap.size (w.heap.size + 1) lv 4611686018427387904 [] [] := by
  have hs1 : (w.alloc (.map #[] 0)).heap.size = w.heap.size + 1 := by simp
  have hs2 : ((w.alloc (.map #[] 0)).alloc (.map #[] 0)).heap.size = w.heap.size + 2 := by simp
  have m1 := MapL.made encU w
  have m2 := MapL.made encP (w.alloc (.map #[] 0))
  rw [hs1] at m2
  refine ⟨by omega, Nat.le_refl _, by omega, by omega, ?_, ?_, ?_, by simp, List.Pairwise.nil, by simp, by simp⟩
  · have := Blk.new ((w.alloc (.map #[] 0)).alloc (.map #[] 0)) 104 #[lv, .int .u64 4611686018427387904, .map (some w.heap.size), .map (some (w.heap.size + 1))]
    rw [hs2] at this
    exact this
  · exact (m1.same (Below.heap_alloc _ _ _ (by omega))).same (Below.heap_alloc _ _ _ (by omega))
  · exact m2.same (Below.heap_alloc _ _ _ (by omega))

set_option maxRecDepth 100000 in
set_option maxHeartbeats 1000000 in
theorem read_any (hN : NAt B w pn bm bb lv last E Y) (hs : ∀ e ∈ E, e.t.size < 18446744073709551616) (h a k : Nat) (hak : a + k < 18446744073709551616) (hw : withinE h a k E = 0) (hk : k ≤ 1048576) :
    Calls Try.prog 17 #[ptr pn, .int .u64 (h : Int), .int .u64 (a : Int), .int .u64 (k : Int)] w fun e w' =>
      e = .returned (.tuple #[.slice (some ⟨w.heap.size, 0, none⟩) k k, .int .i64 0]) ∧ Blk w' w.heap.size 5 (rowB (fun i => .int .u8 (byteN Y h (a + i) : Int)) k) ∧ Below w.heap.size w w' := by
  have hwi := within_any hN hs h a k
  rw [hw] at hwi
  have HWI := Lib.hid hwi
  have hmk := make_bytes k hk
  have hkb : (k : Int) ≤ 1048576 := by omega
  clear hwi hw hs
  unfold ptr
  go_enter Try.func17, Try.ntmps17
  go_wp2_with (go_at_call 60; refine HWI.out.mono ?_; rintro e w' ⟨rfl, rfl⟩)
  go_loopw [12, 25] (fun iv ix wr => ∃ j : Nat, j ≤ k ∧ ix = .int .i64 (j : Int) ∧ Blk wr w.heap.size 5 (rowB (fun i => if i < j then .int .u8 (byteN Y h (a + i) : Int) else .int .u8 0) k) ∧ Below w.heap.size w wr) (fun _ ix _ => k - (intOf ix).toNat)
  case atStart => exact ⟨0, Nat.zero_le _, rfl, by simpa using Blk.new w 5 (rowB (fun _ => .int .u8 0) k), (Below.refl _ _).alloc (Nat.le_refl _) _⟩
  case round =>
    obtain ⟨j, hj, rfl, hblk, hbel⟩ := hrel
    have hNr := hN.below hbel
    have c3 : wr.cell? ⟨pn, 3, none⟩ = some (.map (some bb)) := hNr.blk.cell 3
    have hlk := hNr.lookB h (a + j) ((a : Int) + (j : Int)) (by omega)
    have f1 := hblk.frozen j
    have cj : j < k → wr.cell? ⟨w.heap.size, j, none⟩ = some (.int .u8 0) := fun hlt => by rw [hblk.cell j, rowB_get _ _ _ hlt]; simp
    have HB := Lib.hid hblk
    clear hblk hNr
    by_cases hlt : j < k
    · have cj' := cj hlt
      clear cj
      go_wp2
      go_roundw
      case rel =>
        refine ⟨j + 1, by omega, by go_num, ?_, hbel.setCell (Nat.le_refl _) _⟩
        have := HB.out.set_ j (.int .u8 (byteN Y h (a + j) : Int))
        rw [rowB_set] at this
        rw [rowB_congr (g := fun i => if i < j + 1 then .int .u8 (byteN Y h (a + i) : Int) else .int .u8 0)] at this
        · exact this
        · intro i hi
          by_cases h1 : i = j
          · subst h1; simp
          · by_cases h2 : i < j
            · simp [h1, h2, Nat.lt_succ_of_lt h2]
            · have : ¬ i < j + 1 := by omega
              simp [h1, h2, this]
      case measure => simp [intOf]; omega
    · obtain rfl : j = k := by omega
      clear cj
      go_wp2
      go_ret2
      refine ⟨rfl, ?_, hbel⟩
      have := HB.out
      rw [rowB_congr (g := fun i => .int .u8 (byteN Y h (a + i) : Int))] at this
      · exact this
      · intro i hi; simp [hi]

/-- What stands in an object behind a write. -/
def putB (Y : List (Place × Nat)) (h a : Nat) : List Nat → List (Place × Nat)
  | [] => Y
  | b :: l => putB (aput ⟨h, a⟩ b Y) h (a + 1) l
theorem putB_snoc (h : Nat) (b : Nat) : ∀ (l : List Nat) (Y : List (Place × Nat)) (a : Nat), putB Y h a (l ++ [b]) = aput ⟨h, a + l.length⟩ b (putB Y h a l)
  | [], _, _ => rfl
  | c :: l, Y, a => by
    have := putB_snoc h b l (aput ⟨h, a⟩ c Y) (a + 1)
    simp only [List.cons_append, putB, this, List.length_cons]
    rw [show a + 1 + l.length = a + (l.length + 1) by omega]
/-- A slice of bytes that reads as l. -/
def Reads8 (w : World) (A : Option Addr) (l : List Nat) : Prop :=
  l = [] ∨ ∃ b0 off, A = some ⟨b0, off, none⟩ ∧ ∀ (j : Nat) (hj : j < l.length), w.cell? ⟨b0, off + j, none⟩ = some (.int .u8 (l[j] : Int))
theorem cell_not_map {w : World} {r : Nat} {es : Array MapEntry} {c : Nat} (h : w.heap[r]? = some (.map es c)) {a : Addr} {v : Value} (hc : w.cell? a = some v) : a.block ≠ r := by
  rintro rfl
  simp [World.cell?, h] at hc

theorem new_say (w : World) (q : Option Addr) :
    Calls Try.prog 14 #[.pointer q] w fun e w' => e = .returned (ptr (w.heap.size + 2)) ∧ NAt w.heap.size w' (w.heap.size + 2) w.heap.size (w.heap.size + 1) (.pointer q) 4611686018427387904 [] [] ∧ Below w.heap.size w w' :=
  (new_any w q).mono fun e w' ⟨he, hw⟩ => ⟨he, by rw [hw]; exact new_at w _, by
    rw [hw]
    exact (((Below.refl _ _).alloc (Nat.le_refl _) _).alloc (by simp) _).alloc (by simp; omega) _⟩

/-- Only the map of bytes has turned. -/
theorem NAt.bytes {w1 : World} {Y' : List (Place × Nat)} (hN : NAt B w pn bm bb lv last E Y) (hf : Fr (fun k => k = bb) w w1) (hm : MapL encP w1 bb (bvs Y')) : NAt B w1 pn bm bb lv last E Y' where
  hpn := hN.hpn
  hbm := hN.hbm
  hbb := hN.hbb
  hne := hN.hne
  blk := hf.blk hN.blk hN.pn_ne_bb
  map := hN.map.same (hf.block _ hN.map.lt hN.hne)
  byt := hm
  ent e he := (hN.ent e he).same (hf.block _ (hN.ent e he).plt (hN.bb_ne_p (hN.ent e he))) (fun _ hg => hf.block _ ((hN.ent e he).vlt hg).2 (fun h => hN.bb_ne_v (hN.ent e he) (h ▸ hg)))
  sep := hN.sep
  num := hN.num
  tree := hN.tree

set_option maxRecDepth 100000 in
set_option maxHeartbeats 1000000 in
theorem write_any (hN : NAt B w pn bm bb lv last E Y) (hs : ∀ e ∈ E, e.t.size < 18446744073709551616) (h a : Nat) (l : List Nat) (A : Option Addr) (c : Nat) (hl : Reads8 w A l) (hak : a + l.length < 18446744073709551616) (hw : withinE h a l.length E = 0) (hk : l.length ≤ 1048576) :
    Calls Try.prog 18 #[ptr pn, .int .u64 (h : Int), .int .u64 (a : Int), .slice A l.length c] w fun e w' =>
      e = .returned (.int .i64 0) ∧ NAt B w' pn bm bb lv last E (putB Y h a l) ∧ Fr (fun k => k = bb) w w' := by
  have hwi := within_any hN hs h a l.length
  rw [hw] at hwi
  have HWI := Lib.hid hwi
  have hkb : (l.length : Int) ≤ 1048576 := by omega
  clear hwi hw hs
  unfold ptr
  go_enter Try.func18, Try.ntmps18
  go_wp2_with (go_at_call 60; refine HWI.out.mono ?_; rintro e w' ⟨rfl, rfl⟩)
  go_loopw [10, 11, 24] (fun iv cv ix wr => ∃ j : Nat, j ≤ l.length ∧ ix = .int .i64 (j : Int) ∧ MapL encP wr bb (bvs (putB Y h a (l.take j))) ∧ Fr (fun k => k = bb) w wr) (fun _ _ ix _ => l.length - (intOf ix).toNat)
  case atStart => exact ⟨0, Nat.zero_le _, rfl, by simpa [putB] using hN.byt, Fr.refl _ _⟩
  case round =>
    obtain ⟨j, hj, rfl, hmap, hfr⟩ := hrel
    have hNr := hN.bytes hfr hmap
    have c3 : wr.cell? ⟨pn, 3, none⟩ = some (.map (some bb)) := hNr.blk.cell 3
    clear hNr
    by_cases hlt : j < l.length
    · obtain ⟨b0, off, rfl, hc⟩ : ∃ b0 off, A = some ⟨b0, off, none⟩ ∧ ∀ (j : Nat) (hj : j < l.length), w.cell? ⟨b0, off + j, none⟩ = some (.int .u8 (l[j] : Int)) := by
        rcases hl with rfl | h
        · simp at hlt
        · exact h
      have cj : wr.cell? ⟨b0, off + j, none⟩ = some (.int .u8 (l[j] : Int)) := by
        have h1 := hc j hlt
        obtain ⟨es, ck, hbb⟩ := hN.byt.heap
        exact (World.cell?_of_block (w := w) (hfr.block b0 (World.block_lt_of_cell? w _ h1) (cell_not_map hbb h1))).trans h1
      have hsn := putB_snoc h l[j] (l.take j) Y a
      rw [← List.take_succ_eq_append_getElem hlt, List.length_take, Nat.min_eq_left (Nat.le_of_lt hlt)] at hsn
      have HS := Lib.hid hsn
      clear hc hsn hl
      generalize l[j] = lj at *
      go_wp2_with (at_mapUpdate; refine wpList_mapL_update rfl (.tmp 32) (.tmp 38) (.tmp 39) 102 rfl mkey_place Try.underlying102 bb _ hmap rfl ⟨h, a + j⟩ rfl (byV lj) rfl ?_; intro w2 hm2 hg2)
      go_roundw
      case rel =>
        refine ⟨j + 1, by omega, by go_num, ?_, hfr.grown hg2 (fun k hk => .inl (by injection hk with hk; exact hk.symm))⟩
        rw [HS.out]
        have := aput_map byV (⟨h, a + j⟩ : Place) lj (putB Y h a (l.take j))
        unfold bvs at hm2 ⊢
        rw [← this]
        exact hm2
      case measure => simp [intOf]; omega
    · obtain rfl : j = l.length := by omega
      go_wp2
      go_ret
      rw [List.take_length] at hmap
      exact ⟨rfl, hN.bytes hfr hmap, hfr⟩

set_option maxRecDepth 100000 in
set_option maxHeartbeats 1000000 in
/-- Bytes that may not be written: nothing turns. -/
theorem write_not (hN : NAt B w pn bm bb lv last E Y) (hs : ∀ e ∈ E, e.t.size < 18446744073709551616) (h a n : Nat) (A : Option Addr) (c : Nat) (x : Nat) (hx : x ≠ 0) (hw : withinE h a n E = x) (hk : n < 9223372036854775808) :
    Calls Try.prog 18 #[ptr pn, .int .u64 (h : Int), .int .u64 (a : Int), .slice A n c] w fun e w' => e = .returned (.int .i64 (x : Int)) ∧ w = w' := by
  have hwi := within_any hN hs h a n
  rw [hw] at hwi
  have HWI := Lib.hid hwi
  have hb : ((x : Int) != 0) = true := by rw [bne_iff_ne]; omega
  clear hwi hw hs hx
  unfold ptr
  go_enter Try.func18, Try.ntmps18
  go_wp2_with (go_at_call 60; refine HWI.out.mono ?_; rintro e w' ⟨rfl, rfl⟩)
  go_ret
  exact ⟨rfl, rfl⟩
end
end Go.Proofs.Ytgdmpblodgofgaa
