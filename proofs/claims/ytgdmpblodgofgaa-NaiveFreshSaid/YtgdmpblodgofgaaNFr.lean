/- steadinglaw20.NaiveFresh: the walk. -/
import Derived.Test.YtgdmpblodgofgaaNW6
import Derived.Deep.RegionWith
import Derived.Deep.RegionHeld3
namespace Go.Proofs.Ytgdmpblodgofgaa
open Go.RowKit

/-- A slice of whole numbers that reads as l. -/
def Reads64 (w : World) (A : Option Addr) (l : List Nat) : Prop :=
  l = [] ∨ ∃ b0 off, A = some ⟨b0, off, none⟩ ∧ ∀ (j : Nat) (hj : j < l.length), w.cell? ⟨b0, off + j, none⟩ = some (.int .u64 (l[j] : Int))

set_option maxRecDepth 100000 in
set_option maxHeartbeats 1000000 in
theorem fresh_long (w : World) (A1 A3 : Option Addr) (n1 c1 n3 c3 : Nat) (at_ : Int) (h1 : n1 ≤ 9223372036854775807) (h3 : n3 ≤ 9223372036854775807) (h : 20 < n1 ∨ 100 < n3) :
    Calls Try.prog 3 #[.slice A1 n1 c1, .int .u64 at_, .slice A3 n3 c3] w fun e w' => e = .returned (.bool true) ∧ Below w.heap.size w w' := by
  by_cases h2 : 20 < n1
  · have d1 : decide ((n1 : Int) > 20) = true := by rw [decide_eq_true_eq]; omega
    clear h h2
    go_enter Try.func3, Try.ntmps3
    go_wp2_with (go_at_call 13; refine (awake_any _).mono ?_; rintro e w1 ⟨rfl, hB⟩)
    go_ret
    exact ⟨rfl, hB⟩
  · have d1 : decide ((n1 : Int) > 20) = false := by rw [decide_eq_false_iff_not]; omega
    have d3 : decide ((n3 : Int) > 100) = true := by rw [decide_eq_true_eq]; omega
    clear h h2
    go_enter Try.func3, Try.ntmps3
    go_wp2_with (go_at_call 13; refine (awake_any _).mono ?_; rintro e w1 ⟨rfl, hB⟩)
    go_ret
    exact ⟨rfl, hB⟩

/-- W' is W with new blocks (a name that simp doesn't open). -/
def Ext (W W' : World) : Prop := Below W.heap.size W W'
theorem Ext.rfl_ (W : World) : Ext W W := Below.refl _ _
theorem Ext.drew {W W' : World} (h : Ext W W') : Ext W W'.drew := Below.drew h
theorem Ext.alloc {W W' : World} (h : Ext W W') (o : Obj) : Ext W (W'.alloc o) := Below.alloc h (Below.size h) o

theorem byteN_fresh {Y : List (Place × Nat)} {h : Nat} (hY : ∀ kv ∈ Y, kv.1.o < h) (a : Nat) : byteN Y h a = 0 := by
  unfold byteN aget
  have : Y.find? (fun kv => decide (kv.1 = (⟨h, a⟩ : Place))) = none := by
    rw [List.find?_eq_none]
    intro kv hkv
    have := hY kv hkv
    simp
    intro e
    rw [e] at this
    simp at this
  simp [this]
theorem byteN_put (Y : List (Place × Nat)) (h a b h' a' : Nat) : byteN (aput ⟨h, a⟩ b Y) h' a' = if h' = h ∧ a' = a then b else byteN Y h' a' := by
  unfold byteN
  rw [aget_aput]
  by_cases hc : h' = h ∧ a' = a
  · obtain ⟨rfl, rfl⟩ := hc
    simp
  · have : ¬ (⟨h', a'⟩ : Place) = ⟨h, a⟩ := fun e => hc (by injection e with e1 e2; exact ⟨e1, e2⟩)
    rw [if_neg this, if_neg hc]
theorem byteN_putB (h : Nat) : ∀ (l : List Nat) (Y : List (Place × Nat)) (a a' : Nat), byteN (putB Y h a l) h a' = if a ≤ a' ∧ a' < a + l.length then l.getD (a' - a) 0 else byteN Y h a'
  | [], Y, a, a' => by
    have : ¬ (a ≤ a' ∧ a' < a + ([] : List Nat).length) := by simp
    rw [if_neg this]; rfl
  | b :: l, Y, a, a' => by
    unfold putB
    rw [byteN_putB h l, byteN_put]
    by_cases h1 : a' = a
    · subst h1
      have h2 : ¬ (a' + 1 ≤ a' ∧ a' < a' + 1 + l.length) := by omega
      have h3 : a' ≤ a' ∧ a' < a' + (b :: l).length := by simp
      rw [if_neg h2, if_pos h3, if_pos ⟨rfl, rfl⟩]
      simp
    · by_cases h2 : a + 1 ≤ a' ∧ a' < a + 1 + l.length
      · have h3 : a ≤ a' ∧ a' < a + (b :: l).length := by simp; omega
        rw [if_pos h2, if_pos h3]
        have : a' - a = (a' - (a + 1)) + 1 := by omega
        rw [this]
        simp
      · have h3 : ¬ (a ≤ a' ∧ a' < a + (b :: l).length) := by simp; omega
        rw [if_neg h2, if_neg h3, if_neg (fun h => h1 h.2)]
theorem putB_keys (h : Nat) (m : Nat) (hm : h ≤ m) : ∀ (l : List Nat) (Y : List (Place × Nat)) (a : Nat), (∀ kv ∈ Y, kv.1.o ≤ m) → ∀ kv ∈ putB Y h a l, kv.1.o ≤ m
  | [], Y, a, hY => hY
  | b :: l, Y, a, hY => by
    refine putB_keys h m hm l _ (a + 1) fun kv hkv => ?_
    unfold aput at hkv
    split at hkv
    · obtain ⟨x, hx, rfl⟩ := List.mem_map.1 hkv
      split
      · exact hm
      · exact hY x hx
    · rcases List.mem_append.1 hkv with h1 | h1
      · exact hY kv h1
      · rw [List.mem_singleton.1 h1]; exact hm

set_option maxRecDepth 100000 in
set_option maxHeartbeats 1000000 in
theorem fresh_short (w : World) (A1 A3 : Option Addr) (zs bs : List Nat) (c1 c3 : Nat) (at_ : Nat) (hat : at_ < 18446744073709551616) (h1 : zs.length ≤ 20) (h3 : bs.length ≤ 100) (hz : ∀ z ∈ zs, z < 18446744073709551616) (hR1 : Reads64 w A1 zs) (hR3 : Reads8 w A3 bs) (hc3 : bs.length ≤ c3) :
    Calls Try.prog 3 #[.slice A1 zs.length c1, .int .u64 (at_ : Int), .slice A3 bs.length c3] w fun e w' => e = .returned (.bool true) ∧ Below w.heap.size w w' := by
  have d1 : decide ((zs.length : Int) > 20) = false := by rw [decide_eq_false_iff_not]; omega
  have d3 : decide ((bs.length : Int) > 100) = false := by rw [decide_eq_false_iff_not]; omega
  go_enter Try.func3, Try.ntmps3
  go_wp2_with (first
    | (go_at_call 13; refine (awake_any _).mono ?_; rintro e w0 ⟨rfl, hB0⟩)
    | (go_at_call 14; refine (new_say _ _).mono ?_; rintro e w1 ⟨rfl, hN1, hB1⟩)
    | (go_at_call 15; refine (create0 hN1).mono ?_; rintro e w2 ⟨rfl, ⟨p, hN2⟩, hB2⟩))
  go_loopw [11, 12] (fun lv iv wr => ∃ (j last : Nat) (E : List Ent) (Y : List (Place × Nat)), j ≤ zs.length ∧ iv = .int .i64 (j : Int) ∧ lv = .int .u64 (last : Int) ∧
      NAt w0.heap.size wr (w0.heap.size + 2) w0.heap.size (w0.heap.size + 1) (.pointer none) last E Y ∧ Small E ∧ (∃ r, liveE 1 4611686018427387905 E = some r) ∧ 4611686018427387905 ≤ last ∧ last ≤ 4611686018427387905 + j ∧ Below w.heap.size w wr ∧ (∀ kv ∈ Y, kv.1.o ≤ last))
    (fun _ iv _ => zs.length - (intOf iv).toNat)
  case atStart =>
    refine ⟨0, 4611686018427387905, _, _, Nat.zero_le _, rfl, rfl, hN2, ?_, ⟨_, rfl⟩, Nat.le_refl _, Nat.le_refl _, (hB0.trans (hB1.mono hB0.size)).trans (hB2.mono hB0.size), by simp⟩
    intro e he
    rw [List.mem_singleton.1 he]
    simp [thing0]
  case round =>
    obtain ⟨j, last, E, Y, hj, rfl, rfl, hN, hS, hr, hl0, hl1, hB, hY⟩ := hrel
    by_cases hlt : j < zs.length
    · obtain ⟨sb, so, rfl, hzc⟩ : ∃ b0 off, A1 = some ⟨b0, off, none⟩ ∧ ∀ (j : Nat) (hj : j < zs.length), w.cell? ⟨b0, off + j, none⟩ = some (.int .u64 (zs[j] : Int)) := by
        rcases hR1 with rfl | h
        · simp at hlt
        · exact h
      have hzj := hzc j hlt
      have hsb := World.block_lt_of_cell? w _ hzj
      have cz : wr.cell? ⟨sb, so + j, none⟩ = some (.int .u64 (zs[j] : Int)) := (hB.cell (p := ⟨sb, so + j, none⟩) hsb).trans hzj
      have hzlt := hz _ (List.getElem_mem hlt)
      have hjlt : (j : Int) < (zs.length : Int) := by omega
      have hj20 : (zs.length : Int) ≤ 20 := by omega
      have hB0z := hB0.size
      clear hzc hzj hN2 hN1 hB1 hB2 hR1 hz
      generalize zs[j] = z at *
      by_cases hz0 : z = 0
      · subst hz0
        have HA := Lib.hid (alloc_zero hN 4611686018427387905 1 hr)
        have HQ := Lib.hid (And.intro hN (And.intro hS (And.intro hr (And.intro hB hY))))
        clear hN hS hr hB hY
        go_wp2_with (go_at_call 16; refine HA.out.mono ?_; rintro e w' ⟨rfl, rfl⟩)
        go_roundw
        case rel => exact ⟨j + 1, last, E, Y, by omega, by go_num, rfl, HQ.out.1, HQ.out.2.1, HQ.out.2.2.1, hl0, by omega, HQ.out.2.2.2.1, HQ.out.2.2.2.2⟩
        case measure => simp [intOf]; omega
      · have hA0 := alloc_say hN (by omega) (by omega) hS 4611686018427387905 z hr hz0 hzlt
        obtain ⟨oh, hoh⟩ : ∃ oh : Nat, last + 1 = oh := ⟨_, rfl⟩
        have hohI : (last : Int) + 1 = (oh : Int) := by omega
        rw [hohI, hoh] at hA0
        have HA := Lib.hid hA0
        have hbo : ((oh : Int) != (last : Int) + 1) = false := by rw [hohI]; simp
        have hoh1 : last < oh := by omega
        have hoh2 : oh ≤ 4611686018427387906 + j := by omega
        have HOI := Lib.hid hohI
        clear hA0 hohI hoh
        have hbz : ((z : Int) == 0) = false := by rw [beq_eq_false_iff_ne]; omega
        have hzpos : (1 : Int) ≤ (z : Int) := by omega
        have hzb : (z : Int) ≤ 18446744073709551615 := by omega
        clear hN hS hr hz0
        go_wp2_with fail
        refine HA.out.mono ?_
        rintro e w3 ⟨rfl, ⟨E3, hN3, hS3, hr3, o, ho3, hos⟩, hB3⟩
        have cz3 : w3.cell? ⟨sb, so + j, none⟩ = some (.int .u64 (z : Int)) := (hB3.cell (p := ⟨sb, so + j, none⟩) (Nat.lt_of_lt_of_le hsb hB0z)).trans cz
        obtain ⟨p, hp⟩ : ∃ p : Nat, at_ % z = p := ⟨_, rfl⟩
        have hplt : p < z := by rw [← hp]; exact Nat.mod_lt _ (by omega)
        have hpI : (at_ : Int) % (z : Int) = (p : Int) := by rw [← hp]; rfl
        obtain ⟨q, hq⟩ : ∃ q : Nat, (z : Int) - (p : Int) = (q : Int) := ⟨z - p, by omega⟩
        obtain ⟨n, hn⟩ : ∃ n : Nat, min bs.length q = n := ⟨_, rfl⟩
        have hnI : (if q < bs.length then (q : Int) else (bs.length : Int)) = (n : Int) := by split <;> omega
        have hbb : (bs.length : Int) ≤ 100 := by omega
        have hpz : (p : Int) ≤ (z : Int) := by omega
        have hw3 : withinE oh p n E3 = 0 := within_ok ho3 (by rw [hos]; simp [inB]; omega) (by omega)
        have HR := Lib.hid (read_any hN3 hS3 oh p n (by omega) hw3 (by omega))
        clear hp
        go_wp2_with fail
        refine HR.out.mono ?_
        rintro e w4 ⟨rfl, hb4, hB4⟩
        have hnb : (n : Int) ≤ (bs.length : Int) := by omega
        have hcc : (bs.length : Int) ≤ (c3 : Int) := by omega
        have hN4 := hN3.below hB4
        have hln : (bs.take n).length = n := by rw [List.length_take]; omega
        have hBw4 : Below w.heap.size w w4 := (hB.trans (hB3.mono hB0z)).trans (hB4.mono (Nat.le_trans hB0z (Nat.le_trans (Nat.le_trans (Nat.le_of_lt hN3.map.lt) (Nat.le_refl _)) (Nat.le_refl _))))
        have hrd : ∀ W, Below w.heap.size w W → Reads8 W A3 (bs.take n) := by
          intro W hW
          rcases hR3 with h | ⟨b0, off, h, hc⟩
          · exact .inl (by rw [h]; simp)
          · refine .inr ⟨b0, off, h, fun i hi => ?_⟩
            have hi' : i < bs.length := by omega
            have h1 := hc i hi'
            rw [List.getElem_take]
            exact (hW.cell (p := ⟨b0, off + i, none⟩) (World.block_lt_of_cell? w _ h1)).trans h1
        have hw := write_any hN4 hS3 oh p (bs.take n) A3 c3 (hrd w4 hBw4) (by rw [hln]; omega) (by rw [hln]; exact hw3) (by rw [hln]; omega)
        rw [hln] at hw
        have HWr := Lib.hid hw
        have HQ4 := Lib.hid (And.intro hb4 (And.intro hB4 hN4))
        clear HR hb4 hw hB4 hN4
        go_wp2_with fail
        refine HWr.out.mono ?_
        rintro e w5 ⟨rfl, hN5, hF5⟩
        have HR2 := Lib.hid (read_any hN5 hS3 oh p n (by omega) hw3 (by omega))
        go_wp2_with fail
        refine HR2.out.mono ?_
        rintro e w6 ⟨rfl, hb6, hB6⟩
        have hN6 := hN5.below hB6
        obtain ⟨hb4, hB4, hN4⟩ := HQ4.out
        have hs45 := hF5.size
        have hb64 : Blk w6 w3.heap.size 5 (rowB (fun i => .int .u8 (byteN Y oh (p + i) : Int)) n) :=
          (hF5.blk hb4 (fun e => hN4.byt.blk_ne hb4 e)).same (hB6.block _ (Nat.lt_of_lt_of_le hb4.lt hs45))
        have hBw6 : Below w.heap.size w w6 := hBw4.trans ((hF5.to_below (B := w0.heap.size) (fun k hk => by subst hk; omega) (Nat.le_trans hN4.hbm (Nat.le_of_lt hN4.map.lt))).mono hB0z |>.trans (hB6.mono (Nat.le_trans hBw4.size hs45)))
        obtain ⟨Z0, hZ0⟩ : ∃ Z0, strN (List.replicate n 0) = Z0 := ⟨_, rfl⟩
        obtain ⟨Z1, hZ1⟩ : ∃ Z1, strN (bs.take n) = Z1 := ⟨_, rfl⟩
        have hcx : ∀ W', Ext w6 W' → (convert 24 9 (.slice (some ⟨w3.heap.size, 0, none⟩) n n)).run Try.prog W' = .ok (.string Z0) W' := by
          intro W' hE
          rw [conv_row (hb64.same (hE.block _ hb64.lt)) n, ← hZ0]
          congr 3
          rw [List.map_congr_left (g := fun _ => 0) (fun i _ => byteN_fresh (fun kv hkv => Nat.lt_of_le_of_lt (hY kv hkv) hoh1) _)]
          simp [List.map_const']
        have hcy : ∀ W', Ext w6 W' → (convert 24 9 (.slice (some ⟨w5.heap.size, 0, none⟩) n n)).run Try.prog W' = .ok (.string Z1) W' := by
          intro W' hE
          rw [conv_row (hb6.same (hE.block _ hb6.lt)) n, ← hZ1]
          congr 3
          apply List.ext_getElem
          · simp; omega
          · intro i h1 h2
            have hi : i < n := by simpa using h1
            rw [List.getElem_map, List.getElem_range, byteN_putB, if_pos (by omega), Nat.add_sub_cancel_left, List.getD_eq_getElem?_getD, List.getElem?_eq_getElem h2]
            rfl
        have hcb : ∀ W', Ext w6 W' → (convert 24 9 (.slice A3 n c3)).run Try.prog W' = .ok (.string Z1) W' := by
          intro W' hE
          have := conv_reads (hrd W' (hBw6.trans (Below.mono hE hBw6.size))) c3
          rw [hln, hZ1] at this
          exact this
        have hcm : (convert 24 9 (.slice (some ⟨w6.heap.size, 0, none⟩) n n)).run Try.prog (w6.alloc (.cells (rowB (fun _ => .int .u8 0) n) 5)).drew = .ok (.string Z0) (w6.alloc (.cells (rowB (fun _ => .int .u8 0) n) 5)).drew := by
          have := conv_row (W := (w6.alloc (.cells (rowB (fun _ => .int .u8 0) n) 5)).drew) (g := w6.heap.size) (f := fun _ => 0) (k := n) (Blk.new w6 _ _) n
          rw [List.map_const', List.length_range, hZ0] at this
          exact this
        have hmk := make_bytes n (by omega)
        have hcz : ∀ W', Ext w6 W' → W'.cell? ⟨sb, so + j, none⟩ = some (.int .u64 (z : Int)) := fun W' hE =>
          ((hBw6.trans (Below.mono hE hBw6.size)).cell (p := ⟨sb, so + j, none⟩) hsb).trans (((hB.cell (p := ⟨sb, so + j, none⟩) hsb).symm).trans cz)
        have hno : withinE oh z 1 E3 = 3 := by
          unfold withinE
          rw [ho3]
          have : inB z 1 o.t.size = false := by rw [hos]; simp [inB]; omega
          simp [this]
        have hwn : ∀ W', Ext w6 W' → ∀ A c, Calls Try.prog 18 #[ptr (w0.heap.size + 2), .int .u64 (oh : Int), .int .u64 (z : Int), .slice A 1 c] W' fun e w' => e = .returned (.int .i64 3) ∧ W' = w' :=
          fun W' hE A c => write_not (hN6.below hE) hS3 oh z 1 A c 3 (by omega) hno (by omega)
        have HWN := Lib.hid hwn
        have e1 := Ext.rfl_ w6
        have e2 : ∀ W', Ext w6 W' → Ext w6 W'.drew := fun W' h => h.drew
        have e3 : ∀ W' o, Ext w6 W' → Ext w6 (W'.alloc o) := fun W' o h => h.alloc o
        have HQ6 := Lib.hid (And.intro hN6 (And.intro hS3 (And.intro hr3 hBw6)))
        clear hb6 hB6 hN6 hb4 hB4 hN4 hb64 hBw6 hBw4 hrd HQ4 HWr HR2 hN5 hF5 hwn hno hN3 hS3 hr3 ho3 hos hB3 hB cz cz3 hpI hnI hq hZ0 hZ1 hR3
        go_wp2_with fail
        have hwr : IntKind.u64.wrap ((last : Int) + 1) = (oh : Int) := by rw [HOI.out, IntKind.wrap_u64]; omega
        have hwn2 : IntKind.i64.wrap (n : Int) = (n : Int) := IntWalk.i64_in _ (by omega)
        clear hbo
        have hn0 : (0 : Int) ≤ (n : Int) := Int.natCast_nonneg _
        have hnc : (n : Int) ≤ (c3 : Int) := by omega
        refine wp_region_noPanic ?_
        refine wp_region_held_drew (S := fun W' => Ext w6 W') (by kernel_rfl) (Ext.drew (Ext.rfl_ w6)) (fun hHeld => ?_)
        refine wpAnyH_take (i := 0) (oi := ⟨(some 103), .move (.tmp 14), 28, "law.go:260", #[], none⟩) (v := ?_) rfl (by kernel_rfl) (by kernel_rfl) (by kernel_rfl) (fun _ _ _ h => h) (Or.inl ⟨by rfl, ?_⟩) (by assumption) ?_
        rotate_left
        · (intro w hSw; go_simp; try with_reducible rfl)
        try simp only [Act.put, List.setIfInBounds_toArray, List.set_cons_zero, List.set_cons_succ]
        refine wpAnyH_take (i := 1) (oi := ⟨(some 104), .binOp .neq 28 (.tmp 103) (.const (.int .i64 0)) 28, 4, "law.go:260", #[⟨0, .data⟩], none⟩) (v := ?_) rfl (by kernel_rfl) (by kernel_rfl) (by kernel_rfl) (fun _ _ _ h => h) (Or.inl ⟨by rfl, ?_⟩) (by assumption) ?_
        rotate_left
        · (intro w hSw; go_simp; try with_reducible rfl)
        try simp only [Act.put, List.setIfInBounds_toArray, List.set_cons_zero, List.set_cons_succ]
        refine wpAnyH_take (i := 2) (oi := ⟨(some 105), .move (.tmp 104), 4, "law.go:260", #[⟨1, .data⟩], none⟩) (v := ?_) rfl (by kernel_rfl) (by kernel_rfl) (by kernel_rfl) (fun _ _ _ h => h) (Or.inl ⟨by rfl, ?_⟩) (by assumption) ?_
        rotate_left
        · (intro w hSw; go_simp; try with_reducible rfl)
        try simp only [Act.put, List.setIfInBounds_toArray, List.set_cons_zero, List.set_cons_succ]
        refine wpAnyH_take (i := 3) (oi := ⟨(some 106), .move (.tmp 18), 28, "law.go:260", #[⟨2, .guard⟩], (some (2, false))⟩) (v := ?_) rfl (by kernel_rfl) (by kernel_rfl) (by kernel_rfl) (fun _ _ _ h => h) (Or.inl ⟨by rfl, ?_⟩) (by assumption) ?_
        rotate_left
        · (intro w hSw; go_simp; try with_reducible rfl)
        try simp only [Act.put, List.setIfInBounds_toArray, List.set_cons_zero, List.set_cons_succ]
        refine wpAnyH_take (i := 4) (oi := ⟨(some 107), .binOp .neq 28 (.tmp 106) (.const (.int .i64 0)) 28, 4, "law.go:260", #[⟨3, .data⟩, ⟨2, .guard⟩], (some (2, false))⟩) (v := ?_) rfl (by kernel_rfl) (by kernel_rfl) (by kernel_rfl) (fun _ _ _ h => h) (Or.inl ⟨by rfl, ?_⟩) (by assumption) ?_
        rotate_left
        · (intro w hSw; go_simp; try with_reducible rfl)
        try simp only [Act.put, List.setIfInBounds_toArray, List.set_cons_zero, List.set_cons_succ]
        refine wpAnyH_take (i := 5) (oi := ⟨(some 108), .pick (.tmp 105) (.const (.bool true)) (.tmp 107), 4, "law.go:260", #[⟨2, .data⟩, ⟨4, .data⟩], none⟩) (v := ?_) rfl (by kernel_rfl) (by kernel_rfl) (by kernel_rfl) (fun _ _ _ h => h) (Or.inl ⟨by rfl, ?_⟩) (by assumption) ?_
        rotate_left
        · (intro w hSw; go_simp; try with_reducible rfl)
        try simp only [Act.put, List.setIfInBounds_toArray, List.set_cons_zero, List.set_cons_succ]
        refine wpAnyH_take (i := 6) (oi := ⟨(some 109), .move (.tmp 108), 4, "law.go:260", #[⟨5, .data⟩, ⟨2, .chain⟩], none⟩) (v := ?_) rfl (by kernel_rfl) (by kernel_rfl) (by kernel_rfl) (fun _ _ _ h => h) (Or.inl ⟨by rfl, ?_⟩) (by assumption) ?_
        rotate_left
        · (intro w hSw; go_simp; try with_reducible rfl)
        try simp only [Act.put, List.setIfInBounds_toArray, List.set_cons_zero, List.set_cons_succ]
        refine wpAnyH_take (i := 7) (oi := ⟨(some 110), .move (.tmp 19), 28, "law.go:260", #[⟨6, .guard⟩], (some (6, false))⟩) (v := ?_) rfl (by kernel_rfl) (by kernel_rfl) (by kernel_rfl) (fun _ _ _ h => h) (Or.inl ⟨by rfl, ?_⟩) (by assumption) ?_
        rotate_left
        · (intro w hSw; go_simp; try with_reducible rfl)
        try simp only [Act.put, List.setIfInBounds_toArray, List.set_cons_zero, List.set_cons_succ]
        refine wpAnyH_take (i := 8) (oi := ⟨(some 111), .binOp .neq 28 (.tmp 110) (.const (.int .i64 0)) 28, 4, "law.go:260", #[⟨7, .data⟩, ⟨6, .guard⟩], (some (6, false))⟩) (v := ?_) rfl (by kernel_rfl) (by kernel_rfl) (by kernel_rfl) (fun _ _ _ h => h) (Or.inl ⟨by rfl, ?_⟩) (by assumption) ?_
        rotate_left
        · (intro w hSw; go_simp; try with_reducible rfl)
        try simp only [Act.put, List.setIfInBounds_toArray, List.set_cons_zero, List.set_cons_succ]
        refine wpAnyH_take (i := 9) (oi := ⟨(some 112), .pick (.tmp 109) (.const (.bool true)) (.tmp 111), 4, "law.go:260", #[⟨6, .data⟩, ⟨8, .data⟩], none⟩) (v := ?_) rfl (by kernel_rfl) (by kernel_rfl) (by kernel_rfl) (fun _ _ _ h => h) (Or.inl ⟨by rfl, ?_⟩) (by assumption) ?_
        rotate_left
        · (intro w hSw; go_simp; try with_reducible rfl)
        try simp only [Act.put, List.setIfInBounds_toArray, List.set_cons_zero, List.set_cons_succ]
        refine wpAnyH_take (i := 10) (oi := ⟨(some 113), .move (.tmp 112), 4, "law.go:260", #[⟨9, .data⟩, ⟨6, .chain⟩], none⟩) (v := ?_) rfl (by kernel_rfl) (by kernel_rfl) (by kernel_rfl) (fun _ _ _ h => h) (Or.inl ⟨by rfl, ?_⟩) (by assumption) ?_
        rotate_left
        · (intro w hSw; go_simp; try with_reducible rfl)
        try simp only [Act.put, List.setIfInBounds_toArray, List.set_cons_zero, List.set_cons_succ]
        refine wpAnyH_take (i := 11) (oi := ⟨(some 114), .move (.tmp 21), 28, "law.go:260", #[⟨10, .guard⟩], (some (10, false))⟩) (v := ?_) rfl (by kernel_rfl) (by kernel_rfl) (by kernel_rfl) (fun _ _ _ h => h) (Or.inl ⟨by rfl, ?_⟩) (by assumption) ?_
        rotate_left
        · (intro w hSw; go_simp; try with_reducible rfl)
        try simp only [Act.put, List.setIfInBounds_toArray, List.set_cons_zero, List.set_cons_succ]
        refine wpAnyH_take (i := 12) (oi := ⟨(some 115), .binOp .neq 28 (.tmp 114) (.const (.int .i64 0)) 28, 4, "law.go:260", #[⟨11, .data⟩, ⟨10, .guard⟩], (some (10, false))⟩) (v := ?_) rfl (by kernel_rfl) (by kernel_rfl) (by kernel_rfl) (fun _ _ _ h => h) (Or.inl ⟨by rfl, ?_⟩) (by assumption) ?_
        rotate_left
        · (intro w hSw; go_simp; try with_reducible rfl)
        try simp only [Act.put, List.setIfInBounds_toArray, List.set_cons_zero, List.set_cons_succ]
        refine wpAnyH_take (i := 13) (oi := ⟨(some 116), .pick (.tmp 113) (.const (.bool true)) (.tmp 115), 4, "law.go:260", #[⟨10, .data⟩, ⟨12, .data⟩], none⟩) (v := ?_) rfl (by kernel_rfl) (by kernel_rfl) (by kernel_rfl) (fun _ _ _ h => h) (Or.inl ⟨by rfl, ?_⟩) (by assumption) ?_
        rotate_left
        · (intro w hSw; go_simp; try with_reducible rfl)
        try simp only [Act.put, List.setIfInBounds_toArray, List.set_cons_zero, List.set_cons_succ]
        refine wpAnyH_take (i := 14) (oi := ⟨(some 117), .move (.tmp 116), 4, "law.go:260", #[⟨13, .data⟩, ⟨10, .chain⟩], none⟩) (v := ?_) rfl (by kernel_rfl) (by kernel_rfl) (by kernel_rfl) (fun _ _ _ h => h) (Or.inl ⟨by rfl, ?_⟩) (by assumption) ?_
        rotate_left
        · (intro w hSw; go_simp; try with_reducible rfl)
        try simp only [Act.put, List.setIfInBounds_toArray, List.set_cons_zero, List.set_cons_succ]
        refine wpAnyH_take (i := 15) (oi := ⟨(some 118), .move (.tmp 13), 23, "law.go:260", #[⟨14, .guard⟩], (some (14, false))⟩) (v := ?_) rfl (by kernel_rfl) (by kernel_rfl) (by kernel_rfl) (fun _ _ _ h => h) (Or.inl ⟨by rfl, ?_⟩) (by assumption) ?_
        rotate_left
        · (intro w hSw; go_simp; try with_reducible rfl)
        try simp only [Act.put, List.setIfInBounds_toArray, List.set_cons_zero, List.set_cons_succ]
        refine wpAnyH_take (i := 16) (oi := ⟨(some 119), .move (.tmp 11), 23, "law.go:260", #[⟨14, .guard⟩], (some (14, false))⟩) (v := ?_) rfl (by kernel_rfl) (by kernel_rfl) (by kernel_rfl) (fun _ _ _ h => h) (Or.inl ⟨by rfl, ?_⟩) (by assumption) ?_
        rotate_left
        · (intro w hSw; go_simp; try with_reducible rfl)
        try simp only [Act.put, List.setIfInBounds_toArray, List.set_cons_zero, List.set_cons_succ]
        refine wpAnyH_take (i := 17) (oi := ⟨(some 120), .binOp .add 23 (.tmp 119) (.const (.int .u64 1)) 23, 23, "law.go:260", #[⟨16, .data⟩, ⟨14, .guard⟩], (some (14, false))⟩) (v := ?_) rfl (by kernel_rfl) (by kernel_rfl) (by kernel_rfl) (fun _ _ _ h => h) (Or.inl ⟨by rfl, ?_⟩) (by assumption) ?_
        rotate_left
        · (intro w hSw; go_simp; try with_reducible rfl)
        try simp only [Act.put, List.setIfInBounds_toArray, List.set_cons_zero, List.set_cons_succ]
        refine wpAnyH_take (i := 18) (oi := ⟨(some 121), .binOp .neq 23 (.tmp 118) (.tmp 120) 23, 4, "law.go:260", #[⟨15, .data⟩, ⟨17, .data⟩, ⟨14, .guard⟩], (some (14, false))⟩) (v := ?_) rfl (by kernel_rfl) (by kernel_rfl) (by kernel_rfl) (fun _ _ _ h => h) (Or.inl ⟨by rfl, ?_⟩) (by assumption) ?_
        rotate_left
        · (intro w hSw; go_simp; try with_reducible rfl)
        try simp only [Act.put, List.setIfInBounds_toArray, List.set_cons_zero, List.set_cons_succ]
        refine wpAnyH_take (i := 19) (oi := ⟨(some 122), .pick (.tmp 117) (.const (.bool true)) (.tmp 121), 4, "law.go:260", #[⟨14, .data⟩, ⟨18, .data⟩], none⟩) (v := ?_) rfl (by kernel_rfl) (by kernel_rfl) (by kernel_rfl) (fun _ _ _ h => h) (Or.inl ⟨by rfl, ?_⟩) (by assumption) ?_
        rotate_left
        · (intro w hSw; go_simp; try with_reducible rfl)
        try simp only [Act.put, List.setIfInBounds_toArray, List.set_cons_zero, List.set_cons_succ]
        refine wpAnyH_take (i := 20) (oi := ⟨(some 123), .move (.tmp 122), 4, "law.go:260", #[⟨19, .data⟩, ⟨14, .chain⟩], none⟩) (v := ?_) rfl (by kernel_rfl) (by kernel_rfl) (by kernel_rfl) (fun _ _ _ h => h) (Or.inl ⟨by rfl, ?_⟩) (by assumption) ?_
        rotate_left
        · (intro w hSw; go_simp; try with_reducible rfl)
        try simp only [Act.put, List.setIfInBounds_toArray, List.set_cons_zero, List.set_cons_succ]
        refine wpAnyH_take (i := 21) (oi := ⟨(some 124), .move (.tmp 17), 24, "law.go:260", #[⟨20, .guard⟩], (some (20, false))⟩) (v := ?_) rfl (by kernel_rfl) (by kernel_rfl) (by kernel_rfl) (fun _ _ _ h => h) (Or.inl ⟨by rfl, ?_⟩) (by assumption) ?_
        rotate_left
        · (intro w hSw; go_simp; try with_reducible rfl)
        try simp only [Act.put, List.setIfInBounds_toArray, List.set_cons_zero, List.set_cons_succ]
        refine wpAnyH_take (i := 22) (oi := ⟨(some 125), .convert 24 9 (.tmp 124), 9, "law.go:260", #[⟨21, .data⟩, ⟨20, .guard⟩], (some (20, false))⟩) (v := ?_) rfl (by kernel_rfl) (by kernel_rfl) (by kernel_rfl) (fun _ _ _ h => h) (Or.inl ⟨by rfl, ?_⟩) (by assumption) ?_
        rotate_left
        · (intro w hSw; go_simp; try with_reducible rfl)
        try simp only [Act.put, List.setIfInBounds_toArray, List.set_cons_zero, List.set_cons_succ]
        refine wpAnyH_take (i := 23) (oi := ⟨(some 126), .move (.tmp 16), 23, "law.go:260", #[⟨20, .guard⟩], (some (20, false))⟩) (v := ?_) rfl (by kernel_rfl) (by kernel_rfl) (by kernel_rfl) (fun _ _ _ h => h) (Or.inl ⟨by rfl, ?_⟩) (by assumption) ?_
        rotate_left
        · (intro w hSw; go_simp; try with_reducible rfl)
        try simp only [Act.put, List.setIfInBounds_toArray, List.set_cons_zero, List.set_cons_succ]
        refine wpAnyH_take (i := 24) (oi := ⟨(some 127), .convert 23 3 (.tmp 126), 3, "law.go:260", #[⟨23, .data⟩, ⟨20, .guard⟩], (some (20, false))⟩) (v := ?_) rfl (by kernel_rfl) (by kernel_rfl) (by kernel_rfl) (fun _ _ _ h => h) (Or.inl ⟨by rfl, ?_⟩) (by assumption) ?_
        rotate_left
        · (intro w hSw; go_simp; try with_reducible rfl)
        try simp only [Act.put, List.setIfInBounds_toArray, List.set_cons_zero, List.set_cons_succ]
        refine wpAnyH_ready (rs := [25]) (by kernel_rfl) (by simp) ?_
        refine AllReadyH.cons (o := ⟨(some 128), .makeSlice 24 (.tmp 127) (.tmp 127), 24, "law.go:260", #[⟨24, .data⟩, ⟨24, .data⟩, ⟨20, .guard⟩], (some (20, false))⟩) rfl (fun K hK => ?_) AllReadyH.nil
        go_simp
        refine hK.out _ _ (Ext.drew (Ext.alloc (Ext.rfl_ w6) _)) (fun hHeld => ?_)
        clear hK K
        try simp only [Act.put, List.setIfInBounds_toArray, List.set_cons_zero, List.set_cons_succ]
        refine wpAnyH_ready (rs := [26]) (by kernel_rfl) (by simp) ?_
        refine AllReadyH.cons (o := ⟨(some 129), .convert 24 9 (.tmp 128), 9, "law.go:260", #[⟨25, .data⟩, ⟨20, .guard⟩], (some (20, false))⟩) rfl (fun K hK => ?_) AllReadyH.nil
        go_simp
        refine hK.out _ _ (Ext.drew (Ext.alloc (Ext.rfl_ w6) _)) (fun hHeld => ?_)
        clear hK K
        try simp only [Act.put, List.setIfInBounds_toArray, List.set_cons_zero, List.set_cons_succ]
        refine wpAnyH_take (i := 27) (oi := ⟨(some 130), .binOp .neq 9 (.tmp 125) (.tmp 129) 9, 4, "law.go:260", #[⟨22, .data⟩, ⟨26, .data⟩, ⟨20, .guard⟩], (some (20, false))⟩) (v := ?_) rfl (by kernel_rfl) (by kernel_rfl) (by kernel_rfl) (fun _ _ _ h => h) (Or.inl ⟨by rfl, ?_⟩) (by assumption) ?_
        rotate_left
        · (intro w hSw; go_simp; try with_reducible rfl)
        try simp only [Act.put, List.setIfInBounds_toArray, List.set_cons_zero, List.set_cons_succ]
        refine wpAnyH_take (i := 28) (oi := ⟨(some 131), .pick (.tmp 123) (.const (.bool true)) (.tmp 130), 4, "law.go:260", #[⟨20, .data⟩, ⟨27, .data⟩], none⟩) (v := ?_) rfl (by kernel_rfl) (by kernel_rfl) (by kernel_rfl) (fun _ _ _ h => h) (Or.inl ⟨by rfl, ?_⟩) (by assumption) ?_
        rotate_left
        · (intro w hSw; go_simp; try with_reducible rfl)
        try simp only [Act.put, List.setIfInBounds_toArray, List.set_cons_zero, List.set_cons_succ]
        refine wpAnyH_take (i := 29) (oi := ⟨(some 132), .move (.tmp 131), 4, "law.go:260", #[⟨28, .data⟩, ⟨20, .chain⟩], none⟩) (v := ?_) rfl (by kernel_rfl) (by kernel_rfl) (by kernel_rfl) (fun _ _ _ h => h) (Or.inl ⟨by rfl, ?_⟩) (by assumption) ?_
        rotate_left
        · (intro w hSw; go_simp; try with_reducible rfl)
        try simp only [Act.put, List.setIfInBounds_toArray, List.set_cons_zero, List.set_cons_succ]
        refine wpAnyH_take (i := 30) (oi := ⟨(some 133), .move (.tmp 20), 24, "law.go:260", #[⟨29, .guard⟩], (some (29, false))⟩) (v := ?_) rfl (by kernel_rfl) (by kernel_rfl) (by kernel_rfl) (fun _ _ _ h => h) (Or.inl ⟨by rfl, ?_⟩) (by assumption) ?_
        rotate_left
        · (intro w hSw; go_simp; try with_reducible rfl)
        try simp only [Act.put, List.setIfInBounds_toArray, List.set_cons_zero, List.set_cons_succ]
        refine wpAnyH_take (i := 31) (oi := ⟨(some 134), .convert 24 9 (.tmp 133), 9, "law.go:260", #[⟨30, .data⟩, ⟨29, .guard⟩], (some (29, false))⟩) (v := ?_) rfl (by kernel_rfl) (by kernel_rfl) (by kernel_rfl) (fun _ _ _ h => h) (Or.inl ⟨by rfl, ?_⟩) (by assumption) ?_
        rotate_left
        · (intro w hSw; go_simp; try with_reducible rfl)
        try simp only [Act.put, List.setIfInBounds_toArray, List.set_cons_zero, List.set_cons_succ]
        refine wpAnyH_take (i := 32) (oi := ⟨(some 135), .move (.tmp 2), 24, "law.go:260", #[⟨29, .guard⟩], (some (29, false))⟩) (v := ?_) rfl (by kernel_rfl) (by kernel_rfl) (by kernel_rfl) (fun _ _ _ h => h) (Or.inl ⟨by rfl, ?_⟩) (by assumption) ?_
        rotate_left
        · (intro w hSw; go_simp; try with_reducible rfl)
        try simp only [Act.put, List.setIfInBounds_toArray, List.set_cons_zero, List.set_cons_succ]
        refine wpAnyH_take (i := 33) (oi := ⟨(some 136), .move (.tmp 16), 23, "law.go:260", #[⟨29, .guard⟩], (some (29, false))⟩) (v := ?_) rfl (by kernel_rfl) (by kernel_rfl) (by kernel_rfl) (fun _ _ _ h => h) (Or.inl ⟨by rfl, ?_⟩) (by assumption) ?_
        rotate_left
        · (intro w hSw; go_simp; try with_reducible rfl)
        try simp only [Act.put, List.setIfInBounds_toArray, List.set_cons_zero, List.set_cons_succ]
        refine wpAnyH_take (i := 34) (oi := ⟨(some 137), .convert 23 3 (.tmp 136), 3, "law.go:260", #[⟨33, .data⟩, ⟨29, .guard⟩], (some (29, false))⟩) (v := ?_) rfl (by kernel_rfl) (by kernel_rfl) (by kernel_rfl) (fun _ _ _ h => h) (Or.inl ⟨by rfl, ?_⟩) (by assumption) ?_
        rotate_left
        · (intro w hSw; go_simp; try with_reducible rfl)
        try simp only [Act.put, List.setIfInBounds_toArray, List.set_cons_zero, List.set_cons_succ]
        refine wpAnyH_take (i := 35) (oi := ⟨(some 138), .slice 24 (.tmp 135) none (some (.tmp 137)) none, 24, "law.go:260", #[⟨32, .data⟩, ⟨34, .data⟩, ⟨29, .guard⟩], (some (29, false))⟩) (v := ?_) rfl (by kernel_rfl) (by kernel_rfl) (by kernel_rfl) (fun _ _ _ h => h) (Or.inl ⟨by rfl, ?_⟩) (by assumption) ?_
        rotate_left
        · (intro w hSw; go_simp; try with_reducible rfl)
        try simp only [Act.put, List.setIfInBounds_toArray, List.set_cons_zero, List.set_cons_succ]
        refine wpAnyH_take (i := 36) (oi := ⟨(some 139), .convert 24 9 (.tmp 138), 9, "law.go:260", #[⟨35, .data⟩, ⟨29, .guard⟩], (some (29, false))⟩) (v := ?_) rfl (by kernel_rfl) (by kernel_rfl) (by kernel_rfl) (fun _ _ _ h => h) (Or.inl ⟨by rfl, ?_⟩) (by assumption) ?_
        rotate_left
        · (intro w hSw; go_simp; try with_reducible rfl)
        try simp only [Act.put, List.setIfInBounds_toArray, List.set_cons_zero, List.set_cons_succ]
        refine wpAnyH_take (i := 37) (oi := ⟨(some 140), .binOp .neq 9 (.tmp 134) (.tmp 139) 9, 4, "law.go:260", #[⟨31, .data⟩, ⟨36, .data⟩, ⟨29, .guard⟩], (some (29, false))⟩) (v := ?_) rfl (by kernel_rfl) (by kernel_rfl) (by kernel_rfl) (fun _ _ _ h => h) (Or.inl ⟨by rfl, ?_⟩) (by assumption) ?_
        rotate_left
        · (intro w hSw; go_simp; try with_reducible rfl)
        try simp only [Act.put, List.setIfInBounds_toArray, List.set_cons_zero, List.set_cons_succ]
        refine wpAnyH_take (i := 38) (oi := ⟨(some 141), .pick (.tmp 132) (.const (.bool true)) (.tmp 140), 4, "law.go:260", #[⟨29, .data⟩, ⟨37, .data⟩], none⟩) (v := ?_) rfl (by kernel_rfl) (by kernel_rfl) (by kernel_rfl) (fun _ _ _ h => h) (Or.inl ⟨by rfl, ?_⟩) (by assumption) ?_
        rotate_left
        · (intro w hSw; go_simp; try with_reducible rfl)
        try simp only [Act.put, List.setIfInBounds_toArray, List.set_cons_zero, List.set_cons_succ]
        refine wpAnyH_take (i := 39) (oi := ⟨(some 142), .move (.tmp 141), 4, "law.go:260", #[⟨38, .data⟩, ⟨29, .chain⟩], none⟩) (v := ?_) rfl (by kernel_rfl) (by kernel_rfl) (by kernel_rfl) (fun _ _ _ h => h) (Or.inl ⟨by rfl, ?_⟩) (by assumption) ?_
        rotate_left
        · (intro w hSw; go_simp; try with_reducible rfl)
        try simp only [Act.put, List.setIfInBounds_toArray, List.set_cons_zero, List.set_cons_succ]
        refine wpAnyH_take (i := 40) (oi := ⟨(some 143), .move (.tmp 8), 26, "law.go:260", #[⟨39, .guard⟩], (some (39, false))⟩) (v := ?_) rfl (by kernel_rfl) (by kernel_rfl) (by kernel_rfl) (fun _ _ _ h => h) (Or.inl ⟨by rfl, ?_⟩) (by assumption) ?_
        rotate_left
        · (intro w hSw; go_simp; try with_reducible rfl)
        try simp only [Act.put, List.setIfInBounds_toArray, List.set_cons_zero, List.set_cons_succ]
        refine wpAnyH_take (i := 41) (oi := ⟨(some 144), .move (.tmp 13), 23, "law.go:260", #[⟨39, .guard⟩], (some (39, false))⟩) (v := ?_) rfl (by kernel_rfl) (by kernel_rfl) (by kernel_rfl) (fun _ _ _ h => h) (Or.inl ⟨by rfl, ?_⟩) (by assumption) ?_
        rotate_left
        · (intro w hSw; go_simp; try with_reducible rfl)
        try simp only [Act.put, List.setIfInBounds_toArray, List.set_cons_zero, List.set_cons_succ]
        refine wpAnyH_take (i := 42) (oi := ⟨(some 145), .move (.tmp 0), 22, "law.go:260", #[⟨39, .guard⟩], (some (39, false))⟩) (v := ?_) rfl (by kernel_rfl) (by kernel_rfl) (by kernel_rfl) (fun _ _ _ h => h) (Or.inl ⟨by rfl, ?_⟩) (by assumption) ?_
        rotate_left
        · (intro w hSw; go_simp; try with_reducible rfl)
        try simp only [Act.put, List.setIfInBounds_toArray, List.set_cons_zero, List.set_cons_succ]
        refine wpAnyH_take (i := 43) (oi := ⟨(some 146), .move (.tmp 12), 3, "law.go:260", #[⟨39, .guard⟩], (some (39, false))⟩) (v := ?_) rfl (by kernel_rfl) (by kernel_rfl) (by kernel_rfl) (fun _ _ _ h => h) (Or.inl ⟨by rfl, ?_⟩) (by assumption) ?_
        rotate_left
        · (intro w hSw; go_simp; try with_reducible rfl)
        try simp only [Act.put, List.setIfInBounds_toArray, List.set_cons_zero, List.set_cons_succ]
        refine wpAnyH_take (i := 44) (oi := ⟨(some 147), .indexAddr 22 (.tmp 145) (.tmp 146), 0, "law.go:260", #[⟨42, .data⟩, ⟨43, .data⟩, ⟨39, .guard⟩], (some (39, false))⟩) (v := ?_) rfl (by kernel_rfl) (by kernel_rfl) (by kernel_rfl) (fun _ _ _ h => h) (Or.inl ⟨by rfl, ?_⟩) (by assumption) ?_
        rotate_left
        · (intro w hSw; go_simp; try with_reducible rfl)
        try simp only [Act.put, List.setIfInBounds_toArray, List.set_cons_zero, List.set_cons_succ]
        refine wpAnyH_take (i := 45) (oi := ⟨(some 148), .load 23 (.tmp 147), 23, "law.go:260", #[⟨44, .data⟩, ⟨39, .guard⟩], (some (39, false))⟩) (v := ?_) rfl (by kernel_rfl) (by kernel_rfl) (by kernel_rfl) (fun _ _ _ h => h) (Or.inl ⟨by rfl, ?_⟩) (by assumption) ?_
        rotate_left
        · (intro w hSw; go_simp; try with_reducible rfl)
        try simp only [Act.put, List.setIfInBounds_toArray, List.set_cons_zero, List.set_cons_succ]
        refine wpAnyH_ready (rs := [46]) (by kernel_rfl) (by simp) ?_
        refine AllReadyH.cons (o := ⟨(some 149), .buildSlice 24 1 #[(0, (.const (.int .u8 1)))], 24, "law.go:260", #[⟨39, .guard⟩], (some (39, false))⟩) rfl (fun K hK => ?_) AllReadyH.nil
        go_simp
        refine hK.out _ _ (Ext.drew (Ext.alloc (Ext.alloc (Ext.rfl_ w6) _) _)) (fun hHeld => ?_)
        clear hK K
        try simp only [Act.put, List.setIfInBounds_toArray, List.set_cons_zero, List.set_cons_succ]
        refine wpAnyH_ready (rs := [47]) (by kernel_rfl) (by simp) ?_
        refine AllReadyH.cons (o := ⟨(some 150), .call ⟨.value (.func 18), #[(.tmp 143), (.tmp 144), (.tmp 148), (.tmp 149)], #[26, 23, 23, 24]⟩, 28, "law.go:260", #[⟨40, .data⟩, ⟨41, .data⟩, ⟨45, .data⟩, ⟨46, .data⟩, ⟨39, .chain⟩, ⟨39, .guard⟩], (some (39, false))⟩) rfl (fun K hK => ?_) AllReadyH.nil
        go_simp
        refine (HWN.out _ (Ext.drew (Ext.alloc (Ext.alloc (Ext.rfl_ w6) _) _)) _ _).mono ?_
        rintro e w' ⟨rfl, rfl⟩
        refine hK.out _ _ (Ext.drew (Ext.alloc (Ext.alloc (Ext.rfl_ w6) _) _)) (fun hHeld => ?_)
        clear hK K
        try simp only [Act.put, List.setIfInBounds_toArray, List.set_cons_zero, List.set_cons_succ]
        refine wpAnyH_take (i := 48) (oi := ⟨(some 151), .binOp .neq 28 (.tmp 150) (.const (.int .i64 3)) 28, 4, "law.go:260", #[⟨47, .data⟩, ⟨39, .guard⟩], (some (39, false))⟩) (v := ?_) rfl (by kernel_rfl) (by kernel_rfl) (by kernel_rfl) (fun _ _ _ h => h) (Or.inl ⟨by rfl, ?_⟩) (by assumption) ?_
        rotate_left
        · (intro w hSw; go_simp; try with_reducible rfl)
        try simp only [Act.put, List.setIfInBounds_toArray, List.set_cons_zero, List.set_cons_succ]
        refine wpAnyH_take (i := 49) (oi := ⟨(some 152), .pick (.tmp 142) (.const (.bool true)) (.tmp 151), 4, "law.go:260", #[⟨39, .data⟩, ⟨48, .data⟩], none⟩) (v := ?_) rfl (by kernel_rfl) (by kernel_rfl) (by kernel_rfl) (fun _ _ _ h => h) (Or.inl ⟨by rfl, ?_⟩) (by assumption) ?_
        rotate_left
        · (intro w hSw; go_simp; try with_reducible rfl)
        try simp only [Act.put, List.setIfInBounds_toArray, List.set_cons_zero, List.set_cons_succ]
        refine wpAnyH_done (by kernel_rfl) ?_ _
        refine NoPanic.normal ?_
        have hQ7 : NAt w0.heap.size ((w6.alloc (.cells (rowB (fun _ => .int .u8 0) n) 5)).alloc (.cells #[.int .u8 1] 5)).drew (w0.heap.size + 2) w0.heap.size (w0.heap.size + 1) (.pointer none) oh E3 (putB Y oh p (bs.take n)) := HQ6.out.1.below (((Ext.rfl_ w6).alloc _).alloc _).drew
        have hB7 : Below w.heap.size w ((w6.alloc (.cells (rowB (fun _ => .int .u8 0) n) 5)).alloc (.cells #[.int .u8 1] 5)).drew := HQ6.out.2.2.2.trans (Below.mono (((Ext.rfl_ w6).alloc _).alloc _).drew HQ6.out.2.2.2.size)
        obtain ⟨w7, hw7⟩ : ∃ w7, ((w6.alloc (.cells (rowB (fun _ => .int .u8 0) n) 5)).alloc (.cells #[.int .u8 1] 5)).drew = w7 := ⟨_, rfl⟩
        rw [hw7] at hQ7 hB7 ⊢
        have hY7 : ∀ kv ∈ putB Y oh p (bs.take n), kv.1.o ≤ oh := putB_keys oh oh (Nat.le_refl _) _ _ _ (fun kv hkv => Nat.le_of_lt (Nat.lt_of_le_of_lt (hY kv hkv) hoh1))
        have hS7 := HQ6.out.2.1
        have hr7 := HQ6.out.2.2.1
        have HQ := Lib.hid (And.intro hQ7 (And.intro hS7 (And.intro hr7 (And.intro hB7 hY7))))
        have HRS := Lib.hid (reset_say hQ7 (by omega) hS7 4611686018427387905 hr7)
        clear hQ7 hB7 hY7 hS7 hr7 hw7 e1 e2 e3 hcx hcy hcb hcm hcz hmk HQ6 HWN hwr hwn2 hY
        by_cases h3 : (j : Int) % 3 = 2
        · have hb3 : ((j : Int) % 3 == 2) = true := by rw [beq_iff_eq]; exact h3
          clear h3
          go_wp2_with (go_at_call 19; refine HRS.out.mono ?_; rintro e w8 ⟨rfl, hE8, hB8⟩)
          go_roundw
          case rel =>
            obtain ⟨E8, hN8, hS8, hr8⟩ := hE8
            exact ⟨j + 1, oh, E8, _, by omega, by go_num, rfl, hN8, hS8, hr8, by omega, by omega, HQ.out.2.2.2.1.trans (hB8.mono hB0z), HQ.out.2.2.2.2⟩
          case measure => simp [intOf]; omega
        · have hb3 : ((j : Int) % 3 == 2) = false := by rw [beq_eq_false_iff_ne]; exact h3
          clear h3
          go_wp2
          go_roundw
          case rel => exact ⟨j + 1, oh, E3, _, by omega, by go_num, rfl, HQ.out.1, HQ.out.2.1, HQ.out.2.2.1, by omega, by omega, HQ.out.2.2.2.1, HQ.out.2.2.2.2⟩
          case measure => simp [intOf]; omega
    · obtain rfl : j = zs.length := by omega
      clear hN hS hr hY
      go_wp2
      go_ret
      exact ⟨rfl, hB⟩
end Go.Proofs.Ytgdmpblodgofgaa
