/- From a law's walk to its row: slices of whole numbers that come in, as lists; what is asked behind a call that only makes new blocks. -/
import Derived.Test.YtgdmpblodgofgaaBase
import Derived.ProofKit
namespace Go.Proofs.Ytgdmpblodgofgaa
open Go.ChangeShapes Go.WideShapes Go.RowKit

section
variable {H : Type} {enc : TypeId × Value → H} {P : Program}
/-- A slice of whole numbers that came in. -/
theorem arg_nums {W : World} {T e : TypeId} {k : IntKind} {a0 : Option Addr} {len cap : Nat} {d : DataW H} {ps : List MemPlace} (ht : P.underlying T = some (.slice e)) (he : P.underlying e = some (.int k)) (hc : P.cellsOf e = 1)
    (hk : ∀ n : Int, (Lit.int k n).wf = true → 0 ≤ n) (h : DataW.Trod enc P W 0 (fun _ => true) true T (.slice a0 len cap) d ps) :
    ∃ l : List Nat, l.length = len ∧ len ≤ cap ∧ cap ≤ maxLen ∧ (∀ x ∈ l, (Lit.int k (x : Int)).wf = true) ∧
      (l = [] ∨ ∃ b0 off, a0 = some ⟨b0, off, none⟩ ∧ ∀ (j : Nat) (hj : j < l.length), W.cell? ⟨b0, off + j, none⟩ = some (.int k (l[j] : Int))) := by
  obtain ⟨fuel, hf⟩ := h
  rcases open_ints ht he hc hf with ⟨h1, _⟩ | ⟨a, len', cap', zs, h1, _, hl, hm, hz, _, hcell, hw⟩
  · simp only [Value.cells, List.cons.injEq, Value.slice.injEq, and_true] at h1
    obtain ⟨rfl, rfl, rfl⟩ := h1
    exact ⟨[], rfl, Nat.le_refl _, Nat.zero_le _, by simp, .inl rfl⟩
  · simp only [Value.cells, List.cons.injEq, Value.slice.injEq, and_true] at h1
    obtain ⟨rfl, rfl, rfl⟩ := h1
    simp only [if_true] at hz
    refine ⟨(zs.take len).map Int.toNat, by simp; omega, hl, hm, ?_, ?_⟩
    · intro x hx
      obtain ⟨n, hn, rfl⟩ := List.mem_map.1 hx
      have hwn := hw n (List.mem_of_mem_take hn)
      rw [Int.toNat_of_nonneg (hk n hwn)]
      exact hwn
    · by_cases h0 : len = 0
      · left; simp [h0]
      · right
        obtain ⟨b0, off, s⟩ := a
        have c0 := hcell 0 (by omega)
        have hs : s = none := by
          unfold Addr.add at c0
          simp only [if_true] at c0
          unfold World.cell? at c0
          cases s with
          | none => rfl
          | some s =>
            simp at c0
            split at c0 <;> cases c0
        subst hs
        refine ⟨b0, off, rfl, fun j hj => ?_⟩
        have hj' : j < len := by simp at hj; omega
        have cj := hcell j (by omega)
        have ha : (⟨b0, off, none⟩ : Addr).add j = ⟨b0, off + j, none⟩ := by unfold Addr.add; split <;> simp_all
        rw [ha] at cj
        rw [cj]
        have hzj : zs.getD j 0 = zs[j]'(by omega) := by simp [List.getD, List.getElem?_eq_getElem (show j < zs.length by omega)]
        rw [hzj, List.getElem_map, List.getElem_take, Int.toNat_of_nonneg (hk _ (hw _ (List.getElem_mem _)))]

/-- What is asked behind a law's call that has only made new blocks: it was true, and each argument reads as it did. -/
theorem law_post {f : Func} {s : ChangeSpec} {T : TypeId} {apart fresh handsOn again : Bool} {W W' : World} {args : Array Value} {ds gs : List (DataW H)} {before pa : List MemPlace}
    (hW : DataW.Whole enc P f.params.toList s.vars apart W args.toList ds gs before) (hvar : s.vars = []) (hfv : (s.fn H (ds ++ gs)).vars = []) (hres : (s.fn H (ds ++ gs)).results = [.lit (.bool true)]) (hargs : (s.fn H (ds ++ gs)).args = ds)
    (hT : f.resultTypes = #[T]) (hb : P.underlying T = some .bool) (hps : before = pa) (hbel : Below W.heap.size W W')
    (hA : ∀ sp : Nat → Bool, (∀ p ∈ before, sp p.block = true) → DataW.TrodAll enc P W' 0 sp true f.params.toList args.toList ds pa) :
    s.post enc P f apart fresh handsOn again W args (.bool true) W' := by
  subst hps
  have hlt : ∀ p ∈ before, p.block < W.heap.size := fun p hp => hW.lt p hp
  have hres' : ∀ (b : Nat) (sp : Nat → Bool) (hd : Bool), DataW.TrodAll enc P W' b sp hd f.resultTypes.toList ((Value.bool true).resultList f.resultTypes.size) (s.fn H (ds ++ gs)).results [] := by
    intro b sp hd
    rw [hT, hres]
    exact trodAll_mk1 (shut_bool hb _)
  have hvars' : ∀ sp : Nat → Bool, DataW.TrodVars enc P W' sp s.vars (s.fn H (ds ++ gs)).vars [] := by
    intro sp
    rw [hvar, hfv]
    rfl
  have hargs' : ∀ sp : Nat → Bool, (∀ p ∈ before, sp p.block = true) → DataW.TrodAll enc P W' 0 sp true f.params.toList args.toList (s.fn H (ds ++ gs)).args before := fun sp h => by
    rw [hargs]; exact hA sp h
  have hsp : ∀ p ∈ before, (fun b => decide (b < W.heap.size)) p.block = true := fun p hp => by simpa using hlt p hp
  refine ⟨ds, gs, before, [], before, [], hW, hres' _ _ _, hargs' _ hsp, hvars' _, World.keptBut_mono (fun p hp => ⟨hp, .inr (.inl hp)⟩) (hbel.frame (· ∈ before)), fun _ => ?_⟩
  obtain ⟨_, _, _, _, _, hz, hn⟩ := hW
  refine ⟨ok_one hT rfl (okWide_bool_mk hb _), _, _, ([] ++ before) ++ [], ⟨[] ++ before, [], trodAll_append (hargs' _ (fun _ _ => rfl)) (hres' _ _ _), hvars' _, rfl, ?_, ?_⟩, ?_⟩
  · intro b off hp
    have hin : MemPlace.cell b off ∈ before := by simpa using hp
    rw [hbel.frozen (hlt _ hin)]
    exact hz b off hin
  · intro ha
    have := hn ha
    simpa using this
  · intro p hp _
    simpa using hp
end
theorem u8_pos (n : Int) (h : (Lit.int .u8 n).wf = true) : 0 ≤ n ∧ n < 256 := by
  have h1 : IntKind.u8.min = 0 := rfl
  have h2 : IntKind.u8.max = 255 := rfl
  simp only [Lit.wf, Bool.and_eq_true, decide_eq_true_eq] at h
  omega
theorem u64_pos (n : Int) (h : (Lit.int .u64 n).wf = true) : 0 ≤ n ∧ n < 18446744073709551616 := by
  have h1 : IntKind.u64.min = 0 := rfl
  have h2 : IntKind.u64.max = 18446744073709551615 := rfl
  simp only [Lit.wf, Bool.and_eq_true, decide_eq_true_eq] at h
  omega
end Go.Proofs.Ytgdmpblodgofgaa
