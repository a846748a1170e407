/- steadinglaw20.NaiveFresh: for every slice of sizes, every place and every slice of bytes the law answers true, and its arguments read as they did. No condition. -/
import Derived.Test.YtgdmpblodgofgaaNFr
import Derived.Test.YtgdmpblodgofgaaLift
namespace Go.Proofs.Ytgdmpblodgofgaa
open Go.ChangeShapes Go.WideShapes Go.ChangeAt Go.RowKit

theorem own_knob : ownKnob Try.prog.godebug = none := by kernel_rfl
theorem laid_out : laidOutB Try.prog = true := by kernel_rfl
theorem cells_u64 : Try.prog.cellsOf 23 = 1 := by kernel_rfl
theorem cells_u8 : Try.prog.cellsOf 5 = 1 := by kernel_rfl

set_option maxRecDepth 100000 in
theorem naiveFresh_lifted (os : Os) (started : os.Started) (H : Type) (enc : TypeId × Value → H) :
    ReturnsInHanded {} Try.checked os 3 .any (Rows.naiveFreshSpec.pre6 enc Try.prog Try.f3 Rows.naiveFreshRow.domain false) (Rows.naiveFreshSpec.post enc Try.prog Try.f3 false true false false) := by
  refine returnsInHanded_of_change (C := Try.checked) own_knob started (by kernel_rfl) Try.func3
    (ChangeSpec.witness6 (enc := enc) (C := Try.checked) false ⟨#[], #[.slice none 0 0, .int .u64 0, .slice none 0 0], []⟩ 8 (by kernel_rfl) (by kernel_rfl) (by kernel_rfl) (by kernel_rfl)) ?_
  intro W base args ds gs before hval0 hW hcnd _
  have hval : ∀ (j : Nat) t v, Try.f3.params[j]? = some t → args[j]? = some v → Value.okWide Try.prog W .any base t v := hval0
  have hW' := hW
  obtain ⟨p, q, hA0, hV, rfl, hfz, hnd⟩ := hW
  have hA : DataW.TrodAll enc Try.prog W 0 (fun _ => true) true Try.f3.params.toList args.toList ds p := hA0
  rw [Try.params3] at hA hval
  obtain ⟨v0, v1, v2, d0, d1, d2, p0, p1, p2, rfl, rfl, rfl, h0, h1, h2⟩ := trodAll_three hA
  obtain ⟨rfl, rfl⟩ := trodVars_none hV
  obtain ⟨a0, len0, cap0, rfl⟩ := okWide_slice Try.underlying22 (hval 0 22 v0 rfl rfl)
  obtain ⟨x, rfl, rfl, rfl, wx⟩ := open_int Try.underlying23 (hval 1 23 v1 rfl rfl) h1
  obtain ⟨a2, len2, cap2, rfl⟩ := okWide_slice Try.underlying24 (hval 2 24 v2 rfl rfl)
  clear hA0 hval0
  simp only [List.append_nil] at hW'
  obtain ⟨zs, rfl, hc0, hm0, hz, hr0⟩ := arg_nums Try.underlying22 Try.underlying23 cells_u64 (fun n h => (u64_pos n h).1) h0
  obtain ⟨bs, rfl, hc2, hm2, _, hr2⟩ := arg_nums Try.underlying24 Try.underlying5 cells_u8 (fun n h => (u8_pos n h).1) h2
  obtain ⟨at_, rfl⟩ := Int.eq_ofNat_of_zero_le (u64_pos x wx).1
  have hx := (u64_pos _ wx).2
  have hlt : ∀ y ∈ p0 ++ p2, y.block < W.heap.size := fun y hy => by simpa using hW'.lt y hy
  have hcall : Calls Try.prog 3 #[.slice a0 zs.length cap0, .int .u64 (at_ : Int), .slice a2 bs.length cap2] W fun e w' => e = .returned (.bool true) ∧ Below W.heap.size W w' := by
    unfold maxLen at hm0 hm2
    by_cases hl : zs.length ≤ 20 ∧ bs.length ≤ 100
    · exact fresh_short W a0 a2 zs bs cap0 cap2 at_ (by omega) hl.1 hl.2 (fun z h => by have := (u64_pos _ (hz z h)).2; omega) hr0 hr2 hc2
    · exact fresh_long W a0 a2 _ cap0 _ cap2 _ (by omega) (by omega) (by omega)
  refine hcall.mono fun e W' ⟨he, hbel⟩ => ?_
  subst he
  refine ⟨_, rfl, law_post (P := Try.prog) (pa := p0 ++ p2) hW' rfl rfl rfl rfl rfl Try.underlying4 rfl hbel fun sp hsp => ?_⟩
  have hst : ∀ {t : TypeId} {v : Value} {d : DataW H} {ps : List MemPlace}, Try.prog.readableRec t = true → t < Try.prog.types.size → DataW.Trod enc Try.prog W 0 (fun _ => true) true t v d ps → (∀ y ∈ ps, y ∈ p0 ++ p2) → DataW.Trod enc Try.prog W' 0 sp true t v d ps :=
    fun hr hrow h hin => WideElems.Trod_stays laid_out hr hrow h (fun y hy => hbel.same (hlt y (hin y hy))) (fun y hy => hsp y (hin y hy))
  have := trodAll_mk3 (hst (by kernel_rfl) (of_decide_eq_true (by kernel_rfl)) h0 (by simp +contextual)) (hst (by kernel_rfl) (of_decide_eq_true (by kernel_rfl)) h1 (by simp +contextual)) (hst (by kernel_rfl) (of_decide_eq_true (by kernel_rfl)) h2 (by simp +contextual))
  have fin : DataW.TrodAll enc Try.prog W' 0 sp true Try.f3.params.toList #[.slice a0 zs.length cap0, .int .u64 (at_ : Int), .slice a2 bs.length cap2].toList [d0, .lit (.int .u64 (at_ : Int)), d2] (p0 ++ p2) := by
    rw [Try.params3]
    simpa using this
  exact fin

theorem naiveFresh_holds : Rows.NaiveFreshSaid :=
  OpenClaim.holds_of_wide 3 Try.f3 rfl rfl rfl rfl rfl rfl rfl ⟨rfl, rfl, rfl, rfl, rfl⟩ rfl rfl rfl rfl rfl (by kernel_rfl) Try.func3 (by kernel_rfl)
    (of_decide_eq_true (by kernel_rfl)) (by unfold Func.isWrapper; first | (rw [if_pos (by decide +kernel)]; kernel_rfl) | (rw [if_neg (by decide +kernel)]; exact ⟨rfl, rfl⟩))
    (fun os started H enc _ => naiveFresh_lifted os started H enc)
#print axioms naiveFresh_holds
end Go.Proofs.Ytgdmpblodgofgaa
