/- antecedelaw24.RunCounts returns true whatever the input, and the input reads as it did. No condition. -/
import Derived.Test.YtmnabhohlflkkaaGreatRows
import Derived.Test.YtmnabhohlflkkaaGreatM18
import Derived.Test.YtmnabhohlflkkaaGreatM13
import Derived.Test.YtmnabhohlflkkaaGreatM7
namespace Go.Proofs.YtmnabhohlflkkaaGreat
open Go.ChangeShapes Go.WideShapes Go.ChangeAt Go.RowKit Go.AL
theorem Tryz.own : ownKnob Tryz.prog.godebug = none := by kernel_rfl
theorem Tryz.laidOut : laidOutB Tryz.prog = true := by kernel_rfl
set_option maxRecDepth 100000 in
theorem runCounts_lifted (os : Os) (started : os.Started) (H : Type) (enc : TypeId × Value → H) :
    ReturnsInHanded {} Tryz.checked os 3 .any (Rows.runCountsSpec.pre6 enc Tryz.prog Tryz.f3 Rows.runCountsRow.domain false) (Rows.runCountsSpec.post enc Tryz.prog Tryz.f3 false Rows.runCountsRow.fresh Rows.runCountsRow.handsOn Rows.runCountsRow.again) := by
  refine returnsInHanded_of_change (C := Tryz.checked) Tryz.own started (by kernel_rfl) Tryz.func3
    (ChangeSpec.witness6 (enc := enc) (C := Tryz.checked) false ⟨#[], #[.agg #[.slice none 0 0]], []⟩ 8 (by kernel_rfl) (by kernel_rfl) (by kernel_rfl) (by kernel_rfl)) ?_
  intro W base args ds gs before hval0 hW hcnd _
  have hval : ∀ (j : Nat) t v, Tryz.f3.params[j]? = some t → args[j]? = some v → Value.okWide Tryz.prog W .any base t v := hval0
  have hW' := hW
  obtain ⟨p, q, hA0, hV, rfl, hfz, hnd⟩ := hW
  have hA : DataW.TrodAll enc Tryz.prog W 0 (fun _ => true) true Tryz.f3.params.toList args.toList ds p := hA0
  rw [Tryz.params3] at hA hval
  obtain ⟨v0, d0, rfl, rfl, h0⟩ := trodAll_one hA
  obtain ⟨rfl, rfl⟩ := trodVars_none hV
  obtain ⟨a0, c0, r0⟩ := rdTrM.agg (fun _ => rfl) (okWide_agg Tryz.underlying24 (hval 0 24 v0 rfl rfl)) h0
  refine ((law24_RunCounts a0 c0.2).calls (W := W) (vs := [v0]) (fun g x h => by cases h) ⟨rfl, fun i a u g1 g2 => ?_⟩).mono fun e W' ⟨he, hb⟩ => ?_
  · rcases i with _ | i
    · cases g1; cases g2; exact r0
    · simp at g2
  · subst he
    exact ⟨_, rfl, post_true Tryz.laidOut hW' rfl rfl (by kernel_rfl) Tryz.underlying4 (by rw [Tryz.params3]; intro t ht; simp only [List.mem_cons, List.not_mem_nil, or_false] at ht; rcases ht with rfl <;> exact ⟨by kernel_rfl, of_decide_eq_true (by kernel_rfl)⟩) hb⟩
theorem runCounts_holds : Rows.RunCountsSaid :=
  OpenClaim.holds_of_wide 3 Tryz.f3 rfl rfl rfl rfl rfl rfl rfl ⟨rfl, rfl, rfl, rfl, rfl⟩ rfl rfl rfl rfl rfl (by kernel_rfl) Tryz.func3 (by kernel_rfl)
    (of_decide_eq_true (by kernel_rfl)) (by unfold Func.isWrapper; rw [if_neg (by decide +kernel)]; exact ⟨rfl, rfl⟩)
    (fun os started H enc _ => runCounts_lifted os started H enc)
end Go.Proofs.YtmnabhohlflkkaaGreat
