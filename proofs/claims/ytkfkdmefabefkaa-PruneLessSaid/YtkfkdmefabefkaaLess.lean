/- antecedelaw49.PruneLess returns true whatever the input, and the input reads as it did. No condition. -/
import Derived.Test.YtkfkdmefabefkaaRows
import Derived.Test.YtkfkdmefabefkaaWLs
import Derived.Test.YtkfkdmefabefkaaWRt
namespace Go.Proofs.Ytkfkdmefabefkaa
open Go.ChangeShapes Go.WideShapes Go.ChangeAt Go.RowKit Go.AL
theorem Try.own : ownKnob Try.prog.godebug = none := by kernel_rfl
theorem Try.laidOut : laidOutB Try.prog = true := by kernel_rfl
set_option maxRecDepth 100000 in
theorem pruneLess_lifted (os : Os) (started : os.Started) (H : Type) (enc : TypeId × Value → H) :
    ReturnsInHanded {} Try.checked os 4 .any (Rows.pruneLessSpec.pre6 enc Try.prog Try.f4 Rows.pruneLessRow.domain false) (Rows.pruneLessSpec.post enc Try.prog Try.f4 false Rows.pruneLessRow.fresh Rows.pruneLessRow.handsOn Rows.pruneLessRow.again) := by
  refine returnsInHanded_of_change (C := Try.checked) Try.own started (by kernel_rfl) Try.func4
    (ChangeSpec.witness6 (enc := enc) (C := Try.checked) false ⟨#[], #[.agg #[.slice none 0 0], .slice none 0 0, .slice none 0 0], []⟩ 8 (by kernel_rfl) (by kernel_rfl) (by kernel_rfl) (by kernel_rfl)) ?_
  intro W base args ds gs before hval0 hW hcnd _
  have hval : ∀ (j : Nat) t v, Try.f4.params[j]? = some t → args[j]? = some v → Value.okWide Try.prog W .any base t v := hval0
  have hW' := hW
  obtain ⟨p, q, hA0, hV, rfl, hfz, hnd⟩ := hW
  have hA : DataW.TrodAll enc Try.prog W 0 (fun _ => true) true Try.f4.params.toList args.toList ds p := hA0
  rw [Try.params4] at hA hval
  obtain ⟨v0, v1, v2, d0, d1, d2, p0, p1, p2, rfl, rfl, rfl, h0, h1, h2⟩ := trodAll_three hA
  obtain ⟨rfl, rfl⟩ := trodVars_none hV
  obtain ⟨a0, c0, r0⟩ := rdTr.agg (fun _ => rfl) (okWide_agg Try.underlying38 (hval 0 38 v0 rfl rfl)) h0
  obtain ⟨a1, c1, r1⟩ := rdInts.one (fun _ => rfl) (okWide_cells Try.underlying25 (hval 1 25 v1 rfl rfl)) h1
  obtain ⟨a2, c2, r2⟩ := rdInts.one (fun _ => rfl) (okWide_cells Try.underlying25 (hval 2 25 v2 rfl rfl)) h2
  refine ((law49_PruneLess a0 a1 a2).calls (W := W) (vs := [v0, v1, v2]) ⟨rfl, fun i a u g1 g2 => ?_⟩).mono fun e W' ⟨he, hb⟩ => ?_
  · rcases i with _ | _ | _ | i
    · cases g1; cases g2; exact r0
    · cases g1; cases g2; exact r1
    · cases g1; cases g2; exact r2
    · simp at g2
  · subst he
    exact ⟨_, rfl, post_true Try.laidOut hW' rfl rfl (by kernel_rfl) Try.underlying4 (by rw [Try.params4]; intro t ht; simp only [List.mem_cons, List.not_mem_nil, or_false] at ht; rcases ht with rfl | rfl | rfl <;> exact ⟨by kernel_rfl, of_decide_eq_true (by kernel_rfl)⟩) hb⟩
theorem pruneLess_holds : Rows.PruneLessSaid :=
  OpenClaim.holds_of_wide 4 Try.f4 rfl rfl rfl rfl rfl rfl rfl ⟨rfl, rfl, rfl, rfl, rfl⟩ rfl rfl rfl rfl rfl (by kernel_rfl) Try.func4 (by kernel_rfl)
    (of_decide_eq_true (by kernel_rfl)) (by unfold Func.isWrapper; rw [if_neg (by decide +kernel)]; exact ⟨rfl, rfl⟩)
    (fun os started H enc _ => pruneLess_lifted os started H enc)
end Go.Proofs.Ytkfkdmefabefkaa
