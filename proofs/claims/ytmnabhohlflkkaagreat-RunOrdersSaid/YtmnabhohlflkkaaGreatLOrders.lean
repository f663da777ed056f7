/- antecedelaw24.RunOrders returns true whatever the input, and the input reads as it did. No condition. -/
import Derived.Test.YtmnabhohlflkkaaGreatRows
import Derived.Test.YtmnabhohlflkkaaGreatM15
import Derived.Test.YtmnabhohlflkkaaGreatM7
namespace Go.Proofs.YtmnabhohlflkkaaGreat
open Go.ChangeShapes Go.WideShapes Go.ChangeAt Go.RowKit Go.AL
theorem Tryz.own : ownKnob Tryz.prog.godebug = none := by kernel_rfl
theorem Tryz.laidOut : laidOutB Tryz.prog = true := by kernel_rfl
set_option maxRecDepth 100000 in
theorem runOrders_lifted (os : Os) (started : os.Started) (H : Type) (enc : TypeId × Value → H) :
    ReturnsInHanded {} Tryz.checked os 8 .any (Rows.runOrdersSpec.pre6 enc Tryz.prog Tryz.f8 Rows.runOrdersRow.domain false) (Rows.runOrdersSpec.post enc Tryz.prog Tryz.f8 false Rows.runOrdersRow.fresh Rows.runOrdersRow.handsOn Rows.runOrdersRow.again) := by
  refine returnsInHanded_of_change (C := Tryz.checked) Tryz.own started (by kernel_rfl) Tryz.func8
    (ChangeSpec.witness6 (enc := enc) (C := Tryz.checked) false ⟨#[], #[.agg #[.slice none 0 0], .slice none 0 0, .int .u8 0], []⟩ 8 (by kernel_rfl) (by kernel_rfl) (by kernel_rfl) (by kernel_rfl)) ?_
  intro W base args ds gs before hval0 hW hcnd _
  have hval : ∀ (j : Nat) t v, Tryz.f8.params[j]? = some t → args[j]? = some v → Value.okWide Tryz.prog W .any base t v := hval0
  have hW' := hW
  obtain ⟨p, q, hA0, hV, rfl, hfz, hnd⟩ := hW
  have hA : DataW.TrodAll enc Tryz.prog W 0 (fun _ => true) true Tryz.f8.params.toList args.toList ds p := hA0
  rw [Tryz.params8] at hA hval
  obtain ⟨v0, v1, v2, d0, d1, d2, p0, p1, p2, rfl, rfl, rfl, h0, h1, h2⟩ := trodAll_three hA
  obtain ⟨rfl, rfl⟩ := trodVars_none hV
  obtain ⟨a0, c0, r0⟩ := rdTrM.agg (fun _ => rfl) (okWide_agg Tryz.underlying24 (hval 0 24 v0 rfl rfl)) h0
  obtain ⟨a1, c1, r1⟩ := rdInts.one (fun _ => rfl) (okWide_cells Tryz.underlying42 (hval 1 42 v1 rfl rfl)) h1
  obtain ⟨a2, c2, r2⟩ := rdU8.one (fun _ => rfl) (by obtain ⟨n, rfl⟩ := okWide_int Tryz.underlying5 (hval 2 5 v2 rfl rfl); rfl) h2
  refine ((law24_RunOrders a0 a1 a2 c0.2 c2).calls (W := W) (vs := [v0, v1, v2]) (fun g x h => by cases h) ⟨rfl, fun i a u g1 g2 => ?_⟩).mono fun e W' ⟨he, hb⟩ => ?_
  · rcases i with _ | _ | _ | i
    · cases g1; cases g2; exact r0
    · cases g1; cases g2; exact r1
    · cases g1; cases g2; exact r2
    · simp at g2
  · subst he
    exact ⟨_, rfl, post_true Tryz.laidOut hW' rfl rfl (by kernel_rfl) Tryz.underlying4 (by rw [Tryz.params8]; intro t ht; simp only [List.mem_cons, List.not_mem_nil, or_false] at ht; rcases ht with rfl | rfl | rfl <;> exact ⟨by kernel_rfl, of_decide_eq_true (by kernel_rfl)⟩) hb⟩
theorem runOrders_holds : Rows.RunOrdersSaid :=
  OpenClaim.holds_of_wide 8 Tryz.f8 rfl rfl rfl rfl rfl rfl rfl ⟨rfl, rfl, rfl, rfl, rfl⟩ rfl rfl rfl rfl rfl (by kernel_rfl) Tryz.func8 (by kernel_rfl)
    (of_decide_eq_true (by kernel_rfl)) (by unfold Func.isWrapper; rw [if_neg (by decide +kernel)]; exact ⟨rfl, rfl⟩)
    (fun os started H enc _ => runOrders_lifted os started H enc)
end Go.Proofs.YtmnabhohlflkkaaGreat
