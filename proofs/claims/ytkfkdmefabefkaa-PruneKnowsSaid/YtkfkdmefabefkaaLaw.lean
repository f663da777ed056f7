/- antecedelaw49.PruneKnows returns true whatever the input, and the input reads as it did. No condition. -/
import Derived.Test.YtkfkdmefabefkaaRows
import Derived.Test.YtkfkdmefabefkaaWPk
import Derived.Test.YtkfkdmefabefkaaAlBr
namespace Go.AL
open Go Go.RowKit
theorem Rd.one {H : Type} {enc : TypeId × Value → H} {P : Program} {W : World} {t : TypeId} {α : Type} {E : α → AV} {ok : α → Prop} (h : Rd enc P W t 1 E ok) (h1 : ∀ y, (E y).cells = [E y]) {v : Value} {d : DataW H} {ps : List MemPlace} (hc : v.cells = #[v])
    (hd : DataW.Trod enc P W 0 (fun _ => true) true t v d ps) : ∃ y, ok y ∧ Rel W (fun b => b < W.heap.size) (E y) v := by
  obtain ⟨fuel, hf⟩ := hd
  rw [hc] at hf
  obtain ⟨y, k1, _, _, k4⟩ := h _ _ _ hf
  exact ⟨y, k1, k4 0 _ _ (by rw [h1]; rfl) rfl⟩
theorem okWide_cells {P : Program} {W : World} {r : Go.Reach} {b : Nat} {t e : TypeId} {v : Value} (ht : P.underlying t = some (.slice e)) (h : Value.okWide P W r b t v) : v.cells = #[v] := by
  cases v with
  | agg cs =>
    exfalso
    simp only [Value.okWide, ht, Cell.okWide, Cell.ok] at h
  | _ => rfl
end Go.AL
namespace Go.Proofs.Ytkfkdmefabefkaa
open Go.ChangeShapes Go.WideShapes Go.ChangeAt Go.RowKit Go.AL
theorem Try.own : ownKnob Try.prog.godebug = none := by kernel_rfl
theorem Try.laidOut : laidOutB Try.prog = true := by kernel_rfl
set_option maxRecDepth 100000 in
theorem knows_lifted (os : Os) (started : os.Started) (H : Type) (enc : TypeId × Value → H) :
    ReturnsInHanded {} Try.checked os 3 .any (Rows.pruneKnowsSpec.pre6 enc Try.prog Try.f3 Rows.pruneKnowsRow.domain false) (Rows.pruneKnowsSpec.post enc Try.prog Try.f3 false Rows.pruneKnowsRow.fresh Rows.pruneKnowsRow.handsOn Rows.pruneKnowsRow.again) := by
  refine returnsInHanded_of_change (C := Try.checked) Try.own started (by kernel_rfl) Try.func3
    (ChangeSpec.witness6 (enc := enc) (C := Try.checked) false ⟨#[], #[.slice none 0 0], []⟩ 8 (by kernel_rfl) (by kernel_rfl) (by kernel_rfl) (by kernel_rfl)) ?_
  intro W base args ds gs before hval0 hW hcnd _
  have hval : ∀ (j : Nat) t v, Try.f3.params[j]? = some t → args[j]? = some v → Value.okWide Try.prog W .any base t v := hval0
  have hW' := hW
  obtain ⟨p, q, hA0, hV, rfl, hfz, hnd⟩ := hW
  have hA : DataW.TrodAll enc Try.prog W 0 (fun _ => true) true Try.f3.params.toList args.toList ds p := hA0
  rw [Try.params3] at hA hval
  obtain ⟨v0, d0, rfl, rfl, h0⟩ := trodAll_one hA
  obtain ⟨rfl, rfl⟩ := trodVars_none hV
  have hrd := Rd.slice (enc := enc) (W := W) Try.underlying22 (by kernel_rfl : Try.prog.cellsOf 25 = 1) (by decide) (Rd.slice Try.underlying25 (by kernel_rfl : Try.prog.cellsOf 3 = 1) (by decide) (Rd.int Try.underlying3))
  obtain ⟨l, _, hrel⟩ := hrd.one (fun _ => rfl) (okWide_cells Try.underlying22 (hval 0 22 v0 rfl rfl)) h0
  refine ((law49_PruneKnows l).calls (W := W) (vs := [v0]) ⟨rfl, fun i a u h1 h2 => ?_⟩).mono fun e W' ⟨he, hb⟩ => ?_
  · cases i with
    | zero => cases h1; cases h2; exact hrel
    | succ i => cases h2
  · subst he
    exact ⟨_, rfl, post_true Try.laidOut hW' rfl rfl (by kernel_rfl) Try.underlying4 (by rw [Try.params3]; intro t ht; simp only [List.mem_cons, List.not_mem_nil, or_false] at ht; subst ht; exact ⟨by kernel_rfl, of_decide_eq_true (by kernel_rfl)⟩) hb⟩
theorem pruneKnows_holds : Rows.PruneKnowsSaid :=
  OpenClaim.holds_of_wide 3 Try.f3 rfl rfl rfl rfl rfl rfl rfl ⟨rfl, rfl, rfl, rfl, rfl⟩ rfl rfl rfl rfl rfl (by kernel_rfl) Try.func3 (by kernel_rfl)
    (of_decide_eq_true (by kernel_rfl)) (by unfold Func.isWrapper; rw [if_neg (by decide +kernel)]; exact ⟨rfl, rfl⟩)
    (fun os started H enc _ => knows_lifted os started H enc)
end Go.Proofs.Ytkfkdmefabefkaa
