/- antecedelaw49.PruneTruths returns true whatever the input, and the input reads as it did. No condition. -/
import Derived.Test.YtkfkdmefabefkaaGreatDoorRows
import Derived.Test.YtkfkdmefabefkaaGreatDoorM13
import Derived.Test.YtkfkdmefabefkaaGreatDoorCards
import Derived.Test.YtkfkdmefabefkaaGreatDoorTie
import Derived.SevenTiedAt
namespace Go.Proofs.YtkfkdmefabefkaaGreatDoor
open Go.ChangeShapes Go.WideShapes Go.ChangeAt Go.RowKit Go.AL
theorem Tryz.own : ownKnob Tryz.prog.godebug = none := by kernel_rfl
theorem Tryz.laidOut : laidOutB Tryz.prog = true := by kernel_rfl
/-- The settled world, the table holding what its initialiser lays: the witness. -/
def partsZ : List Int := [-1, 0, 0, 0, 0, 1, 2, 2, 2, 2, 2, 2, 2, 0, 0, 1, 2, 2, 1, 1, 1, 1]
noncomputable def laidWorld (os : Os) : World :=
  { World.holding Tryz.prog os ⟨#[], #[], []⟩ with heap := (World.holding Tryz.prog os ⟨#[], #[], []⟩).heap.modify 0 fun
      | .cells _ t frozen => .cells (partsZ.map fun z => Value.int .i64 z).toArray t frozen
      | o => o }
theorem laid_met (os : Os) (args : Array Value) : laidMet Tryz.prog Rows.pruneTruthsRow.laid ((laidWorld os).forCall (fun _ _ => 0) ⟨#[], args, []⟩).memory :=
  laidMet_of_run' 8 (by kernel_rfl) (by kernel_rfl)
theorem laid_gv {W : World} (hL : laidMet Tryz.prog Rows.pruneTruthsRow.laid W) : ∀ g x, GV g = some x → Rel W (fun b => b < W.heap.size) x (.pointer (some ⟨g, 0, none⟩)) := by
  intro g x h
  unfold GV at h
  split at h
  · rename_i e
    cases h; subst e
    exact Rel.tab (zs := partsZ) (Lib.tabIs_of_head (g := 0) (k := .i64) (zs := partsZ) (name := "antecede/predtype.parts") (by kernel_rfl) (by kernel_rfl) Tryz.underlying217 Tryz.underlying3 (by kernel_rfl) (by kernel_rfl) hL) (by kernel_rfl) (by decide)
  · cases h
set_option maxRecDepth 100000 in
theorem pruneTruths_lifted (os : Os) (started : os.Started) (H : Type) (enc : TypeId × Value → H) :
    ReturnsInHanded {} Tryz.checked os 4 .any (fun w args => (Rows.pruneTruthsSpec.pre enc Tryz.prog Tryz.f4 Rows.pruneTruthsRow.domain false w args ∧ laidMet Tryz.prog Rows.pruneTruthsRow.laid w) ∧ sizedMet enc Tryz.prog Tryz.f4 (OpenSpec.ofChange Rows.pruneTruthsSpec) false w args)
      (Rows.pruneTruthsSpec.post enc Tryz.prog Tryz.f4 false Rows.pruneTruthsRow.fresh Rows.pruneTruthsRow.handsOn Rows.pruneTruthsRow.again) := by
  refine returnsInHanded_of_change_and (C := Tryz.checked) (X := fun w _ => laidMet Tryz.prog Rows.pruneTruthsRow.laid w) (fun _ _ _ hh h => h.of_heap hh) Tryz.own started (by kernel_rfl) Tryz.func4
    (ChangeSpec.witness_at (enc := enc) (C := Tryz.checked) (os := os) (X := fun w _ => laidMet Tryz.prog Rows.pruneTruthsRow.laid w) false (laidWorld os) #[.agg #[.slice none 0 0], .slice none 0 0, .slice none 0 0, .agg #[.int .i64 0, .int .i64 0, .int .i64 0, .int .i64 0, .string ByteArray.empty, .slice none 0 0]] 8 rfl (by kernel_rfl) (by kernel_rfl) (by kernel_rfl) (by kernel_rfl) (by kernel_rfl) (laid_met os _)) ?_
  intro W base args ds gs before hval0 hW _ _ hL _
  have hval : ∀ (j : Nat) t v, Tryz.f4.params[j]? = some t → args[j]? = some v → Value.okWide Tryz.prog W .any base t v := hval0
  have hW' := hW
  obtain ⟨p, q, hA0, hV, rfl, hfz, hnd⟩ := hW
  have hA : DataW.TrodAll enc Tryz.prog W 0 (fun _ => true) true Tryz.f4.params.toList args.toList ds p := hA0
  rw [Tryz.params4] at hA hval
  obtain ⟨v0, v1, v2, v3, d0, d1, d2, d3, p0, p1, p2, p3, rfl, rfl, rfl, h0, h1, h2, h3⟩ := trodAll_four hA
  obtain ⟨rfl, rfl⟩ := trodVars_none hV
  obtain ⟨a0, c0, r0⟩ := rdTr.agg (fun _ => rfl) (okWide_agg Tryz.underlying24 (hval 0 24 v0 rfl rfl)) h0
  obtain ⟨a1, c1, r1⟩ := rdInts.one (fun _ => rfl) (okWide_cells Tryz.underlying25 (hval 1 25 v1 rfl rfl)) h1
  obtain ⟨a2, c2, r2⟩ := rdInts.one (fun _ => rfl) (okWide_cells Tryz.underlying25 (hval 2 25 v2 rfl rfl)) h2
  obtain ⟨a3, c3, r3⟩ := rdPred.agg aPd_agg (okWide_agg Tryz.underlying28 (hval 3 28 v3 rfl rfl)) h3
  refine ((law49_PruneTruths a0 a1 a2 a3).calls (W := W) (vs := [v0, v1, v2, v3]) (laid_gv hL) ⟨rfl, fun i a u g1 g2 => ?_⟩).mono fun e W' ⟨he, hb⟩ => ?_
  · rcases i with _ | _ | _ | _ | i
    · cases g1; cases g2; exact r0
    · cases g1; cases g2; exact r1
    · cases g1; cases g2; exact r2
    · cases g1; cases g2; exact r3
    · simp at g2
  · subst he
    exact ⟨_, rfl, post_true Tryz.laidOut hW' rfl rfl (by kernel_rfl) Tryz.underlying4 (by rw [Tryz.params4]; intro t ht; simp only [List.mem_cons, List.not_mem_nil, or_false] at ht; rcases ht with rfl | rfl | rfl | rfl <;> exact ⟨by kernel_rfl, of_decide_eq_true (by kernel_rfl)⟩) hb⟩
theorem pruneTruths_row : Rows.PruneTruthsSaid :=
  OpenClaim.holds_of_wide 4 Tryz.f4 rfl rfl rfl rfl rfl rfl rfl ⟨rfl, rfl, rfl, rfl, rfl⟩ rfl rfl rfl rfl rfl (by kernel_rfl) Tryz.func4 (by kernel_rfl)
    (of_decide_eq_true (by kernel_rfl)) (by unfold Func.isWrapper; rw [if_neg (by decide +kernel)]; exact ⟨rfl, rfl⟩)
    (fun os started H enc _ => pruneTruths_lifted os started H enc)
theorem pruneTruths_holds : Rows.PruneTruthsCardSaid :=
  Claim7.holds_tied_plain_at .later [] [.data] true _ false pruneTruths_row (fun _ h => by cases h) (by kernel_rfl) (fun _ h => by cases h) pruneTruths_row_tie rfl ⟨rfl, rfl⟩ (by kernel_rfl) rfl
    (fun f fn hf hfn => by
      obtain rfl : f = 4 := Option.some.inj ((show Tryz.prog.funcNamed Rows.pruneTruthsRow.func = some 4 by kernel_rfl).symm.trans hf) |>.symm
      obtain rfl : fn = Tryz.f4 := (Option.some.inj (Tryz.func4.symm.trans hfn)).symm
      exact ⟨by kernel_rfl, fun j t ht => by
        rw [Tryz.params4] at ht
        rcases j with _ | _ | _ | _ | j
        · cases ht; kernel_rfl
        · cases ht; kernel_rfl
        · cases ht; kernel_rfl
        · cases ht; kernel_rfl
        · simp at ht⟩)
    (by kernel_rfl)
end Go.Proofs.YtkfkdmefabefkaaGreatDoor
