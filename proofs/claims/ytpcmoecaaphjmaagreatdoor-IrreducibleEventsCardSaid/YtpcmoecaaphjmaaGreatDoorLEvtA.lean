/- antecedelaw33.IrreducibleEvents returns true whatever the input, and the input reads as it did. No condition. -/
import Derived.Test.YtpcmoecaaphjmaaGreatDoorRows
import Derived.Test.YtpcmoecaaphjmaaGreatDoorM28
import Derived.Test.YtpcmoecaaphjmaaGreatDoorM9
import Derived.Test.YtpcmoecaaphjmaaGreatDoorCards
import Derived.Test.YtpcmoecaaphjmaaGreatDoorTie
import Derived.SevenTiedAt
namespace Go.Proofs.YtpcmoecaaphjmaaGreatDoor
open Go.ChangeShapes Go.WideShapes Go.ChangeAt Go.RowKit Go.AL
theorem Tryz.own : ownKnob Tryz.prog.godebug = none := by kernel_rfl
theorem Tryz.laidOut : laidOutB Tryz.prog = true := by kernel_rfl
/-- The settled world, the tables holding what their initialisers lay: the witness. -/
def partsZ : List Int := [-1, 0, 0, 0, 0, 1, 2, 2, 2, 2, 2, 2, 2, 0, 0, 1, 2, 2, 1, 1, 1, 1]
def tabIn (k : IntKind) (zs : List Int) : Obj → Obj
  | .cells _ t frozen => .cells (zs.map fun z => Value.int k z).toArray t frozen
  | o => o
noncomputable def laidWorld (os : Os) : World :=
  { World.holding Tryz.prog os ⟨#[], #[], []⟩ with heap := ((World.holding Tryz.prog os ⟨#[], #[], []⟩).heap).modify 0 (tabIn .i64 partsZ) }
theorem laid_met (os : Os) (args : Array Value) : laidMet Tryz.prog Rows.irreducibleEventsRow.laid ((laidWorld os).forCall (fun _ _ => 0) ⟨#[], args, []⟩).memory :=
  laidMet_of_run' 8 (by kernel_rfl) (by kernel_rfl)
theorem laid_gv {W : World} (hL : laidMet Tryz.prog Rows.irreducibleEventsRow.laid W) : ∀ g x, GV g = some x → Rel W (fun b => b < W.heap.size) x (.pointer (some ⟨g, 0, none⟩)) := by
  intro g x h
  unfold GV at h
  split at h
  · rename_i e
    cases h; subst e
    exact Rel.tabK (zs := partsZ) (Lib.tabIs_of_head (g := 0) (k := .i64) (zs := partsZ) (name := "antecede/predtype.parts") (by kernel_rfl) (by kernel_rfl) Tryz.underlying238 Tryz.underlying3 (by kernel_rfl) (by kernel_rfl) hL) (by kernel_rfl) (by decide)
  · cases h
set_option maxRecDepth 100000 in
theorem irreducibleEvents_lifted (os : Os) (started : os.Started) (H : Type) (enc : TypeId × Value → H) :
    ReturnsInHanded {} Tryz.checked os 4 .any (fun w args => (Rows.irreducibleEventsSpec.pre enc Tryz.prog Tryz.f4 Rows.irreducibleEventsRow.domain false w args ∧ laidMet Tryz.prog Rows.irreducibleEventsRow.laid w) ∧ sizedMet enc Tryz.prog Tryz.f4 (OpenSpec.ofChange Rows.irreducibleEventsSpec) false w args)
      (Rows.irreducibleEventsSpec.post enc Tryz.prog Tryz.f4 false Rows.irreducibleEventsRow.fresh Rows.irreducibleEventsRow.handsOn Rows.irreducibleEventsRow.again) := by
  refine returnsInHanded_of_change_and (C := Tryz.checked) (X := fun w _ => laidMet Tryz.prog Rows.irreducibleEventsRow.laid w) (fun _ _ _ hh h => h.of_heap hh) Tryz.own started (by kernel_rfl) Tryz.func4
    (ChangeSpec.witness_at (enc := enc) (C := Tryz.checked) (os := os) (X := fun w _ => laidMet Tryz.prog Rows.irreducibleEventsRow.laid w) false (laidWorld os) #[.agg #[.slice none 0 0], .agg #[.int .i64 0, .int .i64 0, .int .i64 0, .int .i64 0, .string ByteArray.empty, .slice none 0 0], .agg #[.int .i64 0, .int .i64 0]] 8 rfl (by kernel_rfl) (by kernel_rfl) (by kernel_rfl) (by kernel_rfl) (by kernel_rfl) (laid_met os _)) ?_
  intro W base args ds gs before hval0 hW _ _ hL _
  have hval : ∀ (j : Nat) t v, Tryz.f4.params[j]? = some t → args[j]? = some v → Value.okWide Tryz.prog W .any base t v := hval0
  have hW' := hW
  obtain ⟨p, q, hA0, hV, rfl, hfz, hnd⟩ := hW
  have hA : DataW.TrodAll enc Tryz.prog W 0 (fun _ => true) true Tryz.f4.params.toList args.toList ds p := hA0
  rw [Tryz.params4] at hA hval
  obtain ⟨v0, v1, v2, d0, d1, d2, p0, p1, p2, rfl, rfl, rfl, h0, h1, h2⟩ := trodAll_three hA
  obtain ⟨rfl, rfl⟩ := trodVars_none hV
  obtain ⟨a0, c0, r0⟩ := rdTrM.agg (fun _ => rfl) (okWide_agg Tryz.underlying24 (hval 0 24 v0 rfl rfl)) h0
  obtain ⟨a1, c1, r1⟩ := rdPred.agg aPd_agg (okWide_agg Tryz.underlying27 (hval 1 27 v1 rfl rfl)) h1
  obtain ⟨a2, c2, r2⟩ := rdEid.agg (fun _ => rfl) (okWide_agg Tryz.underlying29 (hval 2 29 v2 rfl rfl)) h2
  refine ((law33_IrreducibleEvents a0 a1 a2 (Nat.le_trans c0.1 (by decide)) c0.2).calls (W := W) (vs := [v0, v1, v2]) (laid_gv hL) ⟨rfl, fun i a u g1 g2 => ?_⟩).mono fun e W' ⟨he, hb⟩ => ?_
  · rcases i with _ | _ | _ | i
    · cases g1; cases g2; exact r0
    · cases g1; cases g2; exact r1
    · cases g1; cases g2; exact r2
    · simp at g2
  · subst he
    exact ⟨_, rfl, post_true Tryz.laidOut hW' rfl rfl (by kernel_rfl) Tryz.underlying4 (by rw [Tryz.params4]; intro t ht; simp only [List.mem_cons, List.not_mem_nil, or_false] at ht; rcases ht with rfl | rfl | rfl <;> exact ⟨by kernel_rfl, of_decide_eq_true (by kernel_rfl)⟩) hb⟩
end Go.Proofs.YtpcmoecaaphjmaaGreatDoor
