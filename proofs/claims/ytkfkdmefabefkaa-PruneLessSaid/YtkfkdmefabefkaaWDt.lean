/- Data: what is read of the memory, as plain values. No condition. -/
import Derived.Test.YtkfkdmefabefkaaAlMix
import Derived.Test.YtkfkdmefabefkaaWTy
namespace Go.AL
open Go Go.RowKit
set_option maxRecDepth 4000
theorem mixed : Go.Proofs.Try.prog.follows .mixedOrders = true := by kernel_rfl
attribute [go_sem] aqv aq
def aInts (l : List Int) : AV := .sl 1 (l.map ai)
def aRows (l : List (List Int)) : AV := .sl 1 (l.map aInts)
def aRows3 (l : List (List (List Int))) : AV := .sl 1 (l.map aRows)
abbrev astr (s : ByteArray) : AV := .v (.string s)
/-! ### Traces -/
structure Ev where
  kind : Int
  peer : Int
  msg : Int
  time : Int
  asg : List (Int × Int)
  deriving DecidableEq
structure Pr where
  name : ByteArray
  vars : List (ByteArray × Int)
  evs : List Ev
  deriving DecidableEq
def aAsg (a : Int × Int) : AV := .agg [ai a.1, ai a.2]
def aVar (a : ByteArray × Int) : AV := .agg [astr a.1, ai a.2]
def aAsgs (l : List (Int × Int)) : AV := .sl 2 (l.map aAsg)
def aVars (l : List (ByteArray × Int)) : AV := .sl 2 (l.map aVar)
def aEv (e : Ev) : AV := .agg [ai e.kind, ai e.peer, ai e.msg, ai e.time, aAsgs e.asg]
def aEvs (l : List Ev) : AV := .sl 5 (l.map aEv)
def aPr (p : Pr) : AV := .agg [astr p.name, aVars p.vars, aEvs p.evs]
def aPrs (l : List Pr) : AV := .sl 3 (l.map aPr)
def aTr (l : List Pr) : AV := .agg [aPrs l]
abbrev Eid := Int × Int
def aEid (x : Eid) : AV := .agg [ai x.1, ai x.2]
def aEids (l : List Eid) : AV := .sl 2 (l.map aEid)
attribute [go_sem] aInts aRows aRows3 aAsg aVar aAsgs aVars aEv aEvs aPr aPrs aTr aEid aEids

theorem findIdx_any {α : Type} (l : List α) (p : α → Bool) : decide ((0 : Int) ≤ (match l.findIdx? p with | some i => (i : Int) | none => -1)) = l.any p := by
  cases h : l.findIdx? p with
  | none =>
    rw [List.findIdx?_eq_none_iff] at h
    have : l.any p = false := by rw [List.any_eq_false]; intro x hx; simp [h x hx]
    rw [this]; decide
  | some i =>
    rw [List.findIdx?_eq_some_iff_getElem] at h
    obtain ⟨hi, hp, _⟩ := h
    have : l.any p = true := List.any_eq_true.2 ⟨l[i], List.getElem_mem hi, hp⟩
    rw [this]; simp
theorem take_le {α : Type} {l : List α} {n N : Nat} (h : l.length ≤ N) : (l.take n).length ≤ N := Nat.le_trans (List.length_take_le' _ _) h
/-- The first that is not 0. -/
def fstF (f : Nat → Int) (n : Nat) : Int := match (List.range n).find? (fun i => f i != 0) with | some i => f i | none => 0
theorem fstF_hit {f : Nat → Int} {n k : Nat} (hk : k < n) (h0 : ∀ i, i < k → f i = 0) (h : f k ≠ 0) : fstF f n = f k := by
  have : (List.range n).find? (fun i => f i != 0) = some k := by
    rw [List.find?_range_eq_some]
    exact ⟨by simpa using h, by simpa using hk, fun j hj => by simpa using h0 j hj⟩
  unfold fstF; rw [this]
theorem fstF_none {f : Nat → Int} {n : Nat} (h : ∀ i, i < n → f i = 0) : fstF f n = 0 := by
  have : (List.range n).find? (fun i => f i != 0) = none := by
    rw [List.find?_eq_none]; intro i hi; simpa using h i (List.mem_range.1 hi)
  unfold fstF; rw [this]
/-- Traces of sizes that no sum outgrows. -/
structure Sm (ps : List Pr) : Prop where
  procs : ps.length ≤ 1000000
  evs : ∀ p ∈ ps, p.evs.length ≤ 1000000
  vars : ∀ p ∈ ps, p.vars.length ≤ 1000000
  asg : ∀ p ∈ ps, ∀ e ∈ p.evs, e.asg.length ≤ 1000000
end Go.AL
