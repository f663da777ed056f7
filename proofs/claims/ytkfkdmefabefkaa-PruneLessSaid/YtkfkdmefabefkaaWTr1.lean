/- The package trace, first part. No condition. -/
import Derived.Test.YtkfkdmefabefkaaWSl
namespace Go.AL
open Go Go.RowKit
set_option maxRecDepth 4000
abbrev au8 (n : Int) : AV := .v (.int .u8 n)
def letterI (n : Int) : Bool := (decide (97 ≤ n) && decide (n ≤ 122)) || (decide (65 ≤ n) && decide (n ≤ 90))
def digitI (n : Int) : Bool := decide (48 ≤ n) && decide (n ≤ 57)
def inI (x a b : Int) : Bool := decide (a ≤ x) && decide (x ≤ b)
def sb (s : ByteArray) (i : Nat) : Int := ((s.get! i).toNat : Int)
def nameOk (s : ByteArray) : Bool := decide (s.size ≠ 0) && decide (s.size ≤ 16) && letterI (sb s 0) && (List.range s.size).all fun i => letterI (sb s i) || digitI (sb s i) || decide (sb s i = 95)
theorem size_empty (s : ByteArray) : (s = ⟨#[]⟩) = (s.size = 0) := by
  apply propext
  constructor
  · rintro rfl; rfl
  · intro h
    obtain ⟨⟨l⟩⟩ := s
    have : l.length = 0 := h
    rw [List.eq_nil_of_length_eq_zero this]
theorem trace_letter (n : Int) : PC Go.Proofs.Try.prog 79 [au8 n] (ab (letterI n)) := by
  refine PC.enter 17 [.tmp 2] [] Go.Proofs.Try.func79 rfl rfl rfl rfl rfl (by simp) (AWp.of ?_); simp only [go_sem]
  repeat ((with_reducible refine And.intro ?_ ?_); focus first | exact True.intro | omega | (intros; (with_reducible and_intros) <;> first | (with_reducible assumption) | omega; done) | (simp; done) | (simp; omega))
  refine AWp.of ?_; simp only [go_sem]
  repeat ((with_reducible refine And.intro ?_ ?_); focus first | exact True.intro | omega | (intros; (with_reducible and_intros) <;> first | (with_reducible assumption) | omega; done) | (simp; done) | (simp; omega))
  refine AWp.of ?_; simp only [go_sem]
  refine ret_eq ?_; simp only [go_sem]
  rfl
theorem trace_digit (n : Int) : PC Go.Proofs.Try.prog 80 [au8 n] (ab (digitI n)) := by
  refine PC.enter 9 [.tmp 2] [] Go.Proofs.Try.func80 rfl rfl rfl rfl rfl (by simp) (AWp.of ?_); simp only [go_sem]
  repeat ((with_reducible refine And.intro ?_ ?_); focus first | exact True.intro | omega | (intros; (with_reducible and_intros) <;> first | (with_reducible assumption) | omega; done) | (simp; done) | (simp; omega))
  refine AWp.of ?_; simp only [go_sem]
  repeat ((with_reducible refine And.intro ?_ ?_); focus first | exact True.intro | omega | (intros; (with_reducible and_intros) <;> first | (with_reducible assumption) | omega; done) | (simp; done) | (simp; omega))
  refine AWp.of ?_; simp only [go_sem]
  refine ret_eq ?_; simp only [go_sem]
  rfl
theorem trace_in (x a b : Int) : PC Go.Proofs.Try.prog 56 [ai x, ai a, ai b] (ab (inI x a b)) := by
  refine PC.enter 15 [.tmp 6] [] Go.Proofs.Try.func56 rfl rfl rfl rfl rfl (by simp) (AWp.of ?_); simp only [go_sem]
  repeat ((with_reducible refine And.intro ?_ ?_); focus first | exact True.intro | omega | (intros; (with_reducible and_intros) <;> first | (with_reducible assumption) | omega; done) | (simp; done) | (simp; omega))
  refine AWp.of ?_; simp only [go_sem]
  repeat ((with_reducible refine And.intro ?_ ?_); focus first | exact True.intro | omega | (intros; (with_reducible and_intros) <;> first | (with_reducible assumption) | omega; done) | (simp; done) | (simp; omega))
  refine AWp.of ?_; simp only [go_sem]
  refine ret_eq ?_; simp only [go_sem]
  rfl
theorem trace_isName (s : ByteArray) : PC Go.Proofs.Try.prog 67 [astr s] (ab (nameOk s)) := by
  refine PC.enter 41 [.tmp 2] [] Go.Proofs.Try.func67 rfl rfl rfl rfl rfl (by simp) (AWp.of ?_); simp only [go_sem]
  repeat ((with_reducible refine And.intro ?_ ?_); focus first | exact True.intro | omega | (intros; (with_reducible and_intros) <;> first | (with_reducible assumption) | omega; done) | (simp; done) | (simp; omega))
  refine AWp.of ?_; simp only [go_sem, size_empty]
  repeat ((with_reducible refine And.intro ?_ ?_); focus first | exact True.intro | omega | (intros; (with_reducible and_intros) <;> first | (with_reducible assumption) | omega; done) | (simp; done) | (simp; omega))
  refine GCall.use (ab (letterI (sb s 0))) (fun _ => ⟨(by first | exact True.intro | omega | (intros; (with_reducible and_intros) <;> first | (with_reducible assumption) | omega) | (simp; done) | (simp; omega) | (intros; simp_all; done) | (intros; simp_all; omega)), (trace_letter _).val.use ⟨rfl, rfl⟩⟩) ?_; simp only [go_sem]
  repeat ((with_reducible refine And.intro ?_ ?_); focus first | exact True.intro | omega | (intros; (with_reducible and_intros) <;> first | (with_reducible assumption) | omega; done) | (simp; done) | (simp; omega))
  refine AWp.of ?_; simp only [go_sem]
  refine ⟨fun ht => ?_, fun h1 h2 h3 => ?_⟩
  · repeat ((with_reducible refine And.intro ?_ ?_); focus first | exact True.intro | omega | (intros; (with_reducible and_intros) <;> first | (with_reducible assumption) | omega; done) | (simp; done) | (simp; omega))
    refine AWp.of ?_; simp only [go_sem]
    refine ret_eq ?_; simp only [go_sem]
    congr 2; symm; unfold nameOk
    rcases ht with (h | h) | h
    · simp [h]
    · simp [show ¬ s.size ≤ 16 by omega]
    · simp [h]
  · repeat ((with_reducible refine And.intro ?_ ?_); focus first | exact True.intro | omega | (intros; (with_reducible and_intros) <;> first | (with_reducible assumption) | omega; done) | (simp; done) | (simp; omega))
    refine AWp.of ?_; simp only [go_sem]
    refine AWp.range' s.size [] [0, 18] (fun k vs L => L = [] ∧ ∀ i, i < k → (letterI (sb s i) || digitI (sb s i) || decide (sb s i = 95)) = true) (by omega) rfl rfl rfl ⟨rfl, by omega⟩ ?_ ?_
    · rintro k vs L' hk hvs ⟨rfl, hI⟩
      simp only [go_sem]
      repeat ((with_reducible refine And.intro ?_ ?_); focus first | exact True.intro | omega | (intros; (with_reducible and_intros) <;> first | (with_reducible assumption) | omega; done) | (simp; done) | (simp; omega))
      refine AWp.of ?_; simp only [go_sem]
      repeat ((with_reducible refine And.intro ?_ ?_); focus first | exact True.intro | omega | (intros; (with_reducible and_intros) <;> first | (with_reducible assumption) | omega; done) | (simp; done) | (simp; omega))
      refine AWp.of ?_; simp only [go_sem]
      refine ⟨⟨by omega, by omega⟩, (trace_letter _).val.use ?_⟩
      simp only [go_sem]
      repeat ((with_reducible refine And.intro ?_ ?_); focus first | exact True.intro | omega | (intros; (with_reducible and_intros) <;> first | (with_reducible assumption) | omega; done) | (simp; done) | (simp; omega))
      refine GCall.use (ab (digitI (sb s k))) (fun _ => ⟨(by first | exact True.intro | omega | (intros; (with_reducible and_intros) <;> first | (with_reducible assumption) | omega) | (simp; done) | (simp; omega) | (intros; simp_all; done) | (intros; simp_all; omega)), (trace_digit _).val.use ⟨rfl, rfl⟩⟩) ?_; simp only [go_sem]
      repeat ((with_reducible refine And.intro ?_ ?_); focus first | exact True.intro | omega | (intros; (with_reducible and_intros) <;> first | (with_reducible assumption) | omega; done) | (simp; done) | (simp; omega))
      refine AWp.of ?_; simp only [go_sem]
      refine ⟨fun h4 h5 h6 => ?_, fun h4 => ?_⟩
      · repeat ((with_reducible refine And.intro ?_ ?_); focus first | exact True.intro | omega | (intros; (with_reducible and_intros) <;> first | (with_reducible assumption) | omega; done) | (simp; done) | (simp; omega))
        refine AWp.of ?_; simp only [go_sem]
        refine ret_eq ?_; simp only [go_sem]
        congr 2; symm; unfold nameOk
        have : ((List.range s.size).all fun i => letterI (sb s i) || digitI (sb s i) || decide (sb s i = 95)) = false := by
          rw [List.all_eq_false]
          exact ⟨k, List.mem_range.2 hk, by simp [show letterI (sb s k) = false from h4, h5]; exact h6⟩
        rw [this]; simp
      · refine ⟨[], List.Sublist.refl _, rfl, fun i hi => ?_⟩
        by_cases e : i = k
        · subst e
          cases h5 : letterI (sb s i)
          · cases h6 : digitI (sb s i)
            · exact .inr (h4 h5 h6)
            · exact .inl (.inr rfl)
          · exact .inl (.inl rfl)
        · simpa using hI i (by omega)
    · rintro vs L' hvs ⟨rfl, hI⟩
      simp only [go_sem]
      repeat ((with_reducible refine And.intro ?_ ?_); focus first | exact True.intro | omega | (intros; (with_reducible and_intros) <;> first | (with_reducible assumption) | omega; done) | (simp; done) | (simp; omega))
      refine AWp.of ?_; simp only [go_sem]
      repeat ((with_reducible refine And.intro ?_ ?_); focus first | exact True.intro | omega | (intros; (with_reducible and_intros) <;> first | (with_reducible assumption) | omega; done) | (simp; done) | (simp; omega))
      refine AWp.of ?_; simp only [go_sem]
      refine ret_eq ?_; simp only [go_sem]
      congr 2; symm; unfold nameOk
      have : ((List.range s.size).all fun i => letterI (sb s i) || digitI (sb s i) || decide (sb s i = 95)) = true := by
        rw [List.all_eq_true]
        exact fun i hi => by simpa using hI i (List.mem_range.1 hi)
      rw [this]; simp [h1, h3]; omega
end Go.AL
