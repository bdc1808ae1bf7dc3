/- What May, Number and Kind of package name come to, as plain functions. -/
import Derived.Test.YtooddfmjgplbjaaSeg
namespace Go.Proofs.Ytooddfmjgplbjaa
open Go.RowKit Go.Proofs.Ytooddfmjgplbjaa.QA Go.Proofs.YtooddfmjgplbjaaW.PrintWords Go.Proofs.YtooddfmjgplbjaaW.PrintLast Go.Proofs.YtooddfmjgplbjaaW.PrintMore
set_option linter.unusedVariables false
set_option linter.unusedSimpArgs false

theorem w64 (n : Int) (h : -9223372036854775808 ≤ n ∧ n ≤ 9223372036854775807) : wrap64 n = n := by unfold wrap64; omega

def plainP (x : Int) : Bool := decide ((97 ≤ x ∧ x ≤ 122) ∨ (48 ≤ x ∧ x ≤ 57))
def okP (x : Int) : Bool := plainP x || decide (x = 46) || decide (x = 45)

theorem plain_eq (x : Int) : name_plain.f x = some (plainP x) := by
  unfold name_plain.f plainP
  by_cases h1 : x ≥ 97
  · rw [if_pos h1]
    by_cases h2 : x ≤ 122
    · rw [if_pos h2]; congr 1; symm; exact decide_eq_true (.inl ⟨h1, h2⟩)
    · rw [if_neg h2, if_pos (by omega)]; congr 1
      rw [decide_eq_false (show ¬ x ≤ 57 by omega)]; symm
      exact decide_eq_false (by omega)
  · rw [if_neg h1]
    by_cases h3 : x ≥ 48
    · rw [if_pos h3]; congr 1
      by_cases h4 : x ≤ 57
      · rw [decide_eq_true h4]; symm; exact decide_eq_true (.inr ⟨h3, h4⟩)
      · rw [decide_eq_false h4]; symm; exact decide_eq_false (by omega)
    · rw [if_neg h3]; congr 1; symm; exact decide_eq_false (by omega)

/-- All bytes from a place on are letters, digits, dots, dashes. -/
def okFrom (s : ByteArray) (j : Nat) : Nat → Bool
  | 0 => true
  | d + 1 => okP (bt s (j : Int)) && okFrom s (j + 1) d

theorem may_loop (s : ByteArray) (hs : s.size ≤ 9223372036854775806) : ∀ (d j k : Nat), j + d = s.size → d < k → name_May.l0 k s (j : Int) = some (okFrom s j d) := by
  intro d
  induction d with
  | zero =>
    intro j k hj hk
    obtain ⟨k, rfl⟩ : ∃ m, k = m + 1 := ⟨k - 1, by omega⟩
    rw [name_May.l0, if_neg (by omega)]; rfl
  | succ d ih =>
    intro j k hj hk
    obtain ⟨k, rfl⟩ : ∃ m, k = m + 1 := ⟨k - 1, by omega⟩
    have ih1 := ih (j + 1) k (by omega) (by omega)
    rw [name_May.l0, if_pos (by omega), if_pos (by omega), plain_eq, Option.bind_some, w64 _ (by omega), okFrom, okP]
    rw [show (j : Int) + 1 = ((j + 1 : Nat) : Int) by omega]
    by_cases h1 : plainP (bt s (j : Int)) = true
    · rw [if_pos h1, ih1, h1]; simp
    · rw [if_neg h1]
      have h1' := Bool.eq_false_iff.mpr h1
      by_cases h2 : bt s (j : Int) = 46
      · rw [if_pos h2, ih1]; simp [h2]
      · rw [if_neg h2]
        by_cases h3 : bt s (j : Int) = 45
        · rw [if_pos h3, ih1]; simp [h3]
        · rw [if_neg h3]; simp [h1', h2, h3]

def mayP (s : ByteArray) : Bool := decide (1 ≤ s.size) && decide (s.size ≤ 64) && plainP (bt s 0) && plainP (bt s ((s.size - 1 : Nat) : Int)) && okFrom s 0 s.size

theorem may_eq (s : ByteArray) : name_May.f 100 s = some (mayP s) := by
  unfold name_May.f mayP
  by_cases h1 : s.size < 1
  · rw [if_pos (by omega), name_May.j0, if_pos rfl]; simp [show ¬ 1 ≤ s.size by omega]
  rw [if_neg (by omega)]
  by_cases h2 : 64 < s.size
  · rw [if_pos (by omega), name_May.j0, if_pos rfl]; simp [show ¬ s.size ≤ 64 by omega]
  rw [if_neg (by omega), if_pos (by omega), plain_eq, Option.bind_some]
  have e1 : decide (1 ≤ s.size) = true := decide_eq_true (by omega)
  have e2 : decide (s.size ≤ 64) = true := decide_eq_true (by omega)
  rw [e1, e2]
  by_cases h3 : plainP (bt s 0) = true
  · rw [if_pos h3, h3, w64 _ (by omega), show (s.size : Int) - 1 = ((s.size - 1 : Nat) : Int) by omega, if_pos (by omega), if_pos (by omega), plain_eq, Option.bind_some, name_May.j0]
    by_cases h4 : plainP (bt s ((s.size - 1 : Nat) : Int)) = true
    · have hl := may_loop s (by omega) s.size 0 99 (by omega) (by omega)
      rw [h4, if_neg (by simp)]
      simpa using hl
    · rw [Bool.eq_false_iff.mpr h4, if_pos (by rfl)]; simp
  · rw [if_neg h3, name_May.j0, if_pos rfl, Bool.eq_false_iff.mpr h3]; simp
end Go.Proofs.Ytooddfmjgplbjaa
