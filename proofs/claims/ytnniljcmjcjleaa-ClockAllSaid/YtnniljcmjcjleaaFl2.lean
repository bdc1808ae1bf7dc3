/- Lengths of time, and sums of such. Plain Lean. -/
import Derived.Test.YtnniljcmjcjleaaSrt
namespace Go.Proofs.Ytnniljcmjcjleaa.Flo
open Ieee
set_option linter.unusedVariables false

theorem e1 : Format.signWeight Ieee.double = 9223372036854775808 := by decide
theorem e2 : Format.binade Ieee.double = 4503599627370496 := by decide
theorem e3 : Format.infRung Ieee.double = 9218868437227405312 := by decide
theorem e4 : Format.leastPlace Ieee.double = -1074 := by decide
theorem read_zero : FloatKind.f64.format.read 0 = .number false 0 (-1074) := by decide +kernel
/-- What is greater than 0 is not negative, and no NaN. -/
theorem gt_zero (x : Nat) (hx : x < 18446744073709551616) (h : FloatKind.f64.format.order x 0 = some .gt) : x ≤ 9218868437227405312 := by
  rcases Nat.lt_or_ge 9218868437227405312 x with hlt | hle
  · exfalso
    change ((FloatKind.f64.format.read x).order (FloatKind.f64.format.read 0)) = _ at h
    rw [read_zero] at h
    change ((Format.read Ieee.double x).order _) = _ at h
    unfold Format.read at h
    simp only [e1, e2, e3, e4] at h
    by_cases hn : x < 9223372036854775808
    · have a1 : x % 9223372036854775808 = x := Nat.mod_eq_of_lt hn
      rw [a1, if_neg (by omega), if_neg (by omega), if_neg (by omega)] at h
      cases h
    · have a2 : x / 9223372036854775808 = 1 := by omega
      rw [a2] at h
      split at h
      · injection h with h
        change compare (-((_ : Nat) : Int)) ((0 <<< _ : Nat) : Int) = _ at h
        rw [cmpI] at h
        simp only [Nat.zero_shiftLeft] at h
        split at h
        · cases h
        · split at h
          · cases h
          · rename_i g1 g2
            generalize ((x % 9223372036854775808) <<< _ : Nat) = q at g1 g2
            omega
      · split at h
        · injection h with h
          change compare (-((_ : Nat) : Int)) ((0 <<< _ : Nat) : Int) = _ at h
          rw [cmpI] at h
          simp only [Nat.zero_shiftLeft] at h
          split at h
          · cases h
          · split at h
            · cases h
            · rename_i g1 g2
              generalize ((4503599627370496 + x % 9223372036854775808 % 4503599627370496) <<< _ : Nat) = q at g1 g2
              omega
        · split at h
          · cases h
          · cases h
  · exact hle
theorem plain_le (x : Nat) (hx : x < 18446744073709551616) (h : (plainF x).2 = true) : (plainF x).1 ≤ 9218868437227405312 := by
  unfold plainF at h ⊢
  split
  · exact Nat.zero_le _
  · rename_i h0
    rw [if_neg h0] at h
    exact gt_zero x hx (by simpa using h)
end Go.Proofs.Ytnniljcmjcjleaa.Flo
