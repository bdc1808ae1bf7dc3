/- Numbers that are not negative, by their bits: their order is their bits'. Plain Lean. -/
import Derived.Test.YtnniljcmjcjleaaMem
namespace Go.Proofs.Ytnniljcmjcjleaa.Flo
open Ieee
set_option linter.unusedVariables false

abbrev B : Nat := 4503599627370496
abbrev INF : Nat := 9218868437227405312
/-- Magnitude and place of a rung, and what it stands for in the least unit. -/
def mg (r : Nat) : Nat := if r < B then r else B + r % B
def kk (r : Nat) : Nat := if r < B then 0 else r / B - 1
def V (r : Nat) : Nat := mg r * 2 ^ kk r
theorem read_pos (r : Nat) (h : r < INF) : FloatKind.f64.format.read r = .number false (mg r) (-1074 + (kk r : Nat)) := by
  have h0 : r < 9218868437227405312 := h
  have h1 : r % 9223372036854775808 = r := Nat.mod_eq_of_lt (by omega)
  have h2 : r / 9223372036854775808 = 0 := Nat.div_eq_of_lt (by omega)
  show Format.read Ieee.double r = _
  have e1 : Format.signWeight Ieee.double = 9223372036854775808 := by decide
  have e2 : Format.binade Ieee.double = B := by decide
  have e3 : Format.infRung Ieee.double = INF := by decide
  have e4 : Format.leastPlace Ieee.double = -1074 := by decide
  unfold Format.read
  simp only [e1, e2, e3, e4, h1, h2]
  by_cases hb : r < B
  · rw [if_pos hb, mg, kk, if_pos hb, if_pos hb]
    rfl
  · rw [if_neg hb, if_pos h, mg, kk, if_neg hb, if_neg hb]
    rfl
theorem read_inf : FloatKind.f64.format.read INF = .infinity false := by decide +kernel
theorem V_lt {a b : Nat} (h : a < b) : V a < V b := by
  unfold V mg kk
  by_cases hb : b < B
  · rw [if_pos (by omega), if_pos (by omega), if_pos hb, if_pos hb]
    simpa using h
  · rw [if_neg hb, if_neg hb]
    have hq : 1 ≤ b / B := (Nat.le_div_iff_mul_le (by decide)).2 (by omega)
    by_cases ha : a < B
    · rw [if_pos ha, if_pos ha, Nat.pow_zero, Nat.mul_one]
      have : B + b % B ≤ (B + b % B) * 2 ^ (b / B - 1) := Nat.le_mul_of_pos_right _ (Nat.pow_pos (by decide))
      omega
    · rw [if_neg ha, if_neg ha]
      have hqa : 1 ≤ a / B := (Nat.le_div_iff_mul_le (by decide)).2 (by omega)
      have hab : a / B ≤ b / B := Nat.div_le_div_right (by omega)
      rcases Nat.eq_or_lt_of_le hab with he | hlt
      · rw [he]
        have e1 := Nat.div_add_mod a B
        have e2 := Nat.div_add_mod b B
        rw [he] at e1
        exact Nat.mul_lt_mul_of_pos_right (by omega) (Nat.pow_pos (by decide))
      · have h1 : a % B < B := Nat.mod_lt _ (by decide)
        have h2 : (B + a % B) * 2 ^ (a / B - 1) < (2 * B) * 2 ^ (a / B - 1) := Nat.mul_lt_mul_of_pos_right (by omega) (Nat.pow_pos (by decide))
        have h3 : (2 * B) * 2 ^ (a / B - 1) = B * 2 ^ (a / B) := by
          obtain ⟨q, hq⟩ : ∃ q, a / B = q + 1 := ⟨a / B - 1, by omega⟩
          rw [hq, Nat.add_sub_cancel, Nat.pow_succ]
          rw [Nat.mul_comm 2 B, Nat.mul_assoc, Nat.mul_comm 2]
        have h4 : B * 2 ^ (a / B) ≤ B * 2 ^ (b / B - 1) := Nat.mul_le_mul_left _ (Nat.pow_le_pow_right (by decide) (by omega))
        have h5 : B * 2 ^ (b / B - 1) ≤ (B + b % B) * 2 ^ (b / B - 1) := Nat.mul_le_mul_right _ (by omega)
        omega
theorem V_le {a b : Nat} (h : a ≤ b) : V a ≤ V b := by
  rcases Nat.eq_or_lt_of_le h with rfl | h
  · exact Nat.le_refl _
  · exact Nat.le_of_lt (V_lt h)
theorem cmpI (a b : Int) : compare a b = if a < b then Ordering.lt else if a = b then .eq else .gt := rfl
theorem cmpN (a b : Nat) : compare a b = if a < b then Ordering.lt else if a = b then .eq else .gt := rfl
/-- Two numbers that stand alike compare alike. -/
theorem compare_like {a b : Nat} {x y : Int} (hl : a < b ↔ x < y) (he : a = b ↔ x = y) : compare x y = compare a b := by
  rw [cmpI, cmpN]
  by_cases h1 : a < b
  · rw [if_pos h1, if_pos (hl.1 h1)]
  · rw [if_neg h1, if_neg (fun h => h1 (hl.2 h))]
    by_cases h2 : a = b
    · rw [if_pos h2, if_pos (he.1 h2)]
    · rw [if_neg h2, if_neg (fun h => h2 (he.2 h))]
theorem shift_V (r b : Nat) (hb : b ≤ kk r) : (mg r <<< (kk r - b)) * 2 ^ b = V r := by
  rw [Nat.shiftLeft_eq, Nat.mul_assoc, ← Nat.pow_add, Nat.sub_add_cancel hb]
  rfl
theorem order_lt_inf (a b : Nat) (ha : a < INF) (hb : b < INF) : FloatKind.f64.format.order a b = some (compare a b) := by
  show ((FloatKind.f64.format.read a).order (FloatKind.f64.format.read b)) = _
  rw [read_pos a ha, read_pos b hb]
  obtain ⟨m, hm⟩ : ∃ m, m = min (kk a) (kk b) := ⟨_, rfl⟩
  have e1 : (-1074 + ((kk a : Nat) : Int) - min (-1074 + ((kk a : Nat) : Int)) (-1074 + ((kk b : Nat) : Int))).toNat = kk a - m := by omega
  have e2 : (-1074 + ((kk b : Nat) : Int) - min (-1074 + ((kk a : Nat) : Int)) (-1074 + ((kk b : Nat) : Int))).toNat = kk b - m := by omega
  show some (compare (signed false (mg a) _) (signed false (mg b) _)) = _
  rw [e1, e2]
  congr 1
  show compare ((mg a <<< (kk a - m) : Nat) : Int) ((mg b <<< (kk b - m) : Nat) : Int) = _
  have v1 := shift_V a m (by omega)
  have v2 := shift_V b m (by omega)
  have hp : 0 < 2 ^ m := Nat.pow_pos (by decide)
  generalize mg a <<< (kk a - m) = x at v1 ⊢
  generalize mg b <<< (kk b - m) = y at v2 ⊢
  have hlt : a < b ↔ x < y := by
    constructor
    · intro h
      have := V_lt h
      rw [← v1, ← v2] at this
      exact Nat.lt_of_mul_lt_mul_right this
    · intro h
      rcases Nat.lt_or_ge a b with h2 | h2
      · exact h2
      · have := V_le h2
        rw [← v1, ← v2] at this
        have := Nat.le_of_mul_le_mul_right this hp
        omega
  have heq : a = b ↔ x = y := by
    constructor
    · rintro rfl
      exact Nat.eq_of_mul_eq_mul_right hp (v1.trans v2.symm)
    · rintro rfl
      rcases Nat.lt_trichotomy a b with h | h | h
      · have := V_lt h; omega
      · exact h
      · have := V_lt h; omega
  exact compare_like (by rw [hlt]; omega) (by rw [heq]; omega)
/-- The order of what is not negative and no NaN. -/
theorem order_pos (a b : Nat) (ha : a ≤ INF) (hb : b ≤ INF) : FloatKind.f64.format.order a b = some (compare a b) := by
  rcases Nat.eq_or_lt_of_le ha with rfl | ha1
  · show ((FloatKind.f64.format.read INF).order (FloatKind.f64.format.read b)) = _
    rw [read_inf]
    rcases Nat.eq_or_lt_of_le hb with rfl | hb1
    · rw [read_inf]
      rfl
    · rw [read_pos b hb1]
      show some Ordering.gt = _
      rw [Nat.compare_eq_gt.2 hb1]
  · rcases Nat.eq_or_lt_of_le hb with rfl | hb1
    · show ((FloatKind.f64.format.read a).order (FloatKind.f64.format.read INF)) = _
      rw [read_inf, read_pos a ha1]
      show some Ordering.lt = _
      rw [Nat.compare_eq_lt.2 ha1]
    · exact order_lt_inf a b ha1 hb1
end Go.Proofs.Ytnniljcmjcjleaa.Flo
