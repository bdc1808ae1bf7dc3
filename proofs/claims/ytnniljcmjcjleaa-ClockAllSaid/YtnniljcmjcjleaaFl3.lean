/- Sums of what is not negative, rounded; the order of any two numbers by their bits. Plain Lean. -/
import Derived.Test.YtnniljcmjcjleaaFl2
namespace Go.Proofs.Ytnniljcmjcjleaa.Flo
open Ieee
set_option linter.unusedVariables false

/-- What a rung stands for, by its binade's number. -/
theorem V_rung (l q : Nat) (hq : q ≤ 9007199254740992) (hl : 0 < l → 4503599627370496 ≤ q) : V (l * 4503599627370496 + q) = q * 2 ^ l := by
  unfold V mg kk B
  by_cases hb : q < 4503599627370496
  · have h0 : l = 0 := by
      rcases Nat.eq_zero_or_pos l with h | h
      · exact h
      · have := hl h; omega
    subst h0
    rw [if_pos (by omega), if_pos (by omega)]
    simp
  · rw [if_neg (by omega), if_neg (by omega)]
    rcases Nat.lt_or_ge q 9007199254740992 with h | h
    · have h1 : (l * 4503599627370496 + q) / 4503599627370496 = l + 1 := by omega
      have h2 : (l * 4503599627370496 + q) % 4503599627370496 = q - 4503599627370496 := by omega
      have h3 : 4503599627370496 + (q - 4503599627370496) = q := by omega
      rw [h1, h2, Nat.add_sub_cancel, h3]
    · have hqe : q = 9007199254740992 := by omega
      subst hqe
      have h1 : (l * 4503599627370496 + 9007199254740992) / 4503599627370496 = l + 2 := by omega
      have h2 : (l * 4503599627370496 + 9007199254740992) % 4503599627370496 = 0 := by omega
      rw [h1, h2]
      show (4503599627370496 + 0) * 2 ^ (l + 1) = _
      rw [Nat.pow_succ]
      omega
theorem word0 (r : Nat) : Format.word Ieee.double false r = r := by
  unfold Format.word
  rw [if_neg (by simp)]
/-- The rounded word, with the kept digits' place named. -/
theorem nearest_def (m : Nat) (p L : Int) (hm : m ≠ 0) (hL : max (p + (m.log2 : Int) - 52) (-1074) = L) : Format.nearest Ieee.double false m p = min ((L - -1074).toNat * 4503599627370496 + Toward.cut .even false (m <<< (p - L).toNat) (L - p).toNat) 9218868437227405312 := by
  subst hL
  rw [← e2, ← e3, ← e4, ← word0 (min _ _)]
  unfold Format.nearest
  rw [if_neg hm]
  rfl
theorem log_lt {n k : Nat} (h : n.log2 < k) : n < 2 ^ k := by
  rcases Nat.eq_zero_or_pos n with rfl | hn
  · exact Nat.pow_pos (by decide)
  · exact (Nat.log2_lt (by omega)).1 h
theorem log_le {n : Nat} (h : 0 < n) : 2 ^ n.log2 ≤ n := Nat.log2_self_le (by omega)
/-- Rounding: between two rungs that lie side by side, to one of them. -/
theorem nearest_spec (m b : Nat) (hm : 0 < m) : ∃ r0 c, Format.nearest Ieee.double false m (-1074 + (b : Int)) = min (r0 + c) 9218868437227405312 ∧ V r0 ≤ m * 2 ^ b ∧ m * 2 ^ b < V (r0 + 1) ∧ c ≤ 1 ∧ (c = 1 → V r0 < m * 2 ^ b) := by
  obtain ⟨l, hl⟩ : ∃ l, l = b + m.log2 - 52 := ⟨_, rfl⟩
  have hmax : max (-1074 + (b : Int) + (m.log2 : Int) - 52) (-1074) = -1074 + (l : Int) := by omega
  rw [nearest_def m _ _ (by omega) hmax]
  have a1 : (-1074 + (b : Int) - (-1074 + (l : Int))).toNat = b - l := by omega
  have a2 : (-1074 + (l : Int) - (-1074 + (b : Int))).toNat = l - b := by omega
  have a3 : (-1074 + (l : Int) - -1074).toNat = l := by omega
  rw [a1, a2, a3]
  have hlo := log_le hm
  have hhi := log_lt (Nat.lt_succ_self m.log2)
  rcases Nat.lt_or_ge b l with hbl | hbl
  · have hsh : m <<< (b - l) = m := by rw [Nat.sub_eq_zero_of_le (by omega)]; rfl
    rw [hsh]
    have hmin : min (l - b) (m.log2 + 2) = l - b := by omega
    have hd : l - b = m.log2 - 52 := by omega
    obtain ⟨q, hq⟩ : ∃ q, q = m / 2 ^ (l - b) := ⟨_, rfl⟩
    obtain ⟨t, ht⟩ : ∃ t, t = m % 2 ^ (l - b) := ⟨_, rfl⟩
    have hdm := Nat.div_add_mod m (2 ^ (l - b))
    have hp : 0 < 2 ^ (l - b) := Nat.pow_pos (by decide)
    have htl : t < 2 ^ (l - b) := by rw [ht]; exact Nat.mod_lt _ hp
    rw [← hq, ← ht] at hdm
    have h52 : 2 ^ m.log2 = 4503599627370496 * 2 ^ (l - b) := by
      have h2 : (2 : Nat) ^ 52 = 4503599627370496 := by decide
      have h3 : m.log2 = 52 + (l - b) := by omega
      have h4 : 2 ^ (52 + (l - b)) = 2 ^ 52 * 2 ^ (l - b) := Nat.pow_add 2 52 (l - b)
      rw [h2] at h4
      rw [h3]
      exact h4
    have h53 : 2 ^ (m.log2 + 1) = 9007199254740992 * 2 ^ (l - b) := by
      have h2 : (2 : Nat) ^ 53 = 9007199254740992 := by decide
      have h3 : m.log2 + 1 = 53 + (l - b) := by omega
      have h4 : 2 ^ (53 + (l - b)) = 2 ^ 53 * 2 ^ (l - b) := Nat.pow_add 2 53 (l - b)
      rw [h2] at h4
      rw [h3]
      exact h4
    have q1 : 4503599627370496 ≤ q := by rw [hq]; exact (Nat.le_div_iff_mul_le hp).2 (by omega)
    have q2 : q < 9007199254740992 := by rw [hq]; exact (Nat.div_lt_iff_lt_mul hp).2 (by omega)
    have hN : m * 2 ^ b = q * 2 ^ l + t * 2 ^ b := by
      have : 2 ^ l = 2 ^ (l - b) * 2 ^ b := by rw [← Nat.pow_add]; congr 1; omega
      rw [this, ← Nat.mul_assoc, ← Nat.add_mul, Nat.mul_comm q, hdm]
    have hpb : 0 < 2 ^ b := Nat.pow_pos (by decide)
    have ht2 : t * 2 ^ b < 2 ^ l := by
      have : 2 ^ l = 2 ^ (l - b) * 2 ^ b := by rw [← Nat.pow_add]; congr 1; omega
      rw [this]
      exact Nat.mul_lt_mul_of_pos_right htl hpb
    have v0 := V_rung l q (by omega) (fun _ => q1)
    have v1 := V_rung l (q + 1) (by omega) (fun _ => by omega)
    rw [Nat.add_mul, Nat.one_mul] at v1
    refine ⟨l * 4503599627370496 + q, (decide (2 ^ (l - b) < 2 * t) || (2 ^ (l - b) == 2 * t && q % 2 == 1)).toNat, ?_, ?_, ?_, ?_, ?_⟩
    · show min (l * 4503599627370496 + Toward.cut .even false m (l - b)) 9218868437227405312 = _
      unfold Toward.cut
      simp only [hmin]
      rw [Nat.one_shiftLeft, ← hq, ← ht, Nat.add_assoc]
    · rw [v0, hN]; omega
    · rw [Nat.add_assoc, v1, hN]; omega
    · generalize (decide (2 ^ (l - b) < 2 * t) || (2 ^ (l - b) == 2 * t && q % 2 == 1)) = c
      cases c <;> decide
    · intro hc
      rw [v0, hN]
      have : 0 < t := by
        rcases Nat.eq_zero_or_pos t with h0 | h0
        · rw [h0] at hc
          have c1 : decide (2 ^ (l - b) < 2 * 0) = false := by simp
          have c2 : (2 ^ (l - b) == 2 * 0) = false := by simp
          rw [c1, c2] at hc
          cases hc
        · exact h0
      have := Nat.mul_pos this hpb
      omega
  · have hz : l - b = 0 := by omega
    rw [hz]
    obtain ⟨q, hq⟩ : ∃ q, q = m <<< (b - l) := ⟨_, rfl⟩
    have hN : m * 2 ^ b = q * 2 ^ l := by
      rw [hq, Nat.shiftLeft_eq, Nat.mul_assoc, ← Nat.pow_add]
      congr 2
      omega
    have hqv : q = m * 2 ^ (b - l) := by rw [hq, Nat.shiftLeft_eq]
    have hlt : q < 9007199254740992 := by
      have h1 : m * 2 ^ (b - l) < 2 ^ (m.log2 + 1) * 2 ^ (b - l) := Nat.mul_lt_mul_of_pos_right hhi (Nat.pow_pos (by decide))
      rw [← Nat.pow_add] at h1
      have h2 : 2 ^ (m.log2 + 1 + (b - l)) ≤ 2 ^ 53 := Nat.pow_le_pow_right (by decide) (by omega)
      have h3 : (2 : Nat) ^ 53 = 9007199254740992 := by decide
      omega
    have hge : 0 < l → 4503599627370496 ≤ q := by
      intro h0
      have h1 : 2 ^ m.log2 * 2 ^ (b - l) ≤ m * 2 ^ (b - l) := Nat.mul_le_mul_right _ hlo
      rw [← Nat.pow_add] at h1
      have h2 : 2 ^ 52 ≤ 2 ^ (m.log2 + (b - l)) := Nat.pow_le_pow_right (by decide) (by omega)
      have h3 : (2 : Nat) ^ 52 = 4503599627370496 := by decide
      omega
    have v0 := V_rung l q (by omega) hge
    have v1 := V_rung l (q + 1) (by omega) (fun h => by have := hge h; omega)
    rw [Nat.add_mul, Nat.one_mul] at v1
    refine ⟨l * 4503599627370496 + q, 0, ?_, ?_, ?_, Nat.zero_le _, fun h => by omega⟩
    · show min (l * 4503599627370496 + Toward.cut .even false (m <<< (b - l)) 0) 9218868437227405312 = _
      rw [← hq]
      have hk : Toward.cut .even false q 0 = q := by
        unfold Toward.cut
        simp only [Nat.zero_min, Nat.shiftLeft_zero, Nat.div_one, Nat.mod_one]
        have h1 : decide (1 < 2 * 0) = false := by decide
        have h2 : ((1 : Nat) == 2 * 0) = false := by decide
        rw [h1, h2]
        simp
      rw [hk, Nat.add_zero]
    · rw [v0, hN]; exact Nat.le_refl _
    · rw [Nat.add_assoc, v1, hN]
      have : 0 < 2 ^ l := Nat.pow_pos (by decide)
      omega
/-- Rounding keeps the order. -/
theorem nearest_mono (m b : Nat) : ∃ s, Format.nearest Ieee.double false m (-1074 + (b : Int)) = s ∧ s ≤ 9218868437227405312 ∧ (∀ r, r ≤ 9218868437227405312 → V r ≤ m * 2 ^ b → r ≤ s) ∧ ∀ r, m * 2 ^ b ≤ V r → s ≤ r := by
  rcases Nat.eq_zero_or_pos m with rfl | hm
  · refine ⟨0, rfl, Nat.zero_le _, fun r _ h => ?_, fun _ _ => Nat.zero_le _⟩
    rw [Nat.zero_mul] at h
    rcases Nat.eq_zero_or_pos r with h0 | h0
    · omega
    · have := V_lt h0
      omega
  · obtain ⟨r0, c, h, h1, h2, h3, h4⟩ := nearest_spec m b hm
    refine ⟨_, h, Nat.min_le_right _ _, fun r hr hv => ?_, fun r hv => ?_⟩
    · have : r < r0 + 1 := by
        rcases Nat.lt_or_ge r (r0 + 1) with h5 | h5
        · exact h5
        · have := V_le h5; omega
      omega
    · have : r0 + c ≤ r := by
        rcases Nat.lt_or_ge r (r0 + c) with h5 | h5
        · exfalso
          have h6 : r ≤ r0 := by omega
          have h7 := V_le h6
          by_cases hc : c = 1
          · have := h4 hc; omega
          · have : r < r0 := by omega
            have := V_lt this
            omega
        · exact h5
      omega

/-- A sum of two finite numbers, not negative: it keeps the order. -/
theorem add_fin (a b : Nat) (ha : a < 9218868437227405312) (hb : b < 9218868437227405312) : ∃ s, FloatKind.f64.format.add a b = some s ∧ s ≤ 9218868437227405312 ∧ (∀ r, r ≤ 9218868437227405312 → V r ≤ V a + V b → r ≤ s) ∧ ∀ r, V a + V b ≤ V r → s ≤ r := by
  show ∃ s, ((FloatKind.f64.format.read a).sum (FloatKind.f64.format.read b)).map FloatKind.f64.format.write = some s ∧ _
  rw [read_pos a ha, read_pos b hb]
  obtain ⟨k, hk⟩ : ∃ k, k = min (kk a) (kk b) := ⟨_, rfl⟩
  have hp : min (-1074 + ((kk a : Nat) : Int)) (-1074 + ((kk b : Nat) : Int)) = -1074 + (k : Int) := by omega
  have u1 : (-1074 + ((kk a : Nat) : Int) - (-1074 + (k : Int))).toNat = kk a - k := by omega
  have u2 : (-1074 + ((kk b : Nat) : Int) - (-1074 + (k : Int))).toNat = kk b - k := by omega
  obtain ⟨t, ht⟩ : ∃ t : Nat, (mg a <<< (kk a - k)) + (mg b <<< (kk b - k)) = t := ⟨_, rfl⟩
  have hv : t * 2 ^ k = V a + V b := by
    rw [← ht, Nat.add_mul, shift_V a k (by omega), shift_V b k (by omega)]
  have e : signed false (mg a) (kk a - k) + signed false (mg b) (kk b - k) = ((t : Nat) : Int) := by
    rw [← ht]
    show ((mg a <<< _ : Nat) : Int) + ((mg b <<< _ : Nat) : Int) = _
    omega
  obtain ⟨s, h1, h2, h3, h4⟩ := nearest_mono t k
  rw [hv] at h3 h4
  refine ⟨s, ?_, h2, h3, h4⟩
  show some (Format.write Ieee.double (.number (if signed false (mg a) (-1074 + ((kk a : Nat) : Int) - min _ _).toNat + signed false (mg b) (-1074 + ((kk b : Nat) : Int) - min _ _).toNat = 0 then false && false else decide (signed false (mg a) (-1074 + ((kk a : Nat) : Int) - min _ _).toNat + signed false (mg b) (-1074 + ((kk b : Nat) : Int) - min _ _).toNat < 0)) _ _)) = _
  rw [hp, u1, u2, e]
  have eb : (if ((t : Nat) : Int) = 0 then false && false else decide (((t : Nat) : Int) < 0)) = false := by
    split
    · rfl
    · simp
  rw [eb]
  exact congrArg some h1
/-- A sum of what is not negative and no NaN is such a one. -/
theorem add_pos (a b : Nat) (ha : a ≤ 9218868437227405312) (hb : b ≤ 9218868437227405312) : ∃ s, FloatKind.f64.format.add a b = some s ∧ s ≤ 9218868437227405312 := by
  rcases Nat.eq_or_lt_of_le ha with rfl | ha1
  · refine ⟨9218868437227405312, ?_, Nat.le_refl _⟩
    show ((FloatKind.f64.format.read 9218868437227405312).sum (FloatKind.f64.format.read b)).map FloatKind.f64.format.write = _
    have hinf : FloatKind.f64.format.write (.infinity false) = 9218868437227405312 := by decide +kernel
    rw [show FloatKind.f64.format.read 9218868437227405312 = .infinity false from read_inf]
    rcases Nat.eq_or_lt_of_le hb with rfl | hb1
    · rw [show FloatKind.f64.format.read 9218868437227405312 = .infinity false from read_inf]
      exact congrArg some hinf
    · rw [read_pos b hb1]
      exact congrArg some hinf
  · rcases Nat.eq_or_lt_of_le hb with rfl | hb1
    · refine ⟨9218868437227405312, ?_, Nat.le_refl _⟩
      show ((FloatKind.f64.format.read a).sum (FloatKind.f64.format.read 9218868437227405312)).map FloatKind.f64.format.write = _
      have hinf : FloatKind.f64.format.write (.infinity false) = 9218868437227405312 := by decide +kernel
      rw [show FloatKind.f64.format.read 9218868437227405312 = .infinity false from read_inf, read_pos a ha1]
      exact congrArg some hinf
    · obtain ⟨s, h1, h2, _⟩ := add_fin a b ha1 hb1
      exact ⟨s, h1, h2⟩
theorem V_zero : V 0 = 0 := by decide
/-- 0 and x: x. -/
theorem add_zero (x : Nat) (hx : x ≤ 9218868437227405312) : FloatKind.f64.format.add 0 x = some x := by
  rcases Nat.eq_or_lt_of_le hx with rfl | h
  · decide +kernel
  · obtain ⟨s, h1, h2, h3, h4⟩ := add_fin 0 x (by decide) h
    rw [V_zero, Nat.zero_add] at h3 h4
    have := h3 x hx (Nat.le_refl _)
    have := h4 x (Nat.le_refl _)
    have : s = x := by omega
    rw [h1, this]
theorem add_zero' (x : Nat) (hx : x ≤ 9218868437227405312) : FloatKind.f64.format.add x 0 = some x := by
  rcases Nat.eq_or_lt_of_le hx with rfl | h
  · decide +kernel
  · obtain ⟨s, h1, h2, h3, h4⟩ := add_fin x 0 h (by decide)
    rw [V_zero, Nat.add_zero] at h3 h4
    have := h3 x hx (Nat.le_refl _)
    have := h4 x (Nat.le_refl _)
    have : s = x := by omega
    rw [h1, this]
theorem V_pow (k : Nat) : V ((k + 1) * 4503599627370496) = 4503599627370496 * 2 ^ k := by
  have h1 := V_rung k 4503599627370496 (by decide) (fun _ => Nat.le_refl _)
  have h2 : (k + 1) * 4503599627370496 = k * 4503599627370496 + 4503599627370496 := by omega
  rw [h2]
  exact h1
/-- A sum is at least either, and of two that are below one binade it is below the next. -/
theorem add_up (a b k : Nat) (ha : a ≤ (k + 1) * 4503599627370496) (hb : b ≤ (k + 1) * 4503599627370496) (hk : k + 1 < 2047) : ∃ s, FloatKind.f64.format.add a b = some s ∧ a ≤ s ∧ b ≤ s ∧ s ≤ (k + 2) * 4503599627370496 := by
  obtain ⟨s, h1, h2, h3, h4⟩ := add_fin a b (by omega) (by omega)
  refine ⟨s, h1, h3 a (by omega) (Nat.le_add_right _ _), h3 b (by omega) (Nat.le_add_left _ _), h4 _ ?_⟩
  have va := V_le ha
  have vb := V_le hb
  have v1 := V_pow k
  have v2 : V ((k + 2) * 4503599627370496) = 4503599627370496 * 2 ^ (k + 1) := V_pow (k + 1)
  rw [Nat.pow_succ] at v2
  rw [v2]
  rw [v1] at va vb
  generalize 2 ^ k = z at *
  omega

/-- -0 as 0. -/
def norm (x : Nat) : Nat := if x = 9223372036854775808 then 0 else x
theorem read_neg0 : FloatKind.f64.format.read 9223372036854775808 = .number true 0 (-1074) := by decide +kernel
theorem signed_zero (b : Bool) (u : Nat) : signed b 0 u = 0 := by cases b <;> simp [signed]
theorem order_zero (d : Datum) : (Datum.number true 0 (-1074)).order d = (Datum.number false 0 (-1074)).order d := by
  cases d with
  | number s m i =>
    show some (compare (signed true 0 _) _) = some (compare (signed false 0 _) _)
    rw [signed_zero, signed_zero]
  | infinity s => rfl
  | nan s f => rfl
theorem order_zero' (d : Datum) : d.order (Datum.number true 0 (-1074)) = d.order (Datum.number false 0 (-1074)) := by
  cases d with
  | number s m i =>
    show some (compare _ (signed true 0 _)) = some (compare _ (signed false 0 _))
    rw [signed_zero, signed_zero]
  | infinity s => rfl
  | nan s f => rfl
theorem order_norm (a b : Nat) : FloatKind.f64.format.order a b = FloatKind.f64.format.order (norm a) (norm b) := by
  have hl : ∀ a b, FloatKind.f64.format.order a b = FloatKind.f64.format.order (norm a) b := by
    intro a b
    unfold norm
    split
    · rename_i h
      subst h
      show (FloatKind.f64.format.read _).order _ = (FloatKind.f64.format.read _).order _
      rw [read_neg0, read_zero, order_zero]
    · rfl
  have hr : ∀ a b, FloatKind.f64.format.order a b = FloatKind.f64.format.order a (norm b) := by
    intro a b
    unfold norm
    split
    · rename_i h
      subst h
      show (FloatKind.f64.format.read _).order _ = (FloatKind.f64.format.read _).order _
      rw [read_neg0, read_zero, order_zero']
    · rfl
  rw [hl, hr]
/-- Below 0, or no number. -/
theorem read_bad (a : Nat) (ha : 9218868437227405312 < a) (h2 : a < 18446744073709551616) (hz : a ≠ 9223372036854775808) :
    (∃ s f, FloatKind.f64.format.read a = .nan s f) ∨ FloatKind.f64.format.read a = .infinity true ∨ ∃ m k : Nat, 0 < m ∧ FloatKind.f64.format.read a = .number true m (-1074 + (k : Int)) := by
  show (∃ s f, Format.read Ieee.double a = .nan s f) ∨ Format.read Ieee.double a = .infinity true ∨ ∃ m k : Nat, 0 < m ∧ Format.read Ieee.double a = .number true m (-1074 + (k : Int))
  unfold Format.read
  simp only [e1, e2, e3, e4]
  by_cases hn : a < 9223372036854775808
  · have a1 : a % 9223372036854775808 = a := Nat.mod_eq_of_lt hn
    rw [a1, if_neg (by omega), if_neg (by omega), if_neg (by omega)]
    exact .inl ⟨_, _, rfl⟩
  · have a2 : a / 9223372036854775808 = 1 := by omega
    rw [a2]
    have hb : (1 % 2 == 1) = true := rfl
    rw [hb]
    split
    · exact .inr (.inr ⟨a % 9223372036854775808, 0, by omega, rfl⟩)
    · split
      · exact .inr (.inr ⟨_, _, Nat.lt_of_lt_of_le (by decide) (Nat.le_add_right _ _), rfl⟩)
      · split
        · exact .inr (.inl rfl)
        · exact .inl ⟨_, _, rfl⟩
theorem signed_neg (m u : Nat) (h : 0 < m) : signed true m u < 0 := by
  unfold signed
  rw [if_pos rfl]
  have hz : 0 < m <<< u := by rw [Nat.shiftLeft_eq]; exact Nat.mul_pos h (Nat.pow_pos (by decide))
  generalize m <<< u = z at *
  omega
theorem signed_pos (m u : Nat) : 0 ≤ signed false m u := by
  unfold signed
  rw [if_neg (by simp)]
  exact Int.natCast_nonneg _
theorem cmp_lt {a b : Int} (h : a < b) : compare a b = .lt := by rw [cmpI, if_pos h]
theorem cmp_gt {a b : Int} (h : b < a) : compare a b = .gt := by rw [cmpI, if_neg (by omega), if_neg (by omega)]
theorem read_good (b : Nat) (hb : b ≤ 9218868437227405312) : FloatKind.f64.format.read b = .infinity false ∨ ∃ m k : Nat, FloatKind.f64.format.read b = .number false m (-1074 + (k : Int)) := by
  rcases Nat.eq_or_lt_of_le hb with rfl | h
  · exact .inl read_inf
  · exact .inr ⟨_, _, read_pos b h⟩
theorem order_bad (a b : Nat) (ha : 9218868437227405312 < a) (h2 : a < 18446744073709551616) (hz : a ≠ 9223372036854775808) (hb : b ≤ 9218868437227405312) :
    (FloatKind.f64.format.order a b = none ∧ FloatKind.f64.format.order b a = none) ∨ (FloatKind.f64.format.order a b = some .lt ∧ FloatKind.f64.format.order b a = some .gt) := by
  show ((FloatKind.f64.format.read a).order (FloatKind.f64.format.read b) = _ ∧ (FloatKind.f64.format.read b).order (FloatKind.f64.format.read a) = _) ∨ ((FloatKind.f64.format.read a).order (FloatKind.f64.format.read b) = _ ∧ (FloatKind.f64.format.read b).order (FloatKind.f64.format.read a) = _)
  rcases read_bad a ha h2 hz with ⟨s, f, h⟩ | h | ⟨m, k, hm, h⟩ <;> rw [h] <;> rcases read_good b hb with h3 | ⟨m2, k2, h3⟩ <;> rw [h3]
  · exact .inl ⟨rfl, rfl⟩
  · exact .inl ⟨rfl, rfl⟩
  · exact .inr ⟨rfl, rfl⟩
  · exact .inr ⟨rfl, rfl⟩
  · exact .inr ⟨rfl, rfl⟩
  · refine .inr ⟨?_, ?_⟩
    · show some (compare (signed true m _) (signed false m2 _)) = _
      rw [cmp_lt (by have := signed_neg m (-1074 + (k : Int) - min (-1074 + (k : Int)) (-1074 + (k2 : Int))).toNat hm; have := signed_pos m2 (-1074 + (k2 : Int) - min (-1074 + (k : Int)) (-1074 + (k2 : Int))).toNat; omega)]
    · show some (compare (signed false m2 _) (signed true m _)) = _
      rw [cmp_gt (by have := signed_neg m (-1074 + (k : Int) - min (-1074 + (k2 : Int)) (-1074 + (k : Int))).toNat hm; have := signed_pos m2 (-1074 + (k2 : Int) - min (-1074 + (k2 : Int)) (-1074 + (k : Int))).toNat; omega)]
theorem norm_lt {x : Nat} (h : x < 18446744073709551616) : norm x < 18446744073709551616 := by unfold norm; split <;> omega
theorem norm_ne (x : Nat) : norm x ≠ 9223372036854775808 := by unfold norm; split <;> omega
theorem norm_le {x : Nat} (h : x ≤ 9218868437227405312) : norm x = x := by unfold norm; rw [if_neg (by omega)]
/-- The order of two numbers that are not negative (or -0). -/
theorem order_good {a b : Nat} (ha : norm a ≤ 9218868437227405312) (hb : norm b ≤ 9218868437227405312) : FloatKind.f64.format.order a b = some (compare (norm a) (norm b)) := by
  rw [order_norm]
  exact order_pos _ _ ha hb
/-- What is not above b: a good one, or none. -/
theorem good_of {a b : Nat} (h2 : a < 18446744073709551616) (hb : norm b ≤ 9218868437227405312) (h : FloatKind.f64.format.order a b = some .gt ∨ FloatKind.f64.format.order a b = some .eq) : norm a ≤ 9218868437227405312 := by
  rcases Nat.lt_or_ge 9218868437227405312 (norm a) with hlt | hle
  · exfalso
    rw [order_norm] at h
    rcases order_bad (norm a) (norm b) hlt (norm_lt h2) (norm_ne a) hb with ⟨h1, _⟩ | ⟨h1, _⟩ <;> rw [h1] at h <;> rcases h with h | h <;> cases h
  · exact hle
theorem good_of' {a b : Nat} (h2 : a < 18446744073709551616) (hb : norm b ≤ 9218868437227405312) (h : FloatKind.f64.format.order b a = some .lt ∨ FloatKind.f64.format.order b a = some .eq) : norm a ≤ 9218868437227405312 := by
  rcases Nat.lt_or_ge 9218868437227405312 (norm a) with hlt | hle
  · exfalso
    rw [order_norm] at h
    rcases order_bad (norm a) (norm b) hlt (norm_lt h2) (norm_ne a) hb with ⟨_, h1⟩ | ⟨_, h1⟩ <;> rw [h1] at h <;> rcases h with h | h <;> cases h
  · exact hle
theorem plain_good {x : Nat} (h : norm x ≤ 9218868437227405312) : plainF x = (norm x, true) := by
  have h0 := order_good (a := x) (b := 0) h (by decide)
  have hn0 : norm 0 = 0 := by decide
  rw [hn0] at h0
  unfold plainF
  rw [h0]
  rcases Nat.eq_zero_or_pos (norm x) with hz | hz
  · rw [hz]
    rfl
  · rw [Nat.compare_eq_gt.2 hz]
    have hx : norm x = x := by
      unfold norm at hz ⊢
      split
      · rename_i h9
        rw [if_pos h9] at hz
        omega
      · rfl
    rw [hx]
    rfl
theorem plain_bad {x : Nat} (hx : x < 18446744073709551616) (h : 9218868437227405312 < norm x) : (plainF x).2 = false := by
  have h0 := order_norm x 0
  have hn0 : norm 0 = 0 := by decide
  rw [hn0] at h0
  unfold plainF
  rw [h0]
  rcases order_bad (norm x) 0 h (norm_lt hx) (norm_ne x) (by decide) with ⟨h1, _⟩ | ⟨h1, _⟩ <;> rw [h1] <;> rfl
theorem plain_ok {x : Nat} (hx : x < 18446744073709551616) : (plainF x).2 = decide (norm x ≤ 9218868437227405312) := by
  by_cases h : norm x ≤ 9218868437227405312
  · rw [plain_good h, decide_eq_true h]
  · rw [plain_bad hx (by omega), decide_eq_false h]
theorem infP_good {x : Nat} (h : norm x ≤ 9218868437227405312) : infP x = decide (norm x = 9218868437227405312) := by
  unfold infP
  rw [order_good h (by decide)]
  have hn : norm 9218868437227405311 = 9218868437227405311 := by decide
  rw [hn]
  by_cases hx : norm x = 9218868437227405312
  · rw [hx, decide_eq_true rfl]
    rfl
  · rw [decide_eq_false hx]
    rcases Nat.lt_or_ge (norm x) 9218868437227405311 with h1 | h1
    · rw [Nat.compare_eq_lt.2 h1]
      rfl
    · rw [Nat.compare_eq_eq.2 (show norm x = 9218868437227405311 by omega)]
      rfl
theorem ltF_good {a b : Nat} (ha : norm a ≤ 9218868437227405312) (hb : norm b ≤ 9218868437227405312) : ltF a b = decide (norm a < norm b) := by
  unfold ltF
  rw [order_good ha hb]
  rcases Nat.lt_trichotomy (norm a) (norm b) with h | h | h
  · rw [Nat.compare_eq_lt.2 h, decide_eq_true h]; rfl
  · rw [Nat.compare_eq_eq.2 h, decide_eq_false (by omega)]; rfl
  · rw [Nat.compare_eq_gt.2 h, decide_eq_false (by omega)]; rfl
theorem leF_good {a b : Nat} (ha : norm a ≤ 9218868437227405312) (hb : norm b ≤ 9218868437227405312) : leF a b = decide (norm a ≤ norm b) := by
  unfold leF
  rw [order_good ha hb]
  rcases Nat.lt_trichotomy (norm a) (norm b) with h | h | h
  · rw [Nat.compare_eq_lt.2 h, decide_eq_true (by omega)]; rfl
  · rw [Nat.compare_eq_eq.2 h, decide_eq_true (by omega)]; rfl
  · rw [Nat.compare_eq_gt.2 h, decide_eq_false (by omega)]; rfl
theorem okGo_good {now d : Nat} (hn : now < 9218868437227405312) (hd : d < 18446744073709551616) : okGo now d = (decide (norm d < 9218868437227405312) && decide (now ≤ norm d)) := by
  unfold okGo
  rw [plain_ok hd]
  have hnn : norm now = now := norm_le (by omega)
  by_cases h : norm d ≤ 9218868437227405312
  · rw [plain_good h]
    show (decide (norm d ≤ 9218868437227405312) && !ltF (norm d) now && !infP (norm d)) = _
    have h2 : norm (norm d) = norm d := norm_le h
    rw [ltF_good (by rw [h2]; exact h) (by omega), infP_good (by rw [h2]; exact h), h2, hnn]
    by_cases h3 : norm d = 9218868437227405312
    · rw [h3]; simp
    · by_cases h4 : norm d < now
      · simp [h, h3, h4, show ¬ now ≤ norm d by omega]
      · simp [h, h3, h4, show now ≤ norm d by omega, show norm d < 9218868437227405312 by omega]
  · rw [decide_eq_false h, decide_eq_false (by omega)]
    rfl
end Go.Proofs.Ytnniljcmjcjleaa.Flo
