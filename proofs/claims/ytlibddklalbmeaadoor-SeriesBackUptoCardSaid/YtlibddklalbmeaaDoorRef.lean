/- What the reference's reader of bits comes to: the same plain functions as the program's. -/
import Derived.Test.YtlibddklalbmeaaDoorRead
namespace Go.Proofs.YtlibddklalbmeaaDoor
open Go.RowKit Go.Proofs.YtlibddklalbmeaaDoor.QA Go.Proofs.YtlibddklalbmeaaDoorW.PrintWords Go.Proofs.YtlibddklalbmeaaDoorW.PrintLast Go.Proofs.YtlibddklalbmeaaDoorW.PrintMore
set_option linter.unusedVariables false
set_option linter.unusedSimpArgs false

theorem take_loop (bs : List Nat) (hb : ∀ x ∈ bs, x < 256) (hl : bs.length ≤ 140737488351232) (a n : Nat) (hn : n ≤ 64) (ha : a + n ≤ 8 * bs.length) :
    ∀ (d j k : Nat), j + d = n → d < k → flumeref5_Bits_take.l0 k (n : Int) ((Ser.getv bs a j : Nat) : Int) (j : Int) (up bs) ((a + j : Nat) : Int) = some (((Ser.getv bs a n : Nat) : Int), true, ((a + n : Nat) : Int)) := by
  intro d
  induction d with
  | zero =>
    intro j k hj hk
    obtain ⟨k, rfl⟩ : ∃ m, k = m + 1 := ⟨k - 1, by omega⟩
    obtain rfl : j = n := by omega
    unfold flumeref5_Bits_take.l0
    rw [if_neg (by omega)]
  | succ d ih =>
    intro j k hj hk
    obtain ⟨k, rfl⟩ : ∃ m, k = m + 1 := ⟨k - 1, by omega⟩
    unfold flumeref5_Bits_take.l0
    have b1 : 0 ≤ (((a + j) / 8 : Nat) : Int) := by omega
    have b2 : (((a + j) / 8 : Nat) : Int) < ((up bs).length : Int) := by rw [up_length]; omega
    have b3 : 0 ≤ ((7 - (a + j) % 8 : Nat) : Int) := by omega
    rw [if_pos (show (j : Int) < (n : Int) by omega), at7, at8 _ (by omega), if_pos b1, if_pos b2, if_pos b3, bit_at bs hb,
      dbl_add _ _ (getv_lt63 bs a j (by omega)) (Ser.rbit_le bs (a + j)), ← getv_succ, w64_succ j (by omega), w64_succ (a + j) (by omega)]
    exact ih (j + 1) k (by omega) (by omega)

theorem take_eq (bs : List Nat) (hb : ∀ x ∈ bs, x < 256) (hl : bs.length ≤ 140737488351232) (a n k : Nat) (hn : n ≤ 64) (ha : a ≤ 8 * bs.length) (hk : n < k) :
    flumeref5_Bits_take.f k (up bs) (a : Int) (n : Int) = if 8 * bs.length - a < n then some (0, false, (a : Int)) else some (((Ser.getv bs a n : Nat) : Int), true, ((a + n : Nat) : Int)) := by
  unfold flumeref5_Bits_take.f
  rw [up_length, w64 ((bs.length : Int) * 8) (by omega), w64 _ (by omega)]
  by_cases h : 8 * bs.length - a < n
  · rw [if_pos h, if_pos (by omega)]
  · rw [if_neg h, if_neg (by omega)]
    have := take_loop bs hb hl a n hn (by omega) n 0 k (by omega) hk
    simpa [Ser.getv] using this

theorem u64_one (n : Nat) (h : n < 18446744073709551615) : IntKind.u64.wrap ((n : Int) + 1) = ((n + 1 : Nat) : Int) := by rw [wu64 _ (by omega)]; omega
theorem u64_add (m n : Nat) (h : m + n < 18446744073709551616) : IntKind.u64.wrap ((m : Int) + (n : Int)) = ((m + n : Nat) : Int) := by rw [wu64 _ (by omega)]; omega
theorem u64_sub (m n : Nat) (h : n ≤ m) (hm : m < 18446744073709551616) : IntKind.u64.wrap ((m : Int) - (n : Int)) = ((m - n : Nat) : Int) := by rw [wu64 _ (by omega)]; omega
theorem u64_pred (n : Nat) (h : n < 18446744073709551615) : IntKind.u64.wrap (((n + 1 : Nat) : Int) - 1) = (n : Int) := by rw [wu64 _ (by omega)]; omega
theorem tm2 (x : Nat) : Int.tmod (x : Int) 2 = ((x % 2 : Nat) : Int) := by rw [Int.tmod_eq_emod_of_nonneg (by omega)]; omega

theorem next_eq (bs : List Nat) (hb : ∀ x ∈ bs, x < 256) (hl : bs.length ≤ 140737488351232) (a k : Nat) (ha : a ≤ 8 * bs.length) (hk : 64 < k) :
    flumeref5_Bits_next.f k (up bs) (a : Int) = some ((((changeF bs a).1 : Nat) : Int), (((changeF bs a).2.1 : Nat) : Int), (((changeF bs a).2.2 : Nat) : Int)) ∨
    (∃ p, flumeref5_Bits_next.f k (up bs) (a : Int) = some (0, 2, p) ∧ (changeF bs a).2.1 = 2) := by
  unfold flumeref5_Bits_next.f changeF
  have g1 := take_eq bs hb hl a 1 k (by omega) ha (by omega)
  rw [show ((1 : Nat) : Int) = 1 from rfl] at g1
  generalize Ser.getv bs a 1 = fl at *
  by_cases h1 : 8 * bs.length - a < 1
  · rw [if_pos h1] at g1
    rw [g1, Option.bind_some, if_neg (by simp), if_pos h1]
    exact .inl rfl
  rw [if_neg h1] at g1
  rw [g1, Option.bind_some, if_pos rfl, if_neg h1]
  clear g1
  by_cases h2 : fl = 0
  · rw [if_pos h2, if_pos (by omega)]; exact .inl rfl
  rw [if_neg h2, if_neg (by omega)]
  have l1 := Ser.getv_lt bs (a + 1) 6
  have l2 := Ser.getv_lt bs (a + 7) 6
  have g2 := take_eq bs hb hl (a + 1) 6 k (by omega) (by omega) (by omega)
  rw [show ((6 : Nat) : Int) = 6 from rfl, show a + 1 + 6 = a + 7 by omega] at g2
  generalize Ser.getv bs (a + 1) 6 = ld at *
  by_cases h3 : 8 * bs.length - (a + 1) < 6
  · rw [if_pos h3] at g2
    rw [g2, Option.bind_some, if_neg (by simp), if_pos (by omega)]
    exact .inl rfl
  rw [if_neg h3] at g2
  rw [g2, Option.bind_some, if_pos rfl]
  clear g2
  have g3 := take_eq bs hb hl (a + 7) 6 k (by omega) (by omega) (by omega)
  rw [show ((6 : Nat) : Int) = 6 from rfl, show a + 7 + 6 = a + 13 by omega] at g3
  generalize Ser.getv bs (a + 7) 6 = nn at *
  by_cases h4 : 8 * bs.length - (a + 7) < 6
  · rw [if_pos h4] at g3
    rw [g3, Option.bind_some, if_neg (by simp), if_pos (by omega)]
    exact .inr ⟨_, rfl, rfl⟩
  rw [if_neg h4] at g3
  rw [g3, Option.bind_some, if_pos rfl, if_neg (show ¬ 8 * bs.length - (a + 1) < 12 by omega)]
  clear g3
  rw [u64_one nn (by omega), w64_nat (nn + 1) (by omega)]
  have l3 := getv_lt64 bs (a + 13) (nn + 1) (by omega)
  have l4 := Ser.getv_lt bs (a + 13) (nn + 1)
  have g4 := take_eq bs hb hl (a + 13) (nn + 1) k (by omega) (by omega) (by omega)
  generalize Ser.getv bs (a + 13) (nn + 1) = x at *
  by_cases h5 : 8 * bs.length - (a + 13) < nn + 1
  · rw [if_pos h5] at g4
    rw [g4, Option.bind_some, if_neg (by simp), if_pos h5]
    exact .inl rfl
  rw [if_neg h5] at g4
  rw [g4, Option.bind_some, if_pos rfl, if_neg h5]
  clear g4
  rw [u64_add ld (nn + 1) (by omega)]
  by_cases h6 : 64 < ld + (nn + 1)
  · rw [if_pos (by omega), if_pos (.inl h6)]; exact .inl rfl
  rw [if_neg (by omega), tm2]
  by_cases h7 : x % 2 = 0
  · rw [if_pos (by omega), if_pos (.inr (.inl h7))]; exact .inl rfl
  rw [if_neg (by omega), u64_pred nn (by omega), if_pos (by omega), shr_u64 x nn (by omega)]
  by_cases h8 : x >>> nn = 0
  · rw [if_pos (by rw [h8]; rfl), if_pos (.inr (.inr h8))]; exact .inl rfl
  have hno : ¬ (64 < ld + (nn + 1) ∨ x % 2 = 0 ∨ x >>> nn = 0) := by rintro (h | h | h) <;> contradiction
  have h7' : ¬ ((x >>> nn : Nat) : Int) = 0 := fun h => h8 (Int.natCast_eq_zero.1 h)
  rw [if_neg h7', if_neg hno]
  have hs1 : (0 : Int) ≤ ((64 - ld - (nn + 1) : Nat) : Int) := Int.natCast_nonneg _
  have hs2 : 64 - ld - (nn + 1) ≤ 64 := by omega
  have hs3 : nn + 1 + (64 - ld - (nn + 1)) ≤ 64 := by omega
  rw [show (64 : Int) - (ld : Int) = ((64 : Nat) : Int) - (ld : Int) from rfl, u64_sub 64 ld (by omega) (by decide), u64_sub (64 - ld) (nn + 1) (by omega) (by omega), if_pos hs1, shl_u64 _ _ hs2,
    Nat.mod_eq_of_lt (shl_fits x (nn + 1) _ l4 hs3)]
  exact .inl rfl
end Go.Proofs.YtlibddklalbmeaaDoor
