/- What the readers of bits come to, the program's and the reference's, as one plain function of the bytes and the place. -/
import Derived.Test.YtlibddklalbmeaaDoorPut
namespace Go.Proofs.YtlibddklalbmeaaDoor
open Go.RowKit Go.Proofs.YtlibddklalbmeaaDoor.QA Go.Proofs.YtlibddklalbmeaaDoorW.PrintWords Go.Proofs.YtlibddklalbmeaaDoorW.PrintLast Go.Proofs.YtlibddklalbmeaaDoorW.PrintMore
set_option linter.unusedVariables false
set_option linter.unusedSimpArgs false

theorem w64 (n : Int) (h : -9223372036854775808 ≤ n ∧ n ≤ 9223372036854775807) : wrap64 n = n := by unfold wrap64; omega
theorem wu64 (n : Int) (h : 0 ≤ n ∧ n < 18446744073709551616) : IntKind.u64.wrap n = n := by rw [IntKind.wrap_u64]; omega
theorem rd_up (bs : List Nat) (i : Nat) : rd (up bs) (i : Int) = ((bs.getD i 0 : Nat) : Int) := by
  unfold rd up
  rw [Int.toNat_natCast, List.getD_eq_getElem?_getD, List.getD_eq_getElem?_getD, List.getElem?_map]
  cases bs[i]? <;> rfl
theorem getD_lt (bs : List Nat) (h : ∀ x ∈ bs, x < 256) (i : Nat) : bs.getD i 0 < 256 := by
  rw [List.getD_eq_getElem?_getD]
  cases e : bs[i]? with
  | none => decide
  | some x => exact h x (List.mem_of_getElem? e)
theorem shr_u8 (b k : Nat) (hk : k ≤ 8) : shr .u8 (b : Int) (k : Int) = ((b >>> k : Nat) : Int) := by
  unfold shr
  rw [Int.toNat_natCast, Nat.min_eq_left (by simpa [IntKind.bits] using hk), Nat.shiftRight_eq_div_pow]
  simp
theorem shr_u64 (b k : Nat) (hk : k ≤ 64) : shr .u64 (b : Int) (k : Int) = ((b >>> k : Nat) : Int) := by
  unfold shr
  rw [Int.toNat_natCast, Nat.min_eq_left (by simpa [IntKind.bits] using hk), Nat.shiftRight_eq_div_pow]
  simp
theorem shl_u64 (b k : Nat) (hk : k ≤ 64) : shl .u64 (b : Int) (k : Int) = ((b * 2 ^ k % 18446744073709551616 : Nat) : Int) := by
  unfold shl
  rw [Int.toNat_natCast, Nat.min_eq_left (by simpa [IntKind.bits] using hk), IntKind.wrap_u64]
  simp
theorem td8 (a : Nat) : Int.tdiv (a : Int) 8 = ((a / 8 : Nat) : Int) := by rw [Int.tdiv_eq_ediv_of_nonneg (by omega)]; omega
theorem tm8 (a : Nat) : Int.tmod (a : Int) 8 = ((a % 8 : Nat) : Int) := by rw [Int.tmod_eq_emod_of_nonneg (by omega)]; omega

/-- The bit at a place, as both readers take it. -/
theorem bit_at (bs : List Nat) (hb : ∀ x ∈ bs, x < 256) (a : Nat) :
    bits .and .u8 (shr .u8 (rd (up bs) ((a / 8 : Nat) : Int)) ((7 - a % 8 : Nat) : Int)) 1 = ((Ser.rbit bs a : Nat) : Int) := by
  have h1 : bs.getD (a / 8) 0 >>> (7 - a % 8) < 256 := by
    rw [Nat.shiftRight_eq_div_pow]
    exact Nat.lt_of_le_of_lt (Nat.div_le_self _ _) (getD_lt bs hb _)
  rw [rd_up, shr_u8 _ _ (by omega), show (1 : Int) = ((1 : Nat) : Int) from rfl, u8_and_nat _ _ h1 (by decide)]
  rfl

theorem getv_lt64 (bs : List Nat) (a n : Nat) (h : n ≤ 64) : Ser.getv bs a n < 18446744073709551616 := by
  have h1 := Ser.getv_lt bs a n
  have h2 := Nat.pow_le_pow_right (show 0 < 2 by decide) h
  have h3 : (2 : Nat) ^ 64 = 18446744073709551616 := by decide
  omega

theorem w64_nat (n : Nat) (h : n ≤ 9223372036854775807) : wrap64 (n : Int) = (n : Int) := w64 _ (by omega)
theorem w64_succ (n : Nat) (h : n < 9223372036854775807) : wrap64 ((n : Int) + 1) = ((n + 1 : Nat) : Int) := by rw [w64 _ (by omega)]; omega
theorem w64_sub (m n : Nat) (h : n ≤ m) (hm : m ≤ 9223372036854775807) : wrap64 ((m : Int) - (n : Int)) = ((m - n : Nat) : Int) := by rw [w64 _ (by omega)]; omega
theorem w64_add (m n : Nat) (h : m + n ≤ 9223372036854775807) : wrap64 ((m : Int) + (n : Int)) = ((m + n : Nat) : Int) := by rw [w64 _ (by omega)]; omega
theorem w64_pred (n : Nat) (h : n ≤ 9223372036854775806) : wrap64 (((n + 1 : Nat) : Int) - 1) = (n : Int) := by rw [w64 _ (by omega)]; omega
theorem at7 (a : Nat) : wrap64 (7 - Int.tmod (a : Int) 8) = ((7 - a % 8 : Nat) : Int) := by rw [tm8, w64 _ (by omega)]; omega
theorem at8 (a : Nat) (h : a ≤ 9223372036854775807) : wrap64 (Int.tdiv (a : Int) 8) = ((a / 8 : Nat) : Int) := by rw [td8, w64 _ (by omega)]
theorem dbl_or (g r : Nat) (hg : g < 9223372036854775808) (hr : r ≤ 1) : bits .or .u64 (IntKind.u64.wrap ((g : Int) * 2)) (IntKind.u64.wrap (r : Int)) = ((2 * g + r : Nat) : Int) := by
  have e9 : IntKind.u64.wrap ((g : Int) * 2) = ((2 * g : Nat) : Int) := by rw [wu64 _ (by omega)]; omega
  have e10 : IntKind.u64.wrap (r : Int) = (r : Int) := wu64 _ (by omega)
  rw [e9, e10, u64_or_nat _ _ (by omega) (by omega), nat_join 1 _ _ (by omega) (by omega)]
theorem dbl_add (g r : Nat) (hg : g < 9223372036854775808) (hr : r ≤ 1) : IntKind.u64.wrap (IntKind.u64.wrap ((g : Int) * 2) + IntKind.u64.wrap (r : Int)) = ((2 * g + r : Nat) : Int) := by
  have e9 : IntKind.u64.wrap ((g : Int) * 2) = ((2 * g : Nat) : Int) := by rw [wu64 _ (by omega)]; omega
  have e10 : IntKind.u64.wrap (r : Int) = (r : Int) := wu64 _ (by omega)
  rw [e9, e10, wu64 _ (by omega)]; omega
theorem pow63 : (2 : Nat) ^ 63 = 9223372036854775808 := by decide
theorem getv_lt63 (bs : List Nat) (a n : Nat) (h : n ≤ 63) : Ser.getv bs a n < 9223372036854775808 := by
  have h1 := Ser.getv_lt bs a n
  have h2 := Nat.pow_le_pow_right (show 0 < 2 by decide) h
  rw [pow63] at h2
  omega

theorem getv_succ (bs : List Nat) (a j : Nat) : Ser.getv bs a (j + 1) = 2 * Ser.getv bs a j + Ser.rbit bs (a + j) := rfl

theorem pow64 : (2 : Nat) ^ 64 = 18446744073709551616 := by decide
theorem shl_fits (x n s : Nat) (h : x < 2 ^ n) (hn : n + s ≤ 64) : x * 2 ^ s < 18446744073709551616 := by
  have h8 : x * 2 ^ s < 2 ^ n * 2 ^ s := Nat.mul_lt_mul_of_pos_right h (Nat.two_pow_pos _)
  rw [← Nat.pow_add] at h8
  have h9 := Nat.pow_le_pow_right (show 0 < 2 by decide) hn
  rw [pow64] at h9
  exact Nat.lt_of_lt_of_le h8 h9

theorem get_loop (bs : List Nat) (hb : ∀ x ∈ bs, x < 256) (hl : bs.length ≤ 140737488351232) (a n : Nat) (hn : n ≤ 64) (ha : a + n ≤ 8 * bs.length) :
    ∀ (d j k : Nat), j + d = n → d < k → series_reader_get.l0 k ((Ser.getv bs a j : Nat) : Int) (n : Int) (j : Int) (up bs) ((a + j : Nat) : Int) = some (((Ser.getv bs a n : Nat) : Int), ((a + n : Nat) : Int)) := by
  intro d
  induction d with
  | zero =>
    intro j k hj hk
    obtain ⟨k, rfl⟩ : ∃ m, k = m + 1 := ⟨k - 1, by omega⟩
    obtain rfl : j = n := by omega
    unfold series_reader_get.l0
    rw [if_neg (by omega)]
  | succ d ih =>
    intro j k hj hk
    obtain ⟨k, rfl⟩ : ∃ m, k = m + 1 := ⟨k - 1, by omega⟩
    unfold series_reader_get.l0
    have b1 : 0 ≤ (((a + j) / 8 : Nat) : Int) := by omega
    have b2 : (((a + j) / 8 : Nat) : Int) < ((up bs).length : Int) := by rw [up_length]; omega
    have b3 : 0 ≤ ((7 - (a + j) % 8 : Nat) : Int) := by omega
    rw [if_pos (show (j : Int) < (n : Int) by omega), at7, at8 _ (by omega), if_pos b1, if_pos b2, if_pos b3, bit_at bs hb,
      dbl_or _ _ (getv_lt63 bs a j (by omega)) (Ser.rbit_le bs (a + j)), ← getv_succ, w64_succ j (by omega), w64_succ (a + j) (by omega)]
    exact ih (j + 1) k (by omega) (by omega)

theorem get_eq (bs : List Nat) (hb : ∀ x ∈ bs, x < 256) (hl : bs.length ≤ 140737488351232) (a n k : Nat) (hn : n ≤ 64) (ha : a + n ≤ 8 * bs.length) (hk : n < k) :
    series_reader_get.f k (up bs) (a : Int) (n : Int) = some (((Ser.getv bs a n : Nat) : Int), ((a + n : Nat) : Int)) := by
  have := get_loop bs hb hl a n hn ha n 0 k (by omega) hk
  simpa [series_reader_get.f, Ser.getv] using this

theorem left_eq (bs : List Nat) (hl : bs.length ≤ 140737488351232) (a : Nat) (ha : a ≤ 8 * bs.length) : series_reader_left.f (up bs) a = some (((8 * bs.length - a : Nat) : Int), (a : Int)) := by
  unfold series_reader_left.f
  rw [up_length, w64 (8 * (bs.length : Int)) (by omega), w64 _ (by omega)]
  congr 2; omega

/-- The difference at a place: the number, the error, the place behind. -/
def changeF (bs : List Nat) (a : Nat) : Nat × Nat × Nat :=
  if 8 * bs.length - a < 1 then (0, 2, a)
  else if Ser.getv bs a 1 = 0 then (0, 0, a + 1)
  else if 8 * bs.length - (a + 1) < 12 then (0, 2, a + 1)
  else if 8 * bs.length - (a + 13) < Ser.getv bs (a + 7) 6 + 1 then (0, 2, a + 13)
  else if 64 < Ser.getv bs (a + 1) 6 + (Ser.getv bs (a + 7) 6 + 1) ∨ Ser.getv bs (a + 13) (Ser.getv bs (a + 7) 6 + 1) % 2 = 0 ∨ Ser.getv bs (a + 13) (Ser.getv bs (a + 7) 6 + 1) >>> Ser.getv bs (a + 7) 6 = 0 then
    (0, 4, a + 13 + (Ser.getv bs (a + 7) 6 + 1))
  else (Ser.getv bs (a + 13) (Ser.getv bs (a + 7) 6 + 1) * 2 ^ (64 - Ser.getv bs (a + 1) 6 - (Ser.getv bs (a + 7) 6 + 1)), 0, a + 13 + (Ser.getv bs (a + 7) 6 + 1))

theorem change_eq (bs : List Nat) (hb : ∀ x ∈ bs, x < 256) (hl : bs.length ≤ 140737488351232) (a k : Nat) (ha : a ≤ 8 * bs.length) (hk : 64 < k) :
    series_reader_change.f k (up bs) (a : Int) = some ((((changeF bs a).1 : Nat) : Int), (((changeF bs a).2.1 : Nat) : Int), (((changeF bs a).2.2 : Nat) : Int)) := by
  unfold series_reader_change.f changeF
  rw [left_eq bs hl a ha]
  rw [Option.bind_some]
  by_cases h1 : 8 * bs.length - a < 1
  · rw [if_pos h1, if_pos (by omega)]; rfl
  rw [if_neg h1, if_neg (by omega)]
  have g1 := get_eq bs hb hl a 1 k (by omega) (by omega) (by omega)
  rw [show ((1 : Nat) : Int) = 1 from rfl] at g1
  generalize Ser.getv bs a 1 = fl at *
  rw [g1]
  rw [Option.bind_some]
  clear g1
  by_cases h2 : fl = 0
  · rw [if_pos h2, if_pos (by omega)]; rfl
  rw [if_neg h2, if_neg (by omega), left_eq bs hl (a + 1) (by omega)]
  rw [Option.bind_some]
  by_cases h3 : 8 * bs.length - (a + 1) < 12
  · rw [if_pos h3, if_pos (by omega)]; rfl
  rw [if_neg h3, if_neg (by omega)]
  have l1 := Ser.getv_lt bs (a + 1) 6
  have l2 := Ser.getv_lt bs (a + 7) 6
  have g2 := get_eq bs hb hl (a + 1) 6 k (by omega) (by omega) (by omega)
  rw [show ((6 : Nat) : Int) = 6 from rfl, show a + 1 + 6 = a + 7 by omega] at g2
  generalize Ser.getv bs (a + 1) 6 = ld at *
  rw [g2]
  rw [Option.bind_some]
  clear g2
  have g3 := get_eq bs hb hl (a + 7) 6 k (by omega) (by omega) (by omega)
  rw [show ((6 : Nat) : Int) = 6 from rfl, show a + 7 + 6 = a + 13 by omega] at g3
  generalize Ser.getv bs (a + 7) 6 = nn at *
  rw [g3]
  rw [Option.bind_some]
  clear g3
  rw [left_eq bs hl (a + 13) (by omega)]
  rw [Option.bind_some]
  rw [w64_nat nn (by omega), w64_succ nn (by omega)]
  by_cases h4 : 8 * bs.length - (a + 13) < nn + 1
  · rw [if_pos h4, if_pos (by omega)]; rfl
  have l3 := getv_lt64 bs (a + 13) (nn + 1) (by omega)
  have l4 := Ser.getv_lt bs (a + 13) (nn + 1)
  have g4 := get_eq bs hb hl (a + 13) (nn + 1) k (by omega) (by omega) (by omega)
  generalize Ser.getv bs (a + 13) (nn + 1) = x at *
  rw [if_neg h4, if_neg (by omega), g4]
  rw [Option.bind_some]
  clear g4
  have e2 : bits .and .u64 (x : Int) 1 = ((x % 2 : Nat) : Int) := by rw [show (1 : Int) = ((1 : Nat) : Int) from rfl, u64_and_nat _ _ l3 (by decide), nat_mask1]
  rw [w64_nat ld (by omega), w64_add ld (nn + 1) (by omega), e2, w64_pred nn (by omega)]
  clear e2
  by_cases h5 : 64 < ld + (nn + 1)
  · rw [if_pos (by omega), if_pos (.inl h5)]; rfl
  rw [if_neg (by omega)]
  by_cases h6 : x % 2 = 0
  · rw [if_pos (by omega), if_pos (.inr (.inl h6))]; rfl
  rw [if_neg (by omega), if_pos (by omega), shr_u64 x nn (by omega)]
  by_cases h7 : x >>> nn = 0
  · rw [if_pos (by omega), if_pos (.inr (.inr h7))]; rfl
  have hno : ¬ (64 < ld + (nn + 1) ∨ x % 2 = 0 ∨ x >>> nn = 0) := by rintro (h | h | h) <;> contradiction
  have h7' : ¬ ((x >>> nn : Nat) : Int) = 0 := fun h => h7 (Int.natCast_eq_zero.1 h)
  have hs1 : (0 : Int) ≤ ((64 - ld - (nn + 1) : Nat) : Int) := Int.natCast_nonneg _
  have hs2 : 64 - ld - (nn + 1) ≤ 64 := by omega
  have hs3 : nn + 1 + (64 - ld - (nn + 1)) ≤ 64 := by omega
  have hs4 : ld ≤ 64 := by omega
  have hs5 : nn + 1 ≤ 64 - ld := by omega
  have hs6 : 64 - ld ≤ 9223372036854775807 := by omega
  rw [if_neg h7', if_neg hno]
  rw [show (64 : Int) - (ld : Int) = ((64 : Nat) : Int) - (ld : Int) from rfl, w64_sub 64 ld hs4 (by decide), w64_sub (64 - ld) (nn + 1) hs5 hs6, if_pos hs1, shl_u64 _ _ hs2]
  rw [Nat.mod_eq_of_lt (shl_fits x (nn + 1) _ l4 hs3)]
  rfl

theorem changeF_place (bs : List Nat) (a : Nat) (ha : a ≤ 8 * bs.length) : (changeF bs a).2.2 ≤ 8 * bs.length ∧ (changeF bs a).1 < 18446744073709551616 := by
  unfold changeF
  have l4 := Ser.getv_lt bs (a + 13) (Ser.getv bs (a + 7) 6 + 1)
  repeat' split
  all_goals first
    | exact ⟨by dsimp only; omega, by dsimp only; decide⟩
    | (refine ⟨by dsimp only; omega, ?_⟩
       rename_i h
       exact shl_fits _ _ _ l4 (by omega))

/-- The i-th number's bits at a place, behind those of the one ahead. -/
def numF (bs : List Nat) (a i last : Nat) : Nat × Nat × Nat :=
  if 0 < i then (last ^^^ (changeF bs a).1, (changeF bs a).2.1, (changeF bs a).2.2)
  else if 8 * bs.length - a < 64 then (0, 2, a)
  else (Ser.getv bs a 64, 0, a + 64)

theorem number_eq (bs : List Nat) (hb : ∀ x ∈ bs, x < 256) (hl : bs.length ≤ 140737488351232) (a i last k : Nat) (hlast : last < 18446744073709551616) (ha : a ≤ 8 * bs.length) (hk : 64 < k) :
    series_reader_number.f k (up bs) (a : Int) (i : Int) (last : Int) = some ((((numF bs a i last).1 : Nat) : Int), (((numF bs a i last).2.1 : Nat) : Int), (((numF bs a i last).2.2 : Nat) : Int)) := by
  unfold series_reader_number.f numF
  by_cases hi : 0 < i
  · rw [if_pos hi, if_pos (by omega), change_eq bs hb hl a k ha hk]
    simp only [Option.bind_some]
    rw [u64_xor_nat _ _ hlast (changeF_place bs a ha).2]
  · rw [if_neg hi, if_neg (by omega), left_eq bs hl a ha]
    simp only [Option.bind_some]
    by_cases h1 : 8 * bs.length - a < 64
    · rw [if_pos h1, if_pos (by omega)]; rfl
    · have g := get_eq bs hb hl a 64 k (by omega) (by omega) hk
      rw [show ((64 : Nat) : Int) = 64 from rfl] at g
      rw [if_neg h1, if_neg (by omega), g]
      rfl

theorem numF_place (bs : List Nat) (a i last : Nat) (hlast : last < 18446744073709551616) (ha : a ≤ 8 * bs.length) : (numF bs a i last).2.2 ≤ 8 * bs.length ∧ (numF bs a i last).1 < 18446744073709551616 := by
  unfold numF
  have h := changeF_place bs a ha
  have h2 := getv_lt64 bs a 64 (by omega)
  split
  · exact ⟨h.1, Nat.xor_lt_two_pow (n := 64) hlast h.2⟩
  · split
    · exact ⟨by dsimp only; omega, by dsimp only; decide⟩
    · exact ⟨by dsimp only; omega, h2⟩

/-- The bits that fill the last byte: are they zero? The bytes, the error, the place. -/
def restF (bs : List Nat) : Nat → Nat → Nat × Nat × Nat
  | 0, a => (a / 8, 0, a)
  | n + 1, a => if a % 8 = 0 then (a / 8, 0, a) else if Ser.rbit bs a = 1 then (0, 4, a + 1) else restF bs n (a + 1)

theorem rest_loop (bs : List Nat) (hb : ∀ x ∈ bs, x < 256) (hl : bs.length ≤ 140737488351232) :
    ∀ (n a k : Nat), a ≤ 8 * bs.length → (8 - a % 8) % 8 ≤ n → n + 3 < k →
      series_reader_rest.l0 k (up bs) (a : Int) = some ((((restF bs n a).1 : Nat) : Int), (((restF bs n a).2.1 : Nat) : Int), (((restF bs n a).2.2 : Nat) : Int)) := by
  intro n
  induction n with
  | zero =>
    intro a k ha hn hk
    obtain ⟨k, rfl⟩ : ∃ m, k = m + 1 := ⟨k - 1, by omega⟩
    have h0 : a % 8 = 0 := by omega
    unfold series_reader_rest.l0 restF
    rw [tm8, if_pos (by omega), at8 a (by omega)]
    rfl
  | succ n ih =>
    intro a k ha hn hk
    obtain ⟨k, rfl⟩ : ∃ m, k = m + 1 := ⟨k - 1, by omega⟩
    unfold series_reader_rest.l0 restF
    by_cases h0 : a % 8 = 0
    · rw [tm8, if_pos (by omega), at8 a (by omega), if_pos h0]; rfl
    · have g := get_eq bs hb hl a 1 k (by omega) (by omega) (by omega)
      rw [show ((1 : Nat) : Int) = 1 from rfl] at g
      rw [tm8, if_neg (by omega), g, if_neg h0]
      simp only [Option.bind_some]
      have e : Ser.getv bs a 1 = Ser.rbit bs a := by simp [Ser.getv]
      rw [e]
      by_cases h1 : Ser.rbit bs a = 1
      · rw [if_pos (by omega), if_pos h1]; rfl
      · rw [if_neg (by omega), if_neg h1]
        exact ih (a + 1) k (by omega) (by omega) (by omega)

theorem rest_eq (bs : List Nat) (hb : ∀ x ∈ bs, x < 256) (hl : bs.length ≤ 140737488351232) (a k : Nat) (ha : a ≤ 8 * bs.length) (hk : 11 < k) :
    series_reader_rest.f k (up bs) (a : Int) = some ((((restF bs 7 a).1 : Nat) : Int), (((restF bs 7 a).2.1 : Nat) : Int), (((restF bs 7 a).2.2 : Nat) : Int)) :=
  rest_loop bs hb hl 7 a k ha (by omega) (by omega)
end Go.Proofs.YtlibddklalbmeaaDoor
