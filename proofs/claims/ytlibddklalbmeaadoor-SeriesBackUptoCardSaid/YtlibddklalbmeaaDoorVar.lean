/- Lengths ahead of a list: written, and read by the program and by the reference: one plain function. -/
import Derived.Test.YtlibddklalbmeaaDoorLaws
namespace Go.Proofs.YtlibddklalbmeaaDoor
open Go.RowKit Go.Proofs.YtlibddklalbmeaaDoor.QA Go.Proofs.YtlibddklalbmeaaDoorW.PrintWords Go.Proofs.YtlibddklalbmeaaDoorW.PrintLast Go.Proofs.YtlibddklalbmeaaDoorW.PrintMore
set_option linter.unusedVariables false
set_option linter.unusedSimpArgs false

/-- A length's bytes (for lengths of at most 16383). -/
def varB (n : Nat) : List Nat := if n < 128 then [n] else [n % 128 + 128, n / 128]

theorem varint_eq (n : Nat) (hn : n ≤ 4096) : wire_Varint.f 20 (n : Int) = some (up (varB n)) := by
  unfold wire_Varint.f varB
  rw [wire_Varint.l0]
  by_cases h : n < 128
  · rw [if_neg (by omega), if_pos (by decide), if_pos h, List.nil_append, show (n : Int) % 256 = (n : Int) by omega]
    rfl
  · rw [if_pos (by omega), if_pos (by decide), if_neg h, List.nil_append, wire_Varint.l0, if_neg (by omega), if_pos (by simp)]
    have e : Go.bits .or .u8 ((n : Int) % 256) 128 = ((n % 128 + 128 : Nat) : Int) := by
      rw [show (n : Int) % 256 = ((n % 256 : Nat) : Int) by omega, show (128 : Int) = ((128 : Nat) : Int) from rfl, u8_or_nat _ _ (by omega) (by omega)]
      congr 1
      apply Nat.eq_of_testBit_eq
      intro i
      rw [Nat.testBit_or]
      have e1 : n % 128 + 128 = 2 ^ 7 * 1 + n % 2 ^ 7 := by simp; omega
      rw [e1, Nat.testBit_two_pow_mul_add 1 (Nat.mod_lt _ (by decide)), show (256 : Nat) = 2 ^ 8 from rfl, Nat.testBit_mod_two_pow, Nat.testBit_mod_two_pow, show (128 : Nat) = 2 ^ 7 from rfl, Nat.testBit_two_pow]
      by_cases h7 : i < 7
      · simp [h7, show i < 8 by omega, show ¬ 7 = i by omega]
      · by_cases h8 : i = 7
        · subst h8; simp
        · have : ¬ i < 8 := by omega
          simp [h7, this, show ¬ 7 = i by omega]
          rw [show (1 : Nat) = 2 ^ 0 from rfl, Nat.testBit_two_pow]
          simp; omega
    rw [e, show (n : Int) / 128 % 256 = ((n / 128 : Nat) : Int) by omega]
    rfl

theorem varB_length (n : Nat) : (varB n).length = if n < 128 then 1 else 2 := by
  unfold varB; split <;> rfl
theorem varB_lt (n : Nat) (hn : n ≤ 4096) : ∀ x ∈ varB n, x < 256 := by
  unfold varB
  split
  · intro x hx; simp at hx; omega
  · intro x hx; simp at hx; omega

/-- What both readers of a length come to. -/
def rvF (l : List Nat) : Nat → Nat → Nat → Nat × Nat × Nat
  | 0, _, _ => (0, 0, 2)
  | d + 1, i, acc => if l.length ≤ i then (0, 0, 2) else if i = 9 ∧ 1 < l.getD i 0 then (0, 0, 4) else
      if 128 ≤ l.getD i 0 then rvF l d (i + 1) (acc + l.getD i 0 % 128 * 128 ^ i) else if 0 < i ∧ l.getD i 0 = 0 then (0, 0, 4) else (acc + l.getD i 0 * 128 ^ i, i + 1, 0)

theorem pow128 (i : Nat) : (128 : Nat) ^ i = 2 ^ (7 * i) := by rw [show (128 : Nat) = 2 ^ 7 from rfl, ← Nat.pow_mul]
theorem part_lt (acc b i : Nat) (ha : acc < 128 ^ i) (hi : i ≤ 9) (hb : b < 128) (h9 : i = 9 → b ≤ 1) : acc + b * 128 ^ i < 18446744073709551616 ∧ b * 128 ^ i < 18446744073709551616 := by
  have hs : (128 : Nat) ^ 9 = 9223372036854775808 := by decide
  by_cases h : i = 9
  · subst h
    have := h9 rfl
    rw [hs] at *
    omega
  · have h8 : (128 : Nat) ^ i ≤ 128 ^ 8 := Nat.pow_le_pow_right (by decide) (by omega)
    have e8 : (128 : Nat) ^ 8 = 72057594037927936 := by decide
    rw [e8] at h8
    have : b * 128 ^ i ≤ 127 * 72057594037927936 := Nat.mul_le_mul (by omega) h8
    omega
theorem acc_lt (acc b i : Nat) (ha : acc < 128 ^ i) (hb : b < 128) : acc + b * 128 ^ i < 128 ^ (i + 1) := by
  rw [Nat.pow_succ]
  have : b * 128 ^ i ≤ 127 * 128 ^ i := Nat.mul_le_mul_right _ (by omega)
  omega
theorem or_part (acc b i : Nat) (ha : acc < 128 ^ i) (hi : i ≤ 9) (hb : b < 128) (h9 : i = 9 → b ≤ 1) :
    Go.bits .or .u64 (acc : Int) (shl .u64 (IntKind.u64.wrap (b : Int)) (wrap64 (7 * (i : Int)))) = ((acc + b * 128 ^ i : Nat) : Int) := by
  obtain ⟨h1, h2⟩ := part_lt acc b i ha hi hb h9
  rw [wu64 _ (by omega), w64 _ (by omega), show (7 * (i : Int)) = ((7 * i : Nat) : Int) by omega, shl_u64 _ _ (by omega), ← pow128, Nat.mod_eq_of_lt h2, u64_or_nat _ _ (by omega) h2]
  congr 1
  rw [pow128] at ha ⊢
  rw [Nat.or_comm, Nat.add_comm, Nat.mul_comm]
  exact (Nat.two_pow_add_eq_or_of_lt ha b).symm

theorem and127 (b : Nat) (hb : b < 256) : Go.bits .and .u8 (b : Int) 127 = ((b % 128 : Nat) : Int) := by
  rw [show (127 : Int) = ((127 : Nat) : Int) from rfl, u8_and_nat _ _ hb (by decide), show (127 : Nat) = 2 ^ 7 - 1 from rfl, Nat.and_two_pow_sub_one_eq_mod]

theorem prog_rv (l : List Nat) (hb : ∀ x ∈ l, x < 256) (hl : l.length ≤ 140737488351232) : ∀ (d i acc k : Nat), i + d = 10 → acc < 128 ^ i → 3 * d + 3 < k →
    wire_ReadVarint.l0 k (up l) (acc : Int) (i : Int) = some ((((rvF l d i acc).1 : Nat) : Int), (((rvF l d i acc).2.1 : Nat) : Int), (((rvF l d i acc).2.2 : Nat) : Int)) := by
  intro d
  induction d with
  | zero =>
    intro i acc k hi ha hk
    obtain ⟨k, rfl⟩ : ∃ m, k = m + 2 := ⟨k - 2, by omega⟩
    obtain rfl : i = 10 := by omega
    rw [wire_ReadVarint.l0, wire_ReadVarint.j1, wire_ReadVarint.j1]
    split
    · rw [if_neg (by simp)]; rfl
    · rw [if_neg (by simp)]; rfl
  | succ d ih =>
    intro i acc k hi ha hk
    obtain ⟨k, rfl⟩ : ∃ m, k = m + 3 := ⟨k - 3, by omega⟩
    rw [wire_ReadVarint.l0, wire_ReadVarint.j1, wire_ReadVarint.j1, up_length, rvF]
    by_cases h1 : l.length ≤ i
    · rw [if_neg (by omega), if_neg (by simp), if_pos h1]; rfl
    rw [if_pos (by omega), if_neg h1, if_pos (by simp; omega), if_pos (by omega), if_pos (by omega), rd_up]
    have hbi := getD_lt l hb i
    generalize l.getD i 0 = b at *
    have j2 : ∀ x : Bool, x = decide (i = 9 ∧ 1 < b) → wire_ReadVarint.j2 (k + 1) (up l) (acc : Int) (i : Int) (b : Int) x =
        some ((((if i = 9 ∧ 1 < b then (0, 0, 4) else if 128 ≤ b then rvF l d (i + 1) (acc + b % 128 * 128 ^ i) else if 0 < i ∧ b = 0 then (0, 0, 4) else (acc + b * 128 ^ i, i + 1, 0) : Nat × Nat × Nat).1 : Nat) : Int),
          (((if i = 9 ∧ 1 < b then (0, 0, 4) else if 128 ≤ b then rvF l d (i + 1) (acc + b % 128 * 128 ^ i) else if 0 < i ∧ b = 0 then (0, 0, 4) else (acc + b * 128 ^ i, i + 1, 0) : Nat × Nat × Nat).2.1 : Nat) : Int),
          (((if i = 9 ∧ 1 < b then (0, 0, 4) else if 128 ≤ b then rvF l d (i + 1) (acc + b % 128 * 128 ^ i) else if 0 < i ∧ b = 0 then (0, 0, 4) else (acc + b * 128 ^ i, i + 1, 0) : Nat × Nat × Nat).2.2 : Nat) : Int)) := by
      intro x hx
      rw [wire_ReadVarint.j2]
      by_cases h2 : i = 9 ∧ 1 < b
      · rw [if_pos (by rw [hx]; simpa using h2), if_pos h2]; rfl
      rw [if_neg (by rw [hx]; simpa using h2), if_neg h2, if_pos (by rw [w64 _ (by omega)]; omega), and127 b hbi]
      by_cases h3 : 128 ≤ b
      · have h9 : i ≠ 9 := fun h => h2 ⟨h, by omega⟩
        rw [if_pos (by omega), if_pos h3, or_part acc (b % 128) i ha (by omega) (Nat.mod_lt _ (by decide)) (fun h => absurd h h9), w64_succ i (by omega)]
        exact ih (i + 1) _ _ (by omega) (acc_lt acc _ i ha (Nat.mod_lt _ (by decide))) (by omega)
      · rw [if_neg (by omega), if_neg h3, Nat.mod_eq_of_lt (by omega), or_part acc b i ha (by omega) (by omega) (fun h => by have : ¬ (1 < b) := fun h4 => h2 ⟨h, h4⟩; omega), w64_succ i (by omega)]
        by_cases h4 : 0 < i
        · rw [if_pos (by omega)]
          by_cases h5 : b = 0
          · rw [if_pos (by omega), if_pos ⟨h4, h5⟩]; rfl
          · rw [if_neg (by omega), if_neg (fun h => h5 h.2)]; rfl
        · rw [if_neg (by omega), if_neg (fun h => h4 h.1)]; rfl
    by_cases h9 : i = 9
    · rw [if_pos (by omega)]
      exact j2 _ (by by_cases hb1 : 1 < b <;> simp [h9, hb1] <;> omega)
    · rw [if_neg (by omega)]
      exact j2 _ (by simp [h9])

theorem tm128 (b : Nat) : Int.tmod (b : Int) 128 = ((b % 128 : Nat) : Int) := by rw [Int.tmod_eq_emod_of_nonneg (by omega)]; omega
theorem add_part (acc b i : Nat) (ha : acc < 128 ^ i) (hi : i ≤ 9) (hb : b < 128) (h9 : i = 9 → b ≤ 1) :
    IntKind.u64.wrap ((acc : Int) + IntKind.u64.wrap ((b : Int) * ((128 ^ i : Nat) : Int))) = ((acc + b * 128 ^ i : Nat) : Int) := by
  obtain ⟨h1, h2⟩ := part_lt acc b i ha hi hb h9
  rw [show (b : Int) * ((128 ^ i : Nat) : Int) = ((b * 128 ^ i : Nat) : Int) by rw [Int.natCast_mul]]
  obtain ⟨y, hy⟩ : ∃ y, y = b * 128 ^ i := ⟨_, rfl⟩
  rw [← hy] at h1 h2 ⊢
  clear hy ha
  have h3 : (0 : Int) ≤ (y : Int) := Int.natCast_nonneg y
  rw [wu64 (y : Int) ⟨h3, by omega⟩, wu64 _ ⟨by omega, by omega⟩]
  exact (Int.natCast_add acc y).symm

/-- One round of both. -/
theorem ref_round (l : List Nat) (hb : ∀ x ∈ l, x < 256) (hl : l.length ≤ 140737488351232) (d i acc k : Nat) (hi : i + d = 9) (ha : acc < 128 ^ i) (hil : i ≤ l.length)
    (ih : i ≠ 9 → ∀ acc2 : Nat, acc2 < 128 ^ (i + 1) → i + 1 ≤ l.length → flumeref1_ReadVarint.l0 k (up l) (acc2 : Int) ((128 ^ (i + 1) : Nat) : Int) ((i + 1 : Nat) : Int) = some ((((rvF l d (i + 1) acc2).1 : Nat) : Int), (((rvF l d (i + 1) acc2).2.1 : Nat) : Int), (((rvF l d (i + 1) acc2).2.2 : Nat) : Int))) :
    flumeref1_ReadVarint.l0 (k + 2) (up l) (acc : Int) ((128 ^ i : Nat) : Int) (i : Int) = some ((((rvF l (d + 1) i acc).1 : Nat) : Int), (((rvF l (d + 1) i acc).2.1 : Nat) : Int), (((rvF l (d + 1) i acc).2.2 : Nat) : Int)) := by
  rw [flumeref1_ReadVarint.l0, up_length, rvF, if_pos (by omega)]
  by_cases h1 : l.length ≤ i
  · rw [if_pos (by omega), if_pos h1]; rfl
  rw [if_neg (by omega), if_neg h1, if_pos (by omega), if_pos (by omega), rd_up]
  have hbi := getD_lt l hb i
  generalize l.getD i 0 = b at *
  rw [wu64 (b : Int) (by omega)]
  have j1 : ∀ x : Bool, x = decide (i = 9 ∧ 1 < b) → flumeref1_ReadVarint.j1 (k + 1) (up l) (acc : Int) ((128 ^ i : Nat) : Int) (i : Int) (b : Int) x =
      some ((((if i = 9 ∧ 1 < b then (0, 0, 4) else if 128 ≤ b then rvF l d (i + 1) (acc + b % 128 * 128 ^ i) else if 0 < i ∧ b = 0 then (0, 0, 4) else (acc + b * 128 ^ i, i + 1, 0) : Nat × Nat × Nat).1 : Nat) : Int),
        (((if i = 9 ∧ 1 < b then (0, 0, 4) else if 128 ≤ b then rvF l d (i + 1) (acc + b % 128 * 128 ^ i) else if 0 < i ∧ b = 0 then (0, 0, 4) else (acc + b * 128 ^ i, i + 1, 0) : Nat × Nat × Nat).2.1 : Nat) : Int),
        (((if i = 9 ∧ 1 < b then (0, 0, 4) else if 128 ≤ b then rvF l d (i + 1) (acc + b % 128 * 128 ^ i) else if 0 < i ∧ b = 0 then (0, 0, 4) else (acc + b * 128 ^ i, i + 1, 0) : Nat × Nat × Nat).2.2 : Nat) : Int)) := by
    intro x hx
    rw [flumeref1_ReadVarint.j1]
    by_cases h2 : i = 9 ∧ 1 < b
    · rw [if_pos (by rw [hx]; simpa using h2), if_pos h2]; rfl
    rw [if_neg (by rw [hx]; simpa using h2), if_neg h2, tm128]
    by_cases h3 : 128 ≤ b
    · have h9 : i ≠ 9 := fun h => h2 ⟨h, by omega⟩
      have hs : IntKind.u64.wrap (((128 ^ i : Nat) : Int) * 128) = ((128 ^ (i + 1) : Nat) : Int) := by
        have h8 : (128 : Nat) ^ i ≤ 128 ^ 8 := Nat.pow_le_pow_right (by decide) (by omega)
        have e8 : (128 : Nat) ^ 8 = 72057594037927936 := by decide
        rw [e8] at h8
        rw [Nat.pow_succ]
        generalize (128 : Nat) ^ i = y at *
        rw [wu64 _ (by omega)]; omega
      rw [if_neg (by omega), if_pos h3, add_part acc (b % 128) i ha (by omega) (Nat.mod_lt _ (by decide)) (fun h => absurd h h9), w64_succ i (by omega), hs]
      exact ih h9 _ (acc_lt acc _ i ha (Nat.mod_lt _ (by decide))) (by omega)
    · rw [if_pos (by omega), if_neg h3, Nat.mod_eq_of_lt (by omega), add_part acc b i ha (by omega) (by omega) (fun h => by have : ¬ (1 < b) := fun h4 => h2 ⟨h, h4⟩; omega), w64_succ i (by omega)]
      by_cases h4 : 0 < i
      · rw [if_pos (by omega)]
        by_cases h5 : b = 0
        · rw [if_pos (by omega), if_pos ⟨h4, h5⟩]; rfl
        · rw [if_neg (by omega), if_neg (fun h => h5 h.2)]; rfl
      · rw [if_neg (by omega), if_neg (fun h => h4 h.1)]; rfl
  by_cases h9 : i = 9
  · rw [if_pos (by omega)]
    exact j1 _ (by by_cases hb1 : 1 < b <;> simp [h9, hb1] <;> omega)
  · rw [if_neg (by omega)]
    exact j1 _ (by simp [h9])

theorem ref_rv (l : List Nat) (hb : ∀ x ∈ l, x < 256) (hl : l.length ≤ 140737488351232) : ∀ (d i acc k : Nat), i + d = 9 → acc < 128 ^ i → 3 * d + 6 < k → i ≤ l.length →
    flumeref1_ReadVarint.l0 k (up l) (acc : Int) ((128 ^ i : Nat) : Int) (i : Int) = some ((((rvF l (d + 1) i acc).1 : Nat) : Int), (((rvF l (d + 1) i acc).2.1 : Nat) : Int), (((rvF l (d + 1) i acc).2.2 : Nat) : Int)) := by
  intro d
  induction d with
  | zero =>
    intro i acc k hi ha hk hil
    obtain ⟨k, rfl⟩ : ∃ m, k = m + 2 := ⟨k - 2, by omega⟩
    exact ref_round l hb hl 0 i acc k hi ha hil (fun h => absurd (by omega) h)
  | succ d ih =>
    intro i acc k hi ha hk hil
    obtain ⟨k, rfl⟩ : ∃ m, k = m + 2 := ⟨k - 2, by omega⟩
    exact ref_round l hb hl (d + 1) i acc k hi ha hil (fun _ acc2 h2 hl2 => ih (i + 1) acc2 k (by omega) h2 (by omega) hl2)

theorem prog_read (l : List Nat) (hb : ∀ x ∈ l, x < 256) (hl : l.length ≤ 140737488351232) :
    wire_ReadVarint.f 40 (up l) = some ((((rvF l 10 0 0).1 : Nat) : Int), (((rvF l 10 0 0).2.1 : Nat) : Int), (((rvF l 10 0 0).2.2 : Nat) : Int)) :=
  prog_rv l hb hl 10 0 0 40 rfl (by decide) (by decide)
theorem ref_read (l : List Nat) (hb : ∀ x ∈ l, x < 256) (hl : l.length ≤ 140737488351232) :
    flumeref1_ReadVarint.f 40 (up l) = some ((((rvF l 10 0 0).1 : Nat) : Int), (((rvF l 10 0 0).2.1 : Nat) : Int), (((rvF l 10 0 0).2.2 : Nat) : Int)) :=
  ref_rv l hb hl 9 0 0 40 rfl (by decide) (by decide) (by omega)

/-- A length that was written is read. -/
theorem rv_varB (n : Nat) (hn : n ≤ 4096) (rest : List Nat) : rvF (varB n ++ rest) 10 0 0 = (n, (varB n).length, 0) := by
  unfold varB
  by_cases h : n < 128
  · rw [if_pos h, rvF, if_neg (by simp), if_neg (by simp), if_neg (by simp; omega), if_neg (by simp)]
    simp
  · rw [if_neg h, rvF, if_neg (by simp), if_neg (by simp), if_pos (by simp), rvF, if_neg (by simp), if_neg (by simp), if_neg (by simp; omega), if_neg (by simp; omega)]
    simp
    omega

theorem rv_place (l : List Nat) : ∀ (d i acc : Nat), (rvF l d i acc).2.1 ≤ l.length := by
  intro d
  induction d with
  | zero => intro i acc; simp [rvF]
  | succ d ih =>
    intro i acc
    rw [rvF]
    repeat' split
    all_goals first | exact ih _ _ | (dsimp only; omega)

theorem rv_big (l : List Nat) : ∀ (d i acc : Nat), 0 < i → (rvF l d i acc).2.2 = 0 → 128 ^ i ≤ (rvF l d i acc).1 := by
  intro d
  induction d with
  | zero => intro i acc _ h; simp [rvF] at h
  | succ d ih =>
    intro i acc hi
    rw [rvF]
    repeat' split
    · intro h; simp at h
    · intro h; simp at h
    · intro h
      have := ih (i + 1) _ (by omega) h
      rw [Nat.pow_succ] at this
      omega
    · intro h; simp at h
    · rename_i h1 h2 h3 h4
      intro _
      dsimp only
      have hb : 1 ≤ l.getD i 0 := by
        rcases Nat.eq_zero_or_pos (l.getD i 0) with h | h
        · exact absurd ⟨hi, h⟩ h4
        · exact h
      have := Nat.mul_le_mul_right (128 ^ i) hb
      omega

/-- A length that was read, of at most 4096, was written so. -/
theorem rv_canon (l : List Nat) (hb : ∀ x ∈ l, x < 256) (h0 : (rvF l 10 0 0).2.2 = 0) (hm : (rvF l 10 0 0).1 ≤ 4096) : varB (rvF l 10 0 0).1 = l.take (rvF l 10 0 0).2.1 := by
  have hb0 := getD_lt l hb 0
  have hb1 := getD_lt l hb 1
  rw [rvF] at h0 hm ⊢
  by_cases c1 : l.length ≤ 0
  · rw [if_pos c1] at h0; simp at h0
  rw [if_neg c1, if_neg (by simp)] at h0 hm ⊢
  obtain ⟨x, t, rfl⟩ : ∃ x t, l = x :: t := by cases l with | nil => simp at c1 | cons x t => exact ⟨x, t, rfl⟩
  simp only [List.getD_cons_zero] at h0 hm hb0 ⊢
  by_cases c2 : 128 ≤ x
  · rw [if_pos c2] at h0 hm ⊢
    rw [rvF] at h0 hm ⊢
    by_cases c3 : (x :: t).length ≤ 0 + 1
    · rw [if_pos c3] at h0; simp at h0
    rw [if_neg c3, if_neg (by simp)] at h0 hm ⊢
    obtain ⟨y, s, rfl⟩ : ∃ y s, t = y :: s := by cases t with | nil => simp at c3 | cons y s => exact ⟨y, s, rfl⟩
    simp only [Nat.zero_add, List.getD_cons_succ, List.getD_cons_zero] at h0 hm hb1 ⊢
    by_cases c4 : 128 ≤ y
    · rw [if_pos c4] at h0 hm
      have := rv_big _ _ _ _ (by omega) h0
      have e : (128 : Nat) ^ (1 + 1) = 16384 := by decide
      omega
    · rw [if_neg c4] at h0 hm ⊢
      by_cases c5 : 0 < 1 ∧ y = 0
      · rw [if_pos c5] at h0; simp at h0
      · rw [if_neg c5] at h0 hm ⊢
        dsimp only at hm ⊢
        simp only [Nat.pow_zero, Nat.mul_one, Nat.pow_one] at hm ⊢
        have hy : 1 ≤ y := by omega
        unfold varB
        rw [if_neg (by omega)]
        simp
        omega
  · rw [if_neg c2, if_neg (by simp)] at h0 hm ⊢
    simp only [Nat.pow_zero, Nat.mul_one, Nat.zero_add]
    unfold varB
    rw [if_pos (by omega)]
    simp
end Go.Proofs.YtlibddklalbmeaaDoor
