/- Plain laws of the series package's bits: what is packed is read back; what is read, packed, is what was read; how long it is. -/
import Derived.Test.YtlibddklalbmeaaDoorRefU
import Derived.Test.YtlibddklalbmeaaDoorPack
namespace Go.Proofs.YtlibddklalbmeaaDoor
open Go.RowKit
set_option linter.unusedVariables false
set_option linter.unusedSimpArgs false

/-- Bytes hold these bits at a place. -/
def At (bs : List Nat) (a : Nat) (L : List Bool) : Prop := a + L.length ≤ 8 * bs.length ∧ ∀ i, i < L.length → Ser.rbit bs (a + i) = Ser.bt L i

theorem bt_append_ge (l m : List Bool) (j : Nat) : Ser.bt (l ++ m) (l.length + j) = Ser.bt m j := by
  unfold Ser.bt
  rw [List.getD_eq_getElem?_getD, List.getD_eq_getElem?_getD, List.getElem?_append_right (by omega), Nat.add_sub_cancel_left]

theorem At.left {bs : List Nat} {a : Nat} {L M : List Bool} (h : At bs a (L ++ M)) : At bs a L := by
  obtain ⟨h1, h2⟩ := h
  rw [List.length_append] at h1 h2
  exact ⟨by omega, fun i hi => by rw [h2 i (by omega), Ser.bt_append_lt _ _ _ hi]⟩

theorem At.right {bs : List Nat} {a : Nat} {L M : List Bool} (h : At bs a (L ++ M)) : At bs (a + L.length) M := by
  obtain ⟨h1, h2⟩ := h
  rw [List.length_append] at h1 h2
  exact ⟨by omega, fun i hi => by rw [Nat.add_assoc, h2 (L.length + i) (by omega), bt_append_ge]⟩

theorem At.both {bs : List Nat} {a : Nat} {L M : List Bool} (h : At bs a L) (k : At bs (a + L.length) M) : At bs a (L ++ M) := by
  refine ⟨by rw [List.length_append]; have := k.1; omega, fun i hi => ?_⟩
  by_cases hl : i < L.length
  · rw [Ser.bt_append_lt _ _ _ hl]; exact h.2 i hl
  · obtain ⟨j, rfl⟩ : ∃ j, i = L.length + j := ⟨i - L.length, by omega⟩
    rw [List.length_append] at hi
    rw [bt_append_ge, ← Nat.add_assoc]; exact k.2 j (by omega)

theorem At.get {bs : List Nat} {a x n : Nat} (h : At bs a (Ser.bitsOf x n)) (hx : x < 2 ^ n) : Ser.getv bs a n = x := by
  rw [Ser.getv_bitsOf bs a x n (fun i hi => h.2 i (by rw [Ser.bitsOf_length]; exact hi)), Nat.mod_eq_of_lt hx]

/-- Bits from a number that was got. -/
theorem bitsOf_getv (bs : List Nat) (a : Nat) : ∀ n, ∀ i, i < n → Ser.bt (Ser.bitsOf (Ser.getv bs a n) n) i = Ser.rbit bs (a + i) := by
  intro n
  induction n with
  | zero => intro i h; omega
  | succ n ih =>
    intro i hi
    rw [Ser.bt_bitsOf _ _ _ hi, getv_succ]
    have hb := Ser.rbit_le bs (a + n)
    by_cases hin : i = n
    · subst hin
      rw [show i + 1 - 1 - i = 0 by omega, Nat.testBit_eq_decide_div_mod_eq]
      have : (2 * Ser.getv bs a i + Ser.rbit bs (a + i)) / 2 ^ 0 % 2 = Ser.rbit bs (a + i) := by simp; omega
      rw [this]
      rcases Nat.le_one_iff_eq_zero_or_eq_one.1 hb with h | h <;> rw [h] <;> rfl
    · have h1 := ih i (by omega)
      rw [Ser.bt_bitsOf _ _ _ (by omega)] at h1
      rw [← h1]
      congr 1
      have e : n + 1 - 1 - i = (n - 1 - i) + 1 := by omega
      rw [e, Nat.testBit_eq_decide_div_mod_eq, Nat.testBit_eq_decide_div_mod_eq, Nat.pow_succ, Nat.mul_comm (2 ^ _) 2, ← Nat.div_div_eq_div_mul]
      have e3 : (2 * Ser.getv bs a n + Ser.rbit bs (a + n)) / 2 = Ser.getv bs a n := by omega
      rw [e3]

theorem At.of_get {bs : List Nat} {a n : Nat} (h : a + n ≤ 8 * bs.length) : At bs a (Ser.bitsOf (Ser.getv bs a n) n) :=
  ⟨by rw [Ser.bitsOf_length]; exact h, fun i hi => (bitsOf_getv bs a n i (by rwa [Ser.bitsOf_length] at hi)).symm⟩

theorem at_flag {bs : List Nat} {a : Nat} (c : Bool) (h : a + 1 ≤ 8 * bs.length) (hc : Ser.getv bs a 1 = c.toNat) : At bs a [c] := by
  refine ⟨h, fun i hi => ?_⟩
  obtain rfl : i = 0 := by simpa using hi
  have : Ser.getv bs a 1 = Ser.rbit bs a := by simp [Ser.getv]
  rw [Nat.add_zero, ← this, hc]; rfl

theorem At.flag {bs : List Nat} {a : Nat} {c : Bool} (h : At bs a [c]) : Ser.getv bs a 1 = c.toNat ∧ a + 1 ≤ 8 * bs.length := by
  have e : Ser.getv bs a 1 = Ser.rbit bs a := by simp [Ser.getv]
  exact ⟨by rw [e]; exact h.2 0 Nat.zero_lt_one, h.1⟩

theorem pow_split (x : Nat) (hx : x < 18446744073709551616) (h0 : x ≠ 0) :
    ∃ m, x = 2 ^ Lib.ctz 64 x * (2 * m + 1) ∧ x / 2 ^ Lib.ctz 64 x = 2 * m + 1 ∧ 2 * m + 1 < 2 ^ (Lib.bitLen x - Lib.ctz 64 x) ∧ 2 ^ (Lib.bitLen x - Lib.ctz 64 x - 1) ≤ 2 * m + 1 ∧ Lib.ctz 64 x < Lib.bitLen x ∧ Lib.bitLen x ≤ 64 := by
  obtain ⟨m, hm⟩ := ctz_spec x hx h0
  obtain ⟨h1, h2⟩ := bitLen_pow x hx
  have h2 := h2 h0
  have h3 := ctz_lt_bitLen x hx h0
  have h4 := bitLen_le x
  have hd : x / 2 ^ Lib.ctz 64 x = 2 * m + 1 := by
    conv => lhs; lhs; rw [hm]
    exact Nat.mul_div_cancel_left _ (Nat.two_pow_pos _)
  refine ⟨m, hm, hd, ?_, ?_, h3, h4⟩
  · rw [← hd]
    refine Nat.div_lt_of_lt_mul ?_
    rw [← Nat.pow_add, show Lib.ctz 64 x + (Lib.bitLen x - Lib.ctz 64 x) = Lib.bitLen x by omega]
    exact h1
  · rw [← hd]
    refine (Nat.le_div_iff_mul_le (Nat.two_pow_pos _)).2 ?_
    rw [← Nat.pow_add, show Lib.bitLen x - Lib.ctz 64 x - 1 + Lib.ctz 64 x = Lib.bitLen x - 1 by omega]
    exact h2

theorem change_back {bs : List Nat} {a x : Nat} (hx : x < 18446744073709551616) (h : At bs a (changeBits x)) : changeF bs a = (x, 0, a + (changeBits x).length) := by
  by_cases h0 : x = 0
  · have e : changeBits x = [false] := by rw [changeBits, if_pos h0]
    rw [e] at h ⊢
    obtain ⟨h1, h2⟩ := h.flag
    have h1 : Ser.getv bs a 1 = 0 := h1
    unfold changeF
    rw [if_neg (by omega), if_pos h1, h0]
    rfl
  · have e : changeBits x = [true] ++ Ser.bitsOf (64 - Lib.bitLen x) 6 ++ Ser.bitsOf (Lib.bitLen x - Lib.ctz 64 x - 1) 6 ++ Ser.bitsOf (x / 2 ^ Lib.ctz 64 x) (Lib.bitLen x - Lib.ctz 64 x) := by
      rw [changeBits, if_neg h0]
    obtain ⟨m, hm, hd, p1, p2, p3, p4⟩ := pow_split x hx h0
    rw [e] at h ⊢
    rw [hd] at h ⊢
    have hlen := h.1
    have a1 := h.left.left.left.flag
    have a11 : Ser.getv bs a 1 = 1 := a1.1
    have a2 := h.left.left.right
    have a3 := h.left.right
    have a4 := h.right
    simp only [List.length_append, Ser.bitsOf_length, List.length_cons, List.length_nil] at a2 a3 a4 hlen
    generalize Lib.bitLen x = bl at *
    generalize Lib.ctz 64 x = tz at *
    have g2 := a2.get (show 64 - bl < 2 ^ 6 by have : (2:Nat)^6 = 64 := by decide
                                               omega)
    have g3 := a3.get (show bl - tz - 1 < 2 ^ 6 by have : (2:Nat)^6 = 64 := by decide
                                                   omega)
    have g4 := a4.get p1
    rw [show a + (0 + 1) = a + 1 by omega] at g2
    rw [show a + (0 + 1 + 6) = a + 7 by omega] at g3
    rw [show a + (0 + 1 + 6 + 6) = a + 13 by omega] at g4
    have e1 : bl - tz - 1 + 1 = bl - tz := by omega
    unfold changeF
    rw [g2, g3, e1, g4, if_neg (by omega), a11, if_neg (by decide), if_neg (by omega), if_neg (by omega)]
    have hno : ¬ (64 < 64 - bl + (bl - tz) ∨ (2 * m + 1) % 2 = 0 ∨ (2 * m + 1) >>> (bl - tz - 1) = 0) := by
      rintro (h1 | h1 | h1)
      · omega
      · omega
      · rw [Nat.shiftRight_eq_div_pow] at h1
        have := (Nat.le_div_iff_mul_le (Nat.two_pow_pos (bl - tz - 1))).2 (show 1 * 2 ^ (bl - tz - 1) ≤ 2 * m + 1 by omega)
        omega
    rw [if_neg hno]
    have e2 : 64 - (64 - bl) - (bl - tz) = tz := by omega
    rw [e2, Nat.mul_comm, ← hm]
    simp only [List.length_append, Ser.bitsOf_length, List.length_cons, List.length_nil]
    congr 2
    omega

theorem num_first {bs : List Nat} {a x last : Nat} (hx : x < 18446744073709551616) (h : At bs a (Ser.bitsOf x 64)) : numF bs a 0 last = (x, 0, a + 64) := by
  have h1 := h.1
  rw [Ser.bitsOf_length] at h1
  rw [numF, if_neg (by decide), if_neg (by omega), h.get hx]

theorem num_next {bs : List Nat} {a x i last : Nat} (hi : 0 < i) (hx : x < 18446744073709551616) (hl : last < 18446744073709551616) (h : At bs a (changeBits (x ^^^ last))) : numF bs a i last = (x, 0, a + (changeBits (x ^^^ last)).length) := by
  have hxl : x ^^^ last < 18446744073709551616 := Nat.xor_lt_two_pow (n := 64) hx hl
  rw [numF, if_pos hi, change_back hxl h]
  have : last ^^^ (x ^^^ last) = x := by rw [Nat.xor_comm x last, ← Nat.xor_assoc, Nat.xor_self, Nat.zero_xor]
  rw [this]

theorem read_tail {bs : List Nat} : ∀ (xs : List Nat) (i last a : Nat) (acc : List Nat), 0 < i → last < 18446744073709551616 → (∀ x ∈ xs, x < 18446744073709551616) → At bs a (tailBits last xs) →
    readF bs xs.length i last a acc = (0, acc ++ xs, a + (tailBits last xs).length) := by
  intro xs
  induction xs with
  | nil => intro i last a acc _ _ _ _; simp [readF, tailBits]
  | cons x t ih =>
    intro i last a acc hi hl hx h
    rw [tailBits] at h ⊢
    have hx0 := hx x (by simp)
    rw [List.length_cons, readF_step (num_next hi hx0 hl h.left), ih (i + 1) x _ _ (by omega) hx0 (fun y hy => hx y (by simp [hy])) h.right]
    simp [Nat.add_assoc]

theorem read_all {bs : List Nat} (xs : List Nat) (hx : ∀ x ∈ xs, x < 18446744073709551616) (h : At bs 0 (bitsF xs)) :
    readF bs xs.length 0 0 0 [] = (0, xs, (bitsF xs).length) := by
  cases xs with
  | nil => rfl
  | cons x t =>
    rw [bitsF] at h ⊢
    have hx0 := hx x (by simp)
    have h2 := h.right
    rw [Ser.bitsOf_length] at h2
    rw [List.length_cons, readF_step (num_first hx0 h.left), read_tail t 1 x _ _ (by omega) hx0 (fun y hy => hx y (by simp [hy])) h2]
    simp

theorem at_pack (L : List Bool) (z : List Nat) : At (Ser.packBits L ++ z) 0 L := by
  refine ⟨by rw [List.length_append, Ser.packBits_length]; omega, fun i hi => ?_⟩
  rw [Nat.zero_add]
  exact Ser.rbit_pack L z i (by omega)

theorem getv_zeros (bs : List Nat) (a : Nat) : ∀ n, (∀ i, i < n → Ser.rbit bs (a + i) = 0) → Ser.getv bs a n = 0 := by
  intro n
  induction n with
  | zero => intro _; rfl
  | succ n ih =>
    intro h
    rw [getv_succ, ih (fun i hi => h i (by omega)), h n (by omega)]

theorem rest_pack (L : List Bool) (z : List Nat) : (restF (Ser.packBits L ++ z) 7 L.length).2.1 = 0 ∧ (restF (Ser.packBits L ++ z) 7 L.length).1 = (Ser.packBits L).length := by
  have hr : (8 - L.length % 8) % 8 ≤ 7 := by omega
  have h := (restF_get (Ser.packBits L ++ z) 7 _ L.length rfl hr).1 (getv_zeros _ _ _ (fun i hi => by
    rw [Ser.rbit_pack L z _ (by omega), Ser.bt_ge _ _ (by omega)]))
  rw [h]
  refine ⟨rfl, ?_⟩
  rw [Ser.packBits_length]
  show (L.length + (8 - L.length % 8) % 8) / 8 = _
  omega

/-- What is packed is read back, whatever stands behind. -/
theorem unpack_pack (xs hd behind : List Nat) (hm : xs.length ≤ 4096) (hx : ∀ x ∈ xs, x < 18446744073709551616) :
    unpackF (hd ++ (Ser.packBits (bitsF xs) ++ behind)) xs.length hd.length 0 = (0, xs, hd.length + (Ser.packBits (bitsF xs)).length) := by
  rw [unpackF, if_pos rfl, if_neg (by omega), List.drop_left, read_all xs hx (at_pack _ _)]
  have h := rest_pack (bitsF xs) behind
  rw [endF, if_pos rfl, if_pos h.1, h.2]

/-- n equal numbers take a bit each. -/
theorem tail_same (u : Nat) : ∀ n, (tailBits u (List.replicate n u)).length = n := by
  intro n
  induction n with
  | zero => rfl
  | succ n ih => simp [List.replicate_succ, tailBits, changeBits, ih]

theorem same_length (u n : Nat) (hn : 1 ≤ n) : (Ser.packBits (bitsF (List.replicate n u))).length = 8 + (n + 6) / 8 := by
  obtain ⟨m, rfl⟩ : ∃ m, n = m + 1 := ⟨n - 1, by omega⟩
  rw [Ser.packBits_length, List.replicate_succ, bitsF, List.length_append, Ser.bitsOf_length, tail_same]
  omega
end Go.Proofs.YtlibddklalbmeaaDoor
