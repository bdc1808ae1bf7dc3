/- The document's own May, Segment, Number, Kind of names come to what the program's come to. -/
import Derived.Test.YtooddfmjgplbjaaNNum
import Derived.Test.YtooddfmjgplbjaaQCx1
namespace Go.Proofs.Ytooddfmjgplbjaa
open Go.RowKit Go.Proofs.Ytooddfmjgplbjaa.QA Go.Proofs.Ytooddfmjgplbjaa.QC Go.Proofs.YtooddfmjgplbjaaW.PrintWords Go.Proofs.YtooddfmjgplbjaaW.PrintLast Go.Proofs.YtooddfmjgplbjaaW.PrintMore
set_option linter.unusedVariables false
set_option linter.unusedSimpArgs false

theorem alnum_eq (x : Int) : flumeref8_alnum.f x = some (plainP x) := by
  have := plain_eq x
  unfold name_plain.f at this
  unfold flumeref8_alnum.f
  exact this

theorem mayref_loop (s : ByteArray) (hs : s.size ≤ 9223372036854775806) : ∀ (d j k : Nat), j + d = s.size → d < k → flumeref8_May.l0 k s (j : Int) = some (okFrom s j d) := by
  intro d
  induction d with
  | zero =>
    intro j k hj hk
    obtain ⟨k, rfl⟩ : ∃ m, k = m + 1 := ⟨k - 1, by omega⟩
    rw [flumeref8_May.l0, if_neg (by omega)]; rfl
  | succ d ih =>
    intro j k hj hk
    obtain ⟨k, rfl⟩ : ∃ m, k = m + 1 := ⟨k - 1, by omega⟩
    have ih1 := ih (j + 1) k (by omega) (by omega)
    rw [flumeref8_May.l0, if_pos (by omega), if_pos (by omega), alnum_eq, Option.bind_some, w64 _ (by omega), okFrom, okP]
    rw [show (j : Int) + 1 = ((j + 1 : Nat) : Int) by omega]
    by_cases h1 : plainP (bt s (j : Int)) = true
    · rw [if_pos h1, ih1, h1]; simp
    · rw [if_neg h1]
      have h1' := Bool.eq_false_iff.mpr h1
      by_cases h2 : bt s (j : Int) = 46
      · rw [if_pos h2, ih1]; simp [h2]
      · rw [if_neg h2]
        by_cases h3 : bt s (j : Int) = 45
        · rw [if_pos h3, ih1]; simp [h3]
        · rw [if_neg h3]; simp [h1', h2, h3]

theorem mayref_eq (s : ByteArray) : flumeref8_May.f 100 s = some (mayP s) := by
  unfold flumeref8_May.f mayP
  by_cases h1 : s.size < 1
  · rw [if_pos (by omega), flumeref8_May.j0, if_pos rfl]; simp [show ¬ 1 ≤ s.size by omega]
  rw [if_neg (by omega)]
  by_cases h2 : 64 < s.size
  · rw [if_pos (by omega), flumeref8_May.j0, if_pos rfl]; simp [show ¬ s.size ≤ 64 by omega]
  rw [if_neg (by omega), if_pos (by omega), alnum_eq, Option.bind_some]
  have e1 : decide (1 ≤ s.size) = true := decide_eq_true (by omega)
  have e2 : decide (s.size ≤ 64) = true := decide_eq_true (by omega)
  rw [e1, e2]
  by_cases h3 : plainP (bt s 0) = true
  · rw [if_pos h3, h3, w64 _ (by omega), show (s.size : Int) - 1 = ((s.size - 1 : Nat) : Int) by omega, if_pos (by omega), if_pos (by omega), alnum_eq, Option.bind_some, flumeref8_May.j0]
    by_cases h4 : plainP (bt s ((s.size - 1 : Nat) : Int)) = true
    · have hl := mayref_loop s (by omega) s.size 0 99 (by omega) (by omega)
      rw [h4, if_neg (by simp)]
      simpa using hl
    · rw [Bool.eq_false_iff.mpr h4, if_pos (by rfl)]; simp
  · rw [if_neg h3, flumeref8_May.j0, if_pos rfl, Bool.eq_false_iff.mpr h3]; simp

theorem strOf_cons (x : Int) (l : List Int) : strOfNums [x] ++ strOfNums l = strOfNums (x :: l) := by
  apply Go.WideShapes.bytes_inj
  simp [strOfNums]

theorem segref_loop (n : Nat) (hn : n < 9223372036854775808) : ∀ (d j k : Nat), j + d = 16 → d < k →
    flumeref8_Segment.l0 k ((n / 16 ^ j : Nat) : Int) (strOfNums (hexT n j)) (j : Int) = some (segName n, 0) := by
  intro d
  induction d with
  | zero =>
    intro j k hj hk
    obtain ⟨k, rfl⟩ : ∃ m, k = m + 1 := ⟨k - 1, by omega⟩
    obtain rfl : j = 16 := by omega
    have hsz : (strOfNums (hexT n 16)).size = 16 := by rw [strOfNums_size, hexT_length]
    rw [flumeref8_Segment.l0, if_neg (by omega), if_pos (by omega), if_pos (by rw [ByteArray.size_append, hsz]; decide)]
    rfl
  | succ d ih =>
    intro j k hj hk
    obtain ⟨k, rfl⟩ : ∃ m, k = m + 1 := ⟨k - 1, by omega⟩
    have ih1 := ih (j + 1) k (by omega) (by omega)
    have hsz : (strOfNums (hexT n j)).size = j := by rw [strOfNums_size, hexT_length]
    have hst : strOfNums (bt HEX ((n / 16 ^ j % 16 : Nat) : Int) :: hexT n j) = strOfNums (hexT n (j + 1)) := rfl
    have hd : n / 16 ^ (j + 1) = n / 16 ^ j / 16 := by rw [Nat.pow_succ, ← Nat.div_div_eq_div_mul]
    have hle : n / 16 ^ j ≤ n := Nat.div_le_self _ _
    rw [hd] at ih1
    rw [← hst] at ih1
    generalize n / 16 ^ j = x at *
    have htm : Int.tmod (x : Int) 16 = ((x % 16 : Nat) : Int) := by rw [Int.tmod_eq_emod_of_nonneg (by omega)]; omega
    have htd : Int.tdiv (x : Int) 16 = ((x / 16 : Nat) : Int) := by rw [Int.tdiv_eq_ediv_of_nonneg (by omega)]; omega
    rw [flumeref8_Segment.l0, if_pos (by omega), htm, htd, if_pos (by omega), if_pos (by omega), Option.bind_some, if_pos (by rw [strOfNums_size, hsz]; simp; omega), strOf_cons, w64 _ (by omega), w64 _ (by omega)]
    exact ih1

theorem segref_eq (n : Nat) (h1 : 1 ≤ n) (hn : n < 9223372036854775808) (k : Nat) (hk : 17 ≤ k) : flumeref8_Segment.f k (n : Int) = some (segName n, 0) := by
  have := segref_loop n hn 16 0 k (by omega) (by omega)
  unfold flumeref8_Segment.f
  rw [if_neg (by omega)]
  rw [Nat.pow_zero, Nat.div_one] at this
  exact this
theorem segref_none (a : Int) (h : a < 1) (k : Nat) : flumeref8_Segment.f k a = some ((⟨#[]⟩ : ByteArray), 1) := by
  unfold flumeref8_Segment.f
  rw [if_pos h]
end Go.Proofs.Ytooddfmjgplbjaa
