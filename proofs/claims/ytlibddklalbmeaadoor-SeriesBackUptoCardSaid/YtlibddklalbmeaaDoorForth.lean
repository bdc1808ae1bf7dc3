/- Plain law: what is read, packed, is what was read. -/
import Derived.Test.YtlibddklalbmeaaDoorVar
namespace Go.Proofs.YtlibddklalbmeaaDoor
open Go.RowKit
set_option linter.unusedVariables false
set_option linter.unusedSimpArgs false

theorem change_forth {bs : List Nat} {a x p : Nat} (ha : a ≤ 8 * bs.length) (h : changeF bs a = (x, 0, p)) : x < 18446744073709551616 ∧ At bs a (changeBits x) ∧ p = a + (changeBits x).length := by
  unfold changeF at h
  by_cases c1 : 8 * bs.length - a < 1
  · rw [if_pos c1] at h; simp at h
  rw [if_neg c1] at h
  by_cases c2 : Ser.getv bs a 1 = 0
  · rw [if_pos c2] at h
    simp only [Prod.mk.injEq, true_and] at h
    obtain ⟨rfl, rfl⟩ := h
    exact ⟨by decide, at_flag false (by omega) c2, rfl⟩
  rw [if_neg c2] at h
  have c2' : Ser.getv bs a 1 = 1 := by
    have := Ser.getv_lt bs a 1
    omega
  by_cases c3 : 8 * bs.length - (a + 1) < 12
  · rw [if_pos c3] at h; simp at h
  rw [if_neg c3] at h
  have g1 := At.of_get (bs := bs) (a := a + 1) (n := 6) (by omega)
  have g2 := At.of_get (bs := bs) (a := a + 7) (n := 6) (by omega)
  have l1 := Ser.getv_lt bs (a + 1) 6
  have l2 := Ser.getv_lt bs (a + 7) 6
  generalize Ser.getv bs (a + 1) 6 = ld at *
  generalize Ser.getv bs (a + 7) 6 = nn at *
  by_cases c4 : 8 * bs.length - (a + 13) < nn + 1
  · rw [if_pos c4] at h; simp at h
  rw [if_neg c4] at h
  have g3 := At.of_get (bs := bs) (a := a + 13) (n := nn + 1) (by omega)
  have l3 := Ser.getv_lt bs (a + 13) (nn + 1)
  generalize Ser.getv bs (a + 13) (nn + 1) = y at *
  by_cases c5 : 64 < ld + (nn + 1) ∨ y % 2 = 0 ∨ y >>> nn = 0
  · rw [if_pos c5] at h; simp at h
  rw [if_neg c5] at h
  simp only [Prod.mk.injEq, true_and] at h
  obtain ⟨hx, hp⟩ := h
  have h1 : ld + (nn + 1) ≤ 64 := by
    rcases Nat.lt_or_ge 64 (ld + (nn + 1)) with h | h
    · exact absurd (.inl h) c5
    · exact h
  have h2 : y % 2 = 1 := by
    rcases Nat.mod_two_eq_zero_or_one y with h | h
    · exact absurd (.inr (.inl h)) c5
    · exact h
  have h3 : 2 ^ nn ≤ y := by
    rcases Nat.lt_or_ge y (2 ^ nn) with h | h
    · refine absurd (.inr (.inr ?_)) c5
      rw [Nat.shiftRight_eq_div_pow]; exact Nat.div_eq_of_lt h
    · exact h
  obtain ⟨k, hk⟩ : ∃ k, 64 - ld - (nn + 1) = k := ⟨_, rfl⟩
  rw [hk] at hx
  have hy0 : 0 < y := by omega
  have hlt : x < 2 ^ (64 - ld) := by
    rw [← hx, show 64 - ld = nn + 1 + k by omega, Nat.pow_add]
    exact Nat.mul_lt_mul_of_pos_right l3 (Nat.two_pow_pos _)
  have hge : 2 ^ (64 - ld - 1) ≤ x := by
    rw [← hx, show 64 - ld - 1 = nn + k by omega, Nat.pow_add]
    exact Nat.mul_le_mul_right _ h3
  have hx64 : x < 18446744073709551616 := by
    have h5 := Nat.pow_le_pow_right (show 0 < 2 by decide) (show 64 - ld ≤ 64 by omega)
    rw [pow64] at h5
    omega
  have hx0 : ¬ x = 0 := by
    rw [← hx]
    exact Nat.ne_of_gt (Nat.mul_pos hy0 (Nat.two_pow_pos _))
  have hct : Lib.ctz 64 x = k := ctz_unique x k (y / 2) hx64 (by rw [← hx, Nat.mul_comm, show 2 * (y / 2) + 1 = y by omega])
  have hbl : Lib.bitLen x = 64 - ld := bitLen_unique x (64 - ld) hx64 hlt hge (by omega)
  have hdiv : x / 2 ^ k = y := by rw [← hx]; exact Nat.mul_div_cancel _ (Nat.two_pow_pos _)
  have e : changeBits x = [true] ++ Ser.bitsOf ld 6 ++ Ser.bitsOf nn 6 ++ Ser.bitsOf y (nn + 1) := by
    rw [changeBits, if_neg hx0, hct, hbl, hdiv, show 64 - (64 - ld) = ld by omega, show 64 - ld - k - 1 = nn by omega, show 64 - ld - k = nn + 1 by omega]
  refine ⟨hx64, ?_, ?_⟩
  · rw [e]
    refine At.both (At.both (At.both (at_flag true (by omega) c2') ?_) ?_) ?_
    · simpa using g1
    · simpa [Nat.add_assoc] using g2
    · simpa [Nat.add_assoc] using g3
  · rw [e, ← hp]
    simp; omega

theorem tail_forth {bs : List Nat} : ∀ (n i last a p : Nat) (acc ys : List Nat), 0 < i → last < 18446744073709551616 → a ≤ 8 * bs.length → readF bs n i last a acc = (0, ys, p) →
    ∃ t, ys = acc ++ t ∧ t.length = n ∧ (∀ x ∈ t, x < 18446744073709551616) ∧ At bs a (tailBits last t) ∧ p = a + (tailBits last t).length := by
  intro n
  induction n with
  | zero =>
    intro i last a p acc ys hi hl ha h
    simp only [readF, Prod.mk.injEq, true_and] at h
    obtain ⟨rfl, rfl⟩ := h
    exact ⟨[], by simp, rfl, by simp, ⟨by simp [tailBits]; omega, fun i hi => by simp [tailBits] at hi⟩, by simp [tailBits]⟩
  | succ n ih =>
    intro i last a p acc ys hi hl ha h
    obtain ⟨⟨x, e, q⟩, hnum⟩ : ∃ r, numF bs a i last = r := ⟨_, rfl⟩
    by_cases he : e = 0
    · subst he
      rw [readF_step hnum] at h
      have hpl := numF_place bs a i last hl ha
      rw [hnum] at hpl
      rw [numF, if_pos hi] at hnum
      obtain ⟨⟨y, e2, q2⟩, hch⟩ : ∃ r, changeF bs a = r := ⟨_, rfl⟩
      rw [hch] at hnum
      simp only [Prod.mk.injEq] at hnum
      obtain ⟨hxy, rfl, rfl⟩ := hnum
      obtain ⟨hy, hat, hq⟩ := change_forth ha hch
      have hxy2 : x ^^^ last = y := by rw [← hxy, Nat.xor_comm last y, Nat.xor_assoc, Nat.xor_self, Nat.xor_zero]
      obtain ⟨t, h1, h2, h3, h4, h5⟩ := ih (i + 1) x q2 p (acc ++ [x]) ys (by omega) hpl.2 hpl.1 h
      refine ⟨x :: t, by rw [h1]; simp, by simp [h2], ?_, ?_, ?_⟩
      · intro z hz
        rcases List.mem_cons.1 hz with rfl | hz
        · exact hpl.2
        · exact h3 z hz
      · rw [tailBits, hxy2]
        exact hat.both (by rw [← hq]; exact h4)
      · rw [tailBits, hxy2, List.length_append, h5, hq, Nat.add_assoc]
    · rw [readF_err hnum he] at h
      simp only [Prod.mk.injEq] at h
      exact absurd h.1 he

theorem all_forth {bs : List Nat} (n p : Nat) (ys : List Nat) (h : readF bs n 0 0 0 [] = (0, ys, p)) :
    ys.length = n ∧ (∀ x ∈ ys, x < 18446744073709551616) ∧ At bs 0 (bitsF ys) ∧ p = (bitsF ys).length := by
  cases n with
  | zero =>
    simp only [readF, Prod.mk.injEq, true_and] at h
    obtain ⟨rfl, rfl⟩ := h
    exact ⟨rfl, by simp, ⟨by simp [bitsF], fun i hi => by simp [bitsF] at hi⟩, rfl⟩
  | succ n =>
    obtain ⟨⟨x, e, q⟩, hnum⟩ : ∃ r, numF bs 0 0 0 = r := ⟨_, rfl⟩
    by_cases he : e = 0
    · subst he
      rw [readF_step hnum] at h
      have hpl := numF_place bs 0 0 0 (by decide) (by omega)
      rw [hnum] at hpl
      rw [numF, if_neg (by decide)] at hnum
      by_cases c1 : 8 * bs.length - 0 < 64
      · rw [if_pos c1] at hnum; simp at hnum
      rw [if_neg c1] at hnum
      simp only [Prod.mk.injEq, true_and, Nat.zero_add] at hnum
      obtain ⟨hx, rfl⟩ := hnum
      have g := At.of_get (bs := bs) (a := 0) (n := 64) (by omega)
      rw [hx] at g
      obtain ⟨t, h1, h2, h3, h4, h5⟩ := tail_forth n (0 + 1) x 64 p ([] ++ [x]) ys (by omega) hpl.2 hpl.1 h
      obtain rfl : ys = x :: t := by rw [h1]; simp
      refine ⟨by simp [h2], ?_, ?_, ?_⟩
      · intro z hz
        rcases List.mem_cons.1 hz with rfl | hz
        · exact hpl.2
        · exact h3 z hz
      · rw [bitsF]
        exact g.both (by rw [Ser.bitsOf_length]; exact h4)
      · rw [bitsF, List.length_append, Ser.bitsOf_length, h5]
    · rw [readF_err hnum he] at h
      simp only [Prod.mk.injEq] at h
      exact absurd h.1 he

theorem getv_zeros_back (bs : List Nat) (a : Nat) : ∀ n, Ser.getv bs a n = 0 → ∀ i, i < n → Ser.rbit bs (a + i) = 0 := by
  intro n
  induction n with
  | zero => intro _ i hi; omega
  | succ n ih =>
    intro h i hi
    rw [getv_succ] at h
    by_cases hin : i = n
    · subst hin; omega
    · exact ih (by omega) i (by omega)

theorem byte_sum : ∀ b, b < 256 → b = 128 * (b / 2 ^ (7 - 0) % 2) + 64 * (b / 2 ^ (7 - 1) % 2) + 32 * (b / 2 ^ (7 - 2) % 2) + 16 * (b / 2 ^ (7 - 3) % 2) + 8 * (b / 2 ^ (7 - 4) % 2) + 4 * (b / 2 ^ (7 - 5) % 2) + 2 * (b / 2 ^ (7 - 6) % 2) + b / 2 ^ (7 - 7) % 2 := by
  decide +kernel

theorem byte_of_bits (bs : List Nat) (hb : ∀ x ∈ bs, x < 256) (i : Nat) : bs.getD i 0 =
    128 * Ser.rbit bs (8*i) + 64 * Ser.rbit bs (8*i+1) + 32 * Ser.rbit bs (8*i+2) + 16 * Ser.rbit bs (8*i+3) + 8 * Ser.rbit bs (8*i+4) + 4 * Ser.rbit bs (8*i+5) + 2 * Ser.rbit bs (8*i+6) + Ser.rbit bs (8*i+7) := by
  have hlt := getD_lt bs hb i
  have e : ∀ k, k < 8 → Ser.rbit bs (8 * i + k) = bs.getD i 0 / 2 ^ (7 - k) % 2 := by
    intro k hk
    unfold Ser.rbit
    rw [show (8 * i + k) / 8 = i by omega, show (8 * i + k) % 8 = k by omega, Nat.and_one_is_mod, Nat.shiftRight_eq_div_pow]
  have e0 := e 0 (by decide); have e1 := e 1 (by decide); have e2 := e 2 (by decide); have e3 := e 3 (by decide)
  have e4 := e 4 (by decide); have e5 := e 5 (by decide); have e6 := e 6 (by decide); have e7 := e 7 (by decide)
  rw [Nat.add_zero] at e0
  rw [e0, e1, e2, e3, e4, e5, e6, e7]
  generalize bs.getD i 0 = b at *
  exact byte_sum b hlt

theorem rest_forth {bs : List Nat} (hb : ∀ x ∈ bs, x < 256) (L : List Bool) (h : At bs 0 L) (h0 : (restF bs 7 L.length).2.1 = 0) :
    (restF bs 7 L.length).1 = (Ser.packBits L).length ∧ Ser.packBits L = bs.take (Ser.packBits L).length := by
  have hr : (8 - L.length % 8) % 8 ≤ 7 := by omega
  have hg := restF_get bs 7 _ L.length rfl hr
  have hz : Ser.getv bs L.length ((8 - L.length % 8) % 8) = 0 := by
    rcases Nat.eq_zero_or_pos (Ser.getv bs L.length ((8 - L.length % 8) % 8)) with h | h
    · exact h
    · have := hg.2 (by omega); omega
  have hzz := getv_zeros_back bs L.length _ hz
  have hlen := h.1
  have hbits : ∀ i, i < 8 * ((L.length + 7) / 8) → Ser.rbit bs i = Ser.bt L i := by
    intro i hi
    by_cases hl : i < L.length
    · have := h.2 i hl
      rwa [Nat.zero_add] at this
    · rw [Ser.bt_ge _ _ (by omega)]
      have := hzz (i - L.length) (by omega)
      rwa [show L.length + (i - L.length) = i by omega] at this
  refine ⟨?_, ?_⟩
  · rw [hg.1 hz, Ser.packBits_length]
    show (L.length + (8 - L.length % 8) % 8) / 8 = _
    omega
  · rw [Ser.packBits_length]
    apply List.ext_getElem?
    intro i
    by_cases hi : i < (L.length + 7) / 8
    · have hib : i < bs.length := by omega
      rw [Ser.packBits_get _ _ hi, List.getElem?_take, if_pos hi]
      have e := byte_of_bits bs hb i
      rw [hbits _ (by omega), hbits _ (by omega), hbits _ (by omega), hbits _ (by omega), hbits _ (by omega), hbits _ (by omega), hbits _ (by omega), hbits _ (by omega)] at e
      rw [List.getD_eq_getElem?_getD] at e
      unfold Ser.byteAt
      rw [← e, List.getElem?_eq_getElem hib]
      rfl
    · rw [List.getElem?_eq_none (by simp; omega), List.getElem?_eq_none (by simp; omega)]

/-- What was read, packed, is what was read. -/
theorem pack_unpack (l : List Nat) (hb : ∀ x ∈ l, x < 256) (xs : List Nat) (n : Nat) (h : unpackF l (rvF l 10 0 0).1 (rvF l 10 0 0).2.1 (rvF l 10 0 0).2.2 = (0, xs, n)) :
    xs.length ≤ 4096 ∧ (∀ x ∈ xs, x < 18446744073709551616) ∧ n ≤ l.length ∧ varB xs.length ++ Ser.packBits (bitsF xs) = l.take n := by
  have hz := rv_place l 10 0 0
  have hcan := rv_canon l hb
  obtain ⟨⟨cnt, z, er⟩, hrv⟩ : ∃ r, rvF l 10 0 0 = r := ⟨_, rfl⟩
  rw [hrv] at h hz hcan
  dsimp only at h hz hcan
  unfold unpackF at h
  by_cases he : er = 0
  · rw [if_pos he] at h
    by_cases hm : 4096 < cnt
    · rw [if_pos hm] at h; simp at h
    rw [if_neg hm] at h
    have hcan := hcan he (by omega)
    have hbt : ∀ x ∈ l.drop z, x < 256 := fun x hx => hb x (List.mem_of_mem_drop hx)
    have hdl : (l.drop z).length = l.length - z := List.length_drop
    unfold endF at h
    obtain ⟨⟨e1, ys, p⟩, hrd⟩ : ∃ r, readF (l.drop z) cnt 0 0 0 [] = r := ⟨_, rfl⟩
    rw [hrd] at h
    dsimp only at h
    by_cases he1 : e1 = 0
    · subst he1
      rw [if_pos rfl] at h
      obtain ⟨h1, h2, h3, h4⟩ := all_forth cnt p ys hrd
      subst h4
      by_cases hre : (restF (l.drop z) 7 (bitsF ys).length).2.1 = 0
      · rw [if_pos hre] at h
        obtain ⟨h5, h6⟩ := rest_forth hbt (bitsF ys) h3 hre
        simp only [Prod.mk.injEq, true_and] at h
        obtain ⟨rfl, rfl⟩ := h
        have h7 := h3.1
        have h8 := Ser.packBits_length (bitsF ys)
        refine ⟨by omega, h2, by rw [h5]; omega, ?_⟩
        rw [h1, hcan, h5, List.take_add, ← h6]
      · rw [if_neg hre] at h
        simp only [Prod.mk.injEq] at h
        exact absurd h.1 hre
    · rw [if_neg he1] at h
      simp only [Prod.mk.injEq] at h
      exact absurd h.1 he1
  · rw [if_neg he] at h
    simp only [Prod.mk.injEq] at h
    exact absurd h.1 he
end Go.Proofs.YtlibddklalbmeaaDoor
