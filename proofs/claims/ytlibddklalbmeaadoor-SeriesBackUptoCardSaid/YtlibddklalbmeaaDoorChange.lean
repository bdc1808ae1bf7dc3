/- What the writer of the series package makes of a difference, and of a list of numbers. -/
import Derived.Test.YtlibddklalbmeaaDoorPut
import Derived.Test.YtlibddklalbmeaaDoorBits
namespace Go.Proofs.YtlibddklalbmeaaDoor
open Go.RowKit Go.Proofs.YtlibddklalbmeaaDoor.QA Go.Proofs.YtlibddklalbmeaaDoorW.PrintWords Go.Proofs.YtlibddklalbmeaaDoorW.PrintLast Go.Proofs.YtlibddklalbmeaaDoorW.PrintMore
attribute [local go_sem] max2_int min2_int fl_store fl_bits fl_frombits
set_option linter.unusedVariables false
set_option linter.unusedSimpArgs false

def changeBits (x : Nat) : List Bool :=
  if x = 0 then [false]
  else [true] ++ Ser.bitsOf (64 - Lib.bitLen x) 6 ++ Ser.bitsOf (Lib.bitLen x - Lib.ctz 64 x - 1) 6 ++ Ser.bitsOf (x / 2 ^ Lib.ctz 64 x) (Lib.bitLen x - Lib.ctz 64 x)

theorem tab_below {w W : World} {g : Nat} {tab : List Nat} (h : TabAt g tab w) (hb : Below w.heap.size w W) : TabAt g tab W := fun j hj => pw_cell_below hb (h j hj)

theorem bitLenAux_pow : ∀ (f x : Nat), x < 2 ^ f → x < 2 ^ Lib.bitLenAux f x ∧ (x ≠ 0 → 2 ^ (Lib.bitLenAux f x - 1) ≤ x)
  | 0, x, h => by simp at h; subst h; simp [Lib.bitLenAux]
  | f + 1, x, h => by
    unfold Lib.bitLenAux
    by_cases h0 : x = 0
    · simp [h0]
    · rw [if_neg h0]
      have hx : x / 2 < 2 ^ f := by rw [Nat.pow_succ] at h; omega
      obtain ⟨h1, h2⟩ := bitLenAux_pow f (x / 2) hx
      refine ⟨by rw [Nat.add_comm, Nat.pow_succ]; omega, fun _ => ?_⟩
      rw [Nat.add_sub_cancel_left]
      by_cases h3 : x / 2 = 0
      · have : x = 1 := by omega
        subst this
        have : Lib.bitLenAux f (1 / 2) = 0 := by cases f <;> simp [Lib.bitLenAux]
        rw [this]; decide
      · have h4 := h2 h3
        obtain ⟨k, hk⟩ : ∃ k, Lib.bitLenAux f (x / 2) = k + 1 := by
          cases hb : Lib.bitLenAux f (x / 2) with
          | zero => rw [hb] at h1; simp at h1; omega
          | succ k => exact ⟨k, rfl⟩
        rw [hk] at h4 ⊢
        rw [Nat.add_sub_cancel] at h4
        rw [Nat.pow_succ]; omega

theorem bitLen_pow (x : Nat) (hx : x < 18446744073709551616) : x < 2 ^ Lib.bitLen x ∧ (x ≠ 0 → 2 ^ (Lib.bitLen x - 1) ≤ x) := bitLenAux_pow 64 x hx

theorem bitLen_unique (x k : Nat) (hx : x < 18446744073709551616) (h1 : x < 2 ^ k) (h2 : 2 ^ (k - 1) ≤ x) (hk : 0 < k) : Lib.bitLen x = k := by
  have hp : 0 < 2 ^ (k - 1) := Nat.two_pow_pos _
  obtain ⟨a, b⟩ := bitLen_pow x hx
  have b := b (by omega)
  rcases Nat.lt_trichotomy (Lib.bitLen x) k with h | h | h
  · have := Nat.pow_le_pow_right (show 0 < 2 by decide) (show Lib.bitLen x ≤ k - 1 by omega)
    omega
  · exact h
  · have := Nat.pow_le_pow_right (show 0 < 2 by decide) (show k ≤ Lib.bitLen x - 1 by omega)
    omega

theorem ctz_spec (x : Nat) (hx : x < 18446744073709551616) (h0 : x ≠ 0) : ∃ m, x = 2 ^ Lib.ctz 64 x * (2 * m + 1) := by
  obtain ⟨m, hm, _⟩ := Lib.ctzFrom_spec 64 x (by omega) hx
  have e : Lib.ctz 64 x = Lib.ctzFrom 64 x := by simp [Lib.ctz, h0]
  exact ⟨m, by rw [e]; exact hm⟩

theorem ctz_unique (x k m : Nat) (hx : x < 18446744073709551616) (h : x = 2 ^ k * (2 * m + 1)) : Lib.ctz 64 x = k := by
  have hp : 0 < 2 ^ k := Nat.two_pow_pos _
  have h0 : x ≠ 0 := by rw [h]; exact Nat.ne_of_gt (Nat.mul_pos hp (by omega))
  obtain ⟨m', hm'⟩ := ctz_spec x hx h0
  generalize Lib.ctz 64 x = j at hm'
  rcases Nat.lt_trichotomy j k with hlt | he | hgt
  · obtain ⟨d, rfl⟩ : ∃ d, k = j + (d + 1) := ⟨k - j - 1, by omega⟩
    rw [hm', Nat.pow_add, Nat.mul_assoc] at h
    have h2 := Nat.eq_of_mul_eq_mul_left (Nat.two_pow_pos j) h
    rw [Nat.pow_succ, Nat.mul_comm (2 ^ d) 2, Nat.mul_assoc] at h2
    omega
  · exact he
  · obtain ⟨d, rfl⟩ : ∃ d, j = k + (d + 1) := ⟨j - k - 1, by omega⟩
    rw [hm', Nat.pow_add, Nat.mul_assoc] at h
    have h2 := Nat.eq_of_mul_eq_mul_left (Nat.two_pow_pos k) h.symm
    rw [Nat.pow_succ, Nat.mul_comm (2 ^ d) 2, Nat.mul_assoc] at h2
    omega

theorem ctz_lt_bitLen (x : Nat) (hx : x < 18446744073709551616) (h0 : x ≠ 0) : Lib.ctz 64 x < Lib.bitLen x := by
  obtain ⟨m, hm⟩ := ctz_spec x hx h0
  obtain ⟨h1, _⟩ := bitLen_pow x hx
  generalize Lib.ctz 64 x = k at *
  have h2 : 2 ^ k ≤ x := by rw [hm]; exact Nat.le_mul_of_pos_right _ (by omega)
  apply Nat.lt_of_not_le
  intro h3
  have := Nat.pow_le_pow_right (show 0 < 2 by decide) h3
  omega

theorem put_any (w0 w : World) (g : Nat) (hdr : List Int) (l : List Bool) (x n : Nat) (X N : Int) (hX : X = (x : Int)) (hN : N = (n : Int)) (hx : x < 18446744073709551616) (hn : n ≤ 64)
    (hsz : hdr.length + l.length ≤ 1000000) (h : Wr w0 w g hdr l) :
    Calls Tryd.prog 23 #[.pointer (some ⟨g, 0, none⟩), .int .u64 X, .int .i64 N] w (PutPost w0 g hdr (l ++ Ser.bitsOf x n)) := by
  subst hX hN
  exact put_calls w0 w g hdr l x n hx hn hsz h

set_option maxHeartbeats 1600000 in
set_option maxRecDepth 100000 in
theorem change_calls (w0 w : World) (g : Nat) (hdr : List Int) (l : List Bool) (x : Nat) (hx : x < 18446744073709551616)
    (hsz : hdr.length + l.length ≤ 900000) (hT : TabAt 1 Lib.deBruijn64tab w0) (h : Wr w0 w g hdr l) :
    Calls Tryd.prog 24 #[.pointer (some ⟨g, 0, none⟩), .int .u64 x] w (PutPost w0 g hdr (l ++ changeBits x)) := by
  have H0 := Aside0.mk h
  have HT := Aside0.mk hT
  clear h hT
  by_cases h0 : x = 0
  · subst h0
    go_enter Tryd.func24, Tryd.ntmps24
    go_wp2_with fail
    refine (put_calls w0 _ g hdr l 0 1 (by decide) (by decide) (by omega) H0.out).mono ?_
    rintro e w1 ⟨rfl, hw1⟩
    have H1 := Aside0.mk hw1
    clear hw1
    go_wp2_with fail
    refine bodyPost_ret (results_none rfl _ _ _) rfl ?_
    exact ⟨rfl, H1.out⟩
  · have hb := ctz_lt_bitLen x hx h0
    have hb64 := bitLen_le x
    have hne : ((x : Int) == 0) = false := by simp; omega
    have HC : Aside0 (changeBits x = [true] ++ Ser.bitsOf (64 - Lib.bitLen x) 6 ++ Ser.bitsOf (Lib.bitLen x - Lib.ctz 64 x - 1) 6 ++ Ser.bitsOf (x / 2 ^ Lib.ctz 64 x) (Lib.bitLen x - Lib.ctz 64 x)) := ⟨by unfold changeBits; rw [if_neg h0]⟩
    have htz := bits_TrailingZeros64 x hx h0
    have hlz := fun w => bits_LeadingZeros64 x w hx
    have HTZ := Aside0.mk htz
    have HLZ := Aside0.mk hlz
    clear htz hlz h0
    generalize Lib.bitLen x = bl at *
    generalize Lib.ctz 64 x = tz at *
    obtain ⟨ld, hld⟩ : ∃ ld, 64 - bl = ld := ⟨_, rfl⟩
    obtain ⟨nn, hnn⟩ : ∃ nn, bl - tz = nn + 1 := ⟨bl - tz - 1, by omega⟩
    have h1 : ld + tz + nn + 1 = 64 := by omega
    rw [hld, hnn, Nat.add_sub_cancel] at HC
    rw [hld] at HLZ
    have H1 : ld ≤ 63 ∧ tz ≤ 63 ∧ nn ≤ 63 := ⟨by omega, by omega, by omega⟩
    obtain ⟨g1, g2, g3⟩ := H1
    have HH := Aside0.mk h1
    clear hld hnn h1 hb hb64
    go_enter Tryd.func24, Tryd.ntmps24
    go_wp2_with fail
    refine (HLZ.out _).mono ?_
    rintro e w' ⟨rfl, rfl⟩
    go_wp2_with fail
    refine (HTZ.out _ (tab_below HT.out H0.out.choose_spec.2.2.2)).mono ?_
    rintro e w' ⟨rfl, rfl⟩
    go_wp2_with fail
    refine (put_any w0 _ g hdr l 1 1 _ _ rfl rfl (by decide) (by decide) (by omega) H0.out).mono ?_
    rintro e w1 ⟨rfl, hw1⟩
    have H1 := Aside0.mk hw1
    clear hw1
    go_wp2_with fail
    refine (put_any w0 _ g hdr _ ld 6 _ _ (by first | rfl | omega) rfl (by omega) (by decide) (by simp; omega) H1.out).mono ?_
    rintro e w2 ⟨rfl, hw1⟩
    have H2 := Aside0.mk hw1
    clear hw1 H1
    go_wp2_with fail
    refine (put_any w0 _ g hdr _ nn 6 _ _ (by have := HH.out; first | omega | (rw [IntKind.wrap_u64]; omega)) rfl (by omega) (by decide) (by simp; omega) H2.out).mono ?_
    rintro e w3 ⟨rfl, hw1⟩
    have H3 := Aside0.mk hw1
    clear hw1 H2
    go_wp2_with fail
    refine (put_any w0 _ g hdr _ (x / 2 ^ tz) (nn + 1) _ _ (by simp) (by have := HH.out; omega) (Nat.lt_of_le_of_lt (Nat.div_le_self _ _) hx) (by omega) (by simp; omega) H3.out).mono ?_
    rintro e w4 ⟨rfl, hw1⟩
    have H4 := Aside0.mk hw1
    clear hw1 H3
    go_wp2_with fail
    go_end0
    refine ⟨rfl, ?_⟩
    rw [HC.out]
    have := H4.out
    simpa [Ser.bitsOf] using this
end Go.Proofs.YtlibddklalbmeaaDoor
