/- Plain mathematics for the series package: bits, bytes, packing and reading. No program in sight. -/
namespace Ser

/-- the lowest n bits of x, the highest first -/
def bitsOf (x : Nat) : Nat → List Bool
  | 0 => []
  | n + 1 => x.testBit n :: bitsOf x n

@[simp] theorem bitsOf_length (x n : Nat) : (bitsOf x n).length = n := by
  induction n with
  | zero => rfl
  | succ n ih => simp [bitsOf, ih]

/-- bit j of a list of bits, false beyond -/
def bt (l : List Bool) (j : Nat) : Nat := (l.getD j false).toNat

theorem bt_le (l : List Bool) (j : Nat) : bt l j ≤ 1 := by unfold bt; cases l.getD j false <;> decide

/-- byte i of a list of bits -/
def byteAt (l : List Bool) (i : Nat) : Nat :=
  128 * bt l (8*i) + 64 * bt l (8*i+1) + 32 * bt l (8*i+2) + 16 * bt l (8*i+3) + 8 * bt l (8*i+4) + 4 * bt l (8*i+5) + 2 * bt l (8*i+6) + bt l (8*i+7)

theorem byteAt_lt (l : List Bool) (i : Nat) : byteAt l i < 256 := by
  unfold byteAt
  have h0 := bt_le l (8*i); have h1 := bt_le l (8*i+1); have h2 := bt_le l (8*i+2); have h3 := bt_le l (8*i+3)
  have h4 := bt_le l (8*i+4); have h5 := bt_le l (8*i+5); have h6 := bt_le l (8*i+6); have h7 := bt_le l (8*i+7)
  omega

/-- a list of bits as bytes, zeros behind -/
def packBits (l : List Bool) : List Nat := (List.range ((l.length + 7) / 8)).map (byteAt l)

@[simp] theorem packBits_length (l : List Bool) : (packBits l).length = (l.length + 7) / 8 := by simp [packBits]

theorem packBits_get (l : List Bool) (i : Nat) (h : i < (l.length + 7) / 8) : (packBits l)[i]? = some (byteAt l i) := by
  simp [packBits, List.getElem?_map, List.getElem?_range h]

theorem bt_append_lt (l m : List Bool) (j : Nat) (h : j < l.length) : bt (l ++ m) j = bt l j := by
  unfold bt; congr 1; simp [List.getElem?_append_left h, List.getD_eq_getElem?_getD]

theorem bt_snoc_at (l : List Bool) (c : Bool) : bt (l ++ [c]) l.length = c.toNat := by
  unfold bt; simp [List.getD_eq_getElem?_getD]

theorem bt_ge (l : List Bool) (j : Nat) (h : l.length ≤ j) : bt l j = 0 := by
  unfold bt; simp [List.getD_eq_getElem?_getD, List.getElem?_eq_none h]

/-- how many bits of the last byte are free -/
def freeOf (l : List Bool) : Nat := (8 - l.length % 8) % 8

theorem byteAt_snoc_old (l : List Bool) (c : Bool) (i : Nat) (h : 8 * i + 8 ≤ l.length) : byteAt (l ++ [c]) i = byteAt l i := by
  unfold byteAt
  rw [bt_append_lt _ _ _ (by omega), bt_append_lt _ _ _ (by omega), bt_append_lt _ _ _ (by omega), bt_append_lt _ _ _ (by omega),
    bt_append_lt _ _ _ (by omega), bt_append_lt _ _ _ (by omega), bt_append_lt _ _ _ (by omega), bt_append_lt _ _ _ (by omega)]

theorem bt_snoc (l : List Bool) (c : Bool) (j : Nat) : bt (l ++ [c]) j = bt l j + (if j = l.length then c.toNat else 0) := by
  rcases Nat.lt_trichotomy j l.length with h | h | h
  · rw [bt_append_lt _ _ _ h, if_neg (by omega)]; rfl
  · subst h; rw [bt_snoc_at, bt_ge _ _ (Nat.le_refl _), if_pos rfl]; simp
  · rw [bt_ge _ _ (by simp; omega), bt_ge _ _ (by omega), if_neg (by omega)]

theorem byteAt_snoc_last (l : List Bool) (c : Bool) : byteAt (l ++ [c]) (l.length / 8) = byteAt l (l.length / 8) + c.toNat * 2 ^ (7 - l.length % 8) := by
  have hr : l.length % 8 < 8 := Nat.mod_lt _ (by decide)
  generalize hq : l.length / 8 = q
  have hlen : l.length = 8 * q + l.length % 8 := by omega
  generalize l.length % 8 = r at hr hlen
  unfold byteAt
  simp only [bt_snoc]
  have hc : r = 0 ∨ r = 1 ∨ r = 2 ∨ r = 3 ∨ r = 4 ∨ r = 5 ∨ r = 6 ∨ r = 7 := by omega
  rcases hc with rfl | rfl | rfl | rfl | rfl | rfl | rfl | rfl <;> rw [hlen] <;> simp <;> omega

/-- the bytes behind one bit more, the first of a byte -/
theorem packBits_snoc_new (l : List Bool) (c : Bool) (h : l.length % 8 = 0) : packBits (l ++ [c]) = packBits l ++ [c.toNat * 128] := by
  unfold packBits
  have e1 : ((l ++ [c]).length + 7) / 8 = (l.length + 7) / 8 + 1 := by simp; omega
  rw [e1, List.range_succ, List.map_append]
  congr 1
  · apply List.map_congr_left
    intro i hi
    rw [List.mem_range] at hi
    exact byteAt_snoc_old _ _ _ (by omega)
  · have e2 : (l.length + 7) / 8 = l.length / 8 := by omega
    simp only [List.map_cons, List.map_nil, e2]
    rw [byteAt_snoc_last]
    have e3 : byteAt l (l.length / 8) = 0 := by
      unfold byteAt
      rw [bt_ge _ _ (by omega), bt_ge _ _ (by omega), bt_ge _ _ (by omega), bt_ge _ _ (by omega), bt_ge _ _ (by omega), bt_ge _ _ (by omega), bt_ge _ _ (by omega), bt_ge _ _ (by omega)]
    rw [e3, h]; simp

theorem packBits_snoc_old (l : List Bool) (c : Bool) (h : l.length % 8 ≠ 0) :
    packBits (l ++ [c]) = (packBits l).set (l.length / 8) (byteAt l (l.length / 8) + c.toNat * 2 ^ (7 - l.length % 8)) := by
  apply List.ext_getElem?
  intro i
  rw [List.getElem?_set]
  have e1 : ((l ++ [c]).length + 7) / 8 = (l.length + 7) / 8 := by simp; omega
  by_cases hi : i < (l.length + 7) / 8
  · rw [packBits_get _ _ (by omega), packBits_get _ _ hi]
    by_cases hl : l.length / 8 = i
    · subst hl
      rw [if_pos rfl, if_pos (by simp; omega), byteAt_snoc_last]
    · rw [if_neg hl, byteAt_snoc_old _ _ _ (by omega)]
  · rw [List.getElem?_eq_none (by simp; omega), List.getElem?_eq_none (by simp; omega)]
    split
    · rw [if_neg (by simp; omega)]
    · rfl

/-- the last byte under way has its free bits zero -/
theorem byteAt_free (l : List Bool) : byteAt l (l.length / 8) % 2 ^ (8 - l.length % 8) = 0 := by
  have hr : l.length % 8 < 8 := Nat.mod_lt _ (by decide)
  generalize hq : l.length / 8 = q
  have hlen : l.length = 8 * q + l.length % 8 := by omega
  generalize l.length % 8 = r at hr hlen
  unfold byteAt
  have hz : ∀ j, r ≤ j → bt l (8 * q + j) = 0 := fun j hj => bt_ge _ _ (by omega)
  have hz0 : r = 0 → bt l (8 * q) = 0 := fun h => bt_ge _ _ (by omega)
  have hc : r = 0 ∨ r = 1 ∨ r = 2 ∨ r = 3 ∨ r = 4 ∨ r = 5 ∨ r = 6 ∨ r = 7 := by omega
  rcases hc with rfl | rfl | rfl | rfl | rfl | rfl | rfl | rfl <;>
    (try rw [hz0 rfl]) <;> (try rw [hz 1 (by decide)]) <;> (try rw [hz 2 (by decide)]) <;> (try rw [hz 3 (by decide)]) <;>
    (try rw [hz 4 (by decide)]) <;> (try rw [hz 5 (by decide)]) <;> (try rw [hz 6 (by decide)]) <;> (try rw [hz 7 (by decide)]) <;> simp <;> omega

/-- or is plus, where the low bits are free -/
theorem or_low (a c k : Nat) (ha : a % 2 ^ (k + 1) = 0) (hc : c ≤ 1) : a ||| (c <<< k) = a + c * 2 ^ k := by
  obtain ⟨d, rfl⟩ : ∃ d, a = 2 ^ (k + 1) * d := ⟨a / 2 ^ (k + 1), by have := Nat.div_add_mod a (2 ^ (k + 1)); omega⟩
  have hlt : c <<< k < 2 ^ (k + 1) := by
    rw [Nat.shiftLeft_eq, Nat.pow_succ]
    have : 0 < 2 ^ k := Nat.two_pow_pos k
    rcases Nat.le_one_iff_eq_zero_or_eq_one.1 hc with rfl | rfl <;> omega
  rw [← Nat.shiftLeft_eq c k]
  exact (Nat.two_pow_add_eq_or_of_lt hlt d).symm

/-! ## reading bits -/

/-- bit i of bytes, the highest of a byte first -/
def rbit (b : List Nat) (i : Nat) : Nat := b.getD (i / 8) 0 >>> (7 - i % 8) &&& 1

theorem rbit_le (b : List Nat) (i : Nat) : rbit b i ≤ 1 := by
  unfold rbit; rw [Nat.and_one_is_mod]; omega

/-- n bits from a place on, the highest first -/
def getv (b : List Nat) (at_ : Nat) : Nat → Nat
  | 0 => 0
  | n + 1 => 2 * getv b at_ n + rbit b (at_ + n)

theorem getv_lt (b : List Nat) (a n : Nat) : getv b a n < 2 ^ n := by
  induction n with
  | zero => simp [getv]
  | succ n ih => have := rbit_le b (a + n); simp only [getv, Nat.pow_succ]; omega

theorem byteAt_bit (l : List Bool) (i k : Nat) (hk : k < 8) : byteAt l i >>> (7 - k) &&& 1 = bt l (8 * i + k) := by
  rw [Nat.and_one_is_mod, Nat.shiftRight_eq_div_pow]
  unfold byteAt
  have h0 := bt_le l (8*i); have h1 := bt_le l (8*i+1); have h2 := bt_le l (8*i+2); have h3 := bt_le l (8*i+3)
  have h4 := bt_le l (8*i+4); have h5 := bt_le l (8*i+5); have h6 := bt_le l (8*i+6); have h7 := bt_le l (8*i+7)
  have hc : k = 0 ∨ k = 1 ∨ k = 2 ∨ k = 3 ∨ k = 4 ∨ k = 5 ∨ k = 6 ∨ k = 7 := by omega
  rcases hc with rfl | rfl | rfl | rfl | rfl | rfl | rfl | rfl <;> simp <;> omega

/-- bytes read back: the bit that was written, zeros behind, whatever follows -/
theorem rbit_pack (l : List Bool) (z : List Nat) (i : Nat) (h : i < 8 * ((l.length + 7) / 8)) : rbit (packBits l ++ z) i = bt l i := by
  unfold rbit
  have hi : i / 8 < (l.length + 7) / 8 := by omega
  have e : (packBits l ++ z).getD (i / 8) 0 = byteAt l (i / 8) := by
    rw [List.getD_eq_getElem?_getD, List.getElem?_append_left (by simpa using hi), packBits_get _ _ hi]; rfl
  rw [e, byteAt_bit _ _ _ (Nat.mod_lt _ (by decide))]
  congr 1; omega

theorem getv_congr (b c : List Nat) (a d n : Nat) (h : ∀ i, i < n → rbit b (a + i) = rbit c (d + i)) : getv b a n = getv c d n := by
  induction n with
  | zero => rfl
  | succ n ih => simp only [getv]; rw [ih (fun i hi => h i (by omega)), h n (by omega)]

theorem bt_bitsOf (x n i : Nat) (h : i < n) : bt (bitsOf x n) i = (x.testBit (n - 1 - i)).toNat := by
  induction n generalizing i with
  | zero => omega
  | succ n ih =>
    cases i with
    | zero => simp [bitsOf, bt]
    | succ i =>
      have := ih i (by omega)
      simp only [bt, bitsOf, List.getD_cons_succ] at this ⊢
      rw [this]; congr 2; omega

/-- what was put is got -/
theorem getv_bitsOf (b : List Nat) (a x n : Nat) (h : ∀ i, i < n → rbit b (a + i) = bt (bitsOf x n) i) : getv b a n = x % 2 ^ n := by
  have key : ∀ m, m ≤ n → getv b a m = x / 2 ^ (n - m) % 2 ^ m := by
    intro m
    induction m with
    | zero => intro _; simp [getv, Nat.mod_one]
    | succ m ih =>
      intro hm
      simp only [getv]
      rw [ih (by omega), h m (by omega), bt_bitsOf _ _ _ (by omega)]
      have e : n - m = (n - (m + 1)) + 1 := by omega
      have e2 : n - 1 - m = n - (m + 1) := by omega
      rw [e, e2, Nat.pow_succ, ← Nat.div_div_eq_div_mul, Nat.testBit_eq_decide_div_mod_eq]
      generalize x / 2 ^ (n - (m + 1)) = y
      rw [Nat.pow_succ, Nat.mul_comm (2 ^ m) 2, Nat.mod_mul]
      by_cases hy : y % 2 = 1 <;> simp [hy] <;> omega
  have := key n (Nat.le_refl n)
  simpa using this

end Ser
