/- A segment's name is read back as its number. -/
import Derived.Test.YtooddfmjgplbjaaNLaw
namespace Go.Proofs.Ytooddfmjgplbjaa
open Go.RowKit Go.Proofs.Ytooddfmjgplbjaa.QA Go.Proofs.YtooddfmjgplbjaaW.PrintWords Go.Proofs.YtooddfmjgplbjaaW.PrintLast Go.Proofs.YtooddfmjgplbjaaW.PrintMore
set_option linter.unusedVariables false
set_option linter.unusedSimpArgs false

theorem digit_fin : ∀ d : Fin 16, name_digit.f 17 (((hx d.val).toNat : Nat) : Int) = some ((d.val : Int), true) := by decide +kernel
theorem digit_more {x : Int} {r : Int × Bool} : ∀ (d k : Nat), name_digit.f k x = some r → name_digit.f (k + d) x = some r := by
  intro d
  induction d with
  | zero => intro k h; exact h
  | succ d ih => intro k h; exact name_digit.mono _ _ _ (ih k h)
theorem digit_hx (d k : Nat) (hd : d < 16) (hk : 17 ≤ k) : name_digit.f k (((hx d).toNat : Nat) : Int) = some ((d : Int), true) := by
  obtain ⟨m, rfl⟩ : ∃ m, k = 17 + m := ⟨k - 17, by omega⟩
  exact digit_more m 17 (digit_fin ⟨d, hd⟩)

theorem figs_get (n : Nat) : ∀ k j, j < k → (figs n k).getD j 0 = hx (n / 16 ^ (k - 1 - j) % 16) := by
  intro k
  induction k with
  | zero => intro j h; omega
  | succ k ih =>
    intro j h
    rw [figs]
    cases j with
    | zero => rfl
    | succ j =>
      rw [List.getD_cons_succ, ih j (by omega)]
      congr 4; omega

theorem seg_bt (n j : Nat) (h : j < 16) : bt (segName n) ((4 + j : Nat) : Int) = (((hx (n / 16 ^ (15 - j) % 16)).toNat : Nat) : Int) := by
  rw [bt_data, seg_data, List.append_assoc, List.getD_eq_getElem?_getD, List.getElem?_append_right (by simp [FRONT]), List.getElem?_append_left (by simp [FRONT, figs_length]; omega), ← List.getD_eq_getElem?_getD]
  have := figs_get n 16 j h
  rw [show 4 + j - FRONT.length = j by simp [FRONT], this]

theorem shift_step (n j : Nat) (h : j < 16) : n / 16 ^ (15 - j) = 16 * (n / 16 ^ (16 - j)) + n / 16 ^ (15 - j) % 16 := by
  have e : n / 16 ^ (16 - j) = n / 16 ^ (15 - j) / 16 := by
    rw [Nat.div_div_eq_div_mul, ← Nat.pow_succ, show (15 - j).succ = 16 - j by omega]
  rw [e]; omega

theorem or_nib (x d : Nat) (hd : d < 16) (hx : 16 * x + d < 9223372036854775808) : Go.bits .or .i64 (wrap64 ((x : Int) * 16)) (d : Int) = ((16 * x + d : Nat) : Int) := by
  rw [w64 _ (by omega), show (x : Int) * 16 = ((16 * x : Nat) : Int) by omega, i64_or_nat _ _ (by omega) (by omega)]
  congr 1
  have := Nat.two_pow_add_eq_or_of_lt (i := 4) (by simpa using hd) x
  rw [show (2 : Nat) ^ 4 = 16 from rfl] at this
  exact this.symm

theorem number_loop (n : Nat) (hn1 : 1 ≤ n) (hn : n < 9223372036854775808) : ∀ (d j k : Nat), j + d = 16 → d + 17 < k →
    name_Number.l0 k (segName n) ((n / 16 ^ (16 - j) : Nat) : Int) ((4 + j : Nat) : Int) = some ((n : Int), true) := by
  intro d
  induction d with
  | zero =>
    intro j k hj hk
    obtain ⟨k, rfl⟩ : ∃ m, k = m + 1 := ⟨k - 1, by omega⟩
    obtain rfl : j = 16 := by omega
    rw [name_Number.l0, if_neg (by omega), Nat.sub_self, Nat.pow_zero, Nat.div_one, if_neg (by omega)]
  | succ d ih =>
    intro j k hj hk
    obtain ⟨k, rfl⟩ : ∃ m, k = m + 1 := ⟨k - 1, by omega⟩
    have hs := shift_step n j (by omega)
    have hle : n / 16 ^ (15 - j) ≤ n := Nat.div_le_self _ _
    have hdig : n / 16 ^ (15 - j) % 16 < 16 := Nat.mod_lt _ (by decide)
    have ih1 := ih (j + 1) k (by omega) (by omega)
    rw [name_Number.l0, if_pos (by omega), if_pos (by omega), if_pos (by rw [seg_size]; omega), seg_bt n j (by omega), digit_hx _ k hdig (by omega), Option.bind_some, if_pos rfl]
    rw [or_nib _ _ hdig (by omega), ← hs, w64 _ (by omega), show ((4 + j : Nat) : Int) + 1 = ((4 + (j + 1) : Nat) : Int) by omega]
    rw [show 16 - (j + 1) = 15 - j by omega] at ih1
    exact ih1

theorem ex_data (s : ByteArray) (a b : Nat) : (s.extract a b).toList = (s.data.extract a b).toList := by
  rw [ByteArray.toList_eq, ByteArray.data_extract]

theorem seg_number (n : Nat) (hn1 : 1 ≤ n) (hn : n < 9223372036854775808) : name_Number.f 100 (segName n) = some ((n : Int), true) := by
  have e1 : ((segName n).extract 0 4).toList = ([115, 101, 103, 45] : List UInt8) := by
    rw [ex_data, Array.toList_extract, seg_data]
    simp [List.extract, FRONT]
  have e2 : ((segName n).extract (20 : Int).toNat (segName n).size).toList = ([46, 108, 111, 103] : List UInt8) := by
    rw [ex_data, Array.toList_extract, seg_data, seg_size]
    simp [List.extract, FRONT, BACK, figs_length, List.drop_append, List.take_append]
  unfold name_Number.f
  rw [seg_size] at e2 ⊢
  rw [if_pos (by rfl), if_pos (by decide), if_pos (by decide), e1, if_pos rfl, w64 _ (by omega), show ((24 : Nat) : Int) - 4 = 20 by decide, if_pos (by decide), if_pos (by decide), e2, name_Number.j0, if_neg (by decide)]
  have h := number_loop n hn1 hn 16 0 99 (by omega) (by omega)
  have h0 : n / 16 ^ 16 = 0 := Nat.div_eq_of_lt (Nat.lt_of_lt_of_le hn (by decide))
  rw [show 16 - 0 = 16 from rfl, h0] at h
  exact h

theorem seg_kind (n : Nat) (hn1 : 1 ≤ n) (hn : n < 9223372036854775808) : name_Kind.f 100 (segName n) = some 1 := by
  unfold name_Kind.f
  rw [seg_number n hn1 hn, Option.bind_some, may_eq, Option.bind_some, seg_may, if_pos rfl, if_pos rfl]

theorem seg_ne (n : Nat) (s : ByteArray) (h : s.size ≠ 24) : ¬ (segName n).toList = s.toList := by
  intro he
  rw [ByteArray.toList_eq, ByteArray.toList_eq] at he
  have := congrArg List.length he
  rw [dl, dl, seg_size] at this
  exact h this.symm
end Go.Proofs.Ytooddfmjgplbjaa
