/- Plain laws of segments' names: how they stand, that they may be, that they are read back. -/
import Derived.Test.YtooddfmjgplbjaaBeg
namespace Go.Proofs.Ytooddfmjgplbjaa
open Go.RowKit Go.Proofs.Ytooddfmjgplbjaa.QA Go.Proofs.YtooddfmjgplbjaaW.PrintWords Go.Proofs.YtooddfmjgplbjaaW.PrintLast Go.Proofs.YtooddfmjgplbjaaW.PrintMore
set_option linter.unusedVariables false
set_option linter.unusedSimpArgs false

theorem dl (s : ByteArray) : s.data.toList.length = s.size := by rw [Array.length_toList]; rfl

def hx (d : Nat) : UInt8 := UInt8.ofNat (bt HEX (d : Int)).toNat
def figs (n : Nat) : Nat → List UInt8
  | 0 => []
  | j + 1 => hx (n / 16 ^ j % 16) :: figs n j
theorem figs_length (n j : Nat) : (figs n j).length = j := by
  induction j with
  | zero => rfl
  | succ j ih => simp [figs, ih]
theorem figs_of (n j : Nat) : (hexT n j).map (fun x => UInt8.ofNat x.toNat) = figs n j := by
  induction j with
  | zero => rfl
  | succ j ih => simp [hexT, figs, ih, hx]

def FRONT : List UInt8 := [115, 101, 103, 45]
def BACK : List UInt8 := [46, 108, 111, 103]
theorem seg_data (n : Nat) : (segName n).data.toList = FRONT ++ figs n 16 ++ BACK := by
  rw [← figs_of]
  simp [segName, strOfNums, FRONT, BACK]
theorem seg_toList (n : Nat) : (segName n).toList = FRONT ++ figs n 16 ++ BACK := by rw [ByteArray.toList_eq, seg_data]
theorem seg_size (n : Nat) : (segName n).size = 24 := by
  have : (segName n).data.toList.length = 24 := by rw [seg_data]; simp [FRONT, BACK, figs_length]
  rw [← dl]; exact this

theorem hx_lt_fin : ∀ d e : Fin 16, (decide (hx d.val < hx e.val) = decide (d.val < e.val)) ∧ ((hx d.val == hx e.val) = decide (d.val = e.val)) := by decide +kernel
theorem hx_lt (d e : Nat) (hd : d < 16) (he : e < 16) : decide (hx d < hx e) = decide (d < e) := (hx_lt_fin ⟨d, hd⟩ ⟨e, he⟩).1
theorem hx_eq (d e : Nat) (hd : d < 16) (he : e < 16) : (hx d == hx e) = decide (d = e) := (hx_lt_fin ⟨d, hd⟩ ⟨e, he⟩).2

theorem less_self : ∀ z : List UInt8, Op.bytesLess z z = false
  | [] => rfl
  | a :: z => by simp [Op.bytesLess, less_self z]

theorem mod_step (n j : Nat) : n % 16 ^ (j + 1) = 16 ^ j * (n / 16 ^ j % 16) + n % 16 ^ j := by
  rw [Nat.pow_succ, Nat.mod_mul, Nat.add_comm]

theorem less_figs (n m : Nat) (z : List UInt8) : ∀ j, Op.bytesLess (figs n j ++ z) (figs m j ++ z) = decide (n % 16 ^ j < m % 16 ^ j) := by
  intro j
  induction j with
  | zero => simp [figs, less_self, Nat.mod_one]
  | succ j ih =>
    have hd : n / 16 ^ j % 16 < 16 := Nat.mod_lt _ (by decide)
    have he : m / 16 ^ j % 16 < 16 := Nat.mod_lt _ (by decide)
    have hn : n % 16 ^ j < 16 ^ j := Nat.mod_lt _ (Nat.pow_pos (by decide))
    have hm : m % 16 ^ j < 16 ^ j := Nat.mod_lt _ (Nat.pow_pos (by decide))
    rw [figs, figs, List.cons_append, List.cons_append, Op.bytesLess, ih, hx_lt _ _ hd he, hx_eq _ _ hd he, mod_step n j, mod_step m j]
    generalize n / 16 ^ j % 16 = d at *
    generalize m / 16 ^ j % 16 = e at *
    generalize n % 16 ^ j = x at *
    generalize m % 16 ^ j = y at *
    generalize 16 ^ j = p at *
    rcases Nat.lt_trichotomy d e with h | h | h
    · have h1 : p * (d + 1) ≤ p * e := Nat.mul_le_mul_left _ h
      rw [Nat.mul_add, Nat.mul_one] at h1
      rw [decide_eq_true h, decide_eq_true (show p * d + x < p * e + y by omega)]; rfl
    · subst h
      simp
    · have h1 : p * (e + 1) ≤ p * d := Nat.mul_le_mul_left _ h
      rw [Nat.mul_add, Nat.mul_one] at h1
      rw [decide_eq_false (show ¬ d < e by omega), decide_eq_false (show ¬ d = e by omega), decide_eq_false (show ¬ p * d + x < p * e + y by omega)]; rfl

theorem big (n : Nat) (h : n < 9223372036854775808) : n % 16 ^ 16 = n := Nat.mod_eq_of_lt (Nat.lt_of_lt_of_le h (by decide))

theorem seg_less (n m : Nat) (hn : n < 9223372036854775808) (hm : m < 9223372036854775808) : Op.bytesLess (segName n).toList (segName m).toList = decide (n < m) := by
  rw [seg_toList, seg_toList, List.append_assoc, List.append_assoc]
  have h := less_figs n m BACK 16
  rw [big n hn, big m hm] at h
  rw [← h]
  simp [FRONT, Op.bytesLess]

theorem seg_eq (n m : Nat) (hn : n < 9223372036854775808) (hm : m < 9223372036854775808) : ((segName n).toList == (segName m).toList) = ((n : Int) == (m : Int)) := by
  by_cases h : n = m
  · subst h; simp
  · have h2 : ¬ (segName n).toList = (segName m).toList := by
      intro he
      have h1 := seg_less n m hn hm
      have h3 := seg_less m n hm hn
      rw [he, less_self] at h1
      rw [← he, less_self] at h3
      have e1 := of_decide_eq_false h1.symm
      have e2 := of_decide_eq_false h3.symm
      omega
    have h4 : ¬ (n : Int) = (m : Int) := by omega
    rw [beq_eq_false_iff_ne.mpr h2, beq_eq_false_iff_ne.mpr h4]

/-! the bytes of a name -/
theorem bt_data (s : ByteArray) (i : Nat) : bt s (i : Int) = (((s.data.toList.getD i 0).toNat : Nat) : Int) := by
  unfold bt
  rw [Int.toNat_natCast]
  by_cases h : i < s.size
  · rw [dif_pos h, List.getD_eq_getElem?_getD]
    have h' : i < s.data.toList.length := by rw [dl]; exact h
    rw [List.getElem?_eq_getElem h']
    rfl
  · rw [dif_neg h, List.getD_eq_getElem?_getD, List.getElem?_eq_none (by rw [dl]; omega)]
    rfl

theorem okFrom_eq (s : ByteArray) : ∀ (d j : Nat), j + d = s.size → okFrom s j d = ((s.data.toList.drop j).all fun b => okP ((b.toNat : Nat) : Int)) := by
  intro d
  induction d with
  | zero =>
    intro j hj
    rw [okFrom, List.drop_eq_nil_of_le (by rw [dl]; omega)]; rfl
  | succ d ih =>
    intro j hj
    have hl : j < s.data.toList.length := by rw [dl]; omega
    rw [okFrom, ih (j + 1) (by omega), List.drop_eq_getElem_cons hl, List.all_cons, bt_data, List.getD_eq_getElem?_getD, List.getElem?_eq_getElem hl]
    rfl

theorem hx_ok_fin : ∀ d : Fin 16, plainP (((hx d.val).toNat : Nat) : Int) = true := by decide +kernel
theorem hx_ok (d : Nat) (hd : d < 16) : plainP (((hx d).toNat : Nat) : Int) = true := hx_ok_fin ⟨d, hd⟩
theorem figs_ok (n : Nat) : ∀ j, ((figs n j).all fun b => okP ((b.toNat : Nat) : Int)) = true := by
  intro j
  induction j with
  | zero => rfl
  | succ j ih =>
    rw [figs, List.all_cons, ih, Bool.and_true, okP, hx_ok _ (Nat.mod_lt _ (by decide))]; rfl

theorem seg_may (n : Nat) : mayP (segName n) = true := by
  have h0 : bt (segName n) 0 = 115 := by
    have := bt_data (segName n) 0
    rw [seg_data] at this
    exact this
  have h23 : bt (segName n) ((23 : Nat) : Int) = 103 := by
    rw [bt_data, seg_data, List.getD_eq_getElem?_getD, List.getElem?_append_right (by simp [FRONT, figs_length])]
    simp [FRONT, BACK, figs_length]
  have hall : okFrom (segName n) 0 24 = true := by
    rw [okFrom_eq (segName n) 24 0 (by rw [seg_size]), List.drop_zero, seg_data, List.all_append, List.all_append, figs_ok]
    decide
  rw [mayP, seg_size, h0, h23, hall]
  decide
end Go.Proofs.Ytooddfmjgplbjaa
