/- The loops of the document's own Order of names. -/
import Derived.Test.YtooddfmjgplbjaaNIns
namespace Go.Proofs.Ytooddfmjgplbjaa
open Go.RowKit Go.Proofs.Ytooddfmjgplbjaa.QA Go.Proofs.Ytooddfmjgplbjaa.QC Go.Proofs.YtooddfmjgplbjaaW.PrintWords Go.Proofs.YtooddfmjgplbjaaW.PrintLast Go.Proofs.YtooddfmjgplbjaaW.PrintMore
set_option linter.unusedVariables false
set_option linter.unusedSimpArgs false

theorem ofL_toList (l : By) : (ofL l).toList = l := by rw [ByteArray.toList_eq]; simp [ofL]
theorem toL_toList (s : ByteArray) : s.toList = toL s := ByteArray.toList_eq s
theorem rd_nat {l : List ByteArray} {i : Nat} (h : i < l.length) : rdOf ByteArray.empty l (i : Int) = l[i] := by
  unfold rdOf
  rw [Int.toNat_natCast, List.getD_eq_getElem?_getD, List.getElem?_eq_getElem h]; rfl

theorem l2_run (ss : List ByteArray) (hss : ss.length ≤ 1000) (j : Nat) (hj : j < ss.length) (l : List ByteArray) (hl : l.length ≤ 1000) (at_ : Nat) (hat : at_ ≤ l.length) : ∀ (d k : Nat) (z : ByteArray), at_ + d ≤ l.length →
    flumeref8_Order.l2 (k + d + 1) ss (l.take (at_ + d) ++ z :: l.drop (at_ + d)) (j : Int) (at_ : Int) ((at_ + d : Nat) : Int) = flumeref8_Order.l0 k ss (l.take at_ ++ ss[j] :: l.drop at_) ((j + 1 : Nat) : Int) := by
  intro d
  induction d with
  | zero =>
    intro k z hd
    have hlen : (l.take (at_ + 0) ++ z :: l.drop (at_ + 0)).length = l.length + 1 := by simp; omega
    rw [flumeref8_Order.l2, hlen, if_neg (by omega), if_pos (by omega), if_pos (by omega), if_pos (by omega), if_pos (by omega), Int.toNat_natCast, rd_nat hj, w64 _ (by omega), show (j : Int) + 1 = ((j + 1 : Nat) : Int) by omega]
    congr 1
    rw [Nat.add_zero, List.set_append_right _ _ (by rw [List.length_take]; omega), List.length_take, Nat.min_eq_left hat, Nat.sub_self, List.set_cons_zero]
  | succ d ih =>
    intro k z hd
    have hlen : (l.take (at_ + (d + 1)) ++ z :: l.drop (at_ + (d + 1))).length = l.length + 1 := by simp; omega
    have hi : at_ + d < l.length := by omega
    have e1 : wrap64 (((at_ + (d + 1) : Nat) : Int) - 1) = ((at_ + d : Nat) : Int) := by rw [w64 _ (by omega)]; omega
    have e2 : (l.take (at_ + (d + 1)) ++ z :: l.drop (at_ + (d + 1)))[at_ + d]'(by rw [hlen]; omega) = l[at_ + d] := by
      rw [List.getElem_append_left (by simp; omega), List.getElem_take]
    have e3 : (l.take (at_ + (d + 1)) ++ z :: l.drop (at_ + (d + 1))).set (at_ + (d + 1)) l[at_ + d] = l.take (at_ + d) ++ l[at_ + d] :: l.drop (at_ + d) := by
      rw [List.set_append_right _ _ (by rw [List.length_take]; omega), List.length_take, Nat.min_eq_left hd, Nat.sub_self, List.set_cons_zero, ← Nat.add_assoc, List.take_add_one, List.getElem?_eq_getElem hi, List.append_assoc, List.drop_eq_getElem_cons hi]
      rfl
    rw [show k + (d + 1) + 1 = (k + d + 1) + 1 by omega, flumeref8_Order.l2, hlen, if_pos (by omega), e1, if_pos (by omega), if_pos (by omega), if_pos (by omega), if_pos (by omega), Int.toNat_natCast, rd_nat (by rw [hlen]; omega), e2, e3]
    exact ih k _ (by omega)

theorem l1_run (ss : List ByteArray) (hss : ss.length ≤ 1000) (j : Nat) (hj : j < ss.length) (L : List By) (hl : L.length ≤ 1000) (at_ : Nat) (hat : at_ ≤ L.length)
    (hlt : ∀ i, i < at_ → ∃ h : i < L.length, L[i] < toL ss[j]) (hst : ∀ h : at_ < L.length, ¬ L[at_] < toL ss[j]) : ∀ (d i k : Nat), i + d = at_ →
    flumeref8_Order.l1 (k + d + 1) ss (L.map ofL) (j : Int) (i : Int) = flumeref8_Order.j2 k ss (L.map ofL) (j : Int) (at_ : Int) := by
  intro d
  induction d with
  | zero =>
    intro i k hi
    obtain rfl : i = at_ := by omega
    rw [flumeref8_Order.l1, List.length_map]
    by_cases h : i < L.length
    · have hb : ¬ Op.bytesLess (rdOf ByteArray.empty (L.map ofL) (i : Int)).toList (rdOf ByteArray.empty ss (j : Int)).toList = true := by
        rw [rd_nat (by simpa using h), rd_nat hj, List.getElem_map, ofL_toList, toL_toList, Go.Proofs.bytesLess_eq]
        simpa using hst h
      rw [if_pos (by omega), if_pos (by omega), if_pos (by omega), if_pos (by omega), if_neg hb]
    · rw [if_neg (by omega)]
  | succ d ih =>
    intro i k hi
    obtain ⟨h, hlt1⟩ := hlt i (by omega)
    have hb : Op.bytesLess (rdOf ByteArray.empty (L.map ofL) (i : Int)).toList (rdOf ByteArray.empty ss (j : Int)).toList = true := by
      rw [rd_nat (by simpa using h), rd_nat hj, List.getElem_map, ofL_toList, toL_toList, Go.Proofs.bytesLess_eq]
      simpa using hlt1
    rw [show k + (d + 1) + 1 = (k + d + 1) + 1 by omega, flumeref8_Order.l1, List.length_map, if_pos (by omega), if_pos (by omega), if_pos (by omega), if_pos (by omega), if_pos hb, w64 _ (by omega), show (i : Int) + 1 = ((i + 1 : Nat) : Int) by omega]
    exact ih (i + 1) k (by omega)

theorem round_run (ss : List ByteArray) (hss : ss.length ≤ 1000) (j : Nat) (hj : j < ss.length) (L : List By) (hl : L.length ≤ 900) (k : Nat) (hk : 100 ≤ k) :
    ∃ n, n ≤ 2 * L.length + 6 ∧ flumeref8_Order.l0 (k + n) ss (L.map ofL) (j : Int) = flumeref8_Order.l0 k ss ((if mayP ss[j] = true then insS (toL ss[j]) L else L).map ofL) ((j + 1 : Nat) : Int) := by
  have hmay : ∀ m, 100 ≤ m → flumeref8_May.f m (rdOf ByteArray.empty ss (j : Int)) = some (mayP ss[j]) := by
    intro m hm
    obtain ⟨q, rfl⟩ : ∃ q, m = 100 + q := ⟨m - 100, by omega⟩
    rw [rd_nat hj]
    exact mayref_more _ q
  by_cases hm : mayP ss[j] = true
  · rw [if_pos hm]
    obtain ⟨a, h1, h2, h3⟩ := insS_split (toL ss[j]) L
    rcases h3 with ⟨h, he, hi⟩ | ⟨h, hi⟩
    · refine ⟨a + 4, by omega, ?_⟩
      have hr := l1_run ss hss j hj L (by omega) a h1 h2 (fun hh hc => by rw [he] at hc; exact List.lt_irrefl _ hc) a 0 (k + 2) (by omega)
      rw [show k + (a + 4) = (k + 2 + a + 1) + 1 by omega, flumeref8_Order.l0, if_pos (by omega), if_pos (by omega), hmay _ (by omega), Option.bind_some, if_pos hm]
      rw [show ((0 : Nat) : Int) = 0 from rfl] at hr
      have heq : ((rdOf ByteArray.empty (L.map ofL) (a : Int)).toList == (rdOf ByteArray.empty ss (j : Int)).toList) = true := by
        rw [rd_nat (by simpa using h), rd_nat hj, List.getElem_map, ofL_toList, toL_toList, he]; simp
      rw [hr, flumeref8_Order.j2, List.length_map, if_pos (by omega), if_pos (by omega), if_pos (by omega), if_pos (by omega), heq, flumeref8_Order.j3, if_pos rfl, w64 _ (by omega), hi]
      rfl
    · refine ⟨a + (L.length - a) + 5, by omega, ?_⟩
      have hr := l1_run ss hss j hj L (by omega) a h1 h2 (fun hh => (h hh).1) a 0 (k + (L.length - a) + 3) (by omega)
      have h2r := l2_run ss hss j hj (L.map ofL) (by simp; omega) a (by simpa using h1) (L.length - a) k (⟨#[]⟩ : ByteArray) (by simp; omega)
      rw [show k + (a + (L.length - a) + 5) = (k + (L.length - a) + 3 + a + 1) + 1 by omega, flumeref8_Order.l0, if_pos (by omega), if_pos (by omega), hmay _ (by omega), Option.bind_some, if_pos hm]
      rw [show ((0 : Nat) : Int) = 0 from rfl] at hr
      rw [hr, flumeref8_Order.j2, List.length_map]
      have hj3 : flumeref8_Order.j3 (k + (L.length - a) + 2) ss (L.map ofL) (j : Int) (a : Int) false = flumeref8_Order.l0 k ss ((insS (toL ss[j]) L).map ofL) ((j + 1 : Nat) : Int) := by
        rw [flumeref8_Order.j3, if_neg (by decide), if_pos (by simp; omega), Option.bind_some]
        have e1 : wrap64 (((L.map ofL ++ [(⟨#[]⟩ : ByteArray)]).length : Int) - 1) = ((a + (L.length - a) : Nat) : Int) := by
          rw [w64 _ (by simp; omega)]; simp; omega
        have e2 : L.map ofL ++ [(⟨#[]⟩ : ByteArray)] = (L.map ofL).take (a + (L.length - a)) ++ (⟨#[]⟩ : ByteArray) :: (L.map ofL).drop (a + (L.length - a)) := by
          rw [List.take_of_length_le (by simp; omega), List.drop_eq_nil_of_le (by simp; omega)]
        rw [e1, e2, h2r, hi]
        congr 1
        simp [of_to]
      by_cases hal : a < L.length
      · have hne : ((rdOf ByteArray.empty (L.map ofL) (a : Int)).toList == (rdOf ByteArray.empty ss (j : Int)).toList) = false := by
          rw [rd_nat (by simpa using hal), rd_nat hj, List.getElem_map, ofL_toList, toL_toList]
          exact beq_eq_false_iff_ne.mpr (h hal).2
        rw [if_pos (by omega), if_pos (by omega), if_pos (by omega), if_pos (by omega), hne]
        exact hj3
      · rw [if_neg (by omega)]
        exact hj3
  · rw [if_neg hm]
    refine ⟨1, by omega, ?_⟩
    rw [flumeref8_Order.l0, if_pos (by omega), if_pos (by omega), hmay _ hk, Option.bind_some, if_neg hm, w64 _ (by omega)]
    rfl

theorem insS_length (s : By) (l : List By) : (insS s l).length ≤ l.length + 1 := by
  induction l with
  | nil => simp [insS]
  | cons y t ih =>
    rw [insS]
    split
    · simp; omega
    · split <;> simp

theorem ref_all (ss : List ByteArray) (hss : ss.length ≤ 400) : ∀ (d j : Nat) (L : List By) (k : Nat), j + d = ss.length → L.length ≤ j → 1000 * d + 101 ≤ k →
    flumeref8_Order.l0 k ss (L.map ofL) (j : Int) = some ((insAll L (ss.drop j)).map ofL) := by
  intro d
  induction d with
  | zero =>
    intro j L k hj hl hk
    obtain ⟨k, rfl⟩ : ∃ m, k = m + 1 := ⟨k - 1, by omega⟩
    rw [flumeref8_Order.l0, if_neg (by omega), List.drop_eq_nil_of_le (by omega)]; rfl
  | succ d ih =>
    intro j L k hj hl hk
    have hjs : j < ss.length := by omega
    obtain ⟨n, hn, hr⟩ := round_run ss (by omega) j hjs L (by omega) (k - (2 * L.length + 6)) (by omega)
    have hmore := at_rounds (g := fun q => flumeref8_Order.l0 q ss (L.map ofL) (j : Int)) (fun q => ((flumeref8_Order.mono_l q).1 ss (L.map ofL) (j : Int)))
      (show k - (2 * L.length + 6) + n ≤ k by omega) (r := (insAll L (ss.drop j)).map ofL) (by
        show flumeref8_Order.l0 (k - (2 * L.length + 6) + n) ss (L.map ofL) (j : Int) = _
        rw [hr, ih (j + 1) _ _ (by omega) (by split; exact Nat.le_trans (insS_length _ _) (by omega); omega) (by omega)]
        rw [List.drop_eq_getElem_cons hjs]
        rfl)
    exact hmore

theorem orderref_eq (ss : List ByteArray) (hss : ss.length ≤ 400) : flumeref8_Order.f 500000 ss = some ((orderF ss).map ofL) := by
  have := ref_all ss hss ss.length 0 [] 500000 (by omega) (by simp) (by omega)
  rw [List.drop_zero, insAll_eq] at this
  exact this
end Go.Proofs.Ytooddfmjgplbjaa
