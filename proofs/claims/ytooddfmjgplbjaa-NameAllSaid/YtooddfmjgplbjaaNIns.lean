/- The document's own Order of names comes to what the program's comes to. -/
import Derived.Test.YtooddfmjgplbjaaNSet
namespace Go.Proofs.Ytooddfmjgplbjaa
open Go.RowKit Go.Proofs.Ytooddfmjgplbjaa.QA Go.Proofs.Ytooddfmjgplbjaa.QC Go.Proofs.YtooddfmjgplbjaaW.PrintWords Go.Proofs.YtooddfmjgplbjaaW.PrintLast Go.Proofs.YtooddfmjgplbjaaW.PrintMore
set_option linter.unusedVariables false
set_option linter.unusedSimpArgs false

theorem orderF_sorted (ss : List ByteArray) : (orderF ss).Pairwise (· < ·) ∧ ∀ x, x ∈ orderF ss ↔ x ∈ (ss.filter mayP).map toL := by
  have hs : (((ss.filter mayP).map toL).mergeSort fun x y => decide (x ≤ y)).Pairwise (· ≤ ·) := by
    have := List.pairwise_mergeSort (le := fun x y : By => decide (x ≤ y)) (fun a b c hab hbc => decide_eq_true (List.le_trans (of_decide_eq_true hab) (of_decide_eq_true hbc)))
      (fun a b => by rcases List.le_total a b with h | h <;> simp [h]) ((ss.filter mayP).map toL)
    exact this.imp (fun h => of_decide_eq_true h)
  obtain ⟨h1, h2⟩ := compact_sorted _ hs
  refine ⟨h1, fun x => ?_⟩
  unfold orderF
  rw [h2 x, List.mem_mergeSort]

/-- A text put in its place, if it isn't there. -/
def insS (s : By) : List By → List By
  | [] => [s]
  | x :: t => if x < s then x :: insS s t else if x = s then x :: t else s :: x :: t

theorem insS_spec (s : By) : ∀ l : List By, l.Pairwise (· < ·) → (insS s l).Pairwise (· < ·) ∧ ∀ x, x ∈ insS s l ↔ x = s ∨ x ∈ l := by
  intro l
  induction l with
  | nil => intro _; simp [insS]
  | cons y t ih =>
    intro h
    obtain ⟨h1, h2⟩ := List.pairwise_cons.1 h
    obtain ⟨i1, i2⟩ := ih h2
    rw [insS]
    by_cases c1 : y < s
    · rw [if_pos c1]
      refine ⟨List.pairwise_cons.2 ⟨fun z hz => ?_, i1⟩, fun x => ?_⟩
      · rcases (i2 z).1 hz with rfl | hz
        · exact c1
        · exact h1 z hz
      · rw [List.mem_cons, i2, List.mem_cons]
        constructor
        · rintro (h | h | h)
          · exact .inr (.inl h)
          · exact .inl h
          · exact .inr (.inr h)
        · rintro (h | h | h)
          · exact .inr (.inl h)
          · exact .inl h
          · exact .inr (.inr h)
    · rw [if_neg c1]
      by_cases c2 : y = s
      · rw [if_pos c2]
        refine ⟨h, fun x => ?_⟩
        rw [List.mem_cons, c2]
        constructor
        · intro h; exact .inr h
        · rintro (h | h)
          · exact .inl h
          · exact h
      · rw [if_neg c2]
        have hsy : s < y := by
          rcases Decidable.em (s < y) with h | h
          · exact h
          · exact absurd (List.le_antisymm (List.not_lt.1 h) (List.not_lt.1 c1)) c2
        refine ⟨List.pairwise_cons.2 ⟨fun z hz => ?_, h⟩, fun x => by rw [List.mem_cons]⟩
        rcases List.mem_cons.1 hz with rfl | hz
        · exact hsy
        · exact List.lt_trans hsy (h1 z hz)

def insAll (l : List By) (ss : List ByteArray) : List By := ss.foldl (fun acc s => if mayP s = true then insS (toL s) acc else acc) l

theorem insAll_spec : ∀ (ss : List ByteArray) (l : List By), l.Pairwise (· < ·) → (insAll l ss).Pairwise (· < ·) ∧ ∀ x, x ∈ insAll l ss ↔ x ∈ l ∨ x ∈ (ss.filter mayP).map toL := by
  intro ss
  induction ss with
  | nil => intro l h; simp [insAll, h]
  | cons s t ih =>
    intro l h
    unfold insAll
    rw [List.foldl_cons]
    by_cases hm : mayP s = true
    · obtain ⟨j1, j2⟩ := insS_spec (toL s) l h
      obtain ⟨i1, i2⟩ := ih _ j1
      rw [if_pos hm]
      refine ⟨i1, fun x => ?_⟩
      have := i2 x
      unfold insAll at this
      rw [this, j2, List.filter_cons, if_pos hm, List.map_cons, List.mem_cons]
      constructor
      · rintro ((h | h) | h)
        · exact .inr (.inl h)
        · exact .inl h
        · exact .inr (.inr h)
      · rintro (h | h | h)
        · exact .inl (.inr h)
        · exact .inl (.inl h)
        · exact .inr h
    · rw [if_neg hm, List.filter_cons, if_neg hm]
      exact ih l h

theorem insAll_eq (ss : List ByteArray) : insAll [] ss = orderF ss := by
  obtain ⟨a1, a2⟩ := insAll_spec ss [] List.Pairwise.nil
  obtain ⟨b1, b2⟩ := orderF_sorted ss
  refine strict_unique _ _ a1 b1 fun x => ?_
  rw [a2, b2]
  simp

/-! the reference's loops -/
theorem insS_split (s : By) : ∀ (l : List By), ∃ at_, at_ ≤ l.length ∧ (∀ i, i < at_ → ∃ h : i < l.length, l[i] < s) ∧
    ((∃ h : at_ < l.length, l[at_] = s ∧ insS s l = l) ∨ ((∀ h : at_ < l.length, ¬ l[at_] < s ∧ ¬ l[at_] = s) ∧ insS s l = l.take at_ ++ s :: l.drop at_)) := by
  intro l
  induction l with
  | nil => exact ⟨0, Nat.le_refl _, fun i h => absurd h (Nat.not_lt_zero _), .inr ⟨fun h => absurd h (Nat.not_lt_zero _), rfl⟩⟩
  | cons y t ih =>
    rw [insS]
    by_cases c1 : y < s
    · obtain ⟨a, h1, h2, h3⟩ := ih
      rw [if_pos c1]
      refine ⟨a + 1, by simpa using h1, fun i hi => ?_, ?_⟩
      · cases i with
        | zero => exact ⟨by simp, c1⟩
        | succ i =>
          obtain ⟨h, hlt⟩ := h2 i (by omega)
          exact ⟨by simpa using h, by simpa using hlt⟩
      · rcases h3 with ⟨h, he, hi⟩ | ⟨h, hi⟩
        · exact .inl ⟨by simpa using h, by simpa using he, by rw [hi]⟩
        · exact .inr ⟨fun hh => by simpa using h (by simpa using hh), by rw [hi]; rfl⟩
    · rw [if_neg c1]
      by_cases c2 : y = s
      · rw [if_pos c2]
        exact ⟨0, Nat.zero_le _, fun i h => absurd h (Nat.not_lt_zero _), .inl ⟨by simp, c2, rfl⟩⟩
      · rw [if_neg c2]
        exact ⟨0, Nat.zero_le _, fun i h => absurd h (Nat.not_lt_zero _), .inr ⟨fun _ => ⟨c1, c2⟩, rfl⟩⟩
end Go.Proofs.Ytooddfmjgplbjaa
