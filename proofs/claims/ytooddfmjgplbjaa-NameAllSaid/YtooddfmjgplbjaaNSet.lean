/- Plain law: a list sorted, each once, by the library's sort, is the list that the reference builds by putting each in its place. -/
import Derived.Test.YtooddfmjgplbjaaNRef2
import Derived.Sort.Walk0
namespace Go.Proofs.Ytooddfmjgplbjaa
open Go.RowKit Go.Proofs.Ytooddfmjgplbjaa.QA Go.Proofs.Ytooddfmjgplbjaa.QC Go.Proofs.YtooddfmjgplbjaaW.PrintWords Go.Proofs.YtooddfmjgplbjaaW.PrintLast Go.Proofs.YtooddfmjgplbjaaW.PrintMore
set_option linter.unusedVariables false
set_option linter.unusedSimpArgs false

abbrev By := List UInt8

/-- Two lists, each strictly rising, of the same members, are one. -/
theorem strict_unique : ∀ (a b : List By), a.Pairwise (· < ·) → b.Pairwise (· < ·) → (∀ x, x ∈ a ↔ x ∈ b) → a = b := by
  intro a
  induction a with
  | nil =>
    intro b _ _ h
    cases b with
    | nil => rfl
    | cons y t => exact absurd ((h y).2 (by simp)) (by simp)
  | cons x a ih =>
    intro b ha hb h
    cases b with
    | nil => exact absurd ((h x).1 (by simp)) (by simp)
    | cons y b =>
      obtain ⟨ha1, ha2⟩ := List.pairwise_cons.1 ha
      obtain ⟨hb1, hb2⟩ := List.pairwise_cons.1 hb
      have hxy : x = y := by
        rcases List.mem_cons.1 ((h x).1 (by simp)) with h1 | h1
        · exact h1
        · rcases List.mem_cons.1 ((h y).2 (by simp)) with h2 | h2
          · exact h2.symm
          · exact absurd (List.lt_trans (hb1 x h1) (ha1 y h2)) (List.lt_irrefl _)
      subst hxy
      congr 1
      refine ih b ha2 hb2 fun z => ⟨fun hz => ?_, fun hz => ?_⟩
      · rcases List.mem_cons.1 ((h z).1 (by simp [hz])) with h1 | h1
        · subst h1; exact absurd (ha1 z hz) (List.lt_irrefl _)
        · exact h1
      · rcases List.mem_cons.1 ((h z).2 (by simp [hz])) with h1 | h1
        · subst h1; exact absurd (hb1 z hz) (List.lt_irrefl _)
        · exact h1

theorem compact_sorted (zs : List By) (hs : zs.Pairwise (· ≤ ·)) : (Lib.compact zs).Pairwise (· < ·) ∧ ∀ x, x ∈ Lib.compact zs ↔ x ∈ zs := by
  have key : ∀ m, m ≤ zs.length → (Lib.compactUpTo zs.toArray m).Pairwise (· < ·) ∧ (∀ x, x ∈ Lib.compactUpTo zs.toArray m ↔ x ∈ zs.take m) ∧ ∀ x ∈ Lib.compactUpTo zs.toArray m, ∀ j, m = j + 1 → x ≤ zs.toArray[j]! := by
    intro m
    induction m with
    | zero => intro _; simp [Lib.compactUpTo]
    | succ m ih =>
      intro hm
      obtain ⟨h1, h2, h3⟩ := ih (by omega)
      have hml : m < zs.length := by omega
      have hget : zs.toArray[m]! = zs[m] := by simp [hml]
      rw [Lib.compactUpTo_succ, hget]
      have htk : zs.take (m + 1) = zs.take m ++ [zs[m]] := by rw [List.take_add_one, List.getElem?_eq_getElem hml]; rfl
      have hup : ∀ x ∈ zs.take m, x ≤ zs[m] := by
        intro x hx
        obtain ⟨i, hi, rfl⟩ := List.mem_iff_getElem.1 hx
        rw [List.length_take] at hi
        rw [List.getElem_take]
        exact List.pairwise_iff_getElem.1 hs i m (by omega) hml (by omega)
      by_cases hk : Lib.keeps zs.toArray m = true
      · rw [if_pos hk]
        have hlt : ∀ x ∈ Lib.compactUpTo zs.toArray m, x < zs[m] := by
          intro x hx
          rcases Nat.eq_zero_or_pos m with h0 | h0
          · subst h0; simp [Lib.compactUpTo] at hx
          · obtain ⟨j, rfl⟩ : ∃ j, m = j + 1 := ⟨m - 1, by omega⟩
            have hxj := h3 x hx j rfl
            have hne : zs.toArray[j + 1]! ≠ zs.toArray[j]! := by
              simp [Lib.keeps] at hk
              simpa using hk
            have hle := hup zs[j] (by rw [List.mem_take_iff_getElem]; exact ⟨j, by omega, rfl⟩)
            have hj : zs.toArray[j]! = zs[j] := by simp [show j < zs.length by omega]
            rw [hget, hj] at hne
            rw [hj] at hxj
            have hstep : zs[j] < zs[j + 1] := by
              rcases Decidable.em (zs[j] < zs[j + 1]) with h | h
              · exact h
              · exact absurd (List.le_antisymm (List.not_lt.1 h) hle) hne
            exact List.lt_of_le_of_lt hxj hstep
        refine ⟨?_, ?_, ?_⟩
        · rw [List.pairwise_append]
          exact ⟨h1, by simp, fun x hx y hy => by rw [List.mem_singleton.1 hy]; exact hlt x hx⟩
        · intro x; rw [htk, List.mem_append, List.mem_append, h2]
        · intro x hx j hj
          obtain rfl : m = j := by omega
          rw [hget]
          rcases List.mem_append.1 hx with hx | hx
          · exact hup x ((h2 x).1 hx)
          · rw [List.mem_singleton.1 hx]; exact List.le_refl _
      · rw [if_neg hk, List.append_nil]
        have hm0 : m ≠ 0 := by
          intro h; subst h; exact hk (by simp [Lib.keeps])
        obtain ⟨j, rfl⟩ : ∃ j, m = j + 1 := ⟨m - 1, by omega⟩
        have heq : zs[j + 1] = zs[j] := by
          have hj : zs.toArray[j]! = zs[j] := by simp [show j < zs.length by omega]
          rcases Decidable.em (zs[j + 1] = zs[j]) with h | h
          · exact h
          · refine absurd (decide_eq_true (.inr ?_)) hk
            rw [hget, show j + 1 - 1 = j from rfl, hj]
            exact h
        refine ⟨h1, ?_, ?_⟩
        · intro x
          rw [h2, htk, List.mem_append]
          refine ⟨fun h => .inl h, fun h => ?_⟩
          rcases h with h | h
          · exact h
          · rw [List.mem_singleton.1 h, heq, List.mem_take_iff_getElem]
            exact ⟨j, by omega, rfl⟩
        · intro x hx i hi
          obtain rfl : j + 1 = i := by omega
          rw [hget]
          exact hup x ((h2 x).1 hx)
  have := key zs.length (Nat.le_refl _)
  rw [List.take_length] at this
  exact ⟨this.1, this.2.1⟩
end Go.Proofs.Ytooddfmjgplbjaa
