/- The sorted list that a heap stands for; what Go takes from it. -/
import Derived.Test.YtnniljcmjcjleaaHp
namespace Go.Proofs.Ytnniljcmjcjleaa
set_option linter.unusedVariables false
set_option linter.unusedSimpArgs false

def Sorted (l : List Tm) : Prop := l.Pairwise fun a b => ¬ ltP b a
theorem sorted_unique {a b : List Tm} (ha : Sorted a) (hb : Sorted b) (hp : a.Perm b) : a = b :=
  List.Perm.eq_of_pairwise (fun x y _ _ h1 h2 => lt_total h2 h1) ha hb hp
theorem map_toTm {l : List Tm} (h : Small l) : (l.map toA).map toTm = l := by
  rw [List.map_map]
  conv => rhs; rw [← List.map_id l]
  apply List.map_congr_left
  intro t ht
  exact toTm_toA t (h t ht)
theorem sortT_perm {l : List Tm} (h : Small l) : (sortT l).Perm l := by
  have h1 := (List.mergeSort_perm (l.map toA) fun x y => !(Go.Proofs.ltOf cfA) y x).map toTm
  rw [map_toTm h] at h1
  exact h1
theorem sortT_sorted (l : List Tm) : Sorted (sortT l) := by
  unfold sortT Sorted
  rw [List.pairwise_map]
  refine List.Pairwise.imp ?_ (List.pairwise_mergeSort (le := fun x y => !(Go.Proofs.ltOf cfA) y x) ?_ ?_ (l.map toA))
  · intro x y hxy
    have : Go.Proofs.ltOf cfA y x = false := by simpa using hxy
    rw [ltA_false] at this
    exact this
  · intro x y z h1 h2
    simp only [Bool.not_eq_true', ltA_false] at *
    omega
  · intro x y
    by_cases h : Go.Proofs.ltOf cfA y x = true
    · have : Go.Proofs.ltOf cfA x y = false := by
        rw [ltA_false]
        rw [ltA_iff] at h
        omega
      simp [this]
    · simp [h]
/-- The sorted list of one heap's timers: its least one, then the rest's. -/
theorem sort_cons {l : List Tm} (h : Heap l) (hp : 0 < l.length) : sortT l = at_ l 0 :: sortT (popT l) := by
  obtain ⟨hh, hperm⟩ := pop_heap h hp
  have h1 : (sortT l).Perm (at_ l 0 :: sortT (popT l)) := ((sortT_perm h.small).trans hperm).trans (List.Perm.cons _ (sortT_perm hh.small).symm)
  refine sorted_unique (sortT_sorted l) ?_ h1
  refine List.pairwise_cons.2 ⟨fun b hb => ?_, sortT_sorted _⟩
  have hb2 : b ∈ l := by
    have : b ∈ popT l := (sortT_perm hh.small).mem_iff.1 hb
    exact hperm.mem_iff.2 (List.mem_cons_of_mem _ this)
  obtain ⟨i, hi, rfl⟩ := List.getElem_of_mem hb2
  rw [← at_eq l i hi]
  exact heap_min h.heap i hi
/-- What goes off, and what is left, of a sorted list. -/
def goS (t : Nat) (s : List Tm) : List Tm := s.takeWhile fun x => leF x.2 t
def goR (t : Nat) (s : List Tm) : List Tm := s.dropWhile fun x => leF x.2 t
theorem goL_sorted (t : Nat) : ∀ (n : Nat) (l : List Tm), Heap l → l.length = n → (goL t n l).1 = (goS t (sortT l)).map (·.1) ∧ Heap (goL t n l).2 ∧ sortT (goL t n l).2 = goR t (sortT l)
  | 0, l, h, hn => by
    have hl : l = [] := List.eq_nil_of_length_eq_zero hn
    subst hl
    have e0 : sortT [] = [] := by simp [sortT]
    rw [goL, e0]
    refine ⟨rfl, Heap.nil, ?_⟩
    first | rfl | (rw [e0]; rfl)
  | n + 1, l, h, hn => by
    have hp : 0 < l.length := by omega
    have hs := sort_cons h hp
    rw [goL]
    by_cases hle : leF (at_ l 0).2 t = true
    · rw [if_pos ⟨hp, hle⟩, hs]
      obtain ⟨h1, h2, h3⟩ := goL_sorted t n (popT l) (pop_heap h hp).1 (by rw [popT_length]; omega)
      refine ⟨?_, h2, ?_⟩
      · show (at_ l 0).1 :: _ = (goS t (at_ l 0 :: sortT (popT l))).map (·.1)
        rw [h1, goS, goS, List.takeWhile_cons, if_pos hle]
        rfl
      · rw [h3, goR, goR, List.dropWhile_cons, if_pos hle]
    · rw [if_neg (fun h => hle h.2)]
      refine ⟨?_, h, ?_⟩
      · rw [hs, goS, List.takeWhile_cons, if_neg hle]
        rfl
      · show sortT l = _
        rw [hs, goR, List.dropWhile_cons, if_neg hle]
end Go.Proofs.Ytnniljcmjcjleaa
