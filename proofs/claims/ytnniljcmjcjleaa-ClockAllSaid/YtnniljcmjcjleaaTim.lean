/- A clock's Timers: a copy, sorted. -/
import Derived.Test.YtnniljcmjcjleaaGrow
import Derived.Test.YtnniljcmjcjleaaLayS
import Derived.Shelf.SlSortCmp.WholeK
namespace Go.Proofs.Ytnniljcmjcjleaa
open Go.RowKit Go.Sort Go.Shelf Go.Proofs.Ytnniljcmjcjleaa.QA Go.Proofs.YtnniljcmjcjleaaW.PrintWords Go.Proofs.YtnniljcmjcjleaaW.PrintLast Go.Proofs.YtnniljcmjcjleaaW.PrintMore
attribute [local go_sem] fl_store fl_bits fl_frombits fl_usigned
set_option linter.unusedVariables false
set_option linter.unusedSimpArgs false

theorem append_types (A : Option Addr) (n c : Nat) (W : World) : (Builtin.append_ #[39, 58] 39 #[.slice none 0 0, .slice A n c]).run Try.prog W = (Builtin.append_ #[39, 39] 39 #[.slice none 0 0, .slice A n c]).run Try.prog W := by kernel_rfl
theorem append_none (A : Option Addr) (c : Nat) (W : World) : (Builtin.append_ #[39, 58] 39 #[.slice none 0 0, .slice A 0 c]).run Try.prog W = .ok (.slice none 0 0) W := by
  cases A with
  | none => kernel_rfl
  | some a => kernel_rfl
/-- A row of timers of somebody's own, from a base on. -/
def TB (w : World) (base : Nat) (v : Value) (l : List Tm) : Prop := kT.R 70 w base (fun _ => True) v l
theorem timers_copy (A : Option Addr) (n c : Nat) (l : List Tm) (W : World) (h : TR W (.slice A n c) l) (hn : n ≤ 1000) :
    ∃ v1 w1, (Builtin.append_ #[39, 58] 39 #[.slice none 0 0, .slice A n c]).run Try.prog W = .ok v1 w1 ∧ TB w1 W.heap.size v1 l ∧ Below W.heap.size W w1 ∧ (n = 0 → v1 = .slice none 0 0) ∧ (0 < n → v1.ownBlock = some W.heap.size) := by
  have hl := h.len.1
  rcases Nat.eq_zero_or_pos n with h0 | hp
  · subst h0
    have hl0 : l = [] := List.eq_nil_of_length_eq_zero hl.symm
    subst hl0
    exact ⟨_, _, append_none A c W, Kd.R_nil _ _ _ _ _, Below.refl _ _, fun _ => rfl, fun h => by omega⟩
  · obtain ⟨g, rfl, _⟩ := h.get 0 (by omega) (by omega)
    obtain ⟨_, inner, ho, hrep⟩ := h
    rw [append_types]
    obtain ⟨i, hi, hzz⟩ := Option.map_eq_some_iff.1 info_timer
    simp only [Prod.mk.injEq] at hzz
    obtain ⟨hz0, hz1, hz2⟩ := hzz
    have hone : ∀ u ∈ inner, u.oneCell' = true := by
      intro u hu
      obtain ⟨j, hj, rfl⟩ := List.getElem_of_mem hu
      have hjl : j < l.length * 2 := by have e : inner.length = l.length * 2 := hrep.1; omega
      have hq : j / 2 < l.length := by omega
      have hk := kT_open (hrep.2 (j / 2) _ (List.getElem?_eq_getElem hq))
      have hlt : j % 2 < 2 := Nat.mod_lt _ (by decide)
      have e1 : ((inner.drop (j / 2 * 2)).take 2)[j % 2]? = some inner[j] := by
        rw [List.getElem?_take, if_pos hlt, List.getElem?_drop, show j / 2 * 2 + j % 2 = j by omega, List.getElem?_eq_getElem hj]
      have e2 : ((inner.drop (j / 2 * kT.sz)).take kT.sz)[j % 2]? = some inner[j] := e1
      rw [hk] at e2
      have hmem := List.mem_of_getElem? e2
      rcases List.mem_cons.1 hmem with he | he
      · rw [he]; rfl
      · rw [List.mem_singleton.1 he]; rfl
    obtain ⟨v1, w1, hr, hown, hg, _, hat⟩ := run_append_own_at (P := Try.prog) W W.heap.size 39 39 70 i _ 2 16 under_timers2 hi hz0 hz1 hz2 rfl (by decide) (.slice none 0 0) 0 [] (own_nil _ _ _ _) ⟨g, 0, none⟩ n c inner
      (by have := hrep.1; rw [← hl] at this; exact this) (fun j u hu => ho.cells (g := g) (by simp [Value.ownBlock]) j u hu) hone (by simp only [maxLen]; omega) (by omega) (Nat.le_refl _)
    have e0 : 0 + n = l.length := by omega
    rw [e0, List.nil_append] at hown
    refine ⟨v1, w1, hr, ⟨fun _ _ => trivial, inner, hown, hrep.imp_ fun p cs hM => ?_⟩, ⟨hg.os, hg.tape, hg.output, hg.size, fun k hk => hg.block k hk (by simp [Value.ownBlock])⟩, fun h => by omega, fun _ => ?_⟩
    · have hcs := kT_open hM
      subst hcs
      exact kT_mk _ _ _ _
    · rcases hat with hat | hat
      · exfalso
        rcases hown.2 with ⟨_, h1⟩ | ⟨g2, cap2, cur2, rfl, _⟩
        · omega
        · simp [Value.ownBlock] at hat
      · exact hat
end Go.Proofs.Ytnniljcmjcjleaa
