/- A clock's Jump. -/
import Derived.Test.YtnniljcmjcjleaaGo
namespace Go.Proofs.Ytnniljcmjcjleaa
open Go.RowKit Go.Proofs.Ytnniljcmjcjleaa.QA Go.Proofs.YtnniljcmjcjleaaW.PrintWords Go.Proofs.YtnniljcmjcjleaaW.PrintLast Go.Proofs.YtnniljcmjcjleaaW.PrintMore
attribute [local go_sem] fl_store fl_bits fl_frombits fl_usigned
set_option linter.unusedVariables false
set_option linter.unusedSimpArgs false

def JumpPost (w : World) (g : Nat) (now : Nat) (last : Int) (v : Value) (l : List Tm) (e : Ending) (w' : World) : Prop :=
  if (nextP l).2 = true ∧ okGo now (nextP l).1 = true then ∃ u, e = .returned u ∧ IR w' w.heap.size u (goL (plainF (nextP l).1).1 l.length l).1 ∧ MovePost w g true (plainF (nextP l).1).1 last v (goL (plainF (nextP l).1).1 l.length l).2 w'
  else e = .returned (.slice none 0 0) ∧ MovePost w g true now last v l w'
set_option maxHeartbeats 4000000 in
theorem jump_nil (w : World) : Calls Try.prog 22 #[.pointer none] w fun e w' => e = .returned (.slice none 0 0) ∧ w' = w := by
  go_enter Try.func22, Try.ntmps22
  go_wp2_with fail
  refine (next_nil w).mono ?_
  rintro e w2 ⟨rfl, rfl⟩
  go_wp2_with fail
  go_ret
  exact ⟨rfl, rfl⟩
set_option maxHeartbeats 4000000 in
theorem jump_zero (g : Nat) (now : Nat) (last : Int) (v : Value) (l : List Tm) (w : World) (h : CAt w g false now last v l) : Calls Try.prog 22 #[.pointer (some ⟨g, 0, none⟩)] w fun e w' => e = .returned (.slice none 0 0) ∧ w' = w := by
  have H := Aside0.mk h
  clear h
  go_enter Try.func22, Try.ntmps22
  go_wp2_with fail
  refine (next_zero g now last v l w H.out).mono ?_
  rintro e w2 ⟨rfl, rfl⟩
  go_wp2_with fail
  go_ret
  exact ⟨rfl, rfl⟩
set_option maxHeartbeats 8000000 in
set_option maxRecDepth 100000 in
theorem jump_calls (g : Nat) (now : Nat) (last : Int) (v : Value) (l : List Tm) (w : World) (h : CAt w g true now last v l) (hn : l.length ≤ 1000) :
    Calls Try.prog 22 #[.pointer (some ⟨g, 0, none⟩)] w (JumpPost w g now last v l) := by
  have H := Aside0.mk h
  have HM := Aside0.mk hn
  clear h hn
  go_enter Try.func22, Try.ntmps22
  go_wp2_with fail
  refine (next_calls g now last v l w H.out).mono ?_
  rintro e w2 ⟨rfl, rfl⟩
  obtain ⟨p, hp⟩ : ∃ p, nextP l = p := ⟨_, rfl⟩
  obtain ⟨t, ok⟩ := p
  rw [hp]
  have HP := Aside0.mk hp
  clear hp
  cases ok with
  | false =>
    go_wp2_with fail
    go_ret
    rw [JumpPost, HP.out, if_neg (by simp)]
    exact ⟨rfl, .of_below H.out (Below.refl _ _)⟩
  | true =>
    go_wp2_with fail
    refine (gom_calls g now last v l t w2 H.out HM.out).mono ?_
    rintro e w3 hp3
    by_cases hok : okGo now t = true
    · rw [GoPost, if_pos hok] at hp3
      obtain ⟨u, rfl, hi, hm⟩ := hp3
      have HI := Aside0.mk hi
      have HX := Aside0.mk hm
      have HOK := Aside0.mk hok
      clear hi hm hok
      go_wp2_with fail
      go_ret
      rw [JumpPost, HP.out, if_pos ⟨rfl, HOK.out⟩]
      exact ⟨_, rfl, HI.out, HX.out⟩
    · rw [GoPost, if_neg hok] at hp3
      obtain ⟨rfl, hm⟩ := hp3
      have HX := Aside0.mk hm
      have HOK := Aside0.mk hok
      clear hm hok
      go_wp2_with fail
      go_ret
      rw [JumpPost, HP.out, if_neg (fun h => HOK.out h.2)]
      exact ⟨rfl, HX.out⟩
end Go.Proofs.Ytnniljcmjcjleaa
