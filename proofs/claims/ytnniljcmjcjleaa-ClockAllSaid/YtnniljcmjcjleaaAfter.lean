/- A clock's After. -/
import Derived.Test.YtnniljcmjcjleaaClk
import Derived.Laws.FloatArith
namespace Go.Proofs.Ytnniljcmjcjleaa
open Go.RowKit Go.Proofs.Ytnniljcmjcjleaa.QA Go.Proofs.YtnniljcmjcjleaaW.PrintWords Go.Proofs.YtnniljcmjcjleaaW.PrintLast Go.Proofs.YtnniljcmjcjleaaW.PrintMore
attribute [local go_sem] fl_store fl_bits fl_frombits fl_usigned
set_option linter.unusedVariables false
set_option linter.unusedSimpArgs false

def addF (x y : Nat) : Nat := (FloatKind.f64.format.add x y).getD 0
theorem CAt.put2 {w : World} {g : Nat} {b : Bool} {now : Nat} {last : Int} {v : Value} {l : List Tm} (h : CAt w g b now last v l) (k : Int) : CAt (w.setCell ⟨g, 2, none⟩ (.int .i64 k)) g b now k v l :=
  ⟨blk_put h.blk 2 (.int .i64 k) rfl, Kd.R_set h.row h.blk (by intro q hq; cases hq with | head => decide | tail _ h => cases h) 2 (.int .i64 k)⟩
theorem CAt.put1 {w : World} {g : Nat} {b : Bool} {now : Nat} {last : Int} {v : Value} {l : List Tm} (h : CAt w g b now last v l) (x : Nat) : CAt (w.setCell ⟨g, 1, none⟩ (.float .f64 x)) g b x last v l :=
  ⟨blk_put h.blk 1 (.float .f64 x) rfl, Kd.R_set h.row h.blk (by intro q hq; cases hq with | head => decide | tail _ h => cases h) 1 (.float .f64 x)⟩

set_option maxHeartbeats 4000000 in
theorem after_nil (d : Nat) (w : World) : Calls Try.prog 9 #[.pointer none, .float .f64 d] w fun e w' => e = .returned (.tuple #[.int .i64 0, .int .i64 1]) ∧ Below w.heap.size w w' := by
  go_enter Try.func9, Try.ntmps9
  go_wp2_with fail
  refine (plain_calls d w).mono ?_
  rintro e w1 ⟨rfl, hb1⟩
  have HB1 := Aside0.mk hb1
  clear hb1
  go_wp2_with fail
  refine (there_nil w1).mono ?_
  rintro e w2 ⟨rfl, rfl⟩
  go_wp2_with fail
  go_ret2
  exact ⟨rfl, HB1.out⟩
set_option maxHeartbeats 4000000 in
theorem after_zero (g : Nat) (now : Nat) (last : Int) (v : Value) (l : List Tm) (d : Nat) (w : World) (h : CAt w g false now last v l) : Calls Try.prog 9 #[.pointer (some ⟨g, 0, none⟩), .float .f64 d] w fun e w' => e = .returned (.tuple #[.int .i64 0, .int .i64 1]) ∧ Below w.heap.size w w' := by
  have H := Aside0.mk h
  clear h
  go_enter Try.func9, Try.ntmps9
  go_wp2_with fail
  refine (plain_calls d w).mono ?_
  rintro e w1 ⟨rfl, hb1⟩
  have HB1 := Aside0.mk hb1
  clear hb1
  go_wp2_with fail
  refine (there_calls g false now last v l w1 (H.out.below HB1.out)).mono ?_
  rintro e w2 ⟨rfl, rfl⟩
  go_wp2_with fail
  go_ret2
  exact ⟨rfl, HB1.out⟩

/-- What After tells, and does. -/
def AfterPost (w : World) (g : Nat) (now : Nat) (last : Int) (v : Value) (l : List Tm) (d : Nat) (e : Ending) (w' : World) : Prop :=
  if (plainF d).2 = false then e = .returned (.tuple #[.int .i64 0, .int .i64 1]) ∧ MovePost w g true now last v l w'
  else if 256 ≤ l.length then e = .returned (.tuple #[.int .i64 0, .int .i64 9]) ∧ MovePost w g true now last v l w'
  else e = .returned (.tuple #[.int .i64 (last + 1), .int .i64 0]) ∧ MovePost w g true now (last + 1) v (pushP l (last + 1, addF now (plainF d).1)) w'
theorem MovePost.of_below {w w1 : World} {g : Nat} {b : Bool} {now : Nat} {last : Int} {v : Value} {l : List Tm} (h : CAt w g b now last v l) (hb : Below w.heap.size w w1) : MovePost w g b now last v l w1 := ⟨v, h.below hb, Hold.of_below hb _, .inl rfl⟩
set_option maxHeartbeats 8000000 in
set_option maxRecDepth 100000 in
theorem after_calls (g : Nat) (now : Nat) (last : Int) (v : Value) (l : List Tm) (d : Nat) (w : World) (h : CAt w g true now last v l) (hl : 0 ≤ last ∧ last ≤ 1000000)
    (hadd : (plainF d).2 = true → FloatKind.f64.format.add now (plainF d).1 = some (addF now (plainF d).1)) :
    Calls Try.prog 9 #[.pointer (some ⟨g, 0, none⟩), .float .f64 d] w (AfterPost w g now last v l d) := by
  have H := Aside0.mk h
  have HLS := Aside0.mk hl
  have HADD := Aside0.mk hadd
  clear h hl hadd
  go_enter Try.func9, Try.ntmps9
  go_wp2_with fail
  refine (plain_calls d w).mono ?_
  rintro e w1 ⟨rfl, hb1⟩
  obtain ⟨p, hp⟩ : ∃ p, plainF d = p := ⟨_, rfl⟩
  obtain ⟨dd, ok⟩ := p
  rw [hp]
  have HP := Aside0.mk hp
  have HB1 := Aside0.mk hb1
  have H1 := Aside0.mk (H.out.below hb1)
  clear hb1 hp
  go_wp2_with fail
  refine (there_calls g true now last v l w1 H1.out).mono ?_
  rintro e w2 ⟨rfl, rfl⟩
  cases ok with
  | false =>
    go_wp2_with fail
    go_ret2
    rw [AfterPost, HP.out]
    exact ⟨rfl, .of_below H.out HB1.out⟩
  | true =>
    obtain ⟨A, c, rfl⟩ := H1.out.row.slice
    have hc3 := H1.out.cell3
    obtain ⟨N, hN⟩ : ∃ N, N = l.length := ⟨_, rfl⟩
    rw [← hN] at hc3
    have HN := Aside0.mk hN
    clear hN
    by_cases hm : 256 ≤ N
    · have d1 : decide ((256 : Int) ≤ (N : Int)) = true := by simp; omega
      have d2 : decide (256 ≤ N) = true := by simp; omega
      have HM := Aside0.mk hm
      clear hm
      go_wp2_with fail
      go_ret2
      rw [AfterPost, HP.out, if_neg (by simp), if_pos (by rw [← HN.out]; exact HM.out)]
      exact ⟨rfl, .of_below H.out HB1.out⟩
    · have d1 : decide ((256 : Int) ≤ (N : Int)) = false := by simp; omega
      have d2 : decide (256 ≤ N) = false := by simp; omega
      have HM := Aside0.mk hm
      have hc2 := H1.out.cell2
      have hf := H1.out.frozen
      have e1 : wrap64 (last + 1) = last + 1 := w64 _ (by have := HLS.out; omega)
      have H2 := Aside0.mk (H1.out.put2 (last + 1))
      have hd2 := H2.out.cell2
      have hd1 := H2.out.cell1
      have ha := HADD.out (by rw [HP.out])
      rw [HP.out] at ha
      have har : ∀ w : World, (binOp .add 29 (.float .f64 now) (.float .f64 dd)).run Try.prog w = .ok (.float .f64 (addF now dd)) w := fun w => run_float_arith w .add _ .f64 now dd _ ha
      clear hm
      go_wp2_with fail
      go_region_with (refine (push_calls g true now (last + 1) (.slice A N c) l (last + 1, addF now dd) _ ?hc ?hn).mono ?_; (case hc => first | (rw [HN.out]; exact H2.out) | (rw [HN.out]; exact H2.out.drew)); (case hn => have := HM.out; have := HN.out; omega); rintro e w4 ⟨rfl, hp4⟩)
      all_goals
        have HX : Aside0 (MovePost w g true now (last + 1) (.slice A N c) (pushP l (last + 1, addF now dd)) w4) := ⟨MovePost.step ((((Hold.of_below HB1.out _).put (.inl rfl) 2 _)).drew) (.inl rfl) hp4⟩
        obtain ⟨v4, hc4, hh4, hat4⟩ := hp4
        have hz := hc4.cell2
        clear hh4 hat4 hc4 hc3 hc2 hf hd2 hd1 ha har
        go_wp2_with fail
        go_ret2
        rw [AfterPost, HP.out, if_neg (by simp), if_neg (by rw [← HN.out]; exact HM.out)]
        exact ⟨rfl, by have := HX.out; rw [HN.out] at this; exact this⟩
end Go.Proofs.Ytnniljcmjcjleaa
