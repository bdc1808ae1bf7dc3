/- The small methods of a clock: IsInf, there, Now, Next, New. -/
import Derived.Test.YtnniljcmjcjleaaPush
namespace Go.Proofs.Ytnniljcmjcjleaa
open Go.RowKit Go.Proofs.Ytnniljcmjcjleaa.QA Go.Proofs.YtnniljcmjcjleaaW.PrintWords Go.Proofs.YtnniljcmjcjleaaW.PrintLast Go.Proofs.YtnniljcmjcjleaaW.PrintMore
attribute [local go_sem] fl_store fl_bits fl_frombits fl_usigned
set_option linter.unusedVariables false
set_option linter.unusedSimpArgs false

def infP (x : Nat) : Bool := FloatKind.f64.format.order x 9218868437227405311 == some .gt
set_option maxHeartbeats 4000000 in
theorem inf_calls (x : Nat) (w : World) : Calls Try.prog 11 #[.float .f64 x, .int .i64 1] w fun e w' => e = .returned (.bool (infP x)) ∧ w' = w := by
  go_enter Try.func11, Try.ntmps11
  go_wp2_with fail
  go_ret
  exact ⟨rfl, rfl⟩
def plainF (x : Nat) : Nat × Bool := if (FloatKind.f64.format.order x 0 == some .eq) = true then (0, true) else (x, FloatKind.f64.format.order x 0 == some .gt)
theorem plain_eq (x : Nat) : clock_plain.f x = some ((plainF x).1, (plainF x).2) := by
  rw [clock_plain.f, plainF]
  split <;> rfl
theorem plain_calls (x : Nat) (w : World) : Calls Try.prog 27 #[.float .f64 x] w fun e w' => e = .returned (.tuple #[.float .f64 (plainF x).1, .bool (plainF x).2]) ∧ Below w.heap.size w w' :=
  (clock_plain.calls x _ _ w (plain_eq x)).mono fun e w' h => ⟨h.1, h.2.below⟩

set_option maxHeartbeats 4000000 in
theorem there_nil (w : World) : Calls Try.prog 28 #[.pointer none] w fun e w' => e = .returned (.bool false) ∧ w' = w := by
  go_enter Try.func28, Try.ntmps28
  go_wp2_with fail
  go_ret
  exact ⟨rfl, rfl⟩
set_option maxHeartbeats 4000000 in
theorem there_calls (g : Nat) (b : Bool) (now : Nat) (last : Int) (v : Value) (l : List Tm) (w : World) (h : CAt w g b now last v l) :
    Calls Try.prog 28 #[.pointer (some ⟨g, 0, none⟩)] w fun e w' => e = .returned (.bool b) ∧ w' = w := by
  have hc := h.cell0
  clear h
  go_enter Try.func28, Try.ntmps28
  go_wp2_with fail
  go_ret
  exact ⟨rfl, rfl⟩
set_option maxHeartbeats 4000000 in
theorem now_nil (w : World) : Calls Try.prog 14 #[.pointer none] w fun e w' => e = .returned (.float .f64 0) ∧ w' = w := by
  go_enter Try.func14, Try.ntmps14
  go_wp2_with fail
  refine (there_nil w).mono ?_
  rintro e w' ⟨rfl, rfl⟩
  go_wp2_with fail
  go_ret
  exact ⟨rfl, rfl⟩
set_option maxHeartbeats 4000000 in
theorem now_calls (g : Nat) (b : Bool) (now : Nat) (last : Int) (v : Value) (l : List Tm) (w : World) (h : CAt w g b now last v l) :
    Calls Try.prog 14 #[.pointer (some ⟨g, 0, none⟩)] w fun e w' => e = .returned (.float .f64 (if b = true then now else 0)) ∧ w' = w := by
  have H := Aside0.mk h
  have hc := h.cell1
  clear h
  go_enter Try.func14, Try.ntmps14
  go_wp2_with fail
  refine (there_calls g b now last v l w H.out).mono ?_
  rintro e w' ⟨rfl, rfl⟩
  cases b with
  | false =>
    go_wp2_with fail
    go_ret
    exact ⟨rfl, rfl⟩
  | true =>
    go_wp2_with fail
    go_ret
    exact ⟨rfl, rfl⟩

def nextP (l : List Tm) : Nat × Bool := match l with
  | [] => (0, false)
  | t :: _ => if infP t.2 = true then (0, false) else (t.2, true)
set_option maxHeartbeats 4000000 in
theorem next_nil (w : World) : Calls Try.prog 25 #[.pointer none] w fun e w' => e = .returned (.tuple #[.float .f64 0, .bool false]) ∧ w' = w := by
  go_enter Try.func25, Try.ntmps25
  go_wp2_with fail
  refine (there_nil w).mono ?_
  rintro e w' ⟨rfl, rfl⟩
  go_wp2_with fail
  go_ret2
  exact ⟨rfl, rfl⟩
set_option maxHeartbeats 4000000 in
theorem next_zero (g : Nat) (now : Nat) (last : Int) (v : Value) (l : List Tm) (w : World) (h : CAt w g false now last v l) : Calls Try.prog 25 #[.pointer (some ⟨g, 0, none⟩)] w fun e w' => e = .returned (.tuple #[.float .f64 0, .bool false]) ∧ w' = w := by
  have H := Aside0.mk h
  clear h
  go_enter Try.func25, Try.ntmps25
  go_wp2_with fail
  refine (there_calls g false now last v l w H.out).mono ?_
  rintro e w' ⟨rfl, rfl⟩
  go_wp2_with fail
  go_ret2
  exact ⟨rfl, rfl⟩
set_option maxHeartbeats 4000000 in
theorem next_calls (g : Nat) (now : Nat) (last : Int) (v : Value) (l : List Tm) (w : World) (h : CAt w g true now last v l) : Calls Try.prog 25 #[.pointer (some ⟨g, 0, none⟩)] w fun e w' => e = .returned (.tuple #[.float .f64 (nextP l).1, .bool (nextP l).2]) ∧ w' = w := by
  have H := Aside0.mk h
  have hc3 := h.cell3
  obtain ⟨A, c, hv⟩ := h.row.slice
  subst hv
  cases l with
  | nil =>
    have e0 : ((([] : List Tm).length : Nat) : Int) = 0 := rfl
    clear h
    go_enter Try.func25, Try.ntmps25
    go_wp2_with fail
    refine (there_calls g true now last _ [] w H.out).mono ?_
    rintro e w' ⟨rfl, rfl⟩
    go_wp2_with fail
    go_ret2
    exact ⟨rfl, rfl⟩
  | cons t l =>
    obtain ⟨r, rfl, hi0, hi1, hf⟩ := h.row.get 0 (by omega) (by simp)
    have hi : w.cell? ⟨r, 1, none⟩ = some (.float .f64 t.2) := hi1
    obtain ⟨N, hN⟩ : ∃ N, N = (t :: l).length := ⟨_, rfl⟩
    rw [← hN] at hc3
    have hN2 : N = l.length + 1 := hN
    have n1 : ((N : Int) == 0) = false := by simp; omega
    have n2 : (N : Int) = 0 ↔ False := ⟨fun h => by omega, False.elim⟩
    have n3 : N = 0 ↔ False := ⟨fun h => by omega, False.elim⟩
    have n4 : 0 < N := by omega
    have n5 : (0 : Int) < (N : Int) := by omega
    clear h hi0 hi1 hf hN hN2
    go_enter Try.func25, Try.ntmps25
    go_wp2_with fail
    refine (there_calls g true now last _ _ w H.out).mono ?_
    rintro e w' ⟨rfl, rfl⟩
    go_wp2_with fail
    refine (inf_calls t.2 w').mono ?_
    rintro e w2 ⟨rfl, rfl⟩
    obtain ⟨b, hb⟩ : ∃ b, infP t.2 = b := ⟨_, rfl⟩
    rw [hb]
    have HB := Aside0.mk hb
    clear hb
    cases b with
    | false =>
      go_wp2_with fail
      go_ret2
      exact ⟨by simp only [nextP, HB.out]; rfl, rfl⟩
    | true =>
      go_wp2_with fail
      go_ret2
      exact ⟨by simp only [nextP, HB.out]; rfl, rfl⟩
def okStart (x : Nat) : Bool := (plainF x).2 && !infP (plainF x).1
/-- A new clock, or none. -/
def NewPost (w : World) (x : Nat) (e : Ending) (w' : World) : Prop :=
  if okStart x = true then ∃ g, e = .returned (.tuple #[.pointer (some ⟨g, 0, none⟩), .int .i64 0]) ∧ CAt w' g true (plainF x).1 0 (.slice none 0 0) [] ∧ w.heap.size ≤ g ∧ Below w.heap.size w w'
  else e = .returned (.tuple #[.pointer none, .int .i64 1]) ∧ Below w.heap.size w w'
theorem TR.nil (w : World) : TR w (.slice none 0 0) [] := Kd.R_nil _ _ _ _ _
set_option maxHeartbeats 4000000 in
theorem new_calls (x : Nat) (w : World) : Calls Try.prog 8 #[.float .f64 x] w (NewPost w x) := by
  go_enter Try.func8, Try.ntmps8
  go_wp2_with fail
  refine (plain_calls x w).mono ?_
  rintro e w1 ⟨rfl, hb1⟩
  obtain ⟨d, hd⟩ : ∃ d, plainF x = d := ⟨_, rfl⟩
  rw [hd]
  obtain ⟨dx, ok⟩ := d
  have HB1 := Aside0.mk hb1
  have HD := Aside0.mk hd
  clear hb1 hd
  cases ok with
  | false =>
    go_wp2_with fail
    go_ret2
    rw [NewPost, okStart, HD.out]
    exact ⟨rfl, HB1.out⟩
  | true =>
    go_wp2_with fail
    refine (inf_calls dx w1).mono ?_
    rintro e w2 ⟨rfl, rfl⟩
    obtain ⟨b, hb⟩ : ∃ b, infP dx = b := ⟨_, rfl⟩
    rw [hb]
    have HB := Aside0.mk hb
    clear hb
    cases b with
    | true =>
      go_wp2_with fail
      go_ret2
      rw [NewPost, okStart, HD.out, HB.out]
      exact ⟨rfl, HB1.out⟩
    | false =>
      go_wp2_with (
        (with_reducible refine gate_dst (N := 18) rfl ?_)
        refine box_event ?hg (N := 18) ?hd (cs := #[.bool true, .float .f64 dx, .int .i64 0, .slice none 0 0]) (t := 60) ?hr ?_
        (case hd => rfl)
        (case hg => rfl)
        (case hr => first | (go_simp; done) | (go_simp; rfl))
        intro g hg w3 hbox hb3
        have HBX := Aside0.mk hbox
        have HB3 := Aside0.mk hb3
        have HG : Aside0 (w.heap.size ≤ g) := ⟨by rw [hg]; exact HB1.out.size⟩
        clear hbox hb3 hg)
      go_ret2
      rw [NewPost, okStart, HD.out, HB.out]
      exact ⟨g, rfl, ⟨HBX.out, TR.nil _⟩, HG.out, HB1.out.trans (HB3.out.mono HB1.out.size)⟩
end Go.Proofs.Ytnniljcmjcjleaa
