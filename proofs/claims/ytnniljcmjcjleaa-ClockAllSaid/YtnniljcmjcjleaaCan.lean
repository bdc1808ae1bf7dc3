/- A clock's Cancel. -/
import Derived.Test.YtnniljcmjcjleaaJump
namespace Go.Proofs.Ytnniljcmjcjleaa
open Go.RowKit Go.Proofs.Ytnniljcmjcjleaa.QA Go.Proofs.YtnniljcmjcjleaaW.PrintWords Go.Proofs.YtnniljcmjcjleaaW.PrintLast Go.Proofs.YtnniljcmjcjleaaW.PrintMore
attribute [local go_sem] fl_store fl_bits fl_frombits fl_usigned
set_option linter.unusedVariables false
set_option linter.unusedSimpArgs false

/-- Where a number's timer stands, from j on. -/
def idxP (id : Int) : List Tm → Nat → Int
  | [], _ => -1
  | t :: l, j => if t.1 = id then (j : Int) else idxP id l (j + 1)
set_option maxHeartbeats 4000000 in
theorem cancel_nil (id : Int) (w : World) : Calls Try.prog 19 #[.pointer none, .int .i64 id] w fun e w' => e = .returned (.int .i64 1) ∧ Below w.heap.size w w' := by
  go_enter Try.func19, Try.ntmps19
  go_wp2_with (
    (with_reducible refine gate_dst (N := 3) rfl ?_)
    refine box_event ?hg (N := 3) ?hd (cs := #[.int .i64 id]) (t := 3) ?hr ?_
    (case hd => rfl)
    (case hg => rfl)
    (case hr => first | (go_simp; done) | (go_simp; rfl))
    intro gb hg w0 hbox hb
    have HB0 := Aside0.mk hb
    clear hbox hb hg)
  refine (there_nil w0).mono ?_
  rintro e w2 ⟨rfl, rfl⟩
  go_wp2_with fail
  go_ret
  exact ⟨rfl, HB0.out⟩
set_option maxHeartbeats 4000000 in
theorem cancel_zero (g : Nat) (now : Nat) (last : Int) (v : Value) (l : List Tm) (id : Int) (w : World) (h : CAt w g false now last v l) : Calls Try.prog 19 #[.pointer (some ⟨g, 0, none⟩), .int .i64 id] w fun e w' => e = .returned (.int .i64 1) ∧ Below w.heap.size w w' := by
  have H := Aside0.mk h
  clear h
  go_enter Try.func19, Try.ntmps19
  go_wp2_with (
    (with_reducible refine gate_dst (N := 3) rfl ?_)
    refine box_event ?hg (N := 3) ?hd (cs := #[.int .i64 id]) (t := 3) ?hr ?_
    (case hd => rfl)
    (case hg => rfl)
    (case hr => first | (go_simp; done) | (go_simp; rfl))
    intro gb hg w0 hbox hb
    have HB0 := Aside0.mk hb
    clear hbox hb hg)
  refine (there_calls g false now last v l w0 (H.out.below HB0.out)).mono ?_
  rintro e w2 ⟨rfl, rfl⟩
  go_wp2_with fail
  go_ret
  exact ⟨rfl, HB0.out⟩
set_option maxHeartbeats 4000000 in
theorem pick_calls (t : Tm) (id : Int) (gb : Nat) (w : World) (hb : w.heap[gb]? = some (.cells #[.int .i64 id] 3 (0, 0))) :
    Calls Try.prog 38 #[.agg #[.int .i64 t.1, .float .f64 t.2], .pointer (some ⟨gb, 0, none⟩)] w fun e w' => e = .returned (.bool (t.1 == id)) ∧ Below w.heap.size w w' := by
  have HB := Aside0.mk hb
  clear hb
  go_enter Try.func38, Try.ntmps38
  go_wp2_with (
    (with_reducible refine gate_dst (N := 2) rfl ?_)
    refine box_event ?hg (N := 2) ?hd (cs := #[.int .i64 t.1, .float .f64 t.2]) (t := 70) ?hr ?_
    (case hd => rfl)
    (case hg => rfl)
    (case hr => first | (go_simp; done) | (go_simp; rfl))
    intro gt hg w0 hbox hb0
    have HB0 := Aside0.mk hb0
    have hx0 : w0.cell? ⟨gt, 0, none⟩ = some (.int .i64 t.1) := (blk_cell hbox 0).trans rfl
    have hx1 : w0.cell? ⟨gb, 0, none⟩ = some (.int .i64 id) := (blk_cell (blk_below HB.out hb0) 0).trans rfl
    clear hbox hb0 hg)
  go_ret
  exact ⟨rfl, HB0.out⟩
theorem go_pick (args : Array Value) (w : World) : (callFunc 38 args).run Try.prog w = .ok (.enter 38 args) w := enters_ Try.func38 (by kernel_rfl) rfl args w
set_option maxHeartbeats 8000000 in
set_option maxRecDepth 100000 in
theorem index_calls (A : Option Addr) (n c : Nat) (l : List Tm) (id : Int) (gb : Nat) (w : World) (h : TR w (.slice A n c) l) (hn : n ≤ 1000) (hb : w.heap[gb]? = some (.cells #[.int .i64 id] 3 (0, 0))) :
    Calls Try.prog 37 #[.slice A n c, .func (.func 38) #[] #[.pointer (some ⟨gb, 0, none⟩)]] w fun e w' => e = .returned (.int .i64 (idxP id l 0)) ∧ Below w.heap.size w w' := by
  have H := Aside0.mk h
  have HB := Aside0.mk hb
  have HN := Aside0.mk hn
  have HL := Aside0.mk h.len.1
  have g1 := go_pick
  clear h hb hn
  go_enter Try.func37, Try.ntmps37
  go_wp2_with fail
  go_loopg [5, 8] n (fun m v5 v8 wr => ∃ j : Nat, m + j = n ∧ v8 = .int .i64 j ∧ Aside0 (idxP id (l.drop j) j = idxP id l 0) ∧ Aside0 (Below w.heap.size w wr))
  case atStart => exact ⟨0, rfl, rfl, ⟨rfl⟩, ⟨Below.refl _ _⟩⟩
  case round =>
    obtain ⟨j, hj, rfl, HE, HBW⟩ := hrel
    cases gk with
    | zero =>
      have hlt : decide ((j : Int) < (n : Int)) = false := by simp; omega
      have hlt2 : decide (j < n) = false := by simp; omega
      have HD : Aside0 (l.drop j = []) := ⟨List.drop_eq_nil_of_le (by rw [← HL.out]; omega)⟩
      clear hj
      go_wp2_with fail
      go_ret
      have e := HE.out
      rw [HD.out] at e
      exact ⟨by rw [← e]; rfl, HBW.out⟩
    | succ m =>
      have hlt : decide ((j : Int) < (n : Int)) = true := by simp; omega
      have hlt2 : decide (j < n) = true := by simp; omega
      have n1 : (j : Int) < (n : Int) := by omega
      have n0 : (0 : Int) ≤ (j : Int) := by omega
      obtain ⟨r, rfl, hi0, hi1, _⟩ := (H.out.below HBW.out).get (j : Int) n0 n1
      rw [Int.toNat_natCast] at hi0 hi1
      have HJ := Aside0.mk hj
      clear hj
      go_wp2_with fail
      refine (pick_calls (tm l (j : Int)) id gb wr (blk_below HB.out HBW.out)).mono ?_
      rintro e w2 ⟨rfl, hb2⟩
      have HB2 := Aside0.mk (HBW.out.trans (hb2.mono HBW.out.size))
      clear hb2 hi0 hi1
      have HD : Aside0 (l.drop j = tm l (j : Int) :: l.drop (j + 1)) := ⟨by
        have hjl : j < l.length := by have := HL.out; have := HJ.out; omega
        rw [List.drop_eq_getElem_cons hjl]
        congr 1
        unfold tm
        rw [Int.toNat_natCast, List.getD_eq_getElem?_getD, List.getElem?_eq_getElem hjl]
        rfl⟩
      obtain ⟨b, hb⟩ : ∃ b, ((tm l (j : Int)).1 == id) = b := ⟨_, rfl⟩
      rw [hb]
      have HQ := Aside0.mk hb
      clear hb
      cases b with
      | true =>
        go_wp2_with fail
        go_ret
        have e := HE.out
        rw [HD.out, idxP, if_pos (by simpa using HQ.out)] at e
        exact ⟨by rw [← e]; rfl, HB2.out⟩
      | false =>
        go_wp2_with fail
        go_roundg m
        case measure => omega
        case rel =>
          refine ⟨j + 1, by have := HJ.out; omega, by first | rfl | (congr 1; rw [w64 _ (by have := HN.out; have := HJ.out; omega)]; rfl), ⟨?_⟩, HB2⟩
          have e := HE.out
          rw [HD.out, idxP, if_neg (by simpa using HQ.out)] at e
          exact e
theorem idxP_range (id : Int) : ∀ (l : List Tm) (j : Nat), idxP id l j = -1 ∨ ((j : Int) ≤ idxP id l j ∧ idxP id l j < j + l.length)
  | [], j => .inl rfl
  | t :: l, j => by
    rw [idxP]
    split
    · exact .inr ⟨by omega, by simp only [List.length_cons]; omega⟩
    · rcases idxP_range id l (j + 1) with h | h
      · exact .inl h
      · exact .inr ⟨by omega, by simp only [List.length_cons]; omega⟩
/-- What Cancel tells, and does. -/
def CancelPost (w : World) (g : Nat) (now : Nat) (last : Int) (v : Value) (l : List Tm) (id : Int) (e : Ending) (w' : World) : Prop :=
  if idxP id l 0 < 0 then e = .returned (.int .i64 6) ∧ MovePost w g true now last v l w'
  else e = .returned (.int .i64 0) ∧ MovePost w g true now last v ((removeP l (idxP id l 0).toNat).take (l.length - 1)) w'
set_option maxHeartbeats 8000000 in
set_option maxRecDepth 100000 in
theorem cancel_calls (g : Nat) (now : Nat) (last : Int) (v : Value) (l : List Tm) (id : Int) (w : World) (h : CAt w g true now last v l) (hn : l.length ≤ 1000) :
    Calls Try.prog 19 #[.pointer (some ⟨g, 0, none⟩), .int .i64 id] w (CancelPost w g now last v l id) := by
  have H := Aside0.mk h
  have HN := Aside0.mk hn
  clear h hn
  go_enter Try.func19, Try.ntmps19
  go_wp2_with (
    (with_reducible refine gate_dst (N := 3) rfl ?_)
    refine box_event ?hg (N := 3) ?hd (cs := #[.int .i64 id]) (t := 3) ?hr ?_
    (case hd => rfl)
    (case hg => rfl)
    (case hr => first | (go_simp; done) | (go_simp; rfl))
    intro gb hg w0 hbox hb
    have HB0 := Aside0.mk hb
    have HX := Aside0.mk hbox
    have H0 := Aside0.mk (H.out.below hb)
    clear hbox hb hg)
  refine (there_calls g true now last v l w0 H0.out).mono ?_
  rintro e w1 ⟨rfl, rfl⟩
  have hc3 := H0.out.cell3
  obtain ⟨A, c, hv⟩ := H0.out.row.slice
  subst hv
  go_wp2_with fail
  refine (index_calls A l.length c l id gb w1 H0.out.row HN.out HX.out).mono ?_
  rintro e w2 ⟨rfl, hb2⟩
  have HB2 := Aside0.mk (HB0.out.trans (hb2.mono HB0.out.size))
  have H2 := Aside0.mk (H0.out.below hb2)
  clear hb2 hc3
  obtain ⟨k, hk⟩ : ∃ k, idxP id l 0 = k := ⟨_, rfl⟩
  have hrg := idxP_range id l 0
  rw [hk] at hrg ⊢
  have HK := Aside0.mk hk
  clear hk
  by_cases hneg : k < 0
  · have d1 : decide (k < 0) = true := by simp; omega
    have HNEG := Aside0.mk hneg
    clear hrg hneg
    go_wp2_with fail
    go_ret
    rw [CancelPost, HK.out, if_pos HNEG.out]
    exact ⟨rfl, .of_below H.out HB2.out⟩
  · obtain ⟨i, rfl⟩ : ∃ i : Nat, k = i := ⟨k.toNat, by omega⟩
    have d1 : decide ((i : Int) < 0) = false := by simp
    have HI : Aside0 (i < l.length) := ⟨by omega⟩
    clear hrg hneg
    go_wp2_with fail
    refine (remove_calls g true now last (.slice A l.length c) l i (l.length - 1) w2 H2.out (by have := HI.out; omega) (by have := HI.out; omega) HN.out).mono ?_
    rintro e w3 ⟨⟨u, rfl⟩, hp⟩
    have HP := Aside0.mk (MovePost.step (Hold.of_below HB2.out (fun k => k = g ∨ own (.slice A l.length c) k)) (.inl rfl) hp)
    clear hp
    go_wp2_with fail
    go_ret
    rw [CancelPost, HK.out, if_neg (by omega), Int.toNat_natCast]
    exact ⟨rfl, HP.out⟩
end Go.Proofs.Ytnniljcmjcjleaa
