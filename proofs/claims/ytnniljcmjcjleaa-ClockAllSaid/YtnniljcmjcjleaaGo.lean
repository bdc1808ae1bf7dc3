/- A clock's Go and Jump. -/
import Derived.Test.YtnniljcmjcjleaaAfter
namespace Go.Proofs.Ytnniljcmjcjleaa
open Go.RowKit Go.Proofs.Ytnniljcmjcjleaa.QA Go.Proofs.YtnniljcmjcjleaaW.PrintWords Go.Proofs.YtnniljcmjcjleaaW.PrintLast Go.Proofs.YtnniljcmjcjleaaW.PrintMore
attribute [local go_sem] fl_store fl_bits fl_frombits fl_usigned
set_option linter.unusedVariables false
set_option linter.unusedSimpArgs false

theorem under_ints : Try.prog.underlying 34 = some (.slice 3) := by kernel_rfl
theorem info_int : (Try.prog.info? 3).map (fun i => (i.zero, i.size, i.bytes)) = some (some (.int .i64 0), 1, 8) := by kernel_rfl
/-- A row of whole numbers of somebody's own. -/
def IR (w : World) (base : Nat) (v : Value) (l : List Int) : Prop := Kd.R (Kd.int .i64) 3 w base (fun _ => True) v l
theorem IR.keep {w w1 : World} {base g : Nat} {b : Bool} {now : Nat} {last : Int} {cv u : Value} {l : List Tm} {xs : List Int} (h : IR w base u xs) (hc : CAt w g b now last cv l) (hh : Hold w w1 (fun k => k = g ∨ own cv k)) : IR w1 base u xs := by
  have h1 := Kd.R_tight (by rfl) h
  refine Kd.R_mono (Kd.R_step h1 (fun k hk hlt => hh.block k hlt ?_)) (fun _ _ => trivial)
  obtain ⟨cells, hcl⟩ := Kd.R_typed h k hk.symm
  rintro (rfl | hk2)
  · rw [hc.blk] at hcl
    injection hcl with hcl
    injection hcl with _ ht
    cases ht
  · obtain ⟨cells2, hcl2⟩ := Kd.R_typed hc.row k hk2.symm
    rw [hcl2] at hcl
    injection hcl with hcl
    injection hcl with _ ht
    cases ht
theorem CAt.beside {w w1 : World} {base g : Nat} {b : Bool} {now : Nat} {last : Int} {cv u : Value} {l : List Tm} {xs : List Int} (hc : CAt w g b now last cv l) (h : IR w base u xs) (hg : w.grownBy w1 u.ownBlock) : CAt w1 g b now last cv l := by
  refine ⟨(hg.block g (blk_lt hc.blk) (fun he => ?_)).trans hc.blk, Kd.R_over hc.row h (by intro q hq; cases hq with | head => decide | tail _ h => cases h) hg⟩
  obtain ⟨cells, hcl⟩ := Kd.R_typed h g he.symm
  rw [hc.blk] at hcl
  injection hcl with hcl
  injection hcl with _ ht
  cases ht

def ltF (x y : Nat) : Bool := FloatKind.f64.format.order x y == some .lt
def leF (x y : Nat) : Bool := FloatKind.f64.format.order x y == some .lt || FloatKind.f64.format.order x y == some .eq
/-- One timer less. -/
def popT (l : List Tm) : List Tm := (popP l).take (l.length - 1)
theorem popT_length (l : List Tm) : (popT l).length = l.length - 1 := by rw [popT, List.length_take, popP, downP_length, swapT_length]; omega
def goL (t : Nat) : Nat → List Tm → List Int × List Tm
  | 0, l => ([], l)
  | n + 1, l => if 0 < l.length ∧ leF (tm l 0).2 t = true then ((tm l 0).1 :: (goL t n (popT l)).1, (goL t n (popT l)).2) else ([], l)
def okGo (now d : Nat) : Bool := (plainF d).2 && !ltF (plainF d).1 now && !infP (plainF d).1

/-- What Go tells, and does. -/
def GoPost (w : World) (g : Nat) (now : Nat) (last : Int) (v : Value) (l : List Tm) (d : Nat) (e : Ending) (w' : World) : Prop :=
  if okGo now d = true then ∃ u, e = .returned (.tuple #[u, .int .i64 0]) ∧ IR w' w.heap.size u (goL (plainF d).1 l.length l).1 ∧ MovePost w g true (plainF d).1 last v (goL (plainF d).1 l.length l).2 w'
  else e = .returned (.tuple #[.slice none 0 0, .int .i64 1]) ∧ MovePost w g true now last v l w'

set_option maxHeartbeats 4000000 in
theorem gom_nil (d : Nat) (w : World) : Calls Try.prog 12 #[.pointer none, .float .f64 d] w fun e w' => e = .returned (.tuple #[.slice none 0 0, .int .i64 1]) ∧ Below w.heap.size w w' := by
  go_enter Try.func12, Try.ntmps12
  go_wp2_with fail
  refine (plain_calls d w).mono ?_
  rintro e w1 ⟨rfl, hb1⟩
  have HB1 := Aside0.mk hb1
  clear hb1
  go_wp2_with fail
  refine (there_nil w1).mono ?_
  rintro e w2 ⟨rfl, rfl⟩
  go_wp2_with fail
  go_ret2
  exact ⟨rfl, HB1.out⟩
set_option maxHeartbeats 4000000 in
theorem gom_zero (g : Nat) (now : Nat) (last : Int) (v : Value) (l : List Tm) (d : Nat) (w : World) (h : CAt w g false now last v l) : Calls Try.prog 12 #[.pointer (some ⟨g, 0, none⟩), .float .f64 d] w fun e w' => e = .returned (.tuple #[.slice none 0 0, .int .i64 1]) ∧ Below w.heap.size w w' := by
  have H := Aside0.mk h
  clear h
  go_enter Try.func12, Try.ntmps12
  go_wp2_with fail
  refine (plain_calls d w).mono ?_
  rintro e w1 ⟨rfl, hb1⟩
  have HB1 := Aside0.mk hb1
  clear hb1
  go_wp2_with fail
  refine (there_calls g false now last v l w1 (H.out.below HB1.out)).mono ?_
  rintro e w2 ⟨rfl, rfl⟩
  go_wp2_with fail
  go_ret2
  exact ⟨rfl, HB1.out⟩

set_option maxHeartbeats 8000000 in
set_option maxRecDepth 100000 in
theorem gom_calls (g : Nat) (now : Nat) (last : Int) (v : Value) (l : List Tm) (d : Nat) (w : World) (h : CAt w g true now last v l) (hn : l.length ≤ 1000) :
    Calls Try.prog 12 #[.pointer (some ⟨g, 0, none⟩), .float .f64 d] w (GoPost w g now last v l d) := by
  have H := Aside0.mk h
  have HM := Aside0.mk hn
  clear h hn
  go_enter Try.func12, Try.ntmps12
  go_wp2_with fail
  refine (plain_calls d w).mono ?_
  rintro e w1 ⟨rfl, hb1⟩
  obtain ⟨p, hp⟩ : ∃ p, plainF d = p := ⟨_, rfl⟩
  obtain ⟨t, ok⟩ := p
  rw [hp]
  have HP := Aside0.mk hp
  have HB1 := Aside0.mk hb1
  have H1 := Aside0.mk (H.out.below hb1)
  have hc1 := H1.out.cell1
  clear hb1 hp
  go_wp2_with fail
  refine (there_calls g true now last v l w1 H1.out).mono ?_
  rintro e w2 ⟨rfl, rfl⟩
  cases ok with
  | false =>
    go_wp2_with fail
    go_ret2
    rw [GoPost, okGo, HP.out]
    exact ⟨rfl, .of_below H.out HB1.out⟩
  | true =>
    obtain ⟨b1, hb1⟩ : ∃ b, (FloatKind.f64.format.order t now == some .lt) = b := ⟨_, rfl⟩
    have HB2 := Aside0.mk hb1
    cases b1 with
    | true =>
      go_wp2_with fail
      go_ret2
      rw [GoPost, okGo, HP.out, ltF, HB2.out]
      exact ⟨rfl, .of_below H.out HB1.out⟩
    | false =>
      go_wp2_with fail
      refine (inf_calls t w2).mono ?_
      rintro e w3 ⟨rfl, rfl⟩
      obtain ⟨b3, hb3⟩ : ∃ b, infP t = b := ⟨_, rfl⟩
      rw [hb3]
      have HB3 := Aside0.mk hb3
      clear hb3
      cases b3 with
      | true =>
        go_wp2_with fail
        go_ret2
        rw [GoPost, okGo, HP.out, ltF, HB2.out, HB3.out]
        exact ⟨rfl, .of_below H.out HB1.out⟩
      | false =>
        have HOK : Aside0 (okGo now d = true) := ⟨by rw [okGo, HP.out, ltF, HB2.out, HB3.out]; rfl⟩
        have hf := H1.out.frozen
        clear hb1
        go_wp2_with fail
        have H4 := Aside0.mk (H1.out.put1 t)
        have HH4 : Aside0 (Hold w (w3.setCell ⟨g, 1, none⟩ (.float .f64 t)) (fun k => k = g ∨ own v k)) := ⟨(Hold.of_below HB1.out _).put (.inl rfl) 1 _⟩
        clear hf hc1
        go_loopg [7] l.length (fun m v7 wr => ∃ (ids : List Int) (lr : List Tm) (vr : Value), lr.length = m ∧ Aside0 (IR wr w.heap.size v7 ids) ∧ Aside0 (CAt wr g true t last vr lr) ∧ Aside0 (Hold w wr (fun k => k = g ∨ own v k)) ∧
          Aside0 (vr.ownBlock = v.ownBlock ∨ ∃ k, vr.ownBlock = some k ∧ w.heap.size ≤ k) ∧ Aside0 (ids ++ (goL t m lr).1 = (goL t l.length l).1 ∧ (goL t m lr).2 = (goL t l.length l).2) ∧ Aside0 (ids.length + m = l.length))
        case atStart => exact ⟨[], l, v, rfl, ⟨Kd.R_nil _ _ _ _ _⟩, H4, HH4, ⟨.inl rfl⟩, ⟨rfl, rfl⟩, ⟨by simp⟩⟩
        case round =>
          obtain ⟨ids, lr, vr, hlen, HI, HC, HH, HAT, HE, HS⟩ := hrel
          have hc3 := HC.out.cell3
          obtain ⟨A, c, hv⟩ := HC.out.row.slice
          subst hv
          rw [hlen] at hc3
          cases gk with
          | zero =>
            have e0 : ((0 : Nat) : Int) = 0 := rfl
            have HL := Aside0.mk hlen
            clear hlen
            go_wp2_with fail
            go_ret2
            rw [GoPost, if_pos HOK.out, HP.out]
            have e1 := HE.out.1
            have e2 := HE.out.2
            rw [goL, List.append_nil] at e1
            rw [goL] at e2
            rw [← e1, ← e2]
            exact ⟨_, rfl, HI.out, _, HC.out, HH.out, HAT.out⟩
          | succ m =>
            have hr := HC.out.row
            rw [hlen] at hr
            obtain ⟨r, rfl, hi0, hi1, hf⟩ := hr.get 0 (by omega) (by omega)
            have hi : wr.cell? ⟨r, 1, none⟩ = some (.float .f64 (tm lr 0).2) := hi1
            have hi' : wr.cell? ⟨r, 0, none⟩ = some (.int .i64 (tm lr 0).1) := hi0
            obtain ⟨N, hN⟩ : ∃ N, N = m + 1 := ⟨_, rfl⟩
            rw [← hN] at hc3 hlen
            have HN := Aside0.mk hN
            have n4 : 0 < N := by omega
            have n5 : (0 : Int) < (N : Int) := by omega
            have HL := Aside0.mk hlen
            obtain ⟨b4, hb4⟩ : ∃ b, (FloatKind.f64.format.order (tm lr 0).2 t == some .lt || FloatKind.f64.format.order (tm lr 0).2 t == some .eq) = b := ⟨_, rfl⟩
            have HB4 : Aside0 (leF (tm lr 0).2 t = b4) := ⟨hb4⟩
            clear hlen hN hi0 hi1 hf hr
            cases b4 with
            | false =>
              go_wp2_with fail
              go_ret2
              rw [GoPost, if_pos HOK.out, HP.out]
              have e1 := HE.out.1
              have e2 := HE.out.2
              rw [goL, if_neg (by rw [HB4.out]; simp), List.append_nil] at e1
              rw [goL, if_neg (by rw [HB4.out]; simp)] at e2
              rw [← e1, ← e2]
              exact ⟨_, rfl, HI.out, _, HC.out, HH.out, HAT.out⟩
            | true =>
              go_wp2_with (first | ((with_reducible refine gate_builtin (b := .append) (xs := #[.tmp 53, .tmp 61]) rfl ?_); at_builtin; refine Kd.R_append (Kd.int .i64) (w0 := wr) (W := wr) w.heap.size rfl (.tmp 53) (.tmp 61) 34 3 (.int .i64 0) 8 rfl under_ints info_int rfl (by decide) (by decide) u7 ids (tm lr 0).1 [.int .i64 (tm lr 0).1] (fun _ => True) (fun _ => False) rfl rfl rfl (fun _ hk => hk.elim) (fun _ _ => trivial) HI.out ?hbb HH.out.size (by have := HS.out; have := HM.out; omega) ?_
                                    case hbb => exact ⟨rfl, rfl, rfl, Nat.le_refl _, fun _ _ => rfl⟩
                                    intro v5 w5 ho hb5 hg5 hat5
                                    have HO5 : Aside0 (IR w5 w.heap.size v5 (ids ++ [(tm lr 0).1])) := ⟨ho⟩
                                    have HC5 := Aside0.mk (HC.out.beside HI.out hg5)
                                    have HH5 : Aside0 (Hold w w5 (fun k => k = g ∨ own v k)) := ⟨HH.out.trans (Hold.of_grown hg5) (fun k hk => .inr (Kd.R_base HI.out k hk.symm))⟩
                                    clear ho hb5 hg5 hat5))
              refine (pop_calls g true t last (.slice (some ⟨r, 0, none⟩) lr.length c) lr m w5 HC5.out (by rw [HL.out, HN.out]) (by have := HL.out; have := HN.out; have := HS.out; have := HM.out; omega)).mono ?_
              rintro e w6 ⟨⟨u6, rfl⟩, hp6⟩
              have hm6 := MovePost.step (w := w) (v := v) HH5.out HAT.out hp6
              obtain ⟨v6, hc6, hh6, hat6⟩ := hm6
              have HO6 : Aside0 (IR w6 w.heap.size v5 (ids ++ [(tm lr 0).1])) := by
                obtain ⟨v7, hc7, hh7, hat7⟩ := hp6
                exact ⟨HO5.out.keep HC5.out hh7⟩
              have ept : (popP lr).take m = popT lr := by rw [popT, HL.out, HN.out]; rfl
              rw [ept] at hc6
              have HC6 := Aside0.mk hc6
              have HH6 := Aside0.mk hh6
              have HAT6 := Aside0.mk hat6
              clear hc6 hh6 hat6 hp6 ept hc3 hi hi'
              go_wp2_with fail
              go_roundg m
              case measure => omega
              case rel =>
                have e1 := HE.out.1
                have e2 := HE.out.2
                have hcnd : 0 < lr.length ∧ leF (tm lr 0).2 t = true := ⟨by rw [HL.out, HN.out]; omega, HB4.out⟩
                rw [goL, if_pos hcnd] at e1 e2
                refine ⟨_, _, _, by rw [popT_length, HL.out, HN.out]; rfl, HO6, HC6, HH6, HAT6, ⟨?_, e2⟩, ⟨?_⟩⟩
                · rw [← e1]; simp
                · have := HS.out; simp; omega
end Go.Proofs.Ytnniljcmjcjleaa
