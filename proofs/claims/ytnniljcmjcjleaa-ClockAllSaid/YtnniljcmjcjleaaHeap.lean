/- container/heap over a clock's timers: up and down. -/
import Derived.Test.YtnniljcmjcjleaaMem
namespace Go.Proofs.Ytnniljcmjcjleaa
open Go.RowKit Go.Proofs.Ytnniljcmjcjleaa.QA Go.Proofs.YtnniljcmjcjleaaW.PrintWords Go.Proofs.YtnniljcmjcjleaaW.PrintLast Go.Proofs.YtnniljcmjcjleaaW.PrintMore
attribute [local go_sem] fl_store fl_bits fl_frombits fl_usigned
set_option linter.unusedVariables false
set_option linter.unusedSimpArgs false

def swapT (l : List Tm) (i j : Nat) : List Tm := (l.set i (tm l j)).set j (tm l i)
theorem swapT_length (l : List Tm) (i j : Nat) : (swapT l i j).length = l.length := by simp [swapT]
def upP (l : List Tm) : Nat → List Tm
  | 0 => l
  | j + 1 => if lessT (tm l ((j + 1 : Nat) : Int)) (tm l ((j / 2 : Nat) : Int)) then upP (swapT l (j / 2) (j + 1)) (j / 2) else l
termination_by j => j
decreasing_by omega
/-- The child that goes first. -/
def childP (l : List Tm) (n i : Nat) : Nat := if 2 * i + 2 < n ∧ lessT (tm l ((2 * i + 2 : Nat) : Int)) (tm l ((2 * i + 1 : Nat) : Int)) = true then 2 * i + 2 else 2 * i + 1
theorem childP_gt (l : List Tm) (n i : Nat) : i < childP l n i := by unfold childP; split <;> omega
def downP (n : Nat) (l : List Tm) (i : Nat) : List Tm × Nat :=
  if h : 2 * i + 1 < n then
    if lessT (tm l (childP l n i : Nat)) (tm l (i : Nat)) then downP n (swapT l i (childP l n i)) (childP l n i) else (l, i)
  else (l, i)
termination_by n - i
decreasing_by have := childP_gt l n i; omega

/-- The methods behind the interface: at the address of a row's own cell. -/
theorem meth_less (a : Addr) (v : Value) (w : World) (hc : w.cell? a = some v) : (method 231 68 (.pointer (some a)) "Less").run Try.prog w = .ok (86, v) w := by
  have h : (method 231 68 (.pointer (some a)) "Less").run Try.prog w = (do let v ← loadVar 58 a; pure ((86 : FuncId), v)).run Try.prog w := by kernel_rfl
  rw [h]
  go_simp
theorem go_less (args : Array Value) (w : World) : (callFunc 86 args).run Try.prog w = .ok (.enter 86 args) w := enters_ Try.func86 (by kernel_rfl) rfl args w
theorem meth_len (a : Addr) (v : Value) (w : World) (hc : w.cell? a = some v) : (method 231 68 (.pointer (some a)) "Len").run Try.prog w = .ok (85, v) w := by
  have h : (method 231 68 (.pointer (some a)) "Len").run Try.prog w = (do let v ← loadVar 58 a; pure ((85 : FuncId), v)).run Try.prog w := by kernel_rfl
  rw [h]
  go_simp
theorem go_len (args : Array Value) (w : World) : (callFunc 85 args).run Try.prog w = .ok (.enter 85 args) w := enters_ Try.func85 (by kernel_rfl) rfl args w
theorem meth_swap (a : Addr) (v : Value) (w : World) (hc : w.cell? a = some v) : (method 231 68 (.pointer (some a)) "Swap").run Try.prog w = .ok (87, v) w := by
  have h : (method 231 68 (.pointer (some a)) "Swap").run Try.prog w = (do let v ← loadVar 58 a; pure ((87 : FuncId), v)).run Try.prog w := by kernel_rfl
  rw [h]
  go_simp
theorem go_swap (args : Array Value) (w : World) : (callFunc 87 args).run Try.prog w = .ok (.enter 87 args) w := enters_ Try.func87 (by kernel_rfl) rfl args w
theorem meth_push (a : Addr) (w : World) : (method 231 68 (.pointer (some a)) "Push").run Try.prog w = .ok (89, .pointer (some a)) w := by kernel_rfl
theorem go_push (args : Array Value) (w : World) : (callFunc 89 args).run Try.prog w = .ok (.enter 89 args) w := enters_ Try.func89 (by kernel_rfl) rfl args w
theorem meth_pop (a : Addr) (w : World) : (method 231 68 (.pointer (some a)) "Pop").run Try.prog w = .ok (88, .pointer (some a)) w := by kernel_rfl
theorem go_pop (args : Array Value) (w : World) : (callFunc 88 args).run Try.prog w = .ok (.enter 88 args) w := enters_ Try.func88 (by kernel_rfl) rfl args w

def ptr (g : Nat) : Value := .iface 68 (.pointer (some ⟨g, 3, none⟩))
/-- The row is another one; nothing else. -/
def RowPost (w : World) (g : Nat) (b : Bool) (now : Nat) (last : Int) (v : Value) (l : List Tm) (w' : World) : Prop := CAt w' g b now last v l ∧ Hold w w' (own v)

set_option maxHeartbeats 4000000 in
set_option maxRecDepth 100000 in
theorem up_calls (g : Nat) (b : Bool) (now : Nat) (last : Int) (v : Value) (l : List Tm) (j : Nat) (w : World) (h : CAt w g b now last v l) (hj : j < l.length) (hn : l.length ≤ 1000) :
    Calls Try.prog 42 #[.iface 68 (.pointer (some ⟨g, 3, none⟩)), .int .i64 j] w fun e w' => e = .returned (.tuple #[]) ∧ RowPost w g b now last v (upP l j) w' := by
  obtain ⟨A, c, hv⟩ := h.row.slice
  subst hv
  obtain ⟨N, hN⟩ : ∃ N, N = l.length := ⟨_, rfl⟩
  rw [← hN] at h ⊢ hj hn
  have H := Aside0.mk h
  have HN := Aside0.mk hN
  have HJ := Aside0.mk hj
  have HM := Aside0.mk hn
  clear h hN hj hn
  have g1 := go_less
  have g2 := go_swap
  go_enter Try.func42, Try.ntmps42
  go_wp2_with fail
  go_loopg [1, 4] j (fun m v1 v4 wr => ∃ lr : List Tm, v1 = .int .i64 m ∧ Aside0 (CAt wr g b now last (.slice A N c) lr) ∧ Aside0 (m < N) ∧ Aside0 (Hold w wr (own (.slice A N c))) ∧ Aside0 (upP lr m = upP l j))
  case atStart => exact ⟨l, rfl, H, HJ, ⟨Hold.refl _ _⟩, ⟨rfl⟩⟩
  case round =>
    obtain ⟨lr, rfl, HC, HMN, HH, HE⟩ := hrel
    cases gk with
    | zero =>
      have e0 : ((0 : Nat) : Int) = 0 := rfl
      go_wp2_with fail
      go_end0
      have e := HE.out
      rw [upP] at e
      exact ⟨rfl, by rw [← e]; exact HC.out, HH.out⟩
    | succ m =>
      obtain ⟨q, hq⟩ : ∃ q, q = m / 2 := ⟨_, rfl⟩
      have e1 : wrap64 (m : Int) = (m : Int) := by rw [w64 _ (by have := HMN.out; have := HM.out; omega)]
      have e2 : (m : Int).tdiv 2 = (q : Int) := by rw [hq]; rfl
      have e3 : wrap64 (q : Int) = (q : Int) := by rw [w64 _ (by have := HMN.out; have := HM.out; omega)]
      have e4 : ((q : Int) = (m : Int) + 1) = False := eq_false (by omega)
      have e5 : ((q : Int) == (m : Int) + 1) = false := by simp; omega
      have HL := HC.out.row.len
      have HQ : Aside0 (q < N) := ⟨by have := HMN.out; omega⟩
      have hm1 := meth_less ⟨g, 3, none⟩ _ wr HC.out.cell3
      have HLQ := Aside0.mk hq
      clear hq HL
      go_wp2_with fail
      refine (less_calls A N c _ _ lr wr HC.out.row (by omega) (by have := HMN.out; omega) (by omega) (by have := HQ.out; omega)).mono ?_
      rintro e w1 ⟨rfl, hb1⟩
      have HC1 := Aside0.mk (HC.out.below hb1)
      have HH1 := Aside0.mk (HH.out.trans (S1 := own (.slice A N c)) (Hold.of_below hb1 _) (fun k hk => .inl hk))
      clear hb1 hm1 HC HH
      obtain ⟨r, hr⟩ : ∃ r, lessT (tm lr ((m : Int) + 1)) (tm lr (q : Int)) = r := ⟨_, rfl⟩
      have e := HE.out
      rw [upP, ← HLQ.out, show ((m + 1 : Nat) : Int) = (m : Int) + 1 from rfl, hr] at e
      have HE1 := Aside0.mk e
      clear e
      cases r with
      | false =>
        go_wp2_with fail
        go_end0
        exact ⟨rfl, by rw [← HE1.out]; exact HC1.out, HH1.out⟩
      | true =>
        have hm2 := meth_swap ⟨g, 3, none⟩ _ w1 HC1.out.cell3
        go_wp2_with fail
        refine (swap_calls A N c (q : Int) ((m : Int) + 1) lr w1 HC1.out.row (by omega) (by have := HQ.out; omega) (by omega) (by have := HMN.out; omega)).mono ?_
        rintro e w2 ⟨rfl, hr2, hg2⟩
        have HC2 := Aside0.mk (HC1.out.wrote hg2 hr2)
        have HH2 := Aside0.mk (HH1.out.trans (Hold.of_grown hg2) (fun k hk => .inl hk))
        clear hg2 hr2 hm2 HC1 HH1
        go_wp2_with fail
        go_roundg q
        case measure => have := HLQ.out; omega
        case rel =>
          refine ⟨_, rfl, HC2, HQ, HH2, ⟨?_⟩⟩
          rw [← HE1.out]
          rfl
-- SECOND
set_option maxHeartbeats 8000000 in
set_option maxRecDepth 100000 in
theorem down_calls (g : Nat) (b : Bool) (now : Nat) (last : Int) (v : Value) (l : List Tm) (i0 nn : Nat) (w : World) (h : CAt w g b now last v l) (hi : i0 ≤ nn) (hnn : nn ≤ l.length) (hn : l.length ≤ 1000) :
    Calls Try.prog 44 #[.iface 68 (.pointer (some ⟨g, 3, none⟩)), .int .i64 i0, .int .i64 nn] w fun e w' => e = .returned (.bool (decide (i0 < (downP nn l i0).2))) ∧ RowPost w g b now last v (downP nn l i0).1 w' := by
  obtain ⟨A, c, hv⟩ := h.row.slice
  subst hv
  obtain ⟨N, hN⟩ : ∃ N, N = l.length := ⟨_, rfl⟩
  rw [← hN] at h ⊢ hnn hn
  have H := Aside0.mk h
  have HN := Aside0.mk hN
  have HI0 := Aside0.mk hi
  have HNN := Aside0.mk hnn
  have HM := Aside0.mk hn
  clear h hN hi hnn hn
  have g1 := go_less
  have g2 := go_swap
  go_enter Try.func44, Try.ntmps44
  go_wp2_with fail
  go_loopg [7, 8, 9, 10] (nn - i0) (fun m v7 v8 v9 v10 wr => ∃ (i : Nat) (lr : List Tm), v7 = .int .i64 i ∧ Aside0 (m = nn - i) ∧ Aside0 (i ≤ nn) ∧ Aside0 (CAt wr g b now last (.slice A N c) lr) ∧ Aside0 (Hold w wr (own (.slice A N c))) ∧ Aside0 (downP nn lr i = downP nn l i0))
  case atStart => exact ⟨i0, l, rfl, ⟨rfl⟩, HI0, H, ⟨Hold.refl _ _⟩, ⟨rfl⟩⟩
  case round =>
    obtain ⟨i, lr, rfl, HMEAS, HII, HC, HH, HE⟩ := hrel
    obtain ⟨j1, hj1⟩ : ∃ j1, j1 = 2 * i + 1 := ⟨_, rfl⟩
    obtain ⟨j2, hj2⟩ : ∃ j2, j2 = 2 * i + 2 := ⟨_, rfl⟩
    have HJ1 := Aside0.mk hj1
    have HJ2 := Aside0.mk hj2
    have e1 : wrap64 (2 * (i : Int)) = 2 * (i : Int) := by rw [w64 _ (by have := HII.out; have := HNN.out; have := HM.out; omega)]
    have e2 : wrap64 (2 * (i : Int) + 1) = (j1 : Int) := by rw [w64 _ (by have := HII.out; have := HNN.out; have := HM.out; omega)]; omega
    have e3 : wrap64 ((j1 : Int) + 1) = (j2 : Int) := by rw [w64 _ (by have := HII.out; have := HNN.out; have := HM.out; omega)]; omega
    have n1 : decide ((j1 : Int) < 0) = false := by simp
    clear hj1 hj2
    by_cases hA : nn ≤ j1
    · have d1 : decide ((nn : Int) ≤ (j1 : Int)) = true := by simp; omega
      have d2 : decide (nn ≤ j1) = true := by simp; omega
      have HA := Aside0.mk hA
      clear hA
      go_wp2_with fail
      go_ret
      have HEE := HE.out
      rw [downP, dif_neg (by have := HA.out; have := HJ1.out; omega)] at HEE
      exact ⟨by rw [← HEE]; first | rfl | simp, by rw [← HEE]; exact HC.out, HH.out⟩
    · have d1 : decide ((nn : Int) ≤ (j1 : Int)) = false := by simp; omega
      have d2 : decide (nn ≤ j1) = false := by simp; omega
      have HLT : Aside0 (2 * i + 1 < nn) := ⟨by have := HJ1.out; omega⟩
      have HIN : Aside0 (i < nn) := ⟨by have := HLT.out; omega⟩
      clear hA
      by_cases hB : j2 < nn
      · have d3 : decide ((j2 : Int) < (nn : Int)) = true := by simp; omega
        have d4 : decide (j2 < nn) = true := by simp; omega
        have HB := Aside0.mk hB
        have hm1 := meth_less ⟨g, 3, none⟩ _ wr HC.out.cell3
        clear hB
        go_wp2_with fail
        refine (less_calls A N c (j2 : Int) (j1 : Int) lr wr HC.out.row (by omega) (by have := HB.out; have := HNN.out; omega) (by omega) (by have := HLT.out; have := HJ1.out; have := HNN.out; omega)).mono ?_
        rintro e w1 ⟨rfl, hb1⟩
        have HC1 := Aside0.mk (HC.out.below hb1)
        have HH1 := Aside0.mk (HH.out.trans (S1 := own (.slice A N c)) (Hold.of_below hb1 _) (fun k hk => .inl hk))
        clear hb1 hm1 HC HH
        obtain ⟨r, hr⟩ : ∃ r, lessT (tm lr (j2 : Int)) (tm lr (j1 : Int)) = r := ⟨_, rfl⟩
        cases r with
        | true =>
          have HCH : Aside0 (childP lr nn i = j2) := ⟨by rw [childP, ← HJ2.out, ← HJ1.out, hr, if_pos ⟨HB.out, rfl⟩]⟩
          have HJN : Aside0 (j2 < nn) := HB
          have HJI : Aside0 (i < j2) := ⟨by have := HJ2.out; omega⟩
          have hmt := meth_less ⟨g, 3, none⟩ _ w1 HC1.out.cell3
          go_wp2_with fail
          refine (less_calls A N c (j2 : Int) (i : Int) lr w1 HC1.out.row (by omega) (by have := HJN.out; have := HNN.out; omega) (by omega) (by have := HIN.out; have := HNN.out; omega)).mono ?_
          rintro e w5 ⟨rfl, hb5⟩
          have HC5 := Aside0.mk (HC1.out.below hb5)
          have HH5 := Aside0.mk (HH1.out.trans (S1 := own (.slice A N c)) (Hold.of_below hb5 _) (fun k hk => .inl hk))
          clear hb5 hmt HC1 HH1
          obtain ⟨rt, hrt⟩ : ∃ r, lessT (tm lr (j2 : Int)) (tm lr (i : Int)) = r := ⟨_, rfl⟩
          have HEE := HE.out
          rw [downP, dif_pos HLT.out, HCH.out, hrt] at HEE
          have HE5 := Aside0.mk HEE
          clear HEE
          cases rt with
          | false =>
            go_wp2_with fail
            go_ret
            exact ⟨by rw [← HE5.out]; first | rfl | simp, by rw [← HE5.out]; exact HC5.out, HH5.out⟩
          | true =>
            have hm6 := meth_swap ⟨g, 3, none⟩ _ w5 HC5.out.cell3
            go_wp2_with fail
            refine (swap_calls A N c (i : Int) (j2 : Int) lr w5 HC5.out.row (by omega) (by have := HIN.out; have := HNN.out; omega) (by omega) (by have := HJN.out; have := HNN.out; omega)).mono ?_
            rintro e w6 ⟨rfl, hr6, hg6⟩
            have HC6 := Aside0.mk (HC5.out.wrote hg6 hr6)
            have HH6 := Aside0.mk (HH5.out.trans (Hold.of_grown hg6) (fun k hk => .inl hk))
            clear hg6 hr6 hm6 HC5 HH5
            go_wp2_with fail
            go_roundg (nn - j2)
            case measure => have := HMEAS.out; have := HJI.out; have := HJN.out; omega
            case rel =>
              refine ⟨j2, _, rfl, ⟨by have := HJN.out; omega⟩, ⟨by have := HJN.out; omega⟩, HC6, HH6, ⟨?_⟩⟩
              rw [← HE5.out]
              rfl
        | false =>
          have HCH : Aside0 (childP lr nn i = j1) := ⟨by rw [childP, ← HJ2.out, ← HJ1.out, hr, if_neg (by simp)]⟩
          have HJN : Aside0 (j1 < nn) := ⟨by have := HLT.out; have := HJ1.out; omega⟩
          have HJI : Aside0 (i < j1) := ⟨by have := HJ1.out; omega⟩
          have hmt := meth_less ⟨g, 3, none⟩ _ w1 HC1.out.cell3
          go_wp2_with fail
          refine (less_calls A N c (j1 : Int) (i : Int) lr w1 HC1.out.row (by omega) (by have := HJN.out; have := HNN.out; omega) (by omega) (by have := HIN.out; have := HNN.out; omega)).mono ?_
          rintro e w5 ⟨rfl, hb5⟩
          have HC5 := Aside0.mk (HC1.out.below hb5)
          have HH5 := Aside0.mk (HH1.out.trans (S1 := own (.slice A N c)) (Hold.of_below hb5 _) (fun k hk => .inl hk))
          clear hb5 hmt HC1 HH1
          obtain ⟨rt, hrt⟩ : ∃ r, lessT (tm lr (j1 : Int)) (tm lr (i : Int)) = r := ⟨_, rfl⟩
          have HEE := HE.out
          rw [downP, dif_pos HLT.out, HCH.out, hrt] at HEE
          have HE5 := Aside0.mk HEE
          clear HEE
          cases rt with
          | false =>
            go_wp2_with fail
            go_ret
            exact ⟨by rw [← HE5.out]; first | rfl | simp, by rw [← HE5.out]; exact HC5.out, HH5.out⟩
          | true =>
            have hm6 := meth_swap ⟨g, 3, none⟩ _ w5 HC5.out.cell3
            go_wp2_with fail
            refine (swap_calls A N c (i : Int) (j1 : Int) lr w5 HC5.out.row (by omega) (by have := HIN.out; have := HNN.out; omega) (by omega) (by have := HJN.out; have := HNN.out; omega)).mono ?_
            rintro e w6 ⟨rfl, hr6, hg6⟩
            have HC6 := Aside0.mk (HC5.out.wrote hg6 hr6)
            have HH6 := Aside0.mk (HH5.out.trans (Hold.of_grown hg6) (fun k hk => .inl hk))
            clear hg6 hr6 hm6 HC5 HH5
            go_wp2_with fail
            go_roundg (nn - j1)
            case measure => have := HMEAS.out; have := HJI.out; have := HJN.out; omega
            case rel =>
              refine ⟨j1, _, rfl, ⟨by have := HJN.out; omega⟩, ⟨by have := HJN.out; omega⟩, HC6, HH6, ⟨?_⟩⟩
              rw [← HE5.out]
              rfl
      · have d3 : decide ((j2 : Int) < (nn : Int)) = false := by simp; omega
        have d4 : decide (j2 < nn) = false := by simp; omega
        have HCH : Aside0 (childP lr nn i = j1) := ⟨by rw [childP, ← HJ2.out, ← HJ1.out, if_neg (by intro h; exact hB h.1)]⟩
        have HJN : Aside0 (j1 < nn) := ⟨by have := HLT.out; have := HJ1.out; omega⟩
        have HJI : Aside0 (i < j1) := ⟨by have := HJ1.out; omega⟩
        clear hB
        have hmt := meth_less ⟨g, 3, none⟩ _ wr HC.out.cell3
        go_wp2_with fail
        refine (less_calls A N c (j1 : Int) (i : Int) lr wr HC.out.row (by omega) (by have := HJN.out; have := HNN.out; omega) (by omega) (by have := HIN.out; have := HNN.out; omega)).mono ?_
        rintro e w5 ⟨rfl, hb5⟩
        have HC5 := Aside0.mk (HC.out.below hb5)
        have HH5 := Aside0.mk (HH.out.trans (S1 := own (.slice A N c)) (Hold.of_below hb5 _) (fun k hk => .inl hk))
        clear hb5 hmt HC HH
        obtain ⟨rt, hrt⟩ : ∃ r, lessT (tm lr (j1 : Int)) (tm lr (i : Int)) = r := ⟨_, rfl⟩
        have HEE := HE.out
        rw [downP, dif_pos HLT.out, HCH.out, hrt] at HEE
        have HE5 := Aside0.mk HEE
        clear HEE
        cases rt with
        | false =>
          go_wp2_with fail
          go_ret
          exact ⟨by rw [← HE5.out]; first | rfl | simp, by rw [← HE5.out]; exact HC5.out, HH5.out⟩
        | true =>
          have hm6 := meth_swap ⟨g, 3, none⟩ _ w5 HC5.out.cell3
          go_wp2_with fail
          refine (swap_calls A N c (i : Int) (j1 : Int) lr w5 HC5.out.row (by omega) (by have := HIN.out; have := HNN.out; omega) (by omega) (by have := HJN.out; have := HNN.out; omega)).mono ?_
          rintro e w6 ⟨rfl, hr6, hg6⟩
          have HC6 := Aside0.mk (HC5.out.wrote hg6 hr6)
          have HH6 := Aside0.mk (HH5.out.trans (Hold.of_grown hg6) (fun k hk => .inl hk))
          clear hg6 hr6 hm6 HC5 HH5
          go_wp2_with fail
          go_roundg (nn - j1)
          case measure => have := HMEAS.out; have := HJI.out; have := HJN.out; omega
          case rel =>
            refine ⟨j1, _, rfl, ⟨by have := HJN.out; omega⟩, ⟨by have := HJN.out; omega⟩, HC6, HH6, ⟨?_⟩⟩
            rw [← HE5.out]
            rfl
end Go.Proofs.Ytnniljcmjcjleaa
