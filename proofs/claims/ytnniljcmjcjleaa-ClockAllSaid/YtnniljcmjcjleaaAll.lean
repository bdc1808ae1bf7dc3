/- The law ClockAll, walked: any calls, on the clock and on the reference's. -/
import Derived.Test.YtnniljcmjcjleaaSame
namespace Go.Proofs.Ytnniljcmjcjleaa
open Go.RowKit Go.Proofs.Ytnniljcmjcjleaa.QA Go.Proofs.YtnniljcmjcjleaaW.PrintWords Go.Proofs.YtnniljcmjcjleaaW.PrintLast Go.Proofs.YtnniljcmjcjleaaW.PrintMore
attribute [local go_sem] fl_store fl_bits fl_frombits fl_usigned
set_option linter.unusedVariables false
set_option linter.unusedSimpArgs false

/-- The calls that are given. -/
def OpsAt (w : World) (A : Option Addr) (ops : List (Int × Int × Int)) : Prop := ∀ i (h : i < ops.length), ∃ b o, A = some ⟨b, o, none⟩ ∧ w.cell? ⟨b, o + i * 3, none⟩ = some (.int .i64 ops[i].1) ∧ w.cell? ⟨b, o + i * 3 + 1, none⟩ = some (.int .u64 ops[i].2.1) ∧ w.cell? ⟨b, o + i * 3 + 2, none⟩ = some (.int .i64 ops[i].2.2)
theorem OpsAt.below {w w1 : World} {A : Option Addr} {ops : List (Int × Int × Int)} (h : OpsAt w A ops) (hb : Below w.heap.size w w1) : OpsAt w1 A ops := fun i hi => by
  obtain ⟨b, o, h1, h2, h3, h4⟩ := h i hi
  exact ⟨b, o, h1, pw_cell_below hb h2, pw_cell_below hb h3, pw_cell_below hb h4⟩
theorem add_any (a b : Nat) (w : World) : ∃ s w1, (binOp .add 29 (.float .f64 a) (.float .f64 b)).run Try.prog w = .ok (.float .f64 s) w1 ∧ s < 18446744073709551616 ∧ (w1 = w ∨ w1 = w.drew) := by
  cases h : FloatKind.f64.format.add a b with
  | some s => exact ⟨s, w, run_float_arith w .add _ .f64 a b s h, Ieee.Format.add_lt _ h, .inl rfl⟩
  | none =>
    refine ⟨(Question.nanBits .f64 a b).cut (w.tape w.drawn (.nanBits .f64 a b)), w.drew, ?_, ?_, .inr rfl⟩
    · simp [binOp, Op.floatArith, h, Question.forced]
    · show (w.tape w.drawn (.nanBits .f64 a b) % 2) * 2 ^ 63 + 0x7ff0000000000000 + 1 + (w.tape w.drawn (.nanBits .f64 a b) / 2) % (2 ^ 52 - 1) < _
      generalize w.tape w.drawn (.nanBits .f64 a b) = t
      have e1 : (2 : Nat) ^ 63 = 9223372036854775808 := by decide
      have e2 : (2 : Nat) ^ 52 - 1 = 4503599627370495 := by decide
      rw [e1, e2]
      omega
/-- What stands at a round's head. -/
structure State (w wi : World) (g r : Nat) (now : Nat) (last : Int) (v vr : Value) (h S : List Tm) : Prop where
  both : Both w wi g r now now last last v vr h S
  rel : Rel h S last
  time : now ≤ 9218868437227405312
theorem plain_top {d : Nat} (hd : d < 18446744073709551616) (h : (plainF d).2 = true) : (plainF d).1 ≤ 9218868437227405312 := by
  rw [Flo.plain_ok hd] at h
  have := of_decide_eq_true h
  rw [Flo.plain_good this]
  exact this
theorem okGo_plain {now d : Nat} (h : okGo now d = true) : (plainF d).2 = true := by
  unfold okGo at h
  cases h2 : (plainF d).2 with
  | true => rfl
  | false => rw [h2] at h; cases h
theorem okStart_plain {d : Nat} (h : okStart d = true) : (plainF d).2 = true := by
  unfold okStart at h
  cases h2 : (plainF d).2 with
  | true => rfl
  | false => rw [h2] at h; cases h
namespace State
variable {w wi : World} {g r now : Nat} {last : Int} {v vr : Value} {h S : List Tm}
theorem step {wj : World} (x : State w wi g r now last v vr h S) (hb : Below wi.heap.size wi wj) : State w wj g r now last v vr h S := ⟨x.both.step hb, x.rel, x.time⟩
theorem sum (x : State w wi g r now last v vr h S) {d : Nat} (hd : d < 18446744073709551616) (hp : (plainF d).2 = true) : FloatKind.f64.format.add now (plainF d).1 = some (addF now (plainF d).1) ∧ addF now (plainF d).1 ≤ 9218868437227405312 := by
  obtain ⟨s, h1, h2⟩ := Flo.add_pos now (plainF d).1 x.time (plain_top hd hp)
  have : addF now (plainF d).1 = s := by rw [addF, h1]; rfl
  rw [this]
  exact ⟨h1, h2⟩
end State
theorem after_both {w wi w3 : World} {g r now : Nat} {last : Int} {v vr : Value} {h S : List Tm} {X : Nat} {e : Ending} (hX : X < 18446744073709551616) (x : State w wi g r now last v vr h S) (hp : AfterPost wi g now last v h X e w3) :
    ∃ (k ec last1 : Int) (h1 S1 : List Tm), e = .returned (.tuple #[.int .i64 k, .int .i64 ec]) ∧ (∃ v1, Both w w3 g r now now last1 last v1 vr h1 S) ∧ Rel h1 S1 last1 ∧ (last ≤ last1 ∧ last1 ≤ last + 1) ∧
      ∀ (W W' : World) (vr' : Value) (e' : Ending), RAfterPost W r now vr' S last X e' W' → e' = .returned (.tuple #[.int .i64 k, .int .i64 ec]) ∧ MoveR W r now vr' S1 last1 W' := by
  by_cases hpl : (plainF X).2 = false
  · rw [AfterPost, if_pos hpl] at hp
    obtain ⟨rfl, hm⟩ := hp
    refine ⟨0, 1, last, h, S, rfl, x.both.moveA hm, x.rel, ⟨by omega, by omega⟩, fun W W' vr' e' hq => ?_⟩
    rw [RAfterPost, if_pos hpl] at hq
    exact hq
  · rw [AfterPost, if_neg hpl] at hp
    have hpt : (plainF X).2 = true := by simpa using hpl
    by_cases hf : 256 ≤ h.length
    · rw [if_pos hf] at hp
      obtain ⟨rfl, hm⟩ := hp
      refine ⟨0, 9, last, h, S, rfl, x.both.moveA hm, x.rel, ⟨by omega, by omega⟩, fun W W' vr' e' hq => ?_⟩
      rw [RAfterPost, if_neg hpl, if_pos (by rw [x.rel.length]; have := x.rel.len; omega)] at hq
      exact hq
    · rw [if_neg hf] at hp
      obtain ⟨rfl, hm⟩ := hp
      refine ⟨last + 1, 0, last + 1, _, insR S (last + 1, addF now (plainF X).1), rfl, x.both.moveA hm, x.rel.push _ (x.sum hX hpt).2 (by omega), ⟨by omega, by omega⟩, fun W W' vr' e' hq => ?_⟩
      rw [RAfterPost, if_neg hpl, if_neg (by rw [x.rel.length]; omega)] at hq
      exact hq
theorem cancel_both {w wi wj w3 : World} {g r now : Nat} {last id : Int} {v vr : Value} {h S : List Tm} {e : Ending} (x : State w wi g r now last v vr h S) (hb : Below wi.heap.size wi wj) (hp : CancelPost wj g now last v h id e w3) :
    ∃ (ec : Int) (h1 S1 : List Tm), e = .returned (.int .i64 ec) ∧ (∃ v1, Both w w3 g r now now last last v1 vr h1 S) ∧ Rel h1 S1 last ∧
      ∀ (W W' : World) (vr' : Value) (e' : Ending), RCancelPost W r now vr' S last id e' W' → e' = .returned (.int .i64 ec) ∧ MoveR W r now vr' S1 last W' := by
  have xj := x.step hb
  obtain ⟨c1, c2⟩ := x.rel.cancel id
  by_cases hn : idxP id h 0 < 0
  · rw [CancelPost, if_pos hn] at hp
    obtain ⟨rfl, hm⟩ := hp
    refine ⟨6, h, S, rfl, xj.both.moveA hm, x.rel, fun W W' vr' e' hq => ?_⟩
    rw [RCancelPost, if_pos (c1.1 hn)] at hq
    exact hq
  · rw [CancelPost, if_neg hn] at hp
    obtain ⟨rfl, hm⟩ := hp
    refine ⟨0, _, _, rfl, xj.both.moveA hm, c2 hn, fun W W' vr' e' hq => ?_⟩
    rw [RCancelPost, if_neg (fun h2 => hn (c1.2 h2))] at hq
    exact hq
theorem go_both {w wi w3 : World} {g r now : Nat} {last : Int} {v vr : Value} {h S : List Tm} {d : Nat} {e : Ending} (hd : d < 18446744073709551616) (x : State w wi g r now last v vr h S) (hp : GoPost wi g now last v h d e w3) :
    ∃ (ids : List Int) (ec : Int) (now1 : Nat) (h1 S1 : List Tm) (u : Value), e = .returned (.tuple #[u, .int .i64 ec]) ∧ IR w3 wi.heap.size u ids ∧ (∃ v1, Both w w3 g r now1 now last last v1 vr h1 S) ∧ Rel h1 S1 last ∧ now1 ≤ 9218868437227405312 ∧ ids.length ≤ 256 ∧
      ∀ (W W' : World) (vr' : Value) (e' : Ending), RGoPost W r now vr' S last d e' W' → ∃ u', e' = .returned (.tuple #[u', .int .i64 ec]) ∧ IR W' W.heap.size u' ids ∧ MoveR W r now1 vr' S1 last W' := by
  by_cases hok : okGo now d = true
  · rw [GoPost, if_pos hok] at hp
    obtain ⟨u, rfl, hi, hm⟩ := hp
    obtain ⟨g1, g2⟩ := x.rel.go (plainF d).1
    rw [g1] at hi
    refine ⟨_, 0, (plainF d).1, _, goR (plainF d).1 S, u, rfl, hi, x.both.moveA hm, g2, plain_top hd (okGo_plain hok), ?_, fun W W' vr' e' hq => ?_⟩
    · rw [List.length_map]
      have e1 := goS_length (plainF d).1 S
      have e2 := x.rel.length
      have e3 := x.rel.len
      omega
    · rw [RGoPost, if_pos hok] at hq
      exact hq
  · rw [GoPost, if_neg hok] at hp
    obtain ⟨rfl, hm⟩ := hp
    refine ⟨[], 1, now, h, S, _, rfl, Kd.R_nil _ _ _ _ _, x.both.moveA hm, x.rel, x.time, by decide, fun W W' vr' e' hq => ?_⟩
    rw [RGoPost, if_neg hok] at hq
    exact ⟨_, hq.1, Kd.R_nil _ _ _ _ _, hq.2⟩
theorem jump_both {w wi w3 : World} {g r now : Nat} {last : Int} {v vr : Value} {h S : List Tm} {e : Ending} (x : State w wi g r now last v vr h S) (hp : JumpPost wi g now last v h e w3) :
    ∃ (ids : List Int) (now1 : Nat) (h1 S1 : List Tm) (u : Value), e = .returned u ∧ IR w3 wi.heap.size u ids ∧ (∃ v1, Both w w3 g r now1 now last last v1 vr h1 S) ∧ Rel h1 S1 last ∧ now1 ≤ 9218868437227405312 ∧ ids.length ≤ 256 ∧
      ∀ (W W' : World) (vr' : Value) (e' : Ending), RJumpPost W r now vr' S last e' W' → ∃ u', e' = .returned u' ∧ IR W' W.heap.size u' ids ∧ MoveR W r now1 vr' S1 last W' := by
  have hn := x.rel.next
  have hd : (nextP S).1 < 18446744073709551616 := by
    have hsm := x.rel.small
    cases S with
    | nil => show (0 : Nat) < _; omega
    | cons t l =>
      have h1 : t.2 ≤ 9218868437227405312 := hsm t (List.mem_cons_self ..)
      show (if infP t.2 = true then ((0, false) : Nat × Bool) else (t.2, true)).1 < _
      split
      · show (0 : Nat) < _; omega
      · show t.2 < _; omega
  by_cases hok : (nextP h).2 = true ∧ okGo now (nextP h).1 = true
  · rw [JumpPost, if_pos hok] at hp
    obtain ⟨u, rfl, hi, hm⟩ := hp
    rw [hn] at hi hm hok
    obtain ⟨g1, g2⟩ := x.rel.go (plainF (nextP S).1).1
    rw [g1] at hi
    refine ⟨_, (plainF (nextP S).1).1, _, goR (plainF (nextP S).1).1 S, u, rfl, hi, x.both.moveA hm, g2, plain_top hd (okGo_plain hok.2), ?_, fun W W' vr' e' hq => ?_⟩
    · rw [List.length_map]
      have e1 := goS_length (plainF (nextP S).1).1 S
      have e2 := x.rel.length
      have e3 := x.rel.len
      omega
    · rw [RJumpPost, if_pos hok] at hq
      exact hq
  · rw [JumpPost, if_neg hok] at hp
    obtain ⟨rfl, hm⟩ := hp
    refine ⟨[], now, h, S, _, rfl, Kd.R_nil _ _ _ _ _, x.both.moveA hm, x.rel, x.time, by decide, fun W W' vr' e' hq => ?_⟩
    rw [hn] at hok
    rw [RJumpPost, if_neg hok] at hq
    exact ⟨_, hq.1, Kd.R_nil _ _ _ _ _, hq.2⟩
set_option maxHeartbeats 16000000 in
set_option maxRecDepth 100000 in
theorem all_calls (start : Nat) (A : Option Addr) (n c : Nat) (ops : List (Int × Int × Int)) (w : World) (hst : start < 18446744073709551616) (hops : OpsAt w A ops) (hn : n = ops.length) (hX : ∀ o ∈ ops, 0 ≤ o.2.1 ∧ o.2.1 < 18446744073709551616) :
    Calls Try.prog 5 #[.int .u64 (start : Int), .slice A n c] w fun e w' => e = .returned (.bool true) ∧ Below w.heap.size w w' := by
  have HST := Aside0.mk hst
  have HOPS := Aside0.mk hops
  have HN := Aside0.mk hn
  have HX := Aside0.mk hX
  clear hst hops hn hX
  go_enter Try.func5, Try.ntmps5
  go_wp2_with fail
  refine (begun_calls w).mono ?_
  rintro e w0 ⟨rfl, hb0⟩
  have HB0 := Aside0.mk hb0
  clear hb0
  go_wp2_with fail
  refine (new_calls start w0).mono ?_
  rintro e w1 hp1
  by_cases hok : okStart start = true
  · rw [NewPost, if_pos hok] at hp1
    obtain ⟨g, rfl, hca, hga, hb1⟩ := hp1
    have MA : Aside0 (Mine w w1 g true (plainF start).1 0 (.slice none 0 0) []) := ⟨⟨hca, HB0.out.trans (hb1.mono HB0.out.size), by have := HB0.out.size; omega, fun k hk => absurd hk (no_own k)⟩⟩
    have HOK := Aside0.mk hok
    clear hca hga hb1 hok
    go_wp2_with fail
    refine (rnew_calls start w1).mono ?_
    rintro e w2 hp2
    rw [NewRPost, if_pos HOK.out] at hp2
    obtain ⟨r, rfl, hra, hrg, hb2⟩ := hp2
    have ST : Aside0 (State w w2 g r (plainF start).1 0 (.slice none 0 0) (.slice none 0 0) [] []) :=
      ⟨⟨⟨MA.out.step hb2, hra, by have := MA.out.below.size; omega, fun k hk => absurd hk (no_own k), fun k hk => absurd hk (no_own k)⟩, Rel.nil, plain_top HST.out (okStart_plain HOK.out)⟩⟩
    clear hra hrg hb2 MA
    go_wp2_with fail
    go_loopg [9] (min n 400) (fun m v9 wr => ∃ (i now : Nat) (last : Int) (v vr : Value) (h S : List Tm), m + i = min n 400 ∧ v9 = .int .i64 i ∧ Aside0 (State w wr g r now last v vr h S) ∧ Aside0 (0 ≤ last ∧ last ≤ i))
    case atStart => exact ⟨0, _, 0, _, _, [], [], rfl, rfl, ST, ⟨by omega, by omega⟩⟩
    case round =>
      clear ST
      obtain ⟨i, now, last, v, vr, h, S, hi, rfl, ST, HLA⟩ := hrel
      cases gk with
      | zero =>
        have HBW := Aside0.mk ST.out.both.a.below
        by_cases hin : i < n
        case' pos =>
          have d1 : decide ((i : Int) < (n : Int)) = true := by simp; omega
          have d2 : decide (i < n) = true := by simp; omega
          have d3 : decide ((i : Int) < 400) = false := by simp; omega
          have d4 : decide (i < 400) = false := by simp; omega
        case' neg =>
          have d1 : decide ((i : Int) < (n : Int)) = false := by simp; omega
          have d2 : decide (i < n) = false := by simp; omega
        all_goals
          clear hi hin
          go_wp2_with fail
          go_ret
          exact ⟨rfl, HBW.out⟩
      | succ m =>
        have hin : i < n := by omega
        have hi4 : i < 400 := by omega
        have d1 : decide ((i : Int) < (n : Int)) = true := by simp; omega
        have d2 : decide (i < n) = true := by simp; omega
        have d3 : decide ((i : Int) < 400) = true := by simp; omega
        have d4 : decide (i < 400) = true := by simp; omega
        have ej : wrap64 ((i : Int) + 1) = ((i + 1 : Nat) : Int) := w64 _ (by omega)
        have hil : i < ops.length := by have := HN.out; omega
        obtain ⟨bo, oo, hA, hc0, hc1, hc2⟩ := (HOPS.out.below ST.out.both.a.below) i hil
        subst hA
        have hxx := HX.out _ (List.getElem_mem hil)
        obtain ⟨K, hK⟩ : ∃ K, K = ops[i].1 := ⟨_, rfl⟩
        obtain ⟨id, hid⟩ : ∃ id, id = ops[i].2.2 := ⟨_, rfl⟩
        obtain ⟨X, hX⟩ := Int.eq_ofNat_of_zero_le hxx.1
        rw [hX] at hxx hc1
        rw [← hK] at hc0
        rw [← hid] at hc2
        have HXB : Aside0 (X < 18446744073709551616) := ⟨by have := hxx.2; omega⟩
        have HI : Aside0 (m + (i + 1) = min n 400 ∧ i < 400) := ⟨by omega, hi4⟩
        have HIDE := Aside0.mk hid
        clear hi hxx hX hK hid hi4
        have hkind : K = 1 ∨ K = 2 ∨ K = 3 ∨ K = 4 ∨ K = 5 ∨ (K ≠ 1 ∧ K ≠ 2 ∧ K ≠ 3 ∧ K ≠ 4 ∧ K ≠ 5) := by omega
        rcases hkind with rfl | rfl | rfl | rfl | rfl | ⟨k1, k2, k3, k4, k5⟩
        · -- After
          go_wp2_with fail
          refine (after_calls g now last v h X wr ST.out.both.a.at_ (by have := HLA.out; have := HI.out.2; omega) (fun hp => (ST.out.sum HXB.out hp).1)).mono ?_
          rintro e w3 hp3
          obtain ⟨k, ec, last1, h1, S1, rfl, ⟨v3, b3⟩, hrel, hl1, hpost⟩ := after_both HXB.out ST.out hp3
          have HB3 := Aside0.mk b3
          have HREL := Aside0.mk hrel
          have HL1 := Aside0.mk hl1
          have HPOST := Aside0.mk hpost
          clear hp3 b3 hrel hl1 hpost
          go_wp2_with fail
          refine (rafter_calls r now vr S last X w3 HB3.out.b (by have := ST.out.rel.length; have := ST.out.rel.len; omega) (by have := HLA.out; have := HI.out.2; omega) ST.out.rel.small (fun hp => ST.out.sum HXB.out hp)).mono ?_
          rintro e w4 hp4
          obtain ⟨rfl, hm4⟩ := HPOST.out _ _ _ _ hp4
          obtain ⟨vr4, b4⟩ := HB3.out.moveR hm4
          have ST4 : Aside0 (State w w4 g r now last1 v3 vr4 h1 S1) := ⟨⟨b4, HREL.out, ST.out.time⟩⟩
          clear hp4 hm4 b4
          go_wp2_with fail
          refine (csame_calls g r now last1 last1 v3 vr4 h1 S1 w w4 ST4.out.both ST4.out.rel).mono ?_
          rintro e w5 ⟨rfl, hb5⟩
          have ST5 := Aside0.mk (ST4.out.step hb5)
          clear hb5
          go_wp2_with fail
          go_roundg m
          case measure => omega
          case rel => exact ⟨i + 1, now, last1, v3, vr4, h1, S1, HI.out.1, by first | rw [ej] | rfl, ST5, ⟨by have := HLA.out; have := HL1.out; omega, by have := HLA.out; have := HL1.out; omega⟩⟩
        · -- Cancel
          have HLEN : Aside0 (h.length ≤ 1000 ∧ S.length ≤ 1000) := ⟨by have := ST.out.rel.length; have := ST.out.rel.len; omega⟩
          go_wp2_with fail
          go_region_with (first
            | (refine (cancel_calls g now last v h id _ ?hc HLEN.out.1).mono ?_
               case hc => first | exact ST.out.both.a.at_ | exact ST.out.both.a.at_.drew
               rintro e w3 hp3
               obtain ⟨ec, h1, S1, rfl, ⟨v3, b3⟩, hrel, hpost⟩ := cancel_both ST.out (by first | exact Below.refl _ _ | exact (Below.refl _ _).drew) hp3
               have HB3 := Aside0.mk b3
               have HREL := Aside0.mk hrel
               have HPOST := Aside0.mk hpost
               obtain ⟨b3', o3', hA3, hq0, hq1, hq2⟩ := (HOPS.out.below b3.a.below) i hil
               cases hA3
               rw [← HIDE.out] at hq2
               clear hp3 b3 hrel hpost hq0 hq1)
            | (refine (rcancel_calls r now vr S last id _ ?hc HLEN.out.2).mono ?_
               case hc => first | exact HB3.out.b | exact HB3.out.b.drew
               rintro e w4 hp4
               obtain ⟨rfl, hm4⟩ := HPOST.out _ _ _ _ hp4
               obtain ⟨vr4, b4⟩ := (HB3.out.step (by first | exact Below.refl _ _ | exact (Below.refl _ _).drew)).moveR hm4
               have ST4 : Aside0 (State w w4 g r now last v3 vr4 h1 S1) := ⟨⟨b4, HREL.out, ST.out.time⟩⟩
               clear hp4 hm4 b4))
          all_goals
            go_wp2_with fail
            refine (csame_calls g r now last last v3 vr4 h1 S1 w _ ST4.out.both ST4.out.rel).mono ?_
            rintro e w5 ⟨rfl, hb5⟩
            have ST5 := Aside0.mk (ST4.out.step hb5)
            clear hb5
            go_wp2_with fail
            go_roundg m
            case measure => omega
            case rel => exact ⟨i + 1, now, last, v3, vr4, h1, S1, HI.out.1, by first | rw [ej] | rfl, ST5, ⟨by have := HLA.out; omega, by have := HLA.out; omega⟩⟩
        · -- Go
          have STA := ST
          go_wp2_with fail
          refine (gom_calls g now last v h X wr STA.out.both.a.at_ (by have := STA.out.rel.len; omega)).mono ?_
          rintro e w3 hp3
          obtain ⟨ids, ec, now1, h1, S1, u1, rfl, hi1, ⟨v3, b3⟩, hrel, htm, hil2, hpost⟩ := go_both HXB.out STA.out hp3
          have HB3 := Aside0.mk b3
          have HREL := Aside0.mk hrel
          have HTM := Aside0.mk htm
          have HIL := Aside0.mk hil2
          have HPOST := Aside0.mk hpost
          have HI1 := Aside0.mk hi1
          clear hp3 b3 hrel htm hil2 hpost hi1
          go_wp2_with fail
          refine (rgo_calls r now vr S last X w3 HB3.out.b (by have := STA.out.rel.length; have := STA.out.rel.len; omega)).mono ?_
          rintro e w4 hp4
          obtain ⟨u2, rfl, hi2, hm4⟩ := HPOST.out _ _ _ _ hp4
          obtain ⟨vr4, b4⟩ := HB3.out.moveR hm4
          have HI1b : Aside0 (IR w4 wr.heap.size u1 ids) := ⟨by obtain ⟨_, _, hh, _⟩ := hm4; exact HI1.out.keepR HB3.out.b hh⟩
          have HI2 := Aside0.mk hi2
          have STG : Aside0 (State w w4 g r now1 last v3 vr4 h1 S1) := ⟨⟨b4, HREL.out, HTM.out⟩⟩
          clear hp4 hi2 hm4 b4
          obtain ⟨A1, c1, hu1⟩ := HI1b.out.slice
          subst hu1
          obtain ⟨A2, c2, hu2⟩ := HI2.out.slice
          subst hu2
          go_wp2_with fail
          refine (flumelaw16_ids.calls (ids.length + 1) A1 c1 _ A2 c2 _ true w4 (Kd.R_reads' HI1b.out).2.2 (Kd.R_reads' HI1b.out).2.1 (Kd.R_reads' HI2.out).2.2 (Kd.R_reads' HI2.out).2.1 (ids_true _ (by have := HIL.out; omega))).mono ?_
          rintro e w4' ⟨rfl, hd4⟩
          have ST4 := Aside0.mk (STG.out.step hd4.below)
          have HL1 : Aside0 (last ≤ last) := ⟨by omega⟩
          clear hd4
          go_wp2_with fail
          refine (csame_calls g r now1 last last v3 vr4 h1 S1 w w4' ST4.out.both ST4.out.rel).mono ?_
          rintro e w5 ⟨rfl, hb5⟩
          have ST5 := Aside0.mk (ST4.out.step hb5)
          clear hb5
          go_wp2_with fail
          go_roundg m
          case measure => omega
          case rel => exact ⟨i + 1, now1, last, v3, vr4, h1, S1, HI.out.1, by first | rw [ej] | rfl, ST5, ⟨by have := HLA.out; have := HL1.out; omega, by have := HLA.out; have := HL1.out; omega⟩⟩
        · -- on
          have hr0 := ST.out.both.b.cell0
          obtain ⟨s, wa, hadd, hs, hwa⟩ := add_any now X wr
          have hba : Below wr.heap.size wr wa := by
            rcases hwa with rfl | rfl
            · exact Below.refl _ _
            · exact (Below.refl _ _).drew
          have STA := Aside0.mk (ST.out.step hba)
          have HSB := Aside0.mk hs
          clear hs hwa hba
          go_wp2_with fail
          refine (gom_calls g now last v h s wa STA.out.both.a.at_ (by have := STA.out.rel.len; omega)).mono ?_
          rintro e w3 hp3
          obtain ⟨ids, ec, now1, h1, S1, u1, rfl, hi1, ⟨v3, b3⟩, hrel, htm, hil2, hpost⟩ := go_both HSB.out STA.out hp3
          have HB3 := Aside0.mk b3
          have HREL := Aside0.mk hrel
          have HTM := Aside0.mk htm
          have HIL := Aside0.mk hil2
          have HPOST := Aside0.mk hpost
          have HI1 := Aside0.mk hi1
          clear hp3 b3 hrel htm hil2 hpost hi1
          go_wp2_with fail
          refine (rgo_calls r now vr S last s w3 HB3.out.b (by have := STA.out.rel.length; have := STA.out.rel.len; omega)).mono ?_
          rintro e w4 hp4
          obtain ⟨u2, rfl, hi2, hm4⟩ := HPOST.out _ _ _ _ hp4
          obtain ⟨vr4, b4⟩ := HB3.out.moveR hm4
          have HI1b : Aside0 (IR w4 wa.heap.size u1 ids) := ⟨by obtain ⟨_, _, hh, _⟩ := hm4; exact HI1.out.keepR HB3.out.b hh⟩
          have HI2 := Aside0.mk hi2
          have STG : Aside0 (State w w4 g r now1 last v3 vr4 h1 S1) := ⟨⟨b4, HREL.out, HTM.out⟩⟩
          clear hp4 hi2 hm4 b4
          obtain ⟨A1, c1, hu1⟩ := HI1b.out.slice
          subst hu1
          obtain ⟨A2, c2, hu2⟩ := HI2.out.slice
          subst hu2
          go_wp2_with fail
          refine (flumelaw16_ids.calls (ids.length + 1) A1 c1 _ A2 c2 _ true w4 (Kd.R_reads' HI1b.out).2.2 (Kd.R_reads' HI1b.out).2.1 (Kd.R_reads' HI2.out).2.2 (Kd.R_reads' HI2.out).2.1 (ids_true _ (by have := HIL.out; omega))).mono ?_
          rintro e w4' ⟨rfl, hd4⟩
          have ST4 := Aside0.mk (STG.out.step hd4.below)
          have HL1 : Aside0 (last ≤ last) := ⟨by omega⟩
          clear hd4
          go_wp2_with fail
          refine (csame_calls g r now1 last last v3 vr4 h1 S1 w w4' ST4.out.both ST4.out.rel).mono ?_
          rintro e w5 ⟨rfl, hb5⟩
          have ST5 := Aside0.mk (ST4.out.step hb5)
          clear hb5
          go_wp2_with fail
          go_roundg m
          case measure => omega
          case rel => exact ⟨i + 1, now1, last, v3, vr4, h1, S1, HI.out.1, by first | rw [ej] | rfl, ST5, ⟨by have := HLA.out; have := HL1.out; omega, by have := HLA.out; have := HL1.out; omega⟩⟩
        · -- Jump
          go_wp2_with fail
          refine (jump_calls g now last v h wr ST.out.both.a.at_ (by have := ST.out.rel.len; omega)).mono ?_
          rintro e w3 hp3
          obtain ⟨ids, now1, h1, S1, u1, rfl, hi1, ⟨v3, b3⟩, hrel, htm, hil2, hpost⟩ := jump_both ST.out hp3
          have HB3 := Aside0.mk b3
          have HREL := Aside0.mk hrel
          have HTM := Aside0.mk htm
          have HIL := Aside0.mk hil2
          have HPOST := Aside0.mk hpost
          have HI1 := Aside0.mk hi1
          clear hp3 b3 hrel htm hil2 hpost hi1
          go_wp2_with fail
          refine (rjump_calls r now vr S last w3 HB3.out.b (by have := ST.out.rel.length; have := ST.out.rel.len; omega)).mono ?_
          rintro e w4 hp4
          obtain ⟨u2, rfl, hi2, hm4⟩ := HPOST.out _ _ _ _ hp4
          obtain ⟨vr4, b4⟩ := HB3.out.moveR hm4
          have HI1b : Aside0 (IR w4 wr.heap.size u1 ids) := ⟨by obtain ⟨_, _, hh, _⟩ := hm4; exact HI1.out.keepR HB3.out.b hh⟩
          have HI2 := Aside0.mk hi2
          have STG : Aside0 (State w w4 g r now1 last v3 vr4 h1 S1) := ⟨⟨b4, HREL.out, HTM.out⟩⟩
          clear hp4 hi2 hm4 b4
          obtain ⟨A1, c1, hu1⟩ := HI1b.out.slice
          subst hu1
          obtain ⟨A2, c2, hu2⟩ := HI2.out.slice
          subst hu2
          go_wp2_with fail
          refine (flumelaw16_ids.calls (ids.length + 1) A1 c1 _ A2 c2 _ true w4 (Kd.R_reads' HI1b.out).2.2 (Kd.R_reads' HI1b.out).2.1 (Kd.R_reads' HI2.out).2.2 (Kd.R_reads' HI2.out).2.1 (ids_true _ (by have := HIL.out; omega))).mono ?_
          rintro e w4' ⟨rfl, hd4⟩
          have ST4 := Aside0.mk (STG.out.step hd4.below)
          have HL1 : Aside0 (last ≤ last) := ⟨by omega⟩
          clear hd4
          go_wp2_with fail
          refine (csame_calls g r now1 last last v3 vr4 h1 S1 w w4' ST4.out.both ST4.out.rel).mono ?_
          rintro e w5 ⟨rfl, hb5⟩
          have ST5 := Aside0.mk (ST4.out.step hb5)
          clear hb5
          go_wp2_with fail
          go_roundg m
          case measure => omega
          case rel => exact ⟨i + 1, now1, last, v3, vr4, h1, S1, HI.out.1, by first | rw [ej] | rfl, ST5, ⟨by have := HLA.out; have := HL1.out; omega, by have := HLA.out; have := HL1.out; omega⟩⟩
        · have f1 : (K == 1) = false := by simpa using k1
          have f2 : (K == 2) = false := by simpa using k2
          have f3 : (K == 3) = false := by simpa using k3
          have f4 : (K == 4) = false := by simpa using k4
          have f5 : (K == 5) = false := by simpa using k5
          clear k1 k2 k3 k4 k5
          go_wp2_with fail
          refine (csame_calls g r now last last v vr h S w wr ST.out.both ST.out.rel).mono ?_
          rintro e w5 ⟨rfl, hb5⟩
          have ST5 := Aside0.mk (ST.out.step hb5)
          clear hb5
          go_wp2_with fail
          go_roundg m
          case measure => omega
          case rel => exact ⟨i + 1, now, last, v, vr, h, S, HI.out.1, by first | rw [ej] | rfl, ST5, ⟨by have := HLA.out; omega, by have := HLA.out; omega⟩⟩
  · rw [NewPost, if_neg hok] at hp1
    obtain ⟨rfl, hb1⟩ := hp1
    have HB1 := Aside0.mk (HB0.out.trans (hb1.mono HB0.out.size))
    have HOK := Aside0.mk hok
    clear hb1 hok
    go_wp2_with fail
    refine (rnew_calls start w1).mono ?_
    rintro e w2 hp2
    rw [NewRPost, if_neg HOK.out] at hp2
    obtain ⟨rfl, hb2⟩ := hp2
    have HB2 := Aside0.mk (HB1.out.trans (hb2.mono HB1.out.size))
    clear hb2
    go_wp2_with fail
    go_ret
    exact ⟨rfl, HB2.out⟩
end Go.Proofs.Ytnniljcmjcjleaa
