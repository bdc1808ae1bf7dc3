/- The law ClockRuns, walked: two clocks alike, one let go in two steps, the other in one. -/
import Derived.Test.YtnniljcmjcjleaaTwo
namespace Go.Proofs.Ytnniljcmjcjleaa
open Go.RowKit Go.Proofs.Ytnniljcmjcjleaa.QA Go.Proofs.YtnniljcmjcjleaaW.PrintWords Go.Proofs.YtnniljcmjcjleaaW.PrintLast Go.Proofs.YtnniljcmjcjleaaW.PrintMore
attribute [local go_sem] fl_store fl_bits fl_frombits fl_usigned
set_option linter.unusedVariables false
set_option linter.unusedSimpArgs false

/-- An event whose guard says yes. -/
theorem event_wanted {P : Program} {ops : Array Oper} {rest : List Oper} {o : Oper} {a : Act} {Q : Exit → Act → World → Prop} {W w1 : World} {v : Value} (hw : Region.wanted o (yielded ops a.tmps) = true)
    (hrun : (execOp a.eval o).run P W = .ok (.value v) w1) (h : wpList P ops Q rest (a.put o.dst v) w1) : wpList P ops Q (o :: rest) a W :=
  BigFrame.wpList_want hw fun K hK => by
    unfold Oper.wp
    rw [hrun]
    exact hK _ _ h
theorem ok0 : okStart 0 = true := by decide +kernel
theorem p0 : plainF 0 = (0, true) := by decide +kernel
theorem plain_add0 (d : Nat) (hd : d < 18446744073709551616) (h : (plainF d).2 = true) : FloatKind.f64.format.add 0 (plainF d).1 = some (addF 0 (plainF d).1) ∧ addF 0 (plainF d).1 = (plainF d).1 ∧ (plainF d).1 ≤ 9218868437227405312 := by
  have hn : Flo.norm d ≤ 9218868437227405312 := by
    rw [Flo.plain_ok hd] at h
    exact of_decide_eq_true h
  have ha : addF 0 (plainF d).1 = (plainF d).1 := by
    rw [addF, Flo.plain_good hn, Flo.add_zero _ hn]
    rfl
  refine ⟨?_, ha, by rw [Flo.plain_good hn]; exact hn⟩
  rw [ha, Flo.plain_good hn, Flo.add_zero _ hn]
theorem runs_facts (X Y : Nat) (hX : X < 18446744073709551616) (hY : Y < 18446744073709551616)
    (h1 : (FloatKind.f64.format.order X 0 == some .gt || FloatKind.f64.format.order X 0 == some .eq) = true)
    (h2 : (FloatKind.f64.format.order Y X == some .gt || FloatKind.f64.format.order Y X == some .eq) = true) (h3 : infP Y = false) :
    plainF X = (Flo.norm X, true) ∧ plainF Y = (Flo.norm Y, true) ∧ Flo.norm X ≤ Flo.norm Y ∧ Flo.norm Y < 9218868437227405312 ∧ okGo 0 X = true ∧ okGo (Flo.norm X) Y = true ∧ okGo 0 Y = true ∧ (FloatKind.f64.format.order (Flo.norm Y) Y == some .eq) = true := by
  have g1 : FloatKind.f64.format.order X 0 = some .gt ∨ FloatKind.f64.format.order X 0 = some .eq := by
    rcases Bool.or_eq_true_iff.1 h1 with h | h
    · exact .inl (beq_iff_eq.1 h)
    · exact .inr (beq_iff_eq.1 h)
  have g2 : FloatKind.f64.format.order Y X = some .gt ∨ FloatKind.f64.format.order Y X = some .eq := by
    rcases Bool.or_eq_true_iff.1 h2 with h | h
    · exact .inl (beq_iff_eq.1 h)
    · exact .inr (beq_iff_eq.1 h)
  have nX := Flo.good_of hX (by decide) g1
  have nY := Flo.good_of hY nX g2
  have hle : Flo.norm X ≤ Flo.norm Y := by
    rw [Flo.order_good nY nX] at g2
    rcases Nat.lt_or_ge (Flo.norm Y) (Flo.norm X) with h | h
    · rw [Nat.compare_eq_lt.2 h] at g2
      rcases g2 with g | g <;> cases g
    · exact h
  have hinf : Flo.norm Y < 9218868437227405312 := by
    rw [Flo.infP_good nY] at h3
    have := of_decide_eq_false h3
    omega
  refine ⟨Flo.plain_good nX, Flo.plain_good nY, hle, hinf, ?_, ?_, ?_, ?_⟩
  · rw [Flo.okGo_good (by decide) hX]
    simp; omega
  · rw [Flo.okGo_good (by omega) hY]
    simp; omega
  · rw [Flo.okGo_good (by decide) hY]
    simp; omega
  · have hn : Flo.norm (Flo.norm Y) = Flo.norm Y := Flo.norm_le nY
    rw [Flo.order_good (by rw [hn]; exact nY) nY, hn, Nat.compare_eq_eq.2 rfl]
    rfl
/-- Go in two steps and in one. -/
theorem go_two (x y : Nat) (l : List Tm) (h : Heap l) (hx : x ≤ y) (hy : y ≤ 9218868437227405312) :
    (goL x l.length l).1 ++ (goL y (goL x l.length l).2.length (goL x l.length l).2).1 = (goL y l.length l).1 ∧
    (goL y (goL x l.length l).2.length (goL x l.length l).2).2.length = (goL y l.length l).2.length ∧ Heap (goL x l.length l).2 ∧ Heap (goL y (goL x l.length l).2.length (goL x l.length l).2).2 ∧ Heap (goL y l.length l).2 ∧
    (goL x l.length l).1.length ≤ l.length ∧ (goL x l.length l).2.length ≤ l.length ∧ (goL y (goL x l.length l).2.length (goL x l.length l).2).1.length ≤ l.length ∧ (goL y (goL x l.length l).2.length (goL x l.length l).2).2.length ≤ l.length ∧ (goL y l.length l).1.length ≤ l.length := by
  obtain ⟨a1, a2, a3⟩ := goL_sorted x l.length l h rfl
  obtain ⟨b1, b2, b3⟩ := goL_sorted y (goL x l.length l).2.length (goL x l.length l).2 a2 rfl
  obtain ⟨c1, c2, c3⟩ := goL_sorted y l.length l h rfl
  have hsm : Small (sortT l) := h.small.perm (sortT_perm h.small)
  obtain ⟨d1, d2⟩ := goS_two x y (sortT l) (fun t ht hle => by
    have htl := hsm t ht
    have htl2 : t.2 ≤ 9218868437227405312 := htl
    have n1 : Flo.norm t.2 = t.2 := Flo.norm_le htl2
    have n2 : Flo.norm x = x := Flo.norm_le (by omega)
    have n3 : Flo.norm y = y := Flo.norm_le hy
    rw [Flo.leF_good (by omega) (by omega), n1, n2] at hle
    rw [Flo.leF_good (by omega) (by omega), n1, n3]
    have := of_decide_eq_true hle
    exact decide_eq_true (by omega))
  rw [a3] at b1 b3
  have l1 := sortT_length l
  have l2 := sortT_length (goL x l.length l).2
  have l3 := sortT_length (goL y (goL x l.length l).2.length (goL x l.length l).2).2
  have l4 := sortT_length (goL y l.length l).2
  have m1 := goS_length x (sortT l)
  have m2 := goR_length x (sortT l)
  have m3 := goS_length y (goR x (sortT l))
  have m4 := goR_length y (goR x (sortT l))
  have m5 := goS_length y (sortT l)
  rw [a3] at l2
  rw [b3] at l3
  rw [c3] at l4
  refine ⟨?_, ?_, a2, b2, c2, ?_, ?_, ?_, ?_, ?_⟩
  · rw [a1, b1, c1, ← d1, List.map_append]
  · rw [← l3, ← l4, d2]
  · rw [a1, List.length_map]; omega
  · omega
  · rw [b1, List.length_map]; omega
  · omega
  · rw [c1, List.length_map]; omega
theorem no_own (k : Nat) : ¬ own (.slice none 0 0) k := fun h => by cases h
set_option maxHeartbeats 16000000 in
set_option maxRecDepth 100000 in
theorem runs_calls (A : Option Addr) (n c : Nat) (ds : List Int) (X Y : Nat) (w : World) (hds : Kd.C (Kd.int .u64) w A n ds) (hu : ∀ d ∈ ds, 0 ≤ d ∧ d < 18446744073709551616) (hX : X < 18446744073709551616) (hY : Y < 18446744073709551616) :
    Calls Try.prog 3 #[.slice A n c, .int .u64 (X : Int), .int .u64 (Y : Int)] w fun e w' => e = .returned (.bool true) ∧ Below w.heap.size w w' := by
  have HDS := Aside0.mk hds
  have HU := Aside0.mk hu
  have HXY := Aside0.mk (And.intro hX hY)
  clear hds hu hX hY
  go_enter Try.func3, Try.ntmps3
  go_wp2_with fail
  refine (begun_calls w).mono ?_
  rintro e w0 ⟨rfl, hb0⟩
  have HB0 := Aside0.mk hb0
  clear hb0
  go_wp2_with fail
  refine (new_calls 0 w0).mono ?_
  rintro e w1 hp1
  rw [NewPost, if_pos ok0, p0] at hp1
  obtain ⟨ga, rfl, hca, hga, hb1⟩ := hp1
  have MA : Aside0 (Mine w w1 ga true 0 0 (.slice none 0 0) []) := ⟨⟨hca, HB0.out.trans (hb1.mono HB0.out.size), by have := HB0.out.size; omega, fun k hk => absurd hk (no_own k)⟩⟩
  clear hca hga hb1
  go_wp2_with fail
  refine (new_calls 0 w1).mono ?_
  rintro e w2 hp2
  rw [NewPost, if_pos ok0, p0] at hp2
  obtain ⟨gb, rfl, hcb, hgb, hb2⟩ := hp2
  have TT : Aside0 (Two w w2 ga gb 0 0 0 0 (.slice none 0 0) (.slice none 0 0) [] []) :=
    ⟨⟨MA.out.step hb2, ⟨hcb, MA.out.below.trans (hb2.mono MA.out.below.size), by have := MA.out.below.size; omega, fun k hk => absurd hk (no_own k)⟩, by have := blk_lt MA.out.at_.blk; omega, fun k hk => absurd hk (no_own k)⟩⟩
  clear hcb hgb hb2 MA
  go_wp2_with fail
  go_loopg [11] (min n 200) (fun m v11 wr => ∃ (i : Nat) (la : Int) (va vb : Value) (l : List Tm), m + i = min n 200 ∧ v11 = .int .i64 i ∧ Aside0 (Two w wr ga gb 0 0 la la va vb l l) ∧ Aside0 (0 ≤ la ∧ la ≤ i) ∧ Aside0 (l.length ≤ i ∧ Heap l))
  case atStart => exact ⟨0, 0, _, _, [], rfl, rfl, TT, ⟨by omega, by omega⟩, ⟨Nat.zero_le _, Heap.nil⟩⟩
  case round =>
    clear TT
    obtain ⟨i, la, va, vb, l, hi, rfl, TT, HLA, HL⟩ := hrel
    cases gk with
    | succ g =>
      have hin : i < n := by omega
      have hi2 : i < 200 := by omega
      have d1 : decide ((i : Int) < (n : Int)) = true := by simp; omega
      have d2 : decide (i < n) = true := by simp; omega
      have d3 : decide ((i : Int) < 200) = true := by simp; omega
      have d4 : decide (i < 200) = true := by simp; omega
      have ej : wrap64 ((i : Int) + 1) = ((i + 1 : Nat) : Int) := w64 _ (by omega)
      have hdw : Kd.C (Kd.int .u64) wr A n ds := Kd.C_below HDS.out TT.out.a.below
      obtain ⟨ad, hA, hcell⟩ := Kd.at_int hdw (i : Int) (by omega) (by omega)
      cases hA
      have hmem : rd ds (i : Int) ∈ ds := by
        have hl : i < ds.length := by have := HDS.out.1; omega
        have : rd ds (i : Int) = ds[i] := by
          show ds.getD (Int.toNat (i : Int)) 0 = _
          rw [Int.toNat_natCast, List.getD_eq_getElem?_getD, List.getElem?_eq_getElem hl]
          rfl
        rw [this]
        exact List.getElem_mem hl
      obtain ⟨d, hd⟩ := Int.eq_ofNat_of_zero_le (HU.out _ hmem).1
      have hd2 : d < 18446744073709551616 := by have := (HU.out _ hmem).2; omega
      rw [hd, Int.toNat_natCast] at hcell
      have HI : Aside0 (g + (i + 1) = min n 200 ∧ i < 200) := ⟨by omega, hi2⟩
      have HD2 := Aside0.mk hd2
      have HDW := Aside0.mk hdw
      clear hd hd2 hmem hdw hi hi2
      go_wp2_with fail
      refine (after_calls ga 0 la va l _ wr TT.out.a.at_ (by have := HLA.out; have := HI.out.2; omega) (fun h => (plain_add0 d HD2.out h).1)).mono ?_
      rintro e w3 hp3
      by_cases hok : (plainF d).2 = true
      · rw [AfterPost, if_neg (by rw [hok]; simp), if_neg (by have := HL.out.1; have := HI.out.2; omega)] at hp3
        obtain ⟨rfl, hm3⟩ := hp3
        obtain ⟨va3, t3⟩ := TT.out.moveA hm3
        have T3 := Aside0.mk t3
        have hcell3 : w3.cell? (ad.add i) = some (.int .u64 (d : Int)) := by
          have hdw3 : Kd.C (Kd.int .u64) w3 (some ad) n ds := Kd.C_below HDS.out t3.a.below
          obtain ⟨ad', hA', hcell'⟩ := Kd.at_int hdw3 (i : Int) (by omega) (by simpa using of_decide_eq_true d1)
          cases hA'
          obtain ⟨ad2, hA2, hcell2⟩ := Kd.at_int HDW.out (i : Int) (by omega) (by simpa using of_decide_eq_true d1)
          cases hA2
          rw [Int.toNat_natCast] at hcell' hcell2
          have : some (Value.int .u64 (rd ds (i : Int))) = some (.int .u64 (d : Int)) := hcell2.symm.trans hcell
          rw [hcell', this]
        have HOK := Aside0.mk hok
        clear hm3 t3 hok hcell
        go_wp2_with fail
        refine (after_calls gb 0 la vb l _ w3 T3.out.b.at_ (by have := HLA.out; have := HI.out.2; omega) (fun h => (plain_add0 d HD2.out h).1)).mono ?_
        rintro e w4 hp4
        rw [AfterPost, if_neg (by rw [HOK.out]; simp), if_neg (by have := HL.out.1; have := HI.out.2; omega)] at hp4
        obtain ⟨rfl, hm4⟩ := hp4
        obtain ⟨vb4, t4⟩ := T3.out.moveB hm4
        have T4 := Aside0.mk t4
        clear hm4 t4 hcell3
        go_wp2_with fail
        go_roundg g
        case measure => omega
        case rel =>
          have ha := plain_add0 d HD2.out HOK.out
          obtain ⟨ph, pp⟩ := push_heap (x := (la + 1, addF 0 (plainF d).1)) HL.out.2 (by rw [ha.2.1]; exact ha.2.2)
          exact ⟨i + 1, la + 1, _, _, _, HI.out.1, by rw [ej], T4, ⟨by have := HLA.out; omega, by have := HLA.out; omega⟩, ⟨by rw [pp.length_eq, List.length_cons]; have := HL.out.1; omega, ph⟩⟩
      · have hok2 : (plainF d).2 = false := by simpa using hok
        rw [AfterPost, if_pos hok2] at hp3
        obtain ⟨rfl, hm3⟩ := hp3
        obtain ⟨va3, t3⟩ := TT.out.moveA hm3
        have T3 := Aside0.mk t3
        have hcell3 : w3.cell? (ad.add i) = some (.int .u64 (d : Int)) := by
          have hdw3 : Kd.C (Kd.int .u64) w3 (some ad) n ds := Kd.C_below HDS.out t3.a.below
          obtain ⟨ad', hA', hcell'⟩ := Kd.at_int hdw3 (i : Int) (by omega) (by simpa using of_decide_eq_true d1)
          cases hA'
          obtain ⟨ad2, hA2, hcell2⟩ := Kd.at_int HDW.out (i : Int) (by omega) (by simpa using of_decide_eq_true d1)
          cases hA2
          rw [Int.toNat_natCast] at hcell' hcell2
          have : some (Value.int .u64 (rd ds (i : Int))) = some (.int .u64 (d : Int)) := hcell2.symm.trans hcell
          rw [hcell', this]
        have HOK := Aside0.mk hok2
        clear hm3 t3 hok hok2 hcell
        go_wp2_with fail
        refine (after_calls gb 0 la vb l _ w3 T3.out.b.at_ (by have := HLA.out; have := HI.out.2; omega) (fun h => (plain_add0 d HD2.out h).1)).mono ?_
        rintro e w4 hp4
        rw [AfterPost, if_pos HOK.out] at hp4
        obtain ⟨rfl, hm4⟩ := hp4
        obtain ⟨vb4, t4⟩ := T3.out.moveB hm4
        have T4 := Aside0.mk t4
        clear hm4 t4 hcell3
        go_wp2_with fail
        go_roundg g
        case measure => omega
        case rel => exact ⟨i + 1, la, _, _, _, HI.out.1, by rw [ej], T4, ⟨by have := HLA.out; omega, by have := HLA.out; omega⟩, ⟨by have := HL.out.1; omega, HL.out.2⟩⟩
    | zero =>
      have hwr : Aside0 (Below w.heap.size w wr) := ⟨TT.out.a.below⟩
      have HLN : Aside0 (l.length ≤ 200) := ⟨by have := HL.out.1; omega⟩
      obtain ⟨b1, hb1⟩ : ∃ b, (FloatKind.f64.format.order X 0 == some .gt || FloatKind.f64.format.order X 0 == some .eq) = b := ⟨_, rfl⟩
      obtain ⟨b2, hb2⟩ : ∃ b, (FloatKind.f64.format.order Y X == some .gt || FloatKind.f64.format.order Y X == some .eq) = b := ⟨_, rfl⟩
      have HB1 := Aside0.mk hb1
      have HB2 := Aside0.mk hb2
      by_cases hin : i < n
      case' pos =>
        have d1 : decide ((i : Int) < (n : Int)) = true := by simp; omega
        have d2 : decide (i < n) = true := by simp; omega
        have d3 : decide ((i : Int) < 200) = false := by simp; omega
        have d4 : decide (i < 200) = false := by simp; omega
      case' neg =>
        have d1 : decide ((i : Int) < (n : Int)) = false := by simp; omega
        have d2 : decide (i < n) = false := by simp; omega
      all_goals
        clear hi hin
        cases b1 with
        | false =>
          go_wp2_with fail
          go_ret
          exact ⟨rfl, hwr.out⟩
        | true =>
          cases b2 with
          | false =>
            go_wp2_with fail
            go_ret
            exact ⟨rfl, hwr.out⟩
          | true =>
            go_wp2_with fail
            refine (inf_calls Y wr).mono ?_
            rintro e w3 ⟨rfl, rfl⟩
            obtain ⟨b3, hb3⟩ : ∃ b, infP Y = b := ⟨_, rfl⟩
            rw [hb3]
            have HB3 := Aside0.mk hb3
            clear hb3 hb1 hb2
            cases b3 with
            | true =>
              go_wp2_with fail
              go_ret
              exact ⟨rfl, hwr.out⟩
            | false =>
              have HF := Aside0.mk (runs_facts X Y HXY.out.1 HXY.out.2 HB1.out HB2.out HB3.out)
              have HG := Aside0.mk (go_two (Flo.norm X) (Flo.norm Y) l HL.out.2 HF.out.2.2.1 (Nat.le_of_lt HF.out.2.2.2.1))
              go_wp2_with fail
              refine (gom_calls ga 0 la va l X w3 TT.out.a.at_ (by have := HLN.out; omega)).mono ?_
              rintro e w4 hp4
              rw [GoPost, if_pos HF.out.2.2.2.2.1, HF.out.1] at hp4
              obtain ⟨u1, rfl, hi1, hm4⟩ := hp4
              obtain ⟨va4, t4⟩ := TT.out.moveA hm4
              have T4 := Aside0.mk t4
              have HI1 := Aside0.mk hi1
              have HS4 : Aside0 (w3.heap.size ≤ w4.heap.size) := ⟨by obtain ⟨_, _, hh, _⟩ := hm4; exact hh.size⟩
              clear hi1 hm4 t4
              go_wp2_with fail
              refine (gom_calls ga (Flo.norm X) la va4 (goL (Flo.norm X) l.length l).2 Y w4 T4.out.a.at_ (by have := HG.out.2.2.2.2.2.2.1; have := HLN.out; omega)).mono ?_
              rintro e w5 hp5
              rw [GoPost, if_pos HF.out.2.2.2.2.2.1, HF.out.2.1] at hp5
              obtain ⟨u2, rfl, hi2, hm5⟩ := hp5
              obtain ⟨va5, t5⟩ := T4.out.moveA hm5
              have T5 := Aside0.mk t5
              have HI2 := Aside0.mk hi2
              have HI1b : Aside0 (IR w5 w3.heap.size u1 (goL (Flo.norm X) l.length l).1) := ⟨by obtain ⟨_, _, hh, _⟩ := hm5; exact HI1.out.keep T4.out.a.at_ hh⟩
              have HS5 : Aside0 (w4.heap.size ≤ w5.heap.size) := ⟨by obtain ⟨_, _, hh, _⟩ := hm5; exact hh.size⟩
              clear hi2 hm5 t5
              go_wp2_with fail
              refine (gom_calls gb 0 la vb l Y w5 T5.out.b.at_ (by have := HLN.out; omega)).mono ?_
              rintro e w6 hp6
              rw [GoPost, if_pos HF.out.2.2.2.2.2.2.1, HF.out.2.1] at hp6
              obtain ⟨u3, rfl, hi3, hm6⟩ := hp6
              obtain ⟨vb6, t6⟩ := T5.out.moveB hm6
              have T6 := Aside0.mk t6
              have HI3 := Aside0.mk hi3
              have HI1c : Aside0 (IR w6 w3.heap.size u1 (goL (Flo.norm X) l.length l).1) := ⟨by obtain ⟨_, _, hh, _⟩ := hm6; exact HI1b.out.keep T5.out.b.at_ hh⟩
              have HI2b : Aside0 (IR w6 w4.heap.size u2 (goL (Flo.norm Y) (goL (Flo.norm X) l.length l).2.length (goL (Flo.norm X) l.length l).2).1) := ⟨by obtain ⟨_, _, hh, _⟩ := hm6; exact HI2.out.keep T5.out.b.at_ hh⟩
              have HSZ : Aside0 (w.heap.size ≤ w3.heap.size ∧ w3.heap.size ≤ w5.heap.size ∧ w5.heap.size ≤ w6.heap.size) := ⟨by
                obtain ⟨_, _, hh, _⟩ := hm6
                have h1 := HS4.out
                have h2 := HS5.out
                exact ⟨TT.out.a.below.size, by omega, hh.size⟩⟩
              clear hi3 hm6 t6
              obtain ⟨A2, c2, rfl⟩ := HI2b.out.slice
              obtain ⟨v7, w7, hrun, hi7, hg7⟩ := ints_append w3.heap.size w4.heap.size u1 A2 _ c2 _ _ w6 HI1c.out HI2b.out (by have := HSZ.out; omega) (by have := HG.out.2.2.2.2.2.1; have := HG.out.2.2.2.2.2.2.2.1; have := HLN.out; omega)
              have T7 := Aside0.mk (T6.out.beside HI1c.out hg7 HSZ.out.1)
              have hi3b : IR w7 w5.heap.size u3 (goL (Flo.norm Y) l.length l).1 := Kd.R_mono (Kd.R_grown (Kd.R_tight (by rfl) HI3.out) hg7 (fun k hk he => by
                have h1 := Kd.R_base HI3.out k hk.symm
                have h2 := Kd.R_lt HI1b.out k he.symm
                omega)) (fun _ _ => trivial)
              rw [HG.out.1] at hi7
              obtain ⟨A7, c7, rfl⟩ := hi7.slice
              obtain ⟨A3, c3, rfl⟩ := hi3b.slice
              have HI7 := Aside0.mk hi7
              have HI3b := Aside0.mk hi3b
              have HRUN := Aside0.mk hrun
              have hL3 : (goL (Flo.norm Y) l.length l).1.length ≤ 200 := by have := HG.out.2.2.2.2.2.2.2.2.2; have := HLN.out; omega
              have HL3 := Aside0.mk hL3
              clear hi7 hi3b hrun hg7 hL3
              go_wp2_with (first | ((with_reducible refine gate_builtin (b := .append) (xs := #[.tmp 101, .tmp 102]) rfl ?_); at_builtin; refine event_wanted (v := .slice A7 (goL (Flo.norm Y) l.length l).1.length c7) (w1 := w7) ?hw ?hr ?_; (case hw => first | rfl | (go_simp; done) | (simp [Region.wanted, yielded]; done)); (case hr => unfold execOp; simp only [resolve, invoke, builtin, Sem.run_bind, Sem.run_pure, Result.andThen_ok, List.map_toArray, List.map_cons, List.map_nil]; refine Eq.trans (congrArg (fun r => Result.andThen r _) HRUN.out) rfl)))
              refine (flumelaw16_ids.calls ((goL (Flo.norm Y) l.length l).1.length + 1) A7 c7 _ A3 c3 _ true w7 (Kd.R_reads' HI7.out).2.2 (Kd.R_reads' HI7.out).2.1 (Kd.R_reads' HI3b.out).2.2 (Kd.R_reads' HI3b.out).2.1 (ids_true _ (by have := HL3.out; omega))).mono ?_
              rintro e w8 ⟨rfl, hd8⟩
              have T8 := Aside0.mk (T7.out.step hd8.below)
              clear hd8
              go_wp2_with fail
              refine (now_calls ga true (Flo.norm Y) la va5 _ w8 T8.out.a.at_).mono ?_
              rintro e w9 ⟨rfl, rfl⟩
              have e33 := HF.out.2.2.2.2.2.2.2
              go_wp2_with fail
              refine (timers_calls ga (Flo.norm Y) la va5 _ w9 T8.out.a.at_ HG.out.2.2.2.1.small (by have := HG.out.2.2.2.2.2.2.2.2.1; have := HLN.out; omega)).mono ?_
              rintro e w10 ⟨u8, rfl, ht, hb10⟩
              obtain ⟨A8, c8, rfl⟩ := ht.slice
              have T10 := Aside0.mk (T8.out.step hb10)
              rw [sortT_length, HG.out.2.1]
              clear ht hb10
              go_wp2_with fail
              refine (timers_calls gb (Flo.norm Y) la vb6 _ w10 T10.out.b.at_ HG.out.2.2.2.2.1.small (by have := HG.out.2.2.2.2.2.2.2.2.1; have := HG.out.2.1; have := HLN.out; omega)).mono ?_
              rintro e w11 ⟨u9, rfl, ht, hb11⟩
              obtain ⟨A9, c9, rfl⟩ := ht.slice
              have T11 := Aside0.mk (T10.out.step hb11)
              rw [sortT_length]
              clear ht hb11
              go_wp2_with fail
              go_ret
              exact ⟨by first | rfl | simp, T11.out.a.below⟩
end Go.Proofs.Ytnniljcmjcjleaa
