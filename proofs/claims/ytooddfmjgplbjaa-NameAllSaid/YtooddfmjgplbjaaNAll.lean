/- NameAll walked. -/
import Derived.Test.YtooddfmjgplbjaaNOrdRef
import Derived.StillTailTactics
import Derived.BigQuiet
namespace Go.Proofs.Ytooddfmjgplbjaa
open Go.RowKit Go.Proofs.Ytooddfmjgplbjaa.QA Go.Proofs.Ytooddfmjgplbjaa.QC Go.Proofs.YtooddfmjgplbjaaW.PrintWords Go.Proofs.YtooddfmjgplbjaaW.PrintLast Go.Proofs.YtooddfmjgplbjaaW.PrintMore
attribute [local go_sem] max2_int min2_int fl_store
set_option linter.unusedVariables false
set_option linter.unusedSimpArgs false

theorem cut_room_of {P : Program} (t e : TypeId) (kh : IntKind) {i : TypeInfo} (ht : P.underlying t = some (.slice e)) (hi : P.info? e = some i) (A : Option Addr) (n c j : Nat) (hj : j ≤ c) :
    ∀ W : World, (Instr.slice t (.slice A n c) none (some (.int kh (j : Int))) none).run P W = .ok (.slice A j c) W := by
  intro W
  have hel : P.elem t = e := by simp [Program.elem, ht]
  have hu : P.underlying t = some (.slice (P.elem t)) := by rw [hel]; exact ht
  have ha : (A.map fun x => x.add 0) = A := by cases A <;> simp [Addr.add]
  rw [run_slice_h W t A n c hu kh (j : Int) (by omega) (by omega), hel]
  simp [sizeOf, typeInfo, hi, sliced, Result.andThen, ha]
theorem cut_room (A : Option Addr) (n c j : Nat) (hj : j ≤ c) : ∀ W : World, (Instr.slice 22 (.slice A n c) none (some (.int .i64 (j : Int))) none).run Try.prog W = .ok (.slice A j c) W :=
  cut_room_of 22 9 .i64 under22 (i := (Try.prog.info? 9).get (by kernel_rfl)) (by kernel_rfl) A n c j hj

def MARK : ByteArray := ⟨#[109, 97, 114, 107]⟩

theorem h_form {w W : World} {v : Value} {ss : List ByteArray} (hR : Kd.R Kd.string 9 W w.heap.size (fun _ => True) v (ss ++ [MARK])) :
    ∃ g cap, v = .slice (some ⟨g, 0, none⟩) (ss.length + 1) cap ∧ ss.length + 1 ≤ cap ∧ w.heap.size ≤ g ∧ g < W.heap.size ∧ Kd.R Kd.string 9 W w.heap.size (fun _ => True) (.slice (some ⟨g, 0, none⟩) (ss.length + 1) cap) (ss ++ [MARK]) := by
  have hlen : (ss ++ [MARK]).length = ss.length + 1 := by simp
  obtain ⟨g, cap, rfl, h1, h2, _⟩ := Kd.R_form hR (by rw [hlen]; omega)
  rw [hlen] at hR ⊢
  exact ⟨g, cap, rfl, (Kd.R_reads' hR).2.1, h1, h2, hR⟩

theorem keep_draw {w W W2 : World} {a : Addr} {v : Value} (h : W.cell? a = some v ∧ Below w.heap.size w W) (hd : Drawn0 W W2) : W2.cell? a = some v ∧ Below w.heap.size w W2 :=
  ⟨pw_cell_below hd.below h.1, h.2.trans (hd.below.mono h.2.size)⟩
theorem keep_drew1 {w W : World} {a : Addr} {v : Value} (h : W.cell? a = some v ∧ Below w.heap.size w W) : W.drew.cell? a = some v ∧ Below w.heap.size w W.drew :=
  ⟨h.1, h.2.drew⟩
theorem keep_make {w W W2 : World} {a : Addr} {v : Value} (h : W.cell? a = some v ∧ Below w.heap.size w W) (hd : Below W.heap.size W W2) : W2.cell? a = some v ∧ Below w.heap.size w W2 :=
  ⟨pw_cell_below hd h.1, h.2.trans (hd.mono h.2.size)⟩

set_option maxHeartbeats 8000000 in
set_option maxRecDepth 100000 in
theorem nameall_calls (w : World) (A : Option Addr) (c : Nat) (ss : List ByteArray) (A1 : Option Addr) (c1 : Nat) (ns : List Int)
    (hr : Kd.string.C w A ss.length ss) (hc : ss.length ≤ c) (hr1 : Kd.C (Kd.int .i64) w A1 ns.length ns) (hns : ∀ x ∈ ns, x < 9223372036854775808) :
    Calls Try.prog 3 #[.slice A ss.length c, .slice A1 ns.length c1] w fun e w' => e = .returned (.bool true) ∧ Below w.heap.size w w' := by
  have HR := Aside0.mk hr
  have HR1 := Aside0.mk hr1
  have HC := Aside0.mk hc
  have HNS := Aside0.mk hns
  have HMX := Aside0.mk hr.2.1
  have HMX1 := Aside0.mk hr1.2.1
  obtain ⟨N, hN⟩ : ∃ N, N = ss.length := ⟨_, rfl⟩
  rw [← hN]
  have HN := Aside0.mk hN
  clear hr hr1 hc hns hN
  go_enter Try.func3, Try.ntmps3
  go_wp2_with fail
  refine (begun_calls w).mono ?_
  rintro e w1 ⟨rfl, hb1⟩
  have HB1 := Aside0.mk hb1
  clear hb1
  go_wp2_with fail
  go_loopg [5] N (fun m v5 wr => ∃ j : Nat, m + j = N ∧ v5 = .int .i64 j ∧ Aside0 (Below w.heap.size w wr))
  case atStart => exact ⟨0, rfl, rfl, HB1⟩
  case round =>
    clear HB1
    obtain ⟨j, hj, rfl, HB⟩ := hrel
    cases gk with
    | zero =>
      have hlt : decide ((j : Int) < (N : Int)) = false := by simp; omega
      have hlt2 : decide (j < N) = false := by simp; omega
      obtain rfl : j = N := by omega
      clear hj
      go_wp2_with fail
      obtain ⟨M, hM⟩ : ∃ M, M = ns.length := ⟨_, rfl⟩
      rw [← hM]
      have HM := Aside0.mk hM
      clear hM
      go_loopg [10] M (fun m v10 wr => ∃ i : Nat, m + i = M ∧ v10 = .int .i64 i ∧ Aside0 (Below w.heap.size w wr))
      case atStart => exact ⟨0, rfl, rfl, HB⟩
      case round =>
        clear HB
        obtain ⟨i, hi, rfl, HB⟩ := hrel
        cases gk with
        | zero =>
          have hlt : decide ((i : Int) < (M : Int)) = false := by simp; omega
          have hlt2 : decide (i < M) = false := by simp; omega
          obtain rfl : i = M := by omega
          clear hi
          by_cases h200 : 200 < j
          · have hd : decide ((200 : Int) < (j : Int)) = true := by simp; omega
            clear h200
            go_wp2_with fail
            go_ret
            exact ⟨rfl, HB.out⟩
          have hd : decide ((200 : Int) < (j : Int)) = false := by simp; omega
          have H200 : Aside0 (j ≤ 200) := ⟨by omega⟩
          have HRr := Aside0.mk (Kd.C_below HR.out HB.out)
          clear h200 hlt hlt2
          go_wp2_with (first | ((with_reducible refine gate_builtin (b := .append) (xs := #[.const (.slice none 0 0), .tmp 140]) rfl ?_); at_builtin; refine print_append_row_of (w0 := wr) Value.string ByteArray.empty wr.heap.size rfl (.const (.slice none 0 0)) (.tmp 140) 22 9 (.string ByteArray.empty) 16 rfl under22 info9' rfl (by decide) (fun _ => rfl) (.slice none 0 0) [] ss A j c rfl rfl (Kd.own_of_R (Kd.R_nil Kd.string 9 wr wr.heap.size (fun _ => True))) (by rw [HN.out]; exact Kd.reads_of_C HRr.out) (Below.refl _ _) (Nat.le_refl _) (by simp only [List.length_nil]; have := H200.out; omega) ?_
                                intro v1 x1 ho hb hg hat
                                have HX1 : Aside0 (Kd.R Kd.string 9 x1 wr.heap.size (fun _ => True) v1 ss) := ⟨Kd.R_of_own ho (fun _ _ => trivial)⟩
                                have HX2 := Aside0.mk hb
                                clear ho hb hg hat)
                             | ((with_reducible refine gate_builtin (b := .append) (xs := #[.tmp 141, .tmp 142]) rfl ?_); at_builtin; refine Kd.R_append Kd.string (w0 := wr) wr.heap.size rfl (.tmp 141) (.tmp 142) 22 9 (.string ByteArray.empty) 16 rfl under22 info9' rfl (by decide) (by omega) v1 ss MARK [.string MARK] (fun _ => True) (fun _ => False) rfl rfl rfl (fun _ hk => hk.elim) (fun _ _ => trivial) HX1.out HX2.out (below_size HX2.out) (by have := H200.out; have := HN.out; omega) ?_
                                intro v2 x2 ho hb hg hat
                                obtain ⟨g, cap, rfl, hcap, hg1, hg2, hR⟩ := h_form ho
                                rw [← HN.out] at hcap hR
                                have hcut := cut_room (some ⟨g, 0, none⟩) (ss.length + 1) cap j (by omega)
                                have HH := Aside0.mk hR
                                have HCAP := Aside0.mk hcap
                                have HG1 := Aside0.mk hg1
                                have HG2 := Aside0.mk hg2
                                have HX3 := Aside0.mk hb
                                clear ho hb hg hat hcap hR hg1 hg2 HX1 HX2))
          obtain ⟨want, hwant⟩ : ∃ want, (orderF ss).map ofL = want := ⟨_, rfl⟩
          have hCh : Kd.C Kd.string x2 (some ⟨g, 0, none⟩) ss.length ss := by
            have h3 := (Kd.R_reads' HH.out).2.2
            have h4 := Kd.C_take (m := ss.length) h3 (by simp)
            rw [List.take_left] at h4
            exact h4
          have hcall := order_calls x2 (some ⟨g, 0, none⟩) cap ss (by have := HN.out; have := H200.out; omega) hCh
          rw [← HN.out, hwant] at hcall
          have HCH := Aside0.mk hCh
          have HW := Aside0.mk hwant
          have HBX2 := Aside0.mk (HB.out.trans (HX3.out.mono HB.out.size))
          clear hCh
          refine hcall.mono ?_
          rintro e x3 ⟨vl, rfl, hvl, hb3⟩
          have HVL := Aside0.mk hvl
          have HLF : Aside0 (0 < want.length → ∃ gl cap1, vl = .slice (some ⟨gl, 0, none⟩) want.length cap1 ∧ x2.heap.size ≤ gl ∧ gl < x3.heap.size) := ⟨fun hp => by
            obtain ⟨gl, cp, he, h1, h2, _⟩ := Kd.R_form hvl hp
            exact ⟨gl, cp, he, h1, h2⟩⟩
          have HCH3 := Aside0.mk (Kd.C_below HCH.out hb3)
          have HH3 := Aside0.mk (Kd.R_below HH.out hb3)
          have HBX3 := Aside0.mk (HBX2.out.trans (hb3.mono HBX2.out.size))
          have HSX3 := Aside0.mk hb3.size
          clear hvl hb3 hcall hwant HCH HH HX3 HB HRr
          go_wp2_with fail
          have hcall := order_calls x3 (some ⟨g, 0, none⟩) cap ss (by have := HN.out; have := H200.out; omega) HCH3.out
          rw [← HN.out, HW.out] at hcall
          refine hcall.mono ?_
          rintro e x4 ⟨va, rfl, hva, hb4⟩
          have HVA := Aside0.mk hva
          have HVL4 := Aside0.mk (Kd.R_below HVL.out hb4)
          have HCH4 := Aside0.mk (Kd.C_below HCH3.out hb4)
          have HH4 := Aside0.mk (Kd.R_below HH3.out hb4)
          have HBX4 := Aside0.mk (HBX3.out.trans (hb4.mono HBX3.out.size))
          have HSX4 := Aside0.mk hb4.size
          clear hva hb4 hcall HVL HCH3 HH3 HBX3
          go_wp2_with fail
          have hcr := orderref_eq ss (by have := HN.out; have := H200.out; omega)
          rw [HW.out] at hcr
          have hcall := flumeref8_Order.calls 500000 A c ss want x4 (Kd.C_below HR.out HBX4.out) HC.out hcr
          rw [← HN.out] at hcall
          refine hcall.mono ?_
          rintro e x5 ⟨vw, rfl, hvw, hb5⟩
          have HVW := Aside0.mk hvw
          have HVA5 := Aside0.mk (Kd.R_below HVA.out hb5)
          have HVL5 := Aside0.mk (Kd.R_below HVL4.out hb5)
          have HCH5 := Aside0.mk (Kd.C_below HCH4.out hb5)
          have HH5 := Aside0.mk (Kd.R_below HH4.out hb5)
          have HBX5 := Aside0.mk (HBX4.out.trans (hb5.mono HBX4.out.size))
          have HSX5 := Aside0.mk hb5.size
          have HRX := Aside0.mk (Kd.C_below HR.out HBX5.out)
          obtain ⟨L1, lc1, rfl⟩ := Kd.R_slice HVL5.out
          obtain ⟨L2, lc2, rfl⟩ := Kd.R_slice HVA5.out
          obtain ⟨L3, lc3, rfl⟩ := Kd.R_slice HVW.out
          clear hvw hb5 hcall hcr HVA HVL4 HCH4 HH4 HBX4
          go_wp2_with fail
          go_loopg [21] j (fun m v21 wr => ∃ q : Nat, m + q = j ∧ v21 = .int .i64 q ∧ Aside0 (∃ d, wr = x5.drewN d))
          case atStart => exact ⟨0, rfl, rfl, ⟨0, rfl⟩⟩
          case round =>
            obtain ⟨q, hq, rfl, HD⟩ := hrel
            obtain ⟨dd, rfl⟩ := HD.out
            cases gk with
            | zero =>
              have hlt : decide ((q : Int) < (j : Int)) = false := by simp; omega
              have hlt2 : decide (q < j) = false := by simp; omega
              have hHl : (ss ++ [MARK]).length = ss.length + 1 := by simp
              have hmk := Kd.R_cell ByteArray.empty (by rw [hHl, ← HN.out]; exact HH5.out) (j : Int) (by omega) (by rw [hHl, ← HN.out]; omega)
              rw [Int.toNat_natCast] at hmk
              have emk : rdOf ByteArray.empty (ss ++ [MARK]) (j : Int) = (⟨#[109, 97, 114, 107]⟩ : ByteArray) := by
                rw [rd_nat (by rw [hHl, ← HN.out]; omega), List.getElem_append_right (by rw [← HN.out]; exact Nat.le_refl _)]
                simp [HN.out, MARK]
              rw [emk] at hmk
              have hmkc : (x5.drewN dd).cell? ⟨g, j, none⟩ = some (.string ⟨#[109, 97, 114, 107]⟩) := hmk.1
              have b1 : (j : Int) + 1 ≤ (cap : Int) := by have := HCAP.out; have := HN.out; omega
              have b2 : (0 : Int) ≤ (j : Int) := by omega
              have b3 : (j : Int) < (j : Int) + 1 := by omega
              have b4 : ((j : Nat) : Int) < ((j + 1 : Nat) : Int) := by omega
              have b5 : wrap64 ((j : Int) + 1) = ((j + 1 : Nat) : Int) := by rw [w64 _ (by have := H200.out; omega)]; omega
              have hcut2 := cut_room (some ⟨g, 0, none⟩) j cap (j + 1) (by have := HCAP.out; have := HN.out; omega)
              have b6 : (0 : Int) ≤ (j : Int) + 1 := by omega
              clear hmk emk hHl hq
              go_wp2_with fail
              have HVLd := Aside0.mk (Kd.R_drewN HVL5.out dd)
              have HVAd := Aside0.mk (Kd.R_bound (Kd.R_drewN HVA5.out dd))
              have HVWd := Aside0.mk (Kd.R_bound (Kd.R_drewN HVW.out dd))
              have HBd := Aside0.mk (pw_below_drewN HBX5.out dd)
              generalize x5.drewN dd = x6 at *
              obtain ⟨K, hK⟩ : ∃ K, want.length = K := ⟨_, rfl⟩
              rw [hK]
              have HK0 := Aside0.mk hK
              clear hK hmkc hcut2 b1 b2 b3 b4 b5 b6 hlt hlt2 HD
              obtain ⟨gl, hgl1, hgl2, hgl3⟩ : ∃ gl, x2.heap.size ≤ gl ∧ (gl < x3.heap.size ∨ x6.heap.size ≤ gl) ∧ (0 < K → L1 = some ⟨gl, 0, none⟩) := by
                by_cases hp : 0 < want.length
                · obtain ⟨gl, cp, he, h1, h2⟩ := HLF.out hp
                  injection he with he
                  exact ⟨gl, h1, .inl h2, fun _ => he⟩
                · exact ⟨x2.heap.size + x6.heap.size, Nat.le_add_right _ _, .inr (Nat.le_add_left _ _), fun h => absurd h (by rw [← HK0.out]; exact hp)⟩
              have HGL1 := Aside0.mk hgl1
              have HGL2 := Aside0.mk hgl2
              have HGL3 := Aside0.mk hgl3
              clear hgl1 hgl2 hgl3 HLF
              go_loopg [22] K (fun m v22 wr2 => ∃ (q2 : Nat) (ls : List ByteArray), m + q2 = K ∧ v22 = .int .i64 q2 ∧ Aside0 (ls.length = K ∧ ls.drop q2 = want.drop q2) ∧ Aside0 (Kd.R Kd.string 9 wr2 x2.heap.size (fun _ => True) (.slice L1 K lc1) ls) ∧ Aside0 (Below w.heap.size w wr2) ∧ Aside0 (KeepBut x6 wr2 gl none))
              case atStart => exact ⟨0, want, rfl, rfl, ⟨HK0.out, rfl⟩, ⟨by rw [← HK0.out]; exact HVLd.out⟩, HBd, ⟨KeepBut.refl _ _ _⟩⟩
              case round =>
                clear HBd HVLd
                obtain ⟨q2, ls, hq2, rfl, HLS, HLR, HB2, HKB⟩ := hrel
                have HAk := Aside0.mk (Kd.R_keep HVAd.out HKB.out (fun k hk => by
                  have h1 := hk.2.1
                  have h2 := hk.2.2.1
                  rcases HGL2.out with h | h <;> omega))
                have HWk := Aside0.mk (Kd.R_keep HVWd.out HKB.out (fun k hk => by
                  have h1 := hk.2.1
                  have h2 := hk.2.2.1
                  have h3 := HSX4.out
                  rcases HGL2.out with h | h <;> omega))
                have HKM : Aside0 (K ≤ 9223372036854775807) := ⟨by rw [← HK0.out]; exact (Kd.R_reads' HWk.out).2.2.2.1⟩
                cases gk with
                | zero =>
                  have hlt : decide ((q2 : Int) < (K : Int)) = false := by simp; omega
                  have hlt2 : decide (q2 < K) = false := by simp; omega
                  have HAc := Aside0.mk (Kd.R_reads' HAk.out).2.2
                  have HWc := Aside0.mk (Kd.R_reads' HWk.out).2.2
                  clear hq2 HLS HLR HKB
                  go_wp2_with fail
                  go_loopg [23] K (fun m v23 wr3 => ∃ q3 : Nat, m + q3 = K ∧ v23 = .int .i64 q3 ∧ Aside0 (∃ d, wr3 = wr.drewN d))
                  case atStart => exact ⟨0, rfl, rfl, ⟨0, rfl⟩⟩
                  case round =>
                    obtain ⟨q3, hq3, rfl, HD3⟩ := hrel
                    obtain ⟨d3, rfl⟩ := HD3.out
                    cases gk with
                    | zero =>
                      have hlt : decide ((q3 : Int) < (K : Int)) = false := by simp; omega
                      have hlt2 : decide (q3 < K) = false := by simp; omega
                      go_wp2_with fail
                      go_ret
                      exact ⟨rfl, pw_below_drewN HB2.out _⟩
                    | succ m =>
                      have hlt : decide ((q3 : Int) < (K : Int)) = true := by simp; omega
                      have hlt2 : decide (q3 < K) = true := by simp; omega
                      have hqw : q3 < want.length := by rw [HK0.out]; omega
                      obtain ⟨a2, hA2, hc2⟩ := Kd.at_string HAc.out (q3 : Int) (by omega) (by omega)
                      obtain ⟨a3, hA3, hc3⟩ := Kd.at_string HWc.out (q3 : Int) (by omega) (by omega)
                      subst hA2 hA3
                      rw [rd_nat hqw, Int.toNat_natCast] at hc2 hc3
                      generalize want[q3] = s at hc2 hc3
                      have HQ := Aside0.mk hq3
                      have p0 : (0 : Int) ≤ (q3 : Int) := by omega
                      have p1 : (q3 : Int) < (K : Int) := by omega
                      clear hq3 hqw
                      go_wp2_with fail
                      go_quiet (fail)
                      go_wp2_with fail
                      go_roundg m
                      case measure => omega
                      case rel => exact ⟨q3 + 1, by have := HQ.out; omega, by first | rfl | (congr 1; rw [w64 _ (by have := HQ.out; have := HKM.out; omega)]; rfl), ⟨_, rfl⟩⟩
                | succ m =>
                  have hlt : decide ((q2 : Int) < (K : Int)) = true := by simp; omega
                  have hlt2 : decide (q2 < K) = true := by simp; omega
                  have hL1 : L1 = some ⟨gl, 0, none⟩ := HGL3.out (by omega)
                  subst hL1
                  have hqw : q2 < want.length := by rw [HK0.out]; omega
                  have hql : q2 < ls.length := by rw [HLS.out.1]; omega
                  have hsame : ls[q2] = want[q2] := by
                    have h1 := HLS.out.2
                    rw [List.drop_eq_getElem_cons hql, List.drop_eq_getElem_cons hqw] at h1
                    exact (List.cons.inj h1).1
                  have hrest : ls.drop (q2 + 1) = want.drop (q2 + 1) := by
                    have h1 := HLS.out.2
                    rw [List.drop_eq_getElem_cons hql, List.drop_eq_getElem_cons hqw] at h1
                    exact (List.cons.inj h1).2
                  have hR := HLR.out
                  rw [← HLS.out.1] at hR
                  obtain ⟨c1', f1'⟩ := Kd.R_cell ByteArray.empty hR (q2 : Int) (by omega) (by omega)
                  have hput : ∀ W1 : World, Kd.R Kd.string 9 W1 x2.heap.size (fun _ => True) (.slice (some ⟨gl, 0, none⟩) K lc1) ls →
                      Kd.R Kd.string 9 (W1.setCell ⟨gl, q2, none⟩ (.string ⟨#[115, 112, 111, 105, 108, 116]⟩)) x2.heap.size (fun _ => True) (.slice (some ⟨gl, 0, none⟩) K lc1) (ls.set q2 ⟨#[115, 112, 111, 105, 108, 116]⟩) := by
                    intro W1 h1
                    rw [← HLS.out.1] at h1 ⊢
                    have h2 := (Kd.R_put h1 (q2 : Int) (⟨#[115, 112, 111, 105, 108, 116]⟩ : ByteArray)).1
                    rw [Int.toNat_natCast] at h2
                    exact h2
                  obtain ⟨a3, hA3, hc3⟩ := Kd.at_string (Kd.R_reads' HWk.out).2.2 (q2 : Int) (by omega) (by omega)
                  subst hA3
                  rw [rd_nat hql, Int.toNat_natCast, hsame] at c1'
                  rw [Int.toNat_natCast] at f1'
                  rw [rd_nat hqw, Int.toNat_natCast] at hc3
                  generalize want[q2] = s at c1' hc3 hsame
                  have HPUT := Aside0.mk hput
                  have HQ := Aside0.mk hq2
                  have HLS2 : Aside0 ((ls.set q2 ⟨#[115, 112, 111, 105, 108, 116]⟩).length = K ∧ (ls.set q2 ⟨#[115, 112, 111, 105, 108, 116]⟩).drop (q2 + 1) = want.drop (q2 + 1)) := ⟨by
                    refine ⟨by rw [List.length_set]; exact HLS.out.1, ?_⟩
                    rw [List.drop_set_of_lt (by omega)]; exact hrest⟩
                  have p0 : (0 : Int) ≤ (q2 : Int) := by omega
                  have p1 : (q2 : Int) < (K : Int) := by omega
                  clear hq2 hqw hql hsame hrest hR hput
                  go_wp2_with fail
                  go_quiet (fail)
                  go_wp2_with fail
                  go_roundg m
                  case measure => omega
                  case rel => exact ⟨q2 + 1, ls.set q2 ⟨#[115, 112, 111, 105, 108, 116]⟩, by have := HQ.out; omega, by first | rfl | (congr 1; rw [w64 _ (by have := HQ.out; have := HKM.out; omega)]; rfl), HLS2, ⟨HPUT.out _ (Kd.R_drewN HLR.out nq)⟩, ⟨(pw_below_drewN HB2.out nq).setCell (p := ⟨gl, q2, none⟩) (by have := HGL1.out; have := HBX2.out.size; show w.heap.size ≤ gl; omega) _⟩, ⟨KeepBut.set_ (keep_drewN HKB.out nq) q2 _⟩⟩
            | succ m =>
              have hlt : decide ((q : Int) < (j : Int)) = true := by simp; omega
              have hlt2 : decide (q < j) = true := by simp; omega
              have hqs : q < ss.length := by rw [← HN.out]; omega
              obtain ⟨ad, hA, hcl⟩ := Kd.at_string HRX.out (q : Int) (by omega) (by omega)
              obtain ⟨ah, hAh, hch⟩ := Kd.at_string HCH5.out (q : Int) (by omega) (by omega)
              subst hA
              injection hAh with hAh
              subst hAh
              rw [rd_nat hqs, Int.toNat_natCast] at hcl hch
              generalize ss[q] = s at hcl hch
              have HQ := Aside0.mk hq
              have e1 : (⟨g, 0, none⟩ : Addr).add q = ⟨g, q, none⟩ := by simp [Addr.add]; intro h; exact h.symm
              rw [e1] at hch
              have p0 : (0 : Int) ≤ (q : Int) := by omega
              have p1 : (q : Int) < (j : Int) := by omega
              clear hq hqs e1
              go_wp2_with fail
              go_quiet (fail)
              go_wp2_with fail
              go_roundg m
              case measure => omega
              case rel => exact ⟨q + 1, by have := HQ.out; omega, by first | rfl | (congr 1; rw [w64 _ (by have := HQ.out; have := H200.out; omega)]; rfl), ⟨_, rfl⟩⟩
        | succ m =>
          have hlt : decide ((i : Int) < (M : Int)) = true := by simp; omega
          have hlt2 : decide (i < M) = true := by simp; omega
          have his : i < ns.length := by rw [← HM.out]; omega
          obtain ⟨ad1, hA1, hcl⟩ := Kd.at_int HR1.out (i : Int) (by omega) (by omega)
          subst hA1
          have hlta := HNS.out _ (List.getElem_mem his)
          have ex : rd ns (i : Int) = ns[i] := by unfold rd; rw [Int.toNat_natCast, List.getD_eq_getElem?_getD, List.getElem?_eq_getElem his]; rfl
          rw [ex, Int.toNat_natCast] at hcl
          generalize ns[i] = a at hcl hlta
          have HCL := Aside0.mk hcl
          have hcr := pw_cell_below HB.out hcl
          have HI := Aside0.mk hi
          have HLTA := Aside0.mk hlta
          have p0 : (0 : Int) ≤ (i : Int) := by omega
          have p1 : (i : Int) < (M : Int) := by have := HI.out; omega
          clear hcl hi ex his hlta
          by_cases ha : a < 1
          · have HA1 := Aside0.mk ha
            have hge : decide ((1 : Int) ≤ a) = false := decide_eq_false (by omega)
            have hge2 : decide (a ≥ 1) = false := hge
            clear ha
            go_wp2_with fail
            refine (seg_none wr a HA1.out).mono ?_
            rintro e w2 ⟨rfl, rfl⟩
            go_wp2_with fail
            refine (flumeref8_Segment.calls 17 a _ _ w2 (segref_none a HA1.out 17)).mono ?_
            rintro e w3 ⟨rfl, hb3⟩
            have HB3 := Aside0.mk (HB.out.trans (hb3.mono HB.out.size))
            have hcr3 := pw_cell_below HB3.out HCL.out
            clear hb3 HB hcr
            have hnum : name_Number.f 100 (⟨#[]⟩ : ByteArray) = some (0, false) := by kernel_rfl
            go_wp2_with fail
            refine (name_Number.calls 100 _ 0 false w3 hnum).mono ?_
            rintro e w4 ⟨rfl, hdr⟩
            have HB4 := Aside0.mk (HB3.out.trans (hdr.below.mono HB3.out.size))
            have hcr4 := pw_cell_below HB4.out HCL.out
            clear hdr HB3 hcr3
            go_wp2_with fail
            go_roundg m
            case measure => omega
            case rel => exact ⟨i + 1, by have := HI.out; omega, by first | rfl | (congr 1; rw [w64 _ (by have := HI.out; have := HMX1.out; have := HM.out; omega)]; rfl), HB4⟩
          · obtain ⟨n, rfl⟩ := Int.eq_ofNat_of_zero_le (show 0 ≤ a by omega)
            have hge : decide ((1 : Int) ≤ (n : Int)) = true := by simp; omega
            have hge2 : decide ((n : Int) ≥ 1) = true := hge
            have HA1 := Aside0.mk (show 1 ≤ n by omega)
            have HA2 : Aside0 (n < 9223372036854775808) := ⟨by have := HLTA.out; omega⟩
            clear ha
            go_wp2_with fail
            refine (seg_calls wr n HA1.out HA2.out).mono ?_
            rintro e w2 ⟨rfl, hb2⟩
            have HB2 := Aside0.mk (HB.out.trans (hb2.mono HB.out.size))
            have hcr2 := pw_cell_below HB2.out HCL.out
            clear hb2 HB hcr
            go_wp2_with fail
            refine (flumeref8_Segment.calls 17 (n : Int) _ _ w2 (segref_eq n HA1.out HA2.out 17 (by decide))).mono ?_
            rintro e w3 ⟨rfl, hb3⟩
            have HB3 := Aside0.mk (HB2.out.trans (hb3.mono HB2.out.size))
            have hcr3 := pw_cell_below HB3.out HCL.out
            clear hb3 HB2 hcr2
            have HNUM := Aside0.mk (seg_number n HA1.out HA2.out)
            generalize segName n = s at *
            go_wp2_with fail
            refine (name_Number.calls 100 s (n : Int) true w3 HNUM.out).mono ?_
            rintro e w4 ⟨rfl, hdr⟩
            have HB4 := Aside0.mk (HB3.out.trans (hdr.below.mono HB3.out.size))
            have hcr4 := pw_cell_below HB4.out HCL.out
            clear hdr HB3 hcr3
            go_wp2_with fail
            go_roundg m
            case measure => omega
            case rel => exact ⟨i + 1, by have := HI.out; omega, by first | rfl | (congr 1; rw [w64 _ (by have := HI.out; have := HMX1.out; have := HM.out; omega)]; rfl), HB4⟩
    | succ m =>
      have hlt : decide ((j : Int) < (N : Int)) = true := by simp; omega
      have hlt2 : decide (j < N) = true := by simp; omega
      have hjs : j < ss.length := by rw [← HN.out]; omega
      obtain ⟨ad, hA, hcl⟩ := Kd.at_string HR.out (j : Int) (by omega) (by omega)
      subst hA
      have ex := rd_nat hjs
      rw [ex, Int.toNat_natCast] at hcl
      generalize ss[j] = s at hcl
      have HCL := Aside0.mk hcl
      have hcr := pw_cell_below HB.out hcl
      have HJ := Aside0.mk hj
      have p0 : (0 : Int) ≤ (j : Int) := by omega
      have p1 : (j : Int) < (N : Int) := by have := HJ.out; omega
      clear hcl hj ex hjs
      go_wp2_with fail
      obtain ⟨⟨n, ok⟩, hnp⟩ : ∃ r, numP s = r := ⟨_, rfl⟩
      have h1 := number_eq s
      have h2 := numref_eq s
      rw [hnp] at h1 h2
      have H1 := Aside0.mk h1
      have H2 := Aside0.mk h2
      clear h1 h2 hnp
      refine (name_Number.calls 100 s n ok wr H1.out).mono ?_
      rintro e w2 ⟨rfl, hdr⟩
      have HB2 := Aside0.mk (HB.out.trans (hdr.below.mono HB.out.size))
      have hcr2 := pw_cell_below HB2.out HCL.out
      clear hdr HB hcr
      go_wp2_with fail
      refine (flumeref8_Number.calls 500 s n ok w2 H2.out).mono ?_
      rintro e w3 ⟨rfl, hb3⟩
      have HB3 := Aside0.mk (HB2.out.trans (hb3.mono HB2.out.size))
      have hcr3 := pw_cell_below HB3.out HCL.out
      clear hb3 HB2 hcr2
      go_wp2_with fail
      have hS0 : w3.cell? (ad.add j) = some (.string s) ∧ Below w.heap.size w w3 := ⟨hcr3, HB3.out⟩
      clear hcr3 HB3
      go_region_held3 (fun w' => w'.cell? (ad.add j) = some (.string s) ∧ Below w.heap.size w w') (first | assumption | (exact keep_drew1 (by assumption)) | (exact keep_draw (by assumption) (by assumption)) | (exact keep_make (by assumption) (by assumption)) | go_keep)
        (first | (go_at_call 8; refine (name_May.calls 100 s (mayP s) _ (may_eq s)).mono ?_; rintro e w' ⟨rfl, hdr⟩)
               | (go_at_call 9; refine (flumeref8_May.calls 100 s (mayP s) _ (mayref_eq s)).mono ?_; rintro e w' ⟨rfl, hdr⟩)
               | (go_at_call 10; refine (name_Kind.calls 100 s (kindP s) _ (kind_eq s)).mono ?_; rintro e w' ⟨rfl, hdr⟩)
               | (go_at_call 11; refine (flumeref8_Kind.calls 500 s (kindP s) _ (kindref_eq s)).mono ?_; rintro e w' ⟨rfl, hdr⟩))
      obtain ⟨_, hbel⟩ : w'.cell? (ad.add j) = some (.string s) ∧ Below w.heap.size w w' := by assumption
      have HB4 := Aside0.mk hbel
      clear hbel
      go_wp2_with fail
      go_roundg m
      case measure => omega
      case rel => exact ⟨j + 1, by have := HJ.out; omega, by first | rfl | (congr 1; rw [w64 _ (by have := HJ.out; have := HMX.out; have := HN.out; omega)]; rfl), HB4⟩
end Go.Proofs.Ytooddfmjgplbjaa
