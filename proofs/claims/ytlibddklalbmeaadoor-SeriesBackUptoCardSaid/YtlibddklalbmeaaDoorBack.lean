/- Back walked: lent bytes that are as they were, mark and all: true; they are written over then. -/
import Derived.Test.YtlibddklalbmeaaDoorLent
namespace Go.Proofs.YtlibddklalbmeaaDoor
open Go.RowKit Go.Proofs.YtlibddklalbmeaaDoor.QA Go.Proofs.YtlibddklalbmeaaDoorW.PrintWords Go.Proofs.YtlibddklalbmeaaDoorW.PrintLast Go.Proofs.YtlibddklalbmeaaDoorW.PrintMore
attribute [local go_sem] max2_int min2_int fl_store fl_bits fl_frombits
set_option linter.unusedVariables false
set_option linter.unusedSimpArgs false

theorem app_getD (bs : List Int) (j : Nat) (hj : j < bs.length) : (bs ++ [171, 172]).getD j 0 = bs.getD j 0 := by
  rw [List.getD_eq_getElem?_getD, List.getD_eq_getElem?_getD, List.getElem?_append_left hj]

/-- The bytes while they are written over. -/
def overAt (bs : List Int) (j : Nat) : List Int := (bs.take j).map (fun x => Go.bits .xor .u8 x 85) ++ (bs.drop j ++ [171, 172])
theorem overAt_length (bs : List Int) (j : Nat) (hj : j ≤ bs.length) : (overAt bs j).length = bs.length + 2 := by
  simp [overAt]; omega
theorem overAt_get (bs : List Int) (j : Nat) (hj : j < bs.length) : (overAt bs j).getD j 0 = bs.getD j 0 := by
  unfold overAt
  have e : ((bs.take j).map (fun x => Go.bits .xor .u8 x 85)).length = j := by simp; omega
  rw [List.getD_eq_getElem?_getD, List.getElem?_append_right (by omega), e, Nat.sub_self, List.getElem?_append_left (by simp; omega), List.getElem?_drop, List.getD_eq_getElem?_getD]
  rfl
theorem overAt_set (bs : List Int) (j : Nat) (hj : j < bs.length) : (overAt bs j).set j (Go.bits .xor .u8 (bs.getD j 0) 85) = overAt bs (j + 1) := by
  unfold overAt
  have e : ((bs.take j).map (fun x => Go.bits .xor .u8 x 85)).length = j := by simp; omega
  rw [List.set_append_right _ _ (by omega), e, Nat.sub_self, List.drop_eq_getElem_cons hj, List.cons_append, List.set_cons_zero, List.take_add_one, List.getElem?_eq_getElem hj, List.map_append]
  simp [List.getD_eq_getElem?_getD, hj]

set_option maxHeartbeats 4000000 in
set_option maxRecDepth 100000 in
theorem back_calls (w0 w : World) (g cap : Nat) (A : Option Addr) (c : Nat) (bs : List Int) (hl : bs.length ≤ 140737488351232) (hr : Kd.C (Kd.int .u8) w A bs.length bs) (hc : bs.length ≤ c)
    (hB : Below w0.heap.size w0 w) (hg : w0.heap.size ≤ g) (hA : ∀ ad, A = some ad → 0 < bs.length → ad.block ≠ g)
    (ho : Kd.R (Kd.int .u8) 5 w w0.heap.size (fun _ => True) (.slice (some ⟨g, 0, none⟩) (bs.length + 2) cap) (bs ++ [171, 172])) :
    Calls Tryd.prog 14 #[.slice (some ⟨g, 0, none⟩) bs.length cap, .slice A bs.length c] w fun e w' => e = .returned (.bool true) ∧ Below w0.heap.size w0 w' ∧ KeepBut w w' g none := by
  have HL := Aside0.mk hl
  have HR := Aside0.mk hr
  have HC := Aside0.mk hc
  have HB := Aside0.mk hB
  have HG := Aside0.mk hg
  have HA := Aside0.mk hA
  have HO := Aside0.mk ho
  clear hl hr hc hB hg hA ho
  have hcap : bs.length + 2 ≤ cap := (Kd.R_reads' HO.out).2.1
  have hcut := cut_room (some ⟨g, 0, none⟩) bs.length cap (bs.length + 2) hcap
  obtain ⟨N, hN⟩ : ∃ N, N = bs.length := ⟨_, rfl⟩
  have hlen : (bs ++ [171, 172]).length = N + 2 := by simp [hN]
  have hw2 : wrap64 ((N : Int) + 2) = ((N + 2 : Nat) : Int) := by rw [w64 _ (by have := HL.out; omega)]; omega
  have hw1 : wrap64 ((N : Int) + 1) = ((N + 1 : Nat) : Int) := by rw [w64 _ (by have := HL.out; omega)]; omega
  have hR := HO.out
  rw [← hN] at hR hcut ⊢
  have hc1 := Kd.R_cell (0 : Int) (by rw [hlen]; exact hR) (N : Int) (by omega) (by rw [hlen]; omega)
  have hc2 := Kd.R_cell (0 : Int) (by rw [hlen]; exact hR) ((N + 1 : Nat) : Int) (by omega) (by rw [hlen]; omega)
  rw [Int.toNat_natCast] at hc1 hc2
  have e1 : rdOf (0 : Int) (bs ++ [171, 172]) (N : Int) = 171 := by
    unfold rdOf
    rw [Int.toNat_natCast, List.getD_eq_getElem?_getD, List.getElem?_append_right (by omega), hN, Nat.sub_self]; rfl
  have e2 : rdOf (0 : Int) (bs ++ [171, 172]) ((N + 1 : Nat) : Int) = 172 := by
    unfold rdOf
    rw [Int.toNat_natCast, List.getD_eq_getElem?_getD, List.getElem?_append_right (by omega), hN, Nat.add_sub_cancel_left]; rfl
  rw [e1] at hc1
  rw [e2] at hc2
  obtain ⟨d1, _⟩ := hc1
  obtain ⟨d2, _⟩ := hc2
  have HN := Aside0.mk hN
  have HLN := Aside0.mk hlen
  have b0 : (0 : Int) ≤ ((N + 1 : Nat) : Int) := by omega
  have b1 : ((N : Nat) : Int) < ((N + 2 : Nat) : Int) := by omega
  have b2 : ((N + 1 : Nat) : Int) < ((N + 2 : Nat) : Int) := by omega
  have b3 : (N : Int) + 2 ≤ (cap : Int) := by omega
  have b4 : ((N + 2 : Nat) : Int) ≤ (cap : Int) := by omega
  clear hN hlen e1 e2 hR hcap
  go_enter Tryd.func14, Tryd.ntmps14
  go_wp2_with fail
  have HREL : Aside0 (Kd.R (Kd.int .u8) 5 w w0.heap.size (fun _ => True) (.slice (some ⟨g, 0, none⟩) (N + 2) cap) (overAt bs 0)) := ⟨by rw [HN.out]; simpa [overAt] using HO.out⟩
  have HRN : Aside0 (Kd.C (Kd.int .u8) w A N bs) := ⟨by rw [HN.out]; exact HR.out⟩
  clear HO HR b0 b1 b2 b3 b4 d1 d2 hw1 hw2 hcut
  go_loopg [5, 6] N (fun m v5 v6 wr => ∃ j : Nat, m + j = N ∧ v5 = .bool true ∧ v6 = .int .i64 j ∧ Aside0 (Kd.R (Kd.int .u8) 5 wr w0.heap.size (fun _ => True) (.slice (some ⟨g, 0, none⟩) (N + 2) cap) (overAt bs j)) ∧ Aside0 (Kd.C (Kd.int .u8) wr A N bs) ∧ Aside0 (Below w0.heap.size w0 wr) ∧ Aside0 (KeepBut w wr g none))
  case atStart => exact ⟨0, rfl, rfl, rfl, HREL, HRN, HB, ⟨KeepBut.refl _ _ _⟩⟩
  case round =>
    clear HREL HRN HB
    obtain ⟨j, hj, rfl, rfl, HREL, HRN, HB, HK⟩ := hrel
    cases gk with
    | zero =>
      have hlt : decide ((j : Int) < (N : Int)) = false := by simp; omega
      have hlt2 : decide (j < N) = false := by simp; omega
      obtain rfl : j = N := by omega
      clear hj
      go_wp2_with fail
      go_ret
      exact ⟨rfl, HB.out, HK.out⟩
    | succ m =>
      have hlt : decide ((j : Int) < (N : Int)) = true := by simp; omega
      have hlt2 : decide (j < N) = true := by simp; omega
      have hjb : j < bs.length := by rw [← HN.out]; omega
      have hj1 : wrap64 ((j : Int) + 1) = ((j + 1 : Nat) : Int) := w64_succ j (by have := HL.out; omega)
      have hl2 : (overAt bs j).length = N + 2 := by rw [overAt_length bs j (by omega), HN.out]
      have hR := HREL.out
      obtain ⟨d1, f1⟩ := Kd.R_cell (0 : Int) (by rw [hl2]; exact hR) (j : Int) (by omega) (by rw [hl2]; omega)
      have hput : ∀ W1 : World, Kd.R (Kd.int .u8) 5 W1 w0.heap.size (fun _ => True) (.slice (some ⟨g, 0, none⟩) (N + 2) cap) (overAt bs j) →
          Kd.R (Kd.int .u8) 5 (W1.setCell ⟨g, j, none⟩ (.int .u8 (Go.bits .xor .u8 (bs.getD j 0) 85))) w0.heap.size (fun _ => True) (.slice (some ⟨g, 0, none⟩) (N + 2) cap) (overAt bs (j + 1)) := by
        intro W1 h1
        have h2 := Kd.R_put (by rw [hl2]; exact h1) (j : Int) (Go.bits .xor .u8 (bs.getD j 0) 85)
        rw [Int.toNat_natCast, overAt_set bs j hjb, hl2] at h2
        exact h2.1
      have er : rdOf (0 : Int) (overAt bs j) (j : Int) = bs.getD j 0 := by unfold rdOf; rw [Int.toNat_natCast]; exact overAt_get bs j hjb
      rw [er] at d1
      rw [Int.toNat_natCast] at d1 f1
      obtain ⟨ad, hAad, d2⟩ := Kd.at_int HRN.out (j : Int) (by omega) (by omega)
      have hag := HA.out ad hAad (by omega)
      subst hAad
      have er2 : rd bs (j : Int) = bs.getD j 0 := by unfold rd; rw [Int.toNat_natCast]
      rw [er2, Int.toNat_natCast] at d2
      obtain ⟨y, hy⟩ : ∃ y, bs.getD j 0 = y := ⟨_, rfl⟩
      rw [hy] at d1 d2 hput
      have HPUT := Aside0.mk hput
      have HJ := Aside0.mk hj
      have HAG := Aside0.mk hag
      clear hput hj hjb hl2 hR er er2 hy hag
      have p0 : (0 : Int) ≤ (j : Int) := by omega
      have p1 : (j : Int) < (N : Int) := by have := HJ.out; omega
      have p2 : (j : Int) < ((N + 2 : Nat) : Int) := by omega
      have p3 : (j : Int) < (N : Int) + 2 := by omega
      go_wp2_with fail
      go_quiet (fail)
      go_wp2_with fail
      have hk2 := KeepBut.set_ (keep_drewN (KeepBut.refl wr g none) nq) j (.int .u8 (Go.bits .xor .u8 y 85))
      go_roundg m
      case measure => omega
      case rel => exact ⟨j + 1, by have := HJ.out; omega, rfl, by rw [hj1], ⟨HPUT.out _ (Kd.R_drewN HREL.out nq)⟩, ⟨Kd.C_keep (0 : Int) HRN.out hk2 (fun ad2 h2 _ => by injection h2 with h2; rw [← h2]; exact HAG.out)⟩, ⟨(pw_below_drewN HB.out nq).setCell (p := ⟨g, j, none⟩) HG.out _⟩, ⟨KeepBut.set_ (keep_drewN HK.out nq) j _⟩⟩
end Go.Proofs.YtlibddklalbmeaaDoor
