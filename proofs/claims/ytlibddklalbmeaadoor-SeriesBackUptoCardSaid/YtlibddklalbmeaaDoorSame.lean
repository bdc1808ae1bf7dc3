/- SeriesSame walked: whatever the number and however often, it answers true. -/
import Derived.Test.YtlibddklalbmeaaDoorBegun
import Derived.Test.YtlibddklalbmeaaDoorVar
namespace Go.Proofs.YtlibddklalbmeaaDoor
open Go.RowKit Go.Proofs.YtlibddklalbmeaaDoor.QA Go.Proofs.YtlibddklalbmeaaDoorW.PrintWords Go.Proofs.YtlibddklalbmeaaDoorW.PrintLast Go.Proofs.YtlibddklalbmeaaDoorW.PrintMore
attribute [local go_sem] max2_int min2_int fl_store fl_bits fl_frombits
set_option linter.unusedVariables false
set_option linter.unusedSimpArgs false

theorem of_loop (us : List Int) (h0 : ∀ u ∈ us, 0 ≤ u) (hl : us.length < 17592186044416) : ∀ (d j k : Nat), j + d = us.length → d < k →
    flumelaw3_Of.l0 k us ((us.take j).map Int.toNat) (j : Int) = some (us.map Int.toNat) := by
  intro d
  induction d with
  | zero =>
    intro j k hj hk
    obtain ⟨k, rfl⟩ : ∃ m, k = m + 1 := ⟨k - 1, by omega⟩
    rw [flumelaw3_Of.l0, if_neg (by omega), List.take_of_length_le (by omega)]
  | succ d ih =>
    intro j k hj hk
    obtain ⟨k, rfl⟩ : ∃ m, k = m + 1 := ⟨k - 1, by omega⟩
    rw [flumelaw3_Of.l0, if_pos (by omega), if_pos (by omega), if_pos (by simp; omega), w64_succ j (by omega)]
    have e : (us.take j).map Int.toNat ++ [(rd us (j : Int)).toNat] = (us.take (j + 1)).map Int.toNat := by
      have hj2 : j < us.length := by omega
      rw [List.take_add_one, List.getElem?_eq_getElem hj2, List.map_append]
      unfold rd
      simp [List.getD_eq_getElem?_getD, hj2]
    rw [e]
    exact ih (j + 1) k (by omega) (by omega)

theorem of_eq (us : List Int) (h0 : ∀ u ∈ us, 0 ≤ u) (hl : us.length < 17592186044416) : flumelaw3_Of.f (us.length + 1) us = some (us.map Int.toNat) := by
  have := of_loop us h0 hl us.length 0 (us.length + 1) (by omega) (by omega)
  simpa [flumelaw3_Of.f] using this

theorem info39 : (Tryd.prog.info? 39).map (fun i => (i.zero, i.size, i.bytes)) = some (some (.int .u64 0), 1, 8) := by kernel_rfl
theorem underlying22' : Tryd.prog.underlying 22 = some (.slice 39) := by kernel_rfl

set_option maxHeartbeats 4000000 in
set_option maxRecDepth 100000 in
theorem same_calls (w : World) (u n : Int) (hu : 0 ≤ u ∧ u < 18446744073709551616) (hT : TabAt 1 Lib.deBruijn64tab w) :
    Calls Tryd.prog 5 #[.int .u64 u, .int .i64 n] w fun e w' => e = .returned (.bool true) ∧ Below w.heap.size w w' := by
  have HT := Aside0.mk hT
  have HU := Aside0.mk hu
  clear hT hu
  go_enter Tryd.func5, Tryd.ntmps5
  go_wp2_with fail
  refine (begun_calls w HT.out).mono ?_
  rintro e w1 ⟨rfl, hb1⟩
  have HB1 := Aside0.mk hb1
  clear hb1
  by_cases hn1 : n < 1
  · have hd1 : decide (n < 1) = true := decide_eq_true hn1
    have HN1 := Aside0.mk hn1
    clear hn1
    go_wp2_with fail
    go_ret
    exact ⟨rfl, HB1.out⟩
  by_cases hn2 : 4096 < n
  · have hd1 : decide (n < 1) = false := decide_eq_false hn1
    have hd2 : decide (4096 < n) = true := decide_eq_true hn2
    have HN1 := Aside0.mk hn1
    have HN2 := Aside0.mk hn2
    clear hn1 hn2
    go_wp2_with fail
    go_ret
    exact ⟨rfl, HB1.out⟩
  obtain ⟨m, rfl⟩ := Int.eq_ofNat_of_zero_le (show 0 ≤ n by omega)
  have hm1 : 1 ≤ m := by omega
  have hm2 : m ≤ 4096 := by omega
  have hd1 : decide ((m : Int) < 1) = false := by simp; omega
  have hd2 : decide (4096 < (m : Int)) = false := by simp; omega
  have HM1 := Aside0.mk hm1
  have HM2 := Aside0.mk hm2
  clear hn1 hn2 hm1 hm2
  go_wp2_with fail
  go_loopg [5, 6] m (fun g v5 v6 wr => ∃ (j : Nat) (us : List Int), g + j = m ∧ v6 = .int .i64 j ∧ Aside0 (us = List.replicate j u) ∧ Aside0 (Kd.R (Kd.int .u64) 39 wr w.heap.size (fun _ => True) v5 us) ∧ Aside0 (Below w.heap.size w wr))
  case atStart => exact ⟨0, [], rfl, rfl, ⟨rfl⟩, ⟨Kd.R_nil _ _ _ _ _⟩, HB1⟩
  case round =>
    clear HB1
    obtain ⟨j, us, hj, rfl, HUS, HX, HB1⟩ := hrel
    have hlen : us.length = j := by rw [HUS.out, List.length_replicate]
    have HLEN := Aside0.mk hlen
    clear hlen
    cases gk with
    | zero =>
      have hlt : decide ((j : Int) < (m : Int)) = false := by simp; omega
      have hlt2 : decide (j < m) = false := by simp; omega
      obtain rfl : j = m := by omega
      have hx := HX.out
      obtain ⟨A, c, rfl⟩ := Kd.R_slice hx
      obtain ⟨_, hc, hC⟩ := Kd.R_reads' hx
      have HC := Aside0.mk hC
      have HCC := Aside0.mk hc
      clear hx hC hc hj
      go_wp2_with fail
      have h0 : ∀ y ∈ us, 0 ≤ y := by rw [HUS.out]; intro y hy; rw [(List.mem_replicate.1 hy).2]; exact HU.out.1
      refine (flumelaw3_Of.calls (us.length + 1) A c us _ wr HC.out HCC.out (of_eq us h0 (by have := HLEN.out; have := HM2.out; omega))).mono ?_
      rintro e w2 ⟨v, rfl, hv, hb2⟩
      have HB2 := Aside0.mk (HB1.out.trans (hb2.mono HB1.out.size))
      have hxs : us.map Int.toNat = List.replicate j u.toNat := by rw [HUS.out, List.map_replicate]
      rw [hxs] at hv
      have hul : u.toNat < 18446744073709551616 := by have := HU.out; omega
      generalize u.toNat = x at *
      have hll : (List.replicate j x).length = j := List.length_replicate
      have hmem : ∀ y ∈ List.replicate j x, y < 18446744073709551616 := by intro y hy; rw [(List.mem_replicate.1 hy).2]; exact hul
      have hsame := same_length x j HM1.out
      generalize List.replicate j x = xs at *
      obtain ⟨B, cc, rfl⟩ := Kd.R_slice hv
      obtain ⟨_, _, hCv⟩ := Kd.R_reads' hv
      have HXS := Aside0.mk hxs
      have HLL := Aside0.mk hll
      have HMEM := Aside0.mk hmem
      have HSAME := Aside0.mk hsame
      have HCV := Aside0.mk hCv
      clear hv hb2 hxs hul hll hmem hsame hCv HX HC
      go_wp2_with fail
      have hve := varint_eq j HM2.out
      refine (pack_calls w2 B cc xs (up (varB j)) 20 (by rw [HLL.out]; exact HM2.out) HMEM.out (by rw [HLL.out]; exact hve) (by rw [up_length, varB_length]; split <;> decide) (tab_below HT.out HB2.out) HCV.out).mono ?_
      rintro e w3 ⟨v, rfl, hv, hb3⟩
      have HB3 := Aside0.mk (HB2.out.trans (hb3.mono HB2.out.size))
      obtain ⟨D, dc, rfl⟩ := Kd.R_slice hv
      have hlp : (up (varB j) ++ up (Ser.packBits (bitsF xs))).length = (if j < 128 then 1 else 2) + (8 + (j + 6) / 8) := by
        rw [List.length_append, up_length, up_length, varB_length, HSAME.out]
      generalize up (varB j) ++ up (Ser.packBits (bitsF xs)) = ps at *
      have HLP := Aside0.mk hlp
      clear hv hb3 hlp hve
      by_cases h127 : 127 < j
      · have hd3 : decide ((127 : Int) < (j : Int)) = true := by simp; omega
        have H127 := Aside0.mk h127
        clear h127
        go_wp2_with fail
        go_ret
        refine ⟨?_, HB3.out⟩
        have e6 : wrap64 ((j : Int) + 6) = ((j + 6 : Nat) : Int) := by rw [w64 _ (by have := HM2.out; omega)]; omega
        have e7 : wrap64 (Int.tdiv (((j + 6 : Nat) : Int)) 8) = (((j + 6) / 8 : Nat) : Int) := at8 (j + 6) (by have := HM2.out; omega)
        have e8 : wrap64 (9 + (((j + 6) / 8 : Nat) : Int)) = ((9 + (j + 6) / 8 : Nat) : Int) := by rw [w64 _ (by have := HM2.out; omega)]; omega
        have e9 : wrap64 ((((9 + (j + 6) / 8 : Nat) : Int)) + 1) = ((9 + (j + 6) / 8 + 1 : Nat) : Int) := by rw [w64 _ (by have := HM2.out; omega)]; omega
        have e : ((ps.length : Int) == wrap64 (wrap64 (9 + wrap64 ((wrap64 ((j : Int) + 6)).tdiv 8)) + 1)) = true := by
          rw [e6, e7, e8, e9, beq_iff_eq, HLP.out, if_neg (by have := H127.out; omega)]; omega
        show Ending.returned (Value.bool ((ps.length : Int) == wrap64 (wrap64 (9 + wrap64 ((wrap64 ((j : Int) + 6)).tdiv 8)) + 1))) = _
        rw [e]
      · have hd3 : decide ((127 : Int) < (j : Int)) = false := by simp; omega
        have H127 := Aside0.mk h127
        clear h127
        go_wp2_with fail
        go_ret
        refine ⟨?_, HB3.out⟩
        have e6 : wrap64 ((j : Int) + 6) = ((j + 6 : Nat) : Int) := by rw [w64 _ (by have := HM2.out; omega)]; omega
        have e7 : wrap64 (Int.tdiv (((j + 6 : Nat) : Int)) 8) = (((j + 6) / 8 : Nat) : Int) := at8 (j + 6) (by have := HM2.out; omega)
        have e8 : wrap64 (9 + (((j + 6) / 8 : Nat) : Int)) = ((9 + (j + 6) / 8 : Nat) : Int) := by rw [w64 _ (by have := HM2.out; omega)]; omega
        have e : ((ps.length : Int) == wrap64 (9 + wrap64 ((wrap64 ((j : Int) + 6)).tdiv 8))) = true := by
          rw [e6, e7, e8, beq_iff_eq, HLP.out, if_pos (by have := H127.out; omega)]; omega
        show Ending.returned (Value.bool ((ps.length : Int) == wrap64 (9 + wrap64 ((wrap64 ((j : Int) + 6)).tdiv 8)))) = _
        rw [e]
    | succ g =>
      have hlt : decide ((j : Int) < (m : Int)) = true := by simp; omega
      have hlt2 : decide (j < m) = true := by simp; omega
      have hj1 : wrap64 ((j : Int) + 1) = ((j + 1 : Nat) : Int) := w64_succ j (by have := HM2.out; omega)
      have hrep : us ++ [u] = List.replicate (j + 1) u := by rw [HUS.out, List.replicate_succ']
      have HREP := Aside0.mk hrep
      have HJ := Aside0.mk hj
      clear hrep hj
      go_wp2_with (first | ((with_reducible refine gate_builtin (b := .append) (xs := #[.tmp 23, .tmp 25]) rfl ?_); at_builtin; refine Kd.R_append (Kd.int .u64) (w0 := w) w.heap.size rfl (.tmp 23) (.tmp 25) 22 39 (.int .u64 0) 8 rfl underlying22' info39 rfl (by decide) (by omega) u5 us u [.int .u64 u] (fun _ => True) (fun _ => False) rfl rfl rfl (fun _ hk => hk.elim) (fun _ _ => trivial) HX.out HB1.out (below_size HB1.out) (by have := HLEN.out; have := HM2.out; have := HJ.out; omega) ?_
                            intro v1 w3 ho hb3 hg3 hat
                            have HO := Aside0.mk ho
                            have HB3 := Aside0.mk hb3
                            clear ho hb3 hg3 hat HX HB1))
      go_roundg g
      case measure => omega
      case rel => exact ⟨j + 1, us ++ [u], by have := HJ.out; omega, by rw [hj1], HREP, HO, HB3⟩
end Go.Proofs.YtlibddklalbmeaaDoor
