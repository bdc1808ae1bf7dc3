/- SeriesBack walked: packed and unpacked, whatever stands behind, bit for bit. -/
import Derived.Test.YtlibddklalbmeaaDoorReads
import Derived.Test.YtlibddklalbmeaaDoorSame
namespace Go.Proofs.YtlibddklalbmeaaDoor
open Go.RowKit Go.Proofs.YtlibddklalbmeaaDoor.QA Go.Proofs.YtlibddklalbmeaaDoorW.PrintWords Go.Proofs.YtlibddklalbmeaaDoorW.PrintLast Go.Proofs.YtlibddklalbmeaaDoorW.PrintMore
attribute [local go_sem] max2_int min2_int fl_store fl_bits fl_frombits
set_option linter.unusedVariables false
set_option linter.unusedSimpArgs false

theorem packed_lt (L : List Bool) : ∀ x ∈ Ser.packBits L, x < 256 := by
  intro x hx
  unfold Ser.packBits at hx
  obtain ⟨i, _, rfl⟩ := List.mem_map.1 hx
  exact Ser.byteAt_lt L i

/-- What both calls of Unpack come to. -/
theorem back_facts (xs behind : List Nat) (hm : xs.length ≤ 4096) (hx : ∀ x ∈ xs, x < 18446744073709551616) (hb : ∀ x ∈ behind, x < 256) :
    (∀ x ∈ varB xs.length ++ (Ser.packBits (bitsF xs) ++ behind), x < 256) ∧
    (∀ h : (varB xs.length ++ (Ser.packBits (bitsF xs) ++ behind)).length ≤ 140737488351232, wire_ReadVarint.f 40 (up (varB xs.length ++ (Ser.packBits (bitsF xs) ++ behind))) = some ((xs.length : Int), ((varB xs.length).length : Int), ((0 : Nat) : Int))) ∧
    unpackF (varB xs.length ++ (Ser.packBits (bitsF xs) ++ behind)) xs.length (varB xs.length).length 0 = (0, xs, (varB xs.length).length + (Ser.packBits (bitsF xs)).length) ∧
    (varB xs.length).length ≤ (varB xs.length ++ (Ser.packBits (bitsF xs) ++ behind)).length := by
  have h256 : ∀ x ∈ varB xs.length ++ (Ser.packBits (bitsF xs) ++ behind), x < 256 := by
    intro x h
    rcases List.mem_append.1 h with h | h
    · exact varB_lt _ hm x h
    · rcases List.mem_append.1 h with h | h
      · exact packed_lt _ x h
      · exact hb x h
  refine ⟨h256, fun h => ?_, unpack_pack xs _ behind hm hx, by rw [List.length_append]; omega⟩
  have := prog_read _ h256 h
  rw [rv_varB _ hm] at this
  exact this

set_option maxHeartbeats 8000000 in
set_option maxRecDepth 100000 in
theorem sback_calls (w : World) (A0 : Option Addr) (c0 : Nat) (us : List Int) (A1 : Option Addr) (c1 : Nat) (bh : List Int) (hT : TabAt 1 Lib.deBruijn64tab w)
    (hu : ∀ u ∈ us, 0 ≤ u ∧ u < 18446744073709551616) (hul : us.length < 17592186044416) (hbh : ∀ x ∈ bh, 0 ≤ x ∧ x < 256) (hbl : bh.length ≤ 140737488000000)
    (hr0 : Kd.C (Kd.int .u64) w A0 us.length us) (hc0 : us.length ≤ c0) (hr1 : Kd.C (Kd.int .u8) w A1 bh.length bh) (hc1 : bh.length ≤ c1) :
    Calls Tryd.prog 3 #[.slice A0 us.length c0, .slice A1 bh.length c1] w fun e w' => e = .returned (.bool true) ∧ Below w.heap.size w w' := by
  have HT := Aside0.mk hT
  have HBL := Aside0.mk hbl
  have HR0 := Aside0.mk hr0
  have HR1 := Aside0.mk hr1
  have HC0 := Aside0.mk hc0
  have HC1 := Aside0.mk hc1
  obtain ⟨behind, hbe, hb256⟩ := ofNat_up bh hbh
  have HBE := Aside0.mk hbe
  have HB256 := Aside0.mk hb256
  have hof := of_eq us (fun u h => (hu u h).1) hul
  have hxlt : ∀ x ∈ us.map Int.toNat, x < 18446744073709551616 := by
    intro x hx
    obtain ⟨y, hy, rfl⟩ := List.mem_map.1 hx
    have := hu y hy
    omega
  have hxlen : (us.map Int.toNat).length = us.length := by simp
  obtain ⟨xs, hxs⟩ : ∃ xs, us.map Int.toNat = xs := ⟨_, rfl⟩
  rw [hxs] at hof hxlt hxlen
  have HOF := Aside0.mk hof
  have HXLT := Aside0.mk hxlt
  have HXLEN := Aside0.mk hxlen
  have HUL := Aside0.mk hul
  clear hT hu hul hbh hbl hr0 hr1 hc0 hc1 hbe hb256 hof hxlt hxlen hxs
  go_enter Tryd.func3, Tryd.ntmps3
  go_wp2_with fail
  refine (begun_calls w HT.out).mono ?_
  rintro e w1 ⟨rfl, hb1⟩
  have HB1 := Aside0.mk hb1
  have HR01 := Aside0.mk (Kd.C_below HR0.out hb1)
  clear hb1
  go_wp2_with fail
  refine (flumelaw3_Of.calls (us.length + 1) A0 c0 us xs w1 HR01.out HC0.out HOF.out).mono ?_
  rintro e w2 ⟨v, rfl, hv, hb2⟩
  obtain ⟨V, vc, rfl⟩ := Kd.R_slice hv
  have HV := Aside0.mk (Kd.R_mono (Kd.R_bound hv) (ok' := fun k => k < w2.heap.size) (fun k hk => hk.2.2.1))
  have HB2 := Aside0.mk (HB1.out.trans (hb2.mono HB1.out.size))
  clear hv hb2 HR01 HB1
  by_cases hm : 4096 < xs.length
  · have hd : decide ((4096 : Int) < (xs.length : Int)) = true := by simp; omega
    go_wp2_with fail
    refine (pack_many w2 V vc xs hm (by have := HUL.out; have := HXLEN.out; omega)).mono ?_
    rintro e w3 ⟨rfl, rfl⟩
    have HM := Aside0.mk hm
    clear hm
    go_wp2_with fail
    go_ret
    exact ⟨rfl, HB2.out⟩
  have hm' : xs.length ≤ 4096 := by omega
  have hd : decide ((4096 : Int) < (xs.length : Int)) = false := by simp; omega
  have HM := Aside0.mk hm'
  clear hm hm'
  go_wp2_with fail
  refine (pack_calls w2 V vc xs (up (varB xs.length)) 20 HM.out HXLT.out (varint_eq xs.length HM.out) (by rw [up_length, varB_length]; split <;> decide) (tab_below HT.out HB2.out) (Kd.R_reads' HV.out).2.2).mono ?_
  rintro e w3 ⟨v, rfl, hv, hb3⟩
  have hpk : up (varB xs.length) ++ up (Ser.packBits (bitsF xs)) = up (varB xs.length ++ (Ser.packBits (bitsF xs) ++ [])) := by rw [List.append_nil, up_append]
  have hpk2 : up (varB xs.length) ++ up (Ser.packBits (bitsF xs)) ++ bh = up (varB xs.length ++ (Ser.packBits (bitsF xs) ++ behind)) := by rw [HBE.out, up_append, up_append, List.append_assoc]
  have hpl : (up (varB xs.length) ++ up (Ser.packBits (bitsF xs))).length = (varB xs.length).length + (Ser.packBits (bitsF xs)).length := by rw [List.length_append, up_length, up_length]
  have hps : (up (varB xs.length) ++ up (Ser.packBits (bitsF xs))).length ≤ 40000 := by
    rw [hpl, varB_length, Ser.packBits_length]
    have := bitsF_length xs
    have := HM.out
    split <;> omega
  have f1 := back_facts xs behind HM.out HXLT.out HB256.out
  have f2 := back_facts xs [] HM.out HXLT.out (by simp)
  generalize up (varB xs.length) ++ up (Ser.packBits (bitsF xs)) = ps at *
  rw [← hpl] at f1 f2
  obtain ⟨l1, hl1⟩ : ∃ l, varB xs.length ++ (Ser.packBits (bitsF xs) ++ behind) = l := ⟨_, rfl⟩
  obtain ⟨l2, hl2⟩ : ∃ l, varB xs.length ++ (Ser.packBits (bitsF xs) ++ []) = l := ⟨_, rfl⟩
  rw [hl1] at f1 hpk2
  rw [hl2] at f2 hpk
  obtain ⟨D, dc, rfl⟩ := Kd.R_slice hv
  have HD := Aside0.mk hv
  have HV3 := Aside0.mk (Kd.R_below HV.out hb3)
  have HB3 := Aside0.mk (HB2.out.trans (hb3.mono HB2.out.size))
  have HS23 := Aside0.mk hb3.size
  have HB2S := Aside0.mk HB2.out.size
  have F1 := Aside0.mk f1
  have F2 := Aside0.mk f2
  have HPK := Aside0.mk hpk
  have HPK2 := Aside0.mk hpk2
  have HPS := Aside0.mk hps
  have HR13 := Aside0.mk (Kd.C_below HR1.out HB3.out)
  clear hv hb3 hpk hpk2 hpl hps f1 f2 hl1 hl2 HV HB2
  go_wp2_with (first | ((with_reducible refine gate_builtin (b := .append) (xs := #[.const (.slice none 0 0), .tmp 35]) rfl ?_); at_builtin; refine print_append_row_of (w0 := w3) (Value.int .u8) (0 : Int) w3.heap.size rfl (.const (.slice none 0 0)) (.tmp 35) 23 5 (.int .u8 0) 1 rfl Tryd.underlying23 info5 rfl (by decide) (fun _ => rfl) (.slice none 0 0) [] ps D ps.length dc rfl rfl (Kd.own_of_R (Kd.R_nil (Kd.int .u8) 5 w3 w3.heap.size (fun _ => True))) (Kd.reads_of_C (Kd.R_reads' HD.out).2.2) (Below.refl _ _) (Nat.le_refl _) (by simp only [List.length_nil]; have := HPS.out; omega) ?_
                        intro v1 w4 ho hb hg hat
                        have HP1 := Aside0.mk ho
                        have HP2 := Aside0.mk hb
                        have HR14 := Aside0.mk (Kd.C_below HR13.out (hb.mono (Nat.le_refl _)))
                        clear ho hb hg hat)
                     | ((with_reducible refine gate_builtin (b := .append) (xs := #[.tmp 36, .tmp 37]) rfl ?_); at_builtin; refine print_append_row_of (w0 := w3) (Value.int .u8) (0 : Int) w3.heap.size rfl (.tmp 36) (.tmp 37) 23 5 (.int .u8 0) 1 rfl Tryd.underlying23 info5 rfl (by decide) (fun _ => rfl) v1 ps bh A1 bh.length c1 rfl rfl HP1.out (Kd.reads_of_C HR14.out) HP2.out (below_size HP2.out) (by have := HPS.out; have := HBL.out; omega) ?_
                        intro v2 w5 ho hb hg hat
                        have hR : Kd.R (Kd.int .u8) 5 w5 w3.heap.size (fun _ => True) v2 (ps ++ bh) := Kd.R_of_own ho (fun _ _ => trivial)
                        have HJ := Aside0.mk hR
                        have HB35 := Aside0.mk hb
                        clear ho hb hg hat HP1 HP2 HR14 hR))
  obtain ⟨js, hjs⟩ : ∃ js, ps ++ bh = js := ⟨_, rfl⟩
  have hjl : js.length ≤ 140737488351232 := by rw [← hjs, List.length_append]; have := HPS.out; have := HBL.out; omega
  have hpk2 := HPK2.out
  rw [hjs] at hpk2 HJ
  obtain ⟨J, jc, rfl⟩ := Kd.R_slice HJ.out
  obtain ⟨_, hJc, hJC⟩ := Kd.R_reads' HJ.out
  obtain ⟨g1, g2, g3, g4⟩ := F1.out
  have hjl1 : l1.length ≤ 140737488351232 := by rw [← up_length, ← hpk2]; exact hjl
  have hcall := unpack_calls w5 J jc l1 js hpk2 g1 hjl1 40 xs.length (varB xs.length).length 0 (by rw [hpk2]; exact g2 hjl1) g4 hJC hJc
  rw [g3] at hcall
  have HB5 := Aside0.mk (HB3.out.trans (HB35.out.mono HB3.out.size))
  have HV5 := Aside0.mk (Kd.R_below HV3.out HB35.out)
  have HD5 := Aside0.mk (Kd.R_below HD.out HB35.out)
  have HS35 := Aside0.mk HB35.out.size
  clear hjs hjl hpk2 hJc hJC g1 g2 g3 g4 hjl1 HPK2 F1 HV3 HD HB35 HB3 HR13 HJ
  refine hcall.mono ?_
  rintro e w6 ⟨v, rfl, hv, hb6⟩
  clear hcall
  have HY := Aside0.mk hv
  have HB6 := Aside0.mk (HB5.out.trans (hb6.mono HB5.out.size))
  have HV6 := Aside0.mk (Kd.R_below HV5.out hb6)
  have HD6 := Aside0.mk (Kd.R_below HD5.out hb6)
  have HS56 := Aside0.mk hb6.size
  obtain ⟨Y, yc, rfl⟩ := Kd.R_slice hv
  clear hv hb6 HV5 HD5 HB5
  go_wp2_with fail
  obtain ⟨_, hDc, hDC⟩ := Kd.R_reads' HD6.out
  obtain ⟨g1, g2, g3, g4⟩ := F2.out
  have hl2 : l2.length ≤ 140737488351232 := by rw [← up_length, ← HPK.out]; have := HPS.out; omega
  have hcall := unpack_calls w6 D dc l2 ps HPK.out g1 hl2 40 xs.length (varB xs.length).length 0 (by rw [HPK.out]; exact g2 hl2) g4 hDC hDc
  rw [g3] at hcall
  clear g1 g2 g3 g4 hl2 hDc hDC F2 HPK
  refine hcall.mono ?_
  rintro e w7 ⟨v, rfl, hv, hb7⟩
  clear hcall
  have HZ := Aside0.mk (Kd.R_mono (Kd.R_bound hv) (ok' := fun k => w6.heap.size ≤ k) (fun k hk => hk.2.1))
  have HB7 := Aside0.mk (HB6.out.trans (hb7.mono HB6.out.size))
  have HV7 := Aside0.mk (Kd.R_below HV6.out hb7)
  have HY7 := Aside0.mk (Kd.R_below HY.out hb7)
  obtain ⟨Z, zc, rfl⟩ := Kd.R_slice hv
  have HYF : Aside0 (0 < xs.length → ∃ g, Y = some ⟨g, 0, none⟩ ∧ w5.heap.size ≤ g ∧ g < w6.heap.size) := ⟨fun hp => by
    obtain ⟨g, cap, he, h1, h2, _⟩ := Kd.R_form HY.out hp
    injection he with he
    exact ⟨g, he, h1, h2⟩⟩
  have HS67 := Aside0.mk hb7.size
  clear hv hb7 HV6 HD6 HB6 HY
  have hxe := eq_true_ xs (by have := HM.out; omega)
  have HXE := Aside0.mk hxe
  clear hxe
  go_wp2_with fail
  refine (flumelaw5_eq.calls (xs.length + 1) Y yc xs V vc xs true w7 (Kd.R_reads' HY7.out).2.2 (Kd.R_reads' HY7.out).2.1 (Kd.R_reads' HV7.out).2.2 (Kd.R_reads' HV7.out).2.1 HXE.out).mono ?_
  rintro e w8 ⟨rfl, hdr⟩
  have HB8 := Aside0.mk (HB7.out.trans (hdr.below.mono HB7.out.size))
  have HV8 := Aside0.mk (Kd.R_below HV7.out hdr.below)
  have HY8 := Aside0.mk (Kd.R_below HY7.out hdr.below)
  have HZ8 := Aside0.mk (Kd.R_below HZ.out hdr.below)
  clear hdr HV7 HY7 HZ HB7
  go_wp2_with fail
  refine (flumelaw5_eq.calls (xs.length + 1) Z zc xs V vc xs true w8 (Kd.R_reads' HZ8.out).2.2 (Kd.R_reads' HZ8.out).2.1 (Kd.R_reads' HV8.out).2.2 (Kd.R_reads' HV8.out).2.1 HXE.out).mono ?_
  rintro e w9 ⟨rfl, hdr⟩
  have HB9 := Aside0.mk (HB8.out.trans (hdr.below.mono HB8.out.size))
  have HV9 := Aside0.mk (Kd.R_below HV8.out hdr.below)
  have HY9 := Aside0.mk (Kd.R_below HY8.out hdr.below)
  have HZ9 := Aside0.mk (Kd.R_bound (Kd.R_below HZ8.out hdr.below))
  obtain ⟨gy, hgy1, hgy2, hgy3⟩ : ∃ gy, w5.heap.size ≤ gy ∧ (gy < w6.heap.size ∨ w9.heap.size ≤ gy) ∧ (0 < xs.length → Y = some ⟨gy, 0, none⟩) := by
    by_cases hp : 0 < xs.length
    · obtain ⟨g, h1, h2, h3⟩ := HYF.out hp
      exact ⟨g, h2, .inl h3, fun _ => h1⟩
    · exact ⟨w5.heap.size + w9.heap.size, Nat.le_add_right _ _, .inr (Nat.le_add_left _ _), fun h => absurd h hp⟩
  have HGY1 := Aside0.mk hgy1
  have HGY2 := Aside0.mk hgy2
  have HGY3 := Aside0.mk hgy3
  clear hgy1 hgy2 hgy3 HYF
  clear hdr HV8 HY8 HZ8 HB8
  go_wp2_with fail
  obtain ⟨N, hN⟩ : ∃ N, xs.length = N := ⟨_, rfl⟩
  rw [hN]
  have HN := Aside0.mk hN
  clear hN
  go_loopg [14] N (fun m v14 wr => ∃ (j : Nat) (ys : List Nat), m + j = N ∧ v14 = .int .i64 j ∧ Aside0 (ys.length = N) ∧ Aside0 (Kd.R Kd.fl 33 wr w5.heap.size (fun _ => True) (.slice Y N yc) ys) ∧ Aside0 (Below w.heap.size w wr) ∧ Aside0 (KeepBut w9 wr gy none))
  case atStart => exact ⟨0, xs, rfl, rfl, HN, by rw [← HN.out]; exact HY9, HB9, ⟨KeepBut.refl _ _ _⟩⟩
  case round =>
    clear HY9 HB9
    obtain ⟨j, ys, hj, rfl, HYL, HYR, HB, HK⟩ := hrel
    cases gk with
    | zero =>
      have hlt : decide ((j : Int) < (N : Int)) = false := by simp; omega
      have hlt2 : decide (j < N) = false := by simp; omega
      obtain rfl : j = N := by omega
      clear hj
      have HZ10 := Aside0.mk (Kd.R_keep HZ9.out HK.out (fun k hk => by
        have h1 := hk.1
        have h2 := hk.2.2.1
        rcases HGY2.out with h | h <;> omega))
      have HV10 := Aside0.mk (Kd.R_keep HV9.out HK.out (fun k hk => by have := HGY1.out; have := HS23.out; have := HS35.out; omega))
      have hne := HN.out
      have hz10 := HZ10.out
      have hv10 := HV10.out
      rw [hne] at hz10 hv10
      go_wp2_with fail
      have hcall := flumelaw5_eq.calls (xs.length + 1) Z zc xs V vc xs true wr (Kd.R_reads' HZ10.out).2.2 (Kd.R_reads' HZ10.out).2.1 (Kd.R_reads' HV10.out).2.2 (Kd.R_reads' HV10.out).2.1 HXE.out
      rw [hne] at hcall
      refine hcall.mono ?_
      rintro e w10 ⟨rfl, hdr⟩
      have HB10 := Aside0.mk (HB.out.trans (hdr.below.mono HB.out.size))
      clear hdr hcall hz10 hv10
      go_wp2_with fail
      go_ret
      exact ⟨rfl, HB10.out⟩
    | succ m =>
      have hlt : decide ((j : Int) < (N : Int)) = true := by simp; omega
      have hlt2 : decide (j < N) = true := by simp; omega
      have hY : Y = some ⟨gy, 0, none⟩ := HGY3.out (by have := HN.out; omega)
      subst hY
      have hj1 : wrap64 ((j : Int) + 1) = ((j + 1 : Nat) : Int) := w64_succ j (by have := HM.out; have := HN.out; omega)
      have hyl := HYL.out
      have hR := HYR.out
      rw [← hyl] at hR
      obtain ⟨d1, f1⟩ := Kd.R_cell (0 : Nat) hR (j : Int) (by omega) (by omega)
      have hput := (Kd.R_put hR (j : Int) 13837309855095848960).1
      rw [Int.toNat_natCast] at d1 f1 hput
      rw [hyl] at hput
      generalize rdOf (0 : Nat) ys (j : Int) = y at d1
      have HPUT := Aside0.mk hput
      have HJ := Aside0.mk hj
      have HYL2 : Aside0 ((ys.set j 13837309855095848960).length = N) := ⟨by rw [List.length_set]; exact hyl⟩
      have p0 : (0 : Int) ≤ (j : Int) := by omega
      have p1 : (j : Int) < (N : Int) := by have := HJ.out; omega
      clear hyl hR hput hj HYL
      go_wp2_with fail
      go_roundg m
      case measure => omega
      case rel => exact ⟨j + 1, ys.set j 13837309855095848960, by have := HJ.out; omega, by first | rfl | rw [hj1], HYL2, HPUT, ⟨HB.out.setCell (p := ⟨gy, j, none⟩) (by have := HGY1.out; have := HS35.out; have := HS23.out; have := HB2S.out; show w.heap.size ≤ gy; omega) _⟩, ⟨KeepBut.set_ HK.out j _⟩⟩
end Go.Proofs.YtlibddklalbmeaaDoor
