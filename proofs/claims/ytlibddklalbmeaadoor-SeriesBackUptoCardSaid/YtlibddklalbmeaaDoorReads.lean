/- SeriesReads walked: any bytes are read as the reference reads them, and what is read, packed, is what was read. -/
import Derived.Test.YtlibddklalbmeaaDoorBack
import Derived.Test.YtlibddklalbmeaaDoorForth
namespace Go.Proofs.YtlibddklalbmeaaDoor
open Go.RowKit Go.Proofs.YtlibddklalbmeaaDoor.QA Go.Proofs.YtlibddklalbmeaaDoorW.PrintWords Go.Proofs.YtlibddklalbmeaaDoorW.PrintLast Go.Proofs.YtlibddklalbmeaaDoorW.PrintMore
attribute [local go_sem] max2_int min2_int fl_store fl_bits fl_frombits
set_option linter.unusedVariables false
set_option linter.unusedSimpArgs false

theorem Eq_loop (l : List Int) (hl : l.length ≤ 140737488355328) : ∀ (d j k : Nat), j + d = l.length → d < k → flumelaw1_Eq.l0 k l l (j : Int) = some true := by
  intro d
  induction d with
  | zero =>
    intro j k hj hk
    obtain ⟨k, rfl⟩ : ∃ m, k = m + 1 := ⟨k - 1, by omega⟩
    rw [flumelaw1_Eq.l0, if_neg (by omega)]
  | succ d ih =>
    intro j k hj hk
    obtain ⟨k, rfl⟩ : ∃ m, k = m + 1 := ⟨k - 1, by omega⟩
    rw [flumelaw1_Eq.l0, if_pos (by omega), if_pos (by omega), if_pos (by omega), if_pos rfl, w64_succ j (by omega)]
    exact ih (j + 1) k (by omega) (by omega)
theorem Eq_true (l : List Int) (hl : l.length ≤ 140737488355328) : flumelaw1_Eq.f (l.length + 1) l l = some true := by
  have := Eq_loop l hl l.length 0 (l.length + 1) (by omega) (by omega)
  simpa [flumelaw1_Eq.f] using this

theorem eq_loop (l : List Nat) (hl : l.length ≤ 140737488355328) : ∀ (d j k : Nat), j + d = l.length → d < k → flumelaw5_eq.l0 k l l (j : Int) = some true := by
  intro d
  induction d with
  | zero =>
    intro j k hj hk
    obtain ⟨k, rfl⟩ : ∃ m, k = m + 1 := ⟨k - 1, by omega⟩
    rw [flumelaw5_eq.l0, if_neg (by omega)]
  | succ d ih =>
    intro j k hj hk
    obtain ⟨k, rfl⟩ : ∃ m, k = m + 1 := ⟨k - 1, by omega⟩
    rw [flumelaw5_eq.l0, if_pos (by omega), if_pos (by omega), if_pos (by omega), flumelaw3_Bits.f, Option.bind_some, if_pos (beq_self_eq_true _), w64_succ j (by omega)]
    exact ih (j + 1) k (by omega) (by omega)
theorem eq_true_ (l : List Nat) (hl : l.length ≤ 140737488355328) : flumelaw5_eq.f (l.length + 1) l l = some true := by
  have := eq_loop l hl l.length 0 (l.length + 1) (by omega) (by omega)
  simpa [flumelaw5_eq.f] using this

/-- An element of a list of rows. -/
theorem at_rows {w : World} {A : Option Addr} {n : Nat} {xs : List (List Int)} (h : (Kd.slice 5 (Kd.int .u8)).C w A n xs) (i : Nat) (hi : i < n) :
    ∃ ad B cc, A = some ad ∧ w.cell? (ad.add i) = some (.slice B (xs.getD i []).length cc) ∧ (xs.getD i []).length ≤ cc ∧ Kd.C (Kd.int .u8) w B (xs.getD i []).length (xs.getD i []) := by
  obtain ⟨h1, h2, h3⟩ := h
  obtain ⟨ad, rfl, hc⟩ := h3 (by omega)
  have hx : xs[i]? = some (xs.getD i []) := by rw [List.getD_eq_getElem?_getD, List.getElem?_eq_getElem (by omega)]; rfl
  obtain ⟨cs, hlen, ⟨B, cc, rfl, hle, hC⟩, hcell⟩ := hc i _ hx
  refine ⟨ad, B, cc, rfl, ?_, hle, hC⟩
  have := hcell 0 _ rfl
  simpa [Kd.slice] using this

theorem ofNat_up (bs : List Int) (h : ∀ x ∈ bs, 0 ≤ x ∧ x < 256) : ∃ l : List Nat, bs = up l ∧ ∀ x ∈ l, x < 256 := by
  refine ⟨bs.map Int.toNat, ?_, ?_⟩
  · unfold up
    rw [List.map_map]
    have : bs.map ((fun n : Nat => (n : Int)) ∘ Int.toNat) = bs.map id := List.map_congr_left (fun x hx => by have := (h x hx).1; simp; omega)
    exact (this.trans (List.map_id bs)).symm
  · intro x hx
    obtain ⟨y, hy, rfl⟩ := List.mem_map.1 hx
    have := h y hy
    omega

theorem unpackF_err (l : List Nat) (cnt z er : Nat) : (unpackF l cnt z er).1 = 0 ∨ (unpackF l cnt z er).2.1 = [] := by
  unfold unpackF
  split
  · split
    · exact .inr rfl
    · unfold endF
      split
      · split
        · exact .inl rfl
        · exact .inr rfl
      · exact .inr rfl
  · exact .inr rfl

theorem C_front {w : World} {base g cap : Nat} {bs : List Int} (h : Kd.R (Kd.int .u8) 5 w base (fun _ => True) (.slice (some ⟨g, 0, none⟩) (bs.length + 2) cap) (bs ++ [171, 172])) :
    Kd.C (Kd.int .u8) w (some ⟨g, 0, none⟩) bs.length bs ∧ bs.length ≤ cap := by
  obtain ⟨h1, h2, h3⟩ := Kd.R_reads' h
  have h4 := Kd.C_take (m := bs.length) h3 (by simp)
  rw [List.take_left] at h4
  exact ⟨h4, by omega⟩

set_option maxHeartbeats 8000000 in
set_option maxRecDepth 100000 in
theorem reads_calls (w : World) (A : Option Addr) (c : Nat) (bss : List (List Int)) (hT : TabAt 1 Lib.deBruijn64tab w) (hr : (Kd.slice 5 (Kd.int .u8)).C w A bss.length bss)
    (hb : ∀ bs ∈ bss, ∀ x ∈ bs, 0 ≤ x ∧ x < 256) (hl : ∀ bs ∈ bss, bs.length ≤ 140737488351232) :
    Calls Tryd.prog 4 #[.slice A bss.length c] w fun e w' => e = .returned (.bool true) ∧ Below w.heap.size w w' := by
  have HT := Aside0.mk hT
  have HR := Aside0.mk hr
  have HBY := Aside0.mk hb
  have HLL := Aside0.mk hl
  obtain ⟨N, hN⟩ : ∃ N, N = bss.length := ⟨_, rfl⟩
  have hNmax : N ≤ 9223372036854775807 := by rw [hN]; exact hr.2.1
  rw [← hN]
  have HN := Aside0.mk hN
  have HNM := Aside0.mk hNmax
  clear hT hr hb hl hN hNmax
  go_enter Tryd.func4, Tryd.ntmps4
  go_wp2_with fail
  refine (begun_calls w HT.out).mono ?_
  rintro e w1 ⟨rfl, hb1⟩
  have HB1 := Aside0.mk hb1
  clear hb1
  go_wp2_with fail
  go_loopg [3] N (fun m v3 wr => ∃ j : Nat, m + j = N ∧ v3 = .int .i64 j ∧ Aside0 (Below w.heap.size w wr))
  case atStart => exact ⟨0, rfl, rfl, HB1⟩
  case round =>
    clear HB1
    obtain ⟨j, hj, rfl, HB⟩ := hrel
    cases gk with
    | zero =>
      have hlt : decide ((j : Int) < (N : Int)) = false := by simp; omega
      have hlt2 : decide (j < N) = false := by simp; omega
      obtain rfl : j = N := by omega
      clear hj
      go_wp2_with fail
      go_ret
      exact ⟨rfl, HB.out⟩
    | succ m =>
      have hlt : decide ((j : Int) < (N : Int)) = true := by simp; omega
      have hlt2 : decide (j < N) = true := by simp; omega
      by_cases h40 : j < 40
      · have h41 : decide ((j : Int) < 40) = true := by simp; omega
        have hj1 : wrap64 ((j : Int) + 1) = ((j + 1 : Nat) : Int) := w64_succ j (by omega)
        have hjb : j < bss.length := by rw [← HN.out]; omega
        obtain ⟨ad, B, cc, hA, hcl, hle, hC⟩ := at_rows HR.out j hjb
        subst hA
        have hmem : bss.getD j [] ∈ bss := by
          rw [List.getD_eq_getElem?_getD, List.getElem?_eq_getElem hjb]; exact List.getElem_mem hjb
        have hlb := HLL.out _ hmem
        obtain ⟨l, hup, hlt256⟩ := ofNat_up _ (HBY.out _ hmem)
        generalize bss.getD j [] = bs at *
        have hblk := World.block_lt_of_cell? w _ hcl
        have hcr := pw_cell_below HB.out hcl
        have HCL := Aside0.mk hcl
        have HC := Aside0.mk (Kd.C_below hC HB.out)
        have HCW := Aside0.mk hC
        have HB0 := Aside0.mk HB.out
        have HLE := Aside0.mk hle
        have HLB := Aside0.mk hlb
        have HUP := Aside0.mk hup
        have H256 := Aside0.mk hlt256
        have HJ := Aside0.mk hj
        have HBLK : Aside0 (∀ ad2, B = some ad2 → 0 < bs.length → ad2.block < w.heap.size) := ⟨fun ad2 h2 h3 => by
          subst h2; exact Kd.C_lt hC h3 (by decide)⟩
        have p0 : (0 : Int) ≤ (j : Int) := by omega
        have p1 : (j : Int) < (N : Int) := by have := HJ.out; omega
        clear hcl hC hle hlb hup hlt256 hj hmem hjb hblk HLL HBY HR
        go_wp2_with fail
        refine (lent_calls wr B cc bs HLB.out HC.out HLE.out).mono ?_
        rintro e w2 ⟨g, cap, rfl, hO, hb2⟩
        have HB2 := Aside0.mk (HB.out.trans (hb2.mono HB.out.size))
        have HO := Aside0.mk hO
        have hgl : wr.heap.size ≤ g := Kd.R_base hO g (by simp [Value.ownBlock])
        have hgl2 : g < w2.heap.size := Kd.R_lt hO g (by simp [Value.ownBlock])
        have HC2 := Aside0.mk (Kd.C_below HC.out hb2)
        have HWR2 := Aside0.mk hb2
        have HGL := Aside0.mk hgl
        have HGL2 := Aside0.mk hgl2
        have hcr2 := pw_cell_below HB2.out HCL.out
        clear hO hb2 hgl hgl2 hcr HB
        go_wp2_with fail
        have hll : l.length ≤ 140737488351232 := by have := HLB.out; rw [HUP.out, up_length] at this; exact this
        have hz := rv_place l 10 0 0
        have hvp := prog_read l H256.out hll
        have hvr := ref_read l H256.out hll
        rw [← HUP.out] at hvp hvr
        have hpu := pack_unpack l H256.out
        obtain ⟨⟨cnt, z, er0⟩, hrv⟩ : ∃ r, rvF l 10 0 0 = r := ⟨_, rfl⟩
        rw [hrv] at hz hvp hvr hpu
        dsimp only at hz hvp hvr hpu
        have hue := unpackF_err l cnt z er0
        obtain ⟨hCf, hcapf⟩ := C_front HO.out
        have HLLN := Aside0.mk hll
        have HZ := Aside0.mk hz
        have HVR := Aside0.mk hvr
        have HPU := Aside0.mk hpu
        have hcall := unpack_calls w2 (some ⟨g, 0, none⟩) cap l bs HUP.out H256.out hll 40 cnt z er0 hvp hz hCf hcapf
        have hcallR := fun w3 (h3 : Kd.C (Kd.int .u8) w3 B bs.length bs) => refunpack_calls w3 B cc l bs HUP.out H256.out HLLN.out 40 cnt z er0 HVR.out HZ.out h3 HLE.out
        obtain ⟨⟨er, xs, n⟩, hu⟩ : ∃ r, unpackF l cnt z er0 = r := ⟨_, rfl⟩
        rw [hu] at hcall hue
        simp only [hu] at hcallR
        have HU := Aside0.mk hu
        have HCALLR := Aside0.mk hcallR
        have hxl : xs.length ≤ 4096 := by
          rcases hue with h | h
          · have h : er = 0 := h
            subst h
            exact (hpu xs n hu).1
          · have h : xs = [] := h
            rw [h]; decide
        have HXL := Aside0.mk hxl
        clear hz hvp hvr hpu hue hCf hcapf hll hu hcallR hrv hxl
        refine hcall.mono ?_
        rintro e w3 ⟨v, rfl, hv, hb3⟩
        clear hcall
        have HX := Aside0.mk hv
        have HB3 := Aside0.mk (HB2.out.trans (hb3.mono HB2.out.size))
        have HO3 := Aside0.mk (Kd.R_below HO.out hb3)
        have HC3 := Aside0.mk (Kd.C_below HC2.out hb3)
        have HWR3 := Aside0.mk (HWR2.out.trans (hb3.mono HWR2.out.size))
        have hcr3 := pw_cell_below HB3.out HCL.out
        have hs3 := hb3.size
        have HS3 := Aside0.mk hs3
        clear hv hb3 hcr2 HO HC2 hs3
        go_wp2_with fail
        refine (HCALLR.out w3 HC3.out).mono ?_
        rintro e w4 ⟨v2, rfl, hv, hb4⟩
        have HY := Aside0.mk hv
        have HX4 := Aside0.mk (Kd.R_below HX.out hb4)
        have HB4 := Aside0.mk (HB3.out.trans (hb4.mono HB3.out.size))
        have HO4 := Aside0.mk (Kd.R_below HO3.out hb4)
        have HC4 := Aside0.mk (Kd.C_below HC3.out hb4)
        have HWR4 := Aside0.mk (HWR3.out.trans (hb4.mono HWR3.out.size))
        have hcr4 := pw_cell_below HB4.out HCL.out
        obtain ⟨V, vc, rfl⟩ := Kd.R_slice HX4.out
        obtain ⟨V2, vc2, rfl⟩ := Kd.R_slice HY.out
        have hs4 := hb4.size
        have HS4 := Aside0.mk hs4
        clear hv hb4 hcr3 HX HO3 HC3 HB3 HCALLR hs4
        go_wp2_with fail
        have hxe := eq_true_ xs (by have := HXL.out; omega)
        have HXE := Aside0.mk hxe
        clear hxe
        refine (flumelaw5_eq.calls (xs.length + 1) V vc xs V2 vc2 xs true w4 (Kd.R_reads' HX4.out).2.2 (Kd.R_reads' HX4.out).2.1 (Kd.R_reads' HY.out).2.2 (Kd.R_reads' HY.out).2.1 HXE.out).mono ?_
        rintro e w5 ⟨rfl, hdr⟩
        have hb5 := hdr.below
        have HX5 := Aside0.mk (Kd.R_below HX4.out hb5)
        have HY5 := Aside0.mk (Kd.R_below HY.out hb5)
        have HB5 := Aside0.mk (HB4.out.trans (hb5.mono HB4.out.size))
        have HO5 := Aside0.mk (Kd.R_below HO4.out hb5)
        have HC5 := Aside0.mk (Kd.C_below HC4.out hb5)
        have HWR5 := Aside0.mk (HWR4.out.trans (hb5.mono HWR4.out.size))
        have hcr5 := pw_cell_below HB5.out HCL.out
        clear hdr hb5 HX4 HY HB4 HO4 HC4 HWR4 hcr4
        go_wp2_with fail
        refine (back_calls wr w5 g cap B cc bs HLB.out HC5.out HLE.out HWR5.out HGL.out (fun ad2 h2 h3 => by have := HBLK.out ad2 h2 h3; have := HB0.out.size; have := HGL.out; omega) HO5.out).mono ?_
        rintro e w6 ⟨rfl, hb6, hk6⟩
        have HB6 := Aside0.mk (HB0.out.trans (hb6.mono HB0.out.size))
        have HX6 : Aside0 (Kd.R Kd.fl 33 w6 w2.heap.size (fun _ => True) (.slice V xs.length vc) xs) :=
          ⟨Kd.R_mono (Kd.R_keep (Kd.R_bound HX5.out) hk6 (fun k hk => by have := hk.2.1; have := HGL2.out; omega)) (fun _ _ => trivial)⟩
        have HY6 : Aside0 (Kd.R Kd.fl 33 w6 w3.heap.size (fun _ => True) (.slice V2 xs.length vc2) xs) :=
          ⟨Kd.R_mono (Kd.R_keep (Kd.R_bound HY5.out) hk6 (fun k hk => by have := hk.2.1; have := HGL2.out; have := HS3.out; omega)) (fun _ _ => trivial)⟩
        have hcr6 := pw_cell_below HB6.out HCL.out
        clear hb6 hk6 HX5 HY5 HB5 HO5 HC5 HWR5 hcr5 HWR2 HWR3
        go_wp2_with fail
        refine (flumelaw5_eq.calls (xs.length + 1) V vc xs V2 vc2 xs true w6 (Kd.R_reads' HX6.out).2.2 (Kd.R_reads' HX6.out).2.1 (Kd.R_reads' HY6.out).2.2 (Kd.R_reads' HY6.out).2.1 HXE.out).mono ?_
        rintro e w7 ⟨rfl, hdr⟩
        have hb7 := hdr.below
        have HX7 := Aside0.mk (Kd.R_below HX6.out hb7)
        have HB7 := Aside0.mk (HB6.out.trans (hb7.mono HB6.out.size))
        have hcr7 := pw_cell_below HB7.out HCL.out
        clear hdr hb7 HX6 HY6 HB6 hcr6
        by_cases her : er = 0
        · subst her
          obtain ⟨hx1, hx2, hx3, hx4⟩ := HPU.out xs n HU.out
          have HX2 := Aside0.mk hx2
          have HX3 := Aside0.mk hx3
          have HX4 := Aside0.mk hx4
          clear hx1 hx2 hx3 hx4
          go_wp2_with fail
          refine (pack_calls w7 V vc xs (up (varB xs.length)) 20 HXL.out HX2.out (varint_eq xs.length HXL.out) (by rw [up_length, varB_length]; split <;> decide) (tab_below HT.out HB7.out) (Kd.R_reads' HX7.out).2.2).mono ?_
          rintro e w8 ⟨v, rfl, hv, hb8⟩
          have hpk : up (varB xs.length) ++ up (Ser.packBits (bitsF xs)) = bs.take n := by
            rw [← up_append, HX4.out, HUP.out]; simp [up, List.map_take]
          rw [hpk] at hv
          have HB8 := Aside0.mk (HB7.out.trans (hb8.mono HB7.out.size))
          have hcr8 := pw_cell_below HB8.out HCL.out
          have hnl : n ≤ bs.length := by have := HX3.out; rw [HUP.out, up_length]; exact this
          have hcut := cut_to (P := Tryd.prog) 23 5 .i64 Tryd.underlying23 (i := (Tryd.prog.info? 5).get (by kernel_rfl)) (by kernel_rfl) B bs.length cc (n : Int) (by omega) (by omega) HLE.out
          have htl : (bs.take n).length = n := by rw [List.length_take]; omega
          have hC8 := Kd.C_take (m := n) (Kd.C_below HCW.out HB8.out) hnl
          rw [htl] at hC8
          generalize hps : bs.take n = ps at *
          obtain ⟨D, dc, rfl⟩ := Kd.R_slice hv
          rw [htl] at hv ⊢
          have HV := Aside0.mk hv
          have HC8 := Aside0.mk hC8
          have HTL := Aside0.mk htl
          have HNL := Aside0.mk hnl
          rw [Int.toNat_natCast] at hcut
          clear hv hC8 htl hnl hb8 hpk hps hcr7 HX7 HB7
          go_wp2_with fail
          have hEq := Eq_true ps (by have := HTL.out; have := HNL.out; have := HLB.out; omega)
          have HEQ := Aside0.mk hEq
          clear hEq
          obtain ⟨hv1, hv2, hv3⟩ := Kd.R_reads' HV.out
          have hcN : ps.length ≤ cc := by have := HTL.out; have := HNL.out; have := HLE.out; omega
          have hcall := flumelaw1_Eq.calls (ps.length + 1) D dc ps B cc ps true w8 hv3 (by have := HTL.out; omega) (by have := HC8.out; rw [HTL.out]; exact this) hcN HEQ.out
          rw [HTL.out] at hcall
          clear hv1 hv2 hv3 hcN
          refine hcall.mono ?_
          rintro e w9 ⟨rfl, hdr⟩
          have HB9 := Aside0.mk (HB8.out.trans (hdr.below.mono HB8.out.size))
          clear hdr HB8 HV HC8 hcr8 hcall
          go_wp2_with fail
          go_roundg m
          case measure => omega
          case rel => exact ⟨j + 1, by have := HJ.out; omega, by first | rfl | rw [hj1], HB9⟩
        · have hd0 : ((er : Int) == 0) = false := by simpa using her
          have hd1 : ((er : Int) != 0) = true := by simpa using her
          have HER := Aside0.mk her
          clear her
          go_wp2_with fail
          go_roundg m
          case measure => omega
          case rel => exact ⟨j + 1, by have := HJ.out; omega, by first | rfl | rw [hj1], HB7⟩
      · have h41 : decide ((j : Int) < 40) = false := by simp; omega
        clear hj h40
        go_wp2_with fail
        go_ret
        exact ⟨rfl, HB.out⟩
end Go.Proofs.YtlibddklalbmeaaDoor
