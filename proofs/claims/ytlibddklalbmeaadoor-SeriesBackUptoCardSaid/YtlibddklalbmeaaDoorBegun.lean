/- The calls with fixed answers that every statement asks ahead: they answer as they should. -/
import Derived.Test.YtlibddklalbmeaaDoorLaws
namespace Go.Proofs.YtlibddklalbmeaaDoor
open Go.RowKit Go.Proofs.YtlibddklalbmeaaDoor.QA Go.Proofs.YtlibddklalbmeaaDoorW.PrintWords Go.Proofs.YtlibddklalbmeaaDoorW.PrintLast Go.Proofs.YtlibddklalbmeaaDoorW.PrintMore
attribute [local go_sem] max2_int min2_int fl_store fl_bits fl_frombits
set_option linter.unusedVariables false
set_option linter.unusedSimpArgs false

/-- A row that was just made out of cells: it reads as what it was made of. -/
theorem C_made {α : Type} (enc : α → Value) (d : α) (h1 : ∀ x, (enc x).oneCell' = true) (W : World) (e : TypeId) (xs : List α) (hn : xs.length ≤ 9223372036854775807) :
    Kd.C (Kd.scalar enc h1) (W.alloc (.cells (xs.map enc).toArray e)) (some ⟨W.heap.size, 0, none⟩) xs.length xs := by
  refine Kd.C_of_reads (d := d) ⟨rfl, hn, fun _ => ⟨_, rfl, fun j hj => ?_⟩⟩
  have h := blk_cell (blk_new W (.cells (xs.map enc).toArray e)) j
  have e1 : (⟨W.heap.size, 0, none⟩ : Addr).add j = ⟨W.heap.size, j, none⟩ := by simp [Addr.add]; intro h; exact h.symm
  rw [e1, h]
  simp [List.getD_eq_getElem?_getD, hj]

set_option maxHeartbeats 4000000 in
set_option maxRecDepth 100000 in
theorem begun_calls (w : World) (hT : TabAt 1 Lib.deBruijn64tab w) :
    Calls Tryd.prog 7 #[] w fun e w' => e = .returned (.bool true) ∧ Below w.heap.size w w' := by
  have HT := Aside0.mk hT
  clear hT
  obtain ⟨xs, hxs⟩ : ∃ xs : List Nat, xs = [4607182418800017408, 13830554455654793216] := ⟨_, rfl⟩
  obtain ⟨bs, hbs⟩ : ∃ bs : List Int, bs = [1, 0] := ⟨_, rfl⟩
  obtain ⟨cs, hcs⟩ : ∃ cs : List Int, cs = [2, 63, 240, 0, 0, 0, 0, 0, 0, 128, 4] := ⟨_, rfl⟩
  have HXS := Aside0.mk hxs
  have HBS := Aside0.mk hbs
  have HCS := Aside0.mk hcs
  go_enter Tryd.func7, Tryd.ntmps7
  go_wp2_with fail
  have c1 := C_made (Value.float .f64) 0 (fun _ => rfl) w 33 xs (by rw [hxs]; decide)
  have hw1 : w.alloc (.cells #[.float .f64 4607182418800017408, .float .f64 13830554455654793216] 33) = w.alloc (.cells (xs.map (Value.float .f64)).toArray 33) := by rw [hxs]; rfl
  have hb1 : Below w.heap.size w (w.alloc (.cells (xs.map (Value.float .f64)).toArray 33)) := below_alloc (Below.refl _ _) _
  rw [hw1, show (2 : Nat) = xs.length by rw [hxs]; rfl]
  have HB1 := Aside0.mk hb1
  generalize w.alloc (.cells (xs.map (Value.float .f64)).toArray 33) = w1 at *
  refine (pack_calls w1 _ _ xs [2] 20 (by rw [hxs]; decide) (by rw [hxs]; decide) (by rw [hxs]; rfl) (by decide) (tab_below HT.out HB1.out) c1).mono ?_
  rintro e w2 ⟨v, rfl, hv, hb2⟩
  have hv2 : ([2] ++ up (Ser.packBits (bitsF xs))) = cs := by rw [hxs, hcs]; decide
  rw [hv2] at hv
  obtain ⟨B, cc, rfl⟩ := Kd.R_slice hv
  have HV := Aside0.mk hv
  have HB2 := Aside0.mk (HB1.out.trans (hb2.mono HB1.out.size))
  clear hv hb2 c1 hw1 hb1 HB1 hv2 hxs hbs hcs
  go_wp2_with fail
  have c2 := C_made (Value.int .u8) 0 (fun _ => rfl) w2 5 bs (by rw [HBS.out]; decide)
  have hw2 : w2.alloc (.cells #[.int .u8 1, .int .u8 0] 5) = w2.alloc (.cells (bs.map (Value.int .u8)).toArray 5) := by rw [HBS.out]; rfl
  have hb3 : Below w2.heap.size w2 (w2.alloc (.cells (bs.map (Value.int .u8)).toArray 5)) := below_alloc (Below.refl _ _) _
  rw [hw2, show (2 : Nat) = bs.length by rw [HBS.out]; rfl]
  have HV2 := Aside0.mk (Kd.R_below HV.out hb3)
  have HB3 := Aside0.mk (HB2.out.trans (hb3.mono HB2.out.size))
  generalize w2.alloc (.cells (bs.map (Value.int .u8)).toArray 5) = w3 at *
  have hup : unpackF [1, 0] 1 1 0 = (2, [], 0) := by decide
  refine (unpack_calls w3 _ _ [1, 0] bs (by rw [HBS.out]; rfl) (by decide) (by decide) 20 1 1 0 (by rw [HBS.out]; kernel_rfl) (by decide) c2 (Nat.le_refl _)).mono ?_
  rintro e w4 ⟨v, rfl, hv4, hb4⟩
  rw [hup] at hv4
  have HV4 := Aside0.mk (Kd.R_below HV2.out hb4)
  have HB4 := Aside0.mk (HB3.out.trans (hb4.mono HB3.out.size))
  clear hv4 hb4 c2 hw2 hb3 HB2 HB3 HV HV2
  simp only [hup]
  go_wp2_with fail
  have c3 := C_made (Value.int .u8) 0 (fun _ => rfl) w4 5 cs (by rw [HCS.out]; decide)
  have hw4 : w4.alloc (.cells #[.int .u8 2, .int .u8 63, .int .u8 240, .int .u8 0, .int .u8 0, .int .u8 0, .int .u8 0, .int .u8 0, .int .u8 0, .int .u8 128, .int .u8 4] 5) = w4.alloc (.cells (cs.map (Value.int .u8)).toArray 5) := by rw [HCS.out]; rfl
  have hb5 : Below w4.heap.size w4 (w4.alloc (.cells (cs.map (Value.int .u8)).toArray 5)) := below_alloc (Below.refl _ _) _
  rw [hw4, show (11 : Nat) = cs.length by rw [HCS.out]; rfl]
  have HV5 := Aside0.mk (Kd.R_below HV4.out hb5)
  have HB5 := Aside0.mk (HB4.out.trans (hb5.mono HB4.out.size))
  generalize w4.alloc (.cells (cs.map (Value.int .u8)).toArray 5) = w5 at *
  obtain ⟨hcc, hvc⟩ : cs.length ≤ cc ∧ Kd.C (Kd.int .u8) w5 B cs.length cs := by
    exact (Kd.R_reads' HV5.out).2
  refine (flumelaw1_Eq.calls 30 _ _ cs _ _ cs true w5 hvc hcc c3 (Nat.le_refl _) (by rw [HCS.out]; kernel_rfl)).mono ?_
  rintro e w6 ⟨rfl, hdr⟩
  have HB6 := Aside0.mk (HB5.out.trans (hdr.below.mono HB5.out.size))
  clear hdr hvc c3 hw4 hb5
  go_wp2_with fail
  go_ret
  exact ⟨rfl, HB6.out⟩
end Go.Proofs.YtlibddklalbmeaaDoor
