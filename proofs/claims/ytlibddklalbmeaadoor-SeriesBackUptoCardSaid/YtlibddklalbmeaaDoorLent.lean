/- Lent and Back walked: bytes in memory of their own with a mark behind; and the look whether they are as they were. -/
import Derived.Test.YtlibddklalbmeaaDoorBegun
import Derived.BigQuiet
namespace Go.Proofs.YtlibddklalbmeaaDoor
open Go.RowKit Go.Proofs.YtlibddklalbmeaaDoor.QA Go.Proofs.YtlibddklalbmeaaDoorW.PrintWords Go.Proofs.YtlibddklalbmeaaDoorW.PrintLast Go.Proofs.YtlibddklalbmeaaDoorW.PrintMore
attribute [local go_sem] max2_int min2_int fl_store fl_bits fl_frombits
set_option linter.unusedVariables false
set_option linter.unusedSimpArgs false

theorem cut_room_of {P : Program} (t e : TypeId) (kh : IntKind) {i : TypeInfo} (ht : P.underlying t = some (.slice e)) (hi : P.info? e = some i) (A : Option Addr) (n c j : Nat) (hj : j ≤ c) :
    ∀ W : World, (Instr.slice t (.slice A n c) none (some (.int kh (j : Int))) none).run P W = .ok (.slice A j c) W := by
  intro W
  have hel : P.elem t = e := by simp [Program.elem, ht]
  have hu : P.underlying t = some (.slice (P.elem t)) := by rw [hel]; exact ht
  have ha : (A.map fun x => x.add 0) = A := by cases A <;> simp [Addr.add]
  rw [run_slice_h W t A n c hu kh (j : Int) (by omega) (by omega), hel]
  simp [sizeOf, typeInfo, hi, sliced, Result.andThen, ha]

/-- 'xs[:j]', up to the room behind the length. -/
theorem cut_room (A : Option Addr) (n c j : Nat) (hj : j ≤ c) : ∀ W : World, (Instr.slice 23 (.slice A n c) none (some (.int .i64 (j : Int))) none).run Tryd.prog W = .ok (.slice A j c) W :=
  cut_room_of 23 5 .i64 Tryd.underlying23 (i := (Tryd.prog.info? 5).get (by kernel_rfl)) (by kernel_rfl) A n c j hj

theorem lent_pre {w w1 : World} {v1 : Value} {bs : List Int} (ho : w1.ownsRow w.heap.size 5 1 v1 bs.length (encs (Value.int .u8) bs)) (hb : Below w.heap.size w w1) :
    Kd.C (Kd.int .u8) (w1.alloc (.cells #[.int .u8 171, .int .u8 172] 5)) (some ⟨w1.heap.size, 0, none⟩) 2 [171, 172] ∧
    (w1.alloc (.cells #[.int .u8 171, .int .u8 172] 5)).ownsRow w.heap.size 5 1 v1 bs.length (encs (Value.int .u8) bs) ∧
    Below w.heap.size w (w1.alloc (.cells #[.int .u8 171, .int .u8 172] 5)) :=
  ⟨C_made (Value.int .u8) 0 (fun _ => rfl) w1 5 [171, 172] (by decide),
    Kd.own_of_R (Kd.R_alloc (Kd.R_of_own (h1 := fun _ => rfl) ho (ok := fun _ => True) (fun _ _ => trivial)) (.cells #[.int .u8 171, .int .u8 172] 5)),
    hb.alloc hb.size _⟩

theorem lent_post {w w2 : World} {v2 : Value} {bs : List Int} (ho : w2.ownsRow w.heap.size 5 1 v2 (bs ++ [171, 172]).length (encs (Value.int .u8) (bs ++ [171, 172]))) :
    ∃ g cap, v2 = .slice (some ⟨g, 0, none⟩) (bs.length + 2) cap ∧ bs.length ≤ cap ∧ Kd.R (Kd.int .u8) 5 w2 w.heap.size (fun _ => True) (.slice (some ⟨g, 0, none⟩) (bs.length + 2) cap) (bs ++ [171, 172]) := by
  have hR : Kd.R (Kd.int .u8) 5 w2 w.heap.size (fun _ => True) v2 (bs ++ [171, 172]) := Kd.R_of_own ho (fun _ _ => trivial)
  have hlen : (bs ++ [171, 172]).length = bs.length + 2 := by simp
  obtain ⟨g, cap, rfl, _, _⟩ := Kd.R_form hR (by rw [hlen]; omega)
  rw [hlen] at hR ⊢
  have := (Kd.R_reads' hR).2.1
  exact ⟨g, cap, rfl, by omega, hR⟩

theorem encs_int (k : IntKind) (xs : List Int) : encs (Value.int k) xs = nums k xs := rfl

set_option maxHeartbeats 4000000 in
set_option maxRecDepth 100000 in
theorem lent_calls (w : World) (A : Option Addr) (c : Nat) (bs : List Int) (hl : bs.length ≤ 140737488351232) (hr : Kd.C (Kd.int .u8) w A bs.length bs) (hc : bs.length ≤ c) :
    Calls Tryd.prog 12 #[.slice A bs.length c] w fun e w' => ∃ g cap, e = .returned (.slice (some ⟨g, 0, none⟩) bs.length cap) ∧ Kd.R (Kd.int .u8) 5 w' w.heap.size (fun _ => True) (.slice (some ⟨g, 0, none⟩) (bs.length + 2) cap) (bs ++ [171, 172]) ∧ Below w.heap.size w w' := by
  have HL := Aside0.mk hl
  have HR := Aside0.mk hr
  have HC := Aside0.mk hc
  clear hl hr hc
  go_enter Tryd.func12, Tryd.ntmps12
  go_wp2_with (first | ((with_reducible refine gate_builtin (b := .append) (xs := #[.const (.slice none 0 0), .tmp 4]) rfl ?_); at_builtin; refine print_append_row_of (w0 := w) (Value.int .u8) (0 : Int) w.heap.size rfl (.const (.slice none 0 0)) (.tmp 4) 23 5 (.int .u8 0) 1 rfl Tryd.underlying23 info5 rfl (by decide) (fun _ => rfl) (.slice none 0 0) [] bs A bs.length c rfl rfl (Kd.own_of_R (Kd.R_nil (Kd.int .u8) 5 w w.heap.size (fun _ => True))) (Kd.reads_of_C HR.out) (Below.refl _ _) (Nat.le_refl _) (by simp only [List.length_nil]; have := HL.out; omega) ?_
                        intro v1 w1 ho hb hg hat
                        have HP := Aside0.mk (lent_pre ho hb)
                        clear ho hb hg hat)
                     | ((with_reducible refine gate_builtin (b := .append) (xs := #[.tmp 6, .tmp 7]) rfl ?_); at_builtin; refine print_append_row_of (w0 := w) (Value.int .u8) (0 : Int) w.heap.size rfl (.tmp 6) (.tmp 7) 23 5 (.int .u8 0) 1 rfl Tryd.underlying23 info5 rfl (by decide) (fun _ => rfl) v1 bs [171, 172] (some ⟨w1.heap.size, 0, none⟩) 2 2 rfl rfl HP.out.2.1 (Kd.reads_of_C HP.out.1) HP.out.2.2 (below_size HP.out.2.2) (by have := HL.out; omega) ?_
                        intro v2 w2 ho hb hg hat
                        obtain ⟨g, cap, rfl, hcap, hR⟩ := lent_post ho
                        have HR2 := Aside0.mk hR
                        have HB3 := Aside0.mk hb
                        have hcut := cut_room (some ⟨g, 0, none⟩) (bs.length + 2) cap bs.length hcap
                        clear ho hb hg hat HP hcap hR))
  go_ret
  exact ⟨g, cap, rfl, HR2.out, HB3.out⟩
end Go.Proofs.YtlibddklalbmeaaDoor
