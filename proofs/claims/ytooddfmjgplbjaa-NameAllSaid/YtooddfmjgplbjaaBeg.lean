/- The calls with fixed answers that every statement on names asks ahead: they answer as they should. -/
import Derived.Test.YtooddfmjgplbjaaOrd
namespace Go.Proofs.Ytooddfmjgplbjaa
open Go.RowKit Go.Proofs.Ytooddfmjgplbjaa.QA Go.Proofs.YtooddfmjgplbjaaW.PrintWords Go.Proofs.YtooddfmjgplbjaaW.PrintLast Go.Proofs.YtooddfmjgplbjaaW.PrintMore
attribute [local go_sem] max2_int min2_int fl_store
set_option linter.unusedVariables false
set_option linter.unusedSimpArgs false

theorem C_made {α : Type} (enc : α → Value) (d : α) (h1 : ∀ x, (enc x).oneCell' = true) (W : World) (e : TypeId) (xs : List α) (hn : xs.length ≤ 9223372036854775807) :
    Kd.C (Kd.scalar enc h1) (W.alloc (.cells (xs.map enc).toArray e)) (some ⟨W.heap.size, 0, none⟩) xs.length xs := by
  refine Kd.C_of_reads (d := d) ⟨rfl, hn, fun _ => ⟨_, rfl, fun j hj => ?_⟩⟩
  have h := blk_cell (blk_new W (.cells (xs.map enc).toArray e)) j
  have e1 : (⟨W.heap.size, 0, none⟩ : Addr).add j = ⟨W.heap.size, j, none⟩ := by simp [Addr.add]; intro h; exact h.symm
  rw [e1, h]
  simp [List.getD_eq_getElem?_getD, hj]

def segff : ByteArray := ⟨#[115, 101, 103, 45, 48, 48, 48, 48, 48, 48, 48, 48, 48, 48, 48, 48, 48, 48, 102, 102, 46, 108, 111, 103]⟩
theorem seg255 : segName 255 = segff := by kernel_rfl
theorem num255 : name_Number.f 100 segff = some (255, true) := by kernel_rfl
theorem kind_cat : name_Kind.f 100 (⟨#[99, 97, 116, 97, 108, 111, 103]⟩ : ByteArray) = some 2 := by kernel_rfl
theorem kind_next : name_Kind.f 100 (⟨#[99, 97, 116, 97, 108, 111, 103, 45, 110, 101, 120, 116]⟩ : ByteArray) = some 3 := by kernel_rfl
theorem kind_anew : name_Kind.f 100 (⟨#[115, 101, 103, 109, 101, 110, 116, 45, 110, 101, 120, 116]⟩ : ByteArray) = some 3 := by kernel_rfl
def four : List ByteArray := [⟨#[98]⟩, ⟨#[97]⟩, ⟨#[98]⟩, ⟨#[66]⟩]
theorem order_four : orderF four = [[97], [98]] := by
  have h1 : (four.filter mayP).map toL = [[98], [97], [98]] := by kernel_rfl
  rw [orderF, h1]
  have h2 : ([[98], [97], [98]] : List (List UInt8)).mergeSort (fun x y => decide (x ≤ y)) = [[97], [98], [98]] := by
    simp [List.mergeSort, List.MergeSort.Internal.splitInTwo]
    simp [List.merge, show ¬ ([98] : List UInt8) ≤ [97] by decide, show ([97] : List UInt8) ≤ [98] by decide]
  rw [h2]
  decide

set_option maxHeartbeats 4000000 in
set_option maxRecDepth 100000 in
theorem begun_calls (w : World) : Calls Try.prog 5 #[] w fun e w' => e = .returned (.bool true) ∧ Below w.heap.size w w' := by
  go_enter Try.func5, Try.ntmps5
  go_wp2_with fail
  refine (seg_calls w 255 (by decide) (by decide)).mono ?_
  rintro e w1 ⟨rfl, hb1⟩
  have HB1 := Aside0.mk hb1
  clear hb1
  rw [seg255]
  go_wp2_with fail
  refine (name_Number.calls 100 _ 255 true w1 num255).mono ?_
  rintro e w2 ⟨rfl, hdr⟩
  have HB2 := Aside0.mk (HB1.out.trans (hdr.below.mono HB1.out.size))
  clear hdr HB1
  go_wp2_with fail
  obtain ⟨fs, hfs⟩ : ∃ fs, fs = four := ⟨_, rfl⟩
  have hmk := C_made Value.string ByteArray.empty (fun _ => rfl) w2 9 fs (by rw [hfs]; decide)
  have hw : w2.alloc (.cells #[.string { data := #[98] }, .string { data := #[97] }, .string { data := #[98] }, .string { data := #[66] }] 9) = w2.alloc (.cells (fs.map Value.string).toArray 9) := by rw [hfs]; rfl
  have hb3 : Below w2.heap.size w2 (w2.alloc (.cells (fs.map Value.string).toArray 9)) := below_alloc (Below.refl _ _) _
  rw [hw, show (4 : Nat) = fs.length by rw [hfs]; rfl]
  have HB3 := Aside0.mk (HB2.out.trans (hb3.mono HB2.out.size))
  generalize w2.alloc (.cells (fs.map Value.string).toArray 9) = w3 at *
  refine (order_calls w3 _ _ fs (by rw [hfs]; decide) hmk).mono ?_
  rintro e w4 ⟨v, rfl, hv, hb4⟩
  have HB4 := Aside0.mk (HB3.out.trans (hb4.mono HB3.out.size))
  rw [hfs, order_four] at hv
  obtain ⟨D, dc, rfl⟩ := Kd.R_slice hv
  clear hv hb4 hmk hw hb3 HB2 HB3 hfs
  have hsf : segff.toList = ([115, 101, 103, 45, 48, 48, 48, 48, 48, 48, 48, 48, 48, 48, 48, 48, 48, 48, 102, 102, 46, 108, 111, 103] : List UInt8) := by kernel_rfl
  go_wp2_with fail
  refine (name_Catalog.calls _ w4 rfl).mono ?_
  rintro e w5 ⟨rfl, hdr⟩
  have HB5 := Aside0.mk (HB4.out.trans (hdr.below.mono HB4.out.size))
  clear hdr HB4
  go_wp2_with fail
  refine (name_Kind.calls 100 _ 2 w5 kind_cat).mono ?_
  rintro e w6 ⟨rfl, hdr⟩
  have HB6 := Aside0.mk (HB5.out.trans (hdr.below.mono HB5.out.size))
  clear hdr HB5
  go_wp2_with fail
  refine (name_NextCatalog.calls _ w6 rfl).mono ?_
  rintro e w7 ⟨rfl, hdr⟩
  have HB7 := Aside0.mk (HB6.out.trans (hdr.below.mono HB6.out.size))
  clear hdr HB6
  go_wp2_with fail
  refine (name_Kind.calls 100 _ 3 w7 kind_next).mono ?_
  rintro e w8 ⟨rfl, hdr⟩
  have HB8 := Aside0.mk (HB7.out.trans (hdr.below.mono HB7.out.size))
  clear hdr HB7
  go_wp2_with fail
  refine (name_NextSegment.calls _ w8 rfl).mono ?_
  rintro e w9 ⟨rfl, hdr⟩
  have HB9 := Aside0.mk (HB8.out.trans (hdr.below.mono HB8.out.size))
  clear hdr HB8
  go_wp2_with fail
  refine (name_Kind.calls 100 _ 3 w9 kind_anew).mono ?_
  rintro e w10 ⟨rfl, hdr⟩
  have HB10 := Aside0.mk (HB9.out.trans (hdr.below.mono HB9.out.size))
  clear hdr HB9
  go_wp2_with fail
  go_ret
  exact ⟨rfl, HB10.out⟩
end Go.Proofs.Ytooddfmjgplbjaa
