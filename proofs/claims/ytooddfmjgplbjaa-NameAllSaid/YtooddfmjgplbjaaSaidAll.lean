/- NameAll: whatever texts and numbers: names, numbers, kinds and the order are what the document says. -/
import Derived.Test.YtooddfmjgplbjaaRows
import Derived.Test.YtooddfmjgplbjaaNAll
import Derived.Test.YtooddfmjgplbjaaWSized
import Derived.SliceStrings
import Derived.WalkKit
import Derived.ProofKit
import Derived.OpenShut
import Derived.ShutString
import Derived.ChangeOld
import Derived.Below
import Derived.SizedLaws
namespace Go.Proofs.Ytooddfmjgplbjaa.nameAll
open Go.ChangeShapes Go.WideShapes Go.ChangeAt Go.RowKit Go.Proofs.YtooddfmjgplbjaaW.PrintWords
set_option linter.unusedVariables false
theorem own : ownKnob Try.prog.godebug = none := by kernel_rfl
theorem laidOut : laidOutB Try.prog = true := by kernel_rfl
theorem strs_in {H : Type} {enc : TypeId × Value → H} {W : World} {base : Nat} {A : Option Addr} {len cap : Nat} {d : DataW H} {p : List MemPlace}
    (h : DataW.Trod enc Try.prog W base (fun _ => true) true 22 (.slice A len cap) d p) :
    ∃ ss : List ByteArray, ss.length = len ∧ len ≤ cap ∧ Kd.string.C W A len ss := by
  obtain ⟨fuel, hf⟩ := h
  have u22 : Try.prog.underlying 22 = some (.slice 9) := by kernel_rfl
  have u9 : Try.prog.underlying 9 = some .string := by kernel_rfl
  have hml : maxLen ≤ 9223372036854775807 := by decide
  rcases open_strings u22 u9 (by kernel_rfl) hf with ⟨hcs, hx⟩ | ⟨a, l, c, ss, hcs, _, hl, hm, hz, hx, hcell, hws⟩
  · simp [Value.cells] at hcs
    obtain ⟨rfl, rfl, rfl⟩ := hcs
    exact ⟨[], rfl, Nat.le_refl _, Kd.C_of_reads (enc := Value.string) (d := ByteArray.empty) (h1 := fun _ => rfl) ⟨rfl, by decide, fun h => absurd h (by decide)⟩⟩
  · simp [Value.cells] at hcs
    obtain ⟨rfl, rfl, rfl⟩ := hcs
    have hz' : ss.length = cap := by simpa using hz
    refine ⟨ss.take len, by rw [List.length_take]; omega, hl, Kd.C_of_reads (enc := Value.string) (d := ByteArray.empty) (h1 := fun _ => rfl) ⟨by rw [List.length_take]; omega, by omega, fun hp => ⟨a, rfl, fun j hj => ?_⟩⟩⟩
    rw [hcell j (by omega)]
    simp [List.getD_eq_getElem?_getD, hj]
theorem ints_in {H : Type} {enc : TypeId × Value → H} {W : World} {base : Nat} {A : Option Addr} {len cap : Nat} {d : DataW H} {p : List MemPlace} {t : TypeId}
    (u : Try.prog.underlying t = some (.slice 2))
    (h : DataW.Trod enc Try.prog W base (fun _ => true) true t (.slice A len cap) d p) :
    ∃ ns : List Int, ns.length = len ∧ Kd.C (Kd.int .i64) W A len ns ∧ ∀ x ∈ ns, x < 9223372036854775808 := by
  obtain ⟨fuel, hf⟩ := h
  have u2 : Try.prog.underlying 2 = some (.int .i64) := by kernel_rfl
  have hml : maxLen ≤ 9223372036854775807 := by decide
  have e2 : IntKind.i64.max = 9223372036854775807 := by decide
  rcases open_ints u u2 (by kernel_rfl) hf with ⟨hcs, _⟩ | ⟨a, l, c, zs, hcs, _, hl, hm, hz, _, hcell, hwz⟩
  · simp [Value.cells] at hcs
    obtain ⟨rfl, rfl, rfl⟩ := hcs
    exact ⟨[], rfl, Kd.C_of_reads (enc := Value.int .i64) (d := (0 : Int)) (h1 := fun _ => rfl) ⟨rfl, by decide, fun h => absurd h (by decide)⟩, by simp⟩
  · simp [Value.cells] at hcs
    obtain ⟨rfl, rfl, rfl⟩ := hcs
    have hz' : zs.length = cap := by simpa using hz
    refine ⟨zs.take len, by rw [List.length_take]; omega, Kd.C_of_reads (enc := Value.int .i64) (d := (0 : Int)) (h1 := fun _ => rfl) ⟨by rw [List.length_take]; omega, by omega, fun hp => ⟨a, rfl, fun j hj => ?_⟩⟩, fun x hx => ?_⟩
    · rw [hcell j (by omega)]
      simp [List.getD_eq_getElem?_getD, hj]
    · have := hwz x (List.mem_of_mem_take hx)
      simp [Lit.wf] at this
      omega
set_option maxRecDepth 100000 in
theorem lifted (os : Os) (started : os.Started) (H : Type) (enc : TypeId × Value → H) :
    ReturnsInHanded {} Try.checked os 3 .any (Rows.nameAllSpec.pre6 enc Try.prog Try.f3 Rows.nameAllRow.domain false) (Rows.nameAllSpec.post enc Try.prog Try.f3 false true false false) := by
  refine returnsInHanded_of_change_sized (C := Try.checked) own started (by kernel_rfl) Try.func3
    (ChangeSpec.witness6 (enc := enc) (C := Try.checked) false ⟨#[], #[.slice none 0 0, .slice none 0 0], []⟩ 8 (by kernel_rfl) (by kernel_rfl) (by kernel_rfl) (by kernel_rfl)) ?_
  intro W base args ds gs before hval0 hW hcnd hsz0 _
  have hval : ∀ (j : Nat) t v, Try.f3.params[j]? = some t → args[j]? = some v → Value.okWide Try.prog W .any base t v := hval0
  have hW' := hW
  obtain ⟨p, q, hA0, hV, rfl, hfz, hnd⟩ := hW
  have hA : DataW.TrodAll enc Try.prog W 0 (fun _ => true) true Try.f3.params.toList args.toList ds p := hA0
  rw [Try.params3] at hA hval
  obtain ⟨v0, vs0, d0, ds0, p0, q0, hargs, rfl, rfl, h0, r0⟩ := trodAll_cons hA
  obtain ⟨v1, vs1, d1, ds1, p1, q1, rfl, rfl, rfl, h1, r1⟩ := trodAll_cons r0
  obtain ⟨rfl, rfl, rfl⟩ := trodAll_nil r1
  obtain rfl : args = #[v0, v1] := by cases args; simp_all
  obtain ⟨rfl, rfl⟩ := trodVars_none hV
  have u23 : Try.prog.underlying 23 = some (.slice 2) := by kernel_rfl
  obtain ⟨a0, len0, cap0, rfl⟩ := okWide_slice Try.underlying22 (hval 0 22 v0 rfl rfl)
  have k0 := h0
  have lt0 : ∀ x ∈ p0, x.block < W.heap.size := by obtain ⟨m, hm⟩ := k0; exact DataW.trod_lt m _ _ _ hm
  obtain ⟨a1, len1, cap1, rfl⟩ := okWide_slice u23 (hval 1 23 v1 rfl rfl)
  have k1 := h1
  have lt1 : ∀ x ∈ p1, x.block < W.heap.size := by obtain ⟨m, hm⟩ := k1; exact DataW.trod_lt m _ _ _ hm
  obtain ⟨ss, rfl, hc, hC⟩ := strs_in h0
  obtain ⟨ns, rfl, hC1, hns⟩ := ints_in u23 h1
  clear hA0 hval0 hsz0
  refine (nameall_calls W a0 cap0 ss a1 cap1 ns hC hc hC1 hns).mono fun e W' ⟨he, bel⟩ => ?_
  subst he
  exact ⟨_, rfl, _, _, _, [], _, [], hW', trodAll_mk1 (shut_bool Try.underlying4 _), (trodAll_cons_mk (Below.trod laidOut (by kernel_rfl) (of_decide_eq_true (by kernel_rfl)) k0 bel lt0) (trodAll_cons_mk (Below.trod laidOut (by kernel_rfl) (of_decide_eq_true (by kernel_rfl)) k1 bel lt1) trodAll_mk0)), rfl, bel.frame _, fun h => by cases h⟩
theorem over : Rows.nameAllRow.holds Try.pinned (OpenSpec.ofChange Rows.nameAllSpec) :=
  OpenClaim.holds_of_wide 3 Try.f3 rfl rfl rfl rfl rfl rfl rfl ⟨rfl, rfl, rfl, rfl, rfl⟩ rfl rfl rfl rfl rfl (by kernel_rfl) Try.func3 (by kernel_rfl)
    (of_decide_eq_true (by kernel_rfl)) (by unfold Func.isWrapper; first | (rw [if_pos (by decide +kernel)]; kernel_rfl) | (rw [if_neg (by decide +kernel)]; exact ⟨rfl, rfl⟩))
    (fun os started H enc _ => lifted os started H enc)
end Go.Proofs.Ytooddfmjgplbjaa.nameAll
namespace Go.Proofs.Ytooddfmjgplbjaa
theorem nameAll_holds : Rows.NameAllSaid := nameAll.over
end Go.Proofs.Ytooddfmjgplbjaa
