/- What the rows' arguments give: rows of whole numbers, rows of rows of bytes, as lists; and how long they may be. -/
import Derived.Test.YtlibddklalbmeaaDoorTab
import Derived.Test.YtlibddklalbmeaaDoorWSized
import Derived.Deep.Matrix
import Derived.SizedLaws
namespace Go.Proofs.YtlibddklalbmeaaDoor
open Go.ChangeShapes Go.WideShapes Go.ChangeAt Go.RowKit Go.Proofs.YtlibddklalbmeaaDoorW.PrintWords
set_option linter.unusedVariables false

theorem weightsAll_mem {H : Type} {P : Program} {e : TypeId} : ∀ {ds : List (DataW H)} {d : DataW H} {n : Nat}, d ∈ ds → n ∈ d.weights P e → n ∈ DataW.weightsAll P e ds
  | d0 :: ds, d, n, hd, hn => by
    simp only [DataW.weightsAll, List.mem_append]
    rcases List.mem_cons.1 hd with rfl | hd
    · exact .inl hn
    · exact .inr (weightsAll_mem hd hn)
  | [], _, _, hd, _ => by simp at hd

theorem sized_inner {H : Type} {P : Program} {ts : List TypeId} {ds : List (DataW H)} (h : (DataW.weightsEach P ts ds).all (· ≤ reachBytes) = true) {j : Nat} {t e q : TypeId} {elems spare ie is : List (DataW H)} (ht : ts[j]? = some t)
    (hd : ds[j]? = some (.slice elems spare)) (hu : P.underlying t = some (.slice e)) (he : P.underlying e = some (.slice q)) (hm : DataW.slice ie is ∈ elems) : (ie.length + is.length) * P.bytesOf q ≤ reachBytes := by
  have h1 : (ie.length + is.length) * P.bytesOf q ∈ (DataW.slice elems spare).weights P t := by
    simp only [DataW.weights, hu, List.mem_cons, List.mem_append]
    exact .inr (.inl (weightsAll_mem hm (by simp [DataW.weights, he])))
  have := List.all_eq_true.1 h _ (DataW.weights_mem_each ht hd _ h1)
  simpa using this

theorem wf_u8 {n : Int} (h : (Lit.int .u8 n).wf = true) : 0 ≤ n ∧ n < 256 := by
  have e1 : IntKind.u8.min = 0 := by decide
  have e2 : IntKind.u8.max = 255 := by decide
  simp [Lit.wf] at h
  omega

theorem wf_u64 {n : Int} (h : (Lit.int .u64 n).wf = true) : 0 ≤ n ∧ n < 18446744073709551616 := by
  have e1 : IntKind.u64.min = 0 := by decide
  have e2 : IntKind.u64.max = 18446744073709551615 := by decide
  simp [Lit.wf] at h
  omega

theorem bytess_of {H : Type} {enc : TypeId × Value → H} {W : World} {base : Nat} {A : Option Addr} {len cap : Nat} {d : DataW H} {p : List MemPlace} {ts : List TypeId} {ds : List (DataW H)} {j : Nat}
    (hsz : (DataW.weightsEach Tryd.prog ts ds).all (· ≤ reachBytes) = true) (ht : ts[j]? = some 35) (hd : ds[j]? = some d)
    (h : DataW.Trod enc Tryd.prog W base (fun _ => true) true 35 (.slice A len cap) d p) :
    ∃ bss : List (List Int), bss.length = len ∧ (Kd.slice 5 (Kd.int .u8)).C W A len bss ∧ (∀ bs ∈ bss, ∀ x ∈ bs, 0 ≤ x ∧ x < 256) ∧ ∀ bs ∈ bss, bs.length ≤ 140737488351232 := by
  obtain ⟨fuel, hf⟩ := h
  have u35 : Tryd.prog.underlying 35 = some (.slice 23) := by kernel_rfl
  have u23 : Tryd.prog.underlying 23 = some (.slice 5) := by kernel_rfl
  have u5 : Tryd.prog.underlying 5 = some (.int .u8) := by kernel_rfl
  rcases Go.Deep.open_int_rows u35 u23 u5 (by kernel_rfl) (by kernel_rfl) hf with ⟨hcs, hx⟩ | ⟨a, l, c, B, L, C, Z, hcs, hb, hl, hm, hx, hrow⟩
  · simp [Value.cells] at hcs
    obtain ⟨rfl, rfl, rfl⟩ := hcs
    exact ⟨[], rfl, ⟨rfl, by decide, fun h => absurd h (by decide)⟩, by simp, by simp⟩
  · simp [Value.cells] at hcs
    obtain ⟨rfl, rfl, rfl⟩ := hcs
    have hlen : ∀ r, r < len → ((Z r).take (L r)).length = L r := by
      intro r hr
      obtain ⟨_, h2, _, h4, _⟩ := hrow r (by omega)
      rw [List.length_take]; omega
    have hml : maxLen ≤ 9223372036854775807 := by decide
    refine ⟨(List.range len).map fun r => (Z r).take (L r), by simp, ⟨by simp, by omega, fun hp => ⟨a, rfl, fun j p hj => ?_⟩⟩, ?_, ?_⟩
    · rw [List.getElem?_map] at hj
      by_cases hjl : j < len
      · rw [List.getElem?_range hjl] at hj
        obtain rfl : (Z j).take (L j) = p := by simpa using hj
        obtain ⟨h1, h2, h3, h4, h5, h6, h7⟩ := hrow j (by omega)
        have hlj := hlen j hjl
        refine ⟨[.slice (B j) (L j) (C j)], rfl, ⟨B j, C j, by rw [hlj], by rw [hlj]; exact h2, ?_⟩, ?_⟩
        · rw [hlj]
          refine Kd.C_of_reads (d := (0 : Int)) ⟨hlj, by omega, fun hp2 => ?_⟩
          cases hB : B j with
          | none => have := h6 hB; omega
          | some a' =>
            refine ⟨a', rfl, fun i hi => ?_⟩
            have h8 := (h7 a' hB).2 i (by omega)
            rw [h8]
            have : ((Z j).take (L j)).getD i 0 = (Z j).getD i 0 := by
              rw [List.getD_eq_getElem?_getD, List.getD_eq_getElem?_getD, List.getElem?_take, if_pos hi]
            rw [this]
        · intro i u hu
          cases i with
          | zero =>
            obtain rfl := Option.some.inj hu
            simpa [Kd.slice] using h1
          | succ i => simp at hu
      · rw [List.getElem?_eq_none (by simp; omega)] at hj
        simp at hj
    · intro bs hbs x hxm
      obtain ⟨r, hr, rfl⟩ := List.mem_map.1 hbs
      have hr2 := List.mem_range.1 hr
      obtain ⟨_, _, _, _, h5, _⟩ := hrow r (by omega)
      exact wf_u8 (h5 x (List.mem_of_mem_take hxm))
    · intro bs hbs
      obtain ⟨r, hr, rfl⟩ := List.mem_map.1 hbs
      have hr2 := List.mem_range.1 hr
      rw [hlen r hr2]
      obtain ⟨_, h2, _, h4, _, h6, _⟩ := hrow r (by omega)
      cases hB : B r with
      | none => have := h6 hB; omega
      | some a' =>
        obtain ⟨hx1, _⟩ := Prod.mk.inj hx
        rw [hx1] at hd
        have hmem : DataW.slice (lits (H := H) .u8 ((Z r).take (L r))) (lits .u8 ((Z r).drop (L r))) ∈ (List.range len).map fun r => Go.Deep.intRow (H := H) .u8 (B r) (L r) (Z r) := by
          refine List.mem_map.2 ⟨r, hr, ?_⟩
          simp [Go.Deep.intRow, hB]
        have z := sized_inner hsz ht hd u35 u23 hmem
        have hbo : Tryd.prog.bytesOf 5 = 1 := by kernel_rfl
        rw [hbo] at z
        have h9 : (lits (H := H) .u8 ((Z r).take (L r))).length + (lits (H := H) .u8 ((Z r).drop (L r))).length = (Z r).length := by
          simp [lits]; omega
        have hre : reachBytes = 140737488351232 := by decide
        omega
end Go.Proofs.YtlibddklalbmeaaDoor
