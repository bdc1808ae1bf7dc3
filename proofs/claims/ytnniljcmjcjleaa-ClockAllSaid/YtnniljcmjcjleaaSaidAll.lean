/- ClockAll: whatever start and whatever calls are given, the clock tells what the reference tells, call by call, and stands as it stands: the law answers true. -/
import Derived.Test.YtnniljcmjcjleaaRows
import Derived.Test.YtnniljcmjcjleaaAll
import Derived.WalkKit
import Derived.ProofKit
import Derived.OpenShut
import Derived.ShutString
import Derived.ChangeOld
import Derived.Below
import Derived.SizedLaws
import Derived.Deep.Slices
import Derived.Deep.Fields
import Derived.ChangeSame
namespace Go.Proofs.Ytnniljcmjcjleaa.clockAll
open Go.ChangeShapes Go.WideShapes Go.ChangeAt Go.RowKit Go.Deep Go.Proofs.YtnniljcmjcjleaaW.PrintWords
set_option linter.unusedVariables false
theorem own : ownKnob Try.prog.godebug = none := by kernel_rfl
theorem u64_in {n : Int} (h : (Lit.int .u64 n).wf = true) : 0 ≤ n ∧ n < 18446744073709551616 := by
  have e1 : IntKind.u64.min = 0 := by decide
  have e2 : IntKind.u64.max = 18446744073709551615 := by decide
  simp [Lit.wf] at h
  omega
theorem laidOut : laidOutB Try.prog = true := by kernel_rfl
theorem op_fields : ∃ (fs : Array Field) (f0 f1 f2 : Field), Try.prog.underlying 51 = some (.struct fs) ∧ fs[0]? = some f0 ∧ fs[1]? = some f1 ∧ fs[2]? = some f2 ∧ f0.type = 3 ∧ f0.offset = 0 ∧ f1.type = 23 ∧ f1.offset = 1 ∧ f2.type = 3 ∧ f2.offset = 2 :=
  ⟨(match Try.prog.underlying 51 with | some (.struct fs) => fs | _ => #[]), (match Try.prog.underlying 51 with | some (.struct fs) => fs | _ => #[])[0]!, (match Try.prog.underlying 51 with | some (.struct fs) => fs | _ => #[])[1]!,
    (match Try.prog.underlying 51 with | some (.struct fs) => fs | _ => #[])[2]!, by kernel_rfl, by kernel_rfl, by kernel_rfl, by kernel_rfl, by kernel_rfl, by kernel_rfl, by kernel_rfl, by kernel_rfl, by kernel_rfl, by kernel_rfl⟩
theorem three {l : List Value} (h : l.length = 3) : ∃ a b c, l = [a, b, c] := by
  match l, h with
  | [a, b, c], _ => exact ⟨a, b, c, rfl⟩
/-- The calls, read out of what came in. -/
theorem ops_in {H : Type} {enc : TypeId × Value → H} {W : World} {base : Nat} {A : Option Addr} {len cap : Nat} {d : DataW H} {p : List MemPlace}
    (h : DataW.Trod enc Try.prog W base (fun _ => true) true 46 (.slice A len cap) d p) :
    ∃ ops : List (Int × Int × Int), len = ops.length ∧ OpsAt W A ops ∧ ∀ o ∈ ops, 0 ≤ o.2.1 ∧ o.2.1 < 18446744073709551616 := by
  obtain ⟨fuel, hf⟩ := h
  have u1 : Try.prog.underlying 46 = some (.slice 51) := by kernel_rfl
  have hC : Try.prog.cellsOf 51 = 3 := by kernel_rfl
  have c1 : Try.prog.cellsOf 3 = 1 := by kernel_rfl
  have c2 : Try.prog.cellsOf 23 = 1 := by kernel_rfl
  have ui : Try.prog.underlying 3 = some (.int .i64) := by kernel_rfl
  have uu : Try.prog.underlying 23 = some (.int .u64) := by kernel_rfl
  obtain ⟨fs, f0, f1, f2, hfs, g0, g1, g2, t0, o0, t1, o1, t2, o2⟩ := op_fields
  rcases open_slice u1 hf with ⟨hcs, _⟩ | ⟨a, l, c, m, n, D, Pl, hcs, _, hl, hm, hmm, _, hi⟩
  · simp [Value.cells] at hcs
    obtain ⟨rfl, rfl, rfl⟩ := hcs
    exact ⟨[], rfl, fun i hi => by simp at hi, fun o ho => by cases ho⟩
  · simp [Value.cells] at hcs
    obtain ⟨rfl, rfl, rfl⟩ := hcs
    have hone : ∀ i, i < len → ∃ k x y : Int, W.cell? (a.add (i * 3)) = some (.int .i64 k) ∧ W.cell? ((a.add (i * 3)).add 1) = some (.int .u64 x) ∧ W.cell? ((a.add (i * 3)).add 2) = some (.int .i64 y) ∧ 0 ≤ x ∧ x < 18446744073709551616 := by
      intro i hil
      obtain ⟨cs', hc, ht⟩ := hi i (by rw [hmm]; split <;> omega)
      rw [hC] at hc
      obtain ⟨_, hlen, hat⟩ := World.cells?_some hc
      obtain ⟨xs, n', _, _, _, _, hg⟩ := DataW.trod_struct hfs ht
      have e0 := hg 0 f0 g0
      have e1 := hg 1 f1 g1
      have e2 := hg 2 f2 g2
      rw [t0, o0, c1] at e0
      rw [t1, o1, c2] at e1
      rw [t2, o2, c1] at e2
      obtain ⟨z0, z1, z2, rfl⟩ := three hlen
      have hxs : xs.length = fs.size := by assumption
      have hsz : 2 < fs.size := (Array.getElem?_eq_some_iff.1 g2).1
      rw [List.getElem?_eq_getElem (by omega)] at e0 e1 e2
      obtain ⟨k, hk, _, _⟩ := DataW.trod_int ui e0
      obtain ⟨x, hx, _, hwx⟩ := DataW.trod_int uu e1
      obtain ⟨y, hy, _, _⟩ := DataW.trod_int ui e2
      have a0 := hat 0 (by omega)
      have a1 := hat 1 (by omega)
      have a2 := hat 2 (by omega)
      have q0 : z0 = .int .i64 k := by simpa using hk
      have q1 : z1 = .int .u64 x := by simpa using hx
      have q2 : z2 = .int .i64 y := by simpa using hy
      refine ⟨k, x, y, ?_, ?_, ?_, (u64_in hwx).1, (u64_in hwx).2⟩
      · have : (a.add (i * 3)).add 0 = a.add (i * 3) := by simp [Addr.add]
        rw [this] at a0
        rw [a0, ← q0]; rfl
      · rw [a1, ← q1]; rfl
      · rw [a2, ← q2]; rfl
    have hsp : 0 < len → a.spot = none := fun h0 => by
      obtain ⟨k, _, _, hk, _⟩ := hone 0 h0
      have : a.add (0 * 3) = a := by simp [Addr.add]
      rw [this] at hk
      exact World.cell?_spot hk
    have hch : ∃ F : Nat → Int × Int × Int, ∀ i, i < len → W.cell? (a.add (i * 3)) = some (.int .i64 (F i).1) ∧ W.cell? ((a.add (i * 3)).add 1) = some (.int .u64 (F i).2.1) ∧ W.cell? ((a.add (i * 3)).add 2) = some (.int .i64 (F i).2.2) ∧ 0 ≤ (F i).2.1 ∧ (F i).2.1 < 18446744073709551616 := by
      have h2 : ∀ i, ∃ t : Int × Int × Int, i < len → W.cell? (a.add (i * 3)) = some (.int .i64 t.1) ∧ W.cell? ((a.add (i * 3)).add 1) = some (.int .u64 t.2.1) ∧ W.cell? ((a.add (i * 3)).add 2) = some (.int .i64 t.2.2) ∧ 0 ≤ t.2.1 ∧ t.2.1 < 18446744073709551616 := by
        intro i
        by_cases h : i < len
        · obtain ⟨k, x, y, h1⟩ := hone i h
          exact ⟨(k, x, y), fun _ => h1⟩
        · exact ⟨(0, 0, 0), fun h3 => absurd h3 h⟩
      exact Classical.axiomOfChoice h2
    obtain ⟨F, hF⟩ := hch
    have hlen : ((List.range len).map F).length = len := by rw [List.length_map, List.length_range]
    refine ⟨(List.range len).map F, hlen.symm, fun i hil => ?_, fun o ho => ?_⟩
    · rw [hlen] at hil
      obtain ⟨h1, h2, h3, _⟩ := hF i hil
      have hs := hsp (by omega)
      obtain ⟨b, o, sp⟩ := a
      have hsp0 : sp = none := hs
      subst hsp0
      have e : ((List.range len).map F)[i]'(by rw [hlen]; exact hil) = F i := by simp
      rw [e]
      refine ⟨b, o, rfl, ?_, ?_, ?_⟩
      · simpa [Addr.add_lit] using h1
      · simpa [Addr.add_lit] using h2
      · simpa [Addr.add_lit] using h3
    · obtain ⟨i, hil, rfl⟩ := List.mem_map.1 ho
      obtain ⟨_, _, _, h4, h5⟩ := hF i (List.mem_range.1 hil)
      exact ⟨h4, h5⟩
set_option maxRecDepth 100000 in
theorem lifted (os : Os) (started : os.Started) (H : Type) (enc : TypeId × Value → H) :
    ReturnsInHanded {} Try.checked os 5 .any (Rows.clockAllSpec.pre6 enc Try.prog Try.f5 Rows.clockAllRow.domain false) (Rows.clockAllSpec.post enc Try.prog Try.f5 false true false false) := by
  refine returnsInHanded_of_change_sized (C := Try.checked) own started (by kernel_rfl) Try.func5
    (ChangeSpec.witness6 (enc := enc) (C := Try.checked) false ⟨#[], #[.int .u64 0, .slice none 0 0], []⟩ 8 (by kernel_rfl) (by kernel_rfl) (by kernel_rfl) (by kernel_rfl)) ?_
  intro W base args ds gs before hval0 hW hcnd hsz0 _
  have hval : ∀ (j : Nat) t v, Try.f5.params[j]? = some t → args[j]? = some v → Value.okWide Try.prog W .any base t v := hval0
  have hW' := hW
  obtain ⟨p, q, hA0, hV, rfl, hfz, hnd⟩ := hW
  have hA : DataW.TrodAll enc Try.prog W 0 (fun _ => true) true Try.f5.params.toList args.toList ds p := hA0
  rw [Try.params5] at hA hval
  obtain ⟨v0, vs0, d0, ds0, p0, q0, hargs, rfl, rfl, h0, r0⟩ := trodAll_cons hA
  obtain ⟨v1, vs1, d1, ds1, p1, q1, rfl, rfl, rfl, h1, r1⟩ := trodAll_cons r0
  obtain ⟨rfl, rfl, rfl⟩ := trodAll_nil r1
  obtain rfl : args = #[v0, v1] := by cases args; simp_all
  obtain ⟨rfl, rfl⟩ := trodVars_none hV
  have u1 : Try.prog.underlying 46 = some (.slice 51) := by kernel_rfl
  obtain ⟨a0, rfl, rfl, rfl, w0⟩ := open_int Try.underlying23 (hval 0 23 v0 rfl rfl) h0
  obtain ⟨A, len, cap, rfl⟩ := okWide_slice u1 (hval 1 46 v1 rfl rfl)
  have k1 := h1
  have lt1 : ∀ x ∈ p1, x.block < W.heap.size := by obtain ⟨m, hm⟩ := k1; exact DataW.trod_lt m _ _ _ hm
  obtain ⟨ops, hlen, hO, hX⟩ := ops_in h1
  clear hA0 hval0 hsz0
  obtain ⟨X, rfl⟩ := Int.eq_ofNat_of_zero_le (u64_in w0).1
  refine (all_calls X A len cap ops W (by have := (u64_in w0).2; omega) hO hlen hX).mono fun e W' ⟨he, bel⟩ => ?_
  subst he
  exact ⟨_, rfl, _, _, _, [], _, [], hW', trodAll_mk1 (shut_bool Try.underlying4 _), trodAll_cons_mk (shut_int Try.underlying23 w0) (trodAll_cons_mk (Below.trod laidOut (by kernel_rfl) (of_decide_eq_true (by kernel_rfl)) k1 bel lt1) trodAll_mk0), rfl, bel.frame _, fun h => by cases h⟩
theorem over : Rows.clockAllRow.holds Try.pinned (OpenSpec.ofChange Rows.clockAllSpec) :=
  OpenClaim.holds_of_wide 5 Try.f5 rfl rfl rfl rfl rfl rfl rfl ⟨rfl, rfl, rfl, rfl, rfl⟩ rfl rfl rfl rfl rfl (by kernel_rfl) Try.func5 (by kernel_rfl)
    (of_decide_eq_true (by kernel_rfl)) (by unfold Func.isWrapper; first | (rw [if_pos (by decide +kernel)]; kernel_rfl) | (rw [if_neg (by decide +kernel)]; exact ⟨rfl, rfl⟩))
    (fun os started H enc _ => lifted os started H enc)
end Go.Proofs.Ytnniljcmjcjleaa.clockAll
namespace Go.Proofs.Ytnniljcmjcjleaa
theorem clockAll_holds : Rows.ClockAllSaid := clockAll.over
end Go.Proofs.Ytnniljcmjcjleaa
