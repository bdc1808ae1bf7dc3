/- clock.order lays blocks and draws, and nothing else. -/
import Derived.Test.YtnniljcmjcjleaaJump
import Derived.Test.YtnniljcmjcjleaaFlo
import Derived.Sort.Grow
import Derived.Deep.RegionLaw
import Derived.Deep.DrawnRows
namespace Go.Proofs.Ytnniljcmjcjleaa
open Go.RowKit Go.Sort Go.Proofs.Ytnniljcmjcjleaa.QA Go.Proofs.YtnniljcmjcjleaaW.PrintWords Go.Proofs.YtnniljcmjcjleaaW.PrintLast Go.Proofs.YtnniljcmjcjleaaW.PrintMore
attribute [local go_sem] fl_store fl_bits fl_frombits fl_usigned
set_option linter.unusedVariables false
set_option linter.unusedSimpArgs false

def Grew (w w' : World) : Prop := ∃ q os', w' = grow (w.drewN q) os'
theorem Grew.refl (w : World) : Grew w w := ⟨0, #[], by rw [grow_empty]; rfl⟩
theorem Grew.drawn {w w1 w2 : World} (h : Grew w w1) (n : Nat) (e : w2 = w1.drewN n) : Grew w w2 := by
  obtain ⟨q, os, rfl⟩ := h
  exact ⟨q + n, os, by rw [e, ← World.drewN_drewN]; rfl⟩
theorem Grew.drawn0 {w w1 w2 : World} (h : Grew w w1) (e : Drawn0 w1 w2) : Grew w w2 := by
  obtain ⟨n, e⟩ := e
  exact h.drawn n e
theorem Grew.drew {w w1 : World} (h : Grew w w1) : Grew w w1.drew := h.drawn 1 rfl
theorem Grew.alloc {w w1 : World} (h : Grew w w1) (o : Obj) : Grew w (w1.alloc o) := by
  obtain ⟨q, os, rfl⟩ := h
  exact ⟨q, os ++ #[o], by rw [alloc_eq_grow, grow_grow]⟩
theorem or_reads (w : World) (o1 o2 : Obj) (n : Nat) (x y : Int) : Kd.C (Kd.int .i64) ((((w.alloc o1).alloc o2).drewN n).alloc (.cells #[.int .i64 x, .int .i64 y] 3)) (some ⟨w.heap.size + 1 + 1, 0, none⟩) 2 [x, y] := by
  obtain ⟨W, hW⟩ : ∃ W, W = ((w.alloc o1).alloc o2).drewN n := ⟨_, rfl⟩
  have hs : W.heap.size = w.heap.size + 1 + 1 := by
    rw [hW]
    show ((w.heap.push o1).push o2).size = _
    rw [Array.size_push, Array.size_push]
  rw [← hW, ← hs]
  have hb := blk_new W (.cells #[.int .i64 x, .int .i64 y] 3 (0, 0))
  refine Kd.C_of_reads (d := 0) ⟨rfl, by decide, fun _ => ⟨_, rfl, fun j hj => ?_⟩⟩
  rw [add_plain]
  have : j = 0 ∨ j = 1 := by omega
  rcases this with rfl | rfl
  · exact (blk_cell hb 0).trans rfl
  · exact (blk_cell hb 1).trans rfl
set_option maxHeartbeats 8000000 in
set_option maxRecDepth 100000 in
theorem order_grew (a b : Tm) (w : World) : Calls Try.prog 33 #[.agg #[.int .i64 a.1, .float .f64 a.2], .agg #[.int .i64 b.1, .float .f64 b.2]] w fun e w' => e = .returned (.int .i64 (ordP a b)) ∧ Grew w w' := by
  obtain ⟨x, hx⟩ := cmpf_some a.2 b.2
  obtain ⟨y, hy⟩ := cmpi_some a.1 b.1
  have hr : ordP a b = if x ≠ 0 then x else y := by
    have : clock_order.f 5 a.1 a.2 b.1 b.2 = some (if x ≠ 0 then x else y) := by
      simp only [clock_order.f, hx, hy, Option.bind_some]
      rw [or_eq]
      rfl
    rw [ordP, this]
    rfl
  have HR : Aside0 (cmp_Or_int.f 5 [x, y] = some (ordP a b)) := ⟨by rw [hr]; exact or_eq x y⟩
  have HX := Aside0.mk hx
  have HY := Aside0.mk hy
  clear hx hy hr
  have HG := Aside0.mk (Grew.refl w)
  go_enter Try.func33, Try.ntmps33
  go_wp2_with fail
  go_region_law
    (first | (refine call_ 48 #[.float .f64 a.2, .float .f64 b.2] (by rfl) (by rfl) ?hr ?_; (case hr => first | (go_simp; done) | (go_simp; rfl)); refine (cmp_Compare_float64.calls a.2 b.2 x _ HX.out).mono ?_; rintro e w1 ⟨rfl, ⟨n1, rfl⟩⟩; refine ⟨_, rfl, ?_⟩)
           | (refine call_ 49 #[.int .i64 a.1, .int .i64 b.1] (by rfl) (by rfl) ?hr ?_; (case hr => first | (go_simp; done) | (go_simp; rfl)); refine (cmp_Compare_int.calls a.1 b.1 y _ HY.out).mono ?_; rintro e w2 ⟨rfl, ⟨n2, rfl⟩⟩; refine ⟨_, rfl, ?_⟩)
           | (refine call_ 47 #[.slice (some ⟨w.heap.size + 1 + 1, 0, none⟩) 2 2] (by rfl) (by rfl) ?hr ?_; (case hr => first | (go_simp; done) | (go_simp; rfl)); refine (cmp_Or_int.calls 5 _ 2 [x, y] _ _ ?hC (Nat.le_refl 2) HR.out).mono ?_; (case hC => exact or_reads w _ _ _ x y); rintro e w3 ⟨rfl, ⟨n3, rfl⟩⟩; refine ⟨_, rfl, ?_⟩))
  all_goals
    go_wp2_with fail
    go_ret
    refine ⟨?_, ?_⟩
    · rfl
    · repeat (first | exact Grew.refl _ | apply Grew.alloc | refine Grew.drawn ?_ _ rfl)
end Go.Proofs.Ytnniljcmjcjleaa
