/- The law ClockNone, walked: a nil clock, and a zero one. -/
import Derived.Test.YtnniljcmjcjleaaBeg
namespace Go.Proofs.Ytnniljcmjcjleaa
open Go.RowKit Go.Proofs.Ytnniljcmjcjleaa.QA Go.Proofs.YtnniljcmjcjleaaW.PrintWords Go.Proofs.YtnniljcmjcjleaaW.PrintLast Go.Proofs.YtnniljcmjcjleaaW.PrintMore
attribute [local go_sem] fl_store fl_bits fl_frombits fl_usigned
set_option linter.unusedVariables false
set_option linter.unusedSimpArgs false

/-- What stands: the two clocks' row, the zero clock. -/
def NoneS (w : World) (gs g : Nat) (W : World) : Prop := W.cell? ⟨gs, 0, none⟩ = some (.pointer none) ∧ W.cell? ⟨gs, 1, none⟩ = some (.pointer (some ⟨g, 0, none⟩)) ∧ CAt W g false 0 0 (.slice none 0 0) [] ∧ Below w.heap.size w W
theorem none_step {w W W1 : World} {gs g : Nat} (h : NoneS w gs g W) (hb : Below W.heap.size W W1) : NoneS w gs g W1 :=
  ⟨pw_cell_below hb h.1, pw_cell_below hb h.2.1, h.2.2.1.below hb, h.2.2.2.trans (hb.mono h.2.2.2.size)⟩
theorem nan0 : (FloatKind.f64.format.order 0 0 != some .eq) = false := by decide +kernel
set_option maxHeartbeats 8000000 in
set_option maxRecDepth 100000 in
theorem none_calls (ub id : Int) (w : World) : Calls Try.prog 6 #[.int .u64 ub, .int .i64 id] w fun e w' => e = .returned (.bool true) ∧ Below w.heap.size w w' := by
  go_enter Try.func6, Try.ntmps6
  go_wp2_with fail
  refine (begun_calls w).mono ?_
  rintro e w0 ⟨rfl, hb0⟩
  have HB0 := Aside0.mk hb0
  clear hb0
  go_wp2_with (
    (with_reducible refine gate_dst (N := 21) rfl ?_)
    refine box_event ?hg (N := 21) ?hd (cs := #[.bool false, .float .f64 (0 : Nat), .int .i64 0, .slice none 0 0]) (t := 60) ?hr ?_
    (case hd => rfl)
    (case hg => rfl)
    (case hr => first | (go_simp; done) | (go_simp; rfl))
    intro g hg wb hbox hbb
    have HBX := Aside0.mk hbox
    have HBB := Aside0.mk (HB0.out.trans (hbb.mono HB0.out.size))
    clear hbox hbb hg)
  have hn : (wb.alloc (.cells #[.pointer none, .pointer (some ⟨g, 0, none⟩)] 25)).heap[wb.heap.size]? = some (.cells #[.pointer none, .pointer (some ⟨g, 0, none⟩)] 25 (0, 0)) := blk_new wb _
  have hbn := below_alloc (Below.refl wb.heap.size wb) (.cells #[.pointer none, .pointer (some ⟨g, 0, none⟩)] 25)
  have HS0 : Aside0 (NoneS w wb.heap.size g (wb.alloc (.cells #[.pointer none, .pointer (some ⟨g, 0, none⟩)] 25))) := ⟨(blk_cell hn 0).trans rfl, (blk_cell hn 1).trans rfl, (CAt.mk HBX.out (TR.nil _)).below hbn, HBB.out.trans (hbn.mono HBB.out.size)⟩
  have n0 := nan0
  clear hn hbn
  obtain ⟨gs, hgs⟩ : ∃ gs, gs = wb.heap.size := ⟨_, rfl⟩
  rw [← hgs] at HS0 ⊢
  clear hgs
  go_loopg [8, 9, 10, 11, 12, 13, 14] 2 (fun m v8 v9 v10 v11 v12 v13 v14 wr => ∃ j : Nat, m + j = 2 ∧ v8 = .int .i64 j ∧ Aside0 (NoneS w gs g wr))
  case atStart => exact ⟨0, rfl, rfl, HS0⟩
  case round =>
    obtain ⟨j, hj, rfl, HS⟩ := hrel
    have hc0 := HS.out.1
    have hc1 := HS.out.2.1
    have HC := Aside0.mk HS.out.2.2.1
    have hj3 : j = 0 ∨ j = 1 ∨ j = 2 := by omega
    rcases hj3 with rfl | rfl | rfl
    · have e0 : ((0 : Nat) : Int) = 0 := rfl
      go_wp2_with fail
      refine (after_nil _ wr).mono ?_
      rintro e w1 ⟨rfl, hb1⟩
      have S1 := Aside0.mk (none_step HS.out hb1)
      have HC1 := Aside0.mk S1.out.2.2.1
      have hs0 := S1.out.1
      have hs1 := S1.out.2.1
      clear hb1
      go_wp2_with fail
      refine (next_nil  w1).mono ?_
      rintro e w1b ⟨rfl, rfl⟩
      go_wp2_with fail
      refine (gom_nil _ w1b).mono ?_
      rintro e w2 ⟨rfl, hb2⟩
      have S2 := Aside0.mk (none_step S1.out hb2)
      have HC2 := Aside0.mk S2.out.2.2.1
      have hs2 := S2.out.1
      have hs3 := S2.out.2.1
      clear hb2 hs0 hs1
      go_wp2_with fail
      refine (now_nil w2).mono ?_
      rintro e w2b ⟨rfl, rfl⟩
      go_wp2_with fail
      refine (cancel_nil id w2b).mono ?_
      rintro e w3 ⟨rfl, hb3⟩
      have S3 := Aside0.mk (none_step S2.out hb3)
      have HC3 := Aside0.mk S3.out.2.2.1
      have hs4 := S3.out.1
      have hs5 := S3.out.2.1
      clear hb3 hs2 hs3
      go_wp2_with fail
      refine (jump_nil  w3).mono ?_
      rintro e w3b ⟨rfl, rfl⟩
      go_wp2_with fail
      refine (timers_nil  w3b).mono ?_
      rintro e w3c ⟨rfl, rfl⟩
      go_wp2_with fail
      go_roundg 1
      case measure => omega
      case rel => exact ⟨1, rfl, rfl, S3⟩
    · have e0 : ((1 : Nat) : Int) = 1 := rfl
      go_wp2_with fail
      refine (after_zero g 0 0 (.slice none 0 0) [] _ wr HC.out).mono ?_
      rintro e w1 ⟨rfl, hb1⟩
      have S1 := Aside0.mk (none_step HS.out hb1)
      have HC1 := Aside0.mk S1.out.2.2.1
      have hs0 := S1.out.1
      have hs1 := S1.out.2.1
      clear hb1
      go_wp2_with fail
      refine (next_zero g 0 0 (.slice none 0 0) []  w1 HC1.out).mono ?_
      rintro e w1b ⟨rfl, rfl⟩
      go_wp2_with fail
      refine (gom_zero g 0 0 (.slice none 0 0) [] _ w1b HC1.out).mono ?_
      rintro e w2 ⟨rfl, hb2⟩
      have S2 := Aside0.mk (none_step S1.out hb2)
      have HC2 := Aside0.mk S2.out.2.2.1
      have hs2 := S2.out.1
      have hs3 := S2.out.2.1
      clear hb2 hs0 hs1
      go_wp2_with fail
      refine (now_calls g false 0 0 (.slice none 0 0) [] w2 HC2.out).mono ?_
      rintro e w2b ⟨rfl, rfl⟩
      go_wp2_with fail
      refine (cancel_zero g 0 0 (.slice none 0 0) [] id w2b HC2.out).mono ?_
      rintro e w3 ⟨rfl, hb3⟩
      have S3 := Aside0.mk (none_step S2.out hb3)
      have HC3 := Aside0.mk S3.out.2.2.1
      have hs4 := S3.out.1
      have hs5 := S3.out.2.1
      clear hb3 hs2 hs3
      go_wp2_with fail
      refine (jump_zero g 0 0 (.slice none 0 0) []  w3 HC3.out).mono ?_
      rintro e w3b ⟨rfl, rfl⟩
      go_wp2_with fail
      refine (timers_zero g 0 0 (.slice none 0 0) []  w3b HC3.out).mono ?_
      rintro e w3c ⟨rfl, rfl⟩
      go_wp2_with fail
      go_roundg 0
      case measure => omega
      case rel => exact ⟨2, rfl, rfl, S3⟩
    · have e0 : ((2 : Nat) : Int) = 2 := rfl
      go_wp2_with fail
      go_ret
      exact ⟨rfl, HS.out.2.2.2⟩
end Go.Proofs.Ytnniljcmjcjleaa
