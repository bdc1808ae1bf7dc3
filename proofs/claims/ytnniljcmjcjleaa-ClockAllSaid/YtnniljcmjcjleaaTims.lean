/- A clock's Timers. -/
import Derived.Test.YtnniljcmjcjleaaSor
import Derived.Shelf.SlSortCmp.NoneTotal
namespace Go.Proofs.Ytnniljcmjcjleaa
open Go.RowKit Go.Sort Go.Shelf Go.Proofs.Ytnniljcmjcjleaa.QA Go.Proofs.YtnniljcmjcjleaaW.PrintWords Go.Proofs.YtnniljcmjcjleaaW.PrintLast Go.Proofs.YtnniljcmjcjleaaW.PrintMore
attribute [local go_sem] fl_store fl_bits fl_frombits fl_usigned
set_option linter.unusedVariables false
set_option linter.unusedSimpArgs false

def sortT (l : List Tm) : List Tm := ((l.map toA).mergeSort fun x y => !(ltOf cfA) y x).map toTm
theorem cmpLays (blk off size : Nat) (w : World) : CmpLays Try.prog 33 #[] encA 2 cfA blk off size w := fun m os dk hd x y => order_grew (toTm x) (toTm y) _
theorem holds_of {W : World} {base g n c : Nat} {l : List Tm} (h : TB W base (.slice (some ⟨g, 0, none⟩) n c) l) (hA : ∀ t ∈ l, t.2 ≤ Flo.INF) : HoldsK encA 2 W g 0 (l.map toA).toArray := by
  have hr : TR W (.slice (some ⟨g, 0, none⟩) n c) l := Kd.R_lower h (Nat.zero_le _)
  have hl := hr.len.1
  intro j hj
  have hs : (flatK encA 2 (l.map toA).toArray).size = l.length * 2 := by rw [size_flatK]; simp
  have hj2 : j < l.length * 2 := by rw [← hs]; exact hj
  have hq : j / 2 < l.length := by omega
  obtain ⟨g', hg', h0, h1, hf⟩ := hr.get ((j / 2 : Nat) : Int) (by omega) (by omega)
  cases hg'
  rw [Int.toNat_natCast] at h0 h1
  refine ⟨?_, hf _⟩
  have e : (flatK encA 2 (l.map toA).toArray)[j]! = (encA (l.map toA).toArray[j / 2]!)[j % 2]! := get_flatK encA 2 _ j (by simpa using hj2)
  have ex : (l.map toA).toArray[j / 2]! = toA l[j / 2] := by
    rw [getElem!_pos _ _ (by simpa using hq)]
    simp
  have et : tm l ((j / 2 : Nat) : Int) = l[j / 2] := by
    unfold tm
    rw [Int.toNat_natCast, List.getD_eq_getElem?_getD, List.getElem?_eq_getElem hq]
    rfl
  have hb := toTm_toA l[j / 2] (hA _ (List.getElem_mem hq))
  rw [et] at h0 h1
  show W.cell? ⟨g, 0 + j, none⟩ = some (flatK encA 2 (l.map toA).toArray)[j]!
  rw [e, ex, Nat.zero_add]
  have e1 : (toA l[j / 2]).1 = l[j / 2].1 := rfl
  have e2 : (toA l[j / 2]).2.val = l[j / 2].2 := congrArg Prod.snd hb
  have : j % 2 = 0 ∨ j % 2 = 1 := by omega
  rcases this with hm | hm
  · rw [hm]
    have e3 : j / 2 * 2 = j := by omega
    rw [e3] at h0
    exact h0
  · rw [hm]
    show W.cell? ⟨g, j, none⟩ = some (.float .f64 (toA l[j / 2]).2.val)
    have e3 : j / 2 * 2 + 1 = j := by omega
    rw [e3] at h1
    rw [e2]
    exact h1
theorem isAgg_timer (w : World) : (isAgg 70).run Try.prog w = .ok true w := by kernel_rfl
theorem sizeOf_timer (w : World) : (Go.sizeOf 70).run Try.prog w = .ok 2 w := by kernel_rfl
theorem go_order (args : Array Value) (w : World) : (callFunc 33 args).run Try.prog w = .ok (.enter 33 args) w := enters_ Try.func33 (by kernel_rfl) rfl args w
/-- slices.SortFunc at a row of timers of the call's own. -/
theorem sort_calls (v : Value) (l : List Tm) (base : Nat) (W : World) (h : TB W base v l) (hA : ∀ t ∈ l, t.2 ≤ Flo.INF) (hn : l.length ≤ 1000) (hnil : l.length = 0 → v = .slice none 0 0) :
    Calls Try.prog 32 #[v, .func (.func 33) #[] #[]] W fun e w' => e = .returned (.tuple #[]) ∧ TB w' base v (sortT l) ∧ Hold W w' (own v) := by
  rcases Nat.eq_zero_or_pos l.length with h0 | hp
  · have hv := hnil h0
    subst hv
    have hl : l = [] := List.eq_nil_of_length_eq_zero h0
    subst hl
    refine Calls.mono (AnyF.slices_SortFunc_none Try.sortTm none 0 (.func (.func 33) #[] #[]) W) ?_
    rintro e w' ⟨rfl, rfl⟩
    have e0 : sortT [] = [] := by simp [sortT]
    rw [e0]
    exact ⟨rfl, Kd.R_nil _ _ _ _ _, Hold.refl _ _⟩
  · obtain ⟨g, c, rfl, hb, hlt, cells, hc⟩ := Kd.R_form h hp
    have hs : (l.map toA).toArray.size = l.length := by simp
    have hcon := AnyQ.slices_SortFunc_total Try.sortTm 2 isAgg_timer sizeOf_timer encA (fun _ => rfl) (fun x u hu => by simp [encA] at hu; rcases hu with rfl | rfl <;> rfl) cfA swoA 33 #[] g 0 c (l.map toA).toArray W go_order (cmpLays g 0 _ W) (holds_of h hA) hlt (by rw [hs]; omega) totalA
    rw [hs] at hcon
    refine Calls.mono hcon ?_
    rintro e w' ⟨rfl, m, os, rfl⟩
    have hd : (((l.map toA).toArray.toList.mergeSort fun x y => !(ltOf cfA) y x).toArray).size = l.length := by simp
    obtain ⟨h1, h2⟩ := sorted_TB h _ hd m os
    refine ⟨rfl, h1, h2.mono (fun k hk => ?_)⟩
    show some k = _
    rw [hk]
    rfl
set_option maxHeartbeats 4000000 in
theorem timers_nil (w : World) : Calls Try.prog 15 #[.pointer none] w fun e w' => e = .returned (.slice none 0 0) ∧ w' = w := by
  go_enter Try.func15, Try.ntmps15
  go_wp2_with fail
  refine (there_nil w).mono ?_
  rintro e w2 ⟨rfl, rfl⟩
  go_wp2_with fail
  go_ret
  exact ⟨rfl, rfl⟩
set_option maxHeartbeats 4000000 in
theorem timers_zero (g : Nat) (now : Nat) (last : Int) (v : Value) (l : List Tm) (w : World) (h : CAt w g false now last v l) : Calls Try.prog 15 #[.pointer (some ⟨g, 0, none⟩)] w fun e w' => e = .returned (.slice none 0 0) ∧ w' = w := by
  have H := Aside0.mk h
  clear h
  go_enter Try.func15, Try.ntmps15
  go_wp2_with fail
  refine (there_calls g false now last v l w H.out).mono ?_
  rintro e w2 ⟨rfl, rfl⟩
  go_wp2_with fail
  go_ret
  exact ⟨rfl, rfl⟩
set_option maxHeartbeats 8000000 in
set_option maxRecDepth 100000 in
theorem timers_calls (g : Nat) (now : Nat) (last : Int) (v : Value) (l : List Tm) (w : World) (h : CAt w g true now last v l) (hA : ∀ t ∈ l, t.2 ≤ Flo.INF) (hn : l.length ≤ 1000) :
    Calls Try.prog 15 #[.pointer (some ⟨g, 0, none⟩)] w fun e w' => ∃ u, e = .returned u ∧ TB w' w.heap.size u (sortT l) ∧ Below w.heap.size w w' := by
  have H := Aside0.mk h
  have HA := Aside0.mk hA
  have HN := Aside0.mk hn
  have hc3 := h.cell3
  obtain ⟨A, c, hv⟩ := h.row.slice
  subst hv
  obtain ⟨v1, w1, hrun, ht1, hb1, hz1, ho1⟩ := timers_copy A l.length c l w h.row hn
  have HRUN := Aside0.mk hrun
  have HT := Aside0.mk ht1
  have HB := Aside0.mk hb1
  have HZ := Aside0.mk hz1
  have HO := Aside0.mk ho1
  clear h hA hn hrun ht1 hb1 hz1 ho1
  go_enter Try.func15, Try.ntmps15
  go_wp2_with fail
  refine (there_calls g true now last _ l w H.out).mono ?_
  rintro e w2 ⟨rfl, rfl⟩
  go_wp2_with ((with_reducible refine gate_builtin (b := .append) (xs := #[.const (.slice none 0 0), .tmp 10]) rfl ?_); at_builtin; refine Kd.event_run (v := v1) (w1 := w1) rfl ?hr ?_; (case hr => unfold execOp; simp only [resolve, invoke, builtin, Sem.run_bind, Sem.run_pure, Result.andThen_ok, List.map_toArray, List.map_cons, List.map_nil]; refine Eq.trans (congrArg (fun r => Result.andThen r _) HRUN.out) rfl))
  refine (sort_calls v1 l w2.heap.size w1 HT.out HA.out HN.out HZ.out).mono ?_
  rintro e w3 ⟨rfl, ht3, hh3⟩
  have HT3 := Aside0.mk ht3
  have HB3 : Aside0 (Below w2.heap.size w2 w3) := ⟨by
    rcases Nat.eq_zero_or_pos l.length with h0 | hp
    · have hv1 := HZ.out h0
      exact HB.out.trans (hh3.below _ HB.out.size (fun k hk => by rw [own, hv1] at hk; cases hk))
    · have hv1 := HO.out hp
      exact HB.out.trans (hh3.below _ HB.out.size (fun k hk => by rw [own, hv1] at hk; injection hk with hk; omega))⟩
  clear ht3 hh3
  go_wp2_with fail
  go_ret
  exact ⟨_, rfl, HT3.out, HB3.out⟩
end Go.Proofs.Ytnniljcmjcjleaa
