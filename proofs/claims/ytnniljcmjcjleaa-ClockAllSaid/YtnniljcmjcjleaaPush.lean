/- container/heap over a clock's timers: Push, Pop, Remove. -/
import Derived.Test.YtnniljcmjcjleaaHeap
import Derived.Deep.RegionLaw
import Derived.Deep.DrawnRows
namespace Go.Proofs.Ytnniljcmjcjleaa
open Go.RowKit Go.Proofs.Ytnniljcmjcjleaa.QA Go.Proofs.YtnniljcmjcjleaaW.PrintWords Go.Proofs.YtnniljcmjcjleaaW.PrintLast Go.Proofs.YtnniljcmjcjleaaW.PrintMore
attribute [local go_sem] fl_store fl_bits fl_frombits fl_usigned
set_option linter.unusedVariables false
set_option linter.unusedSimpArgs false

theorem assert_timer (x : Value) (w : World) : (Instr.typeAssert (.iface 70 x) 20 70 false).run Try.prog w = .ok x w := by kernel_rfl
theorem under_timers : Try.prog.underlying 58 = some (.slice 70) := by kernel_rfl
theorem under_timers2 : Try.prog.underlying 39 = some (.slice 70) := by kernel_rfl
theorem info_timer : (Try.prog.info? 70).map (fun i => (i.zero, i.size, i.bytes)) = some (some (.agg #[.int .i64 0, .float .f64 0]), 2, 16) := by kernel_rfl
/-- The row is at another place now. -/
def MovePost (w : World) (g : Nat) (b : Bool) (now : Nat) (last : Int) (v : Value) (l : List Tm) (w' : World) : Prop :=
  ∃ v', CAt w' g b now last v' l ∧ Hold w w' (fun k => k = g ∨ own v k) ∧ (v'.ownBlock = v.ownBlock ∨ ∃ k, v'.ownBlock = some k ∧ w.heap.size ≤ k)

theorem Hold.put {w w1 : World} {S : Nat → Prop} {g : Nat} (h : Hold w w1 S) (hs : S g) (j : Nat) (v : Value) : Hold w (w1.setCell ⟨g, j, none⟩ v) S :=
  ⟨h.os, h.tape, h.output, by simpa [World.setCell] using h.size, fun k hk hn => (Below.heap_setCell w1 ⟨g, j, none⟩ v k (fun he => hn (by rw [show k = g from he]; exact hs))).trans (h.block k hk hn)⟩
/-- The row's own cell is written. -/
theorem CAt.put {w1 : World} {g : Nat} {b : Bool} {now : Nat} {last : Int} {v v1 : Value} {l1 : List Tm} (hc : w1.heap[g]? = some (.cells #[.bool b, .float .f64 now, .int .i64 last, v] 60 (0, 0))) (hr : TR w1 v1 l1) : CAt (w1.setCell ⟨g, 3, none⟩ v1) g b now last v1 l1 :=
  ⟨blk_put hc 3 v1 rfl, Kd.R_set hr hc (by intro q hq; cases hq with | head => decide | tail _ h => cases h) 3 v1⟩
theorem moved {w w1 : World} {g : Nat} {b : Bool} {now : Nat} {last : Int} {v v1 : Value} {l l1 : List Tm} (h : CAt w g b now last v l) (hg : w.drew.grownBy w1 v.ownBlock)
    (hc : w1.heap[g]? = some (.cells #[.bool b, .float .f64 now, .int .i64 last, v] 60 (0, 0))) (hr : TR w1 v1 l1) (hat : v1.ownBlock = v.ownBlock ∨ ∃ k, v1.ownBlock = some k ∧ w.drew.heap.size ≤ k) :
    MovePost w g b now last v l1 (w1.setCell ⟨g, 3, none⟩ v1) := by
  refine ⟨v1, CAt.put hc hr, ?_, hat⟩
  have h1 := (Hold.of_below (Below.refl w.heap.size w).drew (fun k => k = g ∨ own v k)).trans (S1 := own v) (Hold.of_grown hg) (fun k hk => .inl (.inr hk))
  exact h1.put (.inl rfl) 3 v1

set_option maxHeartbeats 8000000 in
set_option maxRecDepth 100000 in
theorem pushm_calls (g : Nat) (b : Bool) (now : Nat) (last : Int) (v : Value) (l : List Tm) (x : Tm) (w : World) (h : CAt w g b now last v l) (hn : l.length ≤ 1000) :
    Calls Try.prog 89 #[.pointer (some ⟨g, 3, none⟩), .iface 70 (.agg #[.int .i64 x.1, .float .f64 x.2])] w fun e w' => e = .returned (.tuple #[]) ∧ MovePost w g b now last v (l ++ [x]) w' := by
  obtain ⟨A, c, hv⟩ := h.row.slice
  subst hv
  obtain ⟨N, hN⟩ : ∃ N, N = l.length := ⟨_, rfl⟩
  rw [← hN] at h ⊢ hn
  have H := Aside0.mk h
  have HN := Aside0.mk hN
  have HM := Aside0.mk hn
  have hc3 := h.cell3
  have hc3a : ∀ o, (w.alloc o).cell? ⟨g, 3, none⟩ = some (.slice A N c) := fun o => pw_cell_below ((Below.refl _ _).alloc (Nat.le_refl _) o) h.cell3
  have ha := assert_timer
  clear h hN hn
  go_enter Try.func89, Try.ntmps89
  go_wp2_with fail
  go_region_law
    (refine Kd.R_append_step kT (w0 := w) (W := w.drew) 0 (by rfl) (.tmp 7) (.tmp 10) 58 70 (.agg #[.int .i64 0, .float .f64 0]) 16 (by rfl) under_timers info_timer rfl (by decide) (by decide) (.slice A N c) l x [.int .i64 x.1, .float .f64 x.2] (fun _ => True) (fun _ => False) (by rfl) (by rfl) (kT_mk _ _ _ _) (fun _ hk => hk.elim) (fun _ _ => trivial) H.out.drew.row (Below.refl _ _).drew (Nat.zero_le _) (by have := HN.out; have := HM.out; omega) ?_; intro v1 w1 hr1 hb1 hg1 hat1; obtain ⟨A1, c1, rfl⟩ := Kd.R_slice hr1; have HP := Aside0.mk (And.intro hr1 (And.intro hg1 hat1)); have hcg := (hg1.block g (blk_lt H.out.drew.blk) H.out.drew.ne_own).trans H.out.drew.blk; have HCG := Aside0.mk hcg; have hz1 : w1.cell? ⟨g, 3, none⟩ = some (.slice A N c) := (blk_cell hcg 3).trans rfl; have hz2 := blk_frozen hcg 3; clear hr1 hb1 hg1 hat1 hcg)
  all_goals
    have elen : l.length + 1 = (l ++ [x]).length := by simp
    rw [elen]
    go_end0
    exact ⟨rfl, moved H.out HP.out.2.1 HCG.out HP.out.1 HP.out.2.2⟩

theorem MovePost.row {w w1 w2 : World} {g : Nat} {b : Bool} {now : Nat} {last : Int} {v v1 : Value} {l2 : List Tm} (h1 : Hold w w1 (fun k => k = g ∨ own v k)) (hat : v1.ownBlock = v.ownBlock ∨ ∃ k, v1.ownBlock = some k ∧ w.heap.size ≤ k)
    (h2 : RowPost w1 g b now last v1 l2 w2) : MovePost w g b now last v l2 w2 := by
  refine ⟨v1, h2.1, h1.trans h2.2 (fun k hk => ?_), hat⟩
  rcases hat with he | ⟨k', he, hk'⟩
  · exact .inl (.inr (hk.trans he))
  · have : some k = some k' := hk.trans he
    injection this with this
    exact .inr (by omega)
theorem MovePost.step {w w1 w2 : World} {g : Nat} {b1 : Bool} {now1 : Nat} {last1 : Int} {v v1 : Value} {l2 : List Tm} (h1 : Hold w w1 (fun k => k = g ∨ own v k)) (hat : v1.ownBlock = v.ownBlock ∨ ∃ k, v1.ownBlock = some k ∧ w.heap.size ≤ k)
    (h2 : MovePost w1 g b1 now1 last1 v1 l2 w2) : MovePost w g b1 now1 last1 v l2 w2 := by
  obtain ⟨v2, hc, hh, ha⟩ := h2
  refine ⟨v2, hc, h1.trans hh (fun k hk => ?_), ?_⟩
  · rcases hk with hk | hk
    · exact .inl (.inl hk)
    rcases hat with he | ⟨k', he, hk'⟩
    · exact .inl (.inr (hk.trans he))
    · have : some k = some k' := hk.trans he
      injection this with this
      exact .inr (by omega)
  · rcases ha with he | ⟨k', he, hk'⟩
    · rcases hat with he2 | ⟨k2, he2, hk2⟩
      · exact .inl (he.trans he2)
      · exact .inr ⟨k2, he.trans he2, hk2⟩
    · exact .inr ⟨k', he, by have := h1.size; omega⟩

def pushP (l : List Tm) (x : Tm) : List Tm := upP (l ++ [x]) l.length
set_option maxHeartbeats 8000000 in
set_option maxRecDepth 100000 in
theorem push_calls (g : Nat) (b : Bool) (now : Nat) (last : Int) (v : Value) (l : List Tm) (x : Tm) (w : World) (h : CAt w g b now last v l) (hn : l.length ≤ 900) :
    Calls Try.prog 29 #[.iface 68 (.pointer (some ⟨g, 3, none⟩)), .iface 70 (.agg #[.int .i64 x.1, .float .f64 x.2])] w fun e w' => e = .returned (.tuple #[]) ∧ MovePost w g b now last v (pushP l x) w' := by
  have H := Aside0.mk h
  have HM := Aside0.mk hn
  have g1 := go_push
  have g2 := go_len
  have m1 := meth_push
  clear h hn
  go_enter Try.func29, Try.ntmps29
  go_wp2_with fail
  refine (pushm_calls g b now last v l x w H.out (by have := HM.out; omega)).mono ?_
  rintro e w1 ⟨rfl, v1, hc1, hh1, hat1⟩
  have HC1 := Aside0.mk hc1
  have HH1 := Aside0.mk hh1
  have HAT := Aside0.mk hat1
  obtain ⟨A1, c1, rfl⟩ := hc1.row.slice
  have hm1 := meth_len ⟨g, 3, none⟩ _ w1 hc1.cell3
  obtain ⟨n, hn⟩ : ∃ n, n = (l ++ [x]).length := ⟨_, rfl⟩
  have HN := Aside0.mk hn
  rw [← hn] at hm1
  have hnn : n = l.length + 1 := by rw [hn]; simp
  have HNN := Aside0.mk hnn
  have e1 : wrap64 ((n : Int) - 1) = (l.length : Int) := by rw [w64 _ (by have := HM.out; omega)]; omega
  clear hc1 hh1 hat1 hn hnn
  go_wp2_with fail
  refine (len_calls A1 n c1 w1).mono ?_
  rintro e w2 ⟨rfl, rfl⟩
  go_wp2_with fail
  refine (up_calls g b now last _ (l ++ [x]) l.length w2 HC1.out (by rw [← HN.out, HNN.out]; omega) (by rw [← HN.out, HNN.out]; have := HM.out; omega)).mono ?_
  rintro e w3 ⟨rfl, hp⟩
  have HP := Aside0.mk (MovePost.row HH1.out HAT.out hp)
  clear hp
  go_wp2_with fail
  go_end0
  exact ⟨rfl, HP.out⟩

set_option maxHeartbeats 8000000 in
set_option maxRecDepth 100000 in
theorem popm_calls (g : Nat) (b : Bool) (now : Nat) (last : Int) (v : Value) (l : List Tm) (m : Nat) (w : World) (h : CAt w g b now last v l) (hm : l.length = m + 1) (hn : l.length ≤ 1000) :
    Calls Try.prog 88 #[.pointer (some ⟨g, 3, none⟩)] w fun e w' => e = .returned (.iface 70 (.agg #[.int .i64 (tm l m).1, .float .f64 (tm l m).2])) ∧ MovePost w g b now last v (l.take m) w' := by
  obtain ⟨A, c, hv⟩ := h.row.slice
  subst hv
  obtain ⟨N, hN⟩ : ∃ N, N = l.length := ⟨_, rfl⟩
  rw [← hN] at h ⊢ hn hm
  have H := Aside0.mk h
  have HN := Aside0.mk hN
  have HM := Aside0.mk hm
  have HL := Aside0.mk hn
  have hc3 := h.cell3
  obtain ⟨r, rfl, hi0, hi1, hf⟩ := h.row.get (m : Int) (by omega) (by omega)
  rw [Int.toNat_natCast] at hi0 hi1
  have e1 : wrap64 ((N : Int) - 1) = (m : Int) := by rw [w64 _ (by omega)]; omega
  have n1 : (0 : Int) ≤ (m : Int) := by omega
  have n2 : (m : Int) < (N : Int) := by omega
  obtain ⟨O, hO⟩ : ∃ O, O = (Obj.cells #[.int .i64 (tm l m).1, .float .f64 (tm l m).2] 70) := ⟨_, rfl⟩
  have hc3a : ∀ o, (w.alloc o).cell? ⟨g, 3, none⟩ = some (.slice (some ⟨r, 0, none⟩) N c) := fun o => pw_cell_below ((Below.refl _ _).alloc (Nat.le_refl _) o) h.cell3
  have hf3 : ∀ o, (w.alloc o).frozen? ⟨g, 3, none⟩ = false := fun o => (h.below ((Below.refl _ _).alloc (Nat.le_refl _) o)).frozen 3
  have hlt : g < w.heap.size := blk_lt h.blk
  have hnew : (w.alloc (.cells #[.int .i64 (tm l m).1, .float .f64 (tm l m).2] 70)).heap[w.heap.size]? = some (.cells #[.int .i64 (tm l m).1, .float .f64 (tm l m).2] 70 (0, 0)) := by show (w.heap.push _)[w.heap.size]? = _; exact Array.getElem?_push_size
  have hn0 : ∀ v, ((w.alloc (.cells #[.int .i64 (tm l m).1, .float .f64 (tm l m).2] 70)).setCell ⟨g, 3, none⟩ v).cell? ⟨w.heap.size, 0, none⟩ = some (.int .i64 (tm l m).1) := fun v => (blk_cell (blk_far (p := ⟨g, 3, none⟩) hnew (by intro he; have : w.heap.size = g := he; omega) v) 0).trans rfl
  have hn1 : ∀ v, ((w.alloc (.cells #[.int .i64 (tm l m).1, .float .f64 (tm l m).2] 70)).setCell ⟨g, 3, none⟩ v).cell? ⟨w.heap.size, 1, none⟩ = some (.float .f64 (tm l m).2) := fun v => (blk_cell (blk_far (p := ⟨g, 3, none⟩) hnew (by intro he; have : w.heap.size = g := he; omega) v) 1).trans rfl
  have HA := Aside0.mk ((Below.refl w.heap.size w).alloc (Nat.le_refl _) (.cells #[.int .i64 (tm l m).1, .float .f64 (tm l m).2] 70))
  have HC1 := Aside0.mk (h.below HA.out)
  have HR1 : Aside0 (TR (w.alloc (.cells #[.int .i64 (tm l m).1, .float .f64 (tm l m).2] 70)) (.slice (some ⟨r, 0, none⟩) m c) (l.take m)) := ⟨Kd.R_take HC1.out.row (by omega)⟩
  have hmc : m ≤ c := by have := h.row.len.2; omega
  have n3 : (m : Int) ≤ (c : Int) := by omega
  clear h hN hn hm hnew hlt hO
  go_enter Try.func88, Try.ntmps88
  go_wp2_with fail
  go_ret
  refine ⟨rfl, _, CAt.put HC1.out.blk HR1.out, ?_, .inl rfl⟩
  have h1 := Hold.of_below HA.out (fun k => k = g ∨ own (.slice (some ⟨r, 0, none⟩) N c) k)
  exact h1.put (.inl rfl) 3 _

/-- What heap.Pop leaves behind, and gives. -/
def popP (l : List Tm) : List Tm := (downP (l.length - 1) (swapT l 0 (l.length - 1)) 0).1
theorem downP_length (n : Nat) (l : List Tm) (i : Nat) : (downP n l i).1.length = l.length := by
  fun_induction downP n l i with
  | case1 l i h hl ih => rw [ih, swapT_length]
  | case2 => rfl
  | case3 => rfl
theorem upP_length (l : List Tm) (j : Nat) : (upP l j).length = l.length := by
  fun_induction upP l j with
  | case1 => rfl
  | case2 l j h ih => rw [ih, swapT_length]
  | case3 => rfl
set_option maxHeartbeats 8000000 in
set_option maxRecDepth 100000 in
theorem pop_calls (g : Nat) (b : Bool) (now : Nat) (last : Int) (v : Value) (l : List Tm) (m : Nat) (w : World) (h : CAt w g b now last v l) (hm : l.length = m + 1) (hn : l.length ≤ 1000) :
    Calls Try.prog 31 #[.iface 68 (.pointer (some ⟨g, 3, none⟩))] w fun e w' => (∃ u, e = .returned u) ∧ MovePost w g b now last v ((popP l).take m) w' := by
  obtain ⟨A, c, hv⟩ := h.row.slice
  subst hv
  obtain ⟨N, hN⟩ : ∃ N, N = l.length := ⟨_, rfl⟩
  have HM : Aside0 (l.length = m + 1) := ⟨hm⟩
  have HL : Aside0 (l.length ≤ 1000) := ⟨hn⟩
  rw [← hN] at h ⊢
  have H := Aside0.mk h
  have hm1 := meth_len ⟨g, 3, none⟩ _ w h.cell3
  have hm2 := meth_swap ⟨g, 3, none⟩ _ w h.cell3
  have m1 := meth_pop
  have g1 := go_len
  have g2 := go_swap
  have g3 := go_pop
  have HN := Aside0.mk hN
  have e1 : wrap64 ((N : Int) - 1) = (m : Int) := by rw [w64 _ (by omega)]; omega
  have hr := h.row
  have HR := Aside0.mk hr
  clear h hm hn hN hr
  go_enter Try.func31, Try.ntmps31
  go_wp2_with fail
  refine (len_calls A N c w).mono ?_
  rintro e w2 ⟨rfl, rfl⟩
  go_wp2_with fail
  refine (swap_calls A N c 0 (m : Int) l w2 HR.out (by omega) (by have := HN.out; have := HM.out; omega) (by omega) (by have := HN.out; have := HM.out; omega)).mono ?_
  rintro e w3 ⟨rfl, hr3, hg3⟩
  have HC3 : Aside0 (CAt w3 g b now last (.slice A N c) (swapT l 0 m)) := ⟨H.out.wrote hg3 hr3⟩
  have HH3 := Aside0.mk (Hold.of_grown hg3)
  clear hg3 hr3 hm2 hm1
  go_wp2_with fail
  refine (down_calls g b now last (.slice A N c) (swapT l 0 m) 0 m w3 HC3.out (by omega) (by rw [swapT_length]; have := HM.out; omega) (by rw [swapT_length]; exact HL.out)).mono ?_
  rintro e w4 ⟨rfl, hc4, hh4⟩
  have HC4 := Aside0.mk hc4
  have HH4 := Aside0.mk (HH3.out.trans hh4 (fun k hk => .inl hk))
  clear hc4 hh4
  go_wp2_with fail
  refine (popm_calls g b now last (.slice A N c) (downP m (swapT l 0 m) 0).1 m w4 HC4.out (by rw [downP_length, swapT_length]; exact HM.out) (by rw [downP_length, swapT_length]; exact HL.out)).mono ?_
  rintro e w5 ⟨rfl, hp⟩
  have HP := Aside0.mk hp
  clear hp
  go_wp2_with fail
  go_ret
  have em : l.length - 1 = m := by have := HM.out; omega
  rw [popP, em]
  exact ⟨⟨_, rfl⟩, MovePost.step (HH4.out.mono (fun k hk => .inr hk)) (.inl rfl) HP.out⟩

def removeP (l : List Tm) (i : Nat) : List Tm :=
  if l.length - 1 = i then l
  else
    let d := downP (l.length - 1) (swapT l i (l.length - 1)) i
    if i < d.2 then d.1 else upP d.1 i
set_option maxHeartbeats 8000000 in
set_option maxRecDepth 100000 in
theorem remove_calls (g : Nat) (b : Bool) (now : Nat) (last : Int) (v : Value) (l : List Tm) (i m : Nat) (w : World) (h : CAt w g b now last v l) (hm : l.length = m + 1) (hi : i ≤ m) (hn : l.length ≤ 1000) :
    Calls Try.prog 39 #[.iface 68 (.pointer (some ⟨g, 3, none⟩)), .int .i64 i] w fun e w' => (∃ u, e = .returned u) ∧ MovePost w g b now last v ((removeP l i).take m) w' := by
  obtain ⟨A, c, hv⟩ := h.row.slice
  subst hv
  obtain ⟨N, hN⟩ : ∃ N, N = l.length := ⟨_, rfl⟩
  have HM : Aside0 (l.length = m + 1) := ⟨hm⟩
  have HL : Aside0 (l.length ≤ 1000) := ⟨hn⟩
  have HI := Aside0.mk hi
  rw [← hN] at h ⊢
  have H := Aside0.mk h
  have hm1 := meth_len ⟨g, 3, none⟩ _ w h.cell3
  have hm2 := meth_swap ⟨g, 3, none⟩ _ w h.cell3
  have m1 := meth_pop
  have g1 := go_len
  have g2 := go_swap
  have g3 := go_pop
  have HN := Aside0.mk hN
  have e1 : wrap64 ((N : Int) - 1) = (m : Int) := by rw [w64 _ (by omega)]; omega
  have hr := h.row
  have HR := Aside0.mk hr
  have em : l.length - 1 = m := by omega
  have HEM := Aside0.mk em
  clear h hm hn hN hr em hi
  go_enter Try.func39, Try.ntmps39
  go_wp2_with fail
  refine (len_calls A N c w).mono ?_
  rintro e w2 ⟨rfl, rfl⟩
  by_cases him : m = i
  · have e2 : ((m : Int) = (i : Int)) = True := eq_true (by omega)
    have e4 : ((m : Int) != (i : Int)) = false := by simp [him]
    have HIM := Aside0.mk him
    clear him
    go_wp2_with fail
    refine (popm_calls g b now last (.slice A N c) l m w2 H.out HM.out HL.out).mono ?_
    rintro e w5 ⟨rfl, hp⟩
    have HP := Aside0.mk hp
    clear hp
    go_wp2_with fail
    go_ret
    rw [removeP, HEM.out, if_pos HIM.out]
    exact ⟨⟨_, rfl⟩, HP.out⟩
  · have e2 : ((m : Int) = (i : Int)) = False := eq_false (by omega)
    have e4 : ((m : Int) != (i : Int)) = true := by simp; omega
    have e3 : m = i ↔ False := ⟨him, False.elim⟩
    have HIM := Aside0.mk him
    clear him
    go_wp2_with fail
    refine (swap_calls A N c (i : Int) (m : Int) l w2 HR.out (by omega) (by have := HN.out; have := HM.out; have := HI.out; omega) (by omega) (by have := HN.out; have := HM.out; omega)).mono ?_
    rintro e w3 ⟨rfl, hr3, hg3⟩
    have HC3 : Aside0 (CAt w3 g b now last (.slice A N c) (swapT l i m)) := ⟨H.out.wrote hg3 hr3⟩
    have HH3 := Aside0.mk (Hold.of_grown hg3)
    clear hg3 hr3 hm2 hm1
    go_wp2_with fail
    refine (down_calls g b now last (.slice A N c) (swapT l i m) i m w3 HC3.out HI.out (by rw [swapT_length]; have := HM.out; omega) (by rw [swapT_length]; exact HL.out)).mono ?_
    rintro e w4 ⟨rfl, hc4, hh4⟩
    have HC4 := Aside0.mk hc4
    have HH4 := Aside0.mk (HH3.out.trans hh4 (fun k hk => .inl hk))
    clear hc4 hh4
    obtain ⟨d, hd⟩ : ∃ d, d = downP m (swapT l i m) i := ⟨_, rfl⟩
    have HD := Aside0.mk hd
    have HDL : Aside0 (d.1.length = m + 1) := ⟨by rw [hd, downP_length, swapT_length]; exact HM.out⟩
    rw [← hd] at HC4
    obtain ⟨r, hr⟩ : ∃ r, decide (i < d.2) = r := ⟨_, rfl⟩
    rw [← hd, hr]
    have HR2 := Aside0.mk hr
    clear hr hd
    cases r with
    | true =>
      go_wp2_with fail
      refine (popm_calls g b now last (.slice A N c) d.1 m w4 HC4.out HDL.out (by rw [HDL.out, ← HM.out]; exact HL.out)).mono ?_
      rintro e w5 ⟨rfl, hp⟩
      have HP := Aside0.mk hp
      clear hp
      go_wp2_with fail
      go_ret
      rw [removeP, HEM.out, if_neg HIM.out, ← HD.out, if_pos (of_decide_eq_true HR2.out)]
      exact ⟨⟨_, rfl⟩, MovePost.step (HH4.out.mono (fun k hk => .inr hk)) (.inl rfl) HP.out⟩
    | false =>
      go_wp2_with fail
      refine (up_calls g b now last (.slice A N c) d.1 i w4 HC4.out (by rw [HDL.out]; have := HI.out; omega) (by rw [HDL.out, ← HM.out]; exact HL.out)).mono ?_
      rintro e w5 ⟨rfl, hc5, hh5⟩
      have HC5 := Aside0.mk hc5
      have HH5 := Aside0.mk (HH4.out.trans hh5 (fun k hk => .inl hk))
      clear hc5 hh5
      go_wp2_with fail
      refine (popm_calls g b now last (.slice A N c) (upP d.1 i) m w5 HC5.out (by rw [upP_length]; exact HDL.out) (by rw [upP_length, HDL.out, ← HM.out]; exact HL.out)).mono ?_
      rintro e w6 ⟨rfl, hp⟩
      have HP := Aside0.mk hp
      clear hp
      go_wp2_with fail
      go_ret
      rw [removeP, HEM.out, if_neg HIM.out, ← HD.out, if_neg (of_decide_eq_false HR2.out)]
      exact ⟨⟨_, rfl⟩, MovePost.step (HH5.out.mono (fun k hk => .inr hk)) (.inl rfl) HP.out⟩
end Go.Proofs.Ytnniljcmjcjleaa
