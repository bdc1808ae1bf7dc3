/- The reference's clock: After. -/
import Derived.Test.YtnniljcmjcjleaaRefC
import Derived.Test.YtnniljcmjcjleaaOrdP
namespace Go.Proofs.Ytnniljcmjcjleaa
open Go.RowKit Go.Proofs.Ytnniljcmjcjleaa.QA Go.Proofs.YtnniljcmjcjleaaW.PrintWords Go.Proofs.YtnniljcmjcjleaaW.PrintLast Go.Proofs.YtnniljcmjcjleaaW.PrintMore
attribute [local go_sem] fl_store fl_bits fl_frombits fl_usigned
set_option linter.unusedVariables false
set_option linter.unusedSimpArgs false

theorem compare_good (a b : Nat) (ha : a ≤ 9218868437227405312) (hb : b ≤ 9218868437227405312) : flumeref3_Compare.f a b = some (if a < b then -1 else if b < a then 1 else 0) := by
  rw [flumeref3_Compare.f, key_good a ha, key_good b hb, Option.bind_some, Option.bind_some]
  by_cases h : a < b
  · rw [if_pos h, if_pos (by omega)]
  · rw [if_neg h, if_neg (by omega), Option.bind_some, Option.bind_some]
    by_cases h2 : b < a
    · rw [if_pos h2, if_pos (by omega)]
    · rw [if_neg h2, if_neg (by omega)]
/-- Where the new one goes: behind those that are not later. -/
def posR (l : List Tm) (s : Nat) : Nat := (l.takeWhile fun y => decide (y.2 ≤ s)).length
theorem posR_le (l : List Tm) (s : Nat) : posR l s ≤ l.length := (List.takeWhile_sublist _).length_le
theorem posR_lt : ∀ (l : List Tm) (s i : Nat) (h : i < posR l s) (h2 : i < l.length), l[i].2 ≤ s
  | y :: l, s, i, h, h2 => by
    unfold posR at h
    rw [List.takeWhile_cons] at h
    by_cases hy : decide (y.2 ≤ s) = true
    · rw [if_pos hy] at h
      cases i with
      | zero => exact of_decide_eq_true hy
      | succ i => exact posR_lt l s i (Nat.lt_of_succ_lt_succ h) (Nat.lt_of_succ_lt_succ h2)
    · rw [if_neg hy] at h
      simp at h
theorem posR_ge : ∀ (l : List Tm) (s : Nat) (h : posR l s < l.length), s < l[posR l s].2
  | [], s, h => by simp at h
  | y :: l, s, h => by
    by_cases hy : decide (y.2 ≤ s) = true
    · have e : posR (y :: l) s = posR l s + 1 := by unfold posR; rw [List.takeWhile_cons, if_pos hy]; rfl
      have h2 : posR l s < l.length := by rw [e] at h; simpa using h
      have := posR_ge l s h2
      simp only [e, List.getElem_cons_succ]
      exact this
    · have e : posR (y :: l) s = 0 := by unfold posR; rw [List.takeWhile_cons, if_neg hy]; rfl
      simp only [e, List.getElem_cons_zero]
      have : ¬ y.2 ≤ s := fun h => hy (decide_eq_true h)
      omega
def insR (l : List Tm) (x : Tm) : List Tm := l.take (posR l x.2) ++ x :: l.drop (posR l x.2)
def shiftL (l : List Tm) (x : Tm) (k : Nat) : List Tm := (l ++ [x]).take (k + 1) ++ l.drop k
theorem shift_len (l : List Tm) (x : Tm) (k : Nat) (h : k ≤ l.length) : (shiftL l x k).length = l.length + 1 := by
  unfold shiftL
  rw [List.length_append, List.length_take, List.length_drop, List.length_append, List.length_singleton]
  omega
theorem shift_start (l : List Tm) (x : Tm) : shiftL l x l.length = l ++ [x] := by
  unfold shiftL
  rw [List.drop_length, List.append_nil, List.take_of_length_le (by rw [List.length_append, List.length_singleton]; exact Nat.le_refl _)]
theorem shift_get' (l : List Tm) (x : Tm) (k : Nat) (h : k + 1 ≤ l.length) : (shiftL l x (k + 1))[k]? = some (l[k]'(by omega)) := by
  unfold shiftL
  rw [List.getElem?_append_left (by rw [List.length_take, List.length_append, List.length_singleton]; omega), List.getElem?_take, if_pos (by omega), List.getElem?_append_left (by omega), List.getElem?_eq_getElem (by omega)]
theorem shift_get (l : List Tm) (x : Tm) (k : Nat) (h : k + 1 ≤ l.length) (h2 : k < (shiftL l x (k + 1)).length) : (shiftL l x (k + 1))[k] = l[k] := by
  have h3 := shift_get' l x k h
  rw [List.getElem?_eq_getElem h2] at h3
  injection h3
theorem shift_set (l : List Tm) (x : Tm) (k : Nat) (h : k + 1 ≤ l.length) : (shiftL l x (k + 1)).set (k + 1) l[k] = shiftL l x k := by
  unfold shiftL
  apply List.ext_getElem?
  intro j
  rw [List.getElem?_set]
  simp only [List.getElem?_append, List.length_append, List.length_take, List.length_drop, List.length_singleton, List.getElem?_take, List.getElem?_drop]
  by_cases h1 : k + 1 = j
  · subst h1
    rw [if_pos rfl, if_pos (by omega), if_neg (by omega), List.getElem?_eq_getElem (by omega)]
    congr 1
    congr 1
    omega
  · rw [if_neg h1]
    rcases Nat.lt_or_ge j (k + 1) with h2 | h2
    · rw [if_pos (by omega), if_pos (by omega), if_pos (by omega), if_pos (by omega), if_pos (by omega)]
    · rw [if_neg (by omega), if_neg (by omega)]
      congr 1
      omega
theorem shift_end (l : List Tm) (x : Tm) (k : Nat) (h : k ≤ l.length) : (shiftL l x k).set k x = l.take k ++ x :: l.drop k := by
  unfold shiftL
  have hm : (l.take k).length = k := by rw [List.length_take, Nat.min_eq_left h]
  have e : (l ++ [x]).take (k + 1) = l.take k ++ [(l ++ [x])[k]'(by rw [List.length_append, List.length_singleton]; omega)] := by
    rw [List.take_succ_eq_append_getElem (by rw [List.length_append, List.length_singleton]; omega), List.take_append_of_le_length h]
  rw [e, List.append_assoc, List.set_append_right _ _ (by omega), hm, Nat.sub_self]
  rfl

def RAfterPost (w : World) (r : Nat) (now : Nat) (v : Value) (l : List Tm) (N : Int) (d : Nat) (e : Ending) (w' : World) : Prop :=
  if (plainF d).2 = false then e = .returned (.tuple #[.int .i64 0, .int .i64 1]) ∧ MoveR w r now v l N w'
  else if 256 = l.length then e = .returned (.tuple #[.int .i64 0, .int .i64 9]) ∧ MoveR w r now v l N w'
  else e = .returned (.tuple #[.int .i64 (N + 1), .int .i64 0]) ∧ MoveR w r now v (insR l (N + 1, addF now (plainF d).1)) (N + 1) w'
set_option maxHeartbeats 16000000 in
set_option maxRecDepth 100000 in
theorem rafter_calls (r : Nat) (now : Nat) (v : Value) (l : List Tm) (N : Int) (d : Nat) (w : World) (h : RAt w r now v l N) (hn : l.length ≤ 1000) (hN : 0 ≤ N ∧ N ≤ 1000000) (hsm : Small l)
    (hadd : (plainF d).2 = true → FloatKind.f64.format.add now (plainF d).1 = some (addF now (plainF d).1) ∧ addF now (plainF d).1 ≤ 9218868437227405312) :
    Calls Try.prog 18 #[.pointer (some ⟨r, 0, none⟩), .float .f64 d] w (RAfterPost w r now v l N d) := by
  have H := Aside0.mk h
  have HM := Aside0.mk hn
  have HNN := Aside0.mk hN
  have HSM := Aside0.mk hsm
  have HADD := Aside0.mk hadd
  clear h hn hN hsm hadd
  go_enter Try.func18, Try.ntmps18
  go_wp2_with fail
  refine (rtime_calls d w).mono ?_
  rintro e w1 ⟨rfl, hb1⟩
  obtain ⟨p, hp⟩ : ∃ p, plainF d = p := ⟨_, rfl⟩
  obtain ⟨t, ok⟩ := p
  rw [hp]
  have HP := Aside0.mk hp
  have HB1 := Aside0.mk hb1
  have H1 := Aside0.mk (H.out.below hb1)
  clear hb1 hp
  cases ok with
  | false =>
    go_wp2_with fail
    go_ret2
    rw [RAfterPost, HP.out]
    exact ⟨rfl, .of_below H.out HB1.out⟩
  | true =>
    have hc1 := H1.out.cell1
    obtain ⟨A, c, hv, hcc⟩ := H1.out.row.slice
    subst hv
    have HCC := Aside0.mk hcc
    clear hcc
    by_cases h256 : l.length = 256
    · have d1 : ((l.length : Int) == 256) = true := by simp; omega
      have d2 : (l.length == 256) = true := by simp; omega
      have HL := Aside0.mk h256
      rw [h256] at hc1
      clear h256 d1 d2
      go_wp2_with fail
      go_ret2
      rw [RAfterPost, HP.out, if_neg (by simp), if_pos HL.out.symm]
      exact ⟨rfl, .of_below H.out HB1.out⟩
    · have d1 : ((l.length : Int) == 256) = false := by simp; omega
      have d2 : (l.length == 256) = false := by simp; omega
      have d3 : (l.length : Int) = 256 ↔ False := ⟨fun h => by omega, False.elim⟩
      have d4 : l.length = 256 ↔ False := ⟨fun h => h256 h, False.elim⟩
      have HL := Aside0.mk h256
      have hc2 := H1.out.cell2
      have hcf := H1.out.frozen
      have e1 : wrap64 (N + 1) = N + 1 := w64 _ (by have := HNN.out; omega)
      have H2 := Aside0.mk (H1.out.put2 (N + 1))
      have hd0 := H2.out.cell0
      have hd2 := H2.out.cell2
      have hadd := HADD.out (by rw [HP.out])
      rw [HP.out] at hadd
      obtain ⟨s, hs⟩ : ∃ s, addF now t = s := ⟨_, rfl⟩
      have hadd' : FloatKind.f64.format.add now t = some s ∧ s ≤ 9218868437227405312 := by rw [← hs]; exact hadd
      have HS := Aside0.mk (And.intro hs hadd'.2)
      have har : ∀ w : World, (binOp .add 29 (.float .f64 now) (.float .f64 t)).run Try.prog w = .ok (.float .f64 s) w := fun w => run_float_arith w .add _ .f64 now t _ hadd'.1
      have ha0 : ∀ o, ((w1.setCell ⟨r, 2, none⟩ (.int .i64 (N + 1))).alloc o).cell? ⟨r, 0, none⟩ = some (.float .f64 now) := fun o => pw_cell_below ((Below.refl _ _).alloc (Nat.le_refl _) o) hd0
      have ha2 : ∀ o, ((w1.setCell ⟨r, 2, none⟩ (.int .i64 (N + 1))).alloc o).cell? ⟨r, 2, none⟩ = some (.int .i64 (N + 1)) := fun o => pw_cell_below ((Below.refl _ _).alloc (Nat.le_refl _) o) hd2
      have hx := blk_new (w1.setCell ⟨r, 2, none⟩ (.int .i64 (N + 1))) (.cells #[.int .i64 0, .float .f64 0] 70)
      have hx0 : ((w1.setCell ⟨r, 2, none⟩ (.int .i64 (N + 1))).alloc (.cells #[.int .i64 0, .float .f64 0] 70)).cell? ⟨(w1.setCell ⟨r, 2, none⟩ (.int .i64 (N + 1))).heap.size, 0, none⟩ = some (.int .i64 0) := (blk_cell hx 0).trans rfl
      have hx1 : ((w1.setCell ⟨r, 2, none⟩ (.int .i64 (N + 1))).alloc (.cells #[.int .i64 0, .float .f64 0] 70)).cell? ⟨(w1.setCell ⟨r, 2, none⟩ (.int .i64 (N + 1))).heap.size, 1, none⟩ = some (.float .f64 0) := (blk_cell hx 1).trans rfl
      have hxf := blk_frozen hx
      obtain ⟨u1, hu1⟩ := cell?_setCell_some (p := ⟨(w1.setCell ⟨r, 2, none⟩ (.int .i64 (N + 1))).heap.size, 0, none⟩) (x := .int .i64 (N + 1)) hx1
      have HH2 : Aside0 (Hold w (w1.setCell ⟨r, 2, none⟩ (.int .i64 (N + 1))) (fun k => k = r ∨ own (.slice A l.length c) k)) := ⟨(Hold.of_below HB1.out _).put (.inl rfl) 2 _⟩
      clear h256 hadd hadd' hs
      go_wp2_with fail
      generalize World.setCell w1 ⟨r, 2, none⟩ (Value.int IntKind.i64 (N + 1)) = W2 at *
      have hX : (W2.alloc (.cells #[.int .i64 (N + 1), .float .f64 s] 70)).drew.heap[W2.heap.size]? = some (.cells #[.int .i64 (N + 1), .float .f64 s] 70 (0, 0)) := blk_new W2 _
      have hBX : Below W2.heap.size W2 (W2.alloc (.cells #[.int .i64 (N + 1), .float .f64 s] 70)).drew := ((Below.refl _ _).alloc (Nat.le_refl _) _).drew
      have HX := Aside0.mk hX
      have HBX := Aside0.mk hBX
      clear hX hBX hx
      go_region
      generalize hwx : World.drew (World.alloc W2 _) = wx at *
      generalize hgx : W2.heap.size = gx at *
      have H3 : Aside0 (RAt wx r now (.slice A l.length c) l (N + 1)) := ⟨H2.out.below (by rw [hgx]; exact HBX.out)⟩
      have HH3 : Aside0 (Hold w wx (fun k => k = r ∨ own (.slice A l.length c) k)) := ⟨HH2.out.trans (S1 := fun k => k = r ∨ own (.slice A l.length c) k) (Hold.of_below (by rw [hgx]; exact HBX.out) _) (fun k hk => .inl hk)⟩
      have HGX : Aside0 (w.heap.size ≤ gx) := ⟨by rw [← hgx]; exact HH2.out.size⟩
      clear hwx hgx ha0 ha2 hx0 hx1 hxf hu1 hd0 hd2 hc1 hc2 hcf har e1 d1 d2 d3 d4 H2 HH2 HBX u1
      have hpl := posR_le l s
      have HPL := Aside0.mk hpl
      clear hpl
      obtain ⟨pp, hpp⟩ : ∃ pp, pp = posR l s := ⟨_, rfl⟩
      have HPP := Aside0.mk hpp
      have HPL2 : Aside0 (pp ≤ l.length) := ⟨by rw [hpp]; exact HPL.out⟩
      clear hpp
      go_upto_block 0 with (fail)
      go_cut [9] (fun v9 wx => v9 = .int .i64 pp ∧ Aside0 (RAt wx r now (.slice A l.length c) l (N + 1)) ∧ Aside0 (wx.heap[gx]? = some (.cells #[.int .i64 (N + 1), .float .f64 s] 70 (0, 0))) ∧ Aside0 (Hold w wx (fun k => k = r ∨ own (.slice A l.length c) k)))
      case first =>
        go_wp2_with fail
        go_loopg [9] (posR l s) (fun m v9 wr => ∃ (i : Nat), m + i = posR l s ∧ v9 = .int .i64 i ∧ Aside0 (RAt wr r now (.slice A l.length c) l (N + 1)) ∧ Aside0 (wr.heap[gx]? = some (.cells #[.int .i64 (N + 1), .float .f64 s] 70 (0, 0))) ∧ Aside0 (Hold w wr (fun k => k = r ∨ own (.slice A l.length c) k)))
        case atStart => exact ⟨0, by omega, rfl, H3, HX, HH3⟩
        case round =>
          clear H3 HX HH3
          obtain ⟨i, hi, rfl, H3, HX, HH3⟩ := hrel
          have hc1 := H3.out.cell1
          have hx0 := (blk_cell HX.out 0).trans (show _ = some (Value.int .i64 (N + 1)) from rfl)
          have hx1 := (blk_cell HX.out 1).trans (show _ = some (Value.float .f64 s) from rfl)
          cases gk with
          | succ m =>
            have hil : i < l.length := by have := HPL.out; omega
            have d1 : decide ((i : Int) < (l.length : Int)) = true := by simp; omega
            have d2 : decide (i < l.length) = true := by simp; omega
            have ei : wrap64 ((i : Int) + 1) = ((i + 1 : Nat) : Int) := w64 _ (by have := HM.out; omega)
            obtain ⟨g, rfl, _, _, hi0, hi1, hf⟩ := H3.out.row.get i hil
            have hle := posR_lt l s i (by omega) hil
            have hys : l[i].2 ≤ 9218868437227405312 := HSM.out _ (List.getElem_mem hil)
            obtain ⟨y, hy⟩ : ∃ y, y = l[i].2 := ⟨_, rfl⟩
            rw [← hy] at hi1 hle hys
            obtain ⟨r0, hr0⟩ : ∃ r0 : Int, (if y < s then -1 else if s < y then 1 else 0) = r0 := ⟨_, rfl⟩
            have hcmp := compare_good y s hys HS.out.2
            rw [hr0] at hcmp
            have HCMP := Aside0.mk hcmp
            have dr : decide (r0 ≤ 0) = true := by
              rw [← hr0]
              apply decide_eq_true
              split
              · omega
              · rw [if_neg (by omega)]; omega
            have HI := Aside0.mk hi
            clear hi hle hys hy hr0 hcmp hi0 hf hx0
            go_wp2_with fail
            go_quiet (first | (go_at_call 36; (with_reducible refine (flumeref3_Compare.calls y s r0 _ HCMP.out).mono ?_); rintro e w' ⟨rfl, ⟨nd, rfl⟩⟩; (try first | exact ⟨rfl, _, World.drewN_drewN _ _ _⟩ | exact ⟨rfl, _, Eq.trans (World.drewN_drewN _ _ _) (congrArg (World.drewN _) (Nat.add_assoc _ _ _))⟩ | exact ⟨rfl, _, rfl⟩)))
            go_wp2_with fail
            go_roundg m
            case measure => omega
            case rel => exact ⟨i + 1, by have := HI.out; omega, by first | rw [ei] | rfl, ⟨H3.out.below (pw_below_drewN (Below.refl _ _) _)⟩, ⟨blk_drewN HX.out _⟩, ⟨HH3.out.trans (S1 := fun k => k = r ∨ own _ k) (Hold.of_below (pw_below_drewN (Below.refl _ _) _) _) (fun k hk => .inl hk)⟩⟩
          | zero =>
            have hip : i = pp := by have := HPP.out; omega
            subst hip
            have hpp := HPP.out
            have hpl2 : i ≤ l.length := HPL2.out
            by_cases hil : i < l.length
            · have d1 : decide ((i : Int) < (l.length : Int)) = true := by simp; omega
              have d2 : decide (i < l.length) = true := by simp; omega
              obtain ⟨g, hgA, _, _, hi0, hi1, hf⟩ := H3.out.row.get i hil
              subst hgA
              have hge : s < l[i].2 := by
                have hge := posR_ge l s (by rw [← hpp]; exact hil)
                simp only [← hpp] at hge
                exact hge
              have hys : l[i].2 ≤ 9218868437227405312 := HSM.out _ (List.getElem_mem hil)
              obtain ⟨y, hy⟩ : ∃ y, y = l[i].2 := ⟨_, rfl⟩
              rw [← hy] at hi1 hge hys
              obtain ⟨r0, hr0⟩ : ∃ r0 : Int, (if y < s then -1 else if s < y then 1 else 0) = r0 := ⟨_, rfl⟩
              have hcmp := compare_good y s hys HS.out.2
              rw [hr0] at hcmp
              have HCMP := Aside0.mk hcmp
              have dr : decide (r0 ≤ 0) = false := by
                rw [← hr0, if_neg (by omega), if_pos hge]
                decide
              clear hi hpp hge hys hy hr0 hcmp hi0 hf hx0 hpl2
              go_wp2_with fail
              go_quiet (first | (go_at_call 36; (with_reducible refine (flumeref3_Compare.calls y s r0 _ HCMP.out).mono ?_); rintro e w' ⟨rfl, ⟨nd, rfl⟩⟩; (try first | exact ⟨rfl, _, World.drewN_drewN _ _ _⟩ | exact ⟨rfl, _, Eq.trans (World.drewN_drewN _ _ _) (congrArg (World.drewN _) (Nat.add_assoc _ _ _))⟩ | exact ⟨rfl, _, rfl⟩)))
              go_wp2_with fail
              go_meet
              exact ⟨rfl, ⟨H3.out.below (pw_below_drewN (Below.refl _ _) _)⟩, ⟨blk_drewN HX.out _⟩, ⟨HH3.out.trans (S1 := fun k => k = r ∨ own _ k) (Hold.of_below (pw_below_drewN (Below.refl _ _) _) _) (fun k hk => .inl hk)⟩⟩
            · have d1 : decide ((i : Int) < (l.length : Int)) = false := by simp; omega
              have d2 : decide (i < l.length) = false := by simp; omega
              clear hi hpp hx0 hpl2
              go_wp2_with fail
              go_quiet (fail)
              go_wp2_with fail
              go_meet
              exact ⟨rfl, ⟨H3.out.below (pw_below_drewN (Below.refl _ _) _)⟩, ⟨blk_drewN HX.out _⟩, ⟨HH3.out.trans (S1 := fun k => k = r ∨ own _ k) (Hold.of_below (pw_below_drewN (Below.refl _ _) _) _) (fun k hk => .inl hk)⟩⟩
      case rest =>
        clear H3 HX HH3
        obtain ⟨rfl, H3, HX, HH3⟩ := hcut
        go_upto_region 11 with (fail)
        go_cut [] (fun wx => ∃ (A6 : Option Addr) (c6 : Nat), Aside0 (RAt wx r now (.slice A6 (l.length + 1) c6) (shiftL l (N + 1, s) l.length) (N + 1)) ∧ Aside0 (wx.heap[gx]? = some (.cells #[.int .i64 (N + 1), .float .f64 s] 70 (0, 0))) ∧ Aside0 (Hold w wx (fun k => k = r ∨ own (.slice A l.length c) k)) ∧ Aside0 (∀ k, own (.slice A6 (l.length + 1) c6) k → own (.slice A l.length c) k ∨ w.heap.size ≤ k) ∧ Aside0 (∀ k, own (.slice A6 (l.length + 1) c6) k → k ≠ gx))
        case first =>
          have H5 := H3
          have hx5 := HX.out
          have hc5 := H5.out.cell1
          have hx50 := (blk_cell hx5 0).trans (show _ = some (Value.int .i64 (N + 1)) from rfl)
          have hx51 := (blk_cell hx5 1).trans (show _ = some (Value.float .f64 s) from rfl)
          have hbWA : Below wc.heap.size wc (wc.drew.alloc (.cells #[.int .i64 (N + 1), .float .f64 s] 70)) := ((Below.refl _ _).drew).alloc (Nat.le_refl _) _
          have hnewA : (wc.drew.alloc (.cells #[.int .i64 (N + 1), .float .f64 s] 70)).heap[wc.heap.size]? = some (.cells #[.int .i64 (N + 1), .float .f64 s] 70 (0, 0)) := blk_new wc.drew _
          obtain ⟨v6, w6, hrun, hl6, hg6, hat6⟩ := LR.append (W := wc.drew.alloc (.cells #[.int .i64 (N + 1), .float .f64 s] 70)) (H5.out.row.below hbWA) ⟨wc.heap.size, 0, none⟩ 1 1 [(N + 1, s)] rfl (fun j u hu => by
            have hj := (List.getElem?_eq_some_iff.1 hu).1
            rw [show (Addr.add ⟨wc.heap.size, 0, none⟩ j : Addr) = ⟨wc.heap.size, j, none⟩ by simp [Addr.add_lit], blk_cell hnewA]
            have hj2 : j = 0 ∨ j = 1 := by
              have : (flat [((N + 1, s) : Tm)]).length = 2 := rfl
              omega
            rcases hj2 with rfl | rfl
            · exact hu
            · exact hu) (by have := HM.out; omega)
          obtain ⟨A6, c6, hv6, _⟩ := hl6.slice
          rw [List.length_append, List.length_singleton] at hv6
          subst hv6
          have hb6 : w6.heap[r]? = some (.cells #[.float .f64 now, .slice A l.length c, .int .i64 (N + 1)] 54 (0, 0)) := (hg6.block r (blk_lt (blk_below H5.out.blk hbWA)) (fun he => H5.out.ne_own he)).trans (blk_below H5.out.blk hbWA)
          have hz6 : w6.cell? ⟨r, 1, none⟩ = some (.slice A l.length c) := (blk_cell hb6 1).trans rfl
          have hz6f := blk_frozen hb6
          have hgx1 : ∀ k, own (.slice A l.length c) k → k < w.heap.size := fun k hk => H.out.row.lt k hk
          have hr1 : r < w.heap.size := blk_lt H.out.blk
          have hgx6 : w6.heap[gx]? = some (.cells #[.int .i64 (N + 1), .float .f64 s] 70 (0, 0)) := (hg6.block gx (blk_lt (blk_below hx5 hbWA)) (fun he => by have := hgx1 gx he; have := HGX.out; omega)).trans (blk_below hx5 hbWA)
          have HL6 := Aside0.mk (And.intro hl6 (And.intro hg6 (And.intro hat6 hb6)))
          have HRUN := Aside0.mk hrun
          have HG7 : Aside0 (RAt (w6.setCell ⟨r, 1, none⟩ (.slice A6 (l.length + 1) c6)) r now (.slice A6 (l.length + 1) c6) (shiftL l (N + 1, s) l.length) (N + 1)) := ⟨by rw [shift_start]; exact RAt.put1 hb6 hl6⟩
          have HX7 : Aside0 ((w6.setCell ⟨r, 1, none⟩ (.slice A6 (l.length + 1) c6)).heap[gx]? = some (.cells #[.int .i64 (N + 1), .float .f64 s] 70 (0, 0))) := ⟨by rw [Below.heap_setCell _ _ _ _ (show gx ≠ r by have := HGX.out; omega)]; exact hgx6⟩
          have HH7 : Aside0 (Hold w (w6.setCell ⟨r, 1, none⟩ (.slice A6 (l.length + 1) c6)) (fun k => k = r ∨ own (.slice A l.length c) k)) := ⟨((HH3.out.trans (S1 := fun k => k = r ∨ own (.slice A l.length c) k) (Hold.of_below hbWA _) (fun k hk => .inl hk)).trans (Hold.of_grown hg6) (fun k hk => .inl (.inr hk))).put (.inl rfl) 1 _⟩
          have HA7 : Aside0 (∀ k, own (.slice A6 (l.length + 1) c6) k → own (.slice A l.length c) k ∨ w.heap.size ≤ k) := ⟨fun k hk => by
            rcases hat6 with he | ⟨k', he, hk'⟩
            · exact .inl (hk.trans he)
            · have : some k = some k' := hk.trans he
              injection this with this
              have h8 := hbWA.size
              have h9 := HH3.out.size
              exact .inr (by omega)⟩
          have HN7 : Aside0 (∀ k, own (.slice A6 (l.length + 1) c6) k → k ≠ gx) := ⟨fun k hk => by
            rcases hat6 with he | ⟨k', he, hk'⟩
            · have := hgx1 k (hk.trans he)
              have := HGX.out
              omega
            · have : some k = some k' := hk.trans he
              injection this with this
              have h8 := blk_lt (blk_below hx5 hbWA)
              omega⟩
          have hc5a : ∀ o, (wc.alloc o).cell? ⟨r, 1, none⟩ = some (.slice A l.length c) := fun o => pw_cell_below ((Below.refl _ _).alloc (Nat.le_refl _) o) hc5
          clear hx5 hbWA hnewA hrun hl6 hg6 hat6 hb6 hgx1 hr1 hgx6
          go_region_law
            (refine event_step (v := .slice A6 (l.length + 1) c6) (w1 := w6) (op0 := .call { callee := .builtin .append, args := #[.tmp 69, .tmp 71], argTypes := #[39, 39] }) (by rfl) (by rfl) ?hr ?_; (case hr => unfold execOp; simp only [resolve, invoke, builtin, Sem.run_bind, Sem.run_pure, Result.andThen_ok, List.map_toArray, List.map_cons, List.map_nil]; refine Eq.trans (congrArg (fun r => Result.andThen r _) HRUN.out) rfl))
          all_goals
            go_wp2_with fail
            go_meet
            exact ⟨A6, c6, HG7, HX7, HH7, HA7, HN7⟩
        case rest =>
          clear H3 HX HH3
          obtain ⟨A6, c6, H7, HX7, HH7, HA7, HN7⟩ := hcut
          have hc7 := H7.out.cell1
          have ewl : wrap64 (l.length : Int) = (l.length : Int) := w64 _ (by have := HM.out; omega)
          go_wp2_with fail
          go_loopg [10] (l.length - pp) (fun m v10 wr => ∃ (k : Nat), m + pp = k ∧ v10 = .int .i64 k ∧ Aside0 (k ≤ l.length) ∧ Aside0 (RAt wr r now (.slice A6 (l.length + 1) c6) (shiftL l (N + 1, s) k) (N + 1)) ∧ Aside0 (wr.heap[gx]? = some (.cells #[.int .i64 (N + 1), .float .f64 s] 70 (0, 0))) ∧ Aside0 (Hold w wr (fun k => k = r ∨ own (.slice A l.length c) k)))
          case atStart => exact ⟨l.length, by have := HPL2.out; omega, by first | rfl | rw [ewl], ⟨Nat.le_refl _⟩, H7, HX7, HH7⟩
          case round =>
            clear H7 HX7 HH7 hc7
            obtain ⟨k, hk, rfl, HK, H7, HX7, HH7⟩ := hrel
            have hc7 := H7.out.cell1
            cases gk with
            | succ m =>
              obtain ⟨k', rfl⟩ : ∃ k', k = k' + 1 := ⟨k - 1, by omega⟩
              have d1 : decide ((pp : Int) < (k' : Int) + 1) = true := by simp; omega
              have d2 : decide (pp < k' + 1) = true := by simp; omega
              have ek : wrap64 ((k' : Int) + 1 - 1) = (k' : Int) := by rw [w64 _ (by have := HK.out; have := HM.out; omega)]; omega
              have hkl : k' + 1 ≤ l.length := HK.out
              have hslen := shift_len l (N + 1, s) (k' + 1) hkl
              obtain ⟨g6, hg6, -, -, hi0, hi1, hf⟩ := H7.out.row.get k' (by rw [hslen]; omega)
              obtain ⟨g6', hg6', -, -, hj0, hj1, -⟩ := H7.out.row.get (k' + 1) (by rw [hslen]; omega)
              subst hg6
              cases hg6'
              rw [shift_get l (N + 1, s) k' hkl] at hi0 hi1
              obtain ⟨u0, hu0⟩ := cell?_setCell_some (p := ⟨g6, (k' + 1) * 2, none⟩) (x := .int .i64 l[k'].1) hj1
              obtain ⟨hset, hsg⟩ := H7.out.row.set (k' + 1) (by rw [hslen]; omega) l[k']
              rw [shift_set l (N + 1, s) k' hkl] at hset
              obtain ⟨z0, hz0⟩ : ∃ z, wr.cell? ⟨g6, (k' + 1) * 2, none⟩ = some z := ⟨_, hj0⟩
              obtain ⟨z1, hz1⟩ : ∃ z, wr.cell? ⟨g6, (k' + 1) * 2 + 1, none⟩ = some z := ⟨_, hj1⟩
              have HSET := Aside0.mk (And.intro hset hsg)
              have HKI := Aside0.mk hk
              have HKL := Aside0.mk hkl
              have ekk : wrap64 (k' : Int) = (k' : Int) := w64 _ (by have := HM.out; omega)
              have ekw : IntKind.i64.wrap (k' : Int) = (k' : Int) := IntWalk.i64_in _ (by have := HM.out; omega)
              have hkb : (k' : Int) < (l.length : Int) + 1 := by omega
              have hkb2 : k' < l.length + 1 := by omega
              have hkb3 : (k' : Int) + 1 < (l.length : Int) + 1 := by omega
              have hkb4 : k' + 1 < l.length + 1 := by omega
              clear hset hsg hk hj0 hj1 hslen
              go_wp2_with fail
              go_region
              go_wp2_with fail
              go_roundg m
              case measure => omega
              case rel =>
                have hd := (Below.refl ((wr.setCell ⟨g6, (k' + 1) * 2, none⟩ (.int .i64 l[k'].1)).setCell ⟨g6, (k' + 1) * 2 + 1, none⟩ (.float .f64 l[k'].2)).heap.size ((wr.setCell ⟨g6, (k' + 1) * 2, none⟩ (.int .i64 l[k'].1)).setCell ⟨g6, (k' + 1) * 2 + 1, none⟩ (.float .f64 l[k'].2))).drew
                have hrb : r ≠ g6 := fun he => H7.out.ne_own (by rw [he]; rfl)
                have hgx : gx ≠ g6 := fun he => HN7.out g6 rfl he.symm
                have hat : RAt ((wr.setCell ⟨g6, (k' + 1) * 2, none⟩ (.int .i64 l[k'].1)).setCell ⟨g6, (k' + 1) * 2 + 1, none⟩ (.float .f64 l[k'].2)) r now (.slice (some ⟨g6, 0, none⟩) (l.length + 1) c6) (shiftL l (N + 1, s) k') (N + 1) :=
                  ⟨(HSET.out.2.block r (blk_lt H7.out.blk) (fun he => hrb (by injection he))).trans H7.out.blk, HSET.out.1⟩
                have hxx : ((wr.setCell ⟨g6, (k' + 1) * 2, none⟩ (.int .i64 l[k'].1)).setCell ⟨g6, (k' + 1) * 2 + 1, none⟩ (.float .f64 l[k'].2)).heap[gx]? = some (.cells #[.int .i64 (N + 1), .float .f64 s] 70 (0, 0)) :=
                  (HSET.out.2.block gx (blk_lt HX7.out) (fun he => hgx (by injection he))).trans HX7.out
                have hhh : Hold w ((wr.setCell ⟨g6, (k' + 1) * 2, none⟩ (.int .i64 l[k'].1)).setCell ⟨g6, (k' + 1) * 2 + 1, none⟩ (.float .f64 l[k'].2)) (fun k => k = r ∨ own (.slice A l.length c) k) :=
                  HH7.out.trans (Hold.of_grown HSET.out.2) (fun k hk => by
                    have hk2 : k = g6 := by injection hk
                    subst hk2
                    rcases HA7.out k rfl with h | h
                    · exact .inl (.inr h)
                    · exact .inr h)
                exact ⟨k', by have := HKI.out; omega, by first | rfl | rw [ekk], ⟨by have := HKL.out; omega⟩, ⟨hat.below hd⟩, ⟨blk_below hxx hd⟩, ⟨hhh.trans (S1 := fun k => k = r ∨ own _ k) (Hold.of_below hd _) (fun k hk => .inl hk)⟩⟩
            | zero =>
              have hkp : k = pp := by omega
              subst hkp
              have d1 : decide ((k : Int) < (k : Int)) = false := by simp
              have d2 : decide (k < k) = false := by simp
              have hslen := shift_len l (N + 1, s) k HK.out
              have hx0 := (blk_cell HX7.out 0).trans (show _ = some (Value.int .i64 (N + 1)) from rfl)
              have hx1 := (blk_cell HX7.out 1).trans (show _ = some (Value.float .f64 s) from rfl)
              obtain ⟨g6, hg6, -, -, hi0, hi1, hf⟩ := H7.out.row.get k (by rw [hslen]; have := HK.out; omega)
              subst hg6
              obtain ⟨u0, hu0⟩ := cell?_setCell_some (p := ⟨g6, k * 2, none⟩) (x := .int .i64 (N + 1)) hi1
              obtain ⟨hset, hsg⟩ := H7.out.row.set k (by rw [hslen]; have := HK.out; omega) (N + 1, s)
              rw [shift_end l (N + 1, s) k HK.out] at hset
              obtain ⟨z0, hz0⟩ : ∃ z, wr.cell? ⟨g6, k * 2, none⟩ = some z := ⟨_, hi0⟩
              obtain ⟨z1, hz1⟩ : ∃ z, wr.cell? ⟨g6, k * 2 + 1, none⟩ = some z := ⟨_, hi1⟩
              have hrb : r ≠ g6 := fun he => H7.out.ne_own (by rw [he]; rfl)
              have hat : RAt ((wr.setCell ⟨g6, k * 2, none⟩ (.int .i64 (N + 1))).setCell ⟨g6, k * 2 + 1, none⟩ (.float .f64 s)) r now (.slice (some ⟨g6, 0, none⟩) (l.length + 1) c6) (l.take k ++ (N + 1, s) :: l.drop k) (N + 1) :=
                ⟨(hsg.block r (blk_lt H7.out.blk) (fun he => hrb (by injection he))).trans H7.out.blk, hset⟩
              have hhh : Hold w ((wr.setCell ⟨g6, k * 2, none⟩ (.int .i64 (N + 1))).setCell ⟨g6, k * 2 + 1, none⟩ (.float .f64 s)) (fun k => k = r ∨ own (.slice A l.length c) k) :=
                HH7.out.trans (Hold.of_grown hsg) (fun k hk => by
                  have hk2 : k = g6 := by injection hk
                  subst hk2
                  rcases HA7.out k rfl with h | h
                  · exact .inl (.inr h)
                  · exact .inr h)
              have hend2 := hat.cell2
              have HEND := Aside0.mk (And.intro hat hhh)
              have hkb : (k : Int) < (l.length : Int) + 1 := by have := HK.out; omega
              have hkb2 : k < l.length + 1 := by have := HK.out; omega
              clear hset hsg hi0 hi1 hslen hk hat hhh hrb
              go_wp2_with fail
              go_region
              go_wp2_with fail
              go_ret2
              rw [RAfterPost, HP.out, if_neg (by simp), if_neg (fun h => HL.out h.symm)]
              have hd := (Below.refl ((wr.setCell ⟨g6, k * 2, none⟩ (.int .i64 (N + 1))).setCell ⟨g6, k * 2 + 1, none⟩ (.float .f64 s)).heap.size ((wr.setCell ⟨g6, k * 2, none⟩ (.int .i64 (N + 1))).setCell ⟨g6, k * 2 + 1, none⟩ (.float .f64 s))).drew
              have hins : insR l (N + 1, addF now t) = l.take k ++ (N + 1, s) :: l.drop k := by
                rw [HS.out.1, insR, ← HPP.out]
              refine ⟨rfl, ?_⟩
              show MoveR w r now (.slice A l.length c) (insR l (N + 1, addF now t)) (N + 1) _
              rw [hins]
              exact ⟨_, HEND.out.1.below hd, HEND.out.2.trans (S1 := fun k => k = r ∨ own _ k) (Hold.of_below hd _) (fun k hk => .inl hk), HA7.out⟩
end Go.Proofs.Ytnniljcmjcjleaa
