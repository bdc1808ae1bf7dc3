/- The law's look at both clocks. -/
import Derived.Test.YtnniljcmjcjleaaAllP
namespace Go.Proofs.Ytnniljcmjcjleaa
open Go.RowKit Go.Proofs.Ytnniljcmjcjleaa.QA Go.Proofs.YtnniljcmjcjleaaW.PrintWords Go.Proofs.YtnniljcmjcjleaaW.PrintLast Go.Proofs.YtnniljcmjcjleaaW.PrintMore
attribute [local go_sem] fl_store fl_bits fl_frombits fl_usigned
set_option linter.unusedVariables false
set_option linter.unusedSimpArgs false

theorem bits_same (x : Nat) : flumelaw3_Bits.f x x = some true := by
  rw [flumelaw3_Bits.f]
  simp
/-- The first i written over. -/
def spoiled (S : List Tm) (i : Nat) : List Tm := List.replicate i (0, 0) ++ S.drop i
theorem spoiled_zero (S : List Tm) : spoiled S 0 = S := rfl
theorem spoiled_len (S : List Tm) (i : Nat) (h : i ≤ S.length) : (spoiled S i).length = S.length := by
  unfold spoiled
  rw [List.length_append, List.length_replicate, List.length_drop]
  omega
theorem spoiled_at (S : List Tm) (i : Nat) (h : i < S.length) : tm (spoiled S i) (i : Int) = S[i] := by
  unfold tm spoiled
  rw [Int.toNat_natCast, List.getD_eq_getElem?_getD, List.getElem?_append_right (by rw [List.length_replicate]; exact Nat.le_refl _), List.length_replicate, Nat.sub_self, List.getElem?_drop, Nat.add_zero, List.getElem?_eq_getElem h]
  rfl
theorem spoiled_set (S : List Tm) (i : Nat) (h : i < S.length) : (spoiled S i).set i (0, 0) = spoiled S (i + 1) := by
  unfold spoiled
  rw [List.set_append_right _ _ (by rw [List.length_replicate]; exact Nat.le_refl _), List.length_replicate, Nat.sub_self, List.drop_eq_getElem_cons h, List.set_cons_zero, List.replicate_succ', List.append_assoc]
  rfl
theorem tm_at (S : List Tm) (i : Nat) (h : i < S.length) : tm S (i : Int) = S[i] := at_eq S i h
set_option maxHeartbeats 16000000 in
set_option maxRecDepth 100000 in
theorem csame_calls (g r : Nat) (now : Nat) (last N : Int) (v vr : Value) (h S : List Tm) (w wi : World) (x : Both w wi g r now now last N v vr h S) (hr : Rel h S last) :
    Calls Try.prog 24 #[.pointer (some ⟨g, 0, none⟩), .pointer (some ⟨r, 0, none⟩)] wi fun e w' => e = .returned (.bool true) ∧ Below wi.heap.size wi w' := by
  have X := Aside0.mk x
  have HR := Aside0.mk hr
  have hl : S.length ≤ 256 := by rw [hr.length]; exact hr.len
  have HL := Aside0.mk hl
  have HNX := Aside0.mk hr.next
  clear x hr hl
  go_enter Try.func24, Try.ntmps24
  go_wp2_with fail
  refine (next_calls g now last v h wi X.out.a.at_).mono ?_
  rintro e w1 ⟨rfl, rfl⟩
  go_wp2_with fail
  refine (rnext_calls r now vr S N w1 X.out.b (by have := HL.out; omega)).mono ?_
  rintro e w2 ⟨rfl, rfl⟩
  rw [HNX.out]
  obtain ⟨p, hp⟩ : ∃ p, nextP S = p := ⟨_, rfl⟩
  obtain ⟨t, ok⟩ := p
  rw [hp]
  clear hp
  go_wp2_with fail
  refine (timers_calls g now last v h w2 X.out.a.at_ HR.out.heap.small (by have := HR.out.len; omega)).mono ?_
  rintro e w3 ⟨u1, rfl, ht1, hb1⟩
  rw [HR.out.srt] at ht1
  have HT1 := Aside0.mk ht1
  have HB1 := Aside0.mk hb1
  have X3 := Aside0.mk (X.out.step hb1)
  clear ht1 hb1
  go_wp2_with fail
  refine (timers_calls g now last v h w3 X3.out.a.at_ HR.out.heap.small (by have := HR.out.len; omega)).mono ?_
  rintro e w4 ⟨u2, rfl, ht2, hb2⟩
  rw [HR.out.srt] at ht2
  have X4 := Aside0.mk (X3.out.step hb2)
  have HT1b : Aside0 (TR w4 u1 S) := ⟨Kd.R_lower (Kd.R_below HT1.out hb2) (Nat.zero_le _)⟩
  have HT2b : Aside0 (TR w4 u2 S) := ⟨Kd.R_lower ht2 (Nat.zero_le _)⟩
  have HAP : Aside0 (∀ k, own u1 k → ¬ own u2 k) := ⟨fun k h1 h2 => by
    have := Kd.R_lt HT1.out k h1.symm
    have := Kd.R_base ht2 k h2.symm
    omega⟩
  have HBS : Aside0 (∀ k, own u1 k → w2.heap.size ≤ k) := ⟨fun k h1 => Kd.R_base HT1.out k h1.symm⟩
  have HB4 : Aside0 (Below w2.heap.size w2 w4) := ⟨HB1.out.trans (hb2.mono HB1.out.size)⟩
  obtain ⟨A1, c1, hu1⟩ := HT1b.out.slice
  subst hu1
  obtain ⟨A2, c2, hu2⟩ := HT2b.out.slice
  subst hu2
  obtain ⟨Ar, cr, hvr, -⟩ := X4.out.b.row.slice
  subst hvr
  have hr0 := X4.out.b.cell0
  have hr1 := X4.out.b.cell1
  have HNOW : Aside0 (∀ W, Below w4.heap.size w4 W → Calls Try.prog 14 #[.pointer (some ⟨g, 0, none⟩)] W fun e w' => e = .returned (.float .f64 now) ∧ w' = W) := ⟨fun W hW => (now_calls g true now last v h W (X4.out.a.at_.below hW)).mono fun e w' h => h⟩
  have HBT := Aside0.mk (bits_same now)
  have HBU := Aside0.mk (bits_same t)
  clear ht2 hb2
  go_wp2_with fail
  go_quiet (first
    | (go_at_call 14; (with_reducible refine (HNOW.out _ ?_).mono ?_); (repeat (first | exact Below.refl _ _ | apply pw_below_drewN | apply below_drew1)); rintro e w' ⟨rfl, rfl⟩; (first | exact ⟨rfl, _, rfl⟩ | exact ⟨rfl, 0, rfl⟩))
    | (go_at_call 41; (with_reducible refine (flumelaw3_Bits.calls now now true _ HBT.out).mono ?_); rintro e w' ⟨rfl, ⟨nd, rfl⟩⟩; (first | exact ⟨rfl, _, World.drewN_drewN _ _ _⟩ | exact ⟨rfl, _, Eq.trans (World.drewN_drewN _ _ _) (congrArg (World.drewN _) (Nat.add_assoc _ _ _))⟩ | exact ⟨rfl, _, rfl⟩))
    | (go_at_call 41; (with_reducible refine (flumelaw3_Bits.calls t t true _ HBU.out).mono ?_); rintro e w' ⟨rfl, ⟨nd, rfl⟩⟩; (first | exact ⟨rfl, _, World.drewN_drewN _ _ _⟩ | exact ⟨rfl, _, Eq.trans (World.drewN_drewN _ _ _) (congrArg (World.drewN _) (Nat.add_assoc _ _ _))⟩ | exact ⟨rfl, _, rfl⟩)))
  go_wp2_with fail
  go_loopg [11] S.length (fun m v11 wr => ∃ i : Nat, m + i = S.length ∧ v11 = .int .i64 i ∧ Aside0 (Below w2.heap.size w2 wr) ∧ Aside0 (TR wr (.slice A1 S.length c1) (spoiled S i)) ∧ Aside0 (TR wr (.slice A2 S.length c2) S))
  case atStart => exact ⟨0, rfl, rfl, ⟨HB4.out.trans ((pw_below_drewN (Below.refl _ _) _).mono HB4.out.size)⟩, ⟨by rw [spoiled_zero]; exact Kd.R_drewN HT1b.out _⟩, ⟨Kd.R_drewN HT2b.out _⟩⟩
  case round =>
    clear HNOW HB4 HT1b HT2b HB1 X3 X4 HT1 hr0 hr1
    obtain ⟨i, him, rfl, HB, HT1, HT2⟩ := hrel
    have X5 := Aside0.mk (X.out.step HB.out)
    have hr1 := X5.out.b.cell1
    cases gk with
    | succ m =>
      have hi : i < S.length := by omega
      have d1 : decide ((i : Int) < (S.length : Int)) = true := by simp; omega
      have d2 : decide (i < S.length) = true := by simp; omega
      have ei : wrap64 ((i : Int) + 1) = ((i + 1 : Nat) : Int) := w64 _ (by have := HL.out; omega)
      obtain ⟨g1, hg1, ha0, ha1, haf⟩ := HT1.out.get (i : Int) (by omega) (by omega)
      rw [spoiled_at S i hi, Int.toNat_natCast] at ha0 ha1
      subst hg1
      obtain ⟨gr, hgr, -, -, hb0, hb1, -⟩ := X5.out.b.row.get i hi
      subst hgr
      obtain ⟨hset, hsg⟩ := HT1.out.set (i : Int) (by omega) (by omega) (0, 0)
      rw [Int.toNat_natCast, spoiled_set S i hi] at hset
      rw [Int.toNat_natCast] at hsg
      obtain ⟨u0, hu0⟩ := cell?_setCell_some (p := ⟨g1, i * 2, none⟩) (x := .int .i64 0) ha1
      have HT2' : Aside0 (TR ((wr.setCell ⟨g1, i * 2, none⟩ (.int .i64 0)).setCell ⟨g1, i * 2 + 1, none⟩ (.float .f64 0)) (.slice A2 S.length c2) S) := ⟨Kd.R_mono (Kd.R_grown (Kd.R_tight (by rfl) HT2.out) hsg (fun k hk he => HAP.out k (by rw [own]; exact he) (by rw [own]; exact hk))) (fun _ _ => trivial)⟩
      have HB' : Aside0 (Below w2.heap.size w2 ((wr.setCell ⟨g1, i * 2, none⟩ (.int .i64 0)).setCell ⟨g1, i * 2 + 1, none⟩ (.float .f64 0))) := ⟨(HB.out.setCell (HBS.out g1 rfl) _).setCell (HBS.out g1 rfl) _⟩
      have HSET := Aside0.mk hset
      obtain ⟨y, hy⟩ : ∃ y, y = S[i].2 := ⟨_, rfl⟩
      obtain ⟨z, hz⟩ : ∃ z, z = S[i].1 := ⟨_, rfl⟩
      rw [← hy] at ha1 hb1
      rw [← hz] at ha0 hb0
      have HBY := Aside0.mk (bits_same y)
      have HI := Aside0.mk him
      clear hset hsg him hy hz
      go_wp2_with fail
      go_quiet (first
        | (go_at_call 41; (with_reducible refine (flumelaw3_Bits.calls y y true _ HBY.out).mono ?_); rintro e w' ⟨rfl, ⟨nd, rfl⟩⟩; (first | exact ⟨rfl, _, World.drewN_drewN _ _ _⟩ | exact ⟨rfl, _, Eq.trans (World.drewN_drewN _ _ _) (congrArg (World.drewN _) (Nat.add_assoc _ _ _))⟩ | exact ⟨rfl, _, rfl⟩)))
      go_wp2_with fail
      go_roundg m
      case measure => omega
      case rel => exact ⟨i + 1, by have := HI.out; omega, by first | rw [ei] | rfl, ⟨HB'.out.trans ((pw_below_drewN (Below.refl _ _) _).mono HB'.out.size)⟩, ⟨Kd.R_drewN HSET.out _⟩, ⟨Kd.R_drewN HT2'.out _⟩⟩
    | zero =>
      have d1 : decide ((i : Int) < (S.length : Int)) = false := by simp; omega
      have d2 : decide (i < S.length) = false := by simp; omega
      clear him HT1 hr1 X5
      go_wp2_with fail
      go_loopg [12] S.length (fun m v12 wr => ∃ i : Nat, m + i = S.length ∧ v12 = .int .i64 i ∧ Aside0 (Below w2.heap.size w2 wr) ∧ Aside0 (TR wr (.slice A2 S.length c2) S))
      case atStart => exact ⟨0, rfl, rfl, HB, HT2⟩
      case round =>
        clear HB HT2 d1 d2
        obtain ⟨i, him, rfl, HB, HT2⟩ := hrel
        have X5 := Aside0.mk (X.out.step HB.out)
        have hr1 := X5.out.b.cell1
        cases gk with
        | succ m =>
          have hi : i < S.length := by omega
          have d1 : decide ((i : Int) < (S.length : Int)) = true := by simp; omega
          have d2 : decide (i < S.length) = true := by simp; omega
          have ei : wrap64 ((i : Int) + 1) = ((i + 1 : Nat) : Int) := w64 _ (by have := HL.out; omega)
          obtain ⟨g2, hg2, ha0, ha1, -⟩ := HT2.out.get (i : Int) (by omega) (by omega)
          rw [tm_at S i hi, Int.toNat_natCast] at ha0
          subst hg2
          obtain ⟨gr, hgr, -, -, hb0, hb1, -⟩ := X5.out.b.row.get i hi
          subst hgr
          obtain ⟨z, hz⟩ : ∃ z, z = S[i].1 := ⟨_, rfl⟩
          rw [← hz] at ha0 hb0
          have HI := Aside0.mk him
          clear him hz ha1 hb1
          go_wp2_with fail
          go_quiet (fail)
          go_wp2_with fail
          go_roundg m
          case measure => omega
          case rel => exact ⟨i + 1, by have := HI.out; omega, by first | rw [ei] | rfl, ⟨HB.out.trans ((pw_below_drewN (Below.refl _ _) _).mono HB.out.size)⟩, ⟨Kd.R_drewN HT2.out _⟩⟩
        | zero =>
          have d1 : decide ((i : Int) < (S.length : Int)) = false := by simp; omega
          have d2 : decide (i < S.length) = false := by simp; omega
          clear him hr1 X5
          go_wp2_with fail
          go_ret
          exact ⟨rfl, HB.out⟩
end Go.Proofs.Ytnniljcmjcjleaa
