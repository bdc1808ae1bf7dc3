/- The reference's clock: Cancel. -/
import Derived.Test.YtnniljcmjcjleaaRefG
import Derived.Test.YtnniljcmjcjleaaCan
import Derived.Deep.RegionLaw
import Derived.IntWalk
import Derived.Deep.DrawnRows
namespace Go.Proofs.Ytnniljcmjcjleaa
open Go.RowKit Go.Proofs.Ytnniljcmjcjleaa.QA Go.Proofs.YtnniljcmjcjleaaW.PrintWords Go.Proofs.YtnniljcmjcjleaaW.PrintLast Go.Proofs.YtnniljcmjcjleaaW.PrintMore
attribute [local go_sem] fl_store fl_bits fl_frombits fl_usigned
set_option linter.unusedVariables false
set_option linter.unusedSimpArgs false

/-- An event in a region that draws its order. -/
theorem event_step {P : Program} {ops : Array Oper} {o : Oper} {a : Act} {Q : Exit → Act → World → Prop} {Kc : Act → World → Prop} {W w1 : World} {v : Value} {op0 : Op} (hw : Region.wanted o (yielded ops a.tmps) = true) (_ho : o.op = op0)
    (hrun : (execOp a.eval o).run P W = .ok (.value v) w1) (h : Kc (a.put o.dst v) w1) : if Region.wanted o (yielded ops a.tmps) = true then Oper.wp P o a W Kc Q else Kc (a.put o.dst undef) W := by
  rw [if_pos hw]
  unfold Oper.wp
  rw [hrun]
  exact h
/-- append(L[:i:i], L[i+1:]...). -/
theorem LR.cut {w : World} {g c : Nat} {l : List Tm} (h : LR w (.slice (some ⟨g, 0, none⟩) l.length c) l) (hl : l.length ≤ 1000) (i : Nat) (hi : i < l.length) (a2 : Addr) (ha : i + 1 < l.length → a2 = ⟨g, (i + 1) * 2, none⟩) (c2 : Nat) :
    ∃ v1 w1, (Builtin.append_ #[39, 39] 39 #[.slice (some ⟨g, 0, none⟩) i i, .slice (some a2) (l.length - (i + 1)) c2]).run Try.prog w = .ok v1 w1 ∧ LR w1 v1 (l.eraseIdx i) ∧ w.grownBy w1 (some g) ∧ (v1.ownBlock = some g ∨ ∃ k, v1.ownBlock = some k ∧ w.heap.size ≤ k) := by
  have h1 := h.take i (by omega)
  have hm : (l.take i).length = i := by rw [List.length_take, Nat.min_eq_left (by omega)]
  have hh : ∃ v1 w1, (Builtin.append_ #[39, 39] 39 #[.slice (some ⟨g, 0, none⟩) i i, .slice (some a2) (l.length - (i + 1)) c2]).run Try.prog w = .ok v1 w1 ∧ LR w1 v1 (l.take i ++ l.drop (i + 1)) ∧ w.grownBy w1 (Value.slice (some ⟨g, 0, none⟩) i i).ownBlock ∧ (v1.ownBlock = (Value.slice (some ⟨g, 0, none⟩) i i).ownBlock ∨ ∃ k, v1.ownBlock = some k ∧ w.heap.size ≤ k) := by
    refine LR.append (W := w) h1 a2 (l.length - (i + 1)) c2 (l.drop (i + 1)) (by rw [List.length_drop]) (fun j u hu => ?_) (by rw [hm]; omega)
    have hj := (List.getElem?_eq_some_iff.1 hu).1
    rw [flat_length, List.length_drop] at hj
    rw [ha (by omega)]
    rcases h with ⟨_, hv⟩ | ⟨g', c', cur, hv, _, _, hb, h3⟩
    · cases hv
    · injection hv with hg _ _
      injection hg with hg
      injection hg with hg
      subst hg
      have e : (flat l)[j + (i + 1) * 2]? = some u := by
        rw [← hu, ← flat_drop, List.getElem?_drop, Nat.add_comm]
      rw [← h3, List.getElem?_take, if_pos (by omega), Array.getElem?_toList] at e
      rw [show (Addr.add ⟨g, (i + 1) * 2, none⟩ j : Addr) = ⟨g, j + (i + 1) * 2, none⟩ by simp [Addr.add_lit, Nat.add_comm], blk_cell hb, e]
  obtain ⟨v1, w1, r1, r2, r3, r4⟩ := hh
  exact ⟨v1, w1, r1, by rw [List.eraseIdx_eq_take_drop_succ]; exact r2, r3, r4⟩
def RCancelPost (w : World) (r : Nat) (now : Nat) (v : Value) (l : List Tm) (N : Int) (id : Int) (e : Ending) (w' : World) : Prop :=
  if idxP id l 0 < 0 then e = .returned (.int .i64 6) ∧ MoveR w r now v l N w'
  else e = .returned (.int .i64 0) ∧ MoveR w r now v (l.eraseIdx (idxP id l 0).toNat) N w'
set_option maxHeartbeats 8000000 in
set_option maxRecDepth 100000 in
theorem rcancel_calls (r : Nat) (now : Nat) (v : Value) (l : List Tm) (N : Int) (id : Int) (w : World) (h : RAt w r now v l N) (hn : l.length ≤ 1000) :
    Calls Try.prog 20 #[.pointer (some ⟨r, 0, none⟩), .int .i64 id] w (RCancelPost w r now v l N id) := by
  have H := Aside0.mk h
  have HN := Aside0.mk hn
  obtain ⟨A, c, hv, hcc⟩ := h.row.slice
  subst hv
  have HCC := Aside0.mk hcc
  clear h hn hcc
  go_enter Try.func20, Try.ntmps20
  go_wp2_with fail
  go_loopg [5] l.length (fun m v5 wr => ∃ i : Nat, m + i = l.length ∧ v5 = .int .i64 i ∧ wr = w ∧ Aside0 (idxP id (l.drop i) i = idxP id l 0))
  case atStart => exact ⟨0, rfl, rfl, rfl, ⟨rfl⟩⟩
  case round =>
    obtain ⟨i, hi, rfl, rfl, HX⟩ := hrel
    have hc1 := H.out.cell1
    cases gk with
    | zero =>
      have d1 : decide ((i : Int) < (l.length : Int)) = false := by simp; omega
      have d2 : decide (i < l.length) = false := by simp; omega
      have hx := HX.out
      rw [List.drop_eq_nil_of_le (by omega), idxP] at hx
      have HX2 := Aside0.mk hx
      clear hi hx
      go_wp2_with fail
      go_ret
      rw [RCancelPost, if_pos (by rw [← HX2.out]; decide)]
      exact ⟨rfl, .of_below H.out (Below.refl _ _)⟩
    | succ m =>
      have hil : i < l.length := by omega
      have d1 : decide ((i : Int) < (l.length : Int)) = true := by simp; omega
      have d2 : decide (i < l.length) = true := by simp; omega
      have ei : wrap64 ((i : Int) + 1) = ((i + 1 : Nat) : Int) := w64 _ (by have := HN.out; omega)
      have hx := HX.out
      rw [List.drop_eq_getElem_cons hil, idxP] at hx
      obtain ⟨g, rfl, _, _, hi0, hi1, hf⟩ := H.out.row.get i hil
      have HI := Aside0.mk hi
      have HIL := Aside0.mk hil
      clear hi
      by_cases hid : l[i].1 = id
      · rw [if_pos hid] at hx
        have HX2 := Aside0.mk hx
        rw [hid] at hi0
        have e1 : (id == id) = true := by simp
        have hcap : c = i + 1 ∨ ¬ c = i + 1 := by omega
        have hcr := H.out.frozen
        have hcd := pw_cell_below (Below.refl wr.heap.size wr).drew hc1
        clear hx hi1 hf hid
        rcases hcap with hcap | hcap
        · subst hcap
          obtain ⟨v6, w6, hrun, hl6, hg6, hat6⟩ := LR.cut (w := wr.drew) (H.out.drew.row) HN.out i HIL.out ⟨g, 0, none⟩ (fun h0 => by have := HCC.out; omega) (0)
          rw [show l.length - (i + 1) = 0 by have := HCC.out; omega] at hrun
          obtain ⟨A6, c6, hv6, _⟩ := hl6.slice
          subst hv6
          have hb6 := (hg6.block r (blk_lt H.out.drew.blk) (fun he => H.out.drew.ne_own he)).trans H.out.drew.blk
          have hz6 : w6.cell? ⟨r, 1, none⟩ = some (.slice (some ⟨g, 0, none⟩) l.length _) := (blk_cell hb6 1).trans rfl
          have hz6f := blk_frozen hb6
          have HL6 := Aside0.mk (And.intro hl6 (And.intro hg6 (And.intro hat6 hb6)))
          have HRUN := Aside0.mk hrun
          clear hrun hl6 hg6 hat6 hb6
          have s1 : IntKind.i64.wrap ((i : Int) + 1) = (i : Int) + 1 := IntWalk.i64_in _ (by have := HN.out; have := HIL.out; omega)
          have s2 : (0 : Int) ≤ (i : Int) + 1 := by omega
          have s3 : ((i : Int) + 1).toNat = i + 1 := by omega
          have s4 : (i : Int) ≤ (i : Int) + 1 := by omega
          have s5 : (i : Int) + 1 ≤ (l.length : Int) := by have := HIL.out; omega
          have s6 : i + 1 ≤ l.length := by have := HIL.out; omega
          have s7 : l.length ≤ i + 1 := HCC.out
          go_wp2_with fail
          go_region_law
            (refine event_step (v := .slice A6 (l.eraseIdx i).length c6) (w1 := w6) (op0 := .call { callee := .builtin .append, args := #[.tmp 32, .tmp 39], argTypes := #[39, 39] }) (by rfl) (by rfl) ?hr ?_; (case hr => unfold execOp; simp only [resolve, invoke, builtin, Sem.run_bind, Sem.run_pure, Result.andThen_ok, List.map_toArray, List.map_cons, List.map_nil]; refine Eq.trans (congrArg (fun r => Result.andThen r _) HRUN.out) rfl))
          all_goals
            go_wp2_with fail
            go_ret
            have hnn : ¬ idxP id l 0 < 0 := by rw [← HX2.out]; omega
            rw [RCancelPost, if_neg hnn]
            have hk : (idxP id l 0).toNat = i := by rw [← HX2.out]; simp
            rw [hk]
            refine ⟨rfl, _, RAt.put1 HL6.out.2.2.2 HL6.out.1, ((Hold.of_below (Below.refl _ _).drew (fun k => k = r ∨ own (.slice (some ⟨g, 0, none⟩) l.length _) k)).trans (Hold.of_grown HL6.out.2.1) (fun k hk => .inl (.inr hk))).put (.inl rfl) 1 _, fun k hk => ?_⟩
            rcases HL6.out.2.2.1 with he | ⟨k', he, hk'⟩
            · exact .inl (hk.trans he)
            · have : some k = some k' := hk.trans he
              injection this with this
              exact .inr (by rw [this]; exact hk')
        · skip
          obtain ⟨v6, w6, hrun, hl6, hg6, hat6⟩ := LR.cut (w := wr.drew) (H.out.drew.row) HN.out i HIL.out ⟨g, (i + 1) * 2, none⟩ (fun _ => rfl) (c - (i + 1))
          obtain ⟨A6, c6, hv6, _⟩ := hl6.slice
          subst hv6
          have hb6 := (hg6.block r (blk_lt H.out.drew.blk) (fun he => H.out.drew.ne_own he)).trans H.out.drew.blk
          have hz6 : w6.cell? ⟨r, 1, none⟩ = some (.slice (some ⟨g, 0, none⟩) l.length _) := (blk_cell hb6 1).trans rfl
          have hz6f := blk_frozen hb6
          have HL6 := Aside0.mk (And.intro hl6 (And.intro hg6 (And.intro hat6 hb6)))
          have HRUN := Aside0.mk hrun
          clear hrun hl6 hg6 hat6 hb6
          have s1 : IntKind.i64.wrap ((i : Int) + 1) = (i : Int) + 1 := IntWalk.i64_in _ (by have := HN.out; have := HIL.out; omega)
          have s2 : (0 : Int) ≤ (i : Int) + 1 := by omega
          have s3 : ((i : Int) + 1).toNat = i + 1 := by omega
          have s4 : (i : Int) ≤ (i : Int) + 1 := by omega
          have s5 : (i : Int) + 1 ≤ (l.length : Int) := by have := HIL.out; omega
          have s6 : i + 1 ≤ l.length := by have := HIL.out; omega
          have s7 : l.length ≤ c := HCC.out
          have s8 : (i : Int) ≤ (c : Int) := by have := HIL.out; omega
          have s9 : i ≤ c := by omega
          go_wp2_with fail
          go_region_law
            (refine event_step (v := .slice A6 (l.eraseIdx i).length c6) (w1 := w6) (op0 := .call { callee := .builtin .append, args := #[.tmp 32, .tmp 39], argTypes := #[39, 39] }) (by rfl) (by rfl) ?hr ?_; (case hr => unfold execOp; simp only [resolve, invoke, builtin, Sem.run_bind, Sem.run_pure, Result.andThen_ok, List.map_toArray, List.map_cons, List.map_nil]; refine Eq.trans (congrArg (fun r => Result.andThen r _) HRUN.out) rfl))
          all_goals
            go_wp2_with fail
            go_ret
            have hnn : ¬ idxP id l 0 < 0 := by rw [← HX2.out]; omega
            rw [RCancelPost, if_neg hnn]
            have hk : (idxP id l 0).toNat = i := by rw [← HX2.out]; simp
            rw [hk]
            refine ⟨rfl, _, RAt.put1 HL6.out.2.2.2 HL6.out.1, ((Hold.of_below (Below.refl _ _).drew (fun k => k = r ∨ own (.slice (some ⟨g, 0, none⟩) l.length _) k)).trans (Hold.of_grown HL6.out.2.1) (fun k hk => .inl (.inr hk))).put (.inl rfl) 1 _, fun k hk => ?_⟩
            rcases HL6.out.2.2.1 with he | ⟨k', he, hk'⟩
            · exact .inl (hk.trans he)
            · have : some k = some k' := hk.trans he
              injection this with this
              exact .inr (by rw [this]; exact hk')
      · rw [if_neg hid] at hx
        have HX2 := Aside0.mk hx
        have e1 : (l[i].1 == id) = false := by simpa using hid
        clear hx hi1 hf hid
        go_wp2_with fail
        go_roundg m
        case measure => omega
        case rel => exact ⟨i + 1, by have := HI.out; omega, by first | rw [ei] | rfl, rfl, HX2⟩
end Go.Proofs.Ytnniljcmjcjleaa
