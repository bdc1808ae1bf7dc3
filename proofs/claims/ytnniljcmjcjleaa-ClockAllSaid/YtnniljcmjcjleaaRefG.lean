/- The reference's clock: New, Next, Go, Jump. -/
import Derived.Test.YtnniljcmjcjleaaRow
import Derived.Test.YtnniljcmjcjleaaRuns
namespace Go.Proofs.Ytnniljcmjcjleaa
open Go.RowKit Go.Proofs.Ytnniljcmjcjleaa.QA Go.Proofs.YtnniljcmjcjleaaW.PrintWords Go.Proofs.YtnniljcmjcjleaaW.PrintLast Go.Proofs.YtnniljcmjcjleaaW.PrintMore
attribute [local go_sem] fl_store fl_bits fl_frombits fl_usigned
set_option linter.unusedVariables false
set_option linter.unusedSimpArgs false

/-- The reference's clock in memory. -/
structure RAt (w : World) (r : Nat) (now : Nat) (v : Value) (l : List Tm) (N : Int) : Prop where
  blk : w.heap[r]? = some (.cells #[.float .f64 now, v, .int .i64 N] 54 (0, 0))
  row : LR w v l
namespace RAt
variable {w w1 : World} {r : Nat} {now : Nat} {N : Int} {v : Value} {l l1 : List Tm}
theorem ne_own (h : RAt w r now v l N) : ¬ own v r := fun he => by
  obtain ⟨cells, hc⟩ := h.row.typed r he
  rw [h.blk] at hc
  injection hc with hc
  injection hc with _ ht
  cases ht
theorem cell0 (h : RAt w r now v l N) : w.cell? ⟨r, 0, none⟩ = some (.float .f64 now) := (blk_cell h.blk 0).trans rfl
theorem cell1 (h : RAt w r now v l N) : w.cell? ⟨r, 1, none⟩ = some v := (blk_cell h.blk 1).trans rfl
theorem cell2 (h : RAt w r now v l N) : w.cell? ⟨r, 2, none⟩ = some (.int .i64 N) := (blk_cell h.blk 2).trans rfl
theorem frozen (h : RAt w r now v l N) (j : Nat) : w.frozen? ⟨r, j, none⟩ = false := blk_frozen h.blk j
theorem keep (h : RAt w r now v l N) (hk : ∀ k, k = r ∨ own v k → k < w.heap.size → w1.heap[k]? = w.heap[k]?) : RAt w1 r now v l N :=
  ⟨(hk r (.inl rfl) (blk_lt h.blk)).trans h.blk, h.row.keep (fun k ho => hk k (.inr ho) (h.row.lt k ho))⟩
theorem below (h : RAt w r now v l N) (hb : Below w.heap.size w w1) : RAt w1 r now v l N := h.keep (fun k _ hlt => hb.block k hlt)
theorem drew (h : RAt w r now v l N) : RAt w.drew r now v l N := h.below (Below.refl _ _).drew
theorem put0 (h : RAt w r now v l N) (x : Nat) : RAt (w.setCell ⟨r, 0, none⟩ (.float .f64 x)) r x v l N :=
  ⟨blk_put h.blk 0 (.float .f64 x) rfl, h.row.keep (fun k ho => Below.heap_setCell _ _ _ k (fun he => h.ne_own (by rw [show k = r from he] at ho; exact ho)))⟩
theorem put2 (h : RAt w r now v l N) (n : Int) : RAt (w.setCell ⟨r, 2, none⟩ (.int .i64 n)) r now v l n :=
  ⟨blk_put h.blk 2 (.int .i64 n) rfl, h.row.keep (fun k ho => Below.heap_setCell _ _ _ k (fun he => h.ne_own (by rw [show k = r from he] at ho; exact ho)))⟩
/-- The row's own cell is written: another row. -/
theorem put1 {v1 : Value} (hb : w.heap[r]? = some (.cells #[.float .f64 now, v, .int .i64 N] 54 (0, 0))) (hr : LR w v1 l1) : RAt (w.setCell ⟨r, 1, none⟩ v1) r now v1 l1 N :=
  ⟨blk_put hb 1 v1 rfl, hr.keep (fun k ho => Below.heap_setCell _ _ _ k (fun he => by
    obtain ⟨cells, hc⟩ := hr.typed k ho
    rw [show k = r from he, hb] at hc
    injection hc with hc
    injection hc with _ ht
    cases ht))⟩
theorem beside {base : Nat} {u : Value} {xs : List Int} (hc : RAt w r now v l N) (h : IR w base u xs) (hg : w.grownBy w1 u.ownBlock) : RAt w1 r now v l N := by
  refine hc.keep (fun k hk hlt => hg.block k hlt (fun he => ?_))
  obtain ⟨cells, hcl⟩ := Kd.R_typed h k he.symm
  rcases hk with rfl | ho
  · rw [hc.blk] at hcl
    injection hcl with hcl
    injection hcl with _ ht
    cases ht
  · obtain ⟨cells2, hc2⟩ := hc.row.typed k ho
    rw [hc2] at hcl
    injection hcl with hcl
    injection hcl with _ ht
    cases ht
end RAt
theorem IR.keepR {w w1 : World} {base r : Nat} {now : Nat} {N : Int} {cv u : Value} {l : List Tm} {xs : List Int} (h : IR w base u xs) (hc : RAt w r now cv l N) (hh : Hold w w1 (fun k => k = r ∨ own cv k)) : IR w1 base u xs := by
  have h1 := Kd.R_tight (by rfl) h
  refine Kd.R_mono (Kd.R_step h1 (fun k hk hlt => hh.block k hlt ?_)) (fun _ _ => trivial)
  obtain ⟨cells, hcl⟩ := Kd.R_typed h k hk.symm
  rintro (rfl | hk2)
  · rw [hc.blk] at hcl
    injection hcl with hcl
    injection hcl with _ ht
    cases ht
  · obtain ⟨cells2, hcl2⟩ := hc.row.typed k hk2
    rw [hcl2] at hcl
    injection hcl with hcl
    injection hcl with _ ht
    cases ht
/-- The reference's clock has been moved on. -/
def MoveR (w : World) (r : Nat) (now : Nat) (v : Value) (l : List Tm) (N : Int) (w' : World) : Prop :=
  ∃ v', RAt w' r now v' l N ∧ Hold w w' (fun k => k = r ∨ own v k) ∧ ∀ k, own v' k → own v k ∨ w.heap.size ≤ k
theorem MoveR.of_below {w w1 : World} {r : Nat} {now : Nat} {N : Int} {v : Value} {l : List Tm} (h : RAt w r now v l N) (hb : Below w.heap.size w w1) : MoveR w r now v l N w1 := ⟨v, h.below hb, Hold.of_below hb _, fun _ hk => .inl hk⟩
theorem MoveR.step {w w1 w2 : World} {r : Nat} {now1 : Nat} {N1 : Int} {v v1 : Value} {l2 : List Tm} (h1 : Hold w w1 (fun k => k = r ∨ own v k)) (hat : ∀ k, own v1 k → own v k ∨ w.heap.size ≤ k)
    (h2 : MoveR w1 r now1 v1 l2 N1 w2) : MoveR w r now1 v l2 N1 w2 := by
  obtain ⟨v2, hc, hh, ha⟩ := h2
  refine ⟨v2, hc, h1.trans hh (fun k hk => ?_), fun k hk => ?_⟩
  · rcases hk with hk | hk
    · exact .inl (.inl hk)
    · rcases hat k hk with h | h
      · exact .inl (.inr h)
      · exact .inr h
  · rcases ha k hk with h | h
    · exact hat k h
    · exact .inr (by have := h1.size; omega)
theorem rtime_eq (x : Nat) : flumeref16_time.f x = some ((plainF x).1, (plainF x).2) := by
  rw [flumeref16_time.f, plainF]
  split <;> rfl
theorem rtime_calls (x : Nat) (w : World) : Calls Try.prog 35 #[.float .f64 x] w fun e w' => e = .returned (.tuple #[.float .f64 (plainF x).1, .bool (plainF x).2]) ∧ Below w.heap.size w w' :=
  (flumeref16_time.calls x _ _ w (rtime_eq x)).mono fun e w' h => ⟨h.1, h.2.below⟩
def NewRPost (w : World) (x : Nat) (e : Ending) (w' : World) : Prop :=
  if okStart x = true then ∃ g, e = .returned (.tuple #[.pointer (some ⟨g, 0, none⟩), .int .i64 0]) ∧ RAt w' g (plainF x).1 (.slice none 0 0) [] 0 ∧ w.heap.size ≤ g ∧ Below w.heap.size w w'
  else e = .returned (.tuple #[.pointer none, .int .i64 1]) ∧ Below w.heap.size w w'
set_option maxHeartbeats 4000000 in
theorem rnew_calls (x : Nat) (w : World) : Calls Try.prog 17 #[.float .f64 x] w (NewRPost w x) := by
  go_enter Try.func17, Try.ntmps17
  go_wp2_with fail
  refine (rtime_calls x w).mono ?_
  rintro e w1 ⟨rfl, hb1⟩
  obtain ⟨d, hd⟩ : ∃ d, plainF x = d := ⟨_, rfl⟩
  rw [hd]
  obtain ⟨dx, ok⟩ := d
  have HB1 := Aside0.mk hb1
  have HD := Aside0.mk hd
  clear hb1 hd
  cases ok with
  | false =>
    go_wp2_with fail
    go_ret2
    rw [NewRPost, okStart, HD.out]
    exact ⟨rfl, HB1.out⟩
  | true =>
    go_wp2_with fail
    refine (inf_calls dx w1).mono ?_
    rintro e w2 ⟨rfl, rfl⟩
    obtain ⟨b, hb⟩ : ∃ b, infP dx = b := ⟨_, rfl⟩
    rw [hb]
    have HB := Aside0.mk hb
    clear hb
    cases b with
    | true =>
      go_wp2_with fail
      go_ret2
      rw [NewRPost, okStart, HD.out, HB.out]
      exact ⟨rfl, HB1.out⟩
    | false =>
      go_wp2_with (
        (with_reducible refine gate_dst (N := 19) rfl ?_)
        refine box_event ?hg (N := 19) ?hd (cs := #[.float .f64 dx, .slice none 0 0, .int .i64 0]) (t := 54) ?hr ?_
        (case hd => rfl)
        (case hg => rfl)
        (case hr => first | (go_simp; done) | (go_simp; rfl))
        intro g hg w3 hbox hb3
        have HBX := Aside0.mk hbox
        have HB3 := Aside0.mk hb3
        have HG : Aside0 (w.heap.size ≤ g) := ⟨by rw [hg]; exact HB1.out.size⟩
        clear hbox hb3 hg)
      go_ret2
      rw [NewRPost, okStart, HD.out, HB.out]
      exact ⟨g, rfl, ⟨HBX.out, LR.nil _⟩, HG.out, HB1.out.trans (HB3.out.mono HB1.out.size)⟩
set_option maxHeartbeats 4000000 in
theorem rnext_calls (r : Nat) (now : Nat) (v : Value) (l : List Tm) (N : Int) (w : World) (h : RAt w r now v l N) (hl : l.length ≤ 1000) : Calls Try.prog 40 #[.pointer (some ⟨r, 0, none⟩)] w fun e w' => e = .returned (.tuple #[.float .f64 (nextP l).1, .bool (nextP l).2]) ∧ w' = w := by
  have H := Aside0.mk h
  have hc1 := h.cell1
  obtain ⟨A, c, hv, _⟩ := h.row.slice
  subst hv
  cases l with
  | nil =>
    have e0 : ((([] : List Tm).length : Nat) : Int) = 0 := rfl
    clear h
    go_enter Try.func40, Try.ntmps40
    go_wp2_with fail
    go_ret2
    exact ⟨rfl, rfl⟩
  | cons t l =>
    obtain ⟨g, rfl, _, _, hi0, hi1, hf⟩ := h.row.get 0 (by simp)
    have hi : w.cell? ⟨g, 1, none⟩ = some (.float .f64 t.2) := hi1
    obtain ⟨M, hM⟩ : ∃ M, M = (t :: l).length := ⟨_, rfl⟩
    rw [← hM] at hc1
    have hM2 : M = l.length + 1 := hM
    have n1 : ((M : Int) == 0) = false := by simp; omega
    have n2 : (M : Int) = 0 ↔ False := ⟨fun h => by omega, False.elim⟩
    have n3 : M = 0 ↔ False := ⟨fun h => by omega, False.elim⟩
    have n4 : 0 < M := by omega
    have n5 : (0 : Int) < (M : Int) := by omega
    clear h hi0 hi1 hf hM hM2 hl
    go_enter Try.func40, Try.ntmps40
    go_wp2_with fail
    refine (inf_calls t.2 w).mono ?_
    rintro e w2 ⟨rfl, rfl⟩
    obtain ⟨b, hb⟩ : ∃ b, infP t.2 = b := ⟨_, rfl⟩
    rw [hb]
    have HB := Aside0.mk hb
    clear hb
    cases b with
    | false =>
      go_wp2_with fail
      go_ret2
      exact ⟨by simp only [nextP, HB.out]; rfl, rfl⟩
    | true =>
      go_wp2_with fail
      go_ret2
      exact ⟨by simp only [nextP, HB.out]; rfl, rfl⟩
/-- append(nil, L[1:]...). -/
theorem LR.tail {w : World} {g c : Nat} {t : Tm} {l : List Tm} (h : LR w (.slice (some ⟨g, 0, none⟩) (l.length + 1) c) (t :: l)) (hl : l.length ≤ 1000) (a2 : Addr) (ha : 0 < l.length → a2 = ⟨g, 2, none⟩) (c2 : Nat) :
    ∃ v1 w1, (Builtin.append_ #[39, 39] 39 #[.slice none 0 0, .slice (some a2) l.length c2]).run Try.prog w = .ok v1 w1 ∧ LR w1 v1 l ∧ Below w.heap.size w w1 ∧ (v1.ownBlock = none ∨ ∃ k, v1.ownBlock = some k ∧ w.heap.size ≤ k) := by
  obtain ⟨v1, w1, h1, h2, h3, h4⟩ := LR.append (W := w) (LR.nil w) a2 l.length c2 l rfl (fun j u hu => by
    have hj := (List.getElem?_eq_some_iff.1 hu).1
    rw [flat_length] at hj
    rw [ha (by omega)]
    rcases h with ⟨he, _⟩ | ⟨g', c', cur, hv, _, _, hb, h3⟩
    · cases he
    · injection hv with hg _ _
      injection hg with hg
      injection hg with hg
      subst hg
      have e : (flat (t :: l))[j + 2]? = some u := hu
      rw [← h3, List.getElem?_take, if_pos (by simp only [List.length_cons]; omega), Array.getElem?_toList] at e
      rw [show (Addr.add ⟨g, 2, none⟩ j : Addr) = ⟨g, j + 2, none⟩ by simp [Addr.add_lit, Nat.add_comm], blk_cell hb, e]) (by simp; omega)
  exact ⟨v1, w1, h1, h2, ⟨h3.os, h3.tape, h3.output, h3.size, fun k hk => h3.block k hk (by intro he; cases he)⟩, h4⟩

def RGoPost (w : World) (r : Nat) (now : Nat) (v : Value) (l : List Tm) (N : Int) (d : Nat) (e : Ending) (w' : World) : Prop :=
  if okGo now d = true then ∃ u, e = .returned (.tuple #[u, .int .i64 0]) ∧ IR w' w.heap.size u ((goS (plainF d).1 l).map (·.1)) ∧ MoveR w r (plainF d).1 v (goR (plainF d).1 l) N w'
  else e = .returned (.tuple #[.slice none 0 0, .int .i64 1]) ∧ MoveR w r now v l N w'
set_option maxHeartbeats 8000000 in
set_option maxRecDepth 100000 in
theorem rgo_calls (r : Nat) (now : Nat) (v : Value) (l : List Tm) (N : Int) (d : Nat) (w : World) (h : RAt w r now v l N) (hn : l.length ≤ 1000) :
    Calls Try.prog 21 #[.pointer (some ⟨r, 0, none⟩), .float .f64 d] w (RGoPost w r now v l N d) := by
  have H := Aside0.mk h
  have HM := Aside0.mk hn
  clear h hn
  go_enter Try.func21, Try.ntmps21
  go_wp2_with fail
  refine (rtime_calls d w).mono ?_
  rintro e w1 ⟨rfl, hb1⟩
  obtain ⟨p, hp⟩ : ∃ p, plainF d = p := ⟨_, rfl⟩
  obtain ⟨t, ok⟩ := p
  rw [hp]
  have HP := Aside0.mk hp
  have HB1 := Aside0.mk hb1
  have H1 := Aside0.mk (H.out.below hb1)
  have hc0 := H1.out.cell0
  clear hb1 hp
  cases ok with
  | false =>
    go_wp2_with fail
    go_ret2
    rw [RGoPost, okGo, HP.out]
    exact ⟨rfl, .of_below H.out HB1.out⟩
  | true =>
    obtain ⟨b1, hb1⟩ : ∃ b, (FloatKind.f64.format.order t now == some .lt) = b := ⟨_, rfl⟩
    have HB2 := Aside0.mk hb1
    cases b1 with
    | true =>
      go_wp2_with fail
      go_ret2
      rw [RGoPost, okGo, HP.out, ltF, HB2.out]
      exact ⟨rfl, .of_below H.out HB1.out⟩
    | false =>
      go_wp2_with fail
      refine (inf_calls t w1).mono ?_
      rintro e w3 ⟨rfl, rfl⟩
      obtain ⟨b3, hb3⟩ : ∃ b, infP t = b := ⟨_, rfl⟩
      rw [hb3]
      have HB3 := Aside0.mk hb3
      clear hb3
      cases b3 with
      | true =>
        go_wp2_with fail
        go_ret2
        rw [RGoPost, okGo, HP.out, ltF, HB2.out, HB3.out]
        exact ⟨rfl, .of_below H.out HB1.out⟩
      | false =>
        have HOK : Aside0 (okGo now d = true) := ⟨by rw [okGo, HP.out, ltF, HB2.out, HB3.out]; rfl⟩
        have hf := H1.out.frozen
        clear hb1
        go_wp2_with fail
        have H4 := Aside0.mk (H1.out.put0 t)
        have HH4 : Aside0 (Hold w (w3.setCell ⟨r, 0, none⟩ (.float .f64 t)) (fun k => k = r ∨ own v k)) := ⟨(Hold.of_below HB1.out _).put (.inl rfl) 0 _⟩
        clear hf hc0
        go_loopg [8] l.length (fun m v8 wr => ∃ (ids : List Int) (lr : List Tm) (vr : Value), lr.length = m ∧ Aside0 (IR wr w.heap.size v8 ids) ∧ Aside0 (RAt wr r t vr lr N) ∧ Aside0 (Hold w wr (fun k => k = r ∨ own v k)) ∧
          Aside0 (∀ k, own vr k → own v k ∨ w.heap.size ≤ k) ∧ Aside0 (ids ++ (goS t lr).map (·.1) = (goS t l).map (·.1) ∧ goR t lr = goR t l) ∧ Aside0 (ids.length + m = l.length))
        case atStart => exact ⟨[], l, v, rfl, ⟨Kd.R_nil _ _ _ _ _⟩, H4, HH4, ⟨fun _ hk => .inl hk⟩, ⟨rfl, rfl⟩, ⟨by simp⟩⟩
        case round =>
          obtain ⟨ids, lr, vr, hlen, HI, HC, HH, HAT, HE, HS⟩ := hrel
          have hc1 := HC.out.cell1
          obtain ⟨A, c, hv, hcc⟩ := HC.out.row.slice
          subst hv
          cases gk with
          | zero =>
            have hl0 : lr = [] := List.eq_nil_of_length_eq_zero hlen
            subst hl0
            have e0 : ((([] : List Tm).length : Nat) : Int) = 0 := rfl
            clear hlen hcc
            go_wp2_with fail
            go_ret2
            rw [RGoPost, if_pos HOK.out, HP.out]
            have e1 := HE.out.1
            have e2 := HE.out.2
            have e3 : (goS t []).map (·.1) = ([] : List Int) := rfl
            rw [e3, List.append_nil] at e1
            rw [← e1, ← e2]
            exact ⟨_, rfl, HI.out, _, HC.out, HH.out, HAT.out⟩
          | succ m =>
            obtain ⟨x, lq, rfl⟩ : ∃ x lq, lr = x :: lq := by
              cases lr with
              | nil => simp at hlen
              | cons x lq => exact ⟨x, lq, rfl⟩
            obtain ⟨g, rfl, _, _, hi0, hi1, hf⟩ := HC.out.row.get 0 (by simp)
            have hi : wr.cell? ⟨g, 1, none⟩ = some (.float .f64 x.2) := hi1
            have hi' : wr.cell? ⟨g, 0, none⟩ = some (.int .i64 x.1) := hi0
            obtain ⟨q, hq⟩ : ∃ q, q = lq.length := ⟨_, rfl⟩
            rw [List.length_cons, ← hq] at hc1 hcc
            have HQ := Aside0.mk hq
            have n4 : 0 < q + 1 := by omega
            have n5 : (0 : Int) < (q : Int) + 1 := by omega
            have HL : Aside0 (lq.length = m) := ⟨by simpa using hlen⟩
            obtain ⟨b4, hb4⟩ : ∃ b, (FloatKind.f64.format.order x.2 t == some .lt || FloatKind.f64.format.order x.2 t == some .eq) = b := ⟨_, rfl⟩
            have HB4 : Aside0 (leF x.2 t = b4) := ⟨hb4⟩
            clear hlen hq hi0 hi1 hf
            cases b4 with
            | false =>
              clear hcc
              go_wp2_with fail
              go_ret2
              rw [RGoPost, if_pos HOK.out, HP.out]
              have e1 := HE.out.1
              have e2 := HE.out.2
              rw [goS, List.takeWhile_cons, if_neg (by rw [HB4.out]; simp), List.map_nil, List.append_nil] at e1
              rw [goR, List.dropWhile_cons, if_neg (by rw [HB4.out]; simp)] at e2
              rw [← e1, ← e2]
              exact ⟨_, rfl, HI.out, _, HC.out, HH.out, HAT.out⟩
            | true =>
              have hcap : c = 1 ∨ ¬ c = 1 := by omega
              have HCC := Aside0.mk hcc
              rcases hcap with hcap | hcap
              ·
                subst hcap
                clear hcc
                go_wp2_with (first | ((with_reducible refine gate_builtin (b := .append) (xs := #[.tmp 49, .tmp 57]) rfl ?_); at_builtin; refine Kd.R_append (Kd.int .i64) (w0 := wr) (W := wr) w.heap.size rfl (.tmp 49) (.tmp 57) 34 3 (.int .i64 0) 8 rfl under_ints info_int rfl (by decide) (by decide) u8 ids x.1 [.int .i64 x.1] (fun _ => True) (fun _ => False) rfl rfl rfl (fun _ hk => hk.elim) (fun _ _ => trivial) HI.out ?hbb HH.out.size (by have := HS.out; have := HM.out; omega) ?_
                                      case hbb => exact ⟨rfl, rfl, rfl, Nat.le_refl _, fun _ _ => rfl⟩
                                      intro v5 w5 ho hb5 hg5 hat5
                                      have HO5 : Aside0 (IR w5 w.heap.size v5 (ids ++ [x.1])) := ⟨ho⟩
                                      have HC5 := Aside0.mk (HC.out.beside HI.out hg5)
                                      have HH5 : Aside0 (Hold w w5 (fun k => k = r ∨ own v k)) := ⟨HH.out.trans (Hold.of_grown hg5) (fun k hk => .inr (Kd.R_base HI.out k hk.symm))⟩
                                      have hc5 := HC5.out.cell1
                                      have hf5 := HC5.out.frozen
                                      rw [List.length_cons, ← HQ.out] at hc5
                                      obtain ⟨v6, w6, hrun, hl6, hb6, hat6⟩ := LR.tail (l := lq) HC5.out.row (by have := HL.out; have := HS.out; have := HM.out; omega) ⟨g, 0, none⟩ (fun h0 => by have := HCC.out; have := HQ.out; omega) (0)
                                      obtain ⟨A6, c6, hv6, _⟩ := hl6.slice
                                      subst hv6
                                      have HRUN := Aside0.mk hrun
                                      have HL6 := Aside0.mk hl6
                                      have HB6 := Aside0.mk hb6
                                      have HA6 := Aside0.mk hat6
                                      have hc6 := pw_cell_below hb6 hc5
                                      have hf6 := blk_frozen (blk_below HC5.out.blk hb6)
                                      clear ho hb5 hg5 hat5 hc1 hi hi' hrun hl6 hb6 hat6)
                                   | ((with_reducible refine gate_builtin (b := .append) (xs := #[.const (.slice none 0 0), .tmp 64]) rfl ?_); at_builtin; refine Kd.event_run (v := .slice A6 lq.length c6) (w1 := w6) rfl ?hr ?_; (case hr => rw [HQ.out]; unfold execOp; simp only [resolve, invoke, builtin, Sem.run_bind, Sem.run_pure, Result.andThen_ok, List.map_toArray, List.map_cons, List.map_nil]; refine Eq.trans (congrArg (fun r => Result.andThen r _) HRUN.out) rfl)))
                go_roundg m
                case measure => omega
                case rel =>
                  have e1 := HE.out.1
                  have e2 := HE.out.2
                  rw [goS, List.takeWhile_cons, if_pos HB4.out] at e1
                  rw [goR, List.dropWhile_cons, if_pos HB4.out] at e2
                  refine ⟨_, lq, .slice A6 lq.length c6, HL.out, ⟨Kd.R_set (Kd.R_below HO5.out HB6.out) (blk_below HC5.out.blk HB6.out) (by intro q hq; rcases List.mem_cons.1 hq with rfl | hq; decide; cases hq) 1 _⟩, ⟨RAt.put1 (blk_below HC5.out.blk HB6.out) HL6.out⟩, ⟨(HH5.out.trans (S1 := fun k => k = r ∨ own v k) (Hold.of_below HB6.out _) (fun k hk => .inl hk)).put (.inl rfl) 1 _⟩, ⟨fun k hk => ?_⟩, ⟨?_, e2⟩, ⟨?_⟩⟩
                  · rcases HA6.out with h | ⟨k', h, hk'⟩
                    · have : some k = none := hk.trans h
                      cases this
                    · have : some k = some k' := hk.trans h
                      injection this with this
                      have := HH5.out.size
                      exact .inr (by omega)
                  · rw [← e1]; simp [goS]
                  · have := HS.out; simp; omega
              ·
                skip
                clear hcc
                go_wp2_with (first | ((with_reducible refine gate_builtin (b := .append) (xs := #[.tmp 49, .tmp 57]) rfl ?_); at_builtin; refine Kd.R_append (Kd.int .i64) (w0 := wr) (W := wr) w.heap.size rfl (.tmp 49) (.tmp 57) 34 3 (.int .i64 0) 8 rfl under_ints info_int rfl (by decide) (by decide) u8 ids x.1 [.int .i64 x.1] (fun _ => True) (fun _ => False) rfl rfl rfl (fun _ hk => hk.elim) (fun _ _ => trivial) HI.out ?hbb HH.out.size (by have := HS.out; have := HM.out; omega) ?_
                                      case hbb => exact ⟨rfl, rfl, rfl, Nat.le_refl _, fun _ _ => rfl⟩
                                      intro v5 w5 ho hb5 hg5 hat5
                                      have HO5 : Aside0 (IR w5 w.heap.size v5 (ids ++ [x.1])) := ⟨ho⟩
                                      have HC5 := Aside0.mk (HC.out.beside HI.out hg5)
                                      have HH5 : Aside0 (Hold w w5 (fun k => k = r ∨ own v k)) := ⟨HH.out.trans (Hold.of_grown hg5) (fun k hk => .inr (Kd.R_base HI.out k hk.symm))⟩
                                      have hc5 := HC5.out.cell1
                                      have hf5 := HC5.out.frozen
                                      rw [List.length_cons, ← HQ.out] at hc5
                                      obtain ⟨v6, w6, hrun, hl6, hb6, hat6⟩ := LR.tail (l := lq) HC5.out.row (by have := HL.out; have := HS.out; have := HM.out; omega) ⟨g, 2, none⟩ (fun _ => rfl) (c - 1)
                                      obtain ⟨A6, c6, hv6, _⟩ := hl6.slice
                                      subst hv6
                                      have HRUN := Aside0.mk hrun
                                      have HL6 := Aside0.mk hl6
                                      have HB6 := Aside0.mk hb6
                                      have HA6 := Aside0.mk hat6
                                      have hc6 := pw_cell_below hb6 hc5
                                      have hf6 := blk_frozen (blk_below HC5.out.blk hb6)
                                      clear ho hb5 hg5 hat5 hc1 hi hi' hrun hl6 hb6 hat6)
                                   | ((with_reducible refine gate_builtin (b := .append) (xs := #[.const (.slice none 0 0), .tmp 64]) rfl ?_); at_builtin; refine Kd.event_run (v := .slice A6 lq.length c6) (w1 := w6) rfl ?hr ?_; (case hr => rw [HQ.out]; unfold execOp; simp only [resolve, invoke, builtin, Sem.run_bind, Sem.run_pure, Result.andThen_ok, List.map_toArray, List.map_cons, List.map_nil]; refine Eq.trans (congrArg (fun r => Result.andThen r _) HRUN.out) rfl)))
                go_roundg m
                case measure => omega
                case rel =>
                  have e1 := HE.out.1
                  have e2 := HE.out.2
                  rw [goS, List.takeWhile_cons, if_pos HB4.out] at e1
                  rw [goR, List.dropWhile_cons, if_pos HB4.out] at e2
                  refine ⟨_, lq, .slice A6 lq.length c6, HL.out, ⟨Kd.R_set (Kd.R_below HO5.out HB6.out) (blk_below HC5.out.blk HB6.out) (by intro q hq; rcases List.mem_cons.1 hq with rfl | hq; decide; cases hq) 1 _⟩, ⟨RAt.put1 (blk_below HC5.out.blk HB6.out) HL6.out⟩, ⟨(HH5.out.trans (S1 := fun k => k = r ∨ own v k) (Hold.of_below HB6.out _) (fun k hk => .inl hk)).put (.inl rfl) 1 _⟩, ⟨fun k hk => ?_⟩, ⟨?_, e2⟩, ⟨?_⟩⟩
                  · rcases HA6.out with h | ⟨k', h, hk'⟩
                    · have : some k = none := hk.trans h
                      cases this
                    · have : some k = some k' := hk.trans h
                      injection this with this
                      have := HH5.out.size
                      exact .inr (by omega)
                  · rw [← e1]; simp [goS]
                  · have := HS.out; simp; omega
def RJumpPost (w : World) (r : Nat) (now : Nat) (v : Value) (l : List Tm) (N : Int) (e : Ending) (w' : World) : Prop :=
  if (nextP l).2 = true ∧ okGo now (nextP l).1 = true then ∃ u, e = .returned u ∧ IR w' w.heap.size u ((goS (plainF (nextP l).1).1 l).map (·.1)) ∧ MoveR w r (plainF (nextP l).1).1 v (goR (plainF (nextP l).1).1 l) N w'
  else e = .returned (.slice none 0 0) ∧ MoveR w r now v l N w'
set_option maxHeartbeats 8000000 in
set_option maxRecDepth 100000 in
theorem rjump_calls (r : Nat) (now : Nat) (v : Value) (l : List Tm) (N : Int) (w : World) (h : RAt w r now v l N) (hn : l.length ≤ 1000) :
    Calls Try.prog 23 #[.pointer (some ⟨r, 0, none⟩)] w (RJumpPost w r now v l N) := by
  have H := Aside0.mk h
  have HM := Aside0.mk hn
  clear h hn
  go_enter Try.func23, Try.ntmps23
  go_wp2_with fail
  refine (rnext_calls r now v l N w H.out HM.out).mono ?_
  rintro e w2 ⟨rfl, rfl⟩
  obtain ⟨p, hp⟩ : ∃ p, nextP l = p := ⟨_, rfl⟩
  obtain ⟨t, ok⟩ := p
  rw [hp]
  have HP := Aside0.mk hp
  clear hp
  cases ok with
  | false =>
    go_wp2_with fail
    go_ret
    rw [RJumpPost, HP.out, if_neg (by simp)]
    exact ⟨rfl, .of_below H.out (Below.refl _ _)⟩
  | true =>
    go_wp2_with fail
    refine (rgo_calls r now v l N t w2 H.out HM.out).mono ?_
    rintro e w3 hp3
    by_cases hok : okGo now t = true
    · rw [RGoPost, if_pos hok] at hp3
      obtain ⟨u, rfl, hi, hm⟩ := hp3
      have HI := Aside0.mk hi
      have HX := Aside0.mk hm
      have HOK := Aside0.mk hok
      clear hi hm hok
      go_wp2_with fail
      go_ret
      rw [RJumpPost, HP.out, if_pos ⟨rfl, HOK.out⟩]
      exact ⟨_, rfl, HI.out, HX.out⟩
    · rw [RGoPost, if_neg hok] at hp3
      obtain ⟨rfl, hm⟩ := hp3
      have HX := Aside0.mk hm
      have HOK := Aside0.mk hok
      clear hm hok
      go_wp2_with fail
      go_ret
      rw [RJumpPost, HP.out, if_neg (fun h => HOK.out h.2)]
      exact ⟨rfl, HX.out⟩
end Go.Proofs.Ytnniljcmjcjleaa
