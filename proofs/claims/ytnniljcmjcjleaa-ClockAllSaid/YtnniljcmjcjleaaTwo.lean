/- What goes off in two steps; two clocks beside each other; an append of whole rows. -/
import Derived.Test.YtnniljcmjcjleaaFl3
import Derived.Test.YtnniljcmjcjleaaBeg
import Derived.Deep.AppendSrc
namespace Go.Proofs.Ytnniljcmjcjleaa
open Go.RowKit Go.Proofs.Ytnniljcmjcjleaa.QA Go.Proofs.YtnniljcmjcjleaaW.PrintWords Go.Proofs.YtnniljcmjcjleaaW.PrintLast Go.Proofs.YtnniljcmjcjleaaW.PrintMore
set_option linter.unusedVariables false
set_option linter.unusedSimpArgs false

theorem goS_two (x y : Nat) : ∀ (s : List Tm), (∀ t ∈ s, leF t.2 x = true → leF t.2 y = true) → goS x s ++ goS y (goR x s) = goS y s ∧ goR y (goR x s) = goR y s
  | [], _ => ⟨rfl, rfl⟩
  | t :: s, h => by
    have ih := goS_two x y s (fun u hu => h u (List.mem_cons_of_mem _ hu))
    unfold goS goR at ih ⊢
    by_cases hx : leF t.2 x = true
    · have hy := h t (List.mem_cons_self ..) hx
      rw [List.takeWhile_cons, if_pos hx, List.dropWhile_cons, if_pos hx, List.takeWhile_cons, if_pos hy, List.dropWhile_cons, if_pos hy]
      exact ⟨by rw [List.cons_append, ih.1], ih.2⟩
    · rw [List.takeWhile_cons, if_neg hx, List.dropWhile_cons, if_neg hx]
      exact ⟨rfl, rfl⟩
theorem goR_sub (x : Nat) (s : List Tm) : ∀ t ∈ goR x s, t ∈ s := fun t ht => (List.dropWhile_sublist _).subset ht
theorem goR_length (x : Nat) (s : List Tm) : (goR x s).length ≤ s.length := (List.dropWhile_sublist _).length_le
theorem goS_length (x : Nat) (s : List Tm) : (goS x s).length ≤ s.length := (List.takeWhile_sublist _).length_le
theorem ids_loop (l : List Int) (hl : l.length ≤ 140737488355328) : ∀ (d j k : Nat), j + d = l.length → d < k → flumelaw16_ids.l0 k l l (j : Int) = some true := by
  intro d
  induction d with
  | zero =>
    intro j k hj hk
    obtain ⟨k, rfl⟩ : ∃ m, k = m + 1 := ⟨k - 1, by omega⟩
    rw [flumelaw16_ids.l0, if_neg (by omega)]
  | succ d ih =>
    intro j k hj hk
    obtain ⟨k, rfl⟩ : ∃ m, k = m + 1 := ⟨k - 1, by omega⟩
    rw [flumelaw16_ids.l0, if_pos (by omega), if_pos (by omega), if_pos (by omega), if_pos rfl, w64 _ (by omega)]
    exact ih (j + 1) k (by omega) (by omega)
theorem ids_true (l : List Int) (hl : l.length ≤ 140737488355328) : flumelaw16_ids.f (l.length + 1) l l = some true := by
  have := ids_loop l hl l.length 0 (l.length + 1) (by omega) (by omega)
  rw [flumelaw16_ids.f, if_pos rfl]
  exact this

/-- Another clock beside the one that is written. -/
theorem CAt.other {w w1 : World} {ga gb : Nat} {ba bb : Bool} {na nb : Nat} {la lb : Int} {va vb : Value} {A B : List Tm} (hA : CAt w ga ba na la va A) (hB : CAt w gb bb nb lb vb B) (hne : gb ≠ ga) (hap : ∀ k, own va k → ¬ own vb k)
    (hh : Hold w w1 (fun k => k = ga ∨ own va k)) : CAt w1 gb bb nb lb vb B := by
  refine ⟨(hh.block gb (blk_lt hB.blk) ?_).trans hB.blk, ?_⟩
  · rintro (h | h)
    · exact hne h
    · obtain ⟨cells, hc⟩ := Kd.R_typed hA.row gb h.symm
      rw [hB.blk] at hc
      injection hc with hc
      injection hc with _ ht
      cases ht
  · have h1 := Kd.R_tight (by rfl) hB.row
    refine Kd.R_mono (Kd.R_step h1 (fun k hk hlt => hh.block k hlt ?_)) (fun _ _ => trivial)
    rintro (h | h)
    · obtain ⟨cells, hc⟩ := Kd.R_typed hB.row k hk.symm
      rw [h, hA.blk] at hc
      injection hc with hc
      injection hc with _ ht
      cases ht
    · exact hap k h hk
/-- Two clocks made since w. -/
structure Two (w wi : World) (ga gb : Nat) (na nb : Nat) (la lb : Int) (va vb : Value) (A B : List Tm) : Prop where
  a : Mine w wi ga true na la va A
  b : Mine w wi gb true nb lb vb B
  ne : ga ≠ gb
  apart : ∀ k, own va k → ¬ own vb k
theorem Two.symm {w wi : World} {ga gb na nb : Nat} {la lb : Int} {va vb : Value} {A B : List Tm} (h : Two w wi ga gb na nb la lb va vb A B) : Two w wi gb ga nb na lb la vb va B A :=
  ⟨h.b, h.a, h.ne.symm, fun k h1 h2 => h.apart k h2 h1⟩
theorem Two.step {w wi wj : World} {ga gb na nb : Nat} {la lb : Int} {va vb : Value} {A B : List Tm} (h : Two w wi ga gb na nb la lb va vb A B) (hb : Below wi.heap.size wi wj) : Two w wj ga gb na nb la lb va vb A B :=
  ⟨h.a.step hb, h.b.step hb, h.ne, h.apart⟩
theorem Two.moveA {w wi wj : World} {ga gb na nb na1 : Nat} {la lb la1 : Int} {va vb : Value} {A B A1 : List Tm} (h : Two w wi ga gb na nb la lb va vb A B) (hp : MovePost wi ga true na1 la1 va A1 wj) : ∃ va1, Two w wj ga gb na1 nb la1 lb va1 vb A1 B := by
  obtain ⟨va1, hc, hh, hat⟩ := hp
  have hx : MovePost wi ga true na1 la1 va A1 wj := ⟨va1, hc, hh, hat⟩
  have hB := h.a.at_.other h.b.at_ h.ne.symm h.apart hh
  have hbw : Below w.heap.size w wj := h.a.below.trans (hh.below _ h.a.below.size (fun k hk => by
    rcases hk with rfl | hk
    · exact h.a.base
    · exact h.a.row k hk))
  refine ⟨va1, ⟨hc, hbw, h.a.base, fun k hk => ?_⟩, ⟨hB, hbw, h.b.base, h.b.row⟩, h.ne, fun k hk h2 => ?_⟩
  · rcases hat with he | ⟨k', he, hk'⟩
    · exact h.a.row k (hk.trans he)
    · have : some k = some k' := hk.trans he
      injection this with this
      have := h.a.below.size
      omega
  · rcases hat with he | ⟨k', he, hk'⟩
    · exact h.apart k (hk.trans he) h2
    · have : some k = some k' := hk.trans he
      injection this with this
      have := Kd.R_lt h.b.at_.row k h2.symm
      omega
theorem Two.moveB {w wi wj : World} {ga gb na nb nb1 : Nat} {la lb lb1 : Int} {va vb : Value} {A B B1 : List Tm} (h : Two w wi ga gb na nb la lb va vb A B) (hp : MovePost wi gb true nb1 lb1 vb B1 wj) : ∃ vb1, Two w wj ga gb na nb1 la lb1 va vb1 A B1 := by
  obtain ⟨vb1, h1⟩ := h.symm.moveA hp
  exact ⟨vb1, h1.symm⟩
/-- A row of numbers beside the clocks is written. -/
theorem Two.beside {w wi wj : World} {ga gb na nb base : Nat} {la lb : Int} {va vb u : Value} {A B : List Tm} {xs : List Int} (h : Two w wi ga gb na nb la lb va vb A B) (hi : IR wi base u xs) (hg : wi.grownBy wj u.ownBlock) (hbase : w.heap.size ≤ base) : Two w wj ga gb na nb la lb va vb A B := by
  have hbw : Below w.heap.size w wj := h.a.below.trans ((Hold.of_grown hg).below _ h.a.below.size (fun k hk => by have := Kd.R_base hi k hk.symm; omega))
  exact ⟨⟨h.a.at_.beside hi hg, hbw, h.a.base, h.a.row⟩, ⟨h.b.at_.beside hi hg, hbw, h.b.base, h.b.row⟩, h.ne, h.apart⟩

theorem append_empty (c : Nat) (W : World) : (Builtin.append_ #[34, 34] 34 #[.slice none 0 0, .slice none 0 c]).run Try.prog W = .ok (.slice none 0 0) W := by kernel_rfl
set_option maxRecDepth 100000 in
/-- append(u1, u2...) of whole numbers. -/
theorem ints_append (base b2 : Nat) (u1 : Value) (A2 : Option Addr) (n2 c2 : Nat) (l1 l2 : List Int) (W : World) (h1 : IR W base u1 l1) (h2 : IR W b2 (.slice A2 n2 c2) l2) (hb : base ≤ W.heap.size) (hn : l1.length + l2.length ≤ 100000) :
    ∃ v1 w1, (Builtin.append_ #[34, 34] 34 #[u1, .slice A2 n2 c2]).run Try.prog W = .ok v1 w1 ∧ IR w1 base v1 (l1 ++ l2) ∧ W.grownBy w1 u1.ownBlock := by
  have hl2 : n2 = l2.length := (Kd.R_reads' h2).1
  obtain ⟨i, hi, hzz⟩ := Option.map_eq_some_iff.1 info_int
  simp only [Prod.mk.injEq] at hzz
  obtain ⟨hz0, hz1, hz2⟩ := hzz
  cases A2 with
  | none =>
    have hl0 : l2 = [] := by
      rcases Nat.eq_zero_or_pos l2.length with h0 | h0
      · exact List.eq_nil_of_length_eq_zero h0
      · obtain ⟨g, c, hv, _⟩ := Kd.R_form h2 h0
        injection hv with ha _ _
        cases ha
    subst hl0
    subst hl2
    obtain ⟨A1, c1, rfl⟩ := h1.slice
    obtain ⟨_, hc1, _⟩ := Kd.R_reads' h1
    rw [List.append_nil]
    refine ⟨.slice A1 l1.length c1, W, ?_, h1, ⟨rfl, rfl, rfl, Nat.le_refl _, fun _ _ _ => rfl⟩⟩
    cases A1 with
    | none =>
      have hl1 : l1 = [] := by
        rcases Nat.eq_zero_or_pos l1.length with h0 | h0
        · exact List.eq_nil_of_length_eq_zero h0
        · obtain ⟨g, c, hv, _⟩ := Kd.R_form h1 h0
          injection hv with ha _ _
          cases ha
      subst hl1
      have hc0 : c1 = 0 := by
        obtain ⟨_, inner, ho, _⟩ := h1
        rcases ho.2 with ⟨hv, _⟩ | ⟨g, cap, cur, hv, _⟩
        · injection hv
        · injection hv with ha _ _
          cases ha
      subst hc0
      exact append_empty c2 W
    | some ad =>
      obtain ⟨b, off, o⟩ := ad
      have hs := Src.ofNil (P := Try.prog) W (size := i.size) (tx := 34) (e' := 3) under_ints c2
      cases o with
      | none => exact (run_append_room_src (P := Try.prog) W 34 34 34 3 i under_ints hi b off l1.length c1 _ 0 [] hs hc1 (fun j hj => by cases hj) (fun j hj => by cases hj)).trans rfl
      | some q =>
        exfalso
        obtain ⟨_, inner, ho, _⟩ := h1
        rcases ho.2 with ⟨hv, _⟩ | ⟨g, cap, cur, hv, _⟩
        · cases hv
        · injection hv with ha _ _
          injection ha with ha
          cases ha
  | some a2 =>
    obtain ⟨_, inner2, ho2, hrep2⟩ := h2
    obtain ⟨_, inner1, ho1, hrep1⟩ := h1
    have hcells : ∀ (l : List Int) (inner : List Value) (b : Nat) (ok : Nat → Prop), Reps ((Kd.int .i64).M W b ok) (Kd.int .i64).sz l inner → inner = l.map (Value.int .i64) := by
      intro l inner b ok hr
      apply List.ext_getElem?
      intro j
      have hlen : inner.length = l.length := by have e : inner.length = l.length * 1 := hr.1; omega
      rw [List.getElem?_map]
      by_cases hj : j < l.length
      · obtain ⟨hcs⟩ : Nonempty ((inner.drop (j * 1)).take 1 = [Value.int .i64 l[j]]) := ⟨hr.2 j _ (List.getElem?_eq_getElem hj)⟩
        rw [List.getElem?_eq_getElem hj]
        have h3 : ((inner.drop (j * 1)).take 1)[0]? = some (Value.int .i64 l[j]) := by rw [hcs]; rfl
        rw [List.getElem?_take, if_pos (by omega), List.getElem?_drop] at h3
        simpa using h3
      · rw [List.getElem?_eq_none (by omega), List.getElem?_eq_none (by omega)]
        rfl
    have e2 := hcells l2 inner2 _ _ hrep2
    have hone : ∀ u ∈ inner2, u.oneCell' = true := by
      rw [e2]
      intro u hu
      obtain ⟨x, _, rfl⟩ := List.mem_map.1 hu
      rfl
    have hnews : ∀ j u, inner2[j]? = some u → W.cell? (a2.add j) = some u := by
      intro j u hu
      have hlt : j < inner2.length := (List.getElem?_eq_some_iff.1 hu).1
      rcases ho2.2 with ⟨hv, _⟩ | ⟨g, cap, cur, hv, _⟩
      · cases hv
      · injection hv with ha _ _
        injection ha with ha
        subst ha
        have := ho2.cells (g := g) (by simp [Value.ownBlock]) j u hu
        simpa [Addr.add_lit] using this
    obtain ⟨v1, w1, hr, hown, hg, _, hat⟩ := run_append_own_at (P := Try.prog) W base 34 34 3 i _ 1 8 under_ints hi hz0 hz1 hz2 rfl (by decide) u1 l1.length inner1 ho1 a2 n2 c2 inner2
      (by have := hrep2.1; rw [hl2]; exact this) hnews hone (by simp only [maxLen]; omega) (by omega) hb
    have e1 := hcells l1 inner1 _ _ hrep1
    refine ⟨v1, w1, hr, ⟨fun _ _ => trivial, inner1 ++ inner2, by rw [List.length_append, ← hl2]; exact hown, ?_⟩, hg⟩
    rw [e1, e2, ← List.map_append]
    refine ⟨by rw [List.length_map]; exact (Nat.mul_one _).symm, fun j x hj => ?_⟩
    show (((l1 ++ l2).map (Value.int .i64)).drop (j * 1)).take 1 = [Value.int .i64 x]
    rw [Nat.mul_one]
    have hjl := (List.getElem?_eq_some_iff.1 hj).1
    rw [List.drop_eq_getElem_cons (by rw [List.length_map]; exact hjl), List.take_succ_cons, List.take_zero, List.getElem_map]
    congr 2
    have := (List.getElem?_eq_some_iff.1 hj).2
    exact this
end Go.Proofs.Ytnniljcmjcjleaa
