/- The heap and the reference's list: each call leaves the list that the heap stands for. Plain Lean. -/
import Derived.Test.YtnniljcmjcjleaaRefA
namespace Go.Proofs.Ytnniljcmjcjleaa
open Go.RowKit Go.Proofs.Ytnniljcmjcjleaa.QA Go.Proofs.YtnniljcmjcjleaaW.PrintWords Go.Proofs.YtnniljcmjcjleaaW.PrintLast Go.Proofs.YtnniljcmjcjleaaW.PrintMore
set_option linter.unusedVariables false
set_option linter.unusedSimpArgs false

/-- The heap stands for the list; numbers are each once, and none is above the last. -/
structure Rel (h S : List Tm) (last : Int) : Prop where
  heap : Heap h
  srt : sortT h = S
  nod : (S.map (·.1)).Nodup
  ids : ∀ t ∈ S, t.1 ≤ last
  len : h.length ≤ 256
namespace Rel
variable {h S : List Tm} {last : Int}
theorem nil : Rel [] [] 0 := ⟨Heap.nil, by simp [sortT], List.Pairwise.nil, fun t ht => (by cases ht), by decide⟩
theorem perm (r : Rel h S last) : S.Perm h := by rw [← r.srt]; exact sortT_perm r.heap.small
theorem small (r : Rel h S last) : Small S := r.heap.small.perm r.perm
theorem sorted (r : Rel h S last) : Sorted S := by rw [← r.srt]; exact sortT_sorted h
theorem length (r : Rel h S last) : S.length = h.length := r.perm.length_eq
theorem mono (r : Rel h S last) {last1 : Int} (hl : last ≤ last1) : Rel h S last1 := ⟨r.heap, r.srt, r.nod, fun t ht => Int.le_trans (r.ids t ht) hl, r.len⟩
end Rel
theorem drop_later {S : List Tm} {s : Nat} (hs : Sorted S) : ∀ y ∈ S.drop (posR S s), s < y.2 := by
  intro y hy
  obtain ⟨i, hi, rfl⟩ := List.getElem_of_mem hy
  rw [List.length_drop] at hi
  rw [List.getElem_drop]
  have h1 := posR_ge S s (by omega)
  rcases Nat.eq_zero_or_pos i with h0 | h0
  · subst h0
    simpa using h1
  · unfold Sorted at hs
    have h2 := (List.pairwise_iff_getElem.1 hs) (posR S s) (posR S s + i) (by omega) (by omega) (by omega)
    unfold ltP at h2
    omega
theorem take_sooner {S : List Tm} {s : Nat} : ∀ y ∈ S.take (posR S s), y.2 ≤ s := by
  intro y hy
  obtain ⟨i, hi, rfl⟩ := List.getElem_of_mem hy
  rw [List.length_take] at hi
  rw [List.getElem_take]
  exact posR_lt S s i (by omega) (by omega)
theorem ins_perm (S : List Tm) (x : Tm) : (insR S x).Perm (x :: S) := by
  unfold insR
  have := List.perm_middle (a := x) (l₁ := S.take (posR S x.2)) (l₂ := S.drop (posR S x.2))
  rw [List.take_append_drop] at this
  exact this
theorem ins_sorted {S : List Tm} {x : Tm} (hs : Sorted S) (hid : ∀ t ∈ S, t.1 < x.1) : Sorted (insR S x) := by
  unfold insR Sorted
  have h1 : (S.take (posR S x.2) ++ S.drop (posR S x.2)).Pairwise fun a b => ¬ ltP b a := by rw [List.take_append_drop]; exact hs
  rw [List.pairwise_append] at h1
  obtain ⟨p1, p2, p3⟩ := h1
  rw [List.pairwise_append, List.pairwise_cons]
  refine ⟨p1, ⟨fun y hy => ?_, p2⟩, fun a ha b hb => ?_⟩
  · have := drop_later hs y hy
    unfold ltP
    omega
  · rcases List.mem_cons.1 hb with rfl | hb
    · have h2 := take_sooner a ha
      have h3 := hid a (List.mem_of_mem_take ha)
      unfold ltP
      omega
    · exact p3 a ha b hb
theorem Rel.push {h S : List Tm} {last : Int} (r : Rel h S last) (s : Nat) (hs : s ≤ 9218868437227405312) (hl : h.length < 256) : Rel (pushP h (last + 1, s)) (insR S (last + 1, s)) (last + 1) := by
  obtain ⟨ph, pp⟩ := push_heap (x := ((last + 1, s) : Tm)) r.heap hs
  have hp : (insR S (last + 1, s)).Perm ((last + 1, s) :: S) := ins_perm S _
  refine ⟨ph, ?_, ?_, fun t ht => ?_, by rw [pp.length_eq, List.length_cons]; omega⟩
  · refine sorted_unique (sortT_sorted _) (ins_sorted r.sorted (fun t ht => by have := r.ids t ht; show t.1 < last + 1; omega)) ?_
    exact (sortT_perm ph.small).trans (pp.trans ((List.Perm.cons _ r.perm.symm).trans hp.symm))
  · refine (hp.map (·.1)).nodup_iff.2 ?_
    rw [List.map_cons, List.nodup_cons]
    refine ⟨fun hm => ?_, r.nod⟩
    obtain ⟨t, ht, he⟩ := List.mem_map.1 hm
    have := r.ids t ht
    have he2 : t.1 = last + 1 := he
    omega
  · rcases List.mem_cons.1 (hp.mem_iff.1 ht) with rfl | ht
    · exact Int.le_refl _
    · have := r.ids t ht
      omega
theorem Rel.go {h S : List Tm} {last : Int} (r : Rel h S last) (t : Nat) : (goL t h.length h).1 = (goS t S).map (·.1) ∧ Rel (goL t h.length h).2 (goR t S) last := by
  obtain ⟨h1, h2, h3⟩ := goL_sorted t h.length h r.heap rfl
  rw [r.srt] at h1 h3
  refine ⟨h1, h2, h3, ?_, fun x hx => r.ids x (goR_sub t S x hx), ?_⟩
  · exact List.Pairwise.sublist ((List.dropWhile_sublist _).map _) r.nod
  · have e1 := sortT_length (goL t h.length h).2
    have e2 := goR_length t S
    have e3 := r.length
    have e4 := r.len
    rw [h3] at e1
    omega
theorem Rel.next {h S : List Tm} {last : Int} (r : Rel h S last) : nextP h = nextP S := by
  rcases Nat.eq_zero_or_pos h.length with h0 | h0
  · have : h = [] := List.eq_nil_of_length_eq_zero h0
    subst this
    have : S = [] := by rw [← r.srt]; simp [sortT]
    rw [this]
  · have h1 := sort_cons r.heap h0
    rw [r.srt] at h1
    cases h with
    | nil => simp at h0
    | cons t h =>
      have e : at_ (t :: h) 0 = t := rfl
      rw [h1, e]
      rfl
theorem idx_none (id : Int) : ∀ (l : List Tm) (j : Nat), idxP id l j < 0 ↔ ∀ t ∈ l, t.1 ≠ id
  | [], j => ⟨fun _ t ht => (by cases ht), fun _ => by rw [idxP]; decide⟩
  | t :: l, j => by
    rw [idxP]
    by_cases h : t.1 = id
    · rw [if_pos h]
      exact ⟨fun hn => by omega, fun hn => absurd h (hn t (List.mem_cons_self ..))⟩
    · rw [if_neg h, idx_none id l (j + 1)]
      exact ⟨fun hn x hx => by rcases List.mem_cons.1 hx with rfl | hx; exact h; exact hn x hx, fun hn x hx => hn x (List.mem_cons_of_mem _ hx)⟩
theorem idx_some (id : Int) : ∀ (l : List Tm) (j : Nat), ¬ idxP id l j < 0 → ∃ k, ∃ hk : k < l.length, idxP id l j = ((j + k : Nat) : Int) ∧ l[k].1 = id
  | [], j, h => by rw [idxP] at h; exact absurd (by decide) h
  | t :: l, j, h => by
    rw [idxP] at h ⊢
    by_cases hid : t.1 = id
    · rw [if_pos hid]
      exact ⟨0, by simp, rfl, hid⟩
    · rw [if_neg hid] at h ⊢
      obtain ⟨k, hk, he, hi⟩ := idx_some id l (j + 1) h
      exact ⟨k + 1, by simpa using hk, by rw [he]; congr 1; omega, by simpa using hi⟩
theorem nod_inj {S : List Tm} (hn : (S.map (·.1)).Nodup) {x y : Tm} (hx : x ∈ S) (hy : y ∈ S) (h : x.1 = y.1) : x = y := by
  obtain ⟨i, hi, rfl⟩ := List.getElem_of_mem hx
  obtain ⟨j, hj, rfl⟩ := List.getElem_of_mem hy
  unfold List.Nodup at hn
  rw [List.pairwise_map] at hn
  have hp := List.pairwise_iff_getElem.1 hn
  rcases Nat.lt_trichotomy i j with hlt | heq | hlt
  · exact absurd h (hp i j hi hj hlt)
  · subst heq; rfl
  · exact absurd h.symm (hp j i hj hi hlt)
theorem Rel.cancel {h S : List Tm} {last : Int} (r : Rel h S last) (id : Int) : (idxP id h 0 < 0 ↔ idxP id S 0 < 0) ∧ (¬ idxP id h 0 < 0 → Rel ((removeP h (idxP id h 0).toNat).take (h.length - 1)) (S.eraseIdx (idxP id S 0).toNat) last) := by
  have h1 : idxP id h 0 < 0 ↔ idxP id S 0 < 0 := by
    rw [idx_none, idx_none]
    exact ⟨fun hn t ht => hn t (r.perm.mem_iff.1 ht), fun hn t ht => hn t (r.perm.mem_iff.2 ht)⟩
  refine ⟨h1, fun hn => ?_⟩
  obtain ⟨i, hi, hie, hid⟩ := idx_some id h 0 hn
  obtain ⟨j, hj, hje, hjd⟩ := idx_some id S 0 (fun h2 => hn (h1.2 h2))
  rw [hie, hje, Int.toNat_natCast, Int.toNat_natCast, Nat.zero_add, Nat.zero_add]
  obtain ⟨rh, rp⟩ := remove_heap r.heap i hi
  rw [at_eq h i hi] at rp
  have heq : h[i] = S[j] := nod_inj r.nod (r.perm.mem_iff.2 (List.getElem_mem hi)) (List.getElem_mem hj) (hid.trans hjd.symm)
  have hsp : (S[j] :: S.eraseIdx j).Perm S := by
    rw [List.eraseIdx_eq_take_drop_succ]
    have h2 := List.perm_middle (a := S[j]) (l₁ := S.take j) (l₂ := S.drop (j + 1))
    have h3 : S.take j ++ S[j] :: S.drop (j + 1) = S := by rw [← List.drop_eq_getElem_cons hj, List.take_append_drop]
    rw [h3] at h2
    exact h2.symm
  have hrest : ((removeP h i).take (h.length - 1)).Perm (S.eraseIdx j) := by
    have h2 : (h[i] :: (removeP h i).take (h.length - 1)).Perm (S[j] :: S.eraseIdx j) := rp.symm.trans (r.perm.symm.trans hsp.symm)
    rw [heq] at h2
    exact h2.cons_inv
  have hsub : (S.eraseIdx j).Sublist S := List.eraseIdx_sublist S j
  refine ⟨rh, ?_, List.Pairwise.sublist (hsub.map _) r.nod, fun t ht => r.ids t (hsub.subset ht), ?_⟩
  · exact sorted_unique (sortT_sorted _) (List.Pairwise.sublist hsub r.sorted) ((sortT_perm rh.small).trans hrest)
  · rw [hrest.length_eq]
    have e1 := hsub.length_le
    have e2 := r.length
    have e3 := r.len
    omega
/-- Both clocks, made since w. -/
structure Both (w wi : World) (g r : Nat) (now now2 : Nat) (last N : Int) (v vr : Value) (h S : List Tm) : Prop where
  a : Mine w wi g true now last v h
  b : RAt wi r now2 vr S N
  base : w.heap.size ≤ r
  row : ∀ k, own vr k → w.heap.size ≤ k
  apart : ∀ k, own v k → ¬ own vr k
namespace Both
variable {w wi wj : World} {g r now now2 now1 : Nat} {last N last1 N1 : Int} {v vr : Value} {h S h1 S1 : List Tm}
theorem ne (x : Both w wi g r now now2 last N v vr h S) : r ≠ g := fun he => by
  have h1 := x.a.at_.blk
  rw [← he, x.b.blk] at h1
  injection h1 with h1
  injection h1 with _ ht
  cases ht
theorem g_not (x : Both w wi g r now now2 last N v vr h S) : ¬ own vr g := fun he => by
  obtain ⟨cells, hc⟩ := x.b.row.typed g he
  rw [x.a.at_.blk] at hc
  injection hc with hc
  injection hc with _ ht
  cases ht
theorem r_not (x : Both w wi g r now now2 last N v vr h S) : ¬ own v r := fun he => by
  obtain ⟨cells, hc⟩ := Kd.R_typed x.a.at_.row r he.symm
  rw [x.b.blk] at hc
  injection hc with hc
  injection hc with _ ht
  cases ht
theorem step (x : Both w wi g r now now2 last N v vr h S) (hb : Below wi.heap.size wi wj) : Both w wj g r now now2 last N v vr h S := ⟨x.a.step hb, x.b.below hb, x.base, x.row, x.apart⟩
theorem moveA (x : Both w wi g r now now2 last N v vr h S) (hp : MovePost wi g true now1 last1 v h1 wj) : ∃ v1, Both w wj g r now1 now2 last1 N v1 vr h1 S := by
  obtain ⟨v1, hc, hh, hat⟩ := hp
  have hb : RAt wj r now2 vr S N := x.b.keep (fun k hk hlt => hh.block k hlt (fun hs => by
    rcases hk with rfl | hk
    · rcases hs with rfl | hs
      · exact x.ne rfl
      · exact x.r_not hs
    · rcases hs with rfl | hs
      · exact x.g_not hk
      · exact x.apart k hs hk))
  have hbw : Below w.heap.size w wj := x.a.below.trans (hh.below _ x.a.below.size (fun k hk => by
    rcases hk with rfl | hk
    · exact x.a.base
    · exact x.a.row k hk))
  refine ⟨v1, ⟨hc, hbw, x.a.base, fun k hk => ?_⟩, hb, x.base, x.row, fun k hk h2 => ?_⟩
  · rcases hat with he | ⟨k', he, hk'⟩
    · exact x.a.row k (hk.trans he)
    · have : some k = some k' := hk.trans he
      injection this with this
      have := x.a.below.size
      omega
  · rcases hat with he | ⟨k', he, hk'⟩
    · exact x.apart k (hk.trans he) h2
    · have : some k = some k' := hk.trans he
      injection this with this
      have := x.b.row.lt k h2
      omega
theorem moveR (x : Both w wi g r now now2 last N v vr h S) (hp : MoveR wi r now1 vr S1 N1 wj) : ∃ vr1, Both w wj g r now now1 last N1 v vr1 h S1 := by
  obtain ⟨vr1, hc, hh, hat⟩ := hp
  have hrow := x.a.at_.row
  have ha : CAt wj g true now last v h := by
    refine ⟨(hh.block g (blk_lt x.a.at_.blk) (fun hs => ?_)).trans x.a.at_.blk, ?_⟩
    · rcases hs with he | hs
      · exact x.ne he.symm
      · exact x.g_not hs
    · have h1 := Kd.R_tight (by rfl) hrow
      refine Kd.R_mono (Kd.R_step h1 (fun k hk hlt => hh.block k hlt (fun hs => ?_))) (fun _ _ => trivial)
      rcases hs with rfl | hs
      · exact x.r_not hk
      · exact x.apart k hk hs
  have hbw : Below w.heap.size w wj := x.a.below.trans (hh.below _ x.a.below.size (fun k hk => by
    rcases hk with rfl | hk
    · exact x.base
    · exact x.row k hk))
  refine ⟨vr1, ⟨ha, hbw, x.a.base, x.a.row⟩, hc, x.base, fun k hk => ?_, fun k hk h2 => ?_⟩
  · rcases hat k hk with h | h
    · exact x.row k h
    · have := x.a.below.size
      omega
  · rcases hat k h2 with h3 | h3
    · exact x.apart k hk h3
    · have := Kd.R_lt hrow k hk.symm
      omega
end Both
end Go.Proofs.Ytnniljcmjcjleaa
