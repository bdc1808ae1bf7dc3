/- A row of timers whose slice may end ahead of its block: read, written, appended to. -/
import Derived.Test.YtnniljcmjcjleaaTwo
namespace Go.Proofs.Ytnniljcmjcjleaa
open Go.RowKit Go.Proofs.Ytnniljcmjcjleaa.QA Go.Proofs.YtnniljcmjcjleaaW.PrintWords Go.Proofs.YtnniljcmjcjleaaW.PrintLast Go.Proofs.YtnniljcmjcjleaaW.PrintMore
set_option linter.unusedVariables false
set_option linter.unusedSimpArgs false

def flat (l : List Tm) : List Value := l.flatMap fun t => [.int .i64 t.1, .float .f64 t.2]
theorem flat_length : ∀ l : List Tm, (flat l).length = l.length * 2
  | [] => rfl
  | t :: l => by
    have := flat_length l
    show (_ :: _ :: flat l).length = _
    simp only [List.length_cons]
    omega
theorem flat_append (a b : List Tm) : flat (a ++ b) = flat a ++ flat b := by unfold flat; rw [List.flatMap_append]
theorem flat_get : ∀ (l : List Tm) (i : Nat) (h : i < l.length), (flat l)[i * 2]? = some (.int .i64 l[i].1) ∧ (flat l)[i * 2 + 1]? = some (.float .f64 l[i].2)
  | t :: l, 0, _ => ⟨rfl, rfl⟩
  | t :: l, i + 1, h => by
    have ih := flat_get l i (by simpa using h)
    have e : flat (t :: l) = Value.int .i64 t.1 :: Value.float .f64 t.2 :: flat l := rfl
    rw [e, show (i + 1) * 2 = i * 2 + 1 + 1 by omega]
    exact ih
theorem flat_one (l : List Tm) : ∀ u ∈ flat l, u.oneCell' = true := by
  intro u hu
  obtain ⟨t, _, h⟩ := List.mem_flatMap.1 hu
  rcases List.mem_cons.1 h with h | h
  · rw [h]; rfl
  · rw [List.mem_singleton.1 h]; rfl
theorem flat_take (l : List Tm) (i : Nat) : (flat l).take (i * 2) = flat (l.take i) := by
  by_cases h : i ≤ l.length
  · conv => lhs; rw [← List.take_append_drop i l, flat_append]
    rw [List.take_left' (by rw [flat_length, List.length_take, Nat.min_eq_left h])]
  · rw [List.take_of_length_le (by rw [flat_length]; omega), List.take_of_length_le (by omega)]
theorem flat_drop (l : List Tm) (i : Nat) : (flat l).drop (i * 2) = flat (l.drop i) := by
  by_cases h : i ≤ l.length
  · conv => lhs; rw [← List.take_append_drop i l, flat_append]
    rw [List.drop_left' (by rw [flat_length, List.length_take, Nat.min_eq_left h])]
  · rw [List.drop_eq_nil_of_le (by rw [flat_length]; omega), List.drop_eq_nil_of_le (by omega)]
    rfl
theorem flat_set (l : List Tm) (i : Nat) (x : Tm) (h : i < l.length) : flat (l.set i x) = (flat l).take (i * 2) ++ [.int .i64 x.1, .float .f64 x.2] ++ (flat l).drop (i * 2 + 2) := by
  rw [List.set_eq_take_append_cons_drop, if_pos h, flat_append, flat_take, show i * 2 + 2 = (i + 1) * 2 by omega, flat_drop]
  show flat (l.take i) ++ (Value.int .i64 x.1 :: Value.float .f64 x.2 :: flat (l.drop (i + 1))) = _
  simp

/-- The row. -/
def LR (w : World) (v : Value) (l : List Tm) : Prop :=
  (l = [] ∧ v = .slice none 0 0) ∨ ∃ g c cur, v = .slice (some ⟨g, 0, none⟩) l.length c ∧ l.length ≤ c ∧ c * 2 ≤ cur.size ∧ w.heap[g]? = some (.cells cur 70 (0, 0)) ∧ cur.toList.take (l.length * 2) = flat l
theorem LR.nil (w : World) : LR w (.slice none 0 0) [] := .inl ⟨rfl, rfl⟩
theorem LR.slice {w : World} {v : Value} {l : List Tm} (h : LR w v l) : ∃ A c, v = .slice A l.length c ∧ l.length ≤ c := by
  rcases h with ⟨rfl, rfl⟩ | ⟨g, c, cur, rfl, hc, _⟩
  · exact ⟨_, _, rfl, Nat.le_refl _⟩
  · exact ⟨_, _, rfl, hc⟩
theorem LR.typed {w : World} {v : Value} {l : List Tm} (h : LR w v l) (k : Nat) (hk : own v k) : ∃ cells, w.heap[k]? = some (.cells cells 70 (0, 0)) := by
  rcases h with ⟨rfl, rfl⟩ | ⟨g, c, cur, rfl, _, _, hb, _⟩
  · cases hk
  · have : some k = some g := hk
    injection this with this
    subst this
    exact ⟨cur, hb⟩
theorem LR.lt {w : World} {v : Value} {l : List Tm} (h : LR w v l) (k : Nat) (hk : own v k) : k < w.heap.size := by
  obtain ⟨cells, hc⟩ := h.typed k hk
  exact blk_lt hc
theorem LR.keep {w w1 : World} {v : Value} {l : List Tm} (h : LR w v l) (hk : ∀ k, own v k → w1.heap[k]? = w.heap[k]?) : LR w1 v l := by
  rcases h with ⟨rfl, rfl⟩ | ⟨g, c, cur, rfl, h1, h2, hb, h3⟩
  · exact .inl ⟨rfl, rfl⟩
  · exact .inr ⟨g, c, cur, rfl, h1, h2, (hk g rfl).trans hb, h3⟩
theorem LR.below {w w1 : World} {v : Value} {l : List Tm} (h : LR w v l) (hb : Below w.heap.size w w1) : LR w1 v l := h.keep (fun k hk => hb.block k (h.lt k hk))
theorem LR.get {w : World} {A : Option Addr} {n c : Nat} {l : List Tm} (h : LR w (.slice A n c) l) (i : Nat) (hi : i < l.length) :
    ∃ g, A = some ⟨g, 0, none⟩ ∧ n = l.length ∧ n ≤ c ∧ w.cell? ⟨g, i * 2, none⟩ = some (.int .i64 l[i].1) ∧ w.cell? ⟨g, i * 2 + 1, none⟩ = some (.float .f64 l[i].2) ∧ ∀ j, w.frozen? ⟨g, j, none⟩ = false := by
  rcases h with ⟨rfl, hv⟩ | ⟨g, c', cur, hv, h1, h2, hb, h3⟩
  · simp at hi
  · injection hv with ha hn hc
    subst ha; subst hn; subst hc
    obtain ⟨f1, f2⟩ := flat_get l i hi
    have hl : cur.toList.length = cur.size := Array.length_toList
    refine ⟨g, rfl, rfl, h1, ?_, ?_, fun j => blk_frozen hb _⟩
    · rw [blk_cell hb, ← f1, ← h3, List.getElem?_take, if_pos (by omega), Array.getElem?_toList]
    · rw [blk_cell hb, ← f2, ← h3, List.getElem?_take, if_pos (by omega), Array.getElem?_toList]
theorem LR.set {w : World} {g n c : Nat} {l : List Tm} (h : LR w (.slice (some ⟨g, 0, none⟩) n c) l) (i : Nat) (hi : i < l.length) (x : Tm) :
    LR ((w.setCell ⟨g, i * 2, none⟩ (.int .i64 x.1)).setCell ⟨g, i * 2 + 1, none⟩ (.float .f64 x.2)) (.slice (some ⟨g, 0, none⟩) n c) (l.set i x) ∧
    w.grownBy ((w.setCell ⟨g, i * 2, none⟩ (.int .i64 x.1)).setCell ⟨g, i * 2 + 1, none⟩ (.float .f64 x.2)) (some g) := by
  rcases h with ⟨_, hv⟩ | ⟨g', c', cur, hv, h1, h2, hb, h3⟩
  · cases hv
  · injection hv with ha hn hc
    injection ha with ha
    injection ha with hg
    subst hg; subst hn; subst hc
    have hl : cur.toList.length = cur.size := Array.length_toList
    obtain ⟨cur', b1, b2, b3⟩ := setCells_row (e := 70) [.int .i64 x.1, .float .f64 x.2] (i * 2) w cur hb (by simp; omega)
    obtain ⟨s1, s2, s3, s4⟩ := setCells_same g [.int .i64 x.1, .float .f64 x.2] (i * 2) w
    refine ⟨.inr ⟨g, c, cur', by rw [List.length_set], by rw [List.length_set]; exact h1, by rw [b2]; exact h2, b1, ?_⟩, ⟨s1, s2, s3, Nat.le_of_eq s4.symm, fun k hk hne => setCells_far [.int .i64 x.1, .float .f64 x.2] (i * 2) k (fun he => hne (by rw [he]))⟩⟩
    rw [List.length_set, b3, flat_set l i x hi, ← h3]
    apply List.ext_getElem?
    intro j
    simp only [List.getElem?_take, List.getElem?_append, List.length_take, List.length_append, List.length_cons, List.length_nil, List.getElem?_drop, List.length_drop]
    rcases Nat.lt_or_ge j (i * 2) with hj | hj
    · rw [if_pos (by omega), if_pos (by omega), if_pos (by omega), if_pos (by omega), if_pos (by omega), if_pos (by omega), if_pos (by omega), if_pos (by omega)]
    · rcases Nat.lt_or_ge j (i * 2 + 2) with hj2 | hj2
      · rw [if_pos (by omega), if_pos (by omega), if_neg (by omega), if_pos (by omega), if_neg (by omega)]
        congr 1
        omega
      · rcases Nat.lt_or_ge j (l.length * 2) with hj3 | hj3
        · rw [if_pos (by omega), if_neg (by omega), if_neg (by omega)]
          rw [if_pos (by omega)]
          congr 1
          omega
        · rw [if_neg (by omega), if_neg (by omega), if_neg (by omega)]
theorem LR.take {w : World} {A : Option Addr} {n c : Nat} {l : List Tm} (h : LR w (.slice A n c) l) (i : Nat) (hi : i ≤ l.length) : LR w (.slice A i i) (l.take i) := by
  have hm : (l.take i).length = i := by rw [List.length_take, Nat.min_eq_left hi]
  rcases h with ⟨rfl, hv⟩ | ⟨g, c', cur, hv, h1, h2, hb, h3⟩
  · injection hv with ha _ _
    subst ha
    have : i = 0 := by simpa using hi
    subst this
    exact .inl ⟨rfl, rfl⟩
  · injection hv with ha hn hc
    subst ha; subst hn; subst hc
    refine .inr ⟨g, i, cur, by rw [hm], by rw [hm]; exact Nat.le_refl _, by omega, hb, ?_⟩
    rw [hm, ← flat_take, ← h3, List.take_take, Nat.min_eq_left (by omega)]
theorem under_tims : Try.prog.underlying 39 = some (.slice 70) := by kernel_rfl
theorem info_tim : (Try.prog.info? 70).map (fun i => (i.zero, i.size, i.bytes)) = some (some (.agg #[.int .i64 0, .float .f64 0]), 2, 16) := by kernel_rfl
theorem append_empty2 (a : Addr) (c : Nat) (W : World) : (Builtin.append_ #[39, 39] 39 #[.slice none 0 0, .slice (some a) 0 c]).run Try.prog W = .ok (.slice none 0 0) W := by kernel_rfl
theorem nextcap_le (n c : Nat) (hn : n ≤ 100000) (hc : c < n) : Builtin.nextslicecap n c * 16 ≤ 281474976710656 := by
  have := nextslicecap_le hc
  omega
/-- append(v, l2...). -/
theorem LR.append {W : World} {v : Value} {l : List Tm} (h : LR W v l) (a2 : Addr) (m c2 : Nat) (l2 : List Tm) (hm : l2.length = m) (hcells : ∀ j u, (flat l2)[j]? = some u → W.cell? (a2.add j) = some u) (hl : l.length + m ≤ 100000) :
    ∃ v1 w1, (Builtin.append_ #[39, 39] 39 #[v, .slice (some a2) m c2]).run Try.prog W = .ok v1 w1 ∧ LR w1 v1 (l ++ l2) ∧ W.grownBy w1 v.ownBlock ∧ (v1.ownBlock = v.ownBlock ∨ ∃ k, v1.ownBlock = some k ∧ W.heap.size ≤ k) := by
  obtain ⟨i, hi, hzz⟩ := Option.map_eq_some_iff.1 info_tim
  simp only [Prod.mk.injEq] at hzz
  obtain ⟨hz0, hz1, hz2⟩ := hzz
  have hs : Src Try.prog i.size 39 (.slice (some a2) m c2) m (flat l2) W := Src.ofSlice W (e' := 70) under_tims a2 m c2 (flat l2) (by rw [flat_length, hm, hz1]) hcells (flat_one l2)
  have grows : ∀ (base : Option Addr) (c : Nat), (Builtin.firstCells i.size l.length (.slice base l.length c)).run Try.prog W.drew = .ok (flat l).toArray W.drew → c < l.length + m → v = .slice base l.length c →
      ∃ v1 w1, (Builtin.append_ #[39, 39] 39 #[v, .slice (some a2) m c2]).run Try.prog W = .ok v1 w1 ∧ LR w1 v1 (l ++ l2) ∧ W.grownBy w1 v.ownBlock ∧ (v1.ownBlock = v.ownBlock ∨ ∃ k, v1.ownBlock = some k ∧ W.heap.size ≤ k) := by
    intro base c hold hg hv
    subst hv
    have hrun := run_append_grow_src (P := Try.prog) W 39 39 39 70 i _ under_tims hi hz0 base l.length c (flat l) hold _ m (flat l2) hs hg (by omega) (by rw [hz2]; exact nextcap_le _ _ (by omega) hg)
    have hge := grownCap_ge W (l.length + m) c 70
    have hlen : (l ++ l2).length = l.length + m := by rw [List.length_append, hm]
    refine ⟨_, _, hrun, .inr ⟨W.heap.size, _, _, by rw [hlen], by rw [hlen]; exact hge, ?_, heap_alloc_new W.drew _, ?_⟩, ⟨rfl, rfl, rfl, by simp, fun k hk _ => heap_alloc_old W.drew _ hk⟩, .inr ⟨W.heap.size, rfl, Nat.le_refl _⟩⟩
    · simp only [Array.size_append, List.size_toArray, size_zeroCells, List.length_append, flat_length, hm]
      show _ ≤ (l.length * 2 + m * 2) + (grownCap W (l.length + m) c 70 - (l.length + m)) * 2
      omega
    · rw [hlen, Array.toList_append, flat_append]
      exact List.take_left' (by simp only [List.length_append, flat_length, hm]; omega)
  rcases h with ⟨rfl, rfl⟩ | ⟨g, c, cur, rfl, h1, h2, hb, h3⟩
  · rcases Nat.eq_zero_or_pos m with h0 | h0
    · subst h0
      have : l2 = [] := List.eq_nil_of_length_eq_zero hm
      subst this
      exact ⟨_, _, append_empty2 a2 c2 W, LR.nil W, ⟨rfl, rfl, rfl, Nat.le_refl _, fun _ _ _ => rfl⟩, .inl rfl⟩
    · exact grows none 0 (run_firstCells_none W.drew i.size 0 0 0) (by simpa using h0) rfl
  · have hl2 : cur.toList.length = cur.size := Array.length_toList
    have hcur : ∀ j u, (flat l)[j]? = some u → W.cell? (Addr.add ⟨g, 0, none⟩ j) = some u := by
      intro j u hu
      have hj := (List.getElem?_eq_some_iff.1 hu).1
      rw [flat_length] at hj
      rw [← h3, List.getElem?_take, if_pos hj, Array.getElem?_toList] at hu
      rw [show (Addr.add ⟨g, 0, none⟩ j : Addr) = ⟨g, j, none⟩ by simp [Addr.add_lit], blk_cell hb, hu]
    rcases Nat.lt_or_ge c (l.length + m) with hg | hg
    · exact grows (some ⟨g, 0, none⟩) c (run_firstCells_some W.drew i.size l.length ⟨g, 0, none⟩ l.length c (flat l) (by rw [flat_length, hz1]) (fun j u hu => by have := hcur j u hu; simpa using this)) hg rfl
    · have hrun := run_append_room_src (P := Try.prog) W 39 39 39 70 i under_tims hi g 0 l.length c _ m (flat l2) hs hg
        (fun j hj => by rw [flat_length, hm] at hj; rw [hz1, blk_cell hb, Array.getElem?_eq_getElem (by omega)]; rfl) (fun j hj => blk_frozen hb _)
      rw [hz1, Nat.zero_add] at hrun
      obtain ⟨cur', b1, b2, b3⟩ := setCells_row (e := 70) (flat l2) (l.length * 2) W cur hb (by rw [flat_length, hm]; omega)
      obtain ⟨s1, s2, s3, s4⟩ := setCells_same g (flat l2) (l.length * 2) W
      have hlen : (l ++ l2).length = l.length + m := by rw [List.length_append, hm]
      refine ⟨_, _, hrun, .inr ⟨g, c, cur', by rw [hlen], by rw [hlen]; exact hg, by rw [b2]; exact h2, b1, ?_⟩, ⟨s1, s2, s3, Nat.le_of_eq s4.symm, fun k hk hne => setCells_far (flat l2) (l.length * 2) k (fun he => hne (by rw [he]; rfl))⟩, .inl rfl⟩
      rw [hlen, b3, flat_append, ← h3]
      refine List.take_left' ?_
      simp only [List.length_append, List.length_take, flat_length, hm]
      omega
end Go.Proofs.Ytnniljcmjcjleaa
