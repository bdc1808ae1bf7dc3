/- The heap's laws, plain: what up and down leave is a heap of the same timers. -/
import Derived.Test.YtnniljcmjcjleaaTims
import Derived.Test.YtnniljcmjcjleaaCan
namespace Go.Proofs.Ytnniljcmjcjleaa
set_option linter.unusedVariables false
set_option linter.unusedSimpArgs false

def ltP (a b : Tm) : Prop := a.2 < b.2 ∨ (a.2 = b.2 ∧ a.1 < b.1)
instance (a b : Tm) : Decidable (ltP a b) := by unfold ltP; infer_instance
theorem lex_neg (a b : Tm) : lexP a b < 0 ↔ ltP a b := by
  unfold lexP ltP
  split <;> (try split) <;> (try split) <;> (try split) <;> omega
theorem less_lt (a b : Tm) (ha : a.2 ≤ Flo.INF) (hb : b.2 ≤ Flo.INF) : lessT a b = decide (ltP a b) := by
  rw [lessT, ord_lex a b ha hb]
  exact decide_eq_decide.2 (lex_neg a b)
theorem lt_asymm {a b : Tm} (h : ltP a b) : ¬ ltP b a := by unfold ltP at *; omega
theorem lt_trans {a b c : Tm} (h : ltP a b) (k : ltP b c) : ltP a c := by unfold ltP at *; omega
theorem nlt_trans {a b c : Tm} (h : ¬ ltP a b) (k : ¬ ltP b c) : ¬ ltP a c := by unfold ltP at *; omega
theorem lt_total {a b : Tm} (h : ¬ ltP a b) (k : ¬ ltP b a) : a = b := by
  obtain ⟨a1, a2⟩ := a
  obtain ⟨b1, b2⟩ := b
  unfold ltP at *
  simp only at h k
  have e1 : a1 = b1 := by omega
  have e2 : a2 = b2 := by omega
  rw [e1, e2]

/-- Reading a place. -/
def at_ (l : List Tm) (i : Nat) : Tm := tm l (i : Int)
theorem at_eq (l : List Tm) (i : Nat) (h : i < l.length) : at_ l i = l[i] := by
  unfold at_ tm
  rw [Int.toNat_natCast, List.getD_eq_getElem?_getD, List.getElem?_eq_getElem h]
  rfl
theorem swap_get (l : List Tm) (i j k : Nat) (hi : i < l.length) (hj : j < l.length) (hk : k < l.length) :
    at_ (swapT l i j) k = if k = j then at_ l i else if k = i then at_ l j else at_ l k := by
  rw [at_eq _ _ (by rw [swapT_length]; exact hk)]
  unfold swapT
  rw [List.getElem_set]
  by_cases h1 : j = k
  · rw [if_pos h1, if_pos h1.symm]
    rfl
  · rw [if_neg h1, if_neg (fun h => h1 h.symm), List.getElem_set]
    by_cases h2 : i = k
    · rw [if_pos h2, if_pos h2.symm]
      rfl
    · rw [if_neg h2, if_neg (fun h => h2 h.symm), at_eq _ _ hk]

def par (i : Nat) : Nat := (i - 1) / 2
/-- A heap of the first n. -/
def HeapN (l : List Tm) (n : Nat) : Prop := ∀ i, 0 < i → i < n → ¬ ltP (at_ l i) (at_ l (par i))
/-- A heap but at j. -/
def UpAt (l : List Tm) (n j : Nat) : Prop :=
  (∀ i, 0 < i → i < n → i ≠ j → ¬ ltP (at_ l i) (at_ l (par i))) ∧ (0 < j → ∀ c, 0 < c → c < n → par c = j → ¬ ltP (at_ l c) (at_ l (par j)))
def Small (l : List Tm) : Prop := ∀ t ∈ l, t.2 ≤ Flo.INF
theorem Small.at_ {l : List Tm} (h : Small l) (i : Nat) (hi : i < l.length) : (at_ l i).2 ≤ Flo.INF := by
  rw [at_eq l i hi]
  exact h _ (List.getElem_mem hi)
theorem swap_perm (l : List Tm) (i j : Nat) (hi : i < l.length) (hj : j < l.length) : (swapT l i j).Perm l := by
  have e1 : tm l (i : Int) = l[i] := at_eq l i hi
  have e2 : tm l (j : Int) = l[j] := at_eq l j hj
  unfold swapT
  rw [e1, e2]
  exact List.set_set_perm hi hj
theorem Small.perm {l m : List Tm} (h : Small l) (p : m.Perm l) : Small m := fun t ht => h t (p.mem_iff.1 ht)
theorem up_step {l : List Tm} {n j : Nat} (hn : n ≤ l.length) (hj : j + 1 < n) (h : UpAt l n (j + 1)) (hl : ltP (at_ l (j + 1)) (at_ l (j / 2))) : UpAt (swapT l (j / 2) (j + 1)) n (j / 2) := by
  have hp : par (j + 1) = j / 2 := rfl
  have g : ∀ k, k < n → at_ (swapT l (j / 2) (j + 1)) k = if k = j + 1 then at_ l (j / 2) else if k = j / 2 then at_ l (j + 1) else at_ l k := fun k hk => swap_get l (j / 2) (j + 1) k (by omega) (by omega) (by omega)
  obtain ⟨h1, h2⟩ := h
  have h2 := h2 (by omega)
  rw [hp] at h2
  refine ⟨fun i hi0 hin hne => ?_, fun hj0 c hc0 hcn hc => ?_⟩
  · rw [g i hin, g (par i) (by unfold par; omega)]
    by_cases hij : i = j + 1
    · subst hij
      rw [if_pos rfl, hp, if_neg (by omega), if_pos rfl]
      exact lt_asymm hl
    · rw [if_neg hij, if_neg hne]
      by_cases h3 : par i = j + 1
      · rw [if_pos h3]
        exact h2 i hi0 hin h3
      · rw [if_neg h3]
        by_cases h4 : par i = j / 2
        · rw [if_pos h4]
          have := h1 i hi0 hin hij
          rw [h4] at this
          exact fun hx => this (lt_trans hx hl)
        · rw [if_neg h4]
          exact h1 i hi0 hin hij
  · have hpp : ∀ m, 0 < m → m < n → m ≠ j + 1 → ¬ ltP (at_ l m) (at_ l (par m)) := h1
    have hq := hpp (j / 2) hj0 (by omega) (by omega)
    rw [g c hcn, g (par (j / 2)) (by unfold par; omega), if_neg (by unfold par; omega : ¬ par (j / 2) = j + 1), if_neg (by unfold par; omega : ¬ par (j / 2) = j / 2)]
    by_cases hc1 : c = j + 1
    · rw [if_pos hc1]
      exact hq
    · rw [if_neg hc1, if_neg (by unfold par at hc; omega)]
      have := h1 c hc0 hcn hc1
      rw [hc] at this
      exact nlt_trans this hq
theorem up_heap (n : Nat) : ∀ (j : Nat) (l : List Tm), n ≤ l.length → j < n → Small l → UpAt l n j → HeapN (upP l j) n ∧ (upP l j).Perm l := by
  intro j
  induction j using Nat.strongRecOn with
  | ind j ih =>
    intro l hn hj hs h
    cases j with
    | zero =>
      rw [upP]
      exact ⟨fun i h0 hi => h.1 i h0 hi (by omega), List.Perm.refl _⟩
    | succ j =>
      rw [upP]
      have e : lessT (tm l ((j + 1 : Nat) : Int)) (tm l ((j / 2 : Nat) : Int)) = decide (ltP (at_ l (j + 1)) (at_ l (j / 2))) := less_lt _ _ (hs.at_ (j + 1) (by omega)) (hs.at_ (j / 2) (by omega))
      rw [e]
      by_cases hl : ltP (at_ l (j + 1)) (at_ l (j / 2))
      · rw [if_pos (by simpa using hl)]
        have hp := swap_perm l (j / 2) (j + 1) (by omega) (by omega)
        obtain ⟨h1, h2⟩ := ih (j / 2) (by omega) (swapT l (j / 2) (j + 1)) (by rw [swapT_length]; exact hn) (by omega) (hs.perm hp) (up_step hn hj h hl)
        exact ⟨h1, h2.trans hp⟩
      · rw [if_neg (by simpa using hl)]
        refine ⟨fun i h0 hi => ?_, List.Perm.refl _⟩
        by_cases hij : i = j + 1
        · subst hij
          exact hl
        · exact h.1 i h0 hi hij

/-- A heap but at i and below it; i's children stand right to i's parent. -/
def DownAt (l : List Tm) (n i : Nat) : Prop :=
  (∀ c, 0 < c → c < n → par c ≠ i → c ≠ i → ¬ ltP (at_ l c) (at_ l (par c))) ∧ (0 < i → ∀ c, 0 < c → c < n → par c = i → ¬ ltP (at_ l c) (at_ l (par i)))
theorem child_par (l : List Tm) (n i : Nat) : par (childP l n i) = i := by
  unfold childP par
  split <;> omega
theorem child_lt (l : List Tm) (n i : Nat) (h : 2 * i + 1 < n) : childP l n i < n := by
  unfold childP
  split
  · rename_i h2
    exact h2.1
  · exact h
/-- The child that goes first is not behind the other one. -/
theorem child_first {l : List Tm} {n i : Nat} (hn : n ≤ l.length) (hs : Small l) (h : 2 * i + 1 < n) (c : Nat) (hc : c < n) (hp : par c = i) (h0 : 0 < c) : ¬ ltP (at_ l c) (at_ l (childP l n i)) := by
  have hcc : c = 2 * i + 1 ∨ c = 2 * i + 2 := by unfold par at hp; omega
  unfold childP
  by_cases h2 : 2 * i + 2 < n
  · have e : lessT (tm l ((2 * i + 2 : Nat) : Int)) (tm l ((2 * i + 1 : Nat) : Int)) = decide (ltP (at_ l (2 * i + 2)) (at_ l (2 * i + 1))) := less_lt _ _ (hs.at_ (2 * i + 2) (by omega)) (hs.at_ (2 * i + 1) (by omega))
    rw [e]
    by_cases h3 : ltP (at_ l (2 * i + 2)) (at_ l (2 * i + 1))
    · rw [if_pos ⟨h2, by simpa using h3⟩]
      rcases hcc with rfl | rfl
      · exact lt_asymm h3
      · exact fun h => lt_asymm h h
    · rw [if_neg (fun h => h3 (by simpa using h.2))]
      rcases hcc with rfl | rfl
      · exact fun h => lt_asymm h h
      · exact h3
  · rw [if_neg (fun h => h2 h.1)]
    rcases hcc with rfl | rfl
    · exact fun h => lt_asymm h h
    · omega
theorem down_step {l : List Tm} {n i : Nat} (hn : n ≤ l.length) (hs : Small l) (hc : 2 * i + 1 < n) (h : DownAt l n i) (hl : ltP (at_ l (childP l n i)) (at_ l i)) :
    DownAt (swapT l i (childP l n i)) n (childP l n i) ∧ (∀ c, c = i ∨ (par c ≠ childP l n i ∧ c ≠ childP l n i) → 0 < c → c < n → (0 < i → ¬ ltP (at_ l (childP l n i)) (at_ l (par i))) → ¬ ltP (at_ (swapT l i (childP l n i)) c) (at_ (swapT l i (childP l n i)) (par c))) := by
  obtain ⟨k, hk⟩ : ∃ k, k = childP l n i := ⟨_, rfl⟩
  have hkp : par k = i := by rw [hk]; exact child_par l n i
  have hkn : k < n := by rw [hk]; exact child_lt l n i hc
  have hki : i < k := by rw [hk]; exact childP_gt l n i
  have hfirst : ∀ c, c < n → par c = i → 0 < c → ¬ ltP (at_ l c) (at_ l k) := by rw [hk]; exact child_first hn hs hc
  rw [← hk] at hl ⊢
  have g : ∀ m, m < n → at_ (swapT l i k) m = if m = k then at_ l i else if m = i then at_ l k else at_ l m := fun m hm => swap_get l i k m (by omega) (by omega) (by omega)
  obtain ⟨h1, h2⟩ := h
  have hpar : ∀ c, 0 < c → c < n → par c < n := fun c _ _ => by unfold par; omega
  have key : ∀ c, 0 < c → c < n → par c ≠ k → c ≠ k → (c = i → 0 < i → ¬ ltP (at_ l k) (at_ l (par i))) → ¬ ltP (at_ (swapT l i k) c) (at_ (swapT l i k) (par c)) := by
    intro c hc0 hcn hpc hck hci
    rw [g c hcn, g (par c) (hpar c hc0 hcn), if_neg hck, if_neg hpc]
    by_cases h3 : c = i
    · subst h3
      rw [if_pos rfl, if_neg (by unfold par; omega)]
      exact hci rfl hc0
    · rw [if_neg h3]
      by_cases h4 : par c = i
      · rw [if_pos h4]
        exact hfirst c hcn h4 hc0
      · rw [if_neg h4]
        exact h1 c hc0 hcn h4 h3
  refine ⟨⟨fun c hc0 hcn hpc hck => ?_, fun hk0 c hc0 hcn hpc => ?_⟩, fun c hor hc0 hcn hci => ?_⟩
  · by_cases h3 : c = i
    · subst h3
      refine key c hc0 hcn hpc hck (fun _ h0 => h2 h0 k (by omega) hkn hkp)
    · exact key c hc0 hcn hpc hck (fun h => absurd h h3)
  · rw [g c hcn, hkp, g i (by omega), if_neg (by unfold par at hpc; omega), if_neg (by unfold par at hpc; omega), if_neg (by omega), if_pos rfl]
    have := h1 c hc0 hcn (by rw [hpc]; omega) (by unfold par at hpc; omega)
    rw [hpc] at this
    exact this
  · rcases hor with rfl | ⟨h3, h4⟩
    · exact key c hc0 hcn (by unfold par; omega) (by omega) (fun _ h0 => hci h0)
    · exact key c hc0 hcn h3 h4 (fun _ h0 => hci h0)
theorem down_less {l : List Tm} {n i : Nat} (hn : n ≤ l.length) (hs : Small l) (hc : 2 * i + 1 < n) : lessT (tm l (childP l n i : Nat)) (tm l (i : Nat)) = decide (ltP (at_ l (childP l n i)) (at_ l i)) :=
  less_lt _ _ (hs.at_ _ (by have := child_lt l n i hc; omega)) (hs.at_ _ (by omega))
/-- Nothing is behind i's children: i stands right to them. -/
theorem down_stop {l : List Tm} {n i : Nat} (hn : n ≤ l.length) (hs : Small l) (h : DownAt l n i) (hstop : 2 * i + 1 < n → ¬ ltP (at_ l (childP l n i)) (at_ l i)) : UpAt l n i := by
  refine ⟨fun c hc0 hcn hne => ?_, h.2⟩
  by_cases h3 : par c = i
  · have hc : 2 * i + 1 < n := by unfold par at h3; omega
    rw [h3]
    exact nlt_trans (child_first hn hs hc c hcn h3 hc0) (hstop hc)
  · exact h.1 c hc0 hcn h3 hne
theorem down_moved (n : Nat) : ∀ (m i : Nat) (l : List Tm), n - i = m → n ≤ l.length → Small l → DownAt l n i → (0 < i → ¬ ltP (at_ l i) (at_ l (par i))) → HeapN (downP n l i).1 n ∧ (downP n l i).1.Perm l ∧ (∀ k, n ≤ k → k < l.length → at_ (downP n l i).1 k = at_ l k) ∧ i ≤ (downP n l i).2 := by
  intro m
  induction m using Nat.strongRecOn with
  | ind m ih =>
    intro i l hm hn hs h hi
    rw [downP]
    by_cases hc : 2 * i + 1 < n
    · rw [dif_pos hc, down_less hn hs hc]
      by_cases hl : ltP (at_ l (childP l n i)) (at_ l i)
      · rw [if_pos (by simpa using hl)]
        have hkn := child_lt l n i hc
        have hki := childP_gt l n i
        have hkp := child_par l n i
        have hp := swap_perm l i (childP l n i) (by omega) (by omega)
        obtain ⟨hd, _⟩ := down_step hn hs hc h hl
        have hg := swap_get l i (childP l n i)
        obtain ⟨a1, a2, a3, a4⟩ := ih (n - childP l n i) (by omega) (childP l n i) (swapT l i (childP l n i)) rfl (by rw [swapT_length]; exact hn) (hs.perm hp) hd (fun _ => by
          rw [hkp, hg _ (by omega) (by omega) (by omega), if_pos rfl, hg i (by omega) (by omega) (by omega), if_neg (by omega), if_pos rfl]
          exact lt_asymm hl)
        refine ⟨a1, a2.trans hp, fun k hk hkl => ?_, by omega⟩
        rw [a3 k hk (by rw [swapT_length]; exact hkl), hg k (by omega) (by omega) hkl, if_neg (by omega), if_neg (by omega)]
      · rw [if_neg (by simpa using hl)]
        have hu := down_stop hn hs h (fun _ => hl)
        refine ⟨fun c hc0 hcn => ?_, List.Perm.refl _, fun _ _ _ => rfl, Nat.le_refl _⟩
        by_cases h3 : c = i
        · subst h3
          exact hi hc0
        · exact hu.1 c hc0 hcn h3
    · rw [dif_neg hc]
      have hu := down_stop hn hs h (fun h => absurd h hc)
      refine ⟨fun c hc0 hcn => ?_, List.Perm.refl _, fun _ _ _ => rfl, Nat.le_refl _⟩
      by_cases h3 : c = i
      · subst h3
        exact hi hc0
      · exact hu.1 c hc0 hcn h3
theorem down_heap (n i : Nat) (l : List Tm) (hn : n ≤ l.length) (hs : Small l) (h : DownAt l n i) :
    (downP n l i).1.Perm l ∧ (∀ k, n ≤ k → k < l.length → at_ (downP n l i).1 k = at_ l k) ∧ ((downP n l i = (l, i) ∧ UpAt l n i) ∨ (i < (downP n l i).2 ∧ HeapN (downP n l i).1 n)) := by
  by_cases hc : 2 * i + 1 < n
  · by_cases hl : ltP (at_ l (childP l n i)) (at_ l i)
    · have hkn := child_lt l n i hc
      have hki := childP_gt l n i
      have hkp := child_par l n i
      have hp := swap_perm l i (childP l n i) (by omega) (by omega)
      obtain ⟨hd, _⟩ := down_step hn hs hc h hl
      have hg := swap_get l i (childP l n i)
      obtain ⟨a1, a2, a3, a4⟩ := down_moved n (n - childP l n i) (childP l n i) (swapT l i (childP l n i)) rfl (by rw [swapT_length]; exact hn) (hs.perm hp) hd (fun _ => by
        rw [hkp, hg _ (by omega) (by omega) (by omega), if_pos rfl, hg i (by omega) (by omega) (by omega), if_neg (by omega), if_pos rfl]
        exact lt_asymm hl)
      have e : downP n l i = downP n (swapT l i (childP l n i)) (childP l n i) := by
        rw [downP, dif_pos hc, down_less hn hs hc, if_pos (by simpa using hl)]
      rw [e]
      refine ⟨a2.trans hp, fun k hk hkl => ?_, .inr ⟨by omega, a1⟩⟩
      rw [a3 k hk (by rw [swapT_length]; exact hkl), hg k (by omega) (by omega) hkl, if_neg (by omega), if_neg (by omega)]
    · have e : downP n l i = (l, i) := by
        rw [downP, dif_pos hc, down_less hn hs hc, if_neg (by simpa using hl)]
      rw [e]
      exact ⟨List.Perm.refl _, fun _ _ _ => rfl, .inl ⟨rfl, down_stop hn hs h (fun _ => hl)⟩⟩
  · have e : downP n l i = (l, i) := by
      rw [downP, dif_neg hc]
    rw [e]
    exact ⟨List.Perm.refl _, fun _ _ _ => rfl, .inl ⟨rfl, down_stop hn hs h (fun h => absurd h hc)⟩⟩

/-- A heap of timers whose times are numbers, not negative. -/
structure Heap (l : List Tm) : Prop where
  heap : HeapN l l.length
  small : Small l
theorem Heap.nil : Heap [] := ⟨fun i h0 hi => by simp at hi, fun t ht => by cases ht⟩
theorem heap_min {l : List Tm} (h : HeapN l l.length) : ∀ i, i < l.length → ¬ ltP (at_ l i) (at_ l 0) := by
  intro i
  induction i using Nat.strongRecOn with
  | ind i ih =>
    intro hi
    by_cases h0 : i = 0
    · subst h0
      exact fun h => lt_asymm h h
    · exact nlt_trans (h i (by omega) hi) (ih (par i) (by unfold par; omega) (by unfold par; omega))
theorem at_append (l : List Tm) (x : Tm) (i : Nat) (hi : i < l.length) : at_ (l ++ [x]) i = at_ l i := by
  rw [at_eq _ _ (by simp; omega), at_eq _ _ hi, List.getElem_append_left hi]
theorem push_heap {l : List Tm} {x : Tm} (h : Heap l) (hx : x.2 ≤ Flo.INF) : Heap (pushP l x) ∧ (pushP l x).Perm (x :: l) := by
  have hs : Small (l ++ [x]) := fun t ht => by
    rcases List.mem_append.1 ht with ht | ht
    · exact h.small t ht
    · rw [List.mem_singleton.1 ht]; exact hx
  have hl : (l ++ [x]).length = l.length + 1 := by simp
  have hu : UpAt (l ++ [x]) (l.length + 1) l.length := by
    refine ⟨fun i h0 hi hne => ?_, fun _ c _ hcn hc => ?_⟩
    · rw [at_append l x i (by omega), at_append l x (par i) (by unfold par; omega)]
      exact h.heap i h0 (by omega)
    · unfold par at hc
      omega
  obtain ⟨h1, h2⟩ := up_heap (l.length + 1) l.length (l ++ [x]) (by omega) (by omega) hs hu
  have hlen : (pushP l x).length = l.length + 1 := by rw [pushP, upP_length, hl]
  refine ⟨⟨by rw [hlen]; exact h1, hs.perm h2⟩, ?_⟩
  exact h2.trans (List.perm_append_singleton x l)
theorem at_take (l : List Tm) (m i : Nat) (hi : i < m) (hm : m ≤ l.length) : at_ (l.take m) i = at_ l i := by
  rw [at_eq _ _ (by rw [List.length_take]; omega), at_eq _ _ (by omega), List.getElem_take]
theorem take_last {l : List Tm} {m : Nat} (hm : l.length = m + 1) : l = l.take m ++ [at_ l m] := by
  rw [at_eq l m (by omega)]
  have := (List.take_append_drop m l).symm
  rw [List.drop_eq_getElem_cons (by omega), List.drop_eq_nil_of_le (by omega)] at this
  exact this
theorem pop_heap {l : List Tm} (h : Heap l) (hp : 0 < l.length) : Heap (popT l) ∧ l.Perm (at_ l 0 :: popT l) := by
  obtain ⟨m, hm⟩ : ∃ m, l.length = m + 1 := ⟨l.length - 1, by omega⟩
  have hsp := swap_perm l 0 m (by omega) (by omega)
  have hg := fun k hk => swap_get l 0 m k (by omega) (by omega) hk
  have hd : DownAt (swapT l 0 m) m 0 := by
    refine ⟨fun c h0 hcn hpc hne => ?_, fun h => absurd h (by omega)⟩
    rw [hg c (by omega), hg (par c) (by unfold par; omega), if_neg (by omega), if_neg hne, if_neg (by unfold par; omega), if_neg hpc]
    exact h.heap c h0 (by omega)
  obtain ⟨a1, a2, a3⟩ := down_heap m 0 (swapT l 0 m) (by rw [swapT_length]; omega) (h.small.perm hsp) hd
  have ep : popP l = (downP m (swapT l 0 m) 0).1 := by rw [popP, hm]; rfl
  have et : popT l = (downP m (swapT l 0 m) 0).1.take m := by rw [popT, ep, hm]; rfl
  have hlen : (downP m (swapT l 0 m) 0).1.length = m + 1 := by rw [downP_length, swapT_length, hm]
  have hh : HeapN (downP m (swapT l 0 m) 0).1 m := by
    rcases a3 with ⟨e, hu⟩ | ⟨_, hh⟩
    · rw [e]
      exact fun i h0 hi => hu.1 i h0 hi (by omega)
    · exact hh
  have hlast : at_ (downP m (swapT l 0 m) 0).1 m = at_ l 0 := by
    rw [a2 m (Nat.le_refl _) (by rw [swapT_length]; omega), hg m (by omega), if_pos rfl]
  have hperm : l.Perm (at_ l 0 :: popT l) := by
    have h1 := take_last hlen
    rw [hlast, ← et] at h1
    have h2 := (a1.trans hsp).symm
    rw [h1] at h2
    exact h2.trans (List.perm_append_singleton _ _)
  refine ⟨⟨?_, fun t ht => h.small t (hperm.mem_iff.2 (List.mem_cons_of_mem _ ht))⟩, hperm⟩
  intro i h0 hi
  have hl2 : (popT l).length = m := by rw [popT_length, hm]; rfl
  rw [hl2] at hi
  rw [et, at_take _ m i hi (by omega), at_take _ m (par i) (by unfold par; omega) (by omega)]
  exact hh i h0 hi

theorem up_above : ∀ (j : Nat) (l : List Tm) (k : Nat), j < k → k < l.length → at_ (upP l j) k = at_ l k := by
  intro j
  induction j using Nat.strongRecOn with
  | ind j ih =>
    intro l k hjk hk
    cases j with
    | zero => rw [upP]
    | succ j =>
      rw [upP]
      split
      · rw [ih (j / 2) (by omega) _ k (by omega) (by rw [swapT_length]; exact hk), swap_get l (j / 2) (j + 1) k (by omega) (by omega) hk, if_neg (by omega), if_neg (by omega)]
      · rfl
theorem take_heap {l : List Tm} {m : Nat} (hm : l.length = m + 1) (h : HeapN l m) : HeapN (l.take m) (l.take m).length := by
  have hl : (l.take m).length = m := by rw [List.length_take]; omega
  intro i h0 hi
  rw [hl] at hi
  rw [at_take _ m i hi (by omega), at_take _ m (par i) (by unfold par; omega) (by omega)]
  exact h i h0 hi
theorem remove_heap {l : List Tm} (h : Heap l) (i : Nat) (hi : i < l.length) : Heap ((removeP l i).take (l.length - 1)) ∧ l.Perm (at_ l i :: (removeP l i).take (l.length - 1)) := by
  obtain ⟨m, hm⟩ : ∃ m, l.length = m + 1 := ⟨l.length - 1, by omega⟩
  have e1 : l.length - 1 = m := by omega
  -- whatever the whole is: a heap of the first m, the old i at last
  have fin : ∀ d : List Tm, d.Perm l → d.length = m + 1 → HeapN d m → at_ d m = at_ l i → Heap (d.take m) ∧ l.Perm (at_ l i :: d.take m) := by
    intro d hp hl hh hlast
    have hperm : l.Perm (at_ l i :: d.take m) := by
      have h1 := take_last hl
      rw [hlast] at h1
      have h2 := hp.symm
      rw [h1] at h2
      have h3 : (d.take m ++ [at_ l i]).take m = d.take m := by rw [← h1]
      exact (h2.trans (List.perm_append_singleton _ _))
    exact ⟨⟨take_heap hl hh, fun t ht => h.small t (hperm.mem_iff.2 (List.mem_cons_of_mem _ ht))⟩, hperm⟩
  rw [removeP, e1]
  by_cases him : m = i
  · rw [if_pos him]
    exact fin l (List.Perm.refl _) hm (fun k h0 hk => h.heap k h0 (by omega)) (by rw [him])
  · rw [if_neg him]
    have hsp := swap_perm l i m (by omega) (by omega)
    have hg := fun k hk => swap_get l i m k (by omega) (by omega) hk
    have hgm : ∀ k, k < m → k ≠ i → at_ (swapT l i m) k = at_ l k := fun k hk hne => by rw [hg k (by omega), if_neg (by omega), if_neg hne]
    have hd : DownAt (swapT l i m) m i := by
      refine ⟨fun c h0 hcn hpc hne => ?_, fun hi0 c h0 hcn hpc => ?_⟩
      · rw [hgm c hcn hne, hgm (par c) (by unfold par; omega) hpc]
        exact h.heap c h0 (by omega)
      · rw [hgm c hcn (by unfold par at hpc; omega), hgm (par i) (by unfold par; omega) (by unfold par; omega)]
        have k1 := h.heap c h0 (by omega)
        have k2 := h.heap i hi0 hi
        rw [hpc] at k1
        exact nlt_trans k1 k2
    have hsl : m ≤ (swapT l i m).length := by rw [swapT_length]; omega
    obtain ⟨a1, a2, a3⟩ := down_heap m i (swapT l i m) hsl (h.small.perm hsp) hd
    have hlast : at_ (swapT l i m) m = at_ l i := by rw [hg m (by omega), if_pos rfl]
    rcases a3 with ⟨e, hu⟩ | ⟨hlt, hh⟩
    · show Heap (List.take m (if i < (downP m (swapT l i m) i).2 then _ else _)) ∧ _
      rw [e]
      show Heap (List.take m (if i < i then _ else upP (swapT l i m) i)) ∧ l.Perm (at_ l i :: List.take m (if i < i then _ else upP (swapT l i m) i))
      rw [if_neg (by omega)]
      obtain ⟨b1, b2⟩ := up_heap m i (swapT l i m) hsl (by omega) (h.small.perm hsp) hu
      exact fin _ (b2.trans hsp) (by rw [upP_length, swapT_length, hm]) b1 (by rw [up_above i _ m (by omega) (by rw [swapT_length]; omega), hlast])
    · show Heap (List.take m (if i < (downP m (swapT l i m) i).2 then _ else _)) ∧ l.Perm (at_ l i :: List.take m (if i < (downP m (swapT l i m) i).2 then _ else _))
      rw [if_pos hlt]
      exact fin _ (a1.trans hsp) (by rw [downP_length, swapT_length, hm]) hh (by rw [a2 m (Nat.le_refl _) (by rw [swapT_length]; omega), hlast])
end Go.Proofs.Ytnniljcmjcjleaa
