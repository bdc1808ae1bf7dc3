/- What goes off, in rounds: each timer once, by time and number, when its time has come. Plain Lean. -/
import Derived.Test.YtnniljcmjcjleaaTwo
import Derived.Laws.Bits64b
namespace Go.Proofs.Ytnniljcmjcjleaa
open Go.RowKit Go.Proofs.Ytnniljcmjcjleaa.QA Go.Proofs.YtnniljcmjcjleaaW.PrintWords Go.Proofs.YtnniljcmjcjleaaW.PrintLast Go.Proofs.YtnniljcmjcjleaaW.PrintMore
set_option linter.unusedVariables false
set_option linter.unusedSimpArgs false

/-- The timers of so many lengths of time, from the time 0. -/
def tms (l : List Nat) : List Tm := l.mapIdx fun k d => ((k : Int) + 1, Flo.norm d)
theorem tms_snoc (l : List Nat) (d : Nat) : tms (l ++ [d]) = tms l ++ [((l.length : Int) + 1, Flo.norm d)] := by
  unfold tms
  rw [List.mapIdx_concat]
theorem tms_length (l : List Nat) : (tms l).length = l.length := by unfold tms; rw [List.length_mapIdx]
theorem tms_get (l : List Nat) (k : Nat) (h : k < l.length) : (tms l)[k]? = some ((k : Int) + 1, Flo.norm l[k]) := by
  unfold tms
  rw [List.getElem?_mapIdx, List.getElem?_eq_getElem h]
  rfl
theorem tms_mem {l : List Nat} {x : Tm} (h : x ∈ tms l) : ∃ k, ∃ hk : k < l.length, x = ((k : Int) + 1, Flo.norm l[k]) := by
  obtain ⟨k, hk, he⟩ := List.getElem_of_mem h
  have hk2 : k < l.length := by rw [tms_length] at hk; exact hk
  have h1 := tms_get l k hk2
  rw [List.getElem?_eq_getElem hk] at h1
  injection h1 with h1
  exact ⟨k, hk2, he.symm.trans h1⟩
theorem tms_in (l : List Nat) (k : Nat) (h : k < l.length) : ((k : Int) + 1, Flo.norm l[k]) ∈ tms l := List.mem_of_getElem? (tms_get l k h)
theorem tms_nodup (l : List Nat) : ((tms l).map (·.1)).Nodup := by
  have e : (tms l).map (·.1) = (List.range l.length).map fun k : Nat => (k : Int) + 1 := by
    apply List.ext_getElem?
    intro k
    by_cases hk : k < l.length
    · rw [List.getElem?_map, tms_get l k hk, List.getElem?_map, List.getElem?_range hk]
      rfl
    · rw [List.getElem?_eq_none (by rw [List.length_map, tms_length]; omega), List.getElem?_eq_none (by rw [List.length_map, List.length_range]; omega)]
  rw [e]
  exact List.pairwise_map.2 (List.Pairwise.imp (fun h => by omega) (List.nodup_range (n := l.length)))
/-- Which have gone off. -/
def offOf (n : Nat) (P : List Tm) : List Bool := (List.range n).map fun k : Nat => decide (((k : Int) + 1) ∈ P.map (·.1))
theorem offOf_length (n : Nat) (P : List Tm) : (offOf n P).length = n := by unfold offOf; rw [List.length_map, List.length_range]
theorem offOf_get (n : Nat) (P : List Tm) (k : Nat) (h : k < n) : (offOf n P)[k]? = some (decide (((k : Int) + 1) ∈ P.map (·.1))) := by
  unfold offOf
  rw [List.getElem?_map, List.getElem?_range h]
  rfl
theorem offOf_rd (n : Nat) (P : List Tm) (k : Nat) (h : k < n) : rdOf false (offOf n P) (k : Int) = decide (((k : Int) + 1) ∈ P.map (·.1)) := by
  show (offOf n P).getD (Int.toNat (k : Int)) false = _
  rw [Int.toNat_natCast, List.getD_eq_getElem?_getD, offOf_get n P k h]
  rfl
theorem offOf_nil (n : Nat) : offOf n [] = List.replicate n false := by
  apply List.ext_getElem?
  intro k
  by_cases h : k < n
  · rw [offOf_get n [] k h, List.getElem?_replicate, if_pos h]
    simp
  · rw [List.getElem?_eq_none (by rw [offOf_length]; omega), List.getElem?_eq_none (by rw [List.length_replicate]; omega)]
theorem offOf_set (n : Nat) (P : List Tm) (k : Nat) (t : Nat) (h : k < n) : (offOf n P).set k true = offOf n (P ++ [((k : Int) + 1, t)]) := by
  apply List.ext_getElem?
  intro j
  by_cases hj : j < n
  · rw [List.getElem?_set, offOf_get n _ j hj]
    by_cases hk : k = j
    · subst hk
      rw [if_pos rfl, if_pos (by rw [offOf_length]; exact hj), offOf_get n _ k hj, decide_eq_true]
      rw [List.map_append]
      exact List.mem_append_right _ (List.mem_singleton.2 rfl)
    · rw [if_neg hk, offOf_get n (P ++ [((k : Int) + 1, t)]) j hj, List.map_append]
      congr 1
      apply decide_eq_decide.2
      constructor
      · exact fun h => List.mem_append_left _ h
      · intro h
        rcases List.mem_append.1 h with h | h
        · exact h
        · have : (j : Int) + 1 = (k : Int) + 1 := List.mem_singleton.1 h
          omega
  · rw [List.getElem?_eq_none (by rw [List.length_set, offOf_length]; omega), List.getElem?_eq_none (by rw [offOf_length]; omega)]
/-- The last one that went off: its time, its number. -/
def lastF (P : List Tm) : Nat := match P.getLast? with
  | none => 13830554455654793216
  | some x => x.2
def lastI (P : List Tm) : Int := match P.getLast? with
  | none => 0
  | some x => x.1
theorem lastF_snoc (P : List Tm) (x : Tm) : lastF (P ++ [x]) = x.2 := by unfold lastF; rw [List.getLast?_concat]
theorem lastI_snoc (P : List Tm) (x : Tm) : lastI (P ++ [x]) = x.1 := by unfold lastI; rw [List.getLast?_concat]
theorem last_cases (P : List Tm) : (P = [] ∧ lastF P = 13830554455654793216 ∧ lastI P = 0) ∨ ∃ y, y ∈ P ∧ lastF P = y.2 ∧ lastI P = y.1 ∧ ∃ Q, P = Q ++ [y] := by
  rcases List.eq_nil_or_concat P with rfl | ⟨Q, y, rfl⟩
  · exact .inl ⟨rfl, rfl, rfl⟩
  · rw [List.concat_eq_append]
    exact .inr ⟨y, List.mem_append_right _ (List.mem_singleton.2 rfl), lastF_snoc Q y, lastI_snoc Q y, Q, rfl⟩
theorem order_neg1 (x : Nat) (h : x ≤ 9218868437227405312) : FloatKind.f64.format.order x 13830554455654793216 = some .gt := by
  rcases Flo.order_bad 13830554455654793216 x (by decide) (by decide) (by decide) h with ⟨h1, h2⟩ | ⟨_, h2⟩
  · exfalso
    have hr : FloatKind.f64.format.read 13830554455654793216 = .number true 4503599627370496 (-52) := by decide +kernel
    change (FloatKind.f64.format.read 13830554455654793216).order (FloatKind.f64.format.read x) = none at h1
    rw [hr] at h1
    rcases Flo.read_good x h with h3 | ⟨m, k, h3⟩ <;> rw [h3] at h1 <;> cases h1
  · exact h2
theorem key_good (x : Nat) (h : x ≤ 9218868437227405312) : flumeref3_Key.f x = some ((x : Int) + 9223372036854775808) := by
  have h1 : Go.bits .and .u64 ((x : Nat) : Int) 9223372036854775807 = (x : Int) := by
    have hb := Go.u64_and_nat x 9223372036854775807 (by omega) (by decide)
    rw [show ((9223372036854775807 : Nat) : Int) = 9223372036854775807 from rfl] at hb
    rw [hb]
    have : x &&& (2 ^ 63 - 1) = x % 2 ^ 63 := Nat.and_two_pow_sub_one_eq_mod x 63
    have e : (2 ^ 63 - 1 : Nat) = 9223372036854775807 := by decide
    have e2 : (2 ^ 63 : Nat) = 9223372036854775808 := by decide
    rw [e, e2] at this
    rw [this, Nat.mod_eq_of_lt (by omega)]
  rw [flumeref3_Key.f, flumeref3_NaN.f, h1, Option.bind_some, if_neg (by simp; omega), if_neg (by omega)]
  refine congrArg some ?_
  show IntKind.u64.wrap _ = _
  have e : ∀ z : Int, IntKind.u64.wrap z = z % 18446744073709551616 := fun z => rfl
  rw [e]
  omega
theorem key_neg1 : flumeref3_Key.f 13830554455654793216 = some 4616189618054758399 := by decide +kernel
theorem same_good (a b : Nat) (ha : a ≤ 9218868437227405312) (hb : b ≤ 9218868437227405312) : flumeref3_Same.f a b = some (decide (a = b)) := by
  rw [flumeref3_Same.f, key_good a ha, key_good b hb, Option.bind_some, Option.bind_some]
  refine congrArg some ?_
  rw [Bool.eq_iff_iff]
  simp
  omega
theorem same_neg1 (a : Nat) (ha : a ≤ 9218868437227405312) : flumeref3_Same.f a 13830554455654793216 = some false := by
  rw [flumeref3_Same.f, key_good a ha, key_neg1, Option.bind_some, Option.bind_some]
  refine congrArg some ?_
  rw [beq_eq_false_iff_ne]
  omega
/-- One more goes off. -/
theorem ord_step (l : List Nat) (S P R : List Tm) (x : Tm) (hg : ∀ d ∈ l, Flo.norm d ≤ 9218868437227405312) (hp : S.Perm (tms l)) (hs : Sorted S) (hS : S = P ++ x :: R) :
    ∃ k, ∃ hk : k < l.length, x = ((k : Int) + 1, Flo.norm l[k]) ∧ x.2 ≤ 9218868437227405312 ∧ rdOf false (offOf l.length P) (k : Int) = false ∧ (FloatKind.f64.format.order x.2 (lastF P) == some .lt) = false ∧
      ∃ b, flumeref3_Same.f x.2 (lastF P) = some b ∧ (b = true → lastI P ≤ x.1) := by
  have hx : x ∈ tms l := hp.mem_iff.1 (by rw [hS]; exact List.mem_append_right _ (List.mem_cons_self ..))
  obtain ⟨k, hk, rfl⟩ := tms_mem hx
  have hle : Flo.norm l[k] ≤ 9218868437227405312 := hg _ (List.getElem_mem hk)
  refine ⟨k, hk, rfl, hle, ?_, ?_⟩
  · rw [offOf_rd _ _ _ hk, decide_eq_false_iff_not]
    have hnd : (S.map (·.1)).Nodup := (hp.map (·.1)).nodup_iff.2 (tms_nodup l)
    rw [hS, List.map_append, List.map_cons] at hnd
    intro hm
    exact (List.nodup_append.1 hnd).2.2 _ hm _ (List.mem_cons_self ..) rfl
  · rcases last_cases P with ⟨rfl, e1, e2⟩ | ⟨y, hy, e1, e2, Q, rfl⟩
    · rw [e1, e2]
      refine ⟨?_, false, same_neg1 _ hle, fun h => by cases h⟩
      rw [order_neg1 _ hle]
      rfl
    · rw [e1, e2]
      have hyS : y ∈ tms l := hp.mem_iff.1 (by rw [hS]; exact List.mem_append_left _ hy)
      obtain ⟨k2, hk2, he⟩ := tms_mem hyS
      have hyle : y.2 ≤ 9218868437227405312 := by rw [he]; exact hg _ (List.getElem_mem hk2)
      have hord : ¬ ltP ((k : Int) + 1, Flo.norm l[k]) y := by
        unfold Sorted at hs
        rw [hS, List.append_assoc] at hs
        have h2 := (List.pairwise_append.1 hs).2.1
        rw [List.singleton_append, List.pairwise_cons] at h2
        exact h2.1 _ (List.mem_cons_self ..)
      unfold ltP at hord
      refine ⟨?_, _, same_good _ _ hle hyle, fun h => ?_⟩
      · have := Flo.order_good (a := Flo.norm l[k]) (b := y.2) (by rw [Flo.norm_le hle]; exact hle) (by rw [Flo.norm_le hyle]; exact hyle)
        rw [Flo.norm_le hle, Flo.norm_le hyle] at this
        show (FloatKind.f64.format.order (Flo.norm l[k]) y.2 == some .lt) = false
        rw [this]
        rcases Nat.lt_trichotomy (Flo.norm l[k]) y.2 with h | h | h
        · exact absurd (Or.inl h) hord
        · rw [Nat.compare_eq_eq.2 h]; rfl
        · rw [Nat.compare_eq_gt.2 h]; rfl
      · have h3 := of_decide_eq_true h
        have h4 : ¬ ((k : Int) + 1 < y.1) := fun h5 => hord (.inr ⟨h3, h5⟩)
        show y.1 ≤ (k : Int) + 1
        omega
/-- Those have gone off whose time has come. -/
theorem ord_done (l : List Nat) (S P R : List Tm) (s : Nat) (hg : ∀ d ∈ l, Flo.norm d ≤ 9218868437227405312) (hp : S.Perm (tms l)) (hS : S = P ++ R) (hP : ∀ y ∈ P, y.2 ≤ s) (hR : ∀ y ∈ R, s < y.2) (hs : s ≤ 9218868437227405312) (k : Nat) (hk : k < l.length) :
    rdOf false (offOf l.length P) (k : Int) = leF l[k] s := by
  rw [offOf_rd _ _ _ hk, Flo.leF_good (hg _ (List.getElem_mem hk)) (by rw [Flo.norm_le hs]; exact hs), Flo.norm_le hs]
  apply decide_eq_decide.2
  constructor
  · intro h
    obtain ⟨y, hy, he⟩ := List.mem_map.1 h
    have hyt : y ∈ tms l := hp.mem_iff.1 (by rw [hS]; exact List.mem_append_left _ hy)
    obtain ⟨k2, hk2, rfl⟩ := tms_mem hyt
    have : k2 = k := by
      have he2 : (k2 : Int) + 1 = (k : Int) + 1 := he
      omega
    subst this
    exact hP _ hy
  · intro h
    have hyt : ((k : Int) + 1, Flo.norm l[k]) ∈ S := hp.mem_iff.2 (tms_in l k hk)
    rw [hS] at hyt
    rcases List.mem_append.1 hyt with h2 | h2
    · exact List.mem_map.2 ⟨_, h2, rfl⟩
    · have := hR _ h2
      have h3 : s < Flo.norm l[k] := this
      omega
theorem goS_le {s : Nat} {R : List Tm} (hs : s ≤ 9218868437227405312) (hR : Small R) : ∀ y ∈ goS s R, y.2 ≤ s := by
  intro y hy
  have h1 := List.all_takeWhile (p := fun x : Tm => leF x.2 s) (l := R)
  have h2 := List.all_eq_true.1 h1 y hy
  have h3 : y.2 ≤ 9218868437227405312 := hR y ((List.takeWhile_sublist _).subset hy)
  rw [Flo.leF_good (by rw [Flo.norm_le h3]; exact h3) (by rw [Flo.norm_le hs]; exact hs), Flo.norm_le h3, Flo.norm_le hs] at h2
  exact of_decide_eq_true h2
theorem goR_gt {s : Nat} : ∀ {R : List Tm}, s ≤ 9218868437227405312 → Small R → Sorted R → ∀ y ∈ goR s R, s < y.2
  | [], _, _, _, y, hy => by cases hy
  | x :: R, hs, hR, hsd, y, hy => by
    have hx : x.2 ≤ 9218868437227405312 := hR x (List.mem_cons_self ..)
    unfold goR at hy
    rw [List.dropWhile_cons] at hy
    by_cases h : leF x.2 s = true
    · rw [if_pos h] at hy
      exact goR_gt hs (fun t ht => hR t (List.mem_cons_of_mem _ ht)) (List.pairwise_cons.1 hsd).2 y hy
    · rw [if_neg h] at hy
      have hx2 : s < x.2 := by
        rw [Flo.leF_good (by rw [Flo.norm_le hx]; exact hx) (by rw [Flo.norm_le hs]; exact hs), Flo.norm_le hx, Flo.norm_le hs] at h
        have : ¬ x.2 ≤ s := fun h2 => h (decide_eq_true h2)
        omega
      rcases List.mem_cons.1 hy with rfl | hy
      · exact hx2
      · have := (List.pairwise_cons.1 hsd).1 y hy
        unfold ltP at this
        omega
theorem goS_goR (s : Nat) (R : List Tm) : goS s R ++ goR s R = R := List.takeWhile_append_dropWhile
/-- A length of time, and 0: the same without its sign, if it is 0. -/
theorem add_norm (d : Nat) (h : Flo.norm d ≤ 9218868437227405312) : FloatKind.f64.format.add d 0 = some (Flo.norm d) := by
  by_cases hd : d = 9223372036854775808
  · subst hd
    decide +kernel
  · have : Flo.norm d = d := by unfold Flo.norm; rw [if_neg hd]
    rw [this] at h ⊢
    exact Flo.add_zero' d h
/-- Is it a length of time? -/
theorem geq_plain (d : Nat) (hd : d < 18446744073709551616) : (FloatKind.f64.format.order d 0 == some .gt || FloatKind.f64.format.order d 0 == some .eq) = (plainF d).2 := by
  rw [Flo.plain_ok hd]
  by_cases h : Flo.norm d ≤ 9218868437227405312
  · have h0 : Flo.norm 0 = 0 := by decide
    rw [decide_eq_true h, Flo.order_good h (by decide), h0]
    rcases Nat.eq_zero_or_pos (Flo.norm d) with h1 | h1
    · rw [h1]; rfl
    · rw [Nat.compare_eq_gt.2 h1]; rfl
  · rw [decide_eq_false h, Flo.order_norm]
    have h0 : Flo.norm 0 = 0 := by decide
    rw [h0]
    rcases Flo.order_bad (Flo.norm d) 0 (by omega) (Flo.norm_lt hd) (Flo.norm_ne d) (by decide) with ⟨h1, _⟩ | ⟨h1, _⟩ <;> rw [h1] <;> rfl
/-- A step of the law. -/
theorem step_facts (X : Nat) (hX : X < 18446744073709551616) (h1 : (FloatKind.f64.format.order X 4562254508917369340 == some .gt) = true) (h2 : (FloatKind.f64.format.order X 4696837146684686336 == some .lt) = true) : X ≤ 1043 * 4503599627370496 := by
  have g1 : FloatKind.f64.format.order X 4562254508917369340 = some .gt := beq_iff_eq.1 h1
  have g2 : FloatKind.f64.format.order X 4696837146684686336 = some .lt := beq_iff_eq.1 h2
  have nX := Flo.good_of hX (by decide) (.inl g1)
  have hne : X ≠ 9223372036854775808 := by
    intro h
    subst h
    have : FloatKind.f64.format.order 9223372036854775808 4562254508917369340 = some .lt := by decide +kernel
    rw [this] at g1
    cases g1
  have hn : Flo.norm X = X := by unfold Flo.norm; rw [if_neg hne]
  rw [Flo.order_good nX (by decide), hn] at g2
  have e : Flo.norm 4696837146684686336 = 4696837146684686336 := by decide
  rw [e] at g2
  injection g2 with g2
  have := Nat.compare_eq_lt.1 g2
  omega
theorem add_step (now X k : Nat) (hX : X ≤ 1043 * 4503599627370496) (hn : now ≤ (1043 + k) * 4503599627370496) (hk : k ≤ 30) :
    ∃ s, FloatKind.f64.format.add now X = some s ∧ now ≤ s ∧ s ≤ (1043 + (k + 1)) * 4503599627370496 ∧ okGo now s = true ∧ plainF s = (s, true) ∧ (FloatKind.f64.format.order s s != some .eq) = false := by
  obtain ⟨B, hB⟩ : ∃ B, B = 4503599627370496 := ⟨_, rfl⟩
  rw [← hB] at hX hn ⊢
  have a1 : now ≤ (1042 + k + 1) * 4503599627370496 := by
    rw [show 1042 + k + 1 = 1043 + k by omega, ← hB]
    exact hn
  have a2 : X ≤ (1042 + k + 1) * 4503599627370496 := by
    rw [show 1042 + k + 1 = 1043 + k by omega, ← hB]
    exact Nat.le_trans hX (Nat.mul_le_mul_right _ (Nat.le_add_right _ _))
  obtain ⟨s, h1, h2, h3, h4⟩ := Flo.add_up now X (1042 + k) a1 a2 (by omega)
  have h5 : s ≤ (1043 + (k + 1)) * B := by
    rw [show 1043 + (k + 1) = 1042 + k + 2 by omega, hB]
    exact h4
  have hs : s < 9218868437227405312 := by
    have : (1043 + (k + 1)) * B ≤ 1074 * B := Nat.mul_le_mul_right _ (by omega)
    rw [hB] at this h5
    omega
  have hnow : now < 9218868437227405312 := by omega
  clear a1 a2 h4 hB
  have hsn : Flo.norm s = s := Flo.norm_le (by omega)
  refine ⟨s, h1, h2, h5, ?_, ?_, ?_⟩
  · rw [Flo.okGo_good (by omega) (by omega), hsn]
    simp; omega
  · rw [Flo.plain_good (by omega), hsn]
  · rw [Flo.order_good (by omega) (by omega), Nat.compare_eq_eq.2 rfl]
    rfl
end Go.Proofs.Ytnniljcmjcjleaa
