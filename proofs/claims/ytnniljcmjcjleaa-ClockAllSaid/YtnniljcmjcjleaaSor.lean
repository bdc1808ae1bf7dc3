/- slices.SortFunc at a clock's timers: what it leaves of a row. -/
import Derived.Test.YtnniljcmjcjleaaTim
import Derived.Shelf.SlSortCmp.WholeK
namespace Go.Proofs.Ytnniljcmjcjleaa
open Go.RowKit Go.Sort Go.Shelf Go.Proofs.Ytnniljcmjcjleaa.QA Go.Proofs.YtnniljcmjcjleaaW.PrintWords Go.Proofs.YtnniljcmjcjleaaW.PrintLast Go.Proofs.YtnniljcmjcjleaaW.PrintMore
set_option linter.unusedVariables false
set_option linter.unusedSimpArgs false

/-- Timers whose times are not negative, and no NaN. -/
abbrev TA := Int × Fin 9218868437227405313
def toTm (x : TA) : Tm := (x.1, x.2.val)
def toA (t : Tm) : TA := (t.1, Fin.ofNat 9218868437227405313 t.2)
theorem toTm_toA (t : Tm) (h : t.2 ≤ Flo.INF) : toTm (toA t) = t := by
  obtain ⟨i, b⟩ := t
  show (i, b % 9218868437227405313) = (i, b)
  have h1 : b ≤ 9218868437227405312 := h
  rw [Nat.mod_eq_of_lt (by omega)]
def encA (x : TA) : List Value := [.int .i64 x.1, .float .f64 x.2.val]
/-- By time, then by number. -/
def lexP (a b : Tm) : Int := if a.2 < b.2 then -1 else if b.2 < a.2 then 1 else if a.1 < b.1 then -1 else if b.1 < a.1 then 1 else 0
theorem cmpf_pos (a b : Nat) (ha : a ≤ Flo.INF) (hb : b ≤ Flo.INF) : cmp_Compare_float64.f a b = some (if a < b then -1 else if b < a then 1 else 0) := by
  simp only [cmp_Compare_float64.f, cmp_isNaN_float64.f, Option.bind_some, Flo.order_pos _ _ ha hb, Flo.order_pos _ _ ha ha, Flo.order_pos _ _ hb hb]
  have e1 : (some (compare a a) != some Ordering.eq) = false := by rw [Nat.compare_eq_eq.2 rfl]; rfl
  have e2 : (some (compare b b) != some Ordering.eq) = false := by rw [Nat.compare_eq_eq.2 rfl]; rfl
  rw [e1, e2]
  simp only [Bool.false_eq_true, if_false]
  rcases Nat.lt_trichotomy a b with h | h | h
  · rw [Nat.compare_eq_lt.2 h, if_pos (by rfl), if_pos h]
  · subst h
    rw [Nat.compare_eq_eq.2 rfl, if_neg (by decide), if_neg (by decide), if_neg (by omega), if_neg (by omega)]
  · rw [Nat.compare_eq_gt.2 h, if_neg (by decide), if_pos (by rfl), if_neg (by omega), if_pos h]
theorem cmpi_pos (a b : Int) : cmp_Compare_int.f a b = some (if a < b then -1 else if b < a then 1 else 0) := by
  simp only [cmp_Compare_int.f, cmp_isNaN_int.f, Option.bind_some]
  have e1 : ∀ x : Int, (x != x) = false := by intro x; simp
  rw [e1, e1]
  simp only [Bool.false_eq_true, if_false]
  split
  · rfl
  · split
    · rfl
    · rfl
theorem ord_lex (a b : Tm) (ha : a.2 ≤ Flo.INF) (hb : b.2 ≤ Flo.INF) : ordP a b = lexP a b := by
  have h : clock_order.f 5 a.1 a.2 b.1 b.2 = some (lexP a b) := by
    simp only [clock_order.f, cmpf_pos _ _ ha hb, cmpi_pos, Option.bind_some]
    rw [or_eq]
    show some _ = _
    congr 1
    unfold lexP
    split <;> (try split) <;> simp_all
  rw [ordP, h]
  rfl
theorem ord_toTm (x y : TA) : ordP (toTm x) (toTm y) = lexP (toTm x) (toTm y) := ord_lex _ _ (by have := x.2.isLt; show x.2.val ≤ 9218868437227405312; omega) (by have := y.2.isLt; show y.2.val ≤ 9218868437227405312; omega)
def cfA (x y : TA) : Int := ordP (toTm x) (toTm y)
def ltA (x y : TA) : Bool := ltOf cfA x y
theorem ltA_iff (x y : TA) : ltOf cfA x y = true ↔ x.2.val < y.2.val ∨ (x.2.val = y.2.val ∧ x.1 < y.1) := by
  unfold ltOf cfA
  rw [ord_toTm, decide_eq_true_iff]
  unfold lexP toTm
  show (if x.2.val < y.2.val then (-1 : Int) else if y.2.val < x.2.val then 1 else if x.1 < y.1 then -1 else if y.1 < x.1 then 1 else 0) < 0 ↔ _
  split <;> (try split) <;> (try split) <;> (try split) <;> omega
theorem ltA_false (x y : TA) : ltOf cfA x y = false ↔ ¬ (x.2.val < y.2.val ∨ (x.2.val = y.2.val ∧ x.1 < y.1)) := by
  rw [← ltA_iff]
  simp
theorem swoA : SWO (ltOf cfA) where
  irrefl x := by rw [ltA_false]; omega
  trans x y z h1 h2 := by rw [ltA_iff] at *; omega
  ntrans x y z h1 h2 := by rw [ltA_false] at *; omega
theorem totalA (x y : TA) (h1 : ltOf cfA x y = false) (h2 : ltOf cfA y x = false) : x = y := by
  rw [ltA_false] at h1 h2
  obtain ⟨a, b⟩ := x
  obtain ⟨c, d⟩ := y
  have e1 : a = c := by simp only at h1 h2; omega
  have e2 : b.val = d.val := by simp only at h1 h2; omega
  rw [e1, Fin.ext e2]

theorem put_block (w : World) (g : Nat) (cur : Array Value) (e : TypeId) (F : Array Value) (h : w.heap[g]? = some (.cells cur e (0, 0))) : (putRow id w g 0 F).heap[g]? = some (.cells (putCells id 0 F cur) e (0, 0)) := by
  unfold putRow mapBlock
  simp only [Array.getElem?_modify, h]
  rfl
theorem put_other (w : World) (g : Nat) (F : Array Value) (k : Nat) (hk : k ≠ g) : (putRow id w g 0 F).heap[k]? = w.heap[k]? := by
  unfold putRow mapBlock
  simp only [Array.getElem?_modify]
  rw [if_neg (fun h => hk h.symm)]
theorem putCells_size (F cur : Array Value) : (putCells id 0 F cur).size = cur.size := by simp [putCells]
theorem putCells_take (F cur : Array Value) (h : F.size ≤ cur.size) : (putCells id 0 F cur).toList.take F.size = F.toList := by
  apply List.ext_getElem?
  intro i
  rw [List.getElem?_take]
  by_cases hi : i < F.size
  · rw [if_pos hi]
    have h1 : i < cur.size := by omega
    simp [putCells, h1, hi]
  · rw [if_neg hi]
    simp; omega
theorem grow_below (w : World) (os : Array Obj) : Below w.heap.size w (grow w os) :=
  ⟨rfl, rfl, rfl, by show w.heap.size ≤ (w.heap ++ os).size; simp, fun k hk => by show (w.heap ++ os)[k]? = _; rw [Array.getElem?_append_left hk]⟩
theorem flat_at (d : Array TA) (j : Nat) (hj : j < d.size) : ((flatK encA 2 d).toList.drop (j * 2)).take 2 = encA d[j]! := by
  have hs : (flatK encA 2 d).size = d.size * 2 := size_flatK _ _ _
  have at_ : ∀ t, t < d.size * 2 → (flatK encA 2 d).toList[t]? = some ((encA d[t / 2]!)[t % 2]!) := by
    intro t ht
    have h1 := get_flatK encA 2 d t ht
    rw [← h1, Array.getElem?_toList, getElem!_pos _ t (by omega), Array.getElem?_eq_getElem (by omega)]
  have e0 := at_ (j * 2) (by omega)
  have e1 := at_ (j * 2 + 1) (by omega)
  rw [show j * 2 / 2 = j by omega, show j * 2 % 2 = 0 by omega] at e0
  rw [show (j * 2 + 1) / 2 = j by omega, show (j * 2 + 1) % 2 = 1 by omega] at e1
  apply List.ext_getElem?
  intro i
  rw [List.getElem?_take]
  have : i = 0 ∨ i = 1 ∨ 2 ≤ i := by omega
  rcases this with rfl | rfl | h
  · rw [if_pos (by omega), List.getElem?_drop, Nat.add_zero, e0]
    rfl
  · rw [if_pos (by omega), List.getElem?_drop, e1]
    rfl
  · rw [if_neg (by omega), List.getElem?_eq_none (by simpa [encA] using h)]
theorem sorted_TB {W : World} {base g n c : Nat} {l : List Tm} (h : TB W base (.slice (some ⟨g, 0, none⟩) n c) l) (d : Array TA) (hd : d.size = n) (m : Nat) (os : Array Obj) :
    TB (sortWorldK encA 2 W g 0 m d os) base (.slice (some ⟨g, 0, none⟩) n c) (d.toList.map toTm) ∧ Hold W (sortWorldK encA 2 W g 0 m d os) (fun k => k = g) := by
  have hn : n = l.length := (Kd.R_reads' h).1
  obtain ⟨_, inner, ho, hrep⟩ := h
  obtain ⟨W1, hW1⟩ : ∃ W1, W1 = putRowK encA 2 (Go.Sort.ahead W m) g 0 d := ⟨_, rfl⟩
  have hsz : W1.heap.size = W.heap.size := by
    rw [hW1]
    unfold putRowK putRow mapBlock Go.Sort.ahead
    simp
  have hHold : Hold W W1 (fun k => k = g) := ⟨by rw [hW1]; rfl, by rw [hW1]; rfl, by rw [hW1]; rfl, by omega, fun k _ hk => by rw [hW1]; exact put_other (Go.Sort.ahead W m) g _ k hk⟩
  have hTB : TB W1 base (.slice (some ⟨g, 0, none⟩) n c) (d.toList.map toTm) := by
    rcases ho.2 with ⟨hv, _⟩ | ⟨g', cap, cur, hv, hb, hh, hnc, hcm, hcs, htake⟩
    · cases hv
    injection hv with ha _ hc
    injection ha with ha
    injection ha with hg
    subst hg; subst hc
    have hF : (flatK encA 2 d).size = n * 2 := by rw [size_flatK, hd]
    have hcs2 : cur.size = c * 2 := hcs
    have hfit : (flatK encA 2 d).size ≤ cur.size := by rw [hF]; omega
    have hlen : (d.toList.map toTm).length = n := by simp [hd]
    refine ⟨fun _ _ => trivial, (flatK encA 2 d).toList, ⟨?_, .inr ⟨g, c, putCells id 0 (flatK encA 2 d) cur, by rw [hlen], hb, ?_, by rw [hlen, hn]; exact hnc, hcm, ?_, ?_⟩⟩, ?_, ?_⟩
    · rw [hlen]
      show (flatK encA 2 d).toList.length = n * 2
      rw [Array.length_toList, hF]
    · rw [hW1]
      exact put_block (Go.Sort.ahead W m) g cur _ _ hh
    · rw [putCells_size]
      exact hcs
    · rw [hlen]
      show (putCells id 0 (flatK encA 2 d) cur).toList.take (n * 2) = _
      rw [← hF]
      exact putCells_take _ _ hfit
    · rw [hlen]
      show (flatK encA 2 d).toList.length = n * 2
      rw [Array.length_toList, hF]
    · intro j p hj
      rw [List.getElem?_map] at hj
      obtain ⟨x, hx, rfl⟩ := Option.map_eq_some_iff.1 hj
      have hjl : j < d.size := by
        have := (List.getElem?_eq_some_iff.1 hx).1
        simpa using this
      have hxe : d[j]! = x := by
        rw [getElem!_pos _ j hjl]
        have := (List.getElem?_eq_some_iff.1 hx).2
        simpa using this
      have e := flat_at d j hjl
      rw [hxe] at e
      show kT.M _ _ _ (toTm x) (((flatK encA 2 d).toList.drop (j * 2)).take 2)
      rw [e]
      exact kT_mk _ _ _ _
  unfold sortWorldK
  rw [← hW1]
  exact ⟨Kd.R_below hTB (grow_below W1 os), hHold.trans (S1 := fun k => k = g) (Hold.of_below (grow_below W1 os) _) (fun k hk => .inl hk)⟩
end Go.Proofs.Ytnniljcmjcjleaa
