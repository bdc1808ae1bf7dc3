/- A clock's timers in memory. -/
import Derived.Test.YtnniljcmjcjleaaQAx
namespace Go.Proofs.Ytnniljcmjcjleaa
open Go.RowKit Go.Proofs.Ytnniljcmjcjleaa.QA Go.Proofs.YtnniljcmjcjleaaW.PrintWords Go.Proofs.YtnniljcmjcjleaaW.PrintLast Go.Proofs.YtnniljcmjcjleaaW.PrintMore
attribute [local go_sem] fl_store fl_bits fl_frombits fl_usigned
set_option linter.unusedVariables false
set_option linter.unusedSimpArgs false

theorem w64 (n : Int) (h : -9223372036854775808 ≤ n ∧ n ≤ 9223372036854775807) : wrap64 n = n := by unfold wrap64; omega
abbrev Tm := Int × Nat
def kT : Kd Tm := Kd.pair (Kd.int .i64) Kd.fl
def Tm.val (t : Tm) : Value := .agg #[.int .i64 t.1, .float .f64 t.2]
theorem kT_open {w : World} {base : Nat} {ok : Nat → Prop} {x : Tm} {cs : List Value} (h : kT.M w base ok x cs) : cs = [.int .i64 x.1, .float .f64 x.2] := by
  obtain ⟨_, _, rfl, rfl, rfl⟩ := h
  rfl
theorem kT_mk (w : World) (base : Nat) (ok : Nat → Prop) (x : Tm) : kT.M w base ok x [.int .i64 x.1, .float .f64 x.2] := ⟨_, _, rfl, rfl, rfl⟩
/-- A row of timers of somebody's own. -/
def TR (w : World) (v : Value) (l : List Tm) : Prop := kT.R 70 w 0 (fun _ => True) v l
def tm (l : List Tm) (i : Int) : Tm := l.getD i.toNat (0, 0)
theorem TR.get {w : World} {A : Option Addr} {n c : Nat} {l : List Tm} (h : TR w (.slice A n c) l) (i : Int) (h0 : 0 ≤ i) (h1 : i < n) :
    ∃ g, A = some ⟨g, 0, none⟩ ∧ w.cell? ⟨g, i.toNat * 2, none⟩ = some (.int .i64 (tm l i).1) ∧ w.cell? ⟨g, i.toNat * 2 + 1, none⟩ = some (.float .f64 (tm l i).2) ∧ ∀ j, w.frozen? ⟨g, j, none⟩ = false := by
  have hn : n = l.length := (Kd.R_reads' h).1
  obtain ⟨g, cap, hv, _, _, cells, hc⟩ := Kd.R_form h (by omega)
  injection hv with ha _ _
  subst ha
  obtain ⟨cs, hl, hM, hcell, hf⟩ := Kd.R_elem h (0, 0) i h0 h1
  have hcs := kT_open hM
  subst hcs
  refine ⟨g, rfl, hcell 0 _ rfl, hcell 1 _ rfl, fun j => blk_frozen hc _⟩
theorem TR.len {w : World} {A : Option Addr} {n c : Nat} {l : List Tm} (h : TR w (.slice A n c) l) : n = l.length ∧ n ≤ c := ⟨(Kd.R_reads' h).1, (Kd.R_reads' h).2.1⟩
theorem TR.set {w : World} {g n c : Nat} {l : List Tm} (h : TR w (.slice (some ⟨g, 0, none⟩) n c) l) (i : Int) (h0 : 0 ≤ i) (h1 : i < n) (x : Tm) :
    TR ((w.setCell ⟨g, i.toNat * 2, none⟩ (.int .i64 x.1)).setCell ⟨g, i.toNat * 2 + 1, none⟩ (.float .f64 x.2)) (.slice (some ⟨g, 0, none⟩) n c) (l.set i.toNat x) ∧
    w.grownBy ((w.setCell ⟨g, i.toNat * 2, none⟩ (.int .i64 x.1)).setCell ⟨g, i.toNat * 2 + 1, none⟩ (.float .f64 x.2)) (some g) := by
  obtain ⟨cs, hl, hM, hcell, hf⟩ := Kd.R_elem h (0, 0) i h0 h1
  have hcs := kT_open hM
  subst hcs
  exact Kd.R_seg h i h0 h1 (c := [_, _]) (seg := [.int .i64 x.1, .float .f64 x.2]) (j := 0) (okp := fun _ => False) rfl hcell (Nat.le_refl 2) (x' := x) (kT_mk _ _ _ _) (fun k hk => hk.elim)

theorem TR.below {w w1 : World} {v : Value} {l : List Tm} (h : TR w v l) (hb : Below w.heap.size w w1) : TR w1 v l := Kd.R_below h hb
theorem TR.slice {w : World} {v : Value} {l : List Tm} (h : TR w v l) : ∃ A c, v = .slice A l.length c := Kd.R_slice h

/-- Only blocks of S, and new ones, are other ones. -/
structure Hold (w w' : World) (S : Nat → Prop) : Prop where
  os : w'.os = w.os
  tape : w'.tape = w.tape
  output : w'.output = w.output
  size : w.heap.size ≤ w'.heap.size
  block : ∀ k, k < w.heap.size → ¬ S k → w'.heap[k]? = w.heap[k]?
theorem Hold.refl (w : World) (S : Nat → Prop) : Hold w w S := ⟨rfl, rfl, rfl, Nat.le_refl _, fun _ _ _ => rfl⟩
theorem Hold.trans {w w1 w2 : World} {S S1 : Nat → Prop} (h : Hold w w1 S) (k : Hold w1 w2 S1) (hs : ∀ k, S1 k → S k ∨ w.heap.size ≤ k) : Hold w w2 S :=
  ⟨k.os.trans h.os, k.tape.trans h.tape, k.output.trans h.output, Nat.le_trans h.size k.size, fun i hi hn => (k.block i (Nat.lt_of_lt_of_le hi h.size) (fun h1 => (hs i h1).elim hn (by omega))).trans (h.block i hi hn)⟩
theorem Hold.of_below {w w1 : World} (h : Below w.heap.size w w1) (S : Nat → Prop) : Hold w w1 S := ⟨h.os, h.tape, h.output, h.size, fun i hi _ => h.block i hi⟩
theorem Hold.of_grown {w w1 : World} {v : Option Nat} (h : w.grownBy w1 v) : Hold w w1 (fun k => some k = v) := ⟨h.os, h.tape, h.output, h.size, fun i hi hn => h.block i hi hn⟩
theorem Hold.below {w w1 : World} {S : Nat → Prop} (h : Hold w w1 S) (base : Nat) (hb : base ≤ w.heap.size) (hs : ∀ k, S k → base ≤ k) : Below base w w1 :=
  ⟨h.os, h.tape, h.output, h.size, fun i hi => h.block i (by omega) (fun h1 => by have := hs i h1; omega)⟩
theorem Hold.mono {w w1 : World} {S S1 : Nat → Prop} (h : Hold w w1 S) (hs : ∀ k, S k → S1 k) : Hold w w1 S1 := ⟨h.os, h.tape, h.output, h.size, fun i hi hn => h.block i hi (fun h1 => hn (hs i h1))⟩
theorem Hold.drew {w w1 : World} {S : Nat → Prop} (h : Hold w w1 S) : Hold w w1.drew S := ⟨h.os, h.tape, h.output, h.size, h.block⟩
def own (v : Value) : Nat → Prop := fun k => some k = v.ownBlock

/-- A clock. -/
structure CAt (w : World) (g : Nat) (b : Bool) (now : Nat) (last : Int) (v : Value) (l : List Tm) : Prop where
  blk : w.heap[g]? = some (.cells #[.bool b, .float .f64 now, .int .i64 last, v] 60 (0, 0))
  row : TR w v l
namespace CAt
variable {w w1 : World} {g : Nat} {b : Bool} {now : Nat} {last : Int} {v : Value} {l l1 : List Tm}
theorem ne_own (h : CAt w g b now last v l) : ¬ own v g := fun he => by
  obtain ⟨cells, hc⟩ := Kd.R_typed h.row g he.symm
  rw [h.blk] at hc
  injection hc with hc
  injection hc with _ ht
  cases ht
theorem cell0 (h : CAt w g b now last v l) : w.cell? ⟨g, 0, none⟩ = some (.bool b) := (blk_cell h.blk 0).trans rfl
theorem cell1 (h : CAt w g b now last v l) : w.cell? ⟨g, 1, none⟩ = some (.float .f64 now) := (blk_cell h.blk 1).trans rfl
theorem cell2 (h : CAt w g b now last v l) : w.cell? ⟨g, 2, none⟩ = some (.int .i64 last) := (blk_cell h.blk 2).trans rfl
theorem cell3 (h : CAt w g b now last v l) : w.cell? ⟨g, 3, none⟩ = some v := (blk_cell h.blk 3).trans rfl
theorem frozen (h : CAt w g b now last v l) (j : Nat) : w.frozen? ⟨g, j, none⟩ = false := blk_frozen h.blk j
theorem below (h : CAt w g b now last v l) (hb : Below w.heap.size w w1) : CAt w1 g b now last v l := ⟨blk_below h.blk hb, h.row.below hb⟩
theorem drew (h : CAt w g b now last v l) : CAt w.drew g b now last v l := h.below (Below.refl _ _).drew
/-- The row is written, and nothing else. -/
theorem wrote (h : CAt w g b now last v l) (hg : w.grownBy w1 v.ownBlock) (hr : TR w1 v l1) : CAt w1 g b now last v l1 :=
  ⟨(hg.block g (blk_lt h.blk) h.ne_own).trans h.blk, hr⟩
end CAt

set_option maxHeartbeats 4000000 in
theorem swap_calls (A : Option Addr) (n c : Nat) (i j : Int) (l : List Tm) (w : World) (h : TR w (.slice A n c) l) (hi : 0 ≤ i) (hin : i < n) (hj : 0 ≤ j) (hjn : j < n) :
    Calls Try.prog 87 #[.slice A n c, .int .i64 i, .int .i64 j] w fun e w' => e = .returned (.tuple #[]) ∧
      TR w' (.slice A n c) ((l.set i.toNat (tm l j)).set j.toNat (tm l i)) ∧ w.grownBy w' (Value.slice A n c).ownBlock := by
  obtain ⟨g, rfl, hi0, hi1, hf⟩ := h.get i hi hin
  obtain ⟨g', hg', hj0, hj1, _⟩ := h.get j hj hjn
  cases hg'
  have H := Aside0.mk h
  clear h
  go_enter Try.func87, Try.ntmps87
  go_wp2_with fail
  obtain ⟨u0, hu0⟩ := cell?_setCell_some (p := ⟨g, i.toNat * 2, none⟩) (x := .int .i64 (tm l j).1) hj0
  obtain ⟨u1, hu1⟩ := cell?_setCell_some (p := ⟨g, i.toNat * 2 + 1, none⟩) (x := .float .f64 (tm l j).2) hj1
  obtain ⟨u2, hu2⟩ := cell?_setCell_some (p := ⟨g, i.toNat * 2 + 1, none⟩) (x := .float .f64 (tm l j).2) hu0
  obtain ⟨u3, hu3⟩ := cell?_setCell_some (p := ⟨g, i.toNat * 2, none⟩) (x := .int .i64 (tm l j).1) hj1
  obtain ⟨u4, hu4⟩ := cell?_setCell_some (p := ⟨g, i.toNat * 2 + 1, none⟩) (x := .float .f64 (tm l j).2) hu3
  go_region
  obtain ⟨h1, hg1⟩ := H.out.set i hi hin (tm l j)
  obtain ⟨h2, hg2⟩ := h1.set j hj hjn (tm l i)
  clear hu0 hu1 hu2 hu3 hu4 hi0 hi1 hf hj0 hj1
  go_end0
  refine ⟨rfl, ?_, ?_⟩
  · exact h2.below (Below.refl _ _).drew
  · exact ⟨hg2.os.trans hg1.os, hg2.tape.trans hg1.tape, hg2.output.trans hg1.output, Nat.le_trans hg1.size hg2.size, fun k hk hn => (hg2.block k (Nat.lt_of_lt_of_le hk hg1.size) hn).trans (hg1.block k hk hn)⟩

/-- Who goes off first. -/
def ordP (a b : Tm) : Int := (clock_order.f 5 a.1 a.2 b.1 b.2).getD 0
theorem or_eq (x y : Int) : cmp_Or_int.f 5 [x, y] = some (if x ≠ 0 then x else y) := by
  have h0 : rd [x, y] 0 = x := rfl
  have h1 : rd [x, y] 1 = y := rfl
  have e1 : wrap64 (0 + 1) = 1 := w64 1 (by omega)
  have e2 : wrap64 (1 + 1) = 2 := w64 2 (by omega)
  have el : (([x, y] : List Int).length : Int) = 2 := rfl
  rw [cmp_Or_int.f, el, cmp_Or_int.l0, el, if_pos (by decide), if_pos (by decide), if_pos (by decide), h0, e1]
  by_cases hx : x = 0
  · rw [if_pos hx, if_neg (by simpa using hx), cmp_Or_int.l0, el, if_pos (by decide), if_pos (by decide), if_pos (by decide), h1, e2]
    by_cases hy : y = 0
    · rw [if_pos hy, cmp_Or_int.l0, if_neg (by decide), hy]
    · rw [if_neg hy]
  · rw [if_neg hx, if_pos hx]
theorem cmpi_some (a b : Int) : ∃ r, cmp_Compare_int.f a b = some r := by
  simp only [cmp_Compare_int.f, cmp_isNaN_int.f, Option.bind_some]
  split <;> split <;> (try split) <;> (try split) <;> exact ⟨_, rfl⟩
theorem cmpf_some (a b : Nat) : ∃ r, cmp_Compare_float64.f a b = some r := by
  simp only [cmp_Compare_float64.f, cmp_isNaN_float64.f, Option.bind_some]
  split <;> split <;> (try split) <;> (try split) <;> exact ⟨_, rfl⟩
theorem ord_eq (a b : Tm) : clock_order.f 5 a.1 a.2 b.1 b.2 = some (ordP a b) := by
  obtain ⟨x, hx⟩ := cmpf_some a.2 b.2
  obtain ⟨y, hy⟩ := cmpi_some a.1 b.1
  have : clock_order.f 5 a.1 a.2 b.1 b.2 = some (if x ≠ 0 then x else y) := by
    simp only [clock_order.f, hx, hy, Option.bind_some]
    rw [or_eq]
    rfl
  rw [ordP, this]
  rfl
def lessT (a b : Tm) : Bool := decide (ordP a b < 0)

set_option maxHeartbeats 4000000 in
theorem less_calls (A : Option Addr) (n c : Nat) (i j : Int) (l : List Tm) (w : World) (h : TR w (.slice A n c) l) (hi : 0 ≤ i) (hin : i < n) (hj : 0 ≤ j) (hjn : j < n) :
    Calls Try.prog 86 #[.slice A n c, .int .i64 i, .int .i64 j] w fun e w' => e = .returned (.bool (lessT (tm l i) (tm l j))) ∧ Below w.heap.size w w' := by
  obtain ⟨g, rfl, hi0, hi1, hf⟩ := h.get i hi hin
  obtain ⟨g', hg', hj0, hj1, _⟩ := h.get j hj hjn
  cases hg'
  clear h
  have HB := Aside0.mk (Below.refl w.heap.size w)
  go_enter Try.func86, Try.ntmps86
  go_wp2_with fail
  go_region_with (refine (clock_order.calls 5 _ _ _ _ _ _ (ord_eq (tm l i) (tm l j))).mono ?_; rintro e w' ⟨rfl, hb⟩)
  all_goals
    go_wp2_with fail
    go_ret
    exact ⟨rfl, (Below.refl w.heap.size w).drew.trans (hb.mono (Nat.le_refl _))⟩
set_option maxHeartbeats 4000000 in
theorem len_calls (A : Option Addr) (n c : Nat) (w : World) : Calls Try.prog 85 #[.slice A n c] w fun e w' => e = .returned (.int .i64 n) ∧ w' = w := by
  go_enter Try.func85, Try.ntmps85
  go_wp2_with fail
  go_ret
  exact ⟨rfl, rfl⟩
end Go.Proofs.Ytnniljcmjcjleaa
