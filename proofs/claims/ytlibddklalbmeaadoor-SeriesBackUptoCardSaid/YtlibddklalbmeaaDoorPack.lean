/- What the series package makes of a list of numbers, by their bits: the bytes of its length, and of the bits. -/
import Derived.Test.YtlibddklalbmeaaDoorChange
namespace Go.Proofs.YtlibddklalbmeaaDoor
open Go.RowKit Go.Proofs.YtlibddklalbmeaaDoor.QA Go.Proofs.YtlibddklalbmeaaDoorW.PrintWords Go.Proofs.YtlibddklalbmeaaDoorW.PrintLast Go.Proofs.YtlibddklalbmeaaDoorW.PrintMore
attribute [local go_sem] max2_int min2_int fl_store fl_bits fl_frombits
set_option linter.unusedVariables false
set_option linter.unusedSimpArgs false

def tailBits : Nat → List Nat → List Bool
  | _, [] => []
  | last, x :: t => changeBits (x ^^^ last) ++ tailBits x t
def bitsF : List Nat → List Bool
  | [] => []
  | x :: t => Ser.bitsOf x 64 ++ tailBits x t

theorem tailBits_take (t : List Nat) : ∀ (last j : Nat), j < t.length →
    tailBits last (t.take (j + 1)) = tailBits last (t.take j) ++ changeBits (t.getD j 0 ^^^ (if j = 0 then last else t.getD (j - 1) 0)) := by
  induction t with
  | nil => intro last j h; simp at h
  | cons y t ih =>
    intro last j h
    cases j with
    | zero => simp [tailBits]
    | succ j =>
      simp only [List.length_cons] at h
      rw [List.take_succ_cons, List.take_succ_cons, tailBits, tailBits, ih y j (by omega), List.append_assoc, List.getD_cons_succ]
      cases j with
      | zero => simp
      | succ i => simp

def lastAt (xs : List Nat) (k : Nat) : Nat := if k = 0 then 0 else xs.getD (k - 1) 0

theorem bitsF_zero (xs : List Nat) (h : 0 < xs.length) : bitsF (xs.take 1) = Ser.bitsOf (xs.getD 0 0) 64 := by
  cases xs with
  | nil => simp at h
  | cons x t => simp [bitsF, tailBits]

theorem bitsF_succ (xs : List Nat) (k : Nat) (h0 : 0 < k) (h : k < xs.length) : bitsF (xs.take (k + 1)) = bitsF (xs.take k) ++ changeBits (xs.getD k 0 ^^^ lastAt xs k) := by
  cases xs with
  | nil => simp at h
  | cons x t =>
    obtain ⟨j, rfl⟩ : ∃ j, k = j + 1 := ⟨k - 1, by omega⟩
    simp only [List.length_cons] at h
    have e : lastAt (x :: t) (j + 1) = if j = 0 then x else t.getD (j - 1) 0 := by
      unfold lastAt
      cases j <;> simp
    rw [List.take_succ_cons, List.take_succ_cons, bitsF, bitsF, tailBits_take t x j (by omega), List.append_assoc, List.getD_cons_succ, e]

theorem changeBits_length (x : Nat) : (changeBits x).length ≤ 77 := by
  unfold changeBits
  have := bitLen_le x
  split <;> simp <;> omega

theorem tailBits_length (l : List Nat) : ∀ last, (tailBits last l).length ≤ 77 * l.length := by
  induction l with
  | nil => intro last; simp [tailBits]
  | cons x t ih =>
    intro last
    have h1 := ih x
    have h2 := changeBits_length (x ^^^ last)
    simp [tailBits]; omega

theorem bitsF_length (xs : List Nat) : (bitsF xs).length ≤ 77 * xs.length := by
  cases xs with
  | nil => simp [bitsF]
  | cons x t =>
    have := tailBits_length t x
    simp [bitsF]; omega

def PackPost (w : World) (hdr : List Int) (xs : List Nat) (e : Ending) (w' : World) : Prop :=
  ∃ v, e = .returned (.tuple #[v, .int .i64 0]) ∧ Kd.R (Kd.int .u8) 5 w' w.heap.size (fun _ => True) v (hdr ++ up (Ser.packBits (bitsF xs))) ∧ Below w.heap.size w w'

set_option maxHeartbeats 1600000 in
set_option maxRecDepth 100000 in
theorem pack_many (w : World) (A : Option Addr) (c : Nat) (xs : List Nat) (hm : 4096 < xs.length) (hl : xs.length ≤ 9223372036854775807) :
    Calls Tryd.prog 9 #[.slice A xs.length c] w fun e w' => e = .returned (.tuple #[.slice none 0 0, .int .i64 9]) ∧ w' = w := by
  have hd : decide ((4096 : Int) < (xs.length : Int)) = true := by simp; omega
  go_enter Tryd.func9, Tryd.ntmps9
  go_wp2_with fail
  go_ret2
  exact ⟨rfl, rfl⟩

set_option maxHeartbeats 1600000 in
set_option maxRecDepth 100000 in
theorem pack_calls (w : World) (A : Option Addr) (c : Nat) (xs : List Nat) (hdr : List Int) (k : Nat) (hm : xs.length ≤ 4096) (hx : ∀ x ∈ xs, x < 18446744073709551616)
    (hv : wire_Varint.f k (xs.length : Int) = some hdr) (hh : hdr.length ≤ 10) (hT : TabAt 1 Lib.deBruijn64tab w) (hr : Kd.fl.C w A xs.length xs) :
    Calls Tryd.prog 9 #[.slice A xs.length c] w (PackPost w hdr xs) := by
  have hd : decide ((4096 : Int) < (xs.length : Int)) = false := by simp; omega
  have HV := Aside0.mk hv
  have HT := Aside0.mk hT
  have HX := Aside0.mk hx
  have HR := Aside0.mk hr
  clear hv hT hx hr
  go_enter Tryd.func9, Tryd.ntmps9
  go_wp2_with fail
  refine (wire_Varint.calls k (xs.length : Int) hdr _ HV.out).mono ?_
  rintro e w1 ⟨v, rfl, hv, hb⟩
  obtain ⟨B, cc, rfl⟩ := Kd.R_slice hv
  have HO := Aside0.mk hv
  have HB := Aside0.mk hb
  clear hv hb
  go_wp2_with fail
  have HW0 : Aside0 (Wr w (w1.alloc (.cells #[.slice B hdr.length cc, .int .i64 0] 51)) w1.heap.size hdr (bitsF (xs.take 0))) := ⟨by
    have e0 : Ser.freeOf (bitsF (xs.take 0)) = 0 := by simp [bitsF, Ser.freeOf]
    refine ⟨.slice B hdr.length cc, by rw [e0]; exact blk_new w1 _, HB.out.size, ?_, HB.out.alloc HB.out.size _⟩
    have := Kd.R_alloc HO.out (.cells #[.slice B hdr.length cc, .int .i64 0] 51)
    simpa [bitsF, Ser.packBits, up] using this⟩
  have hbl := bitsF_length xs
  go_loopg [5, 20] xs.length (fun m a i wr => ∃ k : Nat, m + k = xs.length ∧ i = .int .i64 k ∧ a = .int .u64 (lastAt xs k) ∧ Aside0 (Wr w wr w1.heap.size hdr (bitsF (xs.take k))))
  case atStart => exact ⟨0, rfl, rfl, rfl, HW0⟩
  case round =>
    clear HW0
    obtain ⟨j, hj, rfl, rfl, HW⟩ := hrel
    cases gk with
    | zero =>
      have hlt : decide ((j : Int) < (xs.length : Int)) = false := by simp; omega
      have hlt2 : decide (j < xs.length) = false := by simp; omega
      have e : xs.take j = xs := List.take_of_length_le (by omega)
      rw [e] at HW
      obtain ⟨v, hb, hg, hr, hbel⟩ := HW.out
      obtain ⟨bs, hbs⟩ : ∃ bs, bs = hdr ++ up (Ser.packBits (bitsF xs)) := ⟨_, rfl⟩
      rw [← hbs] at hr
      obtain ⟨A2, c2, rfl⟩ := Kd.R_slice hr
      have c0 := (blk_cell hb 0).trans rfl
      have HR2 := Aside0.mk hr
      have HL := Aside0.mk hbel
      have HJ := Aside0.mk hj
      have HBS := Aside0.mk hbs
      clear hb hg hr hbel hj HW e hbs
      go_wp2_with fail
      go_ret2
      exact ⟨_, rfl, by rw [← HBS.out]; exact HR2.out, HL.out⟩
    | succ m =>
      have hlt : decide ((j : Int) < (xs.length : Int)) = true := by simp; omega
      have hlt2 : decide (j < xs.length) = true := by simp; omega
      have hjl : j < xs.length := by omega
      obtain ⟨ad, rfl, hca⟩ := Kd.at_fl HR.out (j : Int) (by omega) (by omega)
      have hbel : Below w.heap.size w wr := HW.out.choose_spec.2.2.2
      have hcj : wr.cell? (ad.add j) = some (.float .f64 (xs.getD j 0)) := by
        have := pw_cell_below hbel hca
        rw [Int.toNat_natCast] at this
        exact this
      have hxj : xs.getD j 0 < 18446744073709551616 := by
        have e : xs.getD j 0 = xs[j] := by simp [List.getD_eq_getElem?_getD, hjl]
        rw [e]; exact HX.out _ (List.getElem_mem _)
      have hlast : lastAt xs j < 18446744073709551616 := by
        unfold lastAt
        split
        · decide
        · have e : xs.getD (j - 1) 0 = xs[j - 1] := by simp [List.getD_eq_getElem?_getD, show j - 1 < xs.length by omega]
          rw [e]; exact HX.out _ (List.getElem_mem _)
      have hbits : (bitsF (xs.take j)).length ≤ 400000 := by
        have := bitsF_length (xs.take j)
        have h2 : (xs.take j).length ≤ 4096 := by simp; omega
        omega
      have hnext : lastAt xs (j + 1) = xs.getD j 0 := by simp [lastAt]
      have HN := Aside0.mk hnext
      have HJ := Aside0.mk hj
      generalize hy : xs.getD j 0 = y at *
      have HY := Aside0.mk hy
      generalize hz : lastAt xs j = z at *
      have HZ := Aside0.mk hz
      clear hca hbel hnext hj hy hz
      have h0j : (0 : Int) ≤ j := by omega
      by_cases hj0 : j = 0
      · subst hj0
        have HB0 : Aside0 (bitsF (xs.take 1) = Ser.bitsOf y 64) := ⟨by rw [bitsF_zero xs hjl, HY.out]⟩
        have hw := HW.out
        have HW2 : Aside0 (Wr w wr w1.heap.size hdr []) := ⟨by simpa [bitsF] using hw⟩
        have hcj0 : wr.cell? ad = some (.float .f64 y) := by simpa [Addr.add] using hcj
        clear hw HW hcj
        go_wp2_with fail
        refine (put_any w _ _ hdr [] y 64 _ _ rfl rfl hxj (by decide) (by simp; omega) HW2.out).mono ?_
        rintro e w2 ⟨rfl, hw2⟩
        have H2 := Aside0.mk hw2
        clear hw2
        go_wp2_with fail
        go_roundg m
        case measure => omega
        case rel => exact ⟨1, by have := HJ.out; omega, rfl, by rw [HN.out], ⟨by rw [HB0.out]; exact H2.out⟩⟩
      · have hj1 : ((j : Int) == 0) = false := by simpa using hj0
        have HB1 : Aside0 (bitsF (xs.take (j + 1)) = bitsF (xs.take j) ++ changeBits (y ^^^ z)) := ⟨by rw [bitsF_succ xs j (by omega) hjl, HY.out, HZ.out]⟩
        have hxz : bits .xor .u64 (y : Int) (z : Int) = ((y ^^^ z : Nat) : Int) := u64_xor_nat y z hxj hlast
        have hlt3 : y ^^^ z < 18446744073709551616 := Nat.xor_lt_two_pow (n := 64) hxj hlast
        have HXZ := Aside0.mk hxz
        clear hxz
        go_wp2_with fail
        rw [HXZ.out]
        refine (change_calls w _ _ hdr _ (y ^^^ z) hlt3 (by omega) HT.out HW.out).mono ?_
        rintro e w2 ⟨rfl, hw2⟩
        have H2 := Aside0.mk hw2
        clear hw2
        go_wp2_with fail
        go_roundg m
        case measure => omega
        case rel => exact ⟨j + 1, by have := HJ.out; omega, by go_num, by rw [HN.out], ⟨by rw [HB1.out]; exact H2.out⟩⟩
end Go.Proofs.YtlibddklalbmeaaDoor
