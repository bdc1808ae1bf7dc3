/- The document's own Number and Kind of names answer as the program's, at every text. -/
import Derived.Test.YtooddfmjgplbjaaNRef
import Derived.Test.YtooddfmjgplbjaaQCx2
namespace Go.Proofs.Ytooddfmjgplbjaa
open Go.RowKit Go.Proofs.Ytooddfmjgplbjaa.QA Go.Proofs.Ytooddfmjgplbjaa.QC Go.Proofs.YtooddfmjgplbjaaW.PrintWords Go.Proofs.YtooddfmjgplbjaaW.PrintLast Go.Proofs.YtooddfmjgplbjaaW.PrintMore
set_option linter.unusedVariables false
set_option linter.unusedSimpArgs false

/-- The figure that a byte is. -/
def dig (b : Nat) : Option Nat := if 48 ≤ b ∧ b ≤ 57 then some (b - 48) else if 97 ≤ b ∧ b ≤ 102 then some (b - 87) else none

theorem dig_fin : ∀ b : Fin 256, name_digit.f 17 ((b.val : Nat) : Int) = some (match dig b.val with | some d => ((d : Int), true) | none => (0, false)) := by decide +kernel
theorem dig_eq (b k : Nat) (hb : b < 256) (hk : 17 ≤ k) : name_digit.f k (b : Int) = some (match dig b with | some d => ((d : Int), true) | none => (0, false)) := by
  obtain ⟨m, rfl⟩ : ∃ m, k = 17 + m := ⟨k - 17, by omega⟩
  exact digit_more m 17 (dig_fin ⟨b, hb⟩)
theorem dig_lt (b d : Nat) (h : dig b = some d) : d < 16 := by
  unfold dig at h
  split at h
  · injection h with h; omega
  · split at h
    · injection h with h; omega
    · cases h
theorem hx_dig_fin : ∀ b : Fin 256, ∀ d : Fin 16, dig b.val = some d.val → (hx d.val).toNat = b.val := by decide +kernel
theorem hx_dig (b d : Nat) (hb : b < 256) (h : dig b = some d) : (hx d).toNat = b := hx_dig_fin ⟨b, hb⟩ ⟨d, dig_lt b d h⟩ h

def byteN (s : ByteArray) (i : Nat) : Nat := (s.data.toList.getD i 0).toNat
theorem byteN_lt (s : ByteArray) (i : Nat) : byteN s i < 256 := UInt8.toNat_lt _

/-- So many figures from a place on, read behind a number. -/
def readH (s : ByteArray) : Nat → Nat → Nat → Option Nat
  | 0, _, v => some v
  | d + 1, j, v => match dig (byteN s (4 + j)) with
    | none => none
    | some e => readH s d (j + 1) (16 * v + e)

theorem or_wrap (x e : Nat) (hx : 16 * x < 18446744073709551616) (he : e < 16) : Go.bits .or .i64 (wrap64 (wrap64 (x : Int) * 16)) (e : Int) = wrap64 ((16 * x + e : Nat) : Int) := by
  have e1 : (BitVec.ofInt 64 (wrap64 (wrap64 (x : Int) * 16))).toNat = 16 * x := by
    rw [BitVec.toNat_ofInt]
    unfold wrap64
    omega
  show IntKind.i64.wrap ((BitVec.ofInt 64 (wrap64 (wrap64 (x : Int) * 16)) ||| BitVec.ofInt 64 (e : Int)).toNat : Int) = _
  rw [BitVec.toNat_or, e1, ofInt_i64 e (by omega)]
  have h2 := Nat.two_pow_add_eq_or_of_lt (i := 4) (by simpa using he) x
  rw [show (2 : Nat) ^ 4 = 16 from rfl] at h2
  rw [← h2]
  simp [IntKind.wrap, IntKind.bits, IntKind.signed]
  unfold wrap64
  omega

def endN (v : Option Nat) : Int × Bool := match v with
  | none => (0, false)
  | some v => if 1 ≤ v ∧ v < 9223372036854775808 then ((v : Int), true) else (0, false)

theorem wrap_end (v : Nat) (hv : v < 18446744073709551616) : (if wrap64 (v : Int) < 1 then (some ((0 : Int), false)) else (some (wrap64 (v : Int), true))) = some (endN (some v)) := by
  unfold endN
  dsimp only
  by_cases h : 1 ≤ v ∧ v < 9223372036854775808
  · rw [if_pos h, w64 _ (by omega), if_neg (by omega)]
  · rw [if_neg h, if_pos (by unfold wrap64; omega)]

theorem prog_loop (s : ByteArray) (hs : s.size = 24) : ∀ (d j v k : Nat), j + d = 16 → v < 16 ^ j → d + 17 < k →
    name_Number.l0 k s (wrap64 (v : Int)) ((4 + j : Nat) : Int) = some (endN (readH s d j v)) := by
  intro d
  induction d with
  | zero =>
    intro j v k hj hv hk
    obtain ⟨k, rfl⟩ : ∃ m, k = m + 1 := ⟨k - 1, by omega⟩
    obtain rfl : j = 16 := by omega
    rw [name_Number.l0, if_neg (by omega), readH]
    exact wrap_end v (Nat.lt_of_lt_of_le hv (by decide))
  | succ d ih =>
    intro j v k hj hv hk
    obtain ⟨k, rfl⟩ : ∃ m, k = m + 1 := ⟨k - 1, by omega⟩
    have hb := bt_data s (4 + j)
    have h15 : (16 : Nat) ^ j ≤ 16 ^ 15 := Nat.pow_le_pow_right (by decide) (by omega)
    have e15 : (16 : Nat) ^ 15 = 1152921504606846976 := by decide
    rw [e15] at h15
    have hbn : bt s ((4 + j : Nat) : Int) = ((byteN s (4 + j) : Nat) : Int) := hb
    rw [name_Number.l0, if_pos (by omega), if_pos (by omega), if_pos (by omega), hbn, dig_eq _ k (byteN_lt s _) (by omega), Option.bind_some, readH]
    cases hd : dig (byteN s (4 + j)) with
    | none => rfl
    | some e =>
      have he := dig_lt _ _ hd
      have hnext : 16 * v + e < 16 ^ (j + 1) := by rw [Nat.pow_succ]; omega
      dsimp only
      rw [if_pos rfl, or_wrap v e (by omega) he, w64 (((4 + j : Nat) : Int) + 1) (by omega), show ((4 + j : Nat) : Int) + 1 = ((4 + (j + 1) : Nat) : Int) by omega]
      exact ih (j + 1) _ k (by omega) hnext (by omega)

/-- Does a text have the front and the back of a segment's name, and its length? -/
def framed (s : ByteArray) : Prop := s.size = 24 ∧ s.data.toList.take 4 = FRONT ∧ s.data.toList.drop 20 = BACK
instance (s : ByteArray) : Decidable (framed s) := inferInstanceAs (Decidable (_ ∧ _ ∧ _))

def numP (s : ByteArray) : Int × Bool := if framed s then endN (readH s 16 0 0) else (0, false)

theorem number_eq (s : ByteArray) : name_Number.f 100 s = some (numP s) := by
  unfold name_Number.f numP
  by_cases hs : s.size = 24
  · have e1 : (s.extract 0 4).toList = s.data.toList.take 4 := by
      rw [ex_data, Array.toList_extract]; simp [List.extract]
    have e2 : (s.extract (20 : Int).toNat 24).toList = s.data.toList.drop 20 := by
      rw [ex_data, Array.toList_extract]
      have hl := dl s
      simp only [List.extract]
      rw [List.take_of_length_le]
      · rfl
      · rw [List.length_drop, hl, hs]; decide
    have hsi : (s.size : Int) = 24 := by omega
    have e2' : (s.extract (20 : Int).toNat s.size).toList = s.data.toList.drop 20 := by rw [hs]; exact e2
    rw [hsi, if_pos rfl, if_pos (by decide), if_pos (by decide), e1]
    by_cases hf : s.data.toList.take 4 = FRONT
    · rw [if_pos (show s.data.toList.take 4 = ([115, 101, 103, 45] : List UInt8) from hf), w64 _ (by omega), show (24 : Int) - 4 = 20 by decide, if_pos (by decide), if_pos (by decide), e2', name_Number.j0]
      by_cases hbk : s.data.toList.drop 20 = BACK
      · have hb2 : (s.data.toList.drop 20 != ([46, 108, 111, 103] : List UInt8)) = false := by rw [hbk]; decide
        rw [hb2, if_neg (by decide), if_pos (show framed s from ⟨hs, hf, hbk⟩)]
        have h := prog_loop s hs 16 0 0 99 (by omega) (by rw [Nat.pow_zero]; omega) (by omega)
        rw [show wrap64 ((0 : Nat) : Int) = 0 from w64 0 (by decide), show ((4 + 0 : Nat) : Int) = 4 by decide] at h
        exact h
      · have hb2 : (s.data.toList.drop 20 != ([46, 108, 111, 103] : List UInt8)) = true := bne_iff_ne.mpr hbk
        rw [hb2, if_pos rfl, if_neg (fun h : framed s => hbk h.2.2)]
    · rw [if_neg (show ¬ s.data.toList.take 4 = ([115, 101, 103, 45] : List UInt8) from hf), name_Number.j0, if_pos rfl, if_neg (fun h : framed s => hf h.2.1)]
  · rw [if_neg (by omega), name_Number.j0, if_pos rfl, if_neg (fun h : framed s => hs h.1)]

/-! the reference's -/
theorem l1_step (s : ByteArray) (hs : s.size = 24) (x4 : Int) (j : Nat) (hj : j < 16) (k : Nat) (q : Nat) (x6 : Int) (hq : q < 16) :
    flumeref8_Number.l1 (k + 1) s x4 ((4 + j : Nat) : Int) x6 (q : Int) = flumeref8_Number.l1 k s x4 ((4 + j : Nat) : Int) (if (hx q).toNat = byteN s (4 + j) then (q : Int) else x6) ((q + 1 : Nat) : Int) := by
  have hbn : bt s ((4 + j : Nat) : Int) = ((byteN s (4 + j) : Nat) : Int) := bt_data s (4 + j)
  have hhx : bt (⟨#[48, 49, 50, 51, 52, 53, 54, 55, 56, 57, 97, 98, 99, 100, 101, 102]⟩ : ByteArray) (q : Int) = (((hx q).toNat : Nat) : Int) := by
    have h0 := bt_range HEX (q : Int)
    have h1 : (hx q).toNat = (bt HEX (q : Int)).toNat % 256 := UInt8.toNat_ofNat'
    show bt HEX (q : Int) = _
    rw [h1]; omega
  rw [flumeref8_Number.l1, if_pos (by omega), if_pos (by omega), if_pos (by omega), if_pos (by omega), hbn, hhx, w64 _ (by omega), show (q : Int) + 1 = ((q + 1 : Nat) : Int) by omega]
  by_cases h : (hx q).toNat = byteN s (4 + j)
  · rw [if_pos (by omega), if_pos h]
  · rw [if_neg (by omega), if_neg h]

/-- The figure found among the first q, the last one that fits. -/
def lastFig (b : Nat) : Nat → Int
  | 0 => -1
  | q + 1 => if (hx q).toNat = b then (q : Int) else lastFig b q
theorem lastFig_fin : ∀ b : Fin 256, lastFig b.val 16 = (match dig b.val with | some d => (d : Int) | none => -1) := by decide +kernel

theorem l1_all (s : ByteArray) (hs : s.size = 24) (x4 : Int) (j : Nat) (hj : j < 16) : ∀ (d q k : Nat), q + d = 16 →
    flumeref8_Number.l1 (k + d) s x4 ((4 + j : Nat) : Int) (lastFig (byteN s (4 + j)) q) (q : Int) = flumeref8_Number.l1 k s x4 ((4 + j : Nat) : Int) (lastFig (byteN s (4 + j)) 16) 16 := by
  intro d
  induction d with
  | zero => intro q k hq; obtain rfl : q = 16 := by omega
            rfl
  | succ d ih =>
    intro q k hq
    rw [show k + (d + 1) = (k + d) + 1 by omega, l1_step s hs x4 j hj _ q _ (by omega)]
    exact ih (q + 1) k (by omega)

def endR (s : ByteArray) (v : Option Nat) : Int × Bool := match v with
  | none => (0, false)
  | some v => if 1 ≤ v ∧ v < 9223372036854775808 then (if (segName v).toList = s.toList then ((v : Int), true) else (0, false)) else (0, false)

theorem ref_loop (s : ByteArray) (hs : s.size = 24) : ∀ (d j v k : Nat), j + d = 16 → v < 16 ^ j → 20 * d + 40 < k →
    flumeref8_Number.l0 k s (v : Int) ((4 + j : Nat) : Int) = some (endR s (readH s d j v)) := by
  intro d
  induction d with
  | zero =>
    intro j v k hj hv hk
    obtain ⟨k, rfl⟩ : ∃ m, k = m + 1 := ⟨k - 1, by omega⟩
    obtain rfl : j = 16 := by omega
    have hv64 : v < 18446744073709551616 := Nat.lt_of_lt_of_le hv (by decide)
    rw [flumeref8_Number.l0, if_neg (by omega), readH, endR]
    by_cases h : 1 ≤ v ∧ v < 9223372036854775808
    · rw [if_pos h, w64 _ (by omega), segref_eq v h.1 h.2 k (by omega), Option.bind_some, if_pos rfl]
      by_cases he : (segName v).toList = s.toList
      · rw [if_pos he, if_pos he]
      · rw [if_neg he, if_neg he]
    · rw [if_neg h, segref_none _ (by unfold wrap64; omega), Option.bind_some, if_neg (by decide)]
  | succ d ih =>
    intro j v k hj hv hk
    obtain ⟨k, rfl⟩ : ∃ m, k = m + 18 := ⟨k - 18, by omega⟩
    have h15 : (16 : Nat) ^ j ≤ 16 ^ 15 := Nat.pow_le_pow_right (by decide) (by omega)
    have e15 : (16 : Nat) ^ 15 = 1152921504606846976 := by decide
    rw [e15] at h15
    have hall := l1_all s hs (v : Int) j (by omega) 16 0 (k + 1) rfl
    have hlf := lastFig_fin ⟨byteN s (4 + j), byteN_lt s _⟩
    rw [flumeref8_Number.l0, if_pos (by omega), readH]
    rw [show k + 17 = k + 1 + 16 by omega]
    have e0 : lastFig (byteN s (4 + j)) 0 = -1 := rfl
    rw [e0, show ((0 : Nat) : Int) = 0 from rfl] at hall
    rw [hall, flumeref8_Number.l1, if_neg (by decide)]
    have hlf : lastFig (byteN s (4 + j)) 16 = _ := hlf
    rw [hlf]
    cases hd : dig (byteN s (4 + j)) with
    | none => dsimp only; rw [if_pos (by decide)]; rfl
    | some e =>
      have he := dig_lt _ _ hd
      have hnext : 16 * v + e < 16 ^ (j + 1) := by rw [Nat.pow_succ]; omega
      dsimp only
      have eu : IntKind.u64.wrap (IntKind.u64.wrap ((v : Int) * 16) + IntKind.u64.wrap (e : Int)) = ((16 * v + e : Nat) : Int) := by
        rw [IntKind.wrap_u64, IntKind.wrap_u64, IntKind.wrap_u64]; omega
      rw [if_neg (by omega), eu, w64 (((4 + j : Nat) : Int) + 1) (by omega), show ((4 + j : Nat) : Int) + 1 = ((4 + (j + 1) : Nat) : Int) by omega]
      exact ih (j + 1) _ k (by omega) hnext (by omega)

theorem readH_figs (s : ByteArray) (hs : s.size = 24) : ∀ (d j v u : Nat), j + d = 16 → readH s d j v = some u → u / 16 ^ d = v ∧ figs u d = (s.data.toList.drop (4 + j)).take d := by
  intro d
  induction d with
  | zero =>
    intro j v u hj h
    rw [readH] at h
    injection h with h
    subst h
    simp [figs]
  | succ d ih =>
    intro j v u hj h
    rw [readH] at h
    cases hd : dig (byteN s (4 + j)) with
    | none => rw [hd] at h; cases h
    | some e =>
      rw [hd] at h
      have he := dig_lt _ _ hd
      obtain ⟨h1, h2⟩ := ih (j + 1) (16 * v + e) u (by omega) h
      have hx1 := hx_dig _ _ (byteN_lt s _) hd
      have hl : 4 + j < s.data.toList.length := by rw [dl]; omega
      have hb : hx e = s.data.toList[4 + j] := by
        apply UInt8.toNat_inj.1
        rw [hx1]
        unfold byteN
        rw [List.getD_eq_getElem?_getD, List.getElem?_eq_getElem hl]; rfl
      constructor
      · rw [Nat.pow_succ, ← Nat.div_div_eq_div_mul, h1]; omega
      · rw [figs, h1, h2, show (16 * v + e) % 16 = e by omega, hb, List.drop_eq_getElem_cons hl, List.take_succ_cons]
        rfl

theorem framed_iff (s : ByteArray) (hs : s.size = 24) (u : Nat) (h : readH s 16 0 0 = some u) : (segName u).toList = s.toList ↔ framed s := by
  obtain ⟨_, hf⟩ := readH_figs s hs 16 0 0 u (by omega) h
  rw [seg_toList, ByteArray.toList_eq]
  have hl := dl s
  have hsplit : s.data.toList = s.data.toList.take 4 ++ (s.data.toList.drop 4).take 16 ++ s.data.toList.drop 20 := by
    rw [List.append_assoc]
    have e1 : (s.data.toList.drop 4).take 16 ++ s.data.toList.drop 20 = s.data.toList.drop 4 := by
      have := List.take_append_drop 16 (s.data.toList.drop 4)
      rw [List.drop_drop] at this
      exact this
    rw [e1, List.take_append_drop]
  constructor
  · intro he
    refine ⟨hs, ?_, ?_⟩
    · rw [← he]; simp [FRONT]
    · rw [← he, List.drop_append_of_le_length (by simp [FRONT, figs_length])]
      rw [List.drop_eq_nil_of_le (by simp [FRONT, figs_length])]; rfl
  · intro hfr
    rw [hf, ← hfr.2.1, ← hfr.2.2]
    exact hsplit.symm

theorem numref_eq (s : ByteArray) : flumeref8_Number.f 500 s = some (numP s) := by
  unfold flumeref8_Number.f numP
  by_cases hs : s.size = 24
  · have h := ref_loop s hs 16 0 0 500 (by omega) (by rw [Nat.pow_zero]; omega) (by omega)
    rw [show ((0 : Nat) : Int) = 0 from rfl, show ((4 + 0 : Nat) : Int) = 4 by decide] at h
    rw [if_pos (by omega), h]
    congr 1
    cases hr : readH s 16 0 0 with
    | none =>
      rw [endR]
      by_cases hf : framed s
      · rw [if_pos hf]; rfl
      · rw [if_neg hf]
    | some u =>
      have hi := framed_iff s hs u hr
      rw [endR]
      by_cases hu : 1 ≤ u ∧ u < 9223372036854775808
      · rw [if_pos hu]
        by_cases hf : framed s
        · rw [if_pos (hi.2 hf), if_pos hf, endN]
          rw [if_pos hu]
        · rw [if_neg (fun h => hf (hi.1 h)), if_neg hf]
      · rw [if_neg hu]
        by_cases hf : framed s
        · rw [if_pos hf, endN, if_neg hu]
        · rw [if_neg hf]
  · rw [if_neg (by omega), if_neg (fun h : framed s => hs h.1)]

def kindP (s : ByteArray) : Int := if mayP s = true then (if (numP s).2 = true then 1 else if s.toList = ([99, 97, 116, 97, 108, 111, 103] : List UInt8) then 2 else if s.toList = ([99, 97, 116, 97, 108, 111, 103, 45, 110, 101, 120, 116] : List UInt8) then 3 else if s.toList = ([115, 101, 103, 109, 101, 110, 116, 45, 110, 101, 120, 116] : List UInt8) then 3 else 4) else 0

theorem kind_eq (s : ByteArray) : name_Kind.f 100 s = some (kindP s) := by
  unfold name_Kind.f kindP
  rw [number_eq, Option.bind_some, may_eq, Option.bind_some]
  repeat' split
  all_goals first | rfl | contradiction

theorem mayref_more (s : ByteArray) : ∀ d, flumeref8_May.f (100 + d) s = some (mayP s) := by
  intro d
  induction d with
  | zero => exact mayref_eq s
  | succ d ih => exact flumeref8_May.mono _ _ _ ih

theorem kindref_eq (s : ByteArray) : flumeref8_Kind.f 500 s = some (kindP s) := by
  unfold flumeref8_Kind.f kindP
  rw [numref_eq, Option.bind_some, show (500 : Nat) = 100 + 400 from rfl, mayref_more, Option.bind_some]
  repeat' split
  all_goals first | rfl | contradiction
end Go.Proofs.Ytooddfmjgplbjaa
