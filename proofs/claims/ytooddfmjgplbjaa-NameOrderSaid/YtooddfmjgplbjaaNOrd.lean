/- NameOrder walked. -/
import Derived.Test.YtooddfmjgplbjaaNNum
namespace Go.Proofs.Ytooddfmjgplbjaa
open Go.RowKit Go.Proofs.Ytooddfmjgplbjaa.QA Go.Proofs.YtooddfmjgplbjaaW.PrintWords Go.Proofs.YtooddfmjgplbjaaW.PrintLast Go.Proofs.YtooddfmjgplbjaaW.PrintMore
attribute [local go_sem] max2_int min2_int fl_store
set_option linter.unusedVariables false
set_option linter.unusedSimpArgs false

set_option maxHeartbeats 4000000 in
set_option maxRecDepth 100000 in
theorem nameorder_calls (w : World) (a b : Int) (ha : a < 9223372036854775808) (hb : b < 9223372036854775808) : Calls Try.prog 4 #[.int .i64 a, .int .i64 b] w fun e w' => e = .returned (.bool true) ∧ Below w.heap.size w w' := by
  go_enter Try.func4, Try.ntmps4
  go_wp2_with fail
  refine (begun_calls w).mono ?_
  rintro e w1 ⟨rfl, hb1⟩
  have HB1 := Aside0.mk hb1
  clear hb1
  by_cases h1 : a < 1 ∨ b < 1
  · have hmin : min a b < 1 := by omega
    have hd : (decide (a < 1) || decide (b < 1)) = true := by simpa using h1
    have HMIN := Aside0.mk hmin
    by_cases h2 : a < 1
    · have hd1 : decide (a < 1) = true := decide_eq_true h2
      clear h1 h2 hd hmin
      go_wp2_with fail
      refine (seg_none w1 (min a b) HMIN.out).mono ?_
      rintro e w2 ⟨rfl, rfl⟩
      go_wp2_with fail
      go_ret
      exact ⟨rfl, HB1.out⟩
    · have hd1 : decide (a < 1) = false := decide_eq_false h2
      have hd2 : decide (b < 1) = true := decide_eq_true (by omega)
      clear h1 h2 hd hmin
      go_wp2_with fail
      refine (seg_none w1 (min a b) HMIN.out).mono ?_
      rintro e w2 ⟨rfl, rfl⟩
      go_wp2_with fail
      go_ret
      exact ⟨rfl, HB1.out⟩
  · obtain ⟨n, rfl⟩ := Int.eq_ofNat_of_zero_le (show 0 ≤ a by omega)
    obtain ⟨m, rfl⟩ := Int.eq_ofNat_of_zero_le (show 0 ≤ b by omega)
    have hn1 : 1 ≤ n := by omega
    have hm1 : 1 ≤ m := by omega
    have hn2 : n < 9223372036854775808 := by omega
    have hm2 : m < 9223372036854775808 := by omega
    have hd1 : decide ((n : Int) < 1) = false := by simp; omega
    have hd2 : decide ((m : Int) < 1) = false := by simp; omega
    have HN1 := Aside0.mk hn1
    have HN2 := Aside0.mk hn2
    have HM1 := Aside0.mk hm1
    have HM2 := Aside0.mk hm2
    clear h1 ha hb hn1 hn2 hm1 hm2
    go_wp2_with fail
    refine (seg_calls w1 n HN1.out HN2.out).mono ?_
    rintro e w2 ⟨rfl, hb2⟩
    have HB2 := Aside0.mk (HB1.out.trans (hb2.mono HB1.out.size))
    clear hb2 HB1
    obtain ⟨s, hs⟩ : ∃ s, s = segName n := ⟨_, rfl⟩
    rw [← hs]
    have HS := Aside0.mk hs
    clear hs
    go_wp2_with fail
    refine (seg_calls w2 m HM1.out HM2.out).mono ?_
    rintro e w3 ⟨rfl, hb3⟩
    have HB3 := Aside0.mk (HB2.out.trans (hb3.mono HB2.out.size))
    clear hb3 HB2
    obtain ⟨t, ht⟩ : ∃ t, t = segName m := ⟨_, rfl⟩
    rw [← ht]
    have HT := Aside0.mk ht
    clear ht
    have f1 : Op.bytesLess s.toList t.toList = decide (n < m) := by rw [HS.out, HT.out]; exact seg_less n m HN2.out HM2.out
    have f2 : (s.toList == t.toList) = ((n : Int) == (m : Int)) := by rw [HS.out, HT.out]; exact seg_eq n m HN2.out HM2.out
    have f3 : (s.size : Int) = 24 := by rw [HS.out, seg_size]; rfl
    have f4 : s.size = 24 := by rw [HS.out, seg_size]
    have hk := seg_kind n HN1.out HN2.out
    rw [← HS.out] at hk
    have HKD := Aside0.mk hk
    have hmy : mayP s = true := by rw [HS.out]; exact seg_may n
    have hme := may_eq s
    rw [hmy] at hme
    have HME := Aside0.mk hme
    have n1 : ¬ s.toList = (⟨#[99, 97, 116, 97, 108, 111, 103]⟩ : ByteArray).toList := by rw [HS.out]; exact seg_ne n _ (by decide)
    have n2 : ¬ s.toList = (⟨#[115, 101, 103, 109, 101, 110, 116, 45, 110, 101, 120, 116]⟩ : ByteArray).toList := by rw [HS.out]; exact seg_ne n _ (by decide)
    rw [show (⟨#[99, 97, 116, 97, 108, 111, 103]⟩ : ByteArray).toList = ([99, 97, 116, 97, 108, 111, 103] : List UInt8) by kernel_rfl] at n1
    rw [show (⟨#[115, 101, 103, 109, 101, 110, 116, 45, 110, 101, 120, 116]⟩ : ByteArray).toList = ([115, 101, 103, 109, 101, 110, 116, 45, 110, 101, 120, 116] : List UInt8) by kernel_rfl] at n2
    have b1 := beq_eq_false_iff_ne.mpr n1
    have b2 := beq_eq_false_iff_ne.mpr n2
    clear hk hmy hme
    go_wp2_with fail
    refine (name_May.calls 100 s true w3 HME.out).mono ?_
    rintro e w4 ⟨rfl, hdr⟩
    have HB4 := Aside0.mk (HB3.out.trans (hdr.below.mono HB3.out.size))
    clear hdr HB3
    go_wp2_with fail
    refine (name_Kind.calls 100 s 1 w4 HKD.out).mono ?_
    rintro e w5 ⟨rfl, hdr⟩
    have HB5 := Aside0.mk (HB4.out.trans (hdr.below.mono HB4.out.size))
    clear hdr HB4
    go_wp2_with fail
    refine (name_Catalog.calls _ w5 rfl).mono ?_
    rintro e w6 ⟨rfl, hdr⟩
    have HB6 := Aside0.mk (HB5.out.trans (hdr.below.mono HB5.out.size))
    clear hdr HB5
    go_wp2_with fail
    refine (name_NextSegment.calls _ w6 rfl).mono ?_
    rintro e w7 ⟨rfl, hdr⟩
    have HB7 := Aside0.mk (HB6.out.trans (hdr.below.mono HB6.out.size))
    clear hdr HB6
    go_wp2_with fail
    go_ret
    exact ⟨rfl, HB7.out⟩
end Go.Proofs.Ytooddfmjgplbjaa
