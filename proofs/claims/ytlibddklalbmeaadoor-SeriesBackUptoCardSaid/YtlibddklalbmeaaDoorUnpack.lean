/- What series.Unpack comes to: the numbers read one behind the other, then the bits that fill the last byte. -/
import Derived.Test.YtlibddklalbmeaaDoorRead
namespace Go.Proofs.YtlibddklalbmeaaDoor
open Go.RowKit Go.Proofs.YtlibddklalbmeaaDoor.QA Go.Proofs.YtlibddklalbmeaaDoorW.PrintWords Go.Proofs.YtlibddklalbmeaaDoorW.PrintLast Go.Proofs.YtlibddklalbmeaaDoorW.PrintMore
attribute [local go_sem] max2_int min2_int fl_store fl_bits fl_frombits
set_option linter.unusedVariables false
set_option linter.unusedSimpArgs false

/-- So many numbers from a place: the error, the numbers, the place behind. -/
def readF (bs : List Nat) : Nat → Nat → Nat → Nat → List Nat → Nat × List Nat × Nat
  | 0, _, _, a, acc => (0, acc, a)
  | n + 1, i, last, a, acc => if (numF bs a i last).2.1 = 0 then readF bs n (i + 1) (numF bs a i last).1 (numF bs a i last).2.2 (acc ++ [(numF bs a i last).1]) else ((numF bs a i last).2.1, [], a)

def endF (bs : List Nat) (size : Nat) (r : Nat × List Nat × Nat) : Nat × List Nat × Nat :=
  if r.1 = 0 then (if (restF bs 7 r.2.2).2.1 = 0 then (0, r.2.1, size + (restF bs 7 r.2.2).1) else ((restF bs 7 r.2.2).2.1, [], 0)) else (r.1, [], 0)

/-- The whole: the error, the numbers, how many bytes. -/
def unpackF (l : List Nat) (cnt z er : Nat) : Nat × List Nat × Nat :=
  if er = 0 then (if 4096 < cnt then (9, [], 0) else endF (l.drop z) z (readF (l.drop z) cnt 0 0 0 [])) else (er, [], 0)

def UnpPost (w : World) (r : Nat × List Nat × Nat) (e : Ending) (w' : World) : Prop :=
  ∃ v, e = .returned (.tuple #[v, .int .i64 (r.2.2 : Nat), .int .i64 (r.1 : Nat)]) ∧ Kd.R Kd.fl 33 w' w.heap.size (fun _ => True) v r.2.1 ∧ Below w.heap.size w w'

theorem restF_le (bs : List Nat) : ∀ (n a : Nat), (restF bs n a).1 ≤ (a + n) / 8 := by
  intro n
  induction n with
  | zero => intro a; simp [restF]
  | succ n ih =>
    intro a
    unfold restF
    split
    · dsimp only; omega
    · split
      · exact Nat.zero_le _
      · have := ih (a + 1)
        rw [show a + (n + 1) = a + 1 + n by omega]; exact this

theorem readF_step {bs : List Nat} {a i last x p n : Nat} {acc : List Nat} (h : numF bs a i last = (x, 0, p)) : readF bs (n + 1) i last a acc = readF bs n (i + 1) x p (acc ++ [x]) := by
  rw [readF, h, if_pos rfl]
theorem readF_err {bs : List Nat} {a i last x p e n : Nat} {acc : List Nat} (h : numF bs a i last = (x, e, p)) (he : ¬ e = 0) : readF bs (n + 1) i last a acc = (e, [], a) := by
  rw [readF, h, if_neg he]

theorem up_drop (l : List Nat) (n : Nat) : (up l).drop n = up (l.drop n) := by simp [up, List.map_drop]

set_option maxHeartbeats 4000000 in
set_option maxRecDepth 100000 in
theorem unpack_calls (w : World) (A : Option Addr) (c : Nat) (l : List Nat) (bs : List Int) (hbs : bs = up l) (hb : ∀ x ∈ l, x < 256) (hl : l.length ≤ 140737488351232) (k cnt z er : Nat)
    (hv : wire_ReadVarint.f k bs = some ((cnt : Int), (z : Int), (er : Int))) (hz : z ≤ l.length) (hr : Kd.C (Kd.int .u8) w A bs.length bs) (hc : bs.length ≤ c) :
    Calls Tryd.prog 10 #[.slice A bs.length c] w (UnpPost w (unpackF l cnt z er)) := by
  have hlen : bs.length = l.length := by rw [hbs, up_length]
  have HV := Aside0.mk hv
  have HBS := Aside0.mk hbs
  have HLB := Aside0.mk hb
  have HLL := Aside0.mk hl
  have HZ := Aside0.mk hz
  have HR := Aside0.mk hr
  have HC := Aside0.mk hc
  have HLE := Aside0.mk hlen
  clear hv hbs hb hl hr hc hlen hz
  go_enter Tryd.func10, Tryd.ntmps10
  go_wp2_with fail
  refine (wire_ReadVarint.calls k A c bs _ _ _ _ HR.out HC.out HV.out).mono ?_
  rintro e w1 ⟨rfl, hdr⟩
  have HD := Aside0.mk hdr.below
  clear hdr
  by_cases her : er = 0
  · subst her
    by_cases hm : 4096 < cnt
    · have hd : decide ((4096 : Int) < (cnt : Int)) = true := by simp; omega
      have HM := Aside0.mk hm
      clear hm
      go_wp2_with fail
      go_ret3
      have e : unpackF l cnt z 0 = (9, [], 0) := by unfold unpackF; rw [if_pos rfl, if_pos HM.out]
      rw [e]
      exact ⟨_, rfl, Kd.R_nil _ _ _ _ _, HD.out⟩
    · have hd : decide ((4096 : Int) < (cnt : Int)) = false := by simp; omega
      have e0 : unpackF l cnt z 0 = endF (l.drop z) z (readF (l.drop z) cnt 0 0 0 []) := by unfold unpackF; rw [if_pos rfl, if_neg hm]
      have HM := Aside0.mk hm
      have HE := Aside0.mk e0
      clear hm e0
      obtain ⟨bs2, hbs2⟩ : ∃ bs2, bs2 = up (l.drop z) := ⟨_, rfl⟩
      have hd2 : bs.drop z = bs2 := by rw [HBS.out, hbs2, up_drop]
      have hl2 : bs2.length = l.length - z := by rw [hbs2, up_length, List.length_drop]
      obtain ⟨A2, hcut, hC2⟩ : ∃ A2 : Option Addr, (∀ W : World, (Instr.slice 23 (.slice A bs.length c) (some (.int .i64 (z : Int))) none none).run Tryd.prog W = .ok (.slice A2 bs2.length (c - z)) W) ∧ Kd.C (Kd.int .u8) w A2 bs2.length bs2 := by
        refine ⟨if c = z then A else A.map (·.add (z * 1)), fun W => ?_, ?_⟩
        · have := cut_from (P := Tryd.prog) 23 5 .i64 Tryd.underlying23 (i := (Tryd.prog.info? 5).get (by kernel_rfl)) (by kernel_rfl) 1 (by kernel_rfl) A bs.length c (z : Int) (by omega) (by rw [HLE.out]; have := HZ.out; omega) W
          rw [this, hl2, HLE.out]; rfl
        · have := Kd.C_drop (k := Kd.int .u8) (m := z) HR.out (by rw [HLE.out]; exact HZ.out) HC.out
          rw [hd2] at this; exact this
      have HBS2 := Aside0.mk hbs2
      have HC2 := Aside0.mk hC2
      have HL2 := Aside0.mk hl2
      clear hbs2 hd2 hl2 hC2
      have hcw : wrap64 (cnt : Int) = (cnt : Int) := w64_nat cnt (by have := HM.out; omega)
      have HCW := Aside0.mk hcw
      clear hcw
      go_wp2_with fail
      rw [HCW.out]
      have HTB := Aside0.mk (show ∀ x ∈ l.drop z, x < 256 from fun x hx => HLB.out x (List.mem_of_mem_drop hx))
      have HTL := Aside0.mk (show (l.drop z).length ≤ 140737488351232 by rw [List.length_drop]; have := HLL.out; omega)
      generalize l.drop z = tl at *
      have hS := IsS59.new w w1 A2 (c - z) bs2 0 HD.out HC2.out
      have HS := Aside0.mk hS
      have hB1 : Below w.heap.size w (w1.alloc (.cells #[.slice A2 bs2.length (c - z), .int .i64 0] 59)) := HD.out.alloc HD.out.size _
      have HB1 := Aside0.mk hB1
      clear hS hB1
      go_loopg [9, 10, 33] cnt (fun m v9 v10 v33 wr => ∃ (j last a : Nat) (xs : List Nat), m + j = cnt ∧ v10 = .int .u64 last ∧ v33 = .int .i64 j ∧ Aside0 (readF tl m j last a xs = readF tl cnt 0 0 0 []) ∧ Aside0 (last < 18446744073709551616 ∧ a ≤ 8 * tl.length ∧ xs.length = j) ∧ Aside0 (Kd.R Kd.fl 33 wr w.heap.size (fun _ => True) v9 xs) ∧ Aside0 (IsS59 w wr w1.heap.size bs2 a) ∧ Aside0 (Below w.heap.size w wr))
      case atStart => exact ⟨0, 0, 0, [], rfl, rfl, rfl, ⟨rfl⟩, ⟨by decide, by omega, rfl⟩, ⟨Kd.R_nil _ _ _ _ _⟩, HS, HB1⟩
      case round =>
        clear HS HB1
        obtain ⟨j, last, a, xs, hj, rfl, rfl, HRF, HF, HX, HS, HB1⟩ := hrel
        cases gk with
        | zero =>
          have hlt : decide ((j : Int) < (cnt : Int)) = false := by simp; omega
          obtain rfl : j = cnt := by omega
          have e1 : readF tl j 0 0 0 [] = (0, xs, a) := HRF.out.symm
          rw [e1] at HE
          have HJ := Aside0.mk hj
          clear hj
          obtain ⟨⟨nb, er, p⟩, hrest⟩ : ∃ r, restF tl 7 a = r := ⟨_, rfl⟩
          have hrf := rest_eq tl HTB.out HTL.out a 100 HF.out.2.1 (by decide)
          have hnb : nb ≤ 140737488351240 := by have h1 := restF_le tl 7 a; rw [hrest] at h1; have h2 := HTL.out; have h3 := HF.out.2.1; dsimp only at h1; omega
          have hadd : wrap64 ((z : Int) + (nb : Int)) = ((z + nb : Nat) : Int) := w64_add z nb (by have := HZ.out; have := HLL.out; omega)
          rw [hrest] at hrf
          rw [← HBS2.out] at hrf
          have HRS := Aside0.mk hrf
          have HRE := Aside0.mk hrest
          clear hrf hrest hnb
          go_wp2_with fail
          refine (series_reader_rest.calls 100 w1.heap.size bs2 a _ _ _ w _ HS.out HB1.out HRS.out).mono ?_
          rintro e w2 ⟨rfl, hs2, hb2, hk2⟩
          have HX2 : Aside0 (Kd.R Kd.fl 33 w2 w.heap.size (fun _ => True) _ xs) := ⟨Kd.R_mono (Kd.R_keep (HS.out.apart HX.out (by decide)) hk2 (fun _ h => h.2)) (fun _ _ => trivial)⟩
          have HB2 := Aside0.mk hb2
          clear hs2 hb2 hk2 HX HS HB1
          by_cases her : er = 0
          · subst her
            go_wp2_with fail
            go_ret3
            have e : unpackF l j z 0 = (0, xs, z + nb) := by rw [HE.out, endF, if_pos rfl, HRE.out]; rfl
            rw [e]
            exact ⟨_, by dsimp only; rw [hadd]; rfl, HX2.out, HB2.out⟩
          · have hd0 : ((er : Int) == 0) = false := by simpa using her
            have hd1 : ((er : Int) != 0) = true := by simpa using her
            have HEN := Aside0.mk her
            clear her
            go_wp2_with fail
            go_ret3
            have e : unpackF l j z 0 = (er, [], 0) := by rw [HE.out, endF, if_pos rfl, HRE.out]; exact if_neg HEN.out
            rw [e]
            exact ⟨_, rfl, Kd.R_nil _ _ _ _ _, HB2.out⟩
        | succ m =>
          have hlt : decide ((j : Int) < (cnt : Int)) = true := by simp; omega
          have hlt2 : decide (j < cnt) = true := by simp; omega
          have hj1 : wrap64 ((j : Int) + 1) = ((j + 1 : Nat) : Int) := w64_succ j (by have := HM.out; omega)
          have HJ := Aside0.mk hj
          obtain ⟨⟨x, en, p⟩, hnum⟩ : ∃ r, numF tl a j last = r := ⟨_, rfl⟩
          have hnf := number_eq tl HTB.out HTL.out a j last 100 HF.out.1 HF.out.2.1 (by decide)
          have hpl := numF_place tl a j last HF.out.1 HF.out.2.1
          rw [hnum] at hnf hpl
          rw [← HBS2.out] at hnf
          have HNF := Aside0.mk hnf
          have HPL := Aside0.mk hpl
          have HN := Aside0.mk hnum
          clear hnf hpl hnum hj
          go_wp2_with fail
          refine (series_reader_number.calls 100 w1.heap.size bs2 a j last _ _ _ w _ HS.out HB1.out HNF.out).mono ?_
          rintro e w2 ⟨rfl, hs2, hb2, hk2⟩
          have HX2 : Aside0 (Kd.R Kd.fl 33 w2 w.heap.size (fun _ => True) _ xs) := ⟨Kd.R_mono (Kd.R_keep (HS.out.apart HX.out (by decide)) hk2 (fun _ h => h.2)) (fun _ _ => trivial)⟩
          have HS2 := Aside0.mk hs2
          have HB2 := Aside0.mk hb2
          clear hs2 hb2 hk2 HX HS HB1
          by_cases hen : en = 0
          · subst hen
            have HRF2 : Aside0 (readF tl m (j + 1) x p (xs ++ [x]) = readF tl cnt 0 0 0 []) := ⟨by rw [← HRF.out, readF_step HN.out]⟩
            have hxl : xs.length < 17592186044416 := by have := HF.out.2.2; have := HM.out; have := HJ.out; omega
            have HXL := Aside0.mk hxl
            clear hxl
            go_wp2_with (first | ((with_reducible refine gate_builtin (b := .append) (xs := #[.tmp 46, .tmp 49]) rfl ?_); at_builtin; refine Kd.R_append Kd.fl (w0 := w) w.heap.size rfl (.tmp 46) (.tmp 49) 25 33 (.float .f64 0) 8 rfl Tryd.underlying25 info33 rfl (by decide) (by omega) u9 xs x [.float .f64 x] (fun _ => True) (fun _ => False) rfl rfl rfl (fun _ hk => hk.elim) (fun _ _ => trivial) HX2.out HB2.out (below_size HB2.out) (by have := HXL.out; omega) ?_
                                  intro v1 w3 ho hb3 hg3 hat
                                  have HO := Aside0.mk ho
                                  have HB3 := Aside0.mk hb3
                                  have HS3 := Aside0.mk (HS2.out.grown hg3 (HS2.out.own_ne HX2.out (by decide)))
                                  clear ho hb3 hg3 hat HX2 HB2 HS2))
            go_roundg m
            case measure => omega
            case rel => exact ⟨j + 1, x, p, xs ++ [x], by have := HJ.out; omega, rfl, by rw [hj1], HRF2, ⟨HPL.out.2, HPL.out.1, by simp [HF.out.2.2]⟩, HO, HS3, HB3⟩
          · have hd0 : ((en : Int) == 0) = false := by simpa using hen
            have hd1 : ((en : Int) != 0) = true := by simpa using hen
            have HEN := Aside0.mk hen
            clear hen
            go_wp2_with fail
            go_ret3
            have e2 : readF tl cnt 0 0 0 [] = (en, [], a) := by
              rw [← HRF.out, readF_err HN.out HEN.out]
            have e : unpackF l cnt z 0 = (en, [], 0) := by rw [HE.out, e2, endF, if_neg HEN.out]
            rw [e]
            exact ⟨_, rfl, Kd.R_nil _ _ _ _ _, HB2.out⟩
  · have hd0 : ((er : Int) == 0) = false := by simpa using her
    have hd1 : ((er : Int) != 0) = true := by simpa using her
    have HER := Aside0.mk her
    clear her
    go_wp2_with fail
    go_ret3
    have e : unpackF l cnt z er = (er, [], 0) := by unfold unpackF; rw [if_neg HER.out]
    rw [e]
    exact ⟨_, rfl, Kd.R_nil _ _ _ _ _, HD.out⟩
end Go.Proofs.YtlibddklalbmeaaDoor
