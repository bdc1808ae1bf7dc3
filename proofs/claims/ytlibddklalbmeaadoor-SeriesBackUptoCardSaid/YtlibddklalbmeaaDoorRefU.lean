/- What the reference's Unpack comes to: the same plain function as the program's. -/
import Derived.Test.YtlibddklalbmeaaDoorUnpack
import Derived.Test.YtlibddklalbmeaaDoorRef
import Derived.BigQuiet
namespace Go.Proofs.YtlibddklalbmeaaDoor
open Go.RowKit Go.Proofs.YtlibddklalbmeaaDoor.QA Go.Proofs.YtlibddklalbmeaaDoorW.PrintWords Go.Proofs.YtlibddklalbmeaaDoorW.PrintLast Go.Proofs.YtlibddklalbmeaaDoorW.PrintMore
attribute [local go_sem] max2_int min2_int fl_store fl_bits fl_frombits
set_option linter.unusedVariables false
set_option linter.unusedSimpArgs false

theorem getv_zero_iff (bs : List Nat) : ∀ (n a : Nat), Ser.getv bs a (n + 1) = 0 ↔ (Ser.rbit bs a = 0 ∧ Ser.getv bs (a + 1) n = 0) := by
  intro n
  induction n with
  | zero => intro a; simp [Ser.getv]
  | succ n ih =>
    intro a
    have e : Ser.getv bs a (n + 1 + 1) = 2 * Ser.getv bs a (n + 1) + Ser.rbit bs (a + (n + 1)) := rfl
    have e2 : Ser.getv bs (a + 1) (n + 1) = 2 * Ser.getv bs (a + 1) n + Ser.rbit bs (a + 1 + n) := rfl
    have h := ih a
    rw [e, e2, show a + 1 + n = a + (n + 1) by omega]
    omega

theorem restF_get (bs : List Nat) : ∀ (n r a : Nat), (8 - a % 8) % 8 = r → r ≤ n →
    (Ser.getv bs a r = 0 → restF bs n a = ((a + r) / 8, 0, a + r)) ∧ (Ser.getv bs a r ≠ 0 → (restF bs n a).2.1 = 4) := by
  intro n
  induction n with
  | zero =>
    intro r a hr hn
    obtain rfl : r = 0 := by omega
    constructor
    · intro _; simp [restF]
    · intro h; exact absurd rfl h
  | succ n ih =>
    intro r a hr hn
    by_cases h0 : a % 8 = 0
    · obtain rfl : r = 0 := by omega
      constructor
      · intro _; rw [restF, if_pos h0]; rfl
      · intro h; exact absurd rfl h
    · obtain ⟨q, rfl⟩ : ∃ q, r = q + 1 := ⟨r - 1, by omega⟩
      have hz := getv_zero_iff bs q a
      have hb := Ser.rbit_le bs a
      have := ih q (a + 1) (by omega) (by omega)
      rw [restF, if_neg h0]
      by_cases h1 : Ser.rbit bs a = 1
      · rw [if_pos h1]
        constructor
        · intro h; have := (hz.1 h).1; omega
        · intro _; rfl
      · rw [if_neg h1]
        constructor
        · intro h; rw [this.1 (hz.1 h).2, show a + 1 + q = a + (q + 1) by omega]
        · intro h; exact this.2 (fun h2 => h (hz.2 ⟨by omega, h2⟩))

theorem tm8i (a : Nat) : Int.tmod (wrap64 (8 - Int.tmod (a : Int) 8)) 8 = (((8 - a % 8) % 8 : Nat) : Int) := by
  rw [tm8, w64 _ (by omega), Int.tmod_eq_emod_of_nonneg (by omega)]; omega

set_option maxHeartbeats 4000000 in
set_option maxRecDepth 100000 in
theorem refunpack_calls (w : World) (A : Option Addr) (c : Nat) (l : List Nat) (bs : List Int) (hbs : bs = up l) (hb : ∀ x ∈ l, x < 256) (hl : l.length ≤ 140737488351232) (k cnt z er : Nat)
    (hv : flumeref1_ReadVarint.f k bs = some ((cnt : Int), (z : Int), (er : Int))) (hz : z ≤ l.length) (hr : Kd.C (Kd.int .u8) w A bs.length bs) (hc : bs.length ≤ c) :
    Calls Tryd.prog 13 #[.slice A bs.length c] w (UnpPost w (unpackF l cnt z er)) := by
  have hlen : bs.length = l.length := by rw [hbs, up_length]
  have HV := Aside0.mk hv
  have HBS := Aside0.mk hbs
  have HLB := Aside0.mk hb
  have HLL := Aside0.mk hl
  have HZ := Aside0.mk hz
  have HR := Aside0.mk hr
  have HC := Aside0.mk hc
  have HLE := Aside0.mk hlen
  clear hv hbs hb hl hr hc hlen hz
  go_enter Tryd.func13, Tryd.ntmps13
  go_wp2_with fail
  refine (flumeref1_ReadVarint.calls k A c bs _ _ _ _ HR.out HC.out HV.out).mono ?_
  rintro e w1 ⟨rfl, hdr⟩
  have HD := Aside0.mk hdr.below
  clear hdr
  by_cases her : er = 0
  · subst her
    by_cases hm : 4096 < cnt
    · have hd : decide ((4096 : Int) < (cnt : Int)) = true := by simp; omega
      have HM := Aside0.mk hm
      clear hm
      go_wp2_with fail
      go_ret3
      have e : unpackF l cnt z 0 = (9, [], 0) := by unfold unpackF; rw [if_pos rfl, if_pos HM.out]
      rw [e]
      exact ⟨_, rfl, Kd.R_nil _ _ _ _ _, HD.out⟩
    · have hd : decide ((4096 : Int) < (cnt : Int)) = false := by simp; omega
      have e0 : unpackF l cnt z 0 = endF (l.drop z) z (readF (l.drop z) cnt 0 0 0 []) := by unfold unpackF; rw [if_pos rfl, if_neg hm]
      have HM := Aside0.mk hm
      have HE := Aside0.mk e0
      clear hm e0
      obtain ⟨bs2, hbs2⟩ : ∃ bs2, bs2 = up (l.drop z) := ⟨_, rfl⟩
      have hd2 : bs.drop z = bs2 := by rw [HBS.out, hbs2, up_drop]
      have hl2 : bs2.length = l.length - z := by rw [hbs2, up_length, List.length_drop]
      obtain ⟨A2, hcut, hC2⟩ : ∃ A2 : Option Addr, (∀ W : World, (Instr.slice 23 (.slice A bs.length c) (some (.int .i64 (z : Int))) none none).run Tryd.prog W = .ok (.slice A2 bs2.length (c - z)) W) ∧ Kd.C (Kd.int .u8) w A2 bs2.length bs2 := by
        refine ⟨if c = z then A else A.map (·.add (z * 1)), fun W => ?_, ?_⟩
        · have := cut_from (P := Tryd.prog) 23 5 .i64 Tryd.underlying23 (i := (Tryd.prog.info? 5).get (by kernel_rfl)) (by kernel_rfl) 1 (by kernel_rfl) A bs.length c (z : Int) (by omega) (by rw [HLE.out]; have := HZ.out; omega) W
          rw [this, hl2, HLE.out]; rfl
        · have := Kd.C_drop (k := Kd.int .u8) (m := z) HR.out (by rw [HLE.out]; exact HZ.out) HC.out
          rw [hd2] at this; exact this
      have HBS2 := Aside0.mk hbs2
      have HC2 := Aside0.mk hC2
      have HL2 := Aside0.mk hl2
      clear hbs2 hd2 hl2 hC2
      have hcw : wrap64 (cnt : Int) = (cnt : Int) := w64_nat cnt (by have := HM.out; omega)
      have HCW := Aside0.mk hcw
      clear hcw
      go_wp2_with fail
      have HTB := Aside0.mk (show ∀ x ∈ l.drop z, x < 256 from fun x hx => HLB.out x (List.mem_of_mem_drop hx))
      have HTL := Aside0.mk (show (l.drop z).length ≤ 140737488351232 by rw [List.length_drop]; have := HLL.out; omega)
      generalize l.drop z = tl at *
      have hS := IsS66.new w w1 A2 (c - z) bs2 0 HD.out HC2.out
      have HS := Aside0.mk hS
      have hB1 : Below w.heap.size w (w1.alloc (.cells #[.slice A2 bs2.length (c - z), .int .i64 0] 66)) := HD.out.alloc HD.out.size _
      have HB1 := Aside0.mk hB1
      clear hS hB1
      go_loopg [9, 10, 11] cnt (fun m v9 v10 v11 wr => ∃ (j last a : Nat) (xs : List Nat), m + j = cnt ∧ v10 = .int .u64 last ∧ v11 = .int .i64 j ∧ Aside0 (readF tl m j last a xs = readF tl cnt 0 0 0 []) ∧ Aside0 (last < 18446744073709551616 ∧ a ≤ 8 * tl.length ∧ xs.length = j ∧ (j = 0 → last = 0)) ∧ Aside0 (Kd.R Kd.fl 33 wr w.heap.size (fun _ => True) v9 xs) ∧ Aside0 (IsS66 w wr w1.heap.size bs2 a) ∧ Aside0 (Below w.heap.size w wr))
      case atStart => exact ⟨0, 0, 0, [], rfl, rfl, rfl, ⟨rfl⟩, ⟨by decide, by omega, rfl, fun _ => rfl⟩, ⟨Kd.R_nil _ _ _ _ _⟩, HS, HB1⟩
      case round =>
        clear HS HB1
        obtain ⟨j, last, a, xs, hj, rfl, rfl, HRF, HF, HX, HS, HB1⟩ := hrel
        have hcw := HCW.out
        cases gk with
        | zero =>
          have hlt : decide ((j : Int) < (cnt : Int)) = false := by simp; omega
          have hlt2 : decide (j < cnt) = false := by simp; omega
          obtain rfl : j = cnt := by omega
          have e1 : readF tl j 0 0 0 [] = (0, xs, a) := HRF.out.symm
          rw [e1] at HE
          have HJ := Aside0.mk hj
          clear hj
          obtain ⟨r, hr⟩ : ∃ r, (8 - a % 8) % 8 = r := ⟨_, rfl⟩
          have hr7 : r ≤ 7 := by omega
          have hap : a + r ≤ 8 * tl.length := by have := HF.out.2.1; omega
          have HR8 : Aside0 (-((a : Int) % 8) % 8 = (r : Int)) := ⟨by omega⟩
          have htk := take_eq tl HTB.out HTL.out a r 100 (by omega) HF.out.2.1 (by omega)
          rw [if_neg (by omega), ← HBS2.out] at htk
          have hrg := restF_get tl 7 r a hr hr7
          obtain ⟨v, hv⟩ : ∃ v, Ser.getv tl a r = v := ⟨_, rfl⟩
          rw [hv] at htk hrg
          have HTK := Aside0.mk htk
          have HRG := Aside0.mk hrg
          have HAP := Aside0.mk hap
          obtain ⟨AS, cS, HGS, hgs, HSr⟩ := HS.out
          have hcz0 := cellS66_0 HGS
          have hcz1 := cellS66_1 HGS
          clear htk hrg hv hap hr hr7 HGS hgs HSr
          go_wp2_with fail
          rw [HR8.out]
          refine (flumeref5_Bits_take.calls 100 w1.heap.size bs2 a r _ _ _ w _ HS.out HB1.out HTK.out).mono ?_
          rintro e w2 ⟨rfl, hs2, hb2, hk2⟩
          have HX2 : Aside0 (Kd.R Kd.fl 33 w2 w.heap.size (fun _ => True) u9 xs) := ⟨Kd.R_mono (Kd.R_keep (HS.out.apart HX.out (by decide)) hk2 (fun _ h => h.2)) (fun _ _ => trivial)⟩
          have HS2 := Aside0.mk hs2
          have HB2 := Aside0.mk hb2
          clear hs2 hb2 hk2 HX HS HB1 hcz0 hcz1
          by_cases hv0 : v = 0
          · subst hv0
            obtain ⟨AS2, cS2, HGS2, hgs2, HSr2⟩ := HS2.out
            have hcz0 := cellS66_0 HGS2
            have hcz1 := cellS66_1 HGS2
            have hadd : wrap64 ((z : Int) + wrap64 (Int.tdiv ((a : Int) + (r : Int)) 8)) = ((z + (a + r) / 8 : Nat) : Int) := by
              rw [show ((a : Int) + (r : Int)) = ((a + r : Nat) : Int) by omega, at8 (a + r) (by have := HTL.out; have := HAP.out; omega)]
              exact w64_add z ((a + r) / 8) (by have := HZ.out; have := HLL.out; have := HTL.out; have := HAP.out; omega)
            have HADD := Aside0.mk hadd
            clear HGS2 hgs2 HSr2 hadd
            go_wp2_with fail
            go_quiet (fail)
            go_wp2_with fail
            go_ret3
            have e : unpackF l j z 0 = (0, xs, z + (a + r) / 8) := by rw [HE.out, endF, if_pos rfl, HRG.out.1 (by first | trivial | rfl)]; rfl
            rw [e]
            refine ⟨u9, ?_, HX2.out, pw_below_drewN HB2.out _⟩
            dsimp only
            rw [← HADD.out]
            rfl
          · have hd0 : ((v : Int) == 0) = false := by simpa using hv0
            have hd1 : ((v : Int) != 0) = true := by simpa using hv0
            have HEN := Aside0.mk hv0
            clear hv0
            go_wp2_with fail
            go_ret3
            have e : unpackF l j z 0 = (4, [], 0) := by
              have h4 := HRG.out.2 HEN.out
              rw [HE.out, endF, if_pos rfl, if_neg (by rw [h4]; decide), h4]
            rw [e]
            exact ⟨_, rfl, Kd.R_nil _ _ _ _ _, HB2.out⟩
        | succ m =>
          have hlt : decide ((j : Int) < (cnt : Int)) = true := by simp; omega
          have hlt2 : decide (j < cnt) = true := by simp; omega
          have hj1 : wrap64 ((j : Int) + 1) = ((j + 1 : Nat) : Int) := w64_succ j (by have := HM.out; omega)
          have HJ := Aside0.mk hj
          obtain ⟨⟨x, en, p⟩, hnum⟩ : ∃ r, numF tl a j last = r := ⟨_, rfl⟩
          have hpl := numF_place tl a j last HF.out.1 HF.out.2.1
          rw [hnum] at hpl
          have HPL := Aside0.mk hpl
          have HN := Aside0.mk hnum
          clear hpl hnum hj
          have hxl : xs.length < 17592186044416 := by have := HF.out.2.2.1; have := HM.out; have := HJ.out; omega
          have HXL := Aside0.mk hxl
          clear hxl
          by_cases hj0 : j = 0
          · have hl0 : last = 0 := HF.out.2.2.2 hj0
            have hje : ((j : Int) == 0) = true := by rw [hj0]; rfl
            have htk := take_eq tl HTB.out HTL.out a 64 100 (by decide) HF.out.2.1 (by decide)
            rw [← HBS2.out] at htk
            by_cases hsh : 8 * tl.length - a < 64
            · rw [if_pos hsh] at htk
              have hN2 := HN.out
              rw [numF, if_neg (by omega), if_pos hsh] at hN2
              have hen : en = 2 := by injection hN2 with e1 e2; injection e2 with e2 e3; exact e2.symm
              have HEN := Aside0.mk hen
              have HTK := Aside0.mk htk
              have HJ0 := Aside0.mk hj0
              have HL0 := Aside0.mk hl0
              clear htk hN2 hsh hen hj0 hl0
              go_wp2_with fail
              refine (flumeref5_Bits_take.calls 100 w1.heap.size bs2 a 64 _ _ _ w _ HS.out HB1.out HTK.out).mono ?_
              rintro e w2 ⟨rfl, hs2, hb2, hk2⟩
              have HB2 := Aside0.mk hb2
              clear hs2 hb2 hk2 HX HS HB1
              go_wp2_with fail
              go_ret3
              have e2 : readF tl cnt 0 0 0 [] = (2, [], a) := by
                rw [← HRF.out, readF_err HN.out (by rw [HEN.out]; decide), HEN.out]
              have e : unpackF l cnt z 0 = (2, [], 0) := by rw [HE.out, e2]; rfl
              rw [e]
              exact ⟨_, rfl, Kd.R_nil _ _ _ _ _, HB2.out⟩
            · rw [if_neg hsh] at htk
              have hN2 := HN.out
              rw [numF, if_neg (by omega), if_neg hsh] at hN2
              obtain ⟨hx, hen, hp⟩ : Ser.getv tl a 64 = x ∧ en = 0 ∧ a + 64 = p := by injection hN2 with e1 e2; injection e2 with e2 e3; exact ⟨e1, e2.symm, e3⟩
              rw [hx, hp] at htk
              subst hen
              have hxz : bits .xor .u64 (last : Int) (x : Int) = (x : Int) := by
                rw [u64_xor_nat last x HF.out.1 HPL.out.2, hl0, Nat.zero_xor]
              have HTK := Aside0.mk htk
              have HJ0 := Aside0.mk hj0
              have HL0 := Aside0.mk hl0
              have HRF2 : Aside0 (readF tl m (j + 1) x p (xs ++ [x]) = readF tl cnt 0 0 0 []) := ⟨by rw [← HRF.out, readF_step HN.out]⟩
              clear htk hN2 hsh hx hp hj0 hl0
              go_wp2_with fail
              refine (flumeref5_Bits_take.calls 100 w1.heap.size bs2 a 64 _ _ _ w _ HS.out HB1.out HTK.out).mono ?_
              rintro e w2 ⟨rfl, hs2, hb2, hk2⟩
              have HX2 : Aside0 (Kd.R Kd.fl 33 w2 w.heap.size (fun _ => True) u9 xs) := ⟨Kd.R_mono (Kd.R_keep (HS.out.apart HX.out (by decide)) hk2 (fun _ h => h.2)) (fun _ _ => trivial)⟩
              have HS2 := Aside0.mk hs2
              have HB2 := Aside0.mk hb2
              clear hs2 hb2 hk2 HX HS HB1
              go_wp2_with (first | ((with_reducible refine gate_builtin (b := .append) (xs := #[.tmp 60, .tmp 63]) rfl ?_); at_builtin; refine Kd.R_append Kd.fl (w0 := w) w.heap.size rfl (.tmp 60) (.tmp 63) 25 33 (.float .f64 0) 8 rfl Tryd.underlying25 info33 rfl (by decide) (by omega) u9 xs x [.float .f64 x] (fun _ => True) (fun _ => False) rfl rfl rfl (fun _ hk => hk.elim) (fun _ _ => trivial) HX2.out HB2.out (below_size HB2.out) (by have := HXL.out; omega) ?_
                                    intro v1 w3 ho hb3 hg3 hat
                                    have HO := Aside0.mk ho
                                    have HB3 := Aside0.mk hb3
                                    have HS3 := Aside0.mk (HS2.out.grown hg3 (HS2.out.own_ne HX2.out (by decide)))
                                    clear ho hb3 hg3 hat HX2 HB2 HS2))
              go_roundg m
              case measure => omega
              case rel => exact ⟨j + 1, x, p, xs ++ [x], by have := HJ.out; omega, rfl, by rw [hj1], HRF2, ⟨HPL.out.2, HPL.out.1, by simp [HF.out.2.2.1], fun h => absurd h (by omega)⟩, HO, HS3, HB3⟩
          · have hje : ((j : Int) == 0) = false := by simpa using hj0
            obtain ⟨⟨y, ec, q⟩, hch⟩ : ∃ r, changeF tl a = r := ⟨_, rfl⟩
            have hcp := (changeF_place tl a HF.out.2.1).2
            rw [hch] at hcp
            have hN2 := HN.out
            rw [numF, if_pos (by omega), hch] at hN2
            obtain ⟨hx, hec, hp⟩ : last ^^^ y = x ∧ ec = en ∧ q = p := by injection hN2 with e1 e2; injection e2 with e2 e3; exact ⟨e1, e2, e3⟩
            subst hec hp
            have hnx := next_eq tl HTB.out HTL.out a 100 HF.out.2.1 (by decide)
            rw [hch, ← HBS2.out] at hnx
            have hnx2 : ∃ (y2 : Nat) (q2 : Int), flumeref5_Bits_next.f 100 bs2 (a : Int) = some (((y2 : Nat) : Int), (ec : Int), (q2 : Int)) ∧ (ec = 0 → y2 = y ∧ q2 = (q : Int)) := by
              rcases hnx with h | ⟨q2, h, h2⟩
              · exact ⟨y, q, h, fun _ => ⟨rfl, rfl⟩⟩
              · have h3 : ec = 2 := h2
                exact ⟨0, q2, by rw [h, h3]; rfl, fun h4 => absurd (h3 ▸ h4) (by decide)⟩
            obtain ⟨y2, q2, hny, hok⟩ := hnx2
            have HNY := Aside0.mk hny
            have HOK := Aside0.mk hok
            have HXY := Aside0.mk hx
            have HCP := Aside0.mk (show y < 18446744073709551616 from hcp)
            have HJ0 := Aside0.mk hj0
            clear hny hok hx hcp hnx hch hN2 hj0
            by_cases hec : ec = 0
            · subst hec
              obtain ⟨rfl, rfl⟩ := HOK.out rfl
              have hxz : bits .xor .u64 (last : Int) (y2 : Int) = (x : Int) := by
                rw [u64_xor_nat last y2 HF.out.1 HCP.out, HXY.out]
              have HRF2 : Aside0 (readF tl m (j + 1) x q (xs ++ [x]) = readF tl cnt 0 0 0 []) := ⟨by rw [← HRF.out, readF_step HN.out]⟩
              go_wp2_with fail
              refine (flumeref5_Bits_next.calls 100 w1.heap.size bs2 a _ _ _ w _ HS.out HB1.out HNY.out).mono ?_
              rintro e w2 ⟨rfl, hs2, hb2, hk2⟩
              have HX2 : Aside0 (Kd.R Kd.fl 33 w2 w.heap.size (fun _ => True) u9 xs) := ⟨Kd.R_mono (Kd.R_keep (HS.out.apart HX.out (by decide)) hk2 (fun _ h => h.2)) (fun _ _ => trivial)⟩
              have HS2 := Aside0.mk hs2
              have HB2 := Aside0.mk hb2
              clear hs2 hb2 hk2 HX HS HB1
              go_wp2_with (first | ((with_reducible refine gate_builtin (b := .append) (xs := #[.tmp 60, .tmp 63]) rfl ?_); at_builtin; refine Kd.R_append Kd.fl (w0 := w) w.heap.size rfl (.tmp 60) (.tmp 63) 25 33 (.float .f64 0) 8 rfl Tryd.underlying25 info33 rfl (by decide) (by omega) u9 xs x [.float .f64 x] (fun _ => True) (fun _ => False) rfl rfl rfl (fun _ hk => hk.elim) (fun _ _ => trivial) HX2.out HB2.out (below_size HB2.out) (by have := HXL.out; omega) ?_
                                    intro v1 w3 ho hb3 hg3 hat
                                    have HO := Aside0.mk ho
                                    have HB3 := Aside0.mk hb3
                                    have HS3 := Aside0.mk (HS2.out.grown hg3 (HS2.out.own_ne HX2.out (by decide)))
                                    clear ho hb3 hg3 hat HX2 HB2 HS2))
              go_roundg m
              case measure => omega
              case rel => exact ⟨j + 1, x, q, xs ++ [x], by have := HJ.out; omega, rfl, by rw [hj1], HRF2, ⟨HPL.out.2, HPL.out.1, by simp [HF.out.2.2.1], fun h => absurd h (by omega)⟩, HO, HS3, HB3⟩
            · have hd0 : ((ec : Int) == 0) = false := by simpa using hec
              have hd1 : ((ec : Int) != 0) = true := by simpa using hec
              have HEC := Aside0.mk hec
              clear hec
              go_wp2_with fail
              refine (flumeref5_Bits_next.calls 100 w1.heap.size bs2 a _ _ _ w _ HS.out HB1.out HNY.out).mono ?_
              rintro e w2 ⟨rfl, hs2, hb2, hk2⟩
              have HB2 := Aside0.mk hb2
              clear hs2 hb2 hk2 HX HS HB1
              go_wp2_with fail
              go_ret3
              have e2 : readF tl cnt 0 0 0 [] = (ec, [], a) := by
                rw [← HRF.out, readF_err HN.out HEC.out]
              have e : unpackF l cnt z 0 = (ec, [], 0) := by rw [HE.out, e2, endF, if_neg HEC.out]
              rw [e]
              exact ⟨_, rfl, Kd.R_nil _ _ _ _ _, HB2.out⟩
  · have hd0 : ((er : Int) == 0) = false := by simpa using her
    have hd1 : ((er : Int) != 0) = true := by simpa using her
    have HER := Aside0.mk her
    clear her
    go_wp2_with fail
    go_ret3
    have e : unpackF l cnt z er = (er, [], 0) := by unfold unpackF; rw [if_neg HER.out]
    rw [e]
    exact ⟨_, rfl, Kd.R_nil _ _ _ _ _, HD.out⟩
end Go.Proofs.YtlibddklalbmeaaDoor
