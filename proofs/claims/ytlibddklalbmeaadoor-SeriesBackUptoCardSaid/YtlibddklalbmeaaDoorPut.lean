import Derived.Test.YtlibddklalbmeaaDoorQAx
import Derived.Test.YtlibddklalbmeaaDoorMath
import Derived.StillTailTactics
namespace Go.Proofs.YtlibddklalbmeaaDoor
open Go.RowKit Go.Proofs.YtlibddklalbmeaaDoor.QA Go.Proofs.YtlibddklalbmeaaDoorW.PrintWords Go.Proofs.YtlibddklalbmeaaDoorW.PrintLast Go.Proofs.YtlibddklalbmeaaDoorW.PrintMore
attribute [local go_sem] max2_int min2_int fl_store fl_bits fl_frombits
set_option linter.unusedVariables false
set_option linter.unusedSimpArgs false

def up (l : List Nat) : List Int := l.map Int.ofNat

/-- The writer's state at block g: the bytes of a head and of the bits so far, in memory of its own. -/
def Wr (w0 W : World) (g : Nat) (hdr : List Int) (l : List Bool) : Prop :=
  ∃ v, W.heap[g]? = some (.cells #[v, .int .i64 (Ser.freeOf l)] 51 (0, 0)) ∧ w0.heap.size ≤ g ∧ Kd.R (Kd.int .u8) 5 W w0.heap.size (fun _ => True) v (hdr ++ up (Ser.packBits l)) ∧ Below w0.heap.size w0 W

def PutPost (w0 : World) (g : Nat) (hdr : List Int) (l : List Bool) (e : Ending) (w' : World) : Prop := e = .returned (.tuple #[]) ∧ Wr w0 w' g hdr l

/-- A row of bytes that is not empty: where its last byte lies. -/
theorem last_of {w : World} {base : Nat} {v : Value} {bs : List Int} {m : Nat} (h : Kd.R (Kd.int .u8) 5 w base (fun _ => True) v bs) (hm : bs.length = m + 1) :
    ∃ b cap, v = .slice (some ⟨b, 0, none⟩) (m + 1) cap ∧ base ≤ b ∧ w.cell? ⟨b, m, none⟩ = some (.int .u8 (bs.getD m 0)) ∧ w.frozen? ⟨b, m, none⟩ = false := by
  obtain ⟨b, cap, hv, h1, h2⟩ := World.ownsRow.form (Kd.own_of_R h) (by omega)
  subst hv
  have h3 := Kd.R_cell (0 : Int) h (m : Int) (by omega) (by omega)
  rw [Int.toNat_natCast] at h3
  refine ⟨b, cap, by rw [hm], Kd.R_base h b (by simp [Value.ownBlock]), by simpa [rdOf] using h3.1, h3.2⟩

theorem last_set {w : World} {base b cap : Nat} {bs : List Int} {m : Nat} (h : Kd.R (Kd.int .u8) 5 w base (fun _ => True) (.slice (some ⟨b, 0, none⟩) (m + 1) cap) bs) (hm : bs.length = m + 1) (y : Int) :
    Kd.R (Kd.int .u8) 5 (w.setCell ⟨b, m, none⟩ (.int .u8 y)) base (fun _ => True) (.slice (some ⟨b, 0, none⟩) (m + 1) cap) (bs.set m y) := by
  rw [← hm] at h
  have h2 := (Kd.R_put h (m : Int) y).1
  rw [Int.toNat_natCast, hm] at h2
  exact h2

theorem setCell_far {w : World} {g b i j : Nat} (h : b ≠ g) (u : Value) : (w.setCell ⟨g, i, none⟩ u).cell? ⟨b, j, none⟩ = w.cell? ⟨b, j, none⟩ :=
  World.cell?_setCell_other w _ _ _ (by intro e; injection e with e1; exact h e1.symm)

/-- What the last two stores of a bit leave. -/
theorem close_bit {w0 wr W : World} {g b q cap : Nat} {F0 f y : Int} {bs : List Int} (HB : wr.heap[g]? = some (.cells #[.slice (some ⟨b, 0, none⟩) (q + 1) cap, .int .i64 F0] 51 (0, 0)))
    (HW : wr.setCell ⟨g, 1, none⟩ (.int .i64 f) = W) (HR : Kd.R (Kd.int .u8) 5 wr w0.heap.size (fun _ => True) (.slice (some ⟨b, 0, none⟩) (q + 1) cap) bs) (HQ : bs.length = q + 1)
    (HG : w0.heap.size ≤ g) (HL : Below w0.heap.size w0 wr) :
    (W.setCell ⟨b, q, none⟩ (.int .u8 y)).drew.heap[g]? = some (.cells #[.slice (some ⟨b, 0, none⟩) (q + 1) cap, .int .i64 f] 51 (0, 0)) ∧
      Kd.R (Kd.int .u8) 5 (W.setCell ⟨b, q, none⟩ (.int .u8 y)).drew w0.heap.size (fun _ => True) (.slice (some ⟨b, 0, none⟩) (q + 1) cap) (bs.set q y) ∧
      Below w0.heap.size w0 (W.setCell ⟨b, q, none⟩ (.int .u8 y)).drew := by
  subst HW
  have hgb : b ≠ g := by
    rintro rfl
    exact Kd.R_ne HR HB (by decide) (by simp [Value.ownBlock])
  have h1 := blk_put HB 1 (.int .i64 f) rfl
  refine ⟨blk_drew (blk_far (p := ⟨b, q, none⟩) h1 (Ne.symm hgb) _), Kd.R_drew (last_set (Kd.R_set HR HB (by decide) 1 _) HQ y), ?_⟩
  exact ((HL.setCell (p := ⟨g, 1, none⟩) HG _).setCell (p := ⟨b, q, none⟩) (Kd.R_base HR b (by simp [Value.ownBlock])) _).drew

theorem bit_of (x m : Nat) (hx : x < 18446744073709551616) : bits .and .u64 ((x : Int) / 2 ^ m) 1 % 256 = ((x.testBit m).toNat : Int) := by
  have e : ((x : Int) / 2 ^ m) = ((x / 2 ^ m : Nat) : Int) := by simp
  have hlt : x / 2 ^ m < 18446744073709551616 := Nat.lt_of_le_of_lt (Nat.div_le_self _ _) hx
  rw [e, show (1 : Int) = ((1 : Nat) : Int) from rfl, u64_and_nat _ _ hlt (by decide), nat_mask1, Nat.testBit_eq_decide_div_mod_eq]
  rcases Nat.mod_two_eq_zero_or_one (x / 2 ^ m) with h | h <;> rw [h] <;> simp

theorem or_of (y : Nat) (c : Bool) (f : Nat) (hf : f ≤ 7) (hy : y < 256) (h0 : y % 2 ^ (f + 1) = 0) :
    bits .or .u8 (y : Int) ((c.toNat : Int) * 2 ^ f % 256) = ((y + c.toNat * 2 ^ f : Nat) : Int) := by
  have hp : 2 ^ f ≤ 128 := by
    have := Nat.pow_le_pow_right (show 0 < 2 by decide) hf
    simpa using this
  have hc : c.toNat ≤ 1 := by cases c <;> decide
  have hlt : c.toNat * 2 ^ f < 256 := by
    rcases Nat.le_one_iff_eq_zero_or_eq_one.1 hc with h | h <;> rw [h] <;> omega
  have e : ((c.toNat : Int) * 2 ^ f % 256) = ((c.toNat * 2 ^ f : Nat) : Int) := by
    have : ((c.toNat : Int) * 2 ^ f) = ((c.toNat * 2 ^ f : Nat) : Int) := by simp
    rw [this]; omega
  rw [e, u8_or_nat y _ hy hlt]
  congr 1
  rw [← Nat.shiftLeft_eq, Ser.or_low y c.toNat f h0 hc, Nat.shiftLeft_eq]

theorem up_length (l : List Nat) : (up l).length = l.length := by simp [up]
theorem up_set (l : List Nat) (i a : Nat) : (up l).set i (a : Int) = up (l.set i a) := by simp [up, List.map_set]
theorem up_append (l m : List Nat) : up (l ++ m) = up l ++ up m := by simp [up]

theorem freeOf_snoc (l : List Bool) (c : Bool) : Ser.freeOf (l ++ [c]) = 7 - l.length % 8 := by
  unfold Ser.freeOf; simp; omega

theorem getD_app_right (a b : List Int) (i : Nat) (d : Int) : (a ++ b).getD (a.length + i) d = b.getD i d := by
  simp [List.getD_eq_getElem?_getD, List.getElem?_append_right]

/-- A bit more, where the last byte has room. -/
theorem old_byte (hdr : List Int) (l : List Bool) (x m q f : Nat) (hx : x < 18446744073709551616) (hl : l.length % 8 ≠ 0) (hq : (hdr ++ up (Ser.packBits l)).length = q + 1) (hf : Ser.freeOf l = f + 1) :
    (hdr ++ up (Ser.packBits l)).set q (bits .or .u8 ((hdr ++ up (Ser.packBits l)).getD q 0) (bits .and .u64 ((x : Int) / 2 ^ m) 1 % 256 * 2 ^ f % 256)) = hdr ++ up (Ser.packBits (l ++ [x.testBit m])) := by
  have hq' : q = hdr.length + l.length / 8 := by simp [up] at hq; omega
  have hf' : f = 7 - l.length % 8 := by unfold Ser.freeOf at hf; omega
  have hi : l.length / 8 < (l.length + 7) / 8 := by omega
  have e1 : (hdr ++ up (Ser.packBits l)).getD q 0 = ((Ser.byteAt l (l.length / 8) : Nat) : Int) := by
    rw [hq', getD_app_right]
    simp [up, List.getD_eq_getElem?_getD, Ser.packBits_get l _ hi]
  rw [e1, bit_of x m hx]
  have h0 := Ser.byteAt_free l
  rw [show 8 - l.length % 8 = f + 1 by omega] at h0
  rw [or_of _ _ f (by omega) (Ser.byteAt_lt _ _) h0, Ser.packBits_snoc_old l _ hl, hq', List.set_append_right _ _ (by omega), show hdr.length + l.length / 8 - hdr.length = l.length / 8 by omega, up_set, hf']

/-- A bit more, the first of a new byte. -/
theorem new_byte (hdr : List Int) (l : List Bool) (x m q : Nat) (hx : x < 18446744073709551616) (hl : l.length % 8 = 0) (hq : (hdr ++ up (Ser.packBits l) ++ [0]).length = q + 1) :
    (hdr ++ up (Ser.packBits l) ++ [0]).set q (bits .or .u8 ((hdr ++ up (Ser.packBits l) ++ [0]).getD q 0) (bits .and .u64 ((x : Int) / 2 ^ m) 1 % 256 * 2 ^ 7 % 256)) = hdr ++ up (Ser.packBits (l ++ [x.testBit m])) := by
  have hq' : q = (hdr ++ up (Ser.packBits l)).length + 0 := by simp at hq ⊢; omega
  have e1 : (hdr ++ up (Ser.packBits l) ++ [0]).getD q 0 = ((0 : Nat) : Int) := by rw [hq', getD_app_right]; rfl
  rw [e1, bit_of x m hx, or_of 0 _ 7 (by omega) (by omega) (by decide), Ser.packBits_snoc_new l _ hl, hq', List.set_append_right _ _ (by omega)]
  simp [up]

set_option maxHeartbeats 1600000 in
set_option maxRecDepth 100000 in
theorem put_calls (w0 w : World) (g : Nat) (hdr : List Int) (l : List Bool) (x n : Nat) (hx : x < 18446744073709551616) (hn : n ≤ 64)
    (hsz : hdr.length + l.length ≤ 1000000) (h : Wr w0 w g hdr l) :
    Calls Tryd.prog 23 #[.pointer (some ⟨g, 0, none⟩), .int .u64 x, .int .i64 n] w (PutPost w0 g hdr (l ++ Ser.bitsOf x n)) := by
  have H0 := Aside0.mk h
  clear h
  go_enter Tryd.func23, Tryd.ntmps23
  go_wp2
  go_loopg [2] n (fun m c wr => ∃ l' : List Bool, c = .int .i64 ((m : Int) - 1) ∧ m ≤ 64 ∧ l'.length ≤ l.length + 64 ∧ Aside0 (l' ++ Ser.bitsOf x m = l ++ Ser.bitsOf x n) ∧ Aside0 (Wr w0 wr g hdr l'))
  case atStart => exact ⟨l, rfl, by omega, by omega, ⟨rfl⟩, H0⟩
  case round =>
    obtain ⟨l', rfl, hm, hll, HE, HW⟩ := hrel
    cases gk with
    | zero =>
      go_wp2_with fail
      go_end0
      refine ⟨rfl, ?_⟩
      have e := HE.out
      simp only [Ser.bitsOf, List.append_nil] at e
      rw [← e]
      exact HW.out
    | succ m =>
      have hc : decide ((0 : Int) ≤ ((m + 1 : Nat) : Int) - 1) = true := by simp
      obtain ⟨v, hb, hg, hr, hbel⟩ := HW.out
      have HE2 : Aside0 (l' ++ [x.testBit m] ++ Ser.bitsOf x m = l ++ Ser.bitsOf x n) := ⟨by have := HE.out; simpa [Ser.bitsOf] using this⟩
      have HL2 : Aside0 ((l' ++ [x.testBit m]).length ≤ l.length + 64) := ⟨by have := congrArg List.length HE.out; simp at this ⊢; omega⟩
      clear HE HW
      by_cases hf : Ser.freeOf l' = 0
      · have hlen : l'.length % 8 = 0 := by unfold Ser.freeOf at hf; omega
        have HLEN := Aside0.mk hlen
        obtain ⟨bs, hbs⟩ : ∃ bs, bs = hdr ++ up (Ser.packBits l') := ⟨_, rfl⟩
        have hbl : bs.length ≤ 1500000 := by rw [hbs]; simp [up]; omega
        rw [← hbs] at hr
        obtain ⟨A, c, rfl⟩ := Kd.R_slice hr
        have HBS := Aside0.mk hbs
        clear hbs
        obtain ⟨q, hq⟩ : ∃ q, (bs ++ [0]).length = q + 1 := ⟨(bs).length, by rw [List.length_append]; rfl⟩
        have hqb : q ≤ 2000000 := by simp at hq; omega
        rw [hf] at hb
        have HF := Aside0.mk hf
        have c0 := (blk_cell hb 0).trans rfl
        have c1 := (blk_cell hb 1).trans rfl
        have f0 := blk_frozen hb 0
        have f1 := blk_frozen hb 1
        have HB := Aside0.mk hb
        have HR := Aside0.mk hr
        have HL := Aside0.mk hbel
        have HQ := Aside0.mk hq
        have HG := Aside0.mk hg
        have HS : Aside0 ((bs.length + 1) * 1 ≤ 140737488355328) := ⟨by omega⟩
        clear hb hr hbel hg hq hf hlen
        have hw3 : IntKind.i64.wrap (q : Int) = q := by rw [IntKind.wrap_i64]; omega
        have hq0 : (0 : Int) ≤ q := by omega
        have hq1 : (q : Int) < q + 1 := by omega
        go_wp2_with (first | ((with_reducible refine gate_builtin (b := .append) (xs := #[.tmp 21, .tmp 22]) rfl ?_); at_builtin; refine Kd.R_append (Kd.int .u8) (w0 := w0) w0.heap.size rfl (.tmp 21) (.tmp 22) 23 5 (.int .u8 0) 1 rfl Tryd.underlying23 info5 rfl (by decide) (by omega) _ (bs) 0 [.int .u8 0] (fun _ => True) (fun _ => False) rfl rfl rfl (fun _ hk => hk.elim) (fun _ _ => trivial) HR.out HL.out (below_size HL.out) HS.out ?_
                              intro v1 w1 ho hb1 hg1 hat
                              have hne := Kd.R_ne HR.out HB.out (by decide)
                              have hbg := blk_grown HB.out hg1 hne
                              obtain ⟨b, cap, rfl, hbb, hcl, hfl⟩ := last_of ho HQ.out
                              have hgb : b ≠ g := by
                                rintro rfl
                                exact Kd.R_ne ho hbg (by decide) (by simp [Value.ownBlock])
                              obtain ⟨y, hy⟩ : ∃ y, (bs ++ [0]).getD q 0 = y := ⟨_, rfl⟩
                              rw [hy] at hcl
                              have HY := Aside0.mk hy
                              have HO := Aside0.mk ho
                              have HB1 := Aside0.mk hb1
                              have HBG := Aside0.mk hbg
                              clear ho hb1 hg1 hat hne hy hbb c0 c1 f0 f1
                              have c0 := (blk_cell hbg 0).trans rfl
                              have c1 := (blk_cell hbg 1).trans rfl
                              have f0 := blk_frozen hbg 0
                              have f1 := blk_frozen hbg 1
                              have hz1 := blk_put hbg 0 (.slice (some ⟨b, 0, none⟩) (q + 1) cap) rfl
                              have hz2 := blk_put hz1 1 (.int .i64 8) rfl
                              have hz3 := blk_put hz2 1 (.int .i64 7) rfl
                              have HZ2 := Aside0.mk hz2
                              have k0 := (blk_cell hz3 0).trans rfl
                              have k1 := (blk_cell hz3 1).trans rfl
                              have k2 : (((w1.setCell ⟨g, 0, none⟩ (.slice (some ⟨b, 0, none⟩) (q + 1) cap)).setCell ⟨g, 1, none⟩ (.int .i64 8)).setCell ⟨g, 1, none⟩ (.int .i64 7)).cell? ⟨b, q, none⟩ = some (.int .u8 y) := (setCell_far hgb _).trans ((setCell_far hgb _).trans ((setCell_far hgb _).trans hcl))
                              have k3 : (((w1.setCell ⟨g, 0, none⟩ (.slice (some ⟨b, 0, none⟩) (q + 1) cap)).setCell ⟨g, 1, none⟩ (.int .i64 8)).setCell ⟨g, 1, none⟩ (.int .i64 7)).frozen? ⟨b, q, none⟩ = false := by rw [World.frozen?_setCell, World.frozen?_setCell, World.frozen?_setCell]; exact hfl
                              have k4 := (blk_cell hz2 1).trans rfl
                              have k5 := (blk_cell hz1 1).trans rfl
                              clear hbg hz1 hz2 hz3))
        generalize hW0 : (w1.setCell ⟨g, 0, none⟩ (.slice (some ⟨b, 0, none⟩) (q + 1) cap)).setCell ⟨g, 1, none⟩ (.int .i64 8) = W0 at *
        have HW0 := Aside0.mk hW0
        clear hW0
        generalize hW : W0.setCell ⟨g, 1, none⟩ (.int .i64 7) = W at *
        have HW2 := Aside0.mk hW
        clear hW
        refine wp_region_still_tail 24 (by kernel_rfl) (by kernel_rfl) ?_
        change wpStill Tryd.prog _ W.drew (fun a' => wpList Tryd.prog _ _ _ a' W.drew) _ _
        simp only [List.take_succ_cons, List.take_zero, List.drop_succ_cons, List.drop_zero]
        repeat still_step
        refine wpStill_nil ?_
        go_wp2_with fail
        go_roundg m
        case measure => omega
        case rel =>
          refine ⟨l' ++ [x.testBit m], rfl, by omega, HL2.out, HE2, ⟨?_⟩⟩
          have HRZ : Kd.R (Kd.int .u8) 5 W0 w0.heap.size (fun _ => True) (.slice (some ⟨b, 0, none⟩) (q + 1) cap) (bs ++ [0]) := by
            rw [← HW0.out]
            exact Kd.R_set (Kd.R_set HO.out HBG.out (by decide) 0 _) (blk_put HBG.out 0 _ rfl) (by decide) 1 _
          have HBZ : Below w0.heap.size w0 W0 := by
            rw [← HW0.out]
            exact (HB1.out.setCell (p := ⟨g, 0, none⟩) HG.out _).setCell (p := ⟨g, 1, none⟩) HG.out _
          obtain ⟨r1, r2, r3⟩ := close_bit (y := (bits BinOp.or IntKind.u8 y (bits BinOp.and IntKind.u64 (↑x / 2 ^ m) 1 % 256 * 2 ^ 7 % 256))) HZ2.out HW2.out HRZ HQ.out HG.out HBZ
          have e := new_byte hdr l' x m q hx HLEN.out (by rw [← HBS.out]; exact HQ.out)
          rw [← HBS.out, HY.out] at e
          rw [e] at r2
          refine ⟨_, ?_, HG.out, r2, r3⟩
          rw [freeOf_snoc, HLEN.out]
          exact r1
      · have hlen : l'.length % 8 ≠ 0 := by intro h; apply hf; unfold Ser.freeOf; rw [h]
        have HLEN := Aside0.mk hlen
        obtain ⟨q, hq⟩ : ∃ q, (hdr ++ up (Ser.packBits l')).length = q + 1 := ⟨hdr.length + (l'.length + 7) / 8 - 1, by simp [up]; omega⟩
        obtain ⟨b, cap, rfl, hbb, hcl, hfl⟩ := last_of hr hq
        have hgb : b ≠ g := by
          rintro rfl
          exact Kd.R_ne hr hb (by decide) (by simp [Value.ownBlock])
        obtain ⟨f, hfe⟩ : ∃ f, Ser.freeOf l' = f + 1 := ⟨Ser.freeOf l' - 1, by omega⟩
        have hf7 : f ≤ 6 := by unfold Ser.freeOf at hfe; omega
        have hqb : q ≤ 2000000 := by simp [up] at hq; omega
        have HF := Aside0.mk hfe
        rw [hfe] at hb
        have c0 := (blk_cell hb 0).trans rfl
        have c1 := (blk_cell hb 1).trans rfl
        have f0 := blk_frozen hb 0
        have f1 := blk_frozen hb 1
        have HB := Aside0.mk hb
        have HR := Aside0.mk hr
        have HL := Aside0.mk hbel
        have HQ := Aside0.mk hq
        have HG := Aside0.mk hg
        obtain ⟨y, hy⟩ : ∃ y, (hdr ++ up (Ser.packBits l')).getD q 0 = y := ⟨_, rfl⟩
        rw [hy] at hcl
        have HY := Aside0.mk hy
        clear hb hr hbel hg hq hy hbb hfe hf hlen
        have hf1 : (((f + 1 : Nat) : Int) == 0) = false := by simp; omega
        have hb1 := blk_put HB.out 1 (.int .i64 f) rfl
        have k0 := (blk_cell hb1 0).trans rfl
        have k1 := (blk_cell hb1 1).trans rfl
        have k2 : (wr.setCell ⟨g, 1, none⟩ (.int .i64 f)).cell? ⟨b, q, none⟩ = some (.int .u8 y) := (setCell_far hgb _).trans hcl
        have k3 : (wr.setCell ⟨g, 1, none⟩ (.int .i64 f)).frozen? ⟨b, q, none⟩ = false := by rw [World.frozen?_setCell]; exact hfl
        clear hb1
        have hw3 : IntKind.i64.wrap (q : Int) = q := by rw [IntKind.wrap_i64]; omega
        have hq0 : (0 : Int) ≤ q := by omega
        have hq1 : (q : Int) < q + 1 := by omega
        go_wp2_with fail
        generalize hW : wr.setCell ⟨g, 1, none⟩ (.int .i64 f) = W at *
        have HW2 := Aside0.mk hW
        clear hW
        refine wp_region_still_tail 24 (by kernel_rfl) (by kernel_rfl) ?_
        change wpStill Tryd.prog _ W.drew (fun a' => wpList Tryd.prog _ _ _ a' W.drew) _ _
        simp only [List.take_succ_cons, List.take_zero, List.drop_succ_cons, List.drop_zero]
        repeat still_step
        refine wpStill_nil ?_
        go_wp2_with fail
        go_roundg m
        case measure => omega
        case rel =>
          refine ⟨l' ++ [x.testBit m], rfl, by omega, HL2.out, HE2, ⟨?_⟩⟩
          obtain ⟨r1, r2, r3⟩ := close_bit (y := (bits BinOp.or IntKind.u8 y (bits BinOp.and IntKind.u64 (↑x / 2 ^ m) 1 % 256 * 2 ^ f % 256))) HB.out HW2.out HR.out HQ.out HG.out HL.out
          have e := old_byte hdr l' x m q f hx HLEN.out HQ.out HF.out
          rw [HY.out] at e
          rw [e] at r2
          refine ⟨_, ?_, HG.out, r2, r3⟩
          rw [r1, freeOf_snoc, show 7 - l'.length % 8 = f by have := HF.out; unfold Ser.freeOf at this; omega]
end Go.Proofs.YtlibddklalbmeaaDoor
