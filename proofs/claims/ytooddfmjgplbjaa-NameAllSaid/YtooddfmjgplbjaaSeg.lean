/- name.Segment walked: the name of a segment's number, sixteen figures. -/
import Derived.Test.YtooddfmjgplbjaaQAx
import Derived.StillTailTactics
import Derived.BigQuiet
namespace Go.Proofs.Ytooddfmjgplbjaa
open Go.RowKit Go.Proofs.Ytooddfmjgplbjaa.QA Go.Proofs.YtooddfmjgplbjaaW.PrintWords Go.Proofs.YtooddfmjgplbjaaW.PrintLast Go.Proofs.YtooddfmjgplbjaaW.PrintMore
attribute [local go_sem] max2_int min2_int fl_store
set_option linter.unusedVariables false
set_option linter.unusedSimpArgs false

def HEX : ByteArray := ⟨#[48, 49, 50, 51, 52, 53, 54, 55, 56, 57, 97, 98, 99, 100, 101, 102]⟩

/-- The last j figures of a number. -/
def hexT (n : Nat) : Nat → List Int
  | 0 => []
  | j + 1 => bt HEX ((n / 16 ^ j % 16 : Nat) : Int) :: hexT n j
theorem hexT_length (n j : Nat) : (hexT n j).length = j := by
  induction j with
  | zero => rfl
  | succ j ih => simp [hexT, ih]

theorem i64w (n : Int) (h : -9223372036854775808 ≤ n ∧ n ≤ 9223372036854775807) : IntKind.i64.wrap n = n := by
  simp [IntKind.wrap, IntKind.bits, IntKind.signed]; omega
theorem ofInt_i64 (a : Nat) (ha : a < 18446744073709551616) : (BitVec.ofInt 64 (a : Int)).toNat = a := by
  rw [BitVec.ofInt_natCast, BitVec.toNat_ofNat]; exact Nat.mod_eq_of_lt (by omega)
theorem i64_and_nat (a b : Nat) (ha : a < 9223372036854775808) (hb : b < 9223372036854775808) : Go.bits .and .i64 (a : Int) (b : Int) = ((a &&& b : Nat) : Int) := by
  have hx : a &&& b ≤ a := Nat.and_le_left
  show IntKind.i64.wrap ((BitVec.ofInt 64 (a : Int) &&& BitVec.ofInt 64 (b : Int)).toNat : Int) = _
  rw [BitVec.toNat_and, ofInt_i64 a (by omega), ofInt_i64 b (by omega), i64w _ (by omega)]
theorem i64_or_nat (a b : Nat) (ha : a < 9223372036854775808) (hb : b < 9223372036854775808) : Go.bits .or .i64 (a : Int) (b : Int) = ((a ||| b : Nat) : Int) := by
  have hx : a ||| b < 2 ^ 63 := Nat.or_lt_two_pow (by omega) (by omega)
  show IntKind.i64.wrap ((BitVec.ofInt 64 (a : Int) ||| BitVec.ofInt 64 (b : Int)).toNat : Int) = _
  rw [BitVec.toNat_or, ofInt_i64 a (by omega), ofInt_i64 b (by omega), i64w _ (by omega)]

theorem nib (n j : Nat) (hn : n < 9223372036854775808) : Go.bits .and .i64 ((n : Int) / 2 ^ (4 * j)) 15 = ((n / 16 ^ j % 16 : Nat) : Int) := by
  have e : ((n : Int) / 2 ^ (4 * j)) = ((n / 16 ^ j : Nat) : Int) := by
    rw [Nat.pow_mul 2 4 j |> fun h => show (2 : Int) ^ (4 * j) = ((16 ^ j : Nat) : Int) by rw [Int.natCast_pow]; exact (by have h2 := h; rw [show (2 : Nat) ^ 4 = 16 from rfl] at h2; exact_mod_cast h2)]
    rw [Int.natCast_ediv]
  have hlt : n / 16 ^ j < 9223372036854775808 := Nat.lt_of_le_of_lt (Nat.div_le_self _ _) hn
  rw [e]
  generalize n / 16 ^ j = x at *
  rw [show (15 : Int) = ((15 : Nat) : Int) from rfl, i64_and_nat _ _ hlt (by decide), show (15 : Nat) = 2 ^ 4 - 1 from rfl, Nat.and_two_pow_sub_one_eq_mod]

def segName (n : Nat) : ByteArray := (⟨#[115, 101, 103, 45]⟩ : ByteArray) ++ strOfNums (hexT n 16) ++ (⟨#[46, 108, 111, 103]⟩ : ByteArray)

/-- The array under way. -/
def segCells (n j : Nat) : List Int := List.replicate (16 - j) 0 ++ hexT n j
theorem segCells_length (n j : Nat) (h : j ≤ 16) : (segCells n j).length = 16 := by
  simp [segCells, hexT_length]; omega
theorem segCells_set (n j : Nat) (h : j < 16) : (segCells n j).set (15 - j) (bt HEX ((n / 16 ^ j % 16 : Nat) : Int)) = segCells n (j + 1) := by
  unfold segCells
  obtain ⟨m, hm⟩ : ∃ m, 16 - j = m + 1 := ⟨15 - j, by omega⟩
  rw [hm, show 15 - j = m by omega, show 16 - (j + 1) = m by omega, List.replicate_succ', List.append_assoc, List.set_append_right _ _ (by simp), List.length_replicate, Nat.sub_self]
  rfl

set_option maxHeartbeats 2000000 in
set_option maxRecDepth 100000 in
theorem seg_none (w : World) (a : Int) (h : a < 1) : Calls Try.prog 12 #[.int .i64 a] w fun e w' => e = .returned (.tuple #[.string ⟨#[]⟩, .int .i64 1]) ∧ w' = w := by
  have hd : decide (a < 1) = true := decide_eq_true h
  clear h
  go_enter Try.func12, Try.ntmps12
  go_wp2_with fail
  go_ret2
  exact ⟨rfl, rfl⟩

set_option maxHeartbeats 2000000 in
set_option maxRecDepth 100000 in
theorem seg_calls (w : World) (n : Nat) (h1 : 1 ≤ n) (h2 : n < 9223372036854775808) : Calls Try.prog 12 #[.int .i64 (n : Int)] w fun e w' => e = .returned (.tuple #[.string (segName n), .int .i64 0]) ∧ Below w.heap.size w w' := by
  have hd : decide ((n : Int) < 1) = false := by simp; omega
  have HN1 := Aside0.mk h1
  have HN2 := Aside0.mk h2
  clear h1 h2
  go_enter Try.func12, Try.ntmps12
  go_wp2_with fail
  have hblk : (w.alloc (.cells #[.int .u8 0, .int .u8 0, .int .u8 0, .int .u8 0, .int .u8 0, .int .u8 0, .int .u8 0, .int .u8 0, .int .u8 0, .int .u8 0, .int .u8 0, .int .u8 0, .int .u8 0, .int .u8 0, .int .u8 0, .int .u8 0] 40)).heap[w.heap.size]? = some (.cells ((segCells n 0).map (Value.int .u8)).toArray 40 (0, 0)) := blk_new w _
  have hbel : Below w.heap.size w (w.alloc (.cells #[.int .u8 0, .int .u8 0, .int .u8 0, .int .u8 0, .int .u8 0, .int .u8 0, .int .u8 0, .int .u8 0, .int .u8 0, .int .u8 0, .int .u8 0, .int .u8 0, .int .u8 0, .int .u8 0, .int .u8 0, .int .u8 0] 40)) := below_alloc (Below.refl _ _) _
  have HBK := Aside0.mk hblk
  have HBE := Aside0.mk hbel
  clear hblk hbel
  generalize w.alloc (.cells #[.int .u8 0, .int .u8 0, .int .u8 0, .int .u8 0, .int .u8 0, .int .u8 0, .int .u8 0, .int .u8 0, .int .u8 0, .int .u8 0, .int .u8 0, .int .u8 0, .int .u8 0, .int .u8 0, .int .u8 0, .int .u8 0] 40) = w1 at *
  go_loopg [8] 16 (fun m v8 wr => ∃ j : Nat, m + j = 16 ∧ v8 = .int .i64 j ∧ Aside0 (wr.heap[w.heap.size]? = some (.cells ((segCells n j).map (Value.int .u8)).toArray 40 (0, 0))) ∧ Aside0 (Below w.heap.size w wr))
  case atStart => exact ⟨0, rfl, rfl, HBK, HBE⟩
  case round =>
    clear HBK HBE
    obtain ⟨j, hj, rfl, HBK, HBE⟩ := hrel
    cases gk with
    | zero =>
      obtain rfl : j = 16 := by omega
      clear hj
      have hC : Kd.C (Kd.int .u8) wr (some ⟨w.heap.size, 0, none⟩) 16 (hexT n 16) := by
        refine Kd.C_of_reads (d := (0 : Int)) ⟨hexT_length n 16, by decide, fun _ => ⟨_, rfl, fun i hi => ?_⟩⟩
        have h := blk_cell HBK.out i
        have e1 : (⟨w.heap.size, 0, none⟩ : Addr).add i = ⟨w.heap.size, i, none⟩ := by simp [Addr.add]; intro h; exact h.symm
        have e2 : segCells n 16 = hexT n 16 := rfl
        rw [e1, h, e2]
        have := hexT_length n 16
        simp [List.getD_eq_getElem?_getD, show i < (hexT n 16).length by omega]
      have hcv := Kd.C_string (P := Try.prog) (src := 41) (dst := 9) (e := 5) (c := 16) (by kernel_rfl) (by kernel_rfl) (by kernel_rfl) hC
      have hsz : (strOfNums (hexT n 16)).size = 16 := by rw [strOfNums_size, hexT_length]
      have hs1 : ¬ 9223372036854775807 < 4 + (strOfNums (hexT n 16)).size := by omega
      have hs2 : ¬ 9223372036854775807 < 4 + (strOfNums (hexT n 16)).size + 4 := by omega
      have hs3 := Nat.le_of_not_lt hs1
      have hs4 := Nat.le_of_not_lt hs2
      clear hsz
      go_wp2_with fail
      go_ret2
      exact ⟨rfl, HBE.out⟩
    | succ m =>
      have hlt : decide ((j : Int) < 16) = true := by simp; omega
      have hj15 : wrap64 (15 - (j : Int)) = ((15 - j : Nat) : Int) := by unfold wrap64; omega
      have hj4 : wrap64 (4 * (j : Int)) = ((4 * j : Nat) : Int) := by unfold wrap64; omega
      have hlen := segCells_length n j (by omega)
      have hc := blk_cell HBK.out (15 - j)
      rw [List.getElem?_toArray, List.getElem?_map, List.getElem?_eq_getElem (by omega)] at hc
      have hf := blk_frozen HBK.out (15 - j)
      have p0 : (0 : Int) ≤ ((15 - j : Nat) : Int) := by omega
      have p1 : ((15 - j : Nat) : Int) < 16 := by omega
      have p2 : (0 : Int) ≤ ((4 * j : Nat) : Int) := by omega
      have q1 : (0 : Int) ≤ 4 * (j : Int) := by omega
      have q2 : (0 : Int) ≤ 15 - (j : Int) := by omega
      have q3 : 15 - (j : Int) < 16 := by omega
      have p3 : (0 : Int) ≤ wrap64 (4 * (j : Int)) := by rw [hj4]; exact p2
      have p4 : (0 : Int) ≤ wrap64 (15 - (j : Int)) := by rw [hj15]; exact p0
      have p5 : wrap64 (15 - (j : Int)) < 16 := by rw [hj15]; exact p1
      generalize (segCells n j)[15 - j] = y at hc
      have hb := nib n j HN2.out
      have r0 : 0 ≤ Go.bits .and .i64 ((n : Int) / 2 ^ (4 * j)) 15 := by rw [hb]; omega
      have r1 : Go.bits .and .i64 ((n : Int) / 2 ^ (4 * j)) 15 < 16 := by rw [hb]; omega
      have hput : ∀ Y : Int, Y = bt HEX (Go.bits .and .i64 ((n : Int) / 2 ^ (4 * j)) 15) → (wr.setCell ⟨w.heap.size, 15 - j, none⟩ (.int .u8 Y)).heap[w.heap.size]? = some (.cells ((segCells n (j + 1)).map (Value.int .u8)).toArray 40 (0, 0)) := by
        intro Y hY
        refine blk_put HBK.out (15 - j) _ ?_
        rw [hY, hb, ← segCells_set n j (by omega)]
        simp [List.map_set]
      have HPUT := Aside0.mk hput
      have HB2 := Aside0.mk hb
      clear hb hput
      have HJ := Aside0.mk hj
      clear hj hlen
      go_wp2_with fail
      go_roundg m
      case measure => omega
      case rel => exact ⟨j + 1, by have := HJ.out; omega, by first | rfl | (congr 1), ⟨HPUT.out _ (bt_at HEX _ _)⟩, ⟨HBE.out.setCell (p := ⟨w.heap.size, 15 - j, none⟩) (Nat.le_refl _) _⟩⟩
end Go.Proofs.Ytooddfmjgplbjaa
