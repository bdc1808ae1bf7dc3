/- name.Order walked: the names that may be, sorted, each once. -/
import Derived.Test.YtooddfmjgplbjaaMay
import Derived.Test.YtooddfmjgplbjaaShelf
import Derived.Sort.OwnSorted
import Derived.Lib.SlicesCompact
namespace Go.Proofs.Ytooddfmjgplbjaa
open Go.RowKit Go.Sort Go.Proofs.Ytooddfmjgplbjaa.QA Go.Proofs.YtooddfmjgplbjaaW.PrintWords Go.Proofs.YtooddfmjgplbjaaW.PrintLast Go.Proofs.YtooddfmjgplbjaaW.PrintMore
attribute [local go_sem] max2_int min2_int fl_store
set_option linter.unusedVariables false
set_option linter.unusedSimpArgs false

def ofL (l : List UInt8) : ByteArray := ⟨l.toArray⟩
def toL (s : ByteArray) : List UInt8 := s.data.toList
theorem of_to (s : ByteArray) : ofL (toL s) = s := by cases s; rfl
theorem to_of (l : List UInt8) : toL (ofL l) = l := by simp [toL, ofL]
theorem encs_to (xs : List ByteArray) : encs Value.string xs = (xs.map toL).map encStr := by
  unfold encs
  rw [List.map_map]
  apply List.map_congr_left
  intro x _
  show Value.string x = encStr (toL x)
  unfold encStr
  congr 1
theorem encs_of (ls : List (List UInt8)) : encs Value.string (ls.map ofL) = ls.map encStr := by
  have : (ls.map ofL).map toL = ls := by
    rw [List.map_map]
    have : ls.map (toL ∘ ofL) = ls.map id := List.map_congr_left (fun l _ => to_of l)
    rw [this, List.map_id]
  rw [encs_to, this]

/-- What Order hands back. -/
def orderF (ss : List ByteArray) : List (List UInt8) := Lib.compact (((ss.filter mayP).map toL).mergeSort fun x y => decide (x ≤ y))

theorem info9' : (Try.prog.info? 9).map (fun i => (i.zero, i.size, i.bytes)) = some (some (.string ByteArray.empty), 1, 16) := by kernel_rfl
theorem under22 : Try.prog.underlying 22 = some (.slice 9) := by kernel_rfl

/-- Behind slices.Compact the slice that it hands back owns what was kept. -/
theorem owns_front {w : World} {base g cap n : Nat} {e : TypeId} {cur : Array Value} {ss ts zs : List (List UInt8)} (hl : ts.length + zs.length = ss.length) (hbase : base ≤ g) (hb : w.heap[g]? = some (.cells cur e (0, 0)))
    (h1 : ss.length ≤ cap) (h2 : cap ≤ maxLen) (h3 : cur.size = cap * 1) :
    (putRow encStr (Sort.ahead w n) g 0 (ts ++ zs).toArray).ownsRow base e 1 (.slice (some ⟨g, 0, none⟩) ts.length cap) ts.length (ts.map encStr) := by
  have hh := heap_sorted (n := n) (os := #[]) (ts ++ zs).toArray hb
  rw [grow_empty] at hh
  refine ⟨by simp, .inr ⟨g, cap, _, rfl, hbase, hh, by omega, h2, by simp [putCells, h3], ?_⟩⟩
  have ht := take_putCells cur (ts ++ zs) (by rw [List.length_append]; omega)
  rw [Nat.mul_one]
  have := congrArg (List.take ts.length) ht
  rw [List.take_take, List.length_append, Nat.min_eq_left (by omega), List.map_append, List.take_left' (by simp)] at this
  exact this

theorem owns_all {w : World} {base g cap n : Nat} {e : TypeId} {os : Array Obj} {cur : Array Value} {ss ts : List (List UInt8)} (hl : ts.length = ss.length) (hbase : base ≤ g) (hb : w.heap[g]? = some (.cells cur e (0, 0)))
    (h1 : ss.length ≤ cap) (h2 : cap ≤ maxLen) (h3 : cur.size = cap * 1) : ∃ cur2, (grow (putRow encStr (Sort.ahead w n) g 0 ts.toArray) os).heap[g]? = some (.cells cur2 e (0, 0)) ∧ cur2.size = cap * 1 ∧ cur2.toList.take ts.length = ts.map encStr :=
  ⟨_, heap_sorted _ hb, by simp [putCells, h3], take_putCells cur ts (by omega)⟩

theorem compact_length (ts : List (List UInt8)) : (Lib.compact ts).length ≤ ts.length := by
  unfold Lib.compact Lib.compactUpTo
  rw [List.length_map]
  exact Nat.le_trans (List.length_filter_le _ _) (by simp)

set_option maxHeartbeats 4000000 in
set_option maxRecDepth 100000 in
theorem order_calls (w : World) (A : Option Addr) (c : Nat) (ss : List ByteArray) (hl : ss.length ≤ 8796093022207) (hr : Kd.string.C w A ss.length ss) :
    Calls Try.prog 14 #[.slice A ss.length c] w fun e w' => ∃ v, e = .returned v ∧ Kd.R Kd.string 9 w' w.heap.size (fun _ => True) v ((orderF ss).map ofL) ∧ Below w.heap.size w w' := by
  have HL := Aside0.mk hl
  have HR := Aside0.mk hr
  obtain ⟨N, hN⟩ : ∃ N, N = ss.length := ⟨_, rfl⟩
  rw [← hN]
  have HN := Aside0.mk hN
  clear hl hr hN
  go_enter Try.func14, Try.ntmps14
  go_wp2_with fail
  go_loopg [3, 8] N (fun m v3 v8 wr => ∃ (j : Nat) (l : List ByteArray), m + j = N ∧ v8 = .int .i64 j ∧ Aside0 (l = (ss.take j).filter mayP) ∧ Aside0 (Kd.R Kd.string 9 wr w.heap.size (fun _ => True) v3 l) ∧ Aside0 (Below w.heap.size w wr))
  case atStart => exact ⟨0, [], rfl, rfl, ⟨rfl⟩, ⟨Kd.R_nil _ _ _ _ _⟩, ⟨Below.refl _ _⟩⟩
  case round =>
    obtain ⟨j, l, hj, rfl, HFL, HX, HB⟩ := hrel
    have hll : l.length ≤ j := by rw [HFL.out]; exact Nat.le_trans (List.length_filter_le _ _) (List.length_take_le _ _)
    have HLL := Aside0.mk hll
    clear hll
    cases gk with
    | zero =>
      have hlt : decide ((j : Int) < (N : Int)) = false := by simp; omega
      have hlt2 : decide (j < N) = false := by simp; omega
      obtain rfl : j = N := by omega
      have hfull : l = ss.filter mayP := by rw [HFL.out, HN.out, List.take_length]
      have HFU := Aside0.mk hfull
      clear hj hfull
      go_wp2_with fail
      have hx := HX.out
      have hB := HB.out
      by_cases hp : 0 < l.length
      · have hown := Kd.own_of_R hx
        rw [encs_to] at hown
        obtain ⟨hlen0, hcase⟩ := hown
        rcases hcase with ⟨rfl, h0⟩ | ⟨g, cap, cur, rfl, hbase, hblk, hn1, hn2, hn3, hn4⟩
        · omega
        obtain ⟨ls, hls⟩ : ∃ ls, l.map toL = ls := ⟨_, rfl⟩
        have hlsl : ls.length = l.length := by rw [← hls, List.length_map]
        rw [hls] at hn4
        rw [← hlsl] at hn1 hn4 hp ⊢
        have hglt : g < wr.heap.size := (Array.getElem?_eq_some_iff.1 hblk).1
        have hH := holds_of_block hblk (by simpa using hn4)
        have hbig : ls.length < 4611686018427387904 := by rw [hlsl]; have := HLL.out; have := HL.out; have := HN.out; omega
        refine (Try.slices_Sort_string g 0 cap ls wr hH hglt hbig).mono ?_
        rintro e w2 ⟨rfl, n, os, rfl⟩
        have hml : (ls.mergeSort fun x y => decide (x ≤ y)).length = ls.length := by simp
        obtain ⟨cur2, hblk2, hn32, hn42⟩ := owns_all (n := n) (os := os) hml hbase hblk hn1 hn2 hn3
        have hg2 := grownBy_sorted (w := wr) (g := g) (n := n) (os := os) (ls.mergeSort fun x y => decide (x ≤ y)).toArray
        have hB2 : Below w.heap.size w (grow (putRow encStr (Sort.ahead wr n) g 0 (ls.mergeSort fun x y => decide (x ≤ y)).toArray) os) := by
          exact hB.grown hg2 hB.size (fun k hk => by injection hk with hk; rw [← hk]; exact hbase)
        have hord : orderF ss = Lib.compact (ls.mergeSort fun x y => decide (x ≤ y)) := by rw [orderF, ← HFU.out, hls]
        generalize (ls.mergeSort fun x y => decide (x ≤ y)) = ts at *
        generalize grow (putRow encStr (Sort.ahead wr n) g 0 ts.toArray) os = w2 at *
        have hH2 := holds_of_block hblk2 hn42
        have HORD := Aside0.mk hord
        have HB2 := Aside0.mk hB2
        have HBLK := Aside0.mk hblk2
        have HN42 := Aside0.mk hn42
        have HN32 := Aside0.mk hn32
        have HH2 := Aside0.mk hH2
        have HML := Aside0.mk hml
        have HN1 := Aside0.mk hn1
        have HN2 := Aside0.mk hn2
        have HBASE := Aside0.mk hbase
        have HBIG := Aside0.mk hbig
        have HLSL := Aside0.mk hlsl
        clear hx hB hord hB2 hblk2 hn42 hn32 hH2 hml hn1 hn2 hn3 hn4 hbase hbig hH hglt hblk hg2 hlen0 hp hls hlsl HX HB
        go_wp2_with fail
        rw [← HML.out]
        refine (Try.slices_Compact_string g 0 cap ts w2 HH2.out (by have := HBIG.out; have := HML.out; omega) (by have := HN1.out; have := HML.out; omega)).mono ?_
        rintro e w3 ⟨rfl, q, rfl⟩
        have hcl := compact_length ts
        have hown := owns_front (n := q) (ts := Lib.compact ts) (zs := List.replicate (ts.length - (Lib.compact ts).length) []) (ss := ts) (by simp; omega) HBASE.out HBLK.out (by have := HN1.out; have := HML.out; omega) HN2.out HN32.out
        have hg3 := grownBy_sorted (w := w2) (g := g) (n := q) (os := #[]) (Lib.compact ts ++ List.replicate (ts.length - (Lib.compact ts).length) []).toArray
        rw [grow_empty] at hg3
        have hB3 := HB2.out.grown hg3 HB2.out.size (fun k hk => by injection hk with hk; rw [← hk]; exact HBASE.out)
        generalize putRow encStr (Sort.ahead w2 q) g 0 (Lib.compact ts ++ List.replicate (ts.length - (Lib.compact ts).length) []).toArray = w3 at *
        have hR3 : Kd.R Kd.string 9 w3 w.heap.size (fun _ => True) (.slice (some ⟨g, 0, none⟩) (Lib.compact ts).length cap) ((Lib.compact ts).map ofL) := by
          refine Kd.R_of_own (h1 := fun _ => rfl) ?_ (fun _ _ => trivial)
          rw [encs_of, List.length_map]
          exact hown
        have HR3 := Aside0.mk hR3
        have HB3 := Aside0.mk hB3
        clear hcl hown hg3 hB3 hR3
        go_wp2_with fail
        go_ret
        exact ⟨_, rfl, by rw [HORD.out]; exact HR3.out, HB3.out⟩
      · have hl0 : l = [] := List.eq_nil_of_length_eq_zero (by omega)
        subst hl0
        obtain ⟨A3, c3, rfl⟩ := Kd.R_slice hx
        have hord : orderF ss = [] := by rw [orderF, ← HFU.out]; simp [Lib.compact, Lib.compactUpTo]
        refine (Try.slices_Sort_string_none A3 c3 wr).mono ?_
        rintro e w2 ⟨rfl, rfl⟩
        have HORD := Aside0.mk hord
        have HX2 := Aside0.mk hx
        clear hx hB hord hp HX
        go_wp2_with fail
        refine (Try.slices_Compact_string_empty A3 c3 w2).mono ?_
        rintro e w3 ⟨rfl, rfl⟩
        go_wp2_with fail
        go_ret
        exact ⟨_, rfl, by rw [HORD.out]; exact HX2.out, HB.out⟩
    | succ m =>
      have hlt : decide ((j : Int) < (N : Int)) = true := by simp; omega
      have hlt2 : decide (j < N) = true := by simp; omega
      have hjs : j < ss.length := by rw [← HN.out]; omega
      obtain ⟨ad, hA, hcl⟩ := Kd.at_string HR.out (j : Int) (by omega) (by omega)
      subst hA
      have ex : rdOf ByteArray.empty ss (j : Int) = ss.getD j ByteArray.empty := by unfold rdOf; rw [Int.toNat_natCast]
      rw [ex, Int.toNat_natCast] at hcl
      have htk : ss.take (j + 1) = ss.take j ++ [ss.getD j ByteArray.empty] := by
        rw [List.take_add_one, List.getElem?_eq_getElem hjs, List.getD_eq_getElem?_getD, List.getElem?_eq_getElem hjs]; rfl
      obtain ⟨s, hs⟩ : ∃ s, ss.getD j ByteArray.empty = s := ⟨_, rfl⟩
      rw [hs] at hcl htk
      have hcr := pw_cell_below HB.out hcl
      have HTK := Aside0.mk htk
      have HJ := Aside0.mk hj
      have p0 : (0 : Int) ≤ (j : Int) := by omega
      have p1 : (j : Int) < (N : Int) := by have := HJ.out; omega
      clear hcl htk hj hs ex hjs
      go_wp2_with fail
      refine (name_May.calls 100 s (mayP s) wr (may_eq s)).mono ?_
      rintro e w2 ⟨rfl, hdr⟩
      have HX2 := Aside0.mk (Kd.R_below HX.out hdr.below)
      have HB2 := Aside0.mk (HB.out.trans (hdr.below.mono HB.out.size))
      clear hdr HX HB hcr
      by_cases hmay : mayP s = true
      · have HFL2 : Aside0 (l ++ [s] = (ss.take (j + 1)).filter mayP) := ⟨by rw [HTK.out, List.filter_append, ← HFL.out]; simp [hmay]⟩
        rw [hmay]
        go_wp2_with (first | ((with_reducible refine gate_builtin (b := .append) (xs := #[.tmp 14, .tmp 16]) rfl ?_); at_builtin; refine Kd.R_append Kd.string (w0 := w) w.heap.size rfl (.tmp 14) (.tmp 16) 22 9 (.string ByteArray.empty) 16 rfl under22 info9' rfl (by decide) (by omega) u3 l s [.string s] (fun _ => True) (fun _ => False) rfl rfl rfl (fun _ hk => hk.elim) (fun _ _ => trivial) HX2.out HB2.out (below_size HB2.out) (by have := HLL.out; have := HN.out; have := HL.out; have := HJ.out; omega) ?_
                              intro v1 w3 ho hb3 hg3 hat
                              have HO := Aside0.mk ho
                              have HB3 := Aside0.mk hb3
                              clear ho hb3 hg3 hat HX2 HB2))
        go_roundg m
        case measure => omega
        case rel => exact ⟨j + 1, l ++ [s], by have := HJ.out; omega, by first | rfl | (congr 1; rw [w64 _ (by have := HJ.out; have := HL.out; have := HN.out; omega)]; rfl), HFL2, HO, HB3⟩
      · have hmay' := Bool.eq_false_iff.mpr hmay
        have HFL2 : Aside0 (l = (ss.take (j + 1)).filter mayP) := ⟨by rw [HTK.out, List.filter_append, ← HFL.out]; simp [hmay']⟩
        rw [hmay']
        go_wp2_with fail
        go_roundg m
        case measure => omega
        case rel => exact ⟨j + 1, l, by have := HJ.out; omega, by first | rfl | (congr 1; rw [w64 _ (by have := HJ.out; have := HL.out; have := HN.out; omega)]; rfl), HFL2, HX2, HB2⟩
end Go.Proofs.Ytooddfmjgplbjaa
