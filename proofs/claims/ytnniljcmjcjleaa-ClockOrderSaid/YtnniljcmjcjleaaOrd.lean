/- The law ClockOrder, walked: timers go off by time, of one time by number, each once, and none too early. -/
import Derived.Test.YtnniljcmjcjleaaOrdP
import Derived.Test.YtnniljcmjcjleaaRuns
namespace Go.Proofs.Ytnniljcmjcjleaa
open Go.RowKit Go.Proofs.Ytnniljcmjcjleaa.QA Go.Proofs.YtnniljcmjcjleaaW.PrintWords Go.Proofs.YtnniljcmjcjleaaW.PrintLast Go.Proofs.YtnniljcmjcjleaaW.PrintMore
attribute [local go_sem] fl_store fl_bits fl_frombits fl_usigned
set_option linter.unusedVariables false
set_option linter.unusedSimpArgs false

theorem under_floats : Try.prog.underlying 42 = some (.slice 29) := by kernel_rfl
theorem info_float : (Try.prog.info? 29).map (fun i => (i.zero, i.size, i.bytes)) = some (some (.float .f64 0), 1, 8) := by kernel_rfl
theorem under_bools : Try.prog.underlying 43 = some (.slice 4) := by kernel_rfl
theorem info_bool : (Try.prog.info? 4).map (fun i => (i.zero, i.size, i.bytes)) = some (some (.bool false), 1, 1) := by kernel_rfl
/-- Rows of numbers, of truths. -/
def FR (w : World) (base : Nat) (v : Value) (l : List Nat) : Prop := Kd.R Kd.fl 29 w base (fun _ => True) v l
def BR (w : World) (base : Nat) (v : Value) (l : List Bool) : Prop := Kd.R Kd.bool 4 w base (fun _ => True) v l
/-- A row beside a clock that is written. -/
theorem keepRow {α : Type} {d : Kd α} {e base g : Nat} {b : Bool} {now : Nat} {last : Int} {cv u : Value} {l : List Tm} {xs : List α} {w w1 : World} (hE : d.E = []) (h1 : e ≠ 60) (h2 : e ≠ 70) (h : Kd.R d e w base (fun _ => True) u xs) (hc : CAt w g b now last cv l)
    (hh : Hold w w1 (fun k => k = g ∨ own cv k)) : Kd.R d e w1 base (fun _ => True) u xs := by
  have h3 := Kd.R_tight hE h
  refine Kd.R_mono (Kd.R_step h3 (fun k hk hlt => hh.block k hlt ?_)) (fun _ _ => trivial)
  obtain ⟨cells, hcl⟩ := Kd.R_typed h k hk.symm
  rintro (rfl | hk2)
  · rw [hc.blk] at hcl
    injection hcl with hcl
    injection hcl with _ ht
    exact h1 ht.symm
  · obtain ⟨cells2, hcl2⟩ := Kd.R_typed hc.row k hk2.symm
    rw [hcl2] at hcl
    injection hcl with hcl
    injection hcl with _ ht
    exact h2 ht.symm
/-- A clock beside a row that is written. -/
theorem Mine.besideRow {α : Type} {d : Kd α} {e base g : Nat} {b : Bool} {now : Nat} {last : Int} {cv u : Value} {l : List Tm} {xs : List α} {w wi wj : World} (h1 : 70 ≠ e) (h2 : e ≠ 60) (hm : Mine w wi g b now last cv l) (h : Kd.R d e wi base (fun _ => True) u xs) (hg : wi.grownBy wj u.ownBlock) (hbase : w.heap.size ≤ base) : Mine w wj g b now last cv l := by
  refine ⟨⟨(hg.block g (blk_lt hm.at_.blk) (fun he => ?_)).trans hm.at_.blk, Kd.R_over hm.at_.row h (fun q hq => ?_) hg⟩, hm.below.trans ((Hold.of_grown hg).below _ hm.below.size (fun k hk => by have := Kd.R_base h k hk.symm; omega)), hm.base, hm.row⟩
  · obtain ⟨cells, hcl⟩ := Kd.R_typed h g he.symm
    rw [hm.at_.blk] at hcl
    injection hcl with hcl
    injection hcl with _ ht
    exact h2 ht.symm
  · rcases List.mem_cons.1 hq with rfl | hq
    · exact h1
    · cases hq
theorem FR.get {w : World} {base : Nat} {A : Option Addr} {n c : Nat} {l : List Nat} (h : FR w base (.slice A n c) l) (k : Nat) (hk : k < l.length) : ∃ g, A = some ⟨g, 0, none⟩ ∧ w.cell? ⟨g, k, none⟩ = some (.float .f64 l[k]) := by
  obtain ⟨hn, _, hC⟩ := Kd.R_reads' h
  obtain ⟨g, cap, hv, _⟩ := Kd.R_form h (by omega)
  injection hv with ha _ _
  subst ha
  obtain ⟨ad, hA, hcell⟩ := Kd.at_fl hC (k : Int) (by omega) (by omega)
  cases hA
  refine ⟨g, rfl, ?_⟩
  rw [Int.toNat_natCast] at hcell
  have e : rdOf (0 : Nat) l (k : Int) = l[k] := by
    show l.getD (Int.toNat (k : Int)) 0 = _
    rw [Int.toNat_natCast, List.getD_eq_getElem?_getD, List.getElem?_eq_getElem hk]
    rfl
  rw [e] at hcell
  simpa [Addr.add_lit] using hcell
theorem IR.get {w : World} {base : Nat} {A : Option Addr} {n c : Nat} {l : List Int} (h : IR w base (.slice A n c) l) (k : Nat) (hk : k < l.length) : ∃ g, A = some ⟨g, 0, none⟩ ∧ w.cell? ⟨g, k, none⟩ = some (.int .i64 l[k]) := by
  obtain ⟨hn, _, hC⟩ := Kd.R_reads' h
  obtain ⟨g, cap, hv, _⟩ := Kd.R_form h (by omega)
  injection hv with ha _ _
  subst ha
  obtain ⟨ad, hA, hcell⟩ := Kd.at_int hC (k : Int) (by omega) (by omega)
  cases hA
  refine ⟨g, rfl, ?_⟩
  rw [Int.toNat_natCast] at hcell
  have e : rd l (k : Int) = l[k] := by
    show l.getD (Int.toNat (k : Int)) 0 = _
    rw [Int.toNat_natCast, List.getD_eq_getElem?_getD, List.getElem?_eq_getElem hk]
    rfl
  rw [e] at hcell
  simpa [Addr.add_lit] using hcell
theorem BR.get {w : World} {base : Nat} {A : Option Addr} {n c : Nat} {l : List Bool} (h : BR w base (.slice A n c) l) (k : Nat) (hk : k < l.length) : ∃ g, A = some ⟨g, 0, none⟩ ∧ w.cell? ⟨g, k, none⟩ = some (.bool (rdOf false l (k : Int))) ∧ ∀ j, w.frozen? ⟨g, j, none⟩ = false := by
  obtain ⟨hn, _, hC⟩ := Kd.R_reads' h
  obtain ⟨g, cap, hv, _, _, cells, hc⟩ := Kd.R_form h (by omega)
  injection hv with ha _ _
  subst ha
  obtain ⟨ad, hA, hcell⟩ := Kd.at_bool hC (k : Int) (by omega) (by omega)
  cases hA
  refine ⟨g, rfl, ?_, fun j => blk_frozen hc _⟩
  rw [Int.toNat_natCast] at hcell
  simpa [Addr.add_lit] using hcell
theorem FR.slice {w : World} {base : Nat} {v : Value} {l : List Nat} (h : FR w base v l) : ∃ A c, v = .slice A l.length c := Kd.R_slice h
theorem BR.slice {w : World} {base : Nat} {v : Value} {l : List Bool} (h : BR w base v l) : ∃ A c, v = .slice A l.length c := Kd.R_slice h
/-- What stands behind the timers' setting: nothing but heaps of the timers. -/
structure Set0 (l : List Nat) (h : List Tm) : Prop where
  good : ∀ d ∈ l, Flo.norm d ≤ 9218868437227405312
  heap : Heap h
  perm : h.Perm (tms l)
theorem Set0.snoc {l : List Nat} {h : List Tm} (s : Set0 l h) (d : Nat) (hd : Flo.norm d ≤ 9218868437227405312) : Set0 (l ++ [d]) (pushP h ((l.length : Int) + 1, Flo.norm d)) := by
  obtain ⟨ph, pp⟩ := push_heap (x := ((l.length : Int) + 1, Flo.norm d)) s.heap hd
  refine ⟨fun x hx => ?_, ph, ?_⟩
  · rcases List.mem_append.1 hx with hx | hx
    · exact s.good x hx
    · rw [List.mem_singleton.1 hx]; exact hd
  · rw [tms_snoc]
    exact pp.trans ((List.Perm.cons _ s.perm).trans (List.perm_append_singleton _ _).symm)
/-- What stands at a round's head. -/
structure Round (l : List Nat) (S P h : List Tm) (now k : Nat) : Prop where
  heap : Heap h
  split : S = P ++ sortT h
  past : ∀ y ∈ P, y.2 ≤ now
  time : now ≤ (1043 + k) * 4503599627370496
set_option maxHeartbeats 16000000 in
set_option maxRecDepth 100000 in
theorem order_calls (A : Option Addr) (n c : Nat) (ds : List Int) (X : Nat) (w : World) (hds : Kd.C (Kd.int .u64) w A n ds) (hu : ∀ d ∈ ds, 0 ≤ d ∧ d < 18446744073709551616) (hX : X < 18446744073709551616) :
    Calls Try.prog 4 #[.slice A n c, .int .u64 (X : Int)] w fun e w' => e = .returned (.bool true) ∧ Below w.heap.size w w' := by
  have HDS := Aside0.mk hds
  have HU := Aside0.mk hu
  have HX := Aside0.mk hX
  obtain ⟨b1, hb1⟩ : ∃ b, (FloatKind.f64.format.order X 4562254508917369340 == some .gt) = b := ⟨_, rfl⟩
  obtain ⟨b2, hb2⟩ : ∃ b, (FloatKind.f64.format.order X 4696837146684686336 == some .lt) = b := ⟨_, rfl⟩
  have HB1 := Aside0.mk hb1
  have HB2 := Aside0.mk hb2
  clear hds hu hX
  go_enter Try.func4, Try.ntmps4
  go_wp2_with fail
  refine (begun_calls w).mono ?_
  rintro e w0 ⟨rfl, hb0⟩
  have HB0 := Aside0.mk hb0
  clear hb0
  cases b1 with
  | false =>
    go_wp2_with fail
    go_ret
    exact ⟨rfl, HB0.out⟩
  | true =>
  cases b2 with
  | false =>
    go_wp2_with fail
    go_ret
    exact ⟨rfl, HB0.out⟩
  | true =>
  by_cases hn : 100 < n
  · have d1 : decide ((100 : Int) < (n : Int)) = true := by simp; omega
    have d2 : decide (100 < n) = true := by simp; omega
    clear hn
    go_wp2_with fail
    go_ret
    exact ⟨rfl, HB0.out⟩
  have d1 : decide ((100 : Int) < (n : Int)) = false := by simp; omega
  have d2 : decide (100 < n) = false := by simp; omega
  have HN : Aside0 (n ≤ 100) := ⟨by omega⟩
  have HXB := Aside0.mk (step_facts X HX.out HB1.out HB2.out)
  clear hn
  go_wp2_with fail
  refine (new_calls 0 w0).mono ?_
  rintro e w1 hp1
  rw [NewPost, if_pos ok0, p0] at hp1
  obtain ⟨g, rfl, hca, hga, hb1'⟩ := hp1
  have MA : Aside0 (Mine w w1 g true 0 0 (.slice none 0 0) []) := ⟨⟨hca, HB0.out.trans (hb1'.mono HB0.out.size), by have := HB0.out.size; omega, fun k hk => absurd hk (no_own k)⟩⟩
  clear hca hga hb1' hb1 hb2 d1 d2
  go_wp2_with fail
  go_loopg [8, 9] n (fun m v8 v9 wr => ∃ (i : Nat) (l : List Nat) (v : Value) (h : List Tm), m + i = n ∧ v9 = .int .i64 i ∧ Aside0 (FR wr w.heap.size v8 l) ∧ Aside0 (Mine w wr g true 0 l.length v h) ∧ Aside0 (l.length ≤ i) ∧ Aside0 (Set0 l h))
  case atStart => exact ⟨0, [], _, [], rfl, rfl, ⟨Kd.R_nil _ _ _ _ _⟩, MA, ⟨Nat.zero_le _⟩, ⟨fun d hd => (by cases hd), Heap.nil, List.Perm.refl _⟩⟩
  case round =>
    clear MA
    obtain ⟨i, l, v, h, hi, rfl, HF, MA, HL, HS⟩ := hrel
    cases gk with
    | succ gq =>
      have hin : i < n := by omega
      have d1 : decide ((i : Int) < (n : Int)) = true := by simp; omega
      have d2 : decide (i < n) = true := by simp; omega
      have ej : wrap64 ((i : Int) + 1) = ((i + 1 : Nat) : Int) := w64 _ (by have := HN.out; omega)
      have hdw : Kd.C (Kd.int .u64) wr A n ds := Kd.C_below HDS.out MA.out.below
      obtain ⟨ad, hA, hcell⟩ := Kd.at_int hdw (i : Int) (by omega) (by omega)
      cases hA
      have hmem : rd ds (i : Int) ∈ ds := by
        have hl : i < ds.length := by have := HDS.out.1; omega
        have : rd ds (i : Int) = ds[i] := by
          show ds.getD (Int.toNat (i : Int)) 0 = _
          rw [Int.toNat_natCast, List.getD_eq_getElem?_getD, List.getElem?_eq_getElem hl]
          rfl
        rw [this]
        exact List.getElem_mem hl
      obtain ⟨d, hd⟩ := Int.eq_ofNat_of_zero_le (HU.out _ hmem).1
      have hd2 : d < 18446744073709551616 := by have := (HU.out _ hmem).2; omega
      rw [hd, Int.toNat_natCast] at hcell
      have HI : Aside0 (gq + (i + 1) = n) := ⟨by omega⟩
      have HD2 := Aside0.mk hd2
      have hlen : h.length = l.length := by rw [HS.out.perm.length_eq, tms_length]
      have HLEN := Aside0.mk hlen
      clear hd hd2 hmem hdw hi hlen
      go_wp2_with fail
      refine (after_calls g 0 l.length v h _ wr MA.out.at_ (by have := HL.out; have := HI.out; have := HN.out; omega) (fun h => (plain_add0 d HD2.out h).1)).mono ?_
      rintro e w3 hp3
      have hge := geq_plain d HD2.out
      by_cases hok : (plainF d).2 = true
      · rw [AfterPost, if_neg (by rw [hok]; simp), if_neg (by have := HL.out; have := HI.out; have := HN.out; have := HLEN.out; omega)] at hp3
        obtain ⟨rfl, hm3⟩ := hp3
        have hnd : Flo.norm d ≤ 9218868437227405312 := by
          rw [Flo.plain_ok HD2.out] at hok
          exact of_decide_eq_true hok
        have hpl := plain_add0 d HD2.out hok
        rw [hpl.2.1, Flo.plain_good hnd] at hm3
        obtain ⟨v3, m3⟩ := MA.out.move hm3
        have M3 := Aside0.mk m3
        have HF3 : Aside0 (FR w3 w.heap.size u8 l) := ⟨by obtain ⟨_, _, hh, _⟩ := hm3; exact keepRow rfl (by decide) (by decide) HF.out MA.out.at_ hh⟩
        rw [hok] at hge
        have HND := Aside0.mk hnd
        have HSET := Aside0.mk (HS.out.snoc d hnd)
        have hadd : wrap64 ((l.length : Int) + 1) = ((l.length + 1 : Nat) : Int) := w64 _ (by have := HL.out; have := HI.out; have := HN.out; omega)
        have hsz3 : w.heap.size ≤ w3.heap.size := m3.below.size
        have HSZ3 := Aside0.mk hsz3
        obtain ⟨A3, c3, hsl⟩ := HF3.out.slice
        subst hsl
        clear hm3 m3 hok hcell hnd hpl hadd hsz3
        go_wp2_with (first | ((with_reducible refine gate_builtin (b := .append) (xs := #[.tmp 69, .tmp 71]) rfl ?_); at_builtin; refine Kd.R_append Kd.fl (w0 := w3) (W := w3) w.heap.size rfl (.tmp 69) (.tmp 71) 42 29 (.float .f64 0) 8 rfl under_floats info_float rfl (by decide) (by decide) (.slice A3 l.length c3) l d [.float .f64 d] (fun _ => True) (fun _ => False) rfl rfl rfl (fun _ hk => hk.elim) (fun _ _ => trivial) HF3.out ?hbb HSZ3.out (by have := HL.out; have := HI.out; have := HN.out; omega) ?_
                              case hbb => exact ⟨rfl, rfl, rfl, Nat.le_refl _, fun _ _ => rfl⟩
                              intro v5 w5 ho hb5 hg5 hat5
                              have HO5 : Aside0 (FR w5 w.heap.size v5 (l ++ [d])) := ⟨ho⟩
                              have M5 := Aside0.mk (M3.out.besideRow (by decide) (by decide) HF3.out hg5 (Nat.le_refl _))
                              obtain ⟨A5, c5, hv5⟩ := Kd.R_slice ho
                              rw [List.length_append, List.length_singleton] at hv5
                              subst hv5
                              have hne : ((l.length : Int) + 1 != ((l.length + 1 : Nat) : Int)) = false := by simp
                              clear ho hb5 hg5 hat5))
        go_roundg gq
        case measure => omega
        case rel => exact ⟨i + 1, l ++ [d], _, _, HI.out, by rw [ej], HO5, by rw [List.length_append, List.length_singleton]; exact M5, ⟨by have := HL.out; rw [List.length_append, List.length_singleton]; omega⟩, HSET⟩
      · have hok2 : (plainF d).2 = false := by simpa using hok
        rw [AfterPost, if_pos hok2] at hp3
        obtain ⟨rfl, hm3⟩ := hp3
        obtain ⟨v3, m3⟩ := MA.out.move hm3
        have M3 := Aside0.mk m3
        have HF3 : Aside0 (FR w3 w.heap.size u8 l) := ⟨by obtain ⟨_, _, hh, _⟩ := hm3; exact keepRow rfl (by decide) (by decide) HF.out MA.out.at_ hh⟩
        rw [hok2] at hge
        clear hm3 m3 hok hok2 hcell
        go_wp2_with fail
        go_roundg gq
        case measure => omega
        case rel => exact ⟨i + 1, l, _, _, HI.out, by rw [ej], HF3, M3, ⟨by have := HL.out; omega⟩, HS⟩
    | zero =>
      have d1 : decide ((i : Int) < (n : Int)) = false := by simp; omega
      have d2 : decide (i < n) = false := by simp; omega
      have HLN : Aside0 (l.length ≤ 100) := ⟨by have := HL.out; have := HN.out; omega⟩
      obtain ⟨S, hS⟩ : ∃ S, S = sortT h := ⟨_, rfl⟩
      have HSP : Aside0 (S.Perm (tms l)) := ⟨by rw [hS]; exact (sortT_perm HS.out.heap.small).trans HS.out.perm⟩
      have HSS : Aside0 (Sorted S) := ⟨by rw [hS]; exact sortT_sorted h⟩
      have HR0 : Aside0 (Round l S [] h 0 0) := ⟨⟨HS.out.heap, hS, fun y hy => (by cases hy), Nat.zero_le _⟩⟩
      have HH0 : Aside0 (h.length ≤ l.length) := ⟨by rw [HS.out.perm.length_eq, tms_length]; exact Nat.le_refl _⟩
      have HGD := Aside0.mk HS.out.good
      obtain ⟨A8, c8, hv8⟩ := HF.out.slice
      subst hv8
      have HBW : Aside0 (w.heap.size ≤ wr.heap.size) := ⟨MA.out.below.size⟩
      clear hi hS
      go_wp2_with ((with_reducible refine gate_dst (N := 79) rfl ?_); refine Kd.R_make Kd.bool (w0 := wr) (W := wr) wr.heap.size 4 rfl (N := 79) rfl 43 (.tmp 78) (.tmp 78) rfl (l.length : Int) rfl rfl under_bools (.bool false) 1 info_bool rfl (by decide) (by decide) false (ok := fun _ => True) (okp := fun _ => False) rfl (fun _ hk => hk.elim) trivial (by omega) (by have := HLN.out; omega) (Below.refl _ _) (Nat.le_refl _) ?_
                   intro vB wB hrB hbB hgB hatB
                   obtain ⟨AB, cB, hvB⟩ := Kd.R_slice hrB
                   rw [List.length_replicate, Int.toNat_natCast] at hvB
                   subst hvB
                   rw [Int.toNat_natCast, ← offOf_nil] at hrB
                   have HOB : Aside0 (BR wB w.heap.size (.slice AB l.length cB) (offOf l.length [])) := ⟨Kd.R_lower hrB HBW.out⟩
                   have HFB : Aside0 (FR wB w.heap.size (.slice A8 l.length c8) l) := ⟨Kd.R_below HF.out hbB⟩
                   have MB := Aside0.mk (MA.out.step hbB)
                   clear hrB hbB hgB hatB)
      go_loopg [14, 15, 16] 30 (fun m v14 v15 v16 wr => ∃ (k : Nat) (P h : List Tm) (now : Nat) (v : Value), m + k = 30 ∧ v16 = .int .i64 k ∧ v14 = .float .f64 (lastF P) ∧ v15 = .int .i64 (lastI P) ∧ Aside0 (Round l S P h now k) ∧ Aside0 (Mine w wr g true now l.length v h) ∧ Aside0 (FR wr w.heap.size (.slice A8 l.length c8) l) ∧
        Aside0 (BR wr w.heap.size (.slice AB l.length cB) (offOf l.length P)) ∧ Aside0 (h.length ≤ l.length))
      case atStart => exact ⟨0, [], h, 0, v, rfl, rfl, rfl, rfl, HR0, MB, HFB, HOB, HH0⟩
      case round =>
        clear HR0 MB HFB HOB HH0 MA HF HS HL HBW d1 d2
        obtain ⟨k, P, h, now, v, hkm, rfl, rfl, rfl, HR, MA, HF, HO, HH⟩ := hrel
        cases gk with
        | zero =>
          have d1 : decide ((k : Int) < 30) = false := by simp; omega
          have d2 : decide (k < 30) = false := by simp; omega
          clear hkm
          go_wp2_with fail
          go_ret
          exact ⟨rfl, MA.out.below⟩
        | succ ko =>
          have d1 : decide ((k : Int) < 30) = true := by simp; omega
          have d2 : decide (k < 30) = true := by simp; omega
          have ek : wrap64 ((k : Int) + 1) = ((k + 1 : Nat) : Int) := w64 _ (by omega)
          obtain ⟨s, hadd, hns, hsB, hok, hpl, hse⟩ := add_step now X k HXB.out HR.out.time (by omega)
          have har : ∀ w : World, (binOp .add 29 (.float .f64 now) (.float .f64 X)).run Try.prog w = .ok (.float .f64 s) w := fun w => run_float_arith w .add _ .f64 now X _ hadd
          have HKM := Aside0.mk hkm
          have hsI : s ≤ 9218868437227405312 := by
            have : okGo now s = true := hok
            rw [okGo, hpl] at this
            have h2 : infP s = false := by simpa using (Bool.and_eq_true_iff.1 this).2
            rcases Nat.lt_or_ge 9218868437227405312 s with h3 | h3
            · exfalso
              have : (1043 + (k + 1)) * 4503599627370496 ≤ 1073 * 4503599627370496 := Nat.mul_le_mul_right _ (by omega)
              omega
            · exact h3
          have HSF := Aside0.mk (And.intro hns (And.intro hsB (And.intro hok (And.intro hpl hsI))))
          clear hkm hadd hns hsB hok hpl hsI
          go_wp2_with fail
          refine (now_calls g true now l.length v h wr MA.out.at_).mono ?_
          rintro e w1 ⟨rfl, rfl⟩
          go_wp2_with fail
          refine (gom_calls g now l.length v h s w1 MA.out.at_ (by have := HH.out; have := HLN.out; omega)).mono ?_
          rintro e w2 hp2
          rw [GoPost, if_pos HSF.out.2.2.1, HSF.out.2.2.2.1] at hp2
          obtain ⟨u1, rfl, hi2, hm2⟩ := hp2
          obtain ⟨v2, m2⟩ := MA.out.move hm2
          obtain ⟨a1, a2, a3⟩ := goL_sorted s h.length h HR.out.heap rfl
          have hlen2 : (goL s h.length h).2.length ≤ l.length := by
            have h1 := sortT_length (goL s h.length h).2
            have h2 := goR_length s (sortT h)
            have h3 := sortT_length h
            rw [a3] at h1
            have := HH.out
            omega
          rw [a1] at hi2
          obtain ⟨h', hh'⟩ : ∃ h', h' = (goL s h.length h).2 := ⟨_, rfl⟩
          rw [← hh'] at m2 a2 a3 hlen2
          have M2 := Aside0.mk m2
          have HI2 : Aside0 (IR w2 w.heap.size u1 ((goS s (sortT h)).map (·.1))) := ⟨Kd.R_lower hi2 MA.out.below.size⟩
          have HF2 : Aside0 (FR w2 w.heap.size (.slice A8 l.length c8) l) := ⟨by obtain ⟨_, _, hh, _⟩ := hm2; exact keepRow rfl (by decide) (by decide) HF.out MA.out.at_ hh⟩
          have HO2 : Aside0 (BR w2 w.heap.size (.slice AB l.length cB) (offOf l.length P)) := ⟨by obtain ⟨_, _, hh, _⟩ := hm2; exact keepRow rfl (by decide) (by decide) HO.out MA.out.at_ hh⟩
          have HSM : Aside0 (Small (sortT h)) := ⟨HR.out.heap.small.perm (sortT_perm HR.out.heap.small)⟩
          have HGL := Aside0.mk (goS_le HSF.out.2.2.2.2 HSM.out)
          have HGG := Aside0.mk (goR_gt HSF.out.2.2.2.2 HSM.out (sortT_sorted h))
          have HGS := Aside0.mk (goS_goR s (sortT h))
          have HGN : Aside0 ((goS s (sortT h)).length ≤ l.length) := ⟨by have h2 := goS_length s (sortT h); have h3 := sortT_length h; have := HH.out; omega⟩
          have HA2 := Aside0.mk (And.intro a2 (And.intro a3 hlen2))
          obtain ⟨G, hG⟩ : ∃ G, G = goS s (sortT h) := ⟨_, rfl⟩
          rw [← hG] at HI2 HGL HGS HGN
          obtain ⟨A1, c1, hu1⟩ := HI2.out.slice
          rw [List.length_map] at hu1
          subst hu1
          clear hi2 hm2 m2 a1 a2 a3 hlen2 hh' hG har
          go_wp2_with fail
          refine (now_calls g true s l.length v2 h' w2 M2.out.at_).mono ?_
          rintro e w3 ⟨rfl, rfl⟩
          go_wp2_with fail
          go_loopg [14, 15, 20] G.length (fun m v14 v15 v20 wr => ∃ (j : Nat), m + j = G.length ∧ v20 = .int .i64 j ∧ v14 = .float .f64 (lastF (P ++ G.take j)) ∧ v15 = .int .i64 (lastI (P ++ G.take j)) ∧ Aside0 (Mine w wr g true s l.length v2 h') ∧ Aside0 (FR wr w.heap.size (.slice A8 l.length c8) l) ∧
            Aside0 (BR wr w.heap.size (.slice AB l.length cB) (offOf l.length (P ++ G.take j))) ∧ Aside0 (IR wr w.heap.size (.slice A1 G.length c1) (G.map (·.1))))
          case atStart => exact ⟨0, rfl, rfl, by simp, by simp, M2, HF2, by simpa using HO2, HI2⟩
          case round =>
            clear M2 HF2 HO2 HI2 MA HF HO
            obtain ⟨j, hjm, rfl, rfl, rfl, MA, HF, HO, HI⟩ := hrel
            cases gk with
            | succ gj =>
              have hj : j < G.length := by omega
              have dj1 : decide ((j : Int) < (G.length : Int)) = true := by simp; omega
              have dj2 : decide (j < G.length) = true := by simp; omega
              have ej : wrap64 ((j : Int) + 1) = ((j + 1 : Nat) : Int) := w64 _ (by have := HGN.out; have := HLN.out; omega)
              have hsplit : S = (P ++ G.take j) ++ G[j] :: (G.drop (j + 1) ++ goR s (sortT h)) := by
                have hsp := HR.out.split
                rw [← HGS.out] at hsp
                have hG : G = G.take j ++ G[j] :: G.drop (j + 1) := by rw [← List.drop_eq_getElem_cons hj, List.take_append_drop]
                have h2 : P ++ (G ++ goR s (sortT h)) = P ++ ((G.take j ++ G[j] :: G.drop (j + 1)) ++ goR s (sortT h)) := congrArg (fun z => P ++ (z ++ goR s (sortT h))) hG
                rw [hsp, h2]
                simp only [List.append_assoc, List.cons_append]
              obtain ⟨q, hq, hx, hle, hoff, hlt, b, hsame, hb⟩ := ord_step l S _ _ _ HGD.out HSP.out HSS.out hsplit
              have hgs := HGL.out _ (List.getElem_mem hj)
              have hnext : P ++ G.take (j + 1) = (P ++ G.take j) ++ [G[j]] := by
                rw [List.take_succ_eq_append_getElem hj, List.append_assoc]
              rw [hx] at hle hlt hsame hb hgs hnext
              have hn1 : (P ++ G.take (j + 1)) = (P ++ G.take j) ++ [((q : Int) + 1, Flo.norm l[q])] := hnext
              have hoset := offOf_set l.length (P ++ G.take j) q (Flo.norm l[q]) hq
              rw [← hn1] at hoset
              have hlF := lastF_snoc (P ++ G.take j) ((q : Int) + 1, Flo.norm l[q])
              have hlI := lastI_snoc (P ++ G.take j) ((q : Int) + 1, Flo.norm l[q])
              rw [← hn1] at hlF hlI
              have hgd := HGD.out _ (List.getElem_mem hq)
              have hadd := add_norm _ hgd
              have hb' : b = true → lastI (P ++ G.take j) ≤ (q : Int) + 1 := hb
              have hlF' : lastF (P ++ G.take (j + 1)) = Flo.norm l[q] := hlF
              have hlI' : lastI (P ++ G.take (j + 1)) = (q : Int) + 1 := hlI
              have hle' : Flo.norm l[q] ≤ 9218868437227405312 := hle
              have hlt' : (FloatKind.f64.format.order (Flo.norm l[q]) (lastF (P ++ G.take j)) == some .lt) = false := hlt
              have hsame' : flumeref3_Same.f (Flo.norm l[q]) (lastF (P ++ G.take j)) = some b := hsame
              have hgs' : Flo.norm l[q] ≤ s := hgs
              clear hb hlF hlI hle hlt hsame hgs hgd
              obtain ⟨Z, hZ⟩ : ∃ Z, Z = (q : Int) + 1 := ⟨_, rfl⟩
              have ez : wrap64 (Z - 1) = (q : Int) := by rw [hZ, w64 _ (by have := HLN.out; omega)]; omega
              have hidj : (G.map (·.1))[j]'(by rw [List.length_map]; exact hj) = Z := by rw [List.getElem_map, hx, hZ]
              obtain ⟨g1, hg1, hc1⟩ := HI.out.get j (by rw [List.length_map]; exact hj)
              rw [hidj] at hc1
              subst hg1
              obtain ⟨gA, hgA, hcA⟩ := HF.out.get q hq
              subst hgA
              obtain ⟨gB, hgB, hcB, hfB⟩ := HO.out.get q (by rw [offOf_length]; exact hq)
              rw [hoff] at hcB
              subst hgB
              obtain ⟨d, hd⟩ : ∃ d, d = l[q] := ⟨_, rfl⟩
              rw [← hd] at hcA hlF' hle' hlt' hsame' hgs' hadd
              obtain ⟨T, hT⟩ : ∃ T, T = Flo.norm d := ⟨_, rfl⟩
              rw [← hT] at hlF' hle' hlt' hsame' hgs' hadd
              rw [← hZ] at hb' hlI'
              have hgt : (FloatKind.f64.format.order T s == some .gt) = false := by
                have h1 : T ≤ s := hgs'
                have h2 : s ≤ 9218868437227405312 := HSF.out.2.2.2.2
                rw [Flo.order_good (by rw [Flo.norm_le (by omega)]; omega) (by rw [Flo.norm_le h2]; exact h2), Flo.norm_le (by omega), Flo.norm_le h2]
                rcases Nat.eq_or_lt_of_le h1 with h3 | h3
                · rw [Nat.compare_eq_eq.2 h3]; rfl
                · rw [Nat.compare_eq_lt.2 h3]; rfl
              have har : ∀ w : World, (binOp .add 29 (.float .f64 d) (.float .f64 0)).run Try.prog w = .ok (.float .f64 T) w := fun w => run_float_arith w .add _ .f64 d 0 _ hadd
              obtain ⟨L0, hL0⟩ : ∃ L0, L0 = lastF (P ++ G.take j) := ⟨_, rfl⟩
              obtain ⟨L1, hL1⟩ : ∃ L1, L1 = lastI (P ++ G.take j) := ⟨_, rfl⟩
              rw [← hL0] at hlt' hsame'
              rw [← hL1] at hb'
              rw [← hL0, ← hL1]
              have HSM2 := Aside0.mk hsame'
              have HBB := Aside0.mk hb'
              have HJ := Aside0.mk hjm
              have HOS := Aside0.mk hoset
              have HLF := Aside0.mk hlF'
              have HLI := Aside0.mk hlI'
              have HIDJ := Aside0.mk hidj
              have HQ := Aside0.mk hq
              clear hjm hsplit hx hle' hoff hsame' hb' hgs' hnext hn1 hoset hlF' hlI' hadd hidj hL0 hL1 hZ hT hd
              go_wp2_with fail
              refine (flumeref3_Same.calls T L0 b _ HSM2.out).mono ?_
              rintro e w4 ⟨rfl, hd4⟩
              have M4 := Aside0.mk (MA.out.step hd4.below)
              have HF4 : Aside0 (FR w4 w.heap.size (.slice (some ⟨gA, 0, none⟩) l.length c8) l) := ⟨Kd.R_below HF.out hd4.below⟩
              have HO4 : Aside0 (BR w4 w.heap.size (.slice (some ⟨gB, 0, none⟩) l.length cB) (offOf l.length (P ++ G.take j))) := ⟨Kd.R_below HO.out hd4.below⟩
              have HI4 : Aside0 (IR w4 w.heap.size (.slice (some ⟨g1, 0, none⟩) G.length c1) (G.map (·.1))) := ⟨Kd.R_below HI.out hd4.below⟩
              clear hc1 hcA hcB hfB hd4 hgt hlt' har
              obtain ⟨g1', hg1', hc1⟩ := HI4.out.get j (by rw [List.length_map]; exact hj)
              rw [HIDJ.out] at hc1
              cases hg1'
              obtain ⟨gB', hgB', hcB, hfB⟩ := HO4.out.get q (by rw [offOf_length]; exact HQ.out)
              cases hgB'
              obtain ⟨hput, hgput⟩ := Kd.R_put (by rw [offOf_length]; exact HO4.out) (q : Int) true
              rw [Int.toNat_natCast] at hput hgput
              rw [offOf_length, HOS.out] at hput
              have HO5 := Aside0.mk hput
              have HI5 : Aside0 (IR (w4.setCell ⟨gB, q, none⟩ (.bool true)) w.heap.size (.slice (some ⟨g1, 0, none⟩) G.length c1) (G.map (·.1))) := ⟨Kd.R_over HI4.out HO4.out (by intro q hq; rcases List.mem_cons.1 hq with rfl | hq; decide; cases hq) hgput⟩
              have HF5 : Aside0 (FR (w4.setCell ⟨gB, q, none⟩ (.bool true)) w.heap.size (.slice (some ⟨gA, 0, none⟩) l.length c8) l) := ⟨Kd.R_over HF4.out HO4.out (by intro q hq; rcases List.mem_cons.1 hq with rfl | hq; decide; cases hq) hgput⟩
              have M5 := Aside0.mk (M4.out.besideRow (by decide) (by decide) HO4.out hgput (Nat.le_refl _))
              obtain ⟨g1', hg1', hc5⟩ := HI5.out.get j (by rw [List.length_map]; exact hj)
              rw [HIDJ.out] at hc5
              cases hg1'
              clear hput hgput
              cases b with
              | true =>
                have hbz : decide (Z < L1) = false := by have := HBB.out rfl; simp; omega
                go_wp2_with fail
                go_quiet (fail)
                go_wp2_with fail
                go_roundg gj
                case measure => omega
                case rel => exact ⟨j + 1, by have := HJ.out; omega, by rw [ej], by rw [HLF.out], by rw [HLI.out], ⟨M5.out.step (pw_below_drewN (Below.refl _ _) _)⟩, ⟨Kd.R_drewN HF5.out _⟩, ⟨Kd.R_drewN HO5.out _⟩, ⟨Kd.R_drewN HI5.out _⟩⟩
              | false =>
                go_wp2_with fail
                go_quiet (fail)
                go_wp2_with fail
                go_roundg gj
                case measure => omega
                case rel => exact ⟨j + 1, by have := HJ.out; omega, by rw [ej], by rw [HLF.out], by rw [HLI.out], ⟨M5.out.step (pw_below_drewN (Below.refl _ _) _)⟩, ⟨Kd.R_drewN HF5.out _⟩, ⟨Kd.R_drewN HO5.out _⟩, ⟨Kd.R_drewN HI5.out _⟩⟩
            | zero =>
              have dj1 : decide ((j : Int) < (G.length : Int)) = false := by simp; omega
              have dj2 : decide (j < G.length) = false := by simp; omega
              have htk : G.take j = G := List.take_of_length_le (by omega)
              rw [htk] at HO ⊢
              have hsp : S = (P ++ G) ++ goR s (sortT h) := by
                have hsp := HR.out.split
                rw [← HGS.out] at hsp
                rw [hsp, List.append_assoc]
              have hpast : ∀ y ∈ P ++ G, y.2 ≤ s := by
                intro y hy
                rcases List.mem_append.1 hy with hy | hy
                · have := HR.out.past y hy
                  have := HSF.out.1
                  omega
                · exact HGL.out y hy
              have HD := Aside0.mk (ord_done l S (P ++ G) (goR s (sortT h)) s HGD.out HSP.out hsp hpast HGG.out HSF.out.2.2.2.2)
              have HNR : Aside0 (Round l S (P ++ G) h' s (k + 1)) := ⟨⟨HA2.out.1, by rw [HA2.out.2.1]; exact hsp, hpast, HSF.out.2.1⟩⟩
              obtain ⟨P2, hP2⟩ : ∃ P2, P2 = P ++ G := ⟨_, rfl⟩
              rw [← hP2] at HD HNR HO ⊢
              clear hjm htk hsp hpast hP2 HI
              go_wp2_with fail
              go_loopg [22] l.length (fun m v22 wr => ∃ (q : Nat), m + q = l.length ∧ v22 = .int .i64 q ∧ Aside0 (Mine w wr g true s l.length v2 h') ∧ Aside0 (FR wr w.heap.size (.slice A8 l.length c8) l) ∧ Aside0 (BR wr w.heap.size (.slice AB l.length cB) (offOf l.length P2)))
              case atStart => exact ⟨0, rfl, rfl, MA, HF, HO⟩
              case round =>
                clear MA HF HO
                obtain ⟨q, hqm, rfl, MA, HF, HO⟩ := hrel
                cases gk with
                | zero =>
                  have dq1 : decide ((q : Int) < (l.length : Int)) = false := by simp; omega
                  have dq2 : decide (q < l.length) = false := by simp; omega
                  clear hqm
                  go_wp2_with fail
                  go_roundg ko
                  case measure => omega
                  case rel => exact ⟨k + 1, P2, h', s, v2, by have := HKM.out; omega, by rw [ek], rfl, rfl, HNR, MA, HF, HO, ⟨HA2.out.2.2⟩⟩
                | succ gq =>
                  have hq : q < l.length := by omega
                  have dq1 : decide ((q : Int) < (l.length : Int)) = true := by simp; omega
                  have dq2 : decide (q < l.length) = true := by simp; omega
                  have eq1 : wrap64 ((q : Int) + 1) = ((q + 1 : Nat) : Int) := w64 _ (by have := HLN.out; omega)
                  obtain ⟨gA, hgA, hcA⟩ := HF.out.get q hq
                  subst hgA
                  obtain ⟨gB, hgB, hcB, hfB⟩ := HO.out.get q (by rw [offOf_length]; exact hq)
                  subst hgB
                  have hdn := HD.out q hq
                  obtain ⟨bb, hbb⟩ : ∃ bb, leF l[q] s = bb := ⟨_, rfl⟩
                  rw [hbb] at hdn
                  rw [hdn] at hcB
                  obtain ⟨d, hd⟩ : ∃ d, d = l[q] := ⟨_, rfl⟩
                  rw [← hd] at hcA hbb
                  have hle : (FloatKind.f64.format.order d s == some .lt || FloatKind.f64.format.order d s == some .eq) = bb := hbb
                  have HQM := Aside0.mk hqm
                  clear hdn hbb hd hqm
                  cases bb with
                  | true =>
                    go_wp2_with fail
                    go_quiet (fail)
                    go_wp2_with fail
                    go_roundg gq
                    case measure => omega
                    case rel => exact ⟨q + 1, by have := HQM.out; omega, by rw [eq1], ⟨MA.out.step (pw_below_drewN (Below.refl _ _) _)⟩, ⟨Kd.R_drewN HF.out _⟩, ⟨Kd.R_drewN HO.out _⟩⟩
                  | false =>
                    go_wp2_with fail
                    go_quiet (fail)
                    go_wp2_with fail
                    go_roundg gq
                    case measure => omega
                    case rel => exact ⟨q + 1, by have := HQM.out; omega, by rw [eq1], ⟨MA.out.step (pw_below_drewN (Below.refl _ _) _)⟩, ⟨Kd.R_drewN HF.out _⟩, ⟨Kd.R_drewN HO.out _⟩⟩
end Go.Proofs.Ytnniljcmjcjleaa
