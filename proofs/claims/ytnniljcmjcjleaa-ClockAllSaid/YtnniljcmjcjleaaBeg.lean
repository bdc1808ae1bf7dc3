/- The law's first look at a clock. -/
import Derived.Test.YtnniljcmjcjleaaTims
import Derived.Test.YtnniljcmjcjleaaCan
namespace Go.Proofs.Ytnniljcmjcjleaa
open Go.RowKit Go.Proofs.Ytnniljcmjcjleaa.QA Go.Proofs.YtnniljcmjcjleaaW.PrintWords Go.Proofs.YtnniljcmjcjleaaW.PrintLast Go.Proofs.YtnniljcmjcjleaaW.PrintMore
attribute [local go_sem] fl_store fl_bits fl_frombits fl_usigned
set_option linter.unusedVariables false
set_option linter.unusedSimpArgs false

abbrev F1 : Nat := 4607182418800017408
abbrev F2 : Nat := 4611686018427387904
abbrev F3 : Nat := 4613937818241073152
abbrev FI : Nat := 9218868437227405312
theorem p1 : plainF 4607182418800017408 = (4607182418800017408, true) := by decide +kernel
theorem p2 : plainF 4611686018427387904 = (4611686018427387904, true) := by decide +kernel
theorem p3 : plainF 4613937818241073152 = (4613937818241073152, true) := by decide +kernel
theorem pI : plainF 9218868437227405312 = (9218868437227405312, true) := by decide +kernel
theorem ok1 : okStart 4607182418800017408 = true := by decide +kernel
theorem add12 : FloatKind.f64.format.add 4607182418800017408 4611686018427387904 = some 4613937818241073152 := by decide +kernel
theorem add1I : FloatKind.f64.format.add 4607182418800017408 9218868437227405312 = some 9218868437227405312 := by decide +kernel
theorem addF12 : addF 4607182418800017408 4611686018427387904 = 4613937818241073152 := by rw [addF, add12]; rfl
theorem addF1I : addF 4607182418800017408 9218868437227405312 = 9218868437227405312 := by rw [addF, add1I]; rfl
theorem less1 : lessT (2, 9218868437227405312) (1, 4613937818241073152) = false := by
  rw [lessT, ord_lex _ _ (by decide) (by decide)]
  decide
theorem push0 : pushP [] (1, 4613937818241073152) = [(1, 4613937818241073152)] := by
  show upP [(1, 4613937818241073152)] 0 = _
  rw [upP]
theorem push1 : pushP [(1, 4613937818241073152)] (2, 9218868437227405312) = [(1, 4613937818241073152), (2, 9218868437227405312)] := by
  show upP [(1, 4613937818241073152), (2, 9218868437227405312)] 1 = _
  rw [upP]
  show (if lessT (2, 9218868437227405312) (1, 4613937818241073152) = true then _ else _) = _
  rw [less1]
  rfl
theorem pop1 : popT [(1, 4613937818241073152), (2, 9218868437227405312)] = [(2, 9218868437227405312)] := by
  show (downP 1 [(2, 9218868437227405312), (1, 4613937818241073152)] 0).1.take 1 = _
  rw [downP, dif_neg (by omega)]
  rfl
theorem go1 : goL 4613937818241073152 2 [(1, 4613937818241073152), (2, 9218868437227405312)] = ([1], [(2, 9218868437227405312)]) := by
  have h1 : leF 4613937818241073152 4613937818241073152 = true := by decide +kernel
  have h2 : leF 9218868437227405312 4613937818241073152 = false := by decide +kernel
  rw [goL, if_pos ⟨by decide, h1⟩, pop1, goL, if_neg (fun h => by have := h.2; rw [show leF (tm [(2, 9218868437227405312)] 0).2 4613937818241073152 = false from h2] at this; cases this)]
  rfl
theorem next1 : nextP [(1, 4613937818241073152), (2, 9218868437227405312)] = (4613937818241073152, true) := by decide +kernel
theorem next2 : nextP [(2, 9218868437227405312)] = (0, false) := by decide +kernel
theorem okGo1 : okGo 4607182418800017408 4613937818241073152 = true := by decide +kernel
theorem inf_one (w : World) : Calls Try.prog 26 #[.int .i64 1] w fun e w' => e = .returned (.float .f64 9218868437227405312) ∧ Drawn0 w w' := math_Inf.calls 1 _ w (by decide +kernel)

/-- A clock made since w. -/
structure Mine (w wi : World) (g : Nat) (b : Bool) (now : Nat) (last : Int) (v : Value) (l : List Tm) : Prop where
  at_ : CAt wi g b now last v l
  below : Below w.heap.size w wi
  base : w.heap.size ≤ g
  row : ∀ k, own v k → w.heap.size ≤ k
theorem Mine.move {w wi wj : World} {g : Nat} {b b1 : Bool} {now now1 : Nat} {last last1 : Int} {v : Value} {l l1 : List Tm} (h : Mine w wi g b now last v l) (hp : MovePost wi g b1 now1 last1 v l1 wj) : ∃ v1, Mine w wj g b1 now1 last1 v1 l1 := by
  obtain ⟨v1, hc, hh, hat⟩ := hp
  refine ⟨v1, hc, h.below.trans (hh.below _ h.below.size (fun k hk => ?_)), h.base, fun k hk => ?_⟩
  · rcases hk with rfl | hk
    · exact h.base
    · exact h.row k hk
  · rcases hat with he | ⟨k', he, hk'⟩
    · exact h.row k (hk.trans he)
    · have : some k = some k' := hk.trans he
      injection this with this
      have := h.below.size
      omega
theorem Mine.step {w wi wj : World} {g : Nat} {b : Bool} {now : Nat} {last : Int} {v : Value} {l : List Tm} (h : Mine w wi g b now last v l) (hb : Below wi.heap.size wi wj) : Mine w wj g b now last v l :=
  ⟨h.at_.below hb, h.below.trans (hb.mono h.below.size), h.base, h.row⟩
theorem IR.slice {w : World} {base : Nat} {u : Value} {l : List Int} (h : IR w base u l) : ∃ A c, u = .slice A l.length c := Kd.R_slice h
theorem TB.slice {w : World} {base : Nat} {u : Value} {l : List Tm} (h : TB w base u l) : ∃ A c, u = .slice A l.length c := Kd.R_slice h
theorem sortT_length (l : List Tm) : (sortT l).length = l.length := by simp [sortT]
theorem eq33 : (FloatKind.f64.format.order 4613937818241073152 4613937818241073152 == some .eq) = true := by decide +kernel
set_option maxHeartbeats 8000000 in
set_option maxRecDepth 100000 in
theorem begun_calls (w : World) : Calls Try.prog 7 #[] w fun e w' => e = .returned (.bool true) ∧ Below w.heap.size w w' := by
  go_enter Try.func7, Try.ntmps7
  go_wp2_with fail
  refine (new_calls 4607182418800017408 w).mono ?_
  rintro e w1 hp
  rw [NewPost, if_pos ok1, p1] at hp
  obtain ⟨g, rfl, hc, hg, hb⟩ := hp
  have M1 := Aside0.mk (Mine.mk hc hb hg (fun k hk => by cases hk))
  clear hc hb hg
  go_wp2_with fail
  refine (after_calls g 4607182418800017408 0 _ [] 4611686018427387904 w1 M1.out.at_ (by omega) (fun _ => by rw [p2]; exact add12.trans (by rw [addF12]))).mono ?_
  rintro e w2 hp
  rw [AfterPost, p2, if_neg (by simp), if_neg (by simp), addF12, show (0 : Int) + 1 = 1 from rfl, push0] at hp
  obtain ⟨rfl, hp⟩ := hp
  obtain ⟨v2, m2⟩ := M1.out.move hp
  have M2 := Aside0.mk m2
  clear hp m2 M1
  go_wp2_with fail
  refine (inf_one w2).mono ?_
  rintro e w3 ⟨rfl, hd⟩
  have M3 := Aside0.mk (M2.out.step hd.below)
  clear hd M2
  go_wp2_with fail
  refine (after_calls g 4607182418800017408 1 v2 [(1, 4613937818241073152)] 9218868437227405312 w3 M3.out.at_ (by omega) (fun _ => by rw [pI]; exact add1I.trans (by rw [addF1I]))).mono ?_
  rintro e w4 hp
  rw [AfterPost, pI, if_neg (by simp), if_neg (by simp), addF1I, show (1 : Int) + 1 = 2 from rfl, push1] at hp
  obtain ⟨rfl, hp⟩ := hp
  obtain ⟨v4, m4⟩ := M3.out.move hp
  have M4 := Aside0.mk m4
  clear hp m4 M3
  go_wp2_with fail
  refine (jump_calls g 4607182418800017408 2 v4 [(1, 4613937818241073152), (2, 9218868437227405312)] w4 M4.out.at_ (by simp)).mono ?_
  rintro e w5 hp
  rw [JumpPost, next1, if_pos ⟨rfl, okGo1⟩, p3] at hp
  rw [show ([(1, 4613937818241073152), (2, 9218868437227405312)] : List Tm).length = 2 from rfl, go1] at hp
  obtain ⟨u, rfl, hi, hp⟩ := hp
  obtain ⟨v5, m5⟩ := M4.out.move hp
  have M5 := Aside0.mk m5
  obtain ⟨Au, cu, rfl⟩ := hi.slice
  have e1 : (([1] : List Int).length) = 1 := rfl
  clear hp m5 M4 hi
  go_wp2_with fail
  refine (next_calls g 4613937818241073152 2 v5 [(2, 9218868437227405312)] w5 M5.out.at_).mono ?_
  rintro e w6 ⟨rfl, rfl⟩
  rw [next2]
  go_wp2_with fail
  refine (now_calls g true 4613937818241073152 2 v5 [(2, 9218868437227405312)] w6 M5.out.at_).mono ?_
  rintro e w7 ⟨rfl, rfl⟩
  have e33 := eq33
  go_wp2_with fail
  refine (timers_calls g 4613937818241073152 2 v5 [(2, 9218868437227405312)] w7 M5.out.at_ (by intro t ht; rw [List.mem_singleton.1 ht]; decide) (by simp)).mono ?_
  rintro e w8 ⟨u8, rfl, ht, hb8⟩
  obtain ⟨A8, c8, rfl⟩ := ht.slice
  have HB := Aside0.mk (M5.out.step hb8).below
  rw [sortT_length]
  clear ht hb8
  go_wp2_with fail
  go_ret
  exact ⟨by first | rfl | simp, HB.out⟩
end Go.Proofs.Ytnniljcmjcjleaa
