/- Walks of functions that read and compute, with what each comes to as a plain Lean function: written by a program of mine. -/
import Derived.Test.YtooddfmjgplbjaaQAx0
import Derived.Test.YtooddfmjgplbjaaQAx1
namespace Go.Proofs.Ytooddfmjgplbjaa.QA
open Go.RowKit Go.Proofs.YtooddfmjgplbjaaW.PrintWords Go.Proofs.YtooddfmjgplbjaaW.PrintLast Go.Proofs.YtooddfmjgplbjaaW.PrintMore
attribute [local go_sem] max2_int min2_int max_two min_two max_three min_three max_four min_four fl_store fl_bits fl_frombits   -- for this text's walks alone
set_option linter.unusedVariables false
set_option linter.unusedSimpArgs false

/-! ### name_Kind: function 10 -/
def name_Kind.f (k : Nat) (a0 : ByteArray) : Option (Int) := (name_Number.f k a0).bind fun bt106 => ((name_May.f k a0).bind fun t108 => (if t108 = true then (if bt106.2 = true then (some 1) else (if a0.toList = ([99, 97, 116, 97, 108, 111, 103] : List UInt8) then (some 2) else (if a0.toList = ([99, 97, 116, 97, 108, 111, 103, 45, 110, 101, 120, 116] : List UInt8) then (some 3) else (if a0.toList = ([115, 101, 103, 109, 101, 110, 116, 45, 110, 101, 120, 116] : List UInt8) then (some 3) else (some 4))))) else (some 0)))
theorem name_Kind.mono : ∀ a0 k, LeO (name_Kind.f k a0) (name_Kind.f (k + 1) a0) := by
  intro a0 k
  unfold name_Kind.f
  repeat' first
      | (with_reducible exact name_May.mono _ _)
      | (with_reducible exact name_Number.mono _ _)
      | (with_reducible exact LeO.refl _)
      | (with_reducible exact LeO.none _)
      | (with_reducible refine LeO.ite ?_ ?_)
      | (with_reducible refine LeO.bind ?_ (fun _ => ?_))
      | exact name_May.mono _ _
      | exact name_Number.mono _ _
      | exact LeO.none _
      | refine LeO.ite ?_ ?_
      | refine LeO.bind ?_ (fun _ => ?_)
set_option maxHeartbeats 8000000 in
set_option maxRecDepth 100000 in
theorem name_Kind.calls (k : Nat) (a0 : ByteArray) (r : Int) (w : World) (h : name_Kind.f k a0 = some r) :
    Calls Try.prog 10 #[.string a0] w fun e w' => e = .returned (.int .i64 r) ∧ Drawn0 w w' := by
  have H : ((name_Number.f k a0).bind fun bt106 => ((name_May.f k a0).bind fun t108 => (if t108 = true then (if bt106.2 = true then (some 1) else (if a0.toList = ([99, 97, 116, 97, 108, 111, 103] : List UInt8) then (some 2) else (if a0.toList = ([99, 97, 116, 97, 108, 111, 103, 45, 110, 101, 120, 116] : List UInt8) then (some 3) else (if a0.toList = ([115, 101, 103, 109, 101, 110, 116, 45, 110, 101, 120, 116] : List UInt8) then (some 3) else (some 4))))) else (some 0)))) = some r := h
  clear h
  replace H := Option.bind_eq_some_iff.mp H
  obtain ⟨⟨t106, t107⟩, A20, H⟩ := H
  replace H : ((name_May.f k a0).bind fun t108 => (if t108 = true then (if t107 = true then (some 1) else (if a0.toList = ([99, 97, 116, 97, 108, 111, 103] : List UInt8) then (some 2) else (if a0.toList = ([99, 97, 116, 97, 108, 111, 103, 45, 110, 101, 120, 116] : List UInt8) then (some 3) else (if a0.toList = ([115, 101, 103, 109, 101, 110, 116, 45, 110, 101, 120, 116] : List UInt8) then (some 3) else (some 4))))) else (some 0))) = some r := H
  have A2 := Aside0.mk A20
  clear A20
  replace H := Option.bind_eq_some_iff.mp H
  obtain ⟨t108, A30, H⟩ := H
  replace H : (if t108 = true then (if t107 = true then (some 1) else (if a0.toList = ([99, 97, 116, 97, 108, 111, 103] : List UInt8) then (some 2) else (if a0.toList = ([99, 97, 116, 97, 108, 111, 103, 45, 110, 101, 120, 116] : List UInt8) then (some 3) else (if a0.toList = ([115, 101, 103, 109, 101, 110, 116, 45, 110, 101, 120, 116] : List UInt8) then (some 3) else (some 4))))) else (some 0)) = some r := H
  have A3 := Aside0.mk A30
  clear A30
  by_cases c4 : t108 = true
  · subst c4
    have H1 : (if t107 = true then (some 1) else (if a0.toList = ([99, 97, 116, 97, 108, 111, 103] : List UInt8) then (some 2) else (if a0.toList = ([99, 97, 116, 97, 108, 111, 103, 45, 110, 101, 120, 116] : List UInt8) then (some 3) else (if a0.toList = ([115, 101, 103, 109, 101, 110, 116, 45, 110, 101, 120, 116] : List UInt8) then (some 3) else (some 4))))) = some r := by rw [if_pos rfl] at H; exact H
    clear H
    have H := H1
    clear H1
    by_cases c5 : t107 = true
    · subst c5
      have H1 : (some 1) = some r := by rw [if_pos rfl] at H; exact H
      clear H
      have H := H1
      clear H1
      obtain rfl := Option.some.inj H
      go_enter Try.func10, Try.ntmps10
      go_wp2_with (first | ((with_reducible refine gate_callee (f := 6) rfl ?_); refine goesL_ (some 7) rfl rfl Try.func6 (by kernel_rfl) rfl #[.string a0] rfl (by (try simp only [List.map_toArray, List.map_cons, List.map_nil]); first | done | rfl | (simp only [List.length_drop, List.length_take]; rfl)) ?_; (with_reducible refine (name_Number.calls k a0 t106 true _ A2.out).mono ?_); rintro e w' ⟨rfl, ⟨nd, rfl⟩⟩; refine ⟨_, rfl, ?_⟩) | ((with_reducible refine gate_callee (f := 8) rfl ?_); refine goesL_ (some 12) rfl rfl Try.func8 (by kernel_rfl) rfl #[.string a0] rfl (by (try simp only [List.map_toArray, List.map_cons, List.map_nil]); first | done | rfl | (simp only [List.length_drop, List.length_take]; rfl)) ?_; (with_reducible refine (name_May.calls k a0 true _ A3.out).mono ?_); rintro e w' ⟨rfl, ⟨nd, rfl⟩⟩; refine ⟨_, rfl, ?_⟩))
      go_ret
      exact ⟨by first | rfl | (simp; done) | (simp [*]; done), by repeat (first | exact Drawn0.refl _ | apply Drawn0.step)⟩
    · replace c5 := Bool.eq_false_iff.mpr c5
      subst c5
      have H1 : (if a0.toList = ([99, 97, 116, 97, 108, 111, 103] : List UInt8) then (some 2) else (if a0.toList = ([99, 97, 116, 97, 108, 111, 103, 45, 110, 101, 120, 116] : List UInt8) then (some 3) else (if a0.toList = ([115, 101, 103, 109, 101, 110, 116, 45, 110, 101, 120, 116] : List UInt8) then (some 3) else (some 4)))) = some r := by rw [if_neg (show ¬ (false = true) by decide)] at H; exact H
      clear H
      have H := H1
      clear H1
      by_cases c6 : a0.toList = ([99, 97, 116, 97, 108, 111, 103] : List UInt8)
      · rw [if_pos c6] at H
        have c6b0 : (a0.toList == ([99, 97, 116, 97, 108, 111, 103] : List UInt8)) = true := beq_iff_eq.mpr c6
        have c6b1 : (a0.toList != ([99, 97, 116, 97, 108, 111, 103] : List UInt8)) = false := bne_eq_false_iff_eq.mpr c6
        clear c6
        obtain rfl := Option.some.inj H
        go_enter Try.func10, Try.ntmps10
        go_wp2_with (first | ((with_reducible refine gate_callee (f := 6) rfl ?_); refine goesL_ (some 7) rfl rfl Try.func6 (by kernel_rfl) rfl #[.string a0] rfl (by (try simp only [List.map_toArray, List.map_cons, List.map_nil]); first | done | rfl | (simp only [List.length_drop, List.length_take]; rfl)) ?_; (with_reducible refine (name_Number.calls k a0 t106 false _ A2.out).mono ?_); rintro e w' ⟨rfl, ⟨nd, rfl⟩⟩; refine ⟨_, rfl, ?_⟩) | ((with_reducible refine gate_callee (f := 8) rfl ?_); refine goesL_ (some 12) rfl rfl Try.func8 (by kernel_rfl) rfl #[.string a0] rfl (by (try simp only [List.map_toArray, List.map_cons, List.map_nil]); first | done | rfl | (simp only [List.length_drop, List.length_take]; rfl)) ?_; (with_reducible refine (name_May.calls k a0 true _ A3.out).mono ?_); rintro e w' ⟨rfl, ⟨nd, rfl⟩⟩; refine ⟨_, rfl, ?_⟩))
        go_ret
        exact ⟨by first | rfl | (simp; done) | (simp [*]; done), by repeat (first | exact Drawn0.refl _ | apply Drawn0.step)⟩
      · rw [if_neg c6] at H
        have c6b0 : (a0.toList == ([99, 97, 116, 97, 108, 111, 103] : List UInt8)) = false := beq_eq_false_iff_ne.mpr c6
        have c6b1 : (a0.toList != ([99, 97, 116, 97, 108, 111, 103] : List UInt8)) = true := bne_iff_ne.mpr c6
        by_cases c7 : a0.toList = ([99, 97, 116, 97, 108, 111, 103, 45, 110, 101, 120, 116] : List UInt8)
        · rw [if_pos c7] at H
          have c7b0 : (a0.toList == ([99, 97, 116, 97, 108, 111, 103, 45, 110, 101, 120, 116] : List UInt8)) = true := beq_iff_eq.mpr c7
          have c7b1 : (a0.toList != ([99, 97, 116, 97, 108, 111, 103, 45, 110, 101, 120, 116] : List UInt8)) = false := bne_eq_false_iff_eq.mpr c7
          clear c7
          obtain rfl := Option.some.inj H
          go_enter Try.func10, Try.ntmps10
          go_wp2_with (first | ((with_reducible refine gate_callee (f := 6) rfl ?_); refine goesL_ (some 7) rfl rfl Try.func6 (by kernel_rfl) rfl #[.string a0] rfl (by (try simp only [List.map_toArray, List.map_cons, List.map_nil]); first | done | rfl | (simp only [List.length_drop, List.length_take]; rfl)) ?_; (with_reducible refine (name_Number.calls k a0 t106 false _ A2.out).mono ?_); rintro e w' ⟨rfl, ⟨nd, rfl⟩⟩; refine ⟨_, rfl, ?_⟩) | ((with_reducible refine gate_callee (f := 8) rfl ?_); refine goesL_ (some 12) rfl rfl Try.func8 (by kernel_rfl) rfl #[.string a0] rfl (by (try simp only [List.map_toArray, List.map_cons, List.map_nil]); first | done | rfl | (simp only [List.length_drop, List.length_take]; rfl)) ?_; (with_reducible refine (name_May.calls k a0 true _ A3.out).mono ?_); rintro e w' ⟨rfl, ⟨nd, rfl⟩⟩; refine ⟨_, rfl, ?_⟩))
          go_ret
          exact ⟨by first | rfl | (simp; done) | (simp [*]; done), by repeat (first | exact Drawn0.refl _ | apply Drawn0.step)⟩
        · rw [if_neg c7] at H
          have c7b0 : (a0.toList == ([99, 97, 116, 97, 108, 111, 103, 45, 110, 101, 120, 116] : List UInt8)) = false := beq_eq_false_iff_ne.mpr c7
          have c7b1 : (a0.toList != ([99, 97, 116, 97, 108, 111, 103, 45, 110, 101, 120, 116] : List UInt8)) = true := bne_iff_ne.mpr c7
          by_cases c8 : a0.toList = ([115, 101, 103, 109, 101, 110, 116, 45, 110, 101, 120, 116] : List UInt8)
          · rw [if_pos c8] at H
            have c8b0 : (a0.toList == ([115, 101, 103, 109, 101, 110, 116, 45, 110, 101, 120, 116] : List UInt8)) = true := beq_iff_eq.mpr c8
            have c8b1 : (a0.toList != ([115, 101, 103, 109, 101, 110, 116, 45, 110, 101, 120, 116] : List UInt8)) = false := bne_eq_false_iff_eq.mpr c8
            clear c8
            obtain rfl := Option.some.inj H
            go_enter Try.func10, Try.ntmps10
            go_wp2_with (first | ((with_reducible refine gate_callee (f := 6) rfl ?_); refine goesL_ (some 7) rfl rfl Try.func6 (by kernel_rfl) rfl #[.string a0] rfl (by (try simp only [List.map_toArray, List.map_cons, List.map_nil]); first | done | rfl | (simp only [List.length_drop, List.length_take]; rfl)) ?_; (with_reducible refine (name_Number.calls k a0 t106 false _ A2.out).mono ?_); rintro e w' ⟨rfl, ⟨nd, rfl⟩⟩; refine ⟨_, rfl, ?_⟩) | ((with_reducible refine gate_callee (f := 8) rfl ?_); refine goesL_ (some 12) rfl rfl Try.func8 (by kernel_rfl) rfl #[.string a0] rfl (by (try simp only [List.map_toArray, List.map_cons, List.map_nil]); first | done | rfl | (simp only [List.length_drop, List.length_take]; rfl)) ?_; (with_reducible refine (name_May.calls k a0 true _ A3.out).mono ?_); rintro e w' ⟨rfl, ⟨nd, rfl⟩⟩; refine ⟨_, rfl, ?_⟩))
            go_ret
            exact ⟨by first | rfl | (simp; done) | (simp [*]; done), by repeat (first | exact Drawn0.refl _ | apply Drawn0.step)⟩
          · rw [if_neg c8] at H
            have c8b0 : (a0.toList == ([115, 101, 103, 109, 101, 110, 116, 45, 110, 101, 120, 116] : List UInt8)) = false := beq_eq_false_iff_ne.mpr c8
            have c8b1 : (a0.toList != ([115, 101, 103, 109, 101, 110, 116, 45, 110, 101, 120, 116] : List UInt8)) = true := bne_iff_ne.mpr c8
            obtain rfl := Option.some.inj H
            go_enter Try.func10, Try.ntmps10
            go_wp2_with (first | ((with_reducible refine gate_callee (f := 6) rfl ?_); refine goesL_ (some 7) rfl rfl Try.func6 (by kernel_rfl) rfl #[.string a0] rfl (by (try simp only [List.map_toArray, List.map_cons, List.map_nil]); first | done | rfl | (simp only [List.length_drop, List.length_take]; rfl)) ?_; (with_reducible refine (name_Number.calls k a0 t106 false _ A2.out).mono ?_); rintro e w' ⟨rfl, ⟨nd, rfl⟩⟩; refine ⟨_, rfl, ?_⟩) | ((with_reducible refine gate_callee (f := 8) rfl ?_); refine goesL_ (some 12) rfl rfl Try.func8 (by kernel_rfl) rfl #[.string a0] rfl (by (try simp only [List.map_toArray, List.map_cons, List.map_nil]); first | done | rfl | (simp only [List.length_drop, List.length_take]; rfl)) ?_; (with_reducible refine (name_May.calls k a0 true _ A3.out).mono ?_); rintro e w' ⟨rfl, ⟨nd, rfl⟩⟩; refine ⟨_, rfl, ?_⟩))
            go_ret
            exact ⟨by first | rfl | (simp; done) | (simp [*]; done), by repeat (first | exact Drawn0.refl _ | apply Drawn0.step)⟩
  · replace c4 := Bool.eq_false_iff.mpr c4
    subst c4
    have H1 : (some 0) = some r := by rw [if_neg (show ¬ (false = true) by decide)] at H; exact H
    clear H
    have H := H1
    clear H1
    obtain rfl := Option.some.inj H
    go_enter Try.func10, Try.ntmps10
    go_wp2_with (first | ((with_reducible refine gate_callee (f := 6) rfl ?_); refine goesL_ (some 7) rfl rfl Try.func6 (by kernel_rfl) rfl #[.string a0] rfl (by (try simp only [List.map_toArray, List.map_cons, List.map_nil]); first | done | rfl | (simp only [List.length_drop, List.length_take]; rfl)) ?_; (with_reducible refine (name_Number.calls k a0 t106 t107 _ A2.out).mono ?_); rintro e w' ⟨rfl, ⟨nd, rfl⟩⟩; refine ⟨_, rfl, ?_⟩) | ((with_reducible refine gate_callee (f := 8) rfl ?_); refine goesL_ (some 12) rfl rfl Try.func8 (by kernel_rfl) rfl #[.string a0] rfl (by (try simp only [List.map_toArray, List.map_cons, List.map_nil]); first | done | rfl | (simp only [List.length_drop, List.length_take]; rfl)) ?_; (with_reducible refine (name_May.calls k a0 false _ A3.out).mono ?_); rintro e w' ⟨rfl, ⟨nd, rfl⟩⟩; refine ⟨_, rfl, ?_⟩))
    go_ret
    exact ⟨by first | rfl | (simp; done) | (simp [*]; done), by repeat (first | exact Drawn0.refl _ | apply Drawn0.step)⟩

/-! ### name_Catalog: function 16 -/
def name_Catalog.f  : Option (ByteArray) := some (⟨#[99, 97, 116, 97, 108, 111, 103]⟩ : ByteArray)
set_option maxHeartbeats 8000000 in
set_option maxRecDepth 100000 in
theorem name_Catalog.calls  (r : ByteArray) (w : World) (h : name_Catalog.f  = some r) :
    Calls Try.prog 16 #[] w fun e w' => e = .returned (.string r) ∧ Drawn0 w w' := by
  have H : (some (⟨#[99, 97, 116, 97, 108, 111, 103]⟩ : ByteArray)) = some r := h
  clear h
  obtain rfl := Option.some.inj H
  go_enter Try.func16, Try.ntmps16
  go_wp2
  go_ret
  exact ⟨by first | rfl | (simp; done) | (simp [*]; done), by repeat (first | exact Drawn0.refl _ | apply Drawn0.step)⟩

/-! ### name_NextSegment: function 17 -/
def name_NextSegment.f  : Option (ByteArray) := some (⟨#[115, 101, 103, 109, 101, 110, 116, 45, 110, 101, 120, 116]⟩ : ByteArray)
set_option maxHeartbeats 8000000 in
set_option maxRecDepth 100000 in
theorem name_NextSegment.calls  (r : ByteArray) (w : World) (h : name_NextSegment.f  = some r) :
    Calls Try.prog 17 #[] w fun e w' => e = .returned (.string r) ∧ Drawn0 w w' := by
  have H : (some (⟨#[115, 101, 103, 109, 101, 110, 116, 45, 110, 101, 120, 116]⟩ : ByteArray)) = some r := h
  clear h
  obtain rfl := Option.some.inj H
  go_enter Try.func17, Try.ntmps17
  go_wp2
  go_ret
  exact ⟨by first | rfl | (simp; done) | (simp [*]; done), by repeat (first | exact Drawn0.refl _ | apply Drawn0.step)⟩

/-! ### name_NextCatalog: function 18 -/
def name_NextCatalog.f  : Option (ByteArray) := some (⟨#[99, 97, 116, 97, 108, 111, 103, 45, 110, 101, 120, 116]⟩ : ByteArray)
set_option maxHeartbeats 8000000 in
set_option maxRecDepth 100000 in
theorem name_NextCatalog.calls  (r : ByteArray) (w : World) (h : name_NextCatalog.f  = some r) :
    Calls Try.prog 18 #[] w fun e w' => e = .returned (.string r) ∧ Drawn0 w w' := by
  have H : (some (⟨#[99, 97, 116, 97, 108, 111, 103, 45, 110, 101, 120, 116]⟩ : ByteArray)) = some r := h
  clear h
  obtain rfl := Option.some.inj H
  go_enter Try.func18, Try.ntmps18
  go_wp2
  go_ret
  exact ⟨by first | rfl | (simp; done) | (simp [*]; done), by repeat (first | exact Drawn0.refl _ | apply Drawn0.step)⟩

end Go.Proofs.Ytooddfmjgplbjaa.QA
