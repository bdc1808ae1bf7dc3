/- Words for float64 values: a kind by their bits; what a store and the two conversions of math do in a walk. -/
import Derived.Test.YtnniljcmjcjleaaProg
import Derived.Test.YtnniljcmjcjleaaWWords
import Derived.Test.YtnniljcmjcjleaaWFoot
import Derived.Test.YtnniljcmjcjleaaWMore
import Derived.Laws.Entries
import Derived.Laws.Cover2
import Derived.KernelRfl
namespace Go.Proofs.YtnniljcmjcjleaaW.PrintWords
open Go.RowKit
namespace Kd
def fl : Kd Nat := scalar (Value.float .f64) (fun _ => rfl)
theorem at_fl {w : World} {A : Option Addr} {n : Nat} {xs : List Nat} (h : Kd.fl.C w A n xs) (i : Int) (h0 : 0 ≤ i) (h1 : i < n) : ∃ ad, A = some ad ∧ w.cell? (ad.add i.toNat) = some (.float .f64 (rdOf (0 : Nat) xs i)) :=
  ReadsOf.at_ (reads_of_C (enc := Value.float .f64) (d := (0 : Nat)) (h1 := fun _ => rfl) h) i h0 h1
theorem heap_fl : Heap Kd.fl := ⟨fun _ h => h⟩
theorem foot_fl {w : World} {ad : Addr} {n : Nat} {l : List Nat} (h : Kd.fl.C w (some ad) n l) (i : Int) (h0 : 0 ≤ i) (h1 : i < n) : w.cell? (ad.add i.toNat) = some (.float .f64 (rdOf (0 : Nat) l i)) := by
  obtain ⟨ad', he, hc⟩ := at_fl h i h0 h1
  injection he with he
  subst he
  exact hc
end Kd
theorem fl_store (P : Program) (w : World) (a : Addr) (m : Mode) (k : FloatKind) (b : Nat) : (store a (.float k b) m).run P w = stored P w a (.float k b) m := run_store P w a _ m rfl
theorem fl_bits (b : Nat) (w : World) : (callFunc 43 #[.float .f64 b]).run Try.prog w = .ok (.value (.int .u64 b)) w := by kernel_rfl
theorem fl_frombits (n : Int) (w : World) : (callFunc 10 #[.int .u64 n]).run Try.prog w = .ok (.value (.float .f64 n.toNat)) w := by kernel_rfl
theorem fl_usigned (a b : Int) : (if IntKind.u64.signed = true then a else b) = b := rfl
end Go.Proofs.YtnniljcmjcjleaaW.PrintWords
